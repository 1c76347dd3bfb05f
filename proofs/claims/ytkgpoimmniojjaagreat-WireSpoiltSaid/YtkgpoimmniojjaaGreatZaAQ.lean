/- No condition. -/
import Derived.Test.YtkgpoimmniojjaaGreatZaAJ
import Derived.BigGuardPart
import Derived.Deep.CutBlock
import Derived.Test.YtkgpoimmniojjaaGreatZaAI
namespace Go.Proofs.YtkgpoimmniojjaaGreat
set_option linter.unusedVariables false
set_option maxRecDepth 100000
set_option linter.unusedSimpArgs false
set_option maxHeartbeats 16000000
section
open Go.RowKit
variable {N K L M:Nat}
def DR (w:World) (A:Option Addr) (id fd:Int) (k:Nat):Prop:=∃ b off,A=some ⟨b,off,none⟩/\w.cell? ⟨b,off+k*6,none⟩=some (.int .i64 id)/\w.cell? ⟨b,off+k*6+1,none⟩=some (.int .i64 fd)
theorem yZ (A:Option Addr) (n c:Nat) (id fd:Int) (w:World) (h:V w w.heap.size (.sl N 83 (aQ K)) (.slice A n c)) (hN:N<=1000000000):
  ∃ r:Bool,∀ w',Below w.heap.size w w'->Calls Tryz.prog 105 #[.slice A n c,.int .i64 id,.int .i64 fd] w' (fun e w2=>Below w'.heap.size w' w2/\∃ a f s d,e=.returned (.tuple #[.agg #[.int .i64 a,.bool f,.string s,.int .i64 d],.bool r])/\aO a/\s.size<=K/\aO d):=by
 have hr:∃ r:Bool,(r=true↔∃ k,k < n/\DR w A id fd k):=by
  by_cases hx:∃ k,k < n/\DR w A id fd k
  ·exact ⟨true,by simp [hx]⟩
  ·exact ⟨false,by simpa using hx⟩
 obtain ⟨r,hr⟩:=hr;refine ⟨r,fun w' hb0=>?_⟩;obtain ⟨W,hW⟩:=nm (w'.alloc (.cells #[.int .i64 0,.bool false,.string ⟨#[]⟩,.int .i64 0] 81));have HX:Hid (aK W w'.heap.size 81 #[.int .i64 0,.bool false,.string ⟨#[]⟩,.int .i64 0]):=by subst hW;exact aK.new w' _ _
 have HBW:Hid (Below w'.heap.size w' W):=by subst hW;exact bK (Below.refl _ w') _
 have HB0:=hD hb0;have H:=hD h;have HRR:=hD hr;have hn:=h.len_le;have HW:=hD hW;clear h hr hW hb0;go_enter Tryz.func105,Tryz.ntmps105;go_wp2_with fail;rw [HW.out];go_loopw [8] (fun i wr=>∃ (k:Nat),i=.int .i64 ((k:Int) - 1)/\k<=n/\Hid (Below W.heap.size W wr)/\Hid (∀ j,k<=j->j < n->¬ DR w A id fd j)) (fun i _=>(intOf i+1).toNat)
 case atStart=>exact ⟨n,by go_num,Nat.le_refl _,Below.refl _ _,fun j h1 h2=>by omega⟩
 case round=>
  obtain ⟨k,rfl,hk,HB,HNO⟩:=hrel;have HB2:=hD (HBW.out.trans (HB.out.mono HBW.out.size));have HB3:=hD (aB HB0.out HB2.out);have HX2:Hid (aK wr w'.heap.size 81 #[.int .i64 0,.bool false,.string ⟨#[]⟩,.int .i64 0]):=HX.out.below HB.out HX.out.lt;obtain ⟨y0,y1,y2,y3⟩:=HX2.out.c4;obtain ⟨x0,x1,x2,x3⟩:=HX2.out.f4;rcases k with _ | k
  ·have HF:Hid (r=false):=by
    cases hrr:r with
    | false=>rfl
    | true=>
     obtain ⟨j,hj,hh⟩:=HRR.out.1 hrr;exact absurd hh (HNO.out j (Nat.zero_le _) hj)
   go_wp2_with fail;refine bodyPost_ret (dK (P:=Tryz.prog) rfl _ _ w'.heap.size 81 #[.int .i64 0,.bool false,.string ⟨#[]⟩,.int .i64 0] (0,0) _ rfl (HX2.out.val4 (.int .i64 0) (.bool false) (.string ⟨#[]⟩) (.int .i64 0)) Tryz.underlying81 rfl (by kernel_rfl)) rfl ?_;rw [HF.out];exact ⟨aL HB2.out (Nat.le_refl _) _ _ _ _,_,_,_,_,rfl,by unfold aO;omega,Nat.zero_le _,by unfold aO;omega⟩
  ·have hlt:k < n:=by omega
   obtain ⟨b,off,z0,z1,z2,b3,s4,z5,rfl,hb,g0,g1,g2,g3,g4,g5,i0,i1,i2,i4,i5⟩:=H.out.cell_at hlt;have e0:=(HB3.out.cell (p:=⟨b,off+k*6,none⟩) hb).trans g0;have e1:=(HB3.out.cell (p:=⟨b,off+k*6+1,none⟩) hb).trans g1;have e2:=(HB3.out.cell (p:=⟨b,off+k*6+2,none⟩) hb).trans g2;have e3:=(HB3.out.cell (p:=⟨b,off+k*6+3,none⟩) hb).trans g3;have e4:=(HB3.out.cell (p:=⟨b,off+k*6+4,none⟩) hb).trans g4;have e5:=(HB3.out.cell (p:=⟨b,off+k*6+5,none⟩) hb).trans g5;have HV:Hid (aO z2/\s4.size<=K/\aO z5):=⟨i2,i4,i5⟩;have FM:=hD (HX2.out.val4 (.int .i64 z2) (.bool b3) (.string s4) (.int .i64 z5));have HG:Hid (w.cell? ⟨b,off+k*6,none⟩=some (.int .i64 z0)/\w.cell? ⟨b,off+k*6+1,none⟩=some (.int .i64 z1)):=⟨g0,g1⟩;clear hb i0 i1 i2 i4 i5 g0 g1 g2 g3 g4 g5;by_cases hid:z0=id/\z1=fd
   ·obtain ⟨rfl,rfl⟩:=hid;have HF:Hid (r=true):=HRR.out.2 ⟨k,hlt,b,off,rfl,HG.out.1,HG.out.2⟩;go_wp2_with fail;refine bodyPost_ret (dK (P:=Tryz.prog) rfl _ _ w'.heap.size 81 #[.int .i64 z2,.bool b3,.string s4,.int .i64 z5] (0,0) _ rfl FM.out Tryz.underlying81 rfl (by kernel_rfl)) rfl ?_;rw [HF.out];exact ⟨aL HB2.out (Nat.le_refl _) _ _ _ _,_,_,_,_,rfl,HV.out.1,HV.out.2.1,HV.out.2.2⟩
   ·have HN2:Hid (∀ j,k<=j->j < n->¬ DR w (some ⟨b,off,none⟩) id fd j):=fun j h1 h2 hh=>by
     rcases Nat.lt_or_ge k j with h3 | h3
     ·exact HNO.out j h3 h2 hh
     ·obtain rfl:j=k:=by omega
      obtain ⟨b',off',e9,q0,q1⟩:=hh;injection e9 with e9;injection e9 with e8 e7;subst e8 e7;rw [HG.out.1] at q0;rw [HG.out.2] at q1;injection q0 with q0;injection q0 with _ q0;injection q1 with q1;injection q1 with _ q1;exact hid ⟨q0,q1⟩
    have d:(z0 == id)=false\/((z0 == id)=true/\(z1 == fd)=false):=by
     by_cases h1:z0=id
     ·right;simp [h1];intro e;exact hid ⟨h1,e⟩
     ·left;simpa using h1
    clear hid;rcases d with d | ⟨d,d'⟩
    all_goals
     go_wp2_with fail;go_roundw
     ·exact ⟨k,by go_num,by omega,HB,HN2⟩
     ·simp [intOf]
theorem vY {M B:Nat} (z0:Int) (A1:Option Addr) (n1 c1:Nat) (A2:Option Addr) (n2 c2:Nat) (s3:ByteArray) (A4:Option Addr) (n4 c4:Nat) (id fd:Int) (w:World) (h:V w w.heap.size (.sl N 83 (aQ K)) (.slice A4 n4 c4)) (hN:N<=1000000000):
  ∃ r:Bool,∀ w',Below w.heap.size w w'->Calls Tryz.prog 96 #[.agg #[.int .i64 z0,.slice A1 n1 c1,.slice A2 n2 c2,.string s3,.slice A4 n4 c4],.int .i64 id,.int .i64 fd] w' (Gv w' (.bool r)):=by
 obtain ⟨r,hr⟩:=yZ A4 n4 c4 id fd w h hN;refine ⟨r,fun w' hb0=>?_⟩;obtain ⟨W,hW⟩:=nm (w'.alloc (.cells #[.int .i64 z0,.slice A1 n1 c1,.slice A2 n2 c2,.string s3,.slice A4 n4 c4] 39));have HX:Hid (aK W w'.heap.size 39 #[.int .i64 z0,.slice A1 n1 c1,.slice A2 n2 c2,.string s3,.slice A4 n4 c4]):=by subst hW;exact aK.new w' _ _
 have HBW:Hid (Below w'.heap.size w' W):=by subst hW;exact bK (Below.refl _ w') _
 have HC:=hD (hr W (aB hb0 HBW.out));have HW:=hD hW;clear h hr hb0 hW;go_enter Tryz.func96,Tryz.ntmps96;go_wp2_with fail;rw [HW.out];obtain ⟨x0,x1,x2,x3,x4⟩:=HX.out.c5;go_wp2_with fail;refine (HC.out).mono ?_;rintro e w1 ⟨hb1,a,f,s,d,rfl,-,-,-⟩;have HB:=hD (aB HBW.out hb1);clear hb1;go_wp2_with fail;go_ret;exact ⟨rfl,by repeat (first | exact HB.out | refine bK ?_ _ | refine cC ?_)⟩
theorem zY (A:Option Addr) (n c:Nat) (w:World) (h:V w w.heap.size (.sl L 39 (cL K M N 3 83)) (.slice A n c)) (hL:L<=1000) (hN:N<=1000000000):
  Calls Tryz.prog 34 #[.slice A n c,.int .i64 1] w (fun e w'=>∃ z,e=.returned (.int .i64 z)/\0<=z/\z<=4194304/\w=w'):=by
 have H:=hD h;have hn:=h.len_le;clear h;go_enter Tryz.func34,Tryz.ntmps34;go_wp2_with fail
 go_loop [5,6] (fun x i=>∃ (k:Nat) (z:Int),k<=n/\i=.int .i64 (k:Int)/\x=.int .i64 z/\0<=z/\z<=4194304) (fun _ i=>n - (intOf i).toNat)
 case atStart=>exact ⟨0,_,Nat.zero_le _,rfl,rfl,by decide,by decide⟩
 case round=>
  obtain ⟨k,z,hk,rfl,rfl,hz0,hz1⟩:=hrel;by_cases hlt:k < n
  ·obtain ⟨b,off,z0,A1,n1,c1,A2,n2,c2,s3,A4,n4,c4,rfl,-,e0,e1,e2,e3,e4,i0,v1,v2,i3,v4⟩:=H.out.com_at hlt;have HV:=hD v4;have hn4:=v4.len_le;clear v1 v2 i3 v4 e1 e2 e3 i0;go_upto_if 23 with fail;go_cut [5] (fun x wq=>∃ z:Int,x=.int .i64 z/\0<=z/\z<=4194304/\Hid (wq=w))
   case first=>
    by_cases q:z0 / 1048576=1
    ·have d:(z0 / 1048576 == 1)=true:=by simpa using q
     have hb:z0<=4194304:=by omega
     clear q;go_wp2_with fail
     all_goals
      go_meet;exact ⟨_,rfl,by omega,by omega,rfl⟩
    ·have d:(z0 / 1048576 == 1)=false:=by simpa using q
     clear q;go_wp2_with fail;go_meet;exact ⟨_,rfl,by omega,by omega,rfl⟩
   case rest=>
    obtain ⟨z,rfl,hz0,hz1,HQ⟩:=hcut;have hq:=HQ.out;clear HQ;subst hq;go_wp2_with fail
    go_loop [5,7] (fun x i=>∃ (j:Nat) (z:Int),j<=n4/\i=.int .i64 (j:Int)/\x=.int .i64 z/\0<=z/\z<=4194304) (fun _ i=>n4 - (intOf i).toNat)
    case atStart=>exact ⟨0,z,Nat.zero_le _,rfl,rfl,hz0,hz1⟩
    case round=>
     obtain ⟨j,z,hj,rfl,rfl,hz0,hz1⟩:=hrel;by_cases hlj:j < n4
     ·obtain ⟨b',off',y0,y1,y2,b3,s4,y5,rfl,-,g0,-⟩:=HV.out.cell_at hlj;by_cases q:y0 / 1048576=1
      ·have d:(y0 / 1048576 == 1)=true:=by simpa using q
       have hb:y0<=4194304:=by omega
       clear q;go_wp2_with fail
       all_goals
        first
         | exact ⟨⟨j+1,_,by omega,by go_num,rfl,by omega,by omega⟩,by simp [intOf];omega⟩
         | (go_round
            ·exact ⟨j+1,_,by omega,by go_num,rfl,by omega,by omega⟩
            ·simp [intOf];omega)
      ·have d:(y0 / 1048576 == 1)=false:=by simpa using q
       clear q;go_wp2_with fail
       go_round
       ·exact ⟨j+1,_,by omega,by go_num,rfl,by omega,by omega⟩
       ·simp [intOf];omega
     ·go_wp2_with fail
      go_round
      ·exact ⟨k+1,_,by omega,by go_num,rfl,by omega,by omega⟩
      ·simp [intOf];omega
  ·go_wp2_with fail;go_ret;exact ⟨_,rfl,hz0,hz1,rfl⟩
theorem zX (A:Option Addr) (n c:Nat) (w:World) (h:V w w.heap.size (.sl L 39 (cL K M N 3 83)) (.slice A n c)) (hL:L<=1000) (hN:N<=1000000000):
  Calls Tryz.prog 34 #[.slice A n c,.int .i64 2] w (fun e w'=>∃ z,e=.returned (.int .i64 z)/\0<=z/\z<=4194304/\w=w'):=by
 have H:=hD h;have hn:=h.len_le;clear h;go_enter Tryz.func34,Tryz.ntmps34;go_wp2_with fail
 go_loop [5,6] (fun x i=>∃ (k:Nat) (z:Int),k<=n/\i=.int .i64 (k:Int)/\x=.int .i64 z/\0<=z/\z<=4194304) (fun _ i=>n - (intOf i).toNat)
 case atStart=>exact ⟨0,_,Nat.zero_le _,rfl,rfl,by decide,by decide⟩
 case round=>
  obtain ⟨k,z,hk,rfl,rfl,hz0,hz1⟩:=hrel;by_cases hlt:k < n
  ·obtain ⟨b,off,z0,A1,n1,c1,A2,n2,c2,s3,A4,n4,c4,rfl,-,e0,e1,e2,e3,e4,i0,v1,v2,i3,v4⟩:=H.out.com_at hlt;have HV:=hD v4;have hn4:=v4.len_le;clear v1 v2 i3 v4 e1 e2 e3 i0;go_upto_if 23 with fail;go_cut [5] (fun x wq=>∃ z:Int,x=.int .i64 z/\0<=z/\z<=4194304/\Hid (wq=w))
   case first=>
    by_cases q:z0 / 1048576=2
    ·have d:(z0 / 1048576 == 2)=true:=by simpa using q
     have hb:z0<=4194304:=by omega
     clear q;go_wp2_with fail
     all_goals
      go_meet;exact ⟨_,rfl,by omega,by omega,rfl⟩
    ·have d:(z0 / 1048576 == 2)=false:=by simpa using q
     clear q;go_wp2_with fail;go_meet;exact ⟨_,rfl,by omega,by omega,rfl⟩
   case rest=>
    obtain ⟨z,rfl,hz0,hz1,HQ⟩:=hcut;have hq:=HQ.out;clear HQ;subst hq;go_wp2_with fail
    go_loop [5,7] (fun x i=>∃ (j:Nat) (z:Int),j<=n4/\i=.int .i64 (j:Int)/\x=.int .i64 z/\0<=z/\z<=4194304) (fun _ i=>n4 - (intOf i).toNat)
    case atStart=>exact ⟨0,z,Nat.zero_le _,rfl,rfl,hz0,hz1⟩
    case round=>
     obtain ⟨j,z,hj,rfl,rfl,hz0,hz1⟩:=hrel;by_cases hlj:j < n4
     ·obtain ⟨b',off',y0,y1,y2,b3,s4,y5,rfl,-,g0,-⟩:=HV.out.cell_at hlj;by_cases q:y0 / 1048576=2
      ·have d:(y0 / 1048576 == 2)=true:=by simpa using q
       have hb:y0<=4194304:=by omega
       clear q;go_wp2_with fail
       all_goals
        first
         | exact ⟨⟨j+1,_,by omega,by go_num,rfl,by omega,by omega⟩,by simp [intOf];omega⟩
         | (go_round
            ·exact ⟨j+1,_,by omega,by go_num,rfl,by omega,by omega⟩
            ·simp [intOf];omega)
      ·have d:(y0 / 1048576 == 2)=false:=by simpa using q
       clear q;go_wp2_with fail
       go_round
       ·exact ⟨j+1,_,by omega,by go_num,rfl,by omega,by omega⟩
       ·simp [intOf];omega
     ·go_wp2_with fail
      go_round
      ·exact ⟨k+1,_,by omega,by go_num,rfl,by omega,by omega⟩
      ·simp [intOf];omega
  ·go_wp2_with fail;go_ret;exact ⟨_,rfl,hz0,hz1,rfl⟩
theorem zW (A:Option Addr) (n c:Nat) (w:World) (h:V w w.heap.size (.sl L 39 (cL K M N 3 83)) (.slice A n c)) (hL:L<=1000) (hN:N<=1000000000):
  Calls Tryz.prog 34 #[.slice A n c,.int .i64 3] w (fun e w'=>∃ z,e=.returned (.int .i64 z)/\0<=z/\z<=4194304/\w=w'):=by
 have H:=hD h;have hn:=h.len_le;clear h;go_enter Tryz.func34,Tryz.ntmps34;go_wp2_with fail
 go_loop [5,6] (fun x i=>∃ (k:Nat) (z:Int),k<=n/\i=.int .i64 (k:Int)/\x=.int .i64 z/\0<=z/\z<=4194304) (fun _ i=>n - (intOf i).toNat)
 case atStart=>exact ⟨0,_,Nat.zero_le _,rfl,rfl,by decide,by decide⟩
 case round=>
  obtain ⟨k,z,hk,rfl,rfl,hz0,hz1⟩:=hrel;by_cases hlt:k < n
  ·obtain ⟨b,off,z0,A1,n1,c1,A2,n2,c2,s3,A4,n4,c4,rfl,-,e0,e1,e2,e3,e4,i0,v1,v2,i3,v4⟩:=H.out.com_at hlt;have HV:=hD v4;have hn4:=v4.len_le;clear v1 v2 i3 v4 e1 e2 e3 i0;go_upto_if 23 with fail;go_cut [5] (fun x wq=>∃ z:Int,x=.int .i64 z/\0<=z/\z<=4194304/\Hid (wq=w))
   case first=>
    by_cases q:z0 / 1048576=3
    ·have d:(z0 / 1048576 == 3)=true:=by simpa using q
     have hb:z0<=4194304:=by omega
     clear q;go_wp2_with fail
     all_goals
      go_meet;exact ⟨_,rfl,by omega,by omega,rfl⟩
    ·have d:(z0 / 1048576 == 3)=false:=by simpa using q
     clear q;go_wp2_with fail;go_meet;exact ⟨_,rfl,by omega,by omega,rfl⟩
   case rest=>
    obtain ⟨z,rfl,hz0,hz1,HQ⟩:=hcut;have hq:=HQ.out;clear HQ;subst hq;go_wp2_with fail
    go_loop [5,7] (fun x i=>∃ (j:Nat) (z:Int),j<=n4/\i=.int .i64 (j:Int)/\x=.int .i64 z/\0<=z/\z<=4194304) (fun _ i=>n4 - (intOf i).toNat)
    case atStart=>exact ⟨0,z,Nat.zero_le _,rfl,rfl,hz0,hz1⟩
    case round=>
     obtain ⟨j,z,hj,rfl,rfl,hz0,hz1⟩:=hrel;by_cases hlj:j < n4
     ·obtain ⟨b',off',y0,y1,y2,b3,s4,y5,rfl,-,g0,-⟩:=HV.out.cell_at hlj;by_cases q:y0 / 1048576=3
      ·have d:(y0 / 1048576 == 3)=true:=by simpa using q
       have hb:y0<=4194304:=by omega
       clear q;go_wp2_with fail
       all_goals
        first
         | exact ⟨⟨j+1,_,by omega,by go_num,rfl,by omega,by omega⟩,by simp [intOf];omega⟩
         | (go_round
            ·exact ⟨j+1,_,by omega,by go_num,rfl,by omega,by omega⟩
            ·simp [intOf];omega)
      ·have d:(y0 / 1048576 == 3)=false:=by simpa using q
       clear q;go_wp2_with fail
       go_round
       ·exact ⟨j+1,_,by omega,by go_num,rfl,by omega,by omega⟩
       ·simp [intOf];omega
     ·go_wp2_with fail
      go_round
      ·exact ⟨k+1,_,by omega,by go_num,rfl,by omega,by omega⟩
      ·simp [intOf];omega
  ·go_wp2_with fail;go_ret;exact ⟨_,rfl,hz0,hz1,rfl⟩
theorem xT (A:Option Addr) (n c:Nat) (a b:Int) (w:World) (h:V w w.heap.size (.sl L 39 (cL K M N 3 83)) (.slice A n c)) (hL:L<=1000) (hM:M<=1000) (hb:aO b):
  Calls Tryz.prog 62 #[.slice A n c,.int .i64 a,.int .i64 b] w (aV w dP):=by
 by_cases hab:a=b
 ·subst hab;go_enter Tryz.func62,Tryz.ntmps62;go_wp2_with fail;go_ret;exact ⟨Below.refl _ _,_,rfl,_,rfl⟩
 ·have d:(a != b)=true:=by simpa using hab
  obtain ⟨W,hW⟩:=nm (w.alloc (.cells #[.int .i64 b] 3));have HBW:=bw hW;have HV:Hid (V W W.heap.size (.sl 1 3 [.int]) (.slice (some ⟨w.heap.size,0,none⟩) 1 1)):=by
   subst hW;exact (V.new (e:=3) (vals:=[.int .i64 b]) (m:=1) rfl (eE hb) (by omega)).more (by simp)
  have HC:=hD (gN A n c (some ⟨w.heap.size,0,none⟩) 1 1 W (h.up HBW.out) hL hM HV.out (by omega));clear h hab hb;go_enter Tryz.func62,Tryz.ntmps62;go_wp2_with fail;have HW:=hD hW;clear hW;refine (HC.out).mono ?_;rintro e w1 ⟨hb1,v,rfl,hv⟩;obtain ⟨A2,n2,c2,rfl,hc2,hn2⟩:=hv.sl_inv;obtain ⟨l,hl,hil⟩:=hv.il;subst hl;have HB:=hD (aB HBW.out hb1);have HH:=hD (jP A2 c2 l a w1 hil (by omega));clear hb1 hv hil HC;go_wp2_with fail;refine (HH.out).mono ?_;rintro e w2 ⟨rfl,rfl⟩;go_wp2_with fail;go_ret;exact ⟨HB.out,_,rfl,_,rfl⟩
theorem AW {N2:Nat} (A:Option Addr) (n c:Nat) (A2:Option Addr) (n2 c2:Nat) (w:World) (h:V w w.heap.size (.sl L 39 (cL K M N 3 83)) (.slice A n c)) (hL:L<=1000) (hM:M<=1000) (h2:V w w.heap.size (.sl N2 3 [.int]) (.slice A2 n2 c2)) (hN2:N2<=1000):
  Calls Tryz.prog 32 #[.slice A n c,.slice A2 n2 c2] w (aV w fun w' v=>V w' w'.heap.size (.sl N2 3 [.int]) v):=by
 obtain ⟨ss,hss⟩:=qN h;have hn2:=h2.len_le;have HFC:Hid (∀ x w',Below w.heap.size w w'->Calls Tryz.prog 61 #[.slice A n c,.int .i64 x] w' (aV w' (pT w' K M N ss x))):=fun x w' hb=>vK A n c ss x w' (h.up hb) (by omega) (hss.bel (B:=w.heap.size) (fun b off e h0=>by
  obtain ⟨b',off',e1,hb,-⟩:=h.at_ (k:=0) h0 (by simp);rw [e1] at e;injection e with e;injection e with e2 _;omega) hb)
 have HBC:Hid (∀ x y w',aO y->Below w.heap.size w w'->Calls Tryz.prog 62 #[.slice A n c,.int .i64 x,.int .i64 y] w' (aV w' dP)):=fun x y w' hy hb=>xT A n c x y w' (h.up hb) hL hM hy;have H2:=hD h2;clear h hss h2;go_enter Tryz.func32,Tryz.ntmps32;go_wp2_with fail;go_loopw [5,6] (fun o i wr=>∃ (k m:Nat) (A':Option Addr) (c':Nat),k<=n2/\m<=k/\i=.int .i64 (k:Int)/\o=.slice A' m c'/\Hid (V wr wr.heap.size (.sl m 3 [.int]) (.slice A' m c'))/\Hid (Below w.heap.size w wr)) (fun _ i _=>n2 - (intOf i).toNat)
 case atStart=>exact ⟨0,0,none,0,Nat.zero_le _,Nat.zero_le _,rfl,rfl,V.nil _ _ _ _ _,Below.refl _ _⟩
 case round=>
  obtain ⟨k,m,A',c',hk,hm,rfl,rfl,HO,HB⟩:=hrel;by_cases hlt:k < n2
  ·obtain ⟨b,off,z,rfl,hb,e0,i0⟩:=(H2.out.bel HB.out).int_at hlt;have HI:=hD i0;clear hb i0;go_wp2_with fail;refine (HFC.out z _ HB.out).mono ?_;rintro e w1 ⟨hb1,v,rfl,z0,B1,k1,d1,B2,k2,d2,s3,B4,k4,d4,ok,rfl,hc,hok⟩;obtain ⟨W1,hW1⟩:=nm (w1.alloc (.cells #[.int .i64 z0,.slice B1 k1 d1,.slice B2 k2 d2,.string s3,.slice B4 k4 d4] 39));have HB1:Hid (Below wr.heap.size wr W1):=by subst hW1;exact bK hb1 _
   have HBW:=hD (aB HB.out HB1.out);have HO1:=hD (HO.out.up HB1.out);have HW1:=hD hW1;clear hb1 hc hok hW1 e0 HO;go_wp2_with fail;rw [HW1.out];go_loopw [8,9] (fun q j wq=>∃ (ok:Bool) (t:Nat),q=.bool ok/\j=.int .i64 (t:Int)/\t<=n2/\Hid (Below W1.heap.size W1 wq)) (fun _ j _=>n2 - (intOf j).toNat)
   case atStart=>exact ⟨ok,0,rfl,rfl,Nat.zero_le _,Below.refl _ _⟩
   case round=>
    obtain ⟨ok',t,rfl,rfl,ht,HBq⟩:=hrel;have HBQ:=hD (aB HBW.out HBq.out)
    cases ok' with
    | false=>
     have HE:=hD (HO1.out.up HBq.out);go_wp2_with fail;go_roundw
     case rel=>exact ⟨k+1,m,A',c',by omega,by omega,by go_num,rfl,HE,HBQ⟩
     case measure=>simp [intOf];omega
    | true=>
     obtain ⟨b',off',z',e9,-,e0,iz⟩:=(H2.out.bel HBQ.out).int_at hlt;injection e9 with e9;injection e9 with e8 e7;subst e8 e7;have HIZ:=hD iz;clear iz;by_cases hlt2:t < n2
     ·obtain ⟨b',off',y,e9,-,g0,iy⟩:=(H2.out.bel HBQ.out).int_at hlt2;injection e9 with e9;injection e9 with e8 e7;subst e8 e7;have HCB:=hD (HBC.out z' y wr.drew iy (cC HBQ.out));have HBD:Hid (Below W1.heap.size W1 wr.drew):=cC HBq.out;clear iy;go_wp2_with fail;refine fE 9 (by kernel_rfl) (by kernel_rfl) _ rfl ?_;simp only [List.take_succ_cons,List.take_zero,List.drop_succ_cons,List.drop_zero]
      repeat (go_big_quiet_step (fail))
      refine wpQuiet_nil ?_;go_wp2_with fail;refine (HCB.out).mono ?_;rintro e w2 ⟨hb2,v,rfl,q,rfl⟩;have HB2:=hD (aB HBD.out hb2);clear hb2
      cases q
      all_goals
       go_wp2_with fail;go_roundw
       ·first | exact ⟨true,t+1,rfl,by go_num,by omega,HB2⟩ | exact ⟨false,t+1,rfl,by go_num,by omega,HB2⟩
       ·simp [intOf];omega
     ·obtain ⟨l,hl,hil⟩:=(HO1.out.up HBq.out).il;subst hl;have HPC:=hD (yO A' c' l z' wr hil (by omega) HIZ.out);clear hil;go_wp2_with fail;refine (HPC.out).mono ?_;rintro e w5 ⟨hb5,v,rfl,A5,c5,l5,rfl,hil5,-,hlen5,-⟩;have HB5:=hD (aB HBQ.out hb5);have HE:=hD (hil5.v (Nat.le_refl _));obtain ⟨m5,hm5⟩:=nm l5.length;rw [hm5] at HE ⊢;have hm6:m5<=l.length+1:=by omega
      clear hb5 hil5 hlen5 hm5;go_wp2_with fail;go_roundw
      case rel=>exact ⟨k+1,m5,A5,c5,by omega,by omega,by go_num,rfl,HE,HB5⟩
      case measure=>simp [intOf];omega
  ·have HE:=hD (HO.out.wide (n':=N2) (by omega));go_wp2_with fail;go_ret;exact ⟨HB.out,_,rfl,HE.out⟩
end
section
open Go.ChangeShapes Go.WideShapes Go.ChangeAt Go.RowKit Go.Deep
variable {w w':World} {A:Option Addr} {n:Nat}
structure CX where
 c:bY
 A1:Option Addr
 c1:Nat
 A2:Option Addr
 c2:Nat
 A3:Option Addr
 c3:Nat
instance:Inhabited CX:=⟨⟨eS,none,0,none,0,none,0⟩⟩
instance:Inhabited bG:=⟨⟨0,0,0,false,ByteArray.empty,0⟩⟩
def lO (x:CX):List Value:=[.int .i64 x.c.stamp,.slice x.A1 x.c.parents.length x.c1,.slice x.A2 x.c.picks.length x.c2,.string x.c.note,.slice x.A3 x.c.writes.length x.c3]
structure iM (w:World) (x:CX):Prop where
 ok:x.c.ok
 r1:aG w w.heap.size 1 x.A1 x.c.parents.length (x.c.parents.map (Value.int .i64))
 r2:aG w w.heap.size 1 x.A2 x.c.picks.length (x.c.picks.map (Value.int .i64))
 r3:aG w w.heap.size 6 x.A3 x.c.writes.length (x.c.writes.flatMap bG.vals)
 l1:x.c.parents.length<=140737488351232
 l2:x.c.picks.length<=140737488351232
 l3:x.c.writes.length<=140737488351232
 l4:x.c.note.size<=140737488351232
 l5:∀ y∈x.c.writes,y.text.size<=140737488351232
structure lV (w:World) (A:Option Addr) (n:Nat) (xs:List CX):Prop where
 len:xs.length=n
 cells:aG w w.heap.size 5 A n (xs.flatMap lO)
 good:∀ x∈xs,iM w x
theorem iM.is {x:CX} (h:iM w x):jF w w.heap.size (.agg #[.int .i64 x.c.stamp,.slice x.A1 x.c.parents.length x.c1,.slice x.A2 x.c.picks.length x.c2,.string x.c.note,.slice x.A3 x.c.writes.length x.c3]) x.c:=
 ⟨_,_,_,_,_,_,rfl,h.r1,h.r2,h.r3⟩
theorem iM.up {x:CX} (h:iM w x) (hb:Below w.heap.size w w'):iM w' x:=
 ⟨h.ok,(h.r1.below hb).more hb.size,(h.r2.below hb).more hb.size,(h.r3.below hb).more hb.size,h.l1,h.l2,h.l3,h.l4,h.l5⟩
theorem lV.up {xs:List CX} (h:lV w A n xs) (hb:Below w.heap.size w w'):lV w' A n xs:=
 ⟨h.len,(h.cells.below hb).more hb.size,fun x hx=>(h.good x hx).up hb⟩
theorem nM {xs:List CX} (h:lV w A n xs) {k:Nat} {x:CX} (hk:xs[k]?=some x):∃ ab ao,A=some ⟨ab,ao,none⟩/\ab < w.heap.size/\w.cell? ⟨ab,ao+k*5,none⟩=some (.int .i64 x.c.stamp)/\w.cell? ⟨ab,ao+k*5+1,none⟩=some (.slice x.A1 x.c.parents.length x.c1)/\
  w.cell? ⟨ab,ao+k*5+2,none⟩=some (.slice x.A2 x.c.picks.length x.c2)/\w.cell? ⟨ab,ao+k*5+3,none⟩=some (.string x.c.note)/\w.cell? ⟨ab,ao+k*5+4,none⟩=some (.slice x.A3 x.c.writes.length x.c3):=by
 have hkl:=(List.getElem?_eq_some_iff.1 hk).1;have hlen:=h.len;obtain ⟨ab,ao,e,hb,hc⟩:=h.cells.head (by omega) (by omega);have fl:∀ x:CX,(lO x).length=5:=fun _=>rfl;refine ⟨ab,ao,e,hb,?_,?_,?_,?_,?_⟩
 ·exact hc (k*5) _ (dN fl xs k 0 x hk (by omega))
 ·have:=hc (k*5+1) _ (dN fl xs k 1 x hk (by omega));rwa [<- Nat.add_assoc] at this
 ·have:=hc (k*5+2) _ (dN fl xs k 2 x hk (by omega));rwa [<- Nat.add_assoc] at this
 ·have:=hc (k*5+3) _ (dN fl xs k 3 x hk (by omega));rwa [<- Nat.add_assoc] at this
 ·have:=hc (k*5+4) _ (dN fl xs k 4 x hk (by omega));rwa [<- Nat.add_assoc] at this
end
end Go.Proofs.YtkgpoimmniojjaaGreat
