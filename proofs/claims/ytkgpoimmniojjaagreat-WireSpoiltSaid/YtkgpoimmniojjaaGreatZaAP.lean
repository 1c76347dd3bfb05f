/- No condition. -/
import Derived.Test.YtkgpoimmniojjaaGreatZaAJ
import Derived.Test.YtkgpoimmniojjaaGreatZaAF
import Derived.BigGuardPart
import Derived.Deep.CutBlock
import Derived.Test.YtkgpoimmniojjaaGreatZaAL
namespace Go.Proofs.YtkgpoimmniojjaaGreat
set_option linter.unusedVariables false
set_option linter.unusedSimpArgs false
set_option maxRecDepth 100000
set_option maxHeartbeats 16000000
section
open Go.RowKit
variable {w:World} {K M N:Nat}
theorem kN {B:Nat} {z0:Int} {A1:Option Addr} {n1 c1:Nat} {A2:Option Addr} {n2 c2:Nat} {s3:ByteArray} {A4:Option Addr} {n4 c4:Nat} (h:dQ w B K M N z0 A1 n1 c1 A2 n2 c2 s3 A4 n4 c4):Ts w B (cL K M N 3 83) [.int .i64 z0,.slice A1 n1 c1,.slice A2 n2 c2,.string s3,.slice A4 n4 c4]:=by
 refine nU (by simp) (fun i u t hu ht=>?_);have hi:=(List.getElem?_eq_some_iff.1 hu).1
 match i,hi with
 | 0,_=>cases hu;cases ht;exact .int _ h.i0
 | 1,_=>cases hu;cases ht;exact h.v1
 | 2,_=>cases hu;cases ht;exact h.v2
 | 3,_=>cases hu;cases ht;exact .str _ _ h.s
 | 4,_=>cases hu;cases ht;exact h.v4
theorem zE (kd fd n:Int) (f:Bool) (s:ByteArray) (r:Int) (w:World) (hs:s.size<=1000000000):Calls Tryz.prog 107 #[.int .i64 kd,.int .i64 fd,.agg #[.int .i64 n,.bool f,.string s,.int .i64 r]] w (aV w dP):=by
 obtain ⟨W,hW⟩:=nm (w.alloc (.cells #[.int .i64 n,.bool f,.string s,.int .i64 r] 81));have HX0:=bk hW;have HBW:=bw hW;obtain ⟨x0,x1,x2,x3⟩:=HX0.out.c4;have HFI:=hD (pD kd fd n f s r W hs);have HW:=hD hW;clear hW;go_enter Tryz.func107,Tryz.ntmps107;go_wp2_with (rw [HW.out]);refine (HFI.out).mono ?_;rintro e w5 ⟨hb5,v,rfl,q,rfl⟩;have HB5:=hD (aB HBW.out hb5);have HR:=hD (HX0.out.below hb5 HX0.out.lt);clear hb5 x0 x1 x2 x3;obtain ⟨x0,x1,x2,x3⟩:=HR.out.c4
 cases q
 all_goals
  go_wp2_with fail
  all_goals
   go_ret;exact ⟨HB5.out,_,rfl,_,rfl⟩
theorem wQ (z0:Int) (A1:Option Addr) (n1 c1:Nat) (A2:Option Addr) (n2 c2:Nat) (s3:ByteArray) (r4:Value) (w:World) (h1:V w w.heap.size (.sl M 3 [.int]) (.slice A1 n1 c1)) (h2:V w w.heap.size (.sl M 3 [.int]) (.slice A2 n2 c2)) (hM:M<=1000000000) (h3:s3.size<=1000000000):
  Calls Tryz.prog 78 #[.agg #[.int .i64 z0,.slice A1 n1 c1,.slice A2 n2 c2,.string s3,r4]] w (aV w dP):=by
 have hn1:=h1.len_le;have hn2:=h2.len_le;obtain ⟨W,hW⟩:=nm (w.alloc (.cells #[.int .i64 z0,.slice A1 n1 c1,.slice A2 n2 c2,.string s3,r4] 39));have HX0:=bk hW;have HBW:=bw hW;have HV:Hid (∀ z w',Calls Tryz.prog 102 #[.int .i64 z] w' (Is w' (.bool (yQ z)))):=fun z w'=>dX z w';have HI1:Hid (∀ w',Below W.heap.size W w'->Calls Tryz.prog 103 #[.slice A1 n1 c1] w' (aV w' dP)):=fun w' hb=>rF A1 n1 c1 w' (h1.up (aB HBW.out hb)) hM;have HI2:Hid (∀ w',Below W.heap.size W w'->Calls Tryz.prog 103 #[.slice A2 n2 c2] w' (aV w' dP)):=fun w' hb=>rF A2 n2 c2 w' (h2.up (aB HBW.out hb)) hM;obtain ⟨l1,e1,g1⟩:=h1.il;obtain ⟨l2,e2,g2⟩:=h2.il;have HH1:Hid (∀ x w',Below W.heap.size W w'->Calls Tryz.prog 95 #[.slice A1 n1 c1,.int .i64 x] w' (qF w')):=fun x w' hb=>e1 ▸ (jP A1 c1 l1 x w' (g1.up (aB HBW.out hb)) (by omega)).mono fun e w2 h=>⟨_,h.1,h.2⟩;have HH2:Hid (∀ x w',Below W.heap.size W w'->Calls Tryz.prog 95 #[.slice A2 n2 c2,.int .i64 x] w' (qF w')):=fun x w' hb=>e2 ▸ (jP A2 c2 l2 x w' (g2.up (aB HBW.out hb)) (by omega)).mono fun e w2 h=>⟨_,h.1,h.2⟩;clear h1 h2 e1 e2 g1 g2;obtain ⟨x0,x1,x2,x3,x4⟩:=HX0.out.c5;have HW:=hD hW;clear hW;go_enter Tryz.func78,Tryz.ntmps78;go_wp2_with (rw [HW.out]);refine (HV.out _ _).mono ?_;rintro e w1 ⟨rfl,rfl⟩;generalize yQ z0=r
 cases r
 ·go_wp2_with fail;go_ret;exact ⟨HBW.out,_,rfl,_,rfl⟩
 ·go_wp2_with fail;refine (HI1.out _ (Below.refl _ _)).mono ?_;rintro e w1 ⟨hb1,v,rfl,r,rfl⟩;have HB1:Hid (Below W.heap.size W w1):=hb1;have HE1:=hD (aB HBW.out hb1);have HR1:=hD (HX0.out.below hb1 HX0.out.lt);clear hb1 x0 x1 x2 x3 x4;obtain ⟨x0,x1,x2,x3,x4⟩:=HR1.out.c5
  cases r
  ·go_wp2_with fail;go_ret;exact ⟨HE1.out,_,rfl,_,rfl⟩
  ·go_wp2_with fail;refine (HI2.out _ HB1.out).mono ?_;rintro e w2 ⟨hb2,v,rfl,r,rfl⟩;have HB2:=hD (aB HB1.out hb2);have HE2:=hD (aB HE1.out hb2);have HR2:=hD (HR1.out.below hb2 HR1.out.lt);clear hb2 x0 x1 x2 x3 x4 HR1 HB1 HE1;obtain ⟨x0,x1,x2,x3,x4⟩:=HR2.out.c5
   cases r
   ·go_wp2_with fail;go_ret;exact ⟨HE2.out,_,rfl,_,rfl⟩
   ·go_wp2_with fail
    repeat' (first
     | (go_ret;exact ⟨HE2.out,_,rfl,_,rfl⟩)
     | (go_loop [3] (fun i=>∃ (m:Nat),i=.int .i64 (m:Int)/\m<=s3.size) (fun i=>s3.size - (intOf i).toNat);case atStart=>exact ⟨0,rfl,Nat.zero_le _⟩
        case round=>
         obtain ⟨m,rfl,hm⟩:=hrel;by_cases hlm:m < s3.size
         ·go_wp2_with fail
          all_goals
           first
            | (go_ret;exact ⟨HE2.out,_,rfl,_,rfl⟩)
            | (go_round
               ·exact ⟨m+1,by go_num,by omega⟩
               ·simp [intOf];omega)
         ·go_wp2_with fail;go_ret;exact ⟨HE2.out,_,rfl,_,rfl⟩)
     | ((with_reducible refine (HH1.out _ _ HB2.out).mono ?_);rintro e w1 ⟨r2,rfl,rfl⟩;cases r2 <;> go_wp2_with fail)
     | ((with_reducible refine (HH2.out _ _ HB2.out).mono ?_);rintro e w1 ⟨r2,rfl,rfl⟩;cases r2 <;> go_wp2_with fail))
theorem aJ.write {base n c k i:Nat} {e:TypeId} {fs:List Ty} {b off:Nat} {t:Ty} {u:Value} (h:aJ w base e fs (.slice (some ⟨b,off,none⟩) n c) n) (hk:k < n) (hi:fs[i]?=some t) (hu:V w w.heap.size t u) (he:Ty.hasAny e fs=false):
  aJ (w.setCell ⟨b,off+(k*fs.length+i),none⟩ u) base e fs (.slice (some ⟨b,off,none⟩) n c) n/\aR w (w.setCell ⟨b,off+(k*fs.length+i),none⟩ u) (.slice (some ⟨b,off,none⟩) n c) (.slice (some ⟨b,off,none⟩) n c):=by
 obtain ⟨xs,ho,hT⟩:=h;rcases ho.2 with ⟨h1,-⟩ | ⟨g,cap,cur,h1,hbase,hh,h2,h3,h4,h5⟩
 ·cases h1
 ·injection h1 with e1 e2 e3;injection e1 with e1;injection e1 with e4 e5;subst e4 e5 e3;have hil:=(List.getElem?_eq_some_iff.1 hi).1;have hkn:k*fs.length+i < n*fs.length:=by
   have:(k+1)*fs.length<=n*fs.length:=Nat.mul_le_mul_right _ hk;rw [Nat.add_mul] at this;omega
  have hcn:n*fs.length<=c*fs.length:=Nat.mul_le_mul_right _ h2;have hblk:aK w b e cur:=hh;have hset:=hblk.set_ (k*fs.length+i) u;rw [Nat.zero_add];have hg:aR w (w.setCell ⟨b,k*fs.length+i,none⟩ u) (.slice (some ⟨b,0,none⟩) n c) (.slice (some ⟨b,0,none⟩) n c):=
   ⟨aW (p:=⟨b,k*fs.length+i,none⟩) (World.grownBy.refl w _) (.inl rfl) u,fun g hg=>.inl hg⟩
  refine ⟨⟨xs.set (k*fs.length+i) u,⟨by rw [List.length_set];exact ho.1,.inr ⟨b,c,_,rfl,hbase,hset,h2,h3,by simpa using h4,?_⟩⟩,fun j u' t' hu' ht'=>?_⟩,hg⟩
  ·rw [Array.toList_setIfInBounds,List.take_set,h5]
  ·rw [List.getElem?_set] at hu';have hgr:∀ {t:Ty} {v:Value},V w w.heap.size t v->t.has e=false->V (w.setCell ⟨b,k*fs.length+i,none⟩ u) (w.setCell ⟨b,k*fs.length+i,none⟩ u).heap.size t v:=fun hv ht=>(hv.grows (Nat.le_refl _) hg ho ht).more hg.size
   split at hu'
   ·rename_i hj;subst hj
    split at hu'
    ·injection hu' with hu';subst hu';rw [Nat.add_comm,Nat.add_mul_mod_self_right,Nat.mod_eq_of_lt hil,hi] at ht';injection ht' with ht';subst ht';exact hgr hu (Ty.hasAny_at he hi)
    ·cases hu'
   ·exact hgr (hT j u' t' hu' ht') (Ty.hasAny_at he ht')
theorem uG (A:Option Addr) (n c:Nat) (w:World) (h:V w w.heap.size (.sl N 83 (aQ K)) (.slice A n c)) (hN:N<=1000000000):
  Calls Tryz.prog 75 #[.slice A n c] w (aV w fun w' v=>V w' w'.heap.size (.sl N 83 (aQ K)) v):=by
 have H:=hD h;have hn:=h.len_le;clear h;go_enter Tryz.func75,Tryz.ntmps75;go_wp2_with (at_builtin;refine pV (kC K) rfl rfl w.heap.size _ _ rfl (aJ.empty w _ _ w.heap.size (Nat.le_refl _)) N w.heap.size _ A n c rfl (H.out.bel ((Below.refl _ w).alloc (Nat.le_refl _) _)) (by simp) (by omega) (by simp) ?_);intro A3 c3 w3 hown3 hg3 hb3;have HO3:Hid (aJ w3 w.heap.size 83 (aQ K) (.slice A3 n c3) n):=by unfold Hid;simpa using hown3
 have HB3:Hid (Below w.heap.size w w3):=((Below.refl _ w).alloc (Nat.le_refl _) _).trans hb3;clear hown3 hg3 hb3;go_wp2_with fail;go_loopw [4] (fun i wr=>∃ (k:Nat),i=.int .i64 (k:Int)/\k<=n/\Hid (aJ wr w.heap.size 83 (aQ K) (.slice A3 n c3) n)/\Hid (Below w.heap.size w wr)) (fun i _=>n - (intOf i).toNat)
 case atStart=>exact ⟨0,rfl,Nat.zero_le _,HO3,HB3⟩
 case round=>
  obtain ⟨k,rfl,hk,HO,HB⟩:=hrel;by_cases hlt:k < n
  ·obtain ⟨b,off,z0,z1,z2,b3,s4,z5,rfl,hb,e0,e1,e2,e3,e4,e5,i0,i1,i2,i4,i5⟩:=((HO.out.v_ (N:=N) hn)).cell_at hlt;have HBN:Hid (w.heap.size<=b):=HO.out.from_ b rfl;have q1:(z1 == 2)=true\/(z1 == 2)=false:=by cases z1 == 2 <;> simp
   rcases q1 with q1 | q1
   ·obtain ⟨xs,ho,-⟩:=HO.out;have hfr:∀ i,wr.frozen? ⟨b,i,none⟩=false:=fun i=>by
     rcases ho.2 with ⟨h1,-⟩ | ⟨g,cap,cur,h1,-,hh,-⟩
     ·cases h1
     ·injection h1 with h1;injection h1 with h1;injection h1 with h1;subst h1;exact aK.frozen hh i
    have f2:=hfr (off+k*6+2);have f3:=hfr (off+k*6+3);have f4:=hfr (off+k*6+4);have f5:=hfr (off+k*6+5);have W1:=HO.out.write (k:=k) (i:=2) (u:=.int .i64 0) hlt rfl (.int _ (by unfold aO;omega)) rfl;have W2:=W1.1.write (k:=k) (i:=3) (u:=.bool false) hlt rfl (.bool _) rfl;have W3:=W2.1.write (k:=k) (i:=4) (u:=.string ⟨#[]⟩) hlt rfl (.str _ _ (Nat.zero_le _)) rfl;have W4:=W3.1.write (k:=k) (i:=5) (u:=.int .i64 0) hlt rfl (.int _ (by unfold aO;omega)) rfl;have HOn:=hD W4.1;have HBn:Hid (Below w.heap.size w _):=(((HB.out.grown W1.2.grown HB.out.size (fun g e=>HO.out.from_ g e)).grown W2.2.grown (by simpa [World.setCell] using HB.out.size) (fun g e=>HO.out.from_ g e)).grown W3.2.grown (by simpa [World.setCell] using HB.out.size) (fun g e=>HO.out.from_ g e)).grown W4.2.grown (by simpa [World.setCell] using HB.out.size) (fun g e=>HO.out.from_ g e);clear hb i0 i1 i2 i4 i5 hfr ho W1 W2 W3 W4;go_wp2_with fail;exact ⟨⟨k+1,by go_num,by omega,HOn,HBn⟩,by simp [intOf];omega⟩
   ·clear hb i0 i1 i2 i4 i5;go_wp2_with fail;go_roundw
    case rel=>exact ⟨k+1,by go_num,by omega,HO,HB⟩
    case measure=>simp [intOf];omega
  ·have HE:=hD (HO.out.v_ (N:=N) hn);go_wp2_with fail;go_ret;exact ⟨HB.out,_,rfl,HE.out⟩
end
end Go.Proofs.YtkgpoimmniojjaaGreat
