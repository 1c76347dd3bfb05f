/- No condition. -/
import Derived.Test.YtkgpoimmniojjaaGreatZaAF
import Derived.Test.YtkgpoimmniojjaaGreatZaAH
namespace Go.Proofs.YtkgpoimmniojjaaGreat
set_option linter.unusedVariables false
set_option linter.unusedSimpArgs false
set_option maxRecDepth 100000
set_option maxHeartbeats 16000000
section
open Go.RowKit
variable {N K:Nat}
theorem tL (A:Option Addr) (n c:Nat) (id fd:Int) (w:World) (h:V w w.heap.size (.sl N 83 (aQ K)) (.slice A n c)) (hN:N<=1000000000):
  Calls Tryz.prog 161 #[.agg #[.slice A n c],.int .i64 id,.int .i64 fd] w (aV w fun _ v=>sZ K v):=by
 obtain ⟨W,hW⟩:=nm (((w.alloc (.cells #[.slice A n c] 61)).alloc (.cells #[.int .i64 0,.bool false,.string ⟨#[]⟩,.int .i64 0] 81)).alloc (.cells #[.int .i64 id,.int .i64 fd,.int .i64 0,.bool false,.string ⟨#[]⟩,.int .i64 0] 83));have HX0:Hid (aK W w.heap.size 61 #[.slice A n c]):=by subst hW;exact (((aK.new w _ _).alloc _).alloc _)
 have HX1:Hid (aK W (w.heap.size+1) 81 #[.int .i64 0,.bool false,.string ⟨#[]⟩,.int .i64 0]):=by subst hW;exact ((aK.new1 w _ _ _).alloc _)
 have HX2:Hid (aK W (w.heap.size+1+1) 83 #[.int .i64 id,.int .i64 fd,.int .i64 0,.bool false,.string ⟨#[]⟩,.int .i64 0]):=by subst hW;exact (aK.new2 w _ _ _ _)
 have HBW:Hid (Below w.heap.size w W):=by subst hW;exact (bK (bK (bK (Below.refl _ w) _) _) _)
 have H:=hD (h.bel HBW.out);have hn:=h.len_le;have HS1:Hid (w.heap.size < w.heap.size+1+1+1):=by unfold Hid;omega
 clear h;have HW:=hD hW;clear hW;go_enter Tryz.func161,Tryz.ntmps161;go_wp2_with fail;rw [HW.out];have x0:=HX0.out.c1;go_quiet (fail);go_wp2_with fail;clear x0;go_loopw [8,9] (fun i j wr=>∃ (lo hi:Nat),i=.int .i64 (lo:Int)/\j=.int .i64 (hi:Int)/\lo<=hi/\hi<=n/\Hid (Below W.heap.size W wr)) (fun i j _=>(intOf j - intOf i).toNat)
 case atStart=>exact ⟨0,n,rfl,rfl,Nat.zero_le _,Nat.le_refl _,aN (Below.refl _ _) _⟩
 case round=>
  obtain ⟨lo,hi,rfl,rfl,hle,hhi,HB⟩:=hrel;have HB2:=hD (HBW.out.trans (HB.out.mono HBW.out.size));have HY0:=hD (HX0.out.below HB.out HX0.out.lt);have HY1:=hD (HX1.out.below HB.out HX1.out.lt);have HY2:=hD (HX2.out.below HB.out HX2.out.lt);have x0:=HY0.out.c1;obtain ⟨y0,y1,y2,y3,y4,y5⟩:=HY2.out.c6;have f0:=aH x0;have fy0:=aH y0;have fy1:=aH y1;have fy2:=aH y2;have fy3:=aH y3;have fy4:=aH y4;have fy5:=aH y5;by_cases hlt:lo < hi
  ·obtain ⟨m,hm⟩:∃ m:Nat,((lo:Int)+(hi:Int)) / 2=(m:Int):=⟨(lo+hi) / 2,by omega⟩;have hm1:lo<=m:=by omega
   have hm2:m < hi:=by omega
   have hm3:m < n:=by omega
   obtain ⟨b,off,z0,z1,z2,b3,s4,z5,rfl,hb,e0,e1,e2,e3,e4,e5,i0,i1,i2,i4,i5⟩:=(H.out.bel (HB.out.mono HBW.out.size)).cell_at hm3;have r0:=aH e0;have r1:=aH e1;have r2:=aH e2;have r3:=aH e3;have r4:=aH e4;have r5:=aH e5;obtain ⟨v,hv⟩:=nm (yW z0 z1 id fd);have HAH:Hid (∀ w',Calls Tryz.prog 171 #[.agg #[.int .i64 z0,.int .i64 z1,.int .i64 z2,.bool b3,.string s4,.int .i64 z5],.agg #[.int .i64 id,.int .i64 fd,.int .i64 0,.bool false,.string ⟨#[]⟩,.int .i64 0]] w' (Gv w' (.bool v))):=fun w'=>hv ▸ nE _ _ _ _ _ _ _ _ _ _ _ _ w';have q:v=false\/v=true:=by cases v <;> simp
   clear hv hb i0 i1 i2 i4 i5;rcases q with rfl | rfl
   all_goals
    go_wp2_with fail;refine dU (by kernel_rfl) (by kernel_rfl) ?_
    repeat (go_big_quiet_step (first | (with_reducible exact sR (HAH.out _))))
    refine wpQuiet_nil ?_;intro w5 hw5;obtain ⟨⟨w5,hb5⟩,rfl⟩:=hw5;have HE:=hD (HB.out.trans (hb5.mono HB.out.size));clear hb5;go_wp2_with fail;go_roundw
    case rel=>first | exact ⟨m+1,hi,by go_num,rfl,by omega,hhi,HE⟩ | exact ⟨lo,m,rfl,congrArg _ hm,by omega,by omega,HE⟩
    case measure=>simp [intOf];omega
  ·have HZ1:Hid (w.heap.size+1 < wr.heap.size):=HY1.out.lt;have HEND:Hid (∀ w5 a b c d,Below wr.heap.size wr w5->aO a->c.size<=K->aO d->(aV w fun _ v=>sZ K v) (.returned (.agg #[.int .i64 a,.bool b,.string c,.int .i64 d])) ((((w5.setCell ⟨w.heap.size+1,0,none⟩ (.int .i64 a)).setCell ⟨w.heap.size+1,1,none⟩ (.bool b)).setCell ⟨w.heap.size+1,2,none⟩ (.string c)).setCell ⟨w.heap.size+1,3,none⟩ (.int .i64 d))):=fun w5 a b c d hb h1 h2 h3=>
    ⟨aL (aB HB2.out hb) (Nat.le_succ _) _ _ _ _,_,rfl,a,b,c,d,rfl,h1,h2,h3⟩
   by_cases hln:lo < n
   ·obtain ⟨b,off,z0,z1,z2,b3,s4,z5,rfl,hb,e0,e1,e2,e3,e4,e5,i0,i1,i2,i4,i5⟩:=(H.out.bel (HB.out.mono HBW.out.size)).cell_at hln;have r0:=aH e0;have r1:=aH e1;have r2:=aH e2;have r3:=aH e3;have r4:=aH e4;have r5:=aH e5;obtain ⟨v,hv⟩:=nm (Dc z0 z1 id fd);have HAH:Hid (∀ w',Calls Tryz.prog 172 #[.agg #[.int .i64 z0,.int .i64 z1,.int .i64 z2,.bool b3,.string s4,.int .i64 z5],.agg #[.int .i64 id,.int .i64 fd,.int .i64 0,.bool false,.string ⟨#[]⟩,.int .i64 0]] w' (Gv w' (.bool v))):=fun w'=>hv ▸ sC _ _ _ _ _ _ _ _ _ _ _ _ w';have q:v=false\/v=true:=by cases v <;> simp
    have dl:decide ((lo:Int) < (n:Int))=true:=by simp;omega
    have HI:Hid (aO z2/\s4.size<=K/\aO z5):=⟨i2,i4,i5⟩;clear hv hb i0 i1 i2 i4 i5;rcases q with rfl | rfl
    all_goals
     go_wp2_with fail;refine dU (by kernel_rfl) (by kernel_rfl) ?_
     repeat (go_big_quiet_step (first | (with_reducible exact sR (HAH.out _))))
     refine wpQuiet_nil ?_;intro w5 hw5;obtain ⟨⟨w5,hb5⟩,rfl⟩:=hw5;have HB5:=hD hb5;have HR:=hD (HY1.out.below hb5 HY1.out.lt);have HR0:=hD (HY0.out.below hb5 HY0.out.lt);clear hb5 x0 y0 y1 y2 y3 y4 y5 f0 fy0 fy1 fy2 fy3 fy4 fy5 e0 e1 e2 e3 e4 e5;have x0:=HR0.out.c1;obtain ⟨p0,p1,p2,p3⟩:=HR.out.c4;obtain ⟨q0,q1,q2,q3⟩:=HR.out.f4;have e2:=r2 ⟨w5,HB5.out⟩;have e3:=r3 ⟨w5,HB5.out⟩;have e4:=r4 ⟨w5,HB5.out⟩;have e5:=r5 ⟨w5,HB5.out⟩;simp only at e2 e3 e4 e5;clear r0 r1 r2 r3 r4 r5;go_wp2_with fail
     first
      | (refine rR (HR.out.val4 (.int .i64 z2) (.bool b3) (.string s4) (.int .i64 z5)) Tryz.underlying81 rfl rfl rfl rfl (by kernel_rfl) ?_;exact HEND.out _ _ _ _ _ HB5.out HI.out.1 HI.out.2.1 HI.out.2.2)
      | (refine rR (HR.out.val4 (.int .i64 0) (.bool false) (.string ⟨#[]⟩) (.int .i64 0)) Tryz.underlying81 rfl rfl rfl rfl (by kernel_rfl) ?_;exact HEND.out _ _ _ _ _ HB5.out (by unfold aO;omega) (Nat.zero_le _) (by unfold aO;omega))
   ·have dl:decide ((lo:Int) < (n:Int))=false:=by simp;omega
    go_wp2_with fail;go_quiet (fail);have HB5:Hid (Below wr.heap.size wr (wr.drewN nq)):=aN (Below.refl _ _) nq;have HR:=hD (HY1.out.drewN nq);obtain ⟨p0,p1,p2,p3⟩:=HR.out.c4;obtain ⟨q0,q1,q2,q3⟩:=HR.out.f4;go_wp2_with fail;refine rR (HR.out.val4 (.int .i64 0) (.bool false) (.string ⟨#[]⟩) (.int .i64 0)) Tryz.underlying81 rfl rfl rfl rfl (by kernel_rfl) ?_;exact HEND.out _ _ _ _ _ HB5.out (by unfold aO;omega) (Nat.zero_le _) (by unfold aO;omega)
theorem Aq (A:Option Addr) (n c:Nat) (id fd:Int) (w:World) (h:V w w.heap.size (.sl N 83 (aQ K)) (.slice A n c)) (hN:N<=1000000000):
  Calls Tryz.prog 140 #[.agg #[.slice A n c],.int .i64 id,.int .i64 fd] w (aV w fun _ v=>sZ K v):=by
 obtain ⟨W,hW⟩:=nm ((w.alloc (.cells #[.slice A n c] 61)).alloc (.cells #[.int .i64 0,.bool false,.string ⟨#[]⟩,.int .i64 0] 81));have HX0:Hid (aK W w.heap.size 61 #[.slice A n c]):=by subst hW;exact ((aK.new w _ _).alloc _)
 have HX1:Hid (aK W (w.heap.size+1) 81 #[.int .i64 0,.bool false,.string ⟨#[]⟩,.int .i64 0]):=by subst hW;exact (aK.new1 w _ _ _)
 have HBW:Hid (Below w.heap.size w W):=by subst hW;exact (bK (bK (Below.refl _ w) _) _)
 have HC:=hD (tL A n c id fd W (h.up HBW.out) hN);have HW:=hD hW;clear h hW;go_enter Tryz.func140,Tryz.ntmps140;go_wp2_with fail;rw [HW.out];have x0:=HX0.out.c1;go_wp2_with fail;refine (HC.out).mono ?_;rintro e w1 ⟨hb1,v,rfl,a,b,s,d,rfl,h1,h2,h3⟩;have HI:Hid (aO a/\s.size<=K/\aO d):=⟨h1,h2,h3⟩;have HR:=hD (HX1.out.below hb1 HX1.out.lt);have HB:=hD (aB HBW.out hb1);obtain ⟨p0,p1,p2,p3⟩:=HR.out.c4;obtain ⟨q0,q1,q2,q3⟩:=HR.out.f4;clear hb1 x0 h1 h2 h3 HC;go_wp2_with fail;refine rR (HR.out.val4 (.int .i64 a) (.bool b) (.string s) (.int .i64 d)) Tryz.underlying81 rfl rfl rfl rfl (by kernel_rfl) ?_;exact ⟨aL HB.out (Nat.le_succ _) _ _ _ _,_,rfl,a,b,s,d,rfl,HI.out.1,HI.out.2.1,HI.out.2.2⟩
theorem uL (A:Option Addr) (n c:Nat) (id tgt most:Int) (w:World) (h:V w w.heap.size (.sl N 83 (aQ K)) (.slice A n c)) (hN:N<=1000000000) (hm:aO most):
  Calls Tryz.prog 124 #[.agg #[.slice A n c],.int .i64 id,.int .i64 tgt,.int .i64 most] w (aV w dP):=by
 obtain ⟨W,hW⟩:=nm (w.alloc (.cells #[.slice A n c] 61));have HX0:=bk hW;have HBW:=bw hW;have HC:Hid (∀ x w',Below W.heap.size W w'->Calls Tryz.prog 140 #[.agg #[.slice A n c],.int .i64 x,.int .i64 2] w' (aV w' fun _ v=>sZ K v)):=fun x w' hb=>Aq A n c x 2 w' (h.up (aB HBW.out hb)) hN;have hm2:=hm.2;clear h hm;go_enter Tryz.func124,Tryz.ntmps124;go_wp2_with fail;have HW:=hD hW;clear hW;go_loopw [1,9] (fun x i wr=>∃ (z:Int) (k:Nat),x=.int .i64 z/\i=.int .i64 (k:Int)/\(k=0\/(k:Int)<=most)/\Hid (Below W.heap.size W wr)) (fun _ i _=>(most - intOf i).toNat)
 case atStart=>exact ⟨id,0,rfl,rfl,.inl rfl,Below.refl _ _⟩
 case round=>
  obtain ⟨z,k,rfl,rfl,hk,HB⟩:=hrel;have HKK:=hD hk;clear hk;have x0:=(HX0.out.below HB.out HX0.out.lt).c1;have HB2:=hD (HBW.out.trans (HB.out.mono HBW.out.size));by_cases hlt:(k:Int) < most
  ·go_wp2_with fail;refine (HC.out z _ HB.out).mono ?_;rintro e w1 ⟨hb1,v,rfl,a,b,s,d,rfl,-,-,-⟩;have HB3:=hD (aB HB.out hb1);have HB4:=hD (aB HB2.out hb1);have hfd:=xI a d b s;clear hb1 x0;go_wp2_with fail
   all_goals
    first
     | (go_ret;exact ⟨HB4.out,_,rfl,_,rfl⟩)
     | (go_roundw
        ·exact ⟨_,k+1,rfl,by go_num,by omega,HB3⟩
        ·simp [intOf];omega)
  ·go_wp2_with fail;go_ret;exact ⟨HB2.out,_,rfl,_,rfl⟩
theorem Bc {M:Nat} (A:Option Addr) (n c:Nat) (id fd:Int) (w:World) (h:V w w.heap.size (.sl N 154 (dD K M 152)) (.slice A n c)) (hN:N<=1000000000):
  Calls Tryz.prog 72 #[.agg #[.slice A n c],.int .i64 id,.int .i64 fd] w (aV w fun _ v=>sZ K v):=by
 obtain ⟨W,hW⟩:=nm ((w.alloc (.cells #[.slice A n c] 71)).alloc (.cells #[.int .i64 0,.bool false,.string ⟨#[]⟩,.int .i64 0] 81));have HX0:Hid (aK W w.heap.size 71 #[.slice A n c]):=by subst hW;exact ((aK.new w _ _).alloc _)
 have HX1:Hid (aK W (w.heap.size+1) 81 #[.int .i64 0,.bool false,.string ⟨#[]⟩,.int .i64 0]):=by subst hW;exact (aK.new1 w _ _ _)
 have HBW:Hid (Below w.heap.size w W):=by subst hW;exact (bK (bK (Below.refl _ w) _) _)
 have HC:=hD (pJ A n c id fd W (h.up HBW.out) hN);have HW:=hD hW;clear h hW;go_enter Tryz.func72,Tryz.ntmps72;go_wp2_with fail;rw [HW.out];have x0:=HX0.out.c1;go_wp2_with fail;refine (HC.out).mono ?_;rintro e w1 ⟨hb1,v,rfl,hv⟩;obtain ⟨A2,n2,c2,rfl,hc2,hn2⟩:=hv.sl_inv;have HV:=hD hv;have HR:=hD (HX1.out.below hb1 HX1.out.lt);have HB:=hD (aB HBW.out hb1);obtain ⟨p0,p1,p2,p3⟩:=HR.out.c4;obtain ⟨q0,q1,q2,q3⟩:=HR.out.f4;clear hb1 x0 hv HC;rcases Nat.eq_zero_or_pos n2 with rfl | h0
 ·go_wp2_with fail;refine rR (HR.out.val4 (.int .i64 0) (.bool false) (.string ⟨#[]⟩) (.int .i64 0)) Tryz.underlying81 rfl rfl rfl rfl (by kernel_rfl) ?_;exact ⟨aL HB.out (Nat.le_succ _) _ _ _ _,_,rfl,_,_,_,_,rfl,by unfold aO;omega,Nat.zero_le _,by unfold aO;omega⟩
 ·obtain ⟨b,off,z0,z1,b2,s3,z4,rfl,hb,e0,e1,e2,e3,e4,i0,i1,i3,i4⟩:=HV.out.alt_at h0;have d:((n2:Int) == 0)=false:=by simp;omega
  have HI:Hid (aO z1/\s3.size<=K/\aO z4):=⟨i1,i3,i4⟩;simp only [Nat.zero_mul,Nat.add_zero] at e0 e1 e2 e3 e4;clear i0 i1 i3 i4 hb;go_wp2_with fail;refine rR (HR.out.val4 (.int .i64 z1) (.bool b2) (.string s3) (.int .i64 z4)) Tryz.underlying81 rfl rfl rfl rfl (by kernel_rfl) ?_;exact ⟨aL HB.out (Nat.le_succ _) _ _ _ _,_,rfl,z1,b2,s3,z4,rfl,HI.out.1,HI.out.2.1,HI.out.2.2⟩
theorem zA {w:World} {r n c:Nat} {A:Option Addr} {bs:List Nat} {s:Option Nat} (h:Rd w r A n c s) (hi:fQ w r A n c bs):
  Calls Tryz.prog 45 #[.pointer (some ⟨r,0,none⟩)] w (Cb w r A n c (s.bind (cY bs))):=by
 have M0:Hid (Dr w ((w.alloc (.cells #[.int .i64 0,.int .i64 0,.int .i64 0,.bool false,.string ByteArray.empty,.int .i64 0] 83)).alloc (.cells #[.int .i64 0,.int .i64 0,.int .i64 0,.bool false,.string ByteArray.empty,.int .i64 0] 83)) r w.heap.size A n c bs s ⟨0,0,0,false,ByteArray.empty,0⟩):=by
  have hb:=aK.new w 83 #[.int .i64 0,.int .i64 0,.int .i64 0,.bool false,.string ByteArray.empty,.int .i64 0];have hlt:=h.lt;refine ⟨(h.alloc _).alloc _,(hi.alloc (by omega) _).alloc (by simp;omega) _,?_,hb.alloc _,eW (eW (World.grownBy.refl w _) _) _,Nat.le_refl _,hlt⟩;have:=aK.new (w.alloc (.cells #[.int .i64 0,.int .i64 0,.int .i64 0,.bool false,.string ByteArray.empty,.int .i64 0] 83)) 83 #[.int .i64 0,.int .i64 0,.int .i64 0,.bool false,.string ByteArray.empty,.int .i64 0];unfold Ds;simpa using this
 clear h hi;go_enter Tryz.func45,Tryz.ntmps45;go_wp2_with fail;refine (dL (M0.out).rd (M0.out).inn).mono ?_;rintro e w1 ⟨a,rfl,K1,hrd,hg⟩;replace K1:=hD K1;have N0:=hD ((M0.out).next hrd hg);have M1:=hD ((N0.out).put 0 (.int .i64 a) ⟨a,0,0,false,ByteArray.empty,0⟩ rfl);have ck:=(N0.out).box.cell 0;have fk:=(N0.out).box.frozen 0;simp at ck;clear hrd hg M0 N0;go_wp2_with fail;clear ck fk;refine (dL (M1.out).rd (M1.out).inn).mono ?_;rintro e w2 ⟨b,rfl,K2,hrd,hg⟩;replace K2:=hD K2;have N1:=hD ((M1.out).next hrd hg);have M2:=hD ((N1.out).put 1 (.int .i64 b) ⟨a,b,0,false,ByteArray.empty,0⟩ rfl);have ck:=(N1.out).box.cell 1;have fk:=(N1.out).box.frozen 1;simp at ck;clear hrd hg M1 N1;go_wp2_with fail;clear ck fk;refine (dL (M2.out).rd (M2.out).inn).mono ?_;rintro e w3 ⟨d,rfl,K3,hrd,hg⟩;replace K3:=hD K3;have N2:=hD ((M2.out).next hrd hg);have M3:=hD ((N2.out).put 2 (.int .i64 d) ⟨a,b,d,false,ByteArray.empty,0⟩ rfl);have ck:=(N2.out).box.cell 2;have fk:=(N2.out).box.frozen 2;simp at ck;clear hrd hg M2 N2;go_wp2_with fail;clear ck fk;refine (Bx (M3.out).rd (M3.out).inn).mono ?_;rintro e w4 ⟨f,rfl,K4,hrd,hg⟩;replace K4:=hD K4;have N3:=hD ((M3.out).next hrd hg);have M4:=hD ((N3.out).put 3 (.bool f) ⟨a,b,d,f,ByteArray.empty,0⟩ rfl);have ck:=(N3.out).box.cell 3;have fk:=(N3.out).box.frozen 3;simp at ck;clear hrd hg M3 N3;go_wp2_with fail;clear ck fk;refine (tS (M4.out).rd (M4.out).inn).mono ?_;rintro e w5 ⟨t,rfl,K5,hrd,hg⟩;replace K5:=hD K5;have N4:=hD ((M4.out).next hrd hg)
 have M5:=hD ((N4.out).put 4 (.string t) ⟨a,b,d,f,t,0⟩ rfl);have ck:=(N4.out).box.cell 4;have fk:=(N4.out).box.frozen 4;simp at ck;clear hrd hg M4 N4;go_wp2_with fail;clear ck fk;refine (dL (M5.out).rd (M5.out).inn).mono ?_;rintro e w6 ⟨x,rfl,K6,hrd,hg⟩;replace K6:=hD K6;have N5:=hD ((M5.out).next hrd hg);have M6:=hD ((N5.out).put 5 (.int .i64 x) ⟨a,b,d,f,t,x⟩ rfl);have c0:=(N5.out).box.cell 0;have c1:=(N5.out).box.cell 1;have c2:=(N5.out).box.cell 2;have c3:=(N5.out).box.cell 3;have c4:=(N5.out).box.cell 4;have c5:=(N5.out).box.cell 5;have fk:=(N5.out).box.frozen 5;have o0:=(N5.out).out.cell 0;have o1:=(N5.out).out.cell 1;have o2:=(N5.out).out.cell 2;have o3:=(N5.out).out.cell 3;have o4:=(N5.out).out.cell 4;have o5:=(N5.out).out.cell 5;obtain ⟨f0,f1,f2,f3,f4,f5⟩:=(N5.out).out.f6;simp at c0 c1 c2 c3 c4 c5 o0 o1 o2 o3 o4 o5;clear hrd hg M5 N5;go_wp2_with fail;clear c0 c1 c2 c3 c4 c5 o0 o1 o2 o3 o4 o5 f0 f1 f2 f3 f4 f5 fk;have FB:=((((((M6.out).out.set_ 0 (.int .i64 a)).set_ 1 (.int .i64 b)).set_ 2 (.int .i64 d)).set_ 3 (.bool f)).set_ 4 (.string t)).set_ 5 (.int .i64 x);have hn:=(M6.out).new;have ho:=(M6.out).old;have FR:=((((((M6.out).rd.far (p:=⟨w.heap.size,0,none⟩) (by show r≠w.heap.size;omega) (.int .i64 a)).far (p:=⟨w.heap.size,1,none⟩) (by show r≠w.heap.size;omega) (.int .i64 b)).far (p:=⟨w.heap.size,2,none⟩) (by show r≠w.heap.size;omega) (.int .i64 d)).far (p:=⟨w.heap.size,3,none⟩) (by show r≠w.heap.size;omega) (.bool f)).far (p:=⟨w.heap.size,4,none⟩) (by show r≠w.heap.size;omega) (.string t)).far (p:=⟨w.heap.size,5,none⟩) (by show r≠w.heap.size;omega) (.int .i64 x)
 have FG:=aW (aW (aW (aW (aW (aW (M6.out).gr (p:=⟨w.heap.size,0,none⟩) (.inr (Nat.le_refl _)) (.int .i64 a)) (p:=⟨w.heap.size,1,none⟩) (.inr (Nat.le_refl _)) (.int .i64 b)) (p:=⟨w.heap.size,2,none⟩) (.inr (Nat.le_refl _)) (.int .i64 d)) (p:=⟨w.heap.size,3,none⟩) (.inr (Nat.le_refl _)) (.bool f)) (p:=⟨w.heap.size,4,none⟩) (.inr (Nat.le_refl _)) (.string t)) (p:=⟨w.heap.size,5,none⟩) (.inr (Nat.le_refl _)) (.int .i64 x);have hch:=xO rfl (K1.out) rfl (K2.out) rfl (K3.out) rfl (K4.out) rfl (K5.out) rfl (K6.out);refine rR (cs:=#[.int .i64 a,.int .i64 b,.int .i64 d,.bool f,.string t,.int .i64 x]) FB Tryz.underlying83 rfl rfl rfl rfl (by kernel_rfl) ?_;refine ⟨⟨a,b,d,f,t,x⟩,rfl,hch.1,?_,FG⟩;rw [hch.2];exact FR
end
end Go.Proofs.YtkgpoimmniojjaaGreat
