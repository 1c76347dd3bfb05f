/- No condition. -/
import Derived.Test.YtkgpoimmniojjaaGreatZaAP
import Derived.Test.YtkgpoimmniojjaaGreatZaAE
import Derived.Test.YtkgpoimmniojjaaGreatZaAF
import Derived.Test.YtkgpoimmniojjaaGreatZaAD
import Derived.Test.YtkgpoimmniojjaaGreatZaAO
import Derived.Test.YtkgpoimmniojjaaGreatZaAQ
namespace Go.Proofs.YtkgpoimmniojjaaGreat
set_option linter.unusedVariables false
set_option linter.unusedSimpArgs false
set_option maxRecDepth 100000
set_option maxHeartbeats 16000000
section
open Go.RowKit
variable {s:Option Nat} {w w3:World} {lo r N K M N2 lo' n c:Nat} {bs:List Nat} {x:CX} {A:Option Addr} {u:Value}
theorem vI (A:Option Addr) (n c:Nat) (z0:Int) (A1:Option Addr) (n1 c1:Nat) (A2:Option Addr) (n2 c2:Nat) (s3:ByteArray) (A4:Option Addr) (n4 c4:Nat) (x0 x1 x2:Int) (x3:Bool) (x4:ByteArray) (x5:Int) (w:World) (h:V w w.heap.size (.sl N 154 (dD K M 152)) (.slice A n c)) (hN:N<=1000000000) (h4:V w w.heap.size (.sl N2 83 (aQ K)) (.slice A4 n4 c4)) (hN2:N2<=1000000000) (hs:x4.size<=1000000000):
  Calls Tryz.prog 80 #[.agg #[.slice A n c],.agg #[.int .i64 z0,.slice A1 n1 c1,.slice A2 n2 c2,.string s3,.slice A4 n4 c4],.agg #[.int .i64 x0,.int .i64 x1,.int .i64 x2,.bool x3,.string x4,.int .i64 x5]] w (aV w jC):=by
 obtain ⟨W,hW⟩:=nm (((w.alloc (.cells #[.slice A n c] 71)).alloc (.cells #[.int .i64 z0,.slice A1 n1 c1,.slice A2 n2 c2,.string s3,.slice A4 n4 c4] 39)).alloc (.cells #[.int .i64 x0,.int .i64 x1,.int .i64 x2,.bool x3,.string x4,.int .i64 x5] 83));have HX0:Hid (aK W w.heap.size 71 #[.slice A n c]):=by subst hW;exact (((aK.new w _ _).alloc _).alloc _)
 have HX1:Hid (aK W (w.heap.size+1) 39 #[.int .i64 z0,.slice A1 n1 c1,.slice A2 n2 c2,.string s3,.slice A4 n4 c4]):=by subst hW;exact ((aK.new1 w _ _ _).alloc _)
 have HX2:Hid (aK W (w.heap.size+1+1) 83 #[.int .i64 x0,.int .i64 x1,.int .i64 x2,.bool x3,.string x4,.int .i64 x5]):=by subst hW;exact (aK.new2 w _ _ _ _)
 have HBW:Hid (Below w.heap.size w W):=by subst hW;exact (bK (bK (bK (Below.refl _ w) _) _) _)
 have HV:Hid (∀ z w',Calls Tryz.prog 102 #[.int .i64 z] w' (Is w' (.bool (yQ z)))):=fun z w'=>dX z w';have HF:Hid (∀ z w',Calls Tryz.prog 104 #[.int .i64 z] w' (Is w' (.bool (C9 z)))):=fun z w'=>vB z w';have HK:=hD (jA A n c x0 W (h.up HBW.out) hN);have HKO:Hid (∀ w',Below W.heap.size W w'->Calls Tryz.prog 106 #[.agg #[.slice A n c],.slice A4 n4 c4,.int .i64 x0] w' (aV w' jC)):=fun w' hb=>xB A n c A4 n4 c4 x0 w' (h.up (aB HBW.out hb)) hN (h4.up (aB HBW.out hb)) hN2;have HWR:Hid (∀ y w',Below W.heap.size W w'->Calls Tryz.prog 105 #[.slice A4 n4 c4,.int .i64 x0,.int .i64 y] w' (aV w' (Dm K))):=fun y w' hb=>mQ A4 n4 c4 x0 y w' (h4.up (aB HBW.out hb)) hN2;have HSU:Hid (∀ k f n s b r w',b.size<=1000000000->Calls Tryz.prog 107 #[.int .i64 k,.int .i64 f,.agg #[.int .i64 n,.bool s,.string b,.int .i64 r]] w' (aV w' dP)):=fun k f n s b r w' hb=>zE k f n s b r w' hb;have HS:=hD hs;clear h h4 hs;have p0:=HX0.out.c1;obtain ⟨q0,q1,q2,q3,q4⟩:=HX1.out.c5;obtain ⟨r0,r1,r2,r3,r4,r5⟩:=HX2.out.c6;have HW:=hD hW;clear hW;go_enter Tryz.func80,Tryz.ntmps80;go_wp2_with (rw [HW.out])
 repeat' (first
  | (go_ret;exact ⟨HBW.out,_,rfl,_,rfl,by unfold aO;omega⟩)
  | ((with_reducible refine (HV.out _ _).mono ?_);rintro e w1 ⟨rfl,rfl⟩;generalize yQ _=r2;cases r2 <;> go_wp2_with fail)
  | ((with_reducible refine (HF.out _ _).mono ?_);rintro e w1 ⟨rfl,rfl⟩;generalize C9 _=r2;cases r2 <;> go_wp2_with fail))
 (with_reducible refine (HK.out).mono ?_);rintro e w5 ⟨hb5,v,rfl,old,rfl,hold⟩;have HB5:Hid (Below W.heap.size W w5):=hb5;have HE5:=hD (aB HBW.out hb5);have HR0:=hD (HX0.out.below hb5 HX0.out.lt);have HR1:=hD (HX1.out.below hb5 HX1.out.lt);have HR2:=hD (HX2.out.below hb5 HX2.out.lt);clear hb5 hold p0 q0 q1 q2 q3 q4 r0 r1 r2 r3 r4 r5;have p0:=HR0.out.c1;obtain ⟨q0,q1,q2,q3,q4⟩:=HR1.out.c5;obtain ⟨r0,r1,r2,r3,r4,r5⟩:=HR2.out.c6;go_wp2_with fail
 all_goals try (go_ret;exact ⟨HE5.out,_,rfl,_,rfl,by unfold aO;omega⟩)
 repeat' (first
  | ((with_reducible refine (HWR.out _ _ HB5.out).mono ?_);rintro e w6 ⟨hb6,v,rfl,a,f,s,d,t,rfl,-⟩;have HE6:=hD (aB HE5.out hb6);clear hb6;cases t;all_goals
      go_wp2_with fail;have HE7:Hid (Below w.heap.size w w6):=HE6;go_ret;exact ⟨by repeat (first | exact HE7.out | refine bK ?_ _),_,rfl,_,rfl,by unfold aO;omega⟩)
  | ((with_reducible refine (HKO.out _ HB5.out).mono ?_);rintro e w6 ⟨hb6,v,rfl,kd,rfl,hkd⟩;have HE6:=hD (aB HE5.out hb6);have HQ2:=hD (HR2.out.below hb6 HR2.out.lt);clear hb6 hkd p0 q0 q1 q2 q3 q4 r0 r1 r2 r3 r4 r5;obtain ⟨r0,r1,r2,r3,r4,r5⟩:=HQ2.out.c6;go_wp2_with fail;all_goals try (go_ret;exact ⟨HE6.out,_,rfl,_,rfl,by unfold aO;omega⟩)
     (with_reducible refine (HSU.out _ _ _ _ _ _ _ HS.out).mono ?_);rintro e w7 ⟨hb7,v,rfl,t,rfl⟩;have HE7:=hD (aB HE6.out hb7);clear hb7
     cases t
     all_goals
      go_wp2_with fail;go_ret;exact ⟨HE7.out,_,rfl,_,rfl,by unfold aO;omega⟩))
theorem xH {N1:Nat} (A:Option Addr) (n c:Nat) (zz:Int) (A1:Option Addr) (n1 c1:Nat) (A2:Option Addr) (n2 c2:Nat) (s3:ByteArray) (A4:Option Addr) (n4 c4:Nat) (w:World) (h:V w w.heap.size (.sl N 154 (dD K M 152)) (.slice A n c)) (hN:N<=1000000000) (h1:V w w.heap.size (.sl N1 3 [.int]) (.slice A1 n1 c1)) (h2:V w w.heap.size (.sl N1 3 [.int]) (.slice A2 n2 c2)) (hN1:N1<=1000000000) (h3:s3.size<=1000000000) (h4:V w w.heap.size (.sl N2 83 (aQ K)) (.slice A4 n4 c4)) (hN2:N2<=1000000000) (hK:K<=1000000000):
  Calls Tryz.prog 36 #[.agg #[.slice A n c],.agg #[.int .i64 zz,.slice A1 n1 c1,.slice A2 n2 c2,.string s3,.slice A4 n4 c4]] w (aV w jC):=by
 have hn4:=h4.len_le;obtain ⟨W,hW⟩:=nm ((w.alloc (.cells #[.slice A n c] 71)).alloc (.cells #[.int .i64 zz,.slice A1 n1 c1,.slice A2 n2 c2,.string s3,.slice A4 n4 c4] 39));have HX0:Hid (aK W w.heap.size 71 #[.slice A n c]):=by subst hW;exact ((aK.new w _ _).alloc _)
 have HX1:Hid (aK W (w.heap.size+1) 39 #[.int .i64 zz,.slice A1 n1 c1,.slice A2 n2 c2,.string s3,.slice A4 n4 c4]):=by subst hW;exact (aK.new1 w _ _ _)
 have HBW:Hid (Below w.heap.size w W):=by subst hW;exact (bK (bK (Below.refl _ w) _) _)
 have HP:=hD (wQ zz A1 n1 c1 A2 n2 c2 s3 (.slice A4 n4 c4) W (h1.up HBW.out) (h2.up HBW.out) hN1 h3);have HO:Hid (∀ w',Below W.heap.size W w'->Calls Tryz.prog 79 #[.slice A4 n4 c4] w' (aV w' dP)):=fun w' hb=>uR A4 n4 c4 w' (h4.up (aB HBW.out hb)) hN2;have HF:Hid (∀ x0 x1 x2 x3 x4 x5 w',Below W.heap.size W w'->x4.size<=K->Calls Tryz.prog 80 #[.agg #[.slice A n c],.agg #[.int .i64 zz,.slice A1 n1 c1,.slice A2 n2 c2,.string s3,.slice A4 n4 c4],.agg #[.int .i64 x0,.int .i64 x1,.int .i64 x2,.bool x3,.string x4,.int .i64 x5]] w' (aV w' jC)):=fun x0 x1 x2 x3 x4 x5 w' hb hs=>vI A n c zz A1 n1 c1 A2 n2 c2 s3 A4 n4 c4 x0 x1 x2 x3 x4 x5 w' (h.up (aB HBW.out hb)) hN (h4.up (aB HBW.out hb)) hN2 (Nat.le_trans hs hK);have H:=hD (h4.up HBW.out);clear h h1 h2 h4;have p0:=HX0.out.c1;obtain ⟨q0,q1,q2,q3,q4⟩:=HX1.out.c5;have HW:=hD hW;clear hW;go_enter Tryz.func36,Tryz.ntmps36;go_wp2_with (rw [HW.out]);(with_reducible refine (HP.out).mono ?_);rintro e w1 ⟨hb1,v,rfl,r,rfl⟩;have HB1:Hid (Below W.heap.size W w1):=hb1;have HE1:=hD (aB HBW.out hb1);have HR0:=hD (HX0.out.below hb1 HX0.out.lt);have HR1:=hD (HX1.out.below hb1 HX1.out.lt);clear hb1 p0 q0 q1 q2 q3 q4;have p0:=HR0.out.c1;obtain ⟨q0,q1,q2,q3,q4⟩:=HR1.out.c5
 cases r
 ·go_wp2_with fail;go_ret;exact ⟨HE1.out,_,rfl,_,rfl,by unfold aO;omega⟩
 ·go_wp2_with fail;(with_reducible refine (HO.out _ HB1.out).mono ?_);rintro e w2 ⟨hb2,v,rfl,r,rfl⟩;have HB2:=hD (aB HB1.out hb2);have HE2:=hD (aB HE1.out hb2);clear hb2 p0 q0 q1 q2 q3 q4 HR0 HR1 HB1 HE1
  cases r
  ·go_wp2_with fail;go_ret;exact ⟨HE2.out,_,rfl,_,rfl,by unfold aO;omega⟩
  ·go_wp2_with fail;go_loopw [5] (fun i wr=>∃ (k:Nat),i=.int .i64 (k:Int)/\k<=n4/\Hid (Below W.heap.size W wr)) (fun i _=>n4 - (intOf i).toNat)
   case atStart=>exact ⟨0,rfl,Nat.zero_le _,HB2⟩
   case round=>
    obtain ⟨k,rfl,hk,HB⟩:=hrel;have HE:=hD (HBW.out.trans (HB.out.mono HBW.out.size));have HY0:=hD (HX0.out.below HB.out HX0.out.lt);have HY1:=hD (HX1.out.below HB.out HX1.out.lt);have p0:=HY0.out.c1;obtain ⟨q0,q1,q2,q3,q4⟩:=HY1.out.c5;by_cases hlt:k < n4
    ·obtain ⟨b,off,z0,z1,z2,b3,s4,z5,rfl,-,e0,e1,e2,e3,e4,e5,i0,i1,i2,i4,i5⟩:=(H.out.bel HB.out).cell_at hlt;have HS:=hD i4;clear i0 i1 i2 i4 i5;have fp0:=aH p0;have fq0:=aH q0;have fq1:=aH q1;have fq2:=aH q2;have fq3:=aH q3;have fq4:=aH q4;have fe0:=aH e0;have fe1:=aH e1;have fe2:=aH e2;have fe3:=aH e3;have fe4:=aH e4;have fe5:=aH e5;have HFF:Hid (∀ x:jS wr,Calls Tryz.prog 80 #[.agg #[.slice A n c],.agg #[.int .i64 zz,.slice A1 n1 c1,.slice A2 n2 c2,.string s3,.slice (some ⟨b,off,none⟩) n4 c4],.agg #[.int .i64 z0,.int .i64 z1,.int .i64 z2,.bool b3,.string s4,.int .i64 z5]] x.nx (aV x.nx jC)):=fun x=>HF.out z0 z1 z2 b3 s4 z5 x.nx (aB HB.out x.bel) HS.out;go_wp2_with fail;refine fW 7 (by kernel_rfl) (by kernel_rfl) (by kernel_rfl) ?_;simp only [List.take_succ_cons,List.take_zero,List.drop_succ_cons,List.drop_zero]
     repeat (go_big_quiet_step (fail))
     refine wpQuiet_nil ?_;refine iZ rfl 80 _ _ rfl Tryz.func80 rfl (by kernel_rfl) #[.agg #[.slice A n c],.agg #[.int .i64 zz,.slice A1 n1 c1,.slice A2 n2 c2,.string s3,.slice (some ⟨b,off,none⟩) n4 c4],.agg #[.int .i64 z0,.int .i64 z1,.int .i64 z2,.bool b3,.string s4,.int .i64 z5]] (by simp [Act.eval]) (fun v=>∃ z,v=.int .i64 z/\aO z) ⟨_,0,rfl,by unfold aO;omega⟩ (fun x=>(HFF.out x).mono fun e w6 ⟨hb6,v6,he,z6,hv6⟩=>⟨v6,he,⟨z6,hv6⟩,hb6⟩) ?_;rintro v6 ⟨z6,rfl,hz6⟩;simp only [sP]
     repeat (go_big_quiet_step (fail))
     refine wpQuiet_nil ?_;intro w5 hw5;obtain ⟨⟨w5,hb5⟩,rfl⟩:=hw5;have HB5:=hD (aB HB.out hb5);have HE5:=hD (aB HE.out hb5);have HZ6:=hD hz6;clear fp0 fq0 fq1 fq2 fq3 fq4 fe0 fe1 fe2 fe3 fe4 fe5 hb5 p0 q0 q1 q2 q3 q4 e0 e1 e2 e3 e4 e5 hz6;go_wp2_with fail
     all_goals
      first
       | (go_ret;exact ⟨HE5.out,_,rfl,_,rfl,HZ6.out⟩)
       | (go_roundw
          ·exact ⟨k+1,by go_num,by omega,HB5⟩
          ·simp [intOf];omega)
       | exact ⟨⟨k+1,by go_num,by omega,HB5⟩,by simp [intOf];omega⟩
    ·go_wp2_with fail;go_ret;exact ⟨HE.out,_,rfl,_,rfl,by unfold aO;omega⟩
section
variable {bs:List Nat} {p q:Nat}
theorem fZ {x:Int} (h:bC bs p=some (x,q)):gD x:=(kX bs p x q h).1
theorem AY (l:List Nat):(str l).size=l.length:=by
 show (l.map UInt8.ofNat).toArray.size=l.length;simp
theorem qL {t:ByteArray} (h:cI bs p=some (t,q)):t.size<=bs.length:=by
 unfold cI at h
 split at h
 ·cases h
 ·split at h
  ·cases h
  ·injection h with h;injection h with h1 h2;rw [<- h1,AY,List.length_take,List.length_drop];omega
theorem rM {y:bG} (h:cY bs p=some (y,q)):y.ok/\y.text.size<=bs.length:=by
 unfold cY at h;obtain ⟨⟨x1,q1⟩,h1,h⟩:=Option.bind_eq_some_iff.1 h;obtain ⟨⟨x2,q2⟩,h2,h⟩:=Option.bind_eq_some_iff.1 h;obtain ⟨⟨x3,q3⟩,h3,h⟩:=Option.bind_eq_some_iff.1 h;obtain ⟨⟨x4,q4⟩,h4,h⟩:=Option.bind_eq_some_iff.1 h;obtain ⟨⟨x5,q5⟩,h5,h⟩:=Option.bind_eq_some_iff.1 h;obtain ⟨⟨x6,q6⟩,h6,e⟩:=Option.map_eq_some_iff.1 h;injection e with e1 e2;subst e1;exact ⟨⟨fZ h1,fZ h2,fZ h3,fZ h6⟩,qL h5⟩
theorem rC {α:Type} {f:Nat->Option (α × Nat)}:∀ (k p:Nat) (l:List α) (q:Nat),bX f k p=some (l,q)->∀ x∈l,∃ p q,f p=some (x,q)
 | 0,p,l,q,h=>by
  injection h with h;injection h with h;subst h;exact fun x hx=>by cases hx
 | k+1,p,l,q,h=>by
  rw [bX] at h;obtain ⟨y,hy,h⟩:=Option.bind_eq_some_iff.1 h;obtain ⟨z,hz,e⟩:=Option.map_eq_some_iff.1 h;injection e with e1 e2;subst e1;intro x hx;rcases List.mem_cons.1 hx with rfl | hx
  ·exact ⟨p,y.2,hy⟩
  ·exact rC k y.2 z.1 z.2 hz x hx
theorem jO {α:Type} {f:Nat->Option (α × Nat)} {l:List α} (h:bW f bs p=some (l,q)):l.length<=bs.length/\∀ x∈l,∃ p q,f p=some (x,q):=by
 unfold bW at h;obtain ⟨⟨m,q1⟩,hc,h⟩:=Option.bind_eq_some_iff.1 h;refine ⟨?_,rC m q1 l q h⟩;rw [rB m q1 l q h];unfold cV at hc;obtain ⟨⟨z,q2⟩,hz,hc⟩:=Option.bind_eq_some_iff.1 hc
 split at hc
 ·cases hc
 ·injection hc with hc;injection hc with c1 c2;have c1':z.toNat=m:=c1;omega
theorem vP {y:bY} (h:bB bs p=some (y,q)):y.ok/\y.parents.length<=bs.length/\y.picks.length<=bs.length/\y.writes.length<=bs.length/\y.note.size<=bs.length/\∀ x∈y.writes,x.text.size<=bs.length:=by
 unfold bB at h;obtain ⟨⟨x1,q1⟩,h1,h⟩:=Option.bind_eq_some_iff.1 h;obtain ⟨⟨x2,q2⟩,h2,h⟩:=Option.bind_eq_some_iff.1 h;obtain ⟨⟨x3,q3⟩,h3,h⟩:=Option.bind_eq_some_iff.1 h;obtain ⟨⟨x4,q4⟩,h4,h⟩:=Option.bind_eq_some_iff.1 h;obtain ⟨⟨x5,q5⟩,h5,e⟩:=Option.map_eq_some_iff.1 h;injection e with e1 e2;subst e1;obtain ⟨a1,a2⟩:=jO h2;obtain ⟨b1,b2⟩:=jO h3;obtain ⟨c1,c2⟩:=jO h5;refine ⟨⟨fZ h1,fun x hx=>?_,fun x hx=>?_,fun x hx=>?_⟩,a1,b1,c1,qL h4,fun x hx=>?_⟩
 ·obtain ⟨p,q,h⟩:=a2 x hx;exact fZ h
 ·obtain ⟨p,q,h⟩:=b2 x hx;exact fZ h
 ·obtain ⟨p,q,h⟩:=c2 x hx;exact (rM h).1
 ·obtain ⟨p,q,h⟩:=c2 x hx;exact (rM h).2
theorem sU {s1 s2 s3 s4 s5:Option Nat} {a:Int} {b c:List Int} {d:ByteArray} {e:List bG}
  (h1:(s.bind (bC bs)).map (·.2)=s1) (k1:∀ y,s.bind (bC bs)=some y->y.1=a)
  (h2:(s1.bind (bW (bC bs) bs)).map (·.2)=s2) (k2:∀ y,s1.bind (bW (bC bs) bs)=some y->y.1=b)
  (h3:(s2.bind (bW (bC bs) bs)).map (·.2)=s3) (k3:∀ y,s2.bind (bW (bC bs) bs)=some y->y.1=c)
  (h4:(s3.bind (cI bs)).map (·.2)=s4) (k4:∀ y,s3.bind (cI bs)=some y->y.1=d)
  (h5:(s4.bind (bW (cY bs) bs)).map (·.2)=s5) (k5:∀ y,s4.bind (bW (cY bs) bs)=some y->y.1=e):
  (∀ z,s.bind (bB bs)=some z->z.1=⟨a,b,c,d,e⟩)/\(s.bind (bB bs)).map (·.2)=s5:=by
 subst h1 h2 h3 h4 h5;rcases s with _ | p
 ·exact ⟨(fun z hz=>by cases hz),rfl⟩
 simp only [Option.bind_some] at*;unfold bB;rcases e1:bC bs p with _ | y1
 ·exact ⟨(fun z hz=>by cases hz),rfl⟩
 simp only [e1,Option.map_some,Option.bind_some] at*;rcases e2:bW (bC bs) bs y1.2 with _ | y2
 ·exact ⟨(fun z hz=>by cases hz),rfl⟩
 simp only [e2,Option.map_some,Option.bind_some] at*;rcases e3:bW (bC bs) bs y2.2 with _ | y3
 ·exact ⟨(fun z hz=>by cases hz),rfl⟩
 simp only [e3,Option.map_some,Option.bind_some] at*;rcases e4:cI bs y3.2 with _ | y4
 ·exact ⟨(fun z hz=>by cases hz),rfl⟩
 simp only [e4,Option.map_some,Option.bind_some] at*;rcases e5:bW (cY bs) bs y4.2 with _ | y5
 ·exact ⟨(fun z hz=>by cases hz),rfl⟩
 simp only [e5,Option.map_some] at*;refine ⟨fun z hz=>?_,trivial⟩;injection hz with hz;subst hz;rw [k1 _ rfl,k2 _ rfl,k3 _ rfl,k4 _ rfl,k5 _ rfl]
end
def cB (w:World) (lo k:Nat) (B:Option Addr) (m:Nat) (xs:List Value):Prop:=aG w w.heap.size k B m xs/\∀ ad,B=some ad->lo<=ad.block/\ad.block < w.heap.size
section
variable {w w':World} {lo k m r g:Nat} {B:Option Addr} {xs:List Value}
theorem cB.keep (h:cB w lo k B m xs) (hs:w.heap.size<=w'.heap.size) (hk:∀ i,lo<=i->i < w.heap.size->w'.heap[i]?=w.heap[i]?):cB w' lo k B m xs:=by
 refine ⟨⟨h.1.1,fun hn=>?_⟩,fun ad ha=>⟨(h.2 ad ha).1,by have:=(h.2 ad ha).2;omega⟩⟩;obtain ⟨ad,e,hb,hc⟩:=h.1.2 hn;refine ⟨ad,e,by omega,fun j u hu=>?_⟩;exact (World.cell?_of_block (by rw [bU];exact hk ad.block (h.2 ad e).1 hb)).trans (hc j u hu)
theorem cB.grown (h:cB w lo k B m xs) (hg:w.grownBy w' (some r)) (hr:r < lo):cB w' lo k B m xs:=
 h.keep hg.size fun i h1 h2=>hg.block i h2 (fun e=>by injection e;omega)
theorem cB.setCell (h:cB w lo k B m xs) {p:Addr} (hp:p.block < lo) (u:Value):cB (w.setCell p u) lo k B m xs:=
 h.keep (by simp [World.setCell]) fun i h1 h2=>Below.heap_setCell w p u i (by omega)
theorem cB.low (h:cB w lo k B m xs) (hl:lo'<=lo):cB w lo' k B m xs:=⟨h.1,fun ad ha=>⟨by have:=(h.2 ad ha).1;omega,(h.2 ad ha).2⟩⟩
theorem cB.alloc (h:cB w lo k B m xs) (o:Obj):cB (w.alloc o) lo k B m xs:=h.keep (by simp) fun i h1 h2=>Below.heap_alloc w o i h2
theorem cB.drewN (h:cB w lo k B m xs) (j:Nat):cB (w.drewN j) lo k B m xs:=h
theorem cB.below (h:cB w lo k B m xs) (hb:Below w.heap.size w w'):cB w' lo k B m xs:=h.keep hb.size fun i h1 h2=>hb.block i h2
end
structure dY (w:World) (lo:Nat) (x:CX):Prop where
 good:iM w x
 b1:∀ ad,x.A1=some ad->lo<=ad.block/\ad.block < w.heap.size
 b2:∀ ad,x.A2=some ad->lo<=ad.block/\ad.block < w.heap.size
 b3:∀ ad,x.A3=some ad->lo<=ad.block/\ad.block < w.heap.size
structure iK (w0 w:World) (r g:Nat) (A:Option Addr) (n c:Nat) (bs:List Nat) (s:Option Nat) (T:TypeId) (zs cs:Array Value):Prop where
 rd:Rd w r A n c s
 inn:fQ w r A n c bs
 box:aK w (g+1) T cs
 out:aK w g T zs
 gr:w0.grownBy w (some r)
 new:w0.heap.size<=g
 old:r < w0.heap.size
section
variable {w0 w w':World} {r g n c:Nat} {A:Option Addr} {bs:List Nat} {s s':Option Nat} {T:TypeId} {zs cs:Array Value}
theorem iK.next (h:iK w0 w r g A n c bs s T zs cs) (hr:Rd w' r A n c s') (hg:w.grownBy w' (some r)):iK w0 w' r g A n c bs s' T zs cs:=
 ⟨hr,h.inn.grown hg (Nat.le_of_lt h.rd.lt),h.box.grown hg (by have:=h.new;have:=h.old;intro e;injection e;omega),h.out.grown hg (by have:=h.new;have:=h.old;intro e;injection e;omega),h.gr.trans hg,h.new,h.old⟩
theorem iK.put (h:iK w0 w r g A n c bs s T zs cs) (k:Nat) (u:Value):iK w0 (w.setCell ⟨g+1,k,none⟩ u) r g A n c bs s T zs (cs.setIfInBounds k u):=by
 have h1:=h.new;have h2:=h.old;exact ⟨h.rd.far (by show r≠g+1;omega) u,h.inn.setCell (by show r<=g+1;omega) u,h.box.set_ k u,h.out.far (by show g≠g+1;omega) u,aW h.gr (.inr (by show w0.heap.size<=g+1;omega)) u,h.new,h.old⟩
theorem iK.give (h:iK w0 w r g A n c bs s T zs cs) (k:Nat) (u:Value):iK w0 (w.setCell ⟨g,k,none⟩ u) r g A n c bs s T (zs.setIfInBounds k u) cs:=by
 have h1:=h.new;have h2:=h.old;exact ⟨h.rd.far (by show r≠g;omega) u,h.inn.setCell (by show r<=g;omega) u,h.box.far (by show g+1≠g;omega) u,h.out.set_ k u,aW h.gr (.inr h1) u,h.new,h.old⟩
theorem iK.start (hr:Rd w r A n c s) (hi:fQ w r A n c bs) (T:TypeId) (zs:Array Value):iK w ((w.alloc (.cells zs T)).alloc (.cells zs T)) r w.heap.size A n c bs s T zs zs:=by
 have hlt:=hr.lt;refine ⟨(hr.alloc _).alloc _,(hi.alloc (by omega) _).alloc (by simp;omega) _,?_,(aK.new w T zs).alloc _,eW (eW (World.grownBy.refl w _) _) _,Nat.le_refl _,hlt⟩;have:=aK.new (w.alloc (.cells zs T)) T zs;have e:(w.alloc (.cells zs T)).heap.size=w.heap.size+1:=by simp
 rwa [e] at this
theorem iK.size (h:iK w0 w r g A n c bs s T zs cs):g+2<=w.heap.size:=h.box.lt
end
def yC (w:World) (r:Nat) (A:Option Addr) (n c:Nat) (o:Option (bY × Nat)) (e:Ending) (w':World):Prop:=
 ∃ x:CX,e=.returned (.agg #[.int .i64 x.c.stamp,.slice x.A1 x.c.parents.length x.c1,.slice x.A2 x.c.picks.length x.c2,.string x.c.note,.slice x.A3 x.c.writes.length x.c3])/\(∀ z,o=some z->z.1=x.c/\dY w' w.heap.size x)/\Rd w' r A n c (o.map (·.2))/\w.grownBy w' (some r)
theorem vG {p q:Nat} (hp:bB bs p=some (x.c,q)) (hn:bs.length<=1000000000000) (h1:cB w lo 1 x.A1 x.c.parents.length (x.c.parents.map (Value.int .i64))) (h2:cB w lo 1 x.A2 x.c.picks.length (x.c.picks.map (Value.int .i64)))
  (h3:cB w lo 6 x.A3 x.c.writes.length (x.c.writes.flatMap bG.vals)):dY w lo x:=by
 obtain ⟨f1,f2,f3,f4,f5,f6⟩:=vP hp;exact ⟨⟨f1,h1.1,h2.1,h3.1,by omega,by omega,by omega,by omega,fun y hy=>by have:=f6 y hy;omega⟩,h1.2,h2.2,h3.2⟩
theorem vO (h:Rd w r A n c s) (hi:fQ w r A n c bs):
  Calls Tryz.prog 23 #[.pointer (some ⟨r,0,none⟩)] w (yC w r A n c (s.bind (bB bs))):=by
 have hbl:bs.length<=1000000000000:=by have:=hi.len;have:=hi.hn;omega
 have M0:=hD (iK.start h hi 39 #[.int .i64 0,.slice none 0 0,.slice none 0 0,.string ByteArray.empty,.slice none 0 0]);clear h hi;go_enter Tryz.func23,Tryz.ntmps23;go_wp2_with fail;refine (dL (M0.out).rd (M0.out).inn).mono ?_;rintro e w1 ⟨a,rfl,K1,hrd,hg⟩;replace K1:=hD K1;have N0:=hD ((M0.out).next hrd hg);have M1:Hid (iK w (w1.setCell ⟨w.heap.size+1,0,none⟩ (.int .i64 a)) r w.heap.size A n c bs _ 39 #[.int .i64 0,.slice none 0 0,.slice none 0 0,.string ByteArray.empty,.slice none 0 0] #[.int .i64 a,.slice none 0 0,.slice none 0 0,.string ByteArray.empty,.slice none 0 0]):=(N0.out).put 0 (.int .i64 a);have ck:=(N0.out).box.cell 0;have fk:=(N0.out).box.frozen 0;simp at ck;clear hrd hg M0 N0;go_wp2_with fail;clear ck fk;refine (vC (M1.out).rd (M1.out).inn).mono ?_;rintro e w2 ⟨B1,q1,ps,rfl,K2,hl1,hl2,hrd,hg⟩;replace K2:=hD K2;have N1:=hD ((M1.out).next hrd hg);have H1:=hD (cB.low (⟨hl1,hl2⟩:cB w2 _ 1 _ _ _) (M1.out).size);clear hl1 hl2;have M2:Hid (iK w (w2.setCell ⟨w.heap.size+1,1,none⟩ (.slice B1 ps.length q1)) r w.heap.size A n c bs _ 39 #[.int .i64 0,.slice none 0 0,.slice none 0 0,.string ByteArray.empty,.slice none 0 0] #[.int .i64 a,.slice B1 ps.length q1,.slice none 0 0,.string ByteArray.empty,.slice none 0 0]):=(N1.out).put 1 (.slice B1 ps.length q1);replace H1:=hD ((H1.out).setCell (p:=⟨w.heap.size+1,1,none⟩) (by show w.heap.size+1 < w.heap.size+2;omega) (.slice B1 ps.length q1));have ck:=(N1.out).box.cell 1;have fk:=(N1.out).box.frozen 1;simp at ck
 clear hrd hg M1 N1;go_wp2_with fail;clear ck fk;refine (vC (M2.out).rd (M2.out).inn).mono ?_;rintro e w3 ⟨B2,q2,ks,rfl,K3,hl1,hl2,hrd,hg⟩;replace K3:=hD K3;have N2:=hD ((M2.out).next hrd hg);replace H1:=hD ((H1.out).grown hg (by have:=(M2.out).new;have:=(M2.out).old;omega));have H2:=hD (cB.low (⟨hl1,hl2⟩:cB w3 _ 1 _ _ _) (M2.out).size);clear hl1 hl2;have M3:Hid (iK w (w3.setCell ⟨w.heap.size+1,2,none⟩ (.slice B2 ks.length q2)) r w.heap.size A n c bs _ 39 #[.int .i64 0,.slice none 0 0,.slice none 0 0,.string ByteArray.empty,.slice none 0 0] #[.int .i64 a,.slice B1 ps.length q1,.slice B2 ks.length q2,.string ByteArray.empty,.slice none 0 0]):=(N2.out).put 2 (.slice B2 ks.length q2);replace H1:=hD ((H1.out).setCell (p:=⟨w.heap.size+1,2,none⟩) (by show w.heap.size+1 < w.heap.size+2;omega) (.slice B2 ks.length q2));replace H2:=hD ((H2.out).setCell (p:=⟨w.heap.size+1,2,none⟩) (by show w.heap.size+1 < w.heap.size+2;omega) (.slice B2 ks.length q2));have ck:=(N2.out).box.cell 2;have fk:=(N2.out).box.frozen 2;simp at ck;clear hrd hg M2 N2;go_wp2_with fail;clear ck fk;refine (tS (M3.out).rd (M3.out).inn).mono ?_;rintro e w4 ⟨t,rfl,K4,hrd,hg⟩;replace K4:=hD K4;have N3:=hD ((M3.out).next hrd hg);replace H1:=hD ((H1.out).grown hg (by have:=(M3.out).new;have:=(M3.out).old;omega));replace H2:=hD ((H2.out).grown hg (by have:=(M3.out).new;have:=(M3.out).old;omega));have M4:Hid (iK w (w4.setCell ⟨w.heap.size+1,3,none⟩ (.string t)) r w.heap.size A n c bs _ 39 #[.int .i64 0,.slice none 0 0,.slice none 0 0,.string ByteArray.empty,.slice none 0 0] #[.int .i64 a,.slice B1 ps.length q1,.slice B2 ks.length q2,.string t,.slice none 0 0]):=(N3.out).put 3 (.string t)
 replace H1:=hD ((H1.out).setCell (p:=⟨w.heap.size+1,3,none⟩) (by show w.heap.size+1 < w.heap.size+2;omega) (.string t));replace H2:=hD ((H2.out).setCell (p:=⟨w.heap.size+1,3,none⟩) (by show w.heap.size+1 < w.heap.size+2;omega) (.string t));have ck:=(N3.out).box.cell 3;have fk:=(N3.out).box.frozen 3;simp at ck;clear hrd hg M3 N3;go_wp2_with fail;clear ck fk;refine (AA (M4.out).rd (M4.out).inn).mono ?_;rintro e w5 ⟨B3,q3,ws,rfl,K5,hl1,hl2,hrd,hg⟩;replace K5:=hD K5;have N4:=hD ((M4.out).next hrd hg);replace H1:=hD ((H1.out).grown hg (by have:=(M4.out).new;have:=(M4.out).old;omega));replace H2:=hD ((H2.out).grown hg (by have:=(M4.out).new;have:=(M4.out).old;omega));have H3:=hD (cB.low (⟨hl1,hl2⟩:cB w5 _ 6 _ _ _) (M4.out).size);clear hl1 hl2;have M5:Hid (iK w (w5.setCell ⟨w.heap.size+1,4,none⟩ (.slice B3 ws.length q3)) r w.heap.size A n c bs _ 39 #[.int .i64 0,.slice none 0 0,.slice none 0 0,.string ByteArray.empty,.slice none 0 0] #[.int .i64 a,.slice B1 ps.length q1,.slice B2 ks.length q2,.string t,.slice B3 ws.length q3]):=(N4.out).put 4 (.slice B3 ws.length q3);replace H1:=hD ((H1.out).setCell (p:=⟨w.heap.size+1,4,none⟩) (by show w.heap.size+1 < w.heap.size+2;omega) (.slice B3 ws.length q3));replace H2:=hD ((H2.out).setCell (p:=⟨w.heap.size+1,4,none⟩) (by show w.heap.size+1 < w.heap.size+2;omega) (.slice B3 ws.length q3));replace H3:=hD ((H3.out).setCell (p:=⟨w.heap.size+1,4,none⟩) (by show w.heap.size+1 < w.heap.size+2;omega) (.slice B3 ws.length q3));have c0:=(N4.out).box.cell 0
 have c1:=(N4.out).box.cell 1;have c2:=(N4.out).box.cell 2;have c3:=(N4.out).box.cell 3;have c4:=(N4.out).box.cell 4;have fk:=(N4.out).box.frozen 4;have o0:=(N4.out).out.cell 0;have o1:=(N4.out).out.cell 1;have o2:=(N4.out).out.cell 2;have o3:=(N4.out).out.cell 3;have o4:=(N4.out).out.cell 4;obtain ⟨f0,f1,f2,f3,f4⟩:=(N4.out).out.f5;simp at c0 c1 c2 c3 c4 o0 o1 o2 o3 o4;clear hrd hg M4 N4;go_wp2_with fail;clear c0 c1 c2 c3 c4 o0 o1 o2 o3 o4 f0 f1 f2 f3 f4 fk;have FM:=((((((M5.out).give 0 (.int .i64 a)).give 1 (.slice B1 ps.length q1)).give 2 (.slice B2 ks.length q2)).give 3 (.string t)).give 4 (.slice B3 ws.length q3));have FH1:=((((((H1.out).setCell (p:=⟨w.heap.size,0,none⟩) (by show w.heap.size < w.heap.size+2;omega) (.int .i64 a)).setCell (p:=⟨w.heap.size,1,none⟩) (by show w.heap.size < w.heap.size+2;omega) (.slice B1 ps.length q1)).setCell (p:=⟨w.heap.size,2,none⟩) (by show w.heap.size < w.heap.size+2;omega) (.slice B2 ks.length q2)).setCell (p:=⟨w.heap.size,3,none⟩) (by show w.heap.size < w.heap.size+2;omega) (.string t)).setCell (p:=⟨w.heap.size,4,none⟩) (by show w.heap.size < w.heap.size+2;omega) (.slice B3 ws.length q3));have FH2:=((((((H2.out).setCell (p:=⟨w.heap.size,0,none⟩) (by show w.heap.size < w.heap.size+2;omega) (.int .i64 a)).setCell (p:=⟨w.heap.size,1,none⟩) (by show w.heap.size < w.heap.size+2;omega) (.slice B1 ps.length q1)).setCell (p:=⟨w.heap.size,2,none⟩) (by show w.heap.size < w.heap.size+2;omega) (.slice B2 ks.length q2)).setCell (p:=⟨w.heap.size,3,none⟩) (by show w.heap.size < w.heap.size+2;omega) (.string t)).setCell (p:=⟨w.heap.size,4,none⟩) (by show w.heap.size < w.heap.size+2;omega) (.slice B3 ws.length q3))
 have FH3:=((((((H3.out).setCell (p:=⟨w.heap.size,0,none⟩) (by show w.heap.size < w.heap.size+2;omega) (.int .i64 a)).setCell (p:=⟨w.heap.size,1,none⟩) (by show w.heap.size < w.heap.size+2;omega) (.slice B1 ps.length q1)).setCell (p:=⟨w.heap.size,2,none⟩) (by show w.heap.size < w.heap.size+2;omega) (.slice B2 ks.length q2)).setCell (p:=⟨w.heap.size,3,none⟩) (by show w.heap.size < w.heap.size+2;omega) (.string t)).setCell (p:=⟨w.heap.size,4,none⟩) (by show w.heap.size < w.heap.size+2;omega) (.slice B3 ws.length q3));have hch:=sU rfl (K1.out) rfl (K2.out) rfl (K3.out) rfl (K4.out) rfl (fun y hy=>(((K5.out) y hy).1.trans (List.map_id ws)));refine rR (cs:=#[.int .i64 a,.slice B1 ps.length q1,.slice B2 ks.length q2,.string t,.slice B3 ws.length q3]) FM.out Tryz.underlying39 rfl rfl rfl rfl (by kernel_rfl) ?_;refine ⟨⟨⟨a,ps,ks,t,ws⟩,B1,q1,B2,q2,B3,q3⟩,rfl,fun z hz=>?_,?_,FM.gr⟩
 ·have hz1:=hch.1 z hz;refine ⟨hz1,?_⟩;obtain ⟨z1,z2⟩:=z;subst hz1;obtain ⟨p,hp,hz2⟩:=Option.bind_eq_some_iff.1 hz;exact vG hz2 hbl (FH1.low (by omega)) (FH2.low (by omega)) (FH3.low (by omega))
 ·rw [hch.2];exact FM.rd
def Bl (x:CX) (i:Nat):Prop:=(∃ ad,x.A1=some ad/\ad.block=i)\/(∃ ad,x.A2=some ad/\ad.block=i)\/(∃ ad,x.A3=some ad/\ad.block=i)
section
variable {w w':World} {lo k m g:Nat} {B:Option Addr} {xs:List Value} {x:CX}
theorem aG.same (h:aG w w.heap.size k B m xs) (hs:w.heap.size<=w'.heap.size) (hk:∀ ad,B=some ad->w'.heap[ad.block]?=w.heap[ad.block]?):aG w' w'.heap.size k B m xs:=by
 refine ⟨h.1,fun hn=>?_⟩;obtain ⟨ad,e,hb,hc⟩:=h.2 hn;exact ⟨ad,e,by omega,fun j u hu=>(World.cell?_of_block (by rw [bU];exact hk ad e)).trans (hc j u hu)⟩
theorem dY.same (h:dY w lo x) (hs:w.heap.size<=w'.heap.size) (hk:∀ i,Bl x i->w'.heap[i]?=w.heap[i]?):dY w' lo x:=
 ⟨⟨h.good.ok,h.good.r1.same hs (fun ad e=>hk _ (.inl ⟨ad,e,rfl⟩)),h.good.r2.same hs (fun ad e=>hk _ (.inr (.inl ⟨ad,e,rfl⟩))),h.good.r3.same hs (fun ad e=>hk _ (.inr (.inr ⟨ad,e,rfl⟩))),h.good.l1,h.good.l2,h.good.l3,h.good.l4,h.good.l5⟩,
  fun ad e=>⟨(h.b1 ad e).1,by have:=(h.b1 ad e).2;omega⟩,fun ad e=>⟨(h.b2 ad e).1,by have:=(h.b2 ad e).2;omega⟩,fun ad e=>⟨(h.b3 ad e).1,by have:=(h.b3 ad e).2;omega⟩⟩
theorem dY.bl (h:dY w lo x) {i:Nat} (hi:Bl x i):lo<=i/\i < w.heap.size:=by
 rcases hi with ⟨ad,e,rfl⟩ | ⟨ad,e,rfl⟩ | ⟨ad,e,rfl⟩
 ·exact h.b1 ad e
 ·exact h.b2 ad e
 ·exact h.b3 ad e
theorem dY.low (h:dY w lo x) (hl:lo'<=lo):dY w lo' x:=
 ⟨h.good,fun ad e=>⟨by have:=(h.b1 ad e).1;omega,(h.b1 ad e).2⟩,fun ad e=>⟨by have:=(h.b2 ad e).1;omega,(h.b2 ad e).2⟩,fun ad e=>⟨by have:=(h.b3 ad e).1;omega,(h.b3 ad e).2⟩⟩
end
def GV (lo:Nat) (w:World) (v:Value) (x:CX):Prop:=dY w lo x/\∀ g,v.ownBlock=some g->¬ Bl x g
theorem yR {wA:World} {v:Value} (h:GV lo wA u x) (hg:aR wA w3 u v):GV lo w3 v x:=by
 refine ⟨h.1.same hg.size (fun i hi=>hg.grown.block i (h.1.bl hi).2 (fun e=>h.2 i e.symm hi)),fun g hv hb=>?_⟩;rcases hg.own g hv with h1 | h1
 ·exact h.2 g h1 hb
 ·have:=(h.1.bl hb).2;omega
theorem C7 {wr w2:World} {o:Obj} {v:Value} {xs:List CX} {a:CX} (hg:wr.grownBy w2 (some r)) (hr:r < lo) (hlo:lo<=wr.heap.size) (hu:∀ g,u.ownBlock=some g->g < wr.heap.size) (hg3:aR (w2.alloc o) w3 u v)
  (hold:∀ x∈xs,GV lo wr u x) (ha:dY w2 wr.heap.size a):∀ x∈xs++[a],GV lo w3 v x:=fun x hx=>by
 refine yR ?_ hg3;rcases List.mem_append.1 hx with hx | hx
 ·obtain ⟨h1,h2⟩:=hold x hx;refine ⟨h1.same (Nat.le_trans hg.size (by simp)) (fun i hi=>?_),h2⟩;obtain ⟨b1,b2⟩:=h1.bl hi;exact (Below.heap_alloc w2 o i (by have:=hg.size;omega)).trans (hg.block i b2 (fun e=>by injection e;omega))
 ·obtain rfl:x=a:=by simpa using hx
  refine ⟨(ha.low hlo).same (by simp) (fun i hi=>Below.heap_alloc w2 o i (ha.bl hi).2),fun g hg' hb=>?_⟩;have:=hu g hg';have:=(ha.bl hb).1;omega
theorem BK (h:Rd w r A n c s) (hi:fQ w r A n c bs):
  Calls Tryz.prog 22 #[.pointer (some ⟨r,0,none⟩),.func (.func 23) #[.pointer (some ⟨r,0,none⟩)] #[]] w (BW lO CX.c (GV w.heap.size) 5 w r A n c (s.bind (bW (bB bs) bs))):=by
 have hl:=hi.len;have hn:=hi.hn;have L0:=hD (⟨h,hi,World.grownBy.refl w _,h.lt⟩:iI w w r A n c bs s);clear h hi;go_enter Tryz.func22,Tryz.ntmps22;go_wp2_with fail;refine (dL (L0.out).rd (L0.out).inn).mono ?_;rintro e w1 ⟨a,rfl,K1,hrd,hg⟩;replace K1:=hD K1;have L1:=hD ((L0.out).next hrd hg);clear hrd hg L0;generalize hs1:(Option.map (fun x=>x.snd) (s.bind (bC bs)))=s1 at L1;rcases s1 with _ | q
 ·obtain ⟨z1,hb1⟩:=(L1.out).rd;have c2:=hb1.cell 2;have f2:=hb1.frozen 2;simp at c2;have HB:=hD hb1;have HS:=hD hs1;clear hb1 hs1 hl;go_wp2_with fail;go_quiet (fail);go_wp2_with fail;go_ret;rw [mL (HS.out)];exact ⟨none,0,[],rfl,(fun z hz=>by cases hz),aG.none_,(fun ad h=>by cases h),⟨_,((HB.out).drewN _).set_ 2 _⟩,aW (bS (L1.out).gr _) (.inl rfl) _⟩
 ·obtain ⟨hb1,hq⟩:=(L1.out).rd;have hcnt:=pG (f:=bB bs) hs1 (K1.out);have c0:=hb1.cell 0;have c1:=hb1.cell 1;have c2:=hb1.cell 2;have f2:=hb1.frozen 2;simp at c0 c1 c2;have HB:=hD hb1;clear hb1 hs1 K1;by_cases hbad:a < 0\/(bs.length:Int) - q < a
  ·rw [if_pos hbad] at hcnt;replace hcnt:=hD hcnt;rw [hl] at hbad;have hd:(decide (a < 0)=true)\/(decide (a < 0)=false/\decide ((n:Int) - q < a)=true):=by simp;omega
   clear hl;rcases hd with d1 | ⟨d1,d2⟩
   all_goals
    go_wp2_with fail;go_quiet (fail);go_wp2_with fail;go_ret;rw [hcnt.out];exact ⟨none,0,[],rfl,(fun z hz=>by cases hz),aG.none_,(fun ad h=>by cases h),⟨_,((HB.out).drewN _).set_ 2 _⟩,aW (bS (L1.out).gr _) (.inl rfl) _⟩
  ·rw [if_neg hbad] at hcnt;rw [hl] at hbad;obtain ⟨m,rfl⟩:=Int.eq_ofNat_of_zero_le (show 0<=a by omega);have d1:decide ((m:Int) < 0)=false:=by simp
   have d2:decide ((n:Int) - q < (m:Int))=false:=by simp;omega
   have hm:m<=1000000000000:=by omega
   rw [Int.toNat_natCast] at hcnt;replace hcnt:=hD hcnt;clear hl hbad;obtain ⟨i0,hi0,hz0,hz1,hz2⟩:=info_parts nB;have R0:Hid (∀ nq,tA lO CX.c (GV w.heap.size) 39 5 (bB bs) w (w1.drewN nq) r A n c bs q m 0 (some q) [] (.slice none 0 0)):=fun nq=>
    ⟨Nat.zero_le _,rfl,rfl,(fun z hz=>by injection hz with hz;rw [<- hz];exact ⟨rfl,fun x hx=>by cases hx⟩),⟨rfl,.inl ⟨rfl,rfl⟩⟩,(L1.out).drewN nq⟩
   clear L1 HB;go_wp2_with fail;go_quiet (fail);go_wp2_with fail;clear c0 c1 c2 f2 d1 d2;clear hq;go_loopw [6,7] (fun v iv wr=>∃ (i:Nat) (s':Option Nat) (xs:List CX),iv=.int .i64 (i:Int)/\tA lO CX.c (GV w.heap.size) 39 5 (bB bs) w wr r A n c bs q m i s' xs v) (fun _ iv _=>((m:Int) - intOf iv).toNat)
   case atStart=>exact ⟨0,some q,[],rfl,(R0.out) nq⟩
   case round=>
    obtain ⟨i,s',xs,rfl,hR⟩:=hrel;have HR:=hD hR;have hle:=hR.le;clear hR R0;by_cases him:i < m
    ·have dim:decide ((i:Int) < (m:Int))=true:=by simp;omega
     rcases s' with _ | p
     ·obtain ⟨z1,hb1⟩:=(HR.out).mid.rd;have c2:=hb1.cell 2;simp at c2;clear hb1;go_wp2_with fail;go_ret;exact (HR.out).done (.inr rfl) (hcnt.out)
     ·have hb1:=(HR.out).mid.rd.1;have c2:=hb1.cell 2;simp at c2;clear hb1;go_wp2_with fail;refine (vO (HR.out).mid.rd (HR.out).mid.inn).mono ?_;rintro e w2 ⟨a,rfl,K2,hrd,hg⟩;have GS:=hD (fun (hz:∃ z,(some p).bind (bB bs)=some z)=>(K2 _ hz.choose_spec).2)
      have HGR:=hD hg;replace K2:=hD (fun y hy=>(K2 y hy).1);have L2:=hD ((HR.out).mid.next hrd hg);have O2:=hD ((HR.out).own.kept hg (.inr (wS (HR.out).own (HR.out).mid.old)));have hs2:=(L2.out).gr.size;clear hrd hg c2;go_wp2_with (at_builtin;refine aF _ rfl (.tmp 47) (.tmp 50) 23 23 rfl w.heap.size 39 i0 (.agg #[.int .i64 0,.slice none 0 0,.slice none 0 0,.string ByteArray.empty,.slice none 0 0]) 5 96 Tryz.underlying23 hi0 hz0 hz1 hz2 rfl (by decide) _ _ _ rfl ((O2.out).alloc _) _ 1 _ rfl (bR w2 Tryz.underlying23 [.int .i64 a.c.stamp,.slice a.A1 a.c.parents.length a.c1,.slice a.A2 a.c.picks.length a.c2,.string a.c.note,.slice a.A3 a.c.writes.length a.c3] 5 1 1 39 rfl (fun u hu=>by simp at hu;rcases hu with rfl | rfl | rfl | rfl | rfl <;> rfl)) (by unfold maxLen;omega) (by omega) (by simp;omega) ?_);intro v3 w3 hown3 hg3;have R3:=hD ((HR.out).step him (K2.out) hown3 (((L2.out).alloc _).grows hg3 (fun g hv=>iY (O2.out) hv)) (fun hold hex=>C7 HGR.out (HR.out).mid.old (HR.out).mid.gr.size (fun g hv=>sG (HR.out).own hv) hg3 hold (GS.out hex)));clear hown3 hg3 hs2;go_wp2_with fail;go_roundw
      case rel=>exact ⟨i+1,_,_,by go_num,R3.out⟩
      case measure=>simp [intOf];omega
    ·have dim:decide ((i:Int) < (m:Int))=false:=by simp;omega
     go_wp2_with fail;go_ret;exact (HR.out).done (.inl (by omega)) (hcnt.out)
end
end Go.Proofs.YtkgpoimmniojjaaGreat
