/- No condition. -/
import Derived.Test.YtkgpoimmniojjaaGreatZaAJ
import Derived.Test.YtkgpoimmniojjaaGreatZaAP
import Derived.Test.YtkgpoimmniojjaaGreatZaAQ
import Derived.Test.YtkgpoimmniojjaaGreatZaAM
import Derived.Test.YtkgpoimmniojjaaGreatZaAI
import Derived.BigGuardPart
import Derived.Deep.CutBlock
namespace Go.Proofs.YtkgpoimmniojjaaGreat
set_option linter.unusedVariables false
set_option linter.unusedSimpArgs false
set_option maxRecDepth 100000
set_option maxHeartbeats 16000000
section
open Go.RowKit
variable {w w' wr:World} {n K c B L D base n' M N D':Nat} {A:Option Addr} {e e':TypeId} {fs fs':List Ty}
theorem aJ.apart {base':Nat} {v v':Value} (h:aJ w base e fs v n) (h':aJ w base' e' fs' v' n') (hne:e≠e'):∀ g,v.ownBlock=some g->v'.ownBlock≠some g:=fun g hg hg'=>by
 obtain ⟨xs,ho,-⟩:=h;obtain ⟨ys,ho',-⟩:=h';rcases ho.2 with ⟨rfl,-⟩ | ⟨g1,cap1,cur1,rfl,-,hh1,-⟩
 ·simp [Value.ownBlock] at hg
 ·rcases ho'.2 with ⟨rfl,-⟩ | ⟨g2,cap2,cur2,rfl,-,hh2,-⟩
  ·simp [Value.ownBlock] at hg'
  ·have e1:g1=g:=by simpa [Value.ownBlock] using hg
   have e2:g2=g:=by simpa [Value.ownBlock] using hg'
   subst e1;subst e2;rw [hh1] at hh2;injection hh2 with hh2;injection hh2 with _ e3;exact hne e3
theorem aJ.side {m:Nat} {v r r':Value} {o:Obj} (h:aJ w base e fs v n) (hr:aJ w base e' fs' r m) (hg:aR (w.alloc o) w' r r') (he:Ty.hasAny e' fs=false) (hne:e≠e'):aJ w' base e fs v n:=by
 obtain ⟨xs,ho,-⟩:=hr.alloc o;exact (h.alloc o).other hg ho he (h.apart hr hne)
theorem V.slotW {M' N':Nat} {ea:TypeId} (h:V w B (.sl N e (dD K M ea)) (.slice A n c)) (hM:M<=M') (hN:n<=N'):V w B (.sl N' e (dD K M' ea)) (.slice A n c):=by
 cases h with
 | sl n e fs A len cap xs hc hn hr hb hx=>
  refine .sl N' e (dD K M' ea) A n c xs hc hN hr hb (fun j u t hu ht=>?_);have h3:j % 3 < 3:=Nat.mod_lt _ (by omega);have hl:(dD K M' ea).length=3:=rfl;have hl2:(dD K M ea).length=3:=rfl;rw [hl] at ht;obtain ⟨r,hr'⟩:∃ r,j % 3=r:=⟨_,rfl⟩;rw [hr'] at ht h3
  match r,h3 with
  | 0,_=>cases ht;exact hx j u _ hu (by rw [hl2,hr'];rfl)
  | 1,_=>cases ht;exact hx j u _ hu (by rw [hl2,hr'];rfl)
  | 2,_=>
   cases ht
   have h1:=hx j u (.ne M ea (fI K)) hu (by rw [hl2,hr'];rfl);obtain ⟨A2,n2,c2,rfl,h0,h2⟩:=h1.ne_inv;exact .ne _ _ _ _ _ _ (h2.wide (Nat.le_trans h2.len_le hM)) h0
theorem Cn (h:V w B (.sl L 3 [.int]) (.slice A n c)):Ts w B [.sl L 3 [.int]] [.slice A n c]:=by
 refine nU (by simp) (fun i u t hu ht=>?_);have hi:=(List.getElem?_eq_some_iff.1 hu).1
 match i,hi with
 | 0,_=>cases hu;cases ht;exact h
theorem wD {z0 z1 z4:Int} {b2:Bool} {s3:ByteArray} (h0:aO z0) (h1:aO z1) (h3:s3.size<=K) (h4:aO z4):Ts w B (fI K) [.int .i64 z0,.int .i64 z1,.bool b2,.string s3,.int .i64 z4]:=by
 refine nU (by simp) (fun i u t hu ht=>?_);have hi:=(List.getElem?_eq_some_iff.1 hu).1
 match i,hi with
 | 0,_=>cases hu;cases ht;exact .int _ h0
 | 1,_=>cases hu;cases ht;exact .int _ h1
 | 2,_=>cases hu;cases ht;exact .bool _
 | 3,_=>cases hu;cases ht;exact .str _ _ h3
 | 4,_=>cases hu;cases ht;exact .int _ h4
theorem V.ints_at {k len cap:Nat} (h:V w B (.sl n e [.sl L 3 [.int]]) (.slice A len cap)) (hk:k < len):∃ b off A2 n2 c2,A=some ⟨b,off,none⟩/\b < B/\w.cell? ⟨b,off+k,none⟩=some (.slice A2 n2 c2)/\V w B (.sl L 3 [.int]) (.slice A2 n2 c2):=by
 obtain ⟨b,off,e1,hB,hc⟩:=h.at_ hk (by simp);obtain ⟨u,hu,hv⟩:=hc 0 _ rfl;obtain ⟨A2,n2,c2,rfl,-,-⟩:=hv.sl_inv;exact ⟨b,off,A2,n2,c2,e1,hB,by simpa using hu,hv⟩
theorem DG:cN Tryz.prog 36 1 24:=eC (by kernel_rfl)
theorem CW:∃ e',Tryz.prog.underlying 95=some (.slice e'):=⟨_,Tryz.underlying95⟩
structure SB (w wr:World) (K D:Nat) (A:Option Addr) (n c:Nat):Prop where
 box:aK wr w.heap.size 71 #[.slice A n c]
 v:V wr wr.heap.size (.sl D 154 (dD K D 152)) (.slice A n c)
 bel:Below w.heap.size w wr
theorem SB.up (h:SB w wr K D A n c) (hb:Below wr.heap.size wr w'):SB w w' K D A n c:=⟨h.box.below hb h.box.lt,h.v.up hb,aB h.bel hb⟩
theorem SB.wide (h:SB w wr K D A n c) (hDq:D<=D'):SB w wr K D' A n c:=⟨h.box,h.v.slotW hDq (Nat.le_trans h.v.len_le hDq),h.bel⟩
theorem SB.put {NN:Nat} {A':Option Addr} {c':Nat} (h:SB w wr K D A n c) (hb:Below wr.heap.size wr w') (hv:V w' w'.heap.size (.sl NN 154 (dD K D' 152)) (.slice A' n' c')) (hn:n'<=D'):SB w (w'.setCell ⟨w.heap.size,0,none⟩ (.slice A' n' c')) K D' A' n' c':=by
 have hx:=h.box.below hb h.box.lt;refine ⟨hx.set_ 0 _,((hv.wide hn).set_ hx (by simp [Ty.has,Ty.hasAny]) 0 _).more (by simp [World.setCell]),(aB h.bel hb).setCell (Nat.le_refl _) _⟩
theorem wO {N2:Nat} (A:Option Addr) (n c:Nat) (A2:Option Addr) (n2 c2:Nat) (w:World) (h:V w w.heap.size (.sl L 39 (cL K M N 3 83)) (.slice A n c)) (h2:V w w.heap.size (.sl N2 3 [.int]) (.slice A2 n2 c2)) (hL:L<=1000) (hM:M<=1000) (hN:L*N+N<=900000000) (hN2:N2<=1000):
  Calls Tryz.prog 64 #[.slice A n c,.slice A2 n2 c2] w (aV w fun w' v=>Du w' (L*N) K (L*N) v):=by
 have hn:=h.len_le;have hn2:=h2.len_le;have hN9:N<=900000000:=by omega
 obtain ⟨lo,hlo,hil⟩:=h2.il;have HH:Hid (∀ x w',Below w.heap.size w w'->Calls Tryz.prog 95 #[.slice A2 n2 c2,.int .i64 x] w' (Is w' (.bool (decide (x∈lo))))):=fun x w' hb=>by
  have:=jP A2 c2 lo x w' (hil.up hb) (by rw [hlo];omega);rwa [hlo] at this
 have HAN:Hid (∀ x w',Below w.heap.size w w'->aO x->Calls Tryz.prog 65 #[.slice A n c,.slice (some ⟨w'.heap.size,0,none⟩) 1 1] (w'.alloc (.cells #[.int .i64 x] 3)) (aV (w'.alloc (.cells #[.int .i64 x] 3)) fun w'' v=>V w'' w''.heap.size (.sl L 3 [.int]) v)):=fun x w' hb hx=>
  gN A n c _ 1 1 _ (h.up (bK hb _)) hL hM (N2:=1) ((V.new (vals:=[.int .i64 x]) (m:=1) rfl (eE hx) (by omega)).more (by simp)) (by omega)
 obtain ⟨W,hW⟩:=nm (w.alloc (.cells #[.slice none 0 0] 71));have HX0:=bk hW;have HBW:=bw hW;have H:=hD h;clear h h2 hil hlo;go_enter Tryz.func64,Tryz.ntmps64;go_wp2_with fail;have HW:=hD hW;clear hW;go_loopw [5,6,7] (fun o p i wr=>∃ (k m:Nat) (At:Option Addr) (ct:Nat) (Aa:Option Addr) (ca:Nat),k<=n/\m<=k/\o=.slice At m ct/\p=.slice Aa m ca/\i=.int .i64 (k:Int)/\Hid (aJ wr W.heap.size 39 (cL K M N 3 83) (.slice At m ct) m)/\Hid (aJ wr W.heap.size 36 [.sl L 3 [.int]] (.slice Aa m ca) m)/\Hid (Below W.heap.size W wr)) (fun _ _ i _=>n - (intOf i).toNat)
 case atStart=>exact ⟨0,0,none,0,none,0,Nat.zero_le _,Nat.zero_le _,rfl,rfl,rfl,aJ.nil _ _ _ _,aJ.nil _ _ _ _,Below.refl _ _⟩
 case round=>
  obtain ⟨k,m,At,ct,Aa,ca,hk,hm,rfl,rfl,rfl,HO,HP,HB⟩:=hrel;have HBw:=hD (HBW.out.trans (HB.out.mono HBW.out.size));have HZ:=hD HB.out.size;by_cases hlt:k < n
  ·obtain ⟨b,off,z0,A1,n1,c1,A9,n9,c9,s3,A4,n4,c4,rfl,hbw,e0,e1,e2,e3,e4,i0,v1,v9,i3,v4⟩:=(H.out.bel HBw.out).com_at hlt;have HT:=hD (kN (w:=wr) (B:=wr.heap.size) ⟨i0,v1.more HBw.out.size,v9.more HBw.out.size,i3,v4.more HBw.out.size⟩);have HI:=hD i0;have HLW:Hid (b < w.heap.size):=hbw;clear v1 v9 i3 v4 i0 hbw;go_wp2_with fail;(with_reducible refine (HH.out _ _ HBw.out).mono ?_);rintro e w1 ⟨rfl,rfl⟩;generalize decide (z0∈lo)=r
   cases r
   ·go_wp2_with fail;go_roundw
    case rel=>exact ⟨k+1,m,At,ct,Aa,ca,by omega,by omega,rfl,rfl,by go_num,HO,HP,HB⟩
    case measure=>simp [intOf];omega
   ·go_wp2_with (at_builtin;refine p1 (kM K M N) rfl rfl W.heap.size (.slice At m ct) m rfl HO.out 39 _ 1 1 rfl rfl rfl HT.out (by omega) HZ.out ?_);intro A3 c3 w3 hown3 hg3 hb3;have HO3:=hD hown3;have HP3:Hid (aJ w3 W.heap.size 36 [.sl L 3 [.int]] (.slice Aa m ca) m):=HP.out.side HO.out hg3 rfl (by decide);have HB3:=hD (HB.out.trans hb3);have HB3w:=hD (HBW.out.trans (HB3.out.mono HBW.out.size));have g0:w3.cell? ⟨b,off+k*5,none⟩=some (.int .i64 z0):=((hb3.cell (p:=⟨b,off+k*5,none⟩) (Nat.lt_of_lt_of_le HLW.out HBW.out.size)).trans e0);clear hown3 hg3 hb3 e0 e1 e2 e3 e4 HO HP HT;go_wp2_with fail;(with_reducible refine (HAN.out _ _ HB3w.out HI.out).mono ?_);rintro e w4 ⟨hb4,v,rfl,hv⟩;obtain ⟨A5,n5,c5,rfl,-,-⟩:=hv.sl_inv;have HT4:=hD (Cn hv);have hb4':Below w3.heap.size w3 w4:=(bK (Below.refl _ _) _).trans (hb4.mono (by simp));have HO4:=hD (HO3.out.up hb4');have HP4:=hD (HP3.out.up hb4');have HB4:=hD (aB HB3.out hb4');have HZ4:=hD HB4.out.size;clear hb4 hb4' hv g0 HO3 HP3;go_wp2_with (at_builtin;refine hJ rfl _ _ _ _ rfl W.heap.size 36 [.sl L 3 [.int]] 24 DG Tryz.underlying95 CW (by simp) rfl (.slice Aa m ca) m rfl HP4.out 36 _ 1 1 rfl rfl rfl HT4.out (by unfold maxLen;omega) (by omega) HZ4.out ?_);intro A6 c6 w6 hown6 hg6 hb6;have HP6:=hD hown6;have HO6:Hid (aJ w6 W.heap.size 39 (cL K M N 3 83) (.slice A3 (m+1) c3) (m+1)):=HO4.out.side HP4.out hg6 rfl (by decide);have HB6:=hD (HB4.out.trans hb6);clear hown6 hg6 hb6;go_wp2_with fail;go_roundw
    case rel=>exact ⟨k+1,m+1,A3,c3,A6,c6,by omega,by omega,rfl,rfl,by go_num,HO6,HP6,HB6⟩
    case measure=>simp [intOf];omega
  ·have HVT:=hD (HO.out.v_ (N:=m) (Nat.le_refl _));have HVA:=hD (HP.out.v_ (N:=m) (Nat.le_refl _));have hmn:m<=L:=by omega
   have HR0:Hid (aK wr w.heap.size 71 #[.slice none 0 0]):=HX0.out.below HB.out HX0.out.lt;clear HO HP HZ hm HAN;obtain ⟨wb,hrn⟩:∃ x,x=wr:=⟨_,rfl⟩;subst hrn;go_wp2_with fail;obtain ⟨W3,hW3⟩:=nm (wb.alloc (.cells #[.slice none 0 0] 71));have HS3:Hid (SB wb W3 K 0 none 0 0):=by subst hW3;exact ⟨aK.new wb _ _,V.nil _ _ _ _ _,bK (Below.refl _ _) _⟩
   rw [hW3];clear hW3;go_loopw [9] (fun i wr=>∃ (j D:Nat) (As:Option Addr) (ns cs:Nat),j<=m/\D<=j*N/\i=.int .i64 (j:Int)/\Hid (SB wb wr K D As ns cs)) (fun i _=>m - (intOf i).toNat)
   case atStart=>exact ⟨0,0,none,0,0,Nat.zero_le _,Nat.zero_le _,rfl,HS3⟩
   case round=>
    clear HS3;obtain ⟨j,D,As,ns,cs,hj,hDq,rfl,HS⟩:=hrel;by_cases hlj:j < m
    ·obtain ⟨tb,to_,z0,A1,n1,c1,A9,n9,c9,s3,A4,n4,c4,rfl,hbw,t0,t1,t2,t3,t4,i0,v1,v9,i3,v4⟩:=(HVT.out).com_at hlj;have HC4:=hD v4;have hn4:=v4.len_le;have HI0:=hD i0;have HT:Hid (∀ wq,Below wb.heap.size wb wq->wq.cell? ⟨tb,to_+j*5,none⟩=some (.int .i64 z0)/\wq.cell? ⟨tb,to_+j*5+4,none⟩=some (.slice A4 n4 c4)):=fun wq hb=>⟨(hb.cell (p:=⟨tb,to_+j*5,none⟩) hbw).trans t0,(hb.cell (p:=⟨tb,to_+j*5+4,none⟩) hbw).trans t4⟩;have hjN:j*N+N<=L*N:=by
      have:(j+1)*N<=L*N:=Nat.mul_le_mul_right _ (by omega);rw [Nat.add_mul,Nat.one_mul] at this;exact this
     clear v1 v9 i3 v4 i0 hbw t0 t1 t2 t3 t4;obtain ⟨wl,hrn⟩:∃ x,x=wr:=⟨_,rfl⟩;subst hrn;go_wp2_with fail;go_loopw [10] (fun i wr=>∃ (k D:Nat) (As:Option Addr) (ns cs:Nat),k<=n4/\D<=j*N+k/\i=.int .i64 (k:Int)/\Hid (SB wb wr K D As ns cs)) (fun i _=>n4 - (intOf i).toNat)
     case atStart=>exact ⟨0,D,As,ns,cs,Nat.zero_le _,by omega,rfl,HS⟩
     case round=>
      clear HS;obtain ⟨k,D,As,ns,cs,hk,hDq,rfl,HS⟩:=hrel;obtain ⟨t0,t4⟩:=HT.out _ HS.out.bel;by_cases hlk:k < n4
      ·obtain ⟨b,off,y0,y1,y2,yb3,ys4,y5,rfl,-,e0,e1,e2,e3,e4,e5,i0,i1,i2,i4,i5⟩:=(HC4.out.bel HS.out.bel).cell_at hlk;have HI:Hid (aO y0/\aO y1/\aO y2/\ys4.size<=K/\aO y5):=⟨i0,i1,i2,i4,i5⟩;clear i0 i1 i2 i4 i5;obtain ⟨wk,hrn⟩:∃ x,x=wr:=⟨_,rfl⟩;subst hrn;go_wp2_with fail;obtain ⟨W5,hW5⟩:=nm (wk.alloc (.cells #[.int .i64 y0,.int .i64 y1,.int .i64 y2,.bool yb3,.string ys4,.int .i64 y5] 83));have HX5:=bk hW5;have HS5:Hid (SB wb W5 K D As ns cs):=by subst hW5;exact HS.out.up (bK (Below.refl _ _) _)
       rw [hW5];clear hW5 t0 t4 e0 e1 e2 e3 e4 e5;go_loopw [12,13] (fun a i wr=>∃ (al:Bool) (x:Nat),x<=m/\a=.bool al/\i=.int .i64 (x:Int)/\Hid (Below W5.heap.size W5 wr)) (fun _ i _=>m - (intOf i).toNat)
       case atStart=>exact ⟨true,0,Nat.zero_le _,rfl,rfl,Below.refl _ _⟩
       case round=>
        obtain ⟨al,x,hx,rfl,rfl,HB5⟩:=hrel;have HS6:Hid (SB wb wr K D As ns cs):=HS5.out.up HB5.out;have HX6:=hD (HX5.out.below HB5.out HX5.out.lt);obtain ⟨t0,t4⟩:=HT.out _ HS6.out.bel;obtain ⟨x0,x1,x2,x3,x4,x5⟩:=HX6.out.c6
        cases al
        ·go_wp2_with fail
         all_goals
          first
           | exact ⟨⟨k+1,D,As,ns,cs,by omega,by omega,by go_num,HS6⟩,by simp [intOf];omega⟩
           | (go_roundw
              ·exact ⟨k+1,D,As,ns,cs,by omega,by omega,by go_num,HS6⟩
              ·simp [intOf];omega)
        ·by_cases hxm:x < m
         ·by_cases hxj:x=j
          ·subst hxj;have d:((x:Int) == (x:Int))=true:=by simp
           go_wp2_with fail;go_quiet (fail);have HB6:=hD (aN HB5.out nq);go_wp2_with fail;go_roundw
           case rel=>exact ⟨true,x+1,by omega,rfl,by go_num,HB6⟩
           case measure=>simp [intOf];omega
          ·have d:((x:Int) == (j:Int))=false:=by simp;omega
           obtain ⟨tb',to',u0,B1,m1,d1,B9,m9,d9,us3,B4,m4,d4,e9,hbw',g0,g1,g2,g3,g4,-,-,-,-,gv4⟩:=(HVT.out).com_at hxm;injection e9 with e9;injection e9 with e8 e7;subst e8 e7;obtain ⟨r,hr⟩:=vY (M:=0) (B:=0) u0 B1 m1 d1 B9 m9 d9 us3 B4 m4 d4 y0 y1 wr (gv4.up HS6.out.bel) (by omega);have HWR:=hD hr;obtain ⟨ab,ao,A6,n6,c6,hA6,hab,h0,hv6⟩:=(HVA.out).ints_at hxm;subst hA6;obtain ⟨l6,hl6,il6⟩:=hv6.il;have hn6:=hv6.len_le;have HH6:Hid (∀ w',Below wr.heap.size wr w'->Calls Tryz.prog 95 #[.slice A6 n6 c6,.int .i64 z0] w' (Is w' (.bool (decide (z0∈l6))))):=fun w' hb=>by
            have:=jP A6 c6 l6 z0 w' ((il6.up HS6.out.bel).up hb) (by rw [hl6];omega);rwa [hl6] at this
           have k0:=aH ((HS6.out.bel.cell (p:=⟨_,_,none⟩) hbw').trans g0);have k1:=aH ((HS6.out.bel.cell (p:=⟨_,_,none⟩) hbw').trans g1);have k2:=aH ((HS6.out.bel.cell (p:=⟨_,_,none⟩) hbw').trans g2);have k3:=aH ((HS6.out.bel.cell (p:=⟨_,_,none⟩) hbw').trans g3);have k4:=aH ((HS6.out.bel.cell (p:=⟨_,_,none⟩) hbw').trans g4);have k5:=aH ((HS6.out.bel.cell (p:=⟨_,_,none⟩) hab).trans h0);have k6:=aH t0;have k7:=aH x0;have k8:=aH x1;generalize decide (z0∈l6)=r2 at HH6;clear hr g0 g1 g2 g3 g4 gv4 h0 hv6 il6 hl6 hbw' hab
           cases r <;> cases r2
           all_goals
            go_wp2_with fail;refine dU (by kernel_rfl) (by kernel_rfl) ?_
            repeat (go_big_quiet_step (first | (with_reducible exact sR (HWR.out _ (jS.bel _))) | (with_reducible exact xG (HH6.out _ (jS.bel _)))))
            refine wpQuiet_nil ?_;intro w5 hw5;obtain ⟨⟨w5,hb5⟩,rfl⟩:=hw5;have HB6:=hD (aB HB5.out hb5);clear hb5;go_wp2_with fail;go_roundw
            case rel=>exact ⟨_,x+1,by omega,rfl,by go_num,HB6⟩
            case measure=>simp [intOf];omega
         ·have sb0:=HS6.out.box.cell 0;simp at sb0;have HAL:Hid (∀ x y,Calls Tryz.prog 97 #[.agg #[.slice As ns cs],.int .i64 x,.int .i64 y] wr (aV wr fun w' v=>V w' w'.heap.size (.sl D 152 (fI K)) v)):=fun x y=>pJ As ns cs x y wr HS6.out.v (by omega);have HSE:Hid (∀ A n c A1 n1 c1 w',V w' w'.heap.size (.sl D 154 (dD K (D+1) 152)) (.slice A n c)->V w' w'.heap.size (.sl (D+1) 152 (fI K)) (.slice A1 n1 c1)->Calls Tryz.prog 98 #[.agg #[.slice A n c],.int .i64 y0,.int .i64 y1,.slice A1 n1 c1] w' (aV w' fun w' v=>Du w' (n+1) K (D+1) v)):=fun A n c A1 n1 c1 w' hv hv1=>Ct A n c y0 y1 A1 n1 c1 w' hv (by omega) hv1 (by omega) HI.out.1 HI.out.2.1;go_wp2_with fail;(with_reducible refine (HAL.out _ _).mono ?_);rintro e wq ⟨hbq,v,rfl,hv8⟩;obtain ⟨A8,n8,c8,rfl,-,hn8⟩:=hv8.sl_inv;have HV8:=hD hv8;have HS6:Hid (SB wb wq K D As ns cs):=HS6.out.up hbq;have HX6:=hD (HX6.out.below hbq HX6.out.lt);clear hbq hv8 sb0 x0 x1 x2 x3 x4 x5 t0 t4 HAL;obtain ⟨t0,t4⟩:=HT.out _ HS6.out.bel;have sb0:=HS6.out.box.c1;obtain ⟨x0,x1,x2,x3,x4,x5⟩:=HX6.out.c6;go_wp2_with fail;have fsb0:=aH sb0;have fx0:=aH x0;have fx1:=aH x1;have fx2:=aH x2;have fx3:=aH x3;have fx4:=aH x4;have fx5:=aH x5;have ft0:=aH t0;have HC:Hid (Below wq.heap.size wq wq.drew):=cC (Below.refl _ _);have HCZ:Hid (wq.heap.size<=wq.drew.heap.size):=Nat.le_refl _;refine eA 17 (.two [0,1,2,3,4,6,8,9,10,11,12,13,14,15] 5 (.two [] 7 (.one [] 16 (.one [] 17 (.last []))) 16 (.one [] 7 (.one [] 17 (.last [])))) 16 (.one [] 5 (.one [] 7 (.one [] 17 (.last []))))) (by kernel_rfl) (by kernel_rfl) ?_
          refine bF ?_;simp only [sN]
          repeat (go_big_quiet_step (fail))
          refine wpQuiet_nil ?_;refine ⟨?_,?_⟩
          ·obtain ⟨w5,hW⟩:=nm ((wq.drew).alloc (.cells #[] 152));have HC:Hid (Below wq.heap.size wq w5):=by subst hW;exact bK HC.out _
           have HR:Hid (aJ w5 wq.heap.size 152 (fI K) (.slice (some ⟨wq.heap.size,0,none⟩) 0 0) 0):=by subst hW;exact aJ.empty (wq.drew) _ _ wq.heap.size HCZ.out
           have HCZ:Hid (wq.heap.size<=w5.heap.size):=HC.out.size;refine aE rfl (by simp [go_sem];exact ⟨rfl,hW⟩) ⟨⟨_,HC.out⟩,rfl⟩ ?_;simp only [sP];have HG5:Hid (wq.heap.size < w5.heap.size):=by subst hW;unfold Hid;simp
           clear hW;refine bF ?_;simp only [sN]
           repeat (go_big_quiet_step (fail))
           refine wpQuiet_nil ?_;refine ⟨?_,?_⟩
           ·refine aA rfl ?_;at_builtin;refine pV (kA K) rfl rfl wq.heap.size (.slice (some ⟨wq.heap.size,0,none⟩) 0 0) 0 rfl HR.out D _ _ A8 n8 c8 rfl (HV8.out.up HC.out) (Nat.le_refl _) (by omega) HCZ.out ?_;intro A7 c7 w7 hown7 hg7 hb7;have HC:=hD (HC.out.trans hb7);have HCZ:Hid (wq.heap.size<=w7.heap.size):=HC.out.size;have HR:Hid (aJ w7 wq.heap.size 152 (fI K) (.slice A7 n8 c7) n8):=by unfold Hid;simpa using hown7
            refine ⟨⟨⟨_,HC.out⟩,rfl⟩,?_⟩;simp only [Act.put,List.setIfInBounds_toArray,List.set_cons_succ,List.set_cons_zero,Nat.zero_add];clear hown7 hb7;refine aD ?_;simp only [sN]
            repeat (go_big_quiet_step (fail))
            refine wpQuiet_nil ?_;obtain ⟨w16,hW⟩:=nm ((w7).alloc (.cells #[.int .i64 z0,.int .i64 y2,.bool yb3,.string ys4,.int .i64 y5] 152));have HC:Hid (Below wq.heap.size wq w16):=by subst hW;exact bK HC.out _
            have HX:Hid (aJ w16 wq.heap.size 152 (fI K) (.slice (some ⟨w7.heap.size,0,none⟩) 1 1) 1):=by subst hW;exact aJ.fresh (w7) _ _ wq.heap.size HCZ.out (vals:=[.int .i64 z0,.int .i64 y2,.bool yb3,.string ys4,.int .i64 y5]) (m:=1) rfl (wD HI0.out HI.out.2.2.1 HI.out.2.2.2.1 HI.out.2.2.2.2) (by unfold maxLen;omega)
            have HCZ:Hid (wq.heap.size<=w16.heap.size):=HC.out.size;have HR:Hid (aJ w16 wq.heap.size 152 (fI K) (.slice A7 n8 c7) n8):=by subst hW;exact HR.out.alloc _
            refine aE rfl (by simp [go_sem];exact ⟨rfl,hW⟩) ⟨⟨_,HC.out⟩,rfl⟩ ?_;simp only [sP];clear hW;refine aD ?_;simp only [sN]
            repeat (go_big_quiet_step (fail))
            refine wpQuiet_nil ?_;refine aA rfl ?_;at_builtin;refine pV (kA K) rfl rfl wq.heap.size _ _ rfl HR.out 1 _ _ (some ⟨w7.heap.size,0,none⟩) 1 1 rfl (HX.out.v_ (Nat.le_refl _)) (Nat.le_refl _) (by omega) HCZ.out ?_;intro A17 c17 w17 hown17 hg17 hb17;have HC:=hD (HC.out.trans hb17);have HV17:=hD (hown17.v_ (N:=D+1) (by omega));refine ⟨⟨⟨_,HC.out⟩,rfl⟩,?_⟩;simp only [sP];clear hown17 hg17 hb17;refine aM ?_;simp only [sN]
            repeat (go_big_quiet_step (fail))
            refine wpQuiet_nil ?_;have HSQ:=hD (HS6.out.up HC.out);clear fsb0 fx0 fx1 fx2 fx3 fx4 fx5 ft0 sb0 x0 x1 x2 x3 x4 x5 t0 t4;have sb0:=HSQ.out.box.c1;have q0:=HSQ.out.box.frozen 0;go_wp2_with fail;(with_reducible refine (HSE.out _ _ _ _ _ _ _ (HSQ.out.v.slotW (Nat.le_succ D) HSQ.out.v.len_le) HV17.out).mono ?_);rintro e w18 ⟨hb18,v,rfl,A18,n18,c18,rfl,hv18⟩;have HSP:=hD (HSQ.out.put (D':=D+1) hb18 hv18 (Nat.le_trans hv18.len_le (Nat.succ_le_succ HSQ.out.v.len_le)));have HY:=hD (HSQ.out.box.below hb18 HSQ.out.box.lt);clear hb18 hv18 sb0 q0;have sb0:=HY.out.c1;have q0:=HY.out.frozen 0;go_wp2_with fail;refine NoPanic.normal ?_;go_wp2_with fail;go_roundw
            case rel=>exact ⟨k+1,D+1,A18,n18,c18,by omega,by omega,by go_num,HSP⟩
            case measure=>simp [intOf];omega
           ·obtain ⟨w16,hW⟩:=nm ((w5).alloc (.cells #[.int .i64 z0,.int .i64 y2,.bool yb3,.string ys4,.int .i64 y5] 152));have HC:Hid (Below wq.heap.size wq w16):=by subst hW;exact bK HC.out _
            have HX:Hid (aJ w16 wq.heap.size 152 (fI K) (.slice (some ⟨w5.heap.size,0,none⟩) 1 1) 1):=by subst hW;exact aJ.fresh (w5) _ _ wq.heap.size HCZ.out (vals:=[.int .i64 z0,.int .i64 y2,.bool yb3,.string ys4,.int .i64 y5]) (m:=1) rfl (wD HI0.out HI.out.2.2.1 HI.out.2.2.2.1 HI.out.2.2.2.2) (by unfold maxLen;omega)
            have HCZ:Hid (wq.heap.size<=w16.heap.size):=HC.out.size;have HR:Hid (aJ w16 wq.heap.size 152 (fI K) (.slice (some ⟨wq.heap.size,0,none⟩) 0 0) 0):=by subst hW;exact HR.out.alloc _
            refine aE rfl (by simp [go_sem];exact ⟨rfl,hW⟩) ⟨⟨_,HC.out⟩,rfl⟩ ?_;simp only [sP];clear hW;refine aD ?_;simp only [sN]
            repeat (go_big_quiet_step (fail))
            refine wpQuiet_nil ?_;refine aA rfl ?_;at_builtin;refine pV (kA K) rfl rfl wq.heap.size (.slice (some ⟨wq.heap.size,0,none⟩) 0 0) 0 rfl HR.out D _ _ A8 n8 c8 rfl (HV8.out.up HC.out) (Nat.le_refl _) (by omega) HCZ.out ?_;intro A7 c7 w7 hown7 hg7 hb7;have HC:=hD (HC.out.trans hb7);have HCZ:Hid (wq.heap.size<=w7.heap.size):=HC.out.size;obtain ⟨zs,ho,-⟩:=HR.out;have HX:Hid (aJ w7 wq.heap.size 152 (fI K) (.slice (some ⟨w5.heap.size,0,none⟩) 1 1) 1):=HX.out.other hg7 ho rfl (fun g e1 e2=>by have h1:w5.heap.size=g:=(by simpa [Value.ownBlock] using e1);have h2:wq.heap.size=g:=(by simpa [Value.ownBlock] using e2);have h3:=HG5.out;omega);clear ho;have HR:Hid (aJ w7 wq.heap.size 152 (fI K) (.slice A7 n8 c7) n8):=by unfold Hid;simpa using hown7
            refine ⟨⟨⟨_,HC.out⟩,rfl⟩,?_⟩;simp only [Act.put,List.setIfInBounds_toArray,List.set_cons_succ,List.set_cons_zero,Nat.zero_add];clear hown7 hb7;refine aD ?_;simp only [sN]
            repeat (go_big_quiet_step (fail))
            refine wpQuiet_nil ?_;refine aA rfl ?_;at_builtin;refine pV (kA K) rfl rfl wq.heap.size _ _ rfl HR.out 1 _ _ (some ⟨w5.heap.size,0,none⟩) 1 1 rfl (HX.out.v_ (Nat.le_refl _)) (Nat.le_refl _) (by omega) HCZ.out ?_;intro A17 c17 w17 hown17 hg17 hb17;have HC:=hD (HC.out.trans hb17);have HV17:=hD (hown17.v_ (N:=D+1) (by omega));refine ⟨⟨⟨_,HC.out⟩,rfl⟩,?_⟩;simp only [sP];clear hown17 hg17 hb17;refine aM ?_;simp only [sN]
            repeat (go_big_quiet_step (fail))
            refine wpQuiet_nil ?_;have HSQ:=hD (HS6.out.up HC.out);clear fsb0 fx0 fx1 fx2 fx3 fx4 fx5 ft0 sb0 x0 x1 x2 x3 x4 x5 t0 t4;have sb0:=HSQ.out.box.c1;have q0:=HSQ.out.box.frozen 0;go_wp2_with fail;(with_reducible refine (HSE.out _ _ _ _ _ _ _ (HSQ.out.v.slotW (Nat.le_succ D) HSQ.out.v.len_le) HV17.out).mono ?_);rintro e w18 ⟨hb18,v,rfl,A18,n18,c18,rfl,hv18⟩;have HSP:=hD (HSQ.out.put (D':=D+1) hb18 hv18 (Nat.le_trans hv18.len_le (Nat.succ_le_succ HSQ.out.v.len_le)));have HY:=hD (HSQ.out.box.below hb18 HSQ.out.box.lt);clear hb18 hv18 sb0 q0;have sb0:=HY.out.c1;have q0:=HY.out.frozen 0;go_wp2_with fail;refine NoPanic.normal ?_;go_wp2_with fail;go_roundw
            case rel=>exact ⟨k+1,D+1,A18,n18,c18,by omega,by omega,by go_num,HSP⟩
            case measure=>simp [intOf];omega
          ·obtain ⟨w16,hW⟩:=nm ((wq.drew).alloc (.cells #[.int .i64 z0,.int .i64 y2,.bool yb3,.string ys4,.int .i64 y5] 152));have HC:Hid (Below wq.heap.size wq w16):=by subst hW;exact bK HC.out _
           have HX:Hid (aJ w16 wq.heap.size 152 (fI K) (.slice (some ⟨wq.heap.size,0,none⟩) 1 1) 1):=by subst hW;exact aJ.fresh (wq.drew) _ _ wq.heap.size HCZ.out (vals:=[.int .i64 z0,.int .i64 y2,.bool yb3,.string ys4,.int .i64 y5]) (m:=1) rfl (wD HI0.out HI.out.2.2.1 HI.out.2.2.2.1 HI.out.2.2.2.2) (by unfold maxLen;omega)
           have HCZ:Hid (wq.heap.size<=w16.heap.size):=HC.out.size;refine aE rfl (by simp [go_sem];exact ⟨rfl,hW⟩) ⟨⟨_,HC.out⟩,rfl⟩ ?_;simp only [sP];have HG6:Hid (wq.heap.size < w16.heap.size):=by subst hW;unfold Hid;simp
           clear hW;refine aD ?_;simp only [sN]
           repeat (go_big_quiet_step (fail))
           refine wpQuiet_nil ?_;obtain ⟨w5,hW⟩:=nm ((w16).alloc (.cells #[] 152));have HC:Hid (Below wq.heap.size wq w5):=by subst hW;exact bK HC.out _
           have HR:Hid (aJ w5 wq.heap.size 152 (fI K) (.slice (some ⟨w16.heap.size,0,none⟩) 0 0) 0):=by subst hW;exact aJ.empty (w16) _ _ wq.heap.size HCZ.out
           have HCZ:Hid (wq.heap.size<=w5.heap.size):=HC.out.size;have HX:Hid (aJ w5 wq.heap.size 152 (fI K) (.slice (some ⟨wq.heap.size,0,none⟩) 1 1) 1):=by subst hW;exact HX.out.alloc _
           refine aE rfl (by simp [go_sem];exact ⟨rfl,hW⟩) ⟨⟨_,HC.out⟩,rfl⟩ ?_;simp only [sP];clear hW;refine aD ?_;simp only [sN]
           repeat (go_big_quiet_step (fail))
           refine wpQuiet_nil ?_;refine aA rfl ?_;at_builtin;refine pV (kA K) rfl rfl wq.heap.size (.slice (some ⟨w16.heap.size,0,none⟩) 0 0) 0 rfl HR.out D _ _ A8 n8 c8 rfl (HV8.out.up HC.out) (Nat.le_refl _) (by omega) HCZ.out ?_;intro A7 c7 w7 hown7 hg7 hb7;have HC:=hD (HC.out.trans hb7);have HCZ:Hid (wq.heap.size<=w7.heap.size):=HC.out.size;obtain ⟨zs,ho,-⟩:=HR.out;have HX:Hid (aJ w7 wq.heap.size 152 (fI K) (.slice (some ⟨wq.heap.size,0,none⟩) 1 1) 1):=HX.out.other hg7 ho rfl (fun g e1 e2=>by have h1:wq.heap.size=g:=(by simpa [Value.ownBlock] using e1);have h2:w16.heap.size=g:=(by simpa [Value.ownBlock] using e2);have h3:=HG6.out;omega);clear ho;have HR:Hid (aJ w7 wq.heap.size 152 (fI K) (.slice A7 n8 c7) n8):=by unfold Hid;simpa using hown7
           refine ⟨⟨⟨_,HC.out⟩,rfl⟩,?_⟩;simp only [Act.put,List.setIfInBounds_toArray,List.set_cons_succ,List.set_cons_zero,Nat.zero_add];clear hown7 hb7;refine aD ?_;simp only [sN]
           repeat (go_big_quiet_step (fail))
           refine wpQuiet_nil ?_;refine aA rfl ?_;at_builtin;refine pV (kA K) rfl rfl wq.heap.size _ _ rfl HR.out 1 _ _ (some ⟨wq.heap.size,0,none⟩) 1 1 rfl (HX.out.v_ (Nat.le_refl _)) (Nat.le_refl _) (by omega) HCZ.out ?_;intro A17 c17 w17 hown17 hg17 hb17;have HC:=hD (HC.out.trans hb17);have HV17:=hD (hown17.v_ (N:=D+1) (by omega));refine ⟨⟨⟨_,HC.out⟩,rfl⟩,?_⟩;simp only [sP];clear hown17 hg17 hb17;refine aM ?_;simp only [sN]
           repeat (go_big_quiet_step (fail))
           refine wpQuiet_nil ?_;have HSQ:=hD (HS6.out.up HC.out);clear fsb0 fx0 fx1 fx2 fx3 fx4 fx5 ft0 sb0 x0 x1 x2 x3 x4 x5 t0 t4;have sb0:=HSQ.out.box.c1;have q0:=HSQ.out.box.frozen 0;go_wp2_with fail;(with_reducible refine (HSE.out _ _ _ _ _ _ _ (HSQ.out.v.slotW (Nat.le_succ D) HSQ.out.v.len_le) HV17.out).mono ?_);rintro e w18 ⟨hb18,v,rfl,A18,n18,c18,rfl,hv18⟩;have HSP:=hD (HSQ.out.put (D':=D+1) hb18 hv18 (Nat.le_trans hv18.len_le (Nat.succ_le_succ HSQ.out.v.len_le)));have HY:=hD (HSQ.out.box.below hb18 HSQ.out.box.lt);clear hb18 hv18 sb0 q0;have sb0:=HY.out.c1;have q0:=HY.out.frozen 0;go_wp2_with fail;refine NoPanic.normal ?_;go_wp2_with fail;go_roundw
           case rel=>exact ⟨k+1,D+1,A18,n18,c18,by omega,by omega,by go_num,HSP⟩
           case measure=>simp [intOf];omega
      ·go_wp2_with fail;go_roundw
       case rel=>exact ⟨j+1,D,As,ns,cs,by omega,by rw [Nat.add_mul,Nat.one_mul];omega,by go_num,HS⟩
       case measure=>simp [intOf];omega
    ·have hjm:D<=L*N:=Nat.le_trans hDq (Nat.mul_le_mul_right _ (by omega));have HSF:=hD (HS.out.wide hjm);have y0:=HSF.out.box.c1;have HRF:Hid (aK wr w.heap.size 71 #[.slice none 0 0]):=HR0.out.below HSF.out.bel HR0.out.lt;have r0:=HRF.out.c1;have q0:=HRF.out.frozen 0;have HBF:=hD (HBw.out.trans (HSF.out.bel.mono HBw.out.size));go_wp2_with fail;refine rR (cs:=#[.slice As ns cs]) (HRF.out.set_ 0 _) Tryz.underlying71 rfl rfl rfl rfl (by kernel_rfl) ?_;exact ⟨HBF.out.setCell (Nat.le_refl _) _,_,rfl,As,ns,cs,rfl,(HSF.out.v.set_ HRF.out (by simp [Ty.has,Ty.hasAny]) 0 _).more (by simp [World.setCell])⟩
end
end Go.Proofs.YtkgpoimmniojjaaGreat
