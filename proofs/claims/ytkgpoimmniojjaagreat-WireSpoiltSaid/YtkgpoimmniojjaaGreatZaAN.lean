/- No condition. -/
import Derived.Test.YtkgpoimmniojjaaGreatZaAJ
import Derived.Deep.CutBlock
namespace Go.Proofs.YtkgpoimmniojjaaGreat
set_option linter.unusedVariables false
set_option linter.unusedSimpArgs false
set_option maxRecDepth 100000
set_option maxHeartbeats 16000000
section
open Go.RowKit
theorem wI {N K:Nat} (A:Option Addr) (n c:Nat) (w:World) (h:V w w.heap.size (.sl N 83 (aQ K)) (.slice A n c)) (hN:N<=1000000000):
  Calls Tryz.prog 77 #[.slice A n c] w (aV w fun w' v=>V w' w'.heap.size (.sl N 83 (aQ K)) v):=by
 have H:=hD h;have hn:=h.len_le;clear h;go_enter Tryz.func77,Tryz.ntmps77;go_wp2_with fail;go_loopw [3,4] (fun o i wr=>∃ (k m:Nat) (A':Option Addr) (c':Nat),k<=n/\m<=k/\i=.int .i64 (k:Int)/\o=.slice A' m c'/\Hid (aJ wr w.heap.size 83 (aQ K) (.slice A' m c') m)/\Hid (Below w.heap.size w wr)) (fun _ i _=>n - (intOf i).toNat)
 case atStart=>exact ⟨0,0,none,0,Nat.zero_le _,Nat.zero_le _,rfl,rfl,aJ.nil _ _ _ _,Below.refl _ _⟩
 case round=>
  obtain ⟨k,m,A',c',hk,hm,rfl,rfl,HO,HB⟩:=hrel;by_cases hlt:k < n
  ·have hlm:k < n:=hlt
   go_upto_block 2 with fail
   go_cut [5] (fun j wq=>∃ (t:Nat),j=.int .i64 (t:Int)/\t<=m/\Hid (aJ wq w.heap.size 83 (aQ K) (.slice A' m c') m)/\Hid (Below w.heap.size w wq))
   case first=>
    go_wp2_with fail;go_loopw [5] (fun j wq=>∃ (t:Nat),j=.int .i64 (t:Int)/\t<=m/\Hid (aJ wq w.heap.size 83 (aQ K) (.slice A' m c') m)/\Hid (Below w.heap.size w wq)) (fun j _=>(intOf j).toNat)
    case atStart=>exact ⟨m,rfl,Nat.le_refl _,HO,HB⟩
    case round=>
     obtain ⟨t,rfl,ht,HOq,HBq⟩:=hrel;rcases Nat.eq_zero_or_pos t with rfl | ht0
     ·go_wp2_with fail;go_quiet (fail);have HE1:=hD (HOq.out.drewN nq);have HE2:Hid (Below w.heap.size w (wr.drewN nq)):=aN HBq.out nq;go_wp2_with fail;go_meet;exact ⟨0,rfl,Nat.zero_le _,HE1,HE2⟩
     ·obtain ⟨b,off,z0,z1,z2,b3,s4,z5,rfl,-,e0,e1,-⟩:=(H.out.bel HBq.out).cell_at hlm;obtain ⟨b',off',y0,y1,y2,y3,t4,y5,rfl,-,g0,g1,-⟩:=(HOq.out.v_ (N:=m) (Nat.le_refl _)).cell_at (k:=t - 1) (by omega);obtain ⟨v,hv⟩:=nm (BP y0 y1 z0 z1);have HAH:Hid (∀ w',Calls Tryz.prog 101 #[.int .i64 y0,.int .i64 y1,.int .i64 z0,.int .i64 z1] w' (Is w' (.bool v))):=fun w'=>hv ▸ mM _ _ _ _ w';have dt:decide (0 < (t:Int))=true:=by simp;omega
      clear hv;have q:v=false\/v=true:=by cases v <;> simp
      rcases q with rfl | rfl
      ·go_wp2_with fail;go_quiet (exact eU (HAH.out _));have HE1:=hD (HOq.out.drewN nq);have HE2:Hid (Below w.heap.size w (wr.drewN nq)):=aN HBq.out nq;go_wp2_with fail;go_roundw
       case rel=>exact ⟨t - 1,by go_num,by omega,HE1,HE2⟩
       case measure=>simp [intOf];omega
      ·go_wp2_with fail;go_quiet (exact eU (HAH.out _));have HE1:=hD (HOq.out.drewN nq);have HE2:Hid (Below w.heap.size w (wr.drewN nq)):=aN HBq.out nq;go_wp2_with fail;go_meet;exact ⟨t,rfl,ht,HE1,HE2⟩
   case rest=>
    obtain ⟨t,rfl,ht,HOc,HBc⟩:=hcut;clear HO HB;have HZc:Hid (w.heap.size<=wc.heap.size):=HBc.out.size;go_upto_region 9 with fail;go_cut [76] (fun q wq=>∃ (v:Bool),q=.bool v/\(v=true->t < m)/\Hid (aJ wq w.heap.size 83 (aQ K) (.slice A' m c') m)/\Hid (Below w.heap.size w wq))
    case first=>
     by_cases htm:t < m
     ·obtain ⟨b,off,z0,z1,z2,b3,s4,z5,rfl,-,e0,e1,-⟩:=(H.out.bel HBc.out).cell_at hlm;obtain ⟨b',off',y0,y1,y2,y3,t4,y5,rfl,-,g0,g1,-⟩:=(HOc.out.v_ (N:=m) (Nat.le_refl _)).cell_at htm;have q:(y0 == z0)=false\/((y0 == z0)=true):=by cases y0 == z0 <;> simp
      have dt:decide ((t:Int) < (m:Int))=true:=by simp;omega
      have HFIN:Hid (∀ d:Nat,aJ (wc.drewN d) w.heap.size 83 (aQ K) (.slice (some ⟨b',off',none⟩) m c') m/\Below w.heap.size w (wc.drewN d)):=fun d=>⟨HOc.out.drewN d,aN HBc.out d⟩;rcases q with q | q
      all_goals
       go_wp2_with fail;go_quiet (fail);go_wp2_with fail;go_meet;exact ⟨_,rfl,fun _=>htm,(HFIN.out _).1,(HFIN.out _).2⟩
     ·have dt:decide ((t:Int) < (m:Int))=false:=by simp;omega
      have HFIN:Hid (∀ d:Nat,aJ (wc.drewN d) w.heap.size 83 (aQ K) (.slice A' m c') m/\Below w.heap.size w (wc.drewN d)):=fun d=>⟨HOc.out.drewN d,aN HBc.out d⟩;go_wp2_with fail;go_quiet (fail);go_wp2_with fail;go_meet;exact ⟨false,rfl,(fun h=>by cases h),(HFIN.out _).1,(HFIN.out _).2⟩
    case rest=>
     obtain ⟨v,rfl,hvt,HOd,HBd⟩:=hcut;clear HOc HBc HZc;have HZd:Hid (w.heap.size<=wc.heap.size):=HBd.out.size;have HVd:=hD (HOd.out.v_ (N:=m) (Nat.le_refl _));obtain ⟨b,off,z0,z1,z2,b3,s4,z5,rfl,hb,e0,e1,e2,e3,e4,e5,i0,i1,i2,i4,i5⟩:=H.out.cell_at hlm;have HCW:Hid (∀ w',Below w.heap.size w w'->w'.cell? ⟨b,off+k*6,none⟩=some (.int .i64 z0)/\w'.cell? ⟨b,off+k*6+1,none⟩=some (.int .i64 z1)/\w'.cell? ⟨b,off+k*6+2,none⟩=some (.int .i64 z2)/\w'.cell? ⟨b,off+k*6+3,none⟩=some (.bool b3)/\w'.cell? ⟨b,off+k*6+4,none⟩=some (.string s4)/\w'.cell? ⟨b,off+k*6+5,none⟩=some (.int .i64 z5)):=fun w' hb'=>
      ⟨(hb'.cell (p:=⟨b,_,none⟩) hb).trans e0,(hb'.cell (p:=⟨b,_,none⟩) hb).trans e1,(hb'.cell (p:=⟨b,_,none⟩) hb).trans e2,(hb'.cell (p:=⟨b,_,none⟩) hb).trans e3,(hb'.cell (p:=⟨b,_,none⟩) hb).trans e4,(hb'.cell (p:=⟨b,_,none⟩) hb).trans e5⟩
     have HTW:Hid (∀ w':World,Ts w' w'.heap.size (aQ K) [.int .i64 z0,.int .i64 z1,.int .i64 z2,.bool b3,.string s4,.int .i64 z5]):=fun w'=>bJ i0 i1 i2 i4 i5;clear hb e0 e1 e2 e3 e4 e5 i0 i1 i2 i4 i5
     cases v
     ·clear hvt;rcases Nat.eq_zero_or_pos t with rfl | ht0
      ·have HSV:=HVd;go_wp2_with (at_builtin;refine pV (kC K) rfl rfl w.heap.size _ _ rfl (aJ.empty wc _ _ w.heap.size HZd.out) m wc.heap.size _ A' m c' rfl (HSV.out.bel ((Below.refl _ wc).alloc (Nat.le_refl _) _)) (by simp) (by omega) (by have:=HZd.out;simp;omega) ?_);intro A3 c3 w3 hown3 hg3 hb3;have HO3:Hid (aJ w3 w.heap.size 83 (aQ K) (.slice A3 m c3) m):=by unfold Hid;simpa using hown3
       have hbn:Below wc.heap.size wc w3:=((Below.refl _ wc).alloc (Nat.le_refl _) _).trans (hg3.below (by simp) (fun g e=>by simp [Value.ownBlock] at e;omega));have HB3:=hD (aB HBd.out hbn);have HOT:Hid (aJ w3.drew w.heap.size 83 (aQ K) (.slice A' 0 c') 0):=((HOd.out.up hbn).take (by omega)).drew;have HZ3:Hid (w.heap.size<=w3.drew.heap.size):=HB3.out.size;have HNE:Hid (∀ g,(Value.slice A3 m c3).ownBlock=some g->(Value.slice A' 0 c').ownBlock≠some g):=fun g e1 e2=>by
        have h1:=HOd.out.lt g (by rw [jL A' m 0 c' c'];exact e2);rcases hg3.own g (by rw [<- e1]) with h2 | h2
        ·(simp [Value.ownBlock] at h2 <;> omega)
        ·(simp at h2 <;> omega)
       have HRG:Hid (∀ A6 c6 w6,aR (w3.drew.alloc (.cells [Value.int .i64 z0,.int .i64 z1,.int .i64 z2,.bool b3,.string s4,.int .i64 z5].toArray 83)) w6 (.slice A' 0 c') (.slice A6 (0+1) c6)->V w6 w6.heap.size (.sl m 83 (aQ K)) (.slice A3 m c3)):=fun A6 c6 w6 hg=>by
        obtain ⟨xs,ho,-⟩:=HOT.out.alloc (.cells [Value.int .i64 z0,.int .i64 z1,.int .i64 z2,.bool b3,.string s4,.int .i64 z5].toArray 83);exact ((HO3.out.drew.alloc _).other hg ho rfl HNE.out).v_ (by omega)
       have HCK:Hid (∀ w',Below w.heap.size w3 w'->w'.cell? ⟨b,off+k*6,none⟩=some (.int .i64 z0)/\w'.cell? ⟨b,off+k*6+1,none⟩=some (.int .i64 z1)/\w'.cell? ⟨b,off+k*6+2,none⟩=some (.int .i64 z2)/\w'.cell? ⟨b,off+k*6+3,none⟩=some (.bool b3)/\w'.cell? ⟨b,off+k*6+4,none⟩=some (.string s4)/\w'.cell? ⟨b,off+k*6+5,none⟩=some (.int .i64 z5)):=fun w' hb'=>HCW.out w' (HB3.out.trans hb');have B0:Hid (Below w.heap.size w3 w3.drew):=aN (Below.refl _ _) 1;have B1:Hid (∀ o,Below w.heap.size w3 (w3.drew.alloc o)):=fun o=>B0.out.alloc HZ3.out o;have HTS:Hid (Ts w3.drew w3.drew.heap.size (aQ K) [.int .i64 z0,.int .i64 z1,.int .i64 z2,.bool b3,.string s4,.int .i64 z5]):=HTW.out _;obtain ⟨q0,q1,q2,q3,q4,q5⟩:=HCK.out _ (Below.refl _ _);clear hown3 hg3 hb3 hbn;go_wp2_with fail
       go_region_held3 (fun w'=>w'.cell? ⟨b,off+k*6,none⟩=some (.int .i64 z0)/\w'.cell? ⟨b,off+k*6+1,none⟩=some (.int .i64 z1)/\w'.cell? ⟨b,off+k*6+2,none⟩=some (.int .i64 z2)/\w'.cell? ⟨b,off+k*6+3,none⟩=some (.bool b3)/\w'.cell? ⟨b,off+k*6+4,none⟩=some (.string s4)/\w'.cell? ⟨b,off+k*6+5,none⟩=some (.int .i64 z5)) (first | exact HCK.out _ B7.out | exact HCK.out _ B6.out | exact HCK.out _ (B1.out _) | exact HCK.out _ B0.out) (first | (refine fV rfl _ _ _ _ rfl w.heap.size 83 (aQ K) 56 rN Tryz.underlying37 lY (by simp) rfl (.slice A6 (0+1) c6) (0+1) (by simp [Act.eval]) O6.out m _ _ A3 m c3 (by simp [Act.eval]) R6.out (Nat.le_refl _) (by unfold maxLen;omega) (by omega) Z6.out ?_;intro A7 c7 w7 hown7 hg7 hb7;have O7:=hD hown7;have B7:=hD (B6.out.trans hb7);clear hown7 hg7 hb7) | (refine s1 (kC K) rfl rfl w.heap.size (.slice A' 0 c') 0 (by simp [Act.eval]) HOT.out 83 _ 1 1 rfl (by simp [Act.eval]) rfl HTS.out (by omega) HZ3.out ?_;intro A6 c6 w6 hown6 hg6 hb6;have O6:=hD hown6;have B6:=hD (B0.out.trans hb6);have Z6:=hD (Nat.le_trans HZ3.out hb6.size);have R6:=hD (HRG.out _ _ _ hg6);clear hown6 hg6 hb6))
       all_goals
        have HE1:=hD (HB3.out.trans B7.out);go_wp2_with fail;go_roundw
        case rel=>exact ⟨k+1,0+1+m,A7,c7,by omega,by omega,by go_num,rfl,O7,HE1⟩
        case measure=>simp [intOf];omega
      ·obtain ⟨bo,oo,rfl,hd⟩:=HVd.out.from_ (d:=t) ht ht0 (by simp);rcases hd with ⟨hcd,hn9,hv⟩ | ⟨hcd,hv⟩
       ·have htm:m=t:=by omega
        have HSV:=hD hv;clear hv;subst hcd;go_wp2_with (at_builtin;refine pV (kC K) rfl rfl w.heap.size _ _ rfl (aJ.empty wc _ _ w.heap.size HZd.out) m wc.heap.size _ (some ⟨bo,oo,none⟩) 0 0 rfl (HSV.out.bel ((Below.refl _ wc).alloc (Nat.le_refl _) _)) (by simp) (by omega) (by have:=HZd.out;simp;omega) ?_);intro A3 c3 w3 hown3 hg3 hb3;have HO3:Hid (aJ w3 w.heap.size 83 (aQ K) (.slice A3 0 c3) 0):=by unfold Hid;simpa using hown3
        have hbn:Below wc.heap.size wc w3:=((Below.refl _ wc).alloc (Nat.le_refl _) _).trans (hg3.below (by simp) (fun g e=>by simp [Value.ownBlock] at e;omega));have HB3:=hD (aB HBd.out hbn);have HOT:Hid (aJ w3.drew w.heap.size 83 (aQ K) (.slice (some ⟨bo,oo,none⟩) c' c') c'):=((HOd.out.up hbn).take (by omega)).drew;have HZ3:Hid (w.heap.size<=w3.drew.heap.size):=HB3.out.size;have HNE:Hid (∀ g,(Value.slice A3 0 c3).ownBlock=some g->(Value.slice (some ⟨bo,oo,none⟩) c' c').ownBlock≠some g):=fun g e1 e2=>by
         have h1:=HOd.out.lt g (by rw [jL (some ⟨bo,oo,none⟩) m c' c' c'];exact e2);rcases hg3.own g (by rw [<- e1]) with h2 | h2
         ·(simp [Value.ownBlock] at h2 <;> omega)
         ·(simp at h2 <;> omega)
        have HRG:Hid (∀ A6 c6 w6,aR (w3.drew.alloc (.cells [Value.int .i64 z0,.int .i64 z1,.int .i64 z2,.bool b3,.string s4,.int .i64 z5].toArray 83)) w6 (.slice (some ⟨bo,oo,none⟩) c' c') (.slice A6 (c'+1) c6)->V w6 w6.heap.size (.sl m 83 (aQ K)) (.slice A3 0 c3)):=fun A6 c6 w6 hg=>by
         obtain ⟨xs,ho,-⟩:=HOT.out.alloc (.cells [Value.int .i64 z0,.int .i64 z1,.int .i64 z2,.bool b3,.string s4,.int .i64 z5].toArray 83);exact ((HO3.out.drew.alloc _).other hg ho rfl HNE.out).v_ (by omega)
        have HCK:Hid (∀ w',Below w.heap.size w3 w'->w'.cell? ⟨b,off+k*6,none⟩=some (.int .i64 z0)/\w'.cell? ⟨b,off+k*6+1,none⟩=some (.int .i64 z1)/\w'.cell? ⟨b,off+k*6+2,none⟩=some (.int .i64 z2)/\w'.cell? ⟨b,off+k*6+3,none⟩=some (.bool b3)/\w'.cell? ⟨b,off+k*6+4,none⟩=some (.string s4)/\w'.cell? ⟨b,off+k*6+5,none⟩=some (.int .i64 z5)):=fun w' hb'=>HCW.out w' (HB3.out.trans hb');have B0:Hid (Below w.heap.size w3 w3.drew):=aN (Below.refl _ _) 1;have B1:Hid (∀ o,Below w.heap.size w3 (w3.drew.alloc o)):=fun o=>B0.out.alloc HZ3.out o;have HTS:Hid (Ts w3.drew w3.drew.heap.size (aQ K) [.int .i64 z0,.int .i64 z1,.int .i64 z2,.bool b3,.string s4,.int .i64 z5]):=HTW.out _;obtain ⟨q0,q1,q2,q3,q4,q5⟩:=HCK.out _ (Below.refl _ _);clear hown3 hg3 hb3 hbn;have iz0:(0:Int)<=((c':Nat):Int):=by omega
        go_wp2_with fail
        go_region_held3 (fun w'=>w'.cell? ⟨b,off+k*6,none⟩=some (.int .i64 z0)/\w'.cell? ⟨b,off+k*6+1,none⟩=some (.int .i64 z1)/\w'.cell? ⟨b,off+k*6+2,none⟩=some (.int .i64 z2)/\w'.cell? ⟨b,off+k*6+3,none⟩=some (.bool b3)/\w'.cell? ⟨b,off+k*6+4,none⟩=some (.string s4)/\w'.cell? ⟨b,off+k*6+5,none⟩=some (.int .i64 z5)) (first | exact HCK.out _ B7.out | exact HCK.out _ B6.out | exact HCK.out _ (B1.out _) | exact HCK.out _ B0.out) (first | (refine fV rfl _ _ _ _ rfl w.heap.size 83 (aQ K) 56 rN Tryz.underlying37 lY (by simp) rfl (.slice A6 (c'+1) c6) (c'+1) (by simp [Act.eval]) O6.out m _ _ A3 0 c3 (by simp [Act.eval]) R6.out (Nat.le_refl _) (by unfold maxLen;omega) (by omega) Z6.out ?_;intro A7 c7 w7 hown7 hg7 hb7;have O7:=hD hown7;have B7:=hD (B6.out.trans hb7);clear hown7 hg7 hb7) | (refine s1 (kC K) rfl rfl w.heap.size (.slice (some ⟨bo,oo,none⟩) c' c') c' (by simp [Act.eval]) HOT.out 83 _ 1 1 rfl (by simp [Act.eval]) rfl HTS.out (by omega) HZ3.out ?_;intro A6 c6 w6 hown6 hg6 hb6;have O6:=hD hown6;have B6:=hD (B0.out.trans hb6);have Z6:=hD (Nat.le_trans HZ3.out hb6.size);have R6:=hD (HRG.out _ _ _ hg6);clear hown6 hg6 hb6))
        all_goals
         have HE1:=hD (HB3.out.trans B7.out);go_wp2_with fail;go_roundw
         case rel=>exact ⟨k+1,c'+1+0,A7,c7,by omega,by omega,by go_num,rfl,O7,HE1⟩
         case measure=>simp [intOf];omega
       ·have HSV:=hD hv;have hlc:t < c':=by have:=HVd.out.cap_le;omega
        clear hv hcd;go_wp2_with (at_builtin;refine pV (kC K) rfl rfl w.heap.size _ _ rfl (aJ.empty wc _ _ w.heap.size HZd.out) m wc.heap.size _ (some ⟨bo,oo+t*6,none⟩) (m - t) (c' - t) rfl (HSV.out.bel ((Below.refl _ wc).alloc (Nat.le_refl _) _)) (by simp) (by omega) (by have:=HZd.out;simp;omega) ?_);intro A3 c3 w3 hown3 hg3 hb3;have HO3:Hid (aJ w3 w.heap.size 83 (aQ K) (.slice A3 (m - t) c3) (m - t)):=by unfold Hid;simpa using hown3
        have hbn:Below wc.heap.size wc w3:=((Below.refl _ wc).alloc (Nat.le_refl _) _).trans (hg3.below (by simp) (fun g e=>by simp [Value.ownBlock] at e;omega));have HB3:=hD (aB HBd.out hbn);have HOT:Hid (aJ w3.drew w.heap.size 83 (aQ K) (.slice (some ⟨bo,oo,none⟩) t c') t):=((HOd.out.up hbn).take (by omega)).drew;have HZ3:Hid (w.heap.size<=w3.drew.heap.size):=HB3.out.size;have HNE:Hid (∀ g,(Value.slice A3 (m - t) c3).ownBlock=some g->(Value.slice (some ⟨bo,oo,none⟩) t c').ownBlock≠some g):=fun g e1 e2=>by
         have h1:=HOd.out.lt g (by rw [jL (some ⟨bo,oo,none⟩) m t c' c'];exact e2);rcases hg3.own g (by rw [<- e1]) with h2 | h2
         ·(simp [Value.ownBlock] at h2 <;> omega)
         ·(simp at h2 <;> omega)
        have HRG:Hid (∀ A6 c6 w6,aR (w3.drew.alloc (.cells [Value.int .i64 z0,.int .i64 z1,.int .i64 z2,.bool b3,.string s4,.int .i64 z5].toArray 83)) w6 (.slice (some ⟨bo,oo,none⟩) t c') (.slice A6 (t+1) c6)->V w6 w6.heap.size (.sl m 83 (aQ K)) (.slice A3 (m - t) c3)):=fun A6 c6 w6 hg=>by
         obtain ⟨xs,ho,-⟩:=HOT.out.alloc (.cells [Value.int .i64 z0,.int .i64 z1,.int .i64 z2,.bool b3,.string s4,.int .i64 z5].toArray 83);exact ((HO3.out.drew.alloc _).other hg ho rfl HNE.out).v_ (by omega)
        have HCK:Hid (∀ w',Below w.heap.size w3 w'->w'.cell? ⟨b,off+k*6,none⟩=some (.int .i64 z0)/\w'.cell? ⟨b,off+k*6+1,none⟩=some (.int .i64 z1)/\w'.cell? ⟨b,off+k*6+2,none⟩=some (.int .i64 z2)/\w'.cell? ⟨b,off+k*6+3,none⟩=some (.bool b3)/\w'.cell? ⟨b,off+k*6+4,none⟩=some (.string s4)/\w'.cell? ⟨b,off+k*6+5,none⟩=some (.int .i64 z5)):=fun w' hb'=>HCW.out w' (HB3.out.trans hb');have B0:Hid (Below w.heap.size w3 w3.drew):=aN (Below.refl _ _) 1;have B1:Hid (∀ o,Below w.heap.size w3 (w3.drew.alloc o)):=fun o=>B0.out.alloc HZ3.out o;have HTS:Hid (Ts w3.drew w3.drew.heap.size (aQ K) [.int .i64 z0,.int .i64 z1,.int .i64 z2,.bool b3,.string s4,.int .i64 z5]):=HTW.out _;obtain ⟨q0,q1,q2,q3,q4,q5⟩:=HCK.out _ (Below.refl _ _);clear hown3 hg3 hb3 hbn;have iz0:(0:Int)<=((t:Nat):Int):=by omega
        have iz1:((t:Nat):Int)<=(((c':Nat)):Int):=by omega
        go_wp2_with fail
        go_region_held3 (fun w'=>w'.cell? ⟨b,off+k*6,none⟩=some (.int .i64 z0)/\w'.cell? ⟨b,off+k*6+1,none⟩=some (.int .i64 z1)/\w'.cell? ⟨b,off+k*6+2,none⟩=some (.int .i64 z2)/\w'.cell? ⟨b,off+k*6+3,none⟩=some (.bool b3)/\w'.cell? ⟨b,off+k*6+4,none⟩=some (.string s4)/\w'.cell? ⟨b,off+k*6+5,none⟩=some (.int .i64 z5)) (first | exact HCK.out _ B7.out | exact HCK.out _ B6.out | exact HCK.out _ (B1.out _) | exact HCK.out _ B0.out) (first | (refine fV rfl _ _ _ _ rfl w.heap.size 83 (aQ K) 56 rN Tryz.underlying37 lY (by simp) rfl (.slice A6 (t+1) c6) (t+1) (by simp [Act.eval]) O6.out m _ _ A3 (m - t) c3 (by simp [Act.eval]) R6.out (Nat.le_refl _) (by unfold maxLen;omega) (by omega) Z6.out ?_;intro A7 c7 w7 hown7 hg7 hb7;have O7:=hD hown7;have B7:=hD (B6.out.trans hb7);clear hown7 hg7 hb7) | (refine s1 (kC K) rfl rfl w.heap.size (.slice (some ⟨bo,oo,none⟩) t c') t (by simp [Act.eval]) HOT.out 83 _ 1 1 rfl (by simp [Act.eval]) rfl HTS.out (by omega) HZ3.out ?_;intro A6 c6 w6 hown6 hg6 hb6;have O6:=hD hown6;have B6:=hD (B0.out.trans hb6);have Z6:=hD (Nat.le_trans HZ3.out hb6.size);have R6:=hD (HRG.out _ _ _ hg6);clear hown6 hg6 hb6))
        all_goals
         have HE1:=hD (HB3.out.trans B7.out);go_wp2_with fail;go_roundw
         case rel=>exact ⟨k+1,t+1+(m - t),A7,c7,by omega,by omega,by go_num,rfl,O7,HE1⟩
         case measure=>simp [intOf];omega
     ·have htm:t < m:=hvt rfl;clear hvt;obtain ⟨bo,oo,rfl,hd⟩:=HVd.out.from_ (d:=t+1) (by omega) (by omega) (by simp);rcases hd with ⟨hcd,hn9,hv⟩ | ⟨hcd,hv⟩
      ·have HSV:=hD hv;clear hv;subst hcd;go_wp2_with (at_builtin;refine pV (kC K) rfl rfl w.heap.size _ _ rfl (aJ.empty wc _ _ w.heap.size HZd.out) m wc.heap.size _ (some ⟨bo,oo,none⟩) 0 0 rfl (HSV.out.bel ((Below.refl _ wc).alloc (Nat.le_refl _) _)) (by simp) (by omega) (by have:=HZd.out;simp;omega) ?_);intro A3 c3 w3 hown3 hg3 hb3;have HO3:Hid (aJ w3 w.heap.size 83 (aQ K) (.slice A3 0 c3) 0):=by unfold Hid;simpa using hown3
       have hbn:Below wc.heap.size wc w3:=((Below.refl _ wc).alloc (Nat.le_refl _) _).trans (hg3.below (by simp) (fun g e=>by simp [Value.ownBlock] at e;omega));have HB3:=hD (aB HBd.out hbn);have HOT:Hid (aJ w3.drew w.heap.size 83 (aQ K) (.slice (some ⟨bo,oo,none⟩) t (t+1)) t):=((HOd.out.up hbn).take (by omega)).drew;have HZ3:Hid (w.heap.size<=w3.drew.heap.size):=HB3.out.size;have HNE:Hid (∀ g,(Value.slice A3 0 c3).ownBlock=some g->(Value.slice (some ⟨bo,oo,none⟩) t (t+1)).ownBlock≠some g):=fun g e1 e2=>by
        have h1:=HOd.out.lt g (by rw [jL (some ⟨bo,oo,none⟩) m t (t+1) (t+1)];exact e2);rcases hg3.own g (by rw [<- e1]) with h2 | h2
        ·(simp [Value.ownBlock] at h2 <;> omega)
        ·(simp at h2 <;> omega)
       have HRG:Hid (∀ A6 c6 w6,aR (w3.drew.alloc (.cells [Value.int .i64 z0,.int .i64 z1,.int .i64 z2,.bool b3,.string s4,.int .i64 z5].toArray 83)) w6 (.slice (some ⟨bo,oo,none⟩) t (t+1)) (.slice A6 (t+1) c6)->V w6 w6.heap.size (.sl m 83 (aQ K)) (.slice A3 0 c3)):=fun A6 c6 w6 hg=>by
        obtain ⟨xs,ho,-⟩:=HOT.out.alloc (.cells [Value.int .i64 z0,.int .i64 z1,.int .i64 z2,.bool b3,.string s4,.int .i64 z5].toArray 83);exact ((HO3.out.drew.alloc _).other hg ho rfl HNE.out).v_ (by omega)
       have HCK:Hid (∀ w',Below w.heap.size w3 w'->w'.cell? ⟨b,off+k*6,none⟩=some (.int .i64 z0)/\w'.cell? ⟨b,off+k*6+1,none⟩=some (.int .i64 z1)/\w'.cell? ⟨b,off+k*6+2,none⟩=some (.int .i64 z2)/\w'.cell? ⟨b,off+k*6+3,none⟩=some (.bool b3)/\w'.cell? ⟨b,off+k*6+4,none⟩=some (.string s4)/\w'.cell? ⟨b,off+k*6+5,none⟩=some (.int .i64 z5)):=fun w' hb'=>HCW.out w' (HB3.out.trans hb');have B0:Hid (Below w.heap.size w3 w3.drew):=aN (Below.refl _ _) 1;have B1:Hid (∀ o,Below w.heap.size w3 (w3.drew.alloc o)):=fun o=>B0.out.alloc HZ3.out o;have HTS:Hid (Ts w3.drew w3.drew.heap.size (aQ K) [.int .i64 z0,.int .i64 z1,.int .i64 z2,.bool b3,.string s4,.int .i64 z5]):=HTW.out _;obtain ⟨q0,q1,q2,q3,q4,q5⟩:=HCK.out _ (Below.refl _ _);clear hown3 hg3 hb3 hbn;have iz0:(0:Int)<=(t:Int):=by omega
       have iz1:(t:Int)<=(t:Int)+1:=by omega
       go_wp2_with fail
       go_region_held3 (fun w'=>w'.cell? ⟨b,off+k*6,none⟩=some (.int .i64 z0)/\w'.cell? ⟨b,off+k*6+1,none⟩=some (.int .i64 z1)/\w'.cell? ⟨b,off+k*6+2,none⟩=some (.int .i64 z2)/\w'.cell? ⟨b,off+k*6+3,none⟩=some (.bool b3)/\w'.cell? ⟨b,off+k*6+4,none⟩=some (.string s4)/\w'.cell? ⟨b,off+k*6+5,none⟩=some (.int .i64 z5)) (first | exact HCK.out _ B7.out | exact HCK.out _ B6.out | exact HCK.out _ (B1.out _) | exact HCK.out _ B0.out) (first | (refine fV rfl _ _ _ _ rfl w.heap.size 83 (aQ K) 56 rN Tryz.underlying37 lY (by simp) rfl (.slice A6 (t+1) c6) (t+1) (by simp [Act.eval]) O6.out m _ _ A3 0 c3 (by simp [Act.eval]) R6.out (Nat.le_refl _) (by unfold maxLen;omega) (by omega) Z6.out ?_;intro A7 c7 w7 hown7 hg7 hb7;have O7:=hD hown7;have B7:=hD (B6.out.trans hb7);clear hown7 hg7 hb7) | (refine s1 (kC K) rfl rfl w.heap.size (.slice (some ⟨bo,oo,none⟩) t (t+1)) t (by simp [Act.eval]) HOT.out 83 _ 1 1 rfl (by simp [Act.eval]) rfl HTS.out (by omega) HZ3.out ?_;intro A6 c6 w6 hown6 hg6 hb6;have O6:=hD hown6;have B6:=hD (B0.out.trans hb6);have Z6:=hD (Nat.le_trans HZ3.out hb6.size);have R6:=hD (HRG.out _ _ _ hg6);clear hown6 hg6 hb6))
       all_goals
        have HE1:=hD (HB3.out.trans B7.out);go_wp2_with fail;go_roundw
        case rel=>exact ⟨k+1,t+1+0,A7,c7,by omega,by omega,by go_num,rfl,O7,HE1⟩
        case measure=>simp [intOf];omega
      ·have HSV:=hD hv;have hlc:t+1 < c':=by have:=HVd.out.cap_le;omega
       clear hv hcd;go_wp2_with (at_builtin;refine pV (kC K) rfl rfl w.heap.size _ _ rfl (aJ.empty wc _ _ w.heap.size HZd.out) m wc.heap.size _ (some ⟨bo,oo+(t+1)*6,none⟩) (m - (t+1)) (c' - (t+1)) rfl (HSV.out.bel ((Below.refl _ wc).alloc (Nat.le_refl _) _)) (by simp) (by omega) (by have:=HZd.out;simp;omega) ?_);intro A3 c3 w3 hown3 hg3 hb3;have HO3:Hid (aJ w3 w.heap.size 83 (aQ K) (.slice A3 (m - (t+1)) c3) (m - (t+1))):=by unfold Hid;simpa using hown3
       have hbn:Below wc.heap.size wc w3:=((Below.refl _ wc).alloc (Nat.le_refl _) _).trans (hg3.below (by simp) (fun g e=>by simp [Value.ownBlock] at e;omega));have HB3:=hD (aB HBd.out hbn);have HOT:Hid (aJ w3.drew w.heap.size 83 (aQ K) (.slice (some ⟨bo,oo,none⟩) t c') t):=((HOd.out.up hbn).take (by omega)).drew;have HZ3:Hid (w.heap.size<=w3.drew.heap.size):=HB3.out.size;have HNE:Hid (∀ g,(Value.slice A3 (m - (t+1)) c3).ownBlock=some g->(Value.slice (some ⟨bo,oo,none⟩) t c').ownBlock≠some g):=fun g e1 e2=>by
        have h1:=HOd.out.lt g (by rw [jL (some ⟨bo,oo,none⟩) m t c' c'];exact e2);rcases hg3.own g (by rw [<- e1]) with h2 | h2
        ·(simp [Value.ownBlock] at h2 <;> omega)
        ·(simp at h2 <;> omega)
       have HRG:Hid (∀ A6 c6 w6,aR (w3.drew.alloc (.cells [Value.int .i64 z0,.int .i64 z1,.int .i64 z2,.bool b3,.string s4,.int .i64 z5].toArray 83)) w6 (.slice (some ⟨bo,oo,none⟩) t c') (.slice A6 (t+1) c6)->V w6 w6.heap.size (.sl m 83 (aQ K)) (.slice A3 (m - (t+1)) c3)):=fun A6 c6 w6 hg=>by
        obtain ⟨xs,ho,-⟩:=HOT.out.alloc (.cells [Value.int .i64 z0,.int .i64 z1,.int .i64 z2,.bool b3,.string s4,.int .i64 z5].toArray 83);exact ((HO3.out.drew.alloc _).other hg ho rfl HNE.out).v_ (by omega)
       have HCK:Hid (∀ w',Below w.heap.size w3 w'->w'.cell? ⟨b,off+k*6,none⟩=some (.int .i64 z0)/\w'.cell? ⟨b,off+k*6+1,none⟩=some (.int .i64 z1)/\w'.cell? ⟨b,off+k*6+2,none⟩=some (.int .i64 z2)/\w'.cell? ⟨b,off+k*6+3,none⟩=some (.bool b3)/\w'.cell? ⟨b,off+k*6+4,none⟩=some (.string s4)/\w'.cell? ⟨b,off+k*6+5,none⟩=some (.int .i64 z5)):=fun w' hb'=>HCW.out w' (HB3.out.trans hb');have B0:Hid (Below w.heap.size w3 w3.drew):=aN (Below.refl _ _) 1;have B1:Hid (∀ o,Below w.heap.size w3 (w3.drew.alloc o)):=fun o=>B0.out.alloc HZ3.out o;have HTS:Hid (Ts w3.drew w3.drew.heap.size (aQ K) [.int .i64 z0,.int .i64 z1,.int .i64 z2,.bool b3,.string s4,.int .i64 z5]):=HTW.out _;obtain ⟨q0,q1,q2,q3,q4,q5⟩:=HCK.out _ (Below.refl _ _);clear hown3 hg3 hb3 hbn;have iz0:(0:Int)<=((t:Nat):Int):=by omega
       have iz1:((t:Nat):Int)<=(((c':Nat)):Int):=by omega
       go_wp2_with fail
       go_region_held3 (fun w'=>w'.cell? ⟨b,off+k*6,none⟩=some (.int .i64 z0)/\w'.cell? ⟨b,off+k*6+1,none⟩=some (.int .i64 z1)/\w'.cell? ⟨b,off+k*6+2,none⟩=some (.int .i64 z2)/\w'.cell? ⟨b,off+k*6+3,none⟩=some (.bool b3)/\w'.cell? ⟨b,off+k*6+4,none⟩=some (.string s4)/\w'.cell? ⟨b,off+k*6+5,none⟩=some (.int .i64 z5)) (first | exact HCK.out _ B7.out | exact HCK.out _ B6.out | exact HCK.out _ (B1.out _) | exact HCK.out _ B0.out) (first | (refine fV rfl _ _ _ _ rfl w.heap.size 83 (aQ K) 56 rN Tryz.underlying37 lY (by simp) rfl (.slice A6 (t+1) c6) (t+1) (by simp [Act.eval]) O6.out m _ _ A3 (m - (t+1)) c3 (by simp [Act.eval]) R6.out (Nat.le_refl _) (by unfold maxLen;omega) (by omega) Z6.out ?_;intro A7 c7 w7 hown7 hg7 hb7;have O7:=hD hown7;have B7:=hD (B6.out.trans hb7);clear hown7 hg7 hb7) | (refine s1 (kC K) rfl rfl w.heap.size (.slice (some ⟨bo,oo,none⟩) t c') t (by simp [Act.eval]) HOT.out 83 _ 1 1 rfl (by simp [Act.eval]) rfl HTS.out (by omega) HZ3.out ?_;intro A6 c6 w6 hown6 hg6 hb6;have O6:=hD hown6;have B6:=hD (B0.out.trans hb6);have Z6:=hD (Nat.le_trans HZ3.out hb6.size);have R6:=hD (HRG.out _ _ _ hg6);clear hown6 hg6 hb6))
       all_goals
        have HE1:=hD (HB3.out.trans B7.out);go_wp2_with fail;go_roundw
        case rel=>exact ⟨k+1,t+1+(m - (t+1)),A7,c7,by omega,by omega,by go_num,rfl,O7,HE1⟩
        case measure=>simp [intOf];omega
  ·go_wp2_with fail;go_ret;exact ⟨HB.out,_,rfl,(HO.out).v_ (by omega)⟩
end
end Go.Proofs.YtkgpoimmniojjaaGreat
