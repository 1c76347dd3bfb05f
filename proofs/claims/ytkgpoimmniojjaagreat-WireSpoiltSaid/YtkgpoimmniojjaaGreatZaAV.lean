/- No condition. -/
import Derived.Test.YtkgpoimmniojjaaGreatZaAU
import Derived.BigGuardPart
import Derived.Test.YtkgpoimmniojjaaGreatZaAQ
import Derived.Test.YtkgpoimmniojjaaGreatZaAR
import Derived.Test.YtkgpoimmniojjaaGreatZaAS
namespace Go.Proofs.YtkgpoimmniojjaaGreat
set_option linter.unusedVariables false
set_option linter.unusedSimpArgs false
set_option maxRecDepth 100000
set_option maxHeartbeats 16000000
section
open Go.RowKit
variable {K M N L n1 c1 n2 c2 n4 B N':Nat} {w w':World} {z0:Int} {A1 A2 A4:Option Addr} {s3:ByteArray}
theorem uT (A:Option Addr) (n c:Nat) (site:Int) (w:World) (h:V w w.heap.size (.sl L 39 (cL K M N 3 83)) (.slice A n c)) (hL:L<=1000) (hN:N<=1000000000) (hs:site=1\/site=2\/site=3):
  Calls Tryz.prog 34 #[.slice A n c,.int .i64 site] w (fun e w'=>∃ z,e=.returned (.int .i64 z)/\0<=z/\z<=4194304/\w=w'):=by
 rcases hs with rfl | rfl | rfl
 ·exact zY A n c w h hL hN
 ·exact zX A n c w h hL hN
 ·exact zW A n c w h hL hN
theorem aT.of_new (h:Below w.heap.size w w') (M:Nat->Prop):aT w w' M:=⟨h.os,h.tape,h.output,h.size,fun i hi _=>h.block i hi⟩
theorem dQ.up {c4:Nat} (h:dQ w w.heap.size K M N z0 A1 n1 c1 A2 n2 c2 s3 A4 n4 c4) (hb:Below w.heap.size w w'):dQ w' w'.heap.size K M N z0 A1 n1 c1 A2 n2 c2 s3 A4 n4 c4:=(h.bel hb).more hb.size
theorem V.comW {L':Nat} {ei ec e:TypeId} {A:Option Addr} {n c:Nat} (h:V w B (.sl L e (cL K M N ei ec)) (.slice A n c)) (hN:N<=N') (hL:n<=L'):V w B (.sl L' e (cL K M N' ei ec)) (.slice A n c):=by
 cases h with
 | sl n e fs A len cap xs hc hn hr hb hx=>
  refine .sl L' e (cL K M N' ei ec) A n c xs hc hL hr hb (fun j u t hu ht=>?_);have h5:j % 5 < 5:=Nat.mod_lt _ (by omega);have hl:(cL K M N' ei ec).length=5:=rfl;have hl2:(cL K M N ei ec).length=5:=rfl;rw [hl] at ht;obtain ⟨r,hr'⟩:∃ r,j % 5=r:=⟨_,rfl⟩;rw [hr'] at ht h5
  match r,h5 with
  | 0,_=>cases ht;exact hx j u _ hu (by rw [hl2,hr'];rfl)
  | 1,_=>cases ht;exact hx j u _ hu (by rw [hl2,hr'];rfl)
  | 2,_=>cases ht;exact hx j u _ hu (by rw [hl2,hr'];rfl)
  | 3,_=>cases ht;exact hx j u _ hu (by rw [hl2,hr'];rfl)
  | 4,_=>
   cases ht
   have h1:=hx j u (.sl N ec (aQ K)) hu (by rw [hl2,hr'];rfl);obtain ⟨A2,n2,c2,rfl,-,-⟩:=h1.sl_inv;exact h1.wide (Nat.le_trans h1.len_le hN)
structure CR (w wq:World) (K M NW D gc gs:Nat) (At:Option Addr) (nt ct:Nat) (As:Option Addr) (ns cs:Nat) (z0:Int) (A9:Option Addr) (n9 c9:Nat) (A4:Option Addr) (n4 c4:Nat):Prop where
 com:aK wq gc 39 #[.int .i64 z0,.slice At nt ct,.slice A9 n9 c9,.string ⟨#[100,101,101,100]⟩,.slice A4 n4 c4]
 i0:aO z0
 v9:V wq wq.heap.size (.sl M 3 [.int]) (.slice A9 n9 c9)
 v4:V wq wq.heap.size (.sl NW 83 (aQ K)) (.slice A4 n4 c4)
 sta:aK wq gs 71 #[.slice As ns cs]
 vs:V wq wq.heap.size (.sl D 154 (dD K D 152)) (.slice As ns cs)
 vt:V wq wq.heap.size (.sl 2 3 [.int]) (.slice At nt ct)
 res:aK wq (w.heap.size+1) 39 #[.int .i64 0,.slice none 0 0,.slice none 0 0,.string ⟨#[]⟩,.slice none 0 0]
 bel:Below w.heap.size w wq
def CO (w:World) (K M N:Nat) (e:Ending) (w':World):Prop:=Below w.heap.size w w'/\∃ z0 A1 n1 c1 A2 n2 c2 s3 A4 n4 c4 b,e=.returned (.tuple #[.agg #[.int .i64 z0,.slice A1 n1 c1,.slice A2 n2 c2,.string s3,.slice A4 n4 c4],.bool b])/\dQ w' w'.heap.size K M N z0 A1 n1 c1 A2 n2 c2 s3 A4 n4 c4
theorem dQ.wide {c4:Nat} (h:dQ w B K M N z0 A1 n1 c1 A2 n2 c2 s3 A4 n4 c4) (hN:N<=N'):dQ w B K M N' z0 A1 n1 c1 A2 n2 c2 s3 A4 n4 c4:=
 ⟨h.i0,h.v1,h.v2,h.s,h.v4.wide (Nat.le_trans h.v4.len_le hN)⟩
theorem xM (A:Option Addr) (n c:Nat) (A1:Option Addr) (n1 c1:Nat) (dk da db dc:Int) (w:World) (h:V w w.heap.size (.sl L 39 (cL K M N 3 83)) (.slice A n c)) (h1:V w w.heap.size (.sl L 3 [.int]) (.slice A1 n1 c1)) (hn0:0 < n) (hn1:0 < n1) (hL:L<=900) (hM:M<=1000) (hM2:2<=M) (hN:L*N+N<=9000000) (hK:K<=1000000000) (hK10:10<=K) (hda:aO da) (hdc:aO dc):
  Calls Tryz.prog 15 #[.slice A n c,.slice A1 n1 c1,.agg #[.int .i64 dk,.int .i64 da,.int .i64 db,.int .i64 dc]] w (CO w K M (12*(L*N)+20)):=by
 have hw3:wrap64 (da.tdiv 3)=da.tdiv 3:=wrap64_in (gC hda 3);have hw9:wrap64 (da.tdiv 9)=da.tdiv 9:=wrap64_in (gC hda 9);have hw27:wrap64 (da.tdiv 27)=da.tdiv 27:=wrap64_in (gC hda 27);have hNLN:N<=L*N:=Nat.le_mul_of_pos_left _ (Nat.lt_of_lt_of_le hn0 h.len_le);obtain ⟨W,hW⟩:=nm ((w.alloc (.cells #[.int .i64 dk,.int .i64 da,.int .i64 db,.int .i64 dc] 44)).alloc (.cells #[.int .i64 0,.slice none 0 0,.slice none 0 0,.string ⟨#[]⟩,.slice none 0 0] 39));have HX0:Hid (aK W w.heap.size 44 #[.int .i64 dk,.int .i64 da,.int .i64 db,.int .i64 dc]):=by subst hW;exact ((aK.new w _ _).alloc _)
 have HX1:Hid (aK W (w.heap.size+1) 39 #[.int .i64 0,.slice none 0 0,.slice none 0 0,.string ⟨#[]⟩,.slice none 0 0]):=by subst hW;exact (aK.new1 w _ _ _)
 have HBW:Hid (Below w.heap.size w W):=by subst hW;exact (bK (bK (Below.refl _ w) _) _)
 have HM3:Hid (∀ z w',Calls Tryz.prog 9 #[.int .i64 z,.int .i64 3] w' (fun e w2=>∃ q,e=.returned (.int .i64 q)/\0<=q/\q < 3/\w'=w2)):=fun z w'=>(dM z 3 w' (by omega)).mono fun e w2 h=>⟨_,h.1,(gA z 3).1,(gA z 3).2 (by omega),h.2⟩;have HMN:Hid (∀ z (m:Nat) w',m<=1000->0 < m->Calls Tryz.prog 9 #[.int .i64 z,.int .i64 (m:Int)] w' (fun e w2=>∃ q:Nat,e=.returned (.int .i64 (q:Int))/\q < m/\w'=w2)):=fun z m w' hm h0=>(dM z m w' (by omega)).mono fun e w2 h=>by
  obtain ⟨h1,h2⟩:=gA z m;have h3:=h2 (by omega);obtain ⟨q,hq⟩:∃ q:Nat,nJ z m=(q:Int):=⟨(nJ z m).toNat,by omega⟩;refine ⟨q,?_,by omega,h.2⟩;rw [<- hq];exact h.1
 have HM13:Hid (∀ z w',Calls Tryz.prog 9 #[.int .i64 z,.int .i64 13] w' (fun e w2=>∃ q,e=.returned (.int .i64 q)/\w'=w2)):=fun z w'=>(dM z 13 w' (by omega)).mono fun e w2 h=>⟨_,h.1,h.2⟩;have H:=hD (h.bel HBW.out);have H1:=hD (h1.bel HBW.out);have HTI:Hid (∀ A2 n2 c2 w',Below W.heap.size W w'->V w' w'.heap.size (.sl 2 3 [.int]) (.slice A2 n2 c2)->Calls Tryz.prog 32 #[.slice A n c,.slice A2 n2 c2] w' (aV w' fun w' v=>V w' w'.heap.size (.sl 2 3 [.int]) v)):=fun A2 n2 c2 w' hb hv=>AW A n c A2 n2 c2 w' (h.up (aB HBW.out hb)) (by omega) hM hv (by omega);have HAT:Hid (∀ A2 n2 c2 w',Below W.heap.size W w'->V w' w'.heap.size (.sl 2 3 [.int]) (.slice A2 n2 c2)->Calls Tryz.prog 33 #[.slice A n c,.slice A2 n2 c2] w' (aV w' fun w' v=>Du w' (L*N) K (L*N) v)):=fun A2 n2 c2 w' hb hv=>BO A n c A2 n2 c2 w' (h.up (aB HBW.out hb)) hv (by omega) hM (by omega) (by omega);have HNX:Hid (∀ s w',s=1\/s=2\/s=3->Below W.heap.size W w'->Calls Tryz.prog 34 #[.slice A n c,.int .i64 s] w' (fun e w2=>∃ z,e=.returned (.int .i64 z)/\0<=z/\z<=4194304/\w'=w2)):=fun s w' hs hb=>uT A n c s w' (h.up (aB HBW.out hb)) (by omega) (by omega) hs;have hn1L:=h1.len_le;have hnL:=h.len_le;obtain ⟨x0,x1,x2,x3⟩:=HX0.out.c4;have HDX:Hid (∀ w',Below W.heap.size W w'->w'.cell? ⟨w.heap.size,0,none⟩=some (.int .i64 dk)/\w'.cell? ⟨w.heap.size,1,none⟩=some (.int .i64 da)/\w'.cell? ⟨w.heap.size,2,none⟩=some (.int .i64 db)/\w'.cell? ⟨w.heap.size,3,none⟩=some (.int .i64 dc)):=fun w' hb=>by
  have HY:=HX0.out.below hb HX0.out.lt;obtain ⟨z0,z1,z2,z3⟩:=HY.c4;exact ⟨z0,z1,z2,z3⟩
 have HW:=hD hW;clear hW h h1;go_enter Tryz.func15,Tryz.ntmps15;go_wp2_with (rw [HW.out]);(with_reducible refine (HM3.out _ _).mono ?_);rintro e w1 ⟨q1,rfl,hq1,hq2,rfl⟩;go_wp2_with fail;(with_reducible refine (HM3.out _ _).mono ?_);rintro e w1 ⟨q2,rfl,hq3,hq4,rfl⟩;have hq1c:q1=0\/q1=1\/q1=2:=by omega
 have hq2c:q2=0\/q2=1\/q2=2:=by omega
 clear hq1 hq2 hq3 hq4;go_upto_region 3 with fail;go_cut [10] (fun x wq=>∃ z:Int,x=.slice (some ⟨W.heap.size,0,none⟩) 1 1/\aO z/\Hid (wq=W.alloc (.cells #[.int .i64 z] 3)))
 case first=>
  clear x0 x1 x2 x3;have key:∀ k:Nat,k < n1->∃ b off z,A1=some ⟨b,off,none⟩/\W.cell? ⟨b,off+k,none⟩=some (.int .i64 z)/\aO z:=fun k hk=>by
   obtain ⟨b,off,z,e1,-,e2,e3⟩:=H1.out.int_at hk;exact ⟨b,off,z,e1,e2,e3⟩
  rcases hq2c with rfl | rfl | rfl
  ·obtain ⟨b,off,z,rfl,e0,i0⟩:=key (n1 - 1) (by omega);have t0:(0:Int)<=(n1:Int) - 1:=by omega
   have t1:(n1:Int) - 1 < (n1:Int):=by omega
   have t2:((n1:Int) - 1).toNat=n1 - 1:=by omega
   clear key;go_wp2_with fail;go_meet;exact ⟨z,rfl,i0,rfl⟩
  ·by_cases h2:2<=n1
   ·obtain ⟨b,off,z,rfl,e0,i0⟩:=key (n1 - 2) (by omega);have t3:¬ (n1:Int) - 1 - 1 < 0:=by omega
    have t0:(0:Int)<=(n1:Int) - 1 - 1:=by omega
    have t1:(n1:Int) - 1 - 1 < (n1:Int):=by omega
    have t2:((n1:Int) - 1 - 1).toNat=n1 - 2:=by omega
    clear key;go_wp2_with fail
    all_goals first | (exfalso;omega) | skip
    all_goals
     go_meet;exact ⟨z,rfl,i0,rfl⟩
   ·obtain ⟨b,off,z,rfl,e0,i0⟩:=key 0 (by omega);simp only [Nat.add_zero] at e0;have t3:(n1:Int) - 1 - 1 < 0:=by omega
    clear key;go_wp2_with fail
    all_goals first | (exfalso;omega) | skip
    all_goals
     go_meet;exact ⟨z,rfl,i0,rfl⟩
  ·by_cases h2:3<=n1
   ·obtain ⟨b,off,z,rfl,e0,i0⟩:=key (n1 - 3) (by omega);have t3:¬ (n1:Int) - 1 - 2 < 0:=by omega
    have t0:(0:Int)<=(n1:Int) - 1 - 2:=by omega
    have t1:(n1:Int) - 1 - 2 < (n1:Int):=by omega
    have t2:((n1:Int) - 1 - 2).toNat=n1 - 3:=by omega
    clear key;go_wp2_with fail
    all_goals first | (exfalso;omega) | skip
    all_goals
     go_meet;exact ⟨z,rfl,i0,rfl⟩
   ·obtain ⟨b,off,z,rfl,e0,i0⟩:=key 0 (by omega);simp only [Nat.add_zero] at e0;have t3:(n1:Int) - 1 - 2 < 0:=by omega
    clear key;go_wp2_with fail
    all_goals first | (exfalso;omega) | skip
    all_goals
     go_meet;exact ⟨z,rfl,i0,rfl⟩
 case rest=>
  obtain ⟨z,rfl,hz,hwc⟩:=hcut;have hwq:=hwc.out;have HP:Hid (aJ wc W.heap.size 3 [.int] (.slice (some ⟨W.heap.size,0,none⟩) 1 1) 1):=by rw [hwq];exact aJ.fresh W 3 [.int] W.heap.size (Nat.le_refl _) (vals:=[.int .i64 z]) (m:=1) rfl (eE hz) (by unfold maxLen;omega)
  have HB1:Hid (Below W.heap.size W wc):=by rw [hwq];exact bK (Below.refl _ _) _
  have HZ1:=hD HB1.out.size;clear hwc hwq hz x0 x1 x2 x3;obtain ⟨x0,x1,x2,x3⟩:=HDX.out _ HB1.out;go_wp2_with fail;(with_reducible refine (HM3.out _ _).mono ?_);rintro e w1 ⟨q3,rfl,-,-,rfl⟩;have hq3:(q3 == 0)=true\/(q3 == 0)=false:=by cases (q3 == 0) <;> simp
  go_upto_if 37 with fail;go_cut [10] (fun x wq=>∃ (Ap:Option Addr) (np cp:Nat),x=.slice Ap np cp/\Hid (V wq wq.heap.size (.sl 2 3 [.int]) (.slice Ap np cp))/\Hid (Below W.heap.size W wq))
  case first=>
   rcases hq3 with hq3 | hq3
   ·go_wp2_with fail;(with_reducible refine (HMN.out _ n1 _ (by omega) hn1).mono ?_);rintro e w1 ⟨qn,rfl,hqn,rfl⟩;obtain ⟨b,off,z,rfl,-,e0,i0⟩:=(H1.out.bel (HB1.out.mono HBW.out.size)).int_at hqn;go_wp2_with (at_builtin;refine p1 kI rfl rfl W.heap.size (.slice (some ⟨W.heap.size,0,none⟩) 1 1) 1 rfl HP.out 3 _ 1 1 rfl rfl rfl (eE i0) (by omega) HZ1.out ?_);intro A3 c3 w3 hown3 hg3 hb3;have HV3:=hD (hown3.v_ (N:=2) (by omega));have HB3:=hD (HB1.out.trans hb3);clear hown3 hg3 hb3;go_wp2_with fail;go_meet;exact ⟨_,_,_,rfl,HV3,HB3⟩
   ·go_wp2_with fail;go_meet;exact ⟨_,_,_,rfl,HP.out.v_ (by omega),HB1⟩
  case rest=>
   obtain ⟨Ap,np,cp,rfl,HVP,HB3⟩:=hcut;clear HP HB1 HZ1 x0 x1 x2 x3 hq3;obtain ⟨x0,x1,x2,x3⟩:=HDX.out _ HB3.out;go_wp2_with fail;(with_reducible refine (HTI.out _ _ _ _ HB3.out HVP.out).mono ?_);rintro e w5 ⟨hb5,v,rfl,hv⟩;obtain ⟨At,nt,ct,rfl,-,-⟩:=hv.sl_inv;obtain ⟨W6,hW6⟩:=nm (w5.alloc (.cells #[.int .i64 0,.slice At nt ct,.slice none 0 0,.string ⟨#[100,101,101,100]⟩,.slice none 0 0] 39));have HK6:=bk hW6;have HB6:Hid (Below W.heap.size W W6):=by subst hW6;exact bK (aB HB3.out hb5) _
   have HVT:Hid (V W6 W6.heap.size (.sl 2 3 [.int]) (.slice At nt ct)):=by subst hW6;exact hv.up (bK (Below.refl _ _) _)
   have HZ5:Hid (W.heap.size<=w5.heap.size):=(aB HB3.out hb5).size;have HW6:=hD hW6;clear hW6 hb5 hv x0 x1 x2 x3;obtain ⟨x0,x1,x2,x3⟩:=HDX.out _ HB6.out;obtain ⟨p0,p1q,p2,p3,p4⟩:=HK6.out.c5;go_wp2_with (rw [HW6.out]);(with_reducible refine (HAT.out _ _ _ _ HB6.out HVT.out).mono ?_);rintro e w7 ⟨hb7,v,rfl,As,ns,cs,rfl,hvs⟩;obtain ⟨W8,hW8⟩:=nm (w7.alloc (.cells #[.slice As ns cs] 71));have HS8:=bk hW8;have HB8:Hid (Below W.heap.size W W8):=by subst hW8;exact bK (aB HB6.out hb7) _
   have HVS:Hid (V W8 W8.heap.size (.sl (L*N) 154 (dD K (L*N) 152)) (.slice As ns cs)):=by subst hW8;exact hvs.up (bK (Below.refl _ _) _)
   have HK8:Hid (aK W8 w5.heap.size 39 #[.int .i64 0,.slice At nt ct,.slice none 0 0,.string ⟨#[100,101,101,100]⟩,.slice none 0 0]):=by subst hW8;exact (HK6.out.below hb7 HK6.out.lt).alloc _
   have HVT8:Hid (V W8 W8.heap.size (.sl 2 3 [.int]) (.slice At nt ct)):=by subst hW8;exact (HVT.out.up hb7).up (bK (Below.refl _ _) _)
   have HZ7:Hid (w5.heap.size < w7.heap.size):=Nat.lt_of_lt_of_le HK6.out.lt hb7.size;have HR8:Hid (aK W8 (w.heap.size+1) 39 #[.int .i64 0,.slice none 0 0,.slice none 0 0,.string ⟨#[]⟩,.slice none 0 0]):=HX1.out.below HB8.out HX1.out.lt;have HBw8:=hD (HBW.out.trans (HB8.out.mono HBW.out.size));have HW8:=hD hW8;clear hW8 hb7 hvs HVT HK6 HW6 HB6 p0 p1q p2 p3 p4 x0 x1 x2 x3 HB3 HVP;obtain ⟨x0,x1,x2,x3⟩:=HDX.out _ HB8.out;obtain ⟨p0,p1q,p2,p3,p4⟩:=HK8.out.c5;have s0:=HS8.out.c1;go_wp2_with (rw [HW8.out]);(with_reducible refine (HNX.out _ _ (by omega) HB8.out).mono ?_);rintro e w9 ⟨la,rfl,hl0,hl1,rfl⟩;have HS1:Hid ((1:Int)+q1=1\/(1:Int)+q1=2\/(1:Int)+q1=3):=by unfold Hid;omega
   go_wp2_with fail;(with_reducible refine (HM13.out _ _).mono ?_);rintro e w9 ⟨q4,rfl,rfl⟩;have hq4:(q4 == 12)=true\/(q4 == 12)=false:=by cases (q4 == 12) <;> simp
   go_upto_if 64 with fail;go_cut [14] (fun x wq=>∃ (z0:Int) (A9:Option Addr) (n9 c9:Nat) (A4:Option Addr) (n4 c4:Nat),Hid (CR w wq K M (12*(L*N)+20) (L*N) w5.heap.size w7.heap.size At nt ct As ns cs z0 A9 n9 c9 A4 n4 c4))
   case first=>
    rcases hq4 with hq4 | hq4
    ·go_wp2_with fail;(with_reducible refine (HMN.out _ n _ (by omega) hn0).mono ?_);rintro e w9 ⟨qn,rfl,hqn,rfl⟩;obtain ⟨b,off,y0,B1,m1,d1,B9,m9,d9,us3,B4,m4,d4,rfl,-,e0,e1,e2,e3,e4,i0,-,-,-,v4⟩:=(H.out.bel (HB8.out.mono HBW.out.size)).com_at hqn;have HI0:=hD i0;have HV4:=hD v4;clear i0 v4;go_upto_region 11 with fail;obtain ⟨W10,hW10⟩:=nm (W8.alloc (.cells #[.int .i64 y0,.slice B1 m1 d1,.slice B9 m9 d9,.string us3,.slice B4 m4 d4] 39));have HY:=bk hW10;have HK10:Hid (aK W10 w5.heap.size 39 #[.int .i64 0,.slice At nt ct,.slice none 0 0,.string ⟨#[100,101,101,100]⟩,.slice none 0 0]):=by subst hW10;exact HK8.out.alloc _
     have HS10:Hid (aK W10 w7.heap.size 71 #[.slice As ns cs]):=by subst hW10;exact HS8.out.alloc _
     have HR10:Hid (aK W10 (w.heap.size+1) 39 #[.int .i64 0,.slice none 0 0,.slice none 0 0,.string ⟨#[]⟩,.slice none 0 0]):=by subst hW10;exact HR8.out.alloc _
     have HB10:=bw hW10;have HG:Hid (w5.heap.size < W8.heap.size):=HK8.out.lt;rw [hW10];clear hW10 p0 p1q p2 p3 p4 s0 x0 x1 x2 x3 e0 e1 e2 e3 e4;obtain ⟨y_0,y_1,y_2,y_3,y_4⟩:=HY.out.c5;have fy0:=bA (M:=fun i=>i=w5.heap.size) y_0 (by have:=HG.out;omega);have fy4:=bA (M:=fun i=>i=w5.heap.size) y_4 (by have:=HG.out;omega);refine bM (fun i=>i=w5.heap.size) 10 (.one [0,1,3,4,5,6] 2 (.one [7] 8 (.one [9] 10 (.last [])))) (by kernel_rfl) (by kernel_rfl) ?_;refine aD ?_;simp only [sN]
     repeat (go_big_quiet_step (fail))
     refine wpQuiet_nil ?_;obtain ⟨W11,hW11⟩:=nm (W10.drew.alloc (.cells #[.int .i64 y0] 3));have HP11:Hid (aJ W11 W8.heap.size 3 [.int] (.slice (some ⟨W10.heap.size,0,none⟩) 1 1) 1):=by subst hW11;exact aJ.fresh W10.drew _ _ W8.heap.size HB10.out.size (vals:=[.int .i64 y0]) (m:=1) rfl (eE HI0.out) (by unfold maxLen;omega)
     have HB11:Hid (Below W10.heap.size W10 W11):=by subst hW11;exact bK (cC (Below.refl _ _)) _
     refine aE rfl (by simp [go_sem];exact ⟨rfl,hW11⟩) ⟨⟨_,aT.of_new HB11.out _⟩,rfl⟩ ?_;simp only [sP];clear hW11;have HK11:=hD (HK10.out.below HB11.out HK10.out.lt);have HS11:=hD (HS10.out.below HB11.out HS10.out.lt);have HR11:=hD (HR10.out.below HB11.out HR10.out.lt);obtain ⟨p0,p1q,p2,p3,p4⟩:=HK11.out.c5;obtain ⟨q0,q1,q2,q3,q4⟩:=HK11.out.f5;refine aD ?_;simp only [sN]
     repeat (go_big_quiet_step (fail))
     refine wpQuiet_nil ?_;refine aA rfl ?_;go_wp2_with fail;obtain ⟨W12,hW12⟩:=nm (W11.setCell ⟨w5.heap.size,2,none⟩ (.slice (some ⟨W10.heap.size,0,none⟩) 1 1));have HK12:Hid (aK W12 w5.heap.size 39 #[.int .i64 0,.slice At nt ct,.slice (some ⟨W10.heap.size,0,none⟩) 1 1,.string ⟨#[100,101,101,100]⟩,.slice none 0 0]):=by subst hW12;exact HK11.out.set_ 2 _
     have HC12:Hid (aT W10 W12 (fun i=>i=w5.heap.size)):=by subst hW12;exact (aT.of_new HB11.out (fun i=>i=w5.heap.size)).setCell (p:=⟨w5.heap.size,2,none⟩) (.inl rfl) _
     rw [hW12];clear p0 p1q p2 p3 p4 q0 q1 q2 q3 q4;obtain ⟨p0,p1q,p2,p3,p4⟩:=HK12.out.c5;obtain ⟨q0,q1,q2,q3,q4⟩:=HK12.out.f5;refine ⟨⟨⟨_,HC12.out⟩,rfl⟩,?_⟩;refine aD ?_;simp only [sN]
     repeat (go_big_quiet_step (fail))
     refine wpQuiet_nil ?_;refine aA rfl ?_;go_wp2_with fail;obtain ⟨W13,hW13⟩:=nm (W12.setCell ⟨w5.heap.size,4,none⟩ (.slice B4 m4 d4));have HK13:Hid (aK W13 w5.heap.size 39 #[.int .i64 0,.slice At nt ct,.slice (some ⟨W10.heap.size,0,none⟩) 1 1,.string ⟨#[100,101,101,100]⟩,.slice B4 m4 d4]):=by subst hW13;exact HK12.out.set_ 4 _
     have HC13:Hid (aT W10 W13 (fun i=>i=w5.heap.size)):=by subst hW13;exact HC12.out.setCell (p:=⟨w5.heap.size,4,none⟩) (.inl rfl) _
     rw [hW13];clear p0 p1q p2 p3 p4 q0 q1 q2 q3 q4;obtain ⟨p0,p1q,p2,p3,p4⟩:=HK13.out.c5;obtain ⟨q0,q1,q2,q3,q4⟩:=HK13.out.f5;refine ⟨⟨⟨_,HC13.out⟩,rfl⟩,?_⟩;refine aM ?_;simp only [sN]
     repeat (go_big_quiet_step (fail))
     refine wpQuiet_nil ?_;clear fy0 fy4;go_wp2_with fail;refine NoPanic.normal ?_;go_wp2_with fail;go_meet;have SET:∀ {B:Nat} {t:Ty} {v:Value},V W11 B t v->t.has 39=false->V (W13.setCell ⟨w5.heap.size,0,none⟩ (.int .i64 (la+1))) B t v:=fun h he=>by
      subst hW13;subst hW12;exact ((h.set_ HK11.out he 2 _).set_ HK12.out he 4 _).set_ HK13.out he 0 _
     have FAR:∀ {g:Nat} {t:TypeId} {cs:Array Value},aK W11 g t cs->g≠w5.heap.size->aK (W13.setCell ⟨w5.heap.size,0,none⟩ (.int .i64 (la+1))) g t cs:=fun h he=>by
      subst hW13;subst hW12;exact ((h.far (p:=⟨w5.heap.size,2,none⟩) he _).far (p:=⟨w5.heap.size,4,none⟩) he _).far (p:=⟨w5.heap.size,0,none⟩) he _
     have SZ:(W13.setCell ⟨w5.heap.size,0,none⟩ (.int .i64 (la+1))).heap.size=W11.heap.size:=by
      subst hW13;subst hW12;simp [World.setCell]
     have HB11w:Below w.heap.size w W11:=aB (aB HBw8.out HB10.out) HB11.out;have HZw:w.heap.size < w5.heap.size:=by
      have h1:=HX0.out.lt;have h2:=HZ5.out;have h3:=HX1.out.lt;omega
     refine ⟨la+1,some ⟨W10.heap.size,0,none⟩,1,1,B4,m4,d4,?_,?_,?_,?_,?_,?_,?_,?_,?_⟩
     ·exact HK13.out.set_ 0 _
     ·unfold aO;omega
     ·rw [SZ];exact SET (HP11.out.v_ (by omega)) (by simp [Ty.has,Ty.hasAny])
     ·rw [SZ];exact (SET ((HV4.out.bel ((HB10.out.trans (HB11.out.mono HB10.out.size)).mono HBw8.out.size)).more (Nat.le_trans HBw8.out.size (Nat.le_trans HB10.out.size HB11.out.size))) (by simp [Ty.has,Ty.hasAny])).wide (Nat.le_trans HV4.out.len_le (by omega))
     ·exact FAR HS11.out (by have:=HZ7.out;omega)
     ·rw [SZ];exact SET ((HVS.out.up HB10.out).up HB11.out) (by simp [Ty.has,Ty.hasAny])
     ·rw [SZ];exact SET ((HVT8.out.up HB10.out).up HB11.out) (by simp [Ty.has,Ty.hasAny])
     ·exact FAR HR11.out (by have h1:=HX1.out.lt;have h2:=HZ5.out;omega)
     ·subst hW13;subst hW12;exact ((HB11w.setCell (p:=⟨w5.heap.size,2,none⟩) (Nat.le_of_lt HZw) _).setCell (p:=⟨w5.heap.size,4,none⟩) (Nat.le_of_lt HZw) _).setCell (p:=⟨w5.heap.size,0,none⟩) (Nat.le_of_lt HZw) _
    ·have HWR:=hD (tF As ns cs dk da db dc la W8 HVS.out (by omega) hK hK10 hdc hl0 (by omega));have HN2:Hid (∀ A n' c w',V w' w'.heap.size (.sl (L+1) 39 (cL K M (12*(L*N)+20) 3 83)) (.slice A n' c)->Calls Tryz.prog 34 #[.slice A n' c,.int .i64 (1+q1)] w' (fun e w2=>∃ z,e=.returned (.int .i64 z)/\0<=z/\z<=4194304/\w'=w2)):=fun A n' c w' hv=>uT A n' c _ w' hv (by omega) (by omega) HS1.out;go_wp2_with fail;(with_reducible refine (HWR.out).mono ?_);rintro e w9 ⟨hb9,v,rfl,hv9⟩;obtain ⟨A4,n4,c4,rfl,-,-⟩:=hv9.sl_inv;have HK9:=hD (HK8.out.below hb9 HK8.out.lt);obtain ⟨W10,hW10⟩:=nm (w9.setCell ⟨w5.heap.size,4,none⟩ (.slice A4 n4 c4));have HK10:Hid (aK W10 w5.heap.size 39 #[.int .i64 0,.slice At nt ct,.slice none 0 0,.string ⟨#[100,101,101,100]⟩,.slice A4 n4 c4]):=by subst hW10;exact HK9.out.set_ 4 _
     have SZ:W10.heap.size=w9.heap.size:=by subst hW10;simp [World.setCell]
     have SET:∀ {B:Nat} {t:Ty} {v:Value},V w9 B t v->t.has 39=false->V W10 B t v:=fun h he=>by subst hW10;exact h.set_ HK9.out he 4 _
     have HCOM:Hid (dQ W10 W10.heap.size K M (12*(L*N)+20) 0 At nt ct none 0 0 ⟨#[100,101,101,100]⟩ A4 n4 c4):=⟨by unfold aO;omega,by rw [SZ];exact (SET (HVT8.out.up hb9) (by simp [Ty.has,Ty.hasAny])).wide (Nat.le_trans HVT8.out.len_le hM2),V.nil _ _ _ _ _,Nat.le_trans (by decide) hK10,by rw [SZ];exact SET hv9 (by simp [Ty.has,Ty.hasAny])⟩;have HZw:Hid (w.heap.size < w5.heap.size):=by
      have h1:=HX0.out.lt;have h2:=HZ5.out;have h3:=HX1.out.lt;unfold Hid;omega
     have HBw10:Hid (Below w.heap.size w W10):=by subst hW10;exact (aB HBw8.out hb9).setCell (p:=⟨w5.heap.size,4,none⟩) (Nat.le_of_lt HZw.out) _
     have HVL:Hid (V W10 W10.heap.size (.sl L 39 (cL K M (12*(L*N)+20) 3 83)) (.slice A n c)):=by
      have h1:V W w.heap.size (.sl L 39 (cL K M N 3 83)) (.slice A n c):=H.out;have h2:Below w.heap.size W W10:=by
       subst hW10;exact ((HB8.out.mono HBW.out.size).trans (hb9.mono HBw8.out.size)).setCell (p:=⟨w5.heap.size,4,none⟩) (Nat.le_of_lt HZw.out) _
      exact ((h1.bel h2).more HBw10.out.size).comW (by omega) hnL
     have HS10:Hid (aK W10 w7.heap.size 71 #[.slice As ns cs]):=by subst hW10;exact (HS8.out.below hb9 HS8.out.lt).far (p:=⟨w5.heap.size,4,none⟩) (by have h7:=HZ7.out;show w7.heap.size≠w5.heap.size;omega) _
     have HR10:Hid (aK W10 (w.heap.size+1) 39 #[.int .i64 0,.slice none 0 0,.slice none 0 0,.string ⟨#[]⟩,.slice none 0 0]):=by subst hW10;exact (HR8.out.below hb9 HR8.out.lt).far (p:=⟨w5.heap.size,4,none⟩) (by have h1:=HX1.out.lt;have h2:=HZ5.out;show w.heap.size+1≠w5.heap.size;omega) _
     have HVS10:Hid (V W10 W10.heap.size (.sl (L*N) 154 (dD K (L*N) 152)) (.slice As ns cs)):=by unfold Hid;rw [SZ];exact SET (HVS.out.up hb9) (by simp [Ty.has,Ty.hasAny])
     have HVT10:Hid (V W10 W10.heap.size (.sl 2 3 [.int]) (.slice At nt ct)):=by unfold Hid;rw [SZ];exact SET (HVT8.out.up hb9) (by simp [Ty.has,Ty.hasAny])
     have HV10:Hid (V W10 W10.heap.size (.sl (12*(L*N)+20) 83 (aQ K)) (.slice A4 n4 c4)):=by unfold Hid;rw [SZ];exact SET hv9 (by simp [Ty.has,Ty.hasAny])
     have HWX:=hD hW10;clear hW10 hb9 hv9 SZ SET p0 p1q p2 p3 p4 s0 x0 x1 x2 x3;obtain ⟨p0,p1q,p2,p3,p4⟩:=HK9.out.c5;obtain ⟨q0,q1,q2,q3,q4⟩:=HK9.out.f5;go_wp2_with (rw [HWX.out]);clear p0 p1q p2 p3 p4 q0 q1 q2 q3 q4;obtain ⟨p0,p1q,p2,p3,p4⟩:=HK10.out.c5;go_wp2_with fail;have fp0:=aH p0;have fp1:=aH p1q;have fp2:=aH p2;have fp3:=aH p3;have fp4:=aH p4;have HC:Hid (Below W10.heap.size W10 W10.drew):=cC (Below.refl _ _);have HCZ:Hid (W10.heap.size<=W10.drew.heap.size):=Nat.le_refl _;refine eA 6 (.two [1,3,6] 0 (.two [] 2 (.one [] 4 (.one [] 5 (.last []))) 4 (.one [] 2 (.one [] 5 (.last [])))) 4 (.one [] 0 (.one [] 2 (.one [] 5 (.last []))))) (by kernel_rfl) (by kernel_rfl) ?_;refine bF ?_;simp only [sN]
     repeat (go_big_quiet_step (fail))
     refine wpQuiet_nil ?_;refine ⟨?_,?_⟩
     ·obtain ⟨xe,hW⟩:=nm ((W10.drew).alloc (.cells #[] 39));have HC:Hid (Below W10.heap.size W10 xe):=by subst hW;exact bK HC.out _
      have HR:Hid (aJ xe W10.heap.size 39 (cL K M (12*(L*N)+20) 3 83) (.slice (some ⟨W10.heap.size,0,none⟩) 0 0) 0):=by subst hW;exact aJ.empty (W10.drew) _ _ W10.heap.size HCZ.out
      have HCZ:Hid (W10.heap.size<=xe.heap.size):=HC.out.size;refine aE rfl (by simp [go_sem];exact ⟨rfl,hW⟩) ⟨⟨_,HC.out⟩,rfl⟩ ?_;simp only [sP];have HG5:Hid (W10.heap.size < xe.heap.size):=by subst hW;unfold Hid;simp
      clear hW;refine bF ?_;simp only [sN]
      repeat (go_big_quiet_step (fail))
      refine wpQuiet_nil ?_;refine ⟨?_,?_⟩
      ·refine aA rfl ?_;at_builtin;refine pV (kM K M (12*(L*N)+20)) rfl rfl W10.heap.size (.slice (some ⟨W10.heap.size,0,none⟩) 0 0) 0 rfl HR.out L _ _ A n c rfl (HVL.out.up HC.out) (Nat.le_refl _) (by omega) HCZ.out ?_;intro A7 c7 xf hown7 hg7 hb7;have HC:=hD (HC.out.trans hb7);have HCZ:Hid (W10.heap.size<=xf.heap.size):=HC.out.size;have HR:Hid (aJ xf W10.heap.size 39 (cL K M (12*(L*N)+20) 3 83) (.slice A7 n c7) n):=by unfold Hid;simpa using hown7
       refine ⟨⟨⟨_,HC.out⟩,rfl⟩,?_⟩;simp only [Act.put,List.setIfInBounds_toArray,List.set_cons_succ,List.set_cons_zero,Nat.zero_add];clear hown7 hb7;refine aD ?_;simp only [sN]
       repeat (go_big_quiet_step (fail))
       refine wpQuiet_nil ?_;obtain ⟨xg,hW⟩:=nm ((xf).alloc (.cells #[.int .i64 0,.slice At nt ct,.slice none 0 0,.string ⟨#[100,101,101,100]⟩,.slice A4 n4 c4] 39));have HX:Hid (aJ xg W10.heap.size 39 (cL K M (12*(L*N)+20) 3 83) (.slice (some ⟨xf.heap.size,0,none⟩) 1 1) 1):=by subst hW;exact aJ.fresh (xf) _ _ W10.heap.size HCZ.out (vals:=[.int .i64 0,.slice At nt ct,.slice none 0 0,.string ⟨#[100,101,101,100]⟩,.slice A4 n4 c4]) (m:=1) rfl (kN (HCOM.out.up HC.out)) (by unfold maxLen;omega)
       have HC:Hid (Below W10.heap.size W10 xg):=by subst hW;exact bK HC.out _
       have HCZ:Hid (W10.heap.size<=xg.heap.size):=HC.out.size;have HR:Hid (aJ xg W10.heap.size 39 (cL K M (12*(L*N)+20) 3 83) (.slice A7 n c7) n):=by subst hW;exact HR.out.alloc _
       refine aE rfl (by simp [go_sem];exact ⟨rfl,hW⟩) ⟨⟨_,HC.out⟩,rfl⟩ ?_;simp only [sP];clear hW;refine aD ?_;simp only [sN]
       repeat (go_big_quiet_step (fail))
       refine wpQuiet_nil ?_;refine aA rfl ?_;at_builtin;refine pV (kM K M (12*(L*N)+20)) rfl rfl W10.heap.size _ _ rfl HR.out 1 _ _ (some ⟨xf.heap.size,0,none⟩) 1 1 rfl (HX.out.v_ (Nat.le_refl _)) (Nat.le_refl _) (by omega) HCZ.out ?_;intro A17 c17 w17 hown17 hg17 hb17;have HC:=hD (HC.out.trans hb17);refine ⟨⟨⟨_,HC.out⟩,rfl⟩,?_⟩;simp only [sP];clear hg17 hb17;refine aM ?_;simp only [sN]
       repeat (go_big_quiet_step (fail))
       refine wpQuiet_nil ?_;clear fp0 fp1 fp2 fp3 fp4 p0 p1q p2 p3 p4;go_wp2_with fail;(with_reducible refine (HN2.out _ _ _ _ (hown17.v_ (by omega))).mono ?_);rintro e w18 ⟨zn,rfl,hz0,hz1,rfl⟩;have HK17:=hD (HK10.out.below HC.out HK10.out.lt);obtain ⟨p0,p1q,p2,p3,p4⟩:=HK17.out.c5;obtain ⟨q0,q1,q2,q3,q4⟩:=HK17.out.f5;go_wp2_with fail;refine NoPanic.normal ?_;go_wp2_with fail;go_meet;have SET:∀ {B:Nat} {t:Ty} {v:Value},V w17 B t v->t.has 39=false->V (w17.setCell ⟨w5.heap.size,0,none⟩ (.int .i64 (zn+1))) B t v:=fun h he=>h.set_ HK17.out he 0 _;have SZ:(w17.setCell ⟨w5.heap.size,0,none⟩ (.int .i64 (zn+1))).heap.size=w17.heap.size:=by simp [World.setCell]
       refine ⟨zn+1,none,0,0,A4,n4,c4,?_,?_,?_,?_,?_,?_,?_,?_,?_⟩
       ·exact HK17.out.set_ 0 _
       ·unfold aO;omega
       ·exact V.nil _ _ _ _ _
       ·rw [SZ];exact SET (HV10.out.up HC.out) (by simp [Ty.has,Ty.hasAny])
       ·exact (HS10.out.below HC.out HS10.out.lt).far (p:=⟨w5.heap.size,0,none⟩) (by have h7:=HZ7.out;show w7.heap.size≠w5.heap.size;omega) _
       ·rw [SZ];exact SET (HVS10.out.up HC.out) (by simp [Ty.has,Ty.hasAny])
       ·rw [SZ];exact SET (HVT10.out.up HC.out) (by simp [Ty.has,Ty.hasAny])
       ·exact (HR10.out.below HC.out HR10.out.lt).far (p:=⟨w5.heap.size,0,none⟩) (by have h1:=HX1.out.lt;have h2:=HZ5.out;show w.heap.size+1≠w5.heap.size;omega) _
       ·exact (aB HBw10.out HC.out).setCell (p:=⟨w5.heap.size,0,none⟩) (Nat.le_of_lt HZw.out) _
      ·obtain ⟨xg,hW⟩:=nm ((xe).alloc (.cells #[.int .i64 0,.slice At nt ct,.slice none 0 0,.string ⟨#[100,101,101,100]⟩,.slice A4 n4 c4] 39));have HX:Hid (aJ xg W10.heap.size 39 (cL K M (12*(L*N)+20) 3 83) (.slice (some ⟨xe.heap.size,0,none⟩) 1 1) 1):=by subst hW;exact aJ.fresh (xe) _ _ W10.heap.size HCZ.out (vals:=[.int .i64 0,.slice At nt ct,.slice none 0 0,.string ⟨#[100,101,101,100]⟩,.slice A4 n4 c4]) (m:=1) rfl (kN (HCOM.out.up HC.out)) (by unfold maxLen;omega)
       have HC:Hid (Below W10.heap.size W10 xg):=by subst hW;exact bK HC.out _
       have HCZ:Hid (W10.heap.size<=xg.heap.size):=HC.out.size;have HR:Hid (aJ xg W10.heap.size 39 (cL K M (12*(L*N)+20) 3 83) (.slice (some ⟨W10.heap.size,0,none⟩) 0 0) 0):=by subst hW;exact HR.out.alloc _
       refine aE rfl (by simp [go_sem];exact ⟨rfl,hW⟩) ⟨⟨_,HC.out⟩,rfl⟩ ?_;simp only [sP];clear hW;refine aD ?_;simp only [sN]
       repeat (go_big_quiet_step (fail))
       refine wpQuiet_nil ?_;refine aA rfl ?_;at_builtin;refine pV (kM K M (12*(L*N)+20)) rfl rfl W10.heap.size (.slice (some ⟨W10.heap.size,0,none⟩) 0 0) 0 rfl HR.out L _ _ A n c rfl (HVL.out.up HC.out) (Nat.le_refl _) (by omega) HCZ.out ?_;intro A7 c7 xf hown7 hg7 hb7;have HC:=hD (HC.out.trans hb7);have HCZ:Hid (W10.heap.size<=xf.heap.size):=HC.out.size;obtain ⟨zs,ho,-⟩:=HR.out;have HX:Hid (aJ xf W10.heap.size 39 (cL K M (12*(L*N)+20) 3 83) (.slice (some ⟨xe.heap.size,0,none⟩) 1 1) 1):=HX.out.other hg7 ho rfl (fun g e1 e2=>by have h1:xe.heap.size=g:=(by simpa [Value.ownBlock] using e1);have h2:W10.heap.size=g:=(by simpa [Value.ownBlock] using e2);have h3:=HG5.out;omega);clear ho;have HR:Hid (aJ xf W10.heap.size 39 (cL K M (12*(L*N)+20) 3 83) (.slice A7 n c7) n):=by unfold Hid;simpa using hown7
       refine ⟨⟨⟨_,HC.out⟩,rfl⟩,?_⟩;simp only [Act.put,List.setIfInBounds_toArray,List.set_cons_succ,List.set_cons_zero,Nat.zero_add];clear hown7 hb7;refine aD ?_;simp only [sN]
       repeat (go_big_quiet_step (fail))
       refine wpQuiet_nil ?_;refine aA rfl ?_;at_builtin;refine pV (kM K M (12*(L*N)+20)) rfl rfl W10.heap.size _ _ rfl HR.out 1 _ _ (some ⟨xe.heap.size,0,none⟩) 1 1 rfl (HX.out.v_ (Nat.le_refl _)) (Nat.le_refl _) (by omega) HCZ.out ?_;intro A17 c17 w17 hown17 hg17 hb17;have HC:=hD (HC.out.trans hb17);refine ⟨⟨⟨_,HC.out⟩,rfl⟩,?_⟩;simp only [sP];clear hg17 hb17;refine aM ?_;simp only [sN]
       repeat (go_big_quiet_step (fail))
       refine wpQuiet_nil ?_;clear fp0 fp1 fp2 fp3 fp4 p0 p1q p2 p3 p4;go_wp2_with fail;(with_reducible refine (HN2.out _ _ _ _ (hown17.v_ (by omega))).mono ?_);rintro e w18 ⟨zn,rfl,hz0,hz1,rfl⟩;have HK17:=hD (HK10.out.below HC.out HK10.out.lt);obtain ⟨p0,p1q,p2,p3,p4⟩:=HK17.out.c5;obtain ⟨q0,q1,q2,q3,q4⟩:=HK17.out.f5;go_wp2_with fail;refine NoPanic.normal ?_;go_wp2_with fail;go_meet;have SET:∀ {B:Nat} {t:Ty} {v:Value},V w17 B t v->t.has 39=false->V (w17.setCell ⟨w5.heap.size,0,none⟩ (.int .i64 (zn+1))) B t v:=fun h he=>h.set_ HK17.out he 0 _;have SZ:(w17.setCell ⟨w5.heap.size,0,none⟩ (.int .i64 (zn+1))).heap.size=w17.heap.size:=by simp [World.setCell]
       refine ⟨zn+1,none,0,0,A4,n4,c4,?_,?_,?_,?_,?_,?_,?_,?_,?_⟩
       ·exact HK17.out.set_ 0 _
       ·unfold aO;omega
       ·exact V.nil _ _ _ _ _
       ·rw [SZ];exact SET (HV10.out.up HC.out) (by simp [Ty.has,Ty.hasAny])
       ·exact (HS10.out.below HC.out HS10.out.lt).far (p:=⟨w5.heap.size,0,none⟩) (by have h7:=HZ7.out;show w7.heap.size≠w5.heap.size;omega) _
       ·rw [SZ];exact SET (HVS10.out.up HC.out) (by simp [Ty.has,Ty.hasAny])
       ·rw [SZ];exact SET (HVT10.out.up HC.out) (by simp [Ty.has,Ty.hasAny])
       ·exact (HR10.out.below HC.out HR10.out.lt).far (p:=⟨w5.heap.size,0,none⟩) (by have h1:=HX1.out.lt;have h2:=HZ5.out;show w.heap.size+1≠w5.heap.size;omega) _
       ·exact (aB HBw10.out HC.out).setCell (p:=⟨w5.heap.size,0,none⟩) (Nat.le_of_lt HZw.out) _
     ·obtain ⟨xg,hW⟩:=nm ((W10.drew).alloc (.cells #[.int .i64 0,.slice At nt ct,.slice none 0 0,.string ⟨#[100,101,101,100]⟩,.slice A4 n4 c4] 39));have HX:Hid (aJ xg W10.heap.size 39 (cL K M (12*(L*N)+20) 3 83) (.slice (some ⟨W10.heap.size,0,none⟩) 1 1) 1):=by subst hW;exact aJ.fresh (W10.drew) _ _ W10.heap.size HCZ.out (vals:=[.int .i64 0,.slice At nt ct,.slice none 0 0,.string ⟨#[100,101,101,100]⟩,.slice A4 n4 c4]) (m:=1) rfl (kN (HCOM.out.up HC.out)) (by unfold maxLen;omega)
      have HC:Hid (Below W10.heap.size W10 xg):=by subst hW;exact bK HC.out _
      have HCZ:Hid (W10.heap.size<=xg.heap.size):=HC.out.size;refine aE rfl (by simp [go_sem];exact ⟨rfl,hW⟩) ⟨⟨_,HC.out⟩,rfl⟩ ?_;simp only [sP];have HG6:Hid (W10.heap.size < xg.heap.size):=by subst hW;unfold Hid;simp
      clear hW;refine aD ?_;simp only [sN]
      repeat (go_big_quiet_step (fail))
      refine wpQuiet_nil ?_;obtain ⟨xe,hW⟩:=nm ((xg).alloc (.cells #[] 39));have HC:Hid (Below W10.heap.size W10 xe):=by subst hW;exact bK HC.out _
      have HR:Hid (aJ xe W10.heap.size 39 (cL K M (12*(L*N)+20) 3 83) (.slice (some ⟨xg.heap.size,0,none⟩) 0 0) 0):=by subst hW;exact aJ.empty (xg) _ _ W10.heap.size HCZ.out
      have HCZ:Hid (W10.heap.size<=xe.heap.size):=HC.out.size;have HX:Hid (aJ xe W10.heap.size 39 (cL K M (12*(L*N)+20) 3 83) (.slice (some ⟨W10.heap.size,0,none⟩) 1 1) 1):=by subst hW;exact HX.out.alloc _
      refine aE rfl (by simp [go_sem];exact ⟨rfl,hW⟩) ⟨⟨_,HC.out⟩,rfl⟩ ?_;simp only [sP];clear hW;refine aD ?_;simp only [sN]
      repeat (go_big_quiet_step (fail))
      refine wpQuiet_nil ?_;refine aA rfl ?_;at_builtin;refine pV (kM K M (12*(L*N)+20)) rfl rfl W10.heap.size (.slice (some ⟨xg.heap.size,0,none⟩) 0 0) 0 rfl HR.out L _ _ A n c rfl (HVL.out.up HC.out) (Nat.le_refl _) (by omega) HCZ.out ?_;intro A7 c7 xf hown7 hg7 hb7;have HC:=hD (HC.out.trans hb7);have HCZ:Hid (W10.heap.size<=xf.heap.size):=HC.out.size;obtain ⟨zs,ho,-⟩:=HR.out;have HX:Hid (aJ xf W10.heap.size 39 (cL K M (12*(L*N)+20) 3 83) (.slice (some ⟨W10.heap.size,0,none⟩) 1 1) 1):=HX.out.other hg7 ho rfl (fun g e1 e2=>by have h1:W10.heap.size=g:=(by simpa [Value.ownBlock] using e1);have h2:xg.heap.size=g:=(by simpa [Value.ownBlock] using e2);have h3:=HG6.out;omega);clear ho;have HR:Hid (aJ xf W10.heap.size 39 (cL K M (12*(L*N)+20) 3 83) (.slice A7 n c7) n):=by unfold Hid;simpa using hown7
      refine ⟨⟨⟨_,HC.out⟩,rfl⟩,?_⟩;simp only [Act.put,List.setIfInBounds_toArray,List.set_cons_succ,List.set_cons_zero,Nat.zero_add];clear hown7 hb7;refine aD ?_;simp only [sN]
      repeat (go_big_quiet_step (fail))
      refine wpQuiet_nil ?_;refine aA rfl ?_;at_builtin;refine pV (kM K M (12*(L*N)+20)) rfl rfl W10.heap.size _ _ rfl HR.out 1 _ _ (some ⟨W10.heap.size,0,none⟩) 1 1 rfl (HX.out.v_ (Nat.le_refl _)) (Nat.le_refl _) (by omega) HCZ.out ?_;intro A17 c17 w17 hown17 hg17 hb17;have HC:=hD (HC.out.trans hb17);refine ⟨⟨⟨_,HC.out⟩,rfl⟩,?_⟩;simp only [sP];clear hg17 hb17;refine aM ?_;simp only [sN]
      repeat (go_big_quiet_step (fail))
      refine wpQuiet_nil ?_;clear fp0 fp1 fp2 fp3 fp4 p0 p1q p2 p3 p4;go_wp2_with fail;(with_reducible refine (HN2.out _ _ _ _ (hown17.v_ (by omega))).mono ?_);rintro e w18 ⟨zn,rfl,hz0,hz1,rfl⟩;have HK17:=hD (HK10.out.below HC.out HK10.out.lt);obtain ⟨p0,p1q,p2,p3,p4⟩:=HK17.out.c5;obtain ⟨q0,q1,q2,q3,q4⟩:=HK17.out.f5;go_wp2_with fail;refine NoPanic.normal ?_;go_wp2_with fail;go_meet;have SET:∀ {B:Nat} {t:Ty} {v:Value},V w17 B t v->t.has 39=false->V (w17.setCell ⟨w5.heap.size,0,none⟩ (.int .i64 (zn+1))) B t v:=fun h he=>h.set_ HK17.out he 0 _;have SZ:(w17.setCell ⟨w5.heap.size,0,none⟩ (.int .i64 (zn+1))).heap.size=w17.heap.size:=by simp [World.setCell]
      refine ⟨zn+1,none,0,0,A4,n4,c4,?_,?_,?_,?_,?_,?_,?_,?_,?_⟩
      ·exact HK17.out.set_ 0 _
      ·unfold aO;omega
      ·exact V.nil _ _ _ _ _
      ·rw [SZ];exact SET (HV10.out.up HC.out) (by simp [Ty.has,Ty.hasAny])
      ·exact (HS10.out.below HC.out HS10.out.lt).far (p:=⟨w5.heap.size,0,none⟩) (by have h7:=HZ7.out;show w7.heap.size≠w5.heap.size;omega) _
      ·rw [SZ];exact SET (HVS10.out.up HC.out) (by simp [Ty.has,Ty.hasAny])
      ·rw [SZ];exact SET (HVT10.out.up HC.out) (by simp [Ty.has,Ty.hasAny])
      ·exact (HR10.out.below HC.out HR10.out.lt).far (p:=⟨w5.heap.size,0,none⟩) (by have h1:=HX1.out.lt;have h2:=HZ5.out;show w.heap.size+1≠w5.heap.size;omega) _
      ·exact (aB HBw10.out HC.out).setCell (p:=⟨w5.heap.size,0,none⟩) (Nat.le_of_lt HZw.out) _
   case rest=>
    obtain ⟨z0,A9,n9,c9,A4,n4,c4,HCR⟩:=hcut;have HFI:Hid (∀ w',Below wc.heap.size wc w'->Calls Tryz.prog 36 #[.agg #[.slice As ns cs],.agg #[.int .i64 z0,.slice At nt ct,.slice A9 n9 c9,.string ⟨#[100,101,101,100]⟩,.slice A4 n4 c4]] w' (aV w' jC)):=fun w' hb=>xH As ns cs z0 At nt ct A9 n9 c9 _ A4 n4 c4 w' (HCR.out.vs.up hb) (by omega) ((HCR.out.vt.up hb).wide (n':=M) (Nat.le_trans HCR.out.vt.len_le hM2)) (HCR.out.v9.up hb) (by omega) (Nat.le_trans (by decide) (Nat.le_trans hK10 hK)) (HCR.out.v4.up hb) (by omega) hK;clear p0 p1q p2 p3 p4 s0 x0 x1 x2 x3 hq4 HS8 HVS HK8 HVT8 HR8 HBw8 HW8 HB8 HTI HAT HNX HM3 HM13 HMN;obtain ⟨p0,p1q,p2,p3,p4⟩:=HCR.out.com.c5;have s0:=HCR.out.sta.c1;have HZw:Hid (w.heap.size+1 < w5.heap.size):=by
     have h2:=HZ5.out;have h3:=HX1.out.lt;unfold Hid;omega
    have HZs:Hid (w5.heap.size < w7.heap.size):=HZ7.out;go_wp2_with fail;have fp0:=bA (M:=fun i=>i=w.heap.size+1) p0 (by have:=HZw.out;omega);have fp1:=bA (M:=fun i=>i=w.heap.size+1) p1q (by have:=HZw.out;omega);have fp2:=bA (M:=fun i=>i=w.heap.size+1) p2 (by have:=HZw.out;omega);have fp3:=bA (M:=fun i=>i=w.heap.size+1) p3 (by have:=HZw.out;omega);have fp4:=bA (M:=fun i=>i=w.heap.size+1) p4 (by have:=HZw.out;omega);have fs0:=bA (M:=fun i=>i=w.heap.size+1) s0 (by have:=HZw.out;have:=HZs.out;omega);refine bM (fun i=>i=w.heap.size+1) 5 (.one [0,1,2] 3 (.one [4] 5 (.last []))) (by kernel_rfl) (by kernel_rfl) ?_;refine aD ?_;simp only [sN]
    repeat (go_big_quiet_step (fail))
    refine wpQuiet_nil ?_;refine aC rfl 36 _ _ rfl Tryz.func36 rfl (by kernel_rfl) #[.agg #[.slice As ns cs],.agg #[.int .i64 z0,.slice At nt ct,.slice A9 n9 c9,.string ⟨#[100,101,101,100]⟩,.slice A4 n4 c4]] (by simp [Act.eval]) (HFI.out _ (cC (Below.refl _ _))) ?_;rintro e w6 ⟨hb6,v,rfl,zf,rfl,-⟩;have HB6:=hD (aB (cC (Below.refl _ _)) hb6);clear hb6;refine ⟨_,rfl,⟨⟨_,aT.of_new HB6.out _⟩,rfl⟩,?_⟩;simp only [sP];have HR6:=hD (HCR.out.res.below HB6.out HCR.out.res.lt);have HC6:Hid (dQ w6 w6.heap.size K M (12*(L*N)+20) z0 At nt ct A9 n9 c9 ⟨#[100,101,101,100]⟩ A4 n4 c4):=⟨HCR.out.i0,(HCR.out.vt.up HB6.out).wide (Nat.le_trans HCR.out.vt.len_le hM2),HCR.out.v9.up HB6.out,Nat.le_trans (by decide) hK10,HCR.out.v4.up HB6.out⟩;have HBw6:=hD (aB HCR.out.bel HB6.out);obtain ⟨r0,r1,r2,r3,r4⟩:=HR6.out.c5;obtain ⟨q0,q1,q2,q3,q4⟩:=HR6.out.f5;refine aD ?_;simp only [sN]
    repeat (go_big_quiet_step (fail))
    refine wpQuiet_nil ?_;refine aA rfl ?_;go_wp2_with fail;obtain ⟨W7,hW7⟩:=nm ((((((w6.setCell ⟨w.heap.size+1,0,none⟩ (.int .i64 z0)).setCell ⟨w.heap.size+1,1,none⟩ (.slice At nt ct)).setCell ⟨w.heap.size+1,2,none⟩ (.slice A9 n9 c9)).setCell ⟨w.heap.size+1,3,none⟩ (.string ⟨#[100,101,101,100]⟩)).setCell ⟨w.heap.size+1,4,none⟩ (.slice A4 n4 c4)));have HR7:Hid (aK W7 (w.heap.size+1) 39 #[.int .i64 z0,.slice At nt ct,.slice A9 n9 c9,.string ⟨#[100,101,101,100]⟩,.slice A4 n4 c4]):=by subst hW7;exact HR6.out.val5 _ _ _ _ _
    have HC7:Hid (aT wc W7 (fun i=>i=w.heap.size+1)):=by
     subst hW7;exact (((((aT.of_new HB6.out (fun i=>i=w.heap.size+1)).setCell (p:=⟨w.heap.size+1,0,none⟩) (.inl rfl) _).setCell (p:=⟨w.heap.size+1,1,none⟩) (.inl rfl) _).setCell (p:=⟨w.heap.size+1,2,none⟩) (.inl rfl) _).setCell (p:=⟨w.heap.size+1,3,none⟩) (.inl rfl) _).setCell (p:=⟨w.heap.size+1,4,none⟩) (.inl rfl) _
    have HB7:Hid (Below w.heap.size w W7):=by subst hW7;exact iF HBw6.out (Nat.le_succ _) _ _ _ _ _
    have HI7:Hid (dQ W7 W7.heap.size K M (12*(L*N)+20) z0 At nt ct A9 n9 c9 ⟨#[100,101,101,100]⟩ A4 n4 c4):=by
     have SZ:W7.heap.size=w6.heap.size:=by subst hW7;simp [World.setCell]
     have SET:∀ {B:Nat} {t:Ty} {v:Value},V w6 B t v->t.has 39=false->V W7 B t v:=fun h he=>by
      subst hW7;have k0:=HR6.out;have k1:=k0.set_ 0 (.int .i64 z0);have k2:=k1.set_ 1 (.slice At nt ct);have k3:=k2.set_ 2 (.slice A9 n9 c9);have k4:=k3.set_ 3 (.string ⟨#[100,101,101,100]⟩);exact ((((h.set_ k0 he 0 _).set_ k1 he 1 _).set_ k2 he 2 _).set_ k3 he 3 _).set_ k4 he 4 _
     obtain ⟨g0,g1,g2,g3,g4⟩:=HC6.out;unfold Hid;rw [SZ];exact ⟨g0,SET g1 (by simp [Ty.has,Ty.hasAny]),SET g2 (by simp [Ty.has,Ty.hasAny]),g3,SET g4 (by simp [Ty.has,Ty.hasAny])⟩
    rw [hW7];clear hW7 r0 r1 r2 r3 r4 q0 q1 q2 q3 q4;refine ⟨⟨⟨_,HC7.out⟩,rfl⟩,?_⟩;refine aM ?_;simp only [sN]
    repeat (go_big_quiet_step (fail))
    refine wpQuiet_nil ?_;clear fp0 fp1 fp2 fp3 fp4 fs0 p0 p1q p2 p3 p4 s0;go_wp2_with fail;refine NoPanic.normal ?_;go_wp2_with fail;refine bodyPost_ret (dK (P:=Tryz.prog) rfl _ _ (w.heap.size+1) 39 #[.int .i64 z0,.slice At nt ct,.slice A9 n9 c9,.string ⟨#[100,101,101,100]⟩,.slice A4 n4 c4] (0,0) _ rfl HR7.out Tryz.underlying39 rfl (by kernel_rfl)) rfl ?_;exact ⟨HB7.out,_,_,_,_,_,_,_,_,_,_,_,_,rfl,HI7.out⟩
end
end Go.Proofs.YtkgpoimmniojjaaGreat
