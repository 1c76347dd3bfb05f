/- No condition. -/
import Derived.Test.YtkgpoimmniojjaaGreatZaBB
import Derived.BigGuardPart
namespace Go.Proofs.YtkgpoimmniojjaaGreat
set_option linter.unusedVariables false
set_option linter.unusedSimpArgs false
set_option maxRecDepth 100000
set_option maxHeartbeats 16000000
section
open Go.RowKit
variable {w w':World} {gp Kt n c a K:Nat} {A:Option Addr} {tl:ByteArray} {e:Int}
theorem kO (l:List T) (x:T):T.sizes (l++[x])=T.sizes l+x.size:=by
 induction l with
 | nil=>simp [T.sizes]
 | cons y l ih=>rw [List.cons_append,T.sizes,T.sizes,ih];omega
def nN (a a1:Nat) (e1:Int) (ks:List TX) (d:Nat):Prop:=a<=a1/\(e1=0->T.sizes (ks.map TX.plain)+d<=3*(a1 - a))
section
variable {n a a1 a2:Nat} {e1 e2:Int} {ks:List TX} {d:Nat} {x:TX}
theorem nN.start (a:Nat) (e:Int):nN a a e [] 0:=⟨Nat.le_refl _,fun _=>by simp [T.sizes]⟩
theorem nN.must (h:nN a a1 e1 ks d) (ha:fK n a1 e1 a2 e2):nN a a2 e2 ks (d+3):=⟨Nat.le_trans h.1 ha.1,fun h0=>by
 have h1:=ha.2.2 h0;have h2:=h.2 h1.1;have:=h.1;omega⟩
theorem nN.kid (h:nN a a1 e1 ks d) (ha:fK n a1 e1 a2 e2) (hz:e2=0->x.plain.size<=3*(a2 - a1)):nN a a2 e2 (ks++[x]) d:=⟨Nat.le_trans h.1 ha.1,fun h0=>by
 have h1:=ha.2.2 h0;have h2:=h.2 h1.1;have h3:=hz h0;have:=h.1;rw [List.map_append,List.map_cons,List.map_nil,kO];omega⟩
theorem nN.ret (h:nN a a1 e1 ks d) (hd:1<=d):e1=0->1+T.sizes (ks.map TX.plain)<=3*(a1 - a):=fun h0=>by
 have:=h.2 h0;omega
end
theorem wW {a':Nat} {st st' e':Int} (h:PS w gp Kt n A c tl a st e) (h':PS w' gp Kt n A c tl a' st' e') (he:e=0) (ha:a < n) (hl:e'=0->a < a'):Ce n gp w' < Ce n gp w:=by
 rw [sJ h,sJ h',if_pos he]
 split
 ·rename_i h0;have:=hl h0;omega
 ·omega
theorem dT.chg {lo gt:Nat} {k:Int} {s:ByteArray} {L:Value} {ls:List ByteArray} {Kd:Value} {ks:List TX} (h:dT w gp Kt n A c tl a e K lo gt k s L ls Kd ks w'):aT w w' (fun i=>i=gp\/i=gt\/Kd.ownBlock=some i):=by
 obtain ⟨_,_,_,_,_,_,_,_,_,hcm⟩:=h;exact hcm
theorem aK.ne {g g':Nat} {t t':TypeId} {cs cs':Array Value} (h:aK w g t cs) (h':aK w g' t' cs') (ht:t≠t'):g≠g':=fun e=>by
 subst e;have h1:w.heap[g]?=_:=h;have h2:w.heap[g]?=_:=h';rw [h1] at h2;injection h2 with h2;injection h2 with _ h3;exact ht h3
theorem CC (hn:n<=1000000) (hK:Kt<=K) (m:Nat) (hE:∀ m',m' < m->EC 138 gp Kt n A c tl K m') (hU:EC 158 gp Kt n A c tl K m):EC 138 gp Kt n A c tl K m:=by
 intro a st e w h hm;have HE:Hid (∀ a' st' e' w',PS w' gp Kt n A c tl a' st' e'->e=0->(e'=0->a < a')->Calls Tryz.prog 138 #[.pointer (some ⟨gp,0,none⟩)] w' (bZ w' gp Kt n A c tl a' e' K)):=fun a' st' e' w' h1 h3 h4=>by
  have:=h1.le;have:=h.le;have:=hm h3;exact hE (m - 1) (by omega) a' st' e' w' h1 (fun h0=>by have:=h4 h0;omega)
 have HU:Hid (∀ a' st' e' w',PS w' gp Kt n A c tl a' st' e'->a<=a'->(e'=0->e=0)->Calls Tryz.prog 158 #[.pointer (some ⟨gp,0,none⟩)] w' (bZ w' gp Kt n A c tl a' e' K)):=fun a' st' e' w' h1 h2 h3=>by
  have:=h1.le;exact hU a' st' e' w' h1 (fun h0=>by have:=hm (h3 h0);omega)
 clear hE hU hm;have hle:=h.le;obtain ⟨W,hW⟩:=nm (w.alloc (.cells #[.int .i64 0,.string ⟨#[]⟩,.slice none 0 0,.slice none 0 0] 99));have HX:=bk hW;have HBW:=bw hW;have HGP:Hid (gp < w.heap.size):=h.lt;have HP:=hD (h.below HBW.out);have HC:Hid (aT w W (fun i=>i=gp)):=aT.of_new HBW.out _;have HW:=hD hW;clear hW h HBW;go_enter Tryz.func138,Tryz.ntmps138;go_wp2_with (rw [HW.out]);clear HW;(with_reducible refine (cU _ W HP.out hn).mono ?_);rintro r0 w1 ⟨b1,rfl,hb1,hbt⟩;have HX:=hD (HX.out.below hb1 HX.out.lt);have HC:Hid (aT w w1 (fun i=>i=gp)):=HC.out.trans (aT.of_new hb1 _) (fun i _ h=>h);have HP:=hD (HP.out.below hb1);clear hb1
 cases b1
 case true=>
  have HE0:Hid (e=0):=(hbt rfl).1;clear hbt;obtain ⟨Wa,hWa⟩:=nm (w1.alloc (.cells #[.int .i64 0,.string ⟨#[]⟩,.slice none 0 0,.slice none 0 0] 99));obtain ⟨Wb,hWb⟩:=nm (((((Wa.setCell ⟨w1.heap.size,0,none⟩ (.int .i64 20)).setCell ⟨w1.heap.size,1,none⟩ (.string ⟨#[]⟩)).setCell ⟨w1.heap.size,2,none⟩ (.slice none 0 0)).setCell ⟨w1.heap.size,3,none⟩ (.slice none 0 0)));have HF:Hid (FT w Wb gp Kt n A c tl a st e K w1.heap.size 20 ⟨#[]⟩ (.slice none 0 0) [] (.slice none 0 0) []):=by
   have:=FT.new (K:=K) 20 ⟨#[]⟩ (Nat.zero_le _) HP.out HC.out HX.out HGP.out;rw [hWa,hWb] at this;exact this
  have HWa:=hD hWa;have HWb:=hD hWb;have HAX:=bk hWa;clear hWa hWb;obtain ⟨x0,x1,x2,x3⟩:=HAX.out.c4;obtain ⟨q0,q1,q2,q3⟩:=HAX.out.f4;go_wp2_with (first | rw [HWa.out] | rw [HWb.out]);clear HWa HWb HAX x0 x1 x2 x3 q0 q1 q2 q3;have HAD:Hid (fK n a e a e\/True):=.inr trivial;clear HAD;(with_reducible refine (bP _ Wb HF.out.ps hn HF.out.ut (by have:=HGP.out;omega) hK (by simp)).mono ?_);rintro r0 v1 hm6;obtain ⟨a1,st1,e1,s1q,L1,ls1,rfl,hf5,ha5,hl5,-⟩:=HF.out.must hm6;have HF:=hD hf5;have HA1:=hD ha5;have HL1:=hD hl5;clear hm6 hf5 ha5 hl5;have HLL:=hD (show ls1.length<=1 by simpa using HL1.out);have HAD:=HA1;go_wp2_with fail;(with_reducible refine (dV 1 v1 HF.out.ps hn HF.out.ut (by have:=HGP.out;omega) hK (by have:=HLL.out;omega)).mono ?_);rintro r0 v2 hm6;obtain ⟨a2,st2,e2,s2,L2,ls2,rfl,hf5,ha5,hl5,-⟩:=HF.out.must hm6;have HF:=hD hf5;have HA2:=hD ha5;have HL2:=hD hl5;clear hm6 hf5 ha5 hl5;have HLL:=hD (show ls2.length<=2 by have:=HLL.out;have:=HL2.out;omega);have HAD:=hD (HAD.out.trans HA2.out);go_wp2_with fail;(with_reducible refine (bP _ v2 HF.out.ps hn HF.out.ut (by have:=HGP.out;omega) hK (by have:=HLL.out;omega)).mono ?_);rintro r0 v3 hm6;obtain ⟨a3,st3,e3,s3,L3,ls3,rfl,hf5,ha5,hl5,-⟩:=HF.out.must hm6;have HF:=hD hf5;have HA3:=hD ha5;have HL3:=hD hl5;clear hm6 hf5 ha5 hl5;have HLL:=hD (show ls3.length<=3 by have:=HLL.out;have:=HL3.out;omega);have HAD:=hD (HAD.out.trans HA3.out);obtain ⟨ks,hks⟩:∃ ks:List TX,ks=[]:=⟨_,rfl⟩;have HF:Hid (FT w v3 gp Kt n A c tl a3 st3 e3 K w1.heap.size 20 s3 L3 ls3 (.slice none ks.length 0) ks):=by subst hks;exact HF.out
  obtain ⟨gt,hgt⟩:=nm w1.heap.size;rw [hgt] at HF ⊢;have HKL:Hid (ks.length<=0):=by rw [hks];exact Nat.le_refl _
  have HSZ:Hid (nN a a e ks 0):=by rw [hks];exact nN.start a e
  clear hks hgt;have HSZ:=hD (((HSZ.out.must HA1.out).must HA2.out).must HA3.out);clear HA1 HA2 HA3 HL1 HL2 HL3;obtain ⟨⟨LA,lc,rfl,-⟩,-⟩:=HF.out.ut.forms;have HK5:Hid (∀ w',PS w' gp Kt n A c tl a3 st3 e3->Calls Tryz.prog 138 #[.pointer (some ⟨gp,0,none⟩)] w' (bZ w' gp Kt n A c tl a3 e3 K)):=fun w' h'=>HE.out a3 st3 e3 w' h' HE0.out (fun h0=>(HAD.out.2.2 h0).2);have hk0:=HKL.out;go_upto_region 6 with fail;go_cut [25] (fun x wq=>Hid (dT v3 gp Kt n A c tl a3 e3 K (w.heap.size+1) gt 20 s3 (.slice LA ls3.length lc) ls3 (.slice none ks.length 0) ks wq))
  case first=>
   have t3:=HF.out.ut.box.cell 3;simp at t3;have ft3:=bA (M:=fun i=>i=gp) t3 (by have:=HF.out.ut.glo;have:=HF.out.gp;omega);have HPD:=hD (eQ HF.out.ps);clear t3;go_wp2_with fail;refine cS (fun i=>i=gp) 5 (.two [0,1,2,4] 3 (.one [] 5 (.last [])) 5 (.one [] 3 (.last []))) (.one [] 6 (.two [7,9] 8 (.one [] 10 (.last [])) 10 (.one [] 8 (.last [])))) (by kernel_rfl) (by kernel_rfl) ?_;refine dR ?_;simp only [sN]
   repeat (go_big_quiet_step (fail))
   refine wpQuiet_nil ?_;apply And.intro
   case' left=>
    refine aC rfl 138 _ _ rfl Tryz.func138 rfl (by kernel_rfl) #[.pointer (some ⟨gp,0,none⟩)] (by simp [Act.eval]) (HK5.out _ HPD.out.2) ?_;rintro r w5 h5;obtain ⟨x,a5,st5,e5,rfl,HKI⟩:=gB HPD.out.1 h5;refine ⟨_,rfl,⟨⟨_,HKI.chg⟩,rfl⟩,?_⟩;simp only [sP];refine bL ?_;simp only [sN];refine wpQuiet_nil ?_;obtain ⟨wx,gz,hWx,hgz,HZB,HKI⟩:=gM HKI;refine aE rfl (by simp [go_sem];exact ⟨rfl,hWx⟩) ⟨⟨_,HKI.chg⟩,rfl⟩ ?_;simp only [Act.put,List.setIfInBounds_toArray,List.set_cons_succ,List.set_cons_zero,hgz];clear hWx hgz h5;refine bI ?_;simp only [sN];refine wpQuiet_nil ?_
   case' right=>
    obtain ⟨w4,hW4,HZ4,HC4,HP4⟩:=fC HF.out.ps;refine aE rfl (by simp [go_sem];exact ⟨rfl,hW4⟩) ⟨⟨_,HC4.out⟩,rfl⟩ ?_;simp only [sP];clear hW4;refine bL ?_;simp only [sN];refine wpQuiet_nil ?_;refine aC rfl 138 _ _ rfl Tryz.func138 rfl (by kernel_rfl) #[.pointer (some ⟨gp,0,none⟩)] (by simp [Act.eval]) (HK5.out _ HP4) ?_;rintro r wx h5;obtain ⟨x,a5,st5,e5,gz,rfl,hgz,HZB,HKI⟩:=fB HF.out.ps HZ4.out HC4.out h5;refine ⟨_,rfl,⟨⟨_,HKI.chg⟩,rfl⟩,?_⟩;simp only [sP]
    try simp only [hgz]
    clear hgz h5;refine bI ?_;simp only [sN];refine wpQuiet_nil ?_
   all_goals
    have HU5:=hD (HKI.ut HF.out.ut (by have:=HF.out.gp;omega));clear ft3;refine aD ?_;simp only [sN]
    repeat (go_big_quiet_step (fail))
    refine wpQuiet_nil ?_;refine aA rfl ?_;at_builtin;refine eJ rfl rfl rfl HU5.out (by simp [Act.eval]) (by simp [Act.eval]) HZB.out (by omega) ?_;intro g7 c7 w7 HKO;obtain ⟨h01,h02,h03⟩:=Fd ks.length;obtain ⟨z0,z1,z2,z3,f0,f1,f2,f3⟩:=HKO.z;refine ⟨⟨_,rfl⟩,?_⟩;simp only [sP];refine bF ?_;simp only [sN]
    repeat (go_big_quiet_step (fail))
    refine wpQuiet_nil ?_;apply And.intro
    case' left=>
     refine aA rfl ?_;go_wp2_with fail;refine ⟨⟨_,rfl⟩,?_⟩;obtain ⟨b3,q3⟩:=HKO.zb x;refine aD ?_;simp only [sN]
     repeat (go_big_quiet_step (fail))
     refine wpQuiet_nil ?_;refine aA rfl ?_;go_wp2_with fail;refine ⟨⟨_,rfl⟩,?_⟩;obtain ⟨wf,hWf,HKF⟩:=HKO.fin8 x;rw [hWf];clear hWf b3 q3
    case' right=>
     obtain ⟨b3,q3⟩:=HKO.b;refine aA rfl ?_;go_wp2_with fail;refine ⟨⟨_,rfl⟩,?_⟩;clear z0 z1 z2 z3 f0 f1 f2 f3 b3 q3;obtain ⟨z0,z1,z2,z3,f0,f1,f2,f3⟩:=HKO.bz;refine aD ?_;simp only [sN]
     repeat (go_big_quiet_step (fail))
     refine wpQuiet_nil ?_;refine aA rfl ?_;go_wp2_with fail;refine ⟨⟨_,rfl⟩,?_⟩;obtain ⟨wf,hWf,HKF⟩:=HKO.fin10 x;rw [hWf];clear hWf
    all_goals
     refine aM ?_;simp only [sN];refine wpQuiet_nil ?_;go_wp2_with fail;refine NoPanic.normal ?_;go_wp2_with fail;go_meet;exact hD (eI HKI HF.out.ut (by have:=HF.out.gp;omega) HKF)
  case rest=>
   clear hk0;obtain ⟨x4,a4,st4,e4,KD4,hf6,ha6,hz6⟩:=HF.out.kid hcut.out;have HF:=hD hf6;have HSZ:=hD (HSZ.out.kid ha6 hz6);have HAD:=hD (HAD.out.trans ha6);obtain ⟨ks4,hk6⟩:=nm (ks++[x4]);have HKL:=hD (show ks4.length<=1 by have:=HKL.out;rw [<- hk6,List.length_append,List.length_singleton];omega);rw [hk6] at HF HSZ;clear hf6 ha6 hz6 hcut hk6;go_wp2_with fail;(with_reducible refine (bP _ wc HF.out.ps hn HF.out.ut (by have:=HGP.out;omega) hK (by have:=HLL.out;omega)).mono ?_);rintro r0 v5 hm6;obtain ⟨a5,st5,e5,s5,L5,ls5,rfl,hf5,ha5,hl5,-⟩:=HF.out.must hm6;have HF:=hD hf5;have HA5:=hD ha5;have HL5:=hD hl5;clear hm6 hf5 ha5 hl5;have HLL:=hD (show ls5.length<=4 by have:=HLL.out;have:=HL5.out;omega);have HAD:=hD (HAD.out.trans HA5.out);have HSZ:=hD (HSZ.out.must HA5.out);clear HA5 HL5;obtain ⟨⟨LA5,lc5,rfl,-⟩,⟨KA5,kc5,rfl,-⟩⟩:=HF.out.ut.forms;obtain ⟨z0,z1,z2,z3,z4⟩:=HF.out.ps.box.c5;have q5:(e5 == 0)=true\/(e5 == 0)=false:=by cases (e5 == 0) <;> simp
   rcases q5 with q5 | q5
   ·have HK6:Hid (∀ w',PS w' gp Kt n A c tl a5 st5 e5->Calls Tryz.prog 138 #[.pointer (some ⟨gp,0,none⟩)] w' (bZ w' gp Kt n A c tl a5 e5 K)):=fun w' h'=>HE.out a5 st5 e5 w' h' HE0.out (fun h0=>(HAD.out.2.2 h0).2);have hk0:=HKL.out;go_upto_region 9 with fail;go_cut [41] (fun x wq=>Hid (dT v5 gp Kt n A c tl a5 e5 K (w.heap.size+1) gt 20 s5 (.slice LA5 ls5.length lc5) ls5 (.slice KA5 ks4.length kc5) ks4 wq))
    case first=>
     have t3:=HF.out.ut.box.cell 3;simp at t3;have ft3:=bA (M:=fun i=>i=gp) t3 (by have:=HF.out.ut.glo;have:=HF.out.gp;omega);have HPD:=hD (eQ HF.out.ps);clear t3;go_wp2_with fail;refine cS (fun i=>i=gp) 5 (.two [0,1,2,4] 3 (.one [] 5 (.last [])) 5 (.one [] 3 (.last []))) (.one [] 6 (.two [7,9] 8 (.one [] 10 (.last [])) 10 (.one [] 8 (.last [])))) (by kernel_rfl) (by kernel_rfl) ?_;refine dR ?_;simp only [sN]
     repeat (go_big_quiet_step (fail))
     refine wpQuiet_nil ?_;apply And.intro
     case' left=>
      refine aC rfl 138 _ _ rfl Tryz.func138 rfl (by kernel_rfl) #[.pointer (some ⟨gp,0,none⟩)] (by simp [Act.eval]) (HK6.out _ HPD.out.2) ?_;rintro r w5 h5;obtain ⟨x,a5,st5,e5,rfl,HKI⟩:=gB HPD.out.1 h5;refine ⟨_,rfl,⟨⟨_,HKI.chg⟩,rfl⟩,?_⟩;simp only [sP];refine bL ?_;simp only [sN];refine wpQuiet_nil ?_;obtain ⟨wx,gz,hWx,hgz,HZB,HKI⟩:=gM HKI;refine aE rfl (by simp [go_sem];exact ⟨rfl,hWx⟩) ⟨⟨_,HKI.chg⟩,rfl⟩ ?_;simp only [Act.put,List.setIfInBounds_toArray,List.set_cons_succ,List.set_cons_zero,hgz];clear hWx hgz h5;refine bI ?_;simp only [sN];refine wpQuiet_nil ?_
     case' right=>
      obtain ⟨w4,hW4,HZ4,HC4,HP4⟩:=fC HF.out.ps;refine aE rfl (by simp [go_sem];exact ⟨rfl,hW4⟩) ⟨⟨_,HC4.out⟩,rfl⟩ ?_;simp only [sP];clear hW4;refine bL ?_;simp only [sN];refine wpQuiet_nil ?_;refine aC rfl 138 _ _ rfl Tryz.func138 rfl (by kernel_rfl) #[.pointer (some ⟨gp,0,none⟩)] (by simp [Act.eval]) (HK6.out _ HP4) ?_;rintro r wx h5;obtain ⟨x,a5,st5,e5,gz,rfl,hgz,HZB,HKI⟩:=fB HF.out.ps HZ4.out HC4.out h5;refine ⟨_,rfl,⟨⟨_,HKI.chg⟩,rfl⟩,?_⟩;simp only [sP]
      try simp only [hgz]
      clear hgz h5;refine bI ?_;simp only [sN];refine wpQuiet_nil ?_
     all_goals
      have HU5:=hD (HKI.ut HF.out.ut (by have:=HF.out.gp;omega));clear ft3;refine aD ?_;simp only [sN]
      repeat (go_big_quiet_step (fail))
      refine wpQuiet_nil ?_;refine aA rfl ?_;at_builtin;refine eJ rfl rfl rfl HU5.out (by simp [Act.eval]) (by simp [Act.eval]) HZB.out (by omega) ?_;intro g7 c7 w7 HKO;obtain ⟨h01,h02,h03⟩:=Fd ks4.length;obtain ⟨z0,z1,z2,z3,f0,f1,f2,f3⟩:=HKO.z;refine ⟨⟨_,rfl⟩,?_⟩;simp only [sP];refine bF ?_;simp only [sN]
      repeat (go_big_quiet_step (fail))
      refine wpQuiet_nil ?_;apply And.intro
      case' left=>
       refine aA rfl ?_;go_wp2_with fail;refine ⟨⟨_,rfl⟩,?_⟩;obtain ⟨b3,q3⟩:=HKO.zb x;refine aD ?_;simp only [sN]
       repeat (go_big_quiet_step (fail))
       refine wpQuiet_nil ?_;refine aA rfl ?_;go_wp2_with fail;refine ⟨⟨_,rfl⟩,?_⟩;obtain ⟨wf,hWf,HKF⟩:=HKO.fin8 x;rw [hWf];clear hWf b3 q3
      case' right=>
       obtain ⟨b3,q3⟩:=HKO.b;refine aA rfl ?_;go_wp2_with fail;refine ⟨⟨_,rfl⟩,?_⟩;clear z0 z1 z2 z3 f0 f1 f2 f3 b3 q3;obtain ⟨z0,z1,z2,z3,f0,f1,f2,f3⟩:=HKO.bz;refine aD ?_;simp only [sN]
       repeat (go_big_quiet_step (fail))
       refine wpQuiet_nil ?_;refine aA rfl ?_;go_wp2_with fail;refine ⟨⟨_,rfl⟩,?_⟩;obtain ⟨wf,hWf,HKF⟩:=HKO.fin10 x;rw [hWf];clear hWf
      all_goals
       refine aM ?_;simp only [sN];refine wpQuiet_nil ?_;go_wp2_with fail;refine NoPanic.normal ?_;go_wp2_with fail;go_meet;exact hD (eI HKI HF.out.ut (by have:=HF.out.gp;omega) HKF)
    case rest=>
     clear hk0 z0 z1 z2 z3 z4;obtain ⟨x6,a6,st6,e6,KD6,hf6,ha6,hz6⟩:=HF.out.kid hcut.out;have HF:=hD hf6;have HSZ:=hD (HSZ.out.kid ha6 hz6);have HAD:=hD (HAD.out.trans ha6);obtain ⟨ks6,hk6⟩:=nm (ks4++[x6]);have HKL:=hD (show ks6.length<=2 by have:=HKL.out;rw [<- hk6,List.length_append,List.length_singleton];omega);rw [hk6] at HF HSZ;clear hf6 ha6 hz6 hcut hk6;obtain ⟨-,⟨KA6,kc6,rfl,-⟩⟩:=HF.out.ut.forms;obtain ⟨y0,y1,y2,y3⟩:=HF.out.ut.box.c4;obtain ⟨x0,x1,x2,x3⟩:=HF.out.res.c4;obtain ⟨q0,q1,q2,q3⟩:=HF.out.res.f4;go_wp2_with fail;refine rR (aP HF.out.res _ _ _ _) Tryz.underlying99 rfl rfl rfl rfl (by kernel_rfl) ?_;refine FT.ret HF.out ?_ ?_ ?_ HAD.out (HSZ.out.ret (by omega))
     ·first | exact HIK.out | (unfold aO;omega)
     ·have:=HLL.out;omega
     ·have:=HKL.out;omega
   ·have y0:=HF.out.ut.box.cell 0;have y1:=HF.out.ut.box.cell 1;have y2:=HF.out.ut.box.cell 2;have y3:=HF.out.ut.box.cell 3;simp at y0 y1 y2 y3;obtain ⟨x0,x1,x2,x3⟩:=HF.out.res.c4;obtain ⟨q0,q1,q2,q3⟩:=HF.out.res.f4;go_wp2_with fail;refine rR (aP HF.out.res _ _ _ _) Tryz.underlying99 rfl rfl rfl rfl (by kernel_rfl) ?_;refine FT.ret HF.out ?_ ?_ ?_ HAD.out (HSZ.out.ret (by omega))
    ·first | exact HIK.out | (unfold aO;omega)
    ·have:=HLL.out;omega
    ·have:=HKL.out;omega
 go_wp2_with fail;(with_reducible refine (cU _ w1 HP.out hn).mono ?_);rintro r0 w2 ⟨b1,rfl,hb1,hbt⟩;have HX:=hD (HX.out.below hb1 HX.out.lt);have HC:Hid (aT w w2 (fun i=>i=gp)):=HC.out.trans (aT.of_new hb1 _) (fun i _ h=>h);have HP:=hD (HP.out.below hb1);clear hb1
 cases b1
 case true=>
  have HE0:Hid (e=0):=(hbt rfl).1;clear hbt;obtain ⟨Wa,hWa⟩:=nm (w2.alloc (.cells #[.int .i64 0,.string ⟨#[]⟩,.slice none 0 0,.slice none 0 0] 99));obtain ⟨Wb,hWb⟩:=nm (((((Wa.setCell ⟨w2.heap.size,0,none⟩ (.int .i64 19)).setCell ⟨w2.heap.size,1,none⟩ (.string ⟨#[]⟩)).setCell ⟨w2.heap.size,2,none⟩ (.slice none 0 0)).setCell ⟨w2.heap.size,3,none⟩ (.slice none 0 0)));have HF:Hid (FT w Wb gp Kt n A c tl a st e K w2.heap.size 19 ⟨#[]⟩ (.slice none 0 0) [] (.slice none 0 0) []):=by
   have:=FT.new (K:=K) 19 ⟨#[]⟩ (Nat.zero_le _) HP.out HC.out HX.out HGP.out;rw [hWa,hWb] at this;exact this
  have HWa:=hD hWa;have HWb:=hD hWb;have HAX:=bk hWa;clear hWa hWb;obtain ⟨x0,x1,x2,x3⟩:=HAX.out.c4;obtain ⟨q0,q1,q2,q3⟩:=HAX.out.f4;go_upto_region 13 with (first | rw [HWa.out] | rw [HWb.out]);clear HWa HWb HAX x0 x1 x2 x3 q0 q1 q2 q3;have HAD:Hid (fK n a e a e\/True):=.inr trivial;clear HAD;obtain ⟨Wc,hWc⟩:=nm (Wb.alloc (.cells #[.string ⟨#[]⟩,.string ⟨#[]⟩,.string ⟨#[]⟩] 199));obtain ⟨Wd,hWd⟩:=nm ((((Wc.setCell ⟨Wb.heap.size,0,none⟩ (.string ⟨#[105,102]⟩)).setCell ⟨Wb.heap.size,1,none⟩ (.string ⟨#[116,104,101,110]⟩)).setCell ⟨Wb.heap.size,2,none⟩ (.string ⟨#[101,108,115,101]⟩)));have HAX:=bk hWc;have HG:Hid (aK Wd Wb.heap.size 199 #[.string ⟨#[105,102]⟩,.string ⟨#[116,104,101,110]⟩,.string ⟨#[101,108,115,101]⟩]):=by rw [<- hWd];exact HAX.out.val3 _ _ _
  have HCD:Hid (aT Wb Wd (fun i=>i=Wb.heap.size)):=by subst hWd;subst hWc;exact ((((aT.refl Wb (fun i=>i=Wb.heap.size)).alloc _).setCell (p:=⟨Wb.heap.size,0,none⟩) (.inl rfl) _).setCell (p:=⟨Wb.heap.size,1,none⟩) (.inl rfl) _).setCell (p:=⟨Wb.heap.size,2,none⟩) (.inl rfl) _
  have HF:=hD (HF.out.fail (HF.out.ps.chg HCD.out (fun i h=>by have:=HF.out.ps.lt;omega)) ((aT.refl Wb (fun i=>i=gp)).trans HCD.out (fun i h1 h2=>by omega)));have HWc:=hD hWc;have HWd:=hD hWd;clear hWc hWd HCD;obtain ⟨x0,x1,x2⟩:=HAX.out.c3;obtain ⟨q0,q1,q2⟩:=HAX.out.f3;go_wp2_with (first | rw [HWc.out] | rw [HWd.out]);clear HWc HWd HAX x0 x1 x2 q0 q1 q2;obtain ⟨gt,hgt⟩:=nm w2.heap.size;obtain ⟨gw,hgw⟩:=nm Wb.heap.size;rw [hgt] at HF ⊢;rw [hgw] at HG ⊢;clear hgt hgw;go_loopw [6] (fun i wr=>∃ (k a1:Nat) (st1 e1:Int) (s1q:ByteArray) (LA1:Option Addr) (lc1:Nat) (ls1:List ByteArray) (KA1:Option Addr) (kc1:Nat) (ks1:List TX),i=.int .i64 (k:Int)/\k<=3/\Hid (FT w wr gp Kt n A c tl a1 st1 e1 K gt 19 s1q (.slice LA1 ls1.length lc1) ls1 (.slice KA1 ks1.length kc1) ks1)/\Hid (aK wr gw 199 #[.string ⟨#[105,102]⟩,.string ⟨#[116,104,101,110]⟩,.string ⟨#[101,108,115,101]⟩])/\Hid ((k=0/\a1=a/\e1=e)\/fK n a e a1 e1)/\Hid (nN a a1 e1 ks1 k)/\Hid (ls1.length<=k)/\Hid (ks1.length<=k)) (fun i _=>3 - (intOf i).toNat)
  case atStart=>exact ⟨0,a,st,e,⟨#[]⟩,none,0,[],none,0,[],rfl,by omega,HF,HG,.inl ⟨rfl,rfl,rfl⟩,nN.start a e,Nat.le_refl _,Nat.le_refl _⟩
  case round=>
   clear HF HG;obtain ⟨k,a1,st1,e1,s1q,LA1,lc1,ls1,KA1,kc1,ks1,rfl,hk,HF,HG,HAK,HSZ,HLL,HKL⟩:=hrel;obtain ⟨z0,z1,z2,z3,z4⟩:=HF.out.ps.box.c5;by_cases hk3:k=3
   ·have d3:decide ((k:Int) < 3)=false:=decide_eq_false (by omega);have HAD:Hid (fK n a e a1 e1):=by
     rcases HAK.out with ⟨h0,-⟩ | h0
     ·omega
     ·exact h0
    have HSZ:Hid (nN a a1 e1 ks1 3):=by rw [<- hk3];exact HSZ.out
    obtain ⟨y0,y1,y2,y3⟩:=HF.out.ut.box.c4;obtain ⟨x0,x1,x2,x3⟩:=HF.out.res.c4;obtain ⟨q0,q1,q2,q3⟩:=HF.out.res.f4;go_wp2_with fail;refine rR (aP HF.out.res _ _ _ _) Tryz.underlying99 rfl rfl rfl rfl (by kernel_rfl) ?_;refine FT.ret HF.out ?_ ?_ ?_ HAD.out (HSZ.out.ret (by omega))
    ·first | exact HIK.out | (unfold aO;omega)
    ·have:=HLL.out;omega
    ·have:=HKL.out;omega
   have d3:decide ((k:Int) < 3)=true:=decide_eq_true (by omega);have q5:(e1 == 0)=true\/(e1 == 0)=false:=by cases (e1 == 0) <;> simp
   rcases q5 with q5 | q5
   ·have he1:e1=0:=by simpa using q5
    have hgk:∃ sw,wr.cell? ⟨gw,k,none⟩=some (.string sw):=by
     have h3:k=0\/k=1\/k=2:=by omega
     rcases h3 with rfl | rfl | rfl
     ·exact ⟨_,HG.out.cell 0⟩
     ·exact ⟨_,HG.out.cell 1⟩
     ·exact ⟨_,HG.out.cell 2⟩
    obtain ⟨sw,hgk⟩:=hgk;have hki0:(0:Int)<=(k:Int):=by omega
    have hki3:(k:Int) < 3:=by omega
    go_wp2_with fail;clear z0 z1 z2 z3 z4;(with_reducible refine (bP sw wr HF.out.ps hn HF.out.ut (by have:=HGP.out;omega) hK (by have:=HLL.out;omega)).mono ?_);rintro r0 v1 hm6;obtain ⟨a2,st2,e2,s2,L2,ls2,rfl,hf5,ha5,hl5,-⟩:=HF.out.must hm6;have HG:Hid (aK v1 gw 199 #[.string ⟨#[105,102]⟩,.string ⟨#[116,104,101,110]⟩,.string ⟨#[101,108,115,101]⟩]):=by
     obtain ⟨_,_,_,_,_,_,_,_,_,_,_,hcm,-⟩:=hm6;refine HG.out.chg hcm (fun h0=>?_);rcases h0 with h0 | h0 | h0
     ·exact aK.ne HG.out HF.out.ps.box (by decide) h0
     ·exact aK.ne HG.out HF.out.ut.box (by decide) h0
     ·exact aX HF.out.ut.lead HG.out (by decide) h0
    have HF:=hD hf5;have HAD:Hid (fK n a e a2 e2):=by
     rcases HAK.out with ⟨-,h1,h2⟩ | h0
     ·rw [<- h1,<- h2];exact ha5
     ·exact h0.trans ha5
    have HSZ:Hid (nN a a2 e2 ks1 (k+1)):=by
     have:=HSZ.out.must ha5;exact ⟨this.1,fun h0=>by have:=this.2 h0;omega⟩
    have HLL:=hD (show ls2.length<=k+1 by have:=HLL.out;omega);clear hm6 hf5 ha5 hl5 HAK hgk;obtain ⟨⟨LA2,lc2,rfl,-⟩,-⟩:=HF.out.ut.forms;obtain ⟨z0,z1,z2,z3,z4⟩:=HF.out.ps.box.c5;have q6:(e2 == 0)=true\/(e2 == 0)=false:=by cases (e2 == 0) <;> simp
    rcases q6 with q6 | q6
    ·have HK5:Hid (∀ w',PS w' gp Kt n A c tl a2 st2 e2->Calls Tryz.prog 138 #[.pointer (some ⟨gp,0,none⟩)] w' (bZ w' gp Kt n A c tl a2 e2 K)):=fun w' h'=>HE.out a2 st2 e2 w' h' HE0.out (fun h0=>(HAD.out.2.2 h0).2);have hkl:=HKL.out;go_wp2_with fail;have t3:=HF.out.ut.box.cell 3;simp at t3;have ft3:=bA (M:=fun i=>i=gp) t3 (by have:=HF.out.ut.glo;have:=HF.out.gp;omega);have HPD:=hD (eQ HF.out.ps);clear t3;go_wp2_with fail;refine cS (fun i=>i=gp) 5 (.two [0,1,2,4] 3 (.one [] 5 (.last [])) 5 (.one [] 3 (.last []))) (.one [] 6 (.two [7,9] 8 (.one [] 10 (.last [])) 10 (.one [] 8 (.last [])))) (by kernel_rfl) (by kernel_rfl) ?_;refine dR ?_;simp only [sN]
     repeat (go_big_quiet_step (fail))
     refine wpQuiet_nil ?_;apply And.intro
     case' left=>
      refine aC rfl 138 _ _ rfl Tryz.func138 rfl (by kernel_rfl) #[.pointer (some ⟨gp,0,none⟩)] (by simp [Act.eval]) (HK5.out _ HPD.out.2) ?_;rintro r w5 h5;obtain ⟨x,a5,st5,e5,rfl,HKI⟩:=gB HPD.out.1 h5;refine ⟨_,rfl,⟨⟨_,HKI.chg⟩,rfl⟩,?_⟩;simp only [sP];refine bL ?_;simp only [sN];refine wpQuiet_nil ?_;obtain ⟨wx,gz,hWx,hgz,HZB,HKI⟩:=gM HKI;refine aE rfl (by simp [go_sem];exact ⟨rfl,hWx⟩) ⟨⟨_,HKI.chg⟩,rfl⟩ ?_;simp only [Act.put,List.setIfInBounds_toArray,List.set_cons_succ,List.set_cons_zero,hgz];clear hWx hgz h5;refine bI ?_;simp only [sN];refine wpQuiet_nil ?_
     case' right=>
      obtain ⟨w4,hW4,HZ4,HC4,HP4⟩:=fC HF.out.ps;refine aE rfl (by simp [go_sem];exact ⟨rfl,hW4⟩) ⟨⟨_,HC4.out⟩,rfl⟩ ?_;simp only [sP];clear hW4;refine bL ?_;simp only [sN];refine wpQuiet_nil ?_;refine aC rfl 138 _ _ rfl Tryz.func138 rfl (by kernel_rfl) #[.pointer (some ⟨gp,0,none⟩)] (by simp [Act.eval]) (HK5.out _ HP4) ?_;rintro r wx h5;obtain ⟨x,a5,st5,e5,gz,rfl,hgz,HZB,HKI⟩:=fB HF.out.ps HZ4.out HC4.out h5;refine ⟨_,rfl,⟨⟨_,HKI.chg⟩,rfl⟩,?_⟩;simp only [sP]
      try simp only [hgz]
      clear hgz h5;refine bI ?_;simp only [sN];refine wpQuiet_nil ?_
     all_goals
      have HU5:=hD (HKI.ut HF.out.ut (by have:=HF.out.gp;omega));clear ft3;refine aD ?_;simp only [sN]
      repeat (go_big_quiet_step (fail))
      refine wpQuiet_nil ?_;refine aA rfl ?_;at_builtin;refine eJ rfl rfl rfl HU5.out (by simp [Act.eval]) (by simp [Act.eval]) HZB.out (by omega) ?_;intro g7 c7 w7 HKO;obtain ⟨h01,h02,h03⟩:=Fd ks1.length;obtain ⟨z0,z1,z2,z3,f0,f1,f2,f3⟩:=HKO.z;refine ⟨⟨_,rfl⟩,?_⟩;simp only [sP];refine bF ?_;simp only [sN]
      repeat (go_big_quiet_step (fail))
      refine wpQuiet_nil ?_;apply And.intro
      case' left=>
       refine aA rfl ?_;go_wp2_with fail;refine ⟨⟨_,rfl⟩,?_⟩;obtain ⟨b3,q3⟩:=HKO.zb x;refine aD ?_;simp only [sN]
       repeat (go_big_quiet_step (fail))
       refine wpQuiet_nil ?_;refine aA rfl ?_;go_wp2_with fail;refine ⟨⟨_,rfl⟩,?_⟩;obtain ⟨wf,hWf,HKF⟩:=HKO.fin8 x;rw [hWf];clear hWf b3 q3
      case' right=>
       obtain ⟨b3,q3⟩:=HKO.b;refine aA rfl ?_;go_wp2_with fail;refine ⟨⟨_,rfl⟩,?_⟩;clear z0 z1 z2 z3 f0 f1 f2 f3 b3 q3;obtain ⟨z0,z1,z2,z3,f0,f1,f2,f3⟩:=HKO.bz;refine aD ?_;simp only [sN]
       repeat (go_big_quiet_step (fail))
       refine wpQuiet_nil ?_;refine aA rfl ?_;go_wp2_with fail;refine ⟨⟨_,rfl⟩,?_⟩;obtain ⟨wf,hWf,HKF⟩:=HKO.fin10 x;rw [hWf];clear hWf
      all_goals
       refine aM ?_;simp only [sN];refine wpQuiet_nil ?_;go_wp2_with fail;refine NoPanic.normal ?_;have hcut:=hD (eI HKI HF.out.ut (by have:=HF.out.gp;omega) HKF);clear z0 z1 z2 z3 f0 f1 f2 f3;have HG:=hD (HG.out.chg hcut.out.chg (fun h0=>by
        rcases h0 with h0 | h0 | h0
        ·exact aK.ne HG.out HF.out.ps.box (by decide) h0
        ·exact aK.ne HG.out HF.out.ut.box (by decide) h0
        ·exact aX HF.out.ut.kids.row HG.out (by decide) h0))
       obtain ⟨x4,a4,st4,e4,KD4,hf6,ha6,hz6⟩:=HF.out.kid hcut.out;have HF:=hD hf6;have HSZ:=hD (HSZ.out.kid ha6 hz6);have HAD:=hD (HAD.out.trans ha6);obtain ⟨ks4,hk6⟩:=nm (ks1++[x4]);have HKL:=hD (show ks4.length<=(k+1) by have:=HKL.out;rw [<- hk6,List.length_append,List.length_singleton];omega);rw [hk6] at HF HSZ;clear hf6 ha6 hz6 hcut hk6;obtain ⟨-,⟨KA4,kc4,rfl,-⟩⟩:=HF.out.ut.forms;go_wp2_with fail;go_roundw
       case rel=>exact ⟨k+1,a4,st4,e4,s2,LA2,lc2,ls2,KA4,kc4,ks4,by go_num,by omega,HF,HG,.inr HAD.out,HSZ,HLL,HKL⟩
       case measure=>simp [intOf];omega
    ·go_wp2_with fail;go_roundw
     case rel=>exact ⟨k+1,a2,st2,e2,s2,LA2,lc2,ls2,KA1,kc1,ks1,by go_num,by omega,HF,HG,.inr HAD.out,HSZ,HLL,Nat.le_succ_of_le HKL.out⟩
     case measure=>simp [intOf];omega
   ·have he1:e1≠0:=by simpa using q5
    have HAD:Hid (fK n a e a1 e1):=by
     rcases HAK.out with ⟨-,-,h0⟩ | h0
     ·exact absurd (h0.trans HE0.out) he1
     ·exact h0
    have HSZ:Hid (e1=0->1+T.sizes (ks1.map TX.plain)<=3*(a1 - a)):=fun h0=>absurd h0 he1;obtain ⟨y0,y1,y2,y3⟩:=HF.out.ut.box.c4;obtain ⟨x0,x1,x2,x3⟩:=HF.out.res.c4;obtain ⟨q0,q1,q2,q3⟩:=HF.out.res.f4;go_wp2_with fail;refine rR (aP HF.out.res _ _ _ _) Tryz.underlying99 rfl rfl rfl rfl (by kernel_rfl) ?_;refine FT.ret HF.out ?_ ?_ ?_ HAD.out HSZ.out
    ·first | exact HIK.out | (unfold aO;omega)
    ·have:=HLL.out;omega
    ·have:=HKL.out;omega
 clear hbt;go_wp2_with fail;(with_reducible refine (HU.out a st e w2 HP.out (Nat.le_refl _) (fun h0=>h0)).mono ?_);rintro r0 w3 ⟨t,a3,st3,e3,hr0,hp5,hc5,hr5,hi5,hb5,ha5,hz5⟩;obtain rfl:r0=.returned (.agg #[.int .i64 t.kind,.string t.text,.slice t.lA t.leads.length t.lc,.slice t.kA t.kids.length t.kc]):=hr0;obtain ⟨Wa,hWa⟩:=nm (w3.alloc (.cells #[.int .i64 t.kind,.string t.text,.slice t.lA t.leads.length t.lc,.slice t.kA t.kids.length t.kc] 99));have HB:Hid (BX w Wa gp Kt n A c tl a3 st3 e3 K w3.heap.size t):=by
  have hl:=HX.out.lt;have hs:=hc5.size;have hg:=HGP.out;subst hWa;refine ⟨hp5.below (bK (Below.refl _ _) _),aK.new _ _ _,(hr5.up (Nat.le_refl _) (bK (Below.refl _ _) _)).more (by simp),(hr5.ins.and hi5 (R:=fun b=>w.heap.size+1<=b/\b≠w3.heap.size) (fun b h1 h2=>by omega)),hb5,(HC.out.trans hc5 (fun i _ h=>h)).alloc _,(HX.out.chg hc5 (by omega)).alloc _,hg,by omega⟩
 have HAD:=hD ha5;have HZ:=hD hz5;have HWa:=hD hWa;clear hp5 hc5 hr5 hi5 hb5 ha5 hz5 hWa HX HC HP;go_wp2_with (rw [HWa.out]);clear HWa;obtain ⟨gt,hgt⟩:=nm w3.heap.size;rw [hgt] at HB ⊢;clear hgt;go_loopw [] (fun wr=>∃ (a1:Nat) (st1 e1:Int) (t:TX),Hid (BX w wr gp Kt n A c tl a1 st1 e1 K gt t)/\Hid (fK n a e a1 e1)/\Hid (e1=0->t.plain.size<=3*(a1 - a))) (fun wr=>Ce n gp wr)
 case atStart=>exact ⟨a3,st3,e3,t,HB,HAD,HZ⟩
 case round=>
  clear HB HAD HZ;obtain ⟨a1,st1,e1,t,HB,HAD,HZ⟩:=hrel;obtain ⟨k1,hk1,-,hkf⟩:=Ag wr HB.out.ps hn;have HKF:=hD hkf;clear hkf;have q8:(k1 == 8)=true\/(k1 == 8)=false:=by cases (k1 == 8) <;> simp
  rcases q8 with q8 | q8
  ·have hk8:k1≠0:=by
    have:k1=8:=by simpa using q8
    omega
   obtain ⟨he1,ha1⟩:=hk1 hk8;clear hk8 hk1;have HE1:=hD he1;have HA1:=hD ha1;obtain ⟨b,off,z0,s1q,s2,hA,hbg,c0,c1,c2,-⟩:=HB.out.ps.tok.tok_at ha1;obtain ⟨z0,z1,z2,z3,z4⟩:=HB.out.ps.box.c5;rw [hA] at z0;have f0:=pC z0;have f1:=pC z1;have f2:=pC c2;have hi0:(0:Int)<=(a1:Int):=by omega
   have hi1:(a1:Int) < (n:Int):=by omega
   obtain ⟨b1,hop⟩:=oS s2;have HOP:=hD hop;clear hop
   cases b1
   case false=>
    go_wp2_with fail;refine dU (by kernel_rfl) (by kernel_rfl) ?_
    repeat (go_big_quiet_step (first | (with_reducible exact jB (HKF.out _ (jS.bel _))) | (exact jB ((HOP.out _).mono (fun e w' h=>⟨h.1,h.2 ▸ Below.refl _ _⟩)))))
    refine wpQuiet_nil ?_;intro w5 hw5;obtain ⟨⟨w5,hb5⟩,rfl⟩:=hw5;clear f0 f1 f2 c0 c1 c2 z0 z1 z2 z3 z4;have HB:=hD (HB.out.below hb5);clear hb5;obtain ⟨y0,y1,y2,y3⟩:=HB.out.box.c4;obtain ⟨x0,x1,x2,x3⟩:=HB.out.res.c4;obtain ⟨q0,q1,q2,q3⟩:=HB.out.res.f4;go_wp2_with fail;refine rR (aP HB.out.res _ _ _ _) Tryz.underlying99 rfl rfl rfl rfl (by kernel_rfl) ?_;exact bZ.pass2 HB.out.chg HB.out.gp HB.out.ps HB.out.tr (HB.out.ins.mono (fun b h=>h.1)) HB.out.bd HAD.out HZ.out
   case true=>
    go_wp2_with fail;refine dU (by kernel_rfl) (by kernel_rfl) ?_
    repeat (go_big_quiet_step (first | (with_reducible exact jB (HKF.out _ (jS.bel _))) | (exact jB ((HOP.out _).mono (fun e w' h=>⟨h.1,h.2 ▸ Below.refl _ _⟩)))))
    refine wpQuiet_nil ?_;intro w5 hw5;obtain ⟨⟨w5,hb5⟩,rfl⟩:=hw5;clear f0 f1 f2 c0 c1 c2 z0 z1 z2 z3 z4;have HB5:=hD (HB.out.below hb5);clear hb5 HKF HOP;go_wp2_with fail;(with_reducible refine (iS w5 HB5.out.ps hn).mono ?_);rintro r0 w6 ⟨tk,s3,s4,a2,st2,e2,rfl,hp6,ha6,hs3,hs4,hc6⟩;obtain ⟨W7,hW7⟩:=nm (w6.alloc (.cells #[.int .i64 tk,.string s3,.string s4] 145));have HB6:=hD (HB5.out.fail hp6 hc6);have HB7:Hid (BX w W7 gp Kt n A c tl a2 st2 e2 K gt t):=by subst hW7;exact HB6.out.below (bK (Below.refl _ _) _)
    have HX7:=bk hW7;have HG0:Hid (gt < w6.heap.size):=HB6.out.box.lt;have HA6:=hD ha6;have HS3:=hD (Nat.le_trans hs3 hK);have HS4:=hD (Nat.le_trans hs4 hK);have HW7:=hD hW7;obtain ⟨gk,hgk⟩:=nm w6.heap.size;have HGK:=hD hgk;clear hp6 ha6 hs3 hs4 hc6 hW7 HB6 HB5;go_upto_region 24 with (rw [HW7.out]);rw [hgk] at HX7 HG0;have HZ7:Hid (gk < W7.heap.size):=HX7.out.lt;clear hgk HGK HW7;obtain ⟨y0,y1,y2,y3⟩:=HB7.out.box.c4;obtain ⟨x0,x1,x2⟩:=HX7.out.c3;have fy0:=bA (M:=fun i=>i=gp) y0 (by have:=HB7.out.gp;have:=HB7.out.glt;omega);have fy1:=bA (M:=fun i=>i=gp) y1 (by have:=HB7.out.gp;have:=HB7.out.glt;omega);have fy2:=bA (M:=fun i=>i=gp) y2 (by have:=HB7.out.gp;have:=HB7.out.glt;omega);have fy3:=bA (M:=fun i=>i=gp) y3 (by have:=HB7.out.gp;have:=HB7.out.glt;omega);have fx1:=bA (M:=fun i=>i=gp) x1 (by have:=HB7.out.gp;have:=HB7.out.glt;have:=HG0.out;omega);have fx2:=bA (M:=fun i=>i=gp) x2 (by have:=HB7.out.gp;have:=HB7.out.glt;have:=HG0.out;omega);clear y0 y1 y2 y3 x0 x1 x2;have HBD:=hD (HB7.out.below (cC (Below.refl W7.heap.size W7)));have HCD:Hid (aT W7 W7.drew (fun i=>i=gp)):=(aT.refl _ _).drew;have HUC:Hid (∀ w',PS w' gp Kt n A c tl a2 st2 e2->Calls Tryz.prog 158 #[.pointer (some ⟨gp,0,none⟩)] w' (bZ w' gp Kt n A c tl a2 e2 K)):=fun w' h'=>HU.out a2 st2 e2 w' h' (Nat.le_trans HAD.out.1 HA6.out.1) (fun h0=>(HAD.out.2.2 (HA6.out.2.2 h0).1).1);refine bM (fun i=>i=gp) 8 (.two [0,1,2,3,5,6] 4 (.one [] 7 (.one [] 8 (.last []))) 7 (.two [] 4 (.one [] 8 (.last [])) 8 (.one [] 4 (.last [])))) (by kernel_rfl) (by kernel_rfl) ?_
    refine bF ?_;simp only [sN]
    repeat (go_big_quiet_step (fail))
    refine wpQuiet_nil ?_;refine ⟨?_,?_⟩
    ·obtain ⟨w8,hW8⟩:=nm (W7.drew.alloc (.cells #[.string s3] 9));obtain ⟨gl,hgl⟩:=nm W7.drew.heap.size;have HL8:Hid (aK w8 gl 9 [.string s3].toArray):=by rw [<- hW8,<- hgl];exact aK.new _ _ _
     have HC8:Hid (aT W7 w8 (fun i=>i=gp)):=by rw [<- hW8];exact HCD.out.alloc _
     have HN8:Hid (Below W7.drew.heap.size W7.drew w8):=by rw [<- hW8];exact bK (Below.refl _ _) _
     have HB8:=hD (HBD.out.below HN8.out);have HGL:Hid (gk < gl):=by rw [<- hgl];exact Nat.lt_of_lt_of_le HZ7.out HCD.out.size
     refine aE rfl (by simp [go_sem];exact ⟨rfl,hW8⟩) ⟨⟨_,HC8.out⟩,rfl⟩ ?_;simp only [sP]
     try simp at hgl
     simp only [hgl];clear hW8 hgl;refine aD ?_;simp only [sN];refine wpQuiet_nil ?_;refine aC rfl 158 _ _ rfl Tryz.func158 rfl (by kernel_rfl) #[.pointer (some ⟨gp,0,none⟩)] (by simp [Act.eval]) (HUC.out _ HB8.out.ps) ?_;rintro r w9 ⟨x,a9,st9,e9,hr0,hp9,hc9,hr9,hi9,hb9,ha9,hz9⟩;obtain rfl:r=.returned (.agg #[.int .i64 x.kind,.string x.text,.slice x.lA x.leads.length x.lc,.slice x.kA x.kids.length x.kc]):=hr0;have HC9:Hid (aT W7 w9 (fun i=>i=gp)):=HC8.out.trans hc9 (fun i _ h=>h);have HB9:=hD (HB8.out.fail hp9 hc9);have HR9:=hD hr9;have HI9:Hid (gG (gk<=·) x):=hi9.mono (fun b h=>Nat.le_trans (Nat.le_of_lt (Nat.lt_of_lt_of_le HZ7.out HC8.out.size)) h);have HBB:=hD hb9;have HA9:=hD ha9;have HZ9:=hD hz9;refine ⟨_,rfl,⟨⟨_,HC9.out⟩,rfl⟩,?_⟩;simp only [sP];clear hp9 hr9 hi9 hb9 ha9 hz9;have HLE:Hid (aK w9 gl 9 [.string s3].toArray):=HL8.out.chg hc9 (by have:=HB7.out.gp;have:=HB7.out.glt;have:=HG0.out;have:=HGL.out;omega);clear hc9;refine aD ?_;simp only [sN];refine wpQuiet_nil ?_;obtain ⟨wq,hWq⟩:=nm (w9.alloc (.cells #[.int .i64 t.kind,.string t.text,.slice t.lA t.leads.length t.lc,.slice t.kA t.kids.length t.kc,.int .i64 x.kind,.string x.text,.slice x.lA x.leads.length x.lc,.slice x.kA x.kids.length x.kc] 99));obtain ⟨gq,hgq⟩:=nm w9.heap.size;have HQQ:Hid (aK wq gq 99 (t.cells++x.cells).toArray):=by rw [<- hWq,<- hgq];exact aK.new _ _ _
     have HCQ:Hid (aT W7 wq (fun i=>i=gp)):=by rw [<- hWq];exact HC9.out.alloc _
     have HNQ:=bw hWq;have HBQ:=hD (HB9.out.below HNQ.out);have HRQ:=hD ((HR9.out.up (Nat.le_refl _) HNQ.out));have HGQ:Hid (gk<=gq):=by rw [<- hgq];exact Nat.le_of_lt (Nat.lt_of_lt_of_le HZ7.out HC9.out.size)
     refine aE rfl (by simp [go_sem];exact ⟨rfl,hWq⟩) ⟨⟨_,HCQ.out⟩,rfl⟩ ?_;simp only [sP]
     try simp at hgq
     simp only [hgq];clear hgq;have HLE:Hid (aK wq gl 9 [.string s3].toArray):=by subst hWq;exact HLE.out.alloc _
     clear hWq;refine aM ?_;simp only [sN];refine wpQuiet_nil ?_;clear fy0 fy1 fy2 fy3 fx1 fx2;have HBF:=hD (BX.bin HBQ.out HG0.out HLE.out (Nat.le_of_lt HGL.out) HQQ.out HGQ.out (HRQ.out.more (Nat.le_refl _)) HI9.out HBB.out HS3.out HS4.out);have HADF:=hD ((HAD.out.trans HA6.out).trans HA9.out);have HZF:Hid (e9=0->(TX.node 21 s4 (some ⟨gl,0,none⟩) [s3] 1 (some ⟨gq,0,none⟩) [t,x] 2).plain.size<=3*(a9 - a)):=fun h0=>by
      have h1:=HA9.out.2.2 h0;have h2:=HA6.out.2.2 h1.1;have h3:=HZ.out h2.1;have h4:=HZ9.out h0;have h5:=HAD.out.1;rw [TX.plain_eq];simp only [TX.kids,TX.kind,TX.text,TX.leads,List.map_cons,List.map_nil,T.size,T.sizes];omega
     have HMF:=hD (wW HB.out.ps HBF.out.ps HE1.out HA1.out (fun h0=>by
      have h4:=HA9.out.2.2 h0;have h5:=HA6.out.2.2 h4.1;omega))
     obtain ⟨y0,y1,y2,y3⟩:=HBQ.out.box.c4;obtain ⟨q0,q1,q2,q3⟩:=HBQ.out.box.f4;go_wp2_with fail;refine NoPanic.normal ?_;go_wp2_with fail;go_roundw
     case rel=>exact ⟨a9,st9,e9,_,HBF,HADF,HZF⟩
     case measure=>exact HMF.out
    ·refine aC rfl 158 _ _ rfl Tryz.func158 rfl (by kernel_rfl) #[.pointer (some ⟨gp,0,none⟩)] (by simp [Act.eval]) (HUC.out _ HBD.out.ps) ?_;rintro r w9 ⟨x,a9,st9,e9,hr0,hp9,hc9,hr9,hi9,hb9,ha9,hz9⟩;obtain rfl:r=.returned (.agg #[.int .i64 x.kind,.string x.text,.slice x.lA x.leads.length x.lc,.slice x.kA x.kids.length x.kc]):=hr0;have HC9:Hid (aT W7 w9 (fun i=>i=gp)):=HCD.out.trans hc9 (fun i _ h=>h);have HB9:=hD (HBD.out.fail hp9 hc9);have HR9:=hD hr9;have HI9:Hid (gG (gk<=·) x):=hi9.mono (fun b h=>Nat.le_trans (Nat.le_of_lt (Nat.lt_of_lt_of_le HZ7.out HCD.out.size)) h);have HBB:=hD hb9;have HA9:=hD ha9;have HZ9:=hD hz9;refine ⟨_,rfl,⟨⟨_,HC9.out⟩,rfl⟩,?_⟩;simp only [sP];clear hp9 hr9 hi9 hb9 ha9 hz9;clear hc9;refine bF ?_;simp only [sN];refine wpQuiet_nil ?_;refine ⟨?_,?_⟩
     ·obtain ⟨w8,hW8⟩:=nm (w9.alloc (.cells #[.string s3] 9));obtain ⟨gl,hgl⟩:=nm w9.heap.size;have HL8:Hid (aK w8 gl 9 [.string s3].toArray):=by rw [<- hW8,<- hgl];exact aK.new _ _ _
      have HC8:Hid (aT W7 w8 (fun i=>i=gp)):=by rw [<- hW8];exact HC9.out.alloc _
      have HN8:=bw hW8;have HB8:=hD (HB9.out.below HN8.out);have HGL:Hid (gk < gl):=by rw [<- hgl];exact Nat.lt_of_lt_of_le HZ7.out HC9.out.size
      refine aE rfl (by simp [go_sem];exact ⟨rfl,hW8⟩) ⟨⟨_,HC8.out⟩,rfl⟩ ?_;simp only [sP]
      try simp at hgl
      simp only [hgl];clear hW8 hgl;have HR9:=hD (HR9.out.up (Nat.le_refl _) HN8.out);refine aD ?_;simp only [sN];refine wpQuiet_nil ?_;obtain ⟨wq,hWq⟩:=nm (w8.alloc (.cells #[.int .i64 t.kind,.string t.text,.slice t.lA t.leads.length t.lc,.slice t.kA t.kids.length t.kc,.int .i64 x.kind,.string x.text,.slice x.lA x.leads.length x.lc,.slice x.kA x.kids.length x.kc] 99));obtain ⟨gq,hgq⟩:=nm w8.heap.size;have HQQ:Hid (aK wq gq 99 (t.cells++x.cells).toArray):=by rw [<- hWq,<- hgq];exact aK.new _ _ _
      have HCQ:Hid (aT W7 wq (fun i=>i=gp)):=by rw [<- hWq];exact HC8.out.alloc _
      have HNQ:=bw hWq;have HBQ:=hD (HB8.out.below HNQ.out);have HRQ:=hD ((HR9.out.up (Nat.le_refl _) HNQ.out));have HGQ:Hid (gk<=gq):=by rw [<- hgq];exact Nat.le_of_lt (Nat.lt_of_lt_of_le HZ7.out HC8.out.size)
      refine aE rfl (by simp [go_sem];exact ⟨rfl,hWq⟩) ⟨⟨_,HCQ.out⟩,rfl⟩ ?_;simp only [sP]
      try simp at hgq
      simp only [hgq];clear hgq;have HLE:Hid (aK wq gl 9 [.string s3].toArray):=by subst hWq;exact HL8.out.alloc _
      clear hWq;refine aM ?_;simp only [sN];refine wpQuiet_nil ?_;clear fy0 fy1 fy2 fy3 fx1 fx2;have HBF:=hD (BX.bin HBQ.out HG0.out HLE.out (Nat.le_of_lt HGL.out) HQQ.out HGQ.out (HRQ.out.more (Nat.le_refl _)) HI9.out HBB.out HS3.out HS4.out);have HADF:=hD ((HAD.out.trans HA6.out).trans HA9.out);have HZF:Hid (e9=0->(TX.node 21 s4 (some ⟨gl,0,none⟩) [s3] 1 (some ⟨gq,0,none⟩) [t,x] 2).plain.size<=3*(a9 - a)):=fun h0=>by
       have h1:=HA9.out.2.2 h0;have h2:=HA6.out.2.2 h1.1;have h3:=HZ.out h2.1;have h4:=HZ9.out h0;have h5:=HAD.out.1;rw [TX.plain_eq];simp only [TX.kids,TX.kind,TX.text,TX.leads,List.map_cons,List.map_nil,T.size,T.sizes];omega
      have HMF:=hD (wW HB.out.ps HBF.out.ps HE1.out HA1.out (fun h0=>by
       have h4:=HA9.out.2.2 h0;have h5:=HA6.out.2.2 h4.1;omega))
      obtain ⟨y0,y1,y2,y3⟩:=HBQ.out.box.c4;obtain ⟨q0,q1,q2,q3⟩:=HBQ.out.box.f4;go_wp2_with fail;refine NoPanic.normal ?_;go_wp2_with fail;go_roundw
      case rel=>exact ⟨a9,st9,e9,_,HBF,HADF,HZF⟩
      case measure=>exact HMF.out
     ·obtain ⟨wp,hWq⟩:=nm (w9.alloc (.cells #[.int .i64 t.kind,.string t.text,.slice t.lA t.leads.length t.lc,.slice t.kA t.kids.length t.kc,.int .i64 x.kind,.string x.text,.slice x.lA x.leads.length x.lc,.slice x.kA x.kids.length x.kc] 99));obtain ⟨gq,hgq⟩:=nm w9.heap.size;have HQQ:Hid (aK wp gq 99 (t.cells++x.cells).toArray):=by rw [<- hWq,<- hgq];exact aK.new _ _ _
      have HCQ:Hid (aT W7 wp (fun i=>i=gp)):=by rw [<- hWq];exact HC9.out.alloc _
      have HNQ:=bw hWq;have HBQ:=hD (HB9.out.below HNQ.out);have HRQ:=hD ((HR9.out.up (Nat.le_refl _) HNQ.out));have HGQ:Hid (gk<=gq):=by rw [<- hgq];exact Nat.le_of_lt (Nat.lt_of_lt_of_le HZ7.out HC9.out.size)
      refine aE rfl (by simp [go_sem];exact ⟨rfl,hWq⟩) ⟨⟨_,HCQ.out⟩,rfl⟩ ?_;simp only [sP]
      try simp at hgq
      simp only [hgq];clear hgq;clear hWq;refine aD ?_;simp only [sN];refine wpQuiet_nil ?_;obtain ⟨wq,hW8⟩:=nm (wp.alloc (.cells #[.string s3] 9));obtain ⟨gl,hgl⟩:=nm wp.heap.size;have HL8:Hid (aK wq gl 9 [.string s3].toArray):=by rw [<- hW8,<- hgl];exact aK.new _ _ _
      have HC8:Hid (aT W7 wq (fun i=>i=gp)):=by rw [<- hW8];exact HCQ.out.alloc _
      have HN8:=bw hW8;have HB8:=hD (HBQ.out.below HN8.out);have HGL:Hid (gk < gl):=by rw [<- hgl];exact Nat.lt_of_lt_of_le HZ7.out HCQ.out.size
      refine aE rfl (by simp [go_sem];exact ⟨rfl,hW8⟩) ⟨⟨_,HC8.out⟩,rfl⟩ ?_;simp only [sP]
      try simp at hgl
      simp only [hgl];clear hW8 hgl;have HRQ:=hD (HRQ.out.up (Nat.le_refl _) HN8.out);have HQQ:=hD (HQQ.out.below HN8.out HQQ.out.lt);have HBQ:=HB8;have HLE:=HL8;refine aM ?_;simp only [sN];refine wpQuiet_nil ?_;clear fy0 fy1 fy2 fy3 fx1 fx2;have HBF:=hD (BX.bin HBQ.out HG0.out HLE.out (Nat.le_of_lt HGL.out) HQQ.out HGQ.out (HRQ.out.more (Nat.le_refl _)) HI9.out HBB.out HS3.out HS4.out);have HADF:=hD ((HAD.out.trans HA6.out).trans HA9.out);have HZF:Hid (e9=0->(TX.node 21 s4 (some ⟨gl,0,none⟩) [s3] 1 (some ⟨gq,0,none⟩) [t,x] 2).plain.size<=3*(a9 - a)):=fun h0=>by
       have h1:=HA9.out.2.2 h0;have h2:=HA6.out.2.2 h1.1;have h3:=HZ.out h2.1;have h4:=HZ9.out h0;have h5:=HAD.out.1;rw [TX.plain_eq];simp only [TX.kids,TX.kind,TX.text,TX.leads,List.map_cons,List.map_nil,T.size,T.sizes];omega
      have HMF:=hD (wW HB.out.ps HBF.out.ps HE1.out HA1.out (fun h0=>by
       have h4:=HA9.out.2.2 h0;have h5:=HA6.out.2.2 h4.1;omega))
      obtain ⟨y0,y1,y2,y3⟩:=HBQ.out.box.c4;obtain ⟨q0,q1,q2,q3⟩:=HBQ.out.box.f4;go_wp2_with fail;refine NoPanic.normal ?_;go_wp2_with fail;go_roundw
      case rel=>exact ⟨a9,st9,e9,_,HBF,HADF,HZF⟩
      case measure=>exact HMF.out
  ·go_wp2_with fail;refine dU (by kernel_rfl) (by kernel_rfl) ?_
   repeat (go_big_quiet_step (first | (with_reducible exact jB (HKF.out _ (jS.bel _)))))
   refine wpQuiet_nil ?_;intro w5 hw5;obtain ⟨⟨w5,hb5⟩,rfl⟩:=hw5;have HB:=hD (HB.out.below hb5);clear hb5;obtain ⟨y0,y1,y2,y3⟩:=HB.out.box.c4;obtain ⟨x0,x1,x2,x3⟩:=HB.out.res.c4;obtain ⟨q0,q1,q2,q3⟩:=HB.out.res.f4;go_wp2_with fail;refine rR (aP HB.out.res _ _ _ _) Tryz.underlying99 rfl rfl rfl rfl (by kernel_rfl) ?_;exact bZ.pass2 HB.out.chg HB.out.gp HB.out.ps HB.out.tr (HB.out.ins.mono (fun b h=>h.1)) HB.out.bd HAD.out HZ.out
end
end Go.Proofs.YtkgpoimmniojjaaGreat
