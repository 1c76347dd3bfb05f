/- No condition. -/
import Derived.Test.YtkgpoimmniojjaaGreatZaBI
import Derived.Test.YtkgpoimmniojjaaGreatZaBH
import Derived.BigGuardPart
import Derived.Test.YtkgpoimmniojjaaGreatZaAX
namespace Go.Proofs.YtkgpoimmniojjaaGreat
set_option linter.unusedVariables false
set_option linter.unusedSimpArgs false
set_option maxRecDepth 100000
set_option maxHeartbeats 16000000
section
open Go.RowKit
variable {n K gp Kt c a:Nat} {A:Option Addr} {tl:ByteArray} {st e:Int} {w:World}
theorem CG (w:World) (h:PS w gp Kt n A c tl a st e) (hn:n<=1000000) (hK:Kt<=K):Calls Tryz.prog 120 #[.pointer (some ⟨gp,0,none⟩)] w (bZ w gp Kt n A c tl a e K):=by
 have HTY:Hid (∀ a' st' e' w',PS w' gp Kt n A c tl a' st' e'->Calls Tryz.prog 137 #[.pointer (some ⟨gp,0,none⟩)] w' (bZ w' gp Kt n A c tl a' e' K)):=fun a' st' e' w' h1=>Cl w' h1 hn hK;have HEX:Hid (∀ a' st' e' w',PS w' gp Kt n A c tl a' st' e'->Calls Tryz.prog 138 #[.pointer (some ⟨gp,0,none⟩)] w' (bZ w' gp Kt n A c tl a' e' K)):=fun a' st' e' w' h1=>B5 w' h1 hn hK;have hle:=h.le;obtain ⟨W,hW⟩:=nm (w.alloc (.cells #[.int .i64 0,.string ⟨#[]⟩,.slice none 0 0,.slice none 0 0] 99));have HX:=bk hW;have HBW:=bw hW;have HGP:Hid (gp < w.heap.size):=h.lt;have HP:=hD (h.below HBW.out);have HC:Hid (aT w W (fun i=>i=gp)):=aT.of_new HBW.out _;have HW:=hD hW;clear hW h HBW;go_enter Tryz.func120,Tryz.ntmps120;go_wp2_with (rw [HW.out]);clear HW;(with_reducible refine (cU _ W HP.out hn).mono ?_);rintro r0 w1 ⟨b1,rfl,hb1,hbt⟩;have HX:=hD (HX.out.below hb1 HX.out.lt);have HC:Hid (aT w w1 (fun i=>i=gp)):=HC.out.trans (aT.of_new hb1 _) (fun i _ h=>h);have HP:=hD (HP.out.below hb1);clear hb1
 cases b1
 case true=>
  clear hbt;obtain ⟨Wa,hWa⟩:=nm (w1.alloc (.cells #[.int .i64 0,.string ⟨#[]⟩,.slice none 0 0,.slice none 0 0] 99));obtain ⟨Wb,hWb⟩:=nm (((((Wa.setCell ⟨w1.heap.size,0,none⟩ (.int .i64 3)).setCell ⟨w1.heap.size,1,none⟩ (.string ⟨#[]⟩)).setCell ⟨w1.heap.size,2,none⟩ (.slice none 0 0)).setCell ⟨w1.heap.size,3,none⟩ (.slice none 0 0)));have HF:Hid (FT w Wb gp Kt n A c tl a st e K w1.heap.size 3 ⟨#[]⟩ (.slice none 0 0) [] (.slice none 0 0) []):=by
   have:=FT.new (K:=K) 3 ⟨#[]⟩ (Nat.zero_le _) HP.out HC.out HX.out HGP.out;rw [hWa,hWb] at this;exact this
  have HWa:=hD hWa;have HWb:=hD hWb;have HAX:=bk hWa;clear hWa hWb;obtain ⟨x0,x1,x2,x3⟩:=HAX.out.c4;obtain ⟨q0,q1,q2,q3⟩:=HAX.out.f4;go_wp2_with (first | rw [HWa.out] | rw [HWb.out]);clear HWa HWb HAX x0 x1 x2 x3 q0 q1 q2 q3;have HAD:Hid (fK n a e a e\/True):=.inr trivial;clear HAD;(with_reducible refine (bP _ Wb HF.out.ps hn HF.out.ut (by have:=HGP.out;omega) hK (by simp)).mono ?_);rintro r0 v1 hm6;obtain ⟨a1,st1,e1,s1q,L1,ls1,rfl,hf5,ha5,hl5,-⟩:=HF.out.must hm6;have HF:=hD hf5;have HA1:=hD ha5;have HL1:=hD hl5;clear hm6 hf5 ha5 hl5;have HLL:=hD (show ls1.length<=1 by simpa using HL1.out);have HAD:=HA1;go_wp2_with fail;(with_reducible refine (dV 2 v1 HF.out.ps hn HF.out.ut (by have:=HGP.out;omega) hK (by have:=HLL.out;omega)).mono ?_);rintro r0 v2 hm6;obtain ⟨a2,st2,e2,s2,L2,ls2,rfl,hf5,ha5,hl5,-⟩:=HF.out.must hm6;have HF:=hD hf5;have HA2:=hD ha5;have HL2:=hD hl5;clear hm6 hf5 ha5 hl5;have HLL:=hD (show ls2.length<=2 by have:=HLL.out;have:=HL2.out;omega);have HAD:=hD (HAD.out.trans HA2.out);go_wp2_with fail;(with_reducible refine (bP _ v2 HF.out.ps hn HF.out.ut (by have:=HGP.out;omega) hK (by have:=HLL.out;omega)).mono ?_);rintro r0 v3 hm6;obtain ⟨a3,st3,e3,s3,L3,ls3,rfl,hf5,ha5,hl5,-⟩:=HF.out.must hm6;have HF:=hD hf5;have HA3:=hD ha5;have HL3:=hD hl5;clear hm6 hf5 ha5 hl5;have HLL:=hD (show ls3.length<=3 by have:=HLL.out;have:=HL3.out;omega);have HAD:=hD (HAD.out.trans HA3.out);obtain ⟨ks,hks⟩:∃ ks:List TX,ks=[]:=⟨_,rfl⟩;have HF:Hid (FT w v3 gp Kt n A c tl a3 st3 e3 K w1.heap.size 3 s3 L3 ls3 (.slice none ks.length 0) ks):=by subst hks;exact HF.out
  obtain ⟨gt,hgt⟩:=nm w1.heap.size;rw [hgt] at HF ⊢;have HKL:Hid (ks.length<=0):=by rw [hks];exact Nat.le_refl _
  have HSZ:Hid (nN a a e ks 0):=by rw [hks];exact nN.start a e
  clear hks hgt;have HSZ:=hD (((HSZ.out.must HA1.out).must HA2.out).must HA3.out);clear HA1 HA2 HA3 HL1 HL2 HL3;obtain ⟨⟨LA,lc,rfl,-⟩,-⟩:=HF.out.ut.forms;have HK5:=hD (HTY.out a3 st3 e3);have hk0:=HKL.out;go_upto_region 6 with fail;go_cut [23] (fun x wq=>Hid (dT v3 gp Kt n A c tl a3 e3 K (w.heap.size+1) gt 3 s3 (.slice LA ls3.length lc) ls3 (.slice none ks.length 0) ks wq))
  case first=>
   have t3:=HF.out.ut.box.cell 3;simp at t3;have ft3:=bA (M:=fun i=>i=gp) t3 (by have:=HF.out.ut.glo;have:=HF.out.gp;omega);have HPD:=hD (eQ HF.out.ps);clear t3;go_wp2_with fail;refine cS (fun i=>i=gp) 5 (.two [0,1,2,4] 3 (.one [] 5 (.last [])) 5 (.one [] 3 (.last []))) (.one [] 6 (.two [7,9] 8 (.one [] 10 (.last [])) 10 (.one [] 8 (.last [])))) (by kernel_rfl) (by kernel_rfl) ?_;refine dR ?_;simp only [sN]
   repeat (go_big_quiet_step (fail))
   refine wpQuiet_nil ?_;apply And.intro
   case' left=>
    refine aC rfl 137 _ _ rfl Tryz.func137 rfl (by kernel_rfl) #[.pointer (some ⟨gp,0,none⟩)] (by simp [Act.eval]) (HK5.out _ HPD.out.2) ?_;rintro r w5 h5;obtain ⟨x,a5,st5,e5,rfl,HKI⟩:=gB HPD.out.1 h5;refine ⟨_,rfl,⟨⟨_,HKI.chg⟩,rfl⟩,?_⟩;simp only [sP];refine bL ?_;simp only [sN];refine wpQuiet_nil ?_;obtain ⟨wx,gz,hWx,hgz,HZB,HKI⟩:=gM HKI;refine aE rfl (by simp [go_sem];exact ⟨rfl,hWx⟩) ⟨⟨_,HKI.chg⟩,rfl⟩ ?_;simp only [Act.put,List.setIfInBounds_toArray,List.set_cons_succ,List.set_cons_zero,hgz];clear hWx hgz h5;refine bI ?_;simp only [sN];refine wpQuiet_nil ?_
   case' right=>
    obtain ⟨w4,hW4,HZ4,HC4,HP4⟩:=fC HF.out.ps;refine aE rfl (by simp [go_sem];exact ⟨rfl,hW4⟩) ⟨⟨_,HC4.out⟩,rfl⟩ ?_;simp only [sP];clear hW4;refine bL ?_;simp only [sN];refine wpQuiet_nil ?_;refine aC rfl 137 _ _ rfl Tryz.func137 rfl (by kernel_rfl) #[.pointer (some ⟨gp,0,none⟩)] (by simp [Act.eval]) (HK5.out _ HP4) ?_;rintro r wx h5;obtain ⟨x,a5,st5,e5,gz,rfl,hgz,HZB,HKI⟩:=fB HF.out.ps HZ4.out HC4.out h5;refine ⟨_,rfl,⟨⟨_,HKI.chg⟩,rfl⟩,?_⟩;simp only [sP]
    try simp only [hgz]
    clear hgz h5;refine bI ?_;simp only [sN];refine wpQuiet_nil ?_
   all_goals
    have HU5:=hD (HKI.ut HF.out.ut (by have:=HF.out.gp;omega));clear ft3;refine aD ?_;simp only [sN]
    repeat (go_big_quiet_step (fail))
    refine wpQuiet_nil ?_;refine aA rfl ?_;at_builtin;refine eJ rfl rfl rfl HU5.out (by simp [Act.eval]) (by simp [Act.eval]) HZB.out (by omega) ?_;intro g7 c7 w7 HKO;obtain ⟨h01,h02,h03⟩:=Fd ks.length;obtain ⟨z0,z1,z2,z3,f0,f1,f2,f3⟩:=HKO.z;refine ⟨⟨_,rfl⟩,?_⟩;simp only [sP];refine bF ?_;simp only [sN]
    repeat (go_big_quiet_step (fail))
    refine wpQuiet_nil ?_;apply And.intro
    case' left=>
     refine aA rfl ?_;go_wp2_with fail;refine ⟨⟨_,rfl⟩,?_⟩;obtain ⟨b3,q3⟩:=HKO.zb x;refine aD ?_;simp only [sN]
     repeat (go_big_quiet_step (fail))
     refine wpQuiet_nil ?_;refine aA rfl ?_;go_wp2_with fail;refine ⟨⟨_,rfl⟩,?_⟩;obtain ⟨wf,hWf,HKF⟩:=HKO.fin8 x;rw [hWf];clear hWf b3 q3
    case' right=>
     obtain ⟨b3,q3⟩:=HKO.b;refine aA rfl ?_;go_wp2_with fail;refine ⟨⟨_,rfl⟩,?_⟩;clear z0 z1 z2 z3 f0 f1 f2 f3 b3 q3;obtain ⟨z0,z1,z2,z3,f0,f1,f2,f3⟩:=HKO.bz;refine aD ?_;simp only [sN]
     repeat (go_big_quiet_step (fail))
     refine wpQuiet_nil ?_;refine aA rfl ?_;go_wp2_with fail;refine ⟨⟨_,rfl⟩,?_⟩;obtain ⟨wf,hWf,HKF⟩:=HKO.fin10 x;rw [hWf];clear hWf
    all_goals
     refine aM ?_;simp only [sN];refine wpQuiet_nil ?_;go_wp2_with fail;refine NoPanic.normal ?_;go_wp2_with fail;go_meet;exact hD (eI HKI HF.out.ut (by have:=HF.out.gp;omega) HKF)
  case rest=>
   clear hk0;obtain ⟨x4,a4,st4,e4,KD4,hf6,ha6,hz6⟩:=HF.out.kid hcut.out;have HF:=hD hf6;have HSZ:=hD (HSZ.out.kid ha6 hz6);have HAD:=hD (HAD.out.trans ha6);obtain ⟨ks4,hk6⟩:=nm (ks++[x4]);have HKL:=hD (show ks4.length<=1 by have:=HKL.out;rw [<- hk6,List.length_append,List.length_singleton];omega);rw [hk6] at HF HSZ;clear hf6 ha6 hz6 hcut hk6;obtain ⟨-,⟨KA4,kc4,rfl,-⟩⟩:=HF.out.ut.forms;obtain ⟨y0,y1,y2,y3⟩:=HF.out.ut.box.c4;obtain ⟨x0,x1,x2,x3⟩:=HF.out.res.c4;obtain ⟨q0,q1,q2,q3⟩:=HF.out.res.f4;go_wp2_with fail;refine rR (aP HF.out.res _ _ _ _) Tryz.underlying99 rfl rfl rfl rfl (by kernel_rfl) ?_;refine FT.ret HF.out ?_ ?_ ?_ HAD.out (HSZ.out.ret (by omega))
   ·first | exact HIK.out | (unfold aO;omega)
   ·have:=HLL.out;omega
   ·have:=HKL.out;omega
 clear hbt;obtain ⟨Wa,hWa⟩:=nm (w1.alloc (.cells #[.int .i64 0,.string ⟨#[]⟩,.slice none 0 0,.slice none 0 0] 99));obtain ⟨Wb,hWb⟩:=nm (((((Wa.setCell ⟨w1.heap.size,0,none⟩ (.int .i64 2)).setCell ⟨w1.heap.size,1,none⟩ (.string ⟨#[]⟩)).setCell ⟨w1.heap.size,2,none⟩ (.slice none 0 0)).setCell ⟨w1.heap.size,3,none⟩ (.slice none 0 0)));have HF:Hid (FT w Wb gp Kt n A c tl a st e K w1.heap.size 2 ⟨#[]⟩ (.slice none 0 0) [] (.slice none 0 0) []):=by
  have:=FT.new (K:=K) 2 ⟨#[]⟩ (Nat.zero_le _) HP.out HC.out HX.out HGP.out;rw [hWa,hWb] at this;exact this
 have HWa:=hD hWa;have HWb:=hD hWb;have HAX:=bk hWa;clear hWa hWb;obtain ⟨x0,x1,x2,x3⟩:=HAX.out.c4;obtain ⟨q0,q1,q2,q3⟩:=HAX.out.f4;go_wp2_with (first | rw [HWa.out] | rw [HWb.out]);clear HWa HWb HAX x0 x1 x2 x3 q0 q1 q2 q3;have HAD:Hid (fK n a e a e\/True):=.inr trivial;clear HAD;(with_reducible refine (bP _ Wb HF.out.ps hn HF.out.ut (by have:=HGP.out;omega) hK (by simp)).mono ?_);rintro r0 v1 hm6;obtain ⟨a1,st1,e1,s1q,L1,ls1,rfl,hf5,ha5,hl5,-⟩:=HF.out.must hm6;have HF:=hD hf5;have HA1:=hD ha5;have HL1:=hD hl5;clear hm6 hf5 ha5 hl5;have HLL:=hD (show ls1.length<=1 by simpa using HL1.out);have HAD:=HA1;go_wp2_with fail;(with_reducible refine (dV 1 v1 HF.out.ps hn HF.out.ut (by have:=HGP.out;omega) hK (by have:=HLL.out;omega)).mono ?_);rintro r0 v2 hm6;obtain ⟨a2,st2,e2,s2,L2,ls2,rfl,hf5,ha5,hl5,-⟩:=HF.out.must hm6;have HF:=hD hf5;have HA2:=hD ha5;have HL2:=hD hl5;clear hm6 hf5 ha5 hl5;have HLL:=hD (show ls2.length<=2 by have:=HLL.out;have:=HL2.out;omega);have HAD:=hD (HAD.out.trans HA2.out);go_wp2_with fail;(with_reducible refine (bP _ v2 HF.out.ps hn HF.out.ut (by have:=HGP.out;omega) hK (by have:=HLL.out;omega)).mono ?_);rintro r0 v3 hm6;obtain ⟨a3,st3,e3,s3,L3,ls3,rfl,hf5,ha5,hl5,-⟩:=HF.out.must hm6;have HF:=hD hf5;have HA3:=hD ha5;have HL3:=hD hl5;clear hm6 hf5 ha5 hl5;have HLL:=hD (show ls3.length<=3 by have:=HLL.out;have:=HL3.out;omega);have HAD:=hD (HAD.out.trans HA3.out);obtain ⟨ks,hks⟩:∃ ks:List TX,ks=[]:=⟨_,rfl⟩;have HF:Hid (FT w v3 gp Kt n A c tl a3 st3 e3 K w1.heap.size 2 s3 L3 ls3 (.slice none ks.length 0) ks):=by subst hks;exact HF.out
 obtain ⟨gt,hgt⟩:=nm w1.heap.size;rw [hgt] at HF ⊢;have HKL:Hid (ks.length<=0):=by rw [hks];exact Nat.le_refl _
 have HSZ:Hid (nN a a e ks 0):=by rw [hks];exact nN.start a e
 clear hks hgt;have HSZ:=hD (((HSZ.out.must HA1.out).must HA2.out).must HA3.out);clear HA1 HA2 HA3 HL1 HL2 HL3;obtain ⟨⟨LA,lc,rfl,-⟩,-⟩:=HF.out.ut.forms;have HD:Hid (DT w v3 gp Kt n A c tl a3 st3 e3 K gt 2 s3 (.slice LA ls3.length lc) ls3 (.slice none ks.length 0) ks (.slice none 0 0) []):=⟨HF.out,fY _ _ _,fun b hb=>(nomatch hb),fun x hx=>by have h1:=HKL.out;have h2:=List.length_pos_of_mem hx;omega,fun g e1 e2=>by simp [Value.ownBlock] at e2⟩;have HX2:=hD HAD.out;clear HF;go_wp2_with fail;go_loopw [5] (fun C wr=>∃ (a4:Nat) (st4 e4:Int) (KA4:Option Addr) (kc4:Nat) (k4:List TX) (CA:Option Addr) (cc:Nat) (cs:List ByteArray),C=.slice CA cs.length cc/\Hid (DT w wr gp Kt n A c tl a4 st4 e4 K gt 2 s3 (.slice LA ls3.length lc) ls3 (.slice KA4 k4.length kc4) k4 (.slice CA cs.length cc) cs)/\Hid (a<=a4/\(e4=0->e=0/\a < a4/\T.sizes (k4.map TX.plain)+6<=3*(a4 - a)/\k4.length<=a4/\cs.length<=a4)/\k4.length<=n+1/\cs.length<=n+1)) (fun _ wr=>Ce n gp wr)
 case atStart=>
  have hk0:=HKL.out;refine ⟨a3,st3,e3,none,0,ks,none,0,[],rfl,HD,HAD.out.1,fun h0=>⟨(HAD.out.2.2 h0).1,(HAD.out.2.2 h0).2,?_,by omega,Nat.zero_le _⟩,by omega,Nat.zero_le _⟩;have:=HSZ.out.2 h0;omega
 case round=>
  clear HD HSZ HKL;obtain ⟨a4,st4,e4,KA4,kc4,k4,CA,cc,cs,rfl,HD,HN⟩:=hrel;have hkl:k4.length<=n+1:=HN.out.2.2.1;have hcl:cs.length<=n+1:=HN.out.2.2.2;go_upto_region 13 with fail;go_cut [43] (fun x wq=>∃ b,x=.bool b/\(b=true->e4=0)/\Hid (Below wr.heap.size wr wq))
  case first=>
   obtain ⟨z0,z1,z2,z3,z4⟩:=HD.out.ft.ps.box.c5;have q1:(e4 == 0)=true\/(e4 == 0)=false:=by cases (e4 == 0) <;> simp
   rcases q1 with q1 | q1
   ·have he1:e4=0:=by simpa using q1
    go_wp2_with fail;(with_reducible refine (cU _ wr HD.out.ft.ps hn).mono ?_);rintro r0 v1 ⟨b1,rfl,hb1,-⟩;have HB1:=hD hb1;clear hb1
    cases b1
    all_goals
     go_wp2_with fail;go_meet;exact ⟨_,rfl,fun _=>he1,HB1⟩
   ·go_wp2_with fail;go_meet;exact ⟨false,rfl,fun h=>(nomatch h),Below.refl _ _⟩
  case rest=>
   obtain ⟨b,rfl,hbe,HBw⟩:=hcut;have HDc:=hD (HD.out.below HBw.out)
   cases b
   case false=>
    have HKD:=hD HDc.out.dk;have HSZ:=hD (show nN a a4 e4 k4 6 from ⟨HN.out.1,fun h0=>(HN.out.2.1 h0).2.2.1⟩);clear hbe HD HBw HDc;go_wp2_with fail;(with_reducible refine (bP _ wc HKD.out.ft.ps hn HKD.out.ft.ut (by have:=HGP.out;omega) hK (by have:=HLL.out;omega)).mono ?_);rintro r0 v1 hm6;obtain ⟨a6,st6,e6,s6,L6,ls6,rfl,hf6,ha6,hl6,-⟩:=HKD.out.must hm6;have HKD:=hD hf6;have HAD:=hD (show fK n a e a6 e6 from ⟨by have:=HN.out.1;have:=ha6.1;omega,ha6.2.1,fun h0=>⟨(HN.out.2.1 (ha6.2.2 h0).1).1,by have:=HN.out.1;have:=(ha6.2.2 h0).2;omega⟩⟩);have HSZ:=hD (HSZ.out.must ha6);have HLL:=hD (show ls6.length<=4 by have:=HLL.out;omega);clear hm6 hf6 ha6 hl6;go_wp2_with fail;(with_reducible refine (bP _ v1 HKD.out.ft.ps hn HKD.out.ft.ut (by have:=HGP.out;omega) hK (by have:=HLL.out;omega)).mono ?_);rintro r0 v2 hm6;obtain ⟨a7,st7,e7,s7,L7,ls7,rfl,hf6,ha6,hl6,-⟩:=HKD.out.must hm6;have HKD:=hD hf6;have HAD:=hD (HAD.out.trans ha6);have HSZ:=hD (HSZ.out.must ha6);have HLL:=hD (show ls7.length<=5 by have:=HLL.out;omega);clear hm6 hf6 ha6 hl6;obtain ⟨⟨LA7,lc7,rfl,-⟩,-⟩:=HKD.out.ft.ut.forms;have HF:=hD HKD.out.ft;have HK5:=hD (HTY.out a7 st7 e7);go_upto_region 27 with fail;go_cut [96] (fun x wq=>Hid (dT v2 gp Kt n A c tl a7 e7 K (w.heap.size+1) gt 2 s7 (.slice LA7 ls7.length lc7) ls7 (.slice KA4 k4.length kc4) k4 wq))
    case first=>
     have t3:=HF.out.ut.box.cell 3;simp at t3;have ft3:=bA (M:=fun i=>i=gp) t3 (by have:=HF.out.ut.glo;have:=HF.out.gp;omega);have HPD:=hD (eQ HF.out.ps);clear t3;go_wp2_with fail;refine cS (fun i=>i=gp) 5 (.two [0,1,2,4] 3 (.one [] 5 (.last [])) 5 (.one [] 3 (.last []))) (.one [] 6 (.two [7,9] 8 (.one [] 10 (.last [])) 10 (.one [] 8 (.last [])))) (by kernel_rfl) (by kernel_rfl) ?_;refine dR ?_;simp only [sN]
     repeat (go_big_quiet_step (fail))
     refine wpQuiet_nil ?_;apply And.intro
     case' left=>
      refine aC rfl 137 _ _ rfl Tryz.func137 rfl (by kernel_rfl) #[.pointer (some ⟨gp,0,none⟩)] (by simp [Act.eval]) (HK5.out _ HPD.out.2) ?_;rintro r w5 h5;obtain ⟨x,a5,st5,e5,rfl,HKI⟩:=gB HPD.out.1 h5;refine ⟨_,rfl,⟨⟨_,HKI.chg⟩,rfl⟩,?_⟩;simp only [sP];refine bL ?_;simp only [sN];refine wpQuiet_nil ?_;obtain ⟨wx,gz,hWx,hgz,HZB,HKI⟩:=gM HKI;refine aE rfl (by simp [go_sem];exact ⟨rfl,hWx⟩) ⟨⟨_,HKI.chg⟩,rfl⟩ ?_;simp only [Act.put,List.setIfInBounds_toArray,List.set_cons_succ,List.set_cons_zero,hgz];clear hWx hgz h5;refine bI ?_;simp only [sN];refine wpQuiet_nil ?_
     case' right=>
      obtain ⟨w4,hW4,HZ4,HC4,HP4⟩:=fC HF.out.ps;refine aE rfl (by simp [go_sem];exact ⟨rfl,hW4⟩) ⟨⟨_,HC4.out⟩,rfl⟩ ?_;simp only [sP];clear hW4;refine bL ?_;simp only [sN];refine wpQuiet_nil ?_;refine aC rfl 137 _ _ rfl Tryz.func137 rfl (by kernel_rfl) #[.pointer (some ⟨gp,0,none⟩)] (by simp [Act.eval]) (HK5.out _ HP4) ?_;rintro r wx h5;obtain ⟨x,a5,st5,e5,gz,rfl,hgz,HZB,HKI⟩:=fB HF.out.ps HZ4.out HC4.out h5;refine ⟨_,rfl,⟨⟨_,HKI.chg⟩,rfl⟩,?_⟩;simp only [sP]
      try simp only [hgz]
      clear hgz h5;refine bI ?_;simp only [sN];refine wpQuiet_nil ?_
     all_goals
      have HU5:=hD (HKI.ut HF.out.ut (by have:=HF.out.gp;omega));clear ft3;refine aD ?_;simp only [sN]
      repeat (go_big_quiet_step (fail))
      refine wpQuiet_nil ?_;refine aA rfl ?_;at_builtin;refine eJ rfl rfl rfl HU5.out (by simp [Act.eval]) (by simp [Act.eval]) HZB.out (by omega) ?_;intro g7 c7 w7 HKO;obtain ⟨h01,h02,h03⟩:=Fd k4.length;obtain ⟨z0,z1,z2,z3,f0,f1,f2,f3⟩:=HKO.z;refine ⟨⟨_,rfl⟩,?_⟩;simp only [sP];refine bF ?_;simp only [sN]
      repeat (go_big_quiet_step (fail))
      refine wpQuiet_nil ?_;apply And.intro
      case' left=>
       refine aA rfl ?_;go_wp2_with fail;refine ⟨⟨_,rfl⟩,?_⟩;obtain ⟨b3,q3⟩:=HKO.zb x;refine aD ?_;simp only [sN]
       repeat (go_big_quiet_step (fail))
       refine wpQuiet_nil ?_;refine aA rfl ?_;go_wp2_with fail;refine ⟨⟨_,rfl⟩,?_⟩;obtain ⟨wf,hWf,HKF⟩:=HKO.fin8 x;rw [hWf];clear hWf b3 q3
      case' right=>
       obtain ⟨b3,q3⟩:=HKO.b;refine aA rfl ?_;go_wp2_with fail;refine ⟨⟨_,rfl⟩,?_⟩;clear z0 z1 z2 z3 f0 f1 f2 f3 b3 q3;obtain ⟨z0,z1,z2,z3,f0,f1,f2,f3⟩:=HKO.bz;refine aD ?_;simp only [sN]
       repeat (go_big_quiet_step (fail))
       refine wpQuiet_nil ?_;refine aA rfl ?_;go_wp2_with fail;refine ⟨⟨_,rfl⟩,?_⟩;obtain ⟨wf,hWf,HKF⟩:=HKO.fin10 x;rw [hWf];clear hWf
      all_goals
       refine aM ?_;simp only [sN];refine wpQuiet_nil ?_;go_wp2_with fail;refine NoPanic.normal ?_;go_wp2_with fail;go_meet;exact hD (eI HKI HF.out.ut (by have:=HF.out.gp;omega) HKF)
    case rest=>
     obtain ⟨x8,a8,st8,e8,KD8,hf8,ha8,hz8⟩:=HKD.out.kid hcut.out;have HKD:=hD hf8;have HSZ:=hD (HSZ.out.kid ha8 hz8);have HAD:=hD (HAD.out.trans ha8);obtain ⟨k8,hk8⟩:=nm (k4++[x8]);have hk8l:k8.length<=n+2:=by rw [<- hk8,List.length_append,List.length_singleton];omega
     rw [hk8] at HKD HSZ;clear hf8 ha8 hz8 hcut hk8 HF HK5 HN;go_wp2_with fail;(with_reducible refine (bP _ wc HKD.out.ft.ps hn HKD.out.ft.ut (by have:=HGP.out;omega) hK (by have:=HLL.out;omega)).mono ?_);rintro r0 v3 hm6;obtain ⟨a9,st9,e9,s9,L9,ls9,rfl,hf6,ha6,hl6,-⟩:=HKD.out.must hm6;have HKD:=hD hf6;have HAD:=hD (HAD.out.trans ha6);have HSZ:=hD (HSZ.out.must ha6);have HLL:=hD (show ls9.length<=6 by have:=HLL.out;omega);clear hm6 hf6 ha6 hl6;obtain ⟨⟨LA9,lc9,rfl,-⟩,⟨KA8,kc8,rfl,-⟩⟩:=HKD.out.ft.ut.forms;have HF:=hD HKD.out.ft;have HK5:=hD (HEX.out a9 st9 e9);go_upto_region 29 with fail;go_cut [108] (fun x wq=>Hid (dT v3 gp Kt n A c tl a9 e9 K (w.heap.size+1) gt 2 s9 (.slice LA9 ls9.length lc9) ls9 (.slice KA8 k8.length kc8) k8 wq))
     case first=>
      have t3:=HF.out.ut.box.cell 3;simp at t3;have ft3:=bA (M:=fun i=>i=gp) t3 (by have:=HF.out.ut.glo;have:=HF.out.gp;omega);have HPD:=hD (eQ HF.out.ps);clear t3;go_wp2_with fail;refine cS (fun i=>i=gp) 5 (.two [0,1,2,4] 3 (.one [] 5 (.last [])) 5 (.one [] 3 (.last []))) (.one [] 6 (.two [7,9] 8 (.one [] 10 (.last [])) 10 (.one [] 8 (.last [])))) (by kernel_rfl) (by kernel_rfl) ?_;refine dR ?_;simp only [sN]
      repeat (go_big_quiet_step (fail))
      refine wpQuiet_nil ?_;apply And.intro
      case' left=>
       refine aC rfl 138 _ _ rfl Tryz.func138 rfl (by kernel_rfl) #[.pointer (some ⟨gp,0,none⟩)] (by simp [Act.eval]) (HK5.out _ HPD.out.2) ?_;rintro r w5 h5;obtain ⟨x,a5,st5,e5,rfl,HKI⟩:=gB HPD.out.1 h5;refine ⟨_,rfl,⟨⟨_,HKI.chg⟩,rfl⟩,?_⟩;simp only [sP];refine bL ?_;simp only [sN];refine wpQuiet_nil ?_;obtain ⟨wx,gz,hWx,hgz,HZB,HKI⟩:=gM HKI;refine aE rfl (by simp [go_sem];exact ⟨rfl,hWx⟩) ⟨⟨_,HKI.chg⟩,rfl⟩ ?_;simp only [Act.put,List.setIfInBounds_toArray,List.set_cons_succ,List.set_cons_zero,hgz];clear hWx hgz h5;refine bI ?_;simp only [sN];refine wpQuiet_nil ?_
      case' right=>
       obtain ⟨w4,hW4,HZ4,HC4,HP4⟩:=fC HF.out.ps;refine aE rfl (by simp [go_sem];exact ⟨rfl,hW4⟩) ⟨⟨_,HC4.out⟩,rfl⟩ ?_;simp only [sP];clear hW4;refine bL ?_;simp only [sN];refine wpQuiet_nil ?_;refine aC rfl 138 _ _ rfl Tryz.func138 rfl (by kernel_rfl) #[.pointer (some ⟨gp,0,none⟩)] (by simp [Act.eval]) (HK5.out _ HP4) ?_;rintro r wx h5;obtain ⟨x,a5,st5,e5,gz,rfl,hgz,HZB,HKI⟩:=fB HF.out.ps HZ4.out HC4.out h5;refine ⟨_,rfl,⟨⟨_,HKI.chg⟩,rfl⟩,?_⟩;simp only [sP]
       try simp only [hgz]
       clear hgz h5;refine bI ?_;simp only [sN];refine wpQuiet_nil ?_
      all_goals
       have HU5:=hD (HKI.ut HF.out.ut (by have:=HF.out.gp;omega));clear ft3;refine aD ?_;simp only [sN]
       repeat (go_big_quiet_step (fail))
       refine wpQuiet_nil ?_;refine aA rfl ?_;at_builtin;refine eJ rfl rfl rfl HU5.out (by simp [Act.eval]) (by simp [Act.eval]) HZB.out (by omega) ?_;intro g7 c7 w7 HKO;obtain ⟨h01,h02,h03⟩:=Fd k8.length;obtain ⟨z0,z1,z2,z3,f0,f1,f2,f3⟩:=HKO.z;refine ⟨⟨_,rfl⟩,?_⟩;simp only [sP];refine bF ?_;simp only [sN]
       repeat (go_big_quiet_step (fail))
       refine wpQuiet_nil ?_;apply And.intro
       case' left=>
        refine aA rfl ?_;go_wp2_with fail;refine ⟨⟨_,rfl⟩,?_⟩;obtain ⟨b3,q3⟩:=HKO.zb x;refine aD ?_;simp only [sN]
        repeat (go_big_quiet_step (fail))
        refine wpQuiet_nil ?_;refine aA rfl ?_;go_wp2_with fail;refine ⟨⟨_,rfl⟩,?_⟩;obtain ⟨wf,hWf,HKF⟩:=HKO.fin8 x;rw [hWf];clear hWf b3 q3
       case' right=>
        obtain ⟨b3,q3⟩:=HKO.b;refine aA rfl ?_;go_wp2_with fail;refine ⟨⟨_,rfl⟩,?_⟩;clear z0 z1 z2 z3 f0 f1 f2 f3 b3 q3;obtain ⟨z0,z1,z2,z3,f0,f1,f2,f3⟩:=HKO.bz;refine aD ?_;simp only [sN]
        repeat (go_big_quiet_step (fail))
        refine wpQuiet_nil ?_;refine aA rfl ?_;go_wp2_with fail;refine ⟨⟨_,rfl⟩,?_⟩;obtain ⟨wf,hWf,HKF⟩:=HKO.fin10 x;rw [hWf];clear hWf
       all_goals
        refine aM ?_;simp only [sN];refine wpQuiet_nil ?_;go_wp2_with fail;refine NoPanic.normal ?_;go_wp2_with fail;go_meet;exact hD (eI HKI HF.out.ut (by have:=HF.out.gp;omega) HKF)
     case rest=>
      obtain ⟨x10,a10,st10,e10,KD10,hf8,ha8,hz8⟩:=HKD.out.kid hcut.out;have HKD:=hD hf8;have HSZ:=hD (HSZ.out.kid ha8 hz8);have HAD:=hD (HAD.out.trans ha8);obtain ⟨k10,hk10⟩:=nm (k8++[x10]);have hk10l:k10.length<=n+3:=by rw [<- hk10,List.length_append,List.length_singleton];omega
      rw [hk10] at HKD HSZ;clear hf8 ha8 hz8 hcut hk10 HF HK5;obtain ⟨-,⟨KA10,kc10,rfl,-⟩⟩:=HKD.out.ft.ut.forms;have hl9:=HLL.out;obtain ⟨y0,y1,y2,y3⟩:=HKD.out.ft.ut.box.c4;obtain ⟨q0,q1,q2,q3⟩:=HKD.out.ft.ut.box.f4;have HZ3:Hid (w.heap.size+1<=wc.heap.size):=HKD.out.ft.res.lt;obtain ⟨i0,hi0,hz0,hz1,hz2⟩:=dF eF;have HSR:Src Tryz.prog 1 97 (.slice CA cs.length cc) cs.length (cs.map Value.string) wc:=cQ (P:=Tryz.prog) wc Tryz.underlying97 cc (aG.of_own HKD.out.com) (fun u hu=>by simp at hu;obtain ⟨b,-,rfl⟩:=hu;rfl);have hml:ls9.length+cs.length<=maxLen:=by unfold maxLen;omega
      have hmb:(ls9.length+cs.length)*16<=140737488355328:=by omega
      go_wp2_with (at_builtin;refine aF wc rfl _ _ _ _ rfl (w.heap.size+1) 9 i0 _ 1 16 Tryz.underlying97 hi0 hz0 hz1 hz2 rfl (by decide) (.slice LA9 ls9.length lc9) ls9.length (ls9.map Value.string) (by simp [Act.eval]) HKD.out.ft.ut.lead (.slice CA cs.length cc) cs.length (cs.map Value.string) (by simp [Act.eval]) HSR hml hmb HZ3.out ?_);intro v9 w7 hown7 hg7;obtain ⟨A7,c7,rfl,-,-⟩:=aS hown7;have hf7:=HKD.out.ft.leadsN hg7 hown7 HKD.out.cbd;have hX7:aK w7 gt 99 #[.int .i64 2,.string s9,.slice LA9 ls9.length lc9,.slice KA10 k10.length kc10]:=hg7.blk HKD.out.ft.ut.box HKD.out.ft.ut.lne;have HF:=hD hf7;have HX7:=hD hX7;clear hown7 hg7 HSR hf7 hX7 y0 y1 y2 y3 q0 q1 q2 q3;obtain ⟨q0,q1,q2,q3⟩:=HX7.out.f4;obtain ⟨t0,t1,t2,t3⟩:=HX7.out.c4;obtain ⟨l8,hl8⟩:=nm (ls9++cs);have hN8:ls9.length+cs.length=l8.length:=by rw [<- hl8,List.length_append]
      rw [hl8] at HF;rw [hN8] at HF ⊢;have hl8n:l8.length<=n+7:=by omega
      obtain ⟨w8,hw8⟩:=nm (w7.setCell ⟨gt,2,none⟩ (.slice A7 l8.length c7));rw [hw8] at HF;have HW8:=hD hw8;clear hl8 hN8 hw8;obtain ⟨y0,y1,y2,y3⟩:=HF.out.ut.box.c4;obtain ⟨x0,x1,x2,x3⟩:=HF.out.res.c4;obtain ⟨r0,r1,r2,r3⟩:=HF.out.res.f4;go_wp2_with (rw [HW8.out]);refine rR (aP HF.out.res _ _ _ _) Tryz.underlying99 rfl rfl rfl rfl (by kernel_rfl) ?_;refine FT.ret HF.out ?_ ?_ ?_ HAD.out (HSZ.out.ret (by omega))
      ·unfold aO;omega
      ·omega
      ·omega
   case true=>
    have HE1:=hD (hbe rfl);have HPS:=hD HD.out.ft.ps;clear hbe HD HBw;obtain ⟨y0,y1,y2,y3⟩:=HDc.out.ft.ut.box.c4;go_upto_if 47 with fail;go_cut [5] (fun x wq=>∃ (CA2:Option Addr) (cc2:Nat) (cs2:List ByteArray) (a2:Nat) (st2 e2:Int),x=.slice CA2 cs2.length cc2/\Hid (DT w wq gp Kt n A c tl a2 st2 e2 K gt 2 s3 (.slice LA ls3.length lc) ls3 (.slice KA4 k4.length kc4) k4 (.slice CA2 cs2.length cc2) cs2)/\cs2.length<=cs.length+1/\((k4=[]/\a2=a4/\e2=e4/\cs2=cs)\/fK n a4 e4 a2 e2))
    case first=>
     by_cases hk0:k4.length=0
     ·have d0:decide ((k4.length:Int) > 0)=false:=decide_eq_false (by omega);have hks:k4=[]:=List.eq_nil_of_length_eq_zero hk0;go_wp2_with fail;go_meet;exact ⟨CA,cc,cs,a4,st4,e4,rfl,HDc,Nat.le_succ _,.inl ⟨hks,rfl,rfl,rfl⟩⟩
     ·have d0:decide ((k4.length:Int) > 0)=true:=decide_eq_true (by omega);obtain ⟨Wa,hWa⟩:=nm (wc.alloc (.cells #[.int .i64 0,.string ⟨#[]⟩,.slice none 0 0,.slice none 0 0] 99));obtain ⟨Wb,hWb⟩:=nm (((((Wa.setCell ⟨wc.heap.size,0,none⟩ (.int .i64 0)).setCell ⟨wc.heap.size,1,none⟩ (.string ⟨#[]⟩)).setCell ⟨wc.heap.size,2,none⟩ (.slice none 0 0)).setCell ⟨wc.heap.size,3,none⟩ (.slice none 0 0)));have HU:Hid (UT Wb K wc.heap.size wc.heap.size 0 ⟨#[]⟩ (.slice none 0 0) [] (.slice none 0 0) []):=by
       have:=UT.new (K:=K) 0 ⟨#[]⟩ (Nat.zero_le _) wc;rw [hWa,hWb] at this;exact this
      have HCB:Hid (aT wc Wb (fun i=>i=gp)):=by
       have:=jN (M:=fun i=>i=gp) 0 ⟨#[]⟩ wc;rw [hWa,hWb] at this;exact this
      have HPB:Hid (PS Wb gp Kt n A c tl a4 st4 e4):=HDc.out.ft.ps.chg (M:=fun _=>False) (by
       have:=jN (M:=fun _=>False) 0 ⟨#[]⟩ wc;rw [hWa,hWb] at this;exact this) (fun i h=>h.elim)
      have HWa:=hD hWa;have HWb:=hD hWb;have HAX:=bk hWa;clear hWa hWb;obtain ⟨x0,x1,x2,x3⟩:=HAX.out.c4;obtain ⟨q0,q1,q2,q3⟩:=HAX.out.f4;go_wp2_with (first | rw [HWa.out] | rw [HWb.out]);clear HWa HWb HAX x0 x1 x2 x3 q0 q1 q2 q3 y0 y1 y2 y3;(with_reducible refine (bP _ Wb HPB.out hn HU.out (by have:=HDc.out.ft.ps.lt;omega) hK (by simp)).mono ?_);rintro r0 v1 ⟨a2,st2,e2,sd,Ld,lsd,rfl,hp2,hu2,ha2,hl2,hc2,-,-⟩;have hl2:lsd.length<=1:=by simpa using hl2
      have HD2:=hD (HDc.out.fail hp2 ((HCB.out.trans hc2 (M:=fun i=>i=gp) (fun i h1 h2=>by
       rcases h2 with h2 | h2 | h2
       ·exact h2
       ·omega
       ·simp [Value.ownBlock] at h2))))
      have HU2:=hD hu2;have HA2:=hD ha2;clear hp2 hu2 ha2 hc2 HPB HU HCB;obtain ⟨⟨LD,ld,rfl,-⟩,-⟩:=HU2.out.forms;obtain ⟨y0,y1,y2,y3⟩:=HU2.out.box.c4;have HZ2:Hid (w.heap.size+1<=v1.heap.size):=(Nat.lt_of_le_of_lt (Nat.le_refl _) HD2.out.ft.res.lt);obtain ⟨i0,hi0,hz0,hz1,hz2⟩:=dF eF;have HSR:Src Tryz.prog 1 97 (.slice LD lsd.length ld) lsd.length (lsd.map Value.string) v1:=cQ (P:=Tryz.prog) v1 Tryz.underlying97 ld (aG.of_own HU2.out.lead) (fun u hu=>by simp at hu;obtain ⟨b,-,rfl⟩:=hu;rfl);have hml:cs.length+lsd.length<=maxLen:=by unfold maxLen;omega
      have hmb:(cs.length+lsd.length)*16<=140737488355328:=by omega
      go_wp2_with (at_builtin;refine aF v1 rfl _ _ _ _ rfl (w.heap.size+1) 9 i0 _ 1 16 Tryz.underlying97 hi0 hz0 hz1 hz2 rfl (by decide) (.slice CA cs.length cc) cs.length (cs.map Value.string) (by simp [Act.eval]) HD2.out.com (.slice LD lsd.length ld) lsd.length (lsd.map Value.string) (by simp [Act.eval]) HSR hml hmb HZ2.out ?_);intro v3 w7 hown7 hg7;obtain ⟨A7,c7,rfl,-,-⟩:=aS hown7;have HD7:=hD (HD2.out.comma hg7 hown7 HU2.out.tl);have hlen:(cs++lsd).length=cs.length+lsd.length:=List.length_append;clear hown7 hg7 HSR;go_wp2_with fail;go_meet;refine ⟨A7,c7,cs++lsd,a2,st2,e2,by rw [hlen],?_,by omega,.inr HA2.out⟩;rw [hlen];exact HD7
    case rest=>
     obtain ⟨CA2,cc2,cs2,a2,st2,e2,rfl,HD2,hcs,hadv⟩:=hcut;have HAV:=hD hadv;clear hadv HDc y0 y1 y2 y3;obtain ⟨y0,y1,y2,y3⟩:=HD2.out.ft.ut.box.c4;go_upto_region 18 with fail;go_cut [63] (fun x wq=>∃ b,x=.bool b/\Hid (Below wc.heap.size wc wq))
     case first=>
      go_wp2_with fail;(with_reducible refine (dB wc HD2.out.ft.ps hn).mono ?_);rintro r0 v1 ⟨k1,rfl,hb1,-,-⟩;have HB1:=hD hb1;have HD3:=hD (HD2.out.below hb1);clear hb1 y0 y1 y2 y3;obtain ⟨y0,y1,y2,y3⟩:=HD3.out.ft.ut.box.c4;have q1:(k1 == 1)=true\/(k1 == 1)=false:=by cases (k1 == 1) <;> simp
      rcases q1 with q1 | q1
      all_goals
       go_wp2_with fail;go_meet;exact ⟨_,rfl,HB1⟩
     case rest=>
      obtain ⟨b2,rfl,HBv⟩:=hcut;have HD2:=hD (HD2.out.below HBv.out);clear HBv y0 y1 y2 y3;go_upto_if 63 with fail;go_cut [] (fun wq=>∃ (st3 e3:Int),Hid (DT w wq gp Kt n A c tl a2 st3 e3 K gt 2 s3 (.slice LA ls3.length lc) ls3 (.slice KA4 k4.length kc4) k4 (.slice CA2 cs2.length cc2) cs2)/\(e3=0->e2=0))
      case first=>
       cases b2
       case false=>
        go_wp2_with fail;go_meet;exact ⟨st2,e2,HD2,fun h=>h⟩
       case true=>
        go_wp2_with fail;(with_reducible refine (gE 3 wc HD2.out.ft.ps hn (by decide) (by unfold aO;omega)).mono ?_);rintro r0 v2 ⟨st',e',rfl,hp,he',hc⟩;have HD4:=hD (HD2.out.fail hp hc);clear hp hc;go_wp2_with fail;go_meet;exact ⟨st',e',HD4,fun h=>absurd h he'⟩
      case rest=>
       obtain ⟨st3,e3,HD3,he3⟩:=hcut;clear HD2;have HGL:=hD HD3.out.ft.ps.lt;obtain ⟨Wa,hWa⟩:=nm (wc.alloc (.cells #[.int .i64 0,.string ⟨#[]⟩,.slice none 0 0,.slice none 0 0] 99));obtain ⟨Wb,hWb⟩:=nm (((((Wa.setCell ⟨wc.heap.size,0,none⟩ (.int .i64 4)).setCell ⟨wc.heap.size,1,none⟩ (.string ⟨#[]⟩)).setCell ⟨wc.heap.size,2,none⟩ (.slice none 0 0)).setCell ⟨wc.heap.size,3,none⟩ (.slice none 0 0)));have HU:Hid (UT Wb K wc.heap.size wc.heap.size 4 ⟨#[]⟩ (.slice none 0 0) [] (.slice none 0 0) []):=by
        have:=UT.new (K:=K) 4 ⟨#[]⟩ (Nat.zero_le _) wc;rw [hWa,hWb] at this;exact this
       have HCB:Hid (aT wc Wb (fun i=>i=gp\/wc.heap.size<=i)):=by
        have:=jN (M:=fun i=>i=gp\/wc.heap.size<=i) 4 ⟨#[]⟩ wc;rw [hWa,hWb] at this;exact this
       have HPB:Hid (PS Wb gp Kt n A c tl a2 st3 e3):=HD3.out.ft.ps.chg (M:=fun _=>False) (by
        have:=jN (M:=fun _=>False) 4 ⟨#[]⟩ wc;rw [hWa,hWb] at this;exact this) (fun i h=>h.elim)
       have HXT:Hid (XT Wb gp Kt n A c tl a2 st3 e3 K wc.heap.size wc.heap.size 4 ⟨#[]⟩ (.slice none 0 0) [] (.slice none 0 0) []):=⟨HPB.out,HU.out,HGL.out⟩;have HWa:=hD hWa;have HWb:=hD hWb;have HAX:=bk hWa;clear hWa hWb HU HPB;obtain ⟨x0,x1,x2,x3⟩:=HAX.out.c4;obtain ⟨q0,q1,q2,q3⟩:=HAX.out.f4;go_wp2_with (first | rw [HWa.out] | rw [HWb.out]);clear HWa HWb HAX x0 x1 x2 x3 q0 q1 q2 q3;(with_reducible refine (dV 1 Wb HXT.out.ps hn HXT.out.ut HXT.out.gpl hK (by simp)).mono ?_);rintro r0 v5 hm5;obtain ⟨a5,st5,e5,s5,L5,ls5,rfl,hx5,ha5,hl5,-,hc5⟩:=HXT.out.must hm5;have HXT:=hD hx5;have HA5:=hD ha5;have hl5:ls5.length<=1:=by simpa using hl5
       have HCB:=hD (HCB.out.trans hc5 (fun i _ h=>h));clear hm5 hx5 ha5 hc5;go_wp2_with fail;(with_reducible refine (bP _ v5 HXT.out.ps hn HXT.out.ut HXT.out.gpl hK (by omega)).mono ?_);rintro r0 v6 hm5;obtain ⟨a6,st6,e6,s6,L6,ls6,rfl,hx6,ha6,hl6,-,hc6⟩:=HXT.out.must hm5;have HXT:=hD hx6;have HA6:=hD (HA5.out.trans ha6);have HZ6:Hid (e6=0->a2+2<=a6):=fun h0=>by
        have h1:=ha6.2.2 h0;have h2:=HA5.out.2.2 h1.1;omega
       have hl6:ls6.length<=2:=by omega
       have HCB:=hD (HCB.out.trans hc6 (fun i _ h=>h));clear hm5 hx6 ha6 hc6 HA5 hl5;obtain ⟨gT,hgT⟩:∃ y,y=gt:=⟨_,rfl⟩;subst hgT;obtain ⟨k6,hk6⟩:∃ y:List TX,y=[]:=⟨_,rfl⟩;have HXT:Hid (XT v6 gp Kt n A c tl a6 st6 e6 K wc.heap.size wc.heap.size 4 s6 L6 ls6 (.slice none k6.length 0) k6):=by subst hk6;exact HXT.out
       have hkl6:k6.length<=0:=by rw [hk6];exact Nat.le_refl _
       have HK6:Hid (k6=[]):=hk6;clear hk6;obtain ⟨⟨LA6,lc6,rfl,-⟩,-⟩:=HXT.out.ut.forms;obtain ⟨gt,hgt⟩:=nm wc.heap.size;rw [hgt] at HXT ⊢;have HGT:=hD hgt;clear hgt;have HTC:=hD (HTY.out a6 st6 e6);have HG1:Hid (gT < gt):=by rw [<- HGT.out];exact HD3.out.ft.ut.box.lt
       have HG2:Hid (∀ g,(Value.slice CA2 cs2.length cc2).ownBlock=some g->g < gt):=by rw [<- HGT.out];exact cK HD3.out.com
       have HG3:Hid (∀ g,(Value.slice KA4 k4.length kc4).ownBlock=some g->g < gt):=by rw [<- HGT.out];exact cK HD3.out.ft.ut.kids.row
       have HG4:Hid (∀ g,(Value.slice LA ls3.length lc).ownBlock=some g->g < gt):=by rw [<- HGT.out];exact cK HD3.out.ft.ut.lead
       have HDF:Hid (∀ w' a' st' e',PS w' gp Kt n A c tl a' st' e'->aT v6 w' (fun i=>i=gp\/gt<=i)->DT w w' gp Kt n A c tl a' st' e' K gT 2 s3 (.slice LA ls3.length lc) ls3 (.slice KA4 k4.length kc4) k4 (.slice CA2 cs2.length cc2) cs2):=fun w' a' st' e' h1 h2=>HD3.out.fail h1 ((HCB.out.trans h2 (fun i h3 h4=>by
        have:=HGT.out;rcases h4 with h4 | h4
        ·exact .inl h4
        ·right;omega)).only (fun i h3 h4=>by
        rcases h4 with h4 | h4
        ·exact h4
        ·omega))
       go_upto_region 23 with fail;go_cut [76] (fun x wq=>Hid (dT v6 gp Kt n A c tl a6 e6 K gt gt 4 s6 (.slice LA6 ls6.length lc6) ls6 (.slice none k6.length 0) k6 wq))
       case first=>
        have t3:=HXT.out.ut.box.cell 3;simp at t3;have ft3:=bA (M:=fun i=>i=gp) t3 (by have:=HXT.out.ut.glo;have:=HXT.out.gpl;omega);have HPD:=hD (eQ HXT.out.ps);clear t3;go_wp2_with fail;refine cS (fun i=>i=gp) 5 (.two [0,1,2,4] 3 (.one [] 5 (.last [])) 5 (.one [] 3 (.last []))) (.one [] 6 (.two [7,9] 8 (.one [] 10 (.last [])) 10 (.one [] 8 (.last [])))) (by kernel_rfl) (by kernel_rfl) ?_;refine dR ?_;simp only [sN]
        repeat (go_big_quiet_step (fail))
        refine wpQuiet_nil ?_;apply And.intro
        case' left=>
         refine aC rfl 137 _ _ rfl Tryz.func137 rfl (by kernel_rfl) #[.pointer (some ⟨gp,0,none⟩)] (by simp [Act.eval]) (HTC.out _ HPD.out.2) ?_;rintro r w5 h5;obtain ⟨x,a5,st5,e5,rfl,HKI⟩:=gB HPD.out.1 h5;refine ⟨_,rfl,⟨⟨_,HKI.chg⟩,rfl⟩,?_⟩;simp only [sP];refine bL ?_;simp only [sN];refine wpQuiet_nil ?_;obtain ⟨wx,gz,hWx,hgz,HZB,HKI⟩:=gM HKI;refine aE rfl (by simp [go_sem];exact ⟨rfl,hWx⟩) ⟨⟨_,HKI.chg⟩,rfl⟩ ?_;simp only [Act.put,List.setIfInBounds_toArray,List.set_cons_succ,List.set_cons_zero,hgz];clear hWx hgz h5;refine bI ?_;simp only [sN];refine wpQuiet_nil ?_
        case' right=>
         obtain ⟨w4,hW4,HZ4,HC4,HP4⟩:=fC HXT.out.ps;refine aE rfl (by simp [go_sem];exact ⟨rfl,hW4⟩) ⟨⟨_,HC4.out⟩,rfl⟩ ?_;simp only [sP];clear hW4;refine bL ?_;simp only [sN];refine wpQuiet_nil ?_;refine aC rfl 137 _ _ rfl Tryz.func137 rfl (by kernel_rfl) #[.pointer (some ⟨gp,0,none⟩)] (by simp [Act.eval]) (HTC.out _ HP4) ?_;rintro r wx h5;obtain ⟨x,a5,st5,e5,gz,rfl,hgz,HZB,HKI⟩:=fB HXT.out.ps HZ4.out HC4.out h5;refine ⟨_,rfl,⟨⟨_,HKI.chg⟩,rfl⟩,?_⟩;simp only [sP]
         try simp only [hgz]
         clear hgz h5;refine bI ?_;simp only [sN];refine wpQuiet_nil ?_
        all_goals
         have HU5:=hD (HKI.ut HXT.out.ut (by have:=HXT.out.gpl;omega));clear ft3;refine aD ?_;simp only [sN]
         repeat (go_big_quiet_step (fail))
         refine wpQuiet_nil ?_;refine aA rfl ?_;at_builtin;refine eJ rfl rfl rfl HU5.out (by simp [Act.eval]) (by simp [Act.eval]) HZB.out (by omega) ?_;intro g7 c7 w7 HKO;obtain ⟨h01,h02,h03⟩:=Fd k6.length;obtain ⟨z0,z1,z2,z3,f0,f1,f2,f3⟩:=HKO.z;refine ⟨⟨_,rfl⟩,?_⟩;simp only [sP];refine bF ?_;simp only [sN]
         repeat (go_big_quiet_step (fail))
         refine wpQuiet_nil ?_;apply And.intro
         case' left=>
          refine aA rfl ?_;go_wp2_with fail;refine ⟨⟨_,rfl⟩,?_⟩;obtain ⟨b3,q3⟩:=HKO.zb x;refine aD ?_;simp only [sN]
          repeat (go_big_quiet_step (fail))
          refine wpQuiet_nil ?_;refine aA rfl ?_;go_wp2_with fail;refine ⟨⟨_,rfl⟩,?_⟩;obtain ⟨wf,hWf,HKF⟩:=HKO.fin8 x;rw [hWf];clear hWf b3 q3
         case' right=>
          obtain ⟨b3,q3⟩:=HKO.b;refine aA rfl ?_;go_wp2_with fail;refine ⟨⟨_,rfl⟩,?_⟩;clear z0 z1 z2 z3 f0 f1 f2 f3 b3 q3;obtain ⟨z0,z1,z2,z3,f0,f1,f2,f3⟩:=HKO.bz;refine aD ?_;simp only [sN]
          repeat (go_big_quiet_step (fail))
          refine wpQuiet_nil ?_;refine aA rfl ?_;go_wp2_with fail;refine ⟨⟨_,rfl⟩,?_⟩;obtain ⟨wf,hWf,HKF⟩:=HKO.fin10 x;rw [hWf];clear hWf
         all_goals
          refine aM ?_;simp only [sN];refine wpQuiet_nil ?_;go_wp2_with fail;refine NoPanic.normal ?_;go_wp2_with fail;go_meet;exact hD (eI HKI HXT.out.ut (by have:=HXT.out.gpl;omega) HKF)
       case rest=>
        obtain ⟨x7,a7,st7,e7,KD7,hx7,ha7,hz7,hc7⟩:=HXT.out.kid hcut.out;have HXT:=hD hx7;have HA7:=hD (HA6.out.trans ha7);have HZX:Hid (e7=0->x7.plain.size+6<=3*(a7 - a2)):=fun h0=>by
         have h1:=hz7 h0;have h2:=ha7.2.2 h0;have h3:=HZ6.out h2.1;omega
        have HD7:=hD (HDF.out _ _ _ _ HXT.out.ps hc7);clear hx7 ha7 hz7 hc7 hcut HDF HD3 HCB;obtain ⟨kx,hkx⟩:=nm (k6++[x7]);have hkxl:kx.length<=1:=by rw [<- hkx,List.length_append];simp;exact HK6.out
        have hkxs:T.sizes (kx.map TX.plain)=x7.plain.size:=by rw [<- hkx,HK6.out];simp [T.sizes]
        rw [hkx] at HXT;have HKXS:=hD hkxs;clear hkx hkxs;obtain ⟨-,⟨KA7,kc7,rfl,-⟩⟩:=HXT.out.ut.forms;obtain ⟨x,hx⟩:=nm (TX.node 4 s6 LA6 ls6 lc6 KA7 kx kc7);obtain ⟨t1,t2,t3⟩:=HXT.out.ut.tree (by unfold aO;omega) (by omega) (by omega);have HXX:Hid (aK wc gt 99 #[.int .i64 x.kind,.string x.text,.slice x.lA x.leads.length x.lc,.slice x.kA x.kids.length x.kc]):=by rw [<- hx];exact HXT.out.ut.box
        have HSX:=hD (show x.plain.size=1+x7.plain.size by
         rw [<- hx,TX.plain_eq,<- HKXS.out];simp only [TX.kids,TX.kind,TX.text,TX.leads,T.size])
        rw [hx] at t1 t2 t3;have HRX:=hD t1;have HIX:=hD t2;have HBX:=hD t3;clear t1 t2 t3 hx hkxl HKXS HXT;obtain ⟨gx,hgx⟩:∃ y,y=gt:=⟨_,rfl⟩;subst hgx;obtain ⟨gt,hgt⟩:∃ y,y=gT:=⟨_,rfl⟩;subst hgt;have HFT:=hD HD7.out.ft;have t3:=HFT.out.ut.box.cell 3;simp at t3;have ft3:=bA (M:=fun i=>i=gp) t3 (by have:=HFT.out.gp;have:=HFT.out.glt;omega);obtain ⟨x0,x1,x2,x3⟩:=HXX.out.c4;have hgxp:gx≠gp:=by have:=HFT.out.gp;have:=HFT.out.glt;have:=HG1.out;omega
        have fx0:=bA (M:=fun i=>i=gp) x0 hgxp;have fx1:=bA (M:=fun i=>i=gp) x1 hgxp;have fx2:=bA (M:=fun i=>i=gp) x2 hgxp;have fx3:=bA (M:=fun i=>i=gp) x3 hgxp;clear t3 x0 x1 x2 x3 hgxp;have hk4:k4.length<=n+1:=HN.out.2.2.1;go_wp2_with fail;refine cS (fun i=>i=gp) 4 (.one [0,1,2,3] 4 (.last [])) (.one [] 5 (.two [6,8] 7 (.one [] 9 (.last [])) 9 (.one [] 7 (.last [])))) (by kernel_rfl) (by kernel_rfl) ?_;refine bL ?_;simp only [sN]
        repeat (go_big_quiet_step (fail))
        refine wpQuiet_nil ?_;obtain ⟨wx,hWx⟩:=nm (wc.drew.alloc (.cells #[.int .i64 0,.string ⟨#[]⟩,.slice none 0 0,.slice none 0 0] 99));obtain ⟨gz,hgz⟩:=nm wc.drew.heap.size;have HZB:Hid (aK wx gz 99 #[.int .i64 0,.string ⟨#[]⟩,.slice none 0 0,.slice none 0 0]):=by rw [<- hWx,<- hgz];exact aK.new _ _ _
        have HNX:Hid (Below wc.heap.size wc wx):=by rw [<- hWx];exact bK (cC (Below.refl _ _)) _
        have HCX:Hid (aT wc wx (fun i=>i=gp)):=aT.of_new HNX.out _;have HR5:Hid (Tr wx wx.heap.size x):=HRX.out.up (Nat.le_refl _) HNX.out;refine aE rfl (by simp [go_sem];exact ⟨rfl,hWx⟩) ⟨⟨_,HCX.out⟩,rfl⟩ ?_;simp only [sP]
        try simp at hgz
        simp only [hgz];clear hWx hgz;refine bI ?_;simp only [sN];refine wpQuiet_nil ?_;have HU5:=hD (HFT.out.ut.chg HCX.out (fun i h=>.inl (by have:=HFT.out.gp;omega)));clear ft3 fx0 fx1 fx2 fx3;refine aD ?_;simp only [sN]
        repeat (go_big_quiet_step (fail))
        refine wpQuiet_nil ?_;refine aA rfl ?_;at_builtin;refine eJ rfl rfl rfl HU5.out (by simp [Act.eval]) (by simp [Act.eval]) HZB.out (by omega) ?_;intro g7 c7 w7 HKO;obtain ⟨h01,h02,h03⟩:=Fd k4.length;obtain ⟨z0,z1,z2,z3,f0,f1,f2,f3⟩:=HKO.z;refine ⟨⟨_,rfl⟩,?_⟩;simp only [sP];refine bF ?_;simp only [sN]
        repeat (go_big_quiet_step (fail))
        refine wpQuiet_nil ?_;apply And.intro
        case' left=>
         refine aA rfl ?_;go_wp2_with fail;refine ⟨⟨_,rfl⟩,?_⟩;obtain ⟨b3,q3⟩:=HKO.zb x;refine aD ?_;simp only [sN]
         repeat (go_big_quiet_step (fail))
         refine wpQuiet_nil ?_;refine aA rfl ?_;go_wp2_with fail;refine ⟨⟨_,rfl⟩,?_⟩;obtain ⟨wf,hWf,HKF⟩:=HKO.fin8 x;rw [hWf];clear hWf b3 q3
        case' right=>
         obtain ⟨b3,q3⟩:=HKO.b;refine aA rfl ?_;go_wp2_with fail;refine ⟨⟨_,rfl⟩,?_⟩;clear z0 z1 z2 z3 f0 f1 f2 f3 b3 q3;obtain ⟨z0,z1,z2,z3,f0,f1,f2,f3⟩:=HKO.bz;refine aD ?_;simp only [sN]
         repeat (go_big_quiet_step (fail))
         refine wpQuiet_nil ?_;refine aA rfl ?_;go_wp2_with fail;refine ⟨⟨_,rfl⟩,?_⟩;obtain ⟨wf,hWf,HKF⟩:=HKO.fin10 x;rw [hWf];clear hWf
        all_goals
         refine aM ?_;simp only [sN];refine wpQuiet_nil ?_;go_wp2_with fail;refine NoPanic.normal ?_;have HCF:=hD HKF.cf;have HXF:=hD HKF.xf;have HOF:=hD HKF.of;have HN7:=hD HKF.new;have HITX:=hD (HD7.out.below HNX.out);have HIF:Hid (DT w wf gp Kt n A c tl a7 st7 e7 K gt 2 s3 (.slice LA ls3.length lc) ls3 (.slice (some ⟨g7,0,none⟩) (k4.length+1) c7) (k4++[x]) (.slice CA2 cs2.length cc2) cs2):=HITX.out.kid HR5.out HIX.out HBX.out HG1.out HG2.out HG3.out HG4.out HCF.out HXF.out HOF.out HN7.out;clear z0 z1 z2 z3 f0 f1 f2 f3;obtain ⟨k8,hk8⟩:=nm (k4++[x]);have hlen:k4.length+1=k8.length:=by rw [<- hk8];simp
         have hsz8:T.sizes (k8.map TX.plain)=T.sizes (k4.map TX.plain)+x.plain.size:=by rw [<- hk8,List.map_append,List.map_cons,List.map_nil,kO]
         rw [hk8] at HIF;rw [hlen] at HIF ⊢;have HM6:=hD (sK HPS.out HIF.out.ft.ps HE1.out (fun h0=>by
          have h1:=HA7.out.2.2 h0;have h2:=HA7.out.1;rcases HAV.out with ⟨-,h3,-⟩ | h3
          ·omega
          ·have:=h3.1;omega))
         have HNF:Hid (a<=a7/\(e7=0->e=0/\a < a7/\T.sizes (k8.map TX.plain)+6<=3*(a7 - a)/\k8.length<=a7/\cs2.length<=a7)/\k8.length<=n+1/\cs2.length<=n+1):=by
          obtain ⟨n1,n2,-,-⟩:=HN.out;obtain ⟨n3,n4,n5,n6,n7⟩:=n2 HE1.out;have b1:=HA7.out.1;have b2:=HPS.out.le;have b3:a4<=a2:=by
           rcases HAV.out with ⟨-,h3,-⟩ | h3
           ·omega
           ·exact h3.1
          refine ⟨by omega,fun h0=>?_,by omega,by omega⟩;have c1:=HZX.out h0;have c2:=HSX.out;have c3:=HA7.out.2.2 h0;refine ⟨n3,by omega,by omega,by omega,by omega⟩
         clear hk8 hlen hsz8;go_wp2_with fail;go_roundw
         case rel=>exact ⟨a7,st7,e7,some ⟨g7,0,none⟩,c7,k8,CA2,cc2,cs2,rfl,HIF,HNF⟩
         case measure=>exact HM6.out
theorem wX (w:World) (h:PS w gp Kt n A c tl a st e) (hn:n<=1000000) (hK:Kt<=K) (htl:tl.size<=K):Calls Tryz.prog 93 #[.pointer (some ⟨gp,0,none⟩)] w (bZ w gp Kt n A c tl a e K):=by
 have HDE:Hid (∀ a' st' e' w',PS w' gp Kt n A c tl a' st' e'->Calls Tryz.prog 120 #[.pointer (some ⟨gp,0,none⟩)] w' (bZ w' gp Kt n A c tl a' e' K)):=fun a' st' e' w' h1=>CG w' h1 hn hK;have hle:=h.le;obtain ⟨W,hW⟩:=nm (w.alloc (.cells #[.int .i64 0,.string ⟨#[]⟩,.slice none 0 0,.slice none 0 0] 99));have HX:=bk hW;have HBW:=bw hW;have HGP:Hid (gp < w.heap.size):=h.lt;have HP:=hD (h.below HBW.out);have HC:Hid (aT w W (fun i=>i=gp)):=aT.of_new HBW.out _;have HW:=hD hW;clear hW h HBW;go_enter Tryz.func93,Tryz.ntmps93;obtain ⟨Wa,hWa⟩:=nm (W.alloc (.cells #[.int .i64 0,.string ⟨#[]⟩,.slice none 0 0,.slice none 0 0] 99));obtain ⟨Wb,hWb⟩:=nm (((((Wa.setCell ⟨W.heap.size,0,none⟩ (.int .i64 1)).setCell ⟨W.heap.size,1,none⟩ (.string ⟨#[]⟩)).setCell ⟨W.heap.size,2,none⟩ (.slice none 0 0)).setCell ⟨W.heap.size,3,none⟩ (.slice none 0 0)));have HF:Hid (FT w Wb gp Kt n A c tl a st e K W.heap.size 1 ⟨#[]⟩ (.slice none 0 0) [] (.slice none 0 0) []):=by
  have:=FT.new (K:=K) 1 ⟨#[]⟩ (Nat.zero_le _) HP.out HC.out HX.out HGP.out;rw [hWa,hWb] at this;exact this
 have HWa:=hD hWa;have HWb:=hD hWb;have HAX:=bk hWa;clear hWa hWb;obtain ⟨x0,x1,x2,x3⟩:=HAX.out.c4;obtain ⟨q0,q1,q2,q3⟩:=HAX.out.f4;go_wp2_with (first | rw [HW.out] | rw [HWa.out] | rw [HWb.out]);clear HWa HWb HAX x0 x1 x2 x3 q0 q1 q2 q3;have HAD:Hid (fK n a e a e\/True):=.inr trivial;clear HAD HW;(with_reducible refine (bP _ Wb HF.out.ps hn HF.out.ut (by have:=HGP.out;omega) hK (by simp)).mono ?_);rintro r0 v1 hm6;obtain ⟨a1,st1,e1,s1q,L1,ls1,rfl,hf5,ha5,hl5,-⟩:=HF.out.must hm6;have HF:=hD hf5;have HA1:=hD ha5;have HL1:=hD hl5;clear hm6 hf5 ha5 hl5;have HLL:=hD (show ls1.length<=1 by simpa using HL1.out);have HAD:=HA1;go_wp2_with fail;(with_reducible refine (dV 2 v1 HF.out.ps hn HF.out.ut (by have:=HGP.out;omega) hK (by have:=HLL.out;omega)).mono ?_);rintro r0 v2 hm6;obtain ⟨a2,st2,e2,s2,L2,ls2,rfl,hf5,ha5,hl5,-⟩:=HF.out.must hm6;have HF:=hD hf5;have HA2:=hD ha5;have HL2:=hD hl5;clear hm6 hf5 ha5 hl5;have HLL:=hD (show ls2.length<=2 by have:=HLL.out;have:=HL2.out;omega);have HAD:=hD (HAD.out.trans HA2.out);obtain ⟨ks,hks⟩:∃ ks:List TX,ks=[]:=⟨_,rfl⟩;have HF:Hid (FT w v2 gp Kt n A c tl a2 st2 e2 K W.heap.size 1 s2 L2 ls2 (.slice none ks.length 0) ks):=by subst hks;exact HF.out
 obtain ⟨gt,hgt⟩:=nm W.heap.size;rw [hgt] at HF ⊢;have HKL:Hid (ks.length<=0):=by rw [hks];exact Nat.le_refl _
 have HSZ:Hid (nN a a e ks 0):=by rw [hks];exact nN.start a e
 clear hks hgt;have HSZ:=hD ((HSZ.out.must HA1.out).must HA2.out);clear HA1 HA2 HL1 HL2;obtain ⟨⟨LA,lc,rfl,-⟩,-⟩:=HF.out.ut.forms;go_wp2_with fail;go_loopw [] (fun wr=>∃ (a4:Nat) (st4 e4:Int) (KA4:Option Addr) (kc4:Nat) (k4:List TX),Hid (FT w wr gp Kt n A c tl a4 st4 e4 K gt 1 s2 (.slice LA ls2.length lc) ls2 (.slice KA4 k4.length kc4) k4)/\Hid (fK n a e a4 e4)/\Hid (nN a a4 e4 k4 6)/\Hid (e4=0->k4.length<=a4)/\Hid (k4.length<=n+1)) (fun wr=>Ce n gp wr)
 case atStart=>
  have hk0:=HKL.out;exact ⟨a2,st2,e2,none,0,ks,HF,HAD,HSZ,fun h0=>by omega,hD (by omega)⟩
 case round=>
  clear HF HAD HSZ HKL;obtain ⟨a4,st4,e4,KA4,kc4,k4,HF,HAD,HSZ,HKa,HKn⟩:=hrel;have hkl:k4.length<=n+1:=HKn.out;have hal:=HF.out.ps.le;go_upto_region 4 with fail;go_cut [25] (fun x wq=>∃ b,x=.bool b/\(b=true->e4=0/\a4 < n)/\Hid (Below wr.heap.size wr wq))
  case first=>
   obtain ⟨z0,z1,z2,z3,z4⟩:=HF.out.ps.box.c5;have q1:(e4 == 0)=true\/(e4 == 0)=false:=by cases (e4 == 0) <;> simp
   rcases q1 with q1 | q1
   ·have he1:e4=0:=by simpa using q1
    by_cases hlt:a4 < n
    ·have d:decide ((a4:Int) < (n:Int))=true:=decide_eq_true (by omega);go_wp2_with fail;go_quiet (fail);have HBq:=hD (lE (Below.refl _ wr) nq);go_wp2_with fail;go_meet;exact ⟨_,rfl,fun _=>⟨he1,hlt⟩,HBq⟩
    ·have d:decide ((a4:Int) < (n:Int))=false:=decide_eq_false (by omega);go_wp2_with fail;go_quiet (fail);have HBq:=hD (lE (Below.refl _ wr) nq);go_wp2_with fail;go_meet;exact ⟨_,rfl,fun h=>(nomatch h),HBq⟩
   ·go_wp2_with fail;go_quiet (fail);have HBq:=hD (lE (Below.refl _ wr) nq);go_wp2_with fail;go_meet;exact ⟨false,rfl,fun h=>(nomatch h),HBq⟩
  case rest=>
   obtain ⟨b,rfl,hbe,HBw⟩:=hcut;have HF0:=HF;have HF:=hD (HF.out.below HBw.out)
   cases b
   case false=>
    clear hbe HF0 HBw;have hl2:=HLL.out;go_wp2_with fail;obtain ⟨y0,y1,y2,y3⟩:=HF.out.ut.box.c4;obtain ⟨q0,q1,q2,q3⟩:=HF.out.ut.box.f4;obtain ⟨z0,z1,z2,z3,z4⟩:=HF.out.ps.box.c5;have fy2:=aH y2;have fz2:=aH z2;have HZ3:Hid (w.heap.size+1<=wc.heap.size):=HF.out.res.lt;refine aY 6 [([0,1,2],3),([4,5],6)] [] (by kernel_rfl) (by kernel_rfl) ?_;refine aI ?_;simp only [sN]
    repeat (go_big_quiet_step (fail))
    refine wpQuiet_nil ?_;refine aA rfl ?_;go_wp2_with fail;refine ⟨⟨⟨_,cC (Below.refl _ _)⟩,rfl⟩,?_⟩;refine aI ?_
    try simp only [sN]
    repeat (go_big_quiet_step (fail))
    refine wpQuiet_nil ?_;obtain ⟨w6,hW6⟩:=nm (wc.drew.alloc (.cells #[.string tl] 9));have HB6:Hid (Below wc.heap.size wc w6):=by subst hW6;exact bK (cC (Below.refl _ _)) _
    refine aE rfl (by simp [go_sem];exact ⟨rfl,hW6⟩) ⟨⟨_,HB6.out⟩,rfl⟩ ?_;simp only [sP];refine bD ?_;refine wpQuiet_nil ?_;have HF6:=hD (HF.out.below HB6.out);have HZ6:Hid (w.heap.size+1<=w6.heap.size):=Nat.le_trans HZ3.out HB6.out.size;clear fy2 fz2 y0 y1 y2 y3 q0 q1 q2 q3;obtain ⟨i0,hi0,hz0,hz1,hz2⟩:=dF eF;have HSR:Hid (Src Tryz.prog 1 97 (.slice (some ⟨wc.drew.heap.size,0,none⟩) 1 1) 1 [.string tl] w6):=by rw [<- hW6];exact bR wc.drew Tryz.underlying97 [.string tl] 1 1 1 9 rfl (fun u hu=>by simp at hu;subst hu;rfl)
    have hml:ls2.length+1<=maxLen:=by unfold maxLen;omega
    have hmb:(ls2.length+1)*16<=140737488355328:=by omega
    clear hW6;go_wp2_with (at_builtin;refine aF w6 rfl _ _ _ _ rfl (w.heap.size+1) 9 i0 _ 1 16 Tryz.underlying97 hi0 hz0 hz1 hz2 rfl (by decide) (.slice LA ls2.length lc) ls2.length (ls2.map Value.string) (by simp [Act.eval]) HF6.out.ut.lead (.slice (some ⟨wc.drew.heap.size,0,none⟩) 1 1) 1 [.string tl] (by simp [Act.eval]) HSR.out hml hmb HZ6.out ?_);intro v9 w7 hown7 hg7;obtain ⟨A7,c7,rfl,-,-⟩:=aS hown7;have hf7:=HF6.out.leadsN (cs:=[tl]) hg7 hown7 (fun b hb=>by simp at hb;subst hb;exact htl);have hX7:aK w7 gt 99 #[.int .i64 1,.string s2,.slice LA ls2.length lc,.slice KA4 k4.length kc4]:=hg7.blk HF6.out.ut.box HF6.out.ut.lne;have HF:=hD hf7;have HX7:=hD hX7;clear hown7 hg7 HSR hf7 hX7;obtain ⟨q0,q1,q2,q3⟩:=HX7.out.f4;obtain ⟨t0,t1,t2,t3⟩:=HX7.out.c4;obtain ⟨l8,hl8⟩:=nm (ls2++[tl]);have hN8:ls2.length+1=l8.length:=by rw [<- hl8,List.length_append,List.length_singleton]
    rw [hl8] at HF;rw [hN8] at HF ⊢;have hl8n:l8.length<=4:=by omega
    obtain ⟨w8,hw8⟩:=nm (w7.setCell ⟨gt,2,none⟩ (.slice A7 l8.length c7));rw [hw8] at HF;have HW8:=hD hw8;clear hl8 hN8 hw8;obtain ⟨y0,y1,y2,y3⟩:=HF.out.ut.box.c4;obtain ⟨x0,x1,x2,x3⟩:=HF.out.res.c4;obtain ⟨r0,r1,r2,r3⟩:=HF.out.res.f4;go_wp2_with (rw [HW8.out]);refine NoPanic.normal ?_;go_wp2_with fail;refine rR (aP HF.out.res _ _ _ _) Tryz.underlying99 rfl rfl rfl rfl (by kernel_rfl) ?_;refine FT.ret HF.out ?_ ?_ ?_ HAD.out (HSZ.out.ret (by omega))
    ·unfold aO;omega
    ·omega
    ·omega
   case true=>
    have HE4:=hD (hbe rfl).1;have HPS:=hD HF0.out.ps;clear hbe HBw;go_upto_region 5 with fail;go_cut [37] (fun x wq=>∃ b,x=.bool b/\Hid (Below wc.heap.size wc wq))
    case first=>
     go_wp2_with fail;(with_reducible refine (cU _ wc HF.out.ps hn).mono ?_);rintro r0 v1 ⟨b1,rfl,hb1,-⟩;have HB1:=hD hb1;have HF1:=hD (HF.out.below hb1);clear hb1;have q1:((k4.length:Int) == 40)=true\/((k4.length:Int) == 40)=false:=by cases ((k4.length:Int) == 40) <;> simp
     cases b1
     case true=>
      obtain ⟨y0,y1,y2,y3⟩:=HF1.out.ut.box.c4;rcases q1 with q1 | q1
      all_goals
       go_wp2_with fail;go_meet;exact ⟨_,rfl,HB1⟩
     case false=>
      go_wp2_with fail;(with_reducible refine (cU _ v1 HF1.out.ps hn).mono ?_);rintro r0 v2 ⟨b2,rfl,hb2,-⟩;have HB2:=hD (aB HB1.out hb2);have HF2:=hD (HF1.out.below hb2);clear hb2;obtain ⟨y0,y1,y2,y3⟩:=HF2.out.ut.box.c4
      cases b2
      case true=>
       rcases q1 with q1 | q1
       all_goals
        go_wp2_with fail;go_meet;exact ⟨_,rfl,HB2⟩
      case false=>
       go_wp2_with fail;go_meet;exact ⟨_,rfl,HB2⟩
    case rest=>
     obtain ⟨b2,rfl,HBv⟩:=hcut;have HF:=hD (HF.out.below HBv.out);clear HBv;go_upto_if 37 with fail;go_cut [] (fun wq=>∃ (a6:Nat) (st6 e6:Int),Hid (FT w wq gp Kt n A c tl a6 st6 e6 K gt 1 s2 (.slice LA ls2.length lc) ls2 (.slice KA4 k4.length kc4) k4)/\a6=a4/\(e6=0->e4=0))
     case first=>
      cases b2
      case false=>
       go_wp2_with fail;go_meet;exact ⟨a4,st4,e4,HF,rfl,fun h=>h⟩
      case true=>
       go_wp2_with fail;(with_reducible refine (gE 3 wc HF.out.ps hn (by decide) (by unfold aO;omega)).mono ?_);rintro r0 v2 ⟨st',e',rfl,hp,he',hc⟩;have HF4:=hD (HF.out.fail hp hc);clear hp hc;go_wp2_with fail;go_meet;exact ⟨a4,st',e',HF4,rfl,fun h=>absurd h he'⟩
     case rest=>
      obtain ⟨a6,st6,e6,HF6,ha6,he6⟩:=hcut;clear HF;subst ha6;have HF:=HF6;clear HF6;have HK5:=hD (HDE.out a6 st6 e6);go_wp2_with fail;have t3:=HF.out.ut.box.cell 3;simp at t3;have ft3:=bA (M:=fun i=>i=gp) t3 (by have:=HF.out.ut.glo;have:=HF.out.gp;omega);have HPD:=hD (eQ HF.out.ps);clear t3;go_wp2_with fail;refine cS (fun i=>i=gp) 5 (.two [0,1,2,4] 3 (.one [] 5 (.last [])) 5 (.one [] 3 (.last []))) (.one [] 6 (.two [7,9] 8 (.one [] 10 (.last [])) 10 (.one [] 8 (.last [])))) (by kernel_rfl) (by kernel_rfl) ?_;refine dR ?_;simp only [sN]
      repeat (go_big_quiet_step (fail))
      refine wpQuiet_nil ?_;apply And.intro
      case' left=>
       refine aC rfl 120 _ _ rfl Tryz.func120 rfl (by kernel_rfl) #[.pointer (some ⟨gp,0,none⟩)] (by simp [Act.eval]) (HK5.out _ HPD.out.2) ?_;rintro r w5 h5;obtain ⟨x,a5,st5,e5,rfl,HKI⟩:=gB HPD.out.1 h5;refine ⟨_,rfl,⟨⟨_,HKI.chg⟩,rfl⟩,?_⟩;simp only [sP];refine bL ?_;simp only [sN];refine wpQuiet_nil ?_;obtain ⟨wx,gz,hWx,hgz,HZB,HKI⟩:=gM HKI;refine aE rfl (by simp [go_sem];exact ⟨rfl,hWx⟩) ⟨⟨_,HKI.chg⟩,rfl⟩ ?_;simp only [Act.put,List.setIfInBounds_toArray,List.set_cons_succ,List.set_cons_zero,hgz];clear hWx hgz h5;refine bI ?_;simp only [sN];refine wpQuiet_nil ?_
      case' right=>
       obtain ⟨w4,hW4,HZ4,HC4,HP4⟩:=fC HF.out.ps;refine aE rfl (by simp [go_sem];exact ⟨rfl,hW4⟩) ⟨⟨_,HC4.out⟩,rfl⟩ ?_;simp only [sP];clear hW4;refine bL ?_;simp only [sN];refine wpQuiet_nil ?_;refine aC rfl 120 _ _ rfl Tryz.func120 rfl (by kernel_rfl) #[.pointer (some ⟨gp,0,none⟩)] (by simp [Act.eval]) (HK5.out _ HP4) ?_;rintro r wx h5;obtain ⟨x,a5,st5,e5,gz,rfl,hgz,HZB,HKI⟩:=fB HF.out.ps HZ4.out HC4.out h5;refine ⟨_,rfl,⟨⟨_,HKI.chg⟩,rfl⟩,?_⟩;simp only [sP]
       try simp only [hgz]
       clear hgz h5;refine bI ?_;simp only [sN];refine wpQuiet_nil ?_
      all_goals
       have HU5:=hD (HKI.ut HF.out.ut (by have:=HF.out.gp;omega));clear ft3;refine aD ?_;simp only [sN]
       repeat (go_big_quiet_step (fail))
       refine wpQuiet_nil ?_;refine aA rfl ?_;at_builtin;refine eJ rfl rfl rfl HU5.out (by simp [Act.eval]) (by simp [Act.eval]) HZB.out (by omega) ?_;intro g7 c7 w7 HKO;obtain ⟨h01,h02,h03⟩:=Fd k4.length;obtain ⟨z0,z1,z2,z3,f0,f1,f2,f3⟩:=HKO.z;refine ⟨⟨_,rfl⟩,?_⟩;simp only [sP];refine bF ?_;simp only [sN]
       repeat (go_big_quiet_step (fail))
       refine wpQuiet_nil ?_;apply And.intro
       case' left=>
        refine aA rfl ?_;go_wp2_with fail;refine ⟨⟨_,rfl⟩,?_⟩;obtain ⟨b3,q3⟩:=HKO.zb x;refine aD ?_;simp only [sN]
        repeat (go_big_quiet_step (fail))
        refine wpQuiet_nil ?_;refine aA rfl ?_;go_wp2_with fail;refine ⟨⟨_,rfl⟩,?_⟩;obtain ⟨wf,hWf,HKF⟩:=HKO.fin8 x;rw [hWf];clear hWf b3 q3
       case' right=>
        obtain ⟨b3,q3⟩:=HKO.b;refine aA rfl ?_;go_wp2_with fail;refine ⟨⟨_,rfl⟩,?_⟩;clear z0 z1 z2 z3 f0 f1 f2 f3 b3 q3;obtain ⟨z0,z1,z2,z3,f0,f1,f2,f3⟩:=HKO.bz;refine aD ?_;simp only [sN]
        repeat (go_big_quiet_step (fail))
        refine wpQuiet_nil ?_;refine aA rfl ?_;go_wp2_with fail;refine ⟨⟨_,rfl⟩,?_⟩;obtain ⟨wf,hWf,HKF⟩:=HKO.fin10 x;rw [hWf];clear hWf
       all_goals
        refine aM ?_;simp only [sN];refine wpQuiet_nil ?_;go_wp2_with fail;refine NoPanic.normal ?_;have hcut:=hD (eI HKI HF.out.ut (by have:=HF.out.gp;omega) HKF);clear z0 z1 z2 z3 f0 f1 f2 f3;obtain ⟨x8,a8,st8,e8,KD8,hf8,ha8,hz8⟩:=HF.out.kid hcut.out;have HF:=hD hf8;have HM8:=hD (sK HPS.out HF.out.ps HE4.out (fun h0=>(ha8.2.2 h0).2));have HA8:=hD ha8;have HSZ:=hD (HSZ.out.kid (show fK n a6 e4 a8 e8 from ⟨ha8.1,ha8.2.1,fun h0=>⟨HE4.out,(ha8.2.2 h0).2⟩⟩) hz8);have HAD:=hD (HAD.out.trans (show fK n a6 e4 a8 e8 from ⟨ha8.1,ha8.2.1,fun h0=>⟨HE4.out,(ha8.2.2 h0).2⟩⟩));obtain ⟨k8,hk8⟩:=nm (k4++[x8]);have hk8n:k8.length=k4.length+1:=by rw [<- hk8];simp
        have HN8:=hD (show k8.length<=n+1 by have:=ha8.2.1;have:=HKa.out HE4.out;omega);have HK8:=hD (show e8=0->k8.length<=a8 from fun h0=>by have:=(ha8.2.2 h0).2;have:=HKa.out HE4.out;omega);rw [hk8] at HF HSZ;clear hf8 ha8 hz8 hcut hk8 hk8n HF0;obtain ⟨-,⟨KA8,kc8,rfl,-⟩⟩:=HF.out.ut.forms;go_wp2_with fail;go_roundw
        case rel=>exact ⟨a8,st8,e8,KA8,kc8,k8,HF,HAD,HSZ,HK8,HN8⟩
        case measure=>exact HM8.out
def mO (w:World) (K:Nat) (e:Ending) (w':World):Prop:=
 ∃ (t:TX) (a er:Int),e=.returned (.tuple #[t.val,.int .i64 a,.int .i64 er])/\Tr w' w'.heap.size t/\gG (w.heap.size<=·) t/\fG K t/\t.plain.size<=3*K+1/\Below w.heap.size w w'
def T0:TX:=.node 0 ⟨#[]⟩ none [] 0 none [] 0
theorem fD {w':World} {a er:Int} (hb:Below w.heap.size w w'):mO w K (.returned (.tuple #[.agg #[.int .i64 0,.string ⟨#[]⟩,.slice none 0 0,.slice none 0 0],.int .i64 a,.int .i64 er])) w':=
 ⟨T0,a,er,rfl,Tr.empty _ _,gG.empty _,fG.empty _,by simp [T0,TX.plain_eq,T.size,T.sizes,TX.kids],hb⟩
theorem V.row_ne {B len cap b off g:Nat} {e t:TypeId} {fs:List Ty} {cs:Array Value} (h:V w B (.sl n e fs) (.slice (some ⟨b,off,none⟩) len cap)) (h0:0 < len) (hx:aK w g t cs) (hne:e≠t):b≠g:=fun eq=>by
 cases h with
 | sl n e fs A len cap xs hc hn hr hb _=>
  obtain ⟨cs',h1⟩:=hb _ rfl h0;have h2:w.heap[g]?=some (.cells cs t (0,0)):=hx;rw [<- eq,h1] at h2;injection h2 with h2;injection h2 with _ h2;exact hne h2
theorem uP (s:ByteArray) (w:World) (hs:s.size<=100000):Calls Tryz.prog 60 #[.string s] w (mO w s.size):=by
 have HSC:Hid (∀ w,Calls Tryz.prog 92 #[.string s] w (aV w (lR s.size))):=fun w=>qT s w (by omega);obtain ⟨W,hW⟩:=nm (w.alloc (.cells #[.int .i64 0,.string ⟨#[]⟩,.slice none 0 0,.slice none 0 0] 99));have HX:=bk hW;have HB:=bw hW;have HW:=hD hW;clear hW;go_enter Tryz.func60,Tryz.ntmps60;go_wp2_with (rw [HW.out]);(with_reducible refine (HSC.out _).mono ?_);rintro r0 w1 ⟨hb1,v,rfl,A,n,c,tl,at_,er,rfl,hv,ht,ia,ie⟩;have HX:=hD (HX.out.below hb1 HX.out.lt);have HB:=hD (aB HB.out hb1);have HV:=hD hv;clear hb1 hv HW;obtain ⟨x0,x1,x2,x3⟩:=HX.out.c4;obtain ⟨q0,q1,q2,q3⟩:=HX.out.f4;by_cases he:er=0
 case neg=>
  have d:(er != 0)=true:=by simpa using he
  have HX5:=hD (aP HX.out (.int .i64 0) (.string ⟨#[]⟩) (.slice none 0 0) (.slice none 0 0));have HB5:=hD (aL HB.out (Nat.le_refl _) (.int .i64 0) (.string ⟨#[]⟩) (.slice none 0 0) (.slice none 0 0));go_wp2_with fail;clear x0 x1 x2 x3;obtain ⟨x0,x1,x2,x3⟩:=HX5.out.c4;refine bodyPost_ret (v:=.tuple #[.agg #[.int .i64 0,.string ⟨#[]⟩,.slice none 0 0,.slice none 0 0],.int .i64 at_,.int .i64 er]) (by simp [results,Tryz.results60,go_sem,x0,x1,x2,x3]) rfl ?_;exact fD HB5.out
 case pos=>
  subst he;have hns:=HV.out.len_le;have hnc:=HV.out.cap_le;obtain ⟨W2,hW2⟩:=nm (w1.alloc (.cells #[.slice A n c,.int .i64 0,.string tl,.int .i64 (-1),.int .i64 0] 142));have HPS:Hid (PS W2 w1.heap.size s.size n A c tl 0 (-1) 0):=by
   subst hW2;exact ⟨aK.new _ _ _,(HV.out.wide (Nat.le_refl _)).keep (fun g hg=>(bK (Below.refl w1.heap.size w1) _).block g hg),Nat.zero_le _,by unfold aO;omega,by unfold aO;omega,fun h=>absurd rfl h⟩
  have HX2:Hid (aK W2 w.heap.size 99 #[.int .i64 0,.string ⟨#[]⟩,.slice none 0 0,.slice none 0 0]):=by subst hW2;exact HX.out.alloc _
  have HB2:Hid (Below w.heap.size w W2):=by subst hW2;exact bK HB.out _
  have HZ1:Hid (w.heap.size < w1.heap.size):=HX.out.lt;have HW2:=hD hW2;clear hW2 x0 x1 x2 x3 q0 q1 q2 q3 HX HB HV;go_wp2_with (rw [HW2.out]);clear HW2;(with_reducible refine (wX W2 HPS.out (by omega) (Nat.le_refl _) ht).mono ?_);rintro r0 w3 ⟨t,a5,st5,e5,hr0,hp5,hc5,hr5,hi5,hb5,ha5,hz5⟩;obtain rfl:r0=.returned (.agg #[.int .i64 t.kind,.string t.text,.slice t.lA t.leads.length t.lc,.slice t.kA t.kids.length t.kc]):=hr0;obtain ⟨W3,hW3⟩:=nm (w3.alloc (.cells #[.int .i64 t.kind,.string t.text,.slice t.lA t.leads.length t.lc,.slice t.kA t.kids.length t.kc] 99));have HB3:Hid (Below w.heap.size w W3):=by
   subst hW3;exact bK (HB2.out.trans (hc5.below HB2.out.size (fun i h=>by have:=HZ1.out;omega))) _
  have HP3:Hid (PS W3 w1.heap.size s.size n A c tl a5 st5 e5):=by subst hW3;exact hp5.below (bK (Below.refl _ _) _)
  have HX3:Hid (aK W3 w.heap.size 99 #[.int .i64 0,.string ⟨#[]⟩,.slice none 0 0,.slice none 0 0]):=by subst hW3;exact (HX2.out.chg hc5 (by have:=HZ1.out;omega)).alloc _
  have HG3:=bk hW3;have HT3:Hid (Tr W3 W3.heap.size t):=by subst hW3;exact hr5.up (Nat.le_refl _) (bK (Below.refl _ _) _)
  have HI3:Hid (gG (w.heap.size < ·) t):=hi5.mono (fun b h=>by have:=HZ1.out;have:=HPS.out.lt;omega);have HTB:=hD hb5;have HSZ:Hid (e5=0->t.plain.size<=3*s.size+1):=fun h0=>by have:=hz5 h0;have:=ha5.2.1;omega
  have hgne:w.heap.size≠w3.heap.size:=by have:=HB3.out.size;have:=HG3.out.lt;have h1:=HB2.out.size;have h2:=hc5.size;have:=HZ1.out;have:=HPS.out.lt;omega
  have HGN:=hD hgne;have HW3:=hD hW3;clear hp5 hc5 hr5 hi5 hb5 ha5 hz5 hW3 HX2 HB2 HPS hgne;obtain ⟨z0,z1,z2,z3,z4⟩:=HP3.out.box.c5;have q1:(e5 == 0)=true\/(e5 == 0)=false:=by cases (e5 == 0) <;> simp
  obtain ⟨g3,hg3⟩:=nm w3.heap.size;rw [hg3] at HG3 HGN;have HR3:=hD hg3;clear hg3;by_cases he5:e5=0
  ·subst he5;have HDP:=hD (oH t W3 HT3.out);unfold nQ TX.val at HDP;obtain ⟨y0,y1,y2,y3⟩:=HG3.out.c4;obtain ⟨q0,q1,q2,q3⟩:=HG3.out.f4;go_wp2_with (first | rw [HW3.out,HR3.out] | rw [HW3.out]);clear z0 z1 z2 z3 z4;(with_reducible refine (HDP.out).mono ?_);rintro r0 w4 ⟨rfl,hb4⟩;have HX4:=hD (HX3.out.below hb4 HX3.out.lt);have HG4:=hD (HG3.out.below hb4 HG3.out.lt);have HB4:=hD (aB HB3.out hb4);have HT4:=hD (HT3.out.up (Nat.le_refl _) hb4);clear hb4 y0 y1 y2 y3 q0 q1 q2 q3 HDP;obtain ⟨x0,x1,x2,x3⟩:=HX4.out.c4;obtain ⟨q0,q1,q2,q3⟩:=HX4.out.f4;by_cases hd:40 < t.plain.dW
   ·have d:decide (40 < t.plain.dW)=true:=decide_eq_true hd;have HX5:=hD (aP HX4.out (.int .i64 0) (.string ⟨#[]⟩) (.slice none 0 0) (.slice none 0 0));have HB5:=hD (aL HB4.out (Nat.le_refl _) (.int .i64 0) (.string ⟨#[]⟩) (.slice none 0 0) (.slice none 0 0));go_wp2_with fail;clear x0 x1 x2 x3;obtain ⟨x0,x1,x2,x3⟩:=HX5.out.c4;refine bodyPost_ret (v:=.tuple #[.agg #[.int .i64 0,.string ⟨#[]⟩,.slice none 0 0,.slice none 0 0],.int .i64 0,.int .i64 4]) (by simp [results,Tryz.results60,go_sem,x0,x1,x2,x3]) rfl ?_;exact fD HB5.out
   ·have d:decide (40 < t.plain.dW)=false:=decide_eq_false hd;obtain ⟨y0,y1,y2,y3⟩:=HG4.out.c4;have HX5:=hD (aP HX4.out (.int .i64 t.kind) (.string t.text) (.slice t.lA t.leads.length t.lc) (.slice t.kA t.kids.length t.kc));have HB5:=hD (aL HB4.out (Nat.le_refl _) (.int .i64 t.kind) (.string t.text) (.slice t.lA t.leads.length t.lc) (.slice t.kA t.kids.length t.kc));have hc4:=cP w4 w.heap.size (.int .i64 t.kind) (.string t.text) (.slice t.lA t.leads.length t.lc) (.slice t.kA t.kids.length t.kc);have HT5:=hD ((HT4.out.chgS HI3.out hc4 (Nat.le_refl _) (fun i h1 h2=>by omega)).more hc4.size);clear hc4;go_wp2_with fail;clear x0 x1 x2 x3;obtain ⟨x0,x1,x2,x3⟩:=HX5.out.c4;refine bodyPost_ret (v:=.tuple #[t.val,.int .i64 0,.int .i64 0]) (by simp [results,Tryz.results60,go_sem,x0,x1,x2,x3,TX.val]) rfl ?_;exact ⟨t,0,0,rfl,HT5.out,HI3.out.mono (fun b h=>Nat.le_of_lt h),HTB.out,(by first | exact HSZ.out rfl | exact HSZ.out trivial),HB5.out⟩
  ·have d:(e5 != 0)=true:=by simpa using he5
   obtain ⟨hs0,hs1⟩:=HP3.out.sok he5;obtain ⟨sn,rfl⟩:∃ m:Nat,st5=m:=⟨st5.toNat,by omega⟩;have hsn:sn<=n:=by omega
   go_wp2_with (first | rw [HW3.out,HR3.out] | rw [HW3.out]);clear z0 z1 z2 z3 z4;go_loopw [7,11] (fun at' i wr=>∃ (za:Int) (j:Nat),at'=.int .i64 za/\i=.int .i64 (j:Int)/\j<=sn/\Hid (Below W3.heap.size W3 wr)) (fun _ i _=>sn - (intOf i).toNat)
   case atStart=>exact ⟨_,0,rfl,rfl,Nat.zero_le _,Below.refl _ _⟩
   case round=>
    obtain ⟨za,j,rfl,rfl,hj,HBl⟩:=hrel;have HPr:=hD (HP3.out.below HBl.out);have HXr:=hD (HX3.out.below HBl.out HX3.out.lt);have HBr:=hD (aB HB3.out HBl.out);obtain ⟨z0,z1,z2,z3,z4⟩:=HPr.out.box.c5;by_cases hlt:j < sn
    ·obtain ⟨b,off,y0,s1q,s2,rfl,-,e0,e1,e2,-⟩:=HPr.out.tok.tok_at (show j < n by omega);have d1:decide ((j:Int) < (sn:Int))=true:=decide_eq_true (by omega);have j0:(0:Int)<=(j:Int):=by omega
     have j1:(j:Int) < (n:Int):=by omega
     go_wp2_with fail;go_quiet (fail);have HB9:=hD (lE HBl.out nq);go_wp2_with fail;go_roundw
     case rel=>exact ⟨_,j+1,rfl,by go_num,by omega,HB9⟩
     case measure=>simp [intOf];omega
    ·have d1:decide ((j:Int) < (sn:Int))=false:=decide_eq_false (by omega);obtain ⟨x0,x1,x2,x3⟩:=HXr.out.c4;obtain ⟨q0,q1,q2,q3⟩:=HXr.out.f4;have HC:Hid (aT wr wr.drew (fun i=>i=w.heap.size)):=(aT.refl _ _).drew;have hgp:w1.heap.size≠w.heap.size:=by have:=HZ1.out;omega
     have fz3:=bA (M:=fun i=>i=w.heap.size) z3 hgp;have fz4:=bA (M:=fun i=>i=w.heap.size) z4 hgp;by_cases hsl:sn < n
     ·obtain ⟨b,off,y0,s1q,s2,rfl,-,e0,e1,e2,-⟩:=HPr.out.tok.tok_at hsl;have hbn:=HPr.out.tok.row_ne (by omega) HXr.out (by decide);have fe1:=bA (M:=fun i=>i=w.heap.size) e1 hbn;have d2:decide ((sn:Int) < (n:Int))=true:=decide_eq_true (by omega);have j1:(sn:Int) < (n:Int):=by omega
      go_wp2_with fail;refine bM (fun i=>i=w.heap.size) 17 (.three [0,1,2,3,12] 4 (.two [5,6,7,8,9,10,11] 13 (.one [14,15] 16 (.last [17])) 16 (.one [17] 13 (.last [14,15]))) 13 (.two [14,15] 4 (.one [5,6,7,8,9,10,11] 16 (.last [17])) 16 (.one [] 4 (.last [5,6,7,8,9,10,11,17]))) 16 (.two [] 4 (.one [5,6,7,8,9,10,11,17] 13 (.last [14,15])) 13 (.one [14,15] 4 (.last [5,6,7,8,9,10,11,17])))) (by kernel_rfl) (by kernel_rfl) ?_;refine vZ ?_;simp only [sN]
      repeat (go_big_quiet_step (fail))
      refine wpQuiet_nil ?_;refine ⟨?_,?_,?_⟩
      ·refine aA rfl ?_;go_wp2_with fail;refine ⟨⟨⟨_,HC.out⟩,rfl⟩,?_⟩;refine bF ?_;simp only [sN]
       repeat (go_big_quiet_step (fail))
       refine wpQuiet_nil ?_;refine ⟨?_,?_⟩
       ·refine aA rfl ?_;go_wp2_with fail;refine ⟨⟨⟨_,HC.out⟩,rfl⟩,?_⟩;refine aD ?_;simp only [sN]
        repeat (go_big_quiet_step (fail))
        refine wpQuiet_nil ?_;refine aA rfl ?_;go_wp2_with fail;obtain ⟨W9,hW9⟩:=nm (((((wr.setCell ⟨w.heap.size,0,none⟩ (.int .i64 0)).setCell ⟨w.heap.size,1,none⟩ (.string ⟨#[]⟩)).setCell ⟨w.heap.size,2,none⟩ (.slice none 0 0)).setCell ⟨w.heap.size,3,none⟩ (.slice none 0 0)).drew);have HC:Hid (aT wr W9 (fun i=>i=w.heap.size)):=by subst hW9;exact (cP _ _ _ _ _ _).drew
        have HX5:Hid (aK W9 w.heap.size 99 #[.int .i64 0,.string ⟨#[]⟩,.slice none 0 0,.slice none 0 0]):=by subst hW9;exact (aP HXr.out _ _ _ _).drew
        have HB5:Hid (Below w.heap.size w W9):=by subst hW9;exact cC (aL HBr.out (Nat.le_refl _) _ _ _ _)
        rw [hW9];clear hW9;refine ⟨⟨⟨_,HC.out⟩,rfl⟩,?_⟩;refine aM ?_;simp only [sN]
        repeat (go_big_quiet_step (fail))
        refine wpQuiet_nil ?_;go_wp2_with fail;refine NoPanic.normal ?_;go_wp2_with fail;clear x0 x1 x2 x3;obtain ⟨x0,x1,x2,x3⟩:=HX5.out.c4;refine bodyPost_ret (v:=.tuple #[.agg #[.int .i64 0,.string ⟨#[]⟩,.slice none 0 0,.slice none 0 0],.int .i64 (wrap64 (za+(s1q.size:Int))),.int .i64 e5]) (by simp [results,Tryz.results60,go_sem,x0,x1,x2,x3]) rfl ?_;exact fD HB5.out
       ·refine aA rfl ?_;go_wp2_with fail;obtain ⟨W9,hW9⟩:=nm (((((wr.setCell ⟨w.heap.size,0,none⟩ (.int .i64 0)).setCell ⟨w.heap.size,1,none⟩ (.string ⟨#[]⟩)).setCell ⟨w.heap.size,2,none⟩ (.slice none 0 0)).setCell ⟨w.heap.size,3,none⟩ (.slice none 0 0)).drew);have HC:Hid (aT wr W9 (fun i=>i=w.heap.size)):=by subst hW9;exact (cP _ _ _ _ _ _).drew
        have HX5:Hid (aK W9 w.heap.size 99 #[.int .i64 0,.string ⟨#[]⟩,.slice none 0 0,.slice none 0 0]):=by subst hW9;exact (aP HXr.out _ _ _ _).drew
        have HB5:Hid (Below w.heap.size w W9):=by subst hW9;exact cC (aL HBr.out (Nat.le_refl _) _ _ _ _)
        rw [hW9];clear hW9;refine ⟨⟨⟨_,HC.out⟩,rfl⟩,?_⟩;refine aD ?_;simp only [sN]
        repeat (go_big_quiet_step (fail))
        refine wpQuiet_nil ?_;refine aA rfl ?_;go_wp2_with fail;refine ⟨⟨⟨_,HC.out⟩,rfl⟩,?_⟩;refine aM ?_;simp only [sN]
        repeat (go_big_quiet_step (fail))
        refine wpQuiet_nil ?_;go_wp2_with fail;refine NoPanic.normal ?_;go_wp2_with fail;clear x0 x1 x2 x3;obtain ⟨x0,x1,x2,x3⟩:=HX5.out.c4;refine bodyPost_ret (v:=.tuple #[.agg #[.int .i64 0,.string ⟨#[]⟩,.slice none 0 0,.slice none 0 0],.int .i64 (wrap64 (za+(s1q.size:Int))),.int .i64 e5]) (by simp [results,Tryz.results60,go_sem,x0,x1,x2,x3]) rfl ?_;exact fD HB5.out
      ·refine aA rfl ?_;go_wp2_with fail;refine ⟨⟨⟨_,HC.out⟩,rfl⟩,?_⟩;refine bF ?_;simp only [sN]
       repeat (go_big_quiet_step (fail))
       refine wpQuiet_nil ?_;refine ⟨?_,?_⟩
       ·refine aA rfl ?_;go_wp2_with fail;refine ⟨⟨⟨_,HC.out⟩,rfl⟩,?_⟩;refine aD ?_;simp only [sN]
        repeat (go_big_quiet_step (fail))
        refine wpQuiet_nil ?_;refine aA rfl ?_;go_wp2_with fail;obtain ⟨W9,hW9⟩:=nm (((((wr.setCell ⟨w.heap.size,0,none⟩ (.int .i64 0)).setCell ⟨w.heap.size,1,none⟩ (.string ⟨#[]⟩)).setCell ⟨w.heap.size,2,none⟩ (.slice none 0 0)).setCell ⟨w.heap.size,3,none⟩ (.slice none 0 0)).drew);have HC:Hid (aT wr W9 (fun i=>i=w.heap.size)):=by subst hW9;exact (cP _ _ _ _ _ _).drew
        have HX5:Hid (aK W9 w.heap.size 99 #[.int .i64 0,.string ⟨#[]⟩,.slice none 0 0,.slice none 0 0]):=by subst hW9;exact (aP HXr.out _ _ _ _).drew
        have HB5:Hid (Below w.heap.size w W9):=by subst hW9;exact cC (aL HBr.out (Nat.le_refl _) _ _ _ _)
        rw [hW9];clear hW9;refine ⟨⟨⟨_,HC.out⟩,rfl⟩,?_⟩;refine aM ?_;simp only [sN]
        repeat (go_big_quiet_step (fail))
        refine wpQuiet_nil ?_;go_wp2_with fail;refine NoPanic.normal ?_;go_wp2_with fail;clear x0 x1 x2 x3;obtain ⟨x0,x1,x2,x3⟩:=HX5.out.c4;refine bodyPost_ret (v:=.tuple #[.agg #[.int .i64 0,.string ⟨#[]⟩,.slice none 0 0,.slice none 0 0],.int .i64 (wrap64 (za+(s1q.size:Int))),.int .i64 e5]) (by simp [results,Tryz.results60,go_sem,x0,x1,x2,x3]) rfl ?_;exact fD HB5.out
       ·refine aA rfl ?_;go_wp2_with fail;obtain ⟨W9,hW9⟩:=nm (((((wr.setCell ⟨w.heap.size,0,none⟩ (.int .i64 0)).setCell ⟨w.heap.size,1,none⟩ (.string ⟨#[]⟩)).setCell ⟨w.heap.size,2,none⟩ (.slice none 0 0)).setCell ⟨w.heap.size,3,none⟩ (.slice none 0 0)).drew);have HC:Hid (aT wr W9 (fun i=>i=w.heap.size)):=by subst hW9;exact (cP _ _ _ _ _ _).drew
        have HX5:Hid (aK W9 w.heap.size 99 #[.int .i64 0,.string ⟨#[]⟩,.slice none 0 0,.slice none 0 0]):=by subst hW9;exact (aP HXr.out _ _ _ _).drew
        have HB5:Hid (Below w.heap.size w W9):=by subst hW9;exact cC (aL HBr.out (Nat.le_refl _) _ _ _ _)
        rw [hW9];clear hW9;refine ⟨⟨⟨_,HC.out⟩,rfl⟩,?_⟩;refine aD ?_;simp only [sN]
        repeat (go_big_quiet_step (fail))
        refine wpQuiet_nil ?_;refine aA rfl ?_;go_wp2_with fail;refine ⟨⟨⟨_,HC.out⟩,rfl⟩,?_⟩;refine aM ?_;simp only [sN]
        repeat (go_big_quiet_step (fail))
        refine wpQuiet_nil ?_;go_wp2_with fail;refine NoPanic.normal ?_;go_wp2_with fail;clear x0 x1 x2 x3;obtain ⟨x0,x1,x2,x3⟩:=HX5.out.c4;refine bodyPost_ret (v:=.tuple #[.agg #[.int .i64 0,.string ⟨#[]⟩,.slice none 0 0,.slice none 0 0],.int .i64 (wrap64 (za+(s1q.size:Int))),.int .i64 e5]) (by simp [results,Tryz.results60,go_sem,x0,x1,x2,x3]) rfl ?_;exact fD HB5.out
      ·refine aA rfl ?_;go_wp2_with fail;obtain ⟨W9,hW9⟩:=nm (((((wr.setCell ⟨w.heap.size,0,none⟩ (.int .i64 0)).setCell ⟨w.heap.size,1,none⟩ (.string ⟨#[]⟩)).setCell ⟨w.heap.size,2,none⟩ (.slice none 0 0)).setCell ⟨w.heap.size,3,none⟩ (.slice none 0 0)).drew);have HC:Hid (aT wr W9 (fun i=>i=w.heap.size)):=by subst hW9;exact (cP _ _ _ _ _ _).drew
       have HX5:Hid (aK W9 w.heap.size 99 #[.int .i64 0,.string ⟨#[]⟩,.slice none 0 0,.slice none 0 0]):=by subst hW9;exact (aP HXr.out _ _ _ _).drew
       have HB5:Hid (Below w.heap.size w W9):=by subst hW9;exact cC (aL HBr.out (Nat.le_refl _) _ _ _ _)
       rw [hW9];clear hW9;refine ⟨⟨⟨_,HC.out⟩,rfl⟩,?_⟩;refine bF ?_;simp only [sN]
       repeat (go_big_quiet_step (fail))
       refine wpQuiet_nil ?_;refine ⟨?_,?_⟩
       ·refine aA rfl ?_;go_wp2_with fail;refine ⟨⟨⟨_,HC.out⟩,rfl⟩,?_⟩;refine aD ?_;simp only [sN]
        repeat (go_big_quiet_step (fail))
        refine wpQuiet_nil ?_;refine aA rfl ?_;go_wp2_with fail;refine ⟨⟨⟨_,HC.out⟩,rfl⟩,?_⟩;refine aM ?_;simp only [sN]
        repeat (go_big_quiet_step (fail))
        refine wpQuiet_nil ?_;go_wp2_with fail;refine NoPanic.normal ?_;go_wp2_with fail;clear x0 x1 x2 x3;obtain ⟨x0,x1,x2,x3⟩:=HX5.out.c4;refine bodyPost_ret (v:=.tuple #[.agg #[.int .i64 0,.string ⟨#[]⟩,.slice none 0 0,.slice none 0 0],.int .i64 (wrap64 (za+(s1q.size:Int))),.int .i64 e5]) (by simp [results,Tryz.results60,go_sem,x0,x1,x2,x3]) rfl ?_;exact fD HB5.out
       ·refine aA rfl ?_;go_wp2_with fail;refine ⟨⟨⟨_,HC.out⟩,rfl⟩,?_⟩;refine aD ?_;simp only [sN]
        repeat (go_big_quiet_step (fail))
        refine wpQuiet_nil ?_;refine aA rfl ?_;go_wp2_with fail;refine ⟨⟨⟨_,HC.out⟩,rfl⟩,?_⟩;refine aM ?_;simp only [sN]
        repeat (go_big_quiet_step (fail))
        refine wpQuiet_nil ?_;go_wp2_with fail;refine NoPanic.normal ?_;go_wp2_with fail;clear x0 x1 x2 x3;obtain ⟨x0,x1,x2,x3⟩:=HX5.out.c4;refine bodyPost_ret (v:=.tuple #[.agg #[.int .i64 0,.string ⟨#[]⟩,.slice none 0 0,.slice none 0 0],.int .i64 (wrap64 (za+(s1q.size:Int))),.int .i64 e5]) (by simp [results,Tryz.results60,go_sem,x0,x1,x2,x3]) rfl ?_;exact fD HB5.out
     ·have d2:decide ((sn:Int) < (n:Int))=false:=decide_eq_false (by omega);go_wp2_with fail;refine bM (fun i=>i=w.heap.size) 8 (.two [0,1,2,3] 4 (.one [5,6] 7 (.last [8])) 7 (.one [8] 4 (.last [5,6]))) (by kernel_rfl) (by kernel_rfl) ?_;refine bF ?_;simp only [sN]
      repeat (go_big_quiet_step (fail))
      refine wpQuiet_nil ?_;refine ⟨?_,?_⟩
      ·refine aA rfl ?_;go_wp2_with fail;refine ⟨⟨⟨_,HC.out⟩,rfl⟩,?_⟩;refine aD ?_;simp only [sN]
       repeat (go_big_quiet_step (fail))
       refine wpQuiet_nil ?_;refine aA rfl ?_;go_wp2_with fail;obtain ⟨W9,hW9⟩:=nm (((((wr.setCell ⟨w.heap.size,0,none⟩ (.int .i64 0)).setCell ⟨w.heap.size,1,none⟩ (.string ⟨#[]⟩)).setCell ⟨w.heap.size,2,none⟩ (.slice none 0 0)).setCell ⟨w.heap.size,3,none⟩ (.slice none 0 0)).drew);have HC:Hid (aT wr W9 (fun i=>i=w.heap.size)):=by subst hW9;exact (cP _ _ _ _ _ _).drew
       have HX5:Hid (aK W9 w.heap.size 99 #[.int .i64 0,.string ⟨#[]⟩,.slice none 0 0,.slice none 0 0]):=by subst hW9;exact (aP HXr.out _ _ _ _).drew
       have HB5:Hid (Below w.heap.size w W9):=by subst hW9;exact cC (aL HBr.out (Nat.le_refl _) _ _ _ _)
       rw [hW9];clear hW9;refine ⟨⟨⟨_,HC.out⟩,rfl⟩,?_⟩;refine aM ?_;simp only [sN]
       repeat (go_big_quiet_step (fail))
       refine wpQuiet_nil ?_;go_wp2_with fail;refine NoPanic.normal ?_;go_wp2_with fail;clear x0 x1 x2 x3;obtain ⟨x0,x1,x2,x3⟩:=HX5.out.c4;refine bodyPost_ret (v:=.tuple #[.agg #[.int .i64 0,.string ⟨#[]⟩,.slice none 0 0,.slice none 0 0],.int .i64 (s.size:Int),.int .i64 e5]) (by simp [results,Tryz.results60,go_sem,x0,x1,x2,x3]) rfl ?_;exact fD HB5.out
      ·refine aA rfl ?_;go_wp2_with fail;obtain ⟨W9,hW9⟩:=nm (((((wr.setCell ⟨w.heap.size,0,none⟩ (.int .i64 0)).setCell ⟨w.heap.size,1,none⟩ (.string ⟨#[]⟩)).setCell ⟨w.heap.size,2,none⟩ (.slice none 0 0)).setCell ⟨w.heap.size,3,none⟩ (.slice none 0 0)).drew);have HC:Hid (aT wr W9 (fun i=>i=w.heap.size)):=by subst hW9;exact (cP _ _ _ _ _ _).drew
       have HX5:Hid (aK W9 w.heap.size 99 #[.int .i64 0,.string ⟨#[]⟩,.slice none 0 0,.slice none 0 0]):=by subst hW9;exact (aP HXr.out _ _ _ _).drew
       have HB5:Hid (Below w.heap.size w W9):=by subst hW9;exact cC (aL HBr.out (Nat.le_refl _) _ _ _ _)
       rw [hW9];clear hW9;refine ⟨⟨⟨_,HC.out⟩,rfl⟩,?_⟩;refine aD ?_;simp only [sN]
       repeat (go_big_quiet_step (fail))
       refine wpQuiet_nil ?_;refine aA rfl ?_;go_wp2_with fail;refine ⟨⟨⟨_,HC.out⟩,rfl⟩,?_⟩;refine aM ?_;simp only [sN]
       repeat (go_big_quiet_step (fail))
       refine wpQuiet_nil ?_;go_wp2_with fail;refine NoPanic.normal ?_;go_wp2_with fail;clear x0 x1 x2 x3;obtain ⟨x0,x1,x2,x3⟩:=HX5.out.c4;refine bodyPost_ret (v:=.tuple #[.agg #[.int .i64 0,.string ⟨#[]⟩,.slice none 0 0,.slice none 0 0],.int .i64 (s.size:Int),.int .i64 e5]) (by simp [results,Tryz.results60,go_sem,x0,x1,x2,x3]) rfl ?_;exact fD HB5.out
end
end Go.Proofs.YtkgpoimmniojjaaGreat
