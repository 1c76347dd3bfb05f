/- No condition. -/
import Derived.Test.YtkgpoimmniojjaaGreatZaBL
import Derived.Test.YtkgpoimmniojjaaGreatZaAE
namespace Go.Proofs.YtkgpoimmniojjaaGreat
set_option linter.unusedVariables false
set_option linter.unusedSimpArgs false
set_option maxRecDepth 100000
set_option maxHeartbeats 16000000
section
open Go.RowKit
variable {w w':World} {t s:TX} {ps:List TX} {pA iA A D:Option Addr} {q:List Int} {B n m d K base pc c:Nat}
theorem nA:∀ (a b:List Int) (t c:TX),t.find a=some c->t.find (a++b)=c.find b
 | [],b,t,c,h=>by rw [TX.find] at h;injection h with h;subst h;rfl
 | x::a,b,t,c,h=>by
  rw [TX.find] at h;rw [List.cons_append,TX.find]
  split at h
  ·cases h
  ·rename_i hx;rw [if_neg hx]
   cases hk:t.kids[x.toNat]? with
   | none=>rw [hk] at h;cases h
   | some k=>rw [hk] at h;exact nA a b k c h
theorem mY {c:TX} {i:Nat} (hf:t.find q=some s) (hc:t.find (q.take (q.length - 1))=some c) (hi:q[q.length - 1]?=some (i:Int)):i < c.kids.length:=by
 have hlt:=(List.getElem?_eq_some_iff.1 hi).1;have hq:q.take (q.length - 1)++[(i:Int)]=q:=by
  have h1:=List.take_append_drop (q.length - 1) q;have h2:q.drop (q.length - 1)=[(i:Int)]:=by
   rw [List.drop_eq_getElem_cons hlt];obtain ⟨h3,h4⟩:=List.getElem?_eq_some_iff.1 hi;rw [h4,show q.length - 1+1=q.length by omega,List.drop_length]
  rw [h2] at h1;exact h1
 have h1:=nA (q.take (q.length - 1)) [(i:Int)] t c hc;rw [hq,hf,TX.find] at h1
 split at h1
 ·cases h1
 ·omega
structure AG (w:World) (pA:Option Addr) (ps:List TX) (iA:Option Addr) (is:List PW) (m:Nat) (t s:TX) (D:Option Addr) (d:Nat) (q:List Int):Prop where
 be:BE w w.heap.size pA ps iA is
 ht:ps[m]?=some t
 hq:aG w w.heap.size 1 D q.length (q.map (Value.int .i64))
 hf:t.find q=some s
 hl:q.length<=100000
 hd:q.length<=d
theorem AG.up {is:List PW} (h:AG w pA ps iA is m t s D d q) (hb:Below w.heap.size w w'):AG w' pA ps iA is m t s D d q:=⟨h.be.up hb,h.ht,(h.hq.below hb).more hb.size,h.hf,h.hl,h.hd⟩
theorem AG.sa {is:List PW} (h:AG w pA ps iA is m t s D d q) (h0:0 < q.length):SA w pA ps iA is m t s D d q:=⟨h.be,h.ht,h.hq,h.hf,h.hl,h.hd,h0⟩
def AI (w:World) (N:Nat) (e:Ending) (w':World):Prop:=∃ A n c,e=.returned (.slice A n c)/\V w' w'.heap.size (.sl N 83 (aQ 110)) (.slice A n c)/\Below w.heap.size w w'
theorem V.flat {B':Nat} {t:Ty} {v:Value} (h:V w B t v) (ht:t=.int\/t=.bool\/∃ k,t=.str k):V w' B' t v:=by
 rcases ht with rfl | rfl | ⟨k,rfl⟩
 ·obtain ⟨z,rfl,i⟩:=h.int_inv;exact .int z i
 ·obtain ⟨b,rfl⟩:=h.bool_inv;exact .bool b
 ·obtain ⟨s,rfl,i⟩:=h.str_inv;exact .str k s i
theorem AB {j:Nat} {t:Ty} (h:(aQ K)[j % (aQ K).length]?=some t):t=.int\/t=.bool\/∃ k,t=.str k:=by
 have h:=List.mem_of_getElem? h;simp at h;rcases h with rfl | rfl | rfl | rfl
 ·exact .inl rfl
 ·exact .inr (.inl rfl)
 ·exact .inr (.inr ⟨K,rfl⟩)
 ·exact .inl rfl
theorem aJ.cells_chg {M:Nat->Prop} {v:Value} (h:aJ w base 83 (aQ K) v n) (hc:aT w w' M) (hm:∀ g,v.ownBlock=some g->¬ M g):aJ w' base 83 (aQ K) v n:=by
 obtain ⟨xs,ho,ht⟩:=h;exact ⟨xs,bV ho hc hm,fun j u t hu hf=>(ht j u t hu hf).flat (AB hf)⟩
theorem vR {is:List PW} {ic:Nat} (m:Nat) (t s:TX) (D:Option Addr) (d:Nat) (q:List Int) (key:ByteArray) (w:World) (h:AG w pA ps iA is m t s D d q) (hk:key.size<=110) (hll:s.leads.length<=100000):Calls Tryz.prog 57 #[.slice pA ps.length pc,.slice iA is.length ic,.int .i64 (m:Int),.slice D q.length d,.string key] w (AI w (s.leads.length+3)):=by
 have hmp:=(List.getElem?_eq_some_iff.1 h.ht).1;have hn2:=h.be.n2;have hil:=h.be.len;have hil1:is.length<=ps.length:=by omega
 have hil2:ps.length<=is.length:=by omega
 clear hil;have htm:=List.mem_of_getElem? h.ht;have hTs:=fP q t s (h.be.rt.kid t htm) h.hf;have hBs:=gL q t s (h.be.bd t htm).1 h.hf;have HTs:=hD hTs;have HBs:=hD hBs;obtain ⟨ab,ao,rfl,hab,-⟩:=h.be.rt.at_ h.ht;obtain ⟨ib,io,xi,rfl,hib,-,c0,hxm,hx1,hx2⟩:=h.be.ids h.ht;have HS:=hD h;have m0:(0:Int)<=(m:Int):=by omega
 have m1:(m:Int) < (ps.length:Int):=by omega
 have m2:(m:Int) < (is.length:Int):=by omega
 have hql:=h.hl;have hqd:=h.hd;have HAT:Hid (∀ w',Below w.heap.size w w'->Calls Tryz.prog 54 #[.agg #[.int .i64 t.kind,.string t.text,.slice t.lA t.leads.length t.lc,.slice t.kA t.kids.length t.kc],.slice D q.length d] w' (cJ w' (some s))):=fun w' hb=>by
  have h1:=fN t D d q w' ((h.be.rt.kid t htm).up (Nat.le_refl _) hb) ((h.hq.below hb).more hb.size) (by omega);rwa [h.hf] at h1
 clear h hTs hBs hab c0;obtain ⟨e0,e1,e2,e3⟩:=HS.out.be.rt.c4 HS.out.ht rfl;go_enter Tryz.func57,Tryz.ntmps57;go_wp2_with fail;(with_reducible refine (HAT.out _ (Below.refl _ _)).mono ?_);rintro r0 w1 ⟨hb1,hq⟩;obtain rfl:r0=.returned (.tuple #[.agg #[.int .i64 s.kind,.string s.text,.slice s.lA s.leads.length s.lc,.slice s.kA s.kids.length s.kc],.bool true]):=hq;obtain ⟨W2,hW2⟩:=nm (w1.alloc (.cells #[.int .i64 s.kind,.string s.text,.slice s.lA s.leads.length s.lc,.slice s.kA s.kids.length s.kc] 99));have HB:Hid (Below w.heap.size w W2):=by rw [<- hW2];exact bK hb1 _
 have HG:=bk hW2;obtain ⟨g,hg⟩:=nm w1.heap.size;have HW2:=hD (show w1.alloc (.cells #[.int .i64 s.kind,.string s.text,.slice s.lA s.leads.length s.lc,.slice s.kA s.kids.length s.kc] 99)=W2 from hW2);have HGg:=hD hg;rw [hg] at HG;clear hb1 hW2 hg e0 e1 e2 e3;have HEw:=hD (HS.out.be.low HB.out);obtain ⟨e0,e1,e2,e3⟩:=HEw.out.rt.c4 HS.out.ht rfl;obtain ⟨ib',io',xj,hI,hib',-,c0,hxm',hx1',hx2'⟩:=HEw.out.ids HS.out.ht;injection hI with hI;injection hI with hI1 hI2;subst hI1 hI2;have HNC:=hD (((HEw.out.more HB.out.size).up (cC (Below.refl _ _))).num HS.out.ht HS.out.hf (D:=D) (d:=d) ((HS.out.hq.below (cC HB.out)).more HB.out.size) (by omega));go_wp2_with (first | rw [HW2.out,HGg.out] | rw [HW2.out]);have fe0:=aH e0;have fe1:=aH e1;have fe2:=aH e2;have fe3:=aH e3;have fc0:=aH c0;refine aY 9 [([0,1,2,3,4,5,6,7,8],9)] [] (by kernel_rfl) (by kernel_rfl) ?_;refine aI ?_;simp only [sN]
 repeat (go_big_quiet_step (fail))
 refine wpQuiet_nil ?_;refine aC rfl 89 _ _ rfl Tryz.func89 rfl (by kernel_rfl) #[.agg #[.int .i64 t.kind,.string t.text,.slice t.lA t.leads.length t.lc,.slice t.kA t.kids.length t.kc],.slice D q.length d] (by simp [Act.eval]) (HNC.out) ?_;rintro e w7 ⟨k,rfl,hk,hb7⟩;have HB7:=hD (aB (cC (Below.refl W2.heap.size W2)) hb7);have hkl:k < xj.l.length:=by omega
 obtain ⟨b9,o9,z9,hA9,hb9,g9,hz9⟩:=(HEw.out.low (HB7.out.mono HB.out.size)).id hxm' hkl;have k1:(k:Int) < (xj.l.length:Int):=by omega
 have k0:(0:Int)<=(k:Int):=by omega
 refine ⟨_,rfl,⟨⟨_,HB7.out⟩,rfl⟩,?_⟩;simp only [sP];refine bD ?_;refine wpQuiet_nil ?_;rw [hA9];have HG:=hD (HG.out.below HB7.out HG.out.lt);have HB:=hD (aB HB.out HB7.out);have HZ:=hD hz9;clear fe0 fe1 fe2 fe3 fc0 e0 e1 e2 e3 c0 HEw hxm' hx1' hx2' hib' HNC hb7 HW2 HGg;go_wp2_with fail;refine NoPanic.normal ?_;clear g9 k1 k0 hkl hk hz9 hA9 hb9;obtain ⟨g0,g1,g2,g3⟩:=HG.out.c4;go_wp2_with fail;(with_reducible refine (xJ s.kind w7).mono ?_);rintro r0 w8 ⟨kr,rfl,rfl,hr1,hr5,hk1,hk2⟩;obtain ⟨W9,hW9⟩:=nm (w7.alloc (.cells #[.int .i64 z9,.int .i64 1,.int .i64 kr,.bool false,.string ⟨#[]⟩,.int .i64 0] 83));have HO:Hid (aJ W9 w.heap.size 83 (aQ 110) (.slice (some ⟨w7.heap.size,0,none⟩) 1 1) 1):=by rw [<- hW9];exact aJ.fresh w7 _ _ w.heap.size HB.out.size (vals:=[.int .i64 z9,.int .i64 1,.int .i64 kr,.bool false,.string ⟨#[]⟩,.int .i64 0]) (m:=1) rfl (bJ HZ.out (by unfold aO;omega) (by unfold aO;omega) (Nat.zero_le _) (by unfold aO;omega)) (by unfold maxLen;omega)
 have HG:Hid (aK W9 g 99 #[.int .i64 s.kind,.string s.text,.slice s.lA s.leads.length s.lc,.slice s.kA s.kids.length s.kc]):=by rw [<- hW9];exact HG.out.alloc _
 have HB:Hid (Below w.heap.size w W9):=by rw [<- hW9];exact bK HB.out _
 have HW9:=hD hW9;clear hW9 g0 g1 g2 g3;go_upto_if 53 with (rw [HW9.out]);go_cut [14,15,16,17,18,19,20,21] (fun x14 l x16 x17 x18 x19 x20 x21 wq=>∃ (A:Option Addr) (n c:Nat),x14=.int .i64 kr/\l=.slice A n c/\n<=2/\Hid (aJ wq w.heap.size 83 (aQ 110) (.slice A n c) n)/\Hid (Below w.heap.size w wq)/\Hid (aK wq g 99 #[.int .i64 s.kind,.string s.text,.slice s.lA s.leads.length s.lc,.slice s.kA s.kids.length s.kc]))
 case first=>
  by_cases hkr:kr=1
  case pos=>
   have d1:(kr == 1)=true:=by simpa using hkr
   have HT1:Hid (Ts W9 W9.heap.size (aQ 110) [.int .i64 z9,.int .i64 2,.int .i64 1,.bool false,.string ⟨#[]⟩,.int .i64 0]):=bJ HZ.out (by unfold aO;omega) (by unfold aO;omega) (Nat.zero_le _) (by unfold aO;omega);have HZ9:=hD HB.out.size;go_wp2_with (at_builtin;refine p1 (kC 110) rfl rfl w.heap.size (.slice (some ⟨w7.heap.size,0,none⟩) 1 1) (1) rfl HO.out 83 _ 1 1 rfl rfl rfl HT1.out (by omega) HZ9.out ?_);intro A7 c7 v7 hown7 hg7 hb7;have HO7:=hD hown7;have HB7':=hD (HB.out.trans hb7);have HG7:=hD (HO.out.blk HG.out (by decide) hg7);clear hown7 hg7 hb7;go_wp2_with fail;go_meet;exact ⟨A7,_,c7,by rw [hkr],rfl,Nat.le_refl _,HO7,HB7',HG7⟩
  case neg=>
   have d1:(kr == 1)=false:=by simpa using hkr
   have hq0:0 < q.length:=by
    refine Nat.pos_of_ne_zero (fun e=>?_);have hqe:=List.eq_nil_of_length_eq_zero e;have hf:=HS.out.hf;rw [hqe,TX.find] at hf;injection hf with hf;subst hf;exact hkr (hk2 (HS.out.be.bd t htm).2.2)
   obtain ⟨s1q,hs1⟩:=gW q t s HS.out.hf (q.length - 1);have hTs1:=fP _ t s1q (HS.out.be.rt.kid t htm) hs1;obtain ⟨db,do_,li,hDq,hdb,p0,hli⟩:=sL (HS.out.hq.below HB.out) hq0 HS.out.hf;have hlk:=mY HS.out.hf hs1 hli;have hkl1:s1q.kids.length<=1000000:=by have h1:=gR s1q;have h2:=(sI _ t s1q hs1);have h3:=(HS.out.be.bd t htm).2.1;omega
   have HAT2:Hid (Calls Tryz.prog 54 #[.agg #[.int .i64 t.kind,.string t.text,.slice t.lA t.leads.length t.lc,.slice t.kA t.kids.length t.kc],.slice D (q.length - 1) d] W9 (cJ W9 (some s1q))):=sX (q.length - 1) W9 ((HS.out.be.rt.kid t htm).up (Nat.le_refl _) HB.out) ((HS.out.hq.below HB.out).more HB.out.size) (by omega) (by omega) hs1;subst hDq;obtain ⟨e0,e1,e2,e3⟩:=(HS.out.be.low HB.out).rt.c4 HS.out.ht rfl;have q00:(0:Int)<=(q.length:Int) - 1:=by omega
   have q01:(q.length:Int) - 1<=(d:Int):=by omega
   have q02:(q.length:Int) - 1 < (q.length:Int):=by omega
   have q03:((q.length:Int) - 1).toNat=q.length - 1:=by omega
   have HS1:=hD hs1;have HT1:=hD hTs1;clear hs1 hli hTs1;go_wp2_with fail;(with_reducible refine (HAT2.out).mono ?_);rintro r0 w10 ⟨hb10,hq⟩;obtain rfl:r0=.returned (.tuple #[.agg #[.int .i64 s1q.kind,.string s1q.text,.slice s1q.lA s1q.leads.length s1q.lc,.slice s1q.kA s1q.kids.length s1q.kc],.bool true]):=hq;obtain ⟨Wa,hWa⟩:=nm (w10.alloc (.cells #[.int .i64 s1q.kind,.string s1q.text,.slice s1q.lA s1q.leads.length s1q.lc,.slice s1q.kA s1q.kids.length s1q.kc] 99));have HBa:Hid (Below W9.heap.size W9 Wa):=by rw [<- hWa];exact bK hb10 _
   have HQa:=bk hWa;have HG:=hD (HG.out.below HBa.out HG.out.lt);have HO:=hD (HO.out.up HBa.out);have HB:=hD (aB HB.out HBa.out);have pa:=(HBa.out.cell (p:=⟨db,do_+(q.length - 1),none⟩) (World.block_lt_of_cell? W9 _ p0)).trans p0;have HWa:=hD hWa;clear hb10 hWa e0 e1 e2 e3 p0 HAT2 HBa;obtain ⟨y0,y1,y2,y3⟩:=HQa.out.c4;have HSL:=hD (fun w' (hb:Below Wa.heap.size Wa w')=>nW s1q li w' (HT1.out.up (Nat.le_refl _) (aB HB.out hb)) hlk);unfold TX.val at HSL;go_wp2_with (rw [HWa.out]);have fy0:=aH y0;have fy1:=aH y1;have fy2:=aH y2;have fy3:=aH y3;have fpa:=aH pa;refine aY 11 [([0,1,2,3,4,5,6],7)] [8,9,10,11] (by kernel_rfl) (by kernel_rfl) ?_;refine aI ?_;simp only [sN]
   repeat (go_big_quiet_step (fail))
   refine wpQuiet_nil ?_;refine aC rfl 55 _ _ rfl Tryz.func55 rfl (by kernel_rfl) #[.agg #[.int .i64 s1q.kind,.string s1q.text,.slice s1q.lA s1q.leads.length s1q.lc,.slice s1q.kA s1q.kids.length s1q.kc],.int .i64 (li:Int)] (by simp [Act.eval]) (HSL.out _ (cC (Below.refl _ _))) ?_;rintro e wb ⟨za,zb,rfl,hbb,hza,hsl⟩;have HBb:=hD (aB (cC (Below.refl Wa.heap.size Wa)) hbb);refine ⟨_,rfl,⟨⟨_,HBb.out⟩,rfl⟩,?_⟩;simp only [sP];refine bD ?_
   try simp only [sN]
   repeat (go_big_quiet_step (fail))
   refine wpQuiet_nil ?_;have HG:=hD (HG.out.below HBb.out HG.out.lt);have HO:=hD (HO.out.up HBb.out);have HB:=hD (aB HB.out HBb.out);clear fy0 fy1 fy2 fy3 fpa y0 y1 y2 y3 pa hbb HWa HSL HQa;go_wp2_with fail;refine NoPanic.normal ?_;have HEw:=hD (HS.out.be.low HB.out);obtain ⟨e0,e1,e2,e3⟩:=HEw.out.rt.c4 HS.out.ht rfl;obtain ⟨ib2,io2,xk,hI,hib2,-,c0,hxm2,hx3,hx4⟩:=HEw.out.ids HS.out.ht;injection hI with hI;injection hI with hI1 hI2;subst hI1 hI2;have hqt:(q.take (q.length - 1)).length=q.length - 1:=by rw [List.length_take];omega
   have HNC:Hid (∀ w',Below wb.heap.size wb w'->Calls Tryz.prog 89 #[.agg #[.int .i64 t.kind,.string t.text,.slice t.lA t.leads.length t.lc,.slice t.kA t.kids.length t.kc],.slice (some ⟨db,do_,none⟩) (q.length - 1) d] w' (yX w' t.plain.size)):=fun w' hb=>by
    have h1:=((HEw.out.more HB.out.size).up hb).num HS.out.ht HS1.out (D:=some ⟨db,do_,none⟩) (d:=d) (by rw [hqt];exact oG ((HS.out.hq.below (aB HB.out hb)).more (aB HB.out hb).size) (by omega)) (by rw [hqt];omega);rwa [hqt] at h1
   clear hqt;go_upto_region 10 with fail;go_cut [21] (fun x21 wq=>∃ gh zr,x21=.pointer (some ⟨gh,0,none⟩)/\aO zr/\Hid (aK wq gh 81 #[.int .i64 za,.bool false,.string ⟨#[]⟩,.int .i64 zr])/\Hid (Below wb.heap.size wb wq)/\Hid (w.heap.size<=gh/\g≠gh))
   case first=>
    have fe0:=aH e0;have fe1:=aH e1;have fe2:=aH e2;have fe3:=aH e3;have fc0:=aH c0;have hglt:=HG.out.lt;refine eA 14 (.two [0,1,2,3,4,5,6,7,8,12] 9 (.one [10,11,13] 14 (.last [])) 14 (.one [] 9 (.last [10,11,13]))) (by kernel_rfl) (by kernel_rfl) ?_;refine bF ?_;simp only [sN]
    repeat (go_big_quiet_step (fail))
    refine wpQuiet_nil ?_;refine ⟨?_,?_⟩
    ·refine aC rfl 89 _ _ rfl Tryz.func89 rfl (by kernel_rfl) #[.agg #[.int .i64 t.kind,.string t.text,.slice t.lA t.leads.length t.lc,.slice t.kA t.kids.length t.kc],.slice (some ⟨db,do_,none⟩) (q.length - 1) d] (by simp [Act.eval]) (HNC.out _ (cC (Below.refl _ _))) ?_;rintro e wd ⟨k,rfl,hk,hbd⟩;have HBd:=hD (aB (cC (Below.refl wb.heap.size wb)) hbd);have hkl:k < xk.l.length:=by omega
     obtain ⟨b9,o9,zr,hA9,hb9,g9,hz9⟩:=HEw.out.id hxm2 hkl;have k1:(k:Int) < (xk.l.length:Int):=by omega
     have k0:(0:Int)<=(k:Int):=by omega
     have fg9:=aH g9;refine ⟨_,rfl,⟨⟨_,HBd.out⟩,rfl⟩,?_⟩;simp only [sP];rw [hA9];refine aD ?_;simp only [sN]
     repeat (go_big_quiet_step (fail))
     refine wpQuiet_nil ?_;obtain ⟨w4,hw4⟩:=nm (wd.alloc (.cells #[.int .i64 0,.bool false,.string ⟨#[]⟩,.int .i64 0] 81));have HB4:Hid (Below wb.heap.size wb w4):=by subst hw4;exact bK HBd.out _
     have HX4:=bk hw4;have HZ3:=hD HBd.out.size;refine aE rfl (by simp [go_sem];exact ⟨rfl,hw4⟩) ⟨⟨_,HB4.out⟩,rfl⟩ ?_;simp only [sP];refine aM ?_;simp only [sN]
     repeat (go_big_quiet_step (fail))
     refine wpQuiet_nil ?_;obtain ⟨y0,y1,y2,y3⟩:=HX4.out.c4;obtain ⟨r0,r1,r2,r3⟩:=HX4.out.f4;obtain ⟨W9',hW9'⟩:∃ x,((((w4.setCell ⟨wd.heap.size,0,none⟩ (.int .i64 za)).setCell ⟨wd.heap.size,1,none⟩ (.bool false)).setCell ⟨wd.heap.size,2,none⟩ (.string ⟨#[]⟩)).setCell ⟨wd.heap.size,3,none⟩ (.int .i64 zr))=x:=⟨_,rfl⟩;have HG9:Hid (aK W9' (wd.heap.size) 81 #[.int .i64 za,.bool false,.string ⟨#[]⟩,.int .i64 zr]):=by subst hW9';exact aP HX4.out _ _ _ _
     have HB9:Hid (Below wb.heap.size wb W9'):=by subst hW9';exact aL HB4.out HZ3.out _ _ _ _
     have HW9':=hD hW9';clear hW9';go_wp2_with (rw [HW9'.out]);refine NoPanic.normal ?_;go_wp2_with fail;go_meet;exact ⟨_,zr,rfl,hz9,HG9,HB9,hD ⟨by have:=HB.out.size;have:=HZ3.out;omega,by have:=HZ3.out;omega⟩⟩
    ·obtain ⟨w3,hw3⟩:=nm (wb.drew.alloc (.cells #[.int .i64 0,.bool false,.string ⟨#[]⟩,.int .i64 0] 81));have HB3:Hid (Below wb.heap.size wb w3):=by subst hw3;exact bK (cC (Below.refl _ _)) _
     have HX3:Hid (aK w3 wb.heap.size 81 #[.int .i64 0,.bool false,.string ⟨#[]⟩,.int .i64 0]):=by subst hw3;exact aK.new _ _ _
     refine aE rfl (by simp [go_sem];exact ⟨rfl,hw3⟩) ⟨⟨_,HB3.out⟩,rfl⟩ ?_;simp only [sP];refine aD ?_;simp only [sN]
     repeat (go_big_quiet_step (fail))
     refine wpQuiet_nil ?_;refine aC rfl 89 _ _ rfl Tryz.func89 rfl (by kernel_rfl) #[.agg #[.int .i64 t.kind,.string t.text,.slice t.lA t.leads.length t.lc,.slice t.kA t.kids.length t.kc],.slice (some ⟨db,do_,none⟩) (q.length - 1) d] (by simp [Act.eval]) (HNC.out _ HB3.out) ?_;rintro e w4 ⟨k,rfl,hk,hb4⟩;have HB4:=hD (aB HB3.out hb4);have HX4:=hD (HX3.out.below hb4 HX3.out.lt);have HZ3:Hid (wb.heap.size<=wb.heap.size):=Nat.le_refl _;have hkl:k < xk.l.length:=by omega
     obtain ⟨b9,o9,zr,hA9,hb9,g9,hz9⟩:=HEw.out.id hxm2 hkl;have k1:(k:Int) < (xk.l.length:Int):=by omega
     have k0:(0:Int)<=(k:Int):=by omega
     have fg9:=aH g9;refine ⟨_,rfl,⟨⟨_,HB4.out⟩,rfl⟩,?_⟩;simp only [sP];rw [hA9];refine aM ?_;simp only [sN]
     repeat (go_big_quiet_step (fail))
     refine wpQuiet_nil ?_;obtain ⟨y0,y1,y2,y3⟩:=HX4.out.c4;obtain ⟨r0,r1,r2,r3⟩:=HX4.out.f4;obtain ⟨W9',hW9'⟩:∃ x,((((w4.setCell ⟨wb.heap.size,0,none⟩ (.int .i64 za)).setCell ⟨wb.heap.size,1,none⟩ (.bool false)).setCell ⟨wb.heap.size,2,none⟩ (.string ⟨#[]⟩)).setCell ⟨wb.heap.size,3,none⟩ (.int .i64 zr))=x:=⟨_,rfl⟩;have HG9:Hid (aK W9' (wb.heap.size) 81 #[.int .i64 za,.bool false,.string ⟨#[]⟩,.int .i64 zr]):=by subst hW9';exact aP HX4.out _ _ _ _
     have HB9:Hid (Below wb.heap.size wb W9'):=by subst hW9';exact aL HB4.out HZ3.out _ _ _ _
     have HW9':=hD hW9';clear hW9';go_wp2_with (rw [HW9'.out]);refine NoPanic.normal ?_;go_wp2_with fail;go_meet;exact ⟨_,zr,rfl,hz9,HG9,HB9,hD ⟨by have:=HB.out.size;have:=HZ3.out;omega,by have:=HZ3.out;omega⟩⟩
   case rest=>
    obtain ⟨gh,zr,rfl,hzr,HH,HBq,HGH⟩:=hcut;have HG:=hD (HG.out.below HBq.out HG.out.lt);have HO:=hD (HO.out.up HBq.out);have HB:=hD (aB HB.out HBq.out);have HZR:=hD hzr;have HZA:=hD hza;clear HBq e0 e1 e2 e3 c0 HEw HNC hzr hza hsl;obtain ⟨y0,y1,y2,y3⟩:=HH.out.c4;obtain ⟨r0,r1,r2,r3⟩:=HH.out.f4;go_upto_if 100 with fail;go_cut [19] (fun x19 wq=>∃ tx:ByteArray,tx.size<=110/\Hid (aK wq gh 81 #[.int .i64 za,.bool false,.string tx,.int .i64 zr])/\Hid (aK wq g 99 #[.int .i64 s.kind,.string s.text,.slice s.lA s.leads.length s.lc,.slice s.kA s.kids.length s.kc])/\Hid (aJ wq w.heap.size 83 (aQ 110) (.slice (some ⟨w7.heap.size,0,none⟩) 1 1) 1)/\Hid (Below w.heap.size w wq))
    case first=>
     by_cases hz0:za=0
     ·have d2:(za == 0)=true:=by simpa using hz0
      obtain ⟨Wk,hWk⟩:=nm (wc.setCell ⟨gh,2,none⟩ (.string key));have HHk:Hid (aK Wk gh 81 #[.int .i64 za,.bool false,.string key,.int .i64 zr]):=by rw [<- hWk];exact HH.out.set_ 2 _
      have HGk:Hid (aK Wk g 99 #[.int .i64 s.kind,.string s.text,.slice s.lA s.leads.length s.lc,.slice s.kA s.kids.length s.kc]):=by rw [<- hWk];exact HG.out.far (p:=⟨gh,2,none⟩) HGH.out.2 _
      have HOk:Hid (aJ Wk w.heap.size 83 (aQ 110) (.slice (some ⟨w7.heap.size,0,none⟩) 1 1) 1):=by rw [<- hWk];exact HO.out.cells_chg ((aT.refl wc (fun i=>i=gh)).setCell (p:=⟨gh,2,none⟩) (.inl rfl) _) (fun g' e1 e2=>HO.out.ne_blk HH.out (by decide) (e2 ▸ e1))
      have HBk:Hid (Below w.heap.size w Wk):=by rw [<- hWk];exact cR HB.out HGH.out.1 2 _
      have HWk:=hD hWk;clear hWk hz0;go_wp2_with (rw [HWk.out]);go_meet;exact ⟨key,by omega,HHk,HGk,HOk,HBk⟩
     ·have d2:(za == 0)=false:=by simpa using hz0
      go_wp2_with fail;go_meet;exact ⟨⟨#[]⟩,Nat.zero_le _,HH,HG,HO,HB⟩
    case rest=>
     obtain ⟨tx,htx,HH,HG,HO,HB⟩:=hcut;clear y0 y1 y2 y3 r0 r1 r2 r3;obtain ⟨y0,y1,y2,y3⟩:=HH.out.c4;have HT2:Hid (Ts wc wc.heap.size (aQ 110) [.int .i64 z9,.int .i64 2,.int .i64 za,.bool false,.string tx,.int .i64 zr]):=bJ HZ.out (by unfold aO;omega) HZA.out htx HZR.out;have HZ9:=hD HB.out.size;go_wp2_with (at_builtin;refine p1 (kC 110) rfl rfl w.heap.size (.slice (some ⟨w7.heap.size,0,none⟩) 1 1) (1) rfl HO.out 83 _ 1 1 rfl rfl rfl HT2.out (by omega) HZ9.out ?_);intro A7 c7 v7 hown7 hg7 hb7;have HO7:=hD hown7;have HB7':=hD (HB.out.trans hb7);have HG7:=hD (HO.out.blk HG.out (by decide) hg7);clear hown7 hg7 hb7;go_wp2_with fail;go_meet;exact ⟨A7,_,c7,rfl,rfl,Nat.le_refl _,HO7,HB7',HG7⟩
 case rest=>
  obtain ⟨A,n,c,rfl,rfl,hn,HO,HB,HG⟩:=hcut;have htx:=HBs.out.text;have hlb:=HTs.out.lb;go_upto_if 110 with fail;go_cut [14,15] (fun x14 l wq=>∃ (A:Option Addr) (n c:Nat),l=.slice A n c/\n<=3/\Hid (aJ wq w.heap.size 83 (aQ 110) (.slice A n c) n)/\Hid (Below w.heap.size w wq)/\Hid (aK wq g 99 #[.int .i64 s.kind,.string s.text,.slice s.lA s.leads.length s.lc,.slice s.kA s.kids.length s.kc]))
  case first=>
   by_cases hkr:kr=5
   ·have d5:(kr == 5)=true:=by simpa using hkr
    have hq0:0 < q.length:=by
     refine Nat.pos_of_ne_zero (fun e=>?_);have hqe:=List.eq_nil_of_length_eq_zero e;have hf:=HS.out.hf;rw [hqe,TX.find] at hf;injection hf with hf;subst hf;have:=hk2 (HS.out.be.bd t htm).2.2;omega
    have HSH:=hD (uB (pc:=pc) (ic:=ic) m t s D d q wc ((HS.out.up HB.out).sa hq0));clear hkr;go_wp2_with fail;(with_reducible refine (HSH.out).mono ?_);rintro r0 wd ⟨n',f',x',r',rfl,i1,i2,i3,hbd⟩;have HG:=hD (HG.out.below hbd HG.out.lt);have HO:=hD (HO.out.up hbd);have HB:=hD (aB HB.out hbd);have HT2:Hid (Ts wd wd.heap.size (aQ 110) [.int .i64 z9,.int .i64 4,.int .i64 n',.bool f',.string x',.int .i64 r']):=bJ HZ.out (by unfold aO;omega) i1 i2 i3;have HZ9:=hD HB.out.size;clear hbd;go_wp2_with (at_builtin;refine p1 (kC 110) rfl rfl w.heap.size (.slice A n c) (n) rfl HO.out 83 _ 1 1 rfl rfl rfl HT2.out (by omega) HZ9.out ?_);intro A7 c7 v7 hown7 hg7 hb7;have HO7:=hD hown7;have HB7':=hD (HB.out.trans hb7);have HG7:=hD (HO.out.blk HG.out (by decide) hg7);clear hown7 hg7 hb7;go_wp2_with fail;go_meet;exact ⟨A7,_,c7,rfl,by omega,HO7,HB7',HG7⟩
   ·have d5:(kr == 5)=false:=by simpa using hkr
    obtain ⟨g0,g1,g2,g3⟩:=HG.out.c4;have HT2:Hid (Ts wc wc.heap.size (aQ 110) [.int .i64 z9,.int .i64 3,.int .i64 0,.bool false,.string s.text,.int .i64 0]):=bJ HZ.out (by unfold aO;omega) (by unfold aO;omega) htx (by unfold aO;omega);have HZ9:=hD HB.out.size;go_wp2_with (at_builtin;refine p1 (kC 110) rfl rfl w.heap.size (.slice A n c) (n) rfl HO.out 83 _ 1 1 rfl rfl rfl HT2.out (by omega) HZ9.out ?_);intro A7 c7 v7 hown7 hg7 hb7;have HO7:=hD hown7;have HB7':=hD (HB.out.trans hb7);have HG7:=hD (HO.out.blk HG.out (by decide) hg7);clear hown7 hg7 hb7;go_wp2_with fail;go_meet;exact ⟨A7,_,c7,rfl,by omega,HO7,HB7',HG7⟩
  case rest=>
   clear HO HB HG hn A n c;obtain ⟨A,n,c,rfl,hn,HO,HB,HG⟩:=hcut;obtain ⟨lA,hlA⟩:=nm s.lA;have HLA:=hD hlA;rw [hlA] at HG;clear hlA;go_wp2_with fail;go_loopw [15,22] (fun l i wr=>∃ (j:Nat) (A:Option Addr) (n c:Nat),j<=s.leads.length/\i=.int .i64 (j:Int)/\l=.slice A n c/\n<=3+j/\Hid (aJ wr w.heap.size 83 (aQ 110) (.slice A n c) n)/\Hid (Below w.heap.size w wr)/\Hid (aK wr g 99 #[.int .i64 s.kind,.string s.text,.slice lA s.leads.length s.lc,.slice s.kA s.kids.length s.kc])) (fun _ i _=>s.leads.length - (intOf i).toNat)
   case atStart=>exact ⟨0,A,n,c,Nat.zero_le _,rfl,rfl,hn,HO,HB,HG⟩
   case round=>
    clear HO HB HG hn A n c;obtain ⟨j,A,n,c,hj,rfl,rfl,hn,HO,HB,HG⟩:=hrel;obtain ⟨g0,g1,g2,g3⟩:=HG.out.c4;by_cases hlt:j < s.leads.length
    ·obtain ⟨b1,o1,u1,hA,-,hu1,p1q⟩:=((HTs.out.rl).below HB.out).at1 hlt;obtain rfl:lA=some ⟨b1,o1,none⟩:=HLA.out.symm.trans hA;obtain ⟨sl,hsl,rfl⟩:∃ x,s.leads[j]?=some x/\u1=.string x:=by
      rw [List.getElem?_map] at hu1
      cases h1:s.leads[j]? with
      | none=>rw [h1] at hu1;cases hu1
      | some x=>rw [h1] at hu1;injection hu1 with hu1;exact ⟨x,rfl,hu1.symm⟩
     have hslz:=HBs.out.lead sl (List.mem_of_getElem? hsl);have d1:decide ((j:Int) < (s.leads.length:Int))=true:=decide_eq_true (by omega);have j0:(0:Int)<=(j:Int):=by omega
     have j1:(j:Int) < (s.leads.length:Int):=by omega
     have HT2:Hid (Ts wr wr.heap.size (aQ 110) [.int .i64 z9,.int .i64 (8+(j:Int)),.int .i64 0,.bool false,.string sl,.int .i64 0]):=bJ HZ.out (by unfold aO;omega) (by unfold aO;omega) hslz (by unfold aO;omega);have HZ9:=hD HB.out.size;clear hA hu1 hsl;go_wp2_with (at_builtin;refine p1 (kC 110) rfl rfl w.heap.size (.slice A n c) (n) rfl HO.out 83 _ 1 1 rfl rfl rfl HT2.out (by omega) HZ9.out ?_);intro A7 c7 v7 hown7 hg7 hb7;have HO7:=hD hown7;have HB7':=hD (HB.out.trans hb7);have HG7:=hD (HO.out.blk HG.out (by decide) hg7);clear hown7 hg7 hb7;go_wp2_with fail;go_roundw
     case rel=>exact ⟨j+1,A7,n+1,c7,by omega,by go_num,rfl,by omega,HO7,HB7',HG7⟩
     case measure=>simp [intOf];omega
    ·have d1:decide ((j:Int) < (s.leads.length:Int))=false:=decide_eq_false (by omega);go_wp2_with fail;go_ret;exact ⟨A,n,c,rfl,HO.out.v_ (by omega),HB.out⟩
theorem tM (w:World) (h:RT w w.heap.size A ps) (hbd:∀ t∈ps,fG 110 t/\t.plain.size<=331) (hn:ps.length<=2):Calls Tryz.prog 50 #[.slice A ps.length c] w (dI w (∀ t∈ps,t.kind=1/\nP t/\vV t)):=by
 have HR:=hD h;have HBD:=hD hbd;clear h hbd;go_enter Tryz.func50,Tryz.ntmps50;go_wp2_with fail;go_loopw [3] (fun i wr=>∃ j:Nat,j<=ps.length/\i=.int .i64 (j:Int)/\Hid (Below w.heap.size w wr)/\Hid (∀ m t,m < j->ps[m]?=some t->t.kind=1/\nP t/\vV t)) (fun i _=>ps.length - (intOf i).toNat)
 case atStart=>exact ⟨0,Nat.zero_le _,rfl,Below.refl _ _,fun m t h=>absurd h (Nat.not_lt_zero _)⟩
 case round=>
  obtain ⟨j,hj,rfl,HB,HS⟩:=hrel;by_cases hlt:j < ps.length
  ·obtain ⟨t,ht⟩:∃ t,ps[j]?=some t:=⟨_,List.getElem?_eq_getElem hlt⟩;obtain ⟨ab,ao,rfl,hab,e0,e1,e2,e3⟩:=(HR.out.low HB.out).at_ ht;have htm:=List.mem_of_getElem? ht;have d1:decide ((j:Int) < (ps.length:Int))=true:=decide_eq_true (by omega);have j0:(0:Int)<=(j:Int):=by omega
   have j1:(j:Int) < (ps.length:Int):=by omega
   have HVA:=hD (tO t wr ((HR.out.kid t htm).up (Nat.le_refl _) HB.out) (HBD.out t htm).1 (by have:=(HBD.out t htm).2;omega));unfold TX.val at HVA;have HTJ:=hD ht;clear ht;by_cases hk:t.kind=1
   ·have d2:(t.kind != 1)=false:=by simpa using hk
    have HK:=hD hk;clear hk;go_wp2_with fail;(with_reducible refine (HVA.out).mono ?_);rintro r0 w1 ⟨b,rfl,hb1,hs⟩;have HB1:=hD (aB HB.out hb1);have HS1:=hD hs;clear hb1 hs
    cases b
    ·go_wp2_with fail;go_ret;exact ⟨false,rfl,HB1.out,fun h=>(nomatch h)⟩
    ·go_wp2_with fail;go_roundw
     case rel=>
      refine ⟨j+1,by omega,by go_num,HB1,fun m x hm hx=>?_⟩;by_cases hmj:m=j
      ·subst hmj;have:=HTJ.out;rw [hx] at this;injection this with this;subst this;exact ⟨HK.out,(by first | exact HS1.out rfl | exact HS1.out trivial)⟩
      ·exact HS.out m x (by omega) hx
     case measure=>simp [intOf];omega
   ·have d2:(t.kind != 1)=true:=by simpa using hk
    go_wp2_with fail;go_ret;exact ⟨false,rfl,HB.out,fun h=>(nomatch h)⟩
  ·have d1:decide ((j:Int) < (ps.length:Int))=false:=decide_eq_false (by omega);go_wp2_with fail;go_ret;refine ⟨_,rfl,HB.out,fun _ t htm=>?_⟩;obtain ⟨m,hm⟩:=List.mem_iff_getElem?.1 htm;have:=(List.getElem?_eq_some_iff.1 hm).1;exact HS.out m t (by omega) hm
def zU (t:TX) (l:List Int):Nat:=match t.find l with
 | some s=>s.leads.length+3
 | none=>0
def eR (t:TX):List (List Int)->Nat
 | []=>0
 | l::ls=>zU t l+eR t ls
theorem fO (t:TX) (a b:List (List Int)):eR t (a++b)=eR t a+eR t b:=by
 induction a with
 | nil=>simp [eR]
 | cons x a ih=>rw [List.cons_append,eR,eR,ih];omega
theorem wV {L:List (List Int)} {k:Nat} {l:List Int} (h:L[k]?=some l):eR t (L.take (k+1))=eR t (L.take k)+zU t l:=by
 rw [List.take_add_one,h,fO];simp [eR]
theorem oN (r:TX) (P:List Int):∀ (ks:List TX) (off:Nat),(∀ k∈ks,∀ Q,(∀ q,r.find (Q++q)=k.find q)->eR r (k.plain.paths Q)+1<=10*k.plain.size)->(∀ i k,ks[i]?=some k->∀ q,r.find ((P++[((off+i:Nat):Int)])++q)=k.find q)->eR r (T.pathss (ks.map TX.plain) P off)+ks.length<=10*T.sizes (ks.map TX.plain)
 | [],off,_,_=>by simp [T.pathss,eR]
 | k::ks,off,h1,h2=>by
  rw [List.map_cons,T.pathss,fO,T.sizes,List.length_cons];have a:=h1 k (by simp) (P++[(off:Int)]) (h2 0 k rfl);have b:=oN r P ks (off+1) (fun k' hk'=>h1 k' (List.mem_cons_of_mem _ hk')) (fun i k' hk' q=>by
   have:=h2 (i+1) k' (by simpa using hk') q;rwa [show off+(i+1)=off+1+i by omega] at this)
  omega
theorem oM (r:TX) (t:TX):vV t->∀ P,(∀ q,r.find (P++q)=t.find q)->eR r (t.plain.paths P)+1<=10*t.plain.size:=by
 induction t using TX.ind with
 | h t ih=>
 intro hl P hP;have hl1:t.leads.length<=t.kids.length+6:=by cases hl;assumption
 have hl2:∀ k∈t.kids,vV k:=by cases hl;assumption
 rw [gK,eR];have h0:zU r P=t.leads.length+3:=by
  have:=hP [];rw [List.append_nil,TX.find] at this;unfold zU;rw [this]
 have h1:=oN r P t.kids 0 (fun k hk Q hQ=>ih k hk (hl2 k hk) Q hQ) (fun i k hk q=>by
  rw [List.append_assoc,hP];have:=mK (q:=q) hk;rw [Nat.zero_add];exact this)
 have h2:t.plain.size=1+T.sizes (t.kids.map TX.plain):=by rw [TX.plain_eq,T.size]
 omega
def Cc (w:World) (e:Ending) (w':World):Prop:=∃ (A:Option Addr) (n c:Nat) (la er:Int),e=.returned (.tuple #[.agg #[.slice A n c],.int .i64 la,.int .i64 er])/\V w' w'.heap.size (.sl 6620 83 (aQ 110)) (.slice A n c)/\Below w.heap.size w w'
structure Cf (w0 wr:World) (ps:List TX) (v:Value) (is:List PW):Prop where
 bs:BS wr w0.heap.size v is
 bel:Below w0.heap.size w0 wr
 ok:∀ x∈is,∀ z∈x.l,aO z
 sz:∀ (i:Nat) (t:TX) (x:PW),ps[i]?=some t->is[i]?=some x->t.plain.size<=x.l.length/\x.l.length<=1000000
section
variable {w0 wr w':World} {ps:List TX} {v v':Value} {is:List PW} {x:PW}
theorem Cf.nil:Cf w0 w0 ps (.slice none 0 0) []:=⟨⟨fY _ _ _,Nat.le_refl _,fun x hx=>(nomatch hx),fun x hx=>(nomatch hx)⟩,Below.refl _ _,fun x hx=>(nomatch hx),fun i t x _ h=>by simp at h⟩
theorem Cf.up (h:Cf w0 wr ps v is) (hb:Below wr.heap.size wr w'):Cf w0 w' ps v is:=⟨h.bs.up hb,aB h.bel hb,h.ok,h.sz⟩
theorem Cf.push {o:Obj} (h:Cf w0 wr ps v is) (hx:aG wr wr.heap.size 1 x.A x.l.length (x.l.map (Value.int .i64))) (hlo:∀ ad,x.A=some ad->0 < x.l.length->B<=ad.block) (hv:∀ g,v.ownBlock=some g->g < B) (hB:w0.heap.size<=B) (hcx:x.l.length<=x.c) (hok:∀ z∈x.l,aO z)
  (ht:ps[is.length]?=some t) (hs:t.plain.size<=x.l.length/\x.l.length<=1000000) (hg:aR (wr.alloc o) w' v v') (ho:w'.ownsRow w0.heap.size 36 1 v' (is.length+1) (is.map PW.head++[x.head])):Cf w0 w' ps v' (is++[x]):=by
 have hb:Below wr.heap.size wr (wr.alloc o):=bK (Below.refl _ _) o;refine ⟨(h.bs.up hb).push ⟨(hx.below hb).more hb.size,fun ad e hp=>⟨fun e2=>?_,by have:=hlo ad e hp;omega⟩⟩ hcx hg ho,(aB h.bel hb).trans (hg.below (Nat.le_trans h.bel.size hb.size) (fun g e=>aU h.bs.row g e)),fun y hy=>?_,fun i t' y h1 h2=>?_⟩
 ·have h1:=hlo ad e hp;have h2:=hv _ e2;omega
 ·rcases List.mem_append.1 hy with hy | hy
  ·exact h.ok y hy
  ·simp at hy;subst hy;exact hok
 ·by_cases hi:i < is.length
  ·rw [List.getElem?_append_left hi] at h2;exact h.sz i t' y h1 h2
  ·rw [List.getElem?_append_right (by omega)] at h2;have h3:i - is.length=0:=by
    cases h4:i - is.length with
    | zero=>rfl
    | succ n=>rw [h4] at h2;simp at h2
   rw [h3] at h2;simp at h2;subst h2;have h5:i=is.length:=by omega
   subst h5;rw [ht] at h1;injection h1 with h1;subst h1;exact hs
end
theorem De {e:TypeId} {fs:List Ty} (h:aJ w base e fs (.slice A n c) n):∀ ad,A=some ad->base<=ad.block:=fun ad ea=>by
 obtain ⟨xs,ho,-⟩:=h;obtain ⟨A',c',hv,-,hb⟩:=aS ho;injection hv with hv;exact (hb ad (hv ▸ ea)).1
theorem zL {lo:Nat} {xs:List Value} (h:aG w B 1 A n xs) (hB:B<=w.heap.size) (hlo:∀ ad,A=some ad->0 < n->lo<=ad.block) (hc:aT w w' (fun b=>b < lo)):aG w' B 1 A n xs:=
 h.keepS (S:=fun b=>lo<=b) hlo (fun p hp hp2=>World.cell?_of_block (hc.block p.block (by omega) (by omega)))
theorem BN (z:Int) (w:World) (h:RT w w.heap.size pA ps) (hbd:∀ t∈ps,fG 110 t/\t.plain.size<=331) (hn:ps.length<=2):Calls Tryz.prog 29 #[.slice pA ps.length pc,.int .i64 z] w (Cc w):=by
 have HVA:Hid (∀ w',Below w.heap.size w w'->Calls Tryz.prog 50 #[.slice pA ps.length pc] w' (dI w' (∀ t∈ps,t.kind=1/\nP t/\vV t))):=fun w' hb=>tM w' ⟨(h.row.below hb).more hb.size,fun t ht=>(h.kid t ht).up (Nat.le_refl _) hb⟩ hbd hn;have HST:Hid (∀ w',Calls Tryz.prog 51 #[.int .i64 z] w' (rP z w')):=fun w'=>qP z w';have HNX:Hid (∀ k w',Calls Tryz.prog 31 #[.int .i64 z,.int .i64 k] w' (fun e w2=>∃ r er,e=.returned (.tuple #[.int .i64 r,.int .i64 er])/\w'=w2/\aO r)):=fun k w'=>oO z k w';have HR:=hD h;have HBD:=hD hbd;obtain ⟨W,hW⟩:=nm (w.alloc (.cells #[.slice none 0 0] 61));have HB:=bw hW;have HX:=bk hW;have HW:=hD hW;clear h hbd hW;go_enter Tryz.func29,Tryz.ntmps29;go_wp2_with (rw [HW.out]);clear HW;(with_reducible refine (HVA.out _ HB.out).mono ?_);rintro r0 w1 ⟨b,rfl,hb1,hs⟩;have HX:=hD (HX.out.below hb1 HX.out.lt);have HB:=hD (aB HB.out hb1);have HSV:=hD hs;clear hb1 hs
 cases b
 ·have x0:=HX.out.cell 0;simp at x0;have q0:=HX.out.frozen 0;have HX5:=hD (HX.out.set_ 0 (.slice none 0 0));have HB5:=hD (cR HB.out (Nat.le_refl _) 0 (.slice none 0 0));go_wp2_with fail;clear x0 q0;have x0:=HX5.out.cell 0;simp at x0;refine bodyPost_ret (v:=.tuple #[.agg #[.slice none 0 0],.int .i64 0,.int .i64 5]) (by simp [results,Tryz.results29,go_sem,x0]) rfl ?_;exact ⟨none,0,0,0,5,rfl,V.nil _ _ _ _ _,HB5.out⟩
 have HSW:Hid (∀ t∈ps,t.kind=1/\nP t/\vV t):=(by first | exact HSV.out rfl | exact HSV.out trivial);go_wp2_with fail;(with_reducible refine (HST.out _).mono ?_);rintro r0 w1' ⟨b,rfl,rfl,hb⟩;clear hb
 cases b
 ·have x0:=HX.out.cell 0;simp at x0;have q0:=HX.out.frozen 0;have HX5:=hD (HX.out.set_ 0 (.slice none 0 0));have HB5:=hD (cR HB.out (Nat.le_refl _) 0 (.slice none 0 0));go_wp2_with fail;clear x0 q0;have x0:=HX5.out.cell 0;simp at x0;refine bodyPost_ret (v:=.tuple #[.agg #[.slice none 0 0],.int .i64 0,.int .i64 5]) (by simp [results,Tryz.results29,go_sem,x0]) rfl ?_;exact ⟨none,0,0,0,5,rfl,V.nil _ _ _ _ _,HB5.out⟩
 go_wp2_with fail;go_loopw [7,8,9,10,11,12,13] (fun i7 x8 i9 x10 x11 x12 x13 wr=>∃ (j N:Nat) (D:Option Addr) (d:Nat) (is:List PW),j<=ps.length/\i9=.int .i64 (j:Int)/\x8=.int .i64 (N:Int)/\N<=331*j/\i7=.slice D is.length d/\is.length<=j/\j<=is.length/\Hid (Cf w1 wr ps (.slice D is.length d) is)) (fun _ _ i _ _ _ _ _=>ps.length - (intOf i).toNat)
 case atStart=>exact ⟨0,0,none,0,[],Nat.zero_le _,rfl,rfl,Nat.zero_le _,rfl,Nat.le_refl _,Nat.le_refl _,Cf.nil⟩
 case round=>
  obtain ⟨j,N,D,d,is,hj,rfl,rfl,hN,rfl,hij,hji,HI⟩:=hrel;have HX1:=HX;have HB1:=HB;have HX:=hD (HX.out.below HI.out.bel HX.out.lt);have HB:=hD (aB HB.out HI.out.bel);by_cases hlt:j < ps.length
  ·obtain ⟨t,ht⟩:∃ t,ps[j]?=some t:=⟨_,List.getElem?_eq_getElem hlt⟩;have htm:=List.mem_of_getElem? ht;obtain ⟨ab,ao,rfl,hab,e0,e1,e2,e3⟩:=(HR.out.low HB.out).at_ ht;have d1:decide ((j:Int) < (ps.length:Int))=true:=decide_eq_true (by omega);have j0:(0:Int)<=(j:Int):=by omega
   have j1:(j:Int) < (ps.length:Int):=by omega
   have hz1:=(HBD.out t htm).2;have HSI:=hD (qU t wr ((HR.out.kid t htm).up (Nat.le_refl _) HB.out));unfold pM TX.val at HSI;have HTJ:=hD ht;clear ht;go_wp2_with fail;(with_reducible refine (HSI.out).mono ?_);rintro r0 w2 ⟨rfl,hb2⟩;rw [IntWalk.wrap64_in (t.plain.size:Int) (by omega)];have HI2:=hD (HI.out.up hb2);have HX2:=hD (HX.out.below hb2 HX.out.lt);have HB2:=hD (aB HB.out hb2);clear hb2 e0 e1 e2 e3;go_wp2_with fail;go_loopw [8,10,11,12,13] (fun x8 l k x12 x13 wq=>∃ (kk n c:Nat) (A:Option Addr),k=.int .i64 (kk:Int)/\kk+n<=t.plain.size/\t.plain.size<=kk+n/\x8=.int .i64 ((N:Int)+(n:Int))/\l=.slice A n c/\Hid (aJ wq w2.heap.size 3 [.int] (.slice A n c) n)/\Hid (Below w2.heap.size w2 wq)) (fun _ _ k _ _ _=>(intOf k).toNat)
   case atStart=>exact ⟨t.plain.size,0,0,none,rfl,Nat.le_refl _,Nat.le_refl _,by simp,rfl,aJ.nil _ _ _ _,Below.refl _ _⟩
   case round=>
    obtain ⟨kk,n,c,A,rfl,hk1,hk2,rfl,rfl,HO,HBq⟩:=hrel;have HX:=hD (HX2.out.below HBq.out HX2.out.lt);have HB:=hD (aB HB2.out HBq.out);by_cases hk0:0 < kk
    ·obtain ⟨k',rfl⟩:∃ k',kk=k'+1:=⟨kk - 1,by omega⟩;have d2:decide ((0:Int) < (k':Int)+1)=true:=decide_eq_true (by omega);go_wp2_with fail;(with_reducible refine (HNX.out _ _).mono ?_);rintro r0 w3 ⟨r,er,rfl,rfl,hri⟩;by_cases her:er=0
     case neg=>
      have d3:(er != 0)=true:=by simpa using her
      have x0:=HX.out.cell 0;simp at x0;have q0:=HX.out.frozen 0;have HX5:=hD (HX.out.set_ 0 (.slice none 0 0));have HB5:=hD (cR HB.out (Nat.le_refl _) 0 (.slice none 0 0));go_wp2_with fail;clear x0 q0;have x0:=HX5.out.cell 0;simp at x0;refine bodyPost_ret (v:=.tuple #[.agg #[.slice none 0 0],.int .i64 0,.int .i64 er]) (by simp [results,Tryz.results29,go_sem,x0]) rfl ?_;exact ⟨none,0,0,0,er,rfl,V.nil _ _ _ _ _,HB5.out⟩
     have d3:(er != 0)=false:=by simpa using her
     have HT3:Hid (Ts wr wr.heap.size [.int] [.int .i64 r]):=eE hri;have HZ3:=hD HBq.out.size;go_wp2_with (at_builtin;refine p1 kI rfl rfl w2.heap.size (.slice A n c) n rfl HO.out 3 _ 1 1 rfl rfl rfl HT3.out (by omega) HZ3.out ?_);intro A7 c7 w7 hown7 hg7 hb7;have HO7:=hD hown7;have HB7:=hD (HBq.out.trans hb7);clear hown7 hg7 hb7;go_wp2_with fail;go_roundw
     case rel=>exact ⟨k',n+1,c7,A7,by go_num,by omega,by omega,by go_num,rfl,HO7,HB7⟩
     case measure=>simp [intOf]
    ·have d2:decide ((0:Int) < (kk:Int))=false:=decide_eq_false (by omega);obtain ⟨L,hL,hIL⟩:=(HO.out.v_ (N:=n) (Nat.le_refl _)).il;subst hL;have HIL:=hD hIL;have HI3:=hD (HI2.out.up HBq.out);have HOL:=hD (cK HI2.out.bs.row);have HLO:=hD (De HO.out);have hL1:L.length<=331:=by omega
     have hL2:t.plain.size<=L.length:=by omega
     have HTI:Hid (ps[is.length]?=some t):=by have:=HTJ.out;rwa [show j=is.length by omega] at this
     obtain ⟨w6,hw6⟩:=nm (wr.alloc (.cells #[.slice A L.length c] 36));have HSR:Hid (Src Tryz.prog 1 95 (.slice (some ⟨wr.heap.size,0,none⟩) 1 1) 1 [.slice A L.length c] w6):=by rw [<- hw6];exact bR wr Tryz.underlying95 [.slice A L.length c] 1 1 1 36 rfl (by intro u hu;simp at hu;subst hu;rfl)
     have HO6:Hid (w6.ownsRow w1.heap.size 36 1 (.slice D is.length d) is.length (is.map PW.head)):=by rw [<- hw6];exact HI3.out.bs.row.alloc _
     have HZ6:Hid (w1.heap.size<=w6.heap.size):=by rw [<- hw6];exact Nat.le_trans HI3.out.bs.lb (by simp)
     have HW6:=hD hw6;clear hw6 hIL;obtain ⟨i0,hi0,hz0,hz1',hz2⟩:=dF jJ;have hml:is.length+1<=maxLen:=by unfold maxLen;omega
     have hmb:(is.length+1)*24<=140737488355328:=by omega
     go_wp2_with (first | rw [HW6.out] | (at_builtin;refine aF w6 rfl _ _ _ _ rfl w1.heap.size 36 i0 _ 1 24 Tryz.underlying95 hi0 hz0 hz1' hz2 rfl (by decide) (.slice D is.length d) is.length (is.map PW.head) (by simp [Act.eval]) HO6.out (.slice (some ⟨wr.heap.size,0,none⟩) 1 1) 1 [.slice A L.length c] (by simp [Act.eval]) HSR.out hml hmb HZ6.out ?_));intro v9 w7 hown7 hg7;obtain ⟨A7,c7,rfl,-,-⟩:=aS hown7;have HI7:=hD (HI3.out.push (x:=⟨A,c,L⟩) (o:=.cells #[.slice A L.length c] 36) (B:=w2.heap.size) HIL.out.rd (fun ad e _=>HLO.out ad e) HOL.out HI2.out.bel.size HIL.out.cap HIL.out.ok HTI.out ⟨hL2,by show L.length<=1000000;omega⟩ (by rw [HW6.out];exact hg7) hown7);obtain ⟨i8,hi8⟩:=nm (is++[(⟨A,c,L⟩:PW)]);have hN8:is.length+1=i8.length:=by rw [<- hi8];simp
     have hN9:i8.length<=j+1:=by omega
     have hN10:j+1<=i8.length:=by omega
     rw [hi8] at HI7;rw [hN8] at HI7 ⊢;clear hi8 hN8 hown7 hg7;go_wp2_with fail;go_roundw
     case rel=>exact ⟨j+1,N+L.length,A7,c7,i8,by omega,by go_num,by go_num,by omega,rfl,hN9,hN10,HI7⟩
     case measure=>simp [intOf];omega
  ·have d1:decide ((j:Int) < (ps.length:Int))=false:=decide_eq_false (by omega);have hjl:ps.length<=is.length:=by omega
   have hjl2:is.length<=ps.length:=by omega
   have HBE:Hid (BE wr wr.heap.size pA ps D is):=⟨⟨(HR.out.row.below HB.out).more HB.out.size,fun t ht=>(HR.out.kid t ht).up (Nat.le_refl _) HB.out⟩,aG.of_own HI.out.bs.row,fun x hx=>⟨(HI.out.bs.each x hx).1,HI.out.ok x hx⟩,by omega,HI.out.sz,hn,fun t ht=>⟨(HBD.out t ht).1,(HBD.out t ht).2,(HSW.out t ht).1⟩⟩;have HIC:Hid (is.length<=d):=nI HI.out.bs.row;obtain ⟨w3,hrn⟩:∃ x,x=wr:=⟨_,rfl⟩;subst hrn;go_wp2_with fail;go_loopw [14,15,16,17,18,19,20,21,22,23] (fun l i x16 x17 x18 x19 x20 x21 x22 x23 wq=>∃ (j n c:Nat) (A:Option Addr),j<=ps.length/\i=.int .i64 (j:Int)/\l=.slice A n c/\n<=3310*j/\Hid (aJ wq w3.heap.size 83 (aQ 110) (.slice A n c) n)/\Hid (Below w3.heap.size w3 wq)) (fun _ i _ _ _ _ _ _ _ _ _=>ps.length - (intOf i).toNat)
   case atStart=>exact ⟨0,0,0,none,Nat.zero_le _,rfl,rfl,Nat.zero_le _,aJ.nil _ _ _ _,Below.refl _ _⟩
   case round=>
    obtain ⟨i,n,c,A,hi,rfl,rfl,hnn,HO,HBq⟩:=hrel;by_cases hlt3:i < ps.length
    ·obtain ⟨t,ht⟩:∃ t,ps[i]?=some t:=⟨_,List.getElem?_eq_getElem hlt3⟩;have htm:=List.mem_of_getElem? ht;have HEr:=hD (HBE.out.low HBq.out);obtain ⟨ab,ao,rfl,hab,e0,e1,e2,e3⟩:=HEr.out.rt.at_ ht;have d2:decide ((i:Int) < (ps.length:Int))=true:=decide_eq_true (by omega);have i0:(0:Int)<=(i:Int):=by omega
     have i1:(i:Int) < (ps.length:Int):=by omega
     have hz1:=(HBD.out t htm).2;have HPA:=hD (wN t wr ((HEr.out.rt.kid t htm).more HBq.out.size) (by omega));unfold TX.val at HPA;have HTJ:=hD ht;clear ht;go_wp2_with fail;(with_reducible refine (HPA.out).mono ?_);rintro r0 w5 ⟨xA,xc,xs,rfl,hpr,hxl,hb5,hxA,hxb,hxc⟩;have HPR:=hD hpr;have HXL:=hD hxl;have HB5:=hD hb5;have HXA:=hD hxA;have HXB:=hD hxb;have HXC:=hD hxc;have HOW:=hD HO.out.lt;have HO5:=hD (HO.out.up hb5);have hxn:xs.length=t.plain.size:=by have:=congrArg List.length hxl;rw [List.length_map,jI] at this;exact this
     have hxn1:xs.length<=331:=by omega
     have hxn2:t.plain.size<=xs.length:=by omega
     clear hpr hxl hb5 hxA hxb hxc e0 e1 e2 e3 hxn;obtain ⟨w4,hrn⟩:∃ x,x=wr:=⟨_,rfl⟩;subst hrn;go_wp2_with fail;go_loopw [14,17,18,19,20,21,22,23] (fun l k x18 x19 x20 x21 x22 x23 wq=>∃ (kk n' c:Nat) (A:Option Addr),kk<=xs.length/\k=.int .i64 (kk:Int)/\l=.slice A n' c/\n'<=n+eR t ((t.plain.paths []).take kk)/\Hid (aJ wq w3.heap.size 83 (aQ 110) (.slice A n' c) n')/\Hid (aT w5 wq (fun b=>b < w4.heap.size))/\Hid (Below w3.heap.size w3 wq)/\Hid (∀ g,(Value.slice A n' c).ownBlock=some g->g < w4.heap.size\/w5.heap.size<=g)) (fun _ k _ _ _ _ _ _ _=>xs.length - (intOf k).toNat)
     case atStart=>exact ⟨0,n,c,A,Nat.zero_le _,rfl,rfl,Nat.le_add_right _ _,HO5,aT.refl _ _,aB HBq.out HB5.out,fun g e=>.inl (HOW.out g e)⟩
     case round=>
      clear HO HO5 HOW;obtain ⟨kk,n',c',A',hkk,rfl,rfl,hnn',HO,HC,HB3,HOG⟩:=hrel;by_cases hlt4:kk < xs.length
      ·obtain ⟨x,hx⟩:∃ x,xs[kk]?=some x:=⟨_,List.getElem?_eq_getElem hlt4⟩;have hxm:=List.mem_of_getElem? hx;have hLk:(t.plain.paths [])[kk]?=some x.l:=by rw [<- HXL.out,List.getElem?_map,hx];rfl
       obtain ⟨q0,s,hq0,hfs,-,-⟩:=zP t [] kk x.l hLk;rw [List.nil_append] at hq0;rw [<- hq0] at hfs;have hxll:x.l.length<=331:=by have:=sE t [] x.l (List.mem_of_getElem? hLk);simp at this;omega
       have hxcc:=HXC.out x hxm;have hRX:aG wr wr.heap.size 1 x.A x.l.length (x.l.map (Value.int .i64)):=(zL (HPR.out.2 x hxm) (Nat.le_refl _) (HXB.out x hxm) HC.out).more HC.out.size;have hnt:=wV (t:=t) hLk;have hnr:zU t x.l=s.leads.length+3:=by unfold zU;rw [hfs]
       have hll:s.leads.length<=100000:=by
        have h1:=oM t t (HSW.out t htm).2.2 [] (fun q=>rfl);have h2:=fO t ((t.plain.paths []).take (kk+1)) ((t.plain.paths []).drop (kk+1));rw [List.take_append_drop] at h2;omega
       have HNR:=hD (show eR t ((t.plain.paths []).take (kk+1))=eR t ((t.plain.paths []).take kk)+(s.leads.length+3) by rw [hnt,hnr]);obtain ⟨bx,ox,u1,rfl,hbx,hu1,p1q⟩:=HPR.out.1.at1 hlt4;obtain rfl:u1=.slice x.A x.l.length x.c:=by
        rw [List.getElem?_map,hx] at hu1;injection hu1 with hu1;exact hu1.symm
       have hbx4:w4.heap.size<=bx:=HXA.out _ rfl;have p2:wr.cell? ⟨bx,ox+kk,none⟩=some (.slice x.A x.l.length x.c):=(World.cell?_of_block (HC.out.block bx hbx (by omega))).trans p1q;have d3:decide ((kk:Int) < (xs.length:Int))=true:=decide_eq_true (by omega);have k0:(0:Int)<=(kk:Int):=by omega
       have k1:(kk:Int) < (xs.length:Int):=by omega
       have HFS:=hD hfs;have HRX:=hD hRX;have HEx:=hD (HBE.out.low HB3.out);have hbxw:bx < wr.heap.size:=by have:=HC.out.size;omega
       clear hx hxm hLk hq0 hfs hRX hnt hnr hu1 p1q;go_upto_if 90 with fail;go_cut [18,19,20,21,22,23] (fun x18 x19 x20 x21 x22 x23 wq=>∃ kx:ByteArray,x18=.string kx/\kx.size<=110/\Hid (Below wr.heap.size wr wq))
       case first=>
        by_cases hx0:0 < x.l.length
        case neg=>
         have d5:decide ((0:Int) < (x.l.length:Int))=false:=decide_eq_false (by omega);go_wp2_with fail;go_meet;exact ⟨⟨#[]⟩,rfl,Nat.zero_le _,Below.refl _ _⟩
        have d5:decide ((0:Int) < (x.l.length:Int))=true:=decide_eq_true (by omega);obtain ⟨s1q,hs1⟩:=gW x.l t s HFS.out (x.l.length - 1);have hTs1:=fP _ t s1q (HEx.out.rt.kid t htm) hs1;obtain ⟨db,do_,li,hDq,hdb,p5,hli⟩:=sL HRX.out hx0 HFS.out;have hlk:=mY HFS.out hs1 hli;have hkl1:s1q.kids.length<=330:=by have h1:=gR s1q;have h2:=(sI _ t s1q hs1);have h3:=(HBD.out t htm).2;omega
        have HAT2:Hid (∀ w',Below wr.heap.size wr w'->Calls Tryz.prog 54 #[.agg #[.int .i64 t.kind,.string t.text,.slice t.lA t.leads.length t.lc,.slice t.kA t.kids.length t.kc],.slice x.A (x.l.length - 1) x.c] w' (cJ w' (some s1q))):=fun w' hb=>sX (x.l.length - 1) w' ((HEx.out.rt.kid t htm).more (Nat.le_refl _) |>.low (hb.mono HB3.out.size) |>.more (Nat.le_trans HB3.out.size hb.size)) ((HRX.out.below hb).more hb.size) (by omega) (by omega) hs1;have HT1:=hD hTs1;have q00:(0:Int)<=(x.l.length:Int) - 1:=by omega
        have q01:(x.l.length:Int) - 1<=(x.c:Int):=by omega
        have q02:(x.l.length:Int) - 1 < (x.l.length:Int):=by omega
        have q03:((x.l.length:Int) - 1).toNat=x.l.length - 1:=by omega
        have hdbw:db < wr.heap.size:=hdb;rw [hDq] at HAT2;clear hs1 hTs1 hli;go_upto_region 28 with fail;go_cut [19] (fun x19 wq=>x19=.int .i64 (li:Int)/\Hid (Below wr.heap.size wr wq))
        case first=>
         rw [hDq] at p2;go_wp2_with fail;go_quiet (fail);have HBn:=hD (lE (Below.refl wr.heap.size wr) nq);go_wp2_with fail;go_meet;exact ⟨rfl,HBn⟩
        case rest=>
         obtain ⟨rfl,HBc⟩:=hcut;have p3:=(HBc.out.cell (p:=⟨bx,ox+kk,none⟩) hbxw).trans p2;obtain ⟨e0,e1,e2,e3⟩:=(HEx.out.low (HBc.out.mono HB3.out.size)).rt.c4 HTJ.out rfl;have fe0:=aH e0;have fe1:=aH e1;have fe2:=aH e2;have fe3:=aH e3;have fp3:=aH p3;clear p2;go_upto_region 29 with fail;go_cut [20,21] (fun x20 x21 wq=>∃ g,x20=.pointer (some ⟨g,0,none⟩)/\Hid (aK wq g 99 #[.int .i64 s1q.kind,.string s1q.text,.slice s1q.lA s1q.leads.length s1q.lc,.slice s1q.kA s1q.kids.length s1q.kc])/\Hid (Below wc.heap.size wc wq))
         case first=>
          refine eA 20 (.two [0,1,2,3,4,5,6,7,8,9,10,11,12,13,14] 15 (.one [16,17,18] 19 (.one [] 20 (.last []))) 19 (.one [] 15 (.one [16,17,18] 20 (.last [])))) (by kernel_rfl) (by kernel_rfl) ?_;refine bF ?_;simp only [sN]
          repeat (go_big_quiet_step (fail))
          refine wpQuiet_nil ?_;refine ⟨?_,?_⟩
          ·refine aC rfl 54 _ _ rfl Tryz.func54 rfl (by kernel_rfl) #[.agg #[.int .i64 t.kind,.string t.text,.slice t.lA t.leads.length t.lc,.slice t.kA t.kids.length t.kc],.slice (some ⟨db,do_,none⟩) (x.l.length - 1) x.c] (by simp [Act.eval]) (HAT2.out _ (cC HBc.out)) ?_;rintro e wy ⟨hb3,hq⟩;obtain rfl:e=.returned (.tuple #[.agg #[.int .i64 s1q.kind,.string s1q.text,.slice s1q.lA s1q.leads.length s1q.lc,.slice s1q.kA s1q.kids.length s1q.kc],.bool true]):=hq;have HBy:=hD (aB (cC (Below.refl wc.heap.size wc)) hb3);clear hb3;refine ⟨_,rfl,⟨⟨_,HBy.out⟩,rfl⟩,?_⟩;simp only [sP];refine aD ?_;simp only [sN]
           repeat (go_big_quiet_step (fail))
           refine wpQuiet_nil ?_;obtain ⟨wz,hwz⟩:=nm (wy.alloc (.cells #[.int .i64 0,.string ⟨#[]⟩,.slice none 0 0,.slice none 0 0] 99));have HB4:Hid (Below wc.heap.size wc wz):=by subst hwz;exact bK HBy.out _
           have HX4:=bk hwz;refine aE rfl (by simp [go_sem];exact ⟨rfl,hwz⟩) ⟨⟨_,HB4.out⟩,rfl⟩ ?_;simp only [sP];refine aD ?_;simp only [sN]
           repeat (go_big_quiet_step (fail))
           refine wpQuiet_nil ?_;have HZ3:=hD HBy.out.size;refine aA rfl ?_;obtain ⟨y0,y1,y2,y3⟩:=HX4.out.c4;obtain ⟨r0,r1,r2,r3⟩:=HX4.out.f4;go_wp2_with fail;obtain ⟨W9,hW9⟩:=nm (((((wz.setCell ⟨wy.heap.size,0,none⟩ (.int .i64 s1q.kind)).setCell ⟨wy.heap.size,1,none⟩ (.string s1q.text)).setCell ⟨wy.heap.size,2,none⟩ (.slice s1q.lA s1q.leads.length s1q.lc)).setCell ⟨wy.heap.size,3,none⟩ (.slice s1q.kA s1q.kids.length s1q.kc)));have HG9:Hid (aK W9 (wy.heap.size) 99 #[.int .i64 s1q.kind,.string s1q.text,.slice s1q.lA s1q.leads.length s1q.lc,.slice s1q.kA s1q.kids.length s1q.kc]):=by subst hW9;exact aP HX4.out _ _ _ _
           have HB9:Hid (Below wc.heap.size wc W9):=by subst hW9;exact aL HB4.out HZ3.out _ _ _ _
           rw [hW9];clear hW9;refine ⟨⟨⟨_,HB9.out⟩,rfl⟩,?_⟩;refine aM ?_;simp only [sN]
           repeat (go_big_quiet_step (fail))
           refine wpQuiet_nil ?_;go_wp2_with fail;refine NoPanic.normal ?_;go_wp2_with fail;go_meet;exact ⟨_,rfl,HG9,HB9⟩
          ·obtain ⟨wy,hwy⟩:=nm (wc.drew.alloc (.cells #[.int .i64 0,.string ⟨#[]⟩,.slice none 0 0,.slice none 0 0] 99));have HBy:Hid (Below wc.heap.size wc wy):=by subst hwy;exact bK (cC (Below.refl _ _)) _
           have HXy:Hid (aK wy wc.heap.size 99 #[.int .i64 0,.string ⟨#[]⟩,.slice none 0 0,.slice none 0 0]):=by subst hwy;exact aK.new _ _ _
           refine aE rfl (by simp [go_sem];exact ⟨rfl,hwy⟩) ⟨⟨_,HBy.out⟩,rfl⟩ ?_;simp only [sP];refine aD ?_;simp only [sN]
           repeat (go_big_quiet_step (fail))
           refine wpQuiet_nil ?_;refine aC rfl 54 _ _ rfl Tryz.func54 rfl (by kernel_rfl) #[.agg #[.int .i64 t.kind,.string t.text,.slice t.lA t.leads.length t.lc,.slice t.kA t.kids.length t.kc],.slice (some ⟨db,do_,none⟩) (x.l.length - 1) x.c] (by simp [Act.eval]) (HAT2.out _ (aB HBc.out HBy.out)) ?_;rintro e wz ⟨hb4,hq⟩;obtain rfl:e=.returned (.tuple #[.agg #[.int .i64 s1q.kind,.string s1q.text,.slice s1q.lA s1q.leads.length s1q.lc,.slice s1q.kA s1q.kids.length s1q.kc],.bool true]):=hq;have HB4:=hD (aB HBy.out hb4);have HX4:=hD (HXy.out.below hb4 HXy.out.lt);have HZ3:Hid (wc.heap.size<=wc.heap.size):=Nat.le_refl _;clear hb4;refine ⟨_,rfl,⟨⟨_,HB4.out⟩,rfl⟩,?_⟩;simp only [sP];refine aD ?_;simp only [sN]
           repeat (go_big_quiet_step (fail))
           refine wpQuiet_nil ?_;refine aA rfl ?_;obtain ⟨y0,y1,y2,y3⟩:=HX4.out.c4;obtain ⟨r0,r1,r2,r3⟩:=HX4.out.f4;go_wp2_with fail;obtain ⟨W9,hW9⟩:=nm (((((wz.setCell ⟨wc.heap.size,0,none⟩ (.int .i64 s1q.kind)).setCell ⟨wc.heap.size,1,none⟩ (.string s1q.text)).setCell ⟨wc.heap.size,2,none⟩ (.slice s1q.lA s1q.leads.length s1q.lc)).setCell ⟨wc.heap.size,3,none⟩ (.slice s1q.kA s1q.kids.length s1q.kc)));have HG9:Hid (aK W9 (wc.heap.size) 99 #[.int .i64 s1q.kind,.string s1q.text,.slice s1q.lA s1q.leads.length s1q.lc,.slice s1q.kA s1q.kids.length s1q.kc]):=by subst hW9;exact aP HX4.out _ _ _ _
           have HB9:Hid (Below wc.heap.size wc W9):=by subst hW9;exact aL HB4.out HZ3.out _ _ _ _
           rw [hW9];clear hW9;refine ⟨⟨⟨_,HB9.out⟩,rfl⟩,?_⟩;refine aM ?_;simp only [sN]
           repeat (go_big_quiet_step (fail))
           refine wpQuiet_nil ?_;go_wp2_with fail;refine NoPanic.normal ?_;go_wp2_with fail;go_meet;exact ⟨_,rfl,HG9,HB9⟩
         case rest=>
          obtain ⟨g,rfl,HG,HBd⟩:=hcut;have HBe:=hD (aB HBc.out HBd.out);have HSL:=hD (nW s1q li wc ((HT1.out.low (HBe.out.mono HB3.out.size)).more (Nat.le_trans HB3.out.size HBe.out.size)) hlk);unfold TX.val at HSL;clear fe0 fe1 fe2 fe3 fp3 e0 e1 e2 e3 p3 HAT2 p5;obtain ⟨y0,y1,y2,y3⟩:=HG.out.c4;go_wp2_with fail;(with_reducible refine (HSL.out).mono ?_);rintro r0 wb ⟨za,zb,rfl,hbb,hza,hsl⟩;have HBf:=hD (aB HBe.out hbb);clear hbb y0 y1 y2 y3;by_cases hz0:za=0
          ·have d6:(za == 0)=true:=by simpa using hz0
           obtain ⟨hsl1,hsl2⟩:=hsl hz0;obtain ⟨zn,rfl⟩:∃ y:Nat,zb=y:=⟨zb.toNat,by omega⟩;have HSP:=hD (wH zn wb (by omega));clear hsl hz0;go_wp2_with fail;(with_reducible refine (HSP.out).mono ?_);rintro r0 we ⟨sA,sc,rfl,hsv,hbe⟩;have HBg:=hD (aB HBf.out hbe);obtain ⟨sb,so,kx,rfl,-,g5,hkx⟩:=hsv.str_at (k:=li) (by omega);have l0:(0:Int)<=(li:Int):=by omega
           clear hbe hsv;go_wp2_with fail;go_meet;exact ⟨kx,rfl,hkx,HBg⟩
          ·have d6:(za == 0)=false:=by simpa using hz0
           go_wp2_with fail;go_meet;exact ⟨⟨#[]⟩,rfl,Nat.zero_le _,HBf⟩
       case rest=>
        obtain ⟨kx,rfl,hkx,HBk⟩:=hcut;have HOk:=hD (HO.out.up HBk.out);have HCk:Hid (aT w5 wc (fun b=>b < w4.heap.size)):=HC.out.trans (aT.of_new HBk.out (fun _=>False)) (fun _ _ h=>h.elim);have HB3k:=hD (aB HB3.out HBk.out);have p3:=(HBk.out.cell (p:=⟨bx,ox+kk,none⟩) hbxw).trans p2;have HCE:=hD (vR (pc:=pc) (ic:=d) i t s x.A x.c x.l kx wc ⟨(HEx.out.more HB3.out.size).up HBk.out,HTJ.out,(HRX.out.below HBk.out).more HBk.out.size,HFS.out,by omega,hxcc⟩ hkx hll);clear p2;go_wp2_with fail;(with_reducible refine (HCE.out).mono ?_);rintro r0 w6 ⟨cA,cn,cc,rfl,hcv,hb6⟩;have HO6:=hD (HOk.out.up hb6);have HC6:Hid (aT w5 w6 (fun b=>b < w4.heap.size)):=HCk.out.trans (aT.of_new hb6 (fun _=>False)) (fun _ _ h=>h.elim);have HB6:=hD (aB HB3k.out hb6);have HV6:=hD hcv;have hcn:=hcv.len_le;have HZ6:=hD HB6.out.size;have hnb:n'<=10000:=by
         have h1:=oM t t (HSW.out t htm).2.2 [] (fun q=>rfl);have h2:=fO t ((t.plain.paths []).take kk) ((t.plain.paths []).drop kk);rw [List.take_append_drop] at h2;omega
        clear hb6 hcv p3;go_wp2_with (at_builtin;refine pV (kC 110) rfl rfl w3.heap.size (.slice A' n' c') n' rfl HO6.out _ _ _ cA cn cc rfl HV6.out (Nat.le_refl _) (by omega) HZ6.out ?_);intro A7 c7 w7 hown7 hg7 hb7;have HO7:=hD hown7;have HB7:=hD (HB6.out.trans hb7);have HC7:Hid (aT w5 w7 (fun b=>b < w4.heap.size)):=HC6.out.trans (aT.of_grown (M:=fun b=>(Value.slice A' n' c').ownBlock=some b) hg7.grown (fun g e=>e)) (fun b h1 h2=>by
         rcases HOG.out b h2 with h | h
         ·exact h
         ·omega)
        have HOG7:Hid (∀ g,(Value.slice A7 (n'+cn) c7).ownBlock=some g->g < w4.heap.size\/w5.heap.size<=g):=fun g e=>by
         rcases hg7.own g e with h | h
         ·exact HOG.out g h
         ·have:=HC6.out.size;right;omega
        clear hown7 hg7 hb7;go_wp2_with fail;go_roundw
        case rel=>exact ⟨kk+1,n'+cn,c7,A7,by omega,by go_num,rfl,by rw [HNR.out];omega,HO7,HC7,HB7,HOG7⟩
        case measure=>simp [intOf];omega
      ·have d3:decide ((kk:Int) < (xs.length:Int))=false:=decide_eq_false (by omega);have hnb:n'<=3310*(i+1):=by
        have h1:=oM t t (HSW.out t htm).2.2 [] (fun q=>rfl);have h2:(t.plain.paths []).length<=kk:=by rw [jI];omega
        rw [List.take_of_length_le h2] at hnn';omega
       go_wp2_with fail;go_roundw
       case rel=>exact ⟨i+1,n',c',A',by omega,by go_num,rfl,hnb,HO,HB3⟩
       case measure=>simp [intOf];omega
    ·have d2:decide ((i:Int) < (ps.length:Int))=false:=decide_eq_false (by omega);have HSO:=hD (zH (N:=6620) (K:=110) A n c wr (HO.out.v_ (by omega)) (by omega));have HXr:=hD (HX.out.below HBq.out HX.out.lt);have HBr:=hD (aB HB.out HBq.out);go_wp2_with fail;(with_reducible refine (HSO.out).mono ?_);rintro r0 w6 ⟨hb6,v,rfl,hv⟩;obtain ⟨A6,n6,c6,rfl,-,-⟩:=hv.sl_inv;have HX6:=hD (HXr.out.below hb6 HXr.out.lt);have HB6:=hD (aB HBr.out hb6);have HV:=hD hv;clear hb6 hv;have x0:=HX6.out.cell 0;simp at x0;have q0:=HX6.out.frozen 0;obtain ⟨W7,hW7⟩:=nm (w6.setCell ⟨w.heap.size,0,none⟩ (.slice A6 n6 c6));have HX7:Hid (aK W7 w.heap.size 61 #[.slice A6 n6 c6]):=by rw [<- hW7];exact HX6.out.set_ 0 _
     have HB7:Hid (Below w.heap.size w W7):=by rw [<- hW7];exact cR HB6.out (Nat.le_refl _) 0 _
     have HV7:Hid (V W7 W7.heap.size (.sl 6620 83 (aQ 110)) (.slice A6 n6 c6)):=by
      have h1:=HV.out.set_ HX6.out (by decide) 0 (.slice A6 n6 c6);rw [hW7] at h1;have h2:w6.heap.size=W7.heap.size:=by rw [<- hW7];simp [World.setCell]
      unfold Hid;rwa [h2] at h1
     have HW7:=hD hW7;clear hW7;go_wp2_with (rw [HW7.out]);clear x0 q0;have x0:=HX7.out.c1;refine bodyPost_ret (v:=.tuple #[.agg #[.slice A6 n6 c6],.int .i64 (wrap64 (z+(N:Int))),.int .i64 0]) (by simp [results,Tryz.results29,go_sem,x0]) rfl ?_;exact ⟨A6,n6,c6,_,_,rfl,HV7.out,HB7.out⟩
end
end Go.Proofs.YtkgpoimmniojjaaGreat
