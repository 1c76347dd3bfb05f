/- No condition. -/
import Derived.Test.YtkgpoimmniojjaaGreatZaAX
import Derived.Test.YtkgpoimmniojjaaGreatZaAY
namespace Go.Proofs.YtkgpoimmniojjaaGreat
set_option linter.unusedVariables false
set_option linter.unusedSimpArgs false
set_option maxRecDepth 100000
set_option maxHeartbeats 16000000
section
open Go.RowKit
variable {t s k:TX} {p:List Int} {K j m:Nat} {w:World}
inductive nP:TX->Prop where
 | mk (t:TX) (ar:Ar t.kind t.kids.length) (sub:∀ k∈t.kids,nP k):nP t
inductive vV:TX->Prop where
 | mk (t:TX) (h:t.leads.length<=t.kids.length+6) (sub:∀ k∈t.kids,vV k):vV t
theorem fG.text (h:fG K t):t.text.size<=K:=by cases h;assumption
theorem fG.lead (h:fG K t):∀ s∈t.leads,s.size<=K:=by cases h;assumption
theorem fG.sub (h:fG K t):∀ k∈t.kids,fG K k:=by cases h;assumption
def dI (w:World) (Q:Prop) (e:Ending) (w':World):Prop:=∃ b,e=.returned (.bool b)/\Below w.heap.size w w'/\(b=true->Q)
theorem nZ (hK:K<=1000000000) (t:TX):∀ w:World,Tr w w.heap.size t->fG K t->Calls Tryz.prog 126 #[t.val] w (dI w (nP t)):=by
 induction t using TX.ind with
 | h t ih=>
 intro w h hbd;have HIH:=hD ih;have HBD:=hD hbd;have hkb:=h.kb;have HLN:Hid (∀ w,Calls Tryz.prog 145 #[.int .i64 t.kind,.int .i64 (t.kids.length:Int)] w (mP w t.kind t.kids.length)):=fun w=>oQ _ _ w (by omega);have HTF:Hid (∀ w,Calls Tryz.prog 146 #[.int .i64 t.kind,.string t.text] w (aV w dP)):=fun w=>lI _ _ w (Nat.le_trans hbd.text hK);obtain ⟨kAq,hkA⟩:=nm t.kA;have HKA:=hD hkA;unfold TX.val;obtain ⟨W,hW⟩:=nm (w.alloc (.cells #[.int .i64 t.kind,.string t.text,.slice t.lA t.leads.length t.lc,.slice t.kA t.kids.length t.kc] 99));have HB:=bw hW;have HX:=bk hW;have HZ:Hid (w.heap.size < W.heap.size):=HX.out.lt;have HT:=hD h;have HW:=hD hW;clear h hW;obtain ⟨x0,x1,x2,x3⟩:=HX.out.c4;rw [hkA] at x3 HX HW ⊢;clear ih hbd hkA;go_enter Tryz.func126,Tryz.ntmps126;go_wp2_with (rw [HW.out]);(with_reducible refine (HLN.out _).mono ?_);rintro r0 w1 ⟨r,rfl,rfl,ir,har⟩;have HAR:=hD har;clear har;by_cases hr0:r < 0
 ·have d:decide (r < 0)=true:=decide_eq_true hr0;go_wp2_with fail;go_ret;exact ⟨false,rfl,HB.out,fun h=>(nomatch h)⟩
 have d:decide (r < 0)=false:=decide_eq_false hr0;have HAR:=hD (HAR.out (by omega)).1;go_wp2_with fail;(with_reducible refine (HTF.out _).mono ?_);rintro r0 w1 ⟨hb1,v,rfl,b,rfl⟩;have HX:=hD (HX.out.below hb1 HX.out.lt);have HB:=hD (aB HB.out hb1);clear hb1
 cases b
 ·go_wp2_with fail;go_ret;exact ⟨false,rfl,HB.out,fun h=>(nomatch h)⟩
 clear x0 x1 x2 x3;go_wp2_with fail;go_loopw [3] (fun i wr=>∃ j:Nat,j<=t.kids.length/\i=.int .i64 (j:Int)/\Hid (Below w.heap.size w wr)/\Hid (aK wr w.heap.size 99 #[.int .i64 t.kind,.string t.text,.slice t.lA t.leads.length t.lc,.slice kAq t.kids.length t.kc])/\Hid (∀ m k,m < j->t.kids[m]?=some k->nP k)) (fun i _=>t.kids.length - (intOf i).toNat)
 case atStart=>exact ⟨0,by omega,rfl,HB,HX,fun m k h=>absurd h (by omega)⟩
 case round=>
  clear HB HX;obtain ⟨j,hj,rfl,HB,HX,HS⟩:=hrel;obtain ⟨x0,x1,x2,x3⟩:=HX.out.c4;by_cases hlt:j < t.kids.length
  ·obtain ⟨k,hk⟩:∃ k,t.kids[j]?=some k:=⟨_,List.getElem?_eq_getElem hlt⟩;obtain ⟨ab,ao,hA,hab,e0,e1,e2,e3⟩:=(HT.out.low HB.out).at_ hk;obtain rfl:kAq=some ⟨ab,ao,none⟩:=HKA.out.symm.trans hA;have HKC:Hid (∀ w',Below w.heap.size w w'->Calls Tryz.prog 147 #[t.val,.int .i64 (j:Int),.int .i64 k.kind] w' (fun e w2=>∃ b,e=.returned (.bool b)/\Below w'.heap.size w' w2)):=fun w' hb=>C4 t j k.kind w' (HT.out.up (Nat.le_refl _) hb) (by omega);have HSC:Hid (∀ w',Below w.heap.size w w'->Calls Tryz.prog 126 #[k.val] w' (dI w' (nP k))):=fun w' hb=>HIH.out k (List.mem_of_getElem? hk) w' ((HT.out.sub k (List.mem_of_getElem? hk)).up (Nat.le_refl _) hb) (HBD.out.sub k (List.mem_of_getElem? hk));unfold TX.val at HKC HSC;rw [HKA.out] at HKC;have d:decide ((j:Int) < (t.kids.length:Int))=true:=decide_eq_true (by omega);have HK:=hD hk;have HXF:Hid (∀ w',Below wr.heap.size wr w'->aK w' w.heap.size 99 #[.int .i64 t.kind,.string t.text,.slice t.lA t.leads.length t.lc,.slice (some ⟨ab,ao,none⟩) t.kids.length t.kc]):=fun w' hb=>HX.out.below hb HX.out.lt;have HKF:Hid (∀ w',Below wr.heap.size wr w'->w'.cell? ⟨ab,ao+j*4,none⟩=some (.int .i64 k.kind)/\w'.cell? ⟨ab,ao+j*4+1,none⟩=some (.string k.text)/\w'.cell? ⟨ab,ao+j*4+2,none⟩=some (.slice k.lA k.leads.length k.lc)/\w'.cell? ⟨ab,ao+j*4+3,none⟩=some (.slice k.kA k.kids.length k.kc)):=fun w' hb=>(HT.out.low (aB HB.out hb)).c4 HK.out HKA.out;clear hA hk;go_wp2_with fail;have fx0:=aH x0;have fx1:=aH x1;have fx2:=aH x2;have fx3:=aH x3;have fe0:=aH e0
   refine aY 13 [([0,1,2,3,4,5,6,7],8)] [9,10,11,12,13] (by kernel_rfl) (by kernel_rfl) ?_;refine aI ?_;simp only [sN]
   repeat (go_big_quiet_step (fail))
   refine wpQuiet_nil ?_;refine aC rfl 147 _ _ rfl Tryz.func147 rfl (by kernel_rfl) #[.agg #[.int .i64 t.kind,.string t.text,.slice t.lA t.leads.length t.lc,.slice (some ⟨ab,ao,none⟩) t.kids.length t.kc],.int .i64 (j:Int),.int .i64 k.kind] (by simp [Act.eval]) (HKC.out _ (cC HB.out)) ?_;rintro e w1 ⟨b,rfl,hb1⟩;have HB1:=hD (aB (cC (Below.refl wr.heap.size wr)) hb1);have HX1:=hD (HXF.out _ HB1.out);have HBt:=hD (aB HB.out HB1.out);obtain ⟨g0,g1,g2,g3⟩:=HKF.out _ HB1.out;clear hb1 e0 e1 e2 e3 x0 x1 x2 x3;obtain ⟨x0,x1,x2,x3⟩:=HX1.out.c4
   cases b
   ·refine ⟨_,rfl,⟨⟨_,HB1.out⟩,rfl⟩,?_⟩;simp only [sP];refine bD ?_
    try simp only [sN]
    repeat (go_big_quiet_step (fail))
    refine wpQuiet_nil ?_;go_wp2_with fail;refine NoPanic.normal ?_;go_wp2_with fail;go_ret;exact ⟨false,rfl,HBt.out,fun h=>(nomatch h)⟩
   ·refine ⟨_,rfl,⟨⟨_,HB1.out⟩,rfl⟩,?_⟩;simp only [sP];refine bD ?_
    try simp only [sN]
    repeat (go_big_quiet_step (fail))
    refine wpQuiet_nil ?_;go_wp2_with fail;(with_reducible refine (HSC.out _ HBt.out).mono ?_);rintro r0 w2 ⟨b,rfl,hb2,hs⟩;have HB2:=hD (aB HBt.out hb2);have HX2:=hD (HX1.out.below hb2 HX1.out.lt);have HSK:=hD hs;clear hb2 hs
    cases b
    ·go_wp2_with fail;refine NoPanic.normal ?_;go_wp2_with fail;go_ret;exact ⟨false,rfl,HB2.out,fun h=>(nomatch h)⟩
    ·go_wp2_with fail;refine NoPanic.normal ?_;go_wp2_with fail;go_roundw
     case rel=>
      refine ⟨j+1,by omega,by go_num,HB2,HX2,fun m x hm hx=>?_⟩;by_cases hmj:m=j
      ·subst hmj;have:=HK.out;rw [hx] at this;injection this with this;subst this;exact HSK.out trivial
      ·exact HS.out m x (by omega) hx
     case measure=>simp [intOf];omega
  ·have d:decide ((j:Int) < (t.kids.length:Int))=false:=decide_eq_false (by omega);go_wp2_with fail;go_ret;refine ⟨true,rfl,HB.out,fun _=>.mk t HAR.out (fun k hk=>?_)⟩;obtain ⟨m,hm⟩:=List.mem_iff_getElem?.1 hk;have:=(List.getElem?_eq_some_iff.1 hm).1;exact HS.out m k (by omega) hm
theorem wZ (hK:K<=1000000000) (t:TX):∀ w:World,Tr w w.heap.size t->fG K t->Calls Tryz.prog 127 #[t.val] w (dI w (vV t)):=by
 induction t using TX.ind with
 | h t ih=>
 intro w h hbd;have HIH:=hD ih;have HBD:=hD hbd;have hkb:=h.kb;have hlb:=h.lb;have HLN:Hid (∀ w,Calls Tryz.prog 145 #[.int .i64 t.kind,.int .i64 (t.kids.length:Int)] w (mP w t.kind t.kids.length)):=fun w=>oQ _ _ w (by omega);have HTR:Hid (∀ s∈t.leads,∀ b w,Calls Tryz.prog 144 #[.string s,.bool b] w (qF w)):=fun s hs b w=>lG s b w (Nat.le_trans (hbd.lead s hs) hK);obtain ⟨kAq,hkA⟩:=nm t.kA;obtain ⟨lA,hlA⟩:=nm t.lA;have HKA:=hD hkA;have HLA:=hD hlA;unfold TX.val;obtain ⟨W,hW⟩:=nm (w.alloc (.cells #[.int .i64 t.kind,.string t.text,.slice t.lA t.leads.length t.lc,.slice t.kA t.kids.length t.kc] 99));have HB:=bw hW;have HX:=bk hW;have HZ:Hid (w.heap.size < W.heap.size):=HX.out.lt;have HT:=hD h;have HW:=hD hW;clear h hW;rw [hkA,hlA] at HX HW ⊢;obtain ⟨x0,x1,x2,x3⟩:=HX.out.c4;clear ih hbd hkA hlA;go_enter Tryz.func127,Tryz.ntmps127;go_wp2_with (rw [HW.out]);have fx0:=aH x0;have fx2:=aH x2;have fx3:=aH x3;refine aY 8 [([0,1,2,3,4,5,6,7],8)] [] (by kernel_rfl) (by kernel_rfl) ?_;refine aI ?_;simp only [sN]
 repeat (go_big_quiet_step (fail))
 refine wpQuiet_nil ?_;refine aC rfl 145 _ _ rfl Tryz.func145 rfl (by kernel_rfl) #[.int .i64 t.kind,.int .i64 (t.kids.length:Int)] (by simp [Act.eval]) (HLN.out _) ?_;rintro e w1 ⟨r,rfl,rfl,ir,har⟩;have HAR:=hD har;clear har;refine ⟨_,rfl,⟨⟨_,cC (Below.refl _ _)⟩,rfl⟩,?_⟩;simp only [sP];refine bD ?_;refine wpQuiet_nil ?_;clear fx0 fx2 fx3 x0 x2 x3;by_cases hr0:(t.leads.length:Int)=r
 case neg=>
  have d:((t.leads.length:Int) != r)=true:=by simpa using hr0
  go_wp2_with fail;refine NoPanic.normal ?_;go_wp2_with fail;go_ret;exact ⟨false,rfl,cC HB.out,fun h=>(nomatch h)⟩
 have d:((t.leads.length:Int) != r)=false:=by simpa using hr0
 have HAR:=hD (show t.leads.length<=t.kids.length+6 by have:=(HAR.out (by omega)).2;omega);have HX:=hD (HX.out.below (cC (Below.refl _ W)) HX.out.lt);have HB:=hD (cC HB.out);go_wp2_with fail;refine NoPanic.normal ?_;go_wp2_with fail;go_loopw [3] (fun i wr=>∃ j:Nat,j<=t.leads.length/\i=.int .i64 (j:Int)/\Hid (Below w.heap.size w wr)/\Hid (aK wr w.heap.size 99 #[.int .i64 t.kind,.string t.text,.slice lA t.leads.length t.lc,.slice kAq t.kids.length t.kc])) (fun i _=>t.leads.length - (intOf i).toNat)
 case atStart=>exact ⟨0,by omega,rfl,HB,HX⟩
 case round=>
  clear HB HX hr0 ir;obtain ⟨j,hj,rfl,HB,HX⟩:=hrel;obtain ⟨x0,x1,x2,x3⟩:=HX.out.c4;by_cases hlt:j < t.leads.length
  ·obtain ⟨b1,o1,u1,hA,-,hu1,g1⟩:=((HT.out.rl).below HB.out).at1 hlt;obtain rfl:lA=some ⟨b1,o1,none⟩:=HLA.out.symm.trans hA;obtain ⟨s,hs,rfl⟩:∃ s,t.leads[j]?=some s/\u1=.string s:=by
    rw [List.getElem?_map] at hu1
    cases h1:t.leads[j]? with
    | none=>rw [h1] at hu1;cases hu1
    | some s=>rw [h1] at hu1;injection hu1 with hu1;exact ⟨s,rfl,hu1.symm⟩
   have HTS:=hD (HTR.out s (List.mem_of_getElem? hs));have d:decide ((j:Int) < (t.leads.length:Int))=true:=decide_eq_true (by omega);have k0:(0:Int)<=(j:Int):=by omega
   have k1:(j:Int) < (t.leads.length:Int):=by omega
   clear hA hu1 hs;have q1:(t.kind == 1)=true\/(t.kind == 1)=false:=by cases (t.kind == 1) <;> simp
   rcases q1 with q1 | q1
   all_goals
    go_wp2_with fail;have fx0:=aH x0;have fx2:=aH x2;have fg1:=aH g1;refine aY 11 [] [0,1,2,3,4,5,6,7,8,9,10,11] (by kernel_rfl) (by kernel_rfl) ?_;refine bD ?_;simp only [sN]
    repeat (go_big_quiet_step (fail))
    refine wpQuiet_nil ?_;clear fx0 fx2 fg1;go_wp2_with fail;(with_reducible refine (HTS.out _ _).mono ?_);rintro r0 w1 ⟨b,rfl,rfl⟩
    cases b
    ·go_wp2_with fail;refine NoPanic.normal ?_;go_wp2_with fail;go_ret;exact ⟨false,rfl,cC HB.out,fun h=>(nomatch h)⟩
    ·go_wp2_with fail;refine NoPanic.normal ?_;have HB2:=hD (cC HB.out);have HX2:=hD (HX.out.below (cC (Below.refl _ wr)) HX.out.lt);go_wp2_with fail;go_roundw
     case rel=>exact ⟨j+1,by omega,by go_num,HB2,HX2⟩
     case measure=>simp [intOf];omega
  ·have d:decide ((j:Int) < (t.leads.length:Int))=false:=decide_eq_false (by omega);go_wp2_with fail;clear hlt hj x0 x1 x2 x3;go_loopw [4] (fun i wr=>∃ j:Nat,j<=t.kids.length/\i=.int .i64 (j:Int)/\Hid (Below w.heap.size w wr)/\Hid (aK wr w.heap.size 99 #[.int .i64 t.kind,.string t.text,.slice lA t.leads.length t.lc,.slice kAq t.kids.length t.kc])/\Hid (∀ m k,m < j->t.kids[m]?=some k->vV k)) (fun i _=>t.kids.length - (intOf i).toNat)
   case atStart=>exact ⟨0,by omega,rfl,HB,HX,fun m k h=>absurd h (by omega)⟩
   case round=>
    clear HB HX;obtain ⟨j,hj,rfl,HB,HX,HS⟩:=hrel;obtain ⟨x0,x1,x2,x3⟩:=HX.out.c4;by_cases hlt:j < t.kids.length
    ·obtain ⟨k,hk⟩:∃ k,t.kids[j]?=some k:=⟨_,List.getElem?_eq_getElem hlt⟩;obtain ⟨ab,ao,hA,hab,e0,e1,e2,e3⟩:=(HT.out.low HB.out).at_ hk;obtain rfl:kAq=some ⟨ab,ao,none⟩:=HKA.out.symm.trans hA;have HSC:Hid (Calls Tryz.prog 127 #[k.val] wr (dI wr (vV k))):=HIH.out k (List.mem_of_getElem? hk) wr ((HT.out.sub k (List.mem_of_getElem? hk)).up (Nat.le_refl _) HB.out) (HBD.out.sub k (List.mem_of_getElem? hk));unfold TX.val at HSC;have d:decide ((j:Int) < (t.kids.length:Int))=true:=decide_eq_true (by omega);have k0:(0:Int)<=(j:Int):=by omega
     have k1:(j:Int) < (t.kids.length:Int):=by omega
     have HK:=hD hk;clear hA hk;go_wp2_with fail;(with_reducible refine (HSC.out).mono ?_);rintro r0 w2 ⟨b,rfl,hb2,hs⟩;have HB2:=hD (aB HB.out hb2);have HX2:=hD (HX.out.below hb2 HX.out.lt);have HSK:=hD hs;clear hb2 hs
     cases b
     ·go_wp2_with fail;go_ret;exact ⟨false,rfl,HB2.out,fun h=>(nomatch h)⟩
     ·go_wp2_with fail;go_roundw
      case rel=>
       refine ⟨j+1,by omega,by go_num,HB2,HX2,fun m x hm hx=>?_⟩;by_cases hmj:m=j
       ·subst hmj;have:=HK.out;rw [hx] at this;injection this with this;subst this;exact HSK.out trivial
       ·exact HS.out m x (by omega) hx
      case measure=>simp [intOf];omega
    ·have d:decide ((j:Int) < (t.kids.length:Int))=false:=decide_eq_false (by omega);go_wp2_with fail;go_ret;refine ⟨true,rfl,HB.out,fun _=>.mk t HAR.out (fun k hk=>?_)⟩;obtain ⟨m,hm⟩:=List.mem_iff_getElem?.1 hk;have:=(List.getElem?_eq_some_iff.1 hm).1;exact HS.out m k (by omega) hm
def TX.find:TX->List Int->Option TX
 | t,[]=>some t
 | t,i::p=>if i < 0\/(t.kids.length:Int)<=i then none else match t.kids[i.toNat]? with
  | none=>none
  | some k=>TX.find k p
def gZ:Array Value:=#[.int .i64 0,.string ByteArray.empty,.slice none 0 0,.slice none 0 0]
def cJ (w:World) (o:Option TX) (e:Ending) (w':World):Prop:=
 Below w.heap.size w w'/\match o with
 | none=>e=.returned (.tuple #[.agg gZ,.bool false])
 | some t=>e=.returned (.tuple #[t.val,.bool true])
theorem lP {b:Nat} (h:aK w b 99 s.arr) (k:TX):aK ((((w.setCell ⟨b,0,none⟩ (.int .i64 k.kind)).setCell ⟨b,1,none⟩ (.string k.text)).setCell ⟨b,2,none⟩ (.slice k.lA k.leads.length k.lc)).setCell ⟨b,3,none⟩ (.slice k.kA k.kids.length k.kc)) b 99 k.arr:=
 (((h.set_ 0 _).set_ 1 _).set_ 2 _).set_ 3 _
theorem Bz {b g:Nat} {t:TypeId} {cs:Array Value} (h:aK w g t cs) (hne:g≠b) (k:TX):aK ((((w.setCell ⟨b,0,none⟩ (.int .i64 k.kind)).setCell ⟨b,1,none⟩ (.string k.text)).setCell ⟨b,2,none⟩ (.slice k.lA k.leads.length k.lc)).setCell ⟨b,3,none⟩ (.slice k.kA k.kids.length k.kc)) g t cs:=
 (((h.far hne _).far hne _).far hne _).far hne _
theorem iG {w0:World} {B b:Nat} (h:Below B w0 w) (hb:B<=b) (k:TX):Below B w0 ((((w.setCell ⟨b,0,none⟩ (.int .i64 k.kind)).setCell ⟨b,1,none⟩ (.string k.text)).setCell ⟨b,2,none⟩ (.slice k.lA k.leads.length k.lc)).setCell ⟨b,3,none⟩ (.slice k.kA k.kids.length k.kc)):=
 (((h.setCell hb _).setCell hb _).setCell hb _).setCell hb _
theorem rG (hx:p[j]?=some (m:Int)) (hk:s.kids[m]?=some k):s.find (p.drop j)=k.find (p.drop (j+1)):=by
 have hlt:=(List.getElem?_eq_some_iff.1 hk).1;obtain ⟨hj,he⟩:=List.getElem?_eq_some_iff.1 hx;rw [List.drop_eq_getElem_cons hj,he,TX.find,if_neg (by omega)];simp [hk]
theorem vJ {x:Int} (hx:p[j]?=some x) (h:x < 0\/(s.kids.length:Int)<=x):s.find (p.drop j)=none:=by
 obtain ⟨hj,he⟩:=List.getElem?_eq_some_iff.1 hx;rw [List.drop_eq_getElem_cons hj,he,TX.find,if_pos h]
theorem fN (t:TX) (A:Option Addr) (c:Nat) (p:List Int) (w:World) (h:Tr w w.heap.size t) (hp:aG w w.heap.size 1 A p.length (p.map (Value.int .i64))) (hl:p.length<=140737488351232):
  Calls Tryz.prog 54 #[t.val,.slice A p.length c] w (cJ w (t.find p)):=by
 unfold TX.val;have HP:=hD hp;have H:=hD h;clear h hp;go_enter Tryz.func54,Tryz.ntmps54;go_wp2_with fail;go_loopw [6] (fun i wr=>∃ (j:Nat) (s:TX),j<=p.length/\i=.int .i64 (j:Int)/\Hid (t.find p=s.find (p.drop j))/\Hid (Tr w w.heap.size s)/\Hid (Below w.heap.size w wr)/\Hid (aK wr w.heap.size 99 s.arr)/\Hid (aK wr (w.heap.size+1) 99 gZ)) (fun i _=>p.length - (intOf i).toNat)
 case atStart=>
  refine ⟨0,t,by omega,rfl,rfl,H,?_,?_,?_⟩
  ·exact ((Below.refl _ w).alloc (Nat.le_refl _) _).alloc (by simp) _
  ·exact (aK.new w 99 _).alloc _
  ·have:=aK.new (w.alloc (.cells t.arr 99)) 99 gZ;have e:(w.alloc (.cells t.arr 99)).heap.size=w.heap.size+1:=by simp
   rw [e] at this;exact this
 case round=>
  obtain ⟨j,s,hj,rfl,HF,HS,HB,HX,HZ⟩:=hrel;have c3:=HX.out.cell 3;simp [TX.arr] at c3;by_cases hlt:j < p.length
  ·obtain ⟨x,hx⟩:∃ x,p[j]?=some x:=⟨_,List.getElem?_eq_getElem hlt⟩;obtain ⟨b1,o1,u1,rfl,-,hu1,g1⟩:=(HP.out.below HB.out).at1 hlt;obtain rfl:u1=.int .i64 x:=by rw [List.getElem?_map,hx] at hu1;simpa using hu1.symm
   have i0:(0:Int)<=(j:Int):=by omega
   have i1:(j:Int) < (p.length:Int):=by omega
   by_cases hin:0<=x/\x < s.kids.length
   ·obtain ⟨h0,h1⟩:=hin;obtain ⟨m,rfl⟩:∃ m:Nat,x=m:=⟨x.toNat,by omega⟩;have n1:decide ((m:Int) < 0)=false:=by simp
    have n2:decide (s.kids.length<=m)=false:=by simp;omega
    have n3:decide ((s.kids.length:Int)<=(m:Int))=false:=by simp;omega
    obtain ⟨k,hk⟩:∃ k,s.kids[m]?=some k:=⟨_,List.getElem?_eq_getElem (by omega)⟩;obtain ⟨ab,ao,hA,hab,e0,e1,e2,e3⟩:=(HS.out.low HB.out).at_ hk;rw [hA] at c3;obtain ⟨hf0,hf1,hf2,hf3⟩:=HX.out.f4;have b0:=HX.out.cell 0;have b1':=HX.out.cell 1;have b2:=HX.out.cell 2;simp [TX.arr] at b0 b1' b2;have HFK:=hD (HF.out.trans (rG hx hk));have HSK:=hD (HS.out.sub k (List.mem_of_getElem? hk));have HBK:=hD (fun q=>iG (aN HB.out q) (Nat.le_refl _) k);have HXK:=hD (fun q=>lP (HX.out.drewN q) k);have HZK:=hD (fun q=>Bz (HZ.out.drewN q) (b:=w.heap.size) (by omega) k);clear hu1 hx hA hk;go_wp2_with fail;go_quiet (fail);go_wp2_with fail;refine fE 8 (by kernel_rfl) (by kernel_rfl) _ rfl ?_;simp only [List.take_succ_cons,List.take_zero,List.drop_succ_cons,List.drop_zero]
    repeat (go_big_quiet_step (fail))
    refine wpQuiet_nil ?_;go_wp2_with fail;go_roundw
    case rel=>exact ⟨j+1,k,by omega,by go_num,HFK,HSK,HBK.out (nq+1),HXK.out (nq+1),HZK.out (nq+1)⟩
    case measure=>simp [intOf];omega
   ·have HFN:=hD (HF.out.trans (vJ hx (s:=s) (by omega)));have HD:Hid (decide (x < 0)=true\/(decide (x < 0)=false/\decide ((s.kids.length:Int)<=x)=true)):=by unfold Hid;simp;omega
    obtain ⟨z0,z1,z2,z3⟩:=HZ.out.f4;have y0:=HZ.out.cell 0;have y1:=HZ.out.cell 1;have y2:=HZ.out.cell 2;have y3:=HZ.out.cell 3;simp [gZ] at y0 y1 y2 y3;have HBE:=hD (fun q=>iG (aN HB.out q) (b:=w.heap.size+1) (by omega) (.node 0 ByteArray.empty none [] 0 none [] 0));have HXE:=hD (fun q=>lP (s:=.node 0 ByteArray.empty none [] 0 none [] 0) (HZ.out.drewN q) (.node 0 ByteArray.empty none [] 0 none [] 0));clear hu1 hx hin;rcases HD.out with q1 | ⟨q1,q2⟩
    all_goals
     go_wp2_with fail;go_quiet (fail);have x0:=(HXE.out nq).cell 0;have x1:=(HXE.out nq).cell 1;have x2:=(HXE.out nq).cell 2;have x3:=(HXE.out nq).cell 3;simp [TX.arr,TX.kind,TX.text,TX.lA,TX.leads,TX.lc,TX.kA,TX.kids,TX.kc] at x0 x1 x2 x3;have he:ByteArray.empty=(⟨#[]⟩:ByteArray):=rfl;rw [he] at x0 x1 x2 x3;go_wp2_with fail;refine bodyPost_ret (v:=.tuple #[.agg gZ,.bool false]) (by simp [results,Tryz.results54,go_sem,x0,x1,x2,x3,gZ];rfl) rfl ?_;rw [HFN.out];exact ⟨HBE.out nq,rfl⟩
  ·have HFN:Hid (t.find p=some s):=by
    have h:=HF.out;rw [List.drop_eq_nil_of_le (by omega)] at h;exact h
   have b0:=HX.out.cell 0;have b1':=HX.out.cell 1;have b2:=HX.out.cell 2;simp [TX.arr] at b0 b1' b2;obtain ⟨z0,z1,z2,z3⟩:=HZ.out.f4;have y0:=HZ.out.cell 0;have y1:=HZ.out.cell 1;have y2:=HZ.out.cell 2;have y3:=HZ.out.cell 3;simp [gZ] at y0 y1 y2 y3;have HBE:=hD (iG HB.out (b:=w.heap.size+1) (by omega) s);have hxe:=lP (s:=.node 0 ByteArray.empty none [] 0 none [] 0) HZ.out s;have x0:=hxe.cell 0;have x1:=hxe.cell 1;have x2:=hxe.cell 2;have x3:=hxe.cell 3;simp [TX.arr] at x0 x1 x2 x3;clear hxe;go_wp2_with fail;refine bodyPost_ret (v:=.tuple #[s.val,.bool true]) (by simp [results,Tryz.results54,go_sem,x0,x1,x2,x3,TX.val]) rfl ?_;rw [HFN.out];exact ⟨HBE.out,rfl⟩
def TX.num:TX->List Int->Int
 | _,[]=>0
 | t,i::p=>1+(cX t i.toNat:Int)+match t.kids[i.toNat]? with
  | none=>0
  | some k=>TX.num k p
def TX.numW (t:TX) (p:List Int):Int:=match t.find p with
 | none=>-1
 | some _=>wrap64 (t.num p)
theorem Bk (hx:p[j]?=some (m:Int)) (hk:s.kids[m]?=some k):s.num (p.drop j)=1+(cX s m:Int)+k.num (p.drop (j+1)):=by
 obtain ⟨hj,he⟩:=List.getElem?_eq_some_iff.1 hx;rw [List.drop_eq_getElem_cons hj,he,TX.num];simp [hk]
theorem zT (h:t.find p=none):t.numW p=-1:=by unfold TX.numW;rw [h]
theorem qZ (h:t.find p=some s):t.numW p=wrap64 (t.num p):=by unfold TX.numW;rw [h]
theorem fP {w:World} {B:Nat}:∀ (p:List Int) (t s:TX),Tr w B t->t.find p=some s->Tr w B s
 | [],t,s,h,hf=>by rw [TX.find] at hf;injection hf with hf;subst hf;exact h
 | i::p,t,s,h,hf=>by
  rw [TX.find] at hf
  split at hf
  ·cases hf
  ·split at hf
   ·cases hf
   ·rename_i k hk;exact fP p k s (h.sub k (List.mem_of_getElem? hk)) hf
theorem AN (a:Int):wrap64 (wrap64 a+1)=wrap64 (a+1):=by unfold wrap64;omega
theorem zV (h:t.find p=s.find (p.drop j)) (hn:s.find (p.drop j)=none):t.numW p=-1:=zT (h.trans hn)
theorem uF (t:TX) (A:Option Addr) (c:Nat) (p:List Int) (w:World) (h:Tr w w.heap.size t) (hp:aG w w.heap.size 1 A p.length (p.map (Value.int .i64))) (hl:p.length<=140737488351232):
  Calls Tryz.prog 89 #[t.val,.slice A p.length c] w (DP w (.int .i64 (t.numW p))):=by
 have HW0:Hid (Below w.heap.size w (w.alloc (.cells t.arr 99))):=(Below.refl _ w).alloc (Nat.le_refl _) _;have HX0:Hid (aK (w.alloc (.cells t.arr 99)) w.heap.size 99 t.arr):=aK.new w 99 _;have HP:=hD hp;have H:=hD h;unfold TX.val;clear h hp;go_enter Tryz.func89,Tryz.ntmps89;go_wp2_with fail;go_loopw [5,6] (fun n i wr=>∃ (j:Nat) (s:TX) (acc:Int),j<=p.length/\i=.int .i64 (j:Int)/\n=.int .i64 (wrap64 acc)/\Hid (t.num p=acc+s.num (p.drop j))/\Hid (t.find p=s.find (p.drop j))/\Hid (Tr w w.heap.size s)/\Hid (Below w.heap.size w wr)/\Hid (aK wr w.heap.size 99 s.arr)) (fun _ i _=>p.length - (intOf i).toNat)
 case atStart=>exact ⟨0,t,0,by omega,rfl,congrArg _ (IntWalk.wrap64_in 0 (by simp)).symm,by simp [Hid],rfl,H,HW0,HX0⟩
 case round=>
  obtain ⟨j,s,acc,hj,rfl,rfl,HN,HF,HS,HB,HX⟩:=hrel;have c3:=HX.out.cell 3;simp [TX.arr] at c3;by_cases hlt:j < p.length
  ·obtain ⟨x,hx⟩:∃ x,p[j]?=some x:=⟨_,List.getElem?_eq_getElem hlt⟩;obtain ⟨b1,o1,u1,rfl,-,hu1,g1⟩:=(HP.out.below HB.out).at1 hlt;obtain rfl:u1=.int .i64 x:=by rw [List.getElem?_map,hx] at hu1;simpa using hu1.symm
   have i0:(0:Int)<=(j:Int):=by omega
   have i1:(j:Int) < (p.length:Int):=by omega
   by_cases hin:0<=x/\x < s.kids.length
   ·obtain ⟨h0,h1⟩:=hin;obtain ⟨m,rfl⟩:∃ m:Nat,x=m:=⟨x.toNat,by omega⟩;have n1:decide ((m:Int) < 0)=false:=by simp
    have n2:decide (s.kids.length<=m)=false:=by simp;omega
    have n3:decide ((s.kids.length:Int)<=(m:Int))=false:=by simp;omega
    have hkb:=HS.out.kb;obtain ⟨k,hk⟩:∃ k,s.kids[m]?=some k:=⟨_,List.getElem?_eq_getElem (by omega)⟩;obtain ⟨ab,ao,hA,hab,-⟩:=(HS.out.low HB.out).at_ hk;rw [hA] at c3;have HA:=hD hA;have HNK:Hid (t.num p=acc+1+(cX s m:Int)+k.num (p.drop (j+1))):=by have:=HN.out;rw [Bk hx hk] at this;unfold Hid;omega
    have HFK:=hD (HF.out.trans (rG hx hk));have HSK:=hD (HS.out.sub k (List.mem_of_getElem? hk));have HK:=hD hk;have HU1:=hD hx;clear hu1 hx hA hk;go_wp2_with fail;go_quiet (fail);go_wp2_with fail;have HBq:Hid (Below w.heap.size w (wr.drewN nq)):=aN HB.out nq;have HXq:Hid (aK (wr.drewN nq) w.heap.size 99 s.arr):=HX.out.drewN nq;go_loopw [5,7] (fun n i wr=>∃ i':Nat,i'<=m/\i=.int .i64 (i':Int)/\n=.int .i64 (wrap64 (acc+1+(cX s i':Int)))/\Hid (Below w.heap.size w wr)/\Hid (aK wr w.heap.size 99 s.arr)) (fun _ i _=>m - (intOf i).toNat)
    case atStart=>exact ⟨0,by omega,rfl,by rw [tV];exact congrArg _ (by rw [AN];simp),HBq,HXq⟩
    case round=>
     obtain ⟨i,hi,rfl,rfl,HB2,HX2⟩:=hrel;clear c3 g1;have c3:=HX2.out.cell 3;simp [TX.arr] at c3;rw [HA.out] at c3;obtain ⟨b1',o1',u1,hbo,-,hu1,g1⟩:=(HP.out.below HB2.out).at1 hlt;obtain rfl:u1=.int .i64 (m:Int):=by rw [List.getElem?_map,HU1.out] at hu1;simpa using hu1.symm
     injection hbo with hbo;injection hbo with hbo1 hbo2;subst hbo1 hbo2;clear hu1;by_cases hlt2:i < m
     ·obtain ⟨l,hl'⟩:∃ l,s.kids[i]?=some l:=⟨_,List.getElem?_eq_getElem (by omega)⟩;obtain ⟨e0,e1,e2,e3⟩:=(HS.out.low HB2.out).c4 hl' HA.out;have HZ:=hD (cD hl');have HC2:=hD (qU l wr ((HS.out.sub l (List.mem_of_getElem? hl')).up (Nat.le_refl _) HB2.out));unfold pM TX.val at HC2;clear hl';go_wp2_with fail;refine (HC2.out).mono ?_;rintro e w2 ⟨rfl,hb2⟩;have HB3:=hD (HB2.out.trans (hb2.mono HB2.out.size));have HX3:=hD (HX2.out.below hb2 HX2.out.lt);clear hb2;go_wp2_with fail;go_roundw
      case rel=>exact ⟨i+1,by omega,by go_num,by rw [HZ.out];exact congrArg _ ((tG _ _).trans (congrArg _ (by omega))),HB3,HX3⟩
      case measure=>simp [intOf];omega
     ·obtain rfl:i=m:=by omega
      obtain ⟨e0,e1,e2,e3⟩:=(HS.out.low HB2.out).c4 HK.out HA.out;obtain ⟨hf0,hf1,hf2,hf3⟩:=HX2.out.f4;have b0:=HX2.out.cell 0;have b1':=HX2.out.cell 1;have b2:=HX2.out.cell 2;simp [TX.arr] at b0 b1' b2;have HBK:=hD (iG (aN HB2.out 1) (Nat.le_refl _) k);have HXK:=hD (lP (HX2.out.drewN 1) k);go_wp2_with fail;refine fE 8 (by kernel_rfl) (by kernel_rfl) _ rfl ?_;simp only [List.take_succ_cons,List.take_zero,List.drop_succ_cons,List.drop_zero]
      repeat (go_big_quiet_step (fail))
      refine wpQuiet_nil ?_;go_wp2_with fail;go_roundw
      case rel=>exact ⟨j+1,k,acc+1+(cX s i:Int),by omega,by go_num,rfl,HNK,HFK,HSK,HBK,HXK⟩
      case measure=>simp [intOf];omega
   ·have HE:=hD (zV HF.out (vJ hx (s:=s) (by omega)));have HD:Hid (decide (x < 0)=true\/(decide (x < 0)=false/\decide ((s.kids.length:Int)<=x)=true)):=by unfold Hid;simp;omega
    clear hu1 hx hin;rcases HD.out with q1 | ⟨q1,q2⟩
    all_goals
     go_wp2_with fail;go_quiet (fail);go_wp2_with fail;go_ret;exact ⟨by rw [HE.out];rfl,aN HB.out nq⟩
  ·have HN2:Hid (t.numW p=wrap64 acc):=by
    have h:=HN.out;have h2:=HF.out;rw [List.drop_eq_nil_of_le (by omega),TX.num] at h;rw [List.drop_eq_nil_of_le (by omega),TX.find] at h2;unfold Hid;rw [qZ h2,h];simp
   go_wp2_with fail;go_ret;exact ⟨by rw [HN2.out];rfl,HB.out⟩
end
end Go.Proofs.YtkgpoimmniojjaaGreat
