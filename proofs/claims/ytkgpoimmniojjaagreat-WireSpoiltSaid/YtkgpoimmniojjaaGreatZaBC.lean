/- No condition. -/
import Derived.Test.YtkgpoimmniojjaaGreatZaBA
import Derived.Test.YtkgpoimmniojjaaGreatZaAW
import Derived.Test.YtkgpoimmniojjaaGreatZaAZ
import Derived.WalkSmall
import Derived.Laws.EntriesVeiled
import Derived.Deep.RegionHeld3
import Derived.Test.YtkgpoimmniojjaaGreatZaAX
namespace Go.Proofs.YtkgpoimmniojjaaGreat
set_option linter.unusedVariables false
set_option linter.unusedSimpArgs false
set_option maxRecDepth 100000
set_option maxHeartbeats 16000000
section
open Go.RowKit
variable {w w' wr:World} {A:Option Addr} {n c K B base j g i c1 c2:Nat} {t k:TX} {a d:ByteArray} {e:TypeId} {kd:Int} {x:CX}
theorem kE (hK:K<=1000000000) (t:TX) (w:World) (h:Tr w w.heap.size t) (hbd:fG K t):Calls Tryz.prog 108 #[t.val] w (dI w (nP t/\vV t)):=by
 have HSH:Hid (∀ w',Below w.heap.size w w'->Calls Tryz.prog 126 #[t.val] w' (dI w' (nP t))):=fun w' hb=>nZ hK t w' (h.up (Nat.le_refl _) hb) hbd;have HLD:Hid (∀ w',Below w.heap.size w w'->Calls Tryz.prog 127 #[t.val] w' (dI w' (vV t))):=fun w' hb=>wZ hK t w' (h.up (Nat.le_refl _) hb) hbd;unfold TX.val at HSH HLD;unfold TX.val;obtain ⟨W,hW⟩:=nm (w.alloc (.cells #[.int .i64 t.kind,.string t.text,.slice t.lA t.leads.length t.lc,.slice t.kA t.kids.length t.kc] 99));have HB:=bw hW;have HX:=bk hW;have HZ:Hid (w.heap.size < W.heap.size):=HX.out.lt;have HT:=hD h;have HW:=hD hW;clear h hW;obtain ⟨x0,x1,x2,x3⟩:=HX.out.c4;go_enter Tryz.func108,Tryz.ntmps108;go_wp2_with (rw [HW.out]);(with_reducible refine (HSH.out _ HB.out).mono ?_);rintro r0 w1 ⟨b,rfl,hb1,hs⟩;have HX1:=hD (HX.out.below hb1 HX.out.lt);have HB1:=hD (aB HB.out hb1);have HS:=hD hs;clear hb1 hs x0 x1 x2 x3;obtain ⟨x0,x1,x2,x3⟩:=HX1.out.c4
 cases b
 ·go_wp2_with fail;go_ret;exact ⟨false,rfl,HB1.out,fun h=>(nomatch h)⟩
 ·go_wp2_with fail;(with_reducible refine (HLD.out _ HB1.out).mono ?_);rintro r0 w2 ⟨b,rfl,hb2,hl⟩;have HB2:=hD (aB HB1.out hb2);have HL:=hD hl;clear hb2 hl;go_wp2_with fail;go_ret;exact ⟨b,rfl,HB2.out,fun h=>⟨(by first | exact HS.out rfl | exact HS.out trivial),HL.out h⟩⟩
theorem wY (t:TX):∀ w:World,Tr w w.heap.size t->Calls Tryz.prog 109 #[t.val] w (dI w True):=by
 induction t using TX.ind with
 | h t ih=>
 intro w h;have HIH:=hD ih;have hkb:=h.kb;obtain ⟨kAq,hkA⟩:=nm t.kA;have HKA:=hD hkA;unfold TX.val;obtain ⟨W,hW⟩:=nm (w.alloc (.cells #[.int .i64 t.kind,.string t.text,.slice t.lA t.leads.length t.lc,.slice t.kA t.kids.length t.kc] 99));have HB:=bw hW;have HX:=bk hW;have HZ:Hid (w.heap.size < W.heap.size):=HX.out.lt;have HT:=hD h;have HW:=hD hW;clear h hW;rw [hkA] at HX HW ⊢;obtain ⟨x0,x1,x2,x3⟩:=HX.out.c4;clear ih hkA;go_enter Tryz.func109,Tryz.ntmps109;go_upto_region 2 with (rw [HW.out]);go_cut [0,41] (fun x0 x wq=>∃ b,x=.bool b/\W=wq)
 case first=>
  go_wp2_with fail
  all_goals
   go_meet;exact ⟨_,rfl,rfl⟩
 case rest=>
  obtain ⟨b,rfl,rfl⟩:=hcut
  cases b
  case true=>
   go_wp2_with fail;go_ret;exact ⟨false,rfl,HB.out,fun h=>(nomatch h)⟩
  case false=>
   clear x0 x1 x2 x3;go_wp2_with fail;go_loopw [4] (fun i wr=>∃ j:Nat,j<=t.kids.length/\i=.int .i64 (j:Int)/\Hid (Below w.heap.size w wr)/\Hid (aK wr w.heap.size 99 #[.int .i64 t.kind,.string t.text,.slice t.lA t.leads.length t.lc,.slice kAq t.kids.length t.kc])) (fun i _=>t.kids.length - (intOf i).toNat)
   case atStart=>exact ⟨0,by omega,rfl,HB,HX⟩
   case round=>
    clear HB HX;obtain ⟨j,hj,rfl,HB,HX⟩:=hrel;obtain ⟨x0,x1,x2,x3⟩:=HX.out.c4;by_cases hlt:j < t.kids.length
    ·obtain ⟨k,hk⟩:∃ k,t.kids[j]?=some k:=⟨_,List.getElem?_eq_getElem hlt⟩;obtain ⟨ab,ao,hA,hab,e0,e1,e2,e3⟩:=(HT.out.low HB.out).at_ hk;obtain rfl:kAq=some ⟨ab,ao,none⟩:=HKA.out.symm.trans hA;have HSC:Hid (Calls Tryz.prog 109 #[k.val] wr (dI wr True)):=HIH.out k (List.mem_of_getElem? hk) wr ((HT.out.sub k (List.mem_of_getElem? hk)).up (Nat.le_refl _) HB.out);unfold TX.val at HSC;have d:decide ((j:Int) < (t.kids.length:Int))=true:=decide_eq_true (by omega);have k0:(0:Int)<=(j:Int):=by omega
     have k1:(j:Int) < (t.kids.length:Int):=by omega
     clear hA hk;go_wp2_with fail;(with_reducible refine (HSC.out).mono ?_);rintro r0 w2 ⟨b,rfl,hb2,-⟩;have HB2:=hD (aB HB.out hb2);have HX2:=hD (HX.out.below hb2 HX.out.lt);clear hb2
     cases b
     ·go_wp2_with fail;go_ret;exact ⟨false,rfl,HB2.out,fun h=>(nomatch h)⟩
     ·go_wp2_with fail;go_roundw
      case rel=>exact ⟨j+1,by omega,by go_num,HB2,HX2⟩
      case measure=>simp [intOf];omega
    ·have d:decide ((j:Int) < (t.kids.length:Int))=false:=decide_eq_false (by omega);go_wp2_with fail;go_ret;exact ⟨true,rfl,HB.out,fun _=>trivial⟩
abbrev kU (K:Nat):List Ty:=[.str K,.str K]
theorem DW:cN Tryz.prog 181 2 32:=eC (by kernel_rfl)
theorem Dy:∃ e',Tryz.prog.underlying 178=some (.slice e'):=⟨_,Tryz.underlying178⟩
theorem kP (K:Nat):EK Tryz.prog 181 178 178 (kU K) 32:=⟨DW,Tryz.underlying178,Dy,by simp,rfl,by decide⟩
theorem wC {l:List ByteArray} (h:∀ b∈l,b.size<=K):Ts w B (kU K) (l.map Value.string):=fun j u t hu ht=>by
 have h2:j % 2=0\/j % 2=1:=by omega
 have ht:(kU K)[j % 2]?=some t:=ht;have ht:t=.str K:=by rcases h2 with h2 | h2 <;> rw [h2] at ht <;> simpa using ht.symm
 subst ht;rw [List.getElem?_map] at hu
 cases h1:l[j]? with
 | none=>rw [h1] at hu;cases hu
 | some s=>rw [h1] at hu;injection hu with hu;subst hu;exact .str _ _ (h s (List.mem_of_getElem? h1))
theorem cM {b:ByteArray} (ha:a.size<=K) (hb:b.size<=K):Ts w B (kU K) [.string a,.string b]:=wC (l:=[a,b]) (fun x hx=>by simp at hx;rcases hx with rfl | rfl <;> assumption)
theorem nH {b c:ByteArray} (ha:a.size<=K) (hb:b.size<=K) (hc:c.size<=K) (hd:d.size<=K):Ts w B (kU K) [.string a,.string b,.string c,.string d]:=wC (l:=[a,b,c,d]) (fun x hx=>by simp at hx;rcases hx with rfl | rfl | rfl | rfl <;> assumption)
theorem rY {b c e f:ByteArray} (ha:a.size<=K) (hb:b.size<=K) (hc:c.size<=K) (hd:d.size<=K) (he:e.size<=K) (hf:f.size<=K):Ts w B (kU K) [.string a,.string b,.string c,.string d,.string e,.string f]:=wC (l:=[a,b,c,d,e,f]) (fun x hx=>by simp at hx;rcases hx with rfl | rfl | rfl | rfl | rfl | rfl <;> assumption)
def pO (w:World) (base:Nat) (v:Value) (n m:Nat) (e:Ending) (w':World):Prop:=∃ A' n' c',e=.returned (.slice A' n' c')/\aJ w' base 181 (kU 110) (.slice A' n' c') n'/\n'<=n+m/\aR w w' v (.slice A' n' c')
def PC (t:TX):Prop:=∀ (w:World) (T0 base n c:Nat) (A:Option Addr),aJ w base 181 (kU 110) (.slice A n c) n->Tr w T0 t->T0<=base->base<=w.heap.size->fG 110 t->nP t->n+10*t.plain.size<=1000000->
 Calls Tryz.prog 148 #[.slice A n c,t.val] w (pO w base (.slice A n c) n (10*t.plain.size - 1))
structure PZ (w wr:World) (t:TX) (kd:Int) (base T0:Nat) (v0 v:Value) (n:Nat):Prop where
 own:aJ wr base 181 (kU 110) v n
 gr:aR w wr v0 v
 box:aK wr w.heap.size 99 #[.int .i64 kd,.string t.text,.slice t.lA t.leads.length t.lc,.slice t.kA t.kids.length t.kc]
 tr:Tr wr T0 t
 tb:T0<=base
 bw:base<=w.heap.size
 kd:t.kind=kd
 bd:fG 110 t
section
variable {w wr w':World} {t k:TX} {kd:Int} {base T0 n n' i:Nat} {v0 v v':Value}
theorem PZ.size (h:PZ w wr t kd base T0 v0 v n):base<=wr.heap.size:=by have:=h.bw;have:=h.box.lt;omega
theorem PZ.trw (h:PZ w wr t kd base T0 v0 v n):Tr wr wr.heap.size t:=h.tr.more (Nat.le_trans h.tb h.size)
theorem aJ.ne_blk {m:Nat} {t:TypeId} {fs:List Ty} {r:Value} {cs:Array Value} (hr:aJ wr base e fs r m) (hx:aK wr g t cs) (hne:e≠t):r.ownBlock≠some g:=fun e1=>by
 obtain ⟨xs,ho,-⟩:=hr;exact aX ho hx hne e1
theorem PZ.call (h:PZ w wr t kd base T0 v0 v n) (hg:aR wr w' v v') (ho:aJ w' base 181 (kU 110) v' n'):PZ w w' t kd base T0 v0 v' n':=
 ⟨ho,h.gr.trans hg,hg.blk h.box (h.own.ne_blk h.box (by decide)),h.tr.low (hg.below (Nat.le_trans h.tb h.size) (fun g e=>Nat.le_trans h.tb (h.own.from_ g e))),h.tb,h.bw,h.kd,h.bd⟩
theorem PZ.below (h:PZ w wr t kd base T0 v0 v n) (hb:Below wr.heap.size wr w'):PZ w w' t kd base T0 v0 v n:=h.call (aR.of_below v hb) (h.own.up hb)
theorem PZ.push {o:Obj} (h:PZ w wr t kd base T0 v0 v n) (hg:aR (wr.alloc o) w' v v') (ho:aJ w' base 181 (kU 110) v' n'):PZ w w' t kd base T0 v0 v' n':=
 h.call ((aR.of_below v (bK (Below.refl _ _) o)).trans hg) ho
theorem PZ.lead (h:PZ w wr t kd base T0 v0 v n) (z:Int) (hz:0<=z):Calls Tryz.prog 166 #[.agg #[.int .i64 kd,.string t.text,.slice t.lA t.leads.length t.lc,.slice t.kA t.kids.length t.kc],.int .i64 z] wr (bH wr 110):=by
 obtain ⟨m,rfl⟩:∃ m:Nat,z=m:=⟨z.toNat,by omega⟩;have:=Ae t m 110 wr h.trw h.bd.lead;unfold TX.val at this;rwa [h.kd] at this
theorem PZ.kid (h:PZ w wr t kd base T0 v0 (.slice A n c) n) (hih:∀ k∈t.kids,PC k) (hk:t.kids[i]?=some k) (hs:nP t) (hn:n+10*k.plain.size<=1000000):
  Calls Tryz.prog 148 #[.slice A n c,.agg #[.int .i64 k.kind,.string k.text,.slice k.lA k.leads.length k.lc,.slice k.kA k.kids.length k.kc]] wr (pO wr base (.slice A n c) n (10*k.plain.size - 1)):=by
 have hm:=List.mem_of_getElem? hk;have hsk:nP k:=by cases hs with | mk _ _ sub=>exact sub k hm
 exact hih k hm wr T0 base n c A h.own (h.tr.sub k hm) h.tb h.size (h.bd.sub k hm) hsk hn
theorem PZ.new (ho:aJ w base 181 (kU 110) (.slice A n c) n) (ht:Tr w T0 t) (h0:T0<=base) (hb:base<=w.heap.size) (hbd:fG 110 t) (hk:t.kind=kd):
  PZ w (w.alloc (.cells #[.int .i64 kd,.string t.text,.slice t.lA t.leads.length t.lc,.slice t.kA t.kids.length t.kc] 99)) t kd base T0 (.slice A n c) (.slice A n c) n:=
 ⟨ho.alloc _,(aR.refl _ _).alloc _,aK.new _ _ _,ht.low ((Below.refl _ _).alloc (Nat.le_trans h0 hb) _),h0,hb,hk,hbd⟩
theorem PZ.ne_box (h:PZ w wr t kd base T0 v0 v n):¬ v.ownBlock=some w.heap.size:=h.own.ne_blk h.box (by decide)
theorem PZ.ne_kid (h:PZ w wr t kd base T0 v0 v n) {ab:Nat} (hab:ab < T0):¬ v.ownBlock=some ab:=fun e=>by
 have h1:=h.own.from_ _ e;have h2:=h.tb;omega
end
theorem cE (t:TX) (h:i<=j):cX t i<=cX t j:=by
 induction h with
 | refl=>exact Nat.le_refl _
 | step h ih=>
  rename_i j;refine Nat.le_trans ih ?_
  cases hk:t.kids[j]? with
  | some k=>rw [cD hk];omega
  | none=>
   have:t.kids.length<=j:=List.getElem?_eq_none_iff.1 hk;unfold cX;rw [List.take_of_length_le this,List.take_of_length_le (by omega)];exact Nat.le_refl _
theorem Cv (hih:∀ k∈t.kids,PC k) (hsh:nP t) (hkd:t.kind=kd) {T0 a b z:Nat} (w:World) (ho:aJ w base 181 (kU 110) (.slice A n c) n) (ht:Tr w T0 t) (h0:T0<=base) (hb:base<=w.heap.size) (hbd:fG 110 t) (hab:b<=t.kids.length) (hba:a<=b) (hz:z<=100) (hn:n+10*(cX t b - cX t a)<=999999):
  Calls Tryz.prog 167 #[.slice A n c,.agg #[.int .i64 kd,.string t.text,.slice t.lA t.leads.length t.lc,.slice t.kA t.kids.length t.kc],.int .i64 (a:Int),.int .i64 (b:Int),.int .i64 (z:Int)] w (pO w base (.slice A n c) n (10*(cX t b - cX t a))):=by
 have HIH:=hD hih;have HSH:=hD hsh;have hkb:=ht.kb;obtain ⟨W,hW⟩:=nm (w.alloc (.cells #[.int .i64 kd,.string t.text,.slice t.lA t.leads.length t.lc,.slice t.kA t.kids.length t.kc] 99));have HZ:Hid (PZ w W t kd base T0 (.slice A n c) (.slice A n c) n):=by rw [<- hW];exact PZ.new ho ht h0 hb hbd hkd
 have HW:=hD hW;clear hih hsh hkd ho ht h0 hb hbd hW;go_enter Tryz.func167,Tryz.ntmps167;go_wp2_with (rw [HW.out]);clear HW;go_loopw [0,11] (fun l i wr=>∃ (j m d:Nat) (D:Option Addr),a<=j/\j<=b/\i=.int .i64 (j:Int)/\l=.slice D m d/\Hid (PZ w wr t kd base T0 (.slice A n c) (.slice D m d) m)/\Hid (m<=n+10*(cX t j - cX t a)/\cX t a<=cX t j)) (fun _ i _=>b - (intOf i).toNat)
 case atStart=>exact ⟨a,n,c,A,Nat.le_refl _,hba,rfl,rfl,HZ,by simp,Nat.le_refl _⟩
 case round=>
  clear HZ;obtain ⟨j,m,d,D,haj,hjb,rfl,rfl,HZ,HM⟩:=hrel;by_cases hlt:j < b
  ·obtain ⟨k,hk⟩:∃ k,t.kids[j]?=some k:=⟨_,List.getElem?_eq_getElem (by omega)⟩;have hsz:=cD hk;have hmn:=cE t (show j+1<=b by omega);have hps:1<=k.plain.size:=by rw [TX.plain_eq,T.size];omega
   have d1:decide ((j:Int) < (b:Int))=true:=decide_eq_true (by omega);have j0:(0:Int)<=(j:Int):=by omega
   have j1:(j:Int) < (t.kids.length:Int):=by omega
   obtain ⟨hm1,hm2⟩:=HM.out;by_cases haj2:a < j
   ·have d2:decide ((a:Int) < (j:Int))=true:=decide_eq_true (by omega);obtain ⟨x0,x1,x2,x3⟩:=HZ.out.box.c4;have HL:=hD (fun z hz=>HZ.out.lead z hz);go_wp2_with fail;(with_reducible refine (HL.out _ (by omega)).mono ?_);rintro r0 w1 ⟨s,rfl,hs,hb1⟩;have HZ1:=hD (HZ.out.below hb1);have HO1:=hD HZ1.out.own;have HT1:=hD (cM (w:=w1) (B:=w1.heap.size) hs (show (⟨#[44]⟩:ByteArray).size<=110 by decide));have HB1:=hD HZ1.out.size;clear hb1 x0 x1 x2 x3 HZ HL;go_wp2_with (at_builtin;refine p1 (kP 110) rfl rfl base (.slice D m d) m rfl HO1.out 181 _ 1 1 rfl rfl rfl HT1.out (by omega) HB1.out ?_);intro A7 c7 w7 hown7 hg7 hb7;have HZ:=hD (HZ1.out.push hg7 hown7);clear hown7 hg7 hb7 HO1 HT1 HZ1 HB1;have HKC:=hD (HZ.out.kid HIH.out hk HSH.out (by omega));obtain ⟨ab,ao,hA,hab',e0,e1,e2,e3⟩:=HZ.out.tr.at_ hk;obtain ⟨x0,x1,x2,x3⟩:=HZ.out.box.c4;rw [hA] at x3;have HK:=hD hk;clear hA hk;go_wp2_with fail;(with_reducible refine (HKC.out).mono ?_);rintro r0 w8 ⟨A8,n8,c8,rfl,hown8,hn8,hg8⟩;have HZ8:=hD (HZ.out.call hg8 hown8);have hn9:n8<=n+10*(cX t (j+1) - cX t a):=by omega
    have HN9:=hD (show n8<=n+10*(cX t (j+1) - cX t a)/\cX t a<=cX t (j+1) from ⟨hn9,by omega⟩);clear hown8 hg8 hn8 hn9 hsz hmn hps;go_wp2_with fail;go_roundw
    case rel=>exact ⟨j+1,n8,c8,A8,by omega,by omega,by go_num,rfl,HZ8,HN9⟩
    case measure=>simp [intOf];omega
   ·have d2:decide ((a:Int) < (j:Int))=false:=decide_eq_false (by omega);have HKC:=hD (HZ.out.kid HIH.out hk HSH.out (by omega));obtain ⟨ab,ao,hA,hab',e0,e1,e2,e3⟩:=HZ.out.tr.at_ hk;obtain ⟨x0,x1,x2,x3⟩:=HZ.out.box.c4;rw [hA] at x3;have HK:=hD hk;clear hA hk;go_wp2_with fail;(with_reducible refine (HKC.out).mono ?_);rintro r0 w8 ⟨A8,n8,c8,rfl,hown8,hn8,hg8⟩;have HZ8:=hD (HZ.out.call hg8 hown8);have hn9:n8<=n+10*(cX t (j+1) - cX t a):=by omega
    have HN9:=hD (show n8<=n+10*(cX t (j+1) - cX t a)/\cX t a<=cX t (j+1) from ⟨hn9,by omega⟩);clear hown8 hg8 hn8 hn9 hsz hmn hps;go_wp2_with fail;go_roundw
    case rel=>exact ⟨j+1,n8,c8,A8,by omega,by omega,by go_num,rfl,HZ8,HN9⟩
    case measure=>simp [intOf];omega
  ·have d1:decide ((j:Int) < (b:Int))=false:=decide_eq_false (by omega);obtain rfl:j=b:=by omega
   obtain ⟨hm1,hm2⟩:=HM.out;go_wp2_with fail;go_ret;exact ⟨D,m,d,rfl,HZ.out.own,hm1,HZ.out.gr⟩
theorem PZ.row {T0 a b z:Nat} {za zb zz:Int} {v0:Value} (h:PZ w wr t kd base T0 v0 (.slice A n c) n) (hih:∀ k∈t.kids,PC k) (hs:nP t) (ha:za=(a:Int)) (hb:zb=(b:Int)) (hc:zz=(z:Int)) (hab:b<=t.kids.length) (hba:a<=b) (hz:z<=100) (hn:n+10*(cX t b - cX t a)<=999999):
  Calls Tryz.prog 167 #[.slice A n c,.agg #[.int .i64 kd,.string t.text,.slice t.lA t.leads.length t.lc,.slice t.kA t.kids.length t.kc],.int .i64 za,.int .i64 zb,.int .i64 zz] wr (pO wr base (.slice A n c) n (10*(cX t b - cX t a))):=by
 subst ha hb hc;exact Cv hih hs h.kd wr h.own h.tr h.tb h.size h.bd hab hba hz hn
mutual
def T.paths:T->List Int->List (List Int)
 | .node _ _ _ ks,p=>p::T.pathss ks p 0
def T.pathss:List T->List Int->Nat->List (List Int)
 | [],_,_=>[]
 | k::ks,p,i=>T.paths k (p++[(i:Int)])++T.pathss ks p (i+1)
end
theorem kF:∀ (a b:List T) (p:List Int) (i:Nat),T.pathss (a++b) p i=T.pathss a p i++T.pathss b p (i+a.length)
 | [],b,p,i=>by rw [List.nil_append,T.pathss];simp
 | k::a,b,p,i=>by
  rw [List.cons_append,T.pathss,T.pathss,kF a b p (i+1),List.append_assoc,List.length_cons,show i+1+a.length=i+(a.length+1) by omega]
theorem gK (t:TX) (p:List Int):t.plain.paths p=p::T.pathss (t.kids.map TX.plain) p 0:=by rw [TX.plain_eq,T.paths]
theorem uO (h:t.kids[j]?=some k) (p:List Int):T.pathss ((t.kids.take (j+1)).map TX.plain) p 0=T.pathss ((t.kids.take j).map TX.plain) p 0++k.plain.paths (p++[(j:Int)]):=by
 have hj:=(List.getElem?_eq_some_iff.1 h).1;rw [List.take_add_one,h];simp only [Option.toList,List.map_append,List.map_cons,List.map_nil];rw [kF,T.pathss,T.pathss,List.append_nil,List.length_map,List.length_take]
 congr 3
 have:0+min j t.kids.length=j:=by omega
 rw [this]
theorem jI (t:T):∀ p,(t.paths p).length=t.size:=by
 refine T.rec (motive_1:=fun t=>∀ p,(t.paths p).length=t.size) (motive_2:=fun l=>∀ p i,(T.pathss l p i).length=T.sizes l) ?_ ?_ ?_ t
 ·intro k s l ks ih p;rw [T.paths,T.size,List.length_cons,ih];omega
 ·intro p i;rw [T.pathss,T.sizes];rfl
 ·intro k ks h1 h2 p i;rw [T.pathss,T.sizes,List.length_append,h1,h2]
structure PW where
 A:Option Addr
 c:Nat
 l:List Int
def PW.head (x:PW):Value:=.slice x.A x.l.length x.c
theorem oV (l:List Int):∀ u∈l.map (Value.int .i64),u.oneCell'=true:=fun u hu=>by
 obtain ⟨x,-,rfl⟩:=List.mem_map.1 hu;rfl
theorem nI {size:Nat} {xs:List Value} (h:w.ownsRow base e size (.slice A n c) n xs):n<=c:=by
 rcases h.2 with ⟨h1,-⟩ | ⟨g',cap',cur,h1,-,-,h2,-⟩
 ·injection h1 with _ e2 e3;omega
 ·injection h1 with _ _ e3;omega
theorem oX:(Tryz.prog.info? 3).map (fun i=>(i.zero,i.size,i.bytes))=some (some (.int .i64 0),1,8):=by kernel_rfl
theorem jJ:(Tryz.prog.info? 36).map (fun i=>(i.zero,i.size,i.bytes))=some (some (.slice none 0 0),1,24):=by kernel_rfl
theorem CS {t:TypeId} {z:Value} {s b:Nat} (h:(Tryz.prog.info? t).map (fun i=>(i.zero,i.size,i.bytes))=some (some z,s,b)):∃ i,Tryz.prog.info? t=some i/\i.zero=some z/\i.size=s/\i.bytes=b:=by
 obtain ⟨i,hi,hr⟩:=Option.map_eq_some_iff.1 h;injection hr with h1 h2;injection h2 with h2 h3;exact ⟨i,hi,h1,h2,h3⟩
theorem lZ (h:t.kids[j]?=some k):1+cX t j+k.plain.size<=t.plain.size:=by
 have h1:=cD h;have h2:=cO t t.kids.length (Nat.le_refl _);have h3:cX t (j+1)<=cX t t.kids.length:=by
  unfold cX;have hj:=(List.getElem?_eq_some_iff.1 h).1;have e:t.kids.take t.kids.length=t.kids.take (j+1)++t.kids.drop (j+1):=by rw [List.take_length,List.take_append_drop]
  rw [e,List.map_append,T.sizes_append];omega
 omega
theorem qV (t:TX):1<=t.plain.size:=by rw [TX.plain_eq,T.size];omega
theorem aK.new' (t:TypeId) (cs:Array Value) (h:w.heap.size=g):aK (w.alloc (.cells cs t)) g t cs:=h ▸ aK.new w t cs
def PR (w:World) (A:Option Addr) (xs:List PW):Prop:=aG w w.heap.size 1 A xs.length (xs.map PW.head)/\∀ x∈xs,aG w w.heap.size 1 x.A x.l.length (x.l.map (Value.int .i64))
theorem PR.up {xs:List PW} (h:PR w A xs) (hb:Below w.heap.size w w'):PR w' A xs:=
 ⟨(h.1.below hb).more hb.size,fun x hx=>((h.2 x hx).below hb).more hb.size⟩
def pP (w:World) (L:List (List Int)) (e:Ending) (w':World):Prop:=∃ A c xs,e=.returned (.slice A xs.length c)/\PR w' A xs/\xs.map PW.l=L/\Below w.heap.size w w'/\(∀ ad,A=some ad->w.heap.size<=ad.block)/\(∀ x∈xs,∀ ad,x.A=some ad->0 < x.l.length->w.heap.size<=ad.block)/\∀ x∈xs,x.l.length<=x.c
def tD (base:Nat) (w:World) (v:Value) (A:Option Addr) (P:List Int):Prop:=aG w w.heap.size 1 A P.length (P.map (Value.int .i64))/\∀ ad,A=some ad->0 < P.length->v.ownBlock≠some ad.block/\base<=ad.block
structure BS (w:World) (base:Nat) (v:Value) (xs:List PW):Prop where
 row:w.ownsRow base 36 1 v xs.length (xs.map PW.head)
 lb:base<=w.heap.size
 each:∀ x∈xs,tD base w v x.A x.l
 cap:∀ x∈xs,x.l.length<=x.c
section
variable {w w':World} {base:Nat} {v v':Value} {xs:List PW} {A:Option Addr} {P:List Int}
theorem tD.lt (h:tD base w v A P):∀ ad,A=some ad->0 < P.length->ad.block < w.heap.size:=fun ad e hn=>by
 obtain ⟨ad',e',hb,-⟩:=h.1.2 hn;rw [e] at e';injection e' with e';subst e';exact hb
theorem tD.grows (h:tD base w v A P) (hg:aR w w' v v'):tD base w' v' A P:=by
 refine ⟨(h.1.keepS (S:=fun b=>v.ownBlock≠some b) (fun ad e hn=>(h.2 ad e hn).1) (fun p hp hp2=>World.cell?_of_block (hg.grown.block p.block hp2 (fun e=>hp e.symm)))).more hg.size,fun ad e hn=>⟨fun e2=>?_,(h.2 ad e hn).2⟩⟩;rcases hg.own _ e2 with h1 | h1
 ·exact (h.2 ad e hn).1 h1
 ·have:=h.lt ad e hn;omega
theorem tD.up (h:tD base w v A P) (hb:Below w.heap.size w w'):tD base w' v A P:=⟨(h.1.below hb).more hb.size,h.2⟩
theorem BS.up (h:BS w base v xs) (hb:Below w.heap.size w w'):BS w' base v xs:=
 ⟨eV h.row hb (cK h.row),Nat.le_trans h.lb hb.size,fun x hx=>tD.up (h.each x hx) hb,h.cap⟩
theorem BS.push {x:PW} (h:BS w base v xs) (hx:tD base w v x.A x.l) (hcx:x.l.length<=x.c) (hg:aR w w' v v') (ho:w'.ownsRow base 36 1 v' (xs.length+1) (xs.map PW.head++[x.head])):BS w' base v' (xs++[x]):=
 ⟨by rw [List.length_append,List.map_append];exact ho,Nat.le_trans h.lb hg.size,fun y hy=>by
  rcases List.mem_append.1 hy with hy | hy
  ·exact tD.grows (h.each y hy) hg
  ·simp at hy;subst hy;exact tD.grows hx hg,fun y hy=>by
  rcases List.mem_append.1 hy with hy | hy
  ·exact h.cap y hy
  ·simp at hy;subst hy;exact hcx⟩
end
def Cd (w:World) (base:Nat) (v:Value) (xs:List PW) (t:TX) (P:List Int) (e:Ending) (w':World):Prop:=
 ∃ v' ys,e=.returned v'/\aR w w' v v'/\BS w' base v' (xs++ys)/\ys.map PW.l=t.plain.paths P
theorem gS {w1 w2:World} {v u u':Value} (hb:Below w.heap.size w w1) (hg:aR w1 w2 u u') (hu:∀ g,u.ownBlock=some g->w.heap.size<=g):Below w.heap.size w w2:=
 hb.grown hg.grown hb.size hu
theorem oL {e:Nat} {l:List Value} (h:w.ownsRow base e 1 (.slice A (0+n) c) (0+n) ([]++l)):w.ownsRow base e 1 (.slice A n c) n l:=by simpa using h
theorem oR (h:n<=w.heap.size) (o:Obj):n<=(w.alloc o).heap.size:=by simp;omega
theorem sH (x:Int):∀ u∈[Value.int .i64 x],u.oneCell'=true:=fun u hu=>by simp at hu;subst hu;rfl
theorem tX {tx e':TypeId} {gi:Nat} {x:Int} {v v':Value} (hu:Tryz.prog.underlying tx=some (.slice e')) (hb:aK w gi 3 [Value.int .i64 x].toArray) (hg:aR w w' v v') (hne:v.ownBlock≠some gi) (h1:∀ u∈[Value.int .i64 x],u.oneCell'=true):Src Tryz.prog 1 tx (.slice (some ⟨gi,0,none⟩) 1 1) 1 [.int .i64 x] w':=
 cQ w' hu 1 (eD (hg.blk hb hne) rfl) h1
theorem yP {v:Value} {P:List Int} {j:Int} (hv:∀ g,v.ownBlock=some g->g < w.heap.size) (hr:aG w' w'.heap.size 1 A (P.length+1) (P.map (Value.int .i64)++[.int .i64 j])) (hb:∀ a,A=some a->w.heap.size<=a.block/\a.spot=none/\a.off=0) (hz:base<=w.heap.size):tD base w' v A (P++[j]):=
 ⟨by rw [List.length_append,List.map_append];exact hr,fun ad e hn=>⟨fun e2=>by have:=hv _ e2;have:=(hb ad e).1;omega,by have:=(hb ad e).1;omega⟩⟩
theorem oI:∀ (l:List T) (p:List Int) (i:Nat),(T.pathss l p i).length=T.sizes l
 | [],p,i=>by rw [T.pathss,T.sizes];rfl
 | a::l,p,i=>by rw [T.pathss,T.sizes,List.length_append,oI l,jI]
theorem xR (t:TX):∀ (w:World) (T0 base vc pc:Nat) (vA pA:Option Addr) (xs:List PW) (P:List Int),BS w base (.slice vA xs.length vc) xs->Tr w T0 t->T0<=base->tD base w (.slice vA xs.length vc) pA P->P.length<=pc->xs.length+t.plain.size<=1000000->P.length+t.plain.size<=1000000->
  Calls Tryz.prog 88 #[.slice vA xs.length vc,t.val,.slice pA P.length pc] w (Cd w base (.slice vA xs.length vc) xs t P):=by
 induction t using TX.ind with
 | h t ih=>
 intro w T0 base vc pc vA pA xs P h ht h3 hp hpcap hn hpl;unfold TX.val;have hkb:=ht.kb;have hpos:=qV t;obtain ⟨W,hW⟩:=nm (w.alloc (.cells #[.int .i64 t.kind,.string t.text,.slice t.lA t.leads.length t.lc,.slice t.kA t.kids.length t.kc] 99));have HBW:=bw hW;have HX:Hid (aK W w.heap.size 99 t.arr):=by subst hW;exact aK.new w 99 _
 obtain ⟨W1,hW1⟩:=nm (W.alloc (.cells #[.slice pA P.length pc] 36));have HB1:=bw hW1;have HBW1:=hD (HBW.out.trans (HB1.out.mono HBW.out.size));have HX1:=hD (HX.out.below HB1.out HX.out.lt);have HS1:=hD (h.up HBW1.out);have HP1:=hD (hp.up HBW1.out);have HIH:=hD ih;have HT:=hD ht;have HOL:=hD (cK h.row);have HOF:=hD (aU h.row);have HLO:=hD h.lb;obtain ⟨i3,a1,a2,a3,a4⟩:=CS oX;obtain ⟨i26,b1,b2,b3,b4⟩:=CS jJ;have HI3:=hD a1;have HI3z:=hD a2;have HI3s:=hD a3;have HI3b:=hD a4;have HP0:=hD b1;have HP0z:=hD b2;have HP0s:=hD b3;have HP0b:=hD b4;have HSN:Hid (Src Tryz.prog 1 95 (.slice (some ⟨W.heap.size,0,none⟩) 1 1) 1 [.slice pA P.length pc] W1):=by subst hW1;exact bR W Tryz.underlying95 [.slice pA P.length pc] 1 1 1 36 rfl (by intro u hu;simp at hu;subst hu;rfl)
 have HL3:Hid (xs.length+1<=maxLen):=by unfold Hid maxLen;omega
 have HL4:Hid ((xs.length+1)*24<=140737488355328):=by unfold Hid;omega
 have HLB:=hD HS1.out.lb;clear h ih ht hp a1 a2 a3 a4 b1 b2 b3 b4;go_enter Tryz.func88,Tryz.ntmps88;go_wp2_with (at_builtin;refine aF _ rfl (.tmp 8) (.tmp 10) 95 95 rfl base 36 i26 (.slice none 0 0) 1 24 Tryz.underlying95 HP0.out HP0z.out HP0s.out HP0b.out rfl (by decide) (.slice vA xs.length vc) xs.length (xs.map PW.head) rfl HS1.out.row (.slice (some ⟨W.heap.size,0,none⟩) 1 1) 1 [.slice pA P.length pc] rfl HSN.out HL3.out HL4.out HLB.out ?_);intro v2 w2 hown2 hg2;obtain ⟨A2,c2,rfl,-,-⟩:=aS hown2;have HG2:Hid (aR w w2 (.slice vA xs.length vc) (.slice A2 (xs.length+1) c2)):=(aR.of_below _ HBW1.out).trans hg2;have HS2:Hid (BS w2 base (.slice A2 (xs.length+1) c2) (xs++[⟨pA,pc,P⟩])):=HS1.out.push (x:=⟨pA,pc,P⟩) HP1.out hpcap hg2 hown2;have HP2:Hid (tD base w2 (.slice A2 (xs.length+1) c2) pA P):=HP1.out.grows hg2;have HX2:Hid (aK w2 w.heap.size 99 t.arr):=hg2.blk HX1.out (fun e=>by have:=HOL.out _ e;omega);have HY0:Hid (([⟨pA,pc,P⟩]:List PW).map PW.l=P::T.pathss ((t.kids.take 0).map TX.plain) P 0):=by unfold Hid;rw [List.take_zero,List.map_nil,T.pathss,List.map_cons,List.map_nil]
 have HWW:=hD (And.intro hW hW1);clear hown2 hg2 hW hW1;obtain ⟨kAq,hkA⟩:=nm t.kA;have HKA:=hD hkA;clear hkA;go_wp2_with fail;go_loopw [0,7] (fun l i wr=>∃ (j n c:Nat) (A:Option Addr) (ys:List PW),j<=t.kids.length/\i=.int .i64 (j:Int)/\l=.slice A n c/\n=(xs++ys).length/\Hid (aR w wr (.slice vA xs.length vc) (.slice A n c))/\Hid (BS wr base (.slice A n c) (xs++ys))/\Hid (tD base wr (.slice A n c) pA P)/\Hid (aK wr w.heap.size 99 t.arr)/\Hid (ys.map PW.l=P::T.pathss ((t.kids.take j).map TX.plain) P 0)) (fun _ i _=>t.kids.length - (intOf i).toNat)
 case atStart=>exact ⟨0,_,c2,A2,[⟨pA,pc,P⟩],by omega,rfl,rfl,by simp,HG2,HS2,HP2,HX2,HY0⟩
 case round=>
  obtain ⟨j,n,c,A,ys,hj,rfl,rfl,hnl,HG3,HS3,HP3,HX3,HY⟩:=hrel;have HNL:=hD hnl;clear hnl;have d3:=HX3.out.cell 3;simp [TX.arr] at d3;rw [HKA.out] at d3;by_cases hlt:j < t.kids.length
  ·obtain ⟨k,hk⟩:∃ k,t.kids[j]?=some k:=⟨_,List.getElem?_eq_getElem hlt⟩;have hlb3:=HS3.out.lb;have HBT:Hid (Below T0 w wr):=HG3.out.below (by have:=HG3.out.size;have:=HBW.out.size;have:=HLO.out;omega) (fun g e=>by have:=HOF.out g e;omega);obtain ⟨ab,ao,hA,hab,e0,e1,e2,e3⟩:=(HT.out.low HBT.out).at_ hk;obtain rfl:kAq=some ⟨ab,ao,none⟩:=HKA.out.symm.trans hA;have hszk:=lZ hk;have hlen:ys.length=1+cX t j:=by
    have:=congrArg List.length HY.out;rw [List.length_map,List.length_cons,oI] at this;rw [this];unfold cX;omega
   have hnl:=HNL.out;rw [List.length_append] at hnl;have HOL3:=hD (cK HS3.out.row);have HBZ:Hid (base<=wr.heap.size):=HS3.out.lb;have HM1:Hid (P.length+1<=maxLen):=by unfold Hid maxLen;omega
   have HM2:Hid ((P.length+1)*8<=140737488355328):=by unfold Hid;omega
   have HM3:Hid (0+P.length<=maxLen):=by unfold Hid maxLen;omega
   have HM4:Hid ((0+P.length)*8<=140737488355328):=by unfold Hid;omega
   have HSK:Hid (∀ w':World,Below wr.heap.size wr w'->w'.cell? ⟨w.heap.size,3,none⟩=some (.slice (some ⟨ab,ao,none⟩) t.kids.length t.kc)/\w'.cell? ⟨ab,ao+j*4,none⟩=some (.int .i64 k.kind)/\w'.cell? ⟨ab,ao+j*4+1,none⟩=some (.string k.text)/\w'.cell? ⟨ab,ao+j*4+2,none⟩=some (.slice k.lA k.leads.length k.lc)/\w'.cell? ⟨ab,ao+j*4+3,none⟩=some (.slice k.kA k.kids.length k.kc)):=fun w' hw=>by
    have r1:=HX3.out.below hw HX3.out.lt;have r3:=((HT.out.low HBT.out).low (hw.mono (Nat.le_trans h3 hlb3))).c4 hk HKA.out;exact ⟨by rw [r1.cell];show some (Value.slice t.kA _ _)=_;rw [HKA.out],r3.1,r3.2.1,r3.2.2.1,r3.2.2.2⟩
   have HNB:Hid ((Value.slice A n c).ownBlock≠some w.heap.size):=aX HS3.out.row HX3.out (by decide);have HOF3:=hD (aU HS3.out.row);have HXG:Hid (∀ (w30 w':World) (v':Value),Below wr.heap.size wr w30->aR w30 w' (.slice A n c) v'->aK w' w.heap.size 99 t.arr):=fun w30 w' v' hw hg=>hg.blk (HX3.out.below hw HX3.out.lt) HNB.out;have HSG:Hid (∀ (w30 w':World) (v':Value),Below wr.heap.size wr w30->aR w30 w' (.slice A n c) v'->w'.cell? ⟨w.heap.size,3,none⟩=some (.slice (some ⟨ab,ao,none⟩) t.kids.length t.kc)/\w'.cell? ⟨ab,ao+j*4,none⟩=some (.int .i64 k.kind)/\w'.cell? ⟨ab,ao+j*4+1,none⟩=some (.string k.text)/\w'.cell? ⟨ab,ao+j*4+2,none⟩=some (.slice k.lA k.leads.length k.lc)/\w'.cell? ⟨ab,ao+j*4+3,none⟩=some (.slice k.kA k.kids.length k.kc)):=fun w30 w' v' hw hg=>by
    have r1:=HXG.out w30 w' v' hw hg;have r2:Below T0 w30 w':=hg.below (Nat.le_trans (Nat.le_trans h3 hlb3) hw.size) (fun g e=>by have:=HOF3.out g e;omega);have r3:=(((HT.out.low HBT.out).low (hw.mono (Nat.le_trans h3 hlb3))).low r2).c4 hk HKA.out;exact ⟨by rw [r1.cell];show some (Value.slice t.kA _ _)=_;rw [HKA.out],r3.1,r3.2.1,r3.2.2.1,r3.2.2.2⟩
   have HD:Hid (Below wr.heap.size wr wr.drew):=aN (Below.refl _ _) 1;have HDa:Hid (Below wr.heap.size wr (wr.drew.alloc (.cells #[] 3))):=HD.out.alloc HD.out.size _;have HDi:Hid (Below wr.heap.size wr (wr.drew.alloc (.cells #[.int .i64 (j:Int)] 3))):=HD.out.alloc HD.out.size _;have HDai:Hid (Below wr.heap.size wr ((wr.drew.alloc (.cells #[] 3)).alloc (.cells #[.int .i64 (j:Int)] 3))):=HDa.out.alloc HDa.out.size _;have HDia:Hid (Below wr.heap.size wr ((wr.drew.alloc (.cells #[.int .i64 (j:Int)] 3)).alloc (.cells #[] 3))):=HDi.out.alloc HDi.out.size _;have HOa:Hid ((wr.drew.alloc (.cells #[] 3)).ownsRow wr.heap.size 3 1 (.slice (some ⟨wr.heap.size,0,none⟩) 0 0) 0 []):=⟨rfl,.inr ⟨wr.heap.size,0,#[],rfl,Nat.le_refl _,aK.new wr.drew 3 #[],Nat.le_refl _,Nat.zero_le _,rfl,rfl⟩⟩;have HOb:Hid (((wr.drew.alloc (.cells #[] 3)).alloc (.cells #[.int .i64 (j:Int)] 3)).ownsRow wr.heap.size 3 1 (.slice (some ⟨wr.heap.size,0,none⟩) 0 0) 0 []):=HOa.out.alloc _;have HOc:Hid (((wr.drew.alloc (.cells #[.int .i64 (j:Int)] 3)).alloc (.cells #[] 3)).ownsRow wr.heap.size 3 1 (.slice (some ⟨wr.heap.size+1,0,none⟩) 0 0) 0 []):=⟨rfl,.inr ⟨wr.heap.size+1,0,#[],rfl,Nat.le_succ _,aK.new' 3 #[] (by simp),Nat.le_refl _,Nat.zero_le _,rfl,rfl⟩⟩;have HKb:Hid (aK ((wr.drew.alloc (.cells #[] 3)).alloc (.cells #[.int .i64 (j:Int)] 3)) (wr.heap.size+1) 3 [Value.int .i64 (j:Int)].toArray):=aK.new' 3 _ (by simp);have HKc:Hid (aK ((wr.drew.alloc (.cells #[.int .i64 (j:Int)] 3)).alloc (.cells #[] 3)) wr.heap.size 3 [Value.int .i64 (j:Int)].toArray):=(aK.new wr.drew 3 _).alloc _
   have HSW:Hid (∀ w':World,Below wr.heap.size wr w'->Src Tryz.prog 1 36 (.slice pA P.length pc) P.length (P.map (Value.int .i64)) w'):=fun w' hw=>cQ w' Tryz.underlying36 pc (HP3.out.1.below hw) (oV P);have HSa:=hD (HSW.out _ HDa.out);have HSb:=hD (HSW.out _ HDai.out);have HSc:=hD (HSW.out _ HDia.out);have HZ0:Hid (∀ n:Nat,wr.heap.size<=wr.heap.size+n):=fun n=>Nat.le_add_right _ _;have HCW:Hid (∀ (w':World) (A':Option Addr) (c':Nat),Below wr.heap.size wr w'->tD base w' (.slice A n c) A' (P++[(j:Int)])->P.length+1<=c'->Calls Tryz.prog 88 #[.slice A n c,.agg #[.int .i64 k.kind,.string k.text,.slice k.lA k.leads.length k.lc,.slice k.kA k.kids.length k.kc],.slice A' (P.length+1) c'] w' (Cd w' base (.slice A n c) (xs++ys) k (P++[(j:Int)]))):=fun w' A' c' hw hpk hcp=>by
    have hn0:=HNL.out;subst hn0;have:=HIH.out k (List.mem_of_getElem? hk) w' T0 base c c' A A' (xs++ys) (P++[(j:Int)]) (HS3.out.up hw) (((HT.out.sub k (List.mem_of_getElem? hk)).low HBT.out).low (hw.mono (Nat.le_trans h3 hlb3))) h3 hpk (by rw [List.length_append,List.length_cons,List.length_nil];omega) (by omega) (by rw [List.length_append,List.length_cons,List.length_nil];omega);have e5:(P++[(j:Int)]).length=P.length+1:=by simp
    rw [e5] at this;exact this
   have i0':(0:Int)<=(j:Int):=by omega
   have i1':(j:Int) < (t.kids.length:Int):=by omega
   have HK:=hD hk;clear hA hk hnl hlen hszk;go_wp2_with fail
   go_region_held3 (fun w'=>w'.cell? ⟨w.heap.size,3,none⟩=some (.slice (some ⟨ab,ao,none⟩) t.kids.length t.kc)/\w'.cell? ⟨ab,ao+j*4,none⟩=some (.int .i64 k.kind)/\w'.cell? ⟨ab,ao+j*4+1,none⟩=some (.string k.text)/\w'.cell? ⟨ab,ao+j*4+2,none⟩=some (.slice k.lA k.leads.length k.lc)/\w'.cell? ⟨ab,ao+j*4+3,none⟩=some (.slice k.kA k.kids.length k.kc)) (first | exact HSK.out _ HD.out | exact HSK.out _ HDa.out | exact HSK.out _ HDi.out | exact HSK.out _ HDai.out | exact HSK.out _ HDia.out | exact HSG.out _ _ _ HB30.out HG31.out | exact HSK.out _ HB30.out | exact HSK.out _ HB27.out | exact HSK.out _ (HB27.out.alloc HB27.out.size _)) (first
    | (go_at_call 88;refine (HCW.out _ _ _ HB30.out HR30.out HC30.out).mono ?_;rintro e w31 ⟨v31,zs,rfl,hg31,hs31,hz31⟩;obtain ⟨A31,c31,rfl,-,-⟩:=aS hs31.row;have HG31:=hD hg31;have HS31:=hD hs31;have HZ31:=hD hz31;clear hg31 hs31 hz31)
    | (refine dE _ rfl (.tmp 27) (.tmp 29) 36 36 rfl wr.heap.size 3 i3 (.int .i64 0) 1 8 Tryz.underlying36 HI3.out HI3z.out HI3s.out HI3b.out rfl (by decide) (.slice A27 P.length c27) P.length (P.map (Value.int .i64)) (by simp [Act.eval]) HO27.out _ 1 [.int .i64 (j:Int)] (by simp [Act.eval]) HSI.out HM1.out HM2.out HZ27.out ?_;intro v30 w30 hown30 hg30;obtain ⟨A30,c30,rfl,hr30,hb30⟩:=aS hown30;have HC30:=hD (nI hown30);have HB30:=hD (gS (v:=.slice none 0 0) HB27.out hg30 (aU HO27.out));have HR30:=hD (yP HOL3.out hr30 hb30 HBZ.out);clear hown30 hg30 hr30 hb30)
    | (refine dE _ rfl (.tmp 27) (.tmp 29) 36 36 rfl wr.heap.size 3 i3 (.int .i64 0) 1 8 Tryz.underlying36 HI3.out HI3z.out HI3s.out HI3b.out rfl (by decide) (.slice A27 P.length c27) P.length (P.map (Value.int .i64)) (by simp [Act.eval]) (HO27.out.alloc (.cells #[.int .i64 (j:Int)] 3)) (.slice (some ⟨w27.heap.size,0,none⟩) 1 1) 1 [.int .i64 (j:Int)] (by simp [Act.eval]) (bR w27 Tryz.underlying36 [.int .i64 (j:Int)] 1 1 1 3 rfl (sH _)) HM1.out HM2.out HZ27'.out ?_;intro v30 w30 hown30 hg30;obtain ⟨A30,c30,rfl,hr30,hb30⟩:=aS hown30;have HC30:=hD (nI hown30);have HB30:=hD (gS (v:=.slice none 0 0) (HB27.out.alloc HB27.out.size (.cells #[.int .i64 (j:Int)] 3)) hg30 (aU (HO27.out.alloc (.cells #[.int .i64 (j:Int)] 3))));have HR30:=hD (yP HOL3.out hr30 hb30 HBZ.out);clear hown30 hg30 hr30 hb30)
    | (refine dE _ rfl (.tmp 25) (.tmp 26) 36 36 rfl wr.heap.size 3 i3 (.int .i64 0) 1 8 Tryz.underlying36 HI3.out HI3z.out HI3s.out HI3b.out rfl (by decide) (.slice (some ⟨wr.heap.size,0,none⟩) 0 0) 0 [] (by simp [Act.eval]) HOb.out (.slice pA P.length pc) P.length (P.map (Value.int .i64)) (by simp [Act.eval]) HSb.out HM3.out HM4.out HDai.out.size ?_;intro v27 w27 hown27 hg27;obtain ⟨A27,c27,rfl,-,-⟩:=aS hown27;have HB27:=hD (gS (v:=.slice none 0 0) HDai.out hg27 (aU HOb.out));have HSI:=hD (tX Tryz.underlying36 HKb.out hg27 (by simp [Value.ownBlock]) (sH _));have HO27:=hD (oL hown27);have HZ27:=hD HB27.out.size;have HZ27':=hD (oR HB27.out.size (.cells #[.int .i64 (j:Int)] 3));clear hown27 hg27)
    | (refine dE _ rfl (.tmp 25) (.tmp 26) 36 36 rfl wr.heap.size 3 i3 (.int .i64 0) 1 8 Tryz.underlying36 HI3.out HI3z.out HI3s.out HI3b.out rfl (by decide) (.slice (some ⟨wr.heap.size+1,0,none⟩) 0 0) 0 [] (by simp [Act.eval]) HOc.out (.slice pA P.length pc) P.length (P.map (Value.int .i64)) (by simp [Act.eval]) HSc.out HM3.out HM4.out HDia.out.size ?_;intro v27 w27 hown27 hg27;obtain ⟨A27,c27,rfl,-,-⟩:=aS hown27;have HB27:=hD (gS (v:=.slice none 0 0) HDia.out hg27 (aU HOc.out));have HSI:=hD (tX Tryz.underlying36 HKc.out hg27 (by simp [Value.ownBlock]) (sH _));have HO27:=hD (oL hown27);have HZ27:=hD HB27.out.size;have HZ27':=hD (oR HB27.out.size (.cells #[.int .i64 (j:Int)] 3));clear hown27 hg27)
    | (refine dE _ rfl (.tmp 25) (.tmp 26) 36 36 rfl wr.heap.size 3 i3 (.int .i64 0) 1 8 Tryz.underlying36 HI3.out HI3z.out HI3s.out HI3b.out rfl (by decide) (.slice (some ⟨wr.heap.size,0,none⟩) 0 0) 0 [] (by simp [Act.eval]) HOa.out (.slice pA P.length pc) P.length (P.map (Value.int .i64)) (by simp [Act.eval]) HSa.out HM3.out HM4.out HDa.out.size ?_;intro v27 w27 hown27 hg27;obtain ⟨A27,c27,rfl,-,-⟩:=aS hown27;have HB27:=hD (gS (v:=.slice none 0 0) HDa.out hg27 (aU HOa.out));have HO27:=hD (oL hown27);have HZ27:=hD HB27.out.size;have HZ27':=hD (oR HB27.out.size (.cells #[.int .i64 (j:Int)] 3));clear hown27 hg27))
   all_goals
    have HG4:Hid (aR w w31 (.slice vA xs.length vc) (.slice A31 (xs++ys++zs).length c31)):=HG3.out.trans ((aR.of_below _ HB30.out).trans HG31.out);have HP4:=hD ((HP3.out.up HB30.out).grows HG31.out);have HX4:=hD (HXG.out _ _ _ HB30.out HG31.out);have HY4:Hid ((ys++zs).map PW.l=P::T.pathss ((t.kids.take (j+1)).map TX.plain) P 0):=by
     unfold Hid;rw [List.map_append,HY.out,HZ31.out,uO HK.out,List.cons_append]
    have HS4:=HS31;rw [List.append_assoc] at HG4 HS4 HP4;go_wp2_with fail;go_roundw
    case rel=>exact ⟨j+1,_,c31,A31,ys++zs,by omega,by go_num,by simp,rfl,HG4,HS4,HP4,HX4,HY4⟩
    case measure=>simp [intOf];omega
  ·obtain rfl:j=t.kids.length:=by omega
   have HE:Hid (Cd w base (.slice vA xs.length vc) xs t P (.returned (.slice A n c)) wr):=⟨_,ys,rfl,HG3.out,HS3.out,by rw [HY.out,gK,List.take_length]⟩;go_wp2_with fail;go_ret;exact HE.out
theorem wN (t:TX) (w:World) (h:Tr w w.heap.size t) (hs:t.plain.size<=1000000):Calls Tryz.prog 53 #[t.val] w (pP w (t.plain.paths [])):=by
 unfold TX.val;obtain ⟨W,hW⟩:=nm (w.alloc (.cells #[.int .i64 t.kind,.string t.text,.slice t.lA t.leads.length t.lc,.slice t.kA t.kids.length t.kc] 99));have HBW:=bw hW;have HX:Hid (aK W w.heap.size 99 t.arr):=by subst hW;exact aK.new w 99 _
 have d0:=HX.out.cell 0;have d1:=HX.out.cell 1;have d2:=HX.out.cell 2;have d3:=HX.out.cell 3;simp [TX.arr] at d0 d1 d2 d3;have HC:=hD (xR t W w.heap.size W.heap.size 0 0 none none [] [] ⟨⟨rfl,.inl ⟨rfl,rfl⟩⟩,Nat.le_refl _,fun x hx=>(nomatch hx),fun x hx=>(nomatch hx)⟩ (h.low HBW.out) HBW.out.size ⟨aG.none_,fun ad e=>by cases e⟩ (Nat.le_refl _) (by simpa using hs) (by simpa using hs));unfold TX.val at HC;simp only [List.length_nil] at HC;clear h;go_enter Tryz.func53,Tryz.ntmps53;go_wp2_with fail;refine (HC.out).mono ?_;rintro e w1 ⟨v',ys,rfl,hg,hs1,hy⟩;obtain ⟨A,c,rfl,hr,hA⟩:=aS hs1.row;rw [List.nil_append] at hs1 hr;have hzW:=HBW.out.size;have HP:Hid (pP w (t.plain.paths []) (.returned (.slice A ys.length c)) w1):=⟨A,c,ys,rfl,⟨hr,fun x hx=>(hs1.each x hx).1⟩,hy,HBW.out.trans (hg.below_new.mono HBW.out.size),fun ad e=>by have:=(hA ad e).1;omega,fun x hx ad e hn=>by have:=((hs1.each x hx).2 ad e hn).2;omega,hs1.cap⟩;rw [List.nil_append];clear hg hs1 hr hy hA;go_wp2_with fail;go_ret;exact HP.out
theorem kV:∀ (ks:List TX) (P:List Int) (off i:Nat) (l:List Int),(T.pathss (ks.map TX.plain) P off)[i]?=some l->
  ∃ j k i',ks[j]?=some k/\i=T.sizes ((ks.take j).map TX.plain)+i'/\(k.plain.paths (P++[((off+j:Nat):Int)]))[i']?=some l
 | [],P,off,i,l,h=>by simp [T.pathss] at h
 | k::ks,P,off,i,l,h=>by
  rw [List.map_cons,T.pathss] at h;rcases Nat.lt_or_ge i (k.plain.paths (P++[(off:Int)])).length with hi | hi
  ·rw [List.getElem?_append_left hi] at h;exact ⟨0,k,i,rfl,by simp [T.sizes],by simpa using h⟩
  ·rw [List.getElem?_append_right hi] at h;obtain ⟨j,k',i',h1,h2,h3⟩:=kV ks P (off+1) _ l h;rw [jI] at h2 hi;refine ⟨j+1,k',i',by simpa using h1,?_,by rw [show off+(j+1)=off+1+j by omega];exact h3⟩;rw [List.take_succ_cons,List.map_cons,T.sizes];omega
theorem zP (t:TX):∀ (P:List Int) (i:Nat) (l:List Int),(t.plain.paths P)[i]?=some l->∃ q s,l=P++q/\t.find q=some s/\t.num q=(i:Int)/\∀ x∈q,0<=x/\x<=(t.plain.size:Int):=by
 induction t using TX.ind with
 | h t ih=>
 intro P i l h;rw [gK] at h
 cases i with
 | zero=>
  simp at h;subst h;exact ⟨[],t,by simp,by rw [TX.find],by rw [TX.num];rfl,fun x hx=>by cases hx⟩
 | succ i=>
  have h':(T.pathss (t.kids.map TX.plain) P 0)[i]?=some l:=by simpa using h
  obtain ⟨j,k,i',h1,h2,h3⟩:=kV _ _ _ _ _ h';have hjl:=(List.getElem?_eq_some_iff.1 h1).1;obtain ⟨q,s,e1,e2,e3,e4⟩:=ih k (List.mem_of_getElem? h1) _ _ _ h3;have hsz:=lZ h1;refine ⟨(j:Int)::q,s,by rw [e1];simp,?_,?_,fun x hx=>?_⟩
  ·rw [TX.find,if_neg (by omega)];simp [h1,e2]
  ·rw [TX.num];simp [h1,e3];unfold cX;omega
  ·rcases List.mem_cons.1 hx with rfl | hx
   ·have:t.kids.length<=t.plain.size:=by
     rw [TX.plain_eq,T.size];have:∀ l:List T,l.length<=T.sizes l:=fun l=>by
      induction l with
      | nil=>simp
      | cons a l ih=>rw [T.sizes,List.length_cons];cases a with | node _ _ _ _=>rw [T.size];omega
     have:=this (t.kids.map TX.plain);rw [List.length_map] at this;omega
    omega
   ·have:=e4 x hx;omega
theorem sE (t:TX):∀ (P:List Int) (l:List Int),l∈t.plain.paths P->l.length<=P.length+t.plain.size:=by
 induction t using TX.ind with
 | h t ih=>
 intro P l h;obtain ⟨i,hi⟩:=List.mem_iff_getElem?.1 h;rw [gK] at hi
 cases i with
 | zero=>simp at hi;subst hi;omega
 | succ i=>
  have h':(T.pathss (t.kids.map TX.plain) P 0)[i]?=some l:=by simpa using hi
  obtain ⟨j,k,i',h1,h2,h3⟩:=kV _ _ _ _ _ h';have:=ih k (List.mem_of_getElem? h1) _ l (List.mem_of_getElem? h3);have hsz:=lZ h1;simp at this;omega
theorem tJ {l:List bG} {x:bG} (h:aG w B 6 A n (l.flatMap bG.vals)) (hi:i < n) (hx:l[i]?=some x):∃ b o,A=some ⟨b,o,none⟩/\b < B/\
  w.cell? ⟨b,o+i*6,none⟩=some (.int .i64 x.id)/\w.cell? ⟨b,o+i*6+1,none⟩=some (.int .i64 x.field)/\w.cell? ⟨b,o+i*6+2,none⟩=some (.int .i64 x.n)/\w.cell? ⟨b,o+i*6+3,none⟩=some (.bool x.flag)/\w.cell? ⟨b,o+i*6+4,none⟩=some (.string x.text)/\w.cell? ⟨b,o+i*6+5,none⟩=some (.int .i64 x.ref):=by
 obtain ⟨b,o,e,hb,hc⟩:=h.head (by omega) (by omega);have k:∀ r u,x.vals[r]?=some u->r < 6->w.cell? ⟨b,o+(i*6+r),none⟩=some u:=fun r u hu hr=>hc _ u (gV l i r x u hx hu hr);refine ⟨b,o,e,hb,k 0 _ rfl (by omega),?_,?_,?_,?_,?_⟩
 ·have:=k 1 _ rfl (by omega);rwa [<- Nat.add_assoc] at this
 ·have:=k 2 _ rfl (by omega);rwa [<- Nat.add_assoc] at this
 ·have:=k 3 _ rfl (by omega);rwa [<- Nat.add_assoc] at this
 ·have:=k 4 _ rfl (by omega);rwa [<- Nat.add_assoc] at this
 ·have:=k 5 _ rfl (by omega);rwa [<- Nat.add_assoc] at this
structure Do (w wr:World) (xs ys:Array Value):Prop where
 b1:aK wr w.heap.size 39 xs
 b2:aK wr (w.heap.size+1) 39 ys
 bel:Below w.heap.size w wr
theorem Do.start (w:World) (xs ys:Array Value):Do w ((w.alloc (.cells xs 39)).alloc (.cells ys 39)) xs ys:=by
 refine ⟨(aK.new w 39 xs).alloc _,?_,((Below.refl _ w).alloc (Nat.le_refl _) _).alloc (by simp) _⟩;have:=aK.new (w.alloc (.cells xs 39)) 39 ys;have e:(w.alloc (.cells xs 39)).heap.size=w.heap.size+1:=by simp
 rwa [e] at this
theorem Do.drewN {xs ys:Array Value} (h:Do w wr xs ys) (k:Nat):Do w (wr.drewN k) xs ys:=⟨h.b1,h.b2,aN h.bel k⟩
theorem oA {c:bY} {A1 A2 A3 B1 B2 B3:Option Addr} {c3 d1 d2 d3:Nat} (hx:iM w ⟨c,A1,c1,A2,c2,A3,c3⟩) (hy:iM w ⟨c,B1,d1,B2,d2,B3,d3⟩):
  Calls Tryz.prog 25 #[.agg #[.int .i64 c.stamp,.slice A1 c.parents.length c1,.slice A2 c.picks.length c2,.string c.note,.slice A3 c.writes.length c3],.agg #[.int .i64 c.stamp,.slice B1 c.parents.length d1,.slice B2 c.picks.length d2,.string c.note,.slice B3 c.writes.length d3]] w fun e w'=>e=.returned (.bool true)/\Below w.heap.size w w':=by
 obtain ⟨stamp,parents,picks,note,writes⟩:=c;have HI:Hid (∀ w',Below w.heap.size w w'->Calls Tryz.prog 48 #[.slice A1 parents.length c1,.slice B1 parents.length d1] w' fun e w2=>e=.returned (.bool true)/\∃ k,w2=w'.drewN k):=fun w' hb=>lJ hx.l1 (hx.r1.below hb) (hy.r1.below hb);have HJ:Hid (∀ w',Below w.heap.size w w'->Calls Tryz.prog 48 #[.slice A2 picks.length c2,.slice B2 picks.length d2] w' fun e w2=>e=.returned (.bool true)/\∃ k,w2=w'.drewN k):=fun w' hb=>lJ hx.l2 (hx.r2.below hb) (hy.r2.below hb);have R1:Hid (aG w w.heap.size 6 A3 writes.length (writes.flatMap bG.vals)):=hx.r3;have R2:Hid (aG w w.heap.size 6 B3 writes.length (writes.flatMap bG.vals)):=hy.r3;have hl3:writes.length<=140737488351232:=hx.l3;have hn1:((stamp:Int) != stamp)=false:=by simp
 have hn2:((writes.length:Int) != (writes.length:Int))=false:=by simp
 have SB0:=hD (Do.start w #[.int .i64 stamp,.slice A1 parents.length c1,.slice A2 picks.length c2,.string note,.slice A3 writes.length c3] #[.int .i64 stamp,.slice B1 parents.length d1,.slice B2 picks.length d2,.string note,.slice B3 writes.length d3]);clear hx hy;go_enter Tryz.func25,Tryz.ntmps25;go_wp2_with fail;refine (HI.out _ (SB0.out).bel).mono ?_;rintro e w1 ⟨rfl,k1,hw1⟩;have S1:=hD ((SB0.out).drewN k1);rw [<- hw1] at S1;clear hw1 SB0 HI;have p2:=(S1.out).b1.cell 2;have q2:=(S1.out).b2.cell 2;have p4:=(S1.out).b1.cell 4;have q4:=(S1.out).b2.cell 4;simp at p2 q2 p4 q4;go_wp2_with fail;refine (HJ.out _ (S1.out).bel).mono ?_;rintro e w2 ⟨rfl,k2,hw2⟩;have S2:=hD ((S1.out).drewN k2);rw [<- hw2] at S2;clear hw2 S1 HJ p2 q2 p4 q4;have p4:=(S2.out).b1.cell 4;have q4:=(S2.out).b2.cell 4;simp at p4 q4;go_wp2_with fail;clear p4 q4;go_loopw [5] (fun iv wr=>∃ (i:Nat),iv=.int .i64 (i:Int)/\i<=writes.length/\Do w wr #[.int .i64 stamp,.slice A1 parents.length c1,.slice A2 picks.length c2,.string note,.slice A3 writes.length c3] #[.int .i64 stamp,.slice B1 parents.length d1,.slice B2 picks.length d2,.string note,.slice B3 writes.length d3]) (fun iv _=>((writes.length:Int) - intOf iv).toNat)
 case atStart=>exact ⟨0,rfl,Nat.zero_le _,S2.out⟩
 case round=>
  obtain ⟨i,rfl,hi,hS⟩:=hrel;have SR:=hD hS;have p4:=hS.b1.cell 4;have q4:=hS.b2.cell 4;simp at p4 q4;clear hS;by_cases hlt:i < writes.length
  ·have dim:decide ((i:Int) < (writes.length:Int))=true:=by simp;omega
   obtain ⟨x,hx⟩:∃ x,writes[i]?=some x:=⟨writes[i]'hlt,List.getElem?_eq_getElem _⟩;obtain ⟨b1,o1,rfl,hb1,x0,x1,x2,x3,x4,x5⟩:=tJ ((R1.out).below (SR.out).bel) hlt hx;obtain ⟨b2,o2,rfl,hb2,y0,y1,y2,y3,y4,y5⟩:=tJ ((R2.out).below (SR.out).bel) hlt hx;have hnle:¬ writes.length<=i:=by omega
   clear hx hb1 hb2;go_wp2_with fail;go_quiet (fail);go_wp2_with fail;go_roundw
   case rel=>exact ⟨i+1,by go_num,by omega,(SR.out).drewN _⟩
   case measure=>simp [intOf];omega
  ·have dim:decide ((i:Int) < (writes.length:Int))=false:=by simp;omega
   go_wp2_with fail;go_ret;exact ⟨rfl,(SR.out).bel⟩
theorem pX {y:CX} (hx:iM w x) (hy:iM w y) (h:x.c=y.c):
  Calls Tryz.prog 25 #[.agg #[.int .i64 x.c.stamp,.slice x.A1 x.c.parents.length x.c1,.slice x.A2 x.c.picks.length x.c2,.string x.c.note,.slice x.A3 x.c.writes.length x.c3],.agg #[.int .i64 y.c.stamp,.slice y.A1 y.c.parents.length y.c1,.slice y.A2 y.c.picks.length y.c2,.string y.c.note,.slice y.A3 y.c.writes.length y.c3]] w fun e w'=>e=.returned (.bool true)/\Below w.heap.size w w':=by
 obtain ⟨c,A1,c1,A2,c2,A3,c3⟩:=x;obtain ⟨c',B1,d1,B2,d2,B3,d3⟩:=y;obtain rfl:c=c':=h;exact oA hx hy
theorem nG {B:Option Addr} {xs ys:List CX} (hn:n<=140737488351232) (hx:lV w A n xs) (hy:lV w B n ys) (h:xs.map CX.c=ys.map CX.c):
  Calls Tryz.prog 12 #[.slice A n c1,.slice B n c2] w fun e w'=>e=.returned (.bool true)/\Below w.heap.size w w':=by
 have HX:=hD hx;have HY:=hD hy;have HS:Hid (∀ (i:Nat) x y,xs[i]?=some x->ys[i]?=some y->∀ w',Below w.heap.size w w'->Calls Tryz.prog 25 #[.agg #[.int .i64 x.c.stamp,.slice x.A1 x.c.parents.length x.c1,.slice x.A2 x.c.picks.length x.c2,.string x.c.note,.slice x.A3 x.c.writes.length x.c3],.agg #[.int .i64 y.c.stamp,.slice y.A1 y.c.parents.length y.c1,.slice y.A2 y.c.picks.length y.c2,.string y.c.note,.slice y.A3 y.c.writes.length y.c3]] w' fun e w2=>e=.returned (.bool true)/\Below w'.heap.size w' w2):=fun i x y h1 h2 w' hb=>by
  refine pX ((hx.good x (List.mem_of_getElem? h1)).up hb) ((hy.good y (List.mem_of_getElem? h2)).up hb) ?_;have e1:(xs.map CX.c)[i]?=some x.c:=by rw [List.getElem?_map,h1];rfl
  have e2:(ys.map CX.c)[i]?=some y.c:=by rw [List.getElem?_map,h2];rfl
  rw [h,e2] at e1;injection e1 with e1;exact e1.symm
 clear hx hy h;go_enter Tryz.func12,Tryz.ntmps12;go_wp2_with fail;go_loopw [5] (fun iv wr=>∃ (i:Nat),iv=.int .i64 (i:Int)/\i<=n/\Below w.heap.size w wr) (fun iv _=>((n:Int) - intOf iv).toNat)
 case atStart=>exact ⟨0,rfl,Nat.zero_le _,Below.refl _ _⟩
 case round=>
  obtain ⟨i,rfl,hi,hB⟩:=hrel;have BB:=hD hB;clear hB;by_cases hlt:i < n
  ·have dim:decide ((i:Int) < (n:Int))=true:=by simp;omega
   obtain ⟨x,hx⟩:∃ x,xs[i]?=some x:=⟨xs[i]'(by have:=(HX.out).len;omega),List.getElem?_eq_getElem _⟩;obtain ⟨y,hy⟩:∃ y,ys[i]?=some y:=⟨ys[i]'(by have:=(HY.out).len;omega),List.getElem?_eq_getElem _⟩;obtain ⟨b1,o1,rfl,hb1,x0,x1,x2,x3,x4⟩:=nM ((HX.out).up (BB.out)) hx;obtain ⟨b2,o2,rfl,hb2,y0,y1,y2,y3,y4⟩:=nM ((HY.out).up (BB.out)) hy;have hnle:¬ n<=i:=by omega
   have HC:=hD ((HS.out) i x y hx hy wr.drew (BB.out).drew);clear hx hy hb1 hb2;go_wp2_with fail;refine fE 8 (by kernel_rfl) (by kernel_rfl) _ rfl ?_;simp only [List.take_succ_cons,List.take_zero,List.drop_succ_cons,List.drop_zero]
   repeat (go_big_quiet_step (fail))
   refine wpQuiet_nil ?_;go_wp2_with fail;refine (HC.out).mono ?_;rintro e w2 ⟨rfl,hb2⟩;have B2:=hD ((BB.out).drew.trans (hb2.mono (BB.out).drew.size));clear hb2 HC;go_wp2_with fail;go_roundw
   case rel=>exact ⟨i+1,by go_num,by omega,B2.out⟩
   case measure=>simp [intOf];omega
  ·have dim:decide ((i:Int) < (n:Int))=false:=by simp;omega
   go_wp2_with fail;go_ret;exact ⟨rfl,BB.out⟩
def El {α:Type}:Option α->Int
 | some _=>0
 | none=>13
def Ek (w:World) (o:Option (List bY)) (e:Ending) (w':World):Prop:=
 ∃ B cc xs,e=.returned (.tuple #[.slice B (o.getD []).length cc,.int .i64 (El o)])/\xs.map CX.c=o.getD []/\lV w' B (o.getD []).length xs/\Below w.heap.size w w'
theorem yS {o:Option (List bY)} {e:Ending} (h:fR w o e w'):Ek w o e w':=by
 obtain ⟨h1,h2⟩:=h
 cases o with
 | none=>exact ⟨none,0,[],h1,rfl,⟨rfl,aG.none_,fun x hx=>by cases hx⟩,h2⟩
 | some l=>
  obtain ⟨B,cc,xs,k1,k2,k3⟩:=h1;have hl:xs.length=l.length:=by rw [<- k2,List.length_map]
  refine ⟨B,cc,xs,?_,k2,?_,h2⟩
  ·rw [k1,hl];rfl
  ·have:=k3.1;rw [hl] at this;exact this
theorem sT {bs:List Nat}:((dO bs).getD []).length<=bs.length:=by
 cases h:dO bs with
 | none=>exact Nat.zero_le _
 | some l=>
  unfold dO at h;obtain ⟨⟨l2,q⟩,hl,h⟩:=Option.bind_eq_some_iff.1 h
  split at h
  ·injection h with h;subst h;exact (jO hl).1
  ·cases h
def jU (l:List CX):List Nat:=l.flatMap fun x=>bQ x.c
def gX (l:List CX):List Nat:=bN l.length++jU l
theorem rI {l:List CX} {k:Nat} (h:l[k]?=some x):jU (l.take (k+1))=jU (l.take k)++bQ x.c:=by
 unfold jU;rw [List.take_add_one,h];simp
structure Dn (xs:List CX):Prop where
 sz:∀ x∈xs,x.c.size<=8000000000
 en:∀ k,(jU (xs.take k)).length<=60000000000
theorem qC {c:bY} (h:c.ok) (hs:c.size<=8000000000):(bQ c).length<=60+100*c.size:=by
 have hs':c.parents.length+c.picks.length+c.note.size+c.writes.length+bO c.writes<=8000000000:=hs;have l1:=cF h.1;have l2:=fF h.2.1 (by omega);have l3:=fF h.2.2.1 (by omega);have l4:=gF (s:=c.note) (by omega);have l5:=dH (n:=c.writes.length) (by omega);have l6:=mH h.2.2.2 (by omega);have e:c.size=c.parents.length+c.picks.length+c.note.size+c.writes.length+bO c.writes:=rfl;unfold bQ;simp only [List.length_append];omega
theorem vN (A:Option Addr) (n cp:Nat) (xs:List CX) (w:World) (h:lV w A n xs) (hn:n<=1000000) (ht:Dn xs):
  Calls Tryz.prog 6 #[.slice A n cp] w (pW w (gX xs)):=by
 have HL:=hD h.len;have HH:=hD h;have HTD:=hD ht;clear h ht;have HS:Hid (St w.heap.size 0 (.slice none 0 0) [] w [] (.slice none 0 0) w):=St.start (World.ownsRow_nil _ _ _ _);have HP:=hD (cT w.heap.size 0 (.slice none 0 0) [] (n:Int) w HS.out.1 (Nat.le_refl _) (by omega) (by omega) (by omega));have l1:=dH (n:=n) (by omega);go_enter Tryz.func6,Tryz.ntmps6;go_wp2_with fail;refine (HP.out).mono ?_;intro e w1 h;obtain ⟨v1,rfl,hst1,hg1⟩:=HS.out.put h;simp only [List.nil_append] at hst1;have HST1:=hD hst1;clear h hst1 hg1 HP HS;go_wp2_with fail;go_loopw [3,11] (fun v' i wr=>∃ j:Nat,j<=n/\i=.int .i64 (j:Int)/\St w.heap.size 0 (.slice none 0 0) [] w (bN (n:Int)++jU (xs.take j)) v' wr) (fun _ i _=>n - (intOf i).toNat)
 case atStart=>exact ⟨0,by omega,rfl,by simpa [jU] using HST1.out⟩
 case round=>
  obtain ⟨j,hj,rfl,hst⟩:=hrel;have hsz:=hst.2.size;by_cases hlt:j < n
  ·obtain ⟨x,hx⟩:∃ x,xs[j]?=some x:=⟨_,List.getElem?_eq_getElem (by rw [HL.out];exact hlt)⟩;have hbl:Below w.heap.size w wr:=hst.2.below (Nat.le_refl _) (fun g hg=>by simp [Value.ownBlock] at hg);obtain ⟨ab,ao,rfl,hab,c0,c1,c2,c3,c4⟩:=nM HH.out hx;have hgd:=HH.out.good x (List.mem_of_getElem? hx);have hsx:=HTD.out.sz x (List.mem_of_getElem? hx);have k0:=(hbl.cell (p:=⟨ab,ao+j*5,none⟩) hab).trans c0;have k1:=(hbl.cell (p:=⟨ab,ao+j*5+1,none⟩) hab).trans c1;have k2:=(hbl.cell (p:=⟨ab,ao+j*5+2,none⟩) hab).trans c2;have k3:=(hbl.cell (p:=⟨ab,ao+j*5+3,none⟩) hab).trans c3;have k4:=(hbl.cell (p:=⟨ab,ao+j*5+4,none⟩) hab).trans c4;have hlen:=HTD.out.en j;have HS0:=hD (hst.alloc (.cells #[.int .i64 x.c.stamp,.slice x.A1 x.c.parents.length x.c1,.slice x.A2 x.c.picks.length x.c2,.string x.c.note,.slice x.A3 x.c.writes.length x.c3] 39));have HP:=hD (kD w.heap.size _ _ (.agg #[.int .i64 x.c.stamp,.slice x.A1 x.c.parents.length x.c1,.slice x.A2 x.c.picks.length x.c2,.string x.c.note,.slice x.A3 x.c.writes.length x.c3]) _ x.c _ HS0.out.1 (by simp;omega)
    ⟨_,_,_,_,_,_,rfl,(hgd.r1.below hbl).alloc hsz _,(hgd.r2.below hbl).alloc hsz _,(hgd.r3.below hbl).alloc hsz _⟩ hgd.ok (by simp only [List.length_append];omega))
   have HE:=hD (rI hx);clear hst hx hgd hbl c0 c1 c2 c3 c4 hlen;go_wp2_with fail;refine (HP.out).mono ?_;intro e w2 h;obtain ⟨v2,rfl,hst2,hg2⟩:=HS0.out.put h;rw [List.append_assoc,<- HE.out] at hst2;have HST2:=hD hst2;clear h hst2 hg2 HP HS0;go_wp2_with fail;go_roundw
   case rel=>exact ⟨j+1,by omega,by go_num,HST2.out⟩
   case measure=>simp [intOf];omega
  ·have R:pW w (gX xs) (.returned u3) wr:=by
    have e1:xs.take j=xs:=List.take_of_length_le (by rw [HL.out];omega);rw [e1] at hst;refine ⟨u3,rfl,?_,hst.2.below (Nat.le_refl _) (fun g hg=>by simp [Value.ownBlock] at hg)⟩;have h1:=hst.1;unfold gX;rw [HL.out];simpa using h1
   clear hst;go_wp2_with fail;go_ret;exact R
theorem oF (A:Option Addr) (n cp:Nat) (xs:List CX) (w:World) (h:lV w A n xs) (hn:n<=1000000) (ht:Dn xs):
  Calls Tryz.prog 8 #[.slice A n cp] w (pW w (gX xs)):=by
 obtain ⟨i0,hi,hi0,hi1,hi2⟩:=info_parts fM;have HL:=hD h.len;have HH:=hD h;have HTD:=hD ht;clear h ht;have HP:=hD (fX none 0 0 [] (n:Int) w (by omega) aG.none_ (by omega) (by omega));have l1:=dH (n:=n) (by omega);go_enter Tryz.func8,Tryz.ntmps8;go_wp2_with fail;refine (HP.out).mono ?_;intro e w1 h;obtain ⟨v1,rfl,hst1⟩:=h.nw;simp only [List.nil_append] at hst1;have HST1:=hD hst1;clear h hst1 HP;go_wp2_with fail;go_loopw [3,4] (fun v' i wr=>∃ j:Nat,j<=n/\i=.int .i64 (j:Int)/\Nw w wr (bN (n:Int)++jU (xs.take j)) v') (fun _ i _=>n - (intOf i).toNat)
 case atStart=>exact ⟨0,by omega,rfl,by simpa [jU] using HST1.out⟩
 case round=>
  obtain ⟨j,hj,rfl,hst⟩:=hrel;have hsz:=hst.2.size;by_cases hlt:j < n
  ·obtain ⟨x,hx⟩:∃ x,xs[j]?=some x:=⟨_,List.getElem?_eq_getElem (by rw [HL.out];exact hlt)⟩;have hbl:=hst.2;obtain ⟨ab,ao,rfl,hab,c0,c1,c2,c3,c4⟩:=nM HH.out hx;have hgd:=HH.out.good x (List.mem_of_getElem? hx);have hsx:=HTD.out.sz x (List.mem_of_getElem? hx);have k0:=(hbl.cell (p:=⟨ab,ao+j*5,none⟩) hab).trans c0;have k1:=(hbl.cell (p:=⟨ab,ao+j*5+1,none⟩) hab).trans c1;have k2:=(hbl.cell (p:=⟨ab,ao+j*5+2,none⟩) hab).trans c2;have k3:=(hbl.cell (p:=⟨ab,ao+j*5+3,none⟩) hab).trans c3;have k4:=(hbl.cell (p:=⟨ab,ao+j*5+4,none⟩) hab).trans c4;have hlen:=HTD.out.en j;have hcl:=qC hgd.ok (by omega);have HP:=hD (qA (.agg #[.int .i64 x.c.stamp,.slice x.A1 x.c.parents.length x.c1,.slice x.A2 x.c.picks.length x.c2,.string x.c.note,.slice x.A3 x.c.writes.length x.c3]) x.c wr (hgd.up hbl).is hgd.ok (by omega));have HE:=hD (rI hx);have HST:=hD hst;clear hst hx hgd hbl c0 c1 c2 c3 c4;go_wp2_with fail;refine (HP.out).mono ?_;intro e w2 h;obtain ⟨v2,rfl,hst2⟩:=h.nw;obtain ⟨A2,c2,rfl,hr2⟩:=hst2.reads;have hown:=eV HST.out.1 hst2.2 (fun g hg=>(HST.out.1.lt g hg).2);have hsrc:Src Tryz.prog 1 25 (.slice A2 (bQ x.c).length c2) (bQ x.c).length ((bQ x.c).map dZ) w2:=cQ _ Tryz.underlying25 c2 hr2 (sV _);have hz2:=hst2.2.size;have HB2:=hD (HST.out.2.trans (hst2.2.mono hsz));obtain ⟨pre,hpre⟩:∃ pre,pre=bN (n:Int)++jU (xs.take j):=⟨_,rfl⟩;have hpl:pre.length<=10+60000000000:=by rw [hpre,List.length_append];omega
   rw [<- hpre] at hown;obtain ⟨ne,hne⟩:∃ ne,ne=bQ x.c:=⟨_,rfl⟩;rw [<- hne] at hsrc hcl ⊢;have HPRE:=hD hpre;have HNE:=hD hne;have HO:=hD hown;have HSRC:=hD hsrc;clear h hst2 hr2 HP hpre hne hlen hsrc;go_wp2_with (at_builtin;refine aF _ rfl (.tmp 14) (.tmp 19) 25 25 rfl w.heap.size 5 i0 (.int .u8 0) 1 1 Tryz.underlying25 hi hi0 hi1 hi2 rfl (by decide) _ _ _ rfl hown _ ne.length (ne.map dZ) rfl HSRC.out (by unfold maxLen;omega) (by omega) (by omega) ?_);intro v3 w3 hown3 hg3;have HST3:Hid (Nw w w3 (bN (n:Int)++jU (xs.take (j+1))) v3):=by
    refine ⟨?_,HB2.out.trans (hg3.below HB2.out.size (fun g hg=>(HO.out.lt g hg).1))⟩;rw [HE.out,<- List.append_assoc,<- HPRE.out,<- HNE.out,List.length_append,List.map_append];exact hown3
   clear hown3 hg3 hown;go_wp2_with fail;go_roundw
   case rel=>exact ⟨j+1,by omega,by go_num,HST3.out⟩
   case measure=>simp [intOf];omega
  ·have R:pW w (gX xs) (.returned u3) wr:=by
    have e1:xs.take j=xs:=List.take_of_length_le (by rw [HL.out];omega);rw [e1] at hst;have h1:=hst.mk;unfold gX;rw [HL.out];exact h1
   clear hst;go_wp2_with fail;go_ret;exact R
end
end Go.Proofs.YtkgpoimmniojjaaGreat
