/- No condition. -/
import Derived.Test.YtkgpoimmniojjaaGreatZaAC
import Derived.Deep.Slices
import Derived.Test.YtkgpoimmniojjaaGreatZaAD
import Derived.Test.YtkgpoimmniojjaaGreatZaAG
namespace Go.Proofs.YtkgpoimmniojjaaGreat
set_option linter.unusedVariables false
set_option linter.unusedSimpArgs false
set_option maxRecDepth 100000
set_option maxHeartbeats 16000000
section
open Go.ChangeShapes Go.WideShapes Go.ChangeAt Go.RowKit Go.Deep
variable {t e:TypeId} {α:Type}
section
variable {H:Type} {P:Program}
def Sm (P:Program) (t:TypeId) (d:DataW H):Prop:=∀ n∈d.weights P t,n<=140737488351232
theorem Da {ts:List TypeId} {ds:List (DataW H)} (h:(DataW.weightsEach P ts ds).all (·<=reachBytes)=true) {j:Nat} {d:DataW H} (ht:ts[j]?=some t) (hd:ds[j]?=some d):Sm P t d:=fun n hn=>by
 have:=List.all_eq_true.1 h _ (DataW.weights_mem_each ht hd n hn);have e:reachBytes=140737488351232:=by decide
 rw [<- e];simpa using this
theorem mU {e:TypeId}:∀ {elems:List (DataW H)} {d:DataW H},d∈elems->∀ n∈d.weights P e,n∈DataW.weightsAll P e elems
 | x::r,d,hd,n,hn=>by
  simp only [DataW.weightsAll,List.mem_append];rcases List.mem_cons.1 hd with rfl | hd
  ·exact .inl hn
  ·exact .inr (mU hd n hn)
theorem Cs {elems spare:List (DataW H)} (h:Sm P t (.slice elems spare)) (ht:P.underlying t=some (.slice e)) {d:DataW H} (hd:d∈elems):Sm P e d:=fun n hn=>
 h n (by simp only [DataW.weights,ht,List.mem_cons,List.mem_append];exact .inr (.inl (mU hd n hn)))
theorem CZ {elems spare:List (DataW H)} (h:Sm P t (.slice elems spare)) (ht:P.underlying t=some (.slice e)):(elems.length+spare.length)*P.bytesOf e<=140737488351232:=
 h _ (by simp [DataW.weights,ht])
end
theorem gU {cells:α->List Value} {size:Nat} (hl:∀ x,(cells x).length=size) (xs:List α):(xs.flatMap cells).length=xs.length*size:=by
 induction xs with
 | nil=>simp
 | cons x xs ih=>rw [List.flatMap_cons,List.length_append,hl,ih,List.length_cons,Nat.add_mul];omega
theorem dN {α:Type} {cells:α->List Value} {size:Nat} (hl:∀ x,(cells x).length=size):∀ (xs:List α) (k r:Nat) (x:α),xs[k]?=some x->r < size->(xs.flatMap cells)[k*size+r]?=(cells x)[r]?
 | [],k,r,x,h,_=>by simp at h
 | y::xs,0,r,x,h,hr=>by
  simp at h;subst h;rw [List.flatMap_cons,Nat.zero_mul,Nat.zero_add,List.getElem?_append_left (by rw [hl];exact hr)]
 | y::xs,k+1,r,x,h,hr=>by
  have h':xs[k]?=some x:=by simpa using h
  rw [List.flatMap_cons,List.getElem?_append_right (by rw [hl,Nat.add_mul];omega),hl,show (k+1)*size+r - size=k*size+r by rw [Nat.add_mul];omega];exact dN hl xs k r x h' hr
section
variable {H:Type} {enc:TypeId × Value->H} {P:Program} {W:World} {held:Bool}
theorem zR [Inhabited α] {size fuel len cap:Nat} {A:Option Addr} {d:DataW H} {p:List MemPlace} (ht:P.underlying t=some (.slice e)) (hc:P.cellsOf e=size) (hs:0 < size) (cells:α->List Value) (good:α->Prop) (hl:∀ x,(cells x).length=size)
  (each:∀ cs' d' pl n,DataW.trod enc P W 0 (fun _=>true) held n e cs'=some (d',pl)->Sm P e d'->cs'.length=size->∃ x,cs'=cells x/\good x)
  (h:DataW.trod enc P W 0 (fun _=>true) held fuel t [.slice A len cap]=some (d,p)) (hsm:Sm P t d):
  len<=cap/\cap<=maxLen/\(0 < P.bytesOf e->len<=140737488351232)/\∃ xs:List α,xs.length=len/\aG W W.heap.size size A len (xs.flatMap cells)/\∀ x∈xs,good x:=by
 rcases open_slice ht h with ⟨h0,-⟩ | ⟨a,len',cap',m,n,D,Pl,hcs,-,hlc,hm,hmm,hx,hr⟩
 ·simp at h0;obtain ⟨rfl,rfl,rfl⟩:=h0;exact ⟨Nat.le_refl _,Nat.zero_le _,fun _=>Nat.zero_le _,[],rfl,aG.none_,fun x hx=>by cases hx⟩
 ·simp at hcs;obtain ⟨rfl,rfl,rfl⟩:=hcs;simp at hmm;subst hmm;injection hx with hd hp;subst hd;refine ⟨hlc,hm,fun hb=>?_,?_⟩
  ·have h1:=CZ hsm ht;simp only [List.length_map,List.length_range] at h1;have h2:(len+(m - len))*1<=(len+(m - len))*P.bytesOf e:=Nat.mul_le_mul_left _ hb;omega
  ·have ea:∀ i,i < len->∃ x,good x/\∀ r u,(cells x)[r]?=some u->W.cell? (a.add (i*size+r))=some u:=by
    intro i hi;obtain ⟨cs',h1,h2⟩:=hr i (by omega);rw [hc] at h1;have h3:=World.cells?_some h1;obtain ⟨x,hx,hg⟩:=each cs' _ _ _ h2 (Cs hsm ht (List.mem_map.2 ⟨i,by simpa using hi,rfl⟩)) h3.2.1;subst hx;refine ⟨x,hg,fun r u hu=>?_⟩;have hru:=(List.getElem?_eq_some_iff.1 hu).1;rw [hl] at hru;rw [<- hu,<- h3.2.2 r hru,lD]
   obtain ⟨f,hf⟩:=choose_lt ea;refine ⟨(List.range len).map f,by simp,⟨by rw [gU hl];simp,fun hn=>⟨a,rfl,?_,fun j u hu=>?_⟩⟩,fun x hx=>?_⟩
   ·obtain ⟨u,hu⟩:∃ u,(cells (f 0))[0]?=some u:=⟨_,List.getElem?_eq_getElem (by rw [hl];exact hs)⟩;have:=World.block_lt_of_cell? W _ ((hf 0 hn).2 0 u hu);rwa [bU] at this
   ·have hj:=(List.getElem?_eq_some_iff.1 hu).1;rw [gU hl] at hj;simp only [List.length_map,List.length_range] at hj;have hk:j / size < len:=Nat.div_lt_of_lt_mul (by rw [Nat.mul_comm];exact hj);have hr':j % size < size:=Nat.mod_lt _ hs;have hjj:j / size*size+j % size=j:=by rw [Nat.mul_comm];exact Nat.div_add_mod j size
    have h1:=dN hl ((List.range len).map f) (j / size) (j % size) (f (j / size)) (by rw [List.getElem?_map,List.getElem?_range hk];rfl) hr';rw [hjj,hu] at h1;have h2:=(hf _ hk).2 _ _ h1.symm;rwa [hjj] at h2
   ·obtain ⟨i,hi,rfl⟩:=List.mem_map.1 hx;exact (hf i (by simpa using hi)).1
theorem Bo (f:α->Value) (xs:List α):xs.flatMap (fun x=>[f x])=xs.map f:=by
 induction xs with
 | nil=>rfl
 | cons x xs ih=>simp [ih]
end
end
section
open Go.RowKit
variable {l:List Oper} {i N j:Nat} {p bs:List Nat} {w W wr:World} {md:Region.Mode} {a:Act} {P:Program} {Q:Exit->Act->World->Prop} {listed:Array Bool} {a0 a1 a2 a3 a4 a5:Value}
def mN (md:Region.Mode) (ops:Array Oper) (N:Nat):Prop:=∀ listed:Array Bool,HeadInv md ops (N+1) listed->∀ i,i<=N->listed.getD i true=false->∀ j∈Region.ready md ops listed,j < N+1
def yJ (md:Region.Mode) (l:List Oper) (N:Nat):Bool:=decide (N+1=l.length) || (decide (N+1 < l.length) && Region.sinkB md l.toArray (N+1) && Region.chainB md l.toArray (N+1))
theorem tU (h:yJ md l N=true):N < l.length/\mN md l.toArray N:=by
 unfold yJ at h;rcases Bool.or_eq_true_iff.1 h with h | h
 ·have h:=of_decide_eq_true h;refine ⟨by omega,fun listed inv i hi hun j hj=>?_⟩;have:=(iV hj).1;simp at this;omega
 ·simp only [Bool.and_eq_true,decide_eq_true_eq] at h;obtain ⟨⟨hn,hs⟩,hc⟩:=h;refine ⟨by omega,fun listed inv i hi hun j hj=>?_⟩;rcases Nat.lt_or_ge j (N+1) with h | h
  ·exact h
  ·exact absurd hj (tail_waits hs hc (by simpa using hn) inv _ i rfl (by omega) hun j h)
section
variable {P:Program} {md:Region.Mode} {ops:Array Oper} {C:World->Prop} {Q:Exit->Act->World->Prop}
theorem jY {oi:Oper} {v:Value} (hi:ops[i]?=some oi) (hsel:∀ (j:Nat) (o:Oper) cs b,ops[j]?=some o->o.op≠.select cs b)
  (hQ:∀ c a w,Q (.panic c) (a.put oi.dst v) w->Q (.panic c) a w) (hT:mN md ops N) (hin:i<=N):
  ∀ (fuel:Nat) (listed:Array Bool) (a:Act) (w:World),HeadInv md ops (N+1) listed->
   (∀ j oj,ops[j]?=some oj->j≠i->listed.getD j true=false->(∀ e∈oj.after,Region.binds md e=true->e.on≠i)->oi.apart ops oj=true)->
   i∈Region.ready md ops listed->YieldsIf P ops C oi v a->C w->
   dG P md ops Q C N fuel (listed.setIfInBounds i true) (a.put oi.dst v) w->dG P md ops Q C N (fuel+1) listed a w:=by
 intro fuel
 induction fuel with
 | zero=>
  intro listed a w _ _ hr hy hS H;refine ⟨fun h=>(by rw [h] at hr;cases hr),fun j hj=>?_⟩;by_cases hji:j=i
  ·subst hji;exact hy.wpOp hi hS ⟨fun _=>hS,H⟩
  ·have:=ready_mono hj hji;rw [H.1] at this
   cases this
 | succ fuel ih=>
  intro listed a w inv hfree hr hy hS H;have hun:=(mem_ready.1 hr).1;refine ⟨fun h=>(by rw [h] at hr;cases hr),fun j hj=>?_⟩;have hjn:j < N+1:=by
   rcases Nat.lt_or_ge j (N+1) with h | h
   ·exact h
   ·exact absurd (hT listed inv i hin hun j hj) (by omega)
  by_cases hji:j=i
  ·subst hji;exact hy.wpOp hi hS ⟨fun _=>hS,H⟩
  ·have h1:=H.2 j (ready_mono hj hji);obtain ⟨hjun,oj,hoj,hall⟩:=mem_ready.1 hj;have hnot:∀ e∈oj.after,Region.binds md e=true->e.on≠i:=fun e he hb heq=>by
    have h1:=hall e he hb;rw [heq,getD_both hun] at h1
    cases h1
   have h2:=wpOp_putIf hoj (hfree j oj hoj hji hjun hnot) (fun cs b=>hsel i oi cs b hi) (fun cs b=>hsel j oj cs b hoj) hQ hy h1;have hfree':∀ k ok,ops[k]?=some ok->k≠i->(listed.setIfInBounds j true).getD k true=false->
     (∀ e∈ok.after,Region.binds md e=true->e.on≠i)->oi.apart ops ok=true:=fun k ok hk hki hun hno=>by
    refine hfree k ok hk hki ?_ hno;by_cases hjk:j=k
    ·subst hjk;exact hjun
    ·rw [getD_set_ne true hjk] at hun;exact hun
   refine wpOp_mono (fun a' w' h3=>⟨h3.2.1,ih (listed.setIfInBounds j true) a' w' (inv.set hj hjn) hfree' (ready_mono hr (Ne.symm hji)) h3.1 (h3.2.1 (by omega)) ?_⟩) h2;rw [Array.setIfInBounds_comm _ _ hji];exact h3.2.2
end
section
variable {P:Program} {C:World->Prop} {Q:Exit->Act->World->Prop}
theorem cH {md:Region.Mode} {l:List Oper} {N:Nat} {w:World} {f:Nat} {K:Act->Prop} (hsel:Region.noSelect l.toArray=true) (hT:mN md l.toArray N) (hn:N < l.length) (hC:C w)
  (hQ:∀ c a a' w,Q (.panic c) a w->Q (.panic c) a' w):∀ (ks:List Nat) (listed:Array Bool) (a:Act),HeadInv md l.toArray (N+1) listed->eP md l N ks listed=true->
  (∀ a',K a'->HeadInv md l.toArray (N+1) (bT listed ks)->dG P md l.toArray Q C N f (bT listed ks) a' w)->wpQuiet P l.toArray C K (ks.map (bE l)) a->dG P md l.toArray Q C N (ks.length+f) listed a w
 | [],listed,a,inv,_,h,hq=>by
  rw [List.length_nil,Nat.zero_add];exact h a hq inv
 | k::ks,listed,a,inv,hB,h,hq=>by
  simp only [eP,Bool.and_eq_true,decide_eq_true_eq] at hB;obtain ⟨⟨⟨⟨hr,hf⟩,hkN⟩,hp⟩,hB'⟩:=hB;have h0:l.toArray[k]?=some (bE l k):=by simpa using fS (l:=l) (k:=k) (by omega)
  have hr':k∈Region.ready md l.toArray listed:=by simpa using hr
  have hq:wpQuiet P l.toArray C K (bE l k::ks.map (bE l)) a:=hq;rw [List.length_cons,show ks.length+1+f=ks.length+f+1 by omega];unfold wpQuiet at hq;by_cases hw:Region.wanted (bE l k) (yielded l.toArray a.tmps)=true
  ·rw [if_pos hw] at hq;obtain ⟨v,h1,h2⟩:=hq;refine jY h0 (Region.noSelect_spec hsel) (fun c a w=>hQ c _ _ w) hT hkN _ listed a w inv (Region.free_spec h0 hf) hr' (.inl ⟨hw,fun w' hw'=>?_⟩) hC
    (cH hsel hT hn hC hQ ks _ _ (inv.set hr' (by omega)) hB' h h2)
   have h3:=h1 w' hw';unfold Oper.quietAt at h3;have h4:=fun n w2=>mB (P:=P) hp (ρ:=a.eval) (w:=w') (n:=n) (w':=w2);generalize (execOp a.eval (bE l k)).run P w'=r at*
   cases r with
   | ok n w2=>
    obtain ⟨u,rfl⟩:=h4 n w2 rfl;simp only [Oper.quietUpon] at h3;rw [h3.1,h3.2]
   | halt z w2=>simp only [Oper.quietUpon] at h3
  ·rw [if_neg hw] at hq;exact jY h0 (Region.noSelect_spec hsel) (fun c a w=>hQ c _ _ w) hT hkN _ listed a w inv (Region.free_spec h0 hf) hr' (.inr ⟨by simpa using hw,rfl⟩) hC
    (cH hsel hT hn hC hQ ks _ _ (inv.set hr' (by omega)) hB' h hq)
end
inductive OT where
 | last (p:List Nat)
 | one (p:List Nat) (i:Nat) (t:OT)
 | two (p:List Nat) (i:Nat) (t:OT) (j:Nat) (u:OT)
 | three (p:List Nat) (i:Nat) (t:OT) (j:Nat) (u:OT) (k:Nat) (v:OT)
def zQ (md:Region.Mode) (l:List Oper) (N:Nat):OT->Nat->Array Bool->Bool
 | .last p,n,listed=>eP md l N p listed && Region.seqB md l.toArray (l.length - (N+1)) (N+1) (bT listed p) && decide (n=p.length+(l.length - (N+1)))
 | .one p i t,n,listed=>eP md l N p listed && decide (Region.ready md l.toArray (bT listed p)=[i]) && decide (i<=N) && decide (p.length+1<=n) && zQ md l N t (n - p.length - 1) ((bT listed p).setIfInBounds i true)
 | .two p i t j u,n,listed=>eP md l N p listed && decide (Region.ready md l.toArray (bT listed p)=[i,j]) && decide (i<=N) && decide (j<=N) && decide (p.length+1<=n) && zQ md l N t (n - p.length - 1) ((bT listed p).setIfInBounds i true) && zQ md l N u (n - p.length - 1) ((bT listed p).setIfInBounds j true)
 | .three p i t j u k v,n,listed=>eP md l N p listed && decide (Region.ready md l.toArray (bT listed p)=[i,j,k]) && decide (i<=N) && decide (j<=N) && decide (k<=N) && decide (p.length+1<=n) && zQ md l N t (n - p.length - 1) ((bT listed p).setIfInBounds i true) && zQ md l N u (n - p.length - 1) ((bT listed p).setIfInBounds j true) && zQ md l N v (n - p.length - 1) ((bT listed p).setIfInBounds k true)
section
variable {P:Program} {C:World->Prop} {Q:Exit->Act->World->Prop}
def gH (P:Program) (l:List Oper) (Q:Exit->Act->World->Prop) (C:World->Prop) (tail:List Oper):OT->Act->World->Prop
 | .last p,a,w=>wpQuiet P l.toArray C (fun a'=>wpList P l.toArray Q tail a' w) (p.map (bE l)) a
 | .one p i t,a,w=>wpQuiet P l.toArray C (fun a'=>cG P l.toArray Q C (bE l i) (gH P l Q C tail t) a' w) (p.map (bE l)) a
 | .two p i t j u,a,w=>wpQuiet P l.toArray C (fun a'=>cG P l.toArray Q C (bE l i) (gH P l Q C tail t) a' w/\cG P l.toArray Q C (bE l j) (gH P l Q C tail u) a' w) (p.map (bE l)) a
 | .three p i t j u k v,a,w=>wpQuiet P l.toArray C (fun a'=>cG P l.toArray Q C (bE l i) (gH P l Q C tail t) a' w/\cG P l.toArray Q C (bE l j) (gH P l Q C tail u) a' w/\cG P l.toArray Q C (bE l k) (gH P l Q C tail v) a' w) (p.map (bE l)) a
theorem dJ {n:Nat} {K:Act->World->Prop} (hN:N < l.length) (hi:i<=N) (h:cG P l.toArray Q C (bE l i) K a w)
  (hk:∀ a' w',C w'->K a' w'->dG P md l.toArray Q C N n (listed.setIfInBounds i true) a' w'):wpOp P l.toArray Q i (fun a' w'=>(i<=N->C w')/\dG P md l.toArray Q C N n (listed.setIfInBounds i true) a' w') a w:=by
 have h0:l.toArray[i]?=some (bE l i):=by simpa using fS (l:=l) (k:=i) (by omega)
 unfold wpOp;simp only [h0];rw [if_pos h.1];exact .inl (Oper.wp_mono (fun a2 w2 h2=>⟨fun _=>h2.1,hk a2 w2 h2.1 h2.2⟩) h.2)
theorem qG (hsel:Region.noSelect l.toArray=true) (hT:mN md l.toArray N) (hn:N < l.length)
  (hQ:∀ c a a' w,Q (.panic c) a w->Q (.panic c) a' w):∀ (t:OT) (n:Nat) (listed:Array Bool) (a:Act) (w:World),C w->HeadInv md l.toArray (N+1) listed->zQ md l N t n listed=true->
  gH P l Q C (l.drop (N+1)) t a w->dG P md l.toArray Q C N n listed a w:=by
 intro t
 induction t with
 | last p=>
  intro n listed a w hC inv hB h;simp only [zQ,Bool.and_eq_true,decide_eq_true_eq] at hB;obtain ⟨⟨hp,hq⟩,rfl⟩:=hB;refine cH hsel hT hn hC hQ p listed a inv hp (fun a' hk _=>?_) h;have hd:(l.drop (N+1)).length=l.length - (N+1):=by simp
  have:=hO (P:=P) (md:=md) (ops:=l.toArray) (C:=C) (Q:=Q) (N:=N) (l.drop (N+1)) (N+1) (bT listed p) a' w (Nat.lt_succ_self _) (fun j=>by simp [List.getElem?_drop]) (by rw [hd];exact hq) hk;rwa [hd] at this
 | one p i t iht=>
  intro n listed a w hC inv hB h;simp only [zQ,Bool.and_eq_true,decide_eq_true_eq] at hB;obtain ⟨⟨⟨⟨hp,hr⟩,hi⟩,hn'⟩,ht⟩:=hB;obtain ⟨f,rfl⟩:∃ f,n=p.length+(f+1):=⟨n - p.length - 1,by omega⟩;rw [show p.length+(f+1) - p.length - 1=f by omega] at ht;refine cH hsel hT hn hC hQ p listed a inv hp (fun a' hk inv'=>?_) h;refine ⟨fun h1=>(by rw [hr] at h1;cases h1),fun x hx=>?_⟩;have hx':=hx;rw [hr] at hx;obtain rfl:x=i:=by simpa using hx
  exact dJ hn hi hk (fun a2 w2 hC2 h2=>iht f _ a2 w2 hC2 (inv'.set hx' (by omega)) ht h2)
 | two p i t j u iht ihu=>
  intro n listed a w hC inv hB h;simp only [zQ,Bool.and_eq_true,decide_eq_true_eq] at hB;obtain ⟨⟨⟨⟨⟨⟨hp,hr⟩,hi⟩,hj⟩,hn'⟩,ht⟩,hu⟩:=hB;obtain ⟨f,rfl⟩:∃ f,n=p.length+(f+1):=⟨n - p.length - 1,by omega⟩;rw [show p.length+(f+1) - p.length - 1=f by omega] at ht hu;refine cH hsel hT hn hC hQ p listed a inv hp (fun a' hk inv'=>?_) h;refine ⟨fun h1=>(by rw [hr] at h1;cases h1),fun x hx=>?_⟩;have hx':=hx;rw [hr] at hx;rcases (by simpa using hx:x=i\/x=j) with rfl | rfl
  ·exact dJ hn hi hk.1 (fun a2 w2 hC2 h2=>iht f _ a2 w2 hC2 (inv'.set hx' (by omega)) ht h2)
  ·exact dJ hn hj hk.2 (fun a2 w2 hC2 h2=>ihu f _ a2 w2 hC2 (inv'.set hx' (by omega)) hu h2)
 | three p i t j u k v iht ihu ihv=>
  intro n listed a w hC inv hB h;simp only [zQ,Bool.and_eq_true,decide_eq_true_eq] at hB;obtain ⟨⟨⟨⟨⟨⟨⟨⟨hp,hr⟩,hi⟩,hj⟩,hkN⟩,hn'⟩,ht⟩,hu⟩,hv⟩:=hB;obtain ⟨f,rfl⟩:∃ f,n=p.length+(f+1):=⟨n - p.length - 1,by omega⟩;rw [show p.length+(f+1) - p.length - 1=f by omega] at ht hu hv;refine cH hsel hT hn hC hQ p listed a inv hp (fun a' hk inv'=>?_) h;refine ⟨fun h1=>(by rw [hr] at h1;cases h1),fun x hx=>?_⟩;have hx':=hx;rw [hr] at hx;rcases (by simpa using hx:x=i\/x=j\/x=k) with rfl | rfl | rfl
  ·exact dJ hn hi hk.1 (fun a2 w2 hC2 h2=>iht f _ a2 w2 hC2 (inv'.set hx' (by omega)) ht h2)
  ·exact dJ hn hj hk.2.1 (fun a2 w2 hC2 h2=>ihu f _ a2 w2 hC2 (inv'.set hx' (by omega)) hu h2)
  ·exact dJ hn hkN hk.2.2 (fun a2 w2 hC2 h2=>ihv f _ a2 w2 hC2 (inv'.set hx' (by omega)) hv h2)
end
def yI (l:List Oper) (N:Nat) (t:OT):Bool:=
 Region.noSelect l.toArray && yJ .any l N && zQ .any l N t l.length (Array.replicate l.toArray.size false)
theorem oC {id:Nat} {C:World->Prop} (N:Nat) (t:OT) (hm:P.follows .mixedOrders=true) (hB:yI l N t=true) (hC:C w.drew)
  (h:gH P l (NoPanic Q) C (l.drop (N+1)) t a w.drew):(Code.region id l.toArray true).wp P Q a w:=by
 refine wp_region_noPanic ?_;unfold yI at hB;simp only [Bool.and_eq_true] at hB;obtain ⟨⟨hsel,htl⟩,ht⟩:=hB;obtain ⟨hn,hT⟩:=tU htl;have inv0:HeadInv .any l.toArray (N+1) (Array.replicate l.toArray.size false):=
  ⟨by simp,fun j oj _ hl=>(by rw [getD_replicate_false] at hl;cases hl),fun t _ ht=>getD_in (by simpa using ht) (getD_replicate_false _ _)⟩
 have H:=qG (P:=P) (md:=.any) (C:=C) (Q:=NoPanic Q) (N:=N) hsel hT hn (fun _ _ _ _ h=>h.elim) t l.length _ a w.drew hC inv0 ht h;refine wp_region_any hm (fU (C:=C) (N:=N) _ _ _ _ ?_);simpa using H
theorem eA {id:Nat} (N:Nat) (t:OT) (hm:P.follows .mixedOrders=true) (hB:yI l N t=true)
  (h:gH P l (NoPanic Q) (fun w'=>∃ x:jS w,w'=x.nx) (l.drop (N+1)) t a w.drew):(Code.region id l.toArray true).wp P Q a w:=
 oC N t hm hB ⟨⟨w.drew,aN (Below.refl _ _) 1⟩,rfl⟩ h
structure yA (w:World) (M:Nat->Prop) where
 fin:World
 chg:aT w fin M
instance (w:World) (M:Nat->Prop):Nonempty (yA w M):=⟨⟨w,aT.refl _ _⟩⟩
theorem bM {id:Nat} (M:Nat->Prop) (N:Nat) (t:OT) (hm:P.follows .mixedOrders=true) (hB:yI l N t=true)
  (h:gH P l (NoPanic Q) (fun w'=>∃ x:yA w M,w'=x.fin) (l.drop (N+1)) t a w.drew):(Code.region id l.toArray true).wp P Q a w:=
 oC N t hm hB ⟨⟨w.drew,(aT.refl _ _).drew⟩,rfl⟩ h
theorem bA {M:Nat->Prop} {g:Nat} {u:Value} (h:w.cell? ⟨g,i,none⟩=some u) (hg:¬ M g):∀ x:yA w M,x.fin.cell? ⟨g,i,none⟩=some u:=fun x=>
 (World.cell?_of_block (x.chg.block g (World.block_lt_of_cell? w _ h) hg)).trans h
section
variable {P:Program} {l:List Oper} {Q:Exit->Act->World->Prop} {C:World->Prop} {tail:List Oper} {a:Act} {w:World}
theorem aM (h:wpQuiet P l.toArray C (fun a'=>wpList P l.toArray Q tail a' w) (p.map (bE l)) a):gH P l Q C tail (.last p) a w:=h
theorem aD {t:OT} (h:wpQuiet P l.toArray C (fun a'=>cG P l.toArray Q C (bE l i) (gH P l Q C tail t) a' w) (p.map (bE l)) a):gH P l Q C tail (.one p i t) a w:=h
theorem bF {t u:OT} (h:wpQuiet P l.toArray C (fun a'=>cG P l.toArray Q C (bE l i) (gH P l Q C tail t) a' w/\cG P l.toArray Q C (bE l j) (gH P l Q C tail u) a' w) (p.map (bE l)) a):gH P l Q C tail (.two p i t j u) a w:=h
theorem vZ {k:Nat} {t u v:OT} (h:wpQuiet P l.toArray C (fun a'=>cG P l.toArray Q C (bE l i) (gH P l Q C tail t) a' w/\cG P l.toArray Q C (bE l j) (gH P l Q C tail u) a' w/\cG P l.toArray Q C (bE l k) (gH P l Q C tail v) a' w) (p.map (bE l)) a):gH P l Q C tail (.three p i t j u k v) a w:=h
end
def AP (md:Region.Mode) (l:List Oper) (N:Nat):Bool:=(List.range l.length).all fun j=>decide (j<=N) || (List.range (N+1)).all fun i=>(bE l j).after.any fun e=>Region.binds md e && decide (e.on=i)
theorem zC (h:AP md l N=true):mN md l.toArray N:=fun listed inv i hi hun j hj=>by
 rcases Nat.lt_or_ge j (N+1) with h1 | h1
 ·exact h1
 ·obtain ⟨hju,o,ho,hall⟩:=mem_ready.1 hj;have hjl:=(iV hj).1;simp at hjl;have h2:=(List.all_eq_true.1 h) j (List.mem_range.2 hjl);rcases Bool.or_eq_true_iff.1 h2 with h3 | h3
  ·have:=of_decide_eq_true h3;omega
  ·have h4:=(List.all_eq_true.1 h3) i (List.mem_range.2 (by omega));have ho':o=bE l j:=by
    have h5:=fS (l:=l) (k:=j) hjl;have h6:l[j]?=some o:=by simpa using ho
    rw [h5] at h6;exact (Option.some.inj h6).symm
   rw [<- ho'] at h4;obtain ⟨x,hx,hx2⟩:=Array.any_iff_exists.1 h4;obtain ⟨hx3,-,hx4⟩:=hx2;rw [Bool.and_eq_true,decide_eq_true_eq] at hx4;have h7:=hall _ (Array.getElem_mem hx) hx4.1;rw [hx4.2,getD_both hun] at h7
   cases h7
def CT (N:Nat) (listed:Array Bool):Bool:=(List.range (N+1)).all fun i=>listed.getD i false
theorem BJ (h:CT N listed=true):∀ i,i<=N->listed.getD i true=true:=fun i hi=>by
 have h1:=(List.all_eq_true.1 h) i (List.mem_range.2 (by omega))
 cases h2:listed.getD i true with
 | true=>rfl
 | false=>rw [getD_both h2] at h1;cases h1
section
variable {P:Program} {C C2:World->Prop} {Q:Exit->Act->World->Prop}
theorem mT {md:Region.Mode} {ops:Array Oper} {N N2:Nat}:∀ (fuel:Nat) (listed:Array Bool) (a:Act) (w:World),(∀ i,i<=N->listed.getD i true=true)->dG P md ops Q C2 N2 fuel listed a w->dG P md ops Q C N fuel listed a w
 | 0,_,_,_,_,h=>h
 | fuel+1,listed,a,w,hd,h=>by
  have key:∀ i∈Region.ready md ops listed,¬ i<=N:=fun i hi hn=>by
   have:=(iV hi).2;rw [hd i hn] at this
   cases this
  refine ⟨h.1,fun i hi=>wpOp_mono (fun a' w' h'=>⟨fun hn=>absurd hn (key i hi),mT fuel _ a' w' (fun j hj=>?_) h'.2⟩) (h.2 i hi)⟩;have e:i≠j:=fun e=>key i hi (e ▸ hj);rw [getD_set_ne true e];exact hd j hj
def uQ (md:Region.Mode) (l:List Oper) (N:Nat) (t2:OT):OT->Nat->Array Bool->Bool
 | .last p,n,listed=>eP md l N p listed && CT N (bT listed p) && decide (p.length<=n) && zQ md l (l.length - 1) t2 (n - p.length) (bT listed p)
 | .one p i t,n,listed=>eP md l N p listed && decide (Region.ready md l.toArray (bT listed p)=[i]) && decide (i<=N) && decide (p.length+1<=n) && uQ md l N t2 t (n - p.length - 1) ((bT listed p).setIfInBounds i true)
 | .two p i t j u,n,listed=>eP md l N p listed && decide (Region.ready md l.toArray (bT listed p)=[i,j]) && decide (i<=N) && decide (j<=N) && decide (p.length+1<=n) && uQ md l N t2 t (n - p.length - 1) ((bT listed p).setIfInBounds i true) && uQ md l N t2 u (n - p.length - 1) ((bT listed p).setIfInBounds j true)
 | .three _ _ _ _ _ _ _,_,_=>false
def iO (P:Program) (l:List Oper) (Q:Exit->Act->World->Prop) (C:World->Prop) (t2:OT):OT->Act->World->Prop
 | .last p,a,w=>wpQuiet P l.toArray C (fun a'=>gH P l Q (fun w'=>∃ x:World,w'=x) [] t2 a' w) (p.map (bE l)) a
 | .one p i t,a,w=>wpQuiet P l.toArray C (fun a'=>cG P l.toArray Q C (bE l i) (iO P l Q C t2 t) a' w) (p.map (bE l)) a
 | .two p i t j u,a,w=>wpQuiet P l.toArray C (fun a'=>cG P l.toArray Q C (bE l i) (iO P l Q C t2 t) a' w/\cG P l.toArray Q C (bE l j) (iO P l Q C t2 u) a' w) (p.map (bE l)) a
 | .three _ _ _ _ _ _ _,_,_=>False
theorem wB {t2:OT} (hsel:Region.noSelect l.toArray=true) (hT:mN md l.toArray N) (hn:N < l.length)
  (hQ:∀ c a a' w,Q (.panic c) a w->Q (.panic c) a' w):∀ (t:OT) (n:Nat) (listed:Array Bool) (a:Act) (w:World),C w->HeadInv md l.toArray (N+1) listed->uQ md l N t2 t n listed=true->
  iO P l Q C t2 t a w->dG P md l.toArray Q C N n listed a w:=by
 have hT2:=tU (md:=md) (l:=l) (N:=l.length - 1) (by unfold yJ;simp;left;omega);intro t
 induction t with
 | last p=>
  intro n listed a w hC inv hB h;simp only [uQ,Bool.and_eq_true,decide_eq_true_eq] at hB;obtain ⟨⟨⟨hp,hd⟩,hpn⟩,ht2⟩:=hB;obtain ⟨f,rfl⟩:∃ f,n=p.length+f:=⟨n - p.length,by omega⟩;rw [show p.length+f - p.length=f by omega] at ht2;refine cH hsel hT hn hC hQ p listed a inv hp (fun a' hk inv'=>?_) h;refine mT (C2:=fun w'=>∃ x:World,w'=x) (N2:=l.length - 1) f _ a' w (BJ hd) ?_;exact qG (P:=P) (md:=md) (C:=fun w'=>∃ x:World,w'=x) (Q:=Q) hsel hT2.2 hT2.1 hQ t2 f _ a' w ⟨w,rfl⟩ ⟨inv'.size,inv'.closed,fun t h1 h2=>by simp at h2;omega⟩ ht2 (by rw [List.drop_eq_nil_of_le (by omega)];exact hk)
 | one p i t iht=>
  intro n listed a w hC inv hB h;simp only [uQ,Bool.and_eq_true,decide_eq_true_eq] at hB;obtain ⟨⟨⟨⟨hp,hr⟩,hi⟩,hn'⟩,ht⟩:=hB;obtain ⟨f,rfl⟩:∃ f,n=p.length+(f+1):=⟨n - p.length - 1,by omega⟩;rw [show p.length+(f+1) - p.length - 1=f by omega] at ht;refine cH hsel hT hn hC hQ p listed a inv hp (fun a' hk inv'=>?_) h;refine ⟨fun h1=>(by rw [hr] at h1;cases h1),fun x hx=>?_⟩;have hx':=hx;rw [hr] at hx;obtain rfl:x=i:=by simpa using hx
  exact dJ hn hi hk (fun a2 w2 hC2 h2=>iht f _ a2 w2 hC2 (inv'.set hx' (by omega)) ht h2)
 | two p i t j u iht ihu=>
  intro n listed a w hC inv hB h;simp only [uQ,Bool.and_eq_true,decide_eq_true_eq] at hB;obtain ⟨⟨⟨⟨⟨⟨hp,hr⟩,hi⟩,hj⟩,hn'⟩,ht⟩,hu⟩:=hB;obtain ⟨f,rfl⟩:∃ f,n=p.length+(f+1):=⟨n - p.length - 1,by omega⟩;rw [show p.length+(f+1) - p.length - 1=f by omega] at ht hu;refine cH hsel hT hn hC hQ p listed a inv hp (fun a' hk inv'=>?_) h;refine ⟨fun h1=>(by rw [hr] at h1;cases h1),fun x hx=>?_⟩;have hx':=hx;rw [hr] at hx;rcases (by simpa using hx:x=i\/x=j) with rfl | rfl
  ·exact dJ hn hi hk.1 (fun a2 w2 hC2 h2=>iht f _ a2 w2 hC2 (inv'.set hx' (by omega)) ht h2)
  ·exact dJ hn hj hk.2 (fun a2 w2 hC2 h2=>ihu f _ a2 w2 hC2 (inv'.set hx' (by omega)) hu h2)
 | three=>intro n listed a w hC inv hB h;exact h.elim
end
def AV (l:List Oper) (N:Nat) (t t2:OT):Bool:=
 Region.noSelect l.toArray && decide (N < l.length) && AP .any l N && uQ .any l N t2 t l.length (Array.replicate l.toArray.size false)
theorem cS {id:Nat} (M:Nat->Prop) (N:Nat) (t t2:OT) (hm:P.follows .mixedOrders=true) (hB:AV l N t t2=true)
  (h:iO P l (NoPanic Q) (fun w'=>∃ x:yA w M,w'=x.fin) t2 t a w.drew):(Code.region id l.toArray true).wp P Q a w:=by
 refine wp_region_noPanic ?_;unfold AV at hB;simp only [Bool.and_eq_true,decide_eq_true_eq] at hB;obtain ⟨⟨⟨hsel,hn⟩,hT⟩,ht⟩:=hB;have inv0:HeadInv .any l.toArray (N+1) (Array.replicate l.toArray.size false):=
  ⟨by simp,fun j oj _ hl=>(by rw [getD_replicate_false] at hl;cases hl),fun t _ ht=>getD_in (by simpa using ht) (getD_replicate_false _ _)⟩
 have H:=wB (P:=P) (md:=.any) (C:=fun w'=>∃ x:yA w M,w'=x.fin) (Q:=NoPanic Q) (N:=N) hsel (zC hT) hn (fun _ _ _ _ h=>h.elim) t l.length _ a w.drew ⟨⟨w.drew,(aT.refl _ _).drew⟩,rfl⟩ inv0 ht h;refine wp_region_any hm (fU (C:=fun w'=>∃ x:yA w M,w'=x.fin) (N:=N) _ _ _ _ ?_);simpa using H
section
variable {P:Program} {l:List Oper} {Q:Exit->Act->World->Prop} {C:World->Prop} {t2:OT} {a:Act} {w:World}
theorem bI (h:wpQuiet P l.toArray C (fun a'=>gH P l Q (fun w'=>∃ x:World,w'=x) [] t2 a' w) (p.map (bE l)) a):iO P l Q C t2 (.last p) a w:=h
theorem bL {t:OT} (h:wpQuiet P l.toArray C (fun a'=>cG P l.toArray Q C (bE l i) (iO P l Q C t2 t) a' w) (p.map (bE l)) a):iO P l Q C t2 (.one p i t) a w:=h
theorem dR {t u:OT} (h:wpQuiet P l.toArray C (fun a'=>cG P l.toArray Q C (bE l i) (iO P l Q C t2 t) a' w/\cG P l.toArray Q C (bE l j) (iO P l Q C t2 u) a' w) (p.map (bE l)) a):iO P l Q C t2 (.two p i t j u) a w:=h
end
structure Kp (W wr:World) (bs:List Nat) (v:Value) (b:Nat) (t:TypeId) (cs:Array Value):Prop where
 nw:Nw W wr bs v
 blk:aK wr b t cs
section
variable {W wr w':World} {bs:List Nat} {v:Value} {b:Nat} {t:TypeId} {cs:Array Value}
theorem Kp.new (h:Kp W wr bs v b t cs) {bs':List Nat} {e:Ending} (hn:pW wr bs' e w'):∃ v',e=.returned v'/\Kp W w' bs' v' b t cs:=by
 obtain ⟨v',rfl,h1⟩:=hn.nw;exact ⟨v',rfl,h1.after h.nw.2,h.blk.below h1.2 h.blk.lt⟩
theorem Kp.drew (h:Kp W wr bs v b t cs):Kp W wr.drew bs v b t cs:=⟨⟨h.nw.1,aN h.nw.2 1⟩,h.blk⟩
theorem Kp.drewN (h:Kp W wr bs v b t cs) (n:Nat):Kp W (wr.drewN n) bs v b t cs:=⟨⟨h.nw.1,aN h.nw.2 n⟩,h.blk⟩
theorem Kp.int (h:Kp W wr bs v b t cs) (z:Int) (hz:gD z) (hl:bs.length<=1000000000000):Calls Tryz.prog 19 #[v,.int .i64 z] wr fun e w'=>∃ v',e=.returned v'/\Kp W w' (bs++bN z) v' b t cs:=by
 obtain ⟨A,c,rfl,hr⟩:=h.nw.reads;exact (fX A _ c bs z wr hl hr hz.1 hz.2).mono fun e w' hn=>h.new hn
theorem Kp.text (h:Kp W wr bs v b t cs) (s:ByteArray) (hl:bs.length+s.size<=950000000000):Calls Tryz.prog 40 #[v,.string s] wr fun e w'=>∃ v',e=.returned v'/\Kp W w' (bs++gI s) v' b t cs:=by
 obtain ⟨A,c,rfl,hr⟩:=h.nw.reads;exact (uH A _ c bs s wr hl hr).mono fun e w' hn=>h.new hn
theorem Kp.ints (h:Kp W wr bs v b t cs) (A1:Option Addr) (n1 c1:Nat) (l:List Int) (hr1:aG W W.heap.size 1 A1 n1 (l.map (Value.int .i64))) (hl:∀ x∈l,gD x) (hk:bs.length+10*n1<=950000000000):
  Calls Tryz.prog 39 #[v,.slice A1 n1 c1] wr fun e w'=>∃ v',e=.returned v'/\Kp W w' (bs++iN l) v' b t cs:=by
 obtain ⟨A,c,rfl,hr⟩:=h.nw.reads;exact (uI A _ c bs A1 n1 c1 l wr hr ((hr1.below h.nw.2).more h.nw.2.size) hl hk).mono fun e w' hn=>h.new hn
theorem Kp.push (h:Kp W wr bs v b t cs) (ht:5≠t) {o:Obj} {v':Value} {x:Nat} (hown:w'.ownsRow W.heap.size 5 1 v' (bs.length+1) (bs.map dZ++[.int .u8 (x:Int)])) (hg:aR (wr.alloc o) w' v v'):Kp W w' (bs++[x]) v' b t cs:=by
 have hne:=aX h.nw.1 h.blk ht;have hs:=h.nw.2.size;refine ⟨⟨?_,(h.nw.2.trans (((Below.refl _ wr).alloc (Nat.le_refl _) o).mono hs)).trans (hg.below (by simp;omega) (fun g hg=>(h.nw.1.lt g hg).1))⟩,hg.blk (h.blk.alloc o) hne⟩;rw [List.length_append,List.map_append];exact hown
end
theorem Kp.c012 {v:Value} {b:Nat} (h:Kp W wr bs v b 83 #[a0,a1,a2,a3,a4,a5]):wr.cell? ⟨b,0,none⟩=some a0/\wr.cell? ⟨b,1,none⟩=some a1/\wr.cell? ⟨b,2,none⟩=some a2:=
 ⟨by rw [h.blk.cell];rfl,by rw [h.blk.cell];rfl,by rw [h.blk.cell];rfl⟩
theorem Kp.c45 {v:Value} {b:Nat} (h:Kp W wr bs v b 83 #[a0,a1,a2,a3,a4,a5]):wr.cell? ⟨b,4,none⟩=some a4/\wr.cell? ⟨b,5,none⟩=some a5:=
 ⟨by rw [h.blk.cell];rfl,by rw [h.blk.cell];rfl⟩
theorem uM {p5 pp:List Nat} {l l':List bG} {x:bG} {fl:Bool} {v1:Value} {b:Nat} {t:TypeId} {cs:Array Value} (hend:l'=l++[x])
  (hpp:p5++List.flatMap eK l++bN x.id++bN x.field++bN x.n=pp) (hfl:x.flag=fl) (h:Kp W wr (pp++[if fl then 1 else 0]++gI x.text++bN x.ref) v1 b t cs):
  Kp W wr (p5++l'.flatMap eK) v1 b t cs:=by
 subst hend;subst hpp;have e:vM x.flag=[if fl then 1 else 0]:=by subst hfl;unfold vM;cases x.flag <;> rfl
 have e2:p5++(l++[x]).flatMap eK=p5++List.flatMap eK l++bN x.id++bN x.field++bN x.n++[if fl then 1 else 0]++gI x.text++bN x.ref:=by
  rw [List.flatMap_append,List.flatMap_cons,List.flatMap_nil,List.append_nil];unfold eK;rw [e];simp only [List.append_assoc]
 rw [e2];exact h
theorem qA (cv:Value) (c:bY) (w:World) (hc:jF w w.heap.size cv c) (hok:c.ok) (hk:100*c.size<=900000000000):
  Calls Tryz.prog 20 #[cv] w (pW w (bQ c)):=by
 obtain ⟨A1,c1,A2,c2,A3,c3,rfl,hr1,hr2,hr3⟩:=hc;obtain ⟨i0,hi,hi0,hi1,hi2⟩:=info_parts fM;obtain ⟨W,hW⟩:=nm (w.alloc (.cells #[.int .i64 c.stamp,.slice A1 c.parents.length c1,.slice A2 c.picks.length c2,.string c.note,.slice A3 c.writes.length c3] 39));have hbw:Below w.heap.size w W:=by subst hW;exact (Below.refl _ w).alloc (Nat.le_refl _) _
 have hblk:aK W w.heap.size 39 #[.int .i64 c.stamp,.slice A1 c.parents.length c1,.slice A2 c.picks.length c2,.string c.note,.slice A3 c.writes.length c3]:=by subst hW;exact aK.new w 39 _
 have hzW:W.heap.size=w.heap.size+1:=by subst hW;simp
 have HR1:=hD ((hr1.below hbw).more hbw.size);have HR2:=hD ((hr2.below hbw).more hbw.size);have HR3:=hD ((hr3.below hbw).more hbw.size);have HBW:=hD hbw;have HOK:=hD hok;have hk':100*(c.parents.length+c.picks.length+c.note.size+c.writes.length+bO c.writes)<=900000000000:=hk;have l1:=cF HOK.out.1;have l2:=fF HOK.out.2.1 (by omega);have l3:=fF HOK.out.2.2.1 (by omega);have l4:=gF (s:=c.note) (by omega);have l5:=dH (n:=c.writes.length) (by omega);have HK0:Hid (Kp W W [] (.slice none 0 0) w.heap.size 39 #[.int .i64 c.stamp,.slice A1 c.parents.length c1,.slice A2 c.picks.length c2,.string c.note,.slice A3 c.writes.length c3]):=⟨⟨World.ownsRow_nil _ _ _ _,Below.refl _ _⟩,hblk⟩;have cc0:=hblk.cell 0;simp at cc0;have HB0:=hD hblk;have HW:=hD hW;have HZW:=hD hzW;clear hr1 hr2 hr3 hok hk hbw hzW hblk;have HP:=hD (HK0.out.int c.stamp HOK.out.1 (by simp));go_enter Tryz.func20,Tryz.ntmps20;go_wp2_with fail;clear hW;refine (HP.out).mono ?_;rintro e w1 ⟨v1,rfl,k1⟩;have HK1:=hD k1;have cc1:=k1.blk.cell 1;simp at cc1;clear k1 HP HK0 cc0;have HP:=hD (HK1.out.ints A1 _ c1 c.parents HR1.out HOK.out.2.1 (by simp only [List.length_append,List.length_nil];omega));go_wp2_with fail;refine (HP.out).mono ?_;rintro e w2 ⟨v2,rfl,k2⟩;have HK2:=hD k2;have cc2:=k2.blk.cell 2;simp at cc2;clear k2 HP HK1 cc1;have HP:=hD (HK2.out.ints A2 _ c2 c.picks HR2.out HOK.out.2.2.1 (by simp only [List.length_append,List.length_nil];omega));go_wp2_with fail;refine (HP.out).mono ?_;rintro e w3 ⟨v3,rfl,k3⟩
 have HK3:=hD k3;have cc3:=k3.blk.cell 3;simp at cc3;clear k3 HP HK2 cc2;have HP:=hD (HK3.out.text c.note (by simp only [List.length_append,List.length_nil];omega));go_wp2_with fail;refine (HP.out).mono ?_;rintro e w4 ⟨v4,rfl,k4⟩;have HK4:=hD k4;have cc4:=k4.blk.cell 4;simp at cc4;clear k4 HP HK3 cc3;have HP:=hD (HK4.out.int (c.writes.length:Int) ⟨by omega,by omega⟩ (by simp only [List.length_append,List.length_nil];omega));go_wp2_with fail;refine (HP.out).mono ?_;rintro e w5 ⟨v5,rfl,k5⟩;simp only [List.nil_append] at k5;obtain ⟨pre5,hp5⟩:∃ p,p=bN c.stamp++iN c.parents++iN c.picks++gI c.note++bN c.writes.length:=⟨_,rfl⟩;rw [<- hp5] at k5;have lp:pre5.length<=100+10*c.parents.length+10*c.picks.length+c.note.size:=by rw [hp5];simp only [List.length_append];omega
 have HP5:=hD hp5;have HK5:=hD k5;clear k5 HP HK4 cc4 hp5 l1 l2 l3 l4 l5 HR1 HR2;go_wp2_with fail;go_loopw [3,4] (fun v' i wr=>∃ j:Nat,j<=c.writes.length/\i=.int .i64 (j:Int)/\Kp W wr (pre5++(c.writes.take j).flatMap eK) v' w.heap.size 39 #[.int .i64 c.stamp,.slice A1 c.parents.length c1,.slice A2 c.picks.length c2,.string c.note,.slice A3 c.writes.length c3]) (fun _ i _=>c.writes.length - (intOf i).toNat)
 case atStart=>exact ⟨0,by omega,rfl,by simpa using HK5.out⟩
 case round=>
  obtain ⟨j,hj,rfl,hst⟩:=hrel;have cc4:=hst.blk.cell 4;simp at cc4;have hsz:=hst.nw.2.size;by_cases hlt:j < c.writes.length
  ·obtain ⟨x,hx⟩:∃ x,c.writes[j]?=some x:=⟨c.writes[j]'hlt,List.getElem?_eq_getElem _⟩;have hxo:=HOK.out.2.2.2 x (List.mem_of_getElem? hx);have hxs:=yK (List.mem_of_getElem? hx);obtain ⟨b,off,rfl,had,hcell⟩:=(HR3.out.below hst.nw.2).head (by omega) (by omega);have q0:=hcell _ _ (gV c.writes j 0 x (.int .i64 x.id) hx rfl (by omega));have q1:=hcell _ _ (gV c.writes j 1 x (.int .i64 x.field) hx rfl (by omega));have q2:=hcell _ _ (gV c.writes j 2 x (.int .i64 x.n) hx rfl (by omega));have q3:=hcell _ _ (gV c.writes j 3 x (.bool x.flag) hx rfl (by omega));have q4:=hcell _ _ (gV c.writes j 4 x (.string x.text) hx rfl (by omega));have q5:=hcell _ _ (gV c.writes j 5 x (.int .i64 x.ref) hx rfl (by omega));simp only [<- Nat.add_assoc,Nat.add_zero] at q0 q1 q2 q3 q4 q5;have hend:c.writes.take (j+1)=c.writes.take j++[x]:=by rw [List.take_add_one,hx];rfl
   have HEND:=hD hend;have HXO:=hD hxo;have hfl:((c.writes.take j).flatMap eK).length<=60*j+bO c.writes:=tT HOK.out.2.2.2 j (by omega);have l1:=cF HXO.out.1;have l2:=cF HXO.out.2.1;have l3:=cF HXO.out.2.2.1;have l6:=cF HXO.out.2.2.2;have l5:=gF (s:=x.text) (by omega);obtain ⟨wc,hwc⟩:=nm (wr.alloc (.cells #[.int .i64 x.id,.int .i64 x.field,.int .i64 x.n,.bool x.flag,.string x.text,.int .i64 x.ref] 83));obtain ⟨bb,hbb⟩:=nm wr.heap.size;have HC0:Hid (Kp W wc (pre5++(c.writes.take j).flatMap eK) u3 bb 83 #[.int .i64 x.id,.int .i64 x.field,.int .i64 x.n,.bool x.flag,.string x.text,.int .i64 x.ref]):=by
    subst hwc hbb;exact ⟨⟨hst.nw.1.alloc _,hst.nw.2.trans (((Below.refl _ wr).alloc (Nat.le_refl _) _).mono hsz)⟩,aK.new wr 83 _⟩
   have HBX:Hid (aK wc w.heap.size 39 #[.int .i64 c.stamp,.slice A1 c.parents.length c1,.slice A2 c.picks.length c2,.string c.note,.slice (some ⟨b,off,none⟩) c.writes.length c3]):=by
    subst hwc;exact hst.blk.alloc _
   have HST:=hD hst;clear hst hx hxo hcell hend;go_wp2_with fail;have m0:Hid ((pre5++(c.writes.take j).flatMap eK).length<=1000000000000):=by unfold Hid;simp only [List.length_append];omega
   have m1:Hid ((pre5++(c.writes.take j).flatMap eK++bN x.id).length<=1000000000000):=by unfold Hid;simp only [List.length_append];omega
   have m2:Hid ((pre5++(c.writes.take j).flatMap eK++bN x.id++bN x.field).length<=1000000000000):=by unfold Hid;simp only [List.length_append];omega
   go_region_held3 (fun w'=>w'.cell? ⟨bb,0,none⟩=some (.int .i64 x.id)/\w'.cell? ⟨bb,1,none⟩=some (.int .i64 x.field)/\w'.cell? ⟨bb,2,none⟩=some (.int .i64 x.n))
    (first | exact HC0.out.drew.c012 | exact G3.out.c012 | exact G2.out.c012 | exact G1.out.c012)
    (first | (go_at_call 19;refine (G2.out.int x.n HXO.out.2.2.1 m2.out).mono ?_;rintro e y3 ⟨b3,rfl,g3⟩;have G3:=hD g3;clear g3) | (go_at_call 19;refine (G1.out.int x.field HXO.out.2.1 m1.out).mono ?_;rintro e y2 ⟨b2,rfl,g2⟩;have G2:=hD g2;clear g2) | (go_at_call 19;refine (HC0.out.drew.int x.id HXO.out.1 m0.out).mono ?_;rintro e y1 ⟨b1,rfl,g1⟩;have G1:=hD g1;clear g1))
   have d3:=G3.out.blk.cell 3;simp at d3;generalize hfg:x.flag=fl at*;have HFG:=hD hfg;have hown3:=G3.out.nw.1;have hz3:=G3.out.nw.2.size;have hlen3:(pre5++List.flatMap eK (List.take j c.writes)++bN x.id++bN x.field++bN x.n).length+x.text.size<=910000000000:=by simp only [List.length_append];omega
   generalize hpp:(pre5++List.flatMap eK (List.take j c.writes)++bN x.id++bN x.field++bN x.n)=pp at*;have HPP:=hD hpp;clear hpp hfg m0 m1 m2 l1 l2 l3 l6 hfl;rcases fl with _ | _
   ·go_wp2_with (at_builtin;refine aF _ rfl (.tmp 55) (.tmp 56) 25 25 rfl W.heap.size 5 i0 (.int .u8 0) 1 1 Tryz.underlying25 hi hi0 hi1 hi2 rfl (by decide) _ _ _ rfl (hown3.alloc _) _ 1 _ rfl (bR _ Tryz.underlying25 [_] 1 1 1 5 rfl (fun u hu=>by simp at hu;subst hu;rfl)) (by unfold maxLen;omega) (by omega) (by simp;omega) ?_);intro b4 y4 hown4 hg4;have G4:=hD (G3.out.push (by decide) (x:=0) hown4 hg4);clear hown4 hg4 hown3 d3;have n4:Hid ((pp++[if false then 1 else 0]).length+x.text.size<=950000000000):=by unfold Hid;simp only [List.length_append,List.length_cons,List.length_nil];omega
    have n5:Hid ((pp++[if false then 1 else 0]++gI x.text).length<=1000000000000):=by unfold Hid;simp only [List.length_append,List.length_cons,List.length_nil];omega
    go_wp2_with fail
    go_region_held3 (fun w'=>w'.cell? ⟨bb,4,none⟩=some (.string x.text)/\w'.cell? ⟨bb,5,none⟩=some (.int .i64 x.ref))
     (first | exact G4.out.drew.c45 | exact G6.out.c45 | exact G5.out.c45)
     (first | (go_at_call 19;refine (G5.out.int x.ref HXO.out.2.2.2 n5.out).mono ?_;rintro e y6 ⟨b6,rfl,g6⟩;have G6:=hD g6;clear g6) | (go_at_call 40;refine (G4.out.drew.text x.text n4.out).mono ?_;rintro e y5 ⟨b5,rfl,g5⟩;have G5:=hD g5;clear g5))
    have R:=uM HEND.out HPP.out HFG.out G6.out;have HRR:Hid (Kp W y6 (pre5++(c.writes.take (j+1)).flatMap eK) b6 w.heap.size 39 #[.int .i64 c.stamp,.slice A1 c.parents.length c1,.slice A2 c.picks.length c2,.string c.note,.slice (some ⟨b,off,none⟩) c.writes.length c3]):=⟨R.nw,HB0.out.below R.nw.2 (by rw [HZW.out];omega)⟩;clear R n4 n5;go_wp2_with fail;go_roundw
    case rel=>exact ⟨j+1,by omega,by go_num,HRR.out⟩
    case measure=>simp [intOf];omega
   ·go_wp2_with (at_builtin;refine aF _ rfl (.tmp 52) (.tmp 53) 25 25 rfl W.heap.size 5 i0 (.int .u8 0) 1 1 Tryz.underlying25 hi hi0 hi1 hi2 rfl (by decide) _ _ _ rfl (hown3.alloc _) _ 1 _ rfl (bR _ Tryz.underlying25 [_] 1 1 1 5 rfl (fun u hu=>by simp at hu;subst hu;rfl)) (by unfold maxLen;omega) (by omega) (by simp;omega) ?_);intro b4 y4 hown4 hg4;have G4:=hD (G3.out.push (by decide) (x:=1) hown4 hg4);clear hown4 hg4 hown3 d3;have n4:Hid ((pp++[if true then 1 else 0]).length+x.text.size<=950000000000):=by unfold Hid;simp only [List.length_append,List.length_cons,List.length_nil];omega
    have n5:Hid ((pp++[if true then 1 else 0]++gI x.text).length<=1000000000000):=by unfold Hid;simp only [List.length_append,List.length_cons,List.length_nil];omega
    go_wp2_with fail
    go_region_held3 (fun w'=>w'.cell? ⟨bb,4,none⟩=some (.string x.text)/\w'.cell? ⟨bb,5,none⟩=some (.int .i64 x.ref))
     (first | exact G4.out.drew.c45 | exact G6.out.c45 | exact G5.out.c45)
     (first | (go_at_call 19;refine (G5.out.int x.ref HXO.out.2.2.2 n5.out).mono ?_;rintro e y6 ⟨b6,rfl,g6⟩;have G6:=hD g6;clear g6) | (go_at_call 40;refine (G4.out.drew.text x.text n4.out).mono ?_;rintro e y5 ⟨b5,rfl,g5⟩;have G5:=hD g5;clear g5))
    have R:=uM HEND.out HPP.out HFG.out G6.out;have HRR:Hid (Kp W y6 (pre5++(c.writes.take (j+1)).flatMap eK) b6 w.heap.size 39 #[.int .i64 c.stamp,.slice A1 c.parents.length c1,.slice A2 c.picks.length c2,.string c.note,.slice (some ⟨b,off,none⟩) c.writes.length c3]):=⟨R.nw,HB0.out.below R.nw.2 (by rw [HZW.out];omega)⟩;clear R n4 n5;go_wp2_with fail;go_roundw
    case rel=>exact ⟨j+1,by omega,by go_num,HRR.out⟩
    case measure=>simp [intOf];omega
  ·have R:pW w (bQ c) (.returned u3) wr:=by
    have h1:=(hst.nw.after HBW.out).mk;have e1:c.writes.take j=c.writes:=List.take_of_length_le (by omega);rw [e1,HP5.out] at h1;exact h1
   clear hst;go_wp2_with fail;go_ret;exact R
end
end Go.Proofs.YtkgpoimmniojjaaGreat
