/- No condition. -/
import Derived.Test.YtkgpoimmniojjaaGreatZaAC
import Derived.Deep.Quiet
import Derived.StillTail
import Derived.OrdersHeld
import Derived.Deep.RegionHeld3
namespace Go.Proofs.YtkgpoimmniojjaaGreat
set_option linter.unusedVariables false
set_option linter.unusedSimpArgs false
set_option maxRecDepth 100000
set_option maxHeartbeats 16000000
section
open Go.RowKit
variable {a:Act} {o oi:Oper} {P:Program} {w w':World} {i N:Nat} {Q:Exit->Act->World->Prop} {K:Act->Prop} {S:Value->Prop} {l rest:List Oper} {ops:Array Oper} {fn:Func} {C:World->Prop} {s:Sem Value} {n:Next} {R:Ending->World->Prop}
section
variable {P:Program} {md:Region.Mode} {ops:Array Oper} {C:World->Prop}
def gY (P:Program) (C:World->Prop) (w:World) (S:Value->Prop):Result Next->Prop
 | .ok (.value u) w'=>w'=w/\S u
 | .ok .skip w'=>w'=w/\S undef
 | .ok (.enter f args) w'=>w'=w/\Calls P f args w (fun e w''=>∃ v,e=.returned v/\S v/\C w'')
 | _=>False
def jV (P:Program) (ops:Array Oper) (C:World->Prop) (o:Oper) (S:Value->Prop) (a:Act):Prop:=
 (Region.wanted o (yielded ops a.tmps)=true/\∀ w,C w->gY P C w S ((execOp a.eval o).run P w))\/(Region.wanted o (yielded ops a.tmps)=false/\S=fun v=>v=undef)
def cOp (P:Program) (ops:Array Oper) (C:World->Prop) (i:Nat) (K:Act->Prop) (a:Act):Prop:=
 match ops[i]? with
 | none=>K a
 | some o=>∃ S,jV P ops C o S a/\∀ v,S v->K (a.put o.dst v)
def lW (P:Program) (md:Region.Mode) (ops:Array Oper) (C:World->Prop) (Q:Act->Prop):Nat->Array Bool->Act->Prop
 | 0,listed,a=>Region.ready md ops listed=[]/\Q a
 | fuel+1,listed,a=>(Region.ready md ops listed=[]->Q a)/\∀ i∈Region.ready md ops listed,cOp P ops C i (lW P md ops C Q fuel (listed.setIfInBounds i true)) a
theorem BL {K':Act->Prop} (h:∀ a,K a->K' a) (hh:cOp P ops C i K a):cOp P ops C i K' a:=by
 unfold cOp at*
 split
 ·exact h _ (by simpa [*] using hh)
 ·rename_i o ho;simp only [ho] at hh;obtain ⟨S,h1,h2⟩:=hh;exact ⟨S,h1,fun v hv=>h _ (h2 v hv)⟩
theorem tH {K':Act->World->Prop} {Q':Exit->Act->World->Prop} (hC:C w) (h:∀ a w',C w'->K a->K' a w') (hh:cOp P ops C i K a):wpOp P ops Q' i K' a w:=by
 unfold cOp at hh;unfold wpOp
 split
 ·rename_i ho;simp only [ho] at hh;exact h _ _ hC hh
 ·rename_i o ho;simp only [ho] at hh;obtain ⟨S,h1,h2⟩:=hh;rcases h1 with ⟨hw,h1⟩ | ⟨hw,rfl⟩
  ·rw [if_pos hw];refine .inl ?_;have h3:=h1 w hC;unfold Oper.wp;generalize (execOp a.eval o).run P w=r at*
   cases r with
   | ok n w'=>
    cases n <;> simp only [gY] at h3 <;> simp only [Oper.upon]
    case value u=>
     obtain ⟨e1,e2⟩:=h3;rw [e1];exact h _ _ hC (h2 _ e2)
    case skip=>
     obtain ⟨e1,e2⟩:=h3;rw [e1];exact h _ _ hC (h2 _ e2)
    case enter f args=>
     obtain ⟨e1,hc⟩:=h3;rw [e1];exact hc.mono fun e w'' ⟨v,he,hv,hw''⟩=>by subst he;exact h _ _ hw'' (h2 _ hv)
   | halt x w'=>simp only [gY] at h3
  ·rw [if_neg (by rw [hw];exact Bool.false_ne_true)];exact h _ _ hC (h2 _ rfl)
theorem jX {Q:Act->Prop} {Q':Exit->Act->World->Prop} (hQ:∀ a w,C w->Q a->Q' .normal a w):∀ (fuel:Nat) (listed:Array Bool) (a:Act) (w:World),C w->
  lW P md ops C Q fuel listed a->wpAny P md ops Q' fuel listed a w
 | 0,_,_,_,hw,h=>⟨h.1,hQ _ _ hw h.2⟩
 | fuel+1,_,_,_,hw,h=>⟨fun h0=>hQ _ _ hw (h.1 h0),fun i hi=>tH hw (fun a' w' hw'=>jX hQ fuel _ a' w' hw') (h.2 i hi)⟩
theorem jV.of_same {a':Act} (hy:jV P ops C o S a) (he:execOp a'.eval o=execOp a.eval o)
  (hw:Region.wanted o (yielded ops a'.tmps)=Region.wanted o (yielded ops a.tmps)):jV P ops C o S a':=by
 unfold jV at*;rw [he,hw];exact hy
def vT (P:Program) (o:Oper):Prop:=∀ (ρ:Operand->Value) (w:World) f args w',(execOp ρ o).run P w≠.ok (.enter f args) w'
theorem CI {j:Nat} {oj:Oper} (hj:ops[j]?=some oj) (hap:oi.apart ops oj=true)
  (hsi:∀ cs b,oi.op≠.select cs b) (hsj:∀ cs b,oj.op≠.select cs b) (hS:(∃ v0,S=fun v=>v=v0)\/((∃ v,S v)/\vT P oj))
  (hy:jV P ops C oi S a) (h:∀ v,S v->cOp P ops C j K (a.put oi.dst v)):
  cOp P ops C j (fun a'=>jV P ops C oi S a'/\∀ v,S v->K (a'.put oi.dst v)) a:=by
 obtain ⟨h1,h2,h3⟩:=Oper.apart_spec hap;have keep:∀ (a:Act),jV P ops C oi S a->∀ u,jV P ops C oi S (a.put oj.dst u):=fun a hy u=>
  hy.of_same (execOp_put oi hsi a oj.dst u h3) (wanted_put oi a oj.dst u h3)
 have move:∀ {T:Value->Prop} {v:Value},jV P ops C oj T (a.put oi.dst v)->jV P ops C oj T a:=fun {T v} hT=>
  hT.of_same (execOp_put oj hsj a oi.dst v h1).symm (wanted_put oj a oi.dst v h1).symm
 unfold cOp at*;simp only [hj] at*;rcases hS with ⟨v0,rfl⟩ | ⟨⟨v0,hv0⟩,hpl⟩
 ·obtain ⟨T,hT,hK⟩:=h v0 rfl;refine ⟨T,move hT,fun u hu=>⟨keep a hy u,fun v hv=>?_⟩⟩;subst hv;rw [<- Act.put_comm a v u h2];exact hK u hu
 ·obtain ⟨T0,hT0,hK0⟩:=h v0 hv0;rcases move hT0 with ⟨hw,hc0⟩ | ⟨hw,rfl⟩
  ·refine ⟨fun u=>∃ w,C w/\((execOp a.eval oj).run P w=.ok (.value u) w\/((execOp a.eval oj).run P w=.ok .skip w/\u=undef)),.inl ⟨hw,fun w hw'=>?_⟩,fun u ⟨w,hwC,hu⟩=>⟨keep a hy u,fun v hv=>?_⟩⟩
   ·have h4:=hc0 w hw';have h5:=hpl a.eval w;generalize hr:(execOp a.eval oj).run P w=r at*
    cases r with
    | ok n w'=>
     cases n <;> simp only [gY] at h4 ⊢
     case value u=>exact ⟨h4.1,w,hw',.inl (by rw [hr,h4.1])⟩
     case skip=>exact ⟨h4.1,w,hw',.inr ⟨by rw [hr,h4.1],by first | rfl | trivial⟩⟩
     case enter f args=>exact absurd rfl (h5 f args w')
    | halt x w'=>simp only [gY] at h4
   ·obtain ⟨T,hT,hK⟩:=h v hv;rw [<- Act.put_comm a v u h2];refine hK u ?_;rcases move hT with ⟨_,hc⟩ | ⟨hw2,_⟩
    ·have h4:=hc w hwC;rcases hu with hu | ⟨hu,rfl⟩
     ·rw [hu] at h4;exact h4.2
     ·rw [hu] at h4;exact h4.2
    ·rw [hw] at hw2;cases hw2
  ·refine ⟨_,.inr ⟨hw,rfl⟩,fun u hu=>⟨keep a hy u,fun v hv=>?_⟩⟩;subst hu;obtain ⟨T,hT,hK⟩:=h v hv;rw [<- Act.put_comm a v _ h2];rcases move hT with ⟨hw2,_⟩ | ⟨_,rfl⟩
   ·rw [hw] at hw2;cases hw2
   ·exact hK _ rfl
theorem jV.cOp (hi:ops[i]?=some o) (hy:jV P ops C o S a) (h:∀ v,S v->K (a.put o.dst v)):cOp P ops C i K a:=by
 unfold Go.Proofs.YtkgpoimmniojjaaGreat.cOp;simp only [hi];exact ⟨S,hy,h⟩
theorem eM {Q:Act->Prop} (hi:ops[i]?=some oi) (hsel:∀ (j:Nat) (o:Oper) cs b,ops[j]?=some o->o.op≠.select cs b)
  (hne:∃ v,S v) (hS:(∃ v0,S=fun v=>v=v0)\/∀ j oj,ops[j]?=some oj->j≠i->vT P oj):
  ∀ (fuel:Nat) (listed:Array Bool) (a:Act),
   (∀ j oj,ops[j]?=some oj->j≠i->listed.getD j true=false->(∀ e∈oj.after,Region.binds md e=true->e.on≠i)->oi.apart ops oj=true)->
   i∈Region.ready md ops listed->jV P ops C oi S a->
   (∀ v,S v->lW P md ops C Q fuel (listed.setIfInBounds i true) (a.put oi.dst v))->lW P md ops C Q (fuel+1) listed a:=by
 intro fuel
 induction fuel with
 | zero=>
  intro listed a _ hr hy H;refine ⟨fun h=>(by rw [h] at hr;cases hr),fun j hj=>?_⟩;by_cases hji:j=i
  ·subst hji;exact hy.cOp hi H
  ·obtain ⟨v,hv⟩:=hne;have:=ready_mono hj hji;rw [(H v hv).1] at this
   cases this
 | succ fuel ih=>
  intro listed a hfree hr hy H;refine ⟨fun h=>(by rw [h] at hr;cases hr),fun j hj=>?_⟩;by_cases hji:j=i
  ·subst hji;exact hy.cOp hi H
  ·have h1:∀ v,S v->Go.Proofs.YtkgpoimmniojjaaGreat.cOp P ops C j _ (a.put oi.dst v):=fun v hv=>(H v hv).2 j (ready_mono hj hji);obtain ⟨hjun,oj,hoj,hall⟩:=mem_ready.1 hj;have hnot:∀ e∈oj.after,Region.binds md e=true->e.on≠i:=fun e he hb heq=>by
    have h1:=hall e he hb;have h0:=(mem_ready.1 hr).1;rw [heq] at h1;rcases Nat.lt_or_ge i listed.size with h' | h'
    ·simp [h'] at h0 h1;rw [h0] at h1;cases h1
    ·simp [Array.getElem?_eq_none h'] at h1
   have h2:=CI hoj (hfree j oj hoj hji hjun hnot) (fun cs b=>hsel i oi cs b hi) (fun cs b=>hsel j oj cs b hoj) (hS.imp id fun h=>⟨hne,h j oj hoj hji⟩) hy h1;have hfree':∀ k ok,ops[k]?=some ok->k≠i->(listed.setIfInBounds j true).getD k true=false->
     (∀ e∈ok.after,Region.binds md e=true->e.on≠i)->oi.apart ops ok=true:=fun k ok hk hki hun hno=>by
    refine hfree k ok hk hki ?_ hno;by_cases hjk:j=k
    ·subst hjk;exact hjun
    ·rw [getD_set_ne true hjk] at hun;exact hun
   refine BL (fun a' h3=>ih (listed.setIfInBounds j true) a' hfree' (ready_mono hr (Ne.symm hji)) h3.1 (fun v hv=>?_)) h2;have:=h3.2 v hv;rw [Array.setIfInBounds_comm _ _ (Ne.symm hji)] at this;exact this
def iP (P:Program) (ops:Array Oper) (C:World->Prop) (Q:Act->Prop):Nat->List Oper->Act->Prop
 | _,[],a=>Q a
 | 0,o::rest,a=>∃ S,jV P ops C o S a/\(∃ v,S v)/\∀ v,S v->wpQuiet P ops C Q rest (a.put o.dst v)
 | n+1,o::rest,a=>if Region.wanted o (yielded ops a.tmps) then o.quiet P a C (iP P ops C Q n rest) else iP P ops C Q n rest (a.put o.dst undef)
theorem kJ {v:Value} (h:∀ w,C w->o.quietAt P a C w v) (hw:Region.wanted o (yielded ops a.tmps)=true):jV P ops C o (fun u=>u=v) a:=by
 refine .inl ⟨hw,fun w hw'=>?_⟩;have h1:=h w hw';unfold Oper.quietAt at h1;generalize (execOp a.eval o).run P w=r at*
 cases r with
 | ok n w'=>
  cases n <;> simp only [Oper.quietUpon] at h1 <;> simp only [gY]
  case value u=>exact h1
  case skip=>exact ⟨h1.1,h1.2.symm⟩
  case enter f args=>exact ⟨h1.1,h1.2.mono fun e w'' ⟨he,hc⟩=>⟨v,he,rfl,hc⟩⟩
 | halt x w'=>simp only [Oper.quietUpon] at h1
theorem iQ {Q:Act->Prop} (hs:Region.noSelect ops=true):∀ (l:List Oper) (k:Nat) (listed:Array Bool) (a:Act),(∀ j,l[j]?=ops[k+j]?)->
  Region.lexFrom md ops l.length k listed=true->wpQuiet P ops C Q l a->lW P md ops C Q l.length listed a
 | [],_,_,_,_,hB,h=>⟨by simpa [Region.lexFrom] using hB,h⟩
 | o::l,k,listed,a,hl,hB,h=>by
  have h0:ops[k]?=some o:=by simpa using (hl 0).symm
  simp only [List.length_cons,Region.lexFrom,Bool.and_eq_true] at hB;obtain ⟨⟨hr,hf⟩,hB'⟩:=hB;have hl':∀ j,l[j]?=ops[k+1+j]?:=fun j=>by have:=hl (j+1);simpa [Nat.add_assoc,Nat.add_comm 1 j] using this
  unfold wpQuiet at h;by_cases hw:Region.wanted o (yielded ops a.tmps)=true
  ·rw [if_pos hw] at h;obtain ⟨v,h1,h2⟩:=h;exact eM (S:=fun u=>u=v) h0 (Region.noSelect_spec hs) ⟨v,rfl⟩ (.inl ⟨v,rfl⟩) l.length listed a (Region.free_spec h0 hf) (by simpa using hr) (kJ h1 hw) fun u hu=>by
    subst hu;exact iQ hs l (k+1) _ _ hl' hB' h2
  ·rw [if_neg hw] at h;exact eM (S:=fun u=>u=undef) h0 (Region.noSelect_spec hs) ⟨undef,rfl⟩ (.inl ⟨undef,rfl⟩) l.length listed a (Region.free_spec h0 hf) (by simpa using hr) (.inr ⟨by simpa using hw,rfl⟩) fun u hu=>by
    subst hu;exact iQ hs l (k+1) _ _ hl' hB' h
theorem kL {Q:Act->Prop} (hs:Region.noSelect ops=true):∀ (n:Nat) (l:List Oper) (k:Nat) (listed:Array Bool) (a:Act),(∀ j,l[j]?=ops[k+j]?)->
  (∀ j oj,ops[j]?=some oj->j≠k+n->vT P oj)->
  Region.lexFrom md ops l.length k listed=true->iP P ops C Q n l a->lW P md ops C Q l.length listed a
 | n,[],_,_,_,_,_,hB,h=>⟨by simpa [Region.lexFrom] using hB,by cases n <;> exact h⟩
 | 0,o::l,k,listed,a,hl,hp,hB,h=>by
  have h0:ops[k]?=some o:=by simpa using (hl 0).symm
  simp only [List.length_cons,Region.lexFrom,Bool.and_eq_true] at hB;obtain ⟨⟨hr,hf⟩,hB'⟩:=hB;obtain ⟨S,hy,hne,hK⟩:=h;exact eM h0 (Region.noSelect_spec hs) hne (.inr fun j oj hj hji=>hp j oj hj hji) l.length listed a (Region.free_spec h0 hf) (by simpa using hr) hy fun v hv=>
   iQ hs l (k+1) _ _ (fun j=>by have:=hl (j+1);simpa [Nat.add_assoc,Nat.add_comm 1 j] using this) hB' (hK v hv)
 | n+1,o::l,k,listed,a,hl,hp,hB,h=>by
  have h0:ops[k]?=some o:=by simpa using (hl 0).symm
  simp only [List.length_cons,Region.lexFrom,Bool.and_eq_true] at hB;obtain ⟨⟨hr,hf⟩,hB'⟩:=hB;have hl':∀ j,l[j]?=ops[k+1+j]?:=fun j=>by have:=hl (j+1);simpa [Nat.add_assoc,Nat.add_comm 1 j] using this
  have hp':∀ j oj,ops[j]?=some oj->j≠k+1+n->vT P oj:=fun j oj hj hji=>hp j oj hj (by omega);unfold iP at h;by_cases hw:Region.wanted o (yielded ops a.tmps)=true
  ·rw [if_pos hw] at h;obtain ⟨v,h1,h2⟩:=h;exact eM (S:=fun u=>u=v) h0 (Region.noSelect_spec hs) ⟨v,rfl⟩ (.inl ⟨v,rfl⟩) l.length listed a (Region.free_spec h0 hf) (by simpa using hr) (kJ h1 hw) fun u hu=>by
    subst hu;exact kL hs n l (k+1) _ _ hl' hp' hB' h2
  ·rw [if_neg hw] at h;exact eM (S:=fun u=>u=undef) h0 (Region.noSelect_spec hs) ⟨undef,rfl⟩ (.inl ⟨undef,rfl⟩) l.length listed a (Region.free_spec h0 hf) (by simpa using hr) (.inr ⟨by simpa using hw,rfl⟩) fun u hu=>by
    subst hu;exact kL hs n l (k+1) _ _ hl' hp' hB' h
theorem iB {Q:Act->Prop}:∀ (n:Nat) (l:List Oper) (a:Act),wpQuiet P ops C (fun a'=>iP P ops C Q 0 (l.drop n) a') (l.take n) a->iP P ops C Q n l a
 | 0,l,a,h=>by
  have h:iP P ops C Q 0 l a:=h;exact h
 | n+1,[],a,h=>by
  have h:iP P ops C Q 0 [] a:=h;exact h
 | n+1,o::l,a,h=>by
  simp only [List.take_succ_cons,List.drop_succ_cons] at h;unfold wpQuiet at h;unfold iP;by_cases hw:Region.wanted o (yielded ops a.tmps)=true
  ·rw [if_pos hw] at h ⊢;obtain ⟨v,h1,h2⟩:=h;exact ⟨v,h1,iB n l _ h2⟩
  ·rw [if_neg hw] at h ⊢;exact iB n l _ h
end
def gJ:Op->Bool
 | .move _ | .assign _ | .pick _ _ _ | .box _ _ | .build _ _ | .buildSlice _ _ _ | .load _ _ | .binOp _ _ _ _ _ | .unOp _ _ _ | .convert _ _ _ | .slice _ _ _ _ _ | .fieldAddr _ _ _ | .field _ _ _ | .indexAddr _ _ _ | .index _ _ _ | .extract _ _=>true
 | .call c=>match c.callee with
  | .builtin .len=>true
  | _=>false
 | _=>false
theorem tK {f:FuncId} {args:Array Value}:(do pure (Next.value (<- s)):Sem Next).run P w≠.ok (.enter f args) w':=by
 intro h;simp only [Sem.run_bind] at h
 cases hr:s.run P w with
 | ok v w2=>rw [hr] at h;simp [Result.andThen] at h
 | halt x w2=>rw [hr] at h;simp [Result.andThen] at h
theorem Be (h:gJ o.op=true):vT P o:=by
 intro ρ w f args w' he;unfold execOp at he;obtain ⟨dst,op,type,pos,after,guard⟩:=o;simp only at h he
 cases op <;> simp only [gJ] at h <;> simp only at he
 all_goals first
  | (cases h;done)
  | exact tK he
  | (simp at he;done)
  | skip
 case pick c x y=>
  simp only [Sem.run_bind] at he
  cases hr:(asBool (ρ c)).run P w with
  | ok v w2=>rw [hr] at he;simp [Result.andThen] at he
  | halt x w2=>rw [hr] at he;simp [Result.andThen] at he
 case call c=>
  obtain ⟨callee,xs,tys⟩:=c
  cases callee with
  | builtin b=>
   cases b <;> simp only at h
   all_goals first | (cases h;done) | skip
   simp only [resolve,invoke,builtin,Sem.run_bind,Sem.run_pure,Result.andThen_ok] at he
   cases hr:(Builtin.len_ tys type (Array.map ρ xs)).run P w with
   | ok v w2=>rw [hr] at he;simp [Result.andThen] at he
   | halt x w2=>rw [hr] at he;simp [Result.andThen] at he
  | invoke r n=>simp at h
  | value f=>simp at h
theorem zD (h:(do pure (Next.value (<- s)):Sem Next).run P w=.ok n w'):∃ v,n=.value v:=by
 simp only [Sem.run_bind] at h
 cases hr:s.run P w with
 | ok v w2=>
  rw [hr] at h;simp [Result.andThen] at h;exact ⟨v,h.1.symm⟩
 | halt x w2=>rw [hr] at h;simp [Result.andThen] at h
theorem mB (h:gJ o.op=true) {ρ:Operand->Value} (he:(execOp ρ o).run P w=.ok n w'):∃ v,n=.value v:=by
 unfold execOp at he;obtain ⟨dst,op,type,pos,after,guard⟩:=o;simp only at h he
 cases op <;> simp only [gJ] at h <;> simp only at he
 all_goals first
  | (cases h;done)
  | exact zD he
  | (simp at he;exact ⟨_,he.1.symm⟩)
  | skip
 case pick c x y=>
  simp only [Sem.run_bind] at he
  cases hr:(asBool (ρ c)).run P w with
  | ok v w2=>rw [hr] at he;simp [Result.andThen] at he;exact ⟨_,he.1.symm⟩
  | halt x w2=>rw [hr] at he;simp [Result.andThen] at he
 case call c=>
  obtain ⟨callee,xs,tys⟩:=c
  cases callee with
  | builtin b=>
   cases b <;> simp only at h
   all_goals first | (cases h;done) | skip
   simp only [resolve,invoke,builtin,Sem.run_bind,Sem.run_pure,Result.andThen_ok] at he
   cases hr:(Builtin.len_ tys type (Array.map ρ xs)).run P w with
   | ok v w2=>rw [hr] at he;simp [Result.andThen] at he;exact ⟨_,he.1.symm⟩
   | halt x w2=>rw [hr] at he;simp [Result.andThen] at he
  | invoke r n=>simp at h
  | value f=>simp at h
theorem fW {id:Nat} (n:Nat) (hm:P.follows .mixedOrders=true) (hB:Region.lexB .any l.toArray=true) (hp:(l.eraseIdx n).all (fun o=>gJ o.op)=true)
  (h:wpQuiet P l.toArray (fun w'=>∃ x:jS w,w'=x.nx) (fun a'=>iP P l.toArray (fun w'=>∃ x:jS w,w'=x.nx) (fun a'=>∀ w',(∃ x:jS w,w'=x.nx)->Q .normal a' w') 0 (l.drop n) a') (l.take n) a):(Code.region id l.toArray true).wp P Q a w:=by
 simp only [Region.lexB,Bool.and_eq_true] at hB;refine wp_region_any hm (jX (C:=fun w'=>∃ x:jS w,w'=x.nx) (Q:=fun a'=>∀ w',(∃ x:jS w,w'=x.nx)->Q .normal a' w') (fun _ w' hw' h=>h w' hw') _ _ _ _ ⟨⟨w.drew,aN (Below.refl _ _) 1⟩,rfl⟩ ?_);have:=kL (P:=P) (C:=fun w'=>∃ x:jS w,w'=x.nx) (md:=.any) hB.1 n l 0 (Array.replicate l.toArray.size false) a (by simp) (fun j oj hj hjn=>Be (by
  rw [List.all_eq_true] at hp;have hj':l[j]?=some oj:=by simpa using hj
  refine hp oj (List.mem_iff_getElem?.2 ?_);rcases Nat.lt_or_ge j n with h1 | h1
  ·exact ⟨j,by rw [List.getElem?_eraseIdx,if_pos h1];exact hj'⟩
  ·refine ⟨j - 1,?_⟩;rw [List.getElem?_eraseIdx,if_neg (by omega),show j - 1+1=j by omega];exact hj')) (by simpa using hB.2) (iB n l a h)
 simpa using this
theorem iZ {w0:World} {Q:Act->Prop} (hw:Region.wanted o (yielded ops a.tmps)=true) (f:FuncId) (xs:Array Operand) (tys:Array TypeId)
  (ho:o.op=.call { callee:=.value (.func f),args:=xs,argTypes:=tys }) (hf:P.funcs[f]?=some fn) (hb:fn.body.isNone=false) (hn:(fn.name == "runtime.NumGoroutine")=false) (vals:Array Value) (hv:xs.map a.eval=vals)
  (S:Value->Prop) (hne:∃ v,S v) (hc:∀ x:jS w0,Calls P f vals x.nx (fun e w''=>∃ v,e=.returned v/\S v/\Below x.nx.heap.size x.nx w''))
  (h:∀ v,S v->wpQuiet P ops (fun w'=>∃ x:jS w0,w'=x.nx) Q rest (a.put o.dst v)):iP P ops (fun w'=>∃ x:jS w0,w'=x.nx) Q 0 (o::rest) a:=by
 refine ⟨S,.inl ⟨hw,?_⟩,hne,h⟩;rintro _ ⟨x,rfl⟩;have hr:(execOp a.eval o).run P x.nx=.ok (.enter f vals) x.nx:=by
  have hp:(program).run P x.nx=.ok P x.nx:=rfl;have hb':¬ fn.body=none:=fun e=>by rw [e] at hb;cases hb
  have hn':¬ fn.name= "runtime.NumGoroutine":=by simpa using hn
  unfold execOp;simp [ho,resolve,invoke,Act.eval,Deferred.ofValue,callFunc,hp,hf,hb',hn'];exact hv
 rw [hr];exact ⟨rfl,(hc x).mono fun e w'' ⟨v,he,hS,hb⟩=>⟨v,he,hS,⟨w'',x.bel.trans (hb.mono x.bel.size)⟩,rfl⟩⟩
section
variable {P:Program} {md:Region.Mode} {ops:Array Oper} {C:World->Prop} {Q:Exit->Act->World->Prop}
def dG (P:Program) (md:Region.Mode) (ops:Array Oper) (Q:Exit->Act->World->Prop) (C:World->Prop) (N:Nat):Nat->Array Bool->Act->World->Prop
 | 0,listed,a,w=>Region.ready md ops listed=[]/\Q .normal a w
 | fuel+1,listed,a,w=>(Region.ready md ops listed=[]->Q .normal a w)/\
  ∀ i∈Region.ready md ops listed,wpOp P ops Q i (fun a' w'=>(i<=N->C w')/\dG P md ops Q C N fuel (listed.setIfInBounds i true) a' w') a w
theorem fU {N:Nat}:∀ (fuel:Nat) (listed:Array Bool) (a:Act) (w:World),dG P md ops Q C N fuel listed a w->wpAny P md ops Q fuel listed a w
 | 0,_,_,_,h=>h
 | fuel+1,_,_,_,h=>⟨h.1,fun i hi=>wpOp_mono (fun a' w' h'=>fU fuel _ a' w' h'.2) (h.2 i hi)⟩
theorem lF {v:Value} (hi:ops[i]?=some oi) (hsel:∀ (j:Nat) (o:Oper) cs b,ops[j]?=some o->o.op≠.select cs b)
  (hQ:∀ c a w,Q (.panic c) (a.put oi.dst v) w->Q (.panic c) a w) (hs:Region.sinkB md ops (N+1)=true) (hc:Region.chainB md ops (N+1)=true) (hn:N+1 < ops.size) (hin:i < N):
  ∀ (fuel:Nat) (listed:Array Bool) (a:Act) (w:World),HeadInv md ops (N+1) listed->
   (∀ j oj,ops[j]?=some oj->j≠i->listed.getD j true=false->(∀ e∈oj.after,Region.binds md e=true->e.on≠i)->oi.apart ops oj=true)->
   i∈Region.ready md ops listed->YieldsIf P ops C oi v a->C w->
   dG P md ops Q C N fuel (listed.setIfInBounds i true) (a.put oi.dst v) w->dG P md ops Q C N (fuel+1) listed a w:=by
 intro fuel
 induction fuel with
 | zero=>
  intro listed a w _ _ hr hy hS H;refine ⟨fun h=>(by rw [h] at hr;cases hr),fun j hj=>?_⟩;by_cases hji:j=i
  ·subst hji;exact hy.wpOp hi hS ⟨fun _=>hS,H⟩
  ·have:=ready_mono hj hji;rw [H.1] at this
   cases this
 | succ fuel ih=>
  intro listed a w inv hfree hr hy hS H;have hun:=(mem_ready.1 hr).1;refine ⟨fun h=>(by rw [h] at hr;cases hr),fun j hj=>?_⟩;have hjn:j < N+1:=by
   rcases Nat.lt_or_ge j (N+1) with h | h
   ·exact h
   ·exact absurd hj (tail_waits hs hc hn inv _ i rfl (by omega) hun j h)
  by_cases hji:j=i
  ·subst hji;exact hy.wpOp hi hS ⟨fun _=>hS,H⟩
  ·have h1:=H.2 j (ready_mono hj hji);obtain ⟨hjun,oj,hoj,hall⟩:=mem_ready.1 hj;have hnot:∀ e∈oj.after,Region.binds md e=true->e.on≠i:=fun e he hb heq=>by
    have h1:=hall e he hb;rw [heq,getD_both hun] at h1
    cases h1
   have h2:=wpOp_putIf hoj (hfree j oj hoj hji hjun hnot) (fun cs b=>hsel i oi cs b hi) (fun cs b=>hsel j oj cs b hoj) hQ hy h1;have hfree':∀ k ok,ops[k]?=some ok->k≠i->(listed.setIfInBounds j true).getD k true=false->
     (∀ e∈ok.after,Region.binds md e=true->e.on≠i)->oi.apart ops ok=true:=fun k ok hk hki hun hno=>by
    refine hfree k ok hk hki ?_ hno;by_cases hjk:j=k
    ·subst hjk;exact hjun
    ·rw [getD_set_ne true hjk] at hun;exact hun
   refine wpOp_mono (fun a' w' h3=>⟨h3.2.1,ih (listed.setIfInBounds j true) a' w' (inv.set hj hjn) hfree' (ready_mono hr (Ne.symm hji)) h3.1 (h3.2.1 (by omega)) ?_⟩) h2;rw [Array.setIfInBounds_comm _ _ hji];exact h3.2.2
theorem hO {N:Nat}:∀ (l:List Oper) (k:Nat) (listed:Array Bool) (a:Act) (w:World),N < k->(∀ j,l[j]?=ops[k+j]?)->
  Region.seqB md ops l.length k listed=true->wpList P ops Q l a w->dG P md ops Q C N l.length listed a w
 | [],_,_,_,_,_,_,hB,h=>⟨by simpa [Region.seqB] using hB,h⟩
 | o::l,k,listed,a,w,hk,hl,hB,h=>by
  have h0:ops[k]?=some o:=by simpa using (hl 0).symm
  simp only [List.length_cons,Region.seqB,Bool.and_eq_true,decide_eq_true_eq] at hB;refine ⟨fun h1=>(by rw [hB.1] at h1;cases h1),fun i hi=>?_⟩;rw [hB.1] at hi;have hik:i=k:=by simpa using hi
  subst hik;have hw:wpOp P ops Q i (wpList P ops Q l) a w:=by unfold wpOp;simp only [h0];exact h
  exact wpOp_mono (fun a' w' h'=>⟨fun h=>by omega,hO l (i+1) _ a' w' (by omega) (fun j=>by have:=hl (j+1);simpa [Nat.add_assoc,Nat.add_comm 1 j] using this) hB.2 h'⟩) hw
def vU (P:Program) (ops:Array Oper) (Q:Exit->Act->World->Prop) (C:World->Prop) (w:World):List Oper->Act->Prop
 | [],_=>False
 | o::rest,a=>Region.wanted o (yielded ops a.tmps)=true/\o.wp P a w (fun a' w'=>C w'/\wpList P ops Q rest a' w') Q
theorem kK {N:Nat} {w:World} {o:Oper} {rest:List Oper} (hsel:Region.noSelect ops=true) (hs:Region.sinkB md ops (N+1)=true) (hc:Region.chainB md ops (N+1)=true) (hn:N+1 < ops.size) (hC:C w)
  (hQ:∀ c a a' w,Q (.panic c) a w->Q (.panic c) a' w) (ho:∀ j,(o::rest)[j]?=ops[N+j]?):
  ∀ (l:List Oper) (k:Nat) (listed:Array Bool) (a:Act),(∀ j,j < l.length->l[j]?=ops[k+j]?)->k+l.length=N->HeadInv md ops (N+1) listed->l.all (fun o=>gJ o.op)=true->
  Region.lexHead md ops (rest.length+1) l.length k listed=true->wpQuiet P ops C (fun a'=>vU P ops Q C w (o::rest) a') l a->
  dG P md ops Q C N (l.length+(rest.length+1)) listed a w
 | [],k,listed,a,_,hk,inv,_,hB,h=>by
  have:k=N:=by simpa using hk
  subst this;have h:vU P ops Q C w (o::rest) a:=h;have hB:Region.seqB md ops (rest.length+1) k listed=true:=hB;simp only [Region.seqB,Bool.and_eq_true,decide_eq_true_eq] at hB;rw [List.length_nil,Nat.zero_add];have h0:ops[k]?=some o:=by simpa using (ho 0).symm
  refine ⟨fun h1=>(by rw [hB.1] at h1;cases h1),fun i hi=>?_⟩;rw [hB.1] at hi;have hik:i=k:=by simpa using hi
  subst hik;unfold wpOp;simp only [h0];rw [if_pos h.1];refine .inl (Oper.wp_mono (fun a' w' h'=>⟨fun _=>h'.1,?_⟩) h.2);exact hO rest (i+1) _ a' w' (Nat.lt_succ_self _) (fun j=>by have:=ho (j+1);simpa [Nat.add_assoc,Nat.add_comm 1 j] using this) hB.2 h'.2
 | x::l,k,listed,a,hl,hk,inv,hp,hB,h=>by
  have h0:ops[k]?=some x:=by simpa using (hl 0 (by simp)).symm
  simp only [List.length_cons,Region.lexHead,Bool.and_eq_true] at hB;obtain ⟨⟨hr,hf⟩,hB'⟩:=hB;have hkn:k < N:=by simp only [List.length_cons] at hk;omega
  have hr':k∈Region.ready md ops listed:=by simpa using hr
  simp only [List.all_cons,Bool.and_eq_true] at hp;have hl':∀ j,j < l.length->l[j]?=ops[k+1+j]?:=fun j hj=>by have:=hl (j+1) (by simp;omega);simpa [Nat.add_assoc,Nat.add_comm 1 j] using this
  rw [List.length_cons,show l.length+1+(rest.length+1)=l.length+(rest.length+1)+1 by omega];unfold wpQuiet at h;by_cases hw:Region.wanted x (yielded ops a.tmps)=true
  ·rw [if_pos hw] at h;obtain ⟨v,h1,h2⟩:=h;refine lF h0 (Region.noSelect_spec hsel) (fun c a w=>hQ c _ _ w) hs hc hn hkn _ listed a w inv (Region.free_spec h0 hf) hr' (.inl ⟨hw,fun w' hw'=>?_⟩) hC
    (kK hsel hs hc hn hC hQ ho l (k+1) _ _ hl' (by simp only [List.length_cons] at hk;omega) (inv.set hr' (by omega)) hp.2 hB' h2)
   have h3:=h1 w' hw';unfold Oper.quietAt at h3;have h4:=fun n w2=>mB (P:=P) hp.1 (ρ:=a.eval) (w:=w') (n:=n) (w':=w2);generalize (execOp a.eval x).run P w'=r at*
   cases r with
   | ok n w2=>
    obtain ⟨u,rfl⟩:=h4 n w2 rfl;simp only [Oper.quietUpon] at h3;rw [h3.1,h3.2]
   | halt z w2=>simp only [Oper.quietUpon] at h3
  ·rw [if_neg hw] at h;exact lF h0 (Region.noSelect_spec hsel) (fun c a w=>hQ c _ _ w) hs hc hn hkn _ listed a w inv (Region.free_spec h0 hf) hr' (.inr ⟨by simpa using hw,rfl⟩) hC
    (kK hsel hs hc hn hC hQ ho l (k+1) _ _ hl' (by simp only [List.length_cons] at hk;omega) (inv.set hr' (by omega)) hp.2 hB' h)
end
def DE (l:List Oper) (N:Nat):Bool:=
 Region.noSelect l.toArray && decide (N+1 < l.length) && Region.sinkB .any l.toArray (N+1) && Region.chainB .any l.toArray (N+1) && (l.take N).all (fun o=>gJ o.op) && Region.lexHead .any l.toArray (l.length - N) N 0 (Array.replicate l.toArray.size false)
theorem oD {id:Nat} (N:Nat) (hm:P.follows .mixedOrders=true) (hB:DE l N=true)
  (h:wpQuiet P l.toArray (fun w'=>∃ x:jS w,w'=x.nx) (fun a'=>vU P l.toArray (NoPanic Q) (fun w'=>∃ x:jS w,w'=x.nx) w.drew (l.drop N) a') (l.take N) a):(Code.region id l.toArray true).wp P Q a w:=by
 refine wp_region_noPanic ?_;unfold DE at hB;simp only [Bool.and_eq_true,decide_eq_true_eq] at hB;obtain ⟨⟨⟨⟨⟨hsel,hn⟩,hs⟩,hc⟩,hp⟩,hlex⟩:=hB;have hn':N+1 < l.toArray.size:=by simpa using hn
 have htl:(l.take N).length=N:=by simp;omega
 obtain ⟨o,rest,hd⟩:∃ o rest,l.drop N=o::rest:=by
  cases hd:l.drop N with
  | nil=>have:=congrArg List.length hd;simp at this;omega
  | cons o rest=>exact ⟨o,rest,rfl⟩
 have hrl:rest.length+1=l.length - N:=by have:=congrArg List.length hd;simpa using this.symm
 rw [hd] at h;have inv0:HeadInv .any l.toArray (N+1) (Array.replicate l.toArray.size false):=
  ⟨by simp,fun j oj _ hl=>(by rw [getD_replicate_false] at hl;cases hl),fun t _ ht=>getD_in (by simpa using ht) (getD_replicate_false _ _)⟩
 have H:=kK (P:=P) (md:=.any) (C:=fun w'=>∃ x:jS w,w'=x.nx) (Q:=NoPanic Q) (w:=w.drew) (N:=N) (o:=o) (rest:=rest) hsel hs hc hn' ⟨⟨w.drew,aN (Below.refl _ _) 1⟩,rfl⟩ (fun _ _ _ _ h=>h.elim)
  (fun j=>by rw [<- hd];simp [List.getElem?_drop]) (l.take N) 0 _ a (fun j hj=>by
   have hj':j < N:=by rw [htl] at hj;exact hj
   simp [hj']) (by simpa using htl) inv0 hp (by rw [htl,hrl];exact hlex) h
 refine wp_region_any hm (fU (C:=fun w'=>∃ x:jS w,w'=x.nx) (N:=N) _ _ _ _ ?_);rw [htl,hrl,show N+(l.length - N)=l.toArray.size by simp;omega] at H;exact H
theorem Ac {v:Value} (hw:Region.wanted o (yielded ops a.tmps)=true) (hr:(execOp a.eval o).run P w=.ok (.value v) w') (hC:C w')
  (h:wpList P ops Q rest (a.put o.dst v) w'):vU P ops Q C w (o::rest) a:=by
 refine ⟨hw,?_⟩;unfold Oper.wp;rw [hr];exact ⟨hC,h⟩
theorem Bn (hw:Region.wanted o (yielded ops a.tmps)=true) (f:FuncId) (xs:Array Operand) (tys:Array TypeId)
  (ho:o.op=.call { callee:=.value (.func f),args:=xs,argTypes:=tys }) (hf:P.funcs[f]?=some fn) (hb:fn.body.isNone=false) (hn:(fn.name == "runtime.NumGoroutine")=false) (vals:Array Value) (hv:xs.map a.eval=vals) (hc:Calls P f vals w R)
  (h:∀ e w',R e w'->∃ v,e=.returned v/\C w'/\wpList P ops Q rest (a.put o.dst v) w'):vU P ops Q C w (o::rest) a:=by
 refine ⟨hw,?_⟩;unfold Oper.wp;have hr:(execOp a.eval o).run P w=.ok (.enter f vals) w:=by
  have hp:(program).run P w=.ok P w:=rfl;have hb':¬ fn.body=none:=fun e=>by rw [e] at hb;cases hb
  have hn':¬ fn.name= "runtime.NumGoroutine":=by simpa using hn
  unfold execOp;simp [ho,resolve,invoke,Act.eval,Deferred.ofValue,callFunc,hp,hf,hb',hn'];exact hv
 rw [hr];simp only [Oper.upon];refine hc.mono fun e w' hR=>?_;obtain ⟨v,rfl,hk⟩:=h e w' hR;exact hk
def bE:List Oper->Nat->Oper
 | o::_,0=>o
 | _::l,n+1=>bE l n
 | [],_=>default
theorem fS:∀ {l:List Oper} {k:Nat},k < l.length->l[k]?=some (bE l k)
 | o::l,0,_=>by simp [bE]
 | o::l,k+1,h=>by simpa [bE] using fS (l:=l) (k:=k) (by simpa using h)
section
variable {P:Program} {md:Region.Mode} {ops:Array Oper} {C:World->Prop} {Q:Exit->Act->World->Prop}
theorem jZ {v:Value} (hi:ops[i]?=some oi) (hsel:∀ (j:Nat) (o:Oper) cs b,ops[j]?=some o->o.op≠.select cs b)
  (hQ:∀ c a w,Q (.panic c) (a.put oi.dst v) w->Q (.panic c) a w) (hs:Region.sinkB md ops (N+1)=true) (hc:Region.chainB md ops (N+1)=true) (hn:N+1 < ops.size) (hin:i<=N):
  ∀ (fuel:Nat) (listed:Array Bool) (a:Act) (w:World),HeadInv md ops (N+1) listed->
   (∀ j oj,ops[j]?=some oj->j≠i->listed.getD j true=false->(∀ e∈oj.after,Region.binds md e=true->e.on≠i)->oi.apart ops oj=true)->
   i∈Region.ready md ops listed->YieldsIf P ops C oi v a->C w->
   dG P md ops Q C N fuel (listed.setIfInBounds i true) (a.put oi.dst v) w->dG P md ops Q C N (fuel+1) listed a w:=by
 intro fuel
 induction fuel with
 | zero=>
  intro listed a w _ _ hr hy hS H;refine ⟨fun h=>(by rw [h] at hr;cases hr),fun j hj=>?_⟩;by_cases hji:j=i
  ·subst hji;exact hy.wpOp hi hS ⟨fun _=>hS,H⟩
  ·have:=ready_mono hj hji;rw [H.1] at this
   cases this
 | succ fuel ih=>
  intro listed a w inv hfree hr hy hS H;have hun:=(mem_ready.1 hr).1;refine ⟨fun h=>(by rw [h] at hr;cases hr),fun j hj=>?_⟩;have hjn:j < N+1:=by
   rcases Nat.lt_or_ge j (N+1) with h | h
   ·exact h
   ·exact absurd hj (tail_waits hs hc hn inv _ i rfl (by omega) hun j h)
  by_cases hji:j=i
  ·subst hji;exact hy.wpOp hi hS ⟨fun _=>hS,H⟩
  ·have h1:=H.2 j (ready_mono hj hji);obtain ⟨hjun,oj,hoj,hall⟩:=mem_ready.1 hj;have hnot:∀ e∈oj.after,Region.binds md e=true->e.on≠i:=fun e he hb heq=>by
    have h1:=hall e he hb;rw [heq,getD_both hun] at h1
    cases h1
   have h2:=wpOp_putIf hoj (hfree j oj hoj hji hjun hnot) (fun cs b=>hsel i oi cs b hi) (fun cs b=>hsel j oj cs b hoj) hQ hy h1;have hfree':∀ k ok,ops[k]?=some ok->k≠i->(listed.setIfInBounds j true).getD k true=false->
     (∀ e∈ok.after,Region.binds md e=true->e.on≠i)->oi.apart ops ok=true:=fun k ok hk hki hun hno=>by
    refine hfree k ok hk hki ?_ hno;by_cases hjk:j=k
    ·subst hjk;exact hjun
    ·rw [getD_set_ne true hjk] at hun;exact hun
   refine wpOp_mono (fun a' w' h3=>⟨h3.2.1,ih (listed.setIfInBounds j true) a' w' (inv.set hj hjn) hfree' (ready_mono hr (Ne.symm hji)) h3.1 (h3.2.1 (by omega)) ?_⟩) h2;rw [Array.setIfInBounds_comm _ _ hji];exact h3.2.2
def bT (listed:Array Bool):List Nat->Array Bool
 | []=>listed
 | k::l=>bT (listed.setIfInBounds k true) l
def eP (md:Region.Mode) (l:List Oper) (N:Nat):List Nat->Array Bool->Bool
 | [],_=>true
 | k::ks,listed=>(Region.ready md l.toArray listed).contains k && Region.free md l.toArray listed k && decide (k<=N) && gJ (bE l k).op && eP md l N ks (listed.setIfInBounds k true)
def uD (md:Region.Mode) (l:List Oper) (N:Nat) (last:List Nat):List (List Nat × Nat)->Array Bool->Bool
 | [],listed=>eP md l N last listed && Region.seqB md l.toArray (l.length - (N+1)) (N+1) (bT listed last)
 | (p,i)::segs,listed=>eP md l N p listed && decide (i<=N) && decide (Region.ready md l.toArray (bT listed p)=[i]) && uD md l N last segs ((bT listed p).setIfInBounds i true)
def qQ (last:List Nat):List (List Nat × Nat)->Nat
 | []=>last.length
 | (p,_)::segs=>p.length+(1+qQ last segs)
end
section
variable {P:Program} {C:World->Prop} {Q:Exit->Act->World->Prop}
def cG (P:Program) (ops:Array Oper) (Q:Exit->Act->World->Prop) (C:World->Prop) (o:Oper) (K:Act->World->Prop) (a:Act) (w:World):Prop:=
 Region.wanted o (yielded ops a.tmps)=true/\o.wp P a w (fun a' w'=>C w'/\K a' w') Q
def nR (P:Program) (ops:Array Oper) (Q:Exit->Act->World->Prop) (C:World->Prop) (last tail:List Oper):List (List Oper × Oper)->Act->World->Prop
 | [],a,w=>wpQuiet P ops C (fun a'=>wpList P ops Q tail a' w) last a
 | (p,o)::segs,a,w=>wpQuiet P ops C (fun a'=>cG P ops Q C o (nR P ops Q C last tail segs) a' w) p a
theorem eZ {md:Region.Mode} {l:List Oper} {N:Nat} {w:World} {f:Nat} {K:Act->Prop} (hsel:Region.noSelect l.toArray=true) (hs:Region.sinkB md l.toArray (N+1)=true) (hc:Region.chainB md l.toArray (N+1)=true) (hn:N+1 < l.length) (hC:C w)
  (hQ:∀ c a a' w,Q (.panic c) a w->Q (.panic c) a' w):∀ (ks:List Nat) (listed:Array Bool) (a:Act),HeadInv md l.toArray (N+1) listed->eP md l N ks listed=true->
  (∀ a',K a'->HeadInv md l.toArray (N+1) (bT listed ks)->dG P md l.toArray Q C N f (bT listed ks) a' w)->wpQuiet P l.toArray C K (ks.map (bE l)) a->dG P md l.toArray Q C N (ks.length+f) listed a w
 | [],listed,a,inv,_,h,hq=>by
  rw [List.length_nil,Nat.zero_add];exact h a hq inv
 | k::ks,listed,a,inv,hB,h,hq=>by
  simp only [eP,Bool.and_eq_true,decide_eq_true_eq] at hB;obtain ⟨⟨⟨⟨hr,hf⟩,hkN⟩,hp⟩,hB'⟩:=hB;have h0:l.toArray[k]?=some (bE l k):=by simpa using fS (l:=l) (k:=k) (by omega)
  have hr':k∈Region.ready md l.toArray listed:=by simpa using hr
  have hn':N+1 < l.toArray.size:=by simpa using hn
  have hq:wpQuiet P l.toArray C K (bE l k::ks.map (bE l)) a:=hq;rw [List.length_cons,show ks.length+1+f=ks.length+f+1 by omega];unfold wpQuiet at hq;by_cases hw:Region.wanted (bE l k) (yielded l.toArray a.tmps)=true
  ·rw [if_pos hw] at hq;obtain ⟨v,h1,h2⟩:=hq;refine jZ h0 (Region.noSelect_spec hsel) (fun c a w=>hQ c _ _ w) hs hc hn' hkN _ listed a w inv (Region.free_spec h0 hf) hr' (.inl ⟨hw,fun w' hw'=>?_⟩) hC
    (eZ hsel hs hc hn hC hQ ks _ _ (inv.set hr' (by omega)) hB' h h2)
   have h3:=h1 w' hw';unfold Oper.quietAt at h3;have h4:=fun n w2=>mB (P:=P) hp (ρ:=a.eval) (w:=w') (n:=n) (w':=w2);generalize (execOp a.eval (bE l k)).run P w'=r at*
   cases r with
   | ok n w2=>
    obtain ⟨u,rfl⟩:=h4 n w2 rfl;simp only [Oper.quietUpon] at h3;rw [h3.1,h3.2]
   | halt z w2=>simp only [Oper.quietUpon] at h3
  ·rw [if_neg hw] at hq;exact jZ h0 (Region.noSelect_spec hsel) (fun c a w=>hQ c _ _ w) hs hc hn' hkN _ listed a w inv (Region.free_spec h0 hf) hr' (.inr ⟨by simpa using hw,rfl⟩) hC
    (eZ hsel hs hc hn hC hQ ks _ _ (inv.set hr' (by omega)) hB' h hq)
theorem mS {md:Region.Mode} {l:List Oper} {N:Nat} {last:List Nat} (hsel:Region.noSelect l.toArray=true) (hs:Region.sinkB md l.toArray (N+1)=true) (hc:Region.chainB md l.toArray (N+1)=true) (hn:N+1 < l.length)
  (hQ:∀ c a a' w,Q (.panic c) a w->Q (.panic c) a' w):∀ (segs:List (List Nat × Nat)) (listed:Array Bool) (a:Act) (w:World),C w->HeadInv md l.toArray (N+1) listed->uD md l N last segs listed=true->
  nR P l.toArray Q C (last.map (bE l)) (l.drop (N+1)) (segs.map fun s=>(s.1.map (bE l),bE l s.2)) a w->dG P md l.toArray Q C N (qQ last segs+(l.length - (N+1))) listed a w
 | [],listed,a,w,hC,inv,hB,h=>by
  simp only [uD,Bool.and_eq_true] at hB;refine eZ hsel hs hc hn hC hQ last listed a inv hB.1 (fun a' hk _=>?_) h;have hd:(l.drop (N+1)).length=l.length - (N+1):=by simp
  have:=hO (P:=P) (md:=md) (ops:=l.toArray) (C:=C) (Q:=Q) (N:=N) (l.drop (N+1)) (N+1) (bT listed last) a' w (Nat.lt_succ_self _) (fun j=>by simp [List.getElem?_drop]) (by rw [hd];exact hB.2) hk;rwa [hd] at this
 | (p,i)::segs,listed,a,w,hC,inv,hB,h=>by
  simp only [uD,Bool.and_eq_true,decide_eq_true_eq] at hB;obtain ⟨⟨⟨hp,hiN⟩,hr⟩,hB'⟩:=hB;have h0:l.toArray[i]?=some (bE l i):=by simpa using fS (l:=l) (k:=i) (by omega)
  rw [qQ,Nat.add_assoc];refine eZ hsel hs hc hn hC hQ p listed a inv hp (fun a' hk inv'=>?_) h;rw [show 1+qQ last segs+(l.length - (N+1))=qQ last segs+(l.length - (N+1))+1 by omega];refine ⟨fun h1=>(by rw [hr] at h1;cases h1),fun j hj=>?_⟩;have hj':=hj;rw [hr] at hj;have hji:j=i:=by simpa using hj
  subst hji;unfold wpOp;simp only [h0];rw [if_pos hk.1];refine .inl (Oper.wp_mono (fun a2 w2 h2=>⟨fun _=>h2.1,?_⟩) hk.2);exact mS hsel hs hc hn hQ segs _ a2 w2 h2.1 (inv'.set hj' (by omega)) hB' h2.2
end
def Bf (l:List Oper) (N:Nat) (segs:List (List Nat × Nat)) (last:List Nat):Bool:=
 Region.noSelect l.toArray && decide (N+1 < l.length) && Region.sinkB .any l.toArray (N+1) && Region.chainB .any l.toArray (N+1) && decide (qQ last segs+(l.length - (N+1))=l.length) && uD .any l N last segs (Array.replicate l.toArray.size false)
theorem sD {id:Nat} (N:Nat) (segs:List (List Nat × Nat)) (last:List Nat) (hm:P.follows .mixedOrders=true) (hB:Bf l N segs last=true) (hC:C w.drew)
  (h:nR P l.toArray (NoPanic Q) C (last.map (bE l)) (l.drop (N+1)) (segs.map fun s=>(s.1.map (bE l),bE l s.2)) a w.drew):(Code.region id l.toArray true).wp P Q a w:=by
 refine wp_region_noPanic ?_;unfold Bf at hB;simp only [Bool.and_eq_true,decide_eq_true_eq] at hB;obtain ⟨⟨⟨⟨⟨hsel,hn⟩,hs⟩,hc⟩,hl⟩,hseg⟩:=hB;have inv0:HeadInv .any l.toArray (N+1) (Array.replicate l.toArray.size false):=
  ⟨by simp,fun j oj _ hl=>(by rw [getD_replicate_false] at hl;cases hl),fun t _ ht=>getD_in (by simpa using ht) (getD_replicate_false _ _)⟩
 have H:=mS (P:=P) (md:=.any) (C:=C) (Q:=NoPanic Q) (N:=N) (last:=last) hsel hs hc hn (fun _ _ _ _ h=>h.elim) segs _ a w.drew hC inv0 hseg h;refine wp_region_any hm (fU (C:=C) (N:=N) _ _ _ _ ?_);rw [hl] at H;simpa using H
theorem aY {id:Nat} (N:Nat) (segs:List (List Nat × Nat)) (last:List Nat) (hm:P.follows .mixedOrders=true) (hB:Bf l N segs last=true)
  (h:nR P l.toArray (NoPanic Q) (fun w'=>∃ x:jS w,w'=x.nx) (last.map (bE l)) (l.drop (N+1)) (segs.map fun s=>(s.1.map (bE l),bE l s.2)) a w.drew):(Code.region id l.toArray true).wp P Q a w:=
 sD N segs last hm hB ⟨⟨w.drew,aN (Below.refl _ _) 1⟩,rfl⟩ h
section
variable {P:Program} {ops:Array Oper} {Q:Exit->Act->World->Prop} {C:World->Prop} {last tail:List Oper} {a:Act} {w:World}
theorem aI {p:List Oper} {segs:List (List Oper × Oper)} (h:wpQuiet P ops C (fun a'=>cG P ops Q C o (nR P ops Q C last tail segs) a' w) p a):nR P ops Q C last tail ((p,o)::segs) a w:=h
theorem bD (h:wpQuiet P ops C (fun a'=>wpList P ops Q tail a' w) last a):nR P ops Q C last tail [] a w:=h
theorem aE {K:Act->World->Prop} {v:Value} (hw:Region.wanted o (yielded ops a.tmps)=true) (hr:(execOp a.eval o).run P w=.ok (.value v) w') (hC:C w') (h:K (a.put o.dst v) w'):cG P ops Q C o K a w:=by
 refine ⟨hw,?_⟩;unfold Oper.wp;rw [hr];exact ⟨hC,h⟩
theorem aC {K:Act->World->Prop} (hw:Region.wanted o (yielded ops a.tmps)=true) (f:FuncId) (xs:Array Operand) (tys:Array TypeId)
  (ho:o.op=.call { callee:=.value (.func f),args:=xs,argTypes:=tys }) (hf:P.funcs[f]?=some fn) (hb:fn.body.isNone=false) (hn:(fn.name == "runtime.NumGoroutine")=false) (vals:Array Value) (hv:xs.map a.eval=vals) (hc:Calls P f vals w R)
  (h:∀ e w',R e w'->∃ v,e=.returned v/\C w'/\K (a.put o.dst v) w'):cG P ops Q C o K a w:=by
 refine ⟨hw,?_⟩;unfold Oper.wp;have hr:(execOp a.eval o).run P w=.ok (.enter f vals) w:=by
  have hp:(program).run P w=.ok P w:=rfl;have hb':¬ fn.body=none:=fun e=>by rw [e] at hb;cases hb
  have hn':¬ fn.name= "runtime.NumGoroutine":=by simpa using hn
  unfold execOp;simp [ho,resolve,invoke,Act.eval,Deferred.ofValue,callFunc,hp,hf,hb',hn'];exact hv
 rw [hr];simp only [Oper.upon];refine hc.mono fun e w' hR=>?_;obtain ⟨v,rfl,hk⟩:=h e w' hR;exact hk
def CQ (R:Act->World->Prop):Exit->Act->World->Prop
 | .normal,a,w=>R a w
 | _,_,_=>False
theorem qB {K:Act->World->Prop} {R:Act->World->Prop} (h:o.wp P a w K (CQ R)):o.wp P a w K Q:=by
 unfold Oper.wp at*;generalize (execOp a.eval o).run P w=r at*
 cases r with
 | ok n w2=>
  cases n <;> simp only [Oper.upon] at h ⊢
  all_goals first
   | exact h
   | (refine h.mono fun e w3 h3=>?_
      cases e <;> first | exact h3 | exact h3.elim | (obtain ⟨_,_,h4⟩:=h3;exact h4.elim))
 | halt z w2=>
  cases z <;> simp only [Oper.upon] at h ⊢
  all_goals first | exact h | exact h.elim | (obtain ⟨_,_,h4⟩:=h;exact h4.elim)
theorem aA {K:Act->World->Prop} (hg:o.guard=none) (h:wpList P ops (CQ fun a w=>C w/\K a w) [o] a w):cG P ops Q C o K a w:=by
 have hw:Region.wanted o (yielded ops a.tmps)=true:=by unfold Region.wanted;rw [hg]
 refine ⟨hw,?_⟩;unfold wpList at h;rw [if_pos hw] at h;rcases h with h | ⟨_,a2,w2,h⟩
 ·exact qB (Oper.wp_mono (fun a w h=>h) h)
 ·exact h.elim
end
theorem sN:(∀ {α β:Type} (f:α->β) (a:α) (l:List α),(a::l).map f=f a::l.map f)/\(∀ {α β:Type} (f:α->β),([]:List α).map f=[])/\(∀ (o:Oper) (l:List Oper),bE (o::l) 0=o)/\(∀ (o:Oper) (l:List Oper) (n:Nat),bE (o::l) (n+1)=bE l n)/\(∀ {α:Type} (a:α) (l:List α) (n:Nat),(a::l).drop (n+1)=l.drop n)/\(∀ {α:Type} (l:List α),l.drop 0=l):=⟨fun _ _ _=>rfl,fun _=>rfl,fun _ _=>rfl,fun _ _ _=>rfl,fun _ _ _=>rfl,fun _=>rfl⟩
theorem sP:(∀ (a:Act) (d:Tmp) (v:Value),a.put (some d) v={ a with tmps:=a.tmps.setIfInBounds d v })/\(∀ (a:Act) (v:Value),a.put none v=a)/\(∀ {α:Type} (l:List α) (i:Nat) (x:α),l.toArray.setIfInBounds i x=(l.set i x).toArray)/\(∀ {α:Type} (a:α) (l:List α) (n:Nat) (x:α),(a::l).set (n+1) x=a::l.set n x)/\(∀ {α:Type} (a:α) (l:List α) (x:α),(a::l).set 0 x=x::l):=⟨fun _ _ _=>rfl,fun _ _=>rfl,fun l i x=>List.setIfInBounds_toArray ..,fun _ _ _ _=>rfl,fun _ _ _=>rfl⟩
end
end Go.Proofs.YtkgpoimmniojjaaGreat
