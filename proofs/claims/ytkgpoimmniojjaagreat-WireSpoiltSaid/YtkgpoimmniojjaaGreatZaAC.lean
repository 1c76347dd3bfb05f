/- No condition. -/
import Derived.Test.YtkgpoimmniojjaaGreatZaAA
import Derived.ProofKit
import Derived.OpenShut
import Derived.ShutString
import Derived.ChangeOld
import Derived.SizedLaws
import Derived.Carry
import Derived.StillTail
import Derived.BigQuiet
import Derived.Laws.CopyOwn
import Derived.WalkKit
import Derived.WalkSpells
import Derived.WalkLawsBesides
import Derived.Outline
import Derived.KernelRfl
import Derived.Deep.RegionLaw
import Derived.Orders
import Derived.Deep.DeepHandedRow
import Derived.Lib.LaidTab
import Derived.LaidSub
import Derived.Deep.DeepCutAuto
import Derived.Deep.RegionHeld3
namespace Go.Proofs.YtkgpoimmniojjaaGreat
set_option linter.unusedVariables false
set_option linter.unusedSimpArgs false
set_option maxRecDepth 100000
set_option maxHeartbeats 16000000
section
open Go.ChangeShapes Go.WideShapes Go.ChangeAt Go.RowKit
variable {n:Int} {W:World} {cap:Nat} {zs:List Int} {t e:TypeId}
theorem Fa (h:(Lit.int .u8 n).wf=true):0<=n/\n<=255:=by simpa [Lit.wf,IntKind.min,IntKind.max,IntKind.signed,IntKind.bits] using h
theorem rW (h:(Lit.int .i64 n).wf=true):-9223372036854775808<=n/\n<=9223372036854775807:=by simpa [Lit.wf,IntKind.min,IntKind.max,IntKind.signed,IntKind.bits] using h
theorem Ex {k:IntKind} {x:Addr} {len:Nat} (hl:len<=cap) (hz:zs.length=cap) (hcell:∀ i,i < zs.length->W.cell? (x.add i)=some (.int k (zs.getD i 0))):
  aG W W.heap.size 1 (some x) len ((zs.take len).map (Value.int k)):=by
 refine ⟨by simp;omega,fun hn=>⟨x,rfl,?_,fun j u hj=>?_⟩⟩
 ·have h0:=hcell 0 (by omega);have:=World.block_lt_of_cell? W _ h0;rwa [bU] at this
 ·have hj':j < (zs.take len).length:=by
   have:=(List.getElem?_eq_some_iff.1 hj).1;simpa using this
  have hj2:j < zs.length:=by rw [List.length_take] at hj';omega
  rw [hcell j hj2];rw [List.getElem?_map,List.getElem?_eq_getElem hj'] at hj;simp only [Option.map_some,Option.some.injEq] at hj;rw [<- hj];simp [List.getD,List.getElem?_eq_getElem hj2]
theorem Ez {A:Option Addr} {len:Nat} (h:aG W W.heap.size 1 A len ((zs.take len).map (Value.int .u8))) (hw:∀ n∈zs,(Lit.int .u8 n).wf=true):
  ∃ bs:List Nat,aG W W.heap.size 1 A len (bs.map dZ)/\∀ x∈bs,x < 256:=by
 refine ⟨(zs.take len).map Int.toNat,?_,fun x hx=>?_⟩
 ·have e:((zs.take len).map Int.toNat).map dZ=(zs.take len).map (Value.int .u8):=by
   rw [List.map_map];refine List.map_congr_left (fun n hn=>?_);have:=Fa (hw n (List.mem_of_mem_take hn));simp only [Function.comp,dZ]
   congr 1
   omega
  rw [e];exact h
 ·obtain ⟨n,hn,rfl⟩:=List.mem_map.1 hx;have:=Fa (hw n (List.mem_of_mem_take hn));omega
section
variable {H:Type} {enc:TypeId × Value->H} {P:Program} {W:World} {spare:Nat->Bool} {held:Bool}
theorem EB {a:Option Addr} {len:Nat} {d:DataW H} {p:List MemPlace} (ht:P.underlying t=some (.slice e)) (he:P.underlying e=some (.int .u8)) (hc:P.cellsOf e=1)
  (h:DataW.Trod enc P W 0 (fun _=>true) held t (.slice a len cap) d p):(len=0\/∃ elems spare,d=.slice elems spare/\len<=elems.length)/\len<=cap/\cap<=maxLen/\∃ bs:List Nat,aG W W.heap.size 1 a len (bs.map dZ)/\∀ x∈bs,x < 256:=by
 obtain ⟨fuel,hf⟩:=h;rcases open_ints ht he hc hf with ⟨hcs,_⟩ | ⟨x,l,c,zs,hcs,_,hl,hm,hz,hx,hcell,hwz⟩
 ·simp [Value.cells] at hcs;obtain ⟨rfl,rfl,rfl⟩:=hcs;exact ⟨.inl rfl,Nat.le_refl _,Nat.zero_le _,[],aG.none_,fun _ h=>by cases h⟩
 ·simp [Value.cells] at hcs;obtain ⟨rfl,rfl,rfl⟩:=hcs;have hz':zs.length=cap:=by simpa using hz
  simp only [Prod.mk.injEq] at hx;exact ⟨.inr ⟨_,_,hx.1,by simp [lits];omega⟩,hl,hm,Ez (Ex hl (by simpa using hz) hcell) hwz⟩
end
theorem EN {H:Type} {P:Program} {ts:List TypeId} {ds:List (DataW H)} (h:(DataW.weightsEach P ts ds).all (·<=reachBytes)=true) {j:Nat} {d:DataW H} {len:Nat} (ht:ts[j]?=some t) (hd:ds[j]?=some d) (hu:P.underlying t=some (.slice e))
  (hb:0 < P.bytesOf e) (hl:len=0\/∃ elems spare,d=.slice elems spare/\len<=elems.length):len<=140737488351232:=by
 rcases hl with h0 | ⟨elems,spare,rfl,hle⟩
 ·omega
 ·have h1:=sized_slice h ht hd hu;have h2:(elems.length+spare.length)*1<=(elems.length+spare.length)*P.bytesOf e:=Nat.mul_le_mul_left _ hb;have h3:reachBytes=140737488351232:=by decide
  omega
section
variable {H:Type} {enc:TypeId × Value->H}
theorem kB {P:Program} (hl:laidOutB P=true) {W W':World} (hb:Below W.heap.size W W'):∀ (ts:List TypeId) (vs:List Value) (ds:List (DataW H)) (ps:List MemPlace),
  ts.all (fun t=>P.readableRec t && decide (t < P.types.size))=true->DataW.TrodAll enc P W 0 (fun _=>true) true ts vs ds ps->(∀ x∈ps,x.block < W.heap.size)->
  DataW.TrodAll enc P W' 0 (fun b=>decide (b < W.heap.size)) true ts vs ds ps
 | [],[],[],ps,_,h,_=>h
 | t::ts,v::vs,d::ds,ps,hr,h,hlt=>by
  obtain ⟨p,q,h1,h2,rfl⟩:=h;simp only [List.all_cons,Bool.and_eq_true,decide_eq_true_eq] at hr;exact ⟨p,q,Below.trod hl hr.1.1 hr.1.2 h1 hb (fun x hx=>hlt x (List.mem_append_left _ hx)),kB hl hb ts vs ds q hr.2 h2 (fun x hx=>hlt x (List.mem_append_right _ hx)),rfl⟩
 | [],_::_,_,_,_,h,_=>h.elim
 | [],[],_::_,_,_,h,_=>h.elim
 | _::_,[],_,_,_,h,_=>h.elim
 | _::_,_::_,[],_,_,h,_=>h.elim
theorem iR {P:Program} {W:World} {base:Nat} {sp:Nat->Bool} {held:Bool}:∀ (ts:List TypeId) (vs:List Value) (ds:List (DataW H)) (ps:List MemPlace),DataW.TrodAll enc P W base sp held ts vs ds ps->ds.length=ts.length
 | [],[],[],_,_=>rfl
 | _::ts,_::vs,_::ds,_,h=>by obtain ⟨_,_,_,h2,_⟩:=h;simp [iR ts vs ds _ h2]
 | [],_::_,_,_,h=>h.elim
 | [],[],_::_,_,h=>h.elim
 | _::_,[],_,_,h=>h.elim
 | _::_,_::_,[],_,h=>h.elim
theorem uY {C:Checked} {os:Os} {f:FuncId} {fn:Func} {s:ChangeSpec} {tb:TypeId} (own:ownKnob C.prog.godebug=none) (started:os.Started) (noInit:C.prog.inits.idxOf? f=none) (hfn:C.prog.funcs[f]?=some fn)
  (hvars:s.vars=[]) (hres:fn.resultTypes=#[tb]) (htb:C.prog.underlying tb=some .bool) (hlaid:laidOutB C.prog=true) (hread:fn.params.toList.all (fun t=>C.prog.readableRec t && decide (t < C.prog.types.size))=true)
  (hspec:∀ ds:List (DataW H),ds.length=fn.params.toList.length->s.fn H (ds++[])={ results:=[.lit (.bool true)],args:=ds })
  (witness:∃ (w:World) (tape:Tape) (i:Input),w.os=os/\(w.forCall tape i).Shaped C.prog/\i.vars=[]/\Input.okWide C.prog (w.forCall tape i) .any w.heap.size f i/\
   s.pre6 enc C.prog fn [] false (w.forCall tape i).memory i.args/\Assume.holds {} C.prog (lone (Frame.enter C.prog f i.args .normal) [] (w.forCall tape i)))
  (contract:∀ (W:World) (base:Nat) (args:Array Value) (ds:List (DataW H)) (p:List MemPlace),
   (∀ (j:Nat) t v,fn.params[j]?=some t->args[j]?=some v->Value.okWide C.prog W .any base t v)->
   DataW.TrodAll enc C.prog W 0 (fun _=>true) true fn.params.toList args.toList ds p->
   (DataW.weightsEach C.prog fn.params.toList ds).all (·<=reachBytes)=true->
   Calls C.prog f args W fun e W'=>e=.returned (.bool true)/\Below W.heap.size W W'):
  ReturnsInHanded {} C os f .any (s.pre6 enc C.prog fn [] false) (s.post enc C.prog fn false true false false):=by
 refine returnsInHanded_of_change_sized own started noInit hfn witness ?_;intro W base args ds gs before hval hW _ hsz _;have hW':=hW;obtain ⟨p,q,hA,hV,rfl,_,_⟩:=hW;rw [hvars] at hV;obtain ⟨rfl,rfl⟩:=trodVars_none hV;have hlen:=iR _ _ _ _ hA;have hsz':(DataW.weightsEach C.prog fn.params.toList ds).all (·<=reachBytes)=true:=by
  have e:s.plain.varTypes C.prog=[]:=by unfold DataSpec.varTypes ChangeSpec.plain;rw [hvars];rfl
  rw [e,List.append_nil,List.append_nil] at hsz;exact hsz
 refine (contract W base args ds p hval hA hsz').mono fun e W' ⟨he,bel⟩=>?_;subst he;have hlt:∀ x∈p,x.block < W.heap.size:=fun x hx=>by simpa using hW'.lt x (by simpa using hx)
 refine ⟨_,rfl,ds,[],p++[],[],p,[],hW',?_,?_,?_,bel.frame _,fun h=>by cases h⟩
 ·rw [hspec ds hlen,hres];exact trodAll_mk1 (shut_bool htb _)
 ·rw [hspec ds hlen];exact kB hlaid bel _ _ _ _ hread hA hlt
 ·rw [hspec ds hlen,hvars];rfl
end
end
section
open Go.RowKit Go.ChangeShapes Go.WideShapes Go.ChangeAt
variable {xs:List Value} {n g B i:Nat} {w:World} {t:TypeId} {cs:Array Value} {Q:Exit->Act->World->Prop} {a:Act} {l:List Oper} {A:Option Addr}
structure rS (w:World) (base:Nat) (e:TypeId) (vs:List (Value × List Value)):Prop where
 own:∀ (k:Nat) p,vs[k]?=some p->w.ownsRow base e 1 p.1 p.2.length p.2
 sep:∀ (i j:Nat) p q (g:Nat),i≠j->vs[i]?=some p->vs[j]?=some q->p.1.ownBlock=some g->q.1.ownBlock≠some g
section
variable {w w':World} {base:Nat} {e:TypeId} {vs:List (Value × List Value)}
theorem fY (w:World) (base:Nat) (e:TypeId):w.ownsRow base e 1 (.slice none 0 0) 0 []:=⟨rfl,.inl ⟨rfl,rfl⟩⟩
theorem cK {size:Nat} {v:Value} (h:w.ownsRow base e size v n xs):∀ g,v.ownBlock=some g->g < w.heap.size:=fun g hg=>by
 rcases h.2 with ⟨rfl,_⟩ | ⟨g',cap,cur,rfl,hb,hh,_⟩
 ·simp [Value.ownBlock] at hg
 ·have:g'=g:=by simpa [Value.ownBlock] using hg
  subst this;rcases Nat.lt_or_ge g' w.heap.size with h1 | h1
  ·exact h1
  ·rw [Array.getElem?_eq_none h1] at hh;cases hh
theorem aU {size:Nat} {v:Value} (h:w.ownsRow base e size v n xs):∀ g,v.ownBlock=some g->base<=g:=fun g hg=>by
 rcases h.2 with ⟨rfl,_⟩ | ⟨g',cap,cur,rfl,hb,_⟩
 ·simp [Value.ownBlock] at hg
 ·have:g'=g:=by simpa [Value.ownBlock] using hg
  omega
theorem rS.start (w:World) (base:Nat) (e:TypeId) (n:Nat):rS w base e (List.replicate n (.slice none 0 0,[])):=
 ⟨fun k p h=>by
  obtain ⟨hk,rfl⟩:=List.getElem?_eq_some_iff.1 h;simp only [List.getElem_replicate];exact fY w base e,fun i j p q g _ h _ hg=>by
  obtain ⟨hk,rfl⟩:=List.getElem?_eq_some_iff.1 h;simp [Value.ownBlock] at hg⟩
theorem rS.grown (h:rS w base e vs) {row:Option Nat} (hg:w.grownBy w' row) (hr:∀ (k:Nat) (p:Value × List Value) (g:Nat),vs[k]?=some p->p.1.ownBlock=some g->row≠some g):rS w' base e vs:=
 ⟨fun k p hk=>(h.own k p hk).kept hg (by
  cases hb:p.1.ownBlock with
  | none=>exact .inl rfl
  | some g=>exact .inr (fun e=>hr k p g hk hb e.symm)),h.sep⟩
theorem rS.alloc (h:rS w base e vs) (o:Obj):rS (w.alloc o) base e vs:=⟨fun k p hk=>(h.own k p hk).alloc o,h.sep⟩
theorem rS.drewN (h:rS w base e vs) (n:Nat):rS (w.drewN n) base e vs:=⟨fun k p hk=>h.own k p hk,h.sep⟩
theorem rS.drew (h:rS w base e vs):rS w.drew base e vs:=⟨fun k p hk=>h.own k p hk,h.sep⟩
theorem rS.blk (h:rS w base e vs) (hb:aK w g t cs) (hne:e≠t) (hg:w.grownBy w' (some g)):rS w' base e vs:=
 h.grown hg fun k p g' hk hp e'=>by
  injection e' with e';subst e';exact aX (h.own k p hk) hb hne hp
theorem rS.push (h:rS w base e vs) {k:Nat} {v v':Value} {xs':List Value} (hk:vs[k]?=some (v,xs)) (hg:aR w w' v v') (ho:w'.ownsRow base e 1 v' xs'.length xs'):rS w' base e (vs.set k (v',xs')):=by
 have hk':=(List.getElem?_eq_some_iff.1 hk).1;have old:∀ (j:Nat) p,j≠k->vs[j]?=some p->∀ g,p.1.ownBlock=some g->v'.ownBlock≠some g:=fun j p hj hp g hpg hv=>by
  rcases hg.own g hv with h1 | h1
  ·exact h.sep j k p (v,xs) g hj hp hk hpg h1
  ·have:=cK (h.own j p hp) g hpg;omega
 refine ⟨fun j p hj=>?_,fun i j p q g hij hi hj hpg hqg=>?_⟩
 ·rw [List.getElem?_set] at hj;by_cases e1:k=j
  ·rw [if_pos e1,if_pos (by omega)] at hj;injection hj with hj;subst hj;exact ho
  ·rw [if_neg e1] at hj;refine oK (h.own j p hj) hg ?_
   cases hb:p.1.ownBlock with
   | none=>exact .inl rfl
   | some g=>exact .inr (fun e2=>h.sep j k p (v,xs) g (fun e3=>e1 e3.symm) hj hk hb e2.symm)
 ·rw [List.getElem?_set] at hi hj;by_cases e1:k=i
  ·subst e1;rw [if_pos rfl,if_pos (by omega)] at hi;injection hi with hi;subst hi;rw [if_neg hij] at hj;exact old j q (fun e=>hij e.symm) hj g hqg hpg
  ·rw [if_neg e1] at hi;by_cases e2:k=j
   ·subst e2;rw [if_pos rfl,if_pos (by omega)] at hj;injection hj with hj;subst hj;exact old i p (fun e=>hij e) hi g hpg hqg
   ·rw [if_neg e2] at hj;exact h.sep i j p q g hij hi hj hpg hqg
end
variable {P:Program}
theorem eT {ops:Array Oper} {w:World} {Q:Act->Prop}:∀ (l:List Oper) (a:Act),wpQuiet P ops (fun w'=>w'=w) Q l a->wpStill P ops w Q l a
 | [],a,h=>h
 | o::l,a,h=>by
  unfold wpQuiet at h;unfold wpStill
  split
  ·rename_i hw;rw [if_pos hw] at h;obtain ⟨v,h1,h2⟩:=h;have h3:=h1 w rfl;have h4:=eT l _ h2;unfold Oper.still;unfold Oper.quietAt at h3;generalize (execOp a.eval o).run P w=r at h3
   cases r with
   | halt x w'=>exact h3.elim
   | ok n w'=>
    cases n <;> simp only [Oper.quietUpon] at h3 <;> simp only [Oper.stillUpon]
    case value u=>exact ⟨h3.1,by rw [h3.2];exact h4⟩
    case skip=>exact ⟨h3.1,by rw [<- h3.2];exact h4⟩
    case enter f args=>exact ⟨h3.1,v,h3.2,h4⟩
  ·rename_i hw;rw [if_neg hw] at h;exact eT l _ h
theorem fE {id:Nat} (n:Nat) (hm:P.follows .mixedOrders=true) (hB:Region.lexTailB .any l.toArray n=true) (w2:World) (hw:w.drew=w2)
  (h:wpQuiet P l.toArray (fun w'=>w'=w2) (fun a'=>wpList P l.toArray Q (l.drop n) a' w2) (l.take n) a):(Code.region id l.toArray true).wp P Q a w:=by
 subst hw;exact wp_region_still_tail n hm hB (eT _ _ h)
variable {P:Program}
structure jS (w:World) where
 nx:World
 bel:Below w.heap.size w nx
instance (w:World):Nonempty (jS w):=⟨⟨w,Below.refl _ _⟩⟩
theorem dU {id:Nat} (hm:P.follows .mixedOrders=true) (hB:Region.lexB .any l.toArray=true)
  (h:wpQuiet P l.toArray (fun w'=>∃ x:jS w,w'=x.nx) (fun a'=>∀ w',(∃ x:jS w,w'=x.nx)->Q .normal a' w') l a):(Code.region id l.toArray true).wp P Q a w:=
 wp_region_quiet (C:=fun w'=>∃ x:jS w,w'=x.nx) hm hB ⟨⟨w.drew,aN (Below.refl _ _) 1⟩,rfl⟩ (by simpa using h)
theorem jB {x:jS w} {f:FuncId} {args:Array Value} {v:Value} (h:Calls P f args x.nx (fun e w'=>e=.returned v/\Below x.nx.heap.size x.nx w')):Calls P f args x.nx (fun e w''=>e=.returned v/\∃ y:jS w,w''=y.nx):=
 h.mono fun e w'' ⟨he,hb⟩=>⟨he,⟨w'',x.bel.trans (hb.mono x.bel.size)⟩,rfl⟩
theorem pC {u:Value} (h:w.cell? ⟨g,i,none⟩=some u) (x:jS w):x.nx.cell? ⟨g,i,none⟩=some u:=
 (x.bel.cell (p:=⟨g,i,none⟩) (World.block_lt_of_cell? w _ h)).trans h
structure aT (w w':World) (M:Nat->Prop):Prop where
 os:w'.os=w.os
 tape:w'.tape=w.tape
 output:w'.output=w.output
 size:w.heap.size<=w'.heap.size
 block:∀ b,b < w.heap.size->¬ M b->w'.heap[b]?=w.heap[b]?
section
variable {a b c w w':World} {M M':Nat->Prop}
theorem aT.refl (w:World) (M:Nat->Prop):aT w w M:=⟨rfl,rfl,rfl,Nat.le_refl _,fun _ _ _=>rfl⟩
theorem aT.trans (h:aT a b M) (k:aT b c M') (hm:∀ i,i < a.heap.size->M' i->M i):aT a c M:=
 ⟨k.os.trans h.os,k.tape.trans h.tape,k.output.trans h.output,Nat.le_trans h.size k.size,fun i hi hn=>(k.block i (Nat.lt_of_lt_of_le hi h.size) (fun x=>hn (hm i hi x))).trans (h.block i hi hn)⟩
theorem aT.drewN (h:aT a b M) (n:Nat):aT a (b.drewN n) M:=⟨h.os,h.tape,h.output,h.size,h.block⟩
theorem aT.drew (h:aT a b M):aT a b.drew M:=⟨h.os,h.tape,h.output,h.size,h.block⟩
theorem aT.alloc (h:aT a b M) (o:Obj):aT a (b.alloc o) M:=
 ⟨h.os,h.tape,h.output,Nat.le_trans h.size (by simp),fun i hi hn=>(Below.heap_alloc b o i (Nat.lt_of_lt_of_le hi h.size)).trans (h.block i hi hn)⟩
theorem aT.setCell (h:aT a b M) {p:Addr} (hp:M p.block\/a.heap.size<=p.block) (u:Value):aT a (b.setCell p u) M:=
 ⟨h.os,h.tape,h.output,by simpa [World.setCell] using h.size,fun i hi hn=>(Below.heap_setCell b p u i (by
  rintro rfl;rcases hp with hp | hp
  ·exact hn hp
  ·omega)).trans (h.block i hi hn)⟩
theorem aT.setRow (h:aT a b M) (hg:M g\/a.heap.size<=g) (cs:Array Value):aT a (b.setRow g cs) M:=
 ⟨h.os,h.tape,h.output,by simpa [World.setRow] using h.size,fun i hi hn=>(setRow_other b g i cs (by
  rintro rfl;rcases hg with hp | hp
  ·exact hn hp
  ·omega)).trans (h.block i hi hn)⟩
theorem aT.of_grown {row:Option Nat} (h:w.grownBy w' row) (hr:∀ g,row=some g->M g):aT w w' M:=
 ⟨h.os,h.tape,h.output,h.size,fun i hi hn=>h.block i hi (fun e=>hn (hr i e.symm))⟩
theorem aT.of_below (h:Below B w w') (hM:∀ i,B<=i->M i):aT w w' M:=
 ⟨h.os,h.tape,h.output,h.size,fun i hi hn=>h.block i (by
  rcases Nat.lt_or_ge i B with h1 | h1
  ·exact h1
  ·exact absurd (hM i h1) hn)⟩
theorem aT.below (h:aT w w' M) (hB:B<=w.heap.size) (hM:∀ i,M i->B<=i):Below B w w':=
 ⟨h.os,h.tape,h.output,h.size,fun i hi=>h.block i (by omega) (fun x=>by have:=hM i x;omega)⟩
theorem aT.mono (h:aT w w' M) (hm:∀ i,M i->M' i):aT w w' M':=⟨h.os,h.tape,h.output,h.size,fun i hi hn=>h.block i hi (fun x=>hn (hm i x))⟩
theorem aK.chg (h:aK w g t cs) (hc:aT w w' M) (hg:¬ M g):aK w' g t cs:=(hc.block g h.lt hg).trans h
theorem aG.chg {size:Nat} (h:aG w B size A n xs) (hc:aT w w' M) (hB:B<=w.heap.size) (hA:∀ ad,A=some ad->¬ M ad.block):aG w' B size A n xs:=
 ⟨h.1,fun hn=>by
  obtain ⟨ad,e,hb,hcell⟩:=h.2 hn;refine ⟨ad,e,hb,fun j u hu=>?_⟩;have h1:=hcell j u hu;rw [<- h1];exact World.cell?_of_block (by rw [bU];exact hc.block _ (by omega) (hA ad e))⟩
theorem aG.up {size:Nat} (h:aG w B size A n xs) (hB:B<=w.heap.size) (hb:Below w.heap.size w w'):aG w' w'.heap.size size A n xs:=
 (h.below (hb.mono hB)).more (Nat.le_trans hB hb.size)
end
section
variable {P:Program} {ops:Array Oper} {Q:Exit->Act->World->Prop} {md:Region.Mode}
theorem iV {listed:Array Bool} (h:i∈Region.ready md ops listed):i < ops.size/\listed.getD i true=false:=by
 unfold Region.ready at h;rw [List.mem_filter,List.mem_range] at h;simp only [Bool.and_eq_true,Bool.not_eq_true'] at h;exact ⟨h.1,h.2.1⟩
end
end
section
open Go.RowKit
variable {w W:World} {B n base m cap' cap k g N:Nat} {ops:Array Oper} {o:Oper} {a:Act} {Q:Exit->Act->World->Prop} {e e' tb:TypeId} {zs xs:List Value} {rest:List Oper} {K:Act->World->Prop} {E:Prop} {r r':Value} {cs:Array Value} {P:Program}
def aO (x:Int):Prop:=-9223372036854775808<=x/\x<=9223372036854775807
inductive Ty where
 | int
 | bool
 | str (n:Nat)
 | sl (n:Nat) (e:TypeId) (fs:List Ty)
 | ne (n:Nat) (e:TypeId) (fs:List Ty)
mutual
def Ty.has (e:TypeId):Ty->Bool
 | .int=>false
 | .bool=>false
 | .str _=>false
 | .sl _ e' fs=>(e' == e) || Ty.hasAny e fs
 | .ne _ e' fs=>(e' == e) || Ty.hasAny e fs
def Ty.hasAny (e:TypeId):List Ty->Bool
 | []=>false
 | t::ts=>Ty.has e t || Ty.hasAny e ts
end
theorem Ty.hasAny_at {e:TypeId}:∀ {fs:List Ty} {i:Nat} {t:Ty},Ty.hasAny e fs=false->fs[i]?=some t->t.has e=false
 | [],i,t,_,h=>by simp at h
 | x::fs,0,t,hf,h=>by
  simp at h;subst h;rw [Ty.hasAny] at hf;exact (Bool.or_eq_false_iff.1 hf).1
 | x::fs,i+1,t,hf,h=>by
  rw [Ty.hasAny] at hf;exact Ty.hasAny_at (Bool.or_eq_false_iff.1 hf).2 (by simpa using h)
inductive V (w:World) (B:Nat):Ty->Value->Prop where
 | int (n:Int) (h:aO n):V w B .int (.int .i64 n)
 | bool (b:Bool):V w B .bool (.bool b)
 | str (k:Nat) (s:ByteArray) (h:s.size<=k):V w B (.str k) (.string s)
 | sl (n:Nat) (e:TypeId) (fs:List Ty) (A:Option Addr) (len cap:Nat) (xs:List Value) (hc:len<=cap) (hn:len<=n) (hr:aG w B fs.length A len xs)
   (hb:∀ ad,A=some ad->0 < len->∃ cs,w.heap[ad.block]?=some (.cells cs e (0,0)))
   (hx:∀ (j:Nat) (u:Value) (t:Ty),xs[j]?=some u->fs[j % fs.length]?=some t->V w B t u):V w B (.sl n e fs) (.slice A len cap)
 | ne (n:Nat) (e:TypeId) (fs:List Ty) (A:Option Addr) (len cap:Nat) (h:V w B (.sl n e fs) (.slice A len cap)) (h0:0 < len):V w B (.ne n e fs) (.slice A len cap)
def Ts (w:World) (B:Nat) (fs:List Ty) (xs:List Value):Prop:=∀ (j:Nat) (u:Value) (t:Ty),xs[j]?=some u->fs[j % fs.length]?=some t->V w B t u
section
variable {w w':World} {B B' n len cap k:Nat} {e:TypeId} {fs:List Ty} {t:Ty} {v:Value} {A:Option Addr} {xs ys:List Value}
theorem V.keepT (h:V w B t v) (hk:∀ g cs e,g < B->t.has e=true->w.heap[g]?=some (.cells cs e (0,0))->w'.heap[g]?=w.heap[g]?):V w' B t v:=by
 induction h with
 | int n h=>exact .int n h
 | bool b=>exact .bool b
 | str k s h=>exact .str k s h
 | sl n e fs A len cap xs hc hn hr hb hx ih=>
  have same:∀ ad,A=some ad->0 < len->w'.heap[ad.block]?=w.heap[ad.block]?:=fun ad e1 h0=>by
   obtain ⟨cs,hcs⟩:=hb ad e1 h0;obtain ⟨ad',e2,hB,_⟩:=hr.2 h0;rw [e1] at e2;injection e2 with e2;subst e2;exact hk ad.block cs e hB (by rw [Ty.has];simp) hcs
  refine .sl n e fs A len cap xs hc hn ⟨hr.1,fun h0=>?_⟩ (fun ad e1 h0=>?_) (fun j u t hu ht=>ih j u t hu ht (fun g cs e' hg he hh=>hk g cs e' hg ?_ hh))
  ·obtain ⟨ad,e1,hB,hcell⟩:=hr.2 h0;exact ⟨ad,e1,hB,fun j u hu=>(World.cell?_of_block (by rw [bU];exact same ad e1 h0)).trans (hcell j u hu)⟩
  ·obtain ⟨cs,hcs⟩:=hb ad e1 h0;exact ⟨cs,(same ad e1 h0).trans hcs⟩
  ·rw [Ty.has]
   cases h1:Ty.hasAny e' fs with
   | true=>simp
   | false=>rw [Ty.hasAny_at h1 ht] at he;cases he
 | ne n e fs A len cap h h0 ih=>exact .ne n e fs A len cap (ih (fun g cs e' hg he hh=>hk g cs e' hg (by simpa [Ty.has] using he) hh)) h0
theorem V.keep (h:V w B t v) (hk:∀ g,g < B->w'.heap[g]?=w.heap[g]?):V w' B t v:=h.keepT fun g _ _ hg _ _=>hk g hg
theorem V.more (h:V w B t v) (hB:B<=B'):V w B' t v:=by
 induction h with
 | int n h=>exact .int n h
 | bool b=>exact .bool b
 | str k s h=>exact .str k s h
 | sl n e fs A len cap xs hc hn hr hb hx ih=>exact .sl n e fs A len cap xs hc hn (hr.more hB) hb ih
 | ne n e fs A len cap h h0 ih=>exact .ne n e fs A len cap ih h0
theorem V.bel (h:V w B t v) (hb:Below B w w'):V w' B t v:=h.keep fun g hg=>hb.block g hg
theorem V.up (h:V w w.heap.size t v) (hb:Below w.heap.size w w'):V w' w'.heap.size t v:=(h.bel hb).more hb.size
theorem V.drew (h:V w B t v):V w.drew B t v:=h.keep fun _ _=>rfl
theorem V.drewN (h:V w B t v) (k:Nat):V (w.drewN k) B t v:=h.keep fun _ _=>rfl
theorem V.grows {size:Nat} (h:V w B t v) (hB:B<=w.heap.size) (hg:aR w w' r r') (ho:w.ownsRow base e size r m zs) (he:t.has e=false):V w' B t v:=
 h.keepT fun g cs e' hgB he' hh=>hg.grown.block g (by omega) (fun e1=>by
  rcases ho.2 with ⟨rfl,_⟩ | ⟨g',cap,cur,rfl,_,hh',_⟩
  ·simp [Value.ownBlock] at e1
  ·have:g=g':=by simpa [Value.ownBlock] using e1
   subst this;rw [hh] at hh';injection hh' with hh';injection hh' with _ e2;subst e2;rw [he] at he'
   cases he')
theorem V.int_inv (h:V w B .int v):∃ z,v=.int .i64 z/\aO z:=by cases h with | int n h=>exact ⟨n,rfl,h⟩
theorem V.bool_inv (h:V w B .bool v):∃ b,v=.bool b:=by cases h with | bool b=>exact ⟨b,rfl⟩
theorem V.str_inv (h:V w B (.str k) v):∃ s,v=.string s/\s.size<=k:=by cases h with | str k s h=>exact ⟨s,rfl,h⟩
theorem V.sl_inv (h:V w B (.sl n e fs) v):∃ A len cap,v=.slice A len cap/\len<=cap/\len<=n:=by cases h with | sl n e fs A len cap xs hc hn=>exact ⟨A,len,cap,rfl,hc,hn⟩
theorem V.ne_inv (h:V w B (.ne n e fs) v):∃ A len cap,v=.slice A len cap/\0 < len/\V w B (.sl n e fs) (.slice A len cap):=by cases h with | ne n e fs A len cap h h0=>exact ⟨A,len,cap,rfl,h0,h⟩
theorem V.len_le (h:V w B (.sl n e fs) (.slice A len cap)):len<=n:=by cases h;assumption
theorem V.cap_le (h:V w B (.sl n e fs) (.slice A len cap)):len<=cap:=by cases h;assumption
theorem V.reads (h:V w B (.sl n e fs) (.slice A len cap)):∃ xs,aG w B fs.length A len xs/\Ts w B fs xs:=by
 cases h with | sl n e fs A len cap xs hc hn hr hb hx=>exact ⟨xs,hr,hx⟩
theorem V.nil (w:World) (B n:Nat) (e:TypeId) (fs:List Ty):V w B (.sl n e fs) (.slice none 0 0):=
 .sl n e fs none 0 0 [] (Nat.le_refl _) (Nat.zero_le _) ⟨by simp,fun h=>absurd h (by omega)⟩ (fun _ h=>by cases h) (fun j u t h=>by simp at h)
theorem V.wide {n':Nat} (h:V w B (.sl n e fs) (.slice A len cap)) (hn:len<=n'):V w B (.sl n' e fs) (.slice A len cap):=by
 cases h with | sl n e fs A len cap xs hc hn' hr hb hx=>exact .sl n' e fs A len cap xs hc hn hr hb hx
theorem V.take (h:V w B (.sl n e fs) (.slice A len cap)) (hk:k<=len) (hc':k<=cap'):V w B (.sl n e fs) (.slice A k cap'):=by
 cases h with
 | sl n e fs A len cap xs hc hn hr hb hx=>
  refine .sl n e fs A k cap' (xs.take (k*fs.length)) hc' (by omega) ⟨?_,fun h0=>?_⟩ (fun ad e1 h0=>hb ad e1 (by omega)) (fun j u t hu ht=>hx j u t ?_ ht)
  ·rw [List.length_take,hr.1,Nat.min_eq_left (Nat.mul_le_mul_right _ hk)]
  ·obtain ⟨ad,e1,hB,hcell⟩:=hr.2 (by omega);refine ⟨ad,e1,hB,fun j u hu=>hcell j u ?_⟩;rw [List.getElem?_take] at hu
   split at hu
   ·exact hu
   ·cases hu
  ·rw [List.getElem?_take] at hu
   split at hu
   ·exact hu
   ·cases hu
theorem V.drop (h:V w B (.sl n e fs) (.slice A len cap)) (hk:k<=len) (hc':len - k<=cap'):V w B (.sl n e fs) (.slice (if cap=k then A else A.map (·.add (k*fs.length))) (len - k) cap'):=by
 cases h with
 | sl n e fs A len cap xs hc hn hr hb hx=>
  refine .sl n e fs _ (len - k) cap' (xs.drop (k*fs.length)) hc' (by omega) (hr.cut hk hc) (fun ad e1 h0=>?_) (fun j u t hu ht=>?_)
  ·rw [if_neg (by omega)] at e1;obtain ⟨ad',e2,_⟩:=hr.2 (by omega);rw [e2] at e1;simp at e1;subst e1;rw [bU];exact hb ad' e2 (by omega)
  ·rw [List.getElem?_drop] at hu;refine hx _ u t hu ?_;rw [Nat.add_comm (k*fs.length),Nat.add_mul_mod_self_right];exact ht
theorem V.at_ (h:V w B (.sl n e fs) (.slice A len cap)) (hk:k < len) (hf:0 < fs.length):∃ b off,A=some ⟨b,off,none⟩/\b < B/\
  ∀ (i:Nat) (t:Ty),fs[i]?=some t->∃ u,w.cell? ⟨b,off+(k*fs.length+i),none⟩=some u/\V w B t u:=by
 cases h with
 | sl n e fs A len cap xs hc hn hr hb hx=>
  obtain ⟨b,off,e1,hB,hcell⟩:=hr.head (by omega) hf;refine ⟨b,off,e1,hB,fun i t hi=>?_⟩;have hil:=(List.getElem?_eq_some_iff.1 hi).1;have hl:k*fs.length+i < xs.length:=by
   rw [hr.1];have:(k+1)*fs.length<=len*fs.length:=Nat.mul_le_mul_right _ hk;rw [Nat.add_mul] at this;omega
  refine ⟨xs[k*fs.length+i],hcell _ _ (List.getElem?_eq_getElem hl),hx _ _ t (List.getElem?_eq_getElem hl) ?_⟩;rw [Nat.add_comm,Nat.add_mul_mod_self_right,Nat.mod_eq_of_lt hil];exact hi
end
theorem V.dropK {len b off:Nat} {fs:List Ty} (h:V w B (.sl n e fs) (.slice (some ⟨b,off,none⟩) len cap)) (hk:k<=len):
  (cap=k->V w B (.sl n e fs) (.slice (some ⟨b,off,none⟩) (len - k) 0))/\(cap≠k->V w B (.sl n e fs) (.slice (some ⟨b,off+k*fs.length,none⟩) (len - k) (cap - k))):=by
 have hc:=h.cap_le;constructor
 ·intro e1;have:=h.drop (k:=k) hk (cap':=0) (by omega);rwa [if_pos e1] at this
 ·intro e1;have:=h.drop (k:=k) hk (cap':=cap - k) (by omega);rw [if_neg e1] at this;simpa [Addr.add_lit] using this
theorem aG.dropK {b off c:Nat} (h:aG w B 1 (some ⟨b,off,none⟩) n xs) (hk:k<=n) (hc:n<=c):
  (c=k->aG w B 1 (some ⟨b,off,none⟩) (n - k) (xs.drop k))/\(c≠k->aG w B 1 (some ⟨b,off+k,none⟩) (n - k) (xs.drop k)):=by
 have h1:=h.cut hk hc;rw [Nat.mul_one] at h1;constructor
 ·intro e1;rwa [if_pos e1] at h1
 ·intro e1;rw [if_neg e1] at h1;simpa [Addr.add_lit] using h1
theorem V.set_ {t:Ty} {v:Value} (h:V w B t v) (hb:aK w g tb cs) (he:t.has tb=false) (i:Nat) (u:Value):V (w.setCell ⟨g,i,none⟩ u) B t v:=
 h.keepT fun g' cs' e hB he' hh=>Below.heap_setCell w ⟨g,i,none⟩ u g' (by
  rintro rfl;unfold aK at hb;rw [hb] at hh;injection hh with hh;injection hh with _ e2;subst e2;rw [he] at he'
  cases he')
abbrev aQ (K:Nat):List Ty:=[.int,.int,.int,.bool,.str K,.int]
abbrev fI (K:Nat):List Ty:=[.int,.int,.bool,.str K,.int]
abbrev dD (K M:Nat) (ea:TypeId):List Ty:=[.int,.int,.ne M ea (fI K)]
abbrev cL (K M N:Nat) (ei ec:TypeId):List Ty:=[.int,.sl M ei [.int],.sl M ei [.int],.str K,.sl N ec (aQ K)]
section
variable {w:World} {B n len cap k K M N:Nat} {e ea ei ec:TypeId} {A:Option Addr}
theorem V.int_at (h:V w B (.sl n e [.int]) (.slice A len cap)) (hk:k < len):∃ b off z,A=some ⟨b,off,none⟩/\b < B/\w.cell? ⟨b,off+k,none⟩=some (.int .i64 z)/\aO z:=by
 obtain ⟨b,off,e1,hB,hc⟩:=h.at_ hk (by simp);obtain ⟨u,hu,hv⟩:=hc 0 _ rfl;obtain ⟨z,rfl,hz⟩:=hv.int_inv;exact ⟨b,off,z,e1,hB,by simpa using hu,hz⟩
theorem V.str_at (h:V w B (.sl n e [.str K]) (.slice A len cap)) (hk:k < len):∃ b off s,A=some ⟨b,off,none⟩/\b < B/\w.cell? ⟨b,off+k,none⟩=some (.string s)/\s.size<=K:=by
 obtain ⟨b,off,e1,hB,hc⟩:=h.at_ hk (by simp);obtain ⟨u,hu,hv⟩:=hc 0 _ rfl;obtain ⟨z,rfl,hz⟩:=hv.str_inv;exact ⟨b,off,z,e1,hB,by simpa using hu,hz⟩
theorem V.cell_at (h:V w B (.sl n e (aQ K)) (.slice A len cap)) (hk:k < len):∃ b off z0 z1 z2 b3 s4 z5,A=some ⟨b,off,none⟩/\b < B/\w.cell? ⟨b,off+k*6,none⟩=some (.int .i64 z0)/\w.cell? ⟨b,off+k*6+1,none⟩=some (.int .i64 z1)/\
  w.cell? ⟨b,off+k*6+2,none⟩=some (.int .i64 z2)/\w.cell? ⟨b,off+k*6+3,none⟩=some (.bool b3)/\w.cell? ⟨b,off+k*6+4,none⟩=some (.string s4)/\w.cell? ⟨b,off+k*6+5,none⟩=some (.int .i64 z5)/\aO z0/\aO z1/\aO z2/\s4.size<=K/\aO z5:=by
 obtain ⟨b,off,e1,hB,hc⟩:=h.at_ hk (by simp);obtain ⟨u0,h0,v0⟩:=hc 0 _ rfl;obtain ⟨u1,h1,v1⟩:=hc 1 _ rfl;obtain ⟨u2,h2,v2⟩:=hc 2 _ rfl;obtain ⟨u3,h3,v3⟩:=hc 3 _ rfl;obtain ⟨u4,h4,v4⟩:=hc 4 _ rfl;obtain ⟨u5,h5,v5⟩:=hc 5 _ rfl;obtain ⟨z0,rfl,i0⟩:=v0.int_inv;obtain ⟨z1,rfl,i1⟩:=v1.int_inv;obtain ⟨z2,rfl,i2⟩:=v2.int_inv;obtain ⟨z3,rfl⟩:=v3.bool_inv;obtain ⟨z4,rfl,i4⟩:=v4.str_inv;obtain ⟨z5,rfl,i5⟩:=v5.int_inv;simp only [List.length_cons,List.length_nil,Nat.zero_add,Nat.reduceAdd,Nat.add_zero,<- Nat.add_assoc] at h0 h1 h2 h3 h4 h5;exact ⟨b,off,z0,z1,z2,z3,z4,z5,e1,hB,h0,h1,h2,h3,h4,h5,i0,i1,i2,i4,i5⟩
theorem V.alt_at (h:V w B (.sl n e (fI K)) (.slice A len cap)) (hk:k < len):∃ b off z0 z1 b2 s3 z4,A=some ⟨b,off,none⟩/\b < B/\w.cell? ⟨b,off+k*5,none⟩=some (.int .i64 z0)/\w.cell? ⟨b,off+k*5+1,none⟩=some (.int .i64 z1)/\
  w.cell? ⟨b,off+k*5+2,none⟩=some (.bool b2)/\w.cell? ⟨b,off+k*5+3,none⟩=some (.string s3)/\w.cell? ⟨b,off+k*5+4,none⟩=some (.int .i64 z4)/\aO z0/\aO z1/\s3.size<=K/\aO z4:=by
 obtain ⟨b,off,e1,hB,hc⟩:=h.at_ hk (by simp);obtain ⟨u0,h0,v0⟩:=hc 0 _ rfl;obtain ⟨u1,h1,v1⟩:=hc 1 _ rfl;obtain ⟨u2,h2,v2⟩:=hc 2 _ rfl;obtain ⟨u3,h3,v3⟩:=hc 3 _ rfl;obtain ⟨u4,h4,v4⟩:=hc 4 _ rfl;obtain ⟨z0,rfl,i0⟩:=v0.int_inv;obtain ⟨z1,rfl,i1⟩:=v1.int_inv;obtain ⟨z2,rfl⟩:=v2.bool_inv;obtain ⟨z3,rfl,i3⟩:=v3.str_inv;obtain ⟨z4,rfl,i4⟩:=v4.int_inv;simp only [List.length_cons,List.length_nil,Nat.zero_add,Nat.reduceAdd,Nat.add_zero,<- Nat.add_assoc] at h0 h1 h2 h3 h4;exact ⟨b,off,z0,z1,z2,z3,z4,e1,hB,h0,h1,h2,h3,h4,i0,i1,i3,i4⟩
theorem V.slot_at (h:V w B (.sl n e (dD K M ea)) (.slice A len cap)) (hk:k < len):∃ b off z0 z1 A2 n2 c2,A=some ⟨b,off,none⟩/\b < B/\w.cell? ⟨b,off+k*3,none⟩=some (.int .i64 z0)/\w.cell? ⟨b,off+k*3+1,none⟩=some (.int .i64 z1)/\
  w.cell? ⟨b,off+k*3+2,none⟩=some (.slice A2 n2 c2)/\aO z0/\aO z1/\0 < n2/\n2<=c2/\V w B (.sl M ea (fI K)) (.slice A2 n2 c2):=by
 obtain ⟨b,off,e1,hB,hc⟩:=h.at_ hk (by simp);obtain ⟨u0,h0,v0⟩:=hc 0 _ rfl;obtain ⟨u1,h1,v1⟩:=hc 1 _ rfl;obtain ⟨u2,h2,v2⟩:=hc 2 _ rfl;obtain ⟨z0,rfl,i0⟩:=v0.int_inv;obtain ⟨z1,rfl,i1⟩:=v1.int_inv;obtain ⟨A2,n2,c2,rfl,i2,i3⟩:=v2.ne_inv;simp only [List.length_cons,List.length_nil,Nat.zero_add,Nat.reduceAdd,Nat.add_zero,<- Nat.add_assoc] at h0 h1 h2;exact ⟨b,off,z0,z1,A2,n2,c2,e1,hB,h0,h1,h2,i0,i1,i2,i3.cap_le,i3⟩
theorem V.com_at (h:V w B (.sl n e (cL K M N ei ec)) (.slice A len cap)) (hk:k < len):∃ b off z0 A1 n1 c1 A2 n2 c2 s3 A4 n4 c4,A=some ⟨b,off,none⟩/\b < B/\w.cell? ⟨b,off+k*5,none⟩=some (.int .i64 z0)/\w.cell? ⟨b,off+k*5+1,none⟩=some (.slice A1 n1 c1)/\
  w.cell? ⟨b,off+k*5+2,none⟩=some (.slice A2 n2 c2)/\w.cell? ⟨b,off+k*5+3,none⟩=some (.string s3)/\w.cell? ⟨b,off+k*5+4,none⟩=some (.slice A4 n4 c4)/\aO z0/\V w B (.sl M ei [.int]) (.slice A1 n1 c1)/\V w B (.sl M ei [.int]) (.slice A2 n2 c2)/\s3.size<=K/\V w B (.sl N ec (aQ K)) (.slice A4 n4 c4):=by
 obtain ⟨b,off,e1,hB,hc⟩:=h.at_ hk (by simp);obtain ⟨u0,h0,v0⟩:=hc 0 _ rfl;obtain ⟨u1,h1,v1⟩:=hc 1 _ rfl;obtain ⟨u2,h2,v2⟩:=hc 2 _ rfl;obtain ⟨u3,h3,v3⟩:=hc 3 _ rfl;obtain ⟨u4,h4,v4⟩:=hc 4 _ rfl;obtain ⟨z0,rfl,i0⟩:=v0.int_inv;obtain ⟨A1,n1,c1,rfl,-,-⟩:=v1.sl_inv;obtain ⟨A2,n2,c2,rfl,-,-⟩:=v2.sl_inv;obtain ⟨s3,rfl,i3⟩:=v3.str_inv;obtain ⟨A4,n4,c4,rfl,-,-⟩:=v4.sl_inv;simp only [List.length_cons,List.length_nil,Nat.zero_add,Nat.reduceAdd,Nat.add_zero,<- Nat.add_assoc] at h0 h1 h2 h3 h4;exact ⟨b,off,z0,A1,n1,c1,A2,n2,c2,s3,A4,n4,c4,e1,hB,h0,h1,h2,h3,h4,i0,v1,v2,i3,v4⟩
end
def aJ (w:World) (base:Nat) (e:TypeId) (fs:List Ty) (v:Value) (n:Nat):Prop:=∃ xs,w.ownsRow base e fs.length v n xs/\Ts w w.heap.size fs xs
section
variable {w w':World} {base n m k B:Nat} {e:TypeId} {fs:List Ty} {v v' r r':Value} {A:Option Addr} {c:Nat} {xs ys:List Value}
theorem Ts.up (h:Ts w w.heap.size fs xs) (hb:Below w.heap.size w w'):Ts w' w'.heap.size fs xs:=fun j u t hu ht=>(h j u t hu ht).up hb
theorem Ts.append (h:Ts w B fs xs) (h':Ts w B fs ys) (hl:xs.length=n*fs.length):Ts w B fs (xs++ys):=fun j u t hu ht=>by
 rw [List.getElem?_append] at hu
 split at hu
 ·exact h j u t hu ht
 ·rename_i hj;refine h' _ u t hu ?_;rw [hl];have hge:n*fs.length<=j:=by omega
  obtain ⟨d,rfl⟩:∃ d,j=n*fs.length+d:=⟨j - n*fs.length,by omega⟩;rw [Nat.add_comm,Nat.add_mul_mod_self_right] at ht;rw [show n*fs.length+d - n*fs.length=d by omega];exact ht
theorem aJ.nil (w:World) (base:Nat) (e:TypeId) (fs:List Ty):aJ w base e fs (.slice none 0 0) 0:=⟨[],⟨by simp,.inl ⟨rfl,rfl⟩⟩,fun j u t h=>by simp at h⟩
theorem aJ.form (h:aJ w base e fs v n):∃ A c,v=.slice A n c/\n<=c/\c<=maxLen:=by
 obtain ⟨xs,ho,_⟩:=h;rcases ho.2 with ⟨rfl,rfl⟩ | ⟨g,cap,cur,rfl,_,_,h1,h2,_⟩
 ·exact ⟨none,0,rfl,Nat.le_refl _,Nat.zero_le _⟩
 ·exact ⟨_,cap,rfl,h1,h2⟩
theorem aJ.from_ (h:aJ w base e fs v n):∀ g,v.ownBlock=some g->base<=g:=by
 obtain ⟨xs,ho,_⟩:=h;exact aU ho
theorem aJ.lt (h:aJ w base e fs v n):∀ g,v.ownBlock=some g->g < w.heap.size:=by
 obtain ⟨xs,ho,_⟩:=h;exact cK ho
theorem aJ.low {base':Nat} (h:aJ w base e fs v n) (hb:base'<=base):aJ w base' e fs v n:=by
 obtain ⟨xs,ho,ht⟩:=h;exact ⟨xs,sF ho (fun g hg=>Nat.le_trans hb (aU ho g hg)),ht⟩
theorem aJ.up (h:aJ w base e fs v n) (hb:Below w.heap.size w w'):aJ w' base e fs v n:=by
 obtain ⟨xs,ho,ht⟩:=h;exact ⟨xs,eV ho hb (cK ho),ht.up hb⟩
theorem aJ.drew (h:aJ w base e fs v n):aJ w.drew base e fs v n:=h.up ⟨rfl,rfl,rfl,Nat.le_refl _,fun _ _=>rfl⟩
theorem aJ.drewN (h:aJ w base e fs v n) (k:Nat):aJ (w.drewN k) base e fs v n:=h.up (aN (Below.refl _ _) k)
theorem aJ.alloc (h:aJ w base e fs v n) (o:Obj):aJ (w.alloc o) base e fs v n:=h.up ((Below.refl _ w).alloc (Nat.le_refl _) o)
theorem aJ.v_ (h:aJ w base e fs v n) (hn:n<=N):V w w.heap.size (.sl N e fs) v:=by
 obtain ⟨xs,ho,ht⟩:=h;rcases ho.2 with ⟨rfl,rfl⟩ | ⟨g,cap,cur,rfl,hbase,hh,h1,h2,h3,h4⟩
 ·exact V.nil _ _ _ _ _
 ·refine .sl N e fs _ n cap xs h1 hn (aG.of_own ho) (fun ad e1 _=>?_) ht;injection e1 with e1;subst e1;exact ⟨cur,hh⟩
theorem aJ.take (h:aJ w base e fs (.slice A N c) N) (hk:k<=N):aJ w base e fs (.slice A k c) k:=by
 obtain ⟨xs,ho,ht⟩:=h;refine ⟨xs.take (k*fs.length),⟨?_,?_⟩,fun j u t hu hf=>?_⟩
 ·rw [List.length_take,ho.1,Nat.min_eq_left (Nat.mul_le_mul_right _ hk)]
 ·rcases ho.2 with ⟨h1,h2⟩ | ⟨g,cap,cur,h0,hbase,hh,h1,h2,h3,h4⟩
  ·injection h1 with e1 e2 e3;subst e1 e2 e3;have:k=0:=by omega
   subst this;exact .inl ⟨rfl,rfl⟩
  ·injection h0 with e1 e2 e3;subst e1 e3;refine .inr ⟨g,c,cur,rfl,hbase,hh,by omega,h2,h3,?_⟩;rw [<- h4,List.take_take,Nat.min_eq_left (Nat.mul_le_mul_right _ hk)]
 ·rw [List.getElem?_take] at hu
  split at hu
  ·exact ht j u t hu hf
  ·cases hu
theorem aJ.grows {size:Nat} (h:aJ w base e fs v n) (hg:aR w w' r r') (ho':w.ownsRow base e' size r m zs) (he:Ty.hasAny e' fs=false) (hne:v.ownBlock=none\/v.ownBlock≠r.ownBlock):aJ w' base e fs v n:=by
 obtain ⟨xs,ho,ht⟩:=h;exact ⟨xs,oK ho hg hne,fun j u t hu hf=>((ht j u t hu hf).grows (Nat.le_refl _) hg ho' (Ty.hasAny_at he hf)).more hg.size⟩
end
theorem aJ.other {w':World} {size:Nat} {fs:List Ty} {v:Value} (h:aJ w base e fs v n) (hg:aR w w' r r') (ho':w.ownsRow base e' size r m zs) (he:Ty.hasAny e' fs=false) (hne:∀ g,v.ownBlock=some g->r.ownBlock≠some g):aJ w' base e fs v n:=
 h.grows hg ho' he (by
  cases hb:v.ownBlock with
  | none=>exact .inl rfl
  | some g=>exact .inr (fun e1=>hne g hb e1.symm))
theorem aJ.set_ {fs:List Ty} {v:Value} (h:aJ w base e fs v n) (hb:aK w g tb cs) (hg:g < base) (he:Ty.hasAny tb fs=false) (i:Nat) (u:Value):aJ (w.setCell ⟨g,i,none⟩ u) base e fs v n:=by
 obtain ⟨xs,ho,ht⟩:=h;refine ⟨xs,ho.kept (aW (p:=⟨g,i,none⟩) (World.grownBy.refl w _) (.inl rfl) u) (.inr (fun e1=>?_)),fun j u' t hu hf=>((ht j u' t hu hf).set_ hb (Ty.hasAny_at he hf) i u).more (by simp [World.setCell])⟩;have h3:base<=g:=aU ho g e1;omega
def cN (P:Program) (e:TypeId) (size bytes:Nat):Prop:=∃ i z,P.info? e=some i/\i.zero=some z/\i.size=size/\i.bytes=bytes/\z.cells.size=size
theorem eC {size bytes:Nat} (h:((P.info? e).bind fun i=>i.zero.map fun z=>(i.size,i.bytes,z.cells.size))=some (size,bytes,size)):cN P e size bytes:=by
 cases h1:P.info? e with
 | none=>rw [h1] at h;cases h
 | some i=>
  rw [h1] at h
  cases h2:i.zero with
  | none=>simp [h2] at h
  | some z=>
   simp [h2] at h;exact ⟨i,z,h1,h2,h.1,h.2.1,h.2.2⟩
section
variable {P:Program} {w:World}
theorem mR (hgd:o.guard=none) (s x:Operand) (t tx:TypeId)
  (ho:o.op=.call { callee:=.builtin .append,args:=#[s,x],argTypes:=#[t,tx] })
  (base:Nat) (e:TypeId) (fs:List Ty) (bytes:Nat) (hi:cN P e fs.length bytes) (ht:P.underlying t=some (.slice e)) (hf:0 < fs.length) (he:Ty.hasAny e fs=false)
  (v:Value) (n:Nat) (hs:a.eval s=v) (hown:aJ w base e fs v n)
  (y:Value) (m:Nat) (news:List Value) (hx:a.eval x=y) (hr:Src P fs.length tx y m news w) (hT:Ts w w.heap.size fs news)
  (h63:n+m<=maxLen) (hbytes:(n+m)*bytes<=140737488355328) (hbase:base<=w.heap.size)
  (h:∀ v' w',aJ w' base e fs v' (n+m)->aR w w' v v'->wpList P ops Q rest (a.put o.dst v') w'):wpList P ops Q (o::rest) a w:=by
 obtain ⟨i,z,h1,h2,h3,h4,h5⟩:=hi;obtain ⟨xs,ho',hT'⟩:=hown;refine aF w hgd s x t tx ho base e i z fs.length bytes ht h1 h2 h3 h4 h5 hf v n xs hs ho' y m news hx hr h63 hbytes hbase fun v' w' hown' hg=>h v' w' ⟨xs++news,hown',?_⟩ hg;intro j u t hu hft;exact (((hT'.append hT ho'.1) j u t hu hft).grows (Nat.le_refl _) hg ho' (Ty.hasAny_at he hft)).more hg.size
theorem qO (hgd:o.guard=none) (s x:Operand) (t tx:TypeId)
  (ho:o.op=.call { callee:=.builtin .append,args:=#[s,x],argTypes:=#[t,tx] })
  (base:Nat) (e:TypeId) (fs:List Ty) (bytes:Nat) (hi:cN P e fs.length bytes) (ht:P.underlying t=some (.slice e)) (hf:0 < fs.length) (he:Ty.hasAny e fs=false)
  (v:Value) (n:Nat) (hs:a.eval s=v) (hown:aJ w base e fs v n)
  (y:Value) (m:Nat) (news:List Value) (hx:a.eval x=y) (hr:Src P fs.length tx y m news w) (hT:Ts w w.heap.size fs news)
  (h63:n+m<=maxLen) (hbytes:(n+m)*bytes<=140737488355328) (hbase:base<=w.heap.size)
  (h:∀ v' w',aJ w' base e fs v' (n+m)->aR w w' v v'->K (a.put o.dst v') w'):
  if Region.wanted o (yielded ops a.tmps)=true then Oper.wp P o a w K Q else E:=by
 obtain ⟨i,z,h1,h2,h3,h4,h5⟩:=hi;obtain ⟨xs,ho',hT'⟩:=hown;refine dE w hgd s x t tx ho base e i z fs.length bytes ht h1 h2 h3 h4 h5 hf v n xs hs ho' y m news hx hr h63 hbytes hbase fun v' w' hown' hg=>h v' w' ⟨xs++news,hown',?_⟩ hg;intro j u t hu hft;exact (((hT'.append hT ho'.1) j u t hu hft).grows (Nat.le_refl _) hg ho' (Ty.hasAny_at he hft)).more hg.size
end
theorem Bj (l:List Int):∀ u∈l.map (Value.int .i64),u.oneCell'=true:=fun u hu=>by
 obtain ⟨_,_,rfl⟩:=List.mem_map.1 hu;rfl
theorem V.one {t:Ty} {u:Value} (h:V w B t u):u.oneCell'=true:=by cases h <;> rfl
theorem Ts.one {fs:List Ty} (h:Ts w B fs xs) (hf:0 < fs.length):∀ u∈xs,u.oneCell'=true:=fun u hu=>by
 obtain ⟨j,hj⟩:=List.getElem?_of_mem hu;exact (h j u _ hj (List.getElem?_eq_getElem (Nat.mod_lt _ hf))).one
theorem V.src {len:Nat} {tx:TypeId} {fs:List Ty} {A:Option Addr} (h:V w B (.sl n e fs) (.slice A len cap)) (hB:B<=w.heap.size) (hk:P.underlying tx=some (.slice e')) (hf:0 < fs.length):∃ xs,Src P fs.length tx (.slice A len cap) len xs w/\Ts w w.heap.size fs xs:=by
 obtain ⟨xs,hr,hT⟩:=h.reads;exact ⟨xs,cQ (P:=P) w hk cap hr (hT.one hf),fun j u t hu ht=>(hT j u t hu ht).more hB⟩
theorem nU {fs:List Ty} {vals:List Value} (hl:vals.length<=fs.length) (h:∀ (i:Nat) u t,vals[i]?=some u->fs[i]?=some t->V w B t u):Ts w B fs vals:=fun j u t hu ht=>by
 have hj:=(List.getElem?_eq_some_iff.1 hu).1;rw [Nat.mod_eq_of_lt (by omega)] at ht;exact h j u t hu ht
section
variable {P:Program} {w w0:World}
theorem hJ (hgd:o.guard=none) (s x:Operand) (t tx:TypeId)
  (ho:o.op=.call { callee:=.builtin .append,args:=#[s,x],argTypes:=#[t,tx] })
  (base:Nat) (e:TypeId) (fs:List Ty) (bytes:Nat) (hi:cN P e fs.length bytes) (ht:P.underlying t=some (.slice e)) (htx:∃ e',P.underlying tx=some (.slice e')) (hf:0 < fs.length) (he:Ty.hasAny e fs=false)
  (v:Value) (n:Nat) (hs:a.eval s=v) (hown:aJ w0 base e fs v n)
  (te:TypeId) (vals:List Value) (m c:Nat) (hw:w=w0.alloc (.cells vals.toArray te)) (hx:a.eval x=.slice (some ⟨w0.heap.size,0,none⟩) m c) (hl:vals.length=m*fs.length) (hT:Ts w0 w0.heap.size fs vals)
  (h63:n+m<=maxLen) (hbytes:(n+m)*bytes<=140737488355328) (hbase:base<=w0.heap.size)
  (h:∀ A' c' w',aJ w' base e fs (.slice A' (n+m) c') (n+m)->aR w w' v (.slice A' (n+m) c')->Below base w0 w'->wpList P ops Q rest (a.put o.dst (.slice A' (n+m) c')) w'):wpList P ops Q (o::rest) a w:=by
 obtain ⟨e',he'⟩:=htx;subst hw;refine mR hgd s x t tx ho base e fs bytes hi ht hf he v n hs (hown.alloc _) _ m vals hx (bR (P:=P) w0 he' vals fs.length m c te hl (hT.one hf)) (hT.up ((Below.refl _ w0).alloc (Nat.le_refl _) _)) h63 hbytes (by simp;omega) fun v' w' hown' hg=>?_;obtain ⟨A',c',rfl,-,-⟩:=hown'.form;exact h A' c' w' hown' hg (((Below.refl base w0).alloc hbase _).grown hg.grown (by simp;omega) hown.from_)
theorem rV (hgd:o.guard=none) (s x:Operand) (t tx:TypeId)
  (ho:o.op=.call { callee:=.builtin .append,args:=#[s,x],argTypes:=#[t,tx] })
  (base:Nat) (e:TypeId) (fs:List Ty) (bytes:Nat) (hi:cN P e fs.length bytes) (ht:P.underlying t=some (.slice e)) (htx:∃ e',P.underlying tx=some (.slice e')) (hf:0 < fs.length) (he:Ty.hasAny e fs=false)
  (v:Value) (n:Nat) (hs:a.eval s=v) (hown:aJ w base e fs v n)
  (N B:Nat) (e2:TypeId) (A:Option Addr) (m c:Nat) (hx:a.eval x=.slice A m c) (hv:V w B (.sl N e2 fs) (.slice A m c)) (hB:B<=w.heap.size)
  (h63:n+m<=maxLen) (hbytes:(n+m)*bytes<=140737488355328) (hbase:base<=w.heap.size)
  (h:∀ A' c' w',aJ w' base e fs (.slice A' (n+m) c') (n+m)->aR w w' v (.slice A' (n+m) c')->Below base w w'->wpList P ops Q rest (a.put o.dst (.slice A' (n+m) c')) w'):wpList P ops Q (o::rest) a w:=by
 obtain ⟨e',he'⟩:=htx;obtain ⟨xs,hsrc,hT⟩:=hv.src (P:=P) hB he' hf;refine mR hgd s x t tx ho base e fs bytes hi ht hf he v n hs hown _ m xs hx hsrc hT h63 hbytes hbase fun v' w' hown' hg=>?_;obtain ⟨A',c',rfl,-,-⟩:=hown'.form;exact h A' c' w' hown' hg ((Below.refl base w).grown hg.grown hbase hown.from_)
theorem wG (hgd:o.guard=none) (s x:Operand) (t tx:TypeId)
  (ho:o.op=.call { callee:=.builtin .append,args:=#[s,x],argTypes:=#[t,tx] })
  (base:Nat) (e:TypeId) (fs:List Ty) (bytes:Nat) (hi:cN P e fs.length bytes) (ht:P.underlying t=some (.slice e)) (htx:∃ e',P.underlying tx=some (.slice e')) (hf:0 < fs.length) (he:Ty.hasAny e fs=false)
  (v:Value) (n:Nat) (hs:a.eval s=v) (hown:aJ w0 base e fs v n)
  (te:TypeId) (vals:List Value) (m c:Nat) (hw:w=w0.alloc (.cells vals.toArray te)) (hx:a.eval x=.slice (some ⟨w0.heap.size,0,none⟩) m c) (hl:vals.length=m*fs.length) (hT:Ts w0 w0.heap.size fs vals)
  (h63:n+m<=maxLen) (hbytes:(n+m)*bytes<=140737488355328) (hbase:base<=w0.heap.size)
  (h:∀ A' c' w',aJ w' base e fs (.slice A' (n+m) c') (n+m)->aR w w' v (.slice A' (n+m) c')->Below base w0 w'->K (a.put o.dst (.slice A' (n+m) c')) w'):
  if Region.wanted o (yielded ops a.tmps)=true then Oper.wp P o a w K Q else E:=by
 obtain ⟨e',he'⟩:=htx;subst hw;refine qO hgd s x t tx ho base e fs bytes hi ht hf he v n hs (hown.alloc _) _ m vals hx (bR (P:=P) w0 he' vals fs.length m c te hl (hT.one hf)) (hT.up ((Below.refl _ w0).alloc (Nat.le_refl _) _)) h63 hbytes (by simp;omega) fun v' w' hown' hg=>?_;obtain ⟨A',c',rfl,-,-⟩:=hown'.form;exact h A' c' w' hown' hg (((Below.refl base w0).alloc hbase _).grown hg.grown (by simp;omega) hown.from_)
theorem fV (hgd:o.guard=none) (s x:Operand) (t tx:TypeId)
  (ho:o.op=.call { callee:=.builtin .append,args:=#[s,x],argTypes:=#[t,tx] })
  (base:Nat) (e:TypeId) (fs:List Ty) (bytes:Nat) (hi:cN P e fs.length bytes) (ht:P.underlying t=some (.slice e)) (htx:∃ e',P.underlying tx=some (.slice e')) (hf:0 < fs.length) (he:Ty.hasAny e fs=false)
  (v:Value) (n:Nat) (hs:a.eval s=v) (hown:aJ w base e fs v n)
  (N B:Nat) (e2:TypeId) (A:Option Addr) (m c:Nat) (hx:a.eval x=.slice A m c) (hv:V w B (.sl N e2 fs) (.slice A m c)) (hB:B<=w.heap.size)
  (h63:n+m<=maxLen) (hbytes:(n+m)*bytes<=140737488355328) (hbase:base<=w.heap.size)
  (h:∀ A' c' w',aJ w' base e fs (.slice A' (n+m) c') (n+m)->aR w w' v (.slice A' (n+m) c')->Below base w w'->K (a.put o.dst (.slice A' (n+m) c')) w'):
  if Region.wanted o (yielded ops a.tmps)=true then Oper.wp P o a w K Q else E:=by
 obtain ⟨e',he'⟩:=htx;obtain ⟨xs,hsrc,hT⟩:=hv.src (P:=P) hB he' hf;refine qO hgd s x t tx ho base e fs bytes hi ht hf he v n hs hown _ m xs hx hsrc hT h63 hbytes hbase fun v' w' hown' hg=>?_;obtain ⟨A',c',rfl,-,-⟩:=hown'.form;exact h A' c' w' hown' hg ((Below.refl base w).grown hg.grown hbase hown.from_)
end
theorem bK (h:Below w.heap.size w W) (o:Obj):Below w.heap.size w (W.alloc o):=h.alloc h.size o
theorem cC (h:Below w.heap.size w W):Below w.heap.size w W.drew:=⟨h.os,h.tape,h.output,h.size,h.block⟩
theorem lE (h:Below w.heap.size w W) (k:Nat):Below w.heap.size w (W.drewN k):=⟨h.os,h.tape,h.output,h.size,h.block⟩
theorem DJ (h:Below w.heap.size w W) {p:Addr} (hp:w.heap.size<=p.block) (u:Value):Below w.heap.size w (W.setCell p u):=h.setCell hp u
theorem aB {W':World} (h:Below w.heap.size w W) (h':Below W.heap.size W W'):Below w.heap.size w W':=h.trans (h'.mono h.size)
def aV (w:World) (Q:World->Value->Prop) (e:Ending) (w':World):Prop:=Below w.heap.size w w'/\∃ v,e=.returned v/\Q w' v
def jC (w:World) (v:Value):Prop:=∃ z,v=.int .i64 z/\aO z
def dP (w:World) (v:Value):Prop:=∃ b,v=.bool b
structure EK (P:Program) (e t tx:TypeId) (fs:List Ty) (bytes:Nat):Prop where
 hi:cN P e fs.length bytes
 ht:P.underlying t=some (.slice e)
 hx:∃ e',P.underlying tx=some (.slice e')
 hf:0 < fs.length
 he:Ty.hasAny e fs=false
 hb:0 < bytes
theorem Eg {a b:Nat} (h:0 < b) (h1:a*b<=140737488355328):a<=maxLen:=by
 have:=Nat.mul_le_mul_left a h;unfold maxLen;omega
theorem p1 {P:Program} {w w0:World} {e t tx:TypeId} {fs:List Ty} {bytes:Nat} {ops:Array Oper} {rest:List Oper} {o:Oper} {a:Act} {Q:Exit->Act->World->Prop} {s x:Operand} (k:EK P e t tx fs bytes) (hgd:o.guard=none) (ho:o.op=.call { callee:=.builtin .append,args:=#[s,x],argTypes:=#[t,tx] }) (base:Nat) (v:Value) (n:Nat) (hs:a.eval s=v) (hown:aJ w0 base e fs v n) (te:TypeId) (vals:List Value) (m c:Nat) (hw:w=w0.alloc (.cells vals.toArray te)) (hx:a.eval x=.slice (some ⟨w0.heap.size,0,none⟩) m c) (hl:vals.length=m*fs.length) (hT:Ts w0 w0.heap.size fs vals) (hbytes:(n+m)*bytes<=140737488355328) (hbase:base<=w0.heap.size) (h:∀ A' c' w',aJ w' base e fs (.slice A' (n+m) c') (n+m)->aR w w' v (.slice A' (n+m) c')->Below base w0 w'->wpList P ops Q rest (a.put o.dst (.slice A' (n+m) c')) w'):wpList P ops Q (o::rest) a w:=
 hJ hgd s x t tx ho base e fs bytes k.hi k.ht k.hx k.hf k.he v n hs hown te vals m c hw hx hl hT (Eg k.hb hbytes) hbytes hbase h
theorem pV {P:Program} {w:World} {e t tx:TypeId} {fs:List Ty} {bytes:Nat} {ops:Array Oper} {rest:List Oper} {o:Oper} {a:Act} {Q:Exit->Act->World->Prop} {s x:Operand} (k:EK P e t tx fs bytes) (hgd:o.guard=none) (ho:o.op=.call { callee:=.builtin .append,args:=#[s,x],argTypes:=#[t,tx] }) (base:Nat) (v:Value) (n:Nat) (hs:a.eval s=v) (hown:aJ w base e fs v n) (N B:Nat) (e2:TypeId) (A:Option Addr) (m c:Nat) (hx:a.eval x=.slice A m c) (hv:V w B (.sl N e2 fs) (.slice A m c)) (hB:B<=w.heap.size) (hbytes:(n+m)*bytes<=140737488355328) (hbase:base<=w.heap.size) (h:∀ A' c' w',aJ w' base e fs (.slice A' (n+m) c') (n+m)->aR w w' v (.slice A' (n+m) c')->Below base w w'->wpList P ops Q rest (a.put o.dst (.slice A' (n+m) c')) w'):wpList P ops Q (o::rest) a w:=
 rV hgd s x t tx ho base e fs bytes k.hi k.ht k.hx k.hf k.he v n hs hown N B e2 A m c hx hv hB (Eg k.hb hbytes) hbytes hbase h
theorem s1 {P:Program} {w w0:World} {e t tx:TypeId} {fs:List Ty} {bytes:Nat} {ops:Array Oper} {o:Oper} {a:Act} {Q:Exit->Act->World->Prop} {s x:Operand} {K:Act->World->Prop} {E:Prop} (k:EK P e t tx fs bytes) (hgd:o.guard=none) (ho:o.op=.call { callee:=.builtin .append,args:=#[s,x],argTypes:=#[t,tx] }) (base:Nat) (v:Value) (n:Nat) (hs:a.eval s=v) (hown:aJ w0 base e fs v n) (te:TypeId) (vals:List Value) (m c:Nat) (hw:w=w0.alloc (.cells vals.toArray te)) (hx:a.eval x=.slice (some ⟨w0.heap.size,0,none⟩) m c) (hl:vals.length=m*fs.length) (hT:Ts w0 w0.heap.size fs vals) (hbytes:(n+m)*bytes<=140737488355328) (hbase:base<=w0.heap.size) (h:∀ A' c' w',aJ w' base e fs (.slice A' (n+m) c') (n+m)->aR w w' v (.slice A' (n+m) c')->Below base w0 w'->K (a.put o.dst (.slice A' (n+m) c')) w'):if Region.wanted o (yielded ops a.tmps)=true then Oper.wp P o a w K Q else E:=
 wG hgd s x t tx ho base e fs bytes k.hi k.ht k.hx k.hf k.he v n hs hown te vals m c hw hx hl hT (Eg k.hb hbytes) hbytes hbase h
theorem rR {P:Program} {fn:Func} {R:Ending->World->Prop} {a:Act} {w:World} {p:Tmp} {ty:TypeId} {g:Nat} {t:TypeId} {cs:Array Value} {d:TypeDesc} (hb:aK w g t cs) (hu:P.underlying ty=some d) (h:fn.results=#[.cell p ty]) (hp:a.tmps.getD p undef=.pointer (some ⟨g,0,none⟩)) (hd:(match d with | .struct _ | .array _ _=>true | _=>false)=true) (hf:a.defers=[]) (hi:(P.info? ty).map (·.size)=some cs.size) (hR:R (.returned (.agg cs)) w):bodyPost P fn R .ret a w:=
 bodyPost_ret (results_cell_row h a.tmps w g t cs (0,0) d hp hb hu hd hi) hf hR
end
end Go.Proofs.YtkgpoimmniojjaaGreat
