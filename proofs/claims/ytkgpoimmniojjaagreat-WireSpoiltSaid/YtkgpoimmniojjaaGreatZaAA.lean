/- No condition. -/
import Derived.Below
import Derived.Laws.OwnMore
import Derived.Deep.AppendLies
import Derived.Deep.AppendSrc
import Derived.Deep.Draws
import Derived.Deep.OwnRows
import Derived.Laws.Rows
import Derived.Laws.MakeOwn
import Derived.Maps.AppendAt
import Derived.RegionTactic
import Derived.OwnWalk
import Derived.Deep.QuietTactic
import Derived.Lib.Hide
import Derived.ChangeSame
import Derived.DataReads
import Derived.Laws.BitsAllLaws
import Derived.Laws.BitsLemmas
import Derived.Laws.IdiomStrings
import Derived.Lib.LazyBuf
namespace Go.Proofs.YtkgpoimmniojjaaGreat
set_option linter.unusedVariables false
set_option linter.unusedSimpArgs false
set_option maxRecDepth 100000
set_option maxHeartbeats 16000000
section
open Go.RowKit
variable {a w w':World} {n B base k g:Nat} {u x:Value} {xs:List Value} {e tx e':TypeId} {A:Option Addr} {p:Addr} {o:Oper} {Q:Exit->Act->World->Prop} {P:Program} {K:Act->World->Prop} {ops:Array Oper}
theorem bU (a:Addr) (n:Nat):(a.add n).block=a.block:=by unfold Addr.add;split <;> rfl
theorem lD (a:Addr) (i j:Nat):(a.add i).add j=a.add (i+j):=by
 unfold Addr.add;by_cases hi:i=0 <;> by_cases hj:j=0 <;> simp [hi,hj,Nat.add_assoc]
def aG (w:World) (B size:Nat) (A:Option Addr) (n:Nat) (xs:List Value):Prop:=
 xs.length=n*size/\(0 < n->∃ ad,A=some ad/\ad.block < B/\∀ j u,xs[j]?=some u->w.cell? (ad.add j)=some u)
section
variable {w w':World} {B B' size n:Nat} {A:Option Addr} {xs:List Value}
theorem aG.none_:aG w B size A 0 []:=⟨by simp,fun h=>absurd h (by omega)⟩
theorem aG.at_ (h:aG w B 1 A n xs) (hk:k < n):∃ ad u,A=some ad/\ad.block < B/\xs[k]?=some u/\w.cell? (ad.add k)=some u:=by
 obtain ⟨ad,e,hb,hc⟩:=h.2 (by omega);have hl:k < xs.length:=by have:=h.1;omega
 exact ⟨ad,xs[k],e,hb,List.getElem?_eq_getElem hl,hc k _ (List.getElem?_eq_getElem hl)⟩
theorem aG.keep (h:aG w B size A n xs) (hk:∀ p:Addr,p.block < B->w'.cell? p=w.cell? p):aG w' B size A n xs:=
 ⟨h.1,fun hn=>by
  obtain ⟨ad,e,hb,hc⟩:=h.2 hn;exact ⟨ad,e,hb,fun j u hu=>(hk _ (by rw [bU];exact hb)).trans (hc j u hu)⟩⟩
theorem aG.more (h:aG w B size A n xs) (hB:B<=B'):aG w B' size A n xs:=
 ⟨h.1,fun hn=>by
  obtain ⟨ad,e,hb,hc⟩:=h.2 hn;exact ⟨ad,e,by omega,hc⟩⟩
theorem aG.below (h:aG w B size A n xs) (hb:Below B w w'):aG w' B size A n xs:=h.keep fun _ hp=>hb.cell hp
theorem aG.drew (h:aG w B size A n xs):aG w.drew B size A n xs:=h
theorem aG.drewN (h:aG w B size A n xs) (k:Nat):aG (w.drewN k) B size A n xs:=h
theorem aG.alloc (h:aG w B size A n xs) (hB:B<=w.heap.size) (o:Obj):aG (w.alloc o) B size A n xs:=h.keep fun p hp=>World.cell?_alloc_lt w o p (by omega)
theorem aG.setCell (h:aG w B size A n xs) (hB:B<=p.block) (u:Value):aG (w.setCell p u) B size A n xs:=
 h.keep fun q hq=>World.cell?_setCell_other w p q u (fun e=>by subst e;omega)
theorem aG.grown (h:aG w B size A n xs) {row:Option Nat} (hg:w.grownBy w' row) (hB:B<=w.heap.size) (hr:∀ g,row=some g->B<=g):aG w' B size A n xs:=
 h.keep fun p hp=>World.cell?_of_block (hg.block p.block (by omega) (fun e=>by have:=hr _ e.symm;omega))
theorem aG.cut (h:aG w B size A n xs) {cap:Nat} (hk:k<=n) (hc:n<=cap):
  aG w B size (if cap=k then A else A.map (·.add (k*size))) (n - k) (xs.drop (k*size)):=by
 refine ⟨by rw [List.length_drop,h.1,Nat.sub_mul],fun hn=>?_⟩;obtain ⟨ad,rfl,hb,hcell⟩:=h.2 (by omega);rw [if_neg (by omega)];refine ⟨ad.add (k*size),rfl,by rw [bU];exact hb,fun j u hu=>?_⟩;rw [lD];exact hcell _ u (by rw [<- hu,List.getElem?_drop])
theorem aG.of_own {c:Nat} (h:w.ownsRow base e size (.slice A n c) n xs):aG w w.heap.size size A n xs:=by
 refine ⟨h.1,fun hn=>?_⟩;obtain ⟨g,cap,hv,_,hlt⟩:=h.form hn;have hA:A=some ⟨g,0,none⟩:=by injection hv
 subst hA;exact ⟨_,rfl,hlt,h.cells (g:=g) rfl⟩
end
def aK (w:World) (g:Nat) (t:TypeId) (cs:Array Value):Prop:=w.heap[g]?=some (.cells cs t (0,0))
section
variable {w w':World} {g:Nat} {t:TypeId} {cs:Array Value}
theorem aK.lt (h:aK w g t cs):g < w.heap.size:=by
 rcases Nat.lt_or_ge g w.heap.size with hlt | hge
 ·exact hlt
 ·unfold aK at h;rw [Array.getElem?_eq_none hge] at h;cases h
theorem aK.cell (h:aK w g t cs) (i:Nat):w.cell? ⟨g,i,none⟩=cs[i]?:=cell_of_row w g i cs t (0,0) h
theorem aK.frozen (h:aK w g t cs) (i:Nat):w.frozen? ⟨g,i,none⟩=false:=by
 unfold aK at h;simp [World.frozen?,h]
theorem aK.new (w:World) (t:TypeId) (cs:Array Value):aK (w.alloc (.cells cs t)) w.heap.size t cs:=heap_alloc_new w _
theorem aK.drew (h:aK w g t cs):aK w.drew g t cs:=h
theorem aK.drewN (h:aK w g t cs) (n:Nat):aK (w.drewN n) g t cs:=h
theorem aK.alloc (h:aK w g t cs) (o:Obj):aK (w.alloc o) g t cs:=(Below.heap_alloc w o g h.lt).trans h
theorem aK.set_ (h:aK w g t cs) (i:Nat) (u:Value):aK (w.setCell ⟨g,i,none⟩ u) g t (cs.setIfInBounds i u):=by
 unfold aK at h ⊢;simp [World.setCell,Array.getElem?_modify,h]
theorem aK.far (h:aK w g t cs) (hp:g≠p.block) (u:Value):aK (w.setCell p u) g t cs:=(Below.heap_setCell w p u g hp).trans h
theorem aK.below (h:aK w g t cs) (hb:Below B w w') (hg:g < B):aK w' g t cs:=(hb.block g hg).trans h
theorem aK.grown {row:Option Nat} (h:aK w g t cs) (hb:w.grownBy w' row) (hg:some g≠row):aK w' g t cs:=(hb.block g h.lt hg).trans h
theorem aK.ne_ {g':Nat} {t':TypeId} {cs':Array Value} (h:aK w g t cs) (h':aK w g' t' cs') (hne:t≠t'):g≠g':=by
 rintro rfl;unfold aK at h h';rw [h] at h';injection h' with h';injection h' with _ ht;exact hne ht
theorem aX {size:Nat} {v:Value} (h:w.ownsRow base e size v n xs) (hg:aK w g t cs) (hne:e≠t):v.ownBlock≠some g:=by
 rcases h.2 with ⟨rfl,_⟩ | ⟨g',cap,cur,rfl,_,hh,_⟩
 ·simp [Value.ownBlock]
 ·intro he;have:g'=g:=by simpa [Value.ownBlock] using he
  subst this;exact aK.ne_ (t:=e) hh hg hne rfl
end
theorem eU {f:FuncId} {args:Array Value} {v:Value}
  (h:Calls P f args (w.drewN n) fun e w'=>e=.returned v/\w.drewN n=w'):Calls P f args (w.drewN n) fun e w''=>e=.returned v/\∃ m,w''=w.drewN m:=
 h.mono fun _ _ ⟨he,hm⟩=>⟨he,n,hm.symm⟩
theorem aN (h:Below B a w) (n:Nat):Below B a (w.drewN n):=⟨h.os,h.tape,h.output,h.size,h.block⟩
theorem bS {row:Option Nat} (h:a.grownBy w row) (n:Nat):a.grownBy (w.drewN n) row:=⟨h.os,h.tape,h.output,h.size,h.block⟩
theorem eW {row:Option Nat} (h:a.grownBy w row) (o:Obj):a.grownBy (w.alloc o) row:=
 ⟨h.os,h.tape,h.output,Nat.le_trans h.size (by simp),fun i hi hne=>(Below.heap_alloc w o i (Nat.lt_of_lt_of_le hi h.size)).trans (h.block i hi hne)⟩
theorem aW (h:a.grownBy w (some g)) (hp:p.block=g\/a.heap.size<=p.block) (u:Value):a.grownBy (w.setCell p u) (some g):=
 ⟨h.os,h.tape,h.output,by simpa [World.setCell] using h.size,fun i hi hne=>(Below.heap_setCell w p u i (by
  rintro rfl;rcases hp with hp | hp
  ·exact hne (by rw [hp])
  ·omega)).trans (h.block i hi hne)⟩
theorem kG (h:Below a.heap.size a w) (row:Option Nat):a.grownBy w row:=⟨h.os,h.tape,h.output,h.size,fun i hi _=>h.block i hi⟩
theorem aG.head {size:Nat} (h:aG w B size A n xs) (hn:0 < n) (hs:0 < size):
  ∃ b off,A=some ⟨b,off,none⟩/\b < B/\∀ j u,xs[j]?=some u->w.cell? ⟨b,off+j,none⟩=some u:=by
 obtain ⟨ad,rfl,hb,hc⟩:=h.2 hn;have hl:0 < xs.length:=by rw [h.1];exact Nat.mul_pos hn hs
 have h0:=hc 0 _ (List.getElem?_eq_getElem hl);have hsp:ad.spot=none:=by have:=World.cell?_spot h0;simpa [Addr.add] using this
 obtain ⟨b,off,spot⟩:=ad;obtain rfl:spot=none:=hsp;exact ⟨b,off,rfl,hb,fun j u hu=>by have:=hc j u hu;rwa [Addr.add_lit] at this⟩
theorem aG.at1 (h:aG w B 1 A n xs) (hk:k < n):
  ∃ b off u,A=some ⟨b,off,none⟩/\b < B/\xs[k]?=some u/\w.cell? ⟨b,off+k,none⟩=some u:=by
 obtain ⟨b,off,e,hb,hc⟩:=h.head (by omega) (by omega);have hl:k < xs.length:=by have:=h.1;omega
 exact ⟨b,off,xs[k],e,hb,List.getElem?_eq_getElem hl,hc k _ (List.getElem?_eq_getElem hl)⟩
structure aR (w w':World) (v v':Value):Prop where
 grown:w.grownBy w' v.ownBlock
 own:∀ g,v'.ownBlock=some g->v.ownBlock=some g\/w.heap.size<=g
theorem aR.refl (w:World) (v:Value):aR w w v v:=⟨World.grownBy.refl w _,fun _ h=>.inl h⟩
theorem aR.trans {b c:World} {v:Value} (h:aR a b u v) (k:aR b c v x):aR a c u x:=by
 refine ⟨⟨k.grown.os.trans h.grown.os,k.grown.tape.trans h.grown.tape,k.grown.output.trans h.grown.output,Nat.le_trans h.grown.size k.grown.size,fun i hi hne=>?_⟩,fun g hg=>?_⟩
 ·refine (k.grown.block i (Nat.lt_of_lt_of_le hi h.grown.size) (fun e=>?_)).trans (h.grown.block i hi hne);rcases h.own i e.symm with h1 | h1
  ·exact hne h1.symm
  ·omega
 ·rcases k.own g hg with h1 | h1
  ·exact h.own g h1
  ·have:=h.grown.size;exact .inr (by omega)
theorem aR.alloc {b:World} {v:Value} (h:aR a b u v) (o:Obj):aR a (b.alloc o) u v:=
 ⟨⟨h.grown.os,h.grown.tape,h.grown.output,Nat.le_trans h.grown.size (by simp),fun i hi hne=>(Below.heap_alloc b o i (Nat.lt_of_lt_of_le hi h.grown.size)).trans (h.grown.block i hi hne)⟩,h.own⟩
theorem aR.drewN {b:World} {v:Value} (h:aR a b u v) (n:Nat):aR a (b.drewN n) u v:=
 ⟨⟨h.grown.os,h.grown.tape,h.grown.output,h.grown.size,h.grown.block⟩,h.own⟩
theorem aR.drew {b:World} {v:Value} (h:aR a b u v):aR a b.drew u v:=
 ⟨⟨h.grown.os,h.grown.tape,h.grown.output,h.grown.size,h.grown.block⟩,h.own⟩
theorem aR.of_below {b:World} (u:Value) (h:Below a.heap.size a b):aR a b u u:=
 ⟨⟨h.os,h.tape,h.output,h.size,fun i hi _=>h.block i hi⟩,fun _ hg=>.inl hg⟩
theorem aR.below {b:World} {v:Value} (h:aR a b u v) (hB:B<=a.heap.size) (hu:∀ g,u.ownBlock=some g->B<=g):Below B a b:=
 (Below.refl B a).grown h.grown hB hu
theorem aR.below_new {b:World} {v:Value} (h:aR a b (.slice none 0 0) v):Below a.heap.size a b:=
 h.below (Nat.le_refl _) (fun g hg=>by simp [Value.ownBlock] at hg)
theorem aR.size {b:World} {v:Value} (h:aR a b u v):a.heap.size<=b.heap.size:=h.grown.size
theorem aR.cell {b:World} {v:Value} (h:aR a b u v) (hc:a.cell? p=some x) (hne:u.ownBlock≠some p.block):b.cell? p=some x:=
 h.grown.cell hc (fun e=>hne e.symm)
theorem aR.reads {b:World} {v:Value} {size:Nat} (h:aR a b u v) (hr:aG a B size A n xs) (hB:B<=a.heap.size) (hu:∀ g,u.ownBlock=some g->B<=g):aG b B size A n xs:=
 hr.grown h.grown hB hu
theorem aR.blk {b:World} {v:Value} {t:TypeId} {cs:Array Value} (h:aR a b u v) (hb:aK a g t cs) (hne:u.ownBlock≠some g):aK b g t cs:=
 hb.grown h.grown (fun e=>hne e.symm)
theorem sF {base':Nat} {size:Nat} {v:Value} (h:w.ownsRow base e size v n xs) (hg:∀ g,v.ownBlock=some g->base'<=g):w.ownsRow base' e size v n xs:=by
 refine ⟨h.1,?_⟩;rcases h.2 with h0 | ⟨g,cap,cur,rfl,_,rest⟩
 ·exact .inl h0
 ·exact .inr ⟨g,cap,cur,rfl,hg g rfl,rest⟩
theorem eV {size:Nat} {v:Value} (h:w.ownsRow base e size v n xs) (hb:Below B w w') (hg:∀ g,v.ownBlock=some g->g < B):w'.ownsRow base e size v n xs:=by
 refine ⟨h.1,?_⟩;rcases h.2 with h0 | ⟨g,cap,cur,rfl,hbase,hh,rest⟩
 ·exact .inl h0
 ·exact .inr ⟨g,cap,cur,rfl,hbase,(hb.block g (hg g rfl)).trans hh,rest⟩
theorem oK {size:Nat} {v u':Value} (h:w.ownsRow base e size v n xs) (hg:aR w w' u u') (hne:v.ownBlock=none\/v.ownBlock≠u.ownBlock):w'.ownsRow base e size v n xs:=
 h.kept hg.grown hne
section
variable {P:Program} (w:World)
theorem iT (base:Nat) (t tx ty e:TypeId) (i:TypeInfo) (z:Value) (size bytes:Nat) (ht:P.underlying t=some (.slice e)) (hi:P.info? e=some i) (hz:i.zero=some z)
  (hsize:i.size=size) (hby:i.bytes=bytes) (hzs:z.cells.size=size) (hsz:0 < size)
  (v:Value) (n:Nat) (xs:List Value) (hown:w.ownsRow base e size v n xs)
  (x:Value) (m:Nat) (news:List Value) (hs:Src P size tx x m news w)
  (h63:n+m<=maxLen) (hbytes:(n+m)*bytes<=140737488355328) (hbase:base<=w.heap.size):
  ∃ v' w',(Builtin.append_ #[t,tx] ty #[v,x]).run P w=.ok v' w'/\w'.ownsRow base e size v' (n+m) (xs++news)/\aR w w' v v':=by
 subst hsize;subst hby
 have hl:=hs.newsLen;have hlen:(xs++news).length=(n+m)*i.size:=by rw [List.length_append,hown.1,hl,Nat.add_mul]
 by_cases hm:m=0
 ·subst hm;have hn:news=[]:=List.eq_nil_of_length_eq_zero (by simpa using hl);subst hn;refine ⟨v,w,?_,by simpa using hown,aR.refl w v⟩;rcases hown.2 with ⟨rfl,rfl⟩ | ⟨g,cap,cur,rfl,_,_,hnc,_⟩
  ·rcases hs.kind with ⟨e',hk⟩ | hk <;> simp [Builtin.append_,run_underlying ht,run_underlying hk,sizeOf,typeInfo,hi,hs.len,hs.cells]
  ·rcases hs.kind with ⟨e',hk⟩ | hk <;> simp [Builtin.append_,run_underlying ht,run_underlying hk,sizeOf,typeInfo,hi,hs.len,hs.cells,hnc,storeCells]
 have grows:∀ (ao:Option Addr) (cap:Nat) (hv:v=.slice ao n cap) (hold:(Builtin.firstCells i.size n (.slice ao n cap)).run P w.drew=.ok xs.toArray w.drew) (hg:cap < n+m),
   ∃ v' w',(Builtin.append_ #[t,tx] ty #[v,x]).run P w=.ok v' w'/\w'.ownsRow base e i.size v' (n+m) (xs++news)/\aR w w' v v':=by
  intro ao cap hv hold hg;subst hv;have hge:=grownCap_ge w (n+m) cap e;have hcm:grownCap w (n+m) cap e<=maxLen:=grownCap_le_maxLen w (n+m) cap e h63;have hr:=run_append_grow_src (P:=P) w t tx ty e i z ht hi hz ao n cap xs hold x m news hs hg (by simp only [maxLen] at h63;omega) (growslice_fits hg hbytes);refine ⟨_,_,hr,⟨hlen,.inr ⟨w.heap.size,_,_,rfl,hbase,heap_alloc_new w.drew _,hge,hcm,?_,?_⟩⟩,⟨⟨rfl,rfl,rfl,by simp,fun k hk _=>by first | exact heap_alloc_old w.drew _ k hk | exact heap_alloc_old w.drew _ hk⟩,fun g hg=>.inr ?_⟩⟩
  ·simp only [Array.size_append,List.size_toArray,size_zeroCells,hzs];rw [hlen,<- Nat.add_mul]
   congr 1
   omega
  ·simp only [Array.toList_append,<- hlen];exact List.take_left
  ·have:w.heap.size=g:=by simpa [Value.ownBlock] using hg
   omega
 rcases hown.2 with ⟨rfl,rfl⟩ | ⟨g,cap,cur,rfl,hbg,hg,hnc,hcm,hcs,htake⟩
 ·have hx:xs=[]:=List.eq_nil_of_length_eq_zero (by simpa using hown.1);subst hx;exact grows none 0 rfl (run_firstCells_none w.drew i.size 0 0 0) (by omega)
 ·by_cases hroom:n+m<=cap
  ·have hfit:n*i.size+news.length<=cur.size:=by rw [hl,hcs,<- Nat.add_mul];exact Nat.mul_le_mul_right _ hroom
   have hcell:∀ j,j < news.length->(w.cell? ⟨g,0+n*i.size+j,none⟩).isSome=true:=fun j hj=>by
    rw [cell_of_row w g (0+n*i.size+j) cur e (0,0) hg];rw [Array.getElem?_eq_getElem (by omega)];rfl
   have hfr:∀ j,j < news.length->w.frozen? ⟨g,0+n*i.size+j,none⟩=false:=fun j hj=>by
    simp [World.frozen?,hg]
   have hst0:=run_storeCells_at P g (n*i.size) e news 0 cur w hg (by simpa using hfit) hs.one;have hst:(storeCells ⟨g,n*i.size,none⟩ news).run P w=.ok () (w.setRow g (cur.toList.take (n*i.size)++news++cur.toList.drop (n*i.size+news.length)).toArray):=by simpa using hst0
   have hr:(Builtin.append_ #[t,tx] ty #[.slice (some ⟨g,0,none⟩) n cap,x]).run P w=.ok (.slice (some ⟨g,0,none⟩) (n+m) cap) (w.setRow g (cur.toList.take (n*i.size)++news++cur.toList.drop (n*i.size+news.length)).toArray):=by
    rcases hs.kind with ⟨e',hk⟩ | hk <;> simp [Builtin.append_,run_underlying ht,run_underlying hk,sizeOf,typeInfo,hi,hs.len,hroom,hs.cells,Addr.add_lit,hst]
   refine ⟨_,_,hr,⟨hlen,.inr ⟨g,cap,_,rfl,hbg,setRow_heap w g cur _ e _ hg,hroom,hcm,?_,?_⟩⟩,⟨⟨rfl,rfl,rfl,by simp,fun k _ hk=>setRow_other w g k _ (fun e=>hk (by simp [Value.ownBlock,e]))⟩,fun g' h'=>.inl h'⟩⟩
   ·simp only [List.size_toArray,List.length_append,List.length_take,List.length_drop,Array.length_toList];omega
   ·rw [htake,<- hlen];exact List.take_left
  ·have holds:∀ j u,xs[j]?=some u->w.drew.cell? ((⟨g,0,none⟩:Addr).add j)=some u:=hown.cells (g:=g) rfl;exact grows _ cap rfl (run_firstCells_some w.drew i.size n ⟨g,0,none⟩ n cap xs hown.1 holds) (by omega)
theorem jW {a:Act} (s x:Operand) (t tx:TypeId)
  (ho:o.op=.call { callee:=.builtin .append,args:=#[s,x],argTypes:=#[t,tx] })
  (base:Nat) (e:TypeId) (i:TypeInfo) (z:Value) (size bytes:Nat) (ht:P.underlying t=some (.slice e)) (hi:P.info? e=some i) (hz:i.zero=some z)
  (hsize:i.size=size) (hby:i.bytes=bytes) (hzs:z.cells.size=size) (hsz:0 < size)
  (v:Value) (n:Nat) (xs:List Value) (hs:a.eval s=v) (hown:w.ownsRow base e size v n xs)
  (y:Value) (m:Nat) (news:List Value) (hx:a.eval x=y) (hr:Src P size tx y m news w)
  (h63:n+m<=maxLen) (hbytes:(n+m)*bytes<=140737488355328) (hbase:base<=w.heap.size)
  (h:∀ v' w',w'.ownsRow base e size v' (n+m) (xs++news)->aR w w' v v'->K (a.put o.dst v') w'):o.wp P a w K Q:=by
 obtain ⟨v',w',hrun,h2,h3⟩:=iT (P:=P) w base t tx o.type e i z size bytes ht hi hz hsize hby hzs hsz v n xs hown y m news hr h63 hbytes hbase;unfold Oper.wp execOp;simp only [ho,resolve,invoke,builtin,Sem.run_bind,Sem.run_pure,Result.andThen_ok,List.map_toArray,List.map_cons,List.map_nil,hs,hx,hrun];exact h v' w' h2 h3
theorem aF {rest:List Oper} {a:Act} (hgd:o.guard=none) (s x:Operand) (t tx:TypeId)
  (ho:o.op=.call { callee:=.builtin .append,args:=#[s,x],argTypes:=#[t,tx] })
  (base:Nat) (e:TypeId) (i:TypeInfo) (z:Value) (size bytes:Nat) (ht:P.underlying t=some (.slice e)) (hi:P.info? e=some i) (hz:i.zero=some z)
  (hsize:i.size=size) (hby:i.bytes=bytes) (hzs:z.cells.size=size) (hsz:0 < size)
  (v:Value) (n:Nat) (xs:List Value) (hs:a.eval s=v) (hown:w.ownsRow base e size v n xs)
  (y:Value) (m:Nat) (news:List Value) (hx:a.eval x=y) (hr:Src P size tx y m news w)
  (h63:n+m<=maxLen) (hbytes:(n+m)*bytes<=140737488355328) (hbase:base<=w.heap.size)
  (h:∀ v' w',w'.ownsRow base e size v' (n+m) (xs++news)->aR w w' v v'->wpList P ops Q rest (a.put o.dst v') w'):wpList P ops Q (o::rest) a w:=
 wpList_plain hgd fun _ hK=>jW w s x t tx ho base e i z size bytes ht hi hz hsize hby hzs hsz v n xs hs hown y m news hx hr h63 hbytes hbase fun v' w' h2 h3=>hK _ _ (h v' w' h2 h3)
theorem dE {a:Act} {E:Prop} (hgd:o.guard=none) (s x:Operand) (t tx:TypeId)
  (ho:o.op=.call { callee:=.builtin .append,args:=#[s,x],argTypes:=#[t,tx] })
  (base:Nat) (e:TypeId) (i:TypeInfo) (z:Value) (size bytes:Nat) (ht:P.underlying t=some (.slice e)) (hi:P.info? e=some i) (hz:i.zero=some z)
  (hsize:i.size=size) (hby:i.bytes=bytes) (hzs:z.cells.size=size) (hsz:0 < size)
  (v:Value) (n:Nat) (xs:List Value) (hs:a.eval s=v) (hown:w.ownsRow base e size v n xs)
  (y:Value) (m:Nat) (news:List Value) (hx:a.eval x=y) (hr:Src P size tx y m news w)
  (h63:n+m<=maxLen) (hbytes:(n+m)*bytes<=140737488355328) (hbase:base<=w.heap.size)
  (h:∀ v' w',w'.ownsRow base e size v' (n+m) (xs++news)->aR w w' v v'->K (a.put o.dst v') w'):
  if Region.wanted o (yielded ops a.tmps)=true then Oper.wp P o a w K Q else E:=by
 have hw:Region.wanted o (yielded ops a.tmps)=true:=by simp [Region.wanted,hgd]
 rw [if_pos hw];exact jW w s x t tx ho base e i z size bytes ht hi hz hsize hby hzs hsz v n xs hs hown y m news hx hr h63 hbytes hbase h
theorem bR (hk:P.underlying tx=some (.slice e')) (vals:List Value) (size m c:Nat) (te:TypeId) (hl:vals.length=m*size) (h1:∀ u∈vals,u.oneCell'=true):
  Src P size tx (.slice (some ⟨w.heap.size,0,none⟩) m c) m vals (w.alloc (.cells vals.toArray te)):=
 Src.ofSlice _ hk _ m c vals hl (fun j u hu=>by
  have hb:(w.alloc (.cells vals.toArray te)).heap[w.heap.size]?=some (.cells vals.toArray te (0,0)):=heap_alloc_new w _;have hadd:(⟨w.heap.size,0,none⟩:Addr).add j=⟨w.heap.size,j,none⟩:=by unfold Addr.add;split <;> simp_all
  rw [hadd,cell_of_row _ _ j _ te (0,0) hb];simpa using hu) h1
theorem cQ (hk:P.underlying tx=some (.slice e')) {size:Nat} (c:Nat) (h:aG w B size A n xs) (h1:∀ u∈xs,u.oneCell'=true):
  Src P size tx (.slice A n c) n xs w:=by
 rcases Nat.eq_zero_or_pos n with h0 | h0
 ·subst h0;obtain rfl:xs=[]:=List.eq_nil_of_length_eq_zero (by simpa using h.1);rcases A with _ | ad
  ·exact Src.ofNil w hk c
  ·exact Src.ofSlice w hk ad 0 c [] (by simp) (fun j u hu=>by simp at hu) (fun _ h=>by cases h)
 ·obtain ⟨ad,rfl,_,hc⟩:=h.2 h0;exact Src.ofSlice w hk ad n c xs h.1 hc h1
end
def dZ (x:Nat):Value:=.int .u8 (x:Int)
theorem sV (bs:List Nat):∀ u∈bs.map dZ,u.oneCell'=true:=fun u hu=>by
 obtain ⟨_,_,rfl⟩:=List.mem_map.1 hu;rfl
def str (bs:List Nat):ByteArray:=⟨(bs.map UInt8.ofNat).toArray⟩
theorem fA (w:World) (src dst e:TypeId) (c:Nat) {bs:List Nat} (hs:P.underlying src=some (.slice e)) (he:P.underlying e=some (.int .u8)) (hd:P.underlying dst=some .string)
  (hr:aG w B 1 A n (bs.map dZ)) (hbs:∀ x∈bs,x < 256):(convert src dst (.slice A n c)).run P w=.ok (.string (str bs)) w:=by
 have hl:bs.length=n:=by have:=hr.1;simpa using this
 have key:∀ ad,A=some ad->(convert src dst (.slice A n c)).run P w=.ok (.string (str bs)) w:=by
  intro ad e1;subst e1;have h:=run_convert_bytes_back (P:=P) w src dst e ad c (bs.map UInt8.ofNat) hs he hd (fun j hj=>by
   have hj':j < bs.length:=by simpa using hj
   obtain ⟨ad',e2,_,hc⟩:=hr.2 (by omega);injection e2 with e2;subst e2;have h2:=hc j (dZ bs[j]) (by simp [List.getElem?_eq_getElem hj']);rw [h2];have hlt:bs[j] < 256:=hbs _ (List.getElem_mem _);simp only [List.getElem_map,dZ];rw [UInt8.toNat_ofNat_of_lt' hlt])
  rw [List.length_map,hl] at h;exact h
 rcases A with _ | ad
 ·have h0:n=0:=by
   rcases Nat.eq_zero_or_pos n with h | h
   ·exact h
   ·obtain ⟨_,h,_⟩:=hr.2 h;cases h
  subst h0;obtain rfl:bs=[]:=List.eq_nil_of_length_eq_zero hl;rw [run_convert_bytes_string w src dst e none 0 c hs he hd];rfl
 ·exact key ad rfl
theorem aS {size:Nat} {v:Value} (h:w.ownsRow base e size v n xs):∃ A c,v=.slice A n c/\aG w w.heap.size size A n xs/\(∀ a,A=some a->base<=a.block/\a.spot=none/\a.off=0):=by
 rcases h.2 with ⟨rfl,rfl⟩ | ⟨g,cap,cur,rfl,hbase,rest⟩
 ·exact ⟨none,0,rfl,⟨h.1,fun h=>absurd h (by omega)⟩,fun a ha=>by cases ha⟩
 ·exact ⟨_,cap,rfl,aG.of_own h,fun a ha=>by cases ha;exact ⟨hbase,rfl,rfl⟩⟩
theorem hD {p:Prop} (h:p):Hid p:=(Lib.hid) h
theorem aK.c1 {w:World} {g:Nat} {t:TypeId} {a:Value} (h:aK w g t #[a]):w.cell? ⟨g,0,none⟩=some a:=h.cell 0
theorem aK.c2 {w:World} {g:Nat} {t:TypeId} {a b:Value} (h:aK w g t #[a,b]):w.cell? ⟨g,0,none⟩=some a/\w.cell? ⟨g,1,none⟩=some b:=⟨h.cell 0,h.cell 1⟩
theorem aK.f2 {w:World} {g:Nat} {t:TypeId} {cs:Array Value} (h:aK w g t cs):w.frozen? ⟨g,0,none⟩=false/\w.frozen? ⟨g,1,none⟩=false:=⟨h.frozen 0,h.frozen 1⟩
theorem aK.c3 {w:World} {g:Nat} {t:TypeId} {a b c:Value} (h:aK w g t #[a,b,c]):w.cell? ⟨g,0,none⟩=some a/\w.cell? ⟨g,1,none⟩=some b/\w.cell? ⟨g,2,none⟩=some c:=⟨h.cell 0,h.cell 1,h.cell 2⟩
theorem aK.f3 {w:World} {g:Nat} {t:TypeId} {cs:Array Value} (h:aK w g t cs):w.frozen? ⟨g,0,none⟩=false/\w.frozen? ⟨g,1,none⟩=false/\w.frozen? ⟨g,2,none⟩=false:=⟨h.frozen 0,h.frozen 1,h.frozen 2⟩
theorem aK.c4 {w:World} {g:Nat} {t:TypeId} {a b c d:Value} (h:aK w g t #[a,b,c,d]):w.cell? ⟨g,0,none⟩=some a/\w.cell? ⟨g,1,none⟩=some b/\w.cell? ⟨g,2,none⟩=some c/\w.cell? ⟨g,3,none⟩=some d:=⟨h.cell 0,h.cell 1,h.cell 2,h.cell 3⟩
theorem aK.f4 {w:World} {g:Nat} {t:TypeId} {cs:Array Value} (h:aK w g t cs):w.frozen? ⟨g,0,none⟩=false/\w.frozen? ⟨g,1,none⟩=false/\w.frozen? ⟨g,2,none⟩=false/\w.frozen? ⟨g,3,none⟩=false:=⟨h.frozen 0,h.frozen 1,h.frozen 2,h.frozen 3⟩
theorem aK.c5 {w:World} {g:Nat} {t:TypeId} {a b c d e:Value} (h:aK w g t #[a,b,c,d,e]):w.cell? ⟨g,0,none⟩=some a/\w.cell? ⟨g,1,none⟩=some b/\w.cell? ⟨g,2,none⟩=some c/\w.cell? ⟨g,3,none⟩=some d/\w.cell? ⟨g,4,none⟩=some e:=⟨h.cell 0,h.cell 1,h.cell 2,h.cell 3,h.cell 4⟩
theorem aK.f5 {w:World} {g:Nat} {t:TypeId} {cs:Array Value} (h:aK w g t cs):w.frozen? ⟨g,0,none⟩=false/\w.frozen? ⟨g,1,none⟩=false/\w.frozen? ⟨g,2,none⟩=false/\w.frozen? ⟨g,3,none⟩=false/\w.frozen? ⟨g,4,none⟩=false:=⟨h.frozen 0,h.frozen 1,h.frozen 2,h.frozen 3,h.frozen 4⟩
theorem aK.c6 {w:World} {g:Nat} {t:TypeId} {a b c d e f:Value} (h:aK w g t #[a,b,c,d,e,f]):w.cell? ⟨g,0,none⟩=some a/\w.cell? ⟨g,1,none⟩=some b/\w.cell? ⟨g,2,none⟩=some c/\w.cell? ⟨g,3,none⟩=some d/\w.cell? ⟨g,4,none⟩=some e/\w.cell? ⟨g,5,none⟩=some f:=⟨h.cell 0,h.cell 1,h.cell 2,h.cell 3,h.cell 4,h.cell 5⟩
theorem aK.f6 {w:World} {g:Nat} {t:TypeId} {cs:Array Value} (h:aK w g t cs):w.frozen? ⟨g,0,none⟩=false/\w.frozen? ⟨g,1,none⟩=false/\w.frozen? ⟨g,2,none⟩=false/\w.frozen? ⟨g,3,none⟩=false/\w.frozen? ⟨g,4,none⟩=false/\w.frozen? ⟨g,5,none⟩=false:=⟨h.frozen 0,h.frozen 1,h.frozen 2,h.frozen 3,h.frozen 4,h.frozen 5⟩
theorem bw {w W:World} {o:Obj} (h:w.alloc o=W):Hid (Below w.heap.size w W):=by subst h;exact hD ((Below.refl _ w).alloc (Nat.le_refl _) _)
theorem nm {α:Type _} (a:α):∃ x,a=x:=⟨_,rfl⟩
theorem bk {w W:World} {cs:Array Value} {t:TypeId} (h:w.alloc (.cells cs t)=W):Hid (aK W w.heap.size t cs):=by subst h;exact hD (aK.new w _ _)
end
end Go.Proofs.YtkgpoimmniojjaaGreat
