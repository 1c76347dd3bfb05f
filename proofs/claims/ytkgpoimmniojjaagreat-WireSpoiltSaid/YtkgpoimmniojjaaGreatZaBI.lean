/- No condition. -/
import Derived.Test.YtkgpoimmniojjaaGreatZaBH
import Derived.Test.YtkgpoimmniojjaaGreatZaBG
namespace Go.Proofs.YtkgpoimmniojjaaGreat
set_option linter.unusedVariables false
set_option linter.unusedSimpArgs false
set_option maxRecDepth 100000
set_option maxHeartbeats 16000000
section
open Go.RowKit
variable {n K gp Kt c a a' g0 lo gt:Nat} {A LA KA:Option Addr} {tl s:ByteArray} {e st st' e' k:Int} {x:TX} {w:World} {L' C' v3:Value} {ds ls:List ByteArray} {ks:List TX} {S:ByteArray->Prop} {r:Ending}
section
variable {w wr wq w3:World} {gp Kt n:Nat} {A:Option Addr} {c:Nat} {tl:ByteArray} {a:Nat} {st e:Int} {K lo gt gr:Nat} {k:Int} {s:ByteArray} {L:Value} {ls:List ByteArray} {Kd:Value} {ks:List TX} {C:Value} {cs:List ByteArray} {M M':Nat->Prop}
theorem aT.only (hc:aT w wq M) (h:∀ i,i < w.heap.size->M i->M' i):aT w wq M':=(aT.refl w M').trans hc (fun i h1 h2=>h i h1 h2)
theorem UT.new (kd:Int) (s:ByteArray) (hs:s.size<=K) (w1:World):UT (((((w1.alloc (.cells #[.int .i64 0,.string ⟨#[]⟩,.slice none 0 0,.slice none 0 0] 99)).setCell ⟨w1.heap.size,0,none⟩ (.int .i64 kd)).setCell ⟨w1.heap.size,1,none⟩ (.string s)).setCell ⟨w1.heap.size,2,none⟩ (.slice none 0 0)).setCell ⟨w1.heap.size,3,none⟩ (.slice none 0 0)) K w1.heap.size w1.heap.size kd s (.slice none 0 0) [] (.slice none 0 0) []:=
 ⟨aP (aK.new w1 _ _) _ _ _ _,fY _ _ _,TL.nil _ _ _,fun x hx=>(nomatch hx),Nat.le_refl _,hs,fun b hb=>(nomatch hb),fun x hx=>(nomatch hx),by simp [Value.ownBlock]⟩
theorem jN (kd:Int) (s:ByteArray) (w1:World):aT w1 (((((w1.alloc (.cells #[.int .i64 0,.string ⟨#[]⟩,.slice none 0 0,.slice none 0 0] 99)).setCell ⟨w1.heap.size,0,none⟩ (.int .i64 kd)).setCell ⟨w1.heap.size,1,none⟩ (.string s)).setCell ⟨w1.heap.size,2,none⟩ (.slice none 0 0)).setCell ⟨w1.heap.size,3,none⟩ (.slice none 0 0)) M:=
 (((aT.refl w1 (fun i=>i=w1.heap.size)).alloc _).trans (cP _ _ _ _ _ _) (fun i _ h=>h)).only (fun i h1 h2=>by omega)
theorem UT.leadsN (h:UT wr K lo gt k s L ls Kd ks) (hg:aR wr w3 L L') (ho:w3.ownsRow lo 9 1 L' (ls.length+cs.length) (ls.map Value.string++cs.map Value.string)) (ht:∀ b∈cs,b.size<=K):
  UT (w3.setCell ⟨gt,2,none⟩ L') K lo gt k s L' (ls++cs) Kd ks/\aT wr (w3.setCell ⟨gt,2,none⟩ L') (fun i=>i=gt\/L.ownBlock=some i):=by
 have hlt:=h.box.lt;have hc:aT wr (w3.setCell ⟨gt,2,none⟩ L') (fun i=>i=gt\/L.ownBlock=some i):=
  (aT.of_grown (M:=fun i=>i=gt\/L.ownBlock=some i) hg.grown (fun g e=>.inr e)).setCell (p:=⟨gt,2,none⟩) (.inl (.inl rfl)) _
 have hL'gt:L'.ownBlock≠some gt:=fun e=>by
  rcases hg.own gt e with h1 | h1
  ·exact h.lne h1
  ·omega
 refine ⟨⟨?_,?_,?_,?_,h.glo,h.ts,?_,h.tks,h.kg⟩,hc⟩
 ·exact (hg.blk h.box h.lne).set_ 2 L'
 ·rw [List.length_append,List.map_append];exact bV ho ((aT.refl w3 (fun i=>i=gt)).setCell (p:=⟨gt,2,none⟩) (.inl rfl) _) (fun g e1 e2=>hL'gt (e2 ▸ e1))
 ·refine ⟨bV h.kids.row hc (fun g e1 e2=>?_),fun x hx=>⟨((h.kids.kid x hx).1.chgS (h.sep x hx) hc (Nat.le_refl _) (fun i hi hM=>?_)).more hc.size,(h.kids.kid x hx).2⟩⟩
  ·rcases e2 with rfl | e2
   ·exact h.kg e1
   ·exact h.kne ⟨g,e1.trans e2.symm,e2⟩
  ·rcases hM with rfl | hM
   ·exact hi.1 rfl
   ·exact hi.2 hM
 ·intro x hx;refine ((h.kids.kid x hx).1.ins.and (h.sep x hx) (R:=fun b=>b < wr.heap.size/\b≠gt/\L.ownBlock≠some b) (fun b h1 h2=>⟨h1,h2.1,h2.2⟩)).mono (fun b hb=>⟨hb.2.1,fun e=>?_⟩);rcases hg.own b e with h1 | h1
  ·exact hb.2.2 h1
  ·omega
 ·intro b hb;rcases List.mem_append.1 hb with hb | hb
  ·exact h.tl b hb
  ·exact ht b hb
structure IT (w wr:World) (gp Kt n:Nat) (A:Option Addr) (c:Nat) (tl:ByteArray) (a:Nat) (st e:Int) (K lo gt gr:Nat) (k:Int) (s:ByteArray) (L:Value) (ls:List ByteArray) (Kd0 Kd:Value) (ks:List TX) (C:Value) (cs:List ByteArray):Prop where
 ps:PS wr gp Kt n A c tl a st e
 ut:UT wr K lo gt k s L ls Kd ks
 com:wr.ownsRow (gr+1) 9 1 C cs.length (cs.map Value.string)
 cbd:∀ b∈cs,b.size<=K
 res:aK wr gr 99 #[.int .i64 0,.string ⟨#[]⟩,.slice none 0 0,.slice none 0 0]
 chg:aT w wr (fun i=>i=gp\/L.ownBlock=some i\/Kd0.ownBlock=some i)
 kn:∀ g,Kd.ownBlock=some g->Kd0.ownBlock=some g\/w.heap.size<=g
 kr:Kd.ownBlock≠some gr
 sc:∀ x∈ks,gG (fun b=>b≠gr/\C.ownBlock≠some b) x
 ll:∀ g,L.ownBlock=some g->g < w.heap.size
 gpl:gp < lo
 lol:lo<=w.heap.size
 ggt:gt=w.heap.size
 ggr:gr=w.heap.size+1
variable {Kd0:Value}
theorem IT.fail (h:IT w wr gp Kt n A c tl a st e K lo gt gr k s L ls Kd0 Kd ks C cs) (hp:PS wq gp Kt n A c tl a' st' e') (hc:aT wr wq (fun i=>i=gp)):IT w wq gp Kt n A c tl a' st' e' K lo gt gr k s L ls Kd0 Kd ks C cs:=by
 have h1:=h.gpl;have h2:=h.lol;have h3:=h.ggr;exact ⟨hp,h.ut.chg hc (fun i e=>.inl (by omega)),bV h.com hc (fun g e1 e2=>by have:=aU h.com g e1;omega),h.cbd,h.res.chg hc (by omega),h.chg.trans hc (fun i _ h=>.inl h),h.kn,h.kr,h.sc,h.ll,h.gpl,h.lol,h.ggt,h.ggr⟩
theorem IT.below (h:IT w wr gp Kt n A c tl a st e K lo gt gr k s L ls Kd0 Kd ks C cs) (hb:Below wr.heap.size wr wq):IT w wq gp Kt n A c tl a st e K lo gt gr k s L ls Kd0 Kd ks C cs:=h.fail (h.ps.below hb) (aT.of_new hb _)
theorem IT.comma (h:IT w wr gp Kt n A c tl a st e K lo gt gr k s L ls Kd0 Kd ks C cs) (hg:aR wr wq C C') (ho:wq.ownsRow (gr+1) 9 1 C' (cs.length+ds.length) (cs.map Value.string++ds.map Value.string)) (hd:∀ b∈ds,b.size<=K):
  IT w wq gp Kt n A c tl a st e K lo gt gr k s L ls Kd0 Kd ks C' (cs++ds):=by
 have h1:=h.gpl;have h2:=h.lol;have h3:=h.ggr;have h4:=h.ggt;have hC:∀ i,C.ownBlock=some i->gr+1<=i:=aU h.com;have hc:aT wr wq (fun i=>C.ownBlock=some i):=aT.of_grown hg.grown (fun g e=>e);have hKC:∀ g,Kd.ownBlock=some g->C.ownBlock≠some g:=fun g e1 e2=>by
  rcases h.com.2 with ⟨rfl,-⟩ | ⟨g1,cap,cur,rfl,-,hh,-⟩
  ·simp [Value.ownBlock] at e2
  ·simp [Value.ownBlock] at e2;subst e2;exact aX h.ut.kids.row (show aK wr g1 _ cur from hh) (by decide) e1
 have hkids:∀ x∈ks,Tr wq wq.heap.size x:=fun x hx=>((h.ut.kids.kid x hx).1.chgS (h.sc x hx) hc (Nat.le_refl _) (fun i a1 a2=>a1.2 a2)).more hc.size;refine ⟨h.ps.chg hc (fun i e=>by have:=hC i e;omega),⟨h.ut.box.chg hc (fun e=>by have:=hC _ e;omega),bV h.ut.lead hc (fun g e1 e2=>by have:=h.ll g e1;have:=hC g e2;omega),⟨bV h.ut.kids.row hc (fun g e1 e2=>hKC g e1 e2),fun x hx=>⟨hkids x hx,(h.ut.kids.kid x hx).2⟩⟩,h.ut.sep,h.ut.glo,h.ut.ts,h.ut.tl,h.ut.tks,h.ut.kg⟩,by rw [List.length_append,List.map_append];exact ho,fun b hb=>?_,h.res.chg hc (fun e=>by have:=hC _ e;omega),h.chg.trans hc (fun i a1 a2=>by have:=hC _ a2;omega),h.kn,h.kr,fun x hx=>?_,h.ll,h.gpl,h.lol,h.ggt,h.ggr⟩
 ·rcases List.mem_append.1 hb with hb | hb
  ·exact h.cbd b hb
  ·exact hd b hb
 ·refine ((h.ut.kids.kid x hx).1.ins.and (h.sc x hx) (R:=fun b=>b < wr.heap.size/\b≠gr/\C.ownBlock≠some b) (fun b a1 a2=>⟨a1,a2.1,a2.2⟩)).mono (fun b hb=>⟨hb.2.1,fun e=>?_⟩);rcases hg.own b e with a1 | a1
  ·exact hb.2.2 a1
  ·omega
theorem IT.kid (h:IT w wr gp Kt n A c tl a st e K lo gt gr k s L ls Kd0 Kd ks C cs) (hx:Tr wr wr.heap.size x) (hi:gG (g0<=·) x) (hb:fG K x) (h0:gr < g0) (h1:∀ g,C.ownBlock=some g->g < g0) (h2:∀ g,Kd.ownBlock=some g->g < g0)
  (hc:aT wr wq (fun i=>i=gt\/Kd.ownBlock=some i)) (hbox:aK wq gt 99 #[.int .i64 k,.string s,L,v3]) (ho:wq.ownsRow lo 99 4 v3 (ks.length+1) (ks.flatMap TX.cells++x.cells)) (hnew:∀ g,v3.ownBlock=some g->Kd.ownBlock=some g\/wr.heap.size<=g):
  IT w wq gp Kt n A c tl a st e K lo gt gr k s L ls Kd0 v3 (ks++[x]) C cs:=by
 have p1q:=h.gpl;have p2:=h.lol;have p3:=h.ggr;have p4:=h.ggt;have hKf:=aU h.ut.kids.row;have hne:∀ g,C.ownBlock=some g->Kd.ownBlock≠some g:=fun g e1 e2=>by
  rcases h.com.2 with ⟨rfl,-⟩ | ⟨g1,cap,cur,rfl,-,hh,-⟩
  ·simp [Value.ownBlock] at e1
  ·simp [Value.ownBlock] at e1;subst e1;exact aX h.ut.kids.row (show aK wr g1 _ cur from hh) (by decide) e2
 refine ⟨h.ps.chg hc (fun i e=>?_),h.ut.kid hx (hi.mono (fun b a1=>⟨by omega,by omega,fun e=>by have:=h.ll b e;omega,fun e=>by have:=h2 b e;omega⟩)) hb hc hbox ho hnew,bV h.com hc (fun g e1 e2=>?_),h.cbd,h.res.chg hc (fun e=>?_),h.chg.trans hc (fun i a1 a2=>?_),fun g e=>?_,fun e=>?_,fun y hy=>?_,h.ll,h.gpl,h.lol,h.ggt,h.ggr⟩
 ·rcases e with e | e
  ·omega
  ·have:=hKf i e;omega
 ·have:=aU h.com g e1;rcases e2 with e2 | e2
  ·omega
  ·exact hne g e1 e2
 ·rcases e with e | e
  ·omega
  ·exact h.kr e
 ·rcases a2 with a2 | a2
  ·omega
  ·rcases h.kn i a2 with a3 | a3
   ·exact .inr (.inr a3)
   ·omega
 ·rcases hnew g e with a1 | a1
  ·exact h.kn g a1
  ·have:=h.chg.size;right;omega
 ·rcases hnew gr e with a1 | a1
  ·exact h.kr a1
  ·have:=h.res.lt;omega
 ·rcases List.mem_append.1 hy with hy | hy
  ·exact h.sc y hy
  ·simp at hy;subst hy;exact hi.mono (fun b a1=>⟨by omega,fun e=>by have:=h1 b e;omega⟩)
end
def DQ (n a:Nat) (e:Int) (a1:Nat) (e1:Int) (ks:List TX) (cs:List ByteArray):Prop:=
 a<=a1/\(e1=0->e=0/\T.sizes (ks.map TX.plain)<=3*(a1 - a)+1/\ks.length<=a1 - a/\cs.length<=a1 - a)/\ks.length<=n+1/\cs.length<=n+1
theorem UT.rebox {L:Value} {Kd:Value} (h:UT w K lo gt k s L ls Kd []):UT (w.alloc (.cells #[.int .i64 k,.string s,L,Kd] 99)) K lo w.heap.size k s L ls Kd []:=
 ⟨aK.new w _ _,h.lead.alloc _,⟨h.kids.row.alloc _,fun x hx=>(nomatch hx)⟩,fun x hx=>(nomatch hx),by have:=h.glo;have:=h.box.lt;omega,h.ts,h.tl,h.tks,fun e=>by have:=cK h.kids.row _ e;omega⟩
theorem xC {wr:World} {gr:Nat} {lc kc:Nat} {L0 Kd0:Value} {a0:Nat} {e0:Int}
  (hp:PS wr gp Kt n A c tl a st e) (hu:UT wr K lo gt k s (.slice LA ls.length lc) ls (.slice KA ks.length kc) ks) (hr:aK wr gr 99 #[.int .i64 0,.string ⟨#[]⟩,.slice none 0 0,.slice none 0 0]) (hc:aT w wr (fun i=>i=gp\/L0.ownBlock=some i\/Kd0.ownBlock=some i)) (hgr:w.heap.size<=gr) (hlo:lo<=gr) (hgp:gp < lo)
  (hsc:∀ x∈ks,gG (fun b=>b≠gr) x) (hL:(Value.slice LA ls.length lc).ownBlock≠some gr) (hK:(Value.slice KA ks.length kc).ownBlock≠some gr) (hk:aO k) (hl:ls.length<=1000000000) (hkl:ks.length<=1000000000) (ha:fK n a0 e0 a e) (hz:e=0->1+T.sizes (ks.map TX.plain)<=3*(a - a0)):
  BY w gp Kt n A c tl a0 e0 K lo L0 Kd0 (.returned (.agg #[.int .i64 k,.string s,.slice LA ls.length lc,.slice KA ks.length kc])) ((((wr.setCell ⟨gr,0,none⟩ (.int .i64 k)).setCell ⟨gr,1,none⟩ (.string s)).setCell ⟨gr,2,none⟩ (.slice LA ls.length lc)).setCell ⟨gr,3,none⟩ (.slice KA ks.length kc)):=by
 have hc4:=cP wr gr (.int .i64 k) (.string s) (.slice LA ls.length lc) (.slice KA ks.length kc);obtain ⟨⟨LA',lc',e1,h1⟩,⟨KA',kc',e2,h2⟩⟩:=hu.forms;injection e1 with _ _ e1;injection e2 with _ _ e2;subst e1 e2;have hir:gG (fun b=>lo<=b/\b≠gr) (.node k s LA ls lc KA ks kc):=.mk _ (fun ad e hn=>by
   have e:KA=some ad:=e;subst e;rcases hu.kids.row.2 with ⟨h0,-⟩ | ⟨g,cap,cur,h0,hb,-⟩
   ·cases h0
   ·injection h0 with h0;injection h0 with h0;rw [h0] at hK ⊢;exact ⟨hb,fun e=>hK (by have e:g=gr:=e;rw [e];rfl)⟩) (fun ad e hn=>by
   have e:LA=some ad:=e;subst e;rcases hu.lead.2 with ⟨h0,-⟩ | ⟨g,cap,cur,h0,hb,-⟩
   ·cases h0
   ·injection h0 with h0;injection h0 with h0;rw [h0] at hL ⊢;exact ⟨hb,fun e=>hL (by have e:g=gr:=e;rw [e];rfl)⟩) (fun x hx=>(hu.kids.kid x hx).2.and (hsc x hx) (fun b a1 a2=>⟨a1.1,a2⟩))
 have htr:Tr wr wr.heap.size (.node k s LA ls lc KA ks kc):=.mk _ (aG.of_own hu.kids.row) (aG.of_own hu.lead) (by show ks.length*72<=_;omega) h2 (by show ls.length*16<=_;omega) hk (fun x hx=>(hu.kids.kid x hx).1);refine ⟨.node k s LA ls lc KA ks kc,a,st,e,rfl,hp.chg hc4 (fun i e=>by omega),hc.trans hc4 (fun i a1 a2=>by omega),(htr.chgS hir hc4 (Nat.le_refl _) (fun i a1 a2=>a1.2 a2)).more hc4.size,hir.mono (fun b hb=>hb.1),.mk _ hu.ts hu.tl hu.tks,ha,fun he=>?_⟩;have:=hz he;rw [TX.plain_eq];show T.size (.node _ _ _ _)<=_;rw [T.size];exact this
theorem sK {w':World} (h:PS w gp Kt n A c tl a st e) (h':PS w' gp Kt n A c tl a' st' e') (he:e=0) (hl:e'=0->a < a'):Ce n gp w' < Ce n gp w:=by
 have ha:=h.le;rw [sJ h,sJ h',if_pos he]
 split
 ·rename_i h0;have:=hl h0;omega
 ·omega
theorem DQ.kid {a1 a2 a3:Nat} {e1 e2 e3:Int} {cs cs2:List ByteArray} (h:DQ n a e a1 e1 ks cs) (he:e1=0) (ha1:a1<=n) (hc:cs2.length<=cs.length+1) (hv:(ks=[]/\a2=a1/\e2=e1/\cs2=cs)\/fK n a1 e1 a2 e2) (ha:fK n a2 e2 a3 e3) (hz:e3=0->x.plain.size<=3*(a3 - a2)+1):DQ n a e a3 e3 (ks++[x]) cs2:=by
 obtain ⟨h1,h2,-,-⟩:=h;obtain ⟨h3,h4,h5,h6⟩:=h2 he;have hlen:(ks++[x]).length=ks.length+1:=by simp
 have hsz:T.sizes ((ks++[x]).map TX.plain)=T.sizes (ks.map TX.plain)+x.plain.size:=by rw [List.map_append,List.map_cons,List.map_nil,kO]
 have b1:=ha.1;refine ⟨?_,fun h0=>?_,by omega,by omega⟩
 ·rcases hv with ⟨-,v1,-⟩ | v1
  ·omega
  ·have:=v1.1;omega
 ·have b2:=ha.2.2 h0;have b3:=hz h0;rw [hsz,hlen];rcases hv with ⟨v0,v1,-,v2⟩ | v1
  ·subst v0 v1 v2;simp [T.sizes] at h4 ⊢;refine ⟨h3,?_,?_,?_⟩ <;> omega
  ·have v2:=v1.2.2 b2.1;refine ⟨h3,?_,?_,?_⟩ <;> omega
theorem Bp (hn:n<=1000000) (hK:Kt<=K) (m:Nat) (hE:EC 138 gp Kt n A c tl K m):IC gp Kt n A c tl K m:=by
 intro a st e lo gt0 k s L ls Kd tx mo w h hm hu hgl hl hk;have HE:Hid (∀ a' st' e' w',PS w' gp Kt n A c tl a' st' e'->a<=a'->(e'=0->e=0)->Calls Tryz.prog 138 #[.pointer (some ⟨gp,0,none⟩)] w' (bZ w' gp Kt n A c tl a' e' K)):=fun a' st' e' w' h1 h2 h3=>by
  have:=h1.le;exact hE a' st' e' w' h1 (fun h0=>by have:=hm (h3 h0);omega)
 clear hE hm;have hle:=h.le;obtain ⟨⟨LA,lc,rfl,-⟩,⟨KA,kc,rfl,-⟩⟩:=hu.forms;obtain ⟨W1,hW1⟩:=nm (w.alloc (.cells #[.int .i64 k,.string s,.slice LA ls.length lc,.slice KA 0 kc] 99));obtain ⟨W2,hW2⟩:=nm (W1.alloc (.cells #[.int .i64 0,.string ⟨#[]⟩,.slice none 0 0,.slice none 0 0] 99));have HT:Hid (IT w W2 gp Kt n A c tl a st e K lo w.heap.size (w.heap.size+1) k s (.slice LA ls.length lc) ls (.slice KA 0 kc) (.slice KA 0 kc) [] (.slice none 0 0) []):=by
  subst hW2;have hs1:W1.heap.size=w.heap.size+1:=by subst hW1;simp
  have hu1:UT W1 K lo w.heap.size k s (.slice LA ls.length lc) ls (.slice KA 0 kc) []:=by subst hW1;exact hu.rebox
  have hp1:PS W1 gp Kt n A c tl a st e:=by subst hW1;exact h.below (bK (Below.refl _ _) _)
  have hc1:Below w.heap.size w W1:=by subst hW1;exact bK (Below.refl _ _) _
  have hlo:lo<=w.heap.size:=by have:=hu.glo;have:=hu.box.lt;omega
  exact ⟨hp1.below (bK (Below.refl _ _) _),hu1.below (bK (Below.refl _ _) _),fY _ _ _,fun b hb=>(nomatch hb),by rw [<- hs1];exact aK.new _ _ _,aT.of_new (bK hc1 _) _,fun g e=>.inl e,fun e=>by have:=cK hu.kids.row _ e;omega,fun x hx=>(nomatch hx),fun g e=>cK hu.lead g e,hgl,hlo,rfl,rfl⟩
 have HIK:=hD hk;have HLS:=hD hl;have hs1:W1.heap.size=w.heap.size+1:=by rw [<- hW1];simp
 have HW1:=hD hW1;have HW2:=hD hW2;have HS1:=hD hs1;clear hW1 hW2 h hu hgl hl hk hs1;go_enter Tryz.func170,Tryz.ntmps170;go_wp2_with (first | rw [HW1.out] | rw [HW2.out]);clear HW1 HW2
 try rw [HS1.out]
 clear HS1;obtain ⟨gt,hgt⟩:=nm w.heap.size;obtain ⟨gr,hgr⟩:=nm (gt+1);have HT:Hid (IT w W2 gp Kt n A c tl a st e K lo gt gr k s (.slice LA ls.length lc) ls (.slice KA 0 kc) (.slice KA 0 kc) [] (.slice none 0 0) []):=by rw [<- hgr,<- hgt];exact HT.out
 rw [hgt,hgr];clear hgr hgt;go_loopw [9] (fun C wr=>∃ (a1:Nat) (st1 e1:Int) (KA1:Option Addr) (kc1:Nat) (ks:List TX) (CA:Option Addr) (cc:Nat) (cs:List ByteArray),C=.slice CA cs.length cc/\Hid (IT w wr gp Kt n A c tl a1 st1 e1 K lo gt gr k s (.slice LA ls.length lc) ls (.slice KA 0 kc) (.slice KA1 ks.length kc1) ks (.slice CA cs.length cc) cs)/\Hid (DQ n a e a1 e1 ks cs)) (fun _ wr=>Ce n gp wr)
 case atStart=>exact ⟨a,st,e,KA,kc,[],none,0,[],rfl,HT,Nat.le_refl _,fun h0=>⟨h0,by simp [T.sizes],Nat.zero_le _,Nat.zero_le _⟩,Nat.zero_le _,Nat.zero_le _⟩
 case round=>
  clear HT;obtain ⟨a1,st1,e1,KA1,kc1,ks,CA,cc,cs,rfl,HT,HN⟩:=hrel;have hkl:ks.length<=n+1:=HN.out.2.2.1;have hcl:cs.length<=n+1:=HN.out.2.2.2;go_upto_region 2 with fail;go_cut [33] (fun x wq=>∃ b,x=.bool b/\(b=true->e1=0)/\Hid (Below wr.heap.size wr wq))
  case first=>
   obtain ⟨z0,z1,z2,z3,z4⟩:=HT.out.ps.box.c5;obtain ⟨y0,y1,y2,y3⟩:=HT.out.ut.box.c4;have q1:(e1 == 0)=true\/(e1 == 0)=false:=by cases (e1 == 0) <;> simp
   rcases q1 with q1 | q1
   ·have he1:e1=0:=by simpa using q1
    have qk:(k == 18)=true\/(k == 18)=false:=by cases (k == 18) <;> simp
    have ql:((ks.length:Int) == 0)=true\/((ks.length:Int) == 0)=false:=by cases ((ks.length:Int) == 0) <;> simp
    rcases qk with qk | qk <;> rcases ql with ql | ql
    all_goals
     go_wp2_with fail
     first
      | (go_meet;exact ⟨true,rfl,fun _=>he1,Below.refl _ _⟩)
      | ((with_reducible refine (cU _ wr HT.out.ps hn).mono ?_);rintro r0 v1 ⟨b1,rfl,hb1,-⟩;have HB1:=hD hb1;clear hb1;cases b1;all_goals
          go_wp2_with fail;go_meet;exact ⟨_,rfl,fun _=>he1,HB1⟩)
   ·go_wp2_with fail;go_meet;exact ⟨false,rfl,fun h=>(nomatch h),Below.refl _ _⟩
  case rest=>
   obtain ⟨b,rfl,hbe,HBw⟩:=hcut;have HTc:=hD (HT.out.below HBw.out)
   cases b
   case false=>
    clear hbe HT HBw;have HN':=HN;go_wp2_with fail;(with_reducible refine (bP tx wc HTc.out.ps hn HTc.out.ut HTc.out.gpl hK (by have:=HLS.out;omega)).mono ?_);rintro r0 v1 ⟨a2,st2,e2,s2,L2,ls2,rfl,hp2,hu2,ha2,hl2,hc2,hn2,hs2⟩;have hs2:s2=s:=hs2;subst hs2;have HP2:=hD hp2;have HU2:=hD hu2;have HA2:=hD ha2;have HL2:=hD hl2;have HCF:=aU HTc.out.com;have HCO:Hid (v1.ownsRow (gr+1) 9 1 (.slice CA cs.length cc) cs.length (cs.map Value.string)):=bV HTc.out.com hc2 (fun g e1 e2=>by
     have h1:=HCF g e1;have h3:=HTc.out.ggr;have h4:=HTc.out.ggt;have h5:=HTc.out.gpl;have h6:=HTc.out.lol;rcases e2 with e2 | e2 | e2
     ·omega
     ·omega
     ·have:=HTc.out.ll g e2;omega)
    have HR2:Hid (aK v1 gr 99 #[.int .i64 0,.string ⟨#[]⟩,.slice none 0 0,.slice none 0 0]):=HTc.out.res.chg hc2 (fun e2=>by
     have h3:=HTc.out.ggr;have h4:=HTc.out.ggt;have h5:=HTc.out.gpl;have h6:=HTc.out.lol;rcases e2 with e2 | e2 | e2
     ·omega
     ·omega
     ·have:=HTc.out.ll _ e2;omega)
    have HC2:Hid (aT w v1 (fun i=>i=gp\/(Value.slice LA ls.length lc).ownBlock=some i\/(Value.slice KA 0 kc).ownBlock=some i)):=HTc.out.chg.trans hc2 (fun i h1 h2=>by
     have h4:=HTc.out.ggt;rcases h2 with h2 | h2 | h2
     ·exact .inl h2
     ·omega
     ·exact .inr (.inl h2))
    have HN2:=hD hn2;have HRZ:Hid (gr < wc.heap.size):=HTc.out.res.lt;have HZ2:Hid (wc.heap.size<=v1.heap.size):=hc2.size;clear hp2 hu2 ha2 hl2 hc2 hn2 HCF;obtain ⟨⟨LA2,lc2,rfl,-⟩,-⟩:=HU2.out.forms;have hl2:ls2.length<=101:=by have:=HL2.out;have:=HLS.out;omega
    obtain ⟨y0,y1,y2,y3⟩:=HU2.out.box.c4;obtain ⟨q0,q1,q2,q3⟩:=HU2.out.box.f4;have HZ3:Hid (lo<=v1.heap.size):=by have:=HTc.out.lol;have:=HTc.out.chg.size;have:=HZ2.out;exact hD (by omega:lo<=v1.heap.size)
    obtain ⟨i0,hi0,hz0,hz1,hz2⟩:=dF eF;have HSR:Src Tryz.prog 1 97 (.slice CA cs.length cc) cs.length (cs.map Value.string) v1:=cQ (P:=Tryz.prog) v1 Tryz.underlying97 cc (aG.of_own HCO.out) (fun u hu=>by simp at hu;obtain ⟨b,-,rfl⟩:=hu;rfl);have hml:ls2.length+cs.length<=maxLen:=by unfold maxLen;omega
    have hmb:(ls2.length+cs.length)*16<=140737488355328:=by omega
    go_wp2_with (at_builtin;refine aF v1 rfl _ _ _ _ rfl lo 9 i0 _ 1 16 Tryz.underlying97 hi0 hz0 hz1 hz2 rfl (by decide) (.slice LA2 ls2.length lc2) ls2.length (ls2.map Value.string) (by simp [Act.eval]) HU2.out.lead (.slice CA cs.length cc) cs.length (cs.map Value.string) (by simp [Act.eval]) HSR hml hmb HZ3.out ?_);intro v3 w7 hown7 hg7;obtain ⟨A7,c7,rfl,-,-⟩:=aS hown7;obtain ⟨hu7,hc7⟩:=HU2.out.leadsN hg7 hown7 HTc.out.cbd;have hX7:aK w7 gt 99 #[.int .i64 k,.string s2,.slice LA2 ls2.length lc2,.slice KA1 ks.length kc1]:=hg7.blk HU2.out.box HU2.out.lne;have HLN:Hid ((Value.slice A7 (ls2.length+cs.length) c7).ownBlock≠some gr):=fun e2=>by
     have h3:=HTc.out.ggr;have h1:=HRZ.out;have h2:=HZ2.out;rcases hg7.own gr e2 with h | h
     ·rcases HN2.out gr h with h | h
      ·have:=HTc.out.ll gr h;omega
      ·omega
     ·omega
    have HU7:=hD hu7;have HC7:=hD hc7;have HX7:=hD hX7;clear hown7 hg7 HSR hu7 hc7 hX7 y0 y1 y2 y3 q0 q1 q2 q3;obtain ⟨q0,q1,q2,q3⟩:=HX7.out.f4;obtain ⟨t0,t1,t2,t3⟩:=HX7.out.c4;obtain ⟨l8,hl8⟩:=nm (ls2++cs);have hN8:ls2.length+cs.length=l8.length:=by rw [<- hl8,List.length_append]
    rw [hl8] at HU7;rw [hN8] at HU7 HC7 HLN ⊢;have hl8n:l8.length<=2000000:=by omega
    obtain ⟨w8,hw8⟩:=nm (w7.setCell ⟨gt,2,none⟩ (.slice A7 l8.length c7));rw [hw8] at HU7 HC7;have HW8:=hD hw8;clear hl8 hN8 hw8;have HR8:Hid (aK w8 gr 99 #[.int .i64 0,.string ⟨#[]⟩,.slice none 0 0,.slice none 0 0]):=HR2.out.chg HC7.out (fun e2=>by
     have h3:=HTc.out.ggr;have h4:=HTc.out.ggt;have h1:=HRZ.out;rcases e2 with e2 | e2
     ·omega
     ·rcases HN2.out gr e2 with h | h
      ·have:=HTc.out.ll gr h;omega
      ·omega)
    have HP8:Hid (PS w8 gp Kt n A c tl a2 st2 e2):=HP2.out.chg HC7.out (fun i e2=>by
     have h3:=HTc.out.ggt;have h4:=HTc.out.gpl;have h5:=HTc.out.lol;rcases e2 with e2 | e2
     ·omega
     ·have:=aU HU2.out.lead i e2;omega)
    have HC8:Hid (aT w w8 (fun i=>i=gp\/(Value.slice LA ls.length lc).ownBlock=some i\/(Value.slice KA 0 kc).ownBlock=some i)):=HC2.out.trans HC7.out (fun i h1 h2=>by
     have h3:=HTc.out.ggt;have h4:=HTc.out.chg.size;rcases h2 with h2 | h2
     ·omega
     ·rcases HN2.out i h2 with h | h
      ·exact .inr (.inl h)
      ·omega)
    obtain ⟨y0,y1,y2,y3⟩:=HU7.out.box.c4;obtain ⟨x0,x1,x2,x3⟩:=HR8.out.c4;obtain ⟨r0,r1,r2,r3⟩:=HR8.out.f4;go_wp2_with (rw [HW8.out]);refine rR (aP HR8.out _ _ _ _) Tryz.underlying99 rfl rfl rfl rfl (by kernel_rfl) ?_;have hgg:=HTc.out.ggr;have hll:=HTc.out.lol;refine xC HP8.out HU7.out HR8.out HC8.out (by omega) (by omega) HTc.out.gpl (fun x hx=>(HTc.out.sc x hx).mono (fun b h=>h.1)) HLN.out HTc.out.kr HIK.out (by omega) (by omega) ⟨?_,HP8.out.le,fun h=>?_⟩ (fun h=>?_)
    ·have:=HN.out.1;have:=HA2.out.1;omega
    ·have h1:=HA2.out.2.2 h;have h2:=HN.out.2.1 h1.1;have:=HN.out.1;exact ⟨h2.1,by omega⟩
    ·have h1:=HA2.out.2.2 h;have h2:=HN.out.2.1 h1.1;have:=HN.out.1;omega
   case true=>
    have HE1:=hD (hbe rfl);have HPS:=hD HT.out.ps;clear hbe HT HBw;obtain ⟨y0,y1,y2,y3⟩:=HTc.out.ut.box.c4;go_upto_if 37 with fail;go_cut [9] (fun x wq=>∃ (CA2:Option Addr) (cc2:Nat) (cs2:List ByteArray) (a2:Nat) (st2 e2:Int),x=.slice CA2 cs2.length cc2/\Hid (IT w wq gp Kt n A c tl a2 st2 e2 K lo gt gr k s (.slice LA ls.length lc) ls (.slice KA 0 kc) (.slice KA1 ks.length kc1) ks (.slice CA2 cs2.length cc2) cs2)/\cs2.length<=cs.length+1/\((ks=[]/\a2=a1/\e2=e1/\cs2=cs)\/fK n a1 e1 a2 e2))
    case first=>
     by_cases hk0:ks.length=0
     ·have d0:decide ((ks.length:Int) > 0)=false:=decide_eq_false (by omega);have hks:ks=[]:=List.eq_nil_of_length_eq_zero hk0;go_wp2_with fail;go_meet;exact ⟨CA,cc,cs,a1,st1,e1,rfl,HTc,Nat.le_succ _,.inl ⟨hks,rfl,rfl,rfl⟩⟩
     ·have d0:decide ((ks.length:Int) > 0)=true:=decide_eq_true (by omega);obtain ⟨Wa,hWa⟩:=nm (wc.alloc (.cells #[.int .i64 0,.string ⟨#[]⟩,.slice none 0 0,.slice none 0 0] 99));obtain ⟨Wb,hWb⟩:=nm (((((Wa.setCell ⟨wc.heap.size,0,none⟩ (.int .i64 0)).setCell ⟨wc.heap.size,1,none⟩ (.string ⟨#[]⟩)).setCell ⟨wc.heap.size,2,none⟩ (.slice none 0 0)).setCell ⟨wc.heap.size,3,none⟩ (.slice none 0 0)));have HU:Hid (UT Wb K wc.heap.size wc.heap.size 0 ⟨#[]⟩ (.slice none 0 0) [] (.slice none 0 0) []):=by
       have:=UT.new (K:=K) 0 ⟨#[]⟩ (Nat.zero_le _) wc;rw [hWa,hWb] at this;exact this
      have HCB:Hid (aT wc Wb (fun i=>i=gp)):=by
       have:=jN (M:=fun i=>i=gp) 0 ⟨#[]⟩ wc;rw [hWa,hWb] at this;exact this
      have HPB:Hid (PS Wb gp Kt n A c tl a1 st1 e1):=HTc.out.ps.chg (M:=fun _=>False) (by
       have:=jN (M:=fun _=>False) 0 ⟨#[]⟩ wc;rw [hWa,hWb] at this;exact this) (fun i h=>h.elim)
      have HWa:=hD hWa;have HWb:=hD hWb;have HAX:=bk hWa;clear hWa hWb;obtain ⟨x0,x1,x2,x3⟩:=HAX.out.c4;obtain ⟨q0,q1,q2,q3⟩:=HAX.out.f4;go_wp2_with (first | rw [HWa.out] | rw [HWb.out]);clear HWa HWb HAX x0 x1 x2 x3 q0 q1 q2 q3 y0 y1 y2 y3;(with_reducible refine (bP _ Wb HPB.out hn HU.out (by have:=HTc.out.ps.lt;omega) hK (by simp)).mono ?_);rintro r0 v1 ⟨a2,st2,e2,sd,Ld,lsd,rfl,hp2,hu2,ha2,hl2,hc2,-,-⟩;have hl2:lsd.length<=1:=by simpa using hl2
      have HT2:=hD (HTc.out.fail hp2 ((HCB.out.trans hc2 (M:=fun i=>i=gp) (fun i h1 h2=>by
       rcases h2 with h2 | h2 | h2
       ·exact h2
       ·omega
       ·simp [Value.ownBlock] at h2))))
      have HU2:=hD hu2;have HA2:=hD ha2;clear hp2 hu2 ha2 hc2 HPB HU HCB;obtain ⟨⟨LD,ld,rfl,-⟩,-⟩:=HU2.out.forms;obtain ⟨y0,y1,y2,y3⟩:=HU2.out.box.c4;have HZ2:Hid (gr+1<=v1.heap.size):=HT2.out.res.lt;obtain ⟨i0,hi0,hz0,hz1,hz2⟩:=dF eF;have HSR:Src Tryz.prog 1 97 (.slice LD lsd.length ld) lsd.length (lsd.map Value.string) v1:=cQ (P:=Tryz.prog) v1 Tryz.underlying97 ld (aG.of_own HU2.out.lead) (fun u hu=>by simp at hu;obtain ⟨b,-,rfl⟩:=hu;rfl);have hml:cs.length+lsd.length<=maxLen:=by unfold maxLen;omega
      have hmb:(cs.length+lsd.length)*16<=140737488355328:=by omega
      go_wp2_with (at_builtin;refine aF v1 rfl _ _ _ _ rfl (gr+1) 9 i0 _ 1 16 Tryz.underlying97 hi0 hz0 hz1 hz2 rfl (by decide) (.slice CA cs.length cc) cs.length (cs.map Value.string) (by simp [Act.eval]) HT2.out.com (.slice LD lsd.length ld) lsd.length (lsd.map Value.string) (by simp [Act.eval]) HSR hml hmb HZ2.out ?_);intro v3 w7 hown7 hg7;obtain ⟨A7,c7,rfl,-,-⟩:=aS hown7;have HT7:=hD (HT2.out.comma hg7 hown7 HU2.out.tl);have hlen:(cs++lsd).length=cs.length+lsd.length:=List.length_append;clear hown7 hg7 HSR;go_wp2_with fail;go_meet;refine ⟨A7,c7,cs++lsd,a2,st2,e2,by rw [hlen],?_,by omega,.inr HA2.out⟩;rw [hlen];exact HT7
    case rest=>
     obtain ⟨CA2,cc2,cs2,a2,st2,e2,rfl,HT2,hcs,hadv⟩:=hcut;have HAV:=hD hadv;clear hadv HTc y0 y1 y2 y3;obtain ⟨y0,y1,y2,y3⟩:=HT2.out.ut.box.c4;go_upto_region 7 with fail;go_cut [53] (fun x wq=>∃ b,x=.bool b/\Hid (Below wc.heap.size wc wq))
     case first=>
      have qm:((ks.length:Int) == mo)=true\/((ks.length:Int) == mo)=false:=by cases ((ks.length:Int) == mo) <;> simp
      rcases qm with qm | qm
      ·go_wp2_with fail;(with_reducible refine (xS wc HT2.out.ps hn).mono ?_);rintro r0 v1 ⟨b1,rfl,hb1⟩;have HB1:=hD hb1;clear hb1;go_wp2_with fail;go_meet;exact ⟨_,rfl,HB1⟩
      ·go_wp2_with fail;go_meet;exact ⟨_,rfl,Below.refl _ _⟩
     case rest=>
      obtain ⟨b2,rfl,HBv⟩:=hcut;have HT2:=hD (HT2.out.below HBv.out);clear HBv y0 y1 y2 y3
      cases b2
      case true=>
       go_wp2_with fail;(with_reducible refine (gE 3 wc HT2.out.ps hn (by decide) (by unfold aO;omega)).mono ?_);rintro r0 v2 ⟨st',e',rfl,hp,he',hc⟩;have HT:=hD (HT2.out.fail hp hc);have HEF:Hid (e'≠0):=he';have d9:(e' != 0)=true:=by simpa using he'
       clear hp hc he';obtain ⟨z0,z1,z2,z3,z4⟩:=HT.out.ps.box.c5;obtain ⟨y0,y1,y2,y3⟩:=HT.out.ut.box.c4;obtain ⟨x0,x1,x2,x3⟩:=HT.out.res.c4;obtain ⟨q0,q1,q2,q3⟩:=HT.out.res.f4;go_wp2_with fail;refine rR (aP HT.out.res _ _ _ _) Tryz.underlying99 rfl rfl rfl rfl (by kernel_rfl) ?_;have hle2:=HT.out.ps.le;refine xC HT.out.ps HT.out.ut HT.out.res HT.out.chg (by have:=HT.out.ggr;omega) (by have:=HT.out.ggr;have:=HT.out.lol;omega) HT.out.gpl (fun x hx=>(HT.out.sc x hx).mono (fun b h=>h.1)) (fun h=>by have:=HT.out.ll _ h;have:=HT.out.ggr;omega) HT.out.kr HIK.out (by have:=HLS.out;omega) (by omega) ⟨?_,hle2,fun h=>absurd h HEF.out⟩ (fun h=>absurd h HEF.out);have h1:=HN.out.1;rcases HAV.out with ⟨-,h2,-⟩ | h2
       ·omega
       ·have:=h2.1;omega
      case false=>
       obtain ⟨z0,z1,z2,z3,z4⟩:=HT2.out.ps.box.c5;have q9:(e2 != 0)=true\/(e2 != 0)=false:=by cases (e2 != 0) <;> simp
       rcases q9 with q9 | q9
       ·have HT:=HT2;have HEF:Hid (e2≠0):=(by simpa using q9:e2≠0);obtain ⟨y0,y1,y2,y3⟩:=HT.out.ut.box.c4;obtain ⟨x0,x1,x2,x3⟩:=HT.out.res.c4;obtain ⟨q0,q1,q2,q3⟩:=HT.out.res.f4;go_wp2_with fail;refine rR (aP HT.out.res _ _ _ _) Tryz.underlying99 rfl rfl rfl rfl (by kernel_rfl) ?_;have hle2:=HT.out.ps.le;refine xC HT.out.ps HT.out.ut HT.out.res HT.out.chg (by have:=HT.out.ggr;omega) (by have:=HT.out.ggr;have:=HT.out.lol;omega) HT.out.gpl (fun x hx=>(HT.out.sc x hx).mono (fun b h=>h.1)) (fun h=>by have:=HT.out.ll _ h;have:=HT.out.ggr;omega) HT.out.kr HIK.out (by have:=HLS.out;omega) (by omega) ⟨?_,hle2,fun h=>absurd h HEF.out⟩ (fun h=>absurd h HEF.out);have h1:=HN.out.1;rcases HAV.out with ⟨-,h2,-⟩ | h2
        ·omega
        ·have:=h2.1;omega
       have HE2:=hD (by simpa using q9:e2=0);go_wp2_with fail;clear z0 z1 z2 z3 z4;have hge:a<=a2:=by
        have h1:=HN.out.1;rcases HAV.out with ⟨-,h2,-⟩ | h2
        ·omega
        ·have:=h2.1;omega
       have HE0:Hid (e=0):=(HN.out.2.1 HE1.out).1;(with_reducible refine (HE.out a2 st2 e2 wc HT2.out.ps hge (fun _=>HE0.out)).mono ?_);rintro r0 w3 ⟨x,a3,st3,e3,hr0,hp3,hc3,hr3,hi3,hb3,ha3,hz3⟩;obtain rfl:r0=.returned (.agg #[.int .i64 x.kind,.string x.text,.slice x.lA x.leads.length x.lc,.slice x.kA x.kids.length x.kc]):=hr0;have HT3:=hD (HT2.out.fail hp3 hc3);have HR3:=hD hr3;have HI3:=hD hi3;have HB3:=hD hb3;have HA3:=hD ha3;have HZ3:=hD hz3;obtain ⟨g0,hg0⟩:=nm wc.heap.size;have HG1:Hid (gr < g0):=by rw [<- hg0];exact HT2.out.res.lt
       have HG2:Hid (∀ g,(Value.slice CA2 cs2.length cc2).ownBlock=some g->g < g0):=by rw [<- hg0];exact cK HT2.out.com
       have HG3:Hid (∀ g,(Value.slice KA1 ks.length kc1).ownBlock=some g->g < g0):=by rw [<- hg0];exact cK HT2.out.ut.kids.row
       have HG4:Hid (g0<=w3.heap.size):=by rw [<- hg0];exact hc3.size
       rw [hg0] at HI3;clear hp3 hc3 hr3 hi3 hb3 ha3 hz3 hg0;obtain ⟨Wx,hWx⟩:=nm (w3.alloc (.cells #[.int .i64 x.kind,.string x.text,.slice x.lA x.leads.length x.lc,.slice x.kA x.kids.length x.kc] 99));obtain ⟨gx,hgx⟩:=nm w3.heap.size;have HBx:=bw hWx;have HTx:=hD (HT3.out.below HBx.out);have HXx:Hid (aK Wx gx 99 #[.int .i64 x.kind,.string x.text,.slice x.lA x.leads.length x.lc,.slice x.kA x.kids.length x.kc]):=by rw [<- hWx,<- hgx];exact aK.new _ _ _
       have HRx:=hD (HR3.out.up (Nat.le_refl _) HBx.out);have HG5:Hid (g0<=gx):=by rw [<- hgx];exact HG4.out
       have HWx:=hD hWx;have HGX:Hid (gx=w3.heap.size):=hgx.symm;have HSX:Hid (aT w3 Wx (fun i=>i=gx)):=by rw [<- hWx];exact (aT.refl _ _).alloc _
       clear hWx HBx HT2;obtain ⟨y0,y1,y2,y3⟩:=HTx.out.ut.box.c4;go_upto_if 66 with (rw [HWx.out])
       try rw [hgx]
       clear hgx HWx;go_cut [] (fun wq=>∃ (x:TX),Hid (aK wq gx 99 #[.int .i64 x.kind,.string x.text,.slice x.lA x.leads.length x.lc,.slice x.kA x.kids.length x.kc])/\Hid (IT w wq gp Kt n A c tl a3 st3 e3 K lo gt gr k s (.slice LA ls.length lc) ls (.slice KA 0 kc) (.slice KA1 ks.length kc1) ks (.slice CA2 cs2.length cc2) cs2)/\Hid (Tr wq wq.heap.size x)/\Hid (gG (g0<=·) x)/\Hid (fG K x)/\Hid (e3=0->x.plain.size<=3*(a3 - a2)+1))
       case first=>
        have qk:(k == 16)=true\/(k == 16)=false:=by cases (k == 16) <;> simp
        rcases qk with qk | qk
        ·obtain ⟨Wy,hWy⟩:=nm (Wx.alloc (.cells #[.int .i64 x.kind,.string x.text,.slice x.lA x.leads.length x.lc,.slice x.kA x.kids.length x.kc] 99));obtain ⟨gy,hgy⟩:=nm Wx.heap.size;obtain ⟨Wq,hWq⟩:=nm (((((Wy.setCell ⟨gx,0,none⟩ (.int .i64 17)).setCell ⟨gx,1,none⟩ (.string ⟨#[]⟩)).setCell ⟨gx,2,none⟩ (.slice none 0 0)).setCell ⟨gx,3,none⟩ (.slice (some ⟨gy,0,none⟩) 1 1)));have hYy:aK Wy gy 99 x.cells.toArray:=by rw [<- hWy,<- hgy];exact aK.new _ _ _
         have hXy:aK Wy gx 99 #[.int .i64 x.kind,.string x.text,.slice x.lA x.leads.length x.lc,.slice x.kA x.kids.length x.kc]:=by rw [<- hWy];exact HXx.out.alloc _
         have hRy:Tr Wy Wy.heap.size x:=by rw [<- hWy];exact HRx.out.up (Nat.le_refl _) (bK (Below.refl _ _) _)
         have hc4:aT Wy Wq (fun i=>i=gx):=by rw [<- hWq];exact cP _ _ _ _ _ _
         have hc5:aT w3 Wq (fun i=>i=gx):=(show aT w3 Wy (fun i=>i=gx) by rw [<- hWy];exact HSX.out.alloc _).trans hc4 (fun i _ h=>h);have hxl:=HXx.out.lt;have hix:gG (fun b=>g0<=b/\b≠gx) x:=HR3.out.ins.and HI3.out (fun b h1 h2=>⟨h2,by have:=HGX.out;omega⟩);have hg5:=HG5.out;have hir:gG (fun b=>g0<=b/\b≠gx) (.node 17 ⟨#[]⟩ none [] 0 (some ⟨gy,0,none⟩) [x] 1):=.mk _ (fun ad e _=>by
           have e:some (⟨gy,0,none⟩:Addr)=some ad:=e;injection e with e;subst e;show g0<=gy/\gy≠gx;omega) (fun ad e _=>by
           have e:(none:Option Addr)=some ad:=e
           cases e) (fun k hk=>by
           have hk:k∈[x]:=hk;simp at hk;subst hk;exact hix)
         have htr:Tr Wy Wy.heap.size (.node 17 ⟨#[]⟩ none [] 0 (some ⟨gy,0,none⟩) [x] 1):=.mk _ (eD (n:=1) (size:=4) (xs:=[x].flatMap TX.cells) (by simpa using hYy) rfl) ⟨rfl,fun h=>absurd h (by simp [TX.leads])⟩ (by simp [TX.kids]) (by simp [TX.kids,TX.kc]) (by simp [TX.leads]) (by simp [TX.kind]) (fun k hk=>by
           have hk:k∈[x]:=hk;simp at hk;subst hk;exact hRy)
         have hbd:fG K (.node 17 ⟨#[]⟩ none [] 0 (some ⟨gy,0,none⟩) [x] 1):=.mk _ (Nat.zero_le _) (fun s hs=>by
           have hs:s∈([]:List ByteArray):=hs
           cases hs) (fun k hk=>by
           have hk:k∈[x]:=hk;simp at hk;subst hk;exact HB3.out)
         have HTQ:=hD (HT3.out.fail (HT3.out.ps.chg hc5 (fun i e=>by have:=HT3.out.ps.lt;have:=HGX.out;omega)) (hc5.only (fun i h1 h2=>by have:=HGX.out;omega)));have HXQ:Hid (aK Wq gx 99 #[.int .i64 17,.string ⟨#[]⟩,.slice none 0 0,.slice (some ⟨gy,0,none⟩) 1 1]):=by rw [<- hWq];exact aP hXy _ _ _ _
         have HRQ:=hD ((htr.chgS hir hc4 (Nat.le_refl _) (fun i a1 a2=>a1.2 a2)).more hc4.size);have HIQ:Hid (gG (g0<=·) (TX.node 17 ⟨#[]⟩ none [] 0 (some ⟨gy,0,none⟩) [x] 1)):=hir.mono (fun b h=>h.1);have HBQ:=hD hbd;have HSQ:Hid (e3=0->(TX.node 17 ⟨#[]⟩ none [] 0 (some ⟨gy,0,none⟩) [x] 1).plain.size<=3*(a3 - a2)+1):=fun h0=>by
          have:=HZ3.out h0;rw [TX.plain_eq];simp only [TX.kids,TX.kind,TX.text,TX.leads,List.map_cons,List.map_nil,T.size,T.sizes];omega
         have HXY:=hD hXy;have HWy:=hD hWy;have HWq:=hD hWq;clear hWy hWq hYy hXy hRy hc4 hc5 hxl hix hg5 hir htr hbd;obtain ⟨x0,x1,x2,x3⟩:=HXx.out.c4;obtain ⟨v0,v1,v2,v3⟩:=HXY.out.c4;obtain ⟨q0,q1,q2,q3⟩:=HXY.out.f4;go_wp2_with (first | rw [HWy.out,hgy] | rw [HWy.out] | rw [HWq.out]);go_meet;exact ⟨.node 17 ⟨#[]⟩ none [] 0 (some ⟨gy,0,none⟩) [x] 1,HXQ,HTQ,HRQ,HIQ,HBQ,HSQ⟩
        ·go_wp2_with fail;go_meet;exact ⟨x,HXx,HTx,HRx,HI3,HB3,fun h0=>Nat.le_succ_of_le (HZ3.out h0)⟩
       case rest=>
        clear HXx HTx HRx HI3 HB3 HZ3 y0 y1 y2 y3 HG4;obtain ⟨x,HXX,HT,HRX,HIX,HBX,HZX⟩:=hcut;have t3:=HT.out.ut.box.cell 3;simp at t3;have ft3:=bA (M:=fun i=>i=gp) t3 (by have:=HT.out.gpl;have:=HT.out.lol;have:=HT.out.ggt;omega);obtain ⟨x0,x1,x2,x3⟩:=HXX.out.c4;have fx0:=bA (M:=fun i=>i=gp) x0 (by have:=HT.out.gpl;have:=HT.out.lol;have:=HT.out.ggr;have:=HG1.out;have:=HG5.out;omega);have fx1:=bA (M:=fun i=>i=gp) x1 (by have:=HT.out.gpl;have:=HT.out.lol;have:=HT.out.ggr;have:=HG1.out;have:=HG5.out;omega);have fx2:=bA (M:=fun i=>i=gp) x2 (by have:=HT.out.gpl;have:=HT.out.lol;have:=HT.out.ggr;have:=HG1.out;have:=HG5.out;omega);have fx3:=bA (M:=fun i=>i=gp) x3 (by have:=HT.out.gpl;have:=HT.out.lol;have:=HT.out.ggr;have:=HG1.out;have:=HG5.out;omega);clear t3 x0 x1 x2 x3;go_wp2_with fail;refine cS (fun i=>i=gp) 4 (.one [0,1,2,3] 4 (.last [])) (.one [] 5 (.two [6,8] 7 (.one [] 9 (.last [])) 9 (.one [] 7 (.last [])))) (by kernel_rfl) (by kernel_rfl) ?_;refine bL ?_;simp only [sN]
        repeat (go_big_quiet_step (fail))
        refine wpQuiet_nil ?_;obtain ⟨wx,hWx⟩:=nm (wc.drew.alloc (.cells #[.int .i64 0,.string ⟨#[]⟩,.slice none 0 0,.slice none 0 0] 99));obtain ⟨gz,hgz⟩:=nm wc.drew.heap.size;have HZB:Hid (aK wx gz 99 #[.int .i64 0,.string ⟨#[]⟩,.slice none 0 0,.slice none 0 0]):=by rw [<- hWx,<- hgz];exact aK.new _ _ _
        have HNX:Hid (Below wc.heap.size wc wx):=by rw [<- hWx];exact bK (cC (Below.refl _ _)) _
        have HCX:Hid (aT wc wx (fun i=>i=gp)):=aT.of_new HNX.out _;have HR5:Hid (Tr wx wx.heap.size x):=HRX.out.up (Nat.le_refl _) HNX.out;refine aE rfl (by simp [go_sem];exact ⟨rfl,hWx⟩) ⟨⟨_,HCX.out⟩,rfl⟩ ?_;simp only [sP]
        try simp at hgz
        simp only [hgz];clear hWx hgz;refine bI ?_;simp only [sN];refine wpQuiet_nil ?_;have HU5:=hD (HT.out.ut.chg HCX.out (fun i h=>.inl (by have:=HT.out.gpl;omega)));clear ft3 fx0 fx1 fx2 fx3;refine aD ?_;simp only [sN]
        repeat (go_big_quiet_step (fail))
        refine wpQuiet_nil ?_;refine aA rfl ?_;at_builtin;refine eJ rfl rfl rfl HU5.out (by simp [Act.eval]) (by simp [Act.eval]) HZB.out (by omega) ?_;intro g7 c7 w7 HKO;obtain ⟨h01,h02,h03⟩:=Fd ks.length;obtain ⟨z0,z1,z2,z3,f0,f1,f2,f3⟩:=HKO.z;refine ⟨⟨_,rfl⟩,?_⟩;simp only [sP];refine bF ?_;simp only [sN]
        repeat (go_big_quiet_step (fail))
        refine wpQuiet_nil ?_;apply And.intro
        case' left=>
         refine aA rfl ?_;go_wp2_with fail;refine ⟨⟨_,rfl⟩,?_⟩;obtain ⟨b3,q3⟩:=HKO.zb x;refine aD ?_;simp only [sN]
         repeat (go_big_quiet_step (fail))
         refine wpQuiet_nil ?_;refine aA rfl ?_;go_wp2_with fail;refine ⟨⟨_,rfl⟩,?_⟩;obtain ⟨wf,hWf,HKF⟩:=HKO.fin8 x;rw [hWf];clear hWf b3 q3
        case' right=>
         obtain ⟨b3,q3⟩:=HKO.b;refine aA rfl ?_;go_wp2_with fail;refine ⟨⟨_,rfl⟩,?_⟩;clear z0 z1 z2 z3 f0 f1 f2 f3 b3 q3;obtain ⟨z0,z1,z2,z3,f0,f1,f2,f3⟩:=HKO.bz;refine aD ?_;simp only [sN]
         repeat (go_big_quiet_step (fail))
         refine wpQuiet_nil ?_;refine aA rfl ?_;go_wp2_with fail;refine ⟨⟨_,rfl⟩,?_⟩;obtain ⟨wf,hWf,HKF⟩:=HKO.fin10 x;rw [hWf];clear hWf
        all_goals
         refine aM ?_;simp only [sN];refine wpQuiet_nil ?_;go_wp2_with fail;refine NoPanic.normal ?_;have HCF:=hD HKF.cf;have HXF:=hD HKF.xf;have HOF:=hD HKF.of;have HN7:=hD HKF.new;have HITX:=hD (HT.out.below HNX.out);have HIF:Hid (IT w wf gp Kt n A c tl a3 st3 e3 K lo gt gr k s (.slice LA ls.length lc) ls (.slice KA 0 kc) (.slice (some ⟨g7,0,none⟩) (ks.length+1) c7) (ks++[x]) (.slice CA2 cs2.length cc2) cs2):=HITX.out.kid HR5.out HIX.out HBX.out HG1.out HG2.out HG3.out HCF.out HXF.out HOF.out HN7.out;have HNF:=hD (HN.out.kid HE1.out HPS.out.le hcs HAV.out HA3.out HZX.out);clear z0 z1 z2 z3 f0 f1 f2 f3;obtain ⟨k6,hk6⟩:=nm (ks++[x]);have hlen:ks.length+1=k6.length:=by rw [<- hk6];simp
         rw [hk6] at HIF HNF;rw [hlen] at HIF ⊢;have HM6:=hD (sK HPS.out HIF.out.ps HE1.out (fun h0=>by
          have h1:=HA3.out.2.2 h0;rcases HAV.out with ⟨-,h2,-⟩ | h2
          ·omega
          ·have:=h2.1;omega))
         clear hk6 hlen;go_wp2_with fail;go_roundw
         case rel=>exact ⟨a3,st3,e3,some ⟨g7,0,none⟩,c7,k6,CA2,cc2,cs2,rfl,HIF,HNF⟩
         case measure=>exact HM6.out
theorem Bg (hn:n<=1000000) (hK:Kt<=K) (m:Nat):EC 138 gp Kt n A c tl K m/\EC 158 gp Kt n A c tl K m/\IC gp Kt n A c tl K m:=by
 induction m using Nat.strongRecOn with
 | ind m ih=>
 have hU:=Cj hn hK m (fun m' h=>(ih m' h).1) (fun m' h=>(ih m' h).2.2);have hE:=CC hn hK m (fun m' h=>(ih m' h).1) hU;exact ⟨hE,hU,Bp hn hK m hE⟩
theorem B5 (w:World) (h:PS w gp Kt n A c tl a st e) (hn:n<=1000000) (hK:Kt<=K):
  Calls Tryz.prog 138 #[.pointer (some ⟨gp,0,none⟩)] w (bZ w gp Kt n A c tl a e K):=
 (Bg hn hK (n+1)).1 a st e w h (fun _=>by omega)
theorem Cl (w:World) (h:PS w gp Kt n A c tl a st e) (hn:n<=1000000) (hK:Kt<=K):
  Calls Tryz.prog 137 #[.pointer (some ⟨gp,0,none⟩)] w (bZ w gp Kt n A c tl a e K):=
 Ck hn hK (n+1) a st e w h (fun _=>by omega)
structure XT (wr:World) (gp Kt n:Nat) (A:Option Addr) (c:Nat) (tl:ByteArray) (a:Nat) (st e:Int) (K lo gt:Nat) (k:Int) (s:ByteArray) (L:Value) (ls:List ByteArray) (Kd:Value) (ks:List TX):Prop where
 ps:PS wr gp Kt n A c tl a st e
 ut:UT wr K lo gt k s L ls Kd ks
 gpl:gp < lo
section
variable {w wr w':World} {gp Kt n:Nat} {A:Option Addr} {c:Nat} {tl:ByteArray} {a:Nat} {st e:Int} {K lo gt:Nat} {k:Int} {s:ByteArray} {L:Value} {ls:List ByteArray} {Kd:Value} {ks:List TX}
theorem XT.below (h:XT wr gp Kt n A c tl a st e K lo gt k s L ls Kd ks) (hb:Below wr.heap.size wr w'):XT w' gp Kt n A c tl a st e K lo gt k s L ls Kd ks:=⟨h.ps.below hb,h.ut.below hb,h.gpl⟩
theorem XT.must (h:XT wr gp Kt n A c tl a st e K lo gt k s L ls Kd ks) (hm:jE wr gp Kt n A c tl a e K lo gt k L ls Kd ks S r w'):
  ∃ (a':Nat) (st' e':Int) (s':ByteArray) (L':Value) (ls':List ByteArray),r=.returned (.tuple #[])/\XT w' gp Kt n A c tl a' st' e' K lo gt k s' L' ls' Kd ks/\fK n a e a' e'/\ls'.length<=ls.length+1/\S s'/\aT wr w' (fun i=>i=gp\/lo<=i):=by
 obtain ⟨a',st',e',s',L',ls',rfl,hp,hu,ha,hl,hc,-,hS⟩:=hm;refine ⟨a',st',e',s',L',ls',rfl,⟨hp,hu,h.gpl⟩,ha,hl,hS,hc.mono (fun i h2=>?_)⟩;rcases h2 with h2 | h2 | h2
 ·exact .inl h2
 ·have:=h.ut.glo;right;omega
 ·exact .inr (aU h.ut.lead i h2)
theorem XT.kid (h:XT wr gp Kt n A c tl a st e K lo gt k s L ls Kd ks) (hm:dT wr gp Kt n A c tl a e K lo gt k s L ls Kd ks w'):
  ∃ (t:TX) (a':Nat) (st' e':Int) (Kd':Value),XT w' gp Kt n A c tl a' st' e' K lo gt k s L ls Kd' (ks++[t])/\fK n a e a' e'/\(e'=0->t.plain.size<=3*(a' - a))/\aT wr w' (fun i=>i=gp\/lo<=i):=by
 obtain ⟨t,a',st',e',Kd',hp,hu,ha,hz,hc⟩:=hm;refine ⟨t,a',st',e',Kd',⟨hp,hu,h.gpl⟩,ha,hz,hc.mono (fun i h2=>?_)⟩;rcases h2 with h2 | h2 | h2
 ·exact .inl h2
 ·have:=h.ut.glo;right;omega
 ·exact .inr (aU h.ut.kids.row i h2)
theorem UT.tree {lc kc:Nat} (h:UT wr K lo gt k s (.slice LA ls.length lc) ls (.slice KA ks.length kc) ks) (hk:aO k) (hl:ls.length<=1000000000) (hkl:ks.length<=1000000000):
  Tr wr wr.heap.size (.node k s LA ls lc KA ks kc)/\gG (lo<=·) (.node k s LA ls lc KA ks kc)/\fG K (.node k s LA ls lc KA ks kc):=by
 obtain ⟨⟨LA',lc',e1,h1⟩,⟨KA',kc',e2,h2⟩⟩:=h.forms;injection e1 with _ _ e1;injection e2 with _ _ e2;subst e1 e2;refine ⟨.mk _ (aG.of_own h.kids.row) (aG.of_own h.lead) (by show ks.length*72<=_;omega) h2 (by show ls.length*16<=_;omega) hk (fun x hx=>(h.kids.kid x hx).1),.mk _ (fun ad e hn=>by
   have e:KA=some ad:=e;subst e;rcases h.kids.row.2 with ⟨h0,-⟩ | ⟨g,cap,cur,h0,hb,-⟩
   ·cases h0
   ·injection h0 with h0;injection h0 with h0;rw [h0];exact hb) (fun ad e hn=>by
   have e:LA=some ad:=e;subst e;rcases h.lead.2 with ⟨h0,-⟩ | ⟨g,cap,cur,h0,hb,-⟩
   ·cases h0
   ·injection h0 with h0;injection h0 with h0;rw [h0];exact hb) (fun x hx=>(h.kids.kid x hx).2.mono (fun b hb=>hb.1)),.mk _ h.ts h.tl h.tks⟩
end
structure DT (w wr:World) (gp Kt n:Nat) (A:Option Addr) (c:Nat) (tl:ByteArray) (a:Nat) (st e:Int) (K gt:Nat) (k:Int) (s:ByteArray) (L:Value) (ls:List ByteArray) (Kd:Value) (ks:List TX) (C:Value) (cs:List ByteArray):Prop where
 ft:FT w wr gp Kt n A c tl a st e K gt k s L ls Kd ks
 com:wr.ownsRow (w.heap.size+1) 9 1 C cs.length (cs.map Value.string)
 cbd:∀ b∈cs,b.size<=K
 sc:∀ x∈ks,gG (fun b=>C.ownBlock≠some b) x
 lc:∀ g,L.ownBlock=some g->C.ownBlock≠some g
section
variable {w wr wq:World} {gp Kt n:Nat} {A:Option Addr} {c:Nat} {tl:ByteArray} {a:Nat} {st e:Int} {K gt:Nat} {k:Int} {s:ByteArray} {L:Value} {ls:List ByteArray} {Kd:Value} {ks:List TX} {C:Value} {cs:List ByteArray}
theorem DT.kc (h:DT w wr gp Kt n A c tl a st e K gt k s L ls Kd ks C cs):∀ g,Kd.ownBlock=some g->C.ownBlock≠some g:=fun g e1 e2=>by
 rcases h.com.2 with ⟨rfl,-⟩ | ⟨g1,cap,cur,rfl,-,hh,-⟩
 ·simp [Value.ownBlock] at e2
 ·simp [Value.ownBlock] at e2;subst e2;exact aX h.ft.ut.kids.row (show aK wr g1 _ cur from hh) (by decide) e1
theorem DT.gc (h:DT w wr gp Kt n A c tl a st e K gt k s L ls Kd ks C cs):C.ownBlock≠some gt:=fun e=>aX h.com h.ft.ut.box (by decide) e
theorem DT.fail (h:DT w wr gp Kt n A c tl a st e K gt k s L ls Kd ks C cs) (hp:PS wq gp Kt n A c tl a' st' e') (hc:aT wr wq (fun i=>i=gp)):DT w wq gp Kt n A c tl a' st' e' K gt k s L ls Kd ks C cs:=by
 have hg:=h.ft.gp;have hf:FT w wq gp Kt n A c tl a' st' e' K gt k s L ls Kd ks:=⟨hp,h.ft.ut.chg hc (fun i e=>.inl (by omega)),h.ft.chg.trans hc (fun i _ h=>h),h.ft.res.chg hc (by omega),h.ft.gp⟩;exact ⟨hf,bV h.com hc (fun g e1 e2=>by have:=aU h.com g e1;have:=h.ft.gp;omega),h.cbd,h.sc,h.lc⟩
theorem DT.below (h:DT w wr gp Kt n A c tl a st e K gt k s L ls Kd ks C cs) (hb:Below wr.heap.size wr wq):DT w wq gp Kt n A c tl a st e K gt k s L ls Kd ks C cs:=h.fail (h.ft.ps.below hb) (aT.of_new hb _)
theorem DT.comma (h:DT w wr gp Kt n A c tl a st e K gt k s L ls Kd ks C cs) (hg:aR wr wq C C') (ho:wq.ownsRow (w.heap.size+1) 9 1 C' (cs.length+ds.length) (cs.map Value.string++ds.map Value.string)) (hd:∀ b∈ds,b.size<=K):
  DT w wq gp Kt n A c tl a st e K gt k s L ls Kd ks C' (cs++ds):=by
 have h1:=h.ft.gp;have h2:=h.ft.glt;have hC:∀ i,C.ownBlock=some i->w.heap.size+1<=i:=aU h.com;have hc:aT wr wq (fun i=>C.ownBlock=some i):=aT.of_grown hg.grown (fun g e=>e);have hu:=h.ft.ut;have hkids:∀ x∈ks,Tr wq wq.heap.size x:=fun x hx=>((hu.kids.kid x hx).1.chgS (h.sc x hx) hc (Nat.le_refl _) (fun i a1 a2=>a1 a2)).more hc.size;refine ⟨⟨h.ft.ps.chg hc (fun i e=>by have:=hC i e;omega),⟨hu.box.chg hc h.gc,bV hu.lead hc (fun g e1 e2=>h.lc g e1 e2),⟨bV hu.kids.row hc (fun g e1 e2=>h.kc g e1 e2),fun x hx=>⟨hkids x hx,(hu.kids.kid x hx).2⟩⟩,hu.sep,hu.glo,hu.ts,hu.tl,hu.tks,hu.kg⟩,h.ft.chg.trans hc (fun i a1 a2=>by have:=hC _ a2;omega),h.ft.res.chg hc (fun e=>by have:=hC _ e;omega),h.ft.gp⟩,by rw [List.length_append,List.map_append];exact ho,fun b hb=>?_,fun x hx=>?_,fun g e1 e2=>?_⟩
 ·rcases List.mem_append.1 hb with hb | hb
  ·exact h.cbd b hb
  ·exact hd b hb
 ·refine ((hu.kids.kid x hx).1.ins.and (h.sc x hx) (R:=fun b=>b < wr.heap.size/\C.ownBlock≠some b) (fun b a1 a2=>⟨a1,a2⟩)).mono (fun b hb e=>?_);rcases hg.own b e with a1 | a1
  ·exact hb.2 a1
  ·omega
 ·rcases hg.own g e2 with a1 | a1
  ·exact h.lc g e1 a1
  ·have:=cK hu.lead g e1;omega
theorem DT.kid (h:DT w wr gp Kt n A c tl a st e K gt k s L ls Kd ks C cs) (hx:Tr wr wr.heap.size x) (hi:gG (g0<=·) x) (hb:fG K x) (h0:gt < g0) (h1:∀ g,C.ownBlock=some g->g < g0) (h2:∀ g,Kd.ownBlock=some g->g < g0) (h3:∀ g,L.ownBlock=some g->g < g0)
  (hc:aT wr wq (fun i=>i=gt\/Kd.ownBlock=some i)) (hbox:aK wq gt 99 #[.int .i64 k,.string s,L,v3]) (ho:wq.ownsRow (w.heap.size+1) 99 4 v3 (ks.length+1) (ks.flatMap TX.cells++x.cells)) (hnew:∀ g,v3.ownBlock=some g->Kd.ownBlock=some g\/wr.heap.size<=g):
  DT w wq gp Kt n A c tl a st e K gt k s L ls v3 (ks++[x]) C cs:=by
 have p1q:=h.ft.gp;have p2:=h.ft.glt;have hu:=h.ft.ut;have hKf:=aU hu.kids.row;refine ⟨⟨h.ft.ps.chg hc (fun i e=>?_),hu.kid hx (hi.mono (fun b a1=>⟨by omega,by omega,fun e=>by have:=h3 b e;omega,fun e=>by have:=h2 b e;omega⟩)) hb hc hbox ho hnew,h.ft.chg.trans hc (fun i a1 a2=>?_),h.ft.res.chg hc (fun e=>?_),h.ft.gp⟩,bV h.com hc (fun g e1 e2=>?_),h.cbd,fun y hy=>?_,h.lc⟩
 ·rcases e with e | e
  ·omega
  ·have:=hKf i e;omega
 ·rcases a2 with a2 | a2
  ·omega
  ·have:=hKf i a2;omega
 ·rcases e with e | e
  ·omega
  ·have:=hKf _ e;omega
 ·rcases e2 with e2 | e2
  ·exact h.gc (e2 ▸ e1)
  ·exact h.kc g e2 e1
 ·rcases List.mem_append.1 hy with hy | hy
  ·exact h.sc y hy
  ·simp at hy;subst hy;exact hi.mono (fun b a1 e=>by have:=h1 b e;omega)
end
structure DK (w wr:World) (gp Kt n:Nat) (A:Option Addr) (c:Nat) (tl:ByteArray) (a:Nat) (st e:Int) (K gt:Nat) (k:Int) (s:ByteArray) (L:Value) (ls:List ByteArray) (Kd:Value) (ks:List TX) (C:Value) (cs:List ByteArray):Prop where
 ft:FT w wr gp Kt n A c tl a st e K gt k s L ls Kd ks
 com:wr.ownsRow (w.heap.size+1) 9 1 C cs.length (cs.map Value.string)
 cbd:∀ b∈cs,b.size<=K
 lc:∀ g,L.ownBlock=some g->C.ownBlock≠some g
section
variable {w wr wq w' w3:World} {gp Kt n:Nat} {A:Option Addr} {c:Nat} {tl:ByteArray} {a:Nat} {st e:Int} {K gt:Nat} {k:Int} {s:ByteArray} {L:Value} {ls:List ByteArray} {Kd:Value} {ks:List TX} {C:Value} {cs:List ByteArray}
theorem DT.dk (h:DT w wr gp Kt n A c tl a st e K gt k s L ls Kd ks C cs):DK w wr gp Kt n A c tl a st e K gt k s L ls Kd ks C cs:=⟨h.ft,h.com,h.cbd,h.lc⟩
theorem DK.kc (h:DK w wr gp Kt n A c tl a st e K gt k s L ls Kd ks C cs):∀ g,Kd.ownBlock=some g->C.ownBlock≠some g:=fun g e1 e2=>by
 rcases h.com.2 with ⟨rfl,-⟩ | ⟨g1,cap,cur,rfl,-,hh,-⟩
 ·simp [Value.ownBlock] at e2
 ·simp [Value.ownBlock] at e2;subst e2;exact aX h.ft.ut.kids.row (show aK wr g1 _ cur from hh) (by decide) e1
theorem DK.gc (h:DK w wr gp Kt n A c tl a st e K gt k s L ls Kd ks C cs):C.ownBlock≠some gt:=fun e=>aX h.com h.ft.ut.box (by decide) e
theorem DK.below (h:DK w wr gp Kt n A c tl a st e K gt k s L ls Kd ks C cs) (hb:Below wr.heap.size wr wq):DK w wq gp Kt n A c tl a st e K gt k s L ls Kd ks C cs:=
 ⟨h.ft.below hb,bV h.com (aT.of_new hb (fun _=>False)) (fun _ _ h=>h),h.cbd,h.lc⟩
theorem DK.must (h:DK w wr gp Kt n A c tl a st e K gt k s L ls Kd ks C cs) (hm:jE wr gp Kt n A c tl a e K (w.heap.size+1) gt k L ls Kd ks S r w'):
  ∃ (a':Nat) (st' e':Int) (s':ByteArray) (L':Value) (ls':List ByteArray),r=.returned (.tuple #[])/\DK w w' gp Kt n A c tl a' st' e' K gt k s' L' ls' Kd ks C cs/\fK n a e a' e'/\ls'.length<=ls.length+1/\S s':=by
 obtain ⟨a',st',e',s',L',ls',rfl,hp,hu,ha,hl,hc,hn,hS⟩:=hm;have hL:∀ i,L.ownBlock=some i->w.heap.size < i:=fun i hi=>by have:=aU h.ft.ut.lead i hi;omega
 have hgt:=h.ft.glt;have hg:=h.ft.gp;refine ⟨a',st',e',s',L',ls',rfl,⟨⟨hp,hu,h.ft.chg.trans hc (fun i h1 h2=>?_),h.ft.res.chg hc (fun h2=>?_),h.ft.gp⟩,bV h.com hc (fun g e1 e2=>?_),h.cbd,fun g e1 e2=>?_⟩,ha,hl,hS⟩
 ·rcases h2 with h2 | h2 | h2
  ·exact h2
  ·omega
  ·have:=hL i h2;omega
 ·rcases h2 with h2 | h2 | h2
  ·omega
  ·omega
  ·have:=hL _ h2;omega
 ·have:=aU h.com g e1;rcases e2 with e2 | e2 | e2
  ·omega
  ·exact h.gc (e2 ▸ e1)
  ·exact h.lc g e2 e1
 ·rcases hn g e1 with h1 | h1
  ·exact h.lc g h1 e2
  ·have:=cK h.com g e2;omega
theorem DK.kid (h:DK w wr gp Kt n A c tl a st e K gt k s L ls Kd ks C cs) (hm:dT wr gp Kt n A c tl a e K (w.heap.size+1) gt k s L ls Kd ks w'):
  ∃ (t:TX) (a':Nat) (st' e':Int) (Kd':Value),DK w w' gp Kt n A c tl a' st' e' K gt k s L ls Kd' (ks++[t]) C cs/\fK n a e a' e'/\(e'=0->t.plain.size<=3*(a' - a)):=by
 obtain ⟨t,a',st',e',Kd',hp,hu,ha,hz,hc⟩:=hm;have hL:∀ i,Kd.ownBlock=some i->w.heap.size < i:=fun i hi=>by have:=aU h.ft.ut.kids.row i hi;omega
 have hgt:=h.ft.glt;have hg:=h.ft.gp;refine ⟨t,a',st',e',Kd',⟨⟨hp,hu,h.ft.chg.trans hc (fun i h1 h2=>?_),h.ft.res.chg hc (fun h2=>?_),h.ft.gp⟩,bV h.com hc (fun g e1 e2=>?_),h.cbd,h.lc⟩,ha,hz⟩
 ·rcases h2 with h2 | h2 | h2
  ·exact h2
  ·omega
  ·have:=hL i h2;omega
 ·rcases h2 with h2 | h2 | h2
  ·omega
  ·omega
  ·have:=hL _ h2;omega
 ·have:=aU h.com g e1;rcases e2 with e2 | e2 | e2
  ·omega
  ·exact h.gc (e2 ▸ e1)
  ·exact h.kc g e2 e1
theorem FT.leadsN (h:FT w wr gp Kt n A c tl a st e K gt k s L ls Kd ks) (hg:aR wr w3 L L') (ho:w3.ownsRow (w.heap.size+1) 9 1 L' (ls.length+cs.length) (ls.map Value.string++cs.map Value.string)) (ht:∀ b∈cs,b.size<=K):
  FT w (w3.setCell ⟨gt,2,none⟩ L') gp Kt n A c tl a st e K gt k s L' (ls++cs) Kd ks:=by
 obtain ⟨hu,hc⟩:=h.ut.leadsN hg ho ht;have hL:∀ i,L.ownBlock=some i->w.heap.size < i:=fun i hi=>by have:=aU h.ut.lead i hi;omega
 have hgt:=h.glt;have hgp:=h.gp;refine ⟨h.ps.chg hc (fun i h2=>?_),hu,h.chg.trans hc (fun i h1 h2=>?_),h.res.chg hc (fun h2=>?_),h.gp⟩
 ·rcases h2 with h2 | h2
  ·omega
  ·have:=hL i h2;omega
 ·rcases h2 with h2 | h2
  ·omega
  ·have:=hL i h2;omega
 ·rcases h2 with h2 | h2
  ·omega
  ·have:=hL _ h2;omega
end
end
end Go.Proofs.YtkgpoimmniojjaaGreat
