/- No condition. -/
import Derived.Test.YtkgpoimmniojjaaGreatZaAM
import Derived.Test.YtkgpoimmniojjaaGreatZaAV
import Derived.Test.YtkgpoimmniojjaaGreatZaAW
namespace Go.Proofs.YtkgpoimmniojjaaGreat
set_option linter.unusedVariables false
set_option linter.unusedSimpArgs false
set_option maxRecDepth 100000
set_option maxHeartbeats 16000000
section
open Go.RowKit
variable {n K gp c a g B:Nat} {A:Option Addr} {w w':World} {tl:ByteArray} {st e:Int} {M:Nat->Prop} {xs:List Value} {t:TypeId}
inductive gG (S:Nat->Prop):TX->Prop where
 | mk (t:TX) (hk:∀ ad,t.kA=some ad->0 < t.kids.length->S ad.block) (hl:∀ ad,t.lA=some ad->0 < t.leads.length->S ad.block) (sub:∀ k∈t.kids,gG S k):gG S t
section
variable {w w':World} {B:Nat} {S S':Nat->Prop} {t:TX}
theorem gG.and {R:Nat->Prop} (h:gG S t) (h':gG S' t) (hr:∀ b,S b->S' b->R b):gG R t:=by
 induction h with
 | mk t hk hl sub ih=>
  cases h' with
  | mk _ hk' hl' sub'=>exact .mk t (fun ad e hn=>hr _ (hk ad e hn) (hk' ad e hn)) (fun ad e hn=>hr _ (hl ad e hn) (hl' ad e hn)) (fun k hk=>ih k hk (sub' k hk))
theorem gG.mono (h:gG S t) (hr:∀ b,S b->S' b):gG S' t:=h.and h (fun b h _=>hr b h)
theorem Tr.ins (h:Tr w B t):gG (· < B) t:=by
 induction h with
 | mk t hk hl kb kc lb kr sub ih=>
  exact .mk t (fun ad e hn=>by obtain ⟨ad',e',hb,-⟩:=hk.2 hn;rw [e] at e';injection e' with e';subst e';exact hb) (fun ad e hn=>by obtain ⟨ad',e',hb,-⟩:=hl.2 hn;rw [e] at e';injection e' with e';subst e';exact hb) (fun k hk=>ih k hk)
theorem aG.keepS {size:Nat} (h:aG w B size A n xs) (hs:∀ ad,A=some ad->0 < n->S ad.block) (hk:∀ p:Addr,S p.block->p.block < B->w'.cell? p=w.cell? p):aG w' B size A n xs:=
 ⟨h.1,fun hn=>by
  obtain ⟨ad,e,hb,hc⟩:=h.2 hn;exact ⟨ad,e,hb,fun j u hu=>(hk _ (by rw [bU];exact hs ad e hn) (by rw [bU];exact hb)).trans (hc j u hu)⟩⟩
theorem Tr.keepS (h:Tr w B t) (hs:gG S t) (hk:∀ p:Addr,S p.block->p.block < B->w'.cell? p=w.cell? p):Tr w' B t:=by
 induction h with
 | mk t h1 h2 kb kc lb kr sub ih=>
  cases hs with
  | mk _ s1q s2 s3=>exact .mk t (h1.keepS s1q hk) (h2.keepS s2 hk) kb kc lb kr (fun k hk'=>ih k hk' (s3 k hk'))
end
theorem qK:(Tryz.prog.info? 99).map (fun i=>(i.zero,i.size,i.bytes))=some (some (.agg #[.int .i64 0,.string ⟨#[]⟩,.slice none 0 0,.slice none 0 0]),4,72):=by kernel_rfl
theorem aP {a0 a1 a2 a3:Value} (h:aK w g t #[a0,a1,a2,a3]) (b0 b1 b2 b3:Value):aK ((((w.setCell ⟨g,0,none⟩ b0).setCell ⟨g,1,none⟩ b1).setCell ⟨g,2,none⟩ b2).setCell ⟨g,3,none⟩ b3) g t #[b0,b1,b2,b3]:=
 (((h.set_ 0 b0).set_ 1 b1).set_ 2 b2).set_ 3 b3
theorem cP (w:World) (g:Nat) (b0 b1 b2 b3:Value):aT w ((((w.setCell ⟨g,0,none⟩ b0).setCell ⟨g,1,none⟩ b1).setCell ⟨g,2,none⟩ b2).setCell ⟨g,3,none⟩ b3) (fun i=>i=g):=
 ((((aT.refl w (fun i=>i=g)).setCell (p:=⟨g,0,none⟩) (.inl rfl) b0).setCell (p:=⟨g,1,none⟩) (.inl rfl) b1).setCell (p:=⟨g,2,none⟩) (.inl rfl) b2).setCell (p:=⟨g,3,none⟩) (.inl rfl) b3
theorem Tr.chgS {S:Nat->Prop} {t:TX} (h:Tr w B t) (hs:gG S t) (hc:aT w w' M) (hB:B<=w.heap.size) (hm:∀ i,S i->¬ M i):Tr w' B t:=
 h.keepS hs (fun p hp hp2=>World.cell?_of_block (hc.block p.block (by omega) (hm _ hp)))
structure TL (w:World) (lo base:Nat) (v:Value) (rs:List TX):Prop where
 row:w.ownsRow base 99 4 v rs.length (rs.flatMap TX.cells)
 kid:∀ k∈rs,Tr w w.heap.size k/\gG (fun b=>lo<=b/\v.ownBlock≠some b) k
section
variable {w w' w1 w3:World} {lo base:Nat} {v v3:Value} {rs:List TX} {r:TX}
theorem TL.nil (w:World) (lo base:Nat):TL w lo base (.slice none 0 0) []:=⟨⟨rfl,.inl ⟨rfl,rfl⟩⟩,fun k hk=>by cases hk⟩
theorem TL.below (h:TL w lo base v rs) (hb:Below w.heap.size w w'):TL w' lo base v rs:=
 ⟨eV h.row hb (cK h.row),fun k hk=>⟨(h.kid k hk).1.up (Nat.le_refl _) hb,(h.kid k hk).2⟩⟩
theorem TL.chg (h:TL w lo base v rs) (hc:aT w w' M) (hv:∀ g,v.ownBlock=some g->¬ M g) (hm:∀ i,M i->i < lo\/w.heap.size<=i):TL w' lo base v rs:=by
 refine ⟨?_,fun k hk=>⟨((h.kid k hk).1.chgS ((h.kid k hk).1.ins.and (h.kid k hk).2 (R:=fun b=>b < w.heap.size/\lo<=b) (fun b h1 h2=>⟨h1,h2.1⟩)) hc (Nat.le_refl _) (fun i hi hx=>?_)).more hc.size,(h.kid k hk).2⟩⟩
 ·have hlt:=cK h.row;refine ⟨h.row.1,?_⟩;rcases h.row.2 with h0 | ⟨g,cap,cur,rfl,hb,hh,rest⟩
  ·exact .inl h0
  ·exact .inr ⟨g,cap,cur,rfl,hb,(hc.block g (hlt g (by simp [Value.ownBlock])) (hv g (by simp [Value.ownBlock]))).trans hh,rest⟩
 ·have:=hm i hx;omega
theorem TL.step (h:TL w1 lo base v rs) (hr:Tr w1 w1.heap.size r) (hi:gG (fun b=>lo<=b/\v.ownBlock≠some b) r) (o:Obj) (ho:w3.ownsRow base 99 4 v3 (rs.length+1) (rs.flatMap TX.cells++r.cells)) (hg:aR (w1.alloc o) w3 v v3):
  TL w3 lo base v3 (rs++[r]):=by
 have hsz:(w1.alloc o).heap.size=w1.heap.size+1:=by simp
 have hgs:=hg.size;refine ⟨?_,fun x hx=>?_⟩
 ·rw [List.length_append,List.flatMap_append,List.flatMap_cons,List.flatMap_nil,List.append_nil];exact ho
 ·have key:Tr w1 w1.heap.size x/\gG (fun b=>lo<=b/\v.ownBlock≠some b) x:=by
   rcases List.mem_append.1 hx with hx | hx
   ·exact h.kid x hx
   ·simp at hx;subst hx;exact ⟨hr,hi⟩
  have hins:gG (fun b=>b < w1.heap.size/\lo<=b/\v.ownBlock≠some b) x:=key.1.ins.and key.2 (fun b h1 h2=>⟨h1,h2.1,h2.2⟩);refine ⟨(key.1.keepS hins (fun p hp _=>?_)).more (by omega),hins.mono (fun b hb=>⟨hb.2.1,fun e=>?_⟩)⟩
  ·rw [World.cell?_of_block (hg.grown.block p.block (by omega) (fun e=>hp.2.2 e.symm)),World.cell?_alloc_lt w1 o p hp.1]
  ·rcases hg.own b e with h1 | h1
   ·exact hb.2.2 h1
   ·omega
theorem AU (r:TX):∀ u∈r.cells,u.oneCell'=true:=by
 intro u hu;simp only [TX.cells,List.mem_cons,List.not_mem_nil,or_false] at hu;rcases hu with rfl | rfl | rfl | rfl <;> rfl
end
theorem V.tok_at {k len cap:Nat} {e:TypeId} (h:V w B (.sl n e (wE K)) (.slice A len cap)) (hk:k < len):∃ b off z0 s1q s2,A=some ⟨b,off,none⟩/\b < B/\w.cell? ⟨b,off+k*3,none⟩=some (.int .i64 z0)/\w.cell? ⟨b,off+k*3+1,none⟩=some (.string s1q)/\w.cell? ⟨b,off+k*3+2,none⟩=some (.string s2)/\aO z0/\s1q.size<=K/\s2.size<=K:=by
 obtain ⟨b,off,e1,hB,hc⟩:=h.at_ hk (by simp);obtain ⟨u0,h0,v0⟩:=hc 0 _ rfl;obtain ⟨u1,h1,v1⟩:=hc 1 _ rfl;obtain ⟨u2,h2,v2⟩:=hc 2 _ rfl;obtain ⟨z0,rfl,i0⟩:=v0.int_inv;obtain ⟨s1q,rfl,i1⟩:=v1.str_inv;obtain ⟨s2,rfl,i2⟩:=v2.str_inv;simp only [List.length_cons,List.length_nil,Nat.zero_add,Nat.reduceAdd,Nat.add_zero,<- Nat.add_assoc] at h0 h1 h2;exact ⟨b,off,z0,s1q,s2,e1,hB,h0,h1,h2,i0,i1,i2⟩
structure PS (w:World) (gp K n:Nat) (A:Option Addr) (c:Nat) (tl:ByteArray) (a:Nat) (st e:Int):Prop where
 box:aK w gp 142 #[.slice A n c,.int .i64 (a:Int),.string tl,.int .i64 st,.int .i64 e]
 tok:V w gp (.sl n 145 (wE K)) (.slice A n c)
 le:a<=n
 ist:aO st
 ie:aO e
 sok:e≠0->0<=st/\st<=n
def fK (n a:Nat) (e:Int) (a':Nat) (e':Int):Prop:=a<=a'/\a'<=n/\(e'=0->e=0/\a < a')
section
variable {w w':World} {gp K n:Nat} {A:Option Addr} {c:Nat} {tl:ByteArray} {a:Nat} {st e:Int} {M:Nat->Prop}
theorem PS.chg (h:PS w gp K n A c tl a st e) (hc:aT w w' M) (hM:∀ i,M i->gp < i):PS w' gp K n A c tl a st e:=
 ⟨h.box.chg hc (fun h'=>by have:=hM _ h';omega),h.tok.keep (fun g hg=>hc.block g (by have:=h.box.lt;omega) (fun h'=>by have:=hM _ h';omega)),h.le,h.ist,h.ie,h.sok⟩
theorem PS.below (h:PS w gp K n A c tl a st e) (hb:Below w.heap.size w w'):PS w' gp K n A c tl a st e:=h.chg (aT.of_new hb (fun _=>False)) (fun _ h=>h.elim)
theorem PS.lt (h:PS w gp K n A c tl a st e):gp < w.heap.size:=h.box.lt
theorem PS.put (h:PS w gp K n A c tl a st e) (hx:aK w' gp 142 #[.slice A n c,.int .i64 (a:Int),.string tl,.int .i64 st,.int .i64 e]):True:=trivial
end
theorem cU (s:ByteArray) (w:World) (h:PS w gp K n A c tl a st e) (hn:n<=1000000):
  Calls Tryz.prog 118 #[.pointer (some ⟨gp,0,none⟩),.string s] w (fun r w'=>∃ b,r=.returned (.bool b)/\Below w.heap.size w w'/\(b=true->e=0/\a < n)):=by
 have hle:=h.le;obtain ⟨x0,x1,x2,x3,x4⟩:=h.box.c5;by_cases he:e=0
 ·subst he;by_cases hlt:a < n
  ·obtain ⟨b,off,z0,s1q,s2,rfl,-,e0,e1,e2,-⟩:=h.tok.tok_at hlt;have hf:(0:Int)=0/\a < n:=⟨rfl,hlt⟩;clear h;go_enter Tryz.func118,Tryz.ntmps118;go_wp2_with fail;have q7:(z0 == 7)=true\/(z0 == 7)=false:=by cases (z0 == 7) <;> simp
   have q8:(z0 == 8)=true\/(z0 == 8)=false:=by cases (z0 == 8) <;> simp
   have qs:(s2.toList == s.toList)=true\/(s2.toList == s.toList)=false:=by cases (s2.toList == s.toList) <;> simp
   rcases q7 with q7 | q7 <;> rcases q8 with q8 | q8 <;> rcases qs with qs | qs
   all_goals
    go_quiet (fail);have HB:=hD (lE (Below.refl _ w) nq);go_wp2_with fail;go_ret;exact ⟨_,rfl,HB.out,fun _=>hf⟩
  ·have hf:∀ b:Bool,b=true->b=false->(0:Int)=0/\a < n:=fun b h1 h2=>by rw [h1] at h2;cases h2
   have d:decide ((a:Int) < (n:Int))=false:=decide_eq_false (by omega);clear h;go_enter Tryz.func118,Tryz.ntmps118;go_wp2_with fail;go_quiet (fail);have HB:=hD (lE (Below.refl _ w) nq);go_wp2_with fail;go_ret;exact ⟨_,rfl,HB.out,fun h=>by cases h⟩
 ·have d:(e == 0)=false:=by simpa using he
  clear h;go_enter Tryz.func118,Tryz.ntmps118;go_wp2_with fail;go_quiet (fail);have HB:=hD (lE (Below.refl _ w) nq);go_wp2_with fail;go_ret;exact ⟨_,rfl,HB.out,fun h=>by cases h⟩
theorem dB (w:World) (h:PS w gp K n A c tl a st e) (hn:n<=1000000):
  Calls Tryz.prog 136 #[.pointer (some ⟨gp,0,none⟩)] w (fun r w'=>∃ k,r=.returned (.int .i64 k)/\Below w.heap.size w w'/\(k≠0->e=0/\a < n)/\aO k):=by
 have hle:=h.le;obtain ⟨x0,x1,x2,x3,x4⟩:=h.box.c5;by_cases he:e=0
 ·subst he;by_cases hlt:a < n
  ·obtain ⟨b,off,z0,s1q,s2,rfl,-,e0,e1,e2,i0,-⟩:=h.tok.tok_at hlt;have hf:(0:Int)=0/\a < n:=⟨rfl,hlt⟩;have d:decide ((n:Int)<=(a:Int))=false:=decide_eq_false (by omega);clear h;go_enter Tryz.func136,Tryz.ntmps136;go_wp2_with fail;go_quiet (fail);go_wp2_with fail;obtain ⟨m1,hm1⟩:∃ x,x=nq:=⟨_,rfl⟩;subst hm1;go_quiet (fail);have HB:=hD (lE (lE (Below.refl _ w) m1) nq);go_wp2_with fail;go_ret;exact ⟨_,rfl,HB.out,fun _=>hf,i0⟩
  ·have d:decide ((n:Int)<=(a:Int))=true:=decide_eq_true (by omega);clear h;go_enter Tryz.func136,Tryz.ntmps136;go_wp2_with fail;go_quiet (fail);have HB:=hD (lE (Below.refl _ w) nq);go_wp2_with fail;go_ret;exact ⟨_,rfl,HB.out,fun h=>absurd rfl h,by unfold aO;omega⟩
 ·have d:(e != 0)=true:=by simpa using he
  clear h;go_enter Tryz.func136,Tryz.ntmps136;go_wp2_with fail;go_quiet (fail);have HB:=hD (lE (Below.refl _ w) nq);go_wp2_with fail;go_ret;exact ⟨_,rfl,HB.out,fun h=>absurd rfl h,by unfold aO;omega⟩
def Ca (w:World) (gp K n:Nat) (A:Option Addr) (c:Nat) (tl:ByteArray) (a:Nat) (r:Ending) (w':World):Prop:=∃ st' e':Int,r=.returned (.tuple #[])/\PS w' gp K n A c tl a st' e'/\e'≠0/\aT w w' (fun i=>i=gp)
theorem gE (er:Int) (w:World) (h:PS w gp K n A c tl a st e) (hn:n<=1000000) (hr:er≠0) (hri:aO er):
  Calls Tryz.prog 119 #[.pointer (some ⟨gp,0,none⟩),.int .i64 er] w (Ca w gp K n A c tl a):=by
 have hle:=h.le;have H:=hD h;obtain ⟨x0,x1,x2,x3,x4⟩:=h.box.c5;obtain ⟨q0,q1,q2,q3,q4⟩:=h.box.f5;by_cases he:e=0
 ·subst he;clear h;go_enter Tryz.func119,Tryz.ntmps119;go_wp2_with fail;refine bodyPost_ret (v:=.tuple #[]) (by simp [results,Tryz.results119,go_sem]) rfl ?_;refine ⟨(a:Int),er,rfl,⟨?_,?_,hle,by unfold aO;omega,hri,fun _=>⟨by omega,by omega⟩⟩,hr,?_⟩
  ·exact (H.out.box.set_ 4 _).set_ 3 _
  ·refine H.out.tok.keep (fun g hg=>?_);rw [Below.heap_setCell _ ⟨gp,3,none⟩ _ g (Nat.ne_of_lt hg),Below.heap_setCell _ ⟨gp,4,none⟩ _ g (Nat.ne_of_lt hg)]
  ·exact ((aT.refl w (fun i=>i=gp)).setCell (p:=⟨gp,4,none⟩) (.inl rfl) _).setCell (p:=⟨gp,3,none⟩) (.inl rfl) _
 ·have d:(e == 0)=false:=by simpa using he
  clear h;go_enter Tryz.func119,Tryz.ntmps119;go_wp2_with fail;refine bodyPost_ret (v:=.tuple #[]) (by simp [results,Tryz.results119,go_sem]) rfl ?_;exact ⟨st,e,rfl,H.out,he,aT.refl _ _⟩
def BQ (w:World) (gp K n:Nat) (A:Option Addr) (c:Nat) (tl:ByteArray) (a:Nat) (e:Int) (r:Ending) (w':World):Prop:=
 ∃ (k:Int) (s1q s2:ByteArray) (a':Nat) (st' e':Int),r=.returned (.agg #[.int .i64 k,.string s1q,.string s2])/\PS w' gp K n A c tl a' st' e'/\fK n a e a' e'/\s1q.size<=K/\s2.size<=K/\aT w w' (fun i=>i=gp)
theorem aK.val3 {a b c:Value} (h:aK w g t #[a,b,c]) (a' b' c':Value):aK (((w.setCell ⟨g,0,none⟩ a').setCell ⟨g,1,none⟩ b').setCell ⟨g,2,none⟩ c') g t #[a',b',c']:=
 ((h.set_ 0 a').set_ 1 b').set_ 2 c'
theorem iS (w:World) (h:PS w gp K n A c tl a st e) (hn:n<=1000000):
  Calls Tryz.prog 135 #[.pointer (some ⟨gp,0,none⟩)] w (BQ w gp K n A c tl a e):=by
 have hle:=h.le;obtain ⟨W,hW⟩:=nm (w.alloc (.cells #[.int .i64 0,.string ⟨#[]⟩,.string ⟨#[]⟩] 145));have HX0:=bk hW;have HBW:=bw hW;have H:=hD (h.below HBW.out);have HGP:Hid (gp < w.heap.size):=h.lt;have HW:=hD hW;clear hW h;obtain ⟨x0,x1,x2,x3,x4⟩:=H.out.box.c5;obtain ⟨q0,q1,q2,q3,q4⟩:=H.out.box.f5;by_cases hg:e=0/\a < n
 ·obtain ⟨rfl,hlt⟩:=hg;obtain ⟨b,off,z0,s1q,s2,rfl,hb,e0,e1,e2,i0,i1,i2⟩:=H.out.tok.tok_at hlt;have d:decide ((n:Int)<=(a:Int))=false:=decide_eq_false (by omega);have HI:Hid (s1q.size<=K/\s2.size<=K):=⟨i1,i2⟩;have HBG:Hid (b < gp):=hb;clear i0 i1 i2 hb;go_enter Tryz.func135,Tryz.ntmps135;go_wp2_with (rw [HW.out]);go_quiet (fail);obtain ⟨W2,hW2⟩:=nm (W.drewN nq);have HB2:Hid (Below W.heap.size W W2):=by subst hW2;exact lE (Below.refl _ _) nq
  have H2:=hD (H.out.below HB2.out);have HX2:=hD (HX0.out.below HB2.out HX0.out.lt);obtain ⟨W3,hW3⟩:=nm (W2.setCell ⟨gp,1,none⟩ (.int .i64 ((a:Int)+1)));have HP3:Hid (aK W3 gp 142 #[.slice (some ⟨b,off,none⟩) n c,.int .i64 ((a+1:Nat):Int),.string tl,.int .i64 st,.int .i64 0]):=by subst hW3;exact H2.out.box.set_ 1 _
  have HC3:Hid (aT W W3 (fun i=>i=gp)):=by subst hW3;exact (aT.of_new HB2.out (fun i=>i=gp)).setCell (p:=⟨gp,1,none⟩) (.inl rfl) _
  have HS3:Hid (PS W3 gp K n (some ⟨b,off,none⟩) c tl (a+1) st 0):=⟨HP3.out,H.out.tok.keep (fun g hg=>HC3.out.block g (by have:=H.out.box.lt;omega) (by omega)),hlt,H.out.ist,H.out.ie,fun h=>absurd rfl h⟩;have HX3:Hid (aK W3 w.heap.size 145 #[.int .i64 0,.string ⟨#[]⟩,.string ⟨#[]⟩]):=HX0.out.chg HC3.out (by have:=HGP.out;omega);have HW3:=hD hW3;rw [hW2];clear x0 x1 x2 x3 x4 q0 q1 q2 q3 q4 hW2 hW3 e0 e1 e2;obtain ⟨x0,x1,x2,x3,x4⟩:=H2.out.box.c5;obtain ⟨q0,q1,q2,q3,q4⟩:=H2.out.box.f5;go_wp2_with (rw [HW3.out]);clear x0 x1 x2 x3 x4 q0 q1 q2 q3 q4;obtain ⟨b',off',y0,t1,t2,e9,-,g0,g1,g2,-,k1,k2⟩:=HS3.out.tok.tok_at hlt;injection e9 with e9;injection e9 with e8 e7;subst e8 e7;have x0:=HP3.out.cell 0;have x1:=HP3.out.cell 1;simp at x0 x1;obtain ⟨r0,r1,r2⟩:=HX3.out.c3;obtain ⟨q0,q1,q2⟩:=HX3.out.f3;have hw1:wrap64 ((a:Int)+1 - 1)=(a:Int):=by rw [show (a:Int)+1 - 1=(a:Int) by omega];exact wrap64_in (by unfold aO;omega)
  have hi0:(0:Int)<=(a:Int)+1 - 1:=by omega
  have hi1:(a:Int)+1 - 1 < (n:Int):=by omega
  have hi2:((a:Int)+1 - 1).toNat=a:=by omega
  refine fE 11 (by kernel_rfl) (by kernel_rfl) _ rfl ?_;simp only [List.take_succ_cons,List.take_zero,List.drop_succ_cons,List.drop_zero]
  repeat (go_big_quiet_step (fail))
  refine wpQuiet_nil ?_;go_wp2_with fail;refine rR (cs:=#[.int .i64 y0,.string t1,.string t2]) ((HX3.out.drew).val3 _ _ _) Tryz.underlying145 rfl rfl rfl rfl (by kernel_rfl) ?_;have hc:aT w W3 (fun i=>i=gp):=(aT.of_new HBW.out _).trans HC3.out (fun i _ h=>h);have hc2:aT W3 (((W3.drew.setCell ⟨w.heap.size,0,none⟩ (.int .i64 y0)).setCell ⟨w.heap.size,1,none⟩ (.string t1)).setCell ⟨w.heap.size,2,none⟩ (.string t2)) (fun i=>i=w.heap.size):=
   ((((aT.refl W3 (fun i=>i=w.heap.size)).drew).setCell (p:=⟨w.heap.size,0,none⟩) (.inl rfl) _).setCell (p:=⟨w.heap.size,1,none⟩) (.inl rfl) _).setCell (p:=⟨w.heap.size,2,none⟩) (.inl rfl) _
  refine ⟨y0,t1,t2,a+1,st,0,rfl,HS3.out.chg hc2 (fun i h=>by have:=HGP.out;omega),⟨by omega,hlt,fun _=>⟨rfl,by omega⟩⟩,k1,k2,?_⟩;exact ⟨hc2.os.trans hc.os,hc2.tape.trans hc.tape,hc2.output.trans hc.output,Nat.le_trans hc.size hc2.size,fun i hi hn=>(hc2.block i (by have:=hc.size;omega) (by omega)).trans (hc.block i hi hn)⟩
 ·have hd:(e != 0)=true\/((e != 0)=false/\decide ((n:Int)<=(a:Int))=true/\decide (n<=a)=true):=by
   by_cases he:e=0
   ·have hna:n<=a:=by
     have:¬ a < n:=fun h=>hg ⟨he,h⟩;omega
    exact .inr ⟨by simpa using he,decide_eq_true (by omega),decide_eq_true hna⟩
   ·exact .inl (by simpa using he)
  have hne:∀ e':Int,e'≠0->(e'=0->e=0/\a < a):=fun e' h h'=>absurd h' h;go_enter Tryz.func135,Tryz.ntmps135;rcases hd with hd | ⟨hd,hd2,hd3⟩
  all_goals
   go_wp2_with (rw [HW.out]);go_quiet (fail);have HB2:Hid (Below W.heap.size W (W.drewN nq)):=lE (Below.refl _ _) nq;have HFC:=hD (gE 2 (W.drewN nq) (H.out.below HB2.out) hn (by decide) (by unfold aO;omega));go_wp2_with fail;(with_reducible refine (HFC.out).mono ?_);rintro e w2 ⟨st',e',rfl,hp,he',hc⟩;have HX3:=hD ((HX0.out.below HB2.out HX0.out.lt).chg hc (by have:=HGP.out;omega));have HC3:Hid (aT w w2 (fun i=>i=gp)):=((aT.of_new HBW.out (fun i=>i=gp)).trans (aT.of_new HB2.out (fun i=>i=gp)) (fun i _ h=>h)).trans hc (fun i _ h=>h);have HP:=hD hp;clear hc hp x0 x1 x2 x3 x4 q0 q1 q2 q3 q4 HFC;obtain ⟨r0,r1,r2⟩:=HX3.out.c3;obtain ⟨q0,q1,q2⟩:=HX3.out.f3;go_wp2_with fail;refine rR (cs:=#[.int .i64 0,.string ⟨#[]⟩,.string ⟨#[]⟩]) (HX3.out.val3 _ _ _) Tryz.underlying145 rfl rfl rfl rfl (by kernel_rfl) ?_;have hc2:aT w2 (((w2.setCell ⟨w.heap.size,0,none⟩ (.int .i64 0)).setCell ⟨w.heap.size,1,none⟩ (.string ⟨#[]⟩)).setCell ⟨w.heap.size,2,none⟩ (.string ⟨#[]⟩)) (fun i=>i=w.heap.size):=
    (((aT.refl w2 (fun i=>i=w.heap.size)).setCell (p:=⟨w.heap.size,0,none⟩) (.inl rfl) _).setCell (p:=⟨w.heap.size,1,none⟩) (.inl rfl) _).setCell (p:=⟨w.heap.size,2,none⟩) (.inl rfl) _
   have hc:=HC3.out;refine ⟨0,⟨#[]⟩,⟨#[]⟩,a,st',e',rfl,HP.out.chg hc2 (fun i h=>by have:=HGP.out;omega),⟨Nat.le_refl _,hle,hne e' he'⟩,Nat.zero_le _,Nat.zero_le _,?_⟩;exact ⟨hc2.os.trans hc.os,hc2.tape.trans hc.tape,hc2.output.trans hc.output,Nat.le_trans hc.size hc2.size,fun i hi hn=>(hc2.block i (by have:=hc.size;omega) (by omega)).trans (hc.block i hi hn)⟩
inductive fG (K:Nat):TX->Prop where
 | mk (t:TX) (h1:t.text.size<=K) (h2:∀ s∈t.leads,s.size<=K) (sub:∀ k∈t.kids,fG K k):fG K t
structure UT (w:World) (K lo gt:Nat) (k:Int) (s:ByteArray) (L:Value) (ls:List ByteArray) (Kd:Value) (ks:List TX):Prop where
 box:aK w gt 99 #[.int .i64 k,.string s,L,Kd]
 lead:w.ownsRow lo 9 1 L ls.length (ls.map Value.string)
 kids:TL w lo lo Kd ks
 sep:∀ x∈ks,gG (fun b=>b≠gt/\L.ownBlock≠some b) x
 glo:lo<=gt
 ts:s.size<=K
 tl:∀ b∈ls,b.size<=K
 tks:∀ x∈ks,fG K x
 kg:Kd.ownBlock≠some gt
theorem bV {base e size:Nat} {v:Value} (h:w.ownsRow base e size v n xs) (hc:aT w w' M) (hv:∀ g,v.ownBlock=some g->¬ M g):w'.ownsRow base e size v n xs:=by
 have hlt:=cK h;refine ⟨h.1,?_⟩;rcases h.2 with h0 | ⟨g,cap,cur,rfl,hb,hh,rest⟩
 ·exact .inl h0
 ·exact .inr ⟨g,cap,cur,rfl,hb,(hc.block g (hlt g (by simp [Value.ownBlock])) (hv g (by simp [Value.ownBlock]))).trans hh,rest⟩
section
variable {w w':World} {K lo gt:Nat} {k:Int} {s:ByteArray} {L:Value} {ls:List ByteArray} {Kd:Value} {ks:List TX} {M:Nat->Prop}
theorem UT.chg (h:UT w K lo gt k s L ls Kd ks) (hc:aT w w' M) (hM:∀ i,M i->i < lo\/w.heap.size<=i):UT w' K lo gt k s L ls Kd ks:=by
 have hn:∀ i,lo<=i->i < w.heap.size->¬ M i:=fun i h1 h2 h3=>by have:=hM i h3;omega
 exact ⟨h.box.chg hc (hn gt h.glo h.box.lt),bV h.lead hc (fun g hg=>hn g (aU h.lead g hg) (cK h.lead g hg)),h.kids.chg hc (fun g hg=>hn g (aU h.kids.row g hg) (cK h.kids.row g hg)) hM,h.sep,h.glo,h.ts,h.tl,h.tks,h.kg⟩
theorem UT.below (h:UT w K lo gt k s L ls Kd ks) (hb:Below w.heap.size w w'):UT w' K lo gt k s L ls Kd ks:=h.chg (aT.of_new hb (fun _=>False)) (fun _ h=>h.elim)
theorem UT.lne (h:UT w K lo gt k s L ls Kd ks):L.ownBlock≠some gt:=fun e=>aX h.lead h.box (by decide) e
theorem UT.kne (h:UT w K lo gt k s L ls Kd ks) (e:∃ e2,Kd.ownBlock=L.ownBlock/\L.ownBlock=some e2):False:=by
 obtain ⟨g,h1,h2⟩:=e;rcases h.lead.2 with ⟨rfl,-⟩ | ⟨g1,cap,cur,rfl,-,hh,-⟩
 ·simp [Value.ownBlock] at h2
 ·rcases h.kids.row.2 with ⟨rfl,-⟩ | ⟨g2,cap2,cur2,rfl,-,hh2,-⟩
  ·rw [h2] at h1;simp [Value.ownBlock] at h1
  ·simp [Value.ownBlock] at h1 h2;rw [h1,hh] at hh2;injection hh2 with hh2;injection hh2 with _ e3;exact absurd e3 (by decide)
theorem UT.leads {w3:World} {L':Value} {t:ByteArray} (h:UT w K lo gt k s L ls Kd ks) (o:Obj) (hg:aR (w.alloc o) w3 L L') (ho:w3.ownsRow lo 9 1 L' (ls.length+1) (ls.map Value.string++[.string t])) (ht:t.size<=K):
  UT (w3.setCell ⟨gt,2,none⟩ L') K lo gt k s L' (ls++[t]) Kd ks/\aT w (w3.setCell ⟨gt,2,none⟩ L') (fun i=>i=gt\/L.ownBlock=some i)/\∀ g,L'.ownBlock=some g->L.ownBlock=some g\/w.heap.size<=g:=by
 have hsz:(w.alloc o).heap.size=w.heap.size+1:=by simp
 have hgs:=hg.size;have hlt:=h.box.lt;have hnew:∀ g,L'.ownBlock=some g->L.ownBlock=some g\/w.heap.size<=g:=fun g e=>by
  rcases hg.own g e with h1 | h1
  ·exact .inl h1
  ·exact .inr (by omega)
 have hc:aT w (w3.setCell ⟨gt,2,none⟩ L') (fun i=>i=gt\/L.ownBlock=some i):=
  (((aT.refl w _).alloc o).trans (aT.of_grown (M:=fun i=>L.ownBlock=some i) hg.grown (fun g e=>e)) (fun i _ e=>.inr e)).setCell (p:=⟨gt,2,none⟩) (.inl (.inl rfl)) _
 have hL'gt:L'.ownBlock≠some gt:=fun e=>by
  rcases hnew gt e with h1 | h1
  ·exact h.lne h1
  ·omega
 refine ⟨⟨?_,?_,?_,?_,h.glo,h.ts,?_,h.tks,h.kg⟩,hc,hnew⟩
 ·exact (hg.blk (h.box.alloc o) h.lne).set_ 2 L'
 ·rw [List.length_append,List.map_append];exact bV ho ((aT.refl w3 (fun i=>i=gt)).setCell (p:=⟨gt,2,none⟩) (.inl rfl) _) (fun g e1 e2=>hL'gt (e2 ▸ e1))
 ·refine ⟨bV h.kids.row hc (fun g e1 e2=>?_),fun x hx=>⟨((h.kids.kid x hx).1.chgS (h.sep x hx) hc (Nat.le_refl _) (fun i hi hM=>?_)).more hc.size,(h.kids.kid x hx).2⟩⟩
  ·rcases e2 with rfl | e2
   ·exact h.kg e1
   ·exact h.kne ⟨g,e1.trans e2.symm,e2⟩
  ·rcases hM with rfl | hM
   ·exact hi.1 rfl
   ·exact hi.2 hM
 ·intro x hx;refine ((h.kids.kid x hx).1.ins.and (h.sep x hx) (R:=fun b=>b < w.heap.size/\b≠gt/\L.ownBlock≠some b) (fun b h1 h2=>⟨h1,h2.1,h2.2⟩)).mono (fun b hb=>⟨hb.2.1,fun e=>?_⟩);rcases hnew b e with h1 | h1
  ·exact hb.2.2 h1
  ·omega
 ·intro b hb;rcases List.mem_append.1 hb with hb | hb
  ·exact h.tl b hb
  ·simp at hb;subst hb;exact ht
theorem UT.kid {v3:Value} {r:TX} (h:UT w K lo gt k s L ls Kd ks) (hr:Tr w w.heap.size r) (hi:gG (fun b=>lo<=b/\b≠gt/\L.ownBlock≠some b/\Kd.ownBlock≠some b) r) (hb:fG K r)
  (hc:aT w w' (fun i=>i=gt\/Kd.ownBlock=some i)) (hbox:aK w' gt 99 #[.int .i64 k,.string s,L,v3]) (ho:w'.ownsRow lo 99 4 v3 (ks.length+1) (ks.flatMap TX.cells++r.cells)) (hnew:∀ g,v3.ownBlock=some g->Kd.ownBlock=some g\/w.heap.size<=g):
  UT w' K lo gt k s L ls v3 (ks++[r]):=by
 have key:∀ x∈ks++[r],Tr w w.heap.size x/\gG (fun b=>b < w.heap.size/\lo<=b/\b≠gt/\L.ownBlock≠some b/\Kd.ownBlock≠some b) x/\fG K x:=fun x hx=>by
  rcases List.mem_append.1 hx with hx | hx
  ·obtain ⟨h1,h2⟩:=h.kids.kid x hx;exact ⟨h1,(h1.ins.and (h2.and (h.sep x hx) (R:=fun b=>lo<=b/\b≠gt/\L.ownBlock≠some b/\Kd.ownBlock≠some b) (fun b a1 a2=>⟨a1.1,a2.1,a2.2,a1.2⟩))) (fun b a1 a2=>⟨a1,a2⟩),h.tks x hx⟩
  ·simp at hx;subst hx;exact ⟨hr,hr.ins.and hi (fun b a1 a2=>⟨a1,a2⟩),hb⟩
 refine ⟨hbox,bV h.lead hc (fun g e1 e2=>?_),⟨?_,fun x hx=>⟨((key x hx).1.chgS (key x hx).2.1 hc (Nat.le_refl _) (fun i a1 a2=>?_)).more hc.size,(key x hx).2.1.mono (fun b a1=>⟨a1.2.1,fun e=>?_⟩)⟩⟩,fun x hx=>(key x hx).2.1.mono (fun b a1=>⟨a1.2.2.1,a1.2.2.2.1⟩),h.glo,h.ts,h.tl,fun x hx=>(key x hx).2.2,fun e=>?_⟩
 ·rcases e2 with rfl | e2
  ·exact h.lne e1
  ·exact h.kne ⟨g,e2.trans e1.symm,e1⟩
 ·rw [List.length_append,List.flatMap_append,List.flatMap_cons,List.flatMap_nil,List.append_nil];exact ho
 ·rcases a2 with rfl | a2
  ·exact a1.2.2.1 rfl
  ·exact a1.2.2.2.2 a2
 ·rcases hnew b e with h1 | h1
  ·exact a1.2.2.2.2 h1
  ·omega
 ·rcases hnew gt e with h1 | h1
  ·exact h.kg h1
  ·have:=h.box.lt;omega
end
end
end Go.Proofs.YtkgpoimmniojjaaGreat
