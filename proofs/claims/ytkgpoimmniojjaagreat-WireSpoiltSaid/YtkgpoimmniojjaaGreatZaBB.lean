/- No condition. -/
import Derived.Test.YtkgpoimmniojjaaGreatZaAZ
import Derived.Test.YtkgpoimmniojjaaGreatZaAI
import Derived.Test.YtkgpoimmniojjaaGreatZaAL
import Derived.Test.YtkgpoimmniojjaaGreatZaAT
namespace Go.Proofs.YtkgpoimmniojjaaGreat
set_option linter.unusedVariables false
set_option linter.unusedSimpArgs false
set_option maxRecDepth 100000
set_option maxHeartbeats 16000000
section
open Go.RowKit
variable {n gp c base g cap a Kt K a5:Nat} {st e st' e' st5 e5:Int} {w u:World} {A:Option Addr} {tl:ByteArray} {r:Ending} {xs pre:List Value} {z0 z1 z2 z3:Value} {cs:Array Value} {t:TX}
theorem jK {e size m len:Nat} (h:w.ownsRow base e size (.slice (some ⟨g,0,none⟩) len cap) m xs) (i:Nat) (u:Value):(w.setCell ⟨g,i,none⟩ u).ownsRow base e size (.slice (some ⟨g,0,none⟩) len cap) m (xs.set i u):=by
 refine ⟨by rw [List.length_set];exact h.1,?_⟩;rcases h.2 with ⟨h0,-⟩ | ⟨g1,cap1,cur,h0,hb,hh,h1,h2,h3,h4⟩
 ·cases h0
 ·injection h0 with e1 e2 e3;injection e1 with e1;injection e1 with e1 _ _;subst e1 e2 e3;have hx:aK w g e cur:=hh;refine .inr ⟨g,cap,_,rfl,hb,hx.set_ i u,h1,h2,by simpa using h3,?_⟩;rw [Array.toList_setIfInBounds,List.take_set,h4]
theorem qX {len:Nat} (h:w.ownsRow base 99 4 (.slice (some ⟨g,0,none⟩) len cap) (n+1) (pre++[z0,z1,z2,z3])) (hl:pre.length=n*4) (u0 u1 u2 u3:Value):
  ((((w.setCell ⟨g,n*4,none⟩ u0).setCell ⟨g,n*4+1,none⟩ u1).setCell ⟨g,n*4+2,none⟩ u2).setCell ⟨g,n*4+3,none⟩ u3).ownsRow base 99 4 (.slice (some ⟨g,0,none⟩) len cap) (n+1) (pre++[u0,u1,u2,u3]):=by
 have h1:=jK (jK (jK (jK h (n*4) u0) (n*4+1) u1) (n*4+2) u2) (n*4+3) u3;simp only [<- hl] at h1 ⊢;simpa [List.set_append_right] using h1
theorem oJ {len:Nat} (h:w.ownsRow base 99 4 (.slice (some ⟨g,0,none⟩) len cap) (n+1) (pre++[z0,z1,z2,z3])) (hl:pre.length=n*4):
  w.cell? ⟨g,n*4,none⟩=some z0/\w.cell? ⟨g,n*4+1,none⟩=some z1/\w.cell? ⟨g,n*4+2,none⟩=some z2/\w.cell? ⟨g,n*4+3,none⟩=some z3/\∀ i,w.frozen? ⟨g,i,none⟩=false:=by
 rcases h.2 with ⟨h0,-⟩ | ⟨g1,cap1,cur,h0,hb,hh,h1,h2,h3,h4⟩
 ·cases h0
 ·injection h0 with e1 e2 e3;injection e1 with e1;injection e1 with e1 _ _;subst e1 e2 e3;have hx:aK w g 99 cur:=hh;have key:∀ i u,(pre++[z0,z1,z2,z3])[i]?=some u->w.cell? ⟨g,i,none⟩=some u:=fun i u hu=>by
   rw [hx.cell];rw [<- h4] at hu;rw [List.getElem?_take] at hu
   split at hu
   ·simpa using hu
   ·cases hu
  refine ⟨key _ _ ?_,key _ _ ?_,key _ _ ?_,key _ _ ?_,fun i=>hx.frozen i⟩
  all_goals
   rw [<- hl];simp [List.getElem?_append_right]
structure FT (w wr:World) (gp Kt n:Nat) (A:Option Addr) (c:Nat) (tl:ByteArray) (a:Nat) (st e:Int) (K gt:Nat) (k:Int) (s:ByteArray) (L:Value) (ls:List ByteArray) (Kd:Value) (ks:List TX):Prop where
 ps:PS wr gp Kt n A c tl a st e
 ut:UT wr K (w.heap.size+1) gt k s L ls Kd ks
 chg:aT w wr (fun i=>i=gp)
 res:aK wr w.heap.size 99 #[.int .i64 0,.string ⟨#[]⟩,.slice none 0 0,.slice none 0 0]
 gp:gp < w.heap.size
def dT (w:World) (gp Kt n:Nat) (A:Option Addr) (c:Nat) (tl:ByteArray) (a:Nat) (e:Int) (K lo gt:Nat) (k:Int) (s:ByteArray) (L:Value) (ls:List ByteArray) (Kd:Value) (ks:List TX) (w':World):Prop:=
 ∃ (t:TX) (a':Nat) (st' e':Int) (Kd':Value),PS w' gp Kt n A c tl a' st' e'/\UT w' K lo gt k s L ls Kd' (ks++[t])/\fK n a e a' e'/\(e'=0->t.plain.size<=3*(a' - a))/\aT w w' (fun i=>i=gp\/i=gt\/Kd.ownBlock=some i)
section
variable {w wr w':World} {gp Kt n:Nat} {A:Option Addr} {c:Nat} {tl:ByteArray} {a:Nat} {st e:Int} {K gt:Nat} {k:Int} {s:ByteArray} {L:Value} {ls:List ByteArray} {Kd:Value} {ks:List TX}
theorem FT.glt (h:FT w wr gp Kt n A c tl a st e K gt k s L ls Kd ks):w.heap.size < gt:=by have:=h.ut.glo;omega
theorem FT.below (h:FT w wr gp Kt n A c tl a st e K gt k s L ls Kd ks) (hb:Below wr.heap.size wr w'):FT w w' gp Kt n A c tl a st e K gt k s L ls Kd ks:=
 ⟨h.ps.below hb,h.ut.below hb,h.chg.trans (aT.of_new hb (fun i=>i=gp)) (fun i _ h=>h),h.res.below hb h.res.lt,h.gp⟩
theorem FT.fail (h:FT w wr gp Kt n A c tl a st e K gt k s L ls Kd ks) (hp:PS w' gp Kt n A c tl a st' e') (hc:aT wr w' (fun i=>i=gp)):FT w w' gp Kt n A c tl a st' e' K gt k s L ls Kd ks:=
 ⟨hp,h.ut.chg hc (fun i e=>.inl (by have:=h.gp;omega)),h.chg.trans hc (fun i _ h=>h),h.res.chg hc (by have:=h.gp;omega),h.gp⟩
theorem FT.must (h:FT w wr gp Kt n A c tl a st e K gt k s L ls Kd ks) {S:ByteArray->Prop} (hm:jE wr gp Kt n A c tl a e K (w.heap.size+1) gt k L ls Kd ks S r w'):
  ∃ (a':Nat) (st' e':Int) (s':ByteArray) (L':Value) (ls':List ByteArray),r=.returned (.tuple #[])/\FT w w' gp Kt n A c tl a' st' e' K gt k s' L' ls' Kd ks/\fK n a e a' e'/\ls'.length<=ls.length+1/\S s':=by
 obtain ⟨a',st',e',s',L',ls',rfl,hp,hu,ha,hl,hc,-,hS⟩:=hm;have hL:∀ i,L.ownBlock=some i->w.heap.size < i:=fun i hi=>by have:=aU h.ut.lead i hi;omega
 have hgt:=h.glt;refine ⟨a',st',e',s',L',ls',rfl,⟨hp,hu,h.chg.trans hc (fun i h1 h2=>?_),h.res.chg hc (fun h2=>?_),h.gp⟩,ha,hl,hS⟩
 ·rcases h2 with h2 | h2 | h2
  ·exact h2
  ·omega
  ·have:=hL i h2;omega
 ·have hg:=h.gp;rcases h2 with h2 | h2 | h2
  ·omega
  ·omega
  ·have:=hL _ h2;omega
theorem FT.kid (h:FT w wr gp Kt n A c tl a st e K gt k s L ls Kd ks) (hm:dT wr gp Kt n A c tl a e K (w.heap.size+1) gt k s L ls Kd ks w'):
  ∃ (t:TX) (a':Nat) (st' e':Int) (Kd':Value),FT w w' gp Kt n A c tl a' st' e' K gt k s L ls Kd' (ks++[t])/\fK n a e a' e'/\(e'=0->t.plain.size<=3*(a' - a)):=by
 obtain ⟨t,a',st',e',Kd',hp,hu,ha,hz,hc⟩:=hm;have hL:∀ i,Kd.ownBlock=some i->w.heap.size < i:=fun i hi=>by have:=aU h.ut.kids.row i hi;omega
 have hgt:=h.glt;refine ⟨t,a',st',e',Kd',⟨hp,hu,h.chg.trans hc (fun i h1 h2=>?_),h.res.chg hc (fun h2=>?_),h.gp⟩,ha,hz⟩
 ·rcases h2 with h2 | h2 | h2
  ·exact h2
  ·omega
  ·have:=hL i h2;omega
 ·have hg:=h.gp;rcases h2 with h2 | h2 | h2
  ·omega
  ·omega
  ·have:=hL _ h2;omega
theorem UT.forms {lo:Nat} (h:UT w K lo gt k s L ls Kd ks):(∃ LA lc,L=.slice LA ls.length lc/\ls.length<=lc)/\∃ KA kc,Kd=.slice KA ks.length kc/\ks.length<=kc:=by
 constructor
 ·rcases h.lead.2 with ⟨rfl,h0⟩ | ⟨g,cap,cur,rfl,-,-,h1,-⟩
  ·rw [h0];exact ⟨none,0,rfl,Nat.le_refl _⟩
  ·exact ⟨_,cap,rfl,h1⟩
 ·rcases h.kids.row.2 with ⟨rfl,h0⟩ | ⟨g,cap,cur,rfl,-,-,h1,-⟩
  ·rw [h0];exact ⟨none,0,rfl,Nat.le_refl _⟩
  ·exact ⟨_,cap,rfl,h1⟩
theorem FT.ret {LA KA:Option Addr} {lc kc a0:Nat} {e0:Int} (h:FT w wr gp Kt n A c tl a st e K gt k s (.slice LA ls.length lc) ls (.slice KA ks.length kc) ks) (hk:aO k) (hl:ls.length<=1000000000) (hkl:ks.length<=1000000000) (ha:fK n a0 e0 a e) (hz:e=0->1+T.sizes (ks.map TX.plain)<=3*(a - a0)):
  bZ w gp Kt n A c tl a0 e0 K (.returned (.agg #[.int .i64 k,.string s,.slice LA ls.length lc,.slice KA ks.length kc])) ((((wr.setCell ⟨w.heap.size,0,none⟩ (.int .i64 k)).setCell ⟨w.heap.size,1,none⟩ (.string s)).setCell ⟨w.heap.size,2,none⟩ (.slice LA ls.length lc)).setCell ⟨w.heap.size,3,none⟩ (.slice KA ks.length kc)):=by
 have hc:=cP wr w.heap.size (.int .i64 k) (.string s) (.slice LA ls.length lc) (.slice KA ks.length kc);obtain ⟨⟨LA',lc',e1,h1⟩,⟨KA',kc',e2,h2⟩⟩:=h.ut.forms;injection e1 with _ _ e1;injection e2 with _ _ e2;subst e1 e2;have hir:gG (fun b=>w.heap.size+1<=b) (.node k s LA ls lc KA ks kc):=.mk _ (fun ad e hn=>by
   have e:KA=some ad:=e;subst e;rcases h.ut.kids.row.2 with ⟨h0,-⟩ | ⟨g,cap,cur,h0,hb,-⟩
   ·cases h0
   ·injection h0 with h0;injection h0 with h0;rw [h0];exact hb) (fun ad e hn=>by
   have e:LA=some ad:=e;subst e;rcases h.ut.lead.2 with ⟨h0,-⟩ | ⟨g,cap,cur,h0,hb,-⟩
   ·cases h0
   ·injection h0 with h0;injection h0 with h0;rw [h0];exact hb) (fun x hx=>(h.ut.kids.kid x hx).2.mono (fun b hb=>hb.1))
 have htr:Tr wr wr.heap.size (.node k s LA ls lc KA ks kc):=.mk _ (aG.of_own h.ut.kids.row) (aG.of_own h.ut.lead) (by show ks.length*72<=_;omega) h2 (by show ls.length*16<=_;omega) hk (fun x hx=>(h.ut.kids.kid x hx).1);refine ⟨.node k s LA ls lc KA ks kc,a,st,e,rfl,h.ps.chg hc (fun i e=>by have:=h.gp;omega),h.chg.above hc (Nat.le_refl _),?_,hir.mono (fun b hb=>by omega),.mk _ h.ut.ts h.ut.tl h.ut.tks,ha,fun he=>?_⟩
 ·exact (htr.chgS hir hc (Nat.le_refl _) (fun i h1 h2=>by omega)).more hc.size
 ·have:=hz he;rw [TX.plain_eq];show T.size (.node _ _ _ _)<=_;rw [T.size];exact this
end
structure pQ (X wx:World) (gp Kt n:Nat) (A:Option Addr) (c:Nat) (tl:ByteArray) (a:Nat) (e:Int) (K:Nat) (x:TX) (a5:Nat) (st5 e5:Int):Prop where
 chg:aT X wx (fun i=>i=gp)
 ps:PS wx gp Kt n A c tl a5 st5 e5
 tr:Tr wx wx.heap.size x
 ins:gG (X.heap.size<=·) x
 bd:fG K x
 adv:fK n a e a5 e5
 sz:e5=0->x.plain.size<=3*(a5 - a)
structure KO (wx w7:World) (lo gt:Nat) (k:Int) (s:ByteArray) (L:Value) (KA:Option Addr) (kc:Nat) (ks:List TX) (g7 c7:Nat):Prop where
 own:w7.ownsRow lo 99 4 (.slice (some ⟨g7,0,none⟩) (ks.length+1) c7) (ks.length+1) (ks.flatMap TX.cells++[.int .i64 0,.string ⟨#[]⟩,.slice none 0 0,.slice none 0 0])
 new:∀ g,(Value.slice (some ⟨g7,0,none⟩) (ks.length+1) c7).ownBlock=some g->(Value.slice KA ks.length kc).ownBlock=some g\/wx.heap.size<=g
 ne:g7≠gt
 box:aK w7 gt 99 #[.int .i64 k,.string s,L,.slice KA ks.length kc]
 chg:aT wx w7 (fun i=>i=gt\/(Value.slice KA ks.length kc).ownBlock=some i)
structure KF (wx wf:World) (lo gt:Nat) (k:Int) (s:ByteArray) (L:Value) (KA:Option Addr) (kc:Nat) (ks:List TX) (x:TX) (g7 c7:Nat):Prop where
 cf:aT wx wf (fun i=>i=gt\/(Value.slice KA ks.length kc).ownBlock=some i)
 xf:aK wf gt 99 #[.int .i64 k,.string s,L,.slice (some ⟨g7,0,none⟩) (ks.length+1) c7]
 of:wf.ownsRow lo 99 4 (.slice (some ⟨g7,0,none⟩) (ks.length+1) c7) (ks.length+1) (ks.flatMap TX.cells++x.cells)
 new:∀ g,(Value.slice (some ⟨g7,0,none⟩) (ks.length+1) c7).ownBlock=some g->(Value.slice KA ks.length kc).ownBlock=some g\/wx.heap.size<=g
section
variable {X w0 w4 w5 wx w7 wf:World} {gp Kt n:Nat} {A:Option Addr} {c:Nat} {tl:ByteArray} {a:Nat} {e:Int} {K lo gt gz:Nat} {k:Int} {s:ByteArray} {L:Value} {ls:List ByteArray} {KA:Option Addr} {kc:Nat} {ks:List TX} {x:TX} {a5:Nat} {st5 e5:Int} {g7 c7:Nat}
theorem Fd (n:Nat):(0:Int)<=(n:Int)/\(n:Int) < (n:Int)+1/\n < n+1:=by omega
theorem gB (hc:aT X w0 (fun i=>i=gp)) (h:bZ w0 gp Kt n A c tl a e K r w5):∃ x a5 st5 e5,r=.returned (.agg #[.int .i64 x.kind,.string x.text,.slice x.lA x.leads.length x.lc,.slice x.kA x.kids.length x.kc])/\pQ X w5 gp Kt n A c tl a e K x a5 st5 e5:=by
 obtain ⟨x,a5,st5,e5,hr0,hp5,hc5,hr5,hi5,hb5,ha5,hz5⟩:=h;exact ⟨x,a5,st5,e5,hr0,hc.trans hc5 (fun i _ h=>h),hp5,hr5,hi5.mono (fun b h=>Nat.le_trans hc.size h),hb5,ha5,hz5⟩
theorem gM (h:pQ X w5 gp Kt n A c tl a e K x a5 st5 e5):∃ wx gz,w5.alloc (.cells #[.int .i64 0,.string ⟨#[]⟩,.slice none 0 0,.slice none 0 0] 99)=wx/\w5.heap.size=gz/\Hid (aK wx gz 99 #[.int .i64 0,.string ⟨#[]⟩,.slice none 0 0,.slice none 0 0])/\pQ X wx gp Kt n A c tl a e K x a5 st5 e5:=
 ⟨_,_,rfl,rfl,hD (aK.new w5 _ _),h.chg.alloc _,h.ps.below (bK (Below.refl _ _) _),h.tr.up (Nat.le_refl _) (bK (Below.refl _ _) _),h.ins,h.bd,h.adv,h.sz⟩
theorem eQ (h:PS X gp Kt n A c tl a st e):aT X X.drew (fun i=>i=gp)/\PS X.drew gp Kt n A c tl a st e:=
 ⟨(aT.refl _ _).drew,h.below (cC (Below.refl X.heap.size X))⟩
theorem fC (h:PS X gp Kt n A c tl a st e):∃ w4,X.drew.alloc (.cells #[.int .i64 0,.string ⟨#[]⟩,.slice none 0 0,.slice none 0 0] 99)=w4/\Hid (aK w4 X.heap.size 99 #[.int .i64 0,.string ⟨#[]⟩,.slice none 0 0,.slice none 0 0])/\Hid (aT X w4 (fun i=>i=gp))/\PS w4 gp Kt n A c tl a st e:=
 ⟨_,rfl,hD (aK.new X.drew _ _),hD ((aT.refl _ _).drew.alloc _),(eQ h).2.below (bK (Below.refl _ _) _)⟩
theorem fB (hp:PS X gp Kt n A c tl a st e) (hz:aK w4 X.heap.size 99 cs) (hc:aT X w4 (fun i=>i=gp)) (h:bZ w4 gp Kt n A c tl a e K r w5):∃ x a5 st5 e5 gz,r=.returned (.agg #[.int .i64 x.kind,.string x.text,.slice x.lA x.leads.length x.lc,.slice x.kA x.kids.length x.kc])/\X.heap.size=gz/\Hid (aK w5 gz 99 cs)/\pQ X w5 gp Kt n A c tl a e K x a5 st5 e5:=by
 obtain ⟨x,a5,st5,e5,h1,h2⟩:=gB hc h;obtain ⟨_,_,_,_,-,-,hc5,-⟩:=h;have:=hp.lt;exact ⟨x,a5,st5,e5,_,h1,rfl,hD (hz.chg hc5 (by omega)),h2⟩
theorem pQ.ut (h:pQ X wx gp Kt n A c tl a e K x a5 st5 e5) {Kd:Value} (hu:UT X K lo gt k s L ls Kd ks) (hg:gp < lo):UT wx K lo gt k s L ls Kd ks:=
 hu.chg h.chg (fun i h=>.inl (by omega))
theorem eJ {P:Program} {ops:Array Oper} {rest:List Oper} {o:Oper} {ac:Act} {Q:Exit->Act->World->Prop} {os ox:Operand} (hgd:o.guard=none) (ho:o.op=.call { callee:=.builtin .append,args:=#[os,ox],argTypes:=#[64,64] }) (hP:P=Tryz.prog)
  (hu:UT wx K lo gt k s L ls (.slice KA ks.length kc) ks) (hs:ac.eval os=.slice KA ks.length kc) (hx:ac.eval ox=.slice (some ⟨gz,0,none⟩) 1 1) (hz:aK wx gz 99 #[.int .i64 0,.string ⟨#[]⟩,.slice none 0 0,.slice none 0 0]) (hl:ks.length<=1000000000)
  (h:∀ g7 c7 w7,KO wx w7 lo gt k s L KA kc ks g7 c7->wpList P ops Q rest (ac.put o.dst (.slice (some ⟨g7,0,none⟩) (ks.length+1) c7)) w7):wpList P ops Q (o::rest) ac wx:=by
 subst hP;obtain ⟨i0,hi0,hz0,hz1,hz2⟩:=dF qK;refine aF wx hgd _ _ _ _ ho lo 99 i0 _ 4 72 Tryz.underlying64 hi0 hz0 hz1 hz2 rfl (by decide) (.slice KA ks.length kc) ks.length (ks.flatMap TX.cells) hs hu.kids.row (.slice (some ⟨gz,0,none⟩) 1 1) 1 [.int .i64 0,.string ⟨#[]⟩,.slice none 0 0,.slice none 0 0] hx (cQ (P:=Tryz.prog) wx Tryz.underlying64 1 (eD (n:=1) (size:=4) (xs:=[.int .i64 0,.string ⟨#[]⟩,.slice none 0 0,.slice none 0 0]) hz rfl) (fun u hu=>by simp at hu;rcases hu with rfl | rfl | rfl <;> rfl)) (by unfold maxLen;omega) (by omega) (by have:=hu.glo;have:=hu.box.lt;omega) ?_;intro v3 w7 hown7 hg7;obtain ⟨g7,c7,rfl⟩:∃ g7 c7,v3=.slice (some ⟨g7,0,none⟩) (ks.length+1) c7:=by
  rcases hown7.2 with ⟨h0,h1⟩ | ⟨g,cap,cur,h0,h1,-⟩
  ·exact absurd h1 (by omega)
  ·exact ⟨g,cap,h0⟩
 refine h g7 c7 w7 ⟨hown7,fun g h=>hg7.own g h,fun e=>?_,hg7.blk hu.box hu.kg,aT.of_grown hg7.grown (fun g e=>.inr e)⟩;rcases hg7.own g7 (by simp [Value.ownBlock]) with h1 | h1
 ·rw [e] at h1;exact hu.kg h1
 ·have:=hu.box.lt;omega
theorem KO.z (h:KO wx w7 lo gt k s L KA kc ks g7 c7):w7.cell? ⟨g7,ks.length*4,none⟩=some (.int .i64 0)/\w7.cell? ⟨g7,ks.length*4+1,none⟩=some (.string ⟨#[]⟩)/\w7.cell? ⟨g7,ks.length*4+2,none⟩=some (.slice none 0 0)/\w7.cell? ⟨g7,ks.length*4+3,none⟩=some (.slice none 0 0)/\w7.frozen? ⟨g7,ks.length*4,none⟩=false/\w7.frozen? ⟨g7,ks.length*4+1,none⟩=false/\w7.frozen? ⟨g7,ks.length*4+2,none⟩=false/\w7.frozen? ⟨g7,ks.length*4+3,none⟩=false:=by
 obtain ⟨z0,z1,z2,z3,zf⟩:=oJ h.own (gU TX.cells_len ks);exact ⟨z0,z1,z2,z3,zf _,zf _,zf _,zf _⟩
theorem KO.b (h:KO wx w7 lo gt k s L KA kc ks g7 c7):w7.cell? ⟨gt,3,none⟩=some (.slice KA ks.length kc)/\w7.frozen? ⟨gt,3,none⟩=false:=⟨by have:=h.box.cell 3;simpa using this,h.box.frozen 3⟩
theorem KO.far (h:KO wx w7 lo gt k s L KA kc ks g7 c7) (x:TX) (hb:aK u gt 99 cs):aK ((((u.setCell ⟨g7,ks.length*4,none⟩ (.int .i64 x.kind)).setCell ⟨g7,ks.length*4+1,none⟩ (.string x.text)).setCell ⟨g7,ks.length*4+2,none⟩ (.slice x.lA x.leads.length x.lc)).setCell ⟨g7,ks.length*4+3,none⟩ (.slice x.kA x.kids.length x.kc)) gt 99 cs:=
 (((hb.far (p:=⟨g7,ks.length*4,none⟩) (Ne.symm h.ne) _).far (p:=⟨g7,ks.length*4+1,none⟩) (Ne.symm h.ne) _).far (p:=⟨g7,ks.length*4+2,none⟩) (Ne.symm h.ne) _).far (p:=⟨g7,ks.length*4+3,none⟩) (Ne.symm h.ne) _
theorem KO.chg4 (h:KO wx w7 lo gt k s L KA kc ks g7 c7) (x:TX) (hc:aT wx u (fun i=>i=gt\/(Value.slice KA ks.length kc).ownBlock=some i)):aT wx ((((u.setCell ⟨g7,ks.length*4,none⟩ (.int .i64 x.kind)).setCell ⟨g7,ks.length*4+1,none⟩ (.string x.text)).setCell ⟨g7,ks.length*4+2,none⟩ (.slice x.lA x.leads.length x.lc)).setCell ⟨g7,ks.length*4+3,none⟩ (.slice x.kA x.kids.length x.kc)) (fun i=>i=gt\/(Value.slice KA ks.length kc).ownBlock=some i):=by
 have hm:(fun i=>i=gt\/(Value.slice KA ks.length kc).ownBlock=some i) g7\/wx.heap.size<=g7:=by
  rcases h.new g7 (by simp [Value.ownBlock]) with h1 | h1
  ·exact .inl (.inr h1)
  ·exact .inr h1
 exact (((hc.setCell (p:=⟨g7,ks.length*4,none⟩) hm _).setCell (p:=⟨g7,ks.length*4+1,none⟩) hm _).setCell (p:=⟨g7,ks.length*4+2,none⟩) hm _).setCell (p:=⟨g7,ks.length*4+3,none⟩) hm _
theorem KO.zb (h:KO wx w7 lo gt k s L KA kc ks g7 c7) (x:TX):((((w7.setCell ⟨g7,ks.length*4,none⟩ (.int .i64 x.kind)).setCell ⟨g7,ks.length*4+1,none⟩ (.string x.text)).setCell ⟨g7,ks.length*4+2,none⟩ (.slice x.lA x.leads.length x.lc)).setCell ⟨g7,ks.length*4+3,none⟩ (.slice x.kA x.kids.length x.kc)).cell? ⟨gt,3,none⟩=some (.slice KA ks.length kc)/\((((w7.setCell ⟨g7,ks.length*4,none⟩ (.int .i64 x.kind)).setCell ⟨g7,ks.length*4+1,none⟩ (.string x.text)).setCell ⟨g7,ks.length*4+2,none⟩ (.slice x.lA x.leads.length x.lc)).setCell ⟨g7,ks.length*4+3,none⟩ (.slice x.kA x.kids.length x.kc)).frozen? ⟨gt,3,none⟩=false:=⟨by have:=(h.far x h.box).cell 3;simpa using this,(h.far x h.box).frozen 3⟩
theorem KO.off (h:KO wx w7 lo gt k s L KA kc ks g7 c7) (ho:u.ownsRow lo 99 4 (.slice (some ⟨g7,0,none⟩) (ks.length+1) c7) (ks.length+1) xs) (v:Value):(u.setCell ⟨gt,3,none⟩ v).ownsRow lo 99 4 (.slice (some ⟨g7,0,none⟩) (ks.length+1) c7) (ks.length+1) xs:=
 bV ho ((aT.refl _ (fun i=>i=gt)).setCell (p:=⟨gt,3,none⟩) (.inl rfl) _) (fun g e1 e2=>by simp [Value.ownBlock] at e1;exact h.ne (e1.trans e2))
theorem KO.bz (h:KO wx w7 lo gt k s L KA kc ks g7 c7):(w7.setCell ⟨gt,3,none⟩ (.slice (some ⟨g7,0,none⟩) (ks.length+1) c7)).cell? ⟨g7,ks.length*4,none⟩=some (.int .i64 0)/\(w7.setCell ⟨gt,3,none⟩ (.slice (some ⟨g7,0,none⟩) (ks.length+1) c7)).cell? ⟨g7,ks.length*4+1,none⟩=some (.string ⟨#[]⟩)/\(w7.setCell ⟨gt,3,none⟩ (.slice (some ⟨g7,0,none⟩) (ks.length+1) c7)).cell? ⟨g7,ks.length*4+2,none⟩=some (.slice none 0 0)/\(w7.setCell ⟨gt,3,none⟩ (.slice (some ⟨g7,0,none⟩) (ks.length+1) c7)).cell? ⟨g7,ks.length*4+3,none⟩=some (.slice none 0 0)/\(w7.setCell ⟨gt,3,none⟩ (.slice (some ⟨g7,0,none⟩) (ks.length+1) c7)).frozen? ⟨g7,ks.length*4,none⟩=false/\(w7.setCell ⟨gt,3,none⟩ (.slice (some ⟨g7,0,none⟩) (ks.length+1) c7)).frozen? ⟨g7,ks.length*4+1,none⟩=false/\(w7.setCell ⟨gt,3,none⟩ (.slice (some ⟨g7,0,none⟩) (ks.length+1) c7)).frozen? ⟨g7,ks.length*4+2,none⟩=false/\(w7.setCell ⟨gt,3,none⟩ (.slice (some ⟨g7,0,none⟩) (ks.length+1) c7)).frozen? ⟨g7,ks.length*4+3,none⟩=false:=by
 obtain ⟨z0,z1,z2,z3,zf⟩:=oJ (h.off h.own (.slice (some ⟨g7,0,none⟩) (ks.length+1) c7)) (gU TX.cells_len ks);exact ⟨z0,z1,z2,z3,zf _,zf _,zf _,zf _⟩
theorem KO.fin8 (h:KO wx w7 lo gt k s L KA kc ks g7 c7) (x:TX):∃ wf,((((w7.setCell ⟨g7,ks.length*4,none⟩ (.int .i64 x.kind)).setCell ⟨g7,ks.length*4+1,none⟩ (.string x.text)).setCell ⟨g7,ks.length*4+2,none⟩ (.slice x.lA x.leads.length x.lc)).setCell ⟨g7,ks.length*4+3,none⟩ (.slice x.kA x.kids.length x.kc)).setCell ⟨gt,3,none⟩ (.slice (some ⟨g7,0,none⟩) (ks.length+1) c7)=wf/\KF wx wf lo gt k s L KA kc ks x g7 c7:=
 ⟨_,rfl,(h.chg4 x h.chg).setCell (p:=⟨gt,3,none⟩) (.inl (.inl rfl)) _,(h.far x h.box).set_ 3 _,h.off (qX h.own (gU TX.cells_len ks) _ _ _ _) _,h.new⟩
theorem KO.fin10 (h:KO wx w7 lo gt k s L KA kc ks g7 c7) (x:TX):∃ wf,(((((w7.setCell ⟨gt,3,none⟩ (.slice (some ⟨g7,0,none⟩) (ks.length+1) c7)).setCell ⟨g7,ks.length*4,none⟩ (.int .i64 x.kind)).setCell ⟨g7,ks.length*4+1,none⟩ (.string x.text)).setCell ⟨g7,ks.length*4+2,none⟩ (.slice x.lA x.leads.length x.lc)).setCell ⟨g7,ks.length*4+3,none⟩ (.slice x.kA x.kids.length x.kc))=wf/\KF wx wf lo gt k s L KA kc ks x g7 c7:=
 ⟨_,rfl,h.chg4 x (h.chg.setCell (p:=⟨gt,3,none⟩) (.inl (.inl rfl)) _),h.far x (h.box.set_ 3 _),qX (h.off h.own _) (gU TX.cells_len ks) _ _ _ _,h.new⟩
theorem eI (hk:pQ X wx gp Kt n A c tl a e K x a5 st5 e5) (hu:UT X K lo gt k s L ls (.slice KA ks.length kc) ks) (hg:gp < lo) (hf:KF wx wf lo gt k s L KA kc ks x g7 c7):dT X gp Kt n A c tl a e K lo gt k s L ls (.slice KA ks.length kc) ks wf:=by
 have hu5:=hk.ut hu hg;have h0:=hu.glo;have h1:=hu.box.lt;refine ⟨x,a5,st5,e5,.slice (some ⟨g7,0,none⟩) (ks.length+1) c7,hk.ps.chg hf.cf (fun i h=>?_),hu5.kid hk.tr (hk.ins.mono (fun b h=>?_)) hk.bd hf.cf hf.xf hf.of hf.new,hk.adv,hk.sz,(hk.chg.mono (M':=fun i=>i=gp\/i=gt\/(Value.slice KA ks.length kc).ownBlock=some i) (fun i h=>.inl h)).trans hf.cf (fun i _ h=>.inr h)⟩
 ·rcases h with h | h
  ·omega
  ·have:=aU hu5.kids.row i h;omega
 ·refine ⟨by omega,by omega,fun e=>?_,fun e=>?_⟩
  ·have:=cK hu.lead b e;omega
  ·have:=cK hu.kids.row b e;omega
end
theorem fK.trans {a1 a2:Nat} {e1 e2:Int} (h:fK n a e a1 e1) (h':fK n a1 e1 a2 e2):fK n a e a2 e2:=
 ⟨Nat.le_trans h.1 h'.1,h'.2.1,fun h0=>⟨(h.2.2 (h'.2.2 h0).1).1,Nat.lt_of_le_of_lt h.1 (h'.2.2 h0).2⟩⟩
section
variable {w w1 w2:World} {gp Kt n:Nat} {A:Option Addr} {c:Nat} {tl:ByteArray} {a:Nat} {st e:Int} {K:Nat}
theorem FT.new (kd:Int) (s:ByteArray) (hs:s.size<=K) (hp:PS w1 gp Kt n A c tl a st e) (hc:aT w w1 (fun i=>i=gp)) (hr:aK w1 w.heap.size 99 #[.int .i64 0,.string ⟨#[]⟩,.slice none 0 0,.slice none 0 0]) (hg:gp < w.heap.size):
  FT w (((((w1.alloc (.cells #[.int .i64 0,.string ⟨#[]⟩,.slice none 0 0,.slice none 0 0] 99)).setCell ⟨w1.heap.size,0,none⟩ (.int .i64 kd)).setCell ⟨w1.heap.size,1,none⟩ (.string s)).setCell ⟨w1.heap.size,2,none⟩ (.slice none 0 0)).setCell ⟨w1.heap.size,3,none⟩ (.slice none 0 0)) gp Kt n A c tl a st e K w1.heap.size kd s (.slice none 0 0) [] (.slice none 0 0) []:=by
 have hl:=hr.lt;have hc4:aT w1 (((((w1.alloc (.cells #[.int .i64 0,.string ⟨#[]⟩,.slice none 0 0,.slice none 0 0] 99)).setCell ⟨w1.heap.size,0,none⟩ (.int .i64 kd)).setCell ⟨w1.heap.size,1,none⟩ (.string s)).setCell ⟨w1.heap.size,2,none⟩ (.slice none 0 0)).setCell ⟨w1.heap.size,3,none⟩ (.slice none 0 0)) (fun i=>i=w1.heap.size):=
  ((aT.refl w1 (fun i=>i=w1.heap.size)).alloc _).trans (cP _ _ _ _ _ _) (fun i _ h=>h)
 refine ⟨hp.chg hc4 (fun i h=>by omega),⟨aP (aK.new w1 _ _) _ _ _ _,fY _ _ _,TL.nil _ _ _,fun x hx=>(nomatch hx),by omega,hs,fun b hb=>(nomatch hb),fun x hx=>(nomatch hx),by simp [Value.ownBlock]⟩,hc.trans hc4 (fun i h1 h2=>by have:=hc.size;omega),hr.chg hc4 (by omega),hg⟩
theorem bZ.pass (hc:aT w w1 (fun i=>i=gp)) (hr:w.heap.size < w1.heap.size) (hg:gp < w.heap.size) (hp5:PS w2 gp Kt n A c tl a5 st5 e5) (hc5:aT w1 w2 (fun i=>i=gp)) (hr5:Tr w2 w2.heap.size t) (hi5:gG (w1.heap.size<=·) t) (hb5:fG K t) (ha5:fK n a e a5 e5) (hz5:e5=0->t.plain.size<=3*(a5 - a)):
  bZ w gp Kt n A c tl a e K (.returned (.agg #[.int .i64 t.kind,.string t.text,.slice t.lA t.leads.length t.lc,.slice t.kA t.kids.length t.kc])) ((((w2.setCell ⟨w.heap.size,0,none⟩ (.int .i64 t.kind)).setCell ⟨w.heap.size,1,none⟩ (.string t.text)).setCell ⟨w.heap.size,2,none⟩ (.slice t.lA t.leads.length t.lc)).setCell ⟨w.heap.size,3,none⟩ (.slice t.kA t.kids.length t.kc)):=by
 have hc4:=cP w2 w.heap.size (.int .i64 t.kind) (.string t.text) (.slice t.lA t.leads.length t.lc) (.slice t.kA t.kids.length t.kc);refine ⟨t,a5,st5,e5,rfl,hp5.chg hc4 (fun i h=>by omega),(hc.trans hc5 (fun i _ h=>h)).above hc4 (Nat.le_refl _),(hr5.chgS hi5 hc4 (Nat.le_refl _) (fun i h1 h2=>by omega)).more hc4.size,hi5.mono (fun b hb=>by omega),hb5,ha5,hz5⟩
end
theorem Ck (hn:n<=1000000) (hK:Kt<=K) (m:Nat):∀ (a:Nat) (st e:Int) (w:World),PS w gp Kt n A c tl a st e->(e=0->n+1 - a<=m)->
  Calls Tryz.prog 137 #[.pointer (some ⟨gp,0,none⟩)] w (bZ w gp Kt n A c tl a e K):=by
 induction m using Nat.strongRecOn with
 | ind m ih=>
 intro a st e w h hm;have HCAL:Hid (∀ a' st' e' w',PS w' gp Kt n A c tl a' st' e'->e'=0->e=0->a < a'->Calls Tryz.prog 137 #[.pointer (some ⟨gp,0,none⟩)] w' (bZ w' gp Kt n A c tl a' e' K)):=fun a' st' e' w' h1 h2 h3 h4=>by
  have:=h1.le;have:=hm h3;exact ih (n+1 - a') (by omega) a' st' e' w' h1 (fun _=>Nat.le_refl _)
 clear ih hm;have hle:=h.le;obtain ⟨W,hW⟩:=nm (w.alloc (.cells #[.int .i64 0,.string ⟨#[]⟩,.slice none 0 0,.slice none 0 0] 99));have HX:=bk hW;have HBW:=bw hW;have HGP:Hid (gp < w.heap.size):=h.lt;have HP:=hD (h.below HBW.out);have HC:Hid (aT w W (fun i=>i=gp)):=aT.of_new HBW.out _;have HW:=hD hW;clear hW h HBW;go_enter Tryz.func137,Tryz.ntmps137;go_wp2_with (rw [HW.out]);clear HW;(with_reducible refine (cU _ W HP.out hn).mono ?_);rintro e1 w1 ⟨b1,rfl,hb1,-⟩;have HX:=hD (HX.out.below hb1 HX.out.lt);have HC:Hid (aT w w1 (fun i=>i=gp)):=HC.out.trans (aT.of_new hb1 _) (fun i _ h=>h);have HP:=hD (HP.out.below hb1);clear hb1
 cases b1
 case true=>
  go_wp2_with fail;(with_reducible refine (gQ _ w1 HP.out hn hK (by unfold aO;omega)).mono ?_);rintro r0 wz ⟨x,a5,st5,e5,hr0,hp5,hc5,hr5,hi5,hb5,ha5,hz5⟩;obtain rfl:r0=.returned (.agg #[.int .i64 x.kind,.string x.text,.slice x.lA x.leads.length x.lc,.slice x.kA x.kids.length x.kc]):=hr0;have HX5:Hid (aK _ w.heap.size 99 _):=HX.out.chg hc5 (by have:=HGP.out;omega);have HP5:=hD (bZ.pass HC.out HX.out.lt HGP.out hp5 hc5 hr5 hi5 hb5 ha5 hz5);clear hp5 hc5 hr5 hi5 hb5 ha5 hz5;obtain ⟨x0,x1,x2,x3⟩:=HX5.out.c4;obtain ⟨q0,q1,q2,q3⟩:=HX5.out.f4;go_wp2_with fail;refine rR (aP HX5.out _ _ _ _) Tryz.underlying99 rfl rfl rfl rfl (by kernel_rfl) ?_;exact HP5.out
 go_wp2_with fail;(with_reducible refine (cU _ w1 HP.out hn).mono ?_);rintro e1 w2 ⟨b1,rfl,hb1,-⟩;have HX:=hD (HX.out.below hb1 HX.out.lt);have HC:Hid (aT w w2 (fun i=>i=gp)):=HC.out.trans (aT.of_new hb1 _) (fun i _ h=>h);have HP:=hD (HP.out.below hb1);clear hb1
 cases b1
 case true=>
  go_wp2_with fail;(with_reducible refine (gQ _ w2 HP.out hn hK (by unfold aO;omega)).mono ?_);rintro r0 wz ⟨x,a5,st5,e5,hr0,hp5,hc5,hr5,hi5,hb5,ha5,hz5⟩;obtain rfl:r0=.returned (.agg #[.int .i64 x.kind,.string x.text,.slice x.lA x.leads.length x.lc,.slice x.kA x.kids.length x.kc]):=hr0;have HX5:Hid (aK _ w.heap.size 99 _):=HX.out.chg hc5 (by have:=HGP.out;omega);have HP5:=hD (bZ.pass HC.out HX.out.lt HGP.out hp5 hc5 hr5 hi5 hb5 ha5 hz5);clear hp5 hc5 hr5 hi5 hb5 ha5 hz5;obtain ⟨x0,x1,x2,x3⟩:=HX5.out.c4;obtain ⟨q0,q1,q2,q3⟩:=HX5.out.f4;go_wp2_with fail;refine rR (aP HX5.out _ _ _ _) Tryz.underlying99 rfl rfl rfl rfl (by kernel_rfl) ?_;exact HP5.out
 go_wp2_with fail;(with_reducible refine (cU _ w2 HP.out hn).mono ?_);rintro e1 w3 ⟨b1,rfl,hb1,-⟩;have HX:=hD (HX.out.below hb1 HX.out.lt);have HC:Hid (aT w w3 (fun i=>i=gp)):=HC.out.trans (aT.of_new hb1 _) (fun i _ h=>h);have HP:=hD (HP.out.below hb1);clear hb1
 cases b1
 case true=>
  go_wp2_with fail;(with_reducible refine (gQ _ w3 HP.out hn hK (by unfold aO;omega)).mono ?_);rintro r0 wz ⟨x,a5,st5,e5,hr0,hp5,hc5,hr5,hi5,hb5,ha5,hz5⟩;obtain rfl:r0=.returned (.agg #[.int .i64 x.kind,.string x.text,.slice x.lA x.leads.length x.lc,.slice x.kA x.kids.length x.kc]):=hr0;have HX5:Hid (aK _ w.heap.size 99 _):=HX.out.chg hc5 (by have:=HGP.out;omega);have HP5:=hD (bZ.pass HC.out HX.out.lt HGP.out hp5 hc5 hr5 hi5 hb5 ha5 hz5);clear hp5 hc5 hr5 hi5 hb5 ha5 hz5;obtain ⟨x0,x1,x2,x3⟩:=HX5.out.c4;obtain ⟨q0,q1,q2,q3⟩:=HX5.out.f4;go_wp2_with fail;refine rR (aP HX5.out _ _ _ _) Tryz.underlying99 rfl rfl rfl rfl (by kernel_rfl) ?_;exact HP5.out
 go_wp2_with fail;(with_reducible refine (dB w3 HP.out hn).mono ?_);rintro r0 w4 ⟨k1,rfl,hb1,-,-⟩;have HX:=hD (HX.out.below hb1 HX.out.lt);have HC:Hid (aT w w4 (fun i=>i=gp)):=HC.out.trans (aT.of_new hb1 _) (fun i _ h=>h);have HP:=hD (HP.out.below hb1);clear hb1;have q:(k1 == 2)=true\/(k1 == 2)=false:=by cases (k1 == 2) <;> simp
 rcases q with q | q
 ·obtain ⟨Wa,hWa⟩:=nm (w4.alloc (.cells #[.int .i64 0,.string ⟨#[]⟩,.slice none 0 0,.slice none 0 0] 99));obtain ⟨Wb,hWb⟩:=nm (((((Wa.setCell ⟨w4.heap.size,0,none⟩ (.int .i64 9)).setCell ⟨w4.heap.size,1,none⟩ (.string ⟨#[]⟩)).setCell ⟨w4.heap.size,2,none⟩ (.slice none 0 0)).setCell ⟨w4.heap.size,3,none⟩ (.slice none 0 0)));have HF:Hid (FT w Wb gp Kt n A c tl a st e K w4.heap.size 9 ⟨#[]⟩ (.slice none 0 0) [] (.slice none 0 0) []):=by
   have:=FT.new (K:=K) 9 ⟨#[]⟩ (Nat.zero_le _) HP.out HC.out HX.out HGP.out;rw [hWa,hWb] at this;exact this
  have HWa:=hD hWa;have HWb:=hD hWb;have HAX:=bk hWa;clear hWa hWb;obtain ⟨x0,x1,x2,x3⟩:=HAX.out.c4;obtain ⟨q0,q1,q2,q3⟩:=HAX.out.f4;go_wp2_with (first | rw [HWa.out] | rw [HWb.out]);clear HWa HWb HAX x0 x1 x2 x3 q0 q1 q2 q3;(with_reducible refine (dB Wb HF.out.ps hn).mono ?_);rintro r0 w5 ⟨k3,rfl,hb5,-,-⟩;have HF:=hD (HF.out.below hb5);clear hb5;go_wp2_with fail;(with_reducible refine (dV k3 w5 HF.out.ps hn HF.out.ut (by have:=HGP.out;omega) hK (by simp)).mono ?_);rintro r0 w6 hm6;obtain ⟨a5,st5,e5,s5,L5,ls5,rfl,hf5,ha5,hl5,-⟩:=HF.out.must hm6;have HF:=hD hf5;have HAD:=hD ha5;have HLL:=hD (show ls5.length<=1 by simpa using hl5);have HKL:=hD (show ([]:List TX).length<=1 by simp);have HSZ:Hid (e5=0->1+T.sizes (([]:List TX).map TX.plain)<=3*(a5 - a)):=fun h0=>by
   have:=HAD.out.2.2 h0;simp [T.sizes];omega
  clear hm6 hf5 ha5 hl5;obtain ⟨⟨LA,lc,rfl,-⟩,-⟩:=HF.out.ut.forms;obtain ⟨y0,y1,y2,y3⟩:=HF.out.ut.box.c4;obtain ⟨x0,x1,x2,x3⟩:=HF.out.res.c4;obtain ⟨q0,q1,q2,q3⟩:=HF.out.res.f4;go_wp2_with fail;refine rR (aP HF.out.res _ _ _ _) Tryz.underlying99 rfl rfl rfl rfl (by kernel_rfl) ?_;refine FT.ret HF.out ?_ ?_ ?_ HAD.out HSZ.out
  ·unfold aO;omega
  ·have:=HLL.out;omega
  ·have:=HKL.out;omega
 go_wp2_with fail;(with_reducible refine (dB w4 HP.out hn).mono ?_);rintro r0 w4 ⟨k2,rfl,hb1,-,-⟩;have HX:=hD (HX.out.below hb1 HX.out.lt);have HC:Hid (aT w w4 (fun i=>i=gp)):=HC.out.trans (aT.of_new hb1 _) (fun i _ h=>h);have HP:=hD (HP.out.below hb1);clear hb1;have q2:(k2 == 4)=true\/(k2 == 4)=false:=by cases (k2 == 4) <;> simp
 rcases q2 with q2 | q2
 ·obtain ⟨Wa,hWa⟩:=nm (w4.alloc (.cells #[.int .i64 0,.string ⟨#[]⟩,.slice none 0 0,.slice none 0 0] 99));obtain ⟨Wb,hWb⟩:=nm (((((Wa.setCell ⟨w4.heap.size,0,none⟩ (.int .i64 9)).setCell ⟨w4.heap.size,1,none⟩ (.string ⟨#[]⟩)).setCell ⟨w4.heap.size,2,none⟩ (.slice none 0 0)).setCell ⟨w4.heap.size,3,none⟩ (.slice none 0 0)));have HF:Hid (FT w Wb gp Kt n A c tl a st e K w4.heap.size 9 ⟨#[]⟩ (.slice none 0 0) [] (.slice none 0 0) []):=by
   have:=FT.new (K:=K) 9 ⟨#[]⟩ (Nat.zero_le _) HP.out HC.out HX.out HGP.out;rw [hWa,hWb] at this;exact this
  have HWa:=hD hWa;have HWb:=hD hWb;have HAX:=bk hWa;clear hWa hWb;obtain ⟨x0,x1,x2,x3⟩:=HAX.out.c4;obtain ⟨q0,q1,q2,q3⟩:=HAX.out.f4;go_wp2_with (first | rw [HWa.out] | rw [HWb.out]);clear HWa HWb HAX x0 x1 x2 x3 q0 q1 q2 q3;(with_reducible refine (dB Wb HF.out.ps hn).mono ?_);rintro r0 w5 ⟨k3,rfl,hb5,-,-⟩;have HF:=hD (HF.out.below hb5);clear hb5;go_wp2_with fail;(with_reducible refine (dV k3 w5 HF.out.ps hn HF.out.ut (by have:=HGP.out;omega) hK (by simp)).mono ?_);rintro r0 w6 hm6;obtain ⟨a5,st5,e5,s5,L5,ls5,rfl,hf5,ha5,hl5,-⟩:=HF.out.must hm6;have HF:=hD hf5;have HAD:=hD ha5;have HLL:=hD (show ls5.length<=1 by simpa using hl5);have HKL:=hD (show ([]:List TX).length<=1 by simp);have HSZ:Hid (e5=0->1+T.sizes (([]:List TX).map TX.plain)<=3*(a5 - a)):=fun h0=>by
   have:=HAD.out.2.2 h0;simp [T.sizes];omega
  clear hm6 hf5 ha5 hl5;obtain ⟨⟨LA,lc,rfl,-⟩,-⟩:=HF.out.ut.forms;obtain ⟨y0,y1,y2,y3⟩:=HF.out.ut.box.c4;obtain ⟨x0,x1,x2,x3⟩:=HF.out.res.c4;obtain ⟨q0,q1,q2,q3⟩:=HF.out.res.f4;go_wp2_with fail;refine rR (aP HF.out.res _ _ _ _) Tryz.underlying99 rfl rfl rfl rfl (by kernel_rfl) ?_;refine FT.ret HF.out ?_ ?_ ?_ HAD.out HSZ.out
  ·unfold aO;omega
  ·have:=HLL.out;omega
  ·have:=HKL.out;omega
 obtain ⟨Wa,hWa⟩:=nm (w4.alloc (.cells #[.int .i64 0,.string ⟨#[]⟩,.slice none 0 0,.slice none 0 0] 99));obtain ⟨Wb,hWb⟩:=nm (((((Wa.setCell ⟨w4.heap.size,0,none⟩ (.int .i64 8)).setCell ⟨w4.heap.size,1,none⟩ (.string ⟨#[]⟩)).setCell ⟨w4.heap.size,2,none⟩ (.slice none 0 0)).setCell ⟨w4.heap.size,3,none⟩ (.slice none 0 0)));have HF:Hid (FT w Wb gp Kt n A c tl a st e K w4.heap.size 8 ⟨#[]⟩ (.slice none 0 0) [] (.slice none 0 0) []):=by
  have:=FT.new (K:=K) 8 ⟨#[]⟩ (Nat.zero_le _) HP.out HC.out HX.out HGP.out;rw [hWa,hWb] at this;exact this
 have HWa:=hD hWa;have HWb:=hD hWb;have HAX:=bk hWa;clear hWa hWb;obtain ⟨x0,x1,x2,x3⟩:=HAX.out.c4;obtain ⟨q0,q1,q2,q3⟩:=HAX.out.f4;go_wp2_with (first | rw [HWa.out] | rw [HWb.out]);clear HWa HWb HAX x0 x1 x2 x3 q0 q1 q2 q3;(with_reducible refine (bP _ Wb HF.out.ps hn HF.out.ut (by have:=HGP.out;omega) hK (by simp)).mono ?_);rintro r0 wm hm6;obtain ⟨a5,st5,e5,s5,L5,ls5,rfl,hf5,ha5,hl5,-⟩:=HF.out.must hm6;have HF:=hD hf5;have HAD:=hD ha5;have HLL:=hD (show ls5.length<=1 by simpa using hl5);clear hm6 hf5 ha5 hl5;obtain ⟨⟨LA,lc,rfl,-⟩,-⟩:=HF.out.ut.forms;obtain ⟨z0,z1,z2,z3,z4⟩:=HF.out.ps.box.c5;have q5:(e5 != 0)=true\/(e5 != 0)=false:=by cases (e5 != 0) <;> simp
 rcases q5 with q5 | q5
 ·have HKL:=hD (show ([]:List TX).length<=1 by simp);have HSZ:Hid (e5=0->1+T.sizes (([]:List TX).map TX.plain)<=3*(a5 - a)):=fun h0=>by
   rw [h0] at q5;cases q5
  obtain ⟨y0,y1,y2,y3⟩:=HF.out.ut.box.c4;obtain ⟨x0,x1,x2,x3⟩:=HF.out.res.c4;obtain ⟨q0,q1,q2,q3⟩:=HF.out.res.f4;go_wp2_with fail;refine rR (aP HF.out.res _ _ _ _) Tryz.underlying99 rfl rfl rfl rfl (by kernel_rfl) ?_;refine FT.ret HF.out ?_ ?_ ?_ HAD.out HSZ.out
  ·unfold aO;omega
  ·have:=HLL.out;omega
  ·have:=HKL.out;omega
 have he5:e5=0:=by simpa using q5
 have HK5:Hid (∀ w',PS w' gp Kt n A c tl a5 st5 e5->Calls Tryz.prog 137 #[.pointer (some ⟨gp,0,none⟩)] w' (bZ w' gp Kt n A c tl a5 e5 K)):=fun w' h'=>HCAL.out a5 st5 e5 w' h' he5 (HAD.out.2.2 he5).1 (HAD.out.2.2 he5).2;clear he5;obtain ⟨ks,hks⟩:∃ ks:List TX,ks=[]:=⟨_,rfl⟩;have HF:Hid (FT w wm gp Kt n A c tl a5 st5 e5 K w4.heap.size 8 s5 (.slice LA ls5.length lc) ls5 (.slice none ks.length 0) ks):=by subst hks;exact HF.out
 obtain ⟨gt,hgt⟩:=nm w4.heap.size;rw [hgt] at HF ⊢;clear hgt;have HKS:Hid (ks=[]):=hks;have hk0:ks.length<=0:=by rw [hks];exact Nat.le_refl _
 clear hks;go_upto_region 15 with fail;go_cut [50] (fun x wq=>Hid (dT wm gp Kt n A c tl a5 e5 K (w.heap.size+1) gt 8 s5 (.slice LA ls5.length lc) ls5 (.slice none ks.length 0) ks wq))
 case first=>
  have t3:=HF.out.ut.box.cell 3;simp at t3;have ft3:=bA (M:=fun i=>i=gp) t3 (by have:=HF.out.ut.glo;have:=HF.out.gp;omega);have HPD:=hD (eQ HF.out.ps);clear t3;go_wp2_with fail;refine cS (fun i=>i=gp) 5 (.two [0,1,2,4] 3 (.one [] 5 (.last [])) 5 (.one [] 3 (.last []))) (.one [] 6 (.two [7,9] 8 (.one [] 10 (.last [])) 10 (.one [] 8 (.last [])))) (by kernel_rfl) (by kernel_rfl) ?_;refine dR ?_;simp only [sN]
  repeat (go_big_quiet_step (fail))
  refine wpQuiet_nil ?_;apply And.intro
  case' left=>
   refine aC rfl 137 _ _ rfl Tryz.func137 rfl (by kernel_rfl) #[.pointer (some ⟨gp,0,none⟩)] (by simp [Act.eval]) (HK5.out _ HPD.out.2) ?_;rintro r w5 h5;obtain ⟨x,a5,st5,e5,rfl,HKI⟩:=gB HPD.out.1 h5;refine ⟨_,rfl,⟨⟨_,HKI.chg⟩,rfl⟩,?_⟩;simp only [sP];refine bL ?_;simp only [sN];refine wpQuiet_nil ?_;obtain ⟨wx,gz,hWx,hgz,HZB,HKI⟩:=gM HKI;refine aE rfl (by simp [go_sem];exact ⟨rfl,hWx⟩) ⟨⟨_,HKI.chg⟩,rfl⟩ ?_;simp only [Act.put,List.setIfInBounds_toArray,List.set_cons_succ,List.set_cons_zero,hgz];clear hWx hgz h5;refine bI ?_;simp only [sN];refine wpQuiet_nil ?_
  case' right=>
   obtain ⟨w4,hW4,HZ4,HC4,HP4⟩:=fC HF.out.ps;refine aE rfl (by simp [go_sem];exact ⟨rfl,hW4⟩) ⟨⟨_,HC4.out⟩,rfl⟩ ?_;simp only [sP];clear hW4;refine bL ?_;simp only [sN];refine wpQuiet_nil ?_;refine aC rfl 137 _ _ rfl Tryz.func137 rfl (by kernel_rfl) #[.pointer (some ⟨gp,0,none⟩)] (by simp [Act.eval]) (HK5.out _ HP4) ?_;rintro r wx h5;obtain ⟨x,a5,st5,e5,gz,rfl,hgz,HZB,HKI⟩:=fB HF.out.ps HZ4.out HC4.out h5;refine ⟨_,rfl,⟨⟨_,HKI.chg⟩,rfl⟩,?_⟩;simp only [sP]
   try simp only [hgz]
   clear hgz h5;refine bI ?_;simp only [sN];refine wpQuiet_nil ?_
  all_goals
   have HU5:=hD (HKI.ut HF.out.ut (by have:=HF.out.gp;omega));clear ft3;refine aD ?_;simp only [sN]
   repeat (go_big_quiet_step (fail))
   refine wpQuiet_nil ?_;refine aA rfl ?_;at_builtin;refine eJ rfl rfl rfl HU5.out (by simp [Act.eval]) (by simp [Act.eval]) HZB.out (by omega) ?_;intro g7 c7 w7 HKO;obtain ⟨h01,h02,h03⟩:=Fd ks.length;obtain ⟨z0,z1,z2,z3,f0,f1,f2,f3⟩:=HKO.z;refine ⟨⟨_,rfl⟩,?_⟩;simp only [sP];refine bF ?_;simp only [sN]
   repeat (go_big_quiet_step (fail))
   refine wpQuiet_nil ?_;apply And.intro
   case' left=>
    refine aA rfl ?_;go_wp2_with fail;refine ⟨⟨_,rfl⟩,?_⟩;obtain ⟨b3,q3⟩:=HKO.zb x;refine aD ?_;simp only [sN]
    repeat (go_big_quiet_step (fail))
    refine wpQuiet_nil ?_;refine aA rfl ?_;go_wp2_with fail;refine ⟨⟨_,rfl⟩,?_⟩;obtain ⟨wf,hWf,HKF⟩:=HKO.fin8 x;rw [hWf];clear hWf b3 q3
   case' right=>
    obtain ⟨b3,q3⟩:=HKO.b;refine aA rfl ?_;go_wp2_with fail;refine ⟨⟨_,rfl⟩,?_⟩;clear z0 z1 z2 z3 f0 f1 f2 f3 b3 q3;obtain ⟨z0,z1,z2,z3,f0,f1,f2,f3⟩:=HKO.bz;refine aD ?_;simp only [sN]
    repeat (go_big_quiet_step (fail))
    refine wpQuiet_nil ?_;refine aA rfl ?_;go_wp2_with fail;refine ⟨⟨_,rfl⟩,?_⟩;obtain ⟨wf,hWf,HKF⟩:=HKO.fin10 x;rw [hWf];clear hWf
   all_goals
    refine aM ?_;simp only [sN];refine wpQuiet_nil ?_;go_wp2_with fail;refine NoPanic.normal ?_;go_wp2_with fail;go_meet;exact hD (eI HKI HF.out.ut (by have:=HF.out.gp;omega) HKF)
 case rest=>
  clear z0 z1 z2 z3 z4;obtain ⟨x6,a6,st6,e6,KD6,hf6,ha6,hz6⟩:=HF.out.kid hcut.out;have HF:=hD hf6;have HA6:=hD ha6;have HZ6:=hD hz6;clear hf6 ha6 hz6 hcut;go_wp2_with fail;(with_reducible refine (bP _ wc HF.out.ps hn HF.out.ut (by have:=HGP.out;omega) hK (by have:=HLL.out;omega)).mono ?_);rintro r0 w7 hm7;obtain ⟨a7,st7,e7,s7,L7,ls7,rfl,hf7,ha7,hl7,-⟩:=HF.out.must hm7;have HF:=hD hf7;have HA7:=hD ha7;have HLL:=hD (show ls7.length<=2 by have:=HLL.out;omega);have HKL:=hD (show (ks++[x6]).length<=1 by rw [HKS.out];simp);have HSZ:Hid (e7=0->1+T.sizes ((ks++[x6]).map TX.plain)<=3*(a7 - a)):=fun h0=>by
   have h1:=HA7.out.2.2 h0;have h2:=HZ6.out h1.1;have h3:=HA6.out.2.2 h1.1;have h4:=HAD.out.2.2 h3.1;rw [HKS.out];simp only [List.nil_append,List.map_cons,List.map_nil,T.sizes];omega
  have HAD:=hD ((HAD.out.trans HA6.out).trans HA7.out);clear hm7 hf7 ha7 hl7;obtain ⟨k6,hk6⟩:=nm (ks++[x6]);rw [hk6] at HF HKL HSZ;clear hk6;obtain ⟨⟨LA7,lc7,rfl,-⟩,⟨KA7,kc7,rfl,-⟩⟩:=HF.out.ut.forms;obtain ⟨y0,y1,y2,y3⟩:=HF.out.ut.box.c4;obtain ⟨x0,x1,x2,x3⟩:=HF.out.res.c4;obtain ⟨q0,q1,q2,q3⟩:=HF.out.res.f4;go_wp2_with fail;refine rR (aP HF.out.res _ _ _ _) Tryz.underlying99 rfl rfl rfl rfl (by kernel_rfl) ?_;refine FT.ret HF.out ?_ ?_ ?_ HAD.out HSZ.out
  ·unfold aO;omega
  ·have:=HLL.out;omega
  ·have:=HKL.out;omega
def EC (f:FuncId) (gp Kt n:Nat) (A:Option Addr) (c:Nat) (tl:ByteArray) (K m:Nat):Prop:=∀ (a:Nat) (st e:Int) (w:World),PS w gp Kt n A c tl a st e->(e=0->n+1 - a<=m)->
  Calls Tryz.prog f #[.pointer (some ⟨gp,0,none⟩)] w (bZ w gp Kt n A c tl a e K)
def BY (w:World) (gp Kt n:Nat) (A:Option Addr) (c:Nat) (tl:ByteArray) (a:Nat) (e:Int) (K lo:Nat) (L Kd:Value) (r:Ending) (w':World):Prop:=
 ∃ (t:TX) (a':Nat) (st' e':Int),r=.returned t.val/\PS w' gp Kt n A c tl a' st' e'/\aT w w' (fun i=>i=gp\/L.ownBlock=some i\/Kd.ownBlock=some i)/\Tr w' w'.heap.size t/\gG (lo<=·) t/\fG K t/\fK n a e a' e'/\(e'=0->t.plain.size<=3*(a' - a))
def IC (gp Kt n:Nat) (A:Option Addr) (c:Nat) (tl:ByteArray) (K m:Nat):Prop:=∀ (a:Nat) (st e:Int) (lo gt:Nat) (k:Int) (s:ByteArray) (L:Value) (ls:List ByteArray) (Kd:Value) (tx:ByteArray) (mo:Int) (w:World),PS w gp Kt n A c tl a st e->(e=0->n+1 - a<=m)->UT w K lo gt k s L ls Kd []->gp < lo->ls.length<=100->aO k->
  Calls Tryz.prog 170 #[.pointer (some ⟨gp,0,none⟩),.agg #[.int .i64 k,.string s,L,Kd],.string tx,.int .i64 mo] w (BY w gp Kt n A c tl a e K lo L Kd)
section
variable {w w2 wr w':World} {gp Kt n:Nat} {A:Option Addr} {c:Nat} {tl:ByteArray} {a:Nat} {st e:Int} {K gt:Nat} {k:Int} {s:ByteArray} {L:Value} {ls:List ByteArray} {Kd:Value} {ks:List TX}
theorem bZ.pass2 (hc:aT w w2 (fun i=>i=gp)) (hg:gp < w.heap.size) (hp5:PS w2 gp Kt n A c tl a5 st5 e5) (hr5:Tr w2 w2.heap.size t) (hi5:gG (w.heap.size+1<=·) t) (hb5:fG K t) (ha5:fK n a e a5 e5) (hz5:e5=0->t.plain.size<=3*(a5 - a)):
  bZ w gp Kt n A c tl a e K (.returned (.agg #[.int .i64 t.kind,.string t.text,.slice t.lA t.leads.length t.lc,.slice t.kA t.kids.length t.kc])) ((((w2.setCell ⟨w.heap.size,0,none⟩ (.int .i64 t.kind)).setCell ⟨w.heap.size,1,none⟩ (.string t.text)).setCell ⟨w.heap.size,2,none⟩ (.slice t.lA t.leads.length t.lc)).setCell ⟨w.heap.size,3,none⟩ (.slice t.kA t.kids.length t.kc)):=by
 have hc4:=cP w2 w.heap.size (.int .i64 t.kind) (.string t.text) (.slice t.lA t.leads.length t.lc) (.slice t.kA t.kids.length t.kc);refine ⟨t,a5,st5,e5,rfl,hp5.chg hc4 (fun i h=>by omega),hc.above hc4 (Nat.le_refl _),(hr5.chgS hi5 hc4 (Nat.le_refl _) (fun i h1 h2=>by omega)).more hc4.size,hi5.mono (fun b hb=>by omega),hb5,ha5,hz5⟩
theorem FT.ichg (h:FT w wr gp Kt n A c tl a st e K gt k s L ls Kd ks) (hc:aT wr w' (fun i=>i=gp\/L.ownBlock=some i\/Kd.ownBlock=some i)):aT w w' (fun i=>i=gp):=
 h.chg.trans hc (fun i h1 h2=>by
  rcases h2 with h2 | h2 | h2
  ·exact h2
  ·have:=aU h.ut.lead i h2;omega
  ·have:=aU h.ut.kids.row i h2;omega)
theorem FT.ires (h:FT w wr gp Kt n A c tl a st e K gt k s L ls Kd ks) (hc:aT wr w' (fun i=>i=gp\/L.ownBlock=some i\/Kd.ownBlock=some i)):aK w' w.heap.size 99 #[.int .i64 0,.string ⟨#[]⟩,.slice none 0 0,.slice none 0 0]:=
 h.res.chg hc (fun h2=>by
  have:=h.gp;rcases h2 with h2 | h2 | h2
  ·omega
  ·have:=aU h.ut.lead _ h2;omega
  ·have:=aU h.ut.kids.row _ h2;omega)
theorem FT.rekind (h:FT w wr gp Kt n A c tl a st e K gt k s L ls Kd ks) (k':Int):FT w (wr.setCell ⟨gt,0,none⟩ (.int .i64 k')) gp Kt n A c tl a st e K gt k' s L ls Kd ks:=by
 have hc:aT wr (wr.setCell ⟨gt,0,none⟩ (.int .i64 k')) (fun i=>i=gt):=(aT.refl wr (fun i=>i=gt)).setCell (p:=⟨gt,0,none⟩) (.inl rfl) _;have hg:=h.glt;have hgp:=h.gp;refine ⟨h.ps.chg hc (fun i h=>by omega),h.ut.boxed hc (h.ut.box.set_ 0 _) h.ut.ts,h.chg.trans hc (fun i h1 h2=>by omega),h.res.chg hc (by omega),h.gp⟩
end
theorem Tr.empty (w:World) (B:Nat):Tr w B (.node 0 ⟨#[]⟩ none [] 0 none [] 0):=.mk _ ⟨rfl,fun h=>absurd h (by simp [TX.kids])⟩ ⟨rfl,fun h=>absurd h (by simp [TX.leads])⟩ (by simp [TX.kids]) (by simp [TX.kids]) (by simp [TX.leads]) (by simp [TX.kind]) (fun k hk=>by simp [TX.kids] at hk)
theorem gG.empty (R:Nat->Prop):gG R (.node 0 ⟨#[]⟩ none [] 0 none [] 0):=.mk _ (fun ad e=>by cases e) (fun ad e=>by cases e) (fun k hk=>by simp [TX.kids] at hk)
theorem fG.empty (K:Nat):fG K (.node 0 ⟨#[]⟩ none [] 0 none [] 0):=.mk _ (Nat.zero_le _) (fun s hs=>by simp [TX.leads] at hs) (fun k hk=>by simp [TX.kids] at hk)
theorem Cj (hn:n<=1000000) (hK:Kt<=K) (m:Nat) (hE:∀ m',m' < m->EC 138 gp Kt n A c tl K m') (hI:∀ m',m' < m->IC gp Kt n A c tl K m'):EC 158 gp Kt n A c tl K m:=by
 intro a st e w h hm;have HE:Hid (∀ a' st' e' w',PS w' gp Kt n A c tl a' st' e'->e=0->(e'=0->a < a')->Calls Tryz.prog 138 #[.pointer (some ⟨gp,0,none⟩)] w' (bZ w' gp Kt n A c tl a' e' K)):=fun a' st' e' w' h1 h3 h4=>by
  have:=h1.le;have:=h.le;have:=hm h3;exact hE (m - 1) (by omega) a' st' e' w' h1 (fun h0=>by have:=h4 h0;omega)
 have HI:Hid (∀ a' st' e' lo gt k s L ls Kd tx mo w',PS w' gp Kt n A c tl a' st' e'->e=0->(e'=0->a < a')->UT w' K lo gt k s L ls Kd []->gp < lo->ls.length<=100->aO k->
   Calls Tryz.prog 170 #[.pointer (some ⟨gp,0,none⟩),.agg #[.int .i64 k,.string s,L,Kd],.string tx,.int .i64 mo] w' (BY w' gp Kt n A c tl a' e' K lo L Kd)):=fun a' st' e' lo gt k s L ls Kd tx mo w' h1 h3 h4=>by
  have:=h1.le;have:=h.le;have:=hm h3;exact hI (m - 1) (by omega) a' st' e' lo gt k s L ls Kd tx mo w' h1 (fun h0=>by have:=h4 h0;omega)
 clear hE hI hm;have hle:=h.le;obtain ⟨W,hW⟩:=nm (w.alloc (.cells #[.int .i64 0,.string ⟨#[]⟩,.slice none 0 0,.slice none 0 0] 99));have HX:=bk hW;have HBW:=bw hW;have HGP:Hid (gp < w.heap.size):=h.lt;have HP:=hD (h.below HBW.out);have HC:Hid (aT w W (fun i=>i=gp)):=aT.of_new HBW.out _;have HW:=hD hW;clear hW h HBW;go_enter Tryz.func158,Tryz.ntmps158;go_wp2_with (rw [HW.out]);clear HW;(with_reducible refine (dB W HP.out hn).mono ?_);rintro r0 w1 ⟨k1,rfl,hb1,hkt,-⟩;have HX:=hD (HX.out.below hb1 HX.out.lt);have HC:Hid (aT w w1 (fun i=>i=gp)):=HC.out.trans (aT.of_new hb1 _) (fun i _ h=>h);have HP:=hD (HP.out.below hb1);clear hb1;have q:(k1 == 5)=true\/(k1 == 5)=false:=by cases (k1 == 5) <;> simp
 rcases q with q | q
 ·obtain ⟨Wa,hWa⟩:=nm (w1.alloc (.cells #[.int .i64 0,.string ⟨#[]⟩,.slice none 0 0,.slice none 0 0] 99));obtain ⟨Wb,hWb⟩:=nm (((((Wa.setCell ⟨w1.heap.size,0,none⟩ (.int .i64 10)).setCell ⟨w1.heap.size,1,none⟩ (.string ⟨#[]⟩)).setCell ⟨w1.heap.size,2,none⟩ (.slice none 0 0)).setCell ⟨w1.heap.size,3,none⟩ (.slice none 0 0)));have HF:Hid (FT w Wb gp Kt n A c tl a st e K w1.heap.size 10 ⟨#[]⟩ (.slice none 0 0) [] (.slice none 0 0) []):=by
   have:=FT.new (K:=K) 10 ⟨#[]⟩ (Nat.zero_le _) HP.out HC.out HX.out HGP.out;rw [hWa,hWb] at this;exact this
  have HWa:=hD hWa;have HWb:=hD hWb;have HAX:=bk hWa;clear hWa hWb;obtain ⟨x0,x1,x2,x3⟩:=HAX.out.c4;obtain ⟨q0,q1,q2,q3⟩:=HAX.out.f4;go_wp2_with (first | rw [HWa.out] | rw [HWb.out]);clear HWa HWb HAX x0 x1 x2 x3 q0 q1 q2 q3;have HAD:Hid (fK n a e a e\/True):=.inr trivial;(with_reducible refine (dV 5 Wb HF.out.ps hn HF.out.ut (by have:=HGP.out;omega) hK (by simp)).mono ?_);rintro r0 w6 hm6;obtain ⟨a5,st5,e5,s5,L5,ls5,rfl,hf5,ha5,hl5,-⟩:=HF.out.must hm6;have HF:=hD hf5;have HAD:=hD ha5;have HLL:=hD (show ls5.length<=1 by simpa using hl5);have HKL:=hD (show ([]:List TX).length<=1 by simp);have HSZ:Hid (e5=0->1+T.sizes (([]:List TX).map TX.plain)<=3*(a5 - a)):=fun h0=>by
   have:=HAD.out.2.2 h0;simp [T.sizes];omega
  clear hm6 hf5 ha5 hl5;obtain ⟨⟨LA,lc,rfl,-⟩,-⟩:=HF.out.ut.forms;obtain ⟨y0,y1,y2,y3⟩:=HF.out.ut.box.c4;obtain ⟨x0,x1,x2,x3⟩:=HF.out.res.c4;obtain ⟨q0,q1,q2,q3⟩:=HF.out.res.f4;go_wp2_with fail;refine rR (aP HF.out.res _ _ _ _) Tryz.underlying99 rfl rfl rfl rfl (by kernel_rfl) ?_;refine FT.ret HF.out ?_ ?_ ?_ HAD.out HSZ.out
  ·first | exact HIK.out | (unfold aO;omega)
  ·have:=HLL.out;omega
  ·have:=HKL.out;omega
 go_wp2_with fail;(with_reducible refine (dB w1 HP.out hn).mono ?_);rintro r0 w2 ⟨k2,rfl,hb1,hkt,-⟩;have HX:=hD (HX.out.below hb1 HX.out.lt);have HC:Hid (aT w w2 (fun i=>i=gp)):=HC.out.trans (aT.of_new hb1 _) (fun i _ h=>h);have HP:=hD (HP.out.below hb1);clear hb1;have q2:(k2 == 6)=true\/(k2 == 6)=false:=by cases (k2 == 6) <;> simp
 rcases q2 with q2 | q2
 ·obtain ⟨Wa,hWa⟩:=nm (w2.alloc (.cells #[.int .i64 0,.string ⟨#[]⟩,.slice none 0 0,.slice none 0 0] 99));obtain ⟨Wb,hWb⟩:=nm (((((Wa.setCell ⟨w2.heap.size,0,none⟩ (.int .i64 11)).setCell ⟨w2.heap.size,1,none⟩ (.string ⟨#[]⟩)).setCell ⟨w2.heap.size,2,none⟩ (.slice none 0 0)).setCell ⟨w2.heap.size,3,none⟩ (.slice none 0 0)));have HF:Hid (FT w Wb gp Kt n A c tl a st e K w2.heap.size 11 ⟨#[]⟩ (.slice none 0 0) [] (.slice none 0 0) []):=by
   have:=FT.new (K:=K) 11 ⟨#[]⟩ (Nat.zero_le _) HP.out HC.out HX.out HGP.out;rw [hWa,hWb] at this;exact this
  have HWa:=hD hWa;have HWb:=hD hWb;have HAX:=bk hWa;clear hWa hWb;obtain ⟨x0,x1,x2,x3⟩:=HAX.out.c4;obtain ⟨q0,q1,q2,q3⟩:=HAX.out.f4;go_wp2_with (first | rw [HWa.out] | rw [HWb.out]);clear HWa HWb HAX x0 x1 x2 x3 q0 q1 q2 q3;have HAD:Hid (fK n a e a e\/True):=.inr trivial;(with_reducible refine (dV 6 Wb HF.out.ps hn HF.out.ut (by have:=HGP.out;omega) hK (by simp)).mono ?_);rintro r0 w6 hm6;obtain ⟨a5,st5,e5,s5,L5,ls5,rfl,hf5,ha5,hl5,-⟩:=HF.out.must hm6;have HF:=hD hf5;have HAD:=hD ha5;have HLL:=hD (show ls5.length<=1 by simpa using hl5);have HKL:=hD (show ([]:List TX).length<=1 by simp);have HSZ:Hid (e5=0->1+T.sizes (([]:List TX).map TX.plain)<=3*(a5 - a)):=fun h0=>by
   have:=HAD.out.2.2 h0;simp [T.sizes];omega
  clear hm6 hf5 ha5 hl5;obtain ⟨⟨LA,lc,rfl,-⟩,-⟩:=HF.out.ut.forms;obtain ⟨y0,y1,y2,y3⟩:=HF.out.ut.box.c4;obtain ⟨x0,x1,x2,x3⟩:=HF.out.res.c4;obtain ⟨q0,q1,q2,q3⟩:=HF.out.res.f4;go_wp2_with fail;refine rR (aP HF.out.res _ _ _ _) Tryz.underlying99 rfl rfl rfl rfl (by kernel_rfl) ?_;refine FT.ret HF.out ?_ ?_ ?_ HAD.out HSZ.out
  ·first | exact HIK.out | (unfold aO;omega)
  ·have:=HLL.out;omega
  ·have:=HKL.out;omega
 go_wp2_with fail;(with_reducible refine (cU _ w2 HP.out hn).mono ?_);rintro r0 w3 ⟨b1,rfl,hb1,hbt⟩;have HX:=hD (HX.out.below hb1 HX.out.lt);have HC:Hid (aT w w3 (fun i=>i=gp)):=HC.out.trans (aT.of_new hb1 _) (fun i _ h=>h);have HP:=hD (HP.out.below hb1);clear hb1
 cases b1
 case true=>
  go_wp2_with fail;(with_reducible refine (gQ _ w3 HP.out hn hK (by unfold aO;omega)).mono ?_);rintro r0 wz ⟨x,a5,st5,e5,hr0,hp5,hc5,hr5,hi5,hb5,ha5,hz5⟩;obtain rfl:r0=.returned (.agg #[.int .i64 x.kind,.string x.text,.slice x.lA x.leads.length x.lc,.slice x.kA x.kids.length x.kc]):=hr0;have HX5:Hid (aK _ w.heap.size 99 _):=HX.out.chg hc5 (by have:=HGP.out;omega);have HP5:=hD (bZ.pass HC.out HX.out.lt HGP.out hp5 hc5 hr5 hi5 hb5 ha5 hz5);clear hp5 hc5 hr5 hi5 hb5 ha5 hz5;obtain ⟨x0,x1,x2,x3⟩:=HX5.out.c4;obtain ⟨q0,q1,q2,q3⟩:=HX5.out.f4;go_wp2_with fail;refine rR (aP HX5.out _ _ _ _) Tryz.underlying99 rfl rfl rfl rfl (by kernel_rfl) ?_;exact HP5.out
 go_wp2_with fail;(with_reducible refine (cU _ w3 HP.out hn).mono ?_);rintro r0 w4 ⟨b1,rfl,hb1,hbt⟩;have HX:=hD (HX.out.below hb1 HX.out.lt);have HC:Hid (aT w w4 (fun i=>i=gp)):=HC.out.trans (aT.of_new hb1 _) (fun i _ h=>h);have HP:=hD (HP.out.below hb1);clear hb1
 cases b1
 case true=>
  go_wp2_with fail;(with_reducible refine (gQ _ w4 HP.out hn hK (by unfold aO;omega)).mono ?_);rintro r0 wz ⟨x,a5,st5,e5,hr0,hp5,hc5,hr5,hi5,hb5,ha5,hz5⟩;obtain rfl:r0=.returned (.agg #[.int .i64 x.kind,.string x.text,.slice x.lA x.leads.length x.lc,.slice x.kA x.kids.length x.kc]):=hr0;have HX5:Hid (aK _ w.heap.size 99 _):=HX.out.chg hc5 (by have:=HGP.out;omega);have HP5:=hD (bZ.pass HC.out HX.out.lt HGP.out hp5 hc5 hr5 hi5 hb5 ha5 hz5);clear hp5 hc5 hr5 hi5 hb5 ha5 hz5;obtain ⟨x0,x1,x2,x3⟩:=HX5.out.c4;obtain ⟨q0,q1,q2,q3⟩:=HX5.out.f4;go_wp2_with fail;refine rR (aP HX5.out _ _ _ _) Tryz.underlying99 rfl rfl rfl rfl (by kernel_rfl) ?_;exact HP5.out
 go_wp2_with fail;(with_reducible refine (cU _ w4 HP.out hn).mono ?_);rintro r0 w5 ⟨b1,rfl,hb1,hbt⟩;have HX:=hD (HX.out.below hb1 HX.out.lt);have HC:Hid (aT w w5 (fun i=>i=gp)):=HC.out.trans (aT.of_new hb1 _) (fun i _ h=>h);have HP:=hD (HP.out.below hb1);clear hb1
 cases b1
 case true=>
  go_wp2_with fail;(with_reducible refine (gQ _ w5 HP.out hn hK (by unfold aO;omega)).mono ?_);rintro r0 wz ⟨x,a5,st5,e5,hr0,hp5,hc5,hr5,hi5,hb5,ha5,hz5⟩;obtain rfl:r0=.returned (.agg #[.int .i64 x.kind,.string x.text,.slice x.lA x.leads.length x.lc,.slice x.kA x.kids.length x.kc]):=hr0;have HX5:Hid (aK _ w.heap.size 99 _):=HX.out.chg hc5 (by have:=HGP.out;omega);have HP5:=hD (bZ.pass HC.out HX.out.lt HGP.out hp5 hc5 hr5 hi5 hb5 ha5 hz5);clear hp5 hc5 hr5 hi5 hb5 ha5 hz5;obtain ⟨x0,x1,x2,x3⟩:=HX5.out.c4;obtain ⟨q0,q1,q2,q3⟩:=HX5.out.f4;go_wp2_with fail;refine rR (aP HX5.out _ _ _ _) Tryz.underlying99 rfl rfl rfl rfl (by kernel_rfl) ?_;exact HP5.out
 go_wp2_with fail;(with_reducible refine (cU _ w5 HP.out hn).mono ?_);rintro r0 w6 ⟨b1,rfl,hb1,hbt⟩;have HX:=hD (HX.out.below hb1 HX.out.lt);have HC:Hid (aT w w6 (fun i=>i=gp)):=HC.out.trans (aT.of_new hb1 _) (fun i _ h=>h);have HP:=hD (HP.out.below hb1);clear hb1
 cases b1
 case true=>
  have he0:=(hbt rfl).1;obtain ⟨Wa,hWa⟩:=nm (w6.alloc (.cells #[.int .i64 0,.string ⟨#[]⟩,.slice none 0 0,.slice none 0 0] 99));obtain ⟨Wb,hWb⟩:=nm (((((Wa.setCell ⟨w6.heap.size,0,none⟩ (.int .i64 22)).setCell ⟨w6.heap.size,1,none⟩ (.string ⟨#[]⟩)).setCell ⟨w6.heap.size,2,none⟩ (.slice none 0 0)).setCell ⟨w6.heap.size,3,none⟩ (.slice none 0 0)));have HF:Hid (FT w Wb gp Kt n A c tl a st e K w6.heap.size 22 ⟨#[]⟩ (.slice none 0 0) [] (.slice none 0 0) []):=by
   have:=FT.new (K:=K) 22 ⟨#[]⟩ (Nat.zero_le _) HP.out HC.out HX.out HGP.out;rw [hWa,hWb] at this;exact this
  have HWa:=hD hWa;have HWb:=hD hWb;have HAX:=bk hWa;clear hWa hWb;obtain ⟨x0,x1,x2,x3⟩:=HAX.out.c4;obtain ⟨q0,q1,q2,q3⟩:=HAX.out.f4;go_wp2_with (first | rw [HWa.out] | rw [HWb.out]);clear HWa HWb HAX x0 x1 x2 x3 q0 q1 q2 q3;have HAD:Hid (fK n a e a e\/True):=.inr trivial;(with_reducible refine (bP _ Wb HF.out.ps hn HF.out.ut (by have:=HGP.out;omega) hK (by simp)).mono ?_);rintro r0 wm hm6;obtain ⟨a5,st5,e5,s5,L5,ls5,rfl,hf5,ha5,hl5,-⟩:=HF.out.must hm6;have HF:=hD hf5;have HA5:=hD ha5;have HL5:=hD hl5;clear hm6 hf5 ha5 hl5;have HLL:=hD (show ls5.length<=1 by simpa using HL5.out);have HK5:Hid (∀ w',PS w' gp Kt n A c tl a5 st5 e5->Calls Tryz.prog 138 #[.pointer (some ⟨gp,0,none⟩)] w' (bZ w' gp Kt n A c tl a5 e5 K)):=fun w' h'=>HE.out a5 st5 e5 w' h' he0 (fun h0=>(HA5.out.2.2 h0).2);obtain ⟨ks,hks⟩:∃ ks:List TX,ks=[]:=⟨_,rfl⟩;have HF:Hid (FT w wm gp Kt n A c tl a5 st5 e5 K w6.heap.size 22 s5 L5 ls5 (.slice none ks.length 0) ks):=by subst hks;exact HF.out
  obtain ⟨gt,hgt⟩:=nm w6.heap.size;rw [hgt] at HF ⊢;clear hgt;have HKS:Hid (ks=[]):=hks;have hk0:ks.length<=0:=by rw [hks];exact Nat.le_refl _
  clear hks he0;obtain ⟨⟨LA,lc,rfl,-⟩,-⟩:=HF.out.ut.forms;go_upto_region 18 with fail;go_cut [52] (fun x wq=>Hid (dT wm gp Kt n A c tl a5 e5 K (w.heap.size+1) gt 22 s5 (.slice LA ls5.length lc) ls5 (.slice none ks.length 0) ks wq))
  case first=>
   have t3:=HF.out.ut.box.cell 3;simp at t3;have ft3:=bA (M:=fun i=>i=gp) t3 (by have:=HF.out.ut.glo;have:=HF.out.gp;omega);have HPD:=hD (eQ HF.out.ps);clear t3;go_wp2_with fail;refine cS (fun i=>i=gp) 5 (.two [0,1,2,4] 3 (.one [] 5 (.last [])) 5 (.one [] 3 (.last []))) (.one [] 6 (.two [7,9] 8 (.one [] 10 (.last [])) 10 (.one [] 8 (.last [])))) (by kernel_rfl) (by kernel_rfl) ?_;refine dR ?_;simp only [sN]
   repeat (go_big_quiet_step (fail))
   refine wpQuiet_nil ?_;apply And.intro
   case' left=>
    refine aC rfl 138 _ _ rfl Tryz.func138 rfl (by kernel_rfl) #[.pointer (some ⟨gp,0,none⟩)] (by simp [Act.eval]) (HK5.out _ HPD.out.2) ?_;rintro r w5 h5;obtain ⟨x,a5,st5,e5,rfl,HKI⟩:=gB HPD.out.1 h5;refine ⟨_,rfl,⟨⟨_,HKI.chg⟩,rfl⟩,?_⟩;simp only [sP];refine bL ?_;simp only [sN];refine wpQuiet_nil ?_;obtain ⟨wx,gz,hWx,hgz,HZB,HKI⟩:=gM HKI;refine aE rfl (by simp [go_sem];exact ⟨rfl,hWx⟩) ⟨⟨_,HKI.chg⟩,rfl⟩ ?_;simp only [Act.put,List.setIfInBounds_toArray,List.set_cons_succ,List.set_cons_zero,hgz];clear hWx hgz h5;refine bI ?_;simp only [sN];refine wpQuiet_nil ?_
   case' right=>
    obtain ⟨w4,hW4,HZ4,HC4,HP4⟩:=fC HF.out.ps;refine aE rfl (by simp [go_sem];exact ⟨rfl,hW4⟩) ⟨⟨_,HC4.out⟩,rfl⟩ ?_;simp only [sP];clear hW4;refine bL ?_;simp only [sN];refine wpQuiet_nil ?_;refine aC rfl 138 _ _ rfl Tryz.func138 rfl (by kernel_rfl) #[.pointer (some ⟨gp,0,none⟩)] (by simp [Act.eval]) (HK5.out _ HP4) ?_;rintro r wx h5;obtain ⟨x,a5,st5,e5,gz,rfl,hgz,HZB,HKI⟩:=fB HF.out.ps HZ4.out HC4.out h5;refine ⟨_,rfl,⟨⟨_,HKI.chg⟩,rfl⟩,?_⟩;simp only [sP]
    try simp only [hgz]
    clear hgz h5;refine bI ?_;simp only [sN];refine wpQuiet_nil ?_
   all_goals
    have HU5:=hD (HKI.ut HF.out.ut (by have:=HF.out.gp;omega));clear ft3;refine aD ?_;simp only [sN]
    repeat (go_big_quiet_step (fail))
    refine wpQuiet_nil ?_;refine aA rfl ?_;at_builtin;refine eJ rfl rfl rfl HU5.out (by simp [Act.eval]) (by simp [Act.eval]) HZB.out (by omega) ?_;intro g7 c7 w7 HKO;obtain ⟨h01,h02,h03⟩:=Fd ks.length;obtain ⟨z0,z1,z2,z3,f0,f1,f2,f3⟩:=HKO.z;refine ⟨⟨_,rfl⟩,?_⟩;simp only [sP];refine bF ?_;simp only [sN]
    repeat (go_big_quiet_step (fail))
    refine wpQuiet_nil ?_;apply And.intro
    case' left=>
     refine aA rfl ?_;go_wp2_with fail;refine ⟨⟨_,rfl⟩,?_⟩;obtain ⟨b3,q3⟩:=HKO.zb x;refine aD ?_;simp only [sN]
     repeat (go_big_quiet_step (fail))
     refine wpQuiet_nil ?_;refine aA rfl ?_;go_wp2_with fail;refine ⟨⟨_,rfl⟩,?_⟩;obtain ⟨wf,hWf,HKF⟩:=HKO.fin8 x;rw [hWf];clear hWf b3 q3
    case' right=>
     obtain ⟨b3,q3⟩:=HKO.b;refine aA rfl ?_;go_wp2_with fail;refine ⟨⟨_,rfl⟩,?_⟩;clear z0 z1 z2 z3 f0 f1 f2 f3 b3 q3;obtain ⟨z0,z1,z2,z3,f0,f1,f2,f3⟩:=HKO.bz;refine aD ?_;simp only [sN]
     repeat (go_big_quiet_step (fail))
     refine wpQuiet_nil ?_;refine aA rfl ?_;go_wp2_with fail;refine ⟨⟨_,rfl⟩,?_⟩;obtain ⟨wf,hWf,HKF⟩:=HKO.fin10 x;rw [hWf];clear hWf
    all_goals
     refine aM ?_;simp only [sN];refine wpQuiet_nil ?_;go_wp2_with fail;refine NoPanic.normal ?_;go_wp2_with fail;go_meet;exact hD (eI HKI HF.out.ut (by have:=HF.out.gp;omega) HKF)
  case rest=>
   obtain ⟨x6,a6,st6,e6,KD6,hf6,ha6,hz6⟩:=HF.out.kid hcut.out;have HF:=hD hf6;have HA6:=hD ha6;have HZ6:=hD hz6;clear hf6 ha6 hz6 hcut;go_wp2_with fail;(with_reducible refine (bP _ wc HF.out.ps hn HF.out.ut (by have:=HGP.out;omega) hK (by have:=HLL.out;omega)).mono ?_);rintro r0 w7 hm6;obtain ⟨a7,st7,e7,s7,L7,ls7,rfl,hf5,ha5,hl5,-⟩:=HF.out.must hm6;have HF:=hD hf5;have HA7:=hD ha5;have HL7:=hD hl5;clear hm6 hf5 ha5 hl5;have HLL:=hD (show ls7.length<=2 by have:=HLL.out;have:=HL7.out;omega);have HKL:=hD (show (ks++[x6]).length<=1 by rw [HKS.out];simp);have HSZ:Hid (e7=0->1+T.sizes ((ks++[x6]).map TX.plain)<=3*(a7 - a)):=fun h0=>by
    have h1:=HA7.out.2.2 h0;have h2:=HZ6.out h1.1;have h3:=HA6.out.2.2 h1.1;have h4:=HA5.out.2.2 h3.1;rw [HKS.out];simp only [List.nil_append,List.map_cons,List.map_nil,T.sizes];omega
   have HAD:=hD ((HA5.out.trans HA6.out).trans HA7.out);obtain ⟨k6,hk6⟩:=nm (ks++[x6]);rw [hk6] at HF HKL HSZ;clear hk6;obtain ⟨⟨LA7,lc7,rfl,-⟩,⟨KA7,kc7,rfl,-⟩⟩:=HF.out.ut.forms;obtain ⟨y0,y1,y2,y3⟩:=HF.out.ut.box.c4;obtain ⟨x0,x1,x2,x3⟩:=HF.out.res.c4;obtain ⟨q0,q1,q2,q3⟩:=HF.out.res.f4;go_wp2_with fail;refine rR (aP HF.out.res _ _ _ _) Tryz.underlying99 rfl rfl rfl rfl (by kernel_rfl) ?_;refine FT.ret HF.out ?_ ?_ ?_ HAD.out HSZ.out
   ·first | exact HIK.out | (unfold aO;omega)
   ·have:=HLL.out;omega
   ·have:=HKL.out;omega
 go_wp2_with fail;(with_reducible refine (cU _ w6 HP.out hn).mono ?_);rintro r0 w7 ⟨b1,rfl,hb1,hbt⟩;have HX:=hD (HX.out.below hb1 HX.out.lt);have HC:Hid (aT w w7 (fun i=>i=gp)):=HC.out.trans (aT.of_new hb1 _) (fun i _ h=>h);have HP:=hD (HP.out.below hb1);clear hb1
 cases b1
 case true=>
  have HE0:Hid (e=0):=(hbt rfl).1;obtain ⟨Wa,hWa⟩:=nm (w7.alloc (.cells #[.int .i64 0,.string ⟨#[]⟩,.slice none 0 0,.slice none 0 0] 99));obtain ⟨Wb,hWb⟩:=nm (((((Wa.setCell ⟨w7.heap.size,0,none⟩ (.int .i64 18)).setCell ⟨w7.heap.size,1,none⟩ (.string ⟨#[]⟩)).setCell ⟨w7.heap.size,2,none⟩ (.slice none 0 0)).setCell ⟨w7.heap.size,3,none⟩ (.slice none 0 0)));have HF:Hid (FT w Wb gp Kt n A c tl a st e K w7.heap.size 18 ⟨#[]⟩ (.slice none 0 0) [] (.slice none 0 0) []):=by
   have:=FT.new (K:=K) 18 ⟨#[]⟩ (Nat.zero_le _) HP.out HC.out HX.out HGP.out;rw [hWa,hWb] at this;exact this
  have HWa:=hD hWa;have HWb:=hD hWb;have HAX:=bk hWa;clear hWa hWb;obtain ⟨x0,x1,x2,x3⟩:=HAX.out.c4;obtain ⟨q0,q1,q2,q3⟩:=HAX.out.f4;go_wp2_with (first | rw [HWa.out] | rw [HWb.out]);clear HWa HWb HAX x0 x1 x2 x3 q0 q1 q2 q3;have HAD:Hid (fK n a e a e\/True):=.inr trivial;(with_reducible refine (bP _ Wb HF.out.ps hn HF.out.ut (by have:=HGP.out;omega) hK (by simp)).mono ?_);rintro r0 wm hm6;obtain ⟨a5,st5,e5,s5,L5,ls5,rfl,hf5,ha5,hl5,-⟩:=HF.out.must hm6;have HF:=hD hf5;have HA5:=hD ha5;have HL5:=hD hl5;clear hm6 hf5 ha5 hl5;have HLL:=hD (show ls5.length<=1 by simpa using HL5.out);have HAD:=HA5;have HSZ:Hid (∀ (a9:Nat) (e9:Int) {y:Nat},fK n a5 e5 a9 e9->(e9=0->y<=3*(a9 - a5))->e9=0->y<=3*(a9 - a)):=fun a9 e9 y h1 h2 h3=>by
   have:=h2 h3;have:=HA5.out.1;omega
  obtain ⟨⟨LA,lc,rfl,-⟩,-⟩:=HF.out.ut.forms;obtain ⟨y0,y1,y2,y3⟩:=HF.out.ut.box.c4;have HIC:=hD (fun tx mo=>HI.out a5 st5 e5 (w.heap.size+1) _ 18 _ _ _ _ tx mo wm HF.out.ps HE0.out (fun h0=>(HA5.out.2.2 h0).2) HF.out.ut (by have:=HGP.out;omega) (by have:=HLL.out;omega) (by unfold aO;omega));go_wp2_with fail;(with_reducible refine (HIC.out _ _).mono ?_);rintro r0 wz ⟨x,a9,st9,e9,hr0,hp5,hc5,hr5,hi5,hb5,ha5,hz5⟩;obtain rfl:r0=.returned (.agg #[.int .i64 x.kind,.string x.text,.slice x.lA x.leads.length x.lc,.slice x.kA x.kids.length x.kc]):=hr0;have HCZ:=hD (HF.out.ichg hc5);have HX5:=hD (HF.out.ires hc5);have HP5:=hD (bZ.pass2 HCZ.out HGP.out hp5 hr5 hi5 hb5 (HAD.out.trans ha5) (fun h0=>HSZ.out _ e9 ha5 hz5 h0));clear hp5 hc5 hr5 hi5 hb5 ha5 hz5 y0 y1 y2 y3;obtain ⟨x0,x1,x2,x3⟩:=HX5.out.c4;obtain ⟨q0,q1,q2,q3⟩:=HX5.out.f4;go_wp2_with fail;refine rR (aP HX5.out _ _ _ _) Tryz.underlying99 rfl rfl rfl rfl (by kernel_rfl) ?_;exact HP5.out
 go_wp2_with fail;(with_reducible refine (dB w7 HP.out hn).mono ?_);rintro r0 w8 ⟨k3,rfl,hb1,hkt,-⟩;have HX:=hD (HX.out.below hb1 HX.out.lt);have HC:Hid (aT w w8 (fun i=>i=gp)):=HC.out.trans (aT.of_new hb1 _) (fun i _ h=>h);have HP:=hD (HP.out.below hb1);clear hb1;have HVAR:Hid ((∀ wv,∃ x:World,wv=x)/\True):=⟨fun wv=>⟨wv,rfl⟩,trivial⟩;clear HVAR;have q3:(k3 == 1)=true\/(k3 == 1)=false:=by cases (k3 == 1) <;> simp
 have he3:Hid (k3≠0->e=0):=fun h0=>(hkt h0).1;clear hkt;rcases q3 with q3 | q3
 ·have HE0:Hid (e=0):=he3.out (by have:k3=1:=(by simpa using q3);omega);obtain ⟨Wa,hWa⟩:=nm (w8.alloc (.cells #[.int .i64 0,.string ⟨#[]⟩,.slice none 0 0,.slice none 0 0] 99));obtain ⟨Wb,hWb⟩:=nm (((((Wa.setCell ⟨w8.heap.size,0,none⟩ (.int .i64 12)).setCell ⟨w8.heap.size,1,none⟩ (.string ⟨#[]⟩)).setCell ⟨w8.heap.size,2,none⟩ (.slice none 0 0)).setCell ⟨w8.heap.size,3,none⟩ (.slice none 0 0)));have HF:Hid (FT w Wb gp Kt n A c tl a st e K w8.heap.size 12 ⟨#[]⟩ (.slice none 0 0) [] (.slice none 0 0) []):=by
   have:=FT.new (K:=K) 12 ⟨#[]⟩ (Nat.zero_le _) HP.out HC.out HX.out HGP.out;rw [hWa,hWb] at this;exact this
  have HWa:=hD hWa;have HWb:=hD hWb;have HAX:=bk hWa;clear hWa hWb;obtain ⟨x0,x1,x2,x3⟩:=HAX.out.c4;obtain ⟨q0,q1,q2,q3⟩:=HAX.out.f4;go_wp2_with (first | rw [HWa.out] | rw [HWb.out]);clear HWa HWb HAX x0 x1 x2 x3 q0 q1 q2 q3;have HAD:Hid (fK n a e a e\/True):=.inr trivial;(with_reducible refine (dB Wb HF.out.ps hn).mono ?_);rintro r0 wk ⟨kk,rfl,hb5,-,-⟩;have HF:=hD (HF.out.below hb5);clear hb5;go_wp2_with fail;(with_reducible refine (dV kk wk HF.out.ps hn HF.out.ut (by have:=HGP.out;omega) hK (by simp)).mono ?_);rintro r0 wn hm6;obtain ⟨a5,st5,e5,s5,L5,ls5,rfl,hf5,ha5,hl5,-⟩:=HF.out.must hm6;have HF:=hD hf5;have HA5:=hD ha5;have HLL:=hD (show ls5.length<=1 by simpa using hl5);clear hm6 hf5 ha5 hl5;obtain ⟨⟨LA,lc,rfl,-⟩,-⟩:=HF.out.ut.forms;have qk:(kk == 1)=true\/(kk == 1)=false:=by cases (kk == 1) <;> simp
  rcases qk with qk | qk
  ·go_wp2_with fail;(with_reducible refine (cU _ wn HF.out.ps hn).mono ?_);rintro r0 wi ⟨b1,rfl,hb1,-⟩;have HF:=hD (HF.out.below hb1);clear hb1
   cases b1
   case true=>
    have HX0:=HF;have HF:=hD (HF.out.rekind 16);obtain ⟨x0,x1,x2,x3⟩:=HX0.out.ut.box.c4;obtain ⟨q0,q1,q2,q3⟩:=HX0.out.ut.box.f4;go_wp2_with fail;clear x0 x1 x2 x3 q0 q1 q2 q3 HX0;(with_reducible refine (bP _ _ HF.out.ps hn HF.out.ut (by have:=HGP.out;omega) hK (by have:=HLL.out;omega)).mono ?_);rintro r0 wm hm6;obtain ⟨a7,st7,e7,s7,L7,ls7,rfl,hf5,ha5,hl5,-⟩:=HF.out.must hm6;have HF:=hD hf5;have HA7:=hD ha5;have HL7:=hD hl5;clear hm6 hf5 ha5 hl5;have HLL:=hD (show ls7.length<=2 by have:=HLL.out;have:=HL7.out;omega);have HAD:=hD (HA5.out.trans HA7.out);have HSZ:Hid (∀ (a9:Nat) (e9:Int) {y:Nat},fK n a7 e7 a9 e9->(e9=0->y<=3*(a9 - a7))->e9=0->y<=3*(a9 - a)):=fun a9 e9 y h1 h2 h3=>by
     have:=h2 h3;have:=HAD.out.1;omega
    obtain ⟨⟨LA,lc,rfl,-⟩,-⟩:=HF.out.ut.forms;obtain ⟨y0,y1,y2,y3⟩:=HF.out.ut.box.c4;have HIC:=hD (fun tx mo=>HI.out a7 st7 e7 (w.heap.size+1) _ 16 _ _ _ _ tx mo wm HF.out.ps HE0.out (fun h0=>(HAD.out.2.2 h0).2) HF.out.ut (by have:=HGP.out;omega) (by have:=HLL.out;omega) (by unfold aO;omega));go_wp2_with fail;(with_reducible refine (HIC.out _ _).mono ?_);rintro r0 wz ⟨x,a9,st9,e9,hr0,hp5,hc5,hr5,hi5,hb5,ha5,hz5⟩;obtain rfl:r0=.returned (.agg #[.int .i64 x.kind,.string x.text,.slice x.lA x.leads.length x.lc,.slice x.kA x.kids.length x.kc]):=hr0;have HCZ:=hD (HF.out.ichg hc5);have HX5:=hD (HF.out.ires hc5);have HP5:=hD (bZ.pass2 HCZ.out HGP.out hp5 hr5 hi5 hb5 (HAD.out.trans ha5) (fun h0=>HSZ.out _ e9 ha5 hz5 h0));clear hp5 hc5 hr5 hi5 hb5 ha5 hz5 y0 y1 y2 y3;obtain ⟨x0,x1,x2,x3⟩:=HX5.out.c4;obtain ⟨q0,q1,q2,q3⟩:=HX5.out.f4;go_wp2_with fail;refine rR (aP HX5.out _ _ _ _) Tryz.underlying99 rfl rfl rfl rfl (by kernel_rfl) ?_;exact HP5.out
   case false=>
    have HAD:=HA5;have HKL:=hD (show ([]:List TX).length<=1 by simp);have HSZ:Hid (e5=0->1+T.sizes (([]:List TX).map TX.plain)<=3*(a5 - a)):=fun h0=>by
     have:=HAD.out.2.2 h0;simp [T.sizes];omega
    obtain ⟨y0,y1,y2,y3⟩:=HF.out.ut.box.c4;obtain ⟨x0,x1,x2,x3⟩:=HF.out.res.c4;obtain ⟨q0,q1,q2,q3⟩:=HF.out.res.f4;go_wp2_with fail;refine rR (aP HF.out.res _ _ _ _) Tryz.underlying99 rfl rfl rfl rfl (by kernel_rfl) ?_;refine FT.ret HF.out ?_ ?_ ?_ HAD.out HSZ.out
    ·first | exact HIK.out | (unfold aO;omega)
    ·have:=HLL.out;omega
    ·have:=HKL.out;omega
  ·have HX0:=HF;have HF:=hD (HF.out.rekind 16);obtain ⟨x0,x1,x2,x3⟩:=HX0.out.ut.box.c4;obtain ⟨q0,q1,q2,q3⟩:=HX0.out.ut.box.f4;go_wp2_with fail;clear x0 x1 x2 x3 q0 q1 q2 q3 HX0;(with_reducible refine (bP _ _ HF.out.ps hn HF.out.ut (by have:=HGP.out;omega) hK (by have:=HLL.out;omega)).mono ?_);rintro r0 wm hm6;obtain ⟨a7,st7,e7,s7,L7,ls7,rfl,hf5,ha5,hl5,-⟩:=HF.out.must hm6;have HF:=hD hf5;have HA7:=hD ha5;have HL7:=hD hl5;clear hm6 hf5 ha5 hl5;have HLL:=hD (show ls7.length<=2 by have:=HLL.out;have:=HL7.out;omega);have HAD:=hD (HA5.out.trans HA7.out);have HSZ:Hid (∀ (a9:Nat) (e9:Int) {y:Nat},fK n a7 e7 a9 e9->(e9=0->y<=3*(a9 - a7))->e9=0->y<=3*(a9 - a)):=fun a9 e9 y h1 h2 h3=>by
    have:=h2 h3;have:=HAD.out.1;omega
   obtain ⟨⟨LA,lc,rfl,-⟩,-⟩:=HF.out.ut.forms;obtain ⟨y0,y1,y2,y3⟩:=HF.out.ut.box.c4;have HIC:=hD (fun tx mo=>HI.out a7 st7 e7 (w.heap.size+1) _ 16 _ _ _ _ tx mo wm HF.out.ps HE0.out (fun h0=>(HAD.out.2.2 h0).2) HF.out.ut (by have:=HGP.out;omega) (by have:=HLL.out;omega) (by unfold aO;omega));go_wp2_with fail;(with_reducible refine (HIC.out _ _).mono ?_);rintro r0 wz ⟨x,a9,st9,e9,hr0,hp5,hc5,hr5,hi5,hb5,ha5,hz5⟩;obtain rfl:r0=.returned (.agg #[.int .i64 x.kind,.string x.text,.slice x.lA x.leads.length x.lc,.slice x.kA x.kids.length x.kc]):=hr0;have HCZ:=hD (HF.out.ichg hc5);have HX5:=hD (HF.out.ires hc5);have HP5:=hD (bZ.pass2 HCZ.out HGP.out hp5 hr5 hi5 hb5 (HAD.out.trans ha5) (fun h0=>HSZ.out _ e9 ha5 hz5 h0));clear hp5 hc5 hr5 hi5 hb5 ha5 hz5 y0 y1 y2 y3;obtain ⟨x0,x1,x2,x3⟩:=HX5.out.c4;obtain ⟨q0,q1,q2,q3⟩:=HX5.out.f4;go_wp2_with fail;refine rR (aP HX5.out _ _ _ _) Tryz.underlying99 rfl rfl rfl rfl (by kernel_rfl) ?_;exact HP5.out
 go_wp2_with fail;(with_reducible refine (dB w8 HP.out hn).mono ?_);rintro r0 w9 ⟨k4,rfl,hb1,hkt,-⟩;have HX:=hD (HX.out.below hb1 HX.out.lt);have HC:Hid (aT w w9 (fun i=>i=gp)):=HC.out.trans (aT.of_new hb1 _) (fun i _ h=>h);have HP:=hD (HP.out.below hb1);clear hb1;have q4:(k4 == 3)=true\/(k4 == 3)=false:=by cases (k4 == 3) <;> simp
 have he4:Hid (k4≠0->e=0):=fun h0=>(hkt h0).1;clear hkt;rcases q4 with q4 | q4
 ·have HE0:Hid (e=0):=he4.out (by have:k4=3:=(by simpa using q4);omega);obtain ⟨Wa,hWa⟩:=nm (w9.alloc (.cells #[.int .i64 0,.string ⟨#[]⟩,.slice none 0 0,.slice none 0 0] 99));obtain ⟨Wb,hWb⟩:=nm (((((Wa.setCell ⟨w9.heap.size,0,none⟩ (.int .i64 12)).setCell ⟨w9.heap.size,1,none⟩ (.string ⟨#[]⟩)).setCell ⟨w9.heap.size,2,none⟩ (.slice none 0 0)).setCell ⟨w9.heap.size,3,none⟩ (.slice none 0 0)));have HF:Hid (FT w Wb gp Kt n A c tl a st e K w9.heap.size 12 ⟨#[]⟩ (.slice none 0 0) [] (.slice none 0 0) []):=by
   have:=FT.new (K:=K) 12 ⟨#[]⟩ (Nat.zero_le _) HP.out HC.out HX.out HGP.out;rw [hWa,hWb] at this;exact this
  have HWa:=hD hWa;have HWb:=hD hWb;have HAX:=bk hWa;clear hWa hWb;obtain ⟨x0,x1,x2,x3⟩:=HAX.out.c4;obtain ⟨q0,q1,q2,q3⟩:=HAX.out.f4;go_wp2_with (first | rw [HWa.out] | rw [HWb.out]);clear HWa HWb HAX x0 x1 x2 x3 q0 q1 q2 q3;have HAD:Hid (fK n a e a e\/True):=.inr trivial;(with_reducible refine (dB Wb HF.out.ps hn).mono ?_);rintro r0 wk ⟨kk,rfl,hb5,-,-⟩;have HF:=hD (HF.out.below hb5);clear hb5;go_wp2_with fail;(with_reducible refine (dV kk wk HF.out.ps hn HF.out.ut (by have:=HGP.out;omega) hK (by simp)).mono ?_);rintro r0 wn hm6;obtain ⟨a5,st5,e5,s5,L5,ls5,rfl,hf5,ha5,hl5,-⟩:=HF.out.must hm6;have HF:=hD hf5;have HA5:=hD ha5;have HLL:=hD (show ls5.length<=1 by simpa using hl5);clear hm6 hf5 ha5 hl5;obtain ⟨⟨LA,lc,rfl,-⟩,-⟩:=HF.out.ut.forms;have qk:(kk == 1)=true\/(kk == 1)=false:=by cases (kk == 1) <;> simp
  rcases qk with qk | qk
  ·go_wp2_with fail;(with_reducible refine (cU _ wn HF.out.ps hn).mono ?_);rintro r0 wi ⟨b1,rfl,hb1,-⟩;have HF:=hD (HF.out.below hb1);clear hb1
   cases b1
   case true=>
    have HX0:=HF;have HF:=hD (HF.out.rekind 16);obtain ⟨x0,x1,x2,x3⟩:=HX0.out.ut.box.c4;obtain ⟨q0,q1,q2,q3⟩:=HX0.out.ut.box.f4;go_wp2_with fail;clear x0 x1 x2 x3 q0 q1 q2 q3 HX0;(with_reducible refine (bP _ _ HF.out.ps hn HF.out.ut (by have:=HGP.out;omega) hK (by have:=HLL.out;omega)).mono ?_);rintro r0 wm hm6;obtain ⟨a7,st7,e7,s7,L7,ls7,rfl,hf5,ha5,hl5,-⟩:=HF.out.must hm6;have HF:=hD hf5;have HA7:=hD ha5;have HL7:=hD hl5;clear hm6 hf5 ha5 hl5;have HLL:=hD (show ls7.length<=2 by have:=HLL.out;have:=HL7.out;omega);have HAD:=hD (HA5.out.trans HA7.out);have HSZ:Hid (∀ (a9:Nat) (e9:Int) {y:Nat},fK n a7 e7 a9 e9->(e9=0->y<=3*(a9 - a7))->e9=0->y<=3*(a9 - a)):=fun a9 e9 y h1 h2 h3=>by
     have:=h2 h3;have:=HAD.out.1;omega
    obtain ⟨⟨LA,lc,rfl,-⟩,-⟩:=HF.out.ut.forms;obtain ⟨y0,y1,y2,y3⟩:=HF.out.ut.box.c4;have HIC:=hD (fun tx mo=>HI.out a7 st7 e7 (w.heap.size+1) _ 16 _ _ _ _ tx mo wm HF.out.ps HE0.out (fun h0=>(HAD.out.2.2 h0).2) HF.out.ut (by have:=HGP.out;omega) (by have:=HLL.out;omega) (by unfold aO;omega));go_wp2_with fail;(with_reducible refine (HIC.out _ _).mono ?_);rintro r0 wz ⟨x,a9,st9,e9,hr0,hp5,hc5,hr5,hi5,hb5,ha5,hz5⟩;obtain rfl:r0=.returned (.agg #[.int .i64 x.kind,.string x.text,.slice x.lA x.leads.length x.lc,.slice x.kA x.kids.length x.kc]):=hr0;have HCZ:=hD (HF.out.ichg hc5);have HX5:=hD (HF.out.ires hc5);have HP5:=hD (bZ.pass2 HCZ.out HGP.out hp5 hr5 hi5 hb5 (HAD.out.trans ha5) (fun h0=>HSZ.out _ e9 ha5 hz5 h0));clear hp5 hc5 hr5 hi5 hb5 ha5 hz5 y0 y1 y2 y3;obtain ⟨x0,x1,x2,x3⟩:=HX5.out.c4;obtain ⟨q0,q1,q2,q3⟩:=HX5.out.f4;go_wp2_with fail;refine rR (aP HX5.out _ _ _ _) Tryz.underlying99 rfl rfl rfl rfl (by kernel_rfl) ?_;exact HP5.out
   case false=>
    have HAD:=HA5;have HKL:=hD (show ([]:List TX).length<=1 by simp);have HSZ:Hid (e5=0->1+T.sizes (([]:List TX).map TX.plain)<=3*(a5 - a)):=fun h0=>by
     have:=HAD.out.2.2 h0;simp [T.sizes];omega
    obtain ⟨y0,y1,y2,y3⟩:=HF.out.ut.box.c4;obtain ⟨x0,x1,x2,x3⟩:=HF.out.res.c4;obtain ⟨q0,q1,q2,q3⟩:=HF.out.res.f4;go_wp2_with fail;refine rR (aP HF.out.res _ _ _ _) Tryz.underlying99 rfl rfl rfl rfl (by kernel_rfl) ?_;refine FT.ret HF.out ?_ ?_ ?_ HAD.out HSZ.out
    ·first | exact HIK.out | (unfold aO;omega)
    ·have:=HLL.out;omega
    ·have:=HKL.out;omega
  ·have HX0:=HF;have HF:=hD (HF.out.rekind 16);obtain ⟨x0,x1,x2,x3⟩:=HX0.out.ut.box.c4;obtain ⟨q0,q1,q2,q3⟩:=HX0.out.ut.box.f4;go_wp2_with fail;clear x0 x1 x2 x3 q0 q1 q2 q3 HX0;(with_reducible refine (bP _ _ HF.out.ps hn HF.out.ut (by have:=HGP.out;omega) hK (by have:=HLL.out;omega)).mono ?_);rintro r0 wm hm6;obtain ⟨a7,st7,e7,s7,L7,ls7,rfl,hf5,ha5,hl5,-⟩:=HF.out.must hm6;have HF:=hD hf5;have HA7:=hD ha5;have HL7:=hD hl5;clear hm6 hf5 ha5 hl5;have HLL:=hD (show ls7.length<=2 by have:=HLL.out;have:=HL7.out;omega);have HAD:=hD (HA5.out.trans HA7.out);have HSZ:Hid (∀ (a9:Nat) (e9:Int) {y:Nat},fK n a7 e7 a9 e9->(e9=0->y<=3*(a9 - a7))->e9=0->y<=3*(a9 - a)):=fun a9 e9 y h1 h2 h3=>by
    have:=h2 h3;have:=HAD.out.1;omega
   obtain ⟨⟨LA,lc,rfl,-⟩,-⟩:=HF.out.ut.forms;obtain ⟨y0,y1,y2,y3⟩:=HF.out.ut.box.c4;have HIC:=hD (fun tx mo=>HI.out a7 st7 e7 (w.heap.size+1) _ 16 _ _ _ _ tx mo wm HF.out.ps HE0.out (fun h0=>(HAD.out.2.2 h0).2) HF.out.ut (by have:=HGP.out;omega) (by have:=HLL.out;omega) (by unfold aO;omega));go_wp2_with fail;(with_reducible refine (HIC.out _ _).mono ?_);rintro r0 wz ⟨x,a9,st9,e9,hr0,hp5,hc5,hr5,hi5,hb5,ha5,hz5⟩;obtain rfl:r0=.returned (.agg #[.int .i64 x.kind,.string x.text,.slice x.lA x.leads.length x.lc,.slice x.kA x.kids.length x.kc]):=hr0;have HCZ:=hD (HF.out.ichg hc5);have HX5:=hD (HF.out.ires hc5);have HP5:=hD (bZ.pass2 HCZ.out HGP.out hp5 hr5 hi5 hb5 (HAD.out.trans ha5) (fun h0=>HSZ.out _ e9 ha5 hz5 h0));clear hp5 hc5 hr5 hi5 hb5 ha5 hz5 y0 y1 y2 y3;obtain ⟨x0,x1,x2,x3⟩:=HX5.out.c4;obtain ⟨q0,q1,q2,q3⟩:=HX5.out.f4;go_wp2_with fail;refine rR (aP HX5.out _ _ _ _) Tryz.underlying99 rfl rfl rfl rfl (by kernel_rfl) ?_;exact HP5.out
 have HFC:=hD (gE 2 w9 HP.out hn (by decide) (by unfold aO;omega));go_wp2_with fail;(with_reducible refine (HFC.out).mono ?_);rintro r0 wz ⟨st',e',rfl,hp,he',hc⟩;have HX5:Hid (aK wz w.heap.size 99 _):=HX.out.chg hc (by have:=HGP.out;omega);have HP5:=hD (bZ.pass2 (t:=.node 0 ⟨#[]⟩ none [] 0 none [] 0) (K:=K) (a5:=a) (e:=e) (HC.out.trans hc (fun i _ h=>h)) HGP.out hp (Tr.empty _ _) (gG.empty _) (fG.empty _) ⟨Nat.le_refl _,hle,fun h=>absurd h he'⟩ (fun h=>absurd h he'));clear hp hc;obtain ⟨x0,x1,x2,x3⟩:=HX5.out.c4;obtain ⟨q0,q1,q2,q3⟩:=HX5.out.f4;go_wp2_with fail;refine rR (aP HX5.out _ _ _ _) Tryz.underlying99 rfl rfl rfl rfl (by kernel_rfl) ?_;exact HP5.out
theorem oS (s:ByteArray):∃ b,∀ w,Calls Tryz.prog 159 #[.string s] w (fun e w'=>e=.returned (.bool b)/\w'=w):=by
 have q0:(s.toList == [43])=true\/(s.toList == [43])=false:=by cases (s.toList == [43]) <;> simp
 rcases q0 with q0 | q0
 ·refine ⟨true,fun w=>?_⟩;go_enter Tryz.func159,Tryz.ntmps159;go_wp2_with fail;go_ret;exact ⟨rfl,rfl⟩
 have q1:(s.toList == [45])=true\/(s.toList == [45])=false:=by cases (s.toList == [45]) <;> simp
 rcases q1 with q1 | q1
 ·refine ⟨true,fun w=>?_⟩;go_enter Tryz.func159,Tryz.ntmps159;go_wp2_with fail;go_ret;exact ⟨rfl,rfl⟩
 have q2:(s.toList == [42])=true\/(s.toList == [42])=false:=by cases (s.toList == [42]) <;> simp
 rcases q2 with q2 | q2
 ·refine ⟨true,fun w=>?_⟩;go_enter Tryz.func159,Tryz.ntmps159;go_wp2_with fail;go_ret;exact ⟨rfl,rfl⟩
 have q3:(s.toList == [60])=true\/(s.toList == [60])=false:=by cases (s.toList == [60]) <;> simp
 rcases q3 with q3 | q3
 ·refine ⟨true,fun w=>?_⟩;go_enter Tryz.func159,Tryz.ntmps159;go_wp2_with fail;go_ret;exact ⟨rfl,rfl⟩
 have q4:(s.toList == [61,61])=true\/(s.toList == [61,61])=false:=by cases (s.toList == [61,61]) <;> simp
 rcases q4 with q4 | q4
 ·refine ⟨true,fun w=>?_⟩;go_enter Tryz.func159,Tryz.ntmps159;go_wp2_with fail;go_ret;exact ⟨rfl,rfl⟩
 refine ⟨false,fun w=>?_⟩;go_enter Tryz.func159,Tryz.ntmps159;go_wp2_with fail;go_ret;exact ⟨rfl,rfl⟩
theorem Ag (w:World) (h:PS w gp K n A c tl a st e) (hn:n<=1000000):
  ∃ k,(k≠0->e=0/\a < n)/\aO k/\∀ w0,Below w.heap.size w w0->Calls Tryz.prog 136 #[.pointer (some ⟨gp,0,none⟩)] w0 (fun r w'=>r=.returned (.int .i64 k)/\Below w0.heap.size w0 w'):=by
 have hle:=h.le;by_cases he:e=0
 ·subst he;by_cases hlt:a < n
  ·obtain ⟨b,off,z0,s1q,s2,rfl,hb,e0,e1,e2,i0,-⟩:=h.tok.tok_at hlt;have hf:(0:Int)=0/\a < n:=⟨rfl,hlt⟩;have d:decide ((n:Int)<=(a:Int))=false:=decide_eq_false (by omega);refine ⟨z0,fun _=>hf,i0,fun w0 hb0=>?_⟩;have HX:=h.box.below hb0 h.lt;have hblt:b < w.heap.size:=by have:=h.lt;omega
   have g0:=(hb0.cell (p:=⟨b,off+a*3,none⟩) hblt).trans e0;have g1:=(hb0.cell (p:=⟨b,off+a*3+1,none⟩) hblt).trans e1;have g2:=(hb0.cell (p:=⟨b,off+a*3+2,none⟩) hblt).trans e2;obtain ⟨x0,x1,x2,x3,x4⟩:=HX.c5;clear h hb e0 e1 e2 HX;go_enter Tryz.func136,Tryz.ntmps136;go_wp2_with fail;go_quiet (fail);go_wp2_with fail;obtain ⟨m1,hm1⟩:∃ x,x=nq:=⟨_,rfl⟩;subst hm1;go_quiet (fail);have HB:=hD (lE (lE (Below.refl _ w0) m1) nq);go_wp2_with fail;go_ret;exact ⟨rfl,HB.out⟩
  ·have d:decide ((n:Int)<=(a:Int))=true:=decide_eq_true (by omega);refine ⟨0,fun h=>absurd rfl h,by unfold aO;omega,fun w0 hb0=>?_⟩;have HX:=h.box.below hb0 h.lt;obtain ⟨x0,x1,x2,x3,x4⟩:=HX.c5;clear h HX;go_enter Tryz.func136,Tryz.ntmps136;go_wp2_with fail;go_quiet (fail);have HB:=hD (lE (Below.refl _ w0) nq);go_wp2_with fail;go_ret;exact ⟨rfl,HB.out⟩
 ·have d:(e != 0)=true:=by simpa using he
  refine ⟨0,fun h=>absurd rfl h,by unfold aO;omega,fun w0 hb0=>?_⟩;have HX:=h.box.below hb0 h.lt;obtain ⟨x0,x1,x2,x3,x4⟩:=HX.c5;clear h HX;go_enter Tryz.func136,Tryz.ntmps136;go_wp2_with fail;go_quiet (fail);have HB:=hD (lE (Below.refl _ w0) nq);go_wp2_with fail;go_ret;exact ⟨rfl,HB.out⟩
structure BX (w wr:World) (gp Kt n:Nat) (A:Option Addr) (c:Nat) (tl:ByteArray) (a:Nat) (st e:Int) (K gt:Nat) (t:TX):Prop where
 ps:PS wr gp Kt n A c tl a st e
 box:aK wr gt 99 #[.int .i64 t.kind,.string t.text,.slice t.lA t.leads.length t.lc,.slice t.kA t.kids.length t.kc]
 tr:Tr wr wr.heap.size t
 ins:gG (fun b=>w.heap.size+1<=b/\b≠gt) t
 bd:fG K t
 chg:aT w wr (fun i=>i=gp)
 res:aK wr w.heap.size 99 #[.int .i64 0,.string ⟨#[]⟩,.slice none 0 0,.slice none 0 0]
 gp:gp < w.heap.size
 glt:w.heap.size < gt
section
variable {w wr wq:World} {gp Kt n:Nat} {A:Option Addr} {c:Nat} {tl:ByteArray} {a:Nat} {st e:Int} {K gt:Nat} {t x:TX}
theorem BX.fail (h:BX w wr gp Kt n A c tl a st e K gt t) {a':Nat} (hp:PS wq gp Kt n A c tl a' st' e') (hc:aT wr wq (fun i=>i=gp)):BX w wq gp Kt n A c tl a' st' e' K gt t:=by
 have hg:=h.gp;have hl:=h.glt;refine ⟨hp,h.box.chg hc (by omega),(h.tr.chgS h.ins hc (Nat.le_refl _) (fun i h1 h2=>by omega)).more hc.size,h.ins,h.bd,h.chg.trans hc (fun i _ h=>h),h.res.chg hc (by omega),h.gp,h.glt⟩
theorem BX.below (h:BX w wr gp Kt n A c tl a st e K gt t) (hb:Below wr.heap.size wr wq):BX w wq gp Kt n A c tl a st e K gt t:=h.fail (h.ps.below hb) (aT.of_new hb _)
theorem BX.bin (h:BX w wq gp Kt n A c tl a st e K gt t) {gl gq g0:Nat} {s1q s2:ByteArray} (hg0:gt < g0) (hl:aK wq gl 9 [.string s1q].toArray) (hgl:g0<=gl) (hq:aK wq gq 99 (t.cells++x.cells).toArray) (hgq:g0<=gq) (hx:Tr wq wq.heap.size x) (hi:gG (g0<=·) x) (hb:fG K x) (h1:s1q.size<=K) (h2:s2.size<=K):
  BX w ((((wq.setCell ⟨gt,0,none⟩ (.int .i64 21)).setCell ⟨gt,1,none⟩ (.string s2)).setCell ⟨gt,2,none⟩ (.slice (some ⟨gl,0,none⟩) 1 1)).setCell ⟨gt,3,none⟩ (.slice (some ⟨gq,0,none⟩) 2 2)) gp Kt n A c tl a st e K gt (.node 21 s2 (some ⟨gl,0,none⟩) [s1q] 1 (some ⟨gq,0,none⟩) [t,x] 2):=by
 have hgp:=h.gp;have hlt:=h.glt;have hc:=cP wq gt (.int .i64 21) (.string s2) (.slice (some ⟨gl,0,none⟩) 1 1) (.slice (some ⟨gq,0,none⟩) 2 2);have hir:gG (fun b=>w.heap.size+1<=b/\b≠gt) (.node 21 s2 (some ⟨gl,0,none⟩) [s1q] 1 (some ⟨gq,0,none⟩) [t,x] 2):=.mk _ (fun ad e _=>by
   have e:some (⟨gq,0,none⟩:Addr)=some ad:=e;injection e with e;subst e;show w.heap.size+1<=gq/\gq≠gt;omega) (fun ad e _=>by
   have e:some (⟨gl,0,none⟩:Addr)=some ad:=e;injection e with e;subst e;show w.heap.size+1<=gl/\gl≠gt;omega) (fun k hk=>by
   have hk:k∈[t,x]:=hk;simp at hk;rcases hk with rfl | rfl
   ·exact h.ins
   ·exact hi.mono (fun b hb=>by omega))
 have htr:Tr wq wq.heap.size (.node 21 s2 (some ⟨gl,0,none⟩) [s1q] 1 (some ⟨gq,0,none⟩) [t,x] 2):=.mk _ (eD (n:=2) (size:=4) (xs:=[t,x].flatMap TX.cells) (by simpa using hq) rfl) (eD (n:=1) (size:=1) (xs:=[s1q].map Value.string) hl rfl) (by simp [TX.kids]) (by simp [TX.kids,TX.kc]) (by simp [TX.leads]) (by simp [TX.kind]) (fun k hk=>by
   have hk:k∈[t,x]:=hk;simp at hk;rcases hk with rfl | rfl
   ·exact h.tr
   ·exact hx)
 refine ⟨h.ps.chg hc (fun i e=>by omega),aP h.box _ _ _ _,(htr.chgS hir hc (Nat.le_refl _) (fun i a1 a2=>a1.2 a2)).more hc.size,hir,.mk _ h2 (fun s hs=>?_) (fun k hk=>?_),h.chg.trans hc (fun i a1 a2=>by omega),h.res.chg hc (by omega),h.gp,h.glt⟩
 ·have hs:s∈[s1q]:=hs;simp at hs;subst hs;exact h1
 ·have hk:k∈[t,x]:=hk;simp at hk;rcases hk with rfl | rfl
  ·exact h.bd
  ·exact hb
end
def Ce (n gp:Nat) (w:World):Nat:=if intOf ((w.cell? ⟨gp,4,none⟩).getD undef)=0 then n+1 - (intOf ((w.cell? ⟨gp,1,none⟩).getD undef)).toNat else 0
theorem sJ (h:PS w gp Kt n A c tl a st e):Ce n gp w=if e=0 then n+1 - a else 0:=by
 have x1:=h.box.cell 1;have x4:=h.box.cell 4;simp at x1 x4;unfold Ce;rw [x1,x4];by_cases h0:e=0 <;> simp [h0,intOf]
end
end Go.Proofs.YtkgpoimmniojjaaGreat
