/- No condition. -/
import Derived.Test.YtkgpoimmniojjaaGreatZaAY
namespace Go.Proofs.YtkgpoimmniojjaaGreat
set_option linter.unusedVariables false
set_option linter.unusedSimpArgs false
set_option maxRecDepth 100000
set_option maxHeartbeats 16000000
section
open Go.RowKit
variable {w w':World} {gp gt n K Kt c a lo g:Nat} {L Kd:Value} {A:Option Addr} {tl s:ByteArray} {st e k:Int} {ls:List ByteArray} {ks:List TX} {t:TypeId}
theorem Dx:∃ e',Tryz.prog.underlying 97=some (.slice e'):=⟨_,Tryz.underlying97⟩
def jE (w:World) (gp Kt n:Nat) (A:Option Addr) (c:Nat) (tl:ByteArray) (a:Nat) (e:Int) (K lo gt:Nat) (k:Int) (L:Value) (ls:List ByteArray) (Kd:Value) (ks:List TX) (s':ByteArray->Prop) (r:Ending) (w':World):Prop:=
 ∃ (a':Nat) (st' e':Int) (s:ByteArray) (L':Value) (ls':List ByteArray),r=.returned (.tuple #[])/\PS w' gp Kt n A c tl a' st' e'/\UT w' K lo gt k s L' ls' Kd ks/\fK n a e a' e'/\ls'.length<=ls.length+1/\
  aT w w' (fun i=>i=gp\/i=gt\/L.ownBlock=some i)/\(∀ g,L'.ownBlock=some g->L.ownBlock=some g\/w.heap.size<=g)/\s' s
theorem mI (k:Int) (a b:ByteArray) (w:World):(Instr.field 145 (.agg #[.int .i64 k,.string a,.string b]) 1).run Tryz.prog w=.ok (.string a) w:=by kernel_rfl
theorem eF:(Tryz.prog.info? 9).map (fun i=>(i.zero,i.size,i.bytes))=some (some (.string ⟨#[]⟩),1,16):=by kernel_rfl
theorem dF {P:Program} {z:Value} {s b:Nat} (h:(P.info? t).map (fun i=>(i.zero,i.size,i.bytes))=some (some z,s,b)):∃ i,P.info? t=some i/\i.zero=some z/\i.size=s/\i.bytes=b:=by
 obtain ⟨i,h1,h2⟩:=Option.map_eq_some_iff.1 h;exact ⟨i,h1,by injection h2,by injection h2 with _ h;injection h,by injection h2 with _ h;injection h⟩
theorem aT.setCell' {p:Addr} {u:Value} (h:aT w w' (fun i=>i=gp\/L.ownBlock=some i)) (hp:p.block=gt):aT w (w'.setCell p u) (fun i=>i=gp\/i=gt\/L.ownBlock=some i):=
 (h.mono (M':=fun i=>i=gp\/i=gt\/L.ownBlock=some i) (fun i h=>by rcases h with h | h;exact .inl h;exact .inr (.inr h))).setCell (.inl (.inr (.inl hp))) _
theorem bP (tx:ByteArray) (w:World) (h:PS w gp Kt n A c tl a st e) (hn:n<=1000000) (hu:UT w K lo gt k s L ls Kd ks) (hgl:gp < lo) (hK:Kt<=K) (hl:ls.length<=1000000):
  Calls Tryz.prog 116 #[.pointer (some ⟨gp,0,none⟩),.pointer (some ⟨gt,0,none⟩),.string tx] w (jE w gp Kt n A c tl a e K lo gt k L ls Kd ks (fun s'=>s'=s)):=by
 have hle:=h.le;have HPS:=hD h;have HU:=hD hu;have HGL:=hD hgl;have HGT:Hid (lo<=w.heap.size):=Nat.le_trans hu.glo (Nat.le_of_lt hu.box.lt);have HIS:=hD (cU tx w h hn);clear h hu;go_enter Tryz.func116,Tryz.ntmps116;go_wp2_with fail;(with_reducible refine (HIS.out).mono ?_);rintro e w1 ⟨b,rfl,hb1,hb2⟩;have HPS1:=hD (HPS.out.below hb1);have HU1:=hD (HU.out.below hb1);have HB1:=hD hb1;clear hb1 HIS
 cases b
 ·have HFC:=hD (gE 2 w1 HPS1.out hn (by decide) (by unfold aO;omega));go_wp2_with fail;(with_reducible refine (HFC.out).mono ?_);rintro e w2 ⟨st',e',rfl,hp,he',hc⟩;have HP2:=hD hp;have HU2:=hD (HU1.out.chg hc (fun i h=>.inl (by have:=HGL.out;omega)));have HC2:Hid (aT w w2 (fun i=>i=gp)):=(aT.of_new HB1.out (fun i=>i=gp)).trans hc (fun i _ h=>h);clear hp hc;go_wp2_with fail;refine bodyPost_ret (v:=.tuple #[]) (by simp [results,Tryz.results116,go_sem]) rfl ?_;exact ⟨a,st',e',s,L,ls,rfl,HP2.out,HU2.out,⟨Nat.le_refl _,hle,fun h=>absurd h he'⟩,Nat.le_succ _,HC2.out.mono (fun i h=>.inl h),fun g h=>.inl h,rfl⟩
 ·have HPD:Hid (PS w1.drew gp Kt n A c tl a st e):=HPS1.out.below (cC (Below.refl _ _));have HUD:Hid (UT w1.drew K lo gt k s L ls Kd ks):=HU1.out.below (cC (Below.refl _ _));have HGT:Hid (lo<=w1.drew.heap.size):=Nat.le_trans HGT.out HB1.out.size;have HC:Hid (aT w1 w1.drew (fun i=>i=gp\/L.ownBlock=some i)):=(aT.refl _ _).drew;have t2:=HU1.out.box.cell 2;simp at t2;have ft2:=bA (M:=fun i=>i=gp\/L.ownBlock=some i) t2 (fun h=>by
   rcases h with h | h
   ·have:=HU1.out.glo;have:=HGL.out;omega
   ·exact HU1.out.lne h)
  clear t2;go_wp2_with fail;refine bM (fun i=>i=gp\/L.ownBlock=some i) 9 (.two [0,1,5] 2 (.one [3,4] 6 (.one [7] 8 (.one [] 9 (.last [])))) 6 (.two [7] 2 (.one [3,4] 8 (.one [] 9 (.last []))) 8 (.one [] 2 (.one [3,4] 9 (.last []))))) (by kernel_rfl) (by kernel_rfl) ?_;refine bF ?_;simp only [sN]
  repeat (go_big_quiet_step (fail))
  refine wpQuiet_nil ?_;refine ⟨?_,?_⟩
  ·refine aA rfl ?_;go_wp2_with fail;refine ⟨⟨⟨_,HC.out⟩,rfl⟩,?_⟩;refine aD ?_;simp only [sN]
   repeat (go_big_quiet_step (fail))
   refine wpQuiet_nil ?_;refine aC rfl 135 _ _ rfl Tryz.func135 rfl (by kernel_rfl) #[.pointer (some ⟨gp,0,none⟩)] (by simp [Act.eval]) (iS _ HPD.out hn) ?_;rintro r w5 ⟨tk,s1q,s2,a5,st5,e5,rfl,hp5,hadv,hs1,hs2,hc5⟩;have HC:Hid (aT w1 w5 (fun i=>i=gp\/L.ownBlock=some i)):=HC.out.trans hc5 (fun i _ h=>.inl h);have HP5:=hD hp5;have HU5:=hD (HUD.out.chg hc5 (fun i h=>.inl (by have:=HGL.out;omega)));have HC5:=hD hc5;have HA5:=hD hadv;have HS1:=hD hs1;clear hc5 hp5 hadv hs1 hs2;have hfd:=mI tk s1q s2;refine ⟨_,rfl,⟨⟨_,HC.out⟩,rfl⟩,?_⟩;simp only [sP];refine aD ?_;simp only [sN]
   repeat (go_big_quiet_step (fail))
   refine wpQuiet_nil ?_;obtain ⟨w6,hW6⟩:=nm (w5.alloc (.cells #[.string s1q] 9));have HC:Hid (aT w1 w6 (fun i=>i=gp\/L.ownBlock=some i)):=by subst hW6;exact HC.out.alloc _
   refine aE rfl (by simp [go_sem];exact ⟨rfl,hW6⟩) ⟨⟨_,HC.out⟩,rfl⟩ ?_;simp only [sP];refine aD ?_;simp only [sN]
   repeat (go_big_quiet_step (fail))
   refine wpQuiet_nil ?_;refine aA rfl ?_;at_builtin;obtain ⟨i0,hi0,hz0,hz1,hz2⟩:=dF eF;refine aF w6 rfl _ _ _ _ rfl lo 9 i0 _ 1 16 Tryz.underlying97 hi0 hz0 hz1 hz2 rfl (by decide) L ls.length (ls.map Value.string) (by simp [Act.eval]) (by rw [<- hW6];exact HU5.out.lead.alloc _) (.slice (some ⟨w5.heap.size,0,none⟩) 1 1) 1 [.string s1q] (by simp [Act.eval]) (by rw [<- hW6];exact bR w5 Tryz.underlying97 [.string s1q] 1 1 1 9 rfl (fun u hu=>by simp at hu;subst hu;rfl)) (by unfold maxLen;omega) (by omega) (by rw [<- hW6];simp;have:=HGT.out;have:=HC5.out.size;omega) ?_;intro L' w7 hown7 hg7;obtain ⟨A7,c7,rfl,-,-⟩:=aS hown7;have HC:Hid (aT w1 w7 (fun i=>i=gp\/L.ownBlock=some i)):=HC.out.trans (aT.of_grown (M:=fun i=>L.ownBlock=some i) hg7.grown (fun g e=>e)) (fun i _ h=>.inr h);have HPS7:Hid (PS w7 gp Kt n A c tl a5 st5 e5):=(HP5.out.below (by rw [<- hW6];exact bK (Below.refl _ _) _)).chg (aT.of_grown (M:=fun i=>L.ownBlock=some i) hg7.grown (fun g e=>e)) (fun i h=>by have:=aU HU1.out.lead i h;have:=HGL.out;omega);have HL:=hD (HU5.out.leads (o:=.cells #[.string s1q] 9) (by rw [hW6];exact hg7) hown7 (Nat.le_trans HS1.out hK));refine ⟨⟨⟨_,HC.out⟩,rfl⟩,?_⟩;simp only [sP];refine aM ?_;simp only [sN]
   repeat (go_big_quiet_step (fail))
   refine wpQuiet_nil ?_;clear hg7 hown7;clear ft2;have HB7:Hid (aK w7 gt 99 #[.int .i64 k,.string s,L,Kd]):=HU1.out.box.chg HC.out (fun h=>by
    rcases h with h | h
    ·have:=HU.out.glo;have:=HGL.out;omega
    ·exact HU1.out.lne h)
   obtain ⟨y0,y1,y2,y3⟩:=HB7.out.c4;obtain ⟨q0,q1,q2,q3⟩:=HB7.out.f4;go_wp2_with fail;refine NoPanic.normal ?_;go_wp2_with fail;refine bodyPost_ret (v:=.tuple #[]) (by simp [results,Tryz.results116,go_sem]) rfl ?_;refine ⟨a5,st5,e5,s,_,ls++[s1q],rfl,HPS7.out.chg ((aT.refl w7 (fun i=>i=gt)).setCell (p:=⟨gt,2,none⟩) (.inl rfl) _) (fun i h=>by have:=HU.out.glo;have:=HGL.out;omega),HL.out.1,HA5.out,by simp,((aT.of_new HB1.out _).trans (aT.setCell' HC.out (p:=⟨gt,2,none⟩) rfl) (fun i _ h=>h)),fun g h=>?_,rfl⟩;rcases HL.out.2.2 g h with h1 | h1
   ·exact .inl h1
   ·exact .inr (Nat.le_trans HB1.out.size (Nat.le_trans HC5.out.size h1))
  ·refine aC rfl 135 _ _ rfl Tryz.func135 rfl (by kernel_rfl) #[.pointer (some ⟨gp,0,none⟩)] (by simp [Act.eval]) (iS _ HPD.out hn) ?_;rintro r w5 ⟨tk,s1q,s2,a5,st5,e5,rfl,hp5,hadv,hs1,hs2,hc5⟩;have HC:Hid (aT w1 w5 (fun i=>i=gp\/L.ownBlock=some i)):=HC.out.trans hc5 (fun i _ h=>.inl h);have HP5:=hD hp5;have HU5:=hD (HUD.out.chg hc5 (fun i h=>.inl (by have:=HGL.out;omega)));have HC5:=hD hc5;have HA5:=hD hadv;have HS1:=hD hs1;clear hc5 hp5 hadv hs1 hs2;have hfd:=mI tk s1q s2;refine ⟨_,rfl,⟨⟨_,HC.out⟩,rfl⟩,?_⟩;simp only [sP];refine bF ?_;simp only [sN]
   repeat (go_big_quiet_step (fail))
   refine wpQuiet_nil ?_;refine ⟨?_,?_⟩
   ·refine aA rfl ?_;go_wp2_with fail;refine ⟨⟨⟨_,HC.out⟩,rfl⟩,?_⟩;refine aD ?_;simp only [sN]
    repeat (go_big_quiet_step (fail))
    refine wpQuiet_nil ?_;obtain ⟨w6,hW6⟩:=nm (w5.alloc (.cells #[.string s1q] 9));have HC:Hid (aT w1 w6 (fun i=>i=gp\/L.ownBlock=some i)):=by subst hW6;exact HC.out.alloc _
    refine aE rfl (by simp [go_sem];exact ⟨rfl,hW6⟩) ⟨⟨_,HC.out⟩,rfl⟩ ?_;simp only [sP];refine aD ?_;simp only [sN]
    repeat (go_big_quiet_step (fail))
    refine wpQuiet_nil ?_;refine aA rfl ?_;at_builtin;obtain ⟨i0,hi0,hz0,hz1,hz2⟩:=dF eF;refine aF w6 rfl _ _ _ _ rfl lo 9 i0 _ 1 16 Tryz.underlying97 hi0 hz0 hz1 hz2 rfl (by decide) L ls.length (ls.map Value.string) (by simp [Act.eval]) (by rw [<- hW6];exact HU5.out.lead.alloc _) (.slice (some ⟨w5.heap.size,0,none⟩) 1 1) 1 [.string s1q] (by simp [Act.eval]) (by rw [<- hW6];exact bR w5 Tryz.underlying97 [.string s1q] 1 1 1 9 rfl (fun u hu=>by simp at hu;subst hu;rfl)) (by unfold maxLen;omega) (by omega) (by rw [<- hW6];simp;have:=HGT.out;have:=HC5.out.size;omega) ?_;intro L' w7 hown7 hg7;obtain ⟨A7,c7,rfl,-,-⟩:=aS hown7;have HC:Hid (aT w1 w7 (fun i=>i=gp\/L.ownBlock=some i)):=HC.out.trans (aT.of_grown (M:=fun i=>L.ownBlock=some i) hg7.grown (fun g e=>e)) (fun i _ h=>.inr h);have HPS7:Hid (PS w7 gp Kt n A c tl a5 st5 e5):=(HP5.out.below (by rw [<- hW6];exact bK (Below.refl _ _) _)).chg (aT.of_grown (M:=fun i=>L.ownBlock=some i) hg7.grown (fun g e=>e)) (fun i h=>by have:=aU HU1.out.lead i h;have:=HGL.out;omega);have HL:=hD (HU5.out.leads (o:=.cells #[.string s1q] 9) (by rw [hW6];exact hg7) hown7 (Nat.le_trans HS1.out hK));refine ⟨⟨⟨_,HC.out⟩,rfl⟩,?_⟩;simp only [sP];refine aM ?_;simp only [sN]
    repeat (go_big_quiet_step (fail))
    refine wpQuiet_nil ?_;clear hg7 hown7;clear ft2;have HB7:Hid (aK w7 gt 99 #[.int .i64 k,.string s,L,Kd]):=HU1.out.box.chg HC.out (fun h=>by
     rcases h with h | h
     ·have:=HU.out.glo;have:=HGL.out;omega
     ·exact HU1.out.lne h)
    obtain ⟨y0,y1,y2,y3⟩:=HB7.out.c4;obtain ⟨q0,q1,q2,q3⟩:=HB7.out.f4;go_wp2_with fail;refine NoPanic.normal ?_;go_wp2_with fail;refine bodyPost_ret (v:=.tuple #[]) (by simp [results,Tryz.results116,go_sem]) rfl ?_;refine ⟨a5,st5,e5,s,_,ls++[s1q],rfl,HPS7.out.chg ((aT.refl w7 (fun i=>i=gt)).setCell (p:=⟨gt,2,none⟩) (.inl rfl) _) (fun i h=>by have:=HU.out.glo;have:=HGL.out;omega),HL.out.1,HA5.out,by simp,((aT.of_new HB1.out _).trans (aT.setCell' HC.out (p:=⟨gt,2,none⟩) rfl) (fun i _ h=>h)),fun g h=>?_,rfl⟩;rcases HL.out.2.2 g h with h1 | h1
    ·exact .inl h1
    ·exact .inr (Nat.le_trans HB1.out.size (Nat.le_trans HC5.out.size h1))
   ·obtain ⟨w6,hW6⟩:=nm (w5.alloc (.cells #[.string s1q] 9));have HC:Hid (aT w1 w6 (fun i=>i=gp\/L.ownBlock=some i)):=by subst hW6;exact HC.out.alloc _
    refine aE rfl (by simp [go_sem];exact ⟨rfl,hW6⟩) ⟨⟨_,HC.out⟩,rfl⟩ ?_;simp only [sP];refine aD ?_;simp only [sN]
    repeat (go_big_quiet_step (fail))
    refine wpQuiet_nil ?_;refine aA rfl ?_;go_wp2_with fail;refine ⟨⟨⟨_,HC.out⟩,rfl⟩,?_⟩;refine aD ?_;simp only [sN]
    repeat (go_big_quiet_step (fail))
    refine wpQuiet_nil ?_;refine aA rfl ?_;at_builtin;obtain ⟨i0,hi0,hz0,hz1,hz2⟩:=dF eF;refine aF w6 rfl _ _ _ _ rfl lo 9 i0 _ 1 16 Tryz.underlying97 hi0 hz0 hz1 hz2 rfl (by decide) L ls.length (ls.map Value.string) (by simp [Act.eval]) (by rw [<- hW6];exact HU5.out.lead.alloc _) (.slice (some ⟨w5.heap.size,0,none⟩) 1 1) 1 [.string s1q] (by simp [Act.eval]) (by rw [<- hW6];exact bR w5 Tryz.underlying97 [.string s1q] 1 1 1 9 rfl (fun u hu=>by simp at hu;subst hu;rfl)) (by unfold maxLen;omega) (by omega) (by rw [<- hW6];simp;have:=HGT.out;have:=HC5.out.size;omega) ?_;intro L' w7 hown7 hg7;obtain ⟨A7,c7,rfl,-,-⟩:=aS hown7;have HC:Hid (aT w1 w7 (fun i=>i=gp\/L.ownBlock=some i)):=HC.out.trans (aT.of_grown (M:=fun i=>L.ownBlock=some i) hg7.grown (fun g e=>e)) (fun i _ h=>.inr h);have HPS7:Hid (PS w7 gp Kt n A c tl a5 st5 e5):=(HP5.out.below (by rw [<- hW6];exact bK (Below.refl _ _) _)).chg (aT.of_grown (M:=fun i=>L.ownBlock=some i) hg7.grown (fun g e=>e)) (fun i h=>by have:=aU HU1.out.lead i h;have:=HGL.out;omega);have HL:=hD (HU5.out.leads (o:=.cells #[.string s1q] 9) (by rw [hW6];exact hg7) hown7 (Nat.le_trans HS1.out hK));refine ⟨⟨⟨_,HC.out⟩,rfl⟩,?_⟩;simp only [sP];refine aM ?_;simp only [sN]
    repeat (go_big_quiet_step (fail))
    refine wpQuiet_nil ?_;clear hg7 hown7;clear ft2;have HB7:Hid (aK w7 gt 99 #[.int .i64 k,.string s,L,Kd]):=HU1.out.box.chg HC.out (fun h=>by
     rcases h with h | h
     ·have:=HU.out.glo;have:=HGL.out;omega
     ·exact HU1.out.lne h)
    obtain ⟨y0,y1,y2,y3⟩:=HB7.out.c4;obtain ⟨q0,q1,q2,q3⟩:=HB7.out.f4;go_wp2_with fail;refine NoPanic.normal ?_;go_wp2_with fail;refine bodyPost_ret (v:=.tuple #[]) (by simp [results,Tryz.results116,go_sem]) rfl ?_;refine ⟨a5,st5,e5,s,_,ls++[s1q],rfl,HPS7.out.chg ((aT.refl w7 (fun i=>i=gt)).setCell (p:=⟨gt,2,none⟩) (.inl rfl) _) (fun i h=>by have:=HU.out.glo;have:=HGL.out;omega),HL.out.1,HA5.out,by simp,((aT.of_new HB1.out _).trans (aT.setCell' HC.out (p:=⟨gt,2,none⟩) rfl) (fun i _ h=>h)),fun g h=>?_,rfl⟩;rcases HL.out.2.2 g h with h1 | h1
    ·exact .inl h1
    ·exact .inr (Nat.le_trans HB1.out.size (Nat.le_trans HC5.out.size h1))
theorem UT.boxed {k':Int} {s':ByteArray} (h:UT w K lo gt k s L ls Kd ks) (hc:aT w w' (fun i=>i=gt)) (hb:aK w' gt 99 #[.int .i64 k',.string s',L,Kd]) (hs:s'.size<=K):UT w' K lo gt k' s' L ls Kd ks:=
 ⟨hb,bV h.lead hc (fun g e1 e2=>h.lne (e2 ▸ e1)),⟨bV h.kids.row hc (fun g e1 e2=>h.kg (e2 ▸ e1)),fun x hx=>⟨((h.kids.kid x hx).1.chgS (h.sep x hx) hc (Nat.le_refl _) (fun i hi hM=>hi.1 hM)).more hc.size,(h.kids.kid x hx).2⟩⟩,h.sep,h.glo,hs,h.tl,h.tks,h.kg⟩
theorem dV (kd:Int) (w:World) (h:PS w gp Kt n A c tl a st e) (hn:n<=1000000) (hu:UT w K lo gt k s L ls Kd ks) (hgl:gp < lo) (hK:Kt<=K) (hl:ls.length<=1000000):
  Calls Tryz.prog 117 #[.pointer (some ⟨gp,0,none⟩),.pointer (some ⟨gt,0,none⟩),.int .i64 kd] w (jE w gp Kt n A c tl a e K lo gt k L ls Kd ks (fun _=>True)):=by
 have hle:=h.le;have HPS:=hD h;have HU:=hD hu;have HGL:=hD hgl;have HKC:=hD (dB w h hn);clear h hu;go_enter Tryz.func117,Tryz.ntmps117;go_wp2_with fail;(with_reducible refine (HKC.out).mono ?_);rintro e w1 ⟨k1,rfl,hb1,hb2,-⟩;have HPS1:=hD (HPS.out.below hb1);have HU1:=hD (HU.out.below hb1);have HB1:=hD hb1;clear hb1 HKC;have q:(k1 != kd)=true\/(k1 != kd)=false:=by cases (k1 != kd) <;> simp
 rcases q with q | q
 ·have HFC:=hD (gE 2 w1 HPS1.out hn (by decide) (by unfold aO;omega));go_wp2_with fail;(with_reducible refine (HFC.out).mono ?_);rintro e w2 ⟨st',e',rfl,hp,he',hc⟩;have HP2:=hD hp;have HU2:=hD (HU1.out.chg hc (fun i h=>.inl (by have:=HGL.out;omega)));have HC2:Hid (aT w w2 (fun i=>i=gp)):=(aT.of_new HB1.out (fun i=>i=gp)).trans hc (fun i _ h=>h);clear hp hc;go_wp2_with fail;refine bodyPost_ret (v:=.tuple #[]) (by simp [results,Tryz.results117,go_sem]) rfl ?_;exact ⟨a,st',e',s,L,ls,rfl,HP2.out,HU2.out,⟨Nat.le_refl _,hle,fun h=>absurd h he'⟩,Nat.le_succ _,HC2.out.mono (fun i h=>.inl h),fun g h=>.inl h,trivial⟩
 ·have HTC:=hD (iS w1 HPS1.out hn);go_wp2_with fail;(with_reducible refine (HTC.out).mono ?_);rintro e w2 ⟨tk,s1q,s2,a5,st5,e5,rfl,hp5,hadv,hs1,hs2,hc5⟩;obtain ⟨W3,hW3⟩:=nm (w2.alloc (.cells #[.int .i64 tk,.string s1q,.string s2] 145));have HX3:=bk hW3;have HP3:Hid (PS W3 gp Kt n A c tl a5 st5 e5):=by subst hW3;exact hp5.below (bK (Below.refl _ _) _)
  have HU3:Hid (UT W3 K lo gt k s L ls Kd ks):=by subst hW3;exact (HU1.out.chg hc5 (fun i h=>.inl (by have:=HGL.out;omega))).below (bK (Below.refl _ _) _)
  have HC3:Hid (aT w W3 (fun i=>i=gp)):=by subst hW3;exact ((aT.of_new HB1.out (fun i=>i=gp)).trans hc5 (fun i _ h=>h)).alloc _
  have HG3:Hid (gt < w2.heap.size):=Nat.lt_of_lt_of_le HU1.out.box.lt hc5.size;have HA5:=hD hadv;have HS1:=hD hs1;have HS2:=hD hs2;have HW3:=hD hW3;clear hp5 hadv hs1 hs2 hc5 hW3 HTC;obtain ⟨x0,x1,x2⟩:=HX3.out.c3;obtain ⟨y0,y1,y2,y3⟩:=HU3.out.box.c4;obtain ⟨q0,q1,q2,q3⟩:=HU3.out.box.f4;go_upto_region 3 with (rw [HW3.out]);obtain ⟨W4,hW4⟩:=nm (W3.setCell ⟨gt,1,none⟩ (.string s2));have HC4:Hid (aT W3 W4 (fun i=>i=gt)):=by subst hW4;exact (aT.refl W3 (fun i=>i=gt)).setCell (p:=⟨gt,1,none⟩) (.inl rfl) _
  have HU4:Hid (UT W4 K lo gt k s2 L ls Kd ks):=HU3.out.boxed HC4.out (by subst hW4;exact HU3.out.box.set_ 1 _) (Nat.le_trans HS2.out hK);have HP4:Hid (PS W4 gp Kt n A c tl a5 st5 e5):=HP3.out.chg HC4.out (fun i h=>by have:=HU3.out.glo;have:=HGL.out;omega);have HX4:Hid (aK W4 w2.heap.size 145 #[.int .i64 tk,.string s1q,.string s2]):=HX3.out.chg HC4.out (by have:=HG3.out;omega);have HCW:Hid (aT w W4 (fun i=>i=gp\/i=gt\/L.ownBlock=some i)):=(HC3.out.mono (M':=fun i=>i=gp\/i=gt\/L.ownBlock=some i) (fun i h=>.inl h)).trans HC4.out (fun i _ h=>.inr (.inl h));have HW4:=hD hW4;clear hW4;go_wp2_with (rw [HW4.out]);clear y0 y1 y2 y3 q0 q1 q2 q3 x0 x1 x2;obtain ⟨x0,x1,x2⟩:=HX4.out.c3;obtain ⟨y0,y1,y2,y3⟩:=HU4.out.box.c4;obtain ⟨q0,q1,q2,q3⟩:=HU4.out.box.f4;have HGT:Hid (lo<=W4.heap.size):=Nat.le_trans HU4.out.glo (Nat.le_of_lt HU4.out.box.lt);have HU5:Hid (UT W4.drew K lo gt k s2 L ls Kd ks):=HU4.out.below (cC (Below.refl _ _));have HC:Hid (aT W4 W4.drew (fun i=>L.ownBlock=some i)):=(aT.refl _ _).drew;have ft2:=bA (M:=fun i=>L.ownBlock=some i) y2 HU4.out.lne;have fx1:=bA (M:=fun i=>L.ownBlock=some i) x1 (fun h=>aX HU4.out.lead HX4.out (by decide) h);refine bM (fun i=>L.ownBlock=some i) 8 (.two [0,1,5,6] 2 (.one [3,4] 7 (.one [] 8 (.last []))) 7 (.one [] 2 (.one [3,4] 8 (.last [])))) (by kernel_rfl) (by kernel_rfl) ?_;refine bF ?_;simp only [sN]
  repeat (go_big_quiet_step (fail))
  refine wpQuiet_nil ?_;refine ⟨?_,?_⟩
  ·refine aA rfl ?_;go_wp2_with fail;refine ⟨⟨⟨_,HC.out⟩,rfl⟩,?_⟩;refine aD ?_;simp only [sN]
   repeat (go_big_quiet_step (fail))
   refine wpQuiet_nil ?_;obtain ⟨w6,hW6⟩:=nm (W4.drew.alloc (.cells #[.string s1q] 9));have HC:Hid (aT W4 w6 (fun i=>L.ownBlock=some i)):=by subst hW6;exact HC.out.alloc _
   refine aE rfl (by simp [go_sem];exact ⟨rfl,hW6⟩) ⟨⟨_,HC.out⟩,rfl⟩ ?_;simp only [sP];refine aD ?_;simp only [sN]
   repeat (go_big_quiet_step (fail))
   refine wpQuiet_nil ?_;refine aA rfl ?_;at_builtin;obtain ⟨i0,hi0,hz0,hz1,hz2⟩:=dF eF;refine aF w6 rfl _ _ _ _ rfl lo 9 i0 _ 1 16 Tryz.underlying97 hi0 hz0 hz1 hz2 rfl (by decide) L ls.length (ls.map Value.string) (by simp [Act.eval]) (by rw [<- hW6];exact HU5.out.lead.alloc _) (.slice (some ⟨W4.heap.size,0,none⟩) 1 1) 1 [.string s1q] (by simp [Act.eval]) (by rw [<- hW6];exact bR W4.drew Tryz.underlying97 [.string s1q] 1 1 1 9 rfl (fun u hu=>by simp at hu;subst hu;rfl)) (by unfold maxLen;omega) (by omega) (by rw [<- hW6];simp;have:=HGT.out;omega) ?_;intro L' w7 hown7 hg7;obtain ⟨A7,c7,rfl,-,-⟩:=aS hown7;have HC:Hid (aT W4 w7 (fun i=>L.ownBlock=some i)):=HC.out.trans (aT.of_grown (M:=fun i=>L.ownBlock=some i) hg7.grown (fun g e=>e)) (fun i _ h=>h);have HPS7:Hid (PS w7 gp Kt n A c tl a5 st5 e5):=HP4.out.chg HC.out (fun i h=>by have:=aU HU5.out.lead i h;have:=HGL.out;omega);have HL:=hD (HU5.out.leads (o:=.cells #[.string s1q] 9) (by rw [hW6];exact hg7) hown7 (Nat.le_trans HS1.out hK));refine ⟨⟨⟨_,HC.out⟩,rfl⟩,?_⟩;simp only [sP];refine aM ?_;simp only [sN]
   repeat (go_big_quiet_step (fail))
   refine wpQuiet_nil ?_;clear hg7 hown7 ft2 fx1;have HB7:Hid (aK w7 gt 99 #[.int .i64 k,.string s2,L,Kd]):=HU4.out.box.chg HC.out HU4.out.lne;clear y0 y1 y2 y3 q0 q1 q2 q3 x0 x1 x2;obtain ⟨y0,y1,y2,y3⟩:=HB7.out.c4;obtain ⟨q0,q1,q2,q3⟩:=HB7.out.f4;go_wp2_with fail;refine NoPanic.normal ?_;go_wp2_with fail;refine bodyPost_ret (v:=.tuple #[]) (by simp [results,Tryz.results117,go_sem]) rfl ?_;refine ⟨a5,st5,e5,s2,_,ls++[s1q],rfl,HPS7.out.chg ((aT.refl w7 (fun i=>i=gt)).setCell (p:=⟨gt,2,none⟩) (.inl rfl) _) (fun i h=>by have:=HU4.out.glo;have:=HGL.out;omega),HL.out.1,HA5.out,by simp,HCW.out.trans ((aT.refl W4 (fun i=>i=gt\/L.ownBlock=some i)).drew.trans HL.out.2.1 (fun i _ h=>h)) (fun i _ h=>.inr h),fun g h=>?_,trivial⟩;rcases HL.out.2.2 g h with h1 | h1
   ·exact .inl h1
   ·exact .inr (Nat.le_trans HCW.out.size h1)
  ·obtain ⟨w6,hW6⟩:=nm (W4.drew.alloc (.cells #[.string s1q] 9));have HC:Hid (aT W4 w6 (fun i=>L.ownBlock=some i)):=by subst hW6;exact HC.out.alloc _
   refine aE rfl (by simp [go_sem];exact ⟨rfl,hW6⟩) ⟨⟨_,HC.out⟩,rfl⟩ ?_;simp only [sP];refine aD ?_;simp only [sN]
   repeat (go_big_quiet_step (fail))
   refine wpQuiet_nil ?_;refine aA rfl ?_;go_wp2_with fail;refine ⟨⟨⟨_,HC.out⟩,rfl⟩,?_⟩;refine aD ?_;simp only [sN]
   repeat (go_big_quiet_step (fail))
   refine wpQuiet_nil ?_;refine aA rfl ?_;at_builtin;obtain ⟨i0,hi0,hz0,hz1,hz2⟩:=dF eF;refine aF w6 rfl _ _ _ _ rfl lo 9 i0 _ 1 16 Tryz.underlying97 hi0 hz0 hz1 hz2 rfl (by decide) L ls.length (ls.map Value.string) (by simp [Act.eval]) (by rw [<- hW6];exact HU5.out.lead.alloc _) (.slice (some ⟨W4.heap.size,0,none⟩) 1 1) 1 [.string s1q] (by simp [Act.eval]) (by rw [<- hW6];exact bR W4.drew Tryz.underlying97 [.string s1q] 1 1 1 9 rfl (fun u hu=>by simp at hu;subst hu;rfl)) (by unfold maxLen;omega) (by omega) (by rw [<- hW6];simp;have:=HGT.out;omega) ?_;intro L' w7 hown7 hg7;obtain ⟨A7,c7,rfl,-,-⟩:=aS hown7;have HC:Hid (aT W4 w7 (fun i=>L.ownBlock=some i)):=HC.out.trans (aT.of_grown (M:=fun i=>L.ownBlock=some i) hg7.grown (fun g e=>e)) (fun i _ h=>h);have HPS7:Hid (PS w7 gp Kt n A c tl a5 st5 e5):=HP4.out.chg HC.out (fun i h=>by have:=aU HU5.out.lead i h;have:=HGL.out;omega);have HL:=hD (HU5.out.leads (o:=.cells #[.string s1q] 9) (by rw [hW6];exact hg7) hown7 (Nat.le_trans HS1.out hK));refine ⟨⟨⟨_,HC.out⟩,rfl⟩,?_⟩;simp only [sP];refine aM ?_;simp only [sN]
   repeat (go_big_quiet_step (fail))
   refine wpQuiet_nil ?_;clear hg7 hown7 ft2 fx1;have HB7:Hid (aK w7 gt 99 #[.int .i64 k,.string s2,L,Kd]):=HU4.out.box.chg HC.out HU4.out.lne;clear y0 y1 y2 y3 q0 q1 q2 q3 x0 x1 x2;obtain ⟨y0,y1,y2,y3⟩:=HB7.out.c4;obtain ⟨q0,q1,q2,q3⟩:=HB7.out.f4;go_wp2_with fail;refine NoPanic.normal ?_;go_wp2_with fail;refine bodyPost_ret (v:=.tuple #[]) (by simp [results,Tryz.results117,go_sem]) rfl ?_;refine ⟨a5,st5,e5,s2,_,ls++[s1q],rfl,HPS7.out.chg ((aT.refl w7 (fun i=>i=gt)).setCell (p:=⟨gt,2,none⟩) (.inl rfl) _) (fun i h=>by have:=HU4.out.glo;have:=HGL.out;omega),HL.out.1,HA5.out,by simp,HCW.out.trans ((aT.refl W4 (fun i=>i=gt\/L.ownBlock=some i)).drew.trans HL.out.2.1 (fun i _ h=>h)) (fun i _ h=>.inr h),fun g h=>?_,trivial⟩;rcases HL.out.2.2 g h with h1 | h1
   ·exact .inl h1
   ·exact .inr (Nat.le_trans HCW.out.size h1)
theorem eD {size:Nat} {xs:List Value} (h:aK w g t xs.toArray) (hl:xs.length=n*size):aG w w.heap.size size (some ⟨g,0,none⟩) n xs:=
 ⟨hl,fun _=>⟨_,rfl,h.lt,fun j u hu=>by rw [Addr.add_lit,Nat.zero_add,h.cell];simpa using hu⟩⟩
def bZ (w:World) (gp Kt n:Nat) (A:Option Addr) (c:Nat) (tl:ByteArray) (a:Nat) (e:Int) (K:Nat) (r:Ending) (w':World):Prop:=
 ∃ (t:TX) (a':Nat) (st' e':Int),r=.returned t.val/\PS w' gp Kt n A c tl a' st' e'/\aT w w' (fun i=>i=gp)/\Tr w' w'.heap.size t/\gG (w.heap.size<=·) t/\fG K t/\fK n a e a' e'/\(e'=0->t.plain.size<=3*(a' - a))
theorem aT.above {w1:World} {M:Nat->Prop} (h:aT w w1 M) (h':aT w1 w' (fun i=>i=g)) (hg:w.heap.size<=g):aT w w' M:=
 ⟨h'.os.trans h.os,h'.tape.trans h.tape,h'.output.trans h.output,Nat.le_trans h.size h'.size,fun i hi hn=>(h'.block i (by have:=h.size;omega) (by omega)).trans (h.block i hi hn)⟩
theorem gQ (kd:Int) (w:World) (h:PS w gp Kt n A c tl a st e) (hn:n<=1000000) (hK:Kt<=K) (hk:aO kd):
  Calls Tryz.prog 157 #[.pointer (some ⟨gp,0,none⟩),.int .i64 kd] w (bZ w gp Kt n A c tl a e K):=by
 obtain ⟨W,hW⟩:=nm (w.alloc (.cells #[.int .i64 0,.string ⟨#[]⟩,.slice none 0 0,.slice none 0 0] 99));have HX0:=bk hW;have HBW:=bw hW;have HGP:Hid (gp < w.heap.size):=h.lt;have HTC:=hD (iS W (h.below HBW.out) hn);have HW:=hD hW;clear hW h;go_enter Tryz.func157,Tryz.ntmps157;go_wp2_with (rw [HW.out]);(with_reducible refine (HTC.out).mono ?_);rintro e w5 ⟨tk,s1q,s2,a5,st5,e5,rfl,hp5,hadv,hs1,hs2,hc5⟩;obtain ⟨w6,hW6⟩:=nm (w5.alloc (.cells #[.string s1q] 9));have HX5:=HX0.out.chg hc5 (by have:=HGP.out;omega);have HX6:Hid (aK w6 w.heap.size 99 #[.int .i64 0,.string ⟨#[]⟩,.slice none 0 0,.slice none 0 0]):=by subst hW6;exact HX5.alloc _
 have HL6:=bk hW6;have HP6:Hid (PS w6 gp Kt n A c tl a5 st5 e5):=by subst hW6;exact hp5.below (bK (Below.refl _ _) _)
 have HC6:Hid (aT w w6 (fun i=>i=gp)):=by subst hW6;exact ((aT.of_new HBW.out (fun i=>i=gp)).trans hc5 (fun i _ h=>h)).alloc _
 have HZ5:Hid (w.heap.size < w5.heap.size):=Nat.lt_of_lt_of_le HX0.out.lt hc5.size;have HA5:=hD hadv;have HS1:=hD hs1;have hfd:=mI tk s1q s2;have HW6:=hD hW6;clear hp5 hadv hs1 hs2 hc5 hW6 HTC HX5;obtain ⟨y0,y1,y2,y3⟩:=HX6.out.c4;obtain ⟨q0,q1,q2,q3⟩:=HX6.out.f4;go_wp2_with (rw [HW6.out]);refine rR (aP HX6.out _ _ _ _) Tryz.underlying99 rfl rfl rfl rfl (by kernel_rfl) ?_;have hc:=cP w6 w.heap.size (.int .i64 kd) (.string ⟨#[]⟩) (.slice (some ⟨w5.heap.size,0,none⟩) 1 1) (.slice none 0 0);have hl:=HL6.out.chg hc (by have:=HZ5.out;omega);refine ⟨.node kd ⟨#[]⟩ (some ⟨w5.heap.size,0,none⟩) [s1q] 1 none [] 0,a5,st5,e5,rfl,HP6.out.chg hc (fun i h=>by have:=HGP.out;omega),HC6.out.above hc (Nat.le_refl _),?_,?_,?_,HA5.out,fun he=>?_⟩
 ·exact .mk _ ⟨rfl,fun h=>absurd h (by simp [TX.kids])⟩ (eD (n:=1) (size:=1) hl rfl) (by simp [TX.kids]) (by simp [TX.kids]) (by simp [TX.leads]) hk (fun k hk=>by simp [TX.kids] at hk)
 ·exact .mk _ (fun ad e=>by cases e) (fun ad e _=>by injection e with e;subst e;have:=HZ5.out;show w.heap.size<=w5.heap.size;omega) (fun k hk=>by simp [TX.kids] at hk)
 ·exact .mk _ (Nat.zero_le _) (fun s hs=>by simp [TX.leads] at hs;subst hs;exact Nat.le_trans HS1.out hK) (fun k hk=>by simp [TX.kids] at hk)
 ·have:=HA5.out.2.2 he;simp [TX.plain,TX.plains,T.size,T.sizes];omega
end
end Go.Proofs.YtkgpoimmniojjaaGreat
