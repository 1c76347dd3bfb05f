/- No condition. -/
import Derived.Test.YtkgpoimmniojjaaGreatZaBK
namespace Go.Proofs.YtkgpoimmniojjaaGreat
set_option linter.unusedVariables false
set_option linter.unusedSimpArgs false
set_option maxRecDepth 100000
set_option maxHeartbeats 16000000
section
open Go.RowKit
variable {q:List Int} {ps:List TX} {pA iA D:Option Addr} {pc ic B d:Nat} {t s:TX} {w:World}
theorem gL {K:Nat}:∀ (p:List Int) (t s:TX),fG K t->t.find p=some s->fG K s
 | [],t,s,h,hf=>by rw [TX.find] at hf;injection hf with hf;subst hf;exact h
 | i::p,t,s,h,hf=>by
  rw [TX.find] at hf
  split at hf
  ·cases hf
  ·split at hf
   ·cases hf
   ·rename_i k hk;exact gL p k s (h.sub k (List.mem_of_getElem? hk)) hf
theorem Aw (hf:t.find q=some s) (h0:0 < q.length):∃ (i:Nat) (q':List Int) (k:TX),q=(i:Int)::q'/\t.kids[i]?=some k/\k.find q'=some s:=by
 cases q with
 | nil=>simp at h0
 | cons x q=>
  rw [TX.find] at hf
  split at hf
  ·cases hf
  ·rename_i hx
   cases hk:t.kids[x.toNat]? with
   | none=>rw [hk] at hf;cases hf
   | some k=>
    rw [hk] at hf;exact ⟨x.toNat,q,k,by rw [show ((x.toNat:Nat):Int)=x by omega],hk,hf⟩
theorem mK {k:TX} {i:Nat} (hk:t.kids[i]?=some k):t.find ((i:Int)::q)=k.find q:=by
 have:=(List.getElem?_eq_some_iff.1 hk).1;rw [TX.find,if_neg (by omega)];simp [hk]
def fT (w:World) (e:Ending) (w':World):Prop:=∃ (n:Int) (f:Bool) (x:ByteArray) (r:Int),e=.returned (.agg #[.int .i64 n,.bool f,.string x,.int .i64 r])/\aO n/\x.size<=110/\aO r/\Below w.heap.size w w'
structure SA (w:World) (pA:Option Addr) (ps:List TX) (iA:Option Addr) (is:List PW) (m:Nat) (t s:TX) (D:Option Addr) (d:Nat) (q:List Int):Prop where
 be:BE w w.heap.size pA ps iA is
 ht:ps[m]?=some t
 hq:aG w w.heap.size 1 D q.length (q.map (Value.int .i64))
 hf:t.find q=some s
 hl:q.length<=100000
 hd:q.length<=d
 h0:0 < q.length
theorem wK {is:List PW} (m:Nat) (t s:TX) (D:Option Addr) (d:Nat) (q:List Int) (w:World) (h:SA w pA ps iA is m t s D d q) (d1:(s.kind == 12)=false) (d2:(s.kind == 16)=false) (d3:(s.kind == 9)=false) (d4:(s.kind == 17)=false):Calls Tryz.prog 91 #[.slice pA ps.length pc,.slice iA is.length ic,.int .i64 (m:Int),.slice D q.length d] w (fT w):=by
 have hmp:=(List.getElem?_eq_some_iff.1 h.ht).1;have hn2:=h.be.n2;have hil:=h.be.len;have hil1:is.length<=ps.length:=by omega
 have hil2:ps.length<=is.length:=by omega
 clear hil;have htm:=List.mem_of_getElem? h.ht;have hTs:=fP q t s (h.be.rt.kid t htm) h.hf;have hBs:=gL q t s (h.be.bd t htm).1 h.hf;have HK:=hD hTs.kr;have HTX:=hD hBs.text;obtain ⟨ab,ao,rfl,hab,-⟩:=h.be.rt.at_ h.ht;obtain ⟨ib,io,xi,rfl,hib,-,-,hxm,hx1,hx2⟩:=h.be.ids h.ht;have HS:=hD h;have HXM:=hD hxm;have HX12:=hD (And.intro hx1 hx2);have m0:(0:Int)<=(m:Int):=by omega
 have m1:(m:Int) < (ps.length:Int):=by omega
 have m2:(m:Int) < (is.length:Int):=by omega
 have hql:=h.hl;have hqd:=h.hd;have hq0:=h.h0;have HAT:Hid (∀ w',Below w.heap.size w w'->Calls Tryz.prog 54 #[.agg #[.int .i64 t.kind,.string t.text,.slice t.lA t.leads.length t.lc,.slice t.kA t.kids.length t.kc],.slice D q.length d] w' (cJ w' (some s))):=fun w' hb=>by
  have h1:=fN t D d q w' ((h.be.rt.kid t htm).up (Nat.le_refl _) hb) ((h.hq.below hb).more hb.size) (by omega);rwa [h.hf] at h1
 obtain ⟨W,hW⟩:=nm (w.alloc (.cells #[.int .i64 0,.bool false,.string ⟨#[]⟩,.int .i64 0] 81));have HB:=bw hW;have HX:=bk hW;have HW:=hD hW;clear h htm hTs hBs hab hib hxm hx1 hx2 hW;obtain ⟨e0,e1,e2,e3⟩:=(HS.out.be.up HB.out).rt.c4 HS.out.ht rfl;go_enter Tryz.func91,Tryz.ntmps91;go_wp2_with (rw [HW.out]);clear HW;(with_reducible refine (HAT.out _ HB.out).mono ?_);rintro r0 w1 ⟨hb1,hq⟩;obtain rfl:r0=.returned (.tuple #[.agg #[.int .i64 s.kind,.string s.text,.slice s.lA s.leads.length s.lc,.slice s.kA s.kids.length s.kc],.bool true]):=hq;obtain ⟨W2,hW2⟩:=nm (w1.alloc (.cells #[.int .i64 s.kind,.string s.text,.slice s.lA s.leads.length s.lc,.slice s.kA s.kids.length s.kc] 99));obtain ⟨W3,hW3⟩:=nm (W2.alloc (.cells #[.int .i64 s.kind,.bool false,.string s.text,.int .i64 0] 81));have hy2:aK W2 w1.heap.size 99 #[.int .i64 s.kind,.string s.text,.slice s.lA s.leads.length s.lc,.slice s.kA s.kids.length s.kc]:=by rw [<- hW2];exact aK.new _ _ _
 have HG9:Hid (aK W3 w1.heap.size 99 #[.int .i64 s.kind,.string s.text,.slice s.lA s.leads.length s.lc,.slice s.kA s.kids.length s.kc]):=by rw [<- hW3];exact hy2.alloc _
 have HG11:=bk hW3;have hx2:aK W2 w.heap.size 81 #[.int .i64 0,.bool false,.string ⟨#[]⟩,.int .i64 0]:=by rw [<- hW2];exact (HX.out.below hb1 HX.out.lt).alloc _
 have HX:Hid (aK W3 w.heap.size 81 #[.int .i64 0,.bool false,.string ⟨#[]⟩,.int .i64 0]):=by rw [<- hW3];exact hx2.alloc _
 have hb2:Below w.heap.size w W2:=by rw [<- hW2];exact bK (aB HB.out hb1) _
 have HB:Hid (Below w.heap.size w W3):=by rw [<- hW3];exact bK hb2 _
 have HG9z:Hid (w.heap.size < w1.heap.size):=by
  have:=HX.out.lt;have:=hb1.size;have h3:=hx2.lt;have h4:W2.heap.size=w1.heap.size+1:=by rw [<- hW2];simp
  have h5:w.heap.size≠w1.heap.size:=fun e=>by rw [e] at hx2;have h6:W2.heap[w1.heap.size]?=_:=hx2;have h7:W2.heap[w1.heap.size]?=_:=hy2;rw [h6] at h7;injection h7 with h7;injection h7 with _ h7;exact absurd h7 (by decide)
  unfold Hid;omega
 have HGne:Hid (w.heap.size < W2.heap.size/\w1.heap.size < W2.heap.size):=⟨hx2.lt,hy2.lt⟩;have HW2:=hD hW2;have HW3:=hD hW3;obtain ⟨y0,y1,y2,y3⟩:=hy2.c4;obtain ⟨g0,g1,g2,g3⟩:=HG9.out.c4;obtain ⟨v0,v1,v2,v3⟩:=HG11.out.c4;obtain ⟨x0,x1,x2,x3⟩:=HX.out.c4;obtain ⟨q0,q1,q2,q3⟩:=HX.out.f4;clear hb1 hW2 hW3 hy2 hx2 hb2 e0 e1 e2 e3;go_wp2_with (first | rw [HW2.out] | rw [HW3.out]);clear HW2 HW3 y0 y1 y2 y3;have HZ:Hid (aO 0):=by unfold Hid aO;omega
 refine rR (aP HX.out _ _ _ _) Tryz.underlying81 rfl rfl rfl rfl (by kernel_rfl) ?_;refine ⟨s.kind,false,s.text,0,rfl,?_,?_,?_,aL HB.out (Nat.le_refl _) _ _ _ _⟩
 ·first | exact HK.out | (unfold aO;omega)
 ·first | exact HTX.out | exact Nat.zero_le _
 ·first | exact HZ.out | (unfold aO;omega)
theorem cR {w2:World} (h:Below w.heap.size w w2) {g:Nat} (hg:w.heap.size<=g) (i:Nat) (u:Value):Below w.heap.size w (w2.setCell ⟨g,i,none⟩ u):=
 ((aT.of_new h (fun _=>False)).setCell (p:=⟨g,i,none⟩) (.inr hg) u).below (Nat.le_refl _) (fun _ h=>h.elim)
theorem wM {is:List PW} (m:Nat) (t s:TX) (D:Option Addr) (d:Nat) (q:List Int) (w:World) (h:SA w pA ps iA is m t s D d q) (d1:(s.kind == 12)=false) (d2:(s.kind == 16)=true):Calls Tryz.prog 91 #[.slice pA ps.length pc,.slice iA is.length ic,.int .i64 (m:Int),.slice D q.length d] w (fT w):=by
 have hmp:=(List.getElem?_eq_some_iff.1 h.ht).1;have hn2:=h.be.n2;have hil:=h.be.len;have hil1:is.length<=ps.length:=by omega
 have hil2:ps.length<=is.length:=by omega
 clear hil;have htm:=List.mem_of_getElem? h.ht;have hTs:=fP q t s (h.be.rt.kid t htm) h.hf;have hBs:=gL q t s (h.be.bd t htm).1 h.hf;have HK:=hD hTs.kr;have HTX:=hD hBs.text;obtain ⟨ab,ao,rfl,hab,-⟩:=h.be.rt.at_ h.ht;obtain ⟨ib,io,xi,rfl,hib,-,-,hxm,hx1,hx2⟩:=h.be.ids h.ht;have HS:=hD h;have HXM:=hD hxm;have HX12:=hD (And.intro hx1 hx2);have m0:(0:Int)<=(m:Int):=by omega
 have m1:(m:Int) < (ps.length:Int):=by omega
 have m2:(m:Int) < (is.length:Int):=by omega
 have hql:=h.hl;have hqd:=h.hd;have hq0:=h.h0;have HAT:Hid (∀ w',Below w.heap.size w w'->Calls Tryz.prog 54 #[.agg #[.int .i64 t.kind,.string t.text,.slice t.lA t.leads.length t.lc,.slice t.kA t.kids.length t.kc],.slice D q.length d] w' (cJ w' (some s))):=fun w' hb=>by
  have h1:=fN t D d q w' ((h.be.rt.kid t htm).up (Nat.le_refl _) hb) ((h.hq.below hb).more hb.size) (by omega);rwa [h.hf] at h1
 obtain ⟨W,hW⟩:=nm (w.alloc (.cells #[.int .i64 0,.bool false,.string ⟨#[]⟩,.int .i64 0] 81));have HB:=bw hW;have HX:=bk hW;have HW:=hD hW;clear h htm hTs hBs hab hib hxm hx1 hx2 hW;obtain ⟨e0,e1,e2,e3⟩:=(HS.out.be.up HB.out).rt.c4 HS.out.ht rfl;go_enter Tryz.func91,Tryz.ntmps91;go_wp2_with (rw [HW.out]);clear HW;(with_reducible refine (HAT.out _ HB.out).mono ?_);rintro r0 w1 ⟨hb1,hq⟩;obtain rfl:r0=.returned (.tuple #[.agg #[.int .i64 s.kind,.string s.text,.slice s.lA s.leads.length s.lc,.slice s.kA s.kids.length s.kc],.bool true]):=hq;obtain ⟨W2,hW2⟩:=nm (w1.alloc (.cells #[.int .i64 s.kind,.string s.text,.slice s.lA s.leads.length s.lc,.slice s.kA s.kids.length s.kc] 99));obtain ⟨W3,hW3⟩:=nm (W2.alloc (.cells #[.int .i64 s.kind,.bool false,.string s.text,.int .i64 0] 81));have hy2:aK W2 w1.heap.size 99 #[.int .i64 s.kind,.string s.text,.slice s.lA s.leads.length s.lc,.slice s.kA s.kids.length s.kc]:=by rw [<- hW2];exact aK.new _ _ _
 have HG9:Hid (aK W3 w1.heap.size 99 #[.int .i64 s.kind,.string s.text,.slice s.lA s.leads.length s.lc,.slice s.kA s.kids.length s.kc]):=by rw [<- hW3];exact hy2.alloc _
 have HG11:=bk hW3;have hx2:aK W2 w.heap.size 81 #[.int .i64 0,.bool false,.string ⟨#[]⟩,.int .i64 0]:=by rw [<- hW2];exact (HX.out.below hb1 HX.out.lt).alloc _
 have HX:Hid (aK W3 w.heap.size 81 #[.int .i64 0,.bool false,.string ⟨#[]⟩,.int .i64 0]):=by rw [<- hW3];exact hx2.alloc _
 have hb2:Below w.heap.size w W2:=by rw [<- hW2];exact bK (aB HB.out hb1) _
 have HB:Hid (Below w.heap.size w W3):=by rw [<- hW3];exact bK hb2 _
 have HG9z:Hid (w.heap.size < w1.heap.size):=by
  have:=HX.out.lt;have:=hb1.size;have h3:=hx2.lt;have h4:W2.heap.size=w1.heap.size+1:=by rw [<- hW2];simp
  have h5:w.heap.size≠w1.heap.size:=fun e=>by rw [e] at hx2;have h6:W2.heap[w1.heap.size]?=_:=hx2;have h7:W2.heap[w1.heap.size]?=_:=hy2;rw [h6] at h7;injection h7 with h7;injection h7 with _ h7;exact absurd h7 (by decide)
  unfold Hid;omega
 have HGne:Hid (w.heap.size < W2.heap.size/\w1.heap.size < W2.heap.size):=⟨hx2.lt,hy2.lt⟩;have HW2:=hD hW2;have HW3:=hD hW3;obtain ⟨y0,y1,y2,y3⟩:=hy2.c4;obtain ⟨g0,g1,g2,g3⟩:=HG9.out.c4;obtain ⟨v0,v1,v2,v3⟩:=HG11.out.c4;obtain ⟨x0,x1,x2,x3⟩:=HX.out.c4;obtain ⟨q0,q1,q2,q3⟩:=HX.out.f4;clear hb1 hW2 hW3 hy2 hx2 hb2 e0 e1 e2 e3;go_wp2_with (first | rw [HW2.out] | rw [HW3.out]);clear HW2 HW3 y0 y1 y2 y3;(with_reducible refine (kY m s.text W3 (HS.out.be.up HB.out).rt hmp (by have:=HTX.out;omega) (by omega) (HS.out.be.up HB.out).kl).mono ?_);rintro r0 w4 ⟨zm,zd,b,rfl,hb4,hfb⟩;have HG9:=hD (HG9.out.below hb4 HG9.out.lt);have HG11:=hD (HG11.out.below hb4 HG11.out.lt);have HX:=hD (HX.out.below hb4 HX.out.lt);have HB:=hD (aB HB.out hb4);have HFB:=hD hfb;clear hb4 hfb g0 g1 g2 g3 v0 v1 v2 v3 x0 x1 x2 x3 q0 q1 q2 q3
 cases b
 ·have HZ:Hid (aO 0):=by unfold Hid aO;omega
  obtain ⟨v0,v1,v2,v3⟩:=HG11.out.c4;obtain ⟨x0,x1,x2,x3⟩:=HX.out.c4;obtain ⟨q0,q1,q2,q3⟩:=HX.out.f4;go_wp2_with fail;refine rR (aP HX.out _ _ _ _) Tryz.underlying81 rfl rfl rfl rfl (by kernel_rfl) ?_;refine ⟨s.kind,false,s.text,0,rfl,?_,?_,?_,aL HB.out (Nat.le_refl _) _ _ _ _⟩
  ·first | exact HK.out | (unfold aO;omega)
  ·first | exact HTX.out | exact Nat.zero_le _
  ·first | exact HZ.out | (unfold aO;omega)
 have HFB:Hid (∃ (mm dd:Nat) (t:TX),zm=mm/\zd=dd/\ps[mm]?=some t/\dd < t.kids.length):=(by first | exact HFB.out rfl | exact HFB.out trivial);obtain ⟨mm,dd,t2,rfl,rfl,ht2,hd2⟩:=HFB.out;have HDO:=hD (rK (pc:=pc) (ic:=ic) mm dd t2 w4 (HS.out.be.up HB.out) ht2 hd2);obtain ⟨g0,g1,g2,g3⟩:=HG9.out.c4;go_wp2_with fail;(with_reducible refine (HDO.out).mono ?_);rintro r0 w5 ⟨z,rfl,hz,hb5⟩;have HG9:=hD (HG9.out.below hb5 HG9.out.lt);have HG11:=hD (HG11.out.below hb5 HG11.out.lt);have HX:=hD (HX.out.below hb5 HX.out.lt);have HB:=hD (aB HB.out hb5);have HZ:=hD hz;clear hb5 hz g0 g1 g2 g3 HDO;obtain ⟨g0,g1,g2,g3⟩:=HG9.out.c4;obtain ⟨v0,v1,v2,v3⟩:=HG11.out.c4;obtain ⟨r0,r1,r2,r3⟩:=HG11.out.f4;have HDT:Hid (∀ w,Calls Tryz.prog 114 #[.string s.text] w (qF w)):=fun w=>pF s.text w (by have:=HTX.out;omega);obtain ⟨k1,hk1⟩:=nm s.kind;have HND:Hid (∀ f,aK (((w5.setCell ⟨W2.heap.size,2,none⟩ (.string ⟨#[]⟩)).setCell ⟨W2.heap.size,3,none⟩ (.int .i64 z)).setCell ⟨W2.heap.size,1,none⟩ (.bool f)) W2.heap.size 81 #[.int .i64 s.kind,.bool f,.string ⟨#[]⟩,.int .i64 z]/\aK (((w5.setCell ⟨W2.heap.size,2,none⟩ (.string ⟨#[]⟩)).setCell ⟨W2.heap.size,3,none⟩ (.int .i64 z)).setCell ⟨W2.heap.size,1,none⟩ (.bool f)) w.heap.size 81 #[.int .i64 0,.bool false,.string ⟨#[]⟩,.int .i64 0]/\Below w.heap.size w (((w5.setCell ⟨W2.heap.size,2,none⟩ (.string ⟨#[]⟩)).setCell ⟨W2.heap.size,3,none⟩ (.int .i64 z)).setCell ⟨W2.heap.size,1,none⟩ (.bool f))):=fun f=>by
  have hne:w.heap.size≠W2.heap.size:=by have:=HGne.out.1;omega
  have hle:w.heap.size<=W2.heap.size:=by have:=HGne.out.1;omega
  exact ⟨((HG11.out.set_ 2 _).set_ 3 _).set_ 1 _,((HX.out.far (p:=⟨W2.heap.size,2,none⟩) hne _).far (p:=⟨W2.heap.size,3,none⟩) hne _).far (p:=⟨W2.heap.size,1,none⟩) hne _,cR (cR (cR HB.out hle 2 _) hle 3 _) hle 1 _⟩
 have qm:((mm:Int) == (m:Int))=true\/((mm:Int) == (m:Int))=false:=by cases ((mm:Int) == (m:Int)) <;> simp
 clear hk1 k1;rcases qm with qm | qm
 ·go_wp2_with fail;(with_reducible refine (HDT.out _).mono ?_);rintro r0 w6 ⟨f,rfl,rfl⟩;obtain ⟨hG,hX,hB⟩:=HND.out f;obtain ⟨W9,hW9⟩:=nm (((w5.setCell ⟨W2.heap.size,2,none⟩ (.string ⟨#[]⟩)).setCell ⟨W2.heap.size,3,none⟩ (.int .i64 z)).setCell ⟨W2.heap.size,1,none⟩ (.bool f));rw [hW9] at hG hX hB;have HG11:=hD hG;have HX:=hD hX;have HB:=hD hB;have HW9:=hD hW9;clear hG hX hB hW9;obtain ⟨y0,y1,y2,y3⟩:=HG11.out.c4;obtain ⟨x0,x1,x2,x3⟩:=HX.out.c4;obtain ⟨q0,q1,q2,q3⟩:=HX.out.f4;go_wp2_with (rw [HW9.out]);refine rR (aP HX.out _ _ _ _) Tryz.underlying81 rfl rfl rfl rfl (by kernel_rfl) ?_;refine ⟨s.kind,f,⟨#[]⟩,z,rfl,?_,?_,?_,aL HB.out (Nat.le_refl _) _ _ _ _⟩
  ·first | exact HK.out | (unfold aO;omega)
  ·first | exact HTX.out | exact Nat.zero_le _
  ·first | exact HZ.out | (unfold aO;omega)
 ·obtain ⟨hG,hX,hB⟩:=HND.out false;obtain ⟨W9,hW9⟩:=nm (((w5.setCell ⟨W2.heap.size,2,none⟩ (.string ⟨#[]⟩)).setCell ⟨W2.heap.size,3,none⟩ (.int .i64 z)).setCell ⟨W2.heap.size,1,none⟩ (.bool false));rw [hW9] at hG hX hB;have HG11:=hD hG;have HX:=hD hX;have HB:=hD hB;have HW9:=hD hW9;clear hG hX hB hW9;obtain ⟨y0,y1,y2,y3⟩:=HG11.out.c4;obtain ⟨x0,x1,x2,x3⟩:=HX.out.c4;obtain ⟨q0,q1,q2,q3⟩:=HX.out.f4;go_wp2_with (rw [HW9.out]);refine rR (aP HX.out _ _ _ _) Tryz.underlying81 rfl rfl rfl rfl (by kernel_rfl) ?_;refine ⟨s.kind,false,⟨#[]⟩,z,rfl,?_,?_,?_,aL HB.out (Nat.le_refl _) _ _ _ _⟩
  ·first | exact HK.out | (unfold aO;omega)
  ·first | exact HTX.out | exact Nat.zero_le _
  ·first | exact HZ.out | (unfold aO;omega)
theorem uA {is:List PW} (m:Nat) (t s:TX) (D:Option Addr) (d:Nat) (q:List Int) (w:World) (h:SA w pA ps iA is m t s D d q) (d1:(s.kind == 12)=false) (d2:(s.kind == 16)=false) (d3:(s.kind == 9)=true):Calls Tryz.prog 91 #[.slice pA ps.length pc,.slice iA is.length ic,.int .i64 (m:Int),.slice D q.length d] w (fT w):=by
 have hmp:=(List.getElem?_eq_some_iff.1 h.ht).1;have hn2:=h.be.n2;have hil:=h.be.len;have hil1:is.length<=ps.length:=by omega
 have hil2:ps.length<=is.length:=by omega
 clear hil;have htm:=List.mem_of_getElem? h.ht;have hTs:=fP q t s (h.be.rt.kid t htm) h.hf;have hBs:=gL q t s (h.be.bd t htm).1 h.hf;have HK:=hD hTs.kr;have HTX:=hD hBs.text;obtain ⟨ab,ao,rfl,hab,-⟩:=h.be.rt.at_ h.ht;obtain ⟨ib,io,xi,rfl,hib,-,-,hxm,hx1,hx2⟩:=h.be.ids h.ht;have HS:=hD h;have HXM:=hD hxm;have HX12:=hD (And.intro hx1 hx2);have m0:(0:Int)<=(m:Int):=by omega
 have m1:(m:Int) < (ps.length:Int):=by omega
 have m2:(m:Int) < (is.length:Int):=by omega
 have hql:=h.hl;have hqd:=h.hd;have hq0:=h.h0;have HAT:Hid (∀ w',Below w.heap.size w w'->Calls Tryz.prog 54 #[.agg #[.int .i64 t.kind,.string t.text,.slice t.lA t.leads.length t.lc,.slice t.kA t.kids.length t.kc],.slice D q.length d] w' (cJ w' (some s))):=fun w' hb=>by
  have h1:=fN t D d q w' ((h.be.rt.kid t htm).up (Nat.le_refl _) hb) ((h.hq.below hb).more hb.size) (by omega);rwa [h.hf] at h1
 obtain ⟨W,hW⟩:=nm (w.alloc (.cells #[.int .i64 0,.bool false,.string ⟨#[]⟩,.int .i64 0] 81));have HB:=bw hW;have HX:=bk hW;have HW:=hD hW;clear h htm hTs hBs hab hib hxm hx1 hx2 hW;obtain ⟨e0,e1,e2,e3⟩:=(HS.out.be.up HB.out).rt.c4 HS.out.ht rfl;go_enter Tryz.func91,Tryz.ntmps91;go_wp2_with (rw [HW.out]);clear HW;(with_reducible refine (HAT.out _ HB.out).mono ?_);rintro r0 w1 ⟨hb1,hq⟩;obtain rfl:r0=.returned (.tuple #[.agg #[.int .i64 s.kind,.string s.text,.slice s.lA s.leads.length s.lc,.slice s.kA s.kids.length s.kc],.bool true]):=hq;obtain ⟨W2,hW2⟩:=nm (w1.alloc (.cells #[.int .i64 s.kind,.string s.text,.slice s.lA s.leads.length s.lc,.slice s.kA s.kids.length s.kc] 99));obtain ⟨W3,hW3⟩:=nm (W2.alloc (.cells #[.int .i64 s.kind,.bool false,.string s.text,.int .i64 0] 81));have hy2:aK W2 w1.heap.size 99 #[.int .i64 s.kind,.string s.text,.slice s.lA s.leads.length s.lc,.slice s.kA s.kids.length s.kc]:=by rw [<- hW2];exact aK.new _ _ _
 have HG9:Hid (aK W3 w1.heap.size 99 #[.int .i64 s.kind,.string s.text,.slice s.lA s.leads.length s.lc,.slice s.kA s.kids.length s.kc]):=by rw [<- hW3];exact hy2.alloc _
 have HG11:=bk hW3;have hx2:aK W2 w.heap.size 81 #[.int .i64 0,.bool false,.string ⟨#[]⟩,.int .i64 0]:=by rw [<- hW2];exact (HX.out.below hb1 HX.out.lt).alloc _
 have HX:Hid (aK W3 w.heap.size 81 #[.int .i64 0,.bool false,.string ⟨#[]⟩,.int .i64 0]):=by rw [<- hW3];exact hx2.alloc _
 have hb2:Below w.heap.size w W2:=by rw [<- hW2];exact bK (aB HB.out hb1) _
 have HB:Hid (Below w.heap.size w W3):=by rw [<- hW3];exact bK hb2 _
 have HG9z:Hid (w.heap.size < w1.heap.size):=by
  have:=HX.out.lt;have:=hb1.size;have h3:=hx2.lt;have h4:W2.heap.size=w1.heap.size+1:=by rw [<- hW2];simp
  have h5:w.heap.size≠w1.heap.size:=fun e=>by rw [e] at hx2;have h6:W2.heap[w1.heap.size]?=_:=hx2;have h7:W2.heap[w1.heap.size]?=_:=hy2;rw [h6] at h7;injection h7 with h7;injection h7 with _ h7;exact absurd h7 (by decide)
  unfold Hid;omega
 have HGne:Hid (w.heap.size < W2.heap.size/\w1.heap.size < W2.heap.size):=⟨hx2.lt,hy2.lt⟩;have HW2:=hD hW2;have HW3:=hD hW3;obtain ⟨y0,y1,y2,y3⟩:=hy2.c4;obtain ⟨g0,g1,g2,g3⟩:=HG9.out.c4;obtain ⟨v0,v1,v2,v3⟩:=HG11.out.c4;obtain ⟨x0,x1,x2,x3⟩:=HX.out.c4;obtain ⟨q0,q1,q2,q3⟩:=HX.out.f4;clear hb1 hW2 hW3 hy2 hx2 hb2 e0 e1 e2 e3;go_wp2_with (first | rw [HW2.out] | rw [HW3.out]);clear HW2 HW3 y0 y1 y2 y3;(with_reducible refine (kY m s.text W3 (HS.out.be.up HB.out).rt hmp (by have:=HTX.out;omega) (by omega) (HS.out.be.up HB.out).kl).mono ?_);rintro r0 w4 ⟨zm,zd,b,rfl,hb4,hfb⟩;have HG9:=hD (HG9.out.below hb4 HG9.out.lt);have HG11:=hD (HG11.out.below hb4 HG11.out.lt);have HX:=hD (HX.out.below hb4 HX.out.lt);have HB:=hD (aB HB.out hb4);have HFB:=hD hfb;clear hb4 hfb g0 g1 g2 g3 v0 v1 v2 v3 x0 x1 x2 x3 q0 q1 q2 q3
 cases b
 ·have HZ:Hid (aO 0):=by unfold Hid aO;omega
  obtain ⟨v0,v1,v2,v3⟩:=HG11.out.c4;obtain ⟨x0,x1,x2,x3⟩:=HX.out.c4;obtain ⟨q0,q1,q2,q3⟩:=HX.out.f4;go_wp2_with fail;refine rR (aP HX.out _ _ _ _) Tryz.underlying81 rfl rfl rfl rfl (by kernel_rfl) ?_;refine ⟨s.kind,false,s.text,0,rfl,?_,?_,?_,aL HB.out (Nat.le_refl _) _ _ _ _⟩
  ·first | exact HK.out | (unfold aO;omega)
  ·first | exact HTX.out | exact Nat.zero_le _
  ·first | exact HZ.out | (unfold aO;omega)
 have HFB:Hid (∃ (mm dd:Nat) (t:TX),zm=mm/\zd=dd/\ps[mm]?=some t/\dd < t.kids.length):=(by first | exact HFB.out rfl | exact HFB.out trivial);obtain ⟨mm,dd,t2,rfl,rfl,ht2,hd2⟩:=HFB.out;have HDO:=hD (rK (pc:=pc) (ic:=ic) mm dd t2 w4 (HS.out.be.up HB.out) ht2 hd2);obtain ⟨g0,g1,g2,g3⟩:=HG9.out.c4;go_wp2_with fail;(with_reducible refine (HDO.out).mono ?_);rintro r0 w5 ⟨z,rfl,hz,hb5⟩;have HG9:=hD (HG9.out.below hb5 HG9.out.lt);have HG11:=hD (HG11.out.below hb5 HG11.out.lt);have HX:=hD (HX.out.below hb5 HX.out.lt);have HB:=hD (aB HB.out hb5);have HZ:=hD hz;clear hb5 hz g0 g1 g2 g3 HDO;obtain ⟨g0,g1,g2,g3⟩:=HG9.out.c4;obtain ⟨v0,v1,v2,v3⟩:=HG11.out.c4;obtain ⟨r0,r1,r2,r3⟩:=HG11.out.f4;have HDT:Hid (∀ w,Calls Tryz.prog 114 #[.string s.text] w (qF w)):=fun w=>pF s.text w (by have:=HTX.out;omega);obtain ⟨k1,hk1⟩:=nm s.kind;have HND:Hid (∀ f,aK (((w5.setCell ⟨W2.heap.size,2,none⟩ (.string ⟨#[]⟩)).setCell ⟨W2.heap.size,3,none⟩ (.int .i64 z)).setCell ⟨W2.heap.size,1,none⟩ (.bool f)) W2.heap.size 81 #[.int .i64 s.kind,.bool f,.string ⟨#[]⟩,.int .i64 z]/\aK (((w5.setCell ⟨W2.heap.size,2,none⟩ (.string ⟨#[]⟩)).setCell ⟨W2.heap.size,3,none⟩ (.int .i64 z)).setCell ⟨W2.heap.size,1,none⟩ (.bool f)) w.heap.size 81 #[.int .i64 0,.bool false,.string ⟨#[]⟩,.int .i64 0]/\Below w.heap.size w (((w5.setCell ⟨W2.heap.size,2,none⟩ (.string ⟨#[]⟩)).setCell ⟨W2.heap.size,3,none⟩ (.int .i64 z)).setCell ⟨W2.heap.size,1,none⟩ (.bool f))):=fun f=>by
  have hne:w.heap.size≠W2.heap.size:=by have:=HGne.out.1;omega
  have hle:w.heap.size<=W2.heap.size:=by have:=HGne.out.1;omega
  exact ⟨((HG11.out.set_ 2 _).set_ 3 _).set_ 1 _,((HX.out.far (p:=⟨W2.heap.size,2,none⟩) hne _).far (p:=⟨W2.heap.size,3,none⟩) hne _).far (p:=⟨W2.heap.size,1,none⟩) hne _,cR (cR (cR HB.out hle 2 _) hle 3 _) hle 1 _⟩
 have qm:((mm:Int) == (m:Int))=true\/((mm:Int) == (m:Int))=false:=by cases ((mm:Int) == (m:Int)) <;> simp
 clear hk1 k1;rcases qm with qm | qm
 ·go_wp2_with fail;(with_reducible refine (HDT.out _).mono ?_);rintro r0 w6 ⟨f,rfl,rfl⟩;obtain ⟨hG,hX,hB⟩:=HND.out f;obtain ⟨W9,hW9⟩:=nm (((w5.setCell ⟨W2.heap.size,2,none⟩ (.string ⟨#[]⟩)).setCell ⟨W2.heap.size,3,none⟩ (.int .i64 z)).setCell ⟨W2.heap.size,1,none⟩ (.bool f));rw [hW9] at hG hX hB;have HG11:=hD hG;have HX:=hD hX;have HB:=hD hB;have HW9:=hD hW9;clear hG hX hB hW9;obtain ⟨y0,y1,y2,y3⟩:=HG11.out.c4;obtain ⟨x0,x1,x2,x3⟩:=HX.out.c4;obtain ⟨q0,q1,q2,q3⟩:=HX.out.f4;go_wp2_with (rw [HW9.out]);refine rR (aP HX.out _ _ _ _) Tryz.underlying81 rfl rfl rfl rfl (by kernel_rfl) ?_;refine ⟨s.kind,f,⟨#[]⟩,z,rfl,?_,?_,?_,aL HB.out (Nat.le_refl _) _ _ _ _⟩
  ·first | exact HK.out | (unfold aO;omega)
  ·first | exact HTX.out | exact Nat.zero_le _
  ·first | exact HZ.out | (unfold aO;omega)
 ·obtain ⟨hG,hX,hB⟩:=HND.out false;obtain ⟨W9,hW9⟩:=nm (((w5.setCell ⟨W2.heap.size,2,none⟩ (.string ⟨#[]⟩)).setCell ⟨W2.heap.size,3,none⟩ (.int .i64 z)).setCell ⟨W2.heap.size,1,none⟩ (.bool false));rw [hW9] at hG hX hB;have HG11:=hD hG;have HX:=hD hX;have HB:=hD hB;have HW9:=hD hW9;clear hG hX hB hW9;obtain ⟨y0,y1,y2,y3⟩:=HG11.out.c4;obtain ⟨x0,x1,x2,x3⟩:=HX.out.c4;obtain ⟨q0,q1,q2,q3⟩:=HX.out.f4;go_wp2_with (rw [HW9.out]);refine rR (aP HX.out _ _ _ _) Tryz.underlying81 rfl rfl rfl rfl (by kernel_rfl) ?_;refine ⟨s.kind,false,⟨#[]⟩,z,rfl,?_,?_,?_,aL HB.out (Nat.le_refl _) _ _ _ _⟩
  ·first | exact HK.out | (unfold aO;omega)
  ·first | exact HTX.out | exact Nat.zero_le _
  ·first | exact HZ.out | (unfold aO;omega)
theorem wP {db o:Nat} {q':List Int} {i:Int} (h:aG w B 1 (some ⟨db,o,none⟩) q.length (q.map (Value.int .i64))) (hq:q=i::q') (hd:q.length<=d):aG w B 1 (if d=1 then some ⟨db,o,none⟩ else some ⟨db,o+1,none⟩) q'.length (q'.map (Value.int .i64)):=by
 refine ⟨by simp,fun h0=>?_⟩;subst hq;have hd1:d≠1:=by simp at hd;omega
 rw [if_neg hd1];obtain ⟨ad,e,hlt,hc⟩:=h.2 (by simp);injection e with e;subst e;refine ⟨_,rfl,hlt,fun j u hu=>?_⟩;have h1:=hc (j+1) u (by simpa using hu);rw [Addr.add_lit] at h1 ⊢;rwa [show o+1+j=o+(j+1) by omega]
theorem zJ {is:List PW} (m:Nat) (t s:TX) (D:Option Addr) (d:Nat) (q:List Int) (w:World) (h:SA w pA ps iA is m t s D d q) (d1:(s.kind == 12)=true):Calls Tryz.prog 91 #[.slice pA ps.length pc,.slice iA is.length ic,.int .i64 (m:Int),.slice D q.length d] w (fT w):=by
 have hmp:=(List.getElem?_eq_some_iff.1 h.ht).1;have hn2:=h.be.n2;have hil:=h.be.len;have hil1:is.length<=ps.length:=by omega
 have hil2:ps.length<=is.length:=by omega
 clear hil;have htm:=List.mem_of_getElem? h.ht;have hTs:=fP q t s (h.be.rt.kid t htm) h.hf;have hBs:=gL q t s (h.be.bd t htm).1 h.hf;have HK:=hD hTs.kr;have HTX:=hD hBs.text;obtain ⟨ab,ao,rfl,hab,-⟩:=h.be.rt.at_ h.ht;obtain ⟨ib,io,xi,rfl,hib,-,-,hxm,hx1,hx2⟩:=h.be.ids h.ht;have HS:=hD h;have HXM:=hD hxm;have HX12:=hD (And.intro hx1 hx2);have m0:(0:Int)<=(m:Int):=by omega
 have m1:(m:Int) < (ps.length:Int):=by omega
 have m2:(m:Int) < (is.length:Int):=by omega
 have hql:=h.hl;have hqd:=h.hd;have hq0:=h.h0;have HAT:Hid (∀ w',Below w.heap.size w w'->Calls Tryz.prog 54 #[.agg #[.int .i64 t.kind,.string t.text,.slice t.lA t.leads.length t.lc,.slice t.kA t.kids.length t.kc],.slice D q.length d] w' (cJ w' (some s))):=fun w' hb=>by
  have h1:=fN t D d q w' ((h.be.rt.kid t htm).up (Nat.le_refl _) hb) ((h.hq.below hb).more hb.size) (by omega);rwa [h.hf] at h1
 obtain ⟨W,hW⟩:=nm (w.alloc (.cells #[.int .i64 0,.bool false,.string ⟨#[]⟩,.int .i64 0] 81));have HB:=bw hW;have HX:=bk hW;have HW:=hD hW;clear h htm hTs hBs hab hib hxm hx1 hx2 hW;obtain ⟨e0,e1,e2,e3⟩:=(HS.out.be.up HB.out).rt.c4 HS.out.ht rfl;go_enter Tryz.func91,Tryz.ntmps91;go_wp2_with (rw [HW.out]);clear HW;(with_reducible refine (HAT.out _ HB.out).mono ?_);rintro r0 w1 ⟨hb1,hq⟩;obtain rfl:r0=.returned (.tuple #[.agg #[.int .i64 s.kind,.string s.text,.slice s.lA s.leads.length s.lc,.slice s.kA s.kids.length s.kc],.bool true]):=hq;obtain ⟨W2,hW2⟩:=nm (w1.alloc (.cells #[.int .i64 s.kind,.string s.text,.slice s.lA s.leads.length s.lc,.slice s.kA s.kids.length s.kc] 99));obtain ⟨W3,hW3⟩:=nm (W2.alloc (.cells #[.int .i64 s.kind,.bool false,.string s.text,.int .i64 0] 81));have hy2:aK W2 w1.heap.size 99 #[.int .i64 s.kind,.string s.text,.slice s.lA s.leads.length s.lc,.slice s.kA s.kids.length s.kc]:=by rw [<- hW2];exact aK.new _ _ _
 have HG9:Hid (aK W3 w1.heap.size 99 #[.int .i64 s.kind,.string s.text,.slice s.lA s.leads.length s.lc,.slice s.kA s.kids.length s.kc]):=by rw [<- hW3];exact hy2.alloc _
 have HG11:=bk hW3;have hx2:aK W2 w.heap.size 81 #[.int .i64 0,.bool false,.string ⟨#[]⟩,.int .i64 0]:=by rw [<- hW2];exact (HX.out.below hb1 HX.out.lt).alloc _
 have HX:Hid (aK W3 w.heap.size 81 #[.int .i64 0,.bool false,.string ⟨#[]⟩,.int .i64 0]):=by rw [<- hW3];exact hx2.alloc _
 have hb2:Below w.heap.size w W2:=by rw [<- hW2];exact bK (aB HB.out hb1) _
 have HB:Hid (Below w.heap.size w W3):=by rw [<- hW3];exact bK hb2 _
 have HG9z:Hid (w.heap.size < w1.heap.size):=by
  have:=HX.out.lt;have:=hb1.size;have h3:=hx2.lt;have h4:W2.heap.size=w1.heap.size+1:=by rw [<- hW2];simp
  have h5:w.heap.size≠w1.heap.size:=fun e=>by rw [e] at hx2;have h6:W2.heap[w1.heap.size]?=_:=hx2;have h7:W2.heap[w1.heap.size]?=_:=hy2;rw [h6] at h7;injection h7 with h7;injection h7 with _ h7;exact absurd h7 (by decide)
  unfold Hid;omega
 have HGne:Hid (w.heap.size < W2.heap.size/\w1.heap.size < W2.heap.size):=⟨hx2.lt,hy2.lt⟩;have HW2:=hD hW2;have HW3:=hD hW3;obtain ⟨y0,y1,y2,y3⟩:=hy2.c4;obtain ⟨g0,g1,g2,g3⟩:=HG9.out.c4;obtain ⟨v0,v1,v2,v3⟩:=HG11.out.c4;obtain ⟨x0,x1,x2,x3⟩:=HX.out.c4;obtain ⟨q0,q1,q2,q3⟩:=HX.out.f4;clear hb1 hW2 hW3 hy2 hx2 hb2 e0 e1 e2 e3;go_wp2_with (first | rw [HW2.out] | rw [HW3.out]);clear HW2 HW3 y0 y1 y2 y3;obtain ⟨i0,q',k0,hqe,hk0,hf0⟩:=Aw HS.out.hf hq0;have hqn:q.length<=q'.length+1:=by rw [hqe];simp
 have hqn2:q'.length+1<=q.length:=by rw [hqe];simp
 have htm:=List.mem_of_getElem? HS.out.ht;have hkl:=HS.out.be.kl t htm;have hi0:=(List.getElem?_eq_some_iff.1 hk0).1;obtain ⟨db,do_,u0,rfl,hdb,hu0,p0⟩:=(HS.out.hq.below HB.out).at1 hq0;obtain rfl:u0=.int .i64 (i0:Int):=by
  have h9:(q.map (Value.int .i64))[0]?=some (.int .i64 (i0:Int)):=by rw [hqe];rfl
  rw [h9] at hu0;injection hu0 with hu0;exact hu0.symm
 rw [Nat.add_zero] at p0;obtain ⟨e0,e1,e2,e3⟩:=(HS.out.be.up HB.out).rt.c4 HS.out.ht rfl;obtain ⟨kb,ko,hA,hkb,f0,f1,f2,f3⟩:=((HS.out.be.up HB.out).rt.kid t htm).at_ hk0;rw [hA] at e3;have i00:(0:Int)<=(i0:Int):=by omega
 have i01:(i0:Int) < (t.kids.length:Int):=by omega
 have q00:(0:Int) < (q.length:Int):=by omega
 have q01:(1:Int)<=(q.length:Int):=by omega
 have q02:(1:Int)<=(d:Int):=by omega
 have q03:(q.length:Int)<=(d:Int):=by omega
 have HFC:=hD (And.intro hqe (And.intro hk0 hf0));clear hqe hk0 hf0 hA hu0;have fe3:=aH e3;have ff0:=aH f0;have ff1:=aH f1;have ff2:=aH f2;have ff3:=aH f3;have fp0:=aH p0;have fg1:=aH g1;refine aY 18 [([0,1,2,3,4,5,6,7,8,9,10,11,12,13],14)] [15,16,17,18] (by kernel_rfl) (by kernel_rfl) ?_;refine aI ?_;simp only [sN]
 repeat (go_big_quiet_step (fail))
 refine wpQuiet_nil ?_;obtain ⟨P1,hP1⟩:=nm ((if d=1 then some (⟨db,do_,none⟩:Addr) else some ⟨db,do_+1,none⟩));have HR1:Hid (aG W3 w.heap.size 1 P1 q'.length (q'.map (Value.int .i64))):=by rw [<- hP1];exact wP (HS.out.hq.below HB.out) HFC.out.1 hqd
 obtain ⟨d1',hd1'⟩:∃ y,d - 1=y:=⟨_,rfl⟩;have hq1:q.length - 1=q'.length:=by omega
 have hd2':q'.length<=d1':=by omega
 rw [hP1,hd1',hq1];have htk:=(HS.out.be.rt.kid t htm).sub k0 (List.mem_of_getElem? HFC.out.2.1);have HBC:=hD (xQ k0 P1 d1' q' s.text W3.drew ((htk.low (HB.out.trans (aN (Below.refl _ _) 1))).more (Nat.le_trans HB.out.size (Nat.le_refl _))) (((HS.out.be.bd t htm).1).sub k0 (List.mem_of_getElem? HFC.out.2.1)) ((HR1.out.below (aN (Below.refl _ _) 1)).more HB.out.size) hd2' (by omega) (by have h1:=gR k0;have h2:=lZ HFC.out.2.1;have h3:=(HS.out.be.bd t htm).2.1;omega));unfold TX.val at HBC;clear hP1 hd1' hq1 hd2' htk;refine aC rfl 111 _ _ rfl Tryz.func111 rfl (by kernel_rfl) #[.agg #[.int .i64 k0.kind,.string k0.text,.slice k0.lA k0.leads.length k0.lc,.slice k0.kA k0.kids.length k0.kc],.slice P1 q'.length d1',.string s.text] (by simp [Act.eval]) (HBC.out) ?_;rintro e w4 ⟨D2,d2',pp,b,rfl,hr2,hl2,hd2,hb4,hfb⟩;have HB4:=hD (aB (cC (Below.refl W3.heap.size W3)) hb4);have HR2:=hD hr2;have HFB:=hD hfb;refine ⟨_,rfl,⟨⟨_,HB4.out⟩,rfl⟩,?_⟩;simp only [sP];refine bD ?_
 try simp only [sN]
 repeat (go_big_quiet_step (fail))
 refine wpQuiet_nil ?_;have HG9:=hD (HG9.out.below HB4.out HG9.out.lt);have HG11:=hD (HG11.out.below HB4.out HG11.out.lt);have HX:=hD (HX.out.below HB4.out HX.out.lt);have HB:=hD (aB HB.out HB4.out);have p4:=(HB4.out.cell (p:=⟨db,do_,none⟩) (World.block_lt_of_cell? W3 _ p0)).trans p0;clear hb4 hr2 hfb g0 g1 g2 g3 v0 v1 v2 v3 x0 x1 x2 x3 q0 q1 q2 q3 e0 e1 e2 e3 f0 f1 f2 f3 p0 fe3 ff0 ff1 ff2 ff3 fp0 fg1 HB4 HBC HR1;go_wp2_with fail;refine NoPanic.normal ?_
 cases b
 ·have HZ:Hid (aO 0):=by unfold Hid aO;omega
  obtain ⟨v0,v1,v2,v3⟩:=HG11.out.c4;obtain ⟨x0,x1,x2,x3⟩:=HX.out.c4;obtain ⟨q0,q1,q2,q3⟩:=HX.out.f4;go_wp2_with fail;refine rR (aP HX.out _ _ _ _) Tryz.underlying81 rfl rfl rfl rfl (by kernel_rfl) ?_;refine ⟨s.kind,false,s.text,0,rfl,?_,?_,?_,aL HB.out (Nat.le_refl _) _ _ _ _⟩
  ·first | exact HK.out | (unfold aO;omega)
  ·first | exact HTX.out | exact Nat.zero_le _
  ·first | exact HZ.out | (unfold aO;omega)
 have HFB:Hid (∃ s,k0.find pp=some s):=(by first | exact HFB.out rfl | exact HFB.out trivial);obtain ⟨s2,hs2⟩:=HFB.out;have HF2:Hid (t.find ((i0:Int)::pp)=some s2):=by rw [mK HFC.out.2.1];exact hs2
 obtain ⟨W5,hW5⟩:=nm (w4.alloc (.cells #[.int .i64 (i0:Int)] 3));have HB5:=bw hW5;have HO5:Hid (W5.ownsRow w4.heap.size 3 1 (.slice (some ⟨w4.heap.size,0,none⟩) 1 1) 1 [.int .i64 (i0:Int)]):=by rw [<- hW5];exact ⟨rfl,.inr ⟨w4.heap.size,1,#[.int .i64 (i0:Int)],rfl,Nat.le_refl _,aK.new w4 3 _,Nat.le_refl _,by unfold maxLen;decide,rfl,rfl⟩⟩
 have HSR:Hid (Src Tryz.prog 1 36 (.slice D2 pp.length d2') pp.length (pp.map (Value.int .i64)) W5):=cQ W5 Tryz.underlying36 d2' (HR2.out.below HB5.out) (oV pp);have HW5:=hD hW5;obtain ⟨i0',hi0',hz0,hz1,hz2⟩:=dF oX;have hml:1+pp.length<=maxLen:=by unfold maxLen;omega
 have hmb:(1+pp.length)*8<=140737488355328:=by omega
 clear hW5 hs2;go_wp2_with (first | rw [HW5.out] | (at_builtin;refine aF W5 rfl _ _ _ _ rfl w4.heap.size 3 i0' _ 1 8 Tryz.underlying36 hi0' hz0 hz1 hz2 rfl (by decide) (.slice (some ⟨w4.heap.size,0,none⟩) 1 1) 1 [.int .i64 (i0:Int)] (by simp [Act.eval]) HO5.out (.slice D2 pp.length d2') pp.length (pp.map (Value.int .i64)) (by simp [Act.eval]) HSR.out hml hmb HB5.out.size ?_));intro v9 w7 hown7 hg7;obtain ⟨A7,c7,rfl,-,-⟩:=aS hown7;have HB7:=hD (HB5.out.trans (hg7.below HB5.out.size (fun g e=>aU HO5.out g e)));obtain ⟨p7,hp7⟩:∃ y:List Int,(i0:Int)::pp=y:=⟨_,rfl⟩;have hp7l:1+pp.length=p7.length:=by rw [<- hp7,List.length_cons];omega
 have HR7:Hid (aG w7 w7.heap.size 1 A7 p7.length (p7.map (Value.int .i64))):=by
  have:=aG.of_own hown7;rw [<- hp7l,<- hp7];exact this
 have HF7:Hid (t.find p7=some s2):=by rw [<- hp7];exact HF2.out
 have hp7m:p7.length<=100001:=by omega
 rw [hp7l];have HG11:=hD (HG11.out.below HB7.out HG11.out.lt);have HX:=hD (HX.out.below HB7.out HX.out.lt);have HB:=hD (aB HB.out HB7.out);have HEw:=hD (HS.out.be.low HB.out);have HNC:=hD (((HEw.out.more HB.out.size).up (cC (Below.refl _ _))).num HS.out.ht HF7.out (D:=A7) (d:=c7) ((HR7.out.below (cC (Below.refl _ _))).more (Nat.le_refl _)) (by omega));obtain ⟨e0,e1,e2,e3⟩:=HEw.out.rt.c4 HS.out.ht rfl;obtain ⟨ib',io',xi',hI,hib,-,c0,hxm,hx1,hx2⟩:=HEw.out.ids HS.out.ht;injection hI with hI;injection hI with hI1 hI2;subst hI1 hI2;obtain ⟨ab',ao',hA2,hab,-⟩:=HEw.out.rt.at_ HS.out.ht;injection hA2 with hA2;injection hA2 with hA3 hA4;subst hA3 hA4;clear hown7 hg7 hp7 hp7l p4 HR2 HSR HO5 HW5;have hga:ab≠W2.heap.size:=by have:=HGne.out.1;omega
 have hgi:ib≠W2.heap.size:=by have:=HGne.out.1;omega
 go_wp2_with fail;have fe0:=bA (M:=fun i=>i=W2.heap.size) e0 hga;have fe1:=bA (M:=fun i=>i=W2.heap.size) e1 hga;have fe2:=bA (M:=fun i=>i=W2.heap.size) e2 hga;have fe3:=bA (M:=fun i=>i=W2.heap.size) e3 hga;have fc0:=bA (M:=fun i=>i=W2.heap.size) c0 hgi;refine bM (fun i=>i=W2.heap.size) 13 (.one [0,1,2,3,4,5,6,7,8,12] 9 (.one [10,11] 13 (.last []))) (by kernel_rfl) (by kernel_rfl) ?_;refine aD ?_;simp only [sN]
 repeat (go_big_quiet_step (fail))
 refine wpQuiet_nil ?_;refine aC rfl 89 _ _ rfl Tryz.func89 rfl (by kernel_rfl) #[.agg #[.int .i64 t.kind,.string t.text,.slice t.lA t.leads.length t.lc,.slice t.kA t.kids.length t.kc],.slice A7 p7.length c7] (by simp [Act.eval]) (HNC.out) ?_;rintro e w8 ⟨k,rfl,hk,hb8⟩;have HB8:=hD (aB (cC (Below.refl w7.heap.size w7)) hb8);have hkl:k < xi'.l.length:=by omega
 obtain ⟨b9,o9,z9,hA9,hb9,g9,hz9⟩:=HEw.out.id hxm hkl;have hgb:b9≠W2.heap.size:=by have:=HGne.out.1;omega
 have fz9:=bA (M:=fun i=>i=W2.heap.size) g9 hgb;have k1:(k:Int) < (xi'.l.length:Int):=by omega
 have k0':(0:Int)<=(k:Int):=by omega
 refine ⟨_,rfl,⟨⟨_,aT.of_new HB8.out _⟩,rfl⟩,?_⟩;simp only [sP];rw [hA9];refine aD ?_;simp only [sN]
 repeat (go_big_quiet_step (fail))
 refine wpQuiet_nil ?_;have HG11:=hD (HG11.out.below HB8.out HG11.out.lt);have HX:=hD (HX.out.below HB8.out HX.out.lt);have HB:=hD (aB HB.out HB8.out);have HZ:=hD hz9;obtain ⟨v0,v1,v2,v3⟩:=HG11.out.c4;obtain ⟨r0,r1,r2,r3⟩:=HG11.out.f4;refine aA rfl ?_;go_wp2_with fail;obtain ⟨W8,hW8⟩:=nm (w8.setCell ⟨W2.heap.size,2,none⟩ (.string ⟨#[]⟩));have hne:w.heap.size≠W2.heap.size:=by have:=HGne.out.1;omega
 have hle:w.heap.size<=W2.heap.size:=by have:=HGne.out.1;omega
 have HC8:Hid (aT w7 W8 (fun i=>i=W2.heap.size)):=by rw [<- hW8];exact (aT.of_new HB8.out (fun i=>i=W2.heap.size)).setCell (p:=⟨W2.heap.size,2,none⟩) (.inl rfl) _
 have HG11:Hid (aK W8 W2.heap.size 81 #[.int .i64 s.kind,.bool false,.string ⟨#[]⟩,.int .i64 0]):=by rw [<- hW8];exact HG11.out.set_ 2 _
 have HX:Hid (aK W8 w.heap.size 81 #[.int .i64 0,.bool false,.string ⟨#[]⟩,.int .i64 0]):=by rw [<- hW8];exact HX.out.far (p:=⟨W2.heap.size,2,none⟩) hne _
 have HB:Hid (Below w.heap.size w W8):=by rw [<- hW8];exact cR HB.out hle 2 _
 rw [hW8];clear hW8 v0 v1 v2 v3 r0 r1 r2 r3;refine ⟨⟨⟨_,HC8.out⟩,rfl⟩,?_⟩;refine aM ?_;simp only [sN]
 repeat (go_big_quiet_step (fail))
 refine wpQuiet_nil ?_;clear fe0 fe1 fe2 fe3 fc0 fz9 e0 e1 e2 e3 c0 g9;obtain ⟨v0,v1,v2,v3⟩:=HG11.out.c4;obtain ⟨r0,r1,r2,r3⟩:=HG11.out.f4;obtain ⟨W9,hW9⟩:=nm (W8.setCell ⟨W2.heap.size,3,none⟩ (.int .i64 z9));have HG9':Hid (aK W9 W2.heap.size 81 #[.int .i64 s.kind,.bool false,.string ⟨#[]⟩,.int .i64 z9]):=by rw [<- hW9];exact HG11.out.set_ 3 _
 have HX:Hid (aK W9 w.heap.size 81 #[.int .i64 0,.bool false,.string ⟨#[]⟩,.int .i64 0]):=by rw [<- hW9];exact HX.out.far (p:=⟨W2.heap.size,3,none⟩) hne _
 have HB:Hid (Below w.heap.size w W9):=by rw [<- hW9];exact cR HB.out hle 3 _
 have HW9:=hD hW9;clear hW9;go_wp2_with (rw [HW9.out]);refine NoPanic.normal ?_;clear v0 v1 v2 v3 r0 r1 r2 r3;have HG11:=HG9';obtain ⟨v0,v1,v2,v3⟩:=HG11.out.c4;obtain ⟨x0,x1,x2,x3⟩:=HX.out.c4;obtain ⟨q0,q1,q2,q3⟩:=HX.out.f4;go_wp2_with fail;refine rR (aP HX.out _ _ _ _) Tryz.underlying81 rfl rfl rfl rfl (by kernel_rfl) ?_;refine ⟨s.kind,false,⟨#[]⟩,z9,rfl,?_,?_,?_,aL HB.out (Nat.le_refl _) _ _ _ _⟩
 ·first | exact HK.out | (unfold aO;omega)
 ·first | exact HTX.out | exact Nat.zero_le _
 ·first | exact HZ.out | (unfold aO;omega)
theorem mZ:∀ (p:List Int) (t s:TX),t.find p=some s->∀ x∈p,0<=x
 | [],t,s,_,x,hx=>(nomatch hx)
 | y::p,t,s,h,x,hx=>by
  rw [TX.find] at h
  split at h
  ·cases h
  ·rename_i hy
   cases hk:t.kids[y.toNat]? with
   | none=>rw [hk] at h;cases h
   | some k=>
    rw [hk] at h;rcases List.mem_cons.1 hx with rfl | hx
    ·omega
    ·exact mZ p k s h x hx
theorem oG {n:Nat} {A:Option Addr} (h:aG w B 1 A q.length (q.map (Value.int .i64))) (hn:n<=q.length):aG w B 1 A n ((q.take n).map (Value.int .i64)):=by
 refine ⟨by rw [List.length_map,List.length_take];omega,fun h0=>?_⟩;obtain ⟨ad,e,hlt,hc⟩:=h.2 (by omega);refine ⟨ad,e,hlt,fun j u hu=>hc j u ?_⟩;rw [List.getElem?_map] at hu ⊢;rw [List.getElem?_take] at hu
 split at hu
 ·exact hu
 ·simp at hu
theorem sX {c:TX} (n:Nat) (w:World) (h:Tr w w.heap.size t) (hq:aG w w.heap.size 1 D q.length (q.map (Value.int .i64))) (hn:n<=q.length) (hl:q.length<=200000) (hf:t.find (q.take n)=some c):Calls Tryz.prog 54 #[.agg #[.int .i64 t.kind,.string t.text,.slice t.lA t.leads.length t.lc,.slice t.kA t.kids.length t.kc],.slice D n d] w (cJ w (some c)):=by
 have hlt:(q.take n).length=n:=by rw [List.length_take];omega
 have h1:=fN t D d (q.take n) w h (by rw [hlt];exact oG hq hn) (by rw [hlt];omega);rwa [hlt,hf] at h1
theorem sL (h:aG w B 1 D q.length (q.map (Value.int .i64))) (h0:0 < q.length) (hf:t.find q=some s):∃ (b o:Nat) (i:Nat),D=some ⟨b,o,none⟩/\b < B/\w.cell? ⟨b,o+(q.length - 1),none⟩=some (.int .i64 (i:Int))/\q[q.length - 1]?=some (i:Int):=by
 obtain ⟨b,o,u,e,hb,hu,hc⟩:=h.at1 (show q.length - 1 < q.length by omega);rw [List.getElem?_map] at hu
 cases h1:q[q.length - 1]? with
 | none=>rw [h1] at hu;cases hu
 | some z=>
  rw [h1] at hu;injection hu with hu;subst hu;have hz:=mZ q t s hf z (List.mem_of_getElem? h1);exact ⟨b,o,z.toNat,e,hb,by rw [show ((z.toNat:Nat):Int)=z by omega];exact hc,by rw [show ((z.toNat:Nat):Int)=z by omega]⟩
theorem zK {is:List PW} (m:Nat) (t s:TX) (D:Option Addr) (d:Nat) (q:List Int) (w:World) (h:SA w pA ps iA is m t s D d q) (d1:(s.kind == 12)=false) (d2:(s.kind == 16)=false) (d3:(s.kind == 9)=false) (d4:(s.kind == 17)=true):Calls Tryz.prog 91 #[.slice pA ps.length pc,.slice iA is.length ic,.int .i64 (m:Int),.slice D q.length d] w (fT w):=by
 have hmp:=(List.getElem?_eq_some_iff.1 h.ht).1;have hn2:=h.be.n2;have hil:=h.be.len;have hil1:is.length<=ps.length:=by omega
 have hil2:ps.length<=is.length:=by omega
 clear hil;have htm:=List.mem_of_getElem? h.ht;have hTs:=fP q t s (h.be.rt.kid t htm) h.hf;have hBs:=gL q t s (h.be.bd t htm).1 h.hf;have HK:=hD hTs.kr;have HTX:=hD hBs.text;obtain ⟨ab,ao,rfl,hab,-⟩:=h.be.rt.at_ h.ht;obtain ⟨ib,io,xi,rfl,hib,-,-,hxm,hx1,hx2⟩:=h.be.ids h.ht;have HS:=hD h;have HXM:=hD hxm;have HX12:=hD (And.intro hx1 hx2);have m0:(0:Int)<=(m:Int):=by omega
 have m1:(m:Int) < (ps.length:Int):=by omega
 have m2:(m:Int) < (is.length:Int):=by omega
 have hql:=h.hl;have hqd:=h.hd;have hq0:=h.h0;have HAT:Hid (∀ w',Below w.heap.size w w'->Calls Tryz.prog 54 #[.agg #[.int .i64 t.kind,.string t.text,.slice t.lA t.leads.length t.lc,.slice t.kA t.kids.length t.kc],.slice D q.length d] w' (cJ w' (some s))):=fun w' hb=>by
  have h1:=fN t D d q w' ((h.be.rt.kid t htm).up (Nat.le_refl _) hb) ((h.hq.below hb).more hb.size) (by omega);rwa [h.hf] at h1
 obtain ⟨W,hW⟩:=nm (w.alloc (.cells #[.int .i64 0,.bool false,.string ⟨#[]⟩,.int .i64 0] 81));have HB:=bw hW;have HX:=bk hW;have HW:=hD hW;clear h htm hTs hBs hab hib hxm hx1 hx2 hW;obtain ⟨e0,e1,e2,e3⟩:=(HS.out.be.up HB.out).rt.c4 HS.out.ht rfl;go_enter Tryz.func91,Tryz.ntmps91;go_wp2_with (rw [HW.out]);clear HW;(with_reducible refine (HAT.out _ HB.out).mono ?_);rintro r0 w1 ⟨hb1,hq⟩;obtain rfl:r0=.returned (.tuple #[.agg #[.int .i64 s.kind,.string s.text,.slice s.lA s.leads.length s.lc,.slice s.kA s.kids.length s.kc],.bool true]):=hq;obtain ⟨W2,hW2⟩:=nm (w1.alloc (.cells #[.int .i64 s.kind,.string s.text,.slice s.lA s.leads.length s.lc,.slice s.kA s.kids.length s.kc] 99));obtain ⟨W3,hW3⟩:=nm (W2.alloc (.cells #[.int .i64 s.kind,.bool false,.string s.text,.int .i64 0] 81));have hy2:aK W2 w1.heap.size 99 #[.int .i64 s.kind,.string s.text,.slice s.lA s.leads.length s.lc,.slice s.kA s.kids.length s.kc]:=by rw [<- hW2];exact aK.new _ _ _
 have HG9:Hid (aK W3 w1.heap.size 99 #[.int .i64 s.kind,.string s.text,.slice s.lA s.leads.length s.lc,.slice s.kA s.kids.length s.kc]):=by rw [<- hW3];exact hy2.alloc _
 have HG11:=bk hW3;have hx2:aK W2 w.heap.size 81 #[.int .i64 0,.bool false,.string ⟨#[]⟩,.int .i64 0]:=by rw [<- hW2];exact (HX.out.below hb1 HX.out.lt).alloc _
 have HX:Hid (aK W3 w.heap.size 81 #[.int .i64 0,.bool false,.string ⟨#[]⟩,.int .i64 0]):=by rw [<- hW3];exact hx2.alloc _
 have hb2:Below w.heap.size w W2:=by rw [<- hW2];exact bK (aB HB.out hb1) _
 have HB:Hid (Below w.heap.size w W3):=by rw [<- hW3];exact bK hb2 _
 have HG9z:Hid (w.heap.size < w1.heap.size):=by
  have:=HX.out.lt;have:=hb1.size;have h3:=hx2.lt;have h4:W2.heap.size=w1.heap.size+1:=by rw [<- hW2];simp
  have h5:w.heap.size≠w1.heap.size:=fun e=>by rw [e] at hx2;have h6:W2.heap[w1.heap.size]?=_:=hx2;have h7:W2.heap[w1.heap.size]?=_:=hy2;rw [h6] at h7;injection h7 with h7;injection h7 with _ h7;exact absurd h7 (by decide)
  unfold Hid;omega
 have HGne:Hid (w.heap.size < W2.heap.size/\w1.heap.size < W2.heap.size):=⟨hx2.lt,hy2.lt⟩;have HW2:=hD hW2;have HW3:=hD hW3;obtain ⟨y0,y1,y2,y3⟩:=hy2.c4;obtain ⟨g0,g1,g2,g3⟩:=HG9.out.c4;obtain ⟨v0,v1,v2,v3⟩:=HG11.out.c4;obtain ⟨x0,x1,x2,x3⟩:=HX.out.c4;obtain ⟨q0,q1,q2,q3⟩:=HX.out.f4;clear hb1 hW2 hW3 hy2 hx2 hb2 e0 e1 e2 e3;go_wp2_with (first | rw [HW2.out] | rw [HW3.out]);clear HW2 HW3 y0 y1 y2 y3;have htm:=List.mem_of_getElem? HS.out.ht;obtain ⟨s1q,hs1⟩:=gW q t s HS.out.hf (q.length - 1);have HTX1:=hD (gL _ t s1q (HS.out.be.bd t htm).1 hs1).text;obtain ⟨db,do_,li,hDq,hdb,p0,hli⟩:=sL (HS.out.hq.below HB.out) hq0 HS.out.hf;have HLI:=hD hli;have HAT2:Hid (∀ w',Below W3.heap.size W3 w'->Calls Tryz.prog 54 #[.agg #[.int .i64 t.kind,.string t.text,.slice t.lA t.leads.length t.lc,.slice t.kA t.kids.length t.kc],.slice D (q.length - 1) d] w' (cJ w' (some s1q))):=fun w' hb=>sX (q.length - 1) w' ((HS.out.be.rt.kid t htm).up (Nat.le_refl _) (aB HB.out hb)) ((HS.out.hq.below (aB HB.out hb)).more (aB HB.out hb).size) (by omega) (by omega) hs1;subst hDq;obtain ⟨e0,e1,e2,e3⟩:=(HS.out.be.up HB.out).rt.c4 HS.out.ht rfl;have q00:(0:Int)<=(q.length:Int) - 1:=by omega
 have q01:(q.length:Int) - 1<=(d:Int):=by omega
 have q02:(q.length:Int) - 1 < (q.length:Int):=by omega
 have q03:((q.length:Int) - 1).toNat=q.length - 1:=by omega
 have fe0:=aH e0;have fe1:=aH e1;have fe2:=aH e2;have fe3:=aH e3;clear hs1 hli;go_upto_region 15 with fail;go_cut [18,19] (fun x10 x11 wq=>∃ g,x10=.pointer (some ⟨g,0,none⟩)/\Hid (aK wq g 99 #[.int .i64 s1q.kind,.string s1q.text,.slice s1q.lA s1q.leads.length s1q.lc,.slice s1q.kA s1q.kids.length s1q.kc])/\Hid (Below W3.heap.size W3 wq))
 case first=>
  refine eA 14 (.two [0,1,2,3,4,5,6,7,8] 9 (.one [10,11,12] 13 (.one [] 14 (.last []))) 13 (.one [] 9 (.one [10,11,12] 14 (.last [])))) (by kernel_rfl) (by kernel_rfl) ?_;refine bF ?_;simp only [sN]
  repeat (go_big_quiet_step (fail))
  refine wpQuiet_nil ?_;refine ⟨?_,?_⟩
  ·refine aC rfl 54 _ _ rfl Tryz.func54 rfl (by kernel_rfl) #[.agg #[.int .i64 t.kind,.string t.text,.slice t.lA t.leads.length t.lc,.slice t.kA t.kids.length t.kc],.slice (some ⟨db,do_,none⟩) (q.length - 1) d] (by simp [Act.eval]) (HAT2.out _ (cC (Below.refl _ _))) ?_;rintro e w3 ⟨hb3,hq⟩;obtain rfl:e=.returned (.tuple #[.agg #[.int .i64 s1q.kind,.string s1q.text,.slice s1q.lA s1q.leads.length s1q.lc,.slice s1q.kA s1q.kids.length s1q.kc],.bool true]):=hq;have HB3:=hD (aB (cC (Below.refl W3.heap.size W3)) hb3);clear hb3;refine ⟨_,rfl,⟨⟨_,HB3.out⟩,rfl⟩,?_⟩;simp only [sP];refine aD ?_;simp only [sN]
   repeat (go_big_quiet_step (fail))
   refine wpQuiet_nil ?_;obtain ⟨w4,hw4⟩:=nm (w3.alloc (.cells #[.int .i64 0,.string ⟨#[]⟩,.slice none 0 0,.slice none 0 0] 99));have HB4:Hid (Below W3.heap.size W3 w4):=by subst hw4;exact bK HB3.out _
   have HX4:=bk hw4;refine aE rfl (by simp [go_sem];exact ⟨rfl,hw4⟩) ⟨⟨_,HB4.out⟩,rfl⟩ ?_;simp only [sP];refine aD ?_;simp only [sN]
   repeat (go_big_quiet_step (fail))
   refine wpQuiet_nil ?_;have HZ3:=hD HB3.out.size;refine aA rfl ?_;obtain ⟨y0,y1,y2,y3⟩:=HX4.out.c4;obtain ⟨r0,r1,r2,r3⟩:=HX4.out.f4;go_wp2_with fail;obtain ⟨W9,hW9⟩:=nm (((((w4.setCell ⟨w3.heap.size,0,none⟩ (.int .i64 s1q.kind)).setCell ⟨w3.heap.size,1,none⟩ (.string s1q.text)).setCell ⟨w3.heap.size,2,none⟩ (.slice s1q.lA s1q.leads.length s1q.lc)).setCell ⟨w3.heap.size,3,none⟩ (.slice s1q.kA s1q.kids.length s1q.kc)));have HG9:Hid (aK W9 (w3.heap.size) 99 #[.int .i64 s1q.kind,.string s1q.text,.slice s1q.lA s1q.leads.length s1q.lc,.slice s1q.kA s1q.kids.length s1q.kc]):=by subst hW9;exact aP HX4.out _ _ _ _
   have HB9:Hid (Below W3.heap.size W3 W9):=by subst hW9;exact aL HB4.out HZ3.out _ _ _ _
   rw [hW9];clear hW9;refine ⟨⟨⟨_,HB9.out⟩,rfl⟩,?_⟩;refine aM ?_;simp only [sN]
   repeat (go_big_quiet_step (fail))
   refine wpQuiet_nil ?_;go_wp2_with fail;refine NoPanic.normal ?_;go_wp2_with fail;go_meet;exact ⟨_,rfl,HG9,HB9⟩
  ·obtain ⟨w3,hw3⟩:=nm (W3.drew.alloc (.cells #[.int .i64 0,.string ⟨#[]⟩,.slice none 0 0,.slice none 0 0] 99));have HB3:Hid (Below W3.heap.size W3 w3):=by subst hw3;exact bK (cC (Below.refl _ _)) _
   have HX3:Hid (aK w3 W3.heap.size 99 #[.int .i64 0,.string ⟨#[]⟩,.slice none 0 0,.slice none 0 0]):=by subst hw3;exact aK.new _ _ _
   refine aE rfl (by simp [go_sem];exact ⟨rfl,hw3⟩) ⟨⟨_,HB3.out⟩,rfl⟩ ?_;simp only [sP];refine aD ?_;simp only [sN]
   repeat (go_big_quiet_step (fail))
   refine wpQuiet_nil ?_;refine aC rfl 54 _ _ rfl Tryz.func54 rfl (by kernel_rfl) #[.agg #[.int .i64 t.kind,.string t.text,.slice t.lA t.leads.length t.lc,.slice t.kA t.kids.length t.kc],.slice (some ⟨db,do_,none⟩) (q.length - 1) d] (by simp [Act.eval]) (HAT2.out _ HB3.out) ?_;rintro e w4 ⟨hb4,hq⟩;obtain rfl:e=.returned (.tuple #[.agg #[.int .i64 s1q.kind,.string s1q.text,.slice s1q.lA s1q.leads.length s1q.lc,.slice s1q.kA s1q.kids.length s1q.kc],.bool true]):=hq;have HB4:=hD (aB HB3.out hb4);have HX4:=hD (HX3.out.below hb4 HX3.out.lt);have HZ3:Hid (W3.heap.size<=W3.heap.size):=Nat.le_refl _;clear hb4;refine ⟨_,rfl,⟨⟨_,HB4.out⟩,rfl⟩,?_⟩;simp only [sP];refine aD ?_;simp only [sN]
   repeat (go_big_quiet_step (fail))
   refine wpQuiet_nil ?_;refine aA rfl ?_;obtain ⟨y0,y1,y2,y3⟩:=HX4.out.c4;obtain ⟨r0,r1,r2,r3⟩:=HX4.out.f4;go_wp2_with fail;obtain ⟨W9,hW9⟩:=nm (((((w4.setCell ⟨W3.heap.size,0,none⟩ (.int .i64 s1q.kind)).setCell ⟨W3.heap.size,1,none⟩ (.string s1q.text)).setCell ⟨W3.heap.size,2,none⟩ (.slice s1q.lA s1q.leads.length s1q.lc)).setCell ⟨W3.heap.size,3,none⟩ (.slice s1q.kA s1q.kids.length s1q.kc)));have HG9:Hid (aK W9 (W3.heap.size) 99 #[.int .i64 s1q.kind,.string s1q.text,.slice s1q.lA s1q.leads.length s1q.lc,.slice s1q.kA s1q.kids.length s1q.kc]):=by subst hW9;exact aP HX4.out _ _ _ _
   have HB9:Hid (Below W3.heap.size W3 W9):=by subst hW9;exact aL HB4.out HZ3.out _ _ _ _
   rw [hW9];clear hW9;refine ⟨⟨⟨_,HB9.out⟩,rfl⟩,?_⟩;refine aM ?_;simp only [sN]
   repeat (go_big_quiet_step (fail))
   refine wpQuiet_nil ?_;go_wp2_with fail;refine NoPanic.normal ?_;go_wp2_with fail;go_meet;exact ⟨_,rfl,HG9,HB9⟩
 case rest=>
  obtain ⟨g,rfl,HG,HBq⟩:=hcut;have p4:=(HBq.out.cell (p:=⟨db,do_+(q.length - 1),none⟩) (World.block_lt_of_cell? W3 _ p0)).trans p0;have HG11:=hD (HG11.out.below HBq.out HG11.out.lt);have HX:=hD (HX.out.below HBq.out HX.out.lt);have HB:=hD (aB HB.out HBq.out);clear g0 g1 g2 g3 v0 v1 v2 v3 x0 x1 x2 x3 q0 q1 q2 q3 e0 e1 e2 e3 fe0 fe1 fe2 fe3 p0 HAT2 HBq;obtain ⟨g0,g1,g2,g3⟩:=HG.out.c4;go_wp2_with fail;(with_reducible refine (kY m s1q.text wc (HS.out.be.up HB.out).rt hmp (by have:=HTX1.out;omega) (by omega) (HS.out.be.up HB.out).kl).mono ?_);rintro r0 w4 ⟨zm,zd,b,rfl,hb4,hfb⟩;have HG11:=hD (HG11.out.below hb4 HG11.out.lt);have HX:=hD (HX.out.below hb4 HX.out.lt);have HB:=hD (aB HB.out hb4);have HFB:=hD hfb;have HZ0:Hid (aO 0):=by unfold Hid aO;omega
  clear hb4 hfb g0 g1 g2 g3 p4
  cases b
  ·have HZ:=HZ0;obtain ⟨v0,v1,v2,v3⟩:=HG11.out.c4;obtain ⟨x0,x1,x2,x3⟩:=HX.out.c4;obtain ⟨q0,q1,q2,q3⟩:=HX.out.f4;go_wp2_with fail;refine rR (aP HX.out _ _ _ _) Tryz.underlying81 rfl rfl rfl rfl (by kernel_rfl) ?_;refine ⟨s.kind,false,s.text,0,rfl,?_,?_,?_,aL HB.out (Nat.le_refl _) _ _ _ _⟩
   ·first | exact HK.out | (unfold aO;omega)
   ·first | exact HTX.out | exact Nat.zero_le _
   ·first | exact HZ.out | (unfold aO;omega)
  have HFB:Hid (∃ (mm dd:Nat) (t:TX),zm=mm/\zd=dd/\ps[mm]?=some t/\dd < t.kids.length):=(by first | exact HFB.out rfl | exact HFB.out trivial);obtain ⟨mm,dd,t2,rfl,rfl,ht2,hd2⟩:=HFB.out;have hmm:=(List.getElem?_eq_some_iff.1 ht2).1;have ht2m:=List.mem_of_getElem? ht2;have hkl2:=HS.out.be.kl t2 ht2m;obtain ⟨k2,hk2⟩:∃ k,t2.kids[dd]?=some k:=⟨_,List.getElem?_eq_getElem hd2⟩;have hkk:k2.kids.length<=1000000:=by have h1:=gR k2;have h2:=lZ hk2;have h3:=(HS.out.be.bd t2 ht2m).2.1;omega
  have HEw:=hD (HS.out.be.low HB.out);obtain ⟨e0,e1,e2,e3⟩:=HEw.out.rt.c4 ht2 rfl;obtain ⟨kb,ko,hA,hkb,f0,f1,f2,f3⟩:=(HEw.out.rt.kid t2 ht2m).at_ hk2;have e3':=e3;rw [hA] at e3;have n0:(0:Int)<=(mm:Int):=by omega
  have n1:(mm:Int) < (ps.length:Int):=by omega
  have n2:(mm:Int) < (is.length:Int):=by omega
  have n3:(0:Int)<=(dd:Int):=by omega
  have n4:(dd:Int) < (t2.kids.length:Int):=by omega
  by_cases hlt:(li:Int) < (k2.kids.length:Int) - 2
  case neg=>
   have d7:decide ((li:Int) < (k2.kids.length:Int) - 2)=false:=decide_eq_false hlt;have HZ:=HZ0;obtain ⟨v0,v1,v2,v3⟩:=HG11.out.c4;obtain ⟨x0,x1,x2,x3⟩:=HX.out.c4;obtain ⟨q0,q1,q2,q3⟩:=HX.out.f4;go_wp2_with fail;refine rR (aP HX.out _ _ _ _) Tryz.underlying81 rfl rfl rfl rfl (by kernel_rfl) ?_;refine ⟨s.kind,false,s.text,0,rfl,?_,?_,?_,aL HB.out (Nat.le_refl _) _ _ _ _⟩
   ·first | exact HK.out | (unfold aO;omega)
   ·first | exact HTX.out | exact Nat.zero_le _
   ·first | exact HZ.out | (unfold aO;omega)
  have d7:decide ((li:Int) < (k2.kids.length:Int) - 2)=true:=decide_eq_true hlt;obtain ⟨s3,hs3⟩:=pE (t:=k2) (i:=li) (by omega);have hf3:t2.find [(dd:Int),(li:Int)]=some s3:=by rw [mK hk2];exact hs3
  obtain ⟨ib',io',xj,hI,hib,-,c0,hxm,hx1,hx2⟩:=HEw.out.ids ht2;injection hI with hI;injection hI with hI1 hI2;subst hI1 hI2;obtain ⟨w6,hw6⟩:=nm (w4.drew.alloc (.cells #[.int .i64 (dd:Int),.int .i64 (li:Int)] 3));have HB6:Hid (Below w4.heap.size w4 w6):=by rw [<- hw6];exact bK (cC (Below.refl _ _)) _
  have HR6:Hid (aG w6 w6.heap.size 1 (some ⟨w4.heap.size,0,none⟩) 2 [.int .i64 (dd:Int),.int .i64 (li:Int)]):=by rw [<- hw6];exact eD (n:=2) (size:=1) (xs:=[.int .i64 (dd:Int),.int .i64 (li:Int)]) (aK.new w4.drew 3 _) rfl
  have HNC:=hD (((HEw.out.more HB.out.size).up HB6.out).num ht2 hf3 (D:=some ⟨w4.heap.size,0,none⟩) (d:=2) HR6.out (by simp));go_wp2_with fail;rw [hA] at HNC;have fe0:=aH e0;have fe1:=aH e1;have fe2:=aH e2;have fe3:=aH e3;have fc0:=aH c0;refine aY 11 [([0,1,2,3,4,5,6,7,8,9],10),([],11)] [] (by kernel_rfl) (by kernel_rfl) ?_;refine aI ?_;simp only [sN]
  repeat (go_big_quiet_step (fail))
  refine wpQuiet_nil ?_;refine aE rfl (by simp [go_sem];exact ⟨rfl,hw6⟩) ⟨⟨_,HB6.out⟩,rfl⟩ ?_;simp only [sP];refine aI ?_
  try simp only [sN]
  repeat (go_big_quiet_step (fail))
  refine wpQuiet_nil ?_;refine aC rfl 89 _ _ rfl Tryz.func89 rfl (by kernel_rfl) #[.agg #[.int .i64 t2.kind,.string t2.text,.slice t2.lA t2.leads.length t2.lc,.slice (some ⟨kb,ko,none⟩) t2.kids.length t2.kc],.slice (some ⟨w4.heap.size,0,none⟩) 2 2] (by simp [Act.eval]) (HNC.out) ?_;rintro e w7 ⟨k,rfl,hk,hb7⟩;have HB7:=hD (aB HB6.out hb7);have hkl:k < xj.l.length:=by omega
  obtain ⟨b9,o9,z9,hA9,hb9,g9,hz9⟩:=(HEw.out.low (HB7.out.mono HB.out.size)).id hxm hkl;have k1:(k:Int) < (xj.l.length:Int):=by omega
  have k0:(0:Int)<=(k:Int):=by omega
  refine ⟨_,rfl,⟨⟨_,HB7.out⟩,rfl⟩,?_⟩;simp only [sP];refine bD ?_;refine wpQuiet_nil ?_;rw [hA9];have HG11:=hD (HG11.out.below HB7.out HG11.out.lt);have HX:=hD (HX.out.below HB7.out HX.out.lt);have HB:=hD (aB HB.out HB7.out);have HZ:=hD hz9;clear fe0 fe1 fe2 fe3 fc0 e0 e1 e2 e3 e3' f0 f1 f2 f3 c0;obtain ⟨v0,v1,v2,v3⟩:=HG11.out.c4;obtain ⟨r0,r1,r2,r3⟩:=HG11.out.f4;obtain ⟨W9,hW9⟩:=nm (w7.setCell ⟨W2.heap.size,3,none⟩ (.int .i64 z9));have hne:w.heap.size≠W2.heap.size:=by have:=HGne.out.1;omega
  have hle:w.heap.size<=W2.heap.size:=by have:=HGne.out.1;omega
  have HG9':Hid (aK W9 W2.heap.size 81 #[.int .i64 s.kind,.bool false,.string s.text,.int .i64 z9]):=by rw [<- hW9];exact HG11.out.set_ 3 _
  have HX:Hid (aK W9 w.heap.size 81 #[.int .i64 0,.bool false,.string ⟨#[]⟩,.int .i64 0]):=by rw [<- hW9];exact HX.out.far (p:=⟨W2.heap.size,3,none⟩) hne _
  have HB:Hid (Below w.heap.size w W9):=by rw [<- hW9];exact cR HB.out hle 3 _
  have HW9:=hD hW9;clear hW9;go_wp2_with (rw [HW9.out]);refine NoPanic.normal ?_;clear v0 v1 v2 v3 r0 r1 r2 r3 g9;have HG11:=HG9';obtain ⟨v0,v1,v2,v3⟩:=HG11.out.c4;obtain ⟨x0,x1,x2,x3⟩:=HX.out.c4;obtain ⟨q0,q1,q2,q3⟩:=HX.out.f4;go_wp2_with fail;refine rR (aP HX.out _ _ _ _) Tryz.underlying81 rfl rfl rfl rfl (by kernel_rfl) ?_;refine ⟨s.kind,false,s.text,z9,rfl,?_,?_,?_,aL HB.out (Nat.le_refl _) _ _ _ _⟩
  ·first | exact HK.out | (unfold aO;omega)
  ·first | exact HTX.out | exact Nat.zero_le _
  ·first | exact HZ.out | (unfold aO;omega)
theorem uB {is:List PW} (m:Nat) (t s:TX) (D:Option Addr) (d:Nat) (q:List Int) (w:World) (h:SA w pA ps iA is m t s D d q):Calls Tryz.prog 91 #[.slice pA ps.length pc,.slice iA is.length ic,.int .i64 (m:Int),.slice D q.length d] w (fT w):=by
 by_cases k1:s.kind=12
 ·exact zJ m t s D d q w h (by simpa using k1)
 by_cases k2:s.kind=16
 ·exact wM m t s D d q w h (by simpa using k1) (by simpa using k2)
 by_cases k3:s.kind=9
 ·exact uA m t s D d q w h (by simpa using k1) (by simpa using k2) (by simpa using k3)
 by_cases k4:s.kind=17
 ·exact zK m t s D d q w h (by simpa using k1) (by simpa using k2) (by simpa using k3) (by simpa using k4)
 exact wK m t s D d q w h (by simpa using k1) (by simpa using k2) (by simpa using k3) (by simpa using k4)
end
end Go.Proofs.YtkgpoimmniojjaaGreat
