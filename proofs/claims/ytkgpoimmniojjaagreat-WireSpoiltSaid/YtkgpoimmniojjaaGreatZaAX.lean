/- No condition. -/
import Derived.Test.YtkgpoimmniojjaaGreatZaAM
import Derived.Test.YtkgpoimmniojjaaGreatZaAW
import Derived.Test.YtkgpoimmniojjaaGreatZaAD
namespace Go.Proofs.YtkgpoimmniojjaaGreat
set_option linter.unusedVariables false
set_option linter.unusedSimpArgs false
set_option maxRecDepth 100000
set_option maxHeartbeats 16000000
section
open Go.RowKit
variable {n p i B q c:Nat} {bs:List Nat} {w:World} {t k:TX} {A:Option Addr}
theorem tG (a b:Int):wrap64 (wrap64 a+wrap64 b)=wrap64 (a+b):=by
 unfold wrap64;omega
theorem Dh (a b:Int):(if a < b then b else a)=max a b:=by
 split <;> omega
def cX (t:TX) (i:Nat):Nat:=T.sizes ((t.kids.take i).map TX.plain)
theorem tV (t:TX):cX t 0=0:=by unfold cX;simp [T.sizes]
theorem cD (h:t.kids[i]?=some k):cX t (i+1)=cX t i+k.plain.size:=by
 unfold cX;rw [List.take_add_one,h];simp only [Option.toList,List.map_append,List.map_cons,List.map_nil];rw [T.sizes_append,T.sizes,T.sizes];omega
theorem cO (t:TX) (i:Nat) (h:t.kids.length<=i):t.plain.size=1+cX t i:=by
 unfold cX;rw [List.take_of_length_le h,TX.plain_eq,T.size]
def CE (t:TX) (i:Nat):Int:=T.dWs ((t.kids.take i).map TX.plain)
theorem BH (t:TX):CE t 0=0:=by unfold CE;simp [T.dWs]
theorem BI (h:t.kids[i]?=some k):CE t (i+1)=max (CE t i) k.plain.dW:=by
 unfold CE;rw [List.take_add_one,h];simp only [Option.toList,List.map_append,List.map_cons,List.map_nil];have:=T.dWs_pos ((t.kids.take i).map TX.plain);rw [T.dWs_append,T.dWs,T.dWs];omega
theorem CD (t:TX) (i:Nat) (h:t.kids.length<=i):t.plain.dW=wrap64 (CE t i+1):=by
 unfold CE;rw [List.take_of_length_le h,TX.plain_eq,T.dW]
theorem Tr.c4 {ab ao:Nat} (h:Tr w B t) (hi:t.kids[i]?=some k) (hA:t.kA=some ⟨ab,ao,none⟩):w.cell? ⟨ab,ao+i*4,none⟩=some (.int .i64 k.kind)/\w.cell? ⟨ab,ao+i*4+1,none⟩=some (.string k.text)/\w.cell? ⟨ab,ao+i*4+2,none⟩=some (.slice k.lA k.leads.length k.lc)/\w.cell? ⟨ab,ao+i*4+3,none⟩=some (.slice k.kA k.kids.length k.kc):=by
 obtain ⟨ab',ao',e,-,h'⟩:=h.at_ hi;rw [hA] at e;injection e with e;injection e with e1 e2;subst e1 e2;exact h'
def DP (w:World) (v:Value) (e:Ending) (w':World):Prop:=e=.returned v/\Below w.heap.size w w'
def nQ (w:World) (t:TX) (f:FuncId):Prop:=Calls Tryz.prog f #[t.val] w (DP w (.int .i64 t.plain.dW))
def pM (w:World) (t:TX) (f:FuncId):Prop:=Calls Tryz.prog f #[t.val] w (DP w (.int .i64 (wrap64 (t.plain.size:Int))))
theorem qU (t:TX):∀ w:World,Tr w w.heap.size t->pM w t 52:=by
 induction t using TX.ind with
 | h t ih=>
 intro w h;unfold pM TX.val;have HIH:=hD ih;have H:=hD h;have hkb:=h.kb;obtain ⟨kAq,hkA⟩:=nm t.kA;have HKA:=hD hkA;rw [hkA];obtain ⟨W,hW⟩:=nm (w.alloc (.cells #[.int .i64 t.kind,.string t.text,.slice t.lA t.leads.length t.lc,.slice kAq t.kids.length t.kc] 99));have HBW:=bw hW;have HBX:Hid (aK W w.heap.size 99 #[.int .i64 t.kind,.string t.text,.slice t.lA t.leads.length t.lc,.slice kAq t.kids.length t.kc]):=by subst hW;exact aK.new w 99 _
 have HZW:Hid (w.heap.size < W.heap.size):=HBX.out.lt;have c3:=HBX.out.cell 3;simp at c3;clear ih h hkA;go_enter Tryz.func52,Tryz.ntmps52;go_wp2_with fail;have HW:=hD hW;clear hW;go_loopw [3,4] (fun s i wr=>∃ j:Nat,j<=t.kids.length/\i=.int .i64 (j:Int)/\s=.int .i64 (wrap64 ((1+cX t j:Nat):Int))/\Hid (Below W.heap.size W wr)) (fun _ i _=>t.kids.length - (intOf i).toNat)
 case atStart=>exact ⟨0,by omega,rfl,by rw [tV];exact congrArg _ (IntWalk.wrap64_in _ (by simp)).symm,Below.refl _ _⟩
 case round=>
  obtain ⟨j,hj,rfl,rfl,HB⟩:=hrel;have HBB:=hD (HBW.out.trans (HB.out.mono HBW.out.size));have c3':=(HBX.out.below HB.out HZW.out).cell 3;simp at c3';by_cases hlt:j < t.kids.length
  ·obtain ⟨k,hk⟩:∃ k,t.kids[j]?=some k:=⟨_,List.getElem?_eq_getElem hlt⟩;obtain ⟨ab,ao,hA,hab,e0,e1,e2,e3⟩:=(H.out.low HBB.out).at_ hk;obtain rfl:kAq=some ⟨ab,ao,none⟩:=HKA.out.symm.trans hA;have HS:=hD (cD hk);have HBK:=HB;have HC:=hD (HIH.out k (List.mem_of_getElem? hk) wr ((H.out.sub k (List.mem_of_getElem? hk)).up (Nat.le_refl _) HBB.out));unfold pM TX.val at HC;clear hA hk;go_wp2_with fail;refine (HC.out).mono ?_;rintro e w1 ⟨rfl,hb1⟩;have HB1:=hD (HBK.out.trans (hb1.mono HBK.out.size));clear hb1;go_wp2_with fail;go_roundw
   case rel=>exact ⟨j+1,by omega,by go_num,by rw [HS.out];exact congrArg _ ((tG _ _).trans (congrArg _ (by omega))),HB1⟩
   case measure=>simp [intOf];omega
  ·have HE:Hid (wrap64 ((1+cX t j:Nat):Int)=wrap64 (t.plain.size:Int)):=by unfold Hid;rw [cO t j (by omega)]
   go_wp2_with fail;go_ret;exact ⟨by rw [HE.out];rfl,HBB.out⟩
theorem oH (t:TX):∀ w:World,Tr w w.heap.size t->nQ w t 94:=by
 induction t using TX.ind with
 | h t ih=>
 intro w h;unfold nQ TX.val;have HIH:=hD ih;have H:=hD h;have hkb:=h.kb;obtain ⟨kAq,hkA⟩:=nm t.kA;have HKA:=hD hkA;rw [hkA];obtain ⟨W,hW⟩:=nm (w.alloc (.cells #[.int .i64 t.kind,.string t.text,.slice t.lA t.leads.length t.lc,.slice kAq t.kids.length t.kc] 99));have HBW:=bw hW;have HBX:Hid (aK W w.heap.size 99 #[.int .i64 t.kind,.string t.text,.slice t.lA t.leads.length t.lc,.slice kAq t.kids.length t.kc]):=by subst hW;exact aK.new w 99 _
 have HZW:Hid (w.heap.size < W.heap.size):=HBX.out.lt;have c3:=HBX.out.cell 3;simp at c3;clear ih h hkA;go_enter Tryz.func94,Tryz.ntmps94;go_wp2_with fail;have HW:=hD hW;clear hW;go_loopw [3,4] (fun s i wr=>∃ j:Nat,j<=t.kids.length/\i=.int .i64 (j:Int)/\s=.int .i64 (CE t j)/\Hid (Below W.heap.size W wr)) (fun _ i _=>t.kids.length - (intOf i).toNat)
 case atStart=>exact ⟨0,by omega,rfl,by rw [BH],Below.refl _ _⟩
 case round=>
  obtain ⟨j,hj,rfl,rfl,HB⟩:=hrel;have HBB:=hD (HBW.out.trans (HB.out.mono HBW.out.size));have c3':=(HBX.out.below HB.out HZW.out).cell 3;simp at c3';by_cases hlt:j < t.kids.length
  ·obtain ⟨k,hk⟩:∃ k,t.kids[j]?=some k:=⟨_,List.getElem?_eq_getElem hlt⟩;obtain ⟨ab,ao,hA,hab,e0,e1,e2,e3⟩:=(H.out.low HBB.out).at_ hk;obtain rfl:kAq=some ⟨ab,ao,none⟩:=HKA.out.symm.trans hA;have HS:=hD (BI hk);have HBK:=HB;have HC:=hD (HIH.out k (List.mem_of_getElem? hk) wr ((H.out.sub k (List.mem_of_getElem? hk)).up (Nat.le_refl _) HBB.out));unfold nQ TX.val at HC;clear hA hk;go_wp2_with fail;refine (HC.out).mono ?_;rintro e w1 ⟨rfl,hb1⟩;have HB1:=hD (HBK.out.trans (hb1.mono HBK.out.size));clear hb1;go_wp2_with fail;go_roundw
   case rel=>exact ⟨j+1,by omega,by go_num,by rw [HS.out,<- Dh],HB1⟩
   case measure=>simp [intOf];omega
  ·have HE:Hid (wrap64 (CE t j+1)=t.plain.dW):=by unfold Hid;rw [CD t j (by omega)]
   go_wp2_with fail;go_ret;exact ⟨by rw [HE.out];rfl,HBB.out⟩
def bH (w:World) (K:Nat) (e:Ending) (w':World):Prop:=∃ s,e=.returned (.string s)/\s.size<=K/\Below w.heap.size w w'
theorem Ae (t:TX) (k K:Nat) (w:World) (h:Tr w w.heap.size t) (hK:∀ s∈t.leads,s.size<=K):Calls Tryz.prog 166 #[t.val,.int .i64 (k:Int)] w (bH w K):=by
 have hlb:=h.lb;unfold TX.val;obtain ⟨W,hW⟩:=nm (w.alloc (.cells #[.int .i64 t.kind,.string t.text,.slice t.lA t.leads.length t.lc,.slice t.kA t.kids.length t.kc] 99));have HB:=bw hW;have HX:=bk hW;have HZ:Hid (w.heap.size < W.heap.size):=HX.out.lt;have HT:=hD h;have HW:=hD hW;clear h hW;obtain ⟨x0,x1,x2,x3⟩:=HX.out.c4;by_cases hk:k < t.leads.length
 ·obtain ⟨b1,o1,u1,hA,-,hu1,g1⟩:=((HT.out.rl).below HB.out).at1 hk;obtain ⟨s,hs,rfl⟩:∃ s,t.leads[k]?=some s/\u1=.string s:=by
   rw [List.getElem?_map] at hu1
   cases h1:t.leads[k]? with
   | none=>rw [h1] at hu1;cases hu1
   | some s=>rw [h1] at hu1;injection hu1 with hu1;exact ⟨s,rfl,hu1.symm⟩
  have HS:=hD (hK s (List.mem_of_getElem? hs));have d:decide ((k:Int) < (t.leads.length:Int))=true:=decide_eq_true (by omega);rw [hA] at x2;have k0:(0:Int)<=(k:Int):=by omega
  have k1:(k:Int) < (t.leads.length:Int):=by omega
  clear hK hs hu1;go_enter Tryz.func166,Tryz.ntmps166;rw [hA] at HW;rw [hA];go_wp2_with (rw [HW.out]);go_ret;exact ⟨s,rfl,HS.out,HB.out⟩
 ·have d:decide ((k:Int) < (t.leads.length:Int))=false:=decide_eq_false (by omega);clear hK;go_enter Tryz.func166,Tryz.ntmps166;go_wp2_with (rw [HW.out])
  all_goals first | (exfalso;omega) | skip
  go_ret;exact ⟨⟨#[]⟩,rfl,Nat.zero_le _,HB.out⟩
theorem lB {m:Nat} (hl:bs.length=n) (hp:p<=n) (h:cV bs p=some (m,q)):m<=n/\q<=n:=by
 unfold cV at h;obtain ⟨⟨z,q2⟩,hz,hc⟩:=Option.bind_eq_some_iff.1 h
 split at hc
 ·cases hc
 ·injection hc with hc;injection hc with c1 c2;have c1':z.toNat=m:=c1;have c2':q2=q:=c2;have:=eB (by omega) hz;omega
theorem lL {α:Type} {f:Nat->Option (α × Nat)} (hl:bs.length=n) (hf:∀ p x q,p<=n->f p=some (x,q)->q<=n) {l:List α} (hp:p<=n) (h:bW f bs p=some (l,q)):q<=n:=by
 unfold bW at h;obtain ⟨⟨m,q1⟩,hc,h⟩:=Option.bind_eq_some_iff.1 h;exact uV hf m q1 l q (lB hl hp hc).2 h
theorem Cw (hl:bs.length=n) (hp:p<=n):sB (Al bs (p:Int))=.returned (.tuple #[.int .i64 ((((cV bs p).map (·.1)).getD 0:Nat):Int),pv ((cV bs p).map (·.2)),ev ((cV bs p).map (·.2))]):=by
 rw [sQ hl hp]
 cases cV bs p <;> rfl
theorem vS (hl:bs.length=n):∀ p x q,p<=n->cY bs p=some (x,q)->q<=n:=fun p x q hp h=>by
 unfold cY at h;obtain ⟨⟨x1,q1⟩,h1,h⟩:=Option.bind_eq_some_iff.1 h;obtain ⟨⟨x2,q2⟩,h2,h⟩:=Option.bind_eq_some_iff.1 h;obtain ⟨⟨x3,q3⟩,h3,h⟩:=Option.bind_eq_some_iff.1 h;obtain ⟨⟨x4,q4⟩,h4,h⟩:=Option.bind_eq_some_iff.1 h;obtain ⟨⟨x5,q5⟩,h5,h⟩:=Option.bind_eq_some_iff.1 h;obtain ⟨⟨x6,q6⟩,h6,e⟩:=Option.map_eq_some_iff.1 h;injection e with e1 e2;have a1:=eB (by omega) h1;have a2:=eB a1 h2;have a3:=eB a2 h3;have a4:q4<=bs.length:=by
  unfold fL at h4;obtain ⟨y,hy,h4⟩:=Option.bind_eq_some_iff.1 h4;have hlt:=(List.getElem?_eq_some_iff.1 hy).1
  split at h4
  ·cases h4
  ·injection h4 with h4;injection h4 with _ h4;have hlt':q3 < bs.length:=hlt;omega
 have a5:=lH a4 h5;have a6:=eB a5 h6;have e2':q6=q:=e2;omega
theorem pZ (hn:n<=1000000000000) (hnc:n<=c) (hp:p<=n) (hr:aG w w.heap.size 1 A n (bs.map dZ)) (hbs:∀ x∈bs,x < 256):
  Calls Tryz.prog 47 #[.slice A n c,.int .i64 (p:Int)] w (lT w (bB bs p)):=by
 have hl:bs.length=n:=by have:=hr.1;simpa using this
 have HR:=hD hr;have HI:Hid (∀ (q:Nat) (w':World),q<=n->Below w.heap.size w w'->Calls Tryz.prog 83 #[.slice A n c,.int .i64 (q:Int)] w' fun e w2=>e=.returned (.tuple #[.int .i64 (((bC bs q).map (·.1)).getD 0),pv ((bC bs q).map (·.2)),ev ((bC bs q).map (·.2))])/\w'=w2):=fun q w' hq hb=>by
  have:=eH A n c (q:Int) bs w' hn w.heap.size (hr.below hb) hbs;rwa [sO hl hq] at this
 have HT:Hid (∀ (q:Nat) (w':World),q<=n->Below w.heap.size w w'->Calls Tryz.prog 85 #[.slice A n c,.int .i64 (q:Int)] w' fun e w2=>e=.returned (.tuple #[.string (((cI bs q).map (·.1)).getD ByteArray.empty),pv ((cI bs q).map (·.2)),ev ((cI bs q).map (·.2))])/\w'=w2):=fun q w' hq hb=>by
  have:=iU A n c (q:Int) bs w' hn hnc w.heap.size (hr.below hb) hbs;rwa [yT hl hq] at this
 have HC:Hid (∀ (q:Nat) (w':World),q<=n->Below w.heap.size w w'->Calls Tryz.prog 46 #[.slice A n c,.int .i64 (q:Int)] w' fun e w2=>e=.returned (.tuple #[.int .i64 ((((cV bs q).map (·.1)).getD 0:Nat):Int),pv ((cV bs q).map (·.2)),ev ((cV bs q).map (·.2))])/\w'=w2):=fun q w' hq hb=>by
  have:=hY A n c (q:Int) bs w' hn w.heap.size (hr.below hb) hbs;rwa [Cw hl hq] at this
 have HM:Hid (∀ (q:Nat) (w':World),q<=n->Below w.heap.size w w'->Calls Tryz.prog 84 #[.slice A n c,.int .i64 (q:Int)] w' (xY w' (bW (bC bs) bs q))):=fun q w' hq hb=>oE hn hq ((hr.below hb).more hb.size) hbs;have HW:Hid (∀ (q:Nat) (w':World),q<=n->Below w.heap.size w w'->Calls Tryz.prog 86 #[.slice A n c,.int .i64 (q:Int)] w' (BU w' (cY bs q))):=fun q w' hq hb=>uJ hn hnc hq ((hr.below hb).more hb.size) hbs;have HN:Hid (∀ (q:Nat) x q2,q<=n->bC bs q=some (x,q2)->q2<=n):=fun q x q2 hq h=>by have:=eB (by omega) h;omega
 have HX:Hid (∀ (q:Nat) x q2,q<=n->cI bs q=some (x,q2)->q2<=n):=fun q x q2 hq h=>by have:=lH (by omega) h;omega
 have HL2:Hid (∀ (q:Nat) x q2,q<=n->bW (bC bs) bs q=some (x,q2)->q2<=n):=fun q x q2 hq h=>lL hl (fun p x q hp h=>by have:=eB (by omega) h;omega) hq h;have HC2:Hid (∀ (q:Nat) m q2,q<=n->cV bs q=some (m,q2)->m<=n/\q2<=n):=fun q m q2 hq h=>lB hl hq h;have HW2:=hD (vS hl);have HLEN:=hD hl;have hch:bB bs p=(bC bs p).bind fun a=>(bW (bC bs) bs a.2).bind fun b=>(bW (bC bs) bs b.2).bind fun c=>(cI bs c.2).bind fun d=>((cV bs d.2).bind fun y=>bX (cY bs) y.1 y.2).map fun e=>(⟨a.1,b.1,c.1,d.1,e.1⟩,e.2):=rfl;replace hch:=hD hch;have HP:=hD hp;have M0:=hD (cZ.start w 39 #[.int .i64 0,.slice none 0 0,.slice none 0 0,.string ⟨#[]⟩,.slice none 0 0]);clear hr hbs hl hp;go_enter Tryz.func47,Tryz.ntmps47;go_wp2_with fail;refine (HI.out p _ (HP.out) (M0.out).bel).mono ?_;rintro e w1 ⟨rfl,hw⟩;have N1:=hD ((M0.out).next (pI hw));clear hw;clear M0;have ck:=(N1.out).box.cell 0;have fk:=(N1.out).box.frozen 0;simp at ck;rcases e1:bC bs p with _ | ⟨v1,q1⟩
 ·have ho:bB bs p=none:=by rw [hch.out,e1];rfl
  replace ho:=hD ho;clear hch e1;have o0:=(N1.out).out.cell 0;have f0:=(N1.out).out.frozen 0;have o1:=(N1.out).out.cell 1;have f1:=(N1.out).out.frozen 1;have o2:=(N1.out).out.cell 2;have f2:=(N1.out).out.frozen 2;have o3:=(N1.out).out.cell 3;have f3:=(N1.out).out.frozen 3;have o4:=(N1.out).out.cell 4;have f4:=(N1.out).out.frozen 4;simp at o0 o1 o2 o3 o4;simp only [Option.map_none,Option.getD_none,pv,ev];go_wp2_with fail;clear o0 o1 o2 o3 o4 f0 f1 f2 f3 f4 ck fk;have FM:=(((((((N1.out).put 0 (.int .i64 0)).give 0 (.int .i64 0)).give 1 (.slice none 0 0)).give 2 (.slice none 0 0)).give 3 (.string ⟨#[]⟩)).give 4 (.slice none 0 0));refine bodyPost_ret (aZ (P:=Tryz.prog) rfl _ _ w.heap.size 39 #[.int .i64 0,.slice none 0 0,.slice none 0 0,.string ⟨#[]⟩,.slice none 0 0] (0,0) _ rfl FM.out Tryz.underlying39 rfl (by kernel_rfl)) rfl ?_;unfold lT;rw [ho.out];exact ⟨rfl,FM.bel⟩
 ·have hq1:Hid (q1<=n):=(HN.out p v1 q1 (HP.out) e1);simp only [Option.map_some,Option.getD_some,pv,ev];replace e1:=hD e1;have M1:Hid (cZ w (w1.setCell ⟨w.heap.size+1,0,none⟩ (.int .i64 v1)) w.heap.size 39 #[.int .i64 0,.slice none 0 0,.slice none 0 0,.string ⟨#[]⟩,.slice none 0 0] #[.int .i64 v1,.slice none 0 0,.slice none 0 0,.string ⟨#[]⟩,.slice none 0 0]):=(N1.out).put 0 (.int .i64 v1);clear N1;go_wp2_with fail;clear ck fk;refine (HM.out q1 _ (hq1.out) (M1.out).bel).mono ?_;rintro e w2 ⟨B1,c1,ps,rfl,K2,hH,hbel⟩;have N2:=hD ((M1.out).next hbel);have H1:=hD (cB.low hH (M1.out).size);clear hH hbel;clear M1;have ck:=(N2.out).box.cell 1;have fk:=(N2.out).box.frozen 1;simp at ck;rcases e2:bW (bC bs) bs q1 with _ | ⟨v2,q2⟩
  ·have ho:bB bs p=none:=by rw [hch.out,e1.out,Option.bind_some,e2];rfl
   replace ho:=hD ho;clear hch e2;have o0:=(N2.out).out.cell 0;have f0:=(N2.out).out.frozen 0;have o1:=(N2.out).out.cell 1;have f1:=(N2.out).out.frozen 1;have o2:=(N2.out).out.cell 2;have f2:=(N2.out).out.frozen 2;have o3:=(N2.out).out.cell 3;have f3:=(N2.out).out.frozen 3;have o4:=(N2.out).out.cell 4;have f4:=(N2.out).out.frozen 4;simp at o0 o1 o2 o3 o4;simp only [Option.map_none,pv,ev];go_wp2_with fail;clear o0 o1 o2 o3 o4 f0 f1 f2 f3 f4 ck fk;have FM:=(((((((N2.out).put 1 (.slice B1 ps.length c1)).give 0 (.int .i64 0)).give 1 (.slice none 0 0)).give 2 (.slice none 0 0)).give 3 (.string ⟨#[]⟩)).give 4 (.slice none 0 0));refine bodyPost_ret (aZ (P:=Tryz.prog) rfl _ _ w.heap.size 39 #[.int .i64 0,.slice none 0 0,.slice none 0 0,.string ⟨#[]⟩,.slice none 0 0] (0,0) _ rfl FM.out Tryz.underlying39 rfl (by kernel_rfl)) rfl ?_;unfold lT;rw [ho.out];exact ⟨rfl,FM.bel⟩
  ·have hq2:Hid (q2<=n):=(HL2.out q1 v2 q2 (hq1.out) e2);obtain rfl:v2=ps:=K2 _ e2;simp only [Option.map_some,pv,ev];replace e2:=hD e2;have M2:Hid (cZ w (w2.setCell ⟨w.heap.size+1,1,none⟩ (.slice B1 v2.length c1)) w.heap.size 39 #[.int .i64 0,.slice none 0 0,.slice none 0 0,.string ⟨#[]⟩,.slice none 0 0] #[.int .i64 v1,.slice B1 v2.length c1,.slice none 0 0,.string ⟨#[]⟩,.slice none 0 0]):=(N2.out).put 1 (.slice B1 v2.length c1);replace H1:=hD (cB.setCell H1.out (p:=⟨w.heap.size+1,1,none⟩) (by show w.heap.size+1 < w.heap.size+2;omega) (.slice B1 v2.length c1));clear N2;go_wp2_with fail;clear ck fk;refine (HM.out q2 _ (hq2.out) (M2.out).bel).mono ?_;rintro e w3 ⟨B2,c2,ks,rfl,K3,hH,hbel⟩;have N3:=hD ((M2.out).next hbel);replace H1:=hD (cB.keep H1.out hbel.size (fun i h1 h2=>hbel.block i h2));have H2:=hD (cB.low hH (M2.out).size);clear hH hbel;clear M2;have ck:=(N3.out).box.cell 2;have fk:=(N3.out).box.frozen 2;simp at ck;rcases e3:bW (bC bs) bs q2 with _ | ⟨v3,q3⟩
   ·have ho:bB bs p=none:=by rw [hch.out,e1.out,Option.bind_some,e2.out,Option.bind_some,e3];rfl
    replace ho:=hD ho;clear hch e3;have o0:=(N3.out).out.cell 0;have f0:=(N3.out).out.frozen 0;have o1:=(N3.out).out.cell 1;have f1:=(N3.out).out.frozen 1;have o2:=(N3.out).out.cell 2;have f2:=(N3.out).out.frozen 2;have o3:=(N3.out).out.cell 3;have f3:=(N3.out).out.frozen 3;have o4:=(N3.out).out.cell 4;have f4:=(N3.out).out.frozen 4;simp at o0 o1 o2 o3 o4;simp only [Option.map_none,pv,ev];go_wp2_with fail;clear o0 o1 o2 o3 o4 f0 f1 f2 f3 f4 ck fk;have FM:=(((((((N3.out).put 2 (.slice B2 ks.length c2)).give 0 (.int .i64 0)).give 1 (.slice none 0 0)).give 2 (.slice none 0 0)).give 3 (.string ⟨#[]⟩)).give 4 (.slice none 0 0));refine bodyPost_ret (aZ (P:=Tryz.prog) rfl _ _ w.heap.size 39 #[.int .i64 0,.slice none 0 0,.slice none 0 0,.string ⟨#[]⟩,.slice none 0 0] (0,0) _ rfl FM.out Tryz.underlying39 rfl (by kernel_rfl)) rfl ?_;unfold lT;rw [ho.out];exact ⟨rfl,FM.bel⟩
   ·have hq3:Hid (q3<=n):=(HL2.out q2 v3 q3 (hq2.out) e3);obtain rfl:v3=ks:=K3 _ e3;simp only [Option.map_some,pv,ev];replace e3:=hD e3;have M3:Hid (cZ w (w3.setCell ⟨w.heap.size+1,2,none⟩ (.slice B2 v3.length c2)) w.heap.size 39 #[.int .i64 0,.slice none 0 0,.slice none 0 0,.string ⟨#[]⟩,.slice none 0 0] #[.int .i64 v1,.slice B1 v2.length c1,.slice B2 v3.length c2,.string ⟨#[]⟩,.slice none 0 0]):=(N3.out).put 2 (.slice B2 v3.length c2);replace H1:=hD (cB.setCell H1.out (p:=⟨w.heap.size+1,2,none⟩) (by show w.heap.size+1 < w.heap.size+2;omega) (.slice B2 v3.length c2));replace H2:=hD (cB.setCell H2.out (p:=⟨w.heap.size+1,2,none⟩) (by show w.heap.size+1 < w.heap.size+2;omega) (.slice B2 v3.length c2));clear N3;go_wp2_with fail;clear ck fk;refine (HT.out q3 _ (hq3.out) (M3.out).bel).mono ?_;rintro e w4 ⟨rfl,hw⟩;have N4:=hD ((M3.out).next (pI hw));replace H1:=hD (cB.keep H1.out (Nat.le_of_eq (by rw [hw])) (fun i h1 h2=>by rw [hw]));replace H2:=hD (cB.keep H2.out (Nat.le_of_eq (by rw [hw])) (fun i h1 h2=>by rw [hw]));clear hw;clear M3;have ck:=(N4.out).box.cell 3;have fk:=(N4.out).box.frozen 3;simp at ck;rcases e4:cI bs q3 with _ | ⟨v4,q4⟩
    ·have ho:bB bs p=none:=by rw [hch.out,e1.out,Option.bind_some,e2.out,Option.bind_some,e3.out,Option.bind_some,e4];rfl
     replace ho:=hD ho;clear hch e4;have o0:=(N4.out).out.cell 0;have f0:=(N4.out).out.frozen 0;have o1:=(N4.out).out.cell 1;have f1:=(N4.out).out.frozen 1;have o2:=(N4.out).out.cell 2;have f2:=(N4.out).out.frozen 2;have o3:=(N4.out).out.cell 3;have f3:=(N4.out).out.frozen 3;have o4:=(N4.out).out.cell 4;have f4:=(N4.out).out.frozen 4;simp at o0 o1 o2 o3 o4;simp only [Option.map_none,Option.getD_none,pv,ev];go_wp2_with fail;clear o0 o1 o2 o3 o4 f0 f1 f2 f3 f4 ck fk;have FM:=(((((((N4.out).put 3 (.string ByteArray.empty)).give 0 (.int .i64 0)).give 1 (.slice none 0 0)).give 2 (.slice none 0 0)).give 3 (.string ⟨#[]⟩)).give 4 (.slice none 0 0));refine bodyPost_ret (aZ (P:=Tryz.prog) rfl _ _ w.heap.size 39 #[.int .i64 0,.slice none 0 0,.slice none 0 0,.string ⟨#[]⟩,.slice none 0 0] (0,0) _ rfl FM.out Tryz.underlying39 rfl (by kernel_rfl)) rfl ?_;unfold lT;rw [ho.out];exact ⟨rfl,FM.bel⟩
    ·have hq4:Hid (q4<=n):=(HX.out q3 v4 q4 (hq3.out) e4);simp only [Option.map_some,Option.getD_some,pv,ev];replace e4:=hD e4;have M4:Hid (cZ w (w4.setCell ⟨w.heap.size+1,3,none⟩ (.string v4)) w.heap.size 39 #[.int .i64 0,.slice none 0 0,.slice none 0 0,.string ⟨#[]⟩,.slice none 0 0] #[.int .i64 v1,.slice B1 v2.length c1,.slice B2 v3.length c2,.string v4,.slice none 0 0]):=(N4.out).put 3 (.string v4);replace H1:=hD (cB.setCell H1.out (p:=⟨w.heap.size+1,3,none⟩) (by show w.heap.size+1 < w.heap.size+2;omega) (.string v4));replace H2:=hD (cB.setCell H2.out (p:=⟨w.heap.size+1,3,none⟩) (by show w.heap.size+1 < w.heap.size+2;omega) (.string v4));clear N4;go_wp2_with fail;clear ck fk;refine (HC.out q4 _ (hq4.out) (M4.out).bel).mono ?_;rintro e w5 ⟨rfl,hw⟩;have N5:=hD ((M4.out).next (pI hw));replace H1:=hD (cB.keep H1.out (Nat.le_of_eq (by rw [hw])) (fun i h1 h2=>by rw [hw]));replace H2:=hD (cB.keep H2.out (Nat.le_of_eq (by rw [hw])) (fun i h1 h2=>by rw [hw]));clear hw;clear M4;rcases e5:cV bs q4 with _ | ⟨v5,q5⟩
     ·have ho:bB bs p=none:=by rw [hch.out,e1.out,Option.bind_some,e2.out,Option.bind_some,e3.out,Option.bind_some,e4.out,Option.bind_some,e5];rfl
      replace ho:=hD ho;clear hch e5;have o0:=(N5.out).out.cell 0;have f0:=(N5.out).out.frozen 0;have o1:=(N5.out).out.cell 1;have f1:=(N5.out).out.frozen 1;have o2:=(N5.out).out.cell 2;have f2:=(N5.out).out.frozen 2;have o3:=(N5.out).out.cell 3;have f3:=(N5.out).out.frozen 3;have o4:=(N5.out).out.cell 4;have f4:=(N5.out).out.frozen 4;simp at o0 o1 o2 o3 o4;simp only [Option.map_none,Option.getD_none,pv,ev];go_wp2_with fail;clear o0 o1 o2 o3 o4 f0 f1 f2 f3 f4;have FM:=((((((N5.out).give 0 (.int .i64 0)).give 1 (.slice none 0 0)).give 2 (.slice none 0 0)).give 3 (.string ⟨#[]⟩)).give 4 (.slice none 0 0));refine bodyPost_ret (aZ (P:=Tryz.prog) rfl _ _ w.heap.size 39 #[.int .i64 0,.slice none 0 0,.slice none 0 0,.string ⟨#[]⟩,.slice none 0 0] (0,0) _ rfl FM.out Tryz.underlying39 rfl (by kernel_rfl)) rfl ?_;unfold lT;rw [ho.out];exact ⟨rfl,FM.bel⟩
     ·have hq5:Hid (q5<=n):=(HC2.out q4 v5 q5 (hq4.out) e5).2;simp only [Option.map_some,Option.getD_some,pv,ev];have hm:v5<=n:=(HC2.out q4 v5 q5 (hq4.out) e5).1;replace e5:=hD e5;obtain ⟨i0,hi0,hz0,hz1,hz2⟩:=info_parts rL;have hcm:bB bs p=(bX (cY bs) v5 q5).map fun e=>(⟨v1,v2,v3,v4,e.1⟩,e.2):=by rw [hch.out,e1.out,Option.bind_some,e2.out,Option.bind_some,e3.out,Option.bind_some,e4.out,Option.bind_some,e5.out];rfl
      replace hcm:=hD hcm;have R0:Hid (xW w w5 w5 w.heap.size (cY bs) #[.int .i64 0,.slice none 0 0,.slice none 0 0,.string ⟨#[]⟩,.slice none 0 0] (fun v=>#[.int .i64 v1,.slice B1 v2.length c1,.slice B2 v3.length c2,.string v4,v]) q5 v5 0 q5 [] (.slice none 0 0)):=⟨Nat.zero_le _,rfl,rfl,⟨rfl,.inl ⟨rfl,rfl⟩⟩,N5.out,World.grownBy.refl w5 _,(N5.out).bel.size⟩;have hs5:=hD (N5.out).size;clear hch e1 e2 e3 e4 e5 HI HT HC HM HN HX HL2 HC2 N5;go_wp2_with fail;go_loopw [8,9,11,12] (fun ew pw iv xw wr=>∃ (i p':Nat) (xs:List bG) (v:Value),iv=.int .i64 (i:Int)/\pw=.int .i64 (p':Int)/\ew=.int .i64 0/\p'<=n/\xW w w5 wr w.heap.size (cY bs) #[.int .i64 0,.slice none 0 0,.slice none 0 0,.string ⟨#[]⟩,.slice none 0 0] (fun v=>#[.int .i64 v1,.slice B1 v2.length c1,.slice B2 v3.length c2,.string v4,v]) q5 v5 i p' xs v) (fun _ _ iv _ _=>((v5:Int) - intOf iv).toNat)
      case atStart=>exact ⟨0,q5,[],_,rfl,rfl,rfl,hq5.out,R0.out⟩
      case round=>
       obtain ⟨i,p',xs,v,rfl,rfl,rfl,hp',hR⟩:=hrel;have HQ:=hD hR;have hle:=hR.le;have hsz:=(HQ.out).fill.size;have hszL:=(HQ.out).gr.size;have hlow:=hD (HQ.out).low;clear hR R0;by_cases him:i < v5
       ·have dim:decide ((i:Int) < (v5:Int))=true:=by simp;omega
        go_wp2_with fail;refine (HW.out p' _ hp' ((HQ.out).fill.bel.alloc (HQ.out).fill.bel.size _)).mono ?_;rintro e w2 ⟨y,rfl,KY,hbel⟩;have F2:=hD (((HQ.out).fill.alloc (.cells #[.int .i64 0,.int .i64 0,.int .i64 0,.bool false,.string ⟨#[]⟩,.int .i64 0] 83)).next hbel);have XB:=hD ((aK.new wr 83 #[.int .i64 0,.int .i64 0,.int .i64 0,.bool false,.string ⟨#[]⟩,.int .i64 0]).below hbel (by simp));have hb2:Below wr.heap.size wr w2:=((Below.refl _ wr).alloc (Nat.le_refl _) _).trans (hbel.mono (by simp));have BL2:=hD hb2;have hsz2:wr.heap.size < w2.heap.size:=(XB.out).lt;clear hbel hb2;have xc0:=(XB.out).cell 0;have xc1:=(XB.out).cell 1;have xc2:=(XB.out).cell 2;have xc3:=(XB.out).cell 3;have xc4:=(XB.out).cell 4;have xc5:=(XB.out).cell 5;obtain ⟨xf0,xf1,xf2,xf3,xf4,xf5⟩:=(XB.out).f6;simp at xc0 xc1 xc2 xc3 xc4 xc5;have hlt0:w.heap.size < wr.heap.size:=by omega
        have hlt1:w.heap.size+1 < wr.heap.size:=by omega
        have hne0:¬ w.heap.size=wr.heap.size:=by omega
        have hne1:¬ w.heap.size+1=wr.heap.size:=by omega
        have HLT1:=hD hlt1;rcases he:cY bs p' with _ | ⟨y',p2⟩
        ·have ho:bB bs p=none:=by rw [hcm.out,(HQ.out).fails him he];rfl
         replace ho:=hD ho;clear hcm he;have o0:=(F2.out).out.cell 0;have f0:=(F2.out).out.frozen 0;have o1:=(F2.out).out.cell 1;have f1:=(F2.out).out.frozen 1;have o2:=(F2.out).out.cell 2;have f2:=(F2.out).out.frozen 2;have o3:=(F2.out).out.cell 3;have f3:=(F2.out).out.frozen 3;have o4:=(F2.out).out.cell 4;have f4:=(F2.out).out.frozen 4;simp at o0 o1 o2 o3 o4;simp only [Option.map_none,pv,ev];go_wp2_with fail;clear o0 o1 o2 o3 o4 f0 f1 f2 f3 f4 xc0 xc1 xc2 xc3 xc4 xc5 xf0 xf1 xf2 xf3 xf4 xf5;have FM:=(((((((F2.out).six HLT1.out (.int .i64 y.id) (.int .i64 y.field) (.int .i64 y.n) (.bool y.flag) (.string y.text) (.int .i64 y.ref)).give 0 (.int .i64 0)).give 1 (.slice none 0 0)).give 2 (.slice none 0 0)).give 3 (.string ⟨#[]⟩)).give 4 (.slice none 0 0));refine bodyPost_ret (aZ (P:=Tryz.prog) rfl _ _ w.heap.size 39 #[.int .i64 0,.slice none 0 0,.slice none 0 0,.string ⟨#[]⟩,.slice none 0 0] (0,0) _ rfl FM.out Tryz.underlying39 rfl (by kernel_rfl)) rfl ?_;unfold lT;rw [ho.out];exact ⟨rfl,FM.bel⟩
        ·obtain rfl:y'=y:=KY _ he;have hp2:Hid (p2<=n):=HW2.out p' y' p2 hp' he;have OWN:Hid ((((((((w2.setCell ⟨wr.heap.size,0,none⟩ (.int .i64 y'.id)).setCell ⟨wr.heap.size,1,none⟩ (.int .i64 y'.field)).setCell ⟨wr.heap.size,2,none⟩ (.int .i64 y'.n)).setCell ⟨wr.heap.size,3,none⟩ (.bool y'.flag)).setCell ⟨wr.heap.size,4,none⟩ (.string y'.text)).setCell ⟨wr.heap.size,5,none⟩ (.int .i64 y'.ref))).ownsRow w5.heap.size 83 6 v i (xs.flatMap bG.vals)):=(HQ.out).own.kept (kG (rO (BL2.out) (Nat.le_refl _) (.int .i64 y'.id) (.int .i64 y'.field) (.int .i64 y'.n) (.bool y'.flag) (.string y'.text) (.int .i64 y'.ref)) none) (by cases v.ownBlock <;> simp);have F3:=hD ((F2.out).six HLT1.out (.int .i64 y'.id) (.int .i64 y'.field) (.int .i64 y'.n) (.bool y'.flag) (.string y'.text) (.int .i64 y'.ref));have HE:=hD he;have ck:=(F2.out).box.cell 4;simp at ck;clear he KY;simp only [Option.map_some,pv,ev];go_wp2_with (at_builtin;refine aF _ rfl (.tmp 90) (.tmp 92) 37 37 rfl w5.heap.size 83 i0 (.agg #[.int .i64 0,.int .i64 0,.int .i64 0,.bool false,.string ByteArray.empty,.int .i64 0]) 6 56 Tryz.underlying37 hi0 hz0 hz1 hz2 rfl (by decide) _ _ _ rfl ((OWN.out).alloc _) (.slice (some ⟨w2.heap.size,0,none⟩) 1 1) 1 _ rfl (tW ((((((w2.setCell ⟨wr.heap.size,0,none⟩ (.int .i64 y'.id)).setCell ⟨wr.heap.size,1,none⟩ (.int .i64 y'.field)).setCell ⟨wr.heap.size,2,none⟩ (.int .i64 y'.n)).setCell ⟨wr.heap.size,3,none⟩ (.bool y'.flag)).setCell ⟨wr.heap.size,4,none⟩ (.string y'.text)).setCell ⟨wr.heap.size,5,none⟩ (.int .i64 y'.ref)) Tryz.underlying37 [.int .i64 y'.id,.int .i64 y'.field,.int .i64 y'.n,.bool y'.flag,.string y'.text,.int .i64 y'.ref] 6 1 1 w2.heap.size 83 (tZ _ _ _ _ _ _ _ _).symm rfl (fun u hu=>by simp at hu;rcases hu with rfl | rfl | rfl | rfl | rfl | rfl <;> rfl)) ?c1 ?c2 ?c3 ?_)
         case c1=>unfold maxLen;omega
         case c2=>omega
         case c3=>rw [World.size_alloc,tZ];omega
         intro v6 w6 hown6 hg6;obtain ⟨A6,q6,rfl,-,-⟩:=aS hown6;have F6:=hD (((F3.out).alloc _).grown hg6 (aX (OWN.out) (F3.out).out (by decide)) (aX (OWN.out) (F3.out).box (by decide)) (fun b hv=>Nat.le_trans hlow.out (iY (OWN.out) hv)));have R3:=hD ((HQ.out).step him (HE.out) rfl (rO (BL2.out) (Nat.le_refl _) (.int .i64 y'.id) (.int .i64 y'.field) (.int .i64 y'.n) (.bool y'.flag) (.string y'.text) (.int .i64 y'.ref)) hg6 hown6);have c6:=(F6.out).box.cell 4;have f6:=(F6.out).box.frozen 4;simp at c6;clear hg6 hown6 F3 OWN F2 XB BL2 xc0 xc1 xc2 xc3 xc4 xc5 xf0 xf1 xf2 xf3 xf4 xf5 ck HE;go_wp2_with fail;go_roundw
         case rel=>exact ⟨i+1,p2,_,_,by go_num,rfl,rfl,hp2.out,R3.out⟩
         case measure=>simp [intOf];omega
       ·have dim:decide ((i:Int) < (v5:Int))=false:=by simp;omega
        obtain ⟨B3,c3,rfl,hr3,hB3⟩:=gO (HQ.out).own;have hi5:i=v5:=by omega
        have HX3:=hD (cB.low (⟨hr3,hB3⟩:cB wr _ 6 _ _ _) hs5.out);have HX1:=hD (cB.grown H1.out (HQ.out).gr (by omega));have HX2:=hD (cB.grown H2.out (HQ.out).gr (by omega));have hlen:=hD (HQ.out).len;have ho:bB bs p=some (⟨v1,v2,v3,v4,xs⟩,p'):=by rw [hcm.out,<- hi5,(HQ.out).st];rfl
        replace ho:=hD ho;have hbl:Hid (bs.length<=1000000000000):=by unfold Hid;have:=HLEN.out;omega
        clear hr3 hB3 hcm HR HW HW2 hi5;have o0:=(HQ.out).fill.out.cell 0;have f0:=(HQ.out).fill.out.frozen 0;have o1:=(HQ.out).fill.out.cell 1;have f1:=(HQ.out).fill.out.frozen 1;have o2:=(HQ.out).fill.out.cell 2;have f2:=(HQ.out).fill.out.frozen 2;have o3:=(HQ.out).fill.out.cell 3;have f3:=(HQ.out).fill.out.frozen 3;have o4:=(HQ.out).fill.out.cell 4;have f4:=(HQ.out).fill.out.frozen 4;simp at o0 o1 o2 o3 o4;have b0:=(HQ.out).fill.box.cell 0;have b1:=(HQ.out).fill.box.cell 1;have b2:=(HQ.out).fill.box.cell 2;have b3:=(HQ.out).fill.box.cell 3;have b4:=(HQ.out).fill.box.cell 4;simp at b0 b1 b2 b3 b4;go_wp2_with fail;clear o0 o1 o2 o3 o4 f0 f1 f2 f3 f4 b0 b1 b2 b3 b4;have FM:=((((((HQ.out).fill.give 0 (.int .i64 v1)).give 1 (.slice B1 v2.length c1)).give 2 (.slice B2 v3.length c2)).give 3 (.string v4)).give 4 (.slice B3 i c3));have FHX1:=(cB.setCell (cB.setCell (cB.setCell (cB.setCell (cB.setCell (HX1.out) (p:=⟨w.heap.size,0,none⟩) (by show w.heap.size < w.heap.size+2;omega) (.int .i64 v1)) (p:=⟨w.heap.size,1,none⟩) (by show w.heap.size < w.heap.size+2;omega) (.slice B1 v2.length c1)) (p:=⟨w.heap.size,2,none⟩) (by show w.heap.size < w.heap.size+2;omega) (.slice B2 v3.length c2)) (p:=⟨w.heap.size,3,none⟩) (by show w.heap.size < w.heap.size+2;omega) (.string v4)) (p:=⟨w.heap.size,4,none⟩) (by show w.heap.size < w.heap.size+2;omega) (.slice B3 i c3));have FHX2:=(cB.setCell (cB.setCell (cB.setCell (cB.setCell (cB.setCell (HX2.out) (p:=⟨w.heap.size,0,none⟩) (by show w.heap.size < w.heap.size+2;omega) (.int .i64 v1)) (p:=⟨w.heap.size,1,none⟩) (by show w.heap.size < w.heap.size+2;omega) (.slice B1 v2.length c1)) (p:=⟨w.heap.size,2,none⟩) (by show w.heap.size < w.heap.size+2;omega) (.slice B2 v3.length c2)) (p:=⟨w.heap.size,3,none⟩) (by show w.heap.size < w.heap.size+2;omega) (.string v4)) (p:=⟨w.heap.size,4,none⟩) (by show w.heap.size < w.heap.size+2;omega) (.slice B3 i c3))
        have FHX3:=(cB.setCell (cB.setCell (cB.setCell (cB.setCell (cB.setCell (HX3.out) (p:=⟨w.heap.size,0,none⟩) (by show w.heap.size < w.heap.size+2;omega) (.int .i64 v1)) (p:=⟨w.heap.size,1,none⟩) (by show w.heap.size < w.heap.size+2;omega) (.slice B1 v2.length c1)) (p:=⟨w.heap.size,2,none⟩) (by show w.heap.size < w.heap.size+2;omega) (.slice B2 v3.length c2)) (p:=⟨w.heap.size,3,none⟩) (by show w.heap.size < w.heap.size+2;omega) (.string v4)) (p:=⟨w.heap.size,4,none⟩) (by show w.heap.size < w.heap.size+2;omega) (.slice B3 i c3));refine bodyPost_ret (aZ (P:=Tryz.prog) rfl _ _ w.heap.size 39 #[.int .i64 v1,.slice B1 v2.length c1,.slice B2 v3.length c2,.string v4,.slice B3 i c3] (0,0) _ rfl FM.out Tryz.underlying39 rfl (by kernel_rfl)) rfl ?_;have hln:=hlen.out;subst hln;unfold lT;rw [ho.out];exact ⟨⟨⟨⟨v1,v2,v3,v4,xs⟩,B1,c1,B2,c2,B3,c3⟩,rfl,rfl,vG ho.out hbl.out (FHX1.low (by omega)) (FHX2.low (by omega)) (FHX3.low (by omega))⟩,FM.bel⟩
theorem Bt {wr W3 w4:World} {o:Obj} {lo:Nat} {u v:Value} {xs:List CX} {a:CX} (hb:Below wr.heap.size wr W3) (hlo:lo<=wr.heap.size) (hu:∀ g,u.ownBlock=some g->g < wr.heap.size) (hg3:aR (W3.alloc o) w4 u v)
  (hold:∀ x∈xs,GV lo wr u x) (ha:dY W3 wr.heap.size a):∀ x∈xs++[a],GV lo w4 v x:=fun x hx=>by
 refine yR ?_ hg3;rcases List.mem_append.1 hx with hx | hx
 ·obtain ⟨h1,h2⟩:=hold x hx;refine ⟨h1.same (Nat.le_trans hb.size (by simp)) (fun i hi=>?_),h2⟩;obtain ⟨b1,b2⟩:=h1.bl hi;exact (Below.heap_alloc W3 o i (by have:=hb.size;omega)).trans (hb.block i b2)
 ·obtain rfl:x=a:=by simpa using hx
  refine ⟨(ha.low hlo).same (by simp) (fun i hi=>Below.heap_alloc W3 o i (ha.bl hi).2),fun g hg' hb=>?_⟩;have:=hu g hg';have:=(ha.bl hb).1;omega
theorem iH {b:Nat} {w0:World} (h:Below B w0 w) (hb:B<=b) (u0 u1 u2 u3 u4:Value):
  Below B w0 (((((w.setCell ⟨b,0,none⟩ u0).setCell ⟨b,1,none⟩ u1).setCell ⟨b,2,none⟩ u2).setCell ⟨b,3,none⟩ u3).setCell ⟨b,4,none⟩ u4):=
 ((((h.setCell hb u0).setCell hb u1).setCell hb u2).setCell hb u3).setCell hb u4
theorem jQ (w:World) (b:Nat) (u0 u1 u2 u3 u4:Value):(((((w.setCell ⟨b,0,none⟩ u0).setCell ⟨b,1,none⟩ u1).setCell ⟨b,2,none⟩ u2).setCell ⟨b,3,none⟩ u3).setCell ⟨b,4,none⟩ u4).heap.size=w.heap.size:=by simp [World.setCell]
def tB (w:World) (o:Option (List bY × Nat)) (e:Ending) (w':World):Prop:=
 (match o with
  | some y=>∃ B cc xs,e=.returned (.tuple #[.slice B xs.length cc,.int .i64 (y.2:Int),.int .i64 0])/\xs.map CX.c=y.1/\yY w' w.heap.size B xs.length xs
  | none=>e=.returned (.tuple #[.slice none 0 0,.int .i64 0,.int .i64 13]))/\Below w.heap.size w w'
theorem xN (hl:bs.length=n):∀ p x q,p<=n->bB bs p=some (x,q)->q<=n:=fun p x q hp h=>by
 unfold bB at h;obtain ⟨⟨x1,q1⟩,h1,h⟩:=Option.bind_eq_some_iff.1 h;obtain ⟨⟨x2,q2⟩,h2,h⟩:=Option.bind_eq_some_iff.1 h;obtain ⟨⟨x3,q3⟩,h3,h⟩:=Option.bind_eq_some_iff.1 h;obtain ⟨⟨x4,q4⟩,h4,h⟩:=Option.bind_eq_some_iff.1 h;obtain ⟨⟨x5,q5⟩,h5,e⟩:=Option.map_eq_some_iff.1 h;injection e with e1 e2;have hN:∀ p x q,p<=n->bC bs p=some (x,q)->q<=n:=fun p x q hp h=>by have:=eB (by omega) h;omega
 have a1:=hN _ _ _ hp h1;have a2:=lL hl hN a1 h2;have a3:=lL hl hN a2 h3;have a4:=lH (by omega) h4;have a5:=lL hl (vS hl) (by omega:q4<=n) h5;have e2':q5=q:=e2;omega
theorem mA (hn:n<=1000000000000) (hnc:n<=c) (hr:aG w w.heap.size 1 A n (bs.map dZ)) (hbs:∀ x∈bs,x < 256):
  Calls Tryz.prog 24 #[.slice A n c,.int .i64 0] w (tB w (bW (bB bs) bs 0)):=by
 have hl:bs.length=n:=by have:=hr.1;simpa using this
 have HC:=hD (hY A n c 0 bs w hn w.heap.size hr hbs);have e0:Al bs 0=cV bs 0:=sQ (p:=0) hl (Nat.zero_le _);rw [e0] at HC;have hlp:bW (bB bs) bs 0=(cV bs 0).bind fun y=>bX (bB bs) y.1 y.2:=rfl;have hcl:=fun m q=>lB (m:=m) (q:=q) hl (Nat.zero_le _);have HW:Hid (∀ (q:Nat) (w':World),q<=n->Below w.heap.size w w'->Calls Tryz.prog 47 #[.slice A n c,.int .i64 (q:Int)] w' (lT w' (bB bs q))):=fun q w' hq hb=>pZ hn hnc hq ((hr.below hb).more hb.size) hbs;have HW2:=hD (xN hl);generalize cV bs 0=o at HC hlp hcl;clear hr hbs hl e0;rcases o with _ | ⟨m,q⟩
 ·have HLP:Hid (bW (bB bs) bs 0=none):=hlp;clear hlp hcl;simp only [sB] at HC;go_enter Tryz.func24,Tryz.ntmps24;go_wp2_with fail;refine (HC.out).mono ?_;rintro e w1 ⟨rfl,rfl⟩;clear HC;go_wp2_with fail
  go_ret3
  unfold tB;rw [HLP.out];exact ⟨rfl,Below.refl _ _⟩
 ·obtain ⟨hm,hq⟩:=hcl m q rfl;have hcnt:Hid (bW (bB bs) bs 0=bX (bB bs) m q):=hlp;clear hlp hcl;simp only [sB] at HC;obtain ⟨i0,hi0,hz0,hz1,hz2⟩:=info_parts nB;have R0:Hid (qE lO CX.c (GV w.heap.size) 39 5 (bB bs) w w q m 0 (some q) [] (.slice none 0 0)):=
   ⟨Nat.zero_le _,rfl,rfl,(fun z hz=>by injection hz with hz;rw [<- hz];exact ⟨rfl,fun x hx=>by cases hx⟩),⟨rfl,.inl ⟨rfl,rfl⟩⟩,Below.refl _ _⟩
  go_enter Tryz.func24,Tryz.ntmps24;go_wp2_with fail;refine (HC.out).mono ?_;rintro e w1 ⟨rfl,rfl⟩;clear HC;go_wp2_with fail;go_loopw [8,9,10,11,12] (fun pw ew v iv xw wr=>∃ (i p':Nat) (xs:List CX),iv=.int .i64 (i:Int)/\pw=.int .i64 (p':Int)/\ew=.int .i64 0/\p'<=n/\qE lO CX.c (GV w.heap.size) 39 5 (bB bs) w wr q m i (some p') xs v) (fun _ _ _ iv _ _=>((m:Int) - intOf iv).toNat)
  case atStart=>exact ⟨0,q,[],rfl,rfl,rfl,hq,R0.out⟩
  case round=>
   obtain ⟨i,p',xs,rfl,rfl,rfl,hp',hR⟩:=hrel;have HQ:=hD hR;have hle:=hR.le;have hsz:=(HQ.out).bel.size;clear hR R0;by_cases him:i < m
   ·have dim:decide ((i:Int) < (m:Int))=true:=by simp;omega
    go_wp2_with fail;refine (HW.out p' _ hp' ((HQ.out).bel.alloc hsz _)).mono ?_;rintro e w2 ⟨hM,hbel⟩;have XB:=hD ((aK.new wr 39 #[.int .i64 0,.slice none 0 0,.slice none 0 0,.string ⟨#[]⟩,.slice none 0 0]).below hbel (by simp));have hb2:Below wr.heap.size wr w2:=((Below.refl _ wr).alloc (Nat.le_refl _) _).trans (hbel.mono (by simp));have BL2:=hD hb2;have hsz2:wr.heap.size < w2.heap.size:=(XB.out).lt;clear hbel hb2;have xc0:=(XB.out).cell 0;have xc1:=(XB.out).cell 1;have xc2:=(XB.out).cell 2;have xc3:=(XB.out).cell 3;have xc4:=(XB.out).cell 4;obtain ⟨xf0,xf1,xf2,xf3,xf4⟩:=(XB.out).f5;simp at xc0 xc1 xc2 xc3 xc4;rcases he:bB bs p' with _ | ⟨y,p2⟩
    ·rw [he] at hM;obtain rfl:=hM;have ho:Hid (bW (bB bs) bs 0=none):=by
      unfold Hid;rw [hcnt.out];refine eX m (i+1) q him ?_;rw [dC];have:=(HQ.out).st
      cases h1:bX (bB bs) i q with
      | none=>rfl
      | some y=>
       rw [h1] at this;injection this with this;have this':y.2=p':=this;show (bB bs y.2).map _=_;rw [this',he];rfl
     clear he hcnt;go_wp2_with fail
     go_ret3
     unfold tB;rw [ho.out];exact ⟨rfl,((HQ.out).bel.trans (iH ((BL2.out)) (Nat.le_refl _) _ _ _ _ _ |>.mono hsz))⟩
    ·rw [he] at hM;obtain ⟨x,rfl,hxc,hgx⟩:=hM;have hp2:Hid (p2<=n):=HW2.out p' y p2 hp' he;have hxc':x.c=y:=hxc;have HE:Hid (∀ y2,(some p').bind (bB bs)=some y2->y2.1=x.c):=fun y2 h2=>by
      have h3:bB bs p'=some y2:=h2;rw [he] at h3;injection h3 with h3;rw [<- h3];exact hxc'.symm
     have HS:Hid (((some p').bind (bB bs)).map (·.2)=some p2):=by
      unfold Hid;show (bB bs p').map _=_;rw [he];rfl
     have OWN:Hid ((((((w2.setCell ⟨wr.heap.size,0,none⟩ (.int .i64 x.c.stamp)).setCell ⟨wr.heap.size,1,none⟩ (.slice x.A1 x.c.parents.length x.c1)).setCell ⟨wr.heap.size,2,none⟩ (.slice x.A2 x.c.picks.length x.c2)).setCell ⟨wr.heap.size,3,none⟩ (.string x.c.note)).setCell ⟨wr.heap.size,4,none⟩ (.slice x.A3 x.c.writes.length x.c3)).ownsRow w.heap.size 39 5 u10 i (xs.flatMap lO)):=(HQ.out).own.kept (kG (iH (BL2.out) (Nat.le_refl _) (.int .i64 x.c.stamp) (.slice x.A1 x.c.parents.length x.c1) (.slice x.A2 x.c.picks.length x.c2) (.string x.c.note) (.slice x.A3 x.c.writes.length x.c3)) none) (by cases u10.ownBlock <;> simp);have GX:=hD ((vF (g:=wr.heap.size) hgx (by simp) (.int .i64 x.c.stamp) (.slice x.A1 x.c.parents.length x.c1) (.slice x.A2 x.c.picks.length x.c2) (.string x.c.note) (.slice x.A3 x.c.writes.length x.c3)).low (lo':=wr.heap.size) (by simp));clear he hgx hxc hxc';go_wp2_with (at_builtin;refine aF _ rfl (.tmp 38) (.tmp 40) 23 23 rfl w.heap.size 39 i0 (.agg #[.int .i64 0,.slice none 0 0,.slice none 0 0,.string ByteArray.empty,.slice none 0 0]) 5 96 Tryz.underlying23 hi0 hz0 hz1 hz2 rfl (by decide) _ _ _ rfl ((OWN.out).alloc _) (.slice (some ⟨w2.heap.size,0,none⟩) 1 1) 1 _ rfl (tW (((((w2.setCell ⟨wr.heap.size,0,none⟩ (.int .i64 x.c.stamp)).setCell ⟨wr.heap.size,1,none⟩ (.slice x.A1 x.c.parents.length x.c1)).setCell ⟨wr.heap.size,2,none⟩ (.slice x.A2 x.c.picks.length x.c2)).setCell ⟨wr.heap.size,3,none⟩ (.string x.c.note)).setCell ⟨wr.heap.size,4,none⟩ (.slice x.A3 x.c.writes.length x.c3)) Tryz.underlying23 [.int .i64 x.c.stamp,.slice x.A1 x.c.parents.length x.c1,.slice x.A2 x.c.picks.length x.c2,.string x.c.note,.slice x.A3 x.c.writes.length x.c3] 5 1 1 w2.heap.size 39 (jQ _ _ _ _ _ _ _).symm rfl (fun u hu=>by simp at hu;rcases hu with rfl | rfl | rfl | rfl | rfl <;> rfl)) ?c1 ?c2 ?c3 ?_)
     case c1=>unfold maxLen;omega
     case c2=>omega
     case c3=>rw [World.size_alloc,jQ];omega
     intro v6 w6 hown6 hg6;have R3:=(HQ.out).step him (HE.out) hown6 ((((HQ.out).bel.trans ((iH (BL2.out) (Nat.le_refl _) (.int .i64 x.c.stamp) (.slice x.A1 x.c.parents.length x.c1) (.slice x.A2 x.c.picks.length x.c2) (.string x.c.note) (.slice x.A3 x.c.writes.length x.c3)).mono hsz)).alloc (by rw [jQ];omega) _).grown hg6.grown (by rw [World.size_alloc,jQ];omega) (fun g hv=>iY (HQ.out).own hv)) (fun hold _=>Bt (iH (BL2.out) (Nat.le_refl _) (.int .i64 x.c.stamp) (.slice x.A1 x.c.parents.length x.c1) (.slice x.A2 x.c.picks.length x.c2) (.string x.c.note) (.slice x.A3 x.c.writes.length x.c3)) hsz (fun g hv=>sG (HQ.out).own hv) hg6 hold (GX.out));rw [HS.out] at R3;replace R3:=hD R3;clear hown6 hg6 OWN GX HE HS xc0 xc1 xc2 xc3 xc4 xf0 xf1 xf2 xf3 xf4 XB BL2;go_wp2_with fail;go_roundw
     case rel=>exact ⟨i+1,p2,_,by go_num,rfl,rfl,hp2.out,R3.out⟩
     case measure=>simp [intOf];omega
   ·have dim:decide ((i:Int) < (m:Int))=false:=by simp;omega
    obtain ⟨B,cc,rfl,h1,h2,h3⟩:=(HQ.out).done (.inl (by omega)) (hcnt.out);obtain ⟨y,hy,hy2⟩:=Option.map_eq_some_iff.1 h3;have hy2':y.2=p':=hy2;obtain ⟨k1,k2⟩:=h1 y hy;have HY:=hD hy;have FIN:Hid (xs.map CX.c=y.1/\yY wr w.heap.size B xs.length xs):=⟨k1.symm,⟨rfl,h2.1,fun x hx=>(k2 x hx).1.good⟩,fun x hx=>(k2 x hx).1,h2.2⟩;clear h1 h2 h3 hy hy2 k1 k2;subst hy2';go_wp2_with fail
    go_ret3
    unfold tB;rw [HY.out];exact ⟨⟨B,cc,xs,rfl,FIN.out.1,FIN.out.2⟩,(HQ.out).bel⟩
theorem lK (A:Option Addr) (n c:Nat) (bs:List Nat) (w:World) (hn:n<=1000000000000) (hnc:n<=c) (hr:aG w w.heap.size 1 A n (bs.map dZ)) (hbs:∀ x∈bs,x < 256):
  Calls Tryz.prog 11 #[.slice A n c] w (fR w (dO bs)):=by
 have hl:bs.length=n:=by have:=hr.1;simpa using this
 have HA:=hD (mA hn hnc hr hbs);have hcp:dO bs=(bW (bB bs) bs 0).bind fun y=>if y.2=bs.length then some y.1 else none:=rfl
 clear hr hbs;generalize bW (bB bs) bs 0=o at HA hcp;rcases o with _ | ⟨l,q⟩
 ·have HP:Hid (dO bs=none):=hcp;clear hcp hl;go_enter Tryz.func11,Tryz.ntmps11;go_wp2_with fail;refine (HA.out).mono ?_;rintro e w1 ⟨rfl,hb⟩;have HB:=hD hb;clear HA hb;go_wp2_with fail;go_ret2;unfold fR;rw [HP.out];exact ⟨rfl,HB.out⟩
 ·simp only [Option.bind_some] at hcp;by_cases hqn:q=n
  ·have hd:((q:Int) != (n:Int))=false:=by simp;omega
   rw [if_pos (by omega)] at hcp;replace hcp:=hD hcp;clear hl;go_enter Tryz.func11,Tryz.ntmps11;go_wp2_with fail;refine (HA.out).mono ?_;rintro e w1 ⟨⟨B,cc,xs,rfl,hx,hC⟩,hb⟩;have HB:=hD hb;have HX:=hD hx;have HCC:=hD hC;clear HA hb hx hC;go_wp2_with fail;go_ret2;unfold fR;rw [hcp.out];exact ⟨⟨B,cc,xs,rfl,HX.out,HCC.out⟩,HB.out⟩
  ·have hd:((q:Int) != (n:Int))=true:=by simp;omega
   rw [if_neg (by omega)] at hcp;replace hcp:=hD hcp;clear hl;go_enter Tryz.func11,Tryz.ntmps11;go_wp2_with fail;refine (HA.out).mono ?_;rintro e w1 ⟨⟨B,cc,xs,rfl,hx,hC⟩,hb⟩;have HB:=hD hb;clear HA hb hx hC;go_wp2_with fail;go_ret2;unfold fR;rw [hcp.out];exact ⟨rfl,HB.out⟩
theorem lJ {c1 c2:Nat} {A1 A2:Option Addr} {l:List Int} (hn:n<=140737488351232) (h1:aG w B 1 A1 n (l.map (Value.int .i64))) (h2:aG w B 1 A2 n (l.map (Value.int .i64))):
  Calls Tryz.prog 48 #[.slice A1 n c1,.slice A2 n c2] w fun e w'=>e=.returned (.bool true)/\∃ k,w'=w.drewN k:=by
 have hl:l.length=n:=by have:=h1.1;simpa using this
 have H1:=hD h1;have H2:=hD h2;have HL:=hD hl;clear h1 h2 hl;go_enter Tryz.func48,Tryz.ntmps48;go_wp2_with fail;go_loopw [5] (fun iv wr=>∃ (i:Nat),iv=.int .i64 (i:Int)/\i<=n/\∃ k,wr=w.drewN k) (fun iv _=>((n:Int) - intOf iv).toNat)
 case atStart=>exact ⟨0,rfl,Nat.zero_le _,0,rfl⟩
 case round=>
  obtain ⟨i,rfl,hi,k,rfl⟩:=hrel;by_cases hlt:i < n
  ·have dim:decide ((i:Int) < (n:Int))=true:=by simp;omega
   obtain ⟨x,hx⟩:∃ x,l[i]?=some x:=⟨l[i]'(by rw [HL.out];exact hlt),List.getElem?_eq_getElem _⟩;obtain ⟨b1,o1,u1,rfl,hb1,hu1,hc1⟩:=(H1.out).at1 hlt;obtain ⟨b2,o2,u2,rfl,hb2,hu2,hc2⟩:=(H2.out).at1 hlt;obtain rfl:u1=.int .i64 x:=by rw [List.getElem?_map,hx] at hu1;simpa using hu1.symm
   obtain rfl:u2=.int .i64 x:=by rw [List.getElem?_map,hx] at hu2;simpa using hu2.symm
   have hnle:¬ n<=i:=by omega
   clear hu1 hu2 hx hb1 hb2;go_wp2_with fail;go_quiet (fail);go_wp2_with fail;go_roundw
   case rel=>exact ⟨i+1,by go_num,by omega,_,rfl⟩
   case measure=>simp [intOf];omega
  ·have dim:decide ((i:Int) < (n:Int))=false:=by simp;omega
   go_wp2_with fail;go_ret;exact ⟨rfl,k,rfl⟩
end
end Go.Proofs.YtkgpoimmniojjaaGreat
