/- No condition. -/
import Derived.Test.YtkgpoimmniojjaaGreatZaAT
import Derived.Test.YtkgpoimmniojjaaGreatZaAR
import Derived.Test.YtkgpoimmniojjaaGreatZaAC
namespace Go.Proofs.YtkgpoimmniojjaaGreat
set_option linter.unusedVariables false
set_option linter.unusedSimpArgs false
set_option maxRecDepth 100000
set_option maxHeartbeats 16000000
section
open Go.RowKit
variable {w:World} {bs:List Nat} {n p lo c g:Nat} {x:CX} {A:Option Addr}
theorem BO {L K M N N2:Nat} (A:Option Addr) (n c:Nat) (A2:Option Addr) (n2 c2:Nat) (w:World) (h:V w w.heap.size (.sl L 39 (cL K M N 3 83)) (.slice A n c)) (h2:V w w.heap.size (.sl N2 3 [.int]) (.slice A2 n2 c2)) (hL:L<=1000) (hM:M<=1000) (hN:L*N+N<=900000000) (hN2:N2<=1000):
  Calls Tryz.prog 33 #[.slice A n c,.slice A2 n2 c2] w (aV w fun w' v=>Du w' (L*N) K (L*N) v):=by
 obtain ⟨W,hW⟩:=nm (w.alloc (.cells #[.slice none 0 0] 71));have HX0:=bk hW;have HBW:=bw hW;have HAN:=hD (gN A n c A2 n2 c2 W (h.up HBW.out) hL hM (h2.up HBW.out) hN2);have HRP:Hid (∀ A2 n2 c2 w',Below W.heap.size W w'->V w' w'.heap.size (.sl L 3 [.int]) (.slice A2 n2 c2)->Calls Tryz.prog 64 #[.slice A n c,.slice A2 n2 c2] w' (aV w' fun w' v=>Du w' (L*N) K (L*N) v)):=fun A2 n2 c2 w' hb hv=>wO A n c A2 n2 c2 w' (h.up (aB HBW.out hb)) hv hL hM hN hL;have HW:=hD hW;clear h h2 hW;go_enter Tryz.func33,Tryz.ntmps33;go_wp2_with (rw [HW.out]);(with_reducible refine (HAN.out).mono ?_);rintro e w1 ⟨hb1,v,rfl,hv⟩;obtain ⟨A3,n3,c3,rfl,-,-⟩:=hv.sl_inv;have HV:=hD hv;have HB1:Hid (Below W.heap.size W w1):=hb1;clear hb1 hv;go_wp2_with fail;(with_reducible refine (HRP.out _ _ _ _ HB1.out HV.out).mono ?_);rintro e w2 ⟨hb2,v,rfl,A4,n4,c4,rfl,hv4⟩;have HB2:=hD (aB HB1.out hb2);have HV4:=hD hv4;have HR:=hD (HX0.out.below HB2.out HX0.out.lt);have HB:=hD (HBW.out.trans (HB2.out.mono HBW.out.size));clear hb2 hv4;have p0:=HR.out.c1;have q0:=HR.out.frozen 0;go_wp2_with fail;refine rR (cs:=#[.slice A4 n4 c4]) (HR.out.set_ 0 _) Tryz.underlying71 rfl rfl rfl rfl (by kernel_rfl) ?_;exact ⟨HB.out.setCell (Nat.le_refl _) _,_,rfl,A4,n4,c4,rfl,(HV4.out.set_ HR.out (by simp [Ty.has,Ty.hasAny]) 0 _).more (by simp [World.setCell])⟩
def yY (w:World) (lo:Nat) (A:Option Addr) (n:Nat) (xs:List CX):Prop:=lV w A n xs/\(∀ x∈xs,dY w lo x)/\∀ ad,A=some ad->lo<=ad.block/\ad.block < w.heap.size
def fR (w:World) (o:Option (List bY)) (e:Ending) (w':World):Prop:=
 (match o with
  | some l=>∃ B cc xs,e=.returned (.tuple #[.slice B xs.length cc,.int .i64 0])/\xs.map CX.c=l/\yY w' w.heap.size B xs.length xs
  | none=>e=.returned (.tuple #[.slice none 0 0,.int .i64 13]))/\Below w.heap.size w w'
theorem Bd (hn:n<=1000000000000) (hnc:n<=c) (hr:aG w w.heap.size 1 A n (bs.map dZ)) (hbs:∀ x∈bs,x < 256) (hp:p<=n):
  Rd (w.alloc (.cells #[.slice A n c,.int .i64 (p:Int),.bool false] 54)) w.heap.size A n c (some p)/\fQ (w.alloc (.cells #[.slice A n c,.int .i64 (p:Int),.bool false] 54)) w.heap.size A n c bs:=
 ⟨⟨aK.new w 54 _,hp⟩,⟨hn,hnc,hr.alloc (Nat.le_refl _) _,hbs⟩⟩
theorem sW {w2:World} {o:Obj} (hg:(w.alloc o).grownBy w2 (some w.heap.size)):Below w.heap.size w w2:=
 ((Below.refl w.heap.size w).alloc (Nat.le_refl _) _).grown hg (by simp) (fun k hk=>by injection hk;omega)
theorem pB (A:Option Addr) (n c:Nat) (bs:List Nat) (w:World) (hn:n<=1000000000000) (hnc:n<=c) (hr:aG w w.heap.size 1 A n (bs.map dZ)) (hbs:∀ x∈bs,x < 256):
  Calls Tryz.prog 10 #[.slice A n c] w (fR w (dO bs)):=by
 have hl:bs.length=n:=by have:=hr.1;simpa using this
 obtain ⟨hrd,hin⟩:=Bd (p:=0) hn hnc hr hbs (Nat.zero_le _);have HL:=hD (BK hrd hin);have HF:=hD (yU A n c 0 w (Int.le_refl _) (by omega) hn);clear hrd hin hr hbs;go_enter Tryz.func10,Tryz.ntmps10;go_wp2_with fail;refine (HF.out).mono ?_;rintro e w1 ⟨rfl,rfl⟩;clear HF;go_wp2_with fail;refine (HL.out).mono ?_;rintro e w2 ⟨B,cc,xs,rfl,K,hr2,hB,hrd2,hg⟩;have HB:=hD (sW hg);simp only [Option.bind_some] at K hrd2;have hcp:dO bs=(bW (bB bs) bs 0).bind fun y=>if y.2=bs.length then some y.1 else none:=rfl
 clear HL;generalize bW (bB bs) bs 0=o at K hrd2 hcp;rcases o with _ | ⟨l,q⟩
 ·obtain ⟨z2,hb2⟩:=hrd2;have c2:=hb2.cell 2;simp at c2;have HP:Hid (dO bs=none):=hcp;clear hb2 K hr2 hB hg hl hcp;go_wp2_with fail;go_ret2;unfold fR;rw [HP.out];exact ⟨rfl,HB.out⟩
 ·obtain ⟨hb2,hq⟩:=hrd2;have c1:=hb2.cell 1;have c2:=hb2.cell 2;simp at c1 c2;obtain ⟨hxl,hG⟩:=K _ rfl;have HC:Hid (yY w2 w.heap.size B xs.length xs):=by
   have hle:(w.alloc (.cells #[.slice A n c,.int .i64 ((0:Nat):Int),.bool false] 54)).heap.size=w.heap.size+1:=by simp
   refine ⟨⟨rfl,hr2,fun x hx=>((hG x hx).1).good⟩,fun x hx=>((hG x hx).1).low (by omega),fun ad ha=>⟨by have:=(hB ad ha).1;omega,(hB ad ha).2⟩⟩
  have HX:=hD hxl;simp only at hq;simp only [Option.bind_some] at hcp;clear hb2 K hr2 hB hg hG hxl;by_cases hqn:q=n
  ·have hd:((q:Int) != (n:Int))=false:=by simp;omega
   rw [if_pos (by omega)] at hcp;replace hcp:=hD hcp;go_wp2_with fail;go_ret2;unfold fR;rw [hcp.out];exact ⟨⟨B,cc,xs,rfl,(HX.out).symm,HC.out⟩,HB.out⟩
  ·have hd:((q:Int) != (n:Int))=true:=by simp;omega
   rw [if_neg (by omega)] at hcp;replace hcp:=hD hcp;go_wp2_with fail;go_ret2;unfold fR;rw [hcp.out];exact ⟨rfl,HB.out⟩
theorem aZ {P:Program} {fn:Func} {p u v:Tmp} {ty:TypeId} (h:fn.results=#[.cell p ty,.tmp u,.tmp v]) (tmps:Array Value) (w:World) (g:Nat) (t:TypeId) (cs:Array Value) (fr:Nat × Nat) (d:TypeDesc)
  (hp:tmps.getD p undef=.pointer (some ⟨g,0,none⟩)) (hg:w.heap[g]?=some (.cells cs t fr))
  (hu:P.underlying ty=some d) (hd:(match d with | .struct _ | .array _ _=>true | _=>false)=true) (hi:(P.info? ty).map (·.size)=some cs.size):
  (results fn tmps).run P w=.ok (.tuple #[.agg cs,tmps.getD u undef,tmps.getD v undef]) w:=by
 have hp':tmps[p]?.getD undef=.pointer (some ⟨g,0,none⟩):=by simpa using hp
 simp [results,h,hp',asAddr,run_loadVar_row w g t ty cs fr d hg hu hd hi,Result.andThen]
theorem dY.set1 {k:Nat} (h:dY w lo x) (hg:g < lo) (u:Value):dY (w.setCell ⟨g,k,none⟩ u) lo x:=
 h.same (by simp [World.setCell]) fun i hi=>Below.heap_setCell w ⟨g,k,none⟩ u i (by have:=(h.bl hi).1;show i≠g;omega)
theorem vF (h:dY w lo x) (hg:g < lo) (a b c d e:Value):dY (((((w.setCell ⟨g,0,none⟩ a).setCell ⟨g,1,none⟩ b).setCell ⟨g,2,none⟩ c).setCell ⟨g,3,none⟩ d).setCell ⟨g,4,none⟩ e) lo x:=
 ((((h.set1 hg a).set1 hg b).set1 hg c).set1 hg d).set1 hg e
theorem dY.alloc (h:dY w lo x) (o:Obj):dY (w.alloc o) lo x:=
 h.same (by simp) fun i hi=>Below.heap_alloc w o i (h.bl hi).2
def lT (w:World) (o:Option (bY × Nat)) (e:Ending) (w':World):Prop:=
 (match o with
  | some y=>∃ x:CX,e=.returned (.tuple #[.agg #[.int .i64 x.c.stamp,.slice x.A1 x.c.parents.length x.c1,.slice x.A2 x.c.picks.length x.c2,.string x.c.note,.slice x.A3 x.c.writes.length x.c3],.int .i64 (y.2:Int),.int .i64 0])/\x.c=y.1/\dY w' w.heap.size x
  | none=>e=.returned (.tuple #[.agg #[.int .i64 0,.slice none 0 0,.slice none 0 0,.string ByteArray.empty,.slice none 0 0],.int .i64 0,.int .i64 13]))/\Below w.heap.size w w'
def pv:Option Nat->Value
 | some q=>.int .i64 (q:Int)
 | none=>.int .i64 0
def ev:Option Nat->Value
 | some _=>.int .i64 0
 | none=>.int .i64 13
structure qE {α β:Type} (vals:α->List Value) (pr:α->β) (G:World->Value->α->Prop) (T:TypeId) (k:Nat) (f:Nat->Option (β × Nat)) (w wr:World) (q m i:Nat) (s:Option Nat) (xs:List α) (v:Value):Prop where
 le:i<=m
 len:xs.length=i
 st:(bX f i q).map (·.2)=s
 xs_:∀ z,bX f i q=some z->z.1=xs.map pr/\∀ x∈xs,G wr v x
 own:wr.ownsRow w.heap.size T k v i (xs.flatMap vals)
 bel:Below w.heap.size w wr
section
variable {α β:Type} {vals:α->List Value} {pr:α->β} {G:World->Value->α->Prop} {T:TypeId} {k:Nat} {f:Nat->Option (β × Nat)} {w wr w2:World} {q m i:Nat} {s:Option Nat} {xs:List α} {v v2:Value} {a:α}
theorem qE.step (h:qE vals pr G T k f w wr q m i s xs v) (him:i < m) (ka:∀ y,s.bind f=some y->y.1=pr a)
  (hown:w2.ownsRow w.heap.size T k v2 (i+1) (xs.flatMap vals++vals a)) (hb:Below w.heap.size w w2) (hG:(∀ x∈xs,G wr v x)->(∃ y,s.bind f=some y)->∀ x,x∈xs++[a]->G w2 v2 x):qE vals pr G T k f w w2 q m (i+1) ((s.bind f).map (·.2)) (xs++[a]) v2:=by
 refine ⟨him,by rw [List.length_append,h.len];rfl,?_,fun z hz=>?_,by rw [List.flatMap_append,List.flatMap_cons,List.flatMap_nil,List.append_nil];exact hown,hb⟩
 ·rw [dC,<- h.st]
  cases bX f i q with
  | none=>rfl
  | some y=>
   show ((f y.2).map _).map _=(f y.2).map _
   cases f y.2 <;> rfl
 ·rw [dC] at hz;obtain ⟨y,hy,hz⟩:=Option.bind_eq_some_iff.1 hz;obtain ⟨x,hx,rfl⟩:=Option.map_eq_some_iff.1 hz;obtain ⟨e1,eG⟩:=h.xs_ y hy;have e2:=h.st;rw [hy] at e2;have e4:s.bind f=some x:=by rw [<- e2];exact hx
  have e3:=ka x e4;refine ⟨?_,hG eG ⟨x,e4⟩⟩;rw [List.map_append,<- e1,List.map_cons,List.map_nil,<- e3]
theorem qE.done {o:Option (List β × Nat)} (h:qE vals pr G T k f w wr q m i s xs v) (he:i=m\/s=none) (ho:o=bX f m q):
  ∃ B cc,v=.slice B xs.length cc/\(∀ z,o=some z->z.1=xs.map pr/\∀ x∈xs,G wr v x)/\cB wr w.heap.size k B xs.length (xs.flatMap vals)/\o.map (·.2)=s:=by
 obtain ⟨B,cc,rfl,hr,hB⟩:=gO h.own;have hlen:=h.len;subst hlen;have key:(∀ z,o=some z->z.1=xs.map pr/\∀ x∈xs,G wr (.slice B xs.length cc) x)/\o.map (·.2)=s:=by
  rcases he with rfl | he
  ·rw [ho];exact ⟨h.xs_,h.st⟩
  ·have h1:bX f xs.length q=none:=by
    have:=h.st;rw [he] at this;simpa using this
   rw [ho,eX m xs.length q h.le h1,he];exact ⟨(fun z hz=>by cases hz),rfl⟩
 exact ⟨B,cc,rfl,key.1,⟨hr,hB⟩,key.2⟩
end
def xY (w:World) (o:Option (List Int × Nat)) (e:Ending) (w':World):Prop:=
 ∃ B cc,∃ xs:List Int,e=.returned (.tuple #[.slice B xs.length cc,pv (o.map (·.2)),ev (o.map (·.2))])/\(∀ z,o=some z->z.1=xs)/\cB w' w.heap.size 1 B xs.length (xs.map (Value.int .i64))/\Below w.heap.size w w'
theorem rD {wr:World} {q m i:Nat} {s:Option Nat} {xs:List Int} {v:Value} {o:Option (List Int × Nat)} (h:qE (fun x=>[Value.int .i64 x]) id (fun _ _ _=>True) 3 1 (bC bs) w wr q m i s xs v) (he:i=m\/s=none) (ho:o=bX (bC bs) m q):
  xY w o (.returned (.tuple #[v,pv s,ev s])) wr:=by
 obtain ⟨B,cc,rfl,h1,h2,h3⟩:=h.done he ho;rw [<- h3];refine ⟨B,cc,xs,rfl,fun z hz=>((h1 z hz).1).trans (List.map_id xs),?_,h.bel⟩;rw [Bo] at h2;exact h2
theorem sO (hl:bs.length=n) (hp:p<=n):pY (jT bs (p:Int))=.returned (.tuple #[.int .i64 (((bC bs p).map (·.1)).getD 0),pv ((bC bs p).map (·.2)),ev ((bC bs p).map (·.2))]):=by
 rw [nK hl hp]
 cases bC bs p <;> rfl
theorem oE (hn:n<=1000000000000) (hp:p<=n) (hr:aG w w.heap.size 1 A n (bs.map dZ)) (hbs:∀ x∈bs,x < 256):
  Calls Tryz.prog 84 #[.slice A n c,.int .i64 (p:Int)] w (xY w (bW (bC bs) bs p)):=by
 have hl:bs.length=n:=by have:=hr.1;simpa using this
 have HC:=hD (hY A n c (p:Int) bs w hn w.heap.size hr hbs);rw [sQ hl hp] at HC;have hlp:bW (bC bs) bs p=(cV bs p).bind fun y=>bX (bC bs) y.1 y.2:=rfl;have hcl:∀ m q,cV bs p=some (m,q)->m<=1000000000000/\q<=n:=fun m q h=>by
  unfold cV at h;obtain ⟨⟨z,q2⟩,hz,hc⟩:=Option.bind_eq_some_iff.1 h
  split at hc
  ·cases hc
  ·injection hc with hc;injection hc with c1 c2;have c1':z.toNat=m:=c1;have c2':q2=q:=c2;have:=eB (by omega) hz;omega
 generalize cV bs p=o at HC hlp hcl;have HR:=hD hr;have HS:=hD hbs;have HL:=hD hl;clear hr hbs hl;rcases o with _ | ⟨m,q⟩
 ·have HLP:=hD hlp;clear hlp hcl;simp only [sB] at HC;go_enter Tryz.func84,Tryz.ntmps84;go_wp2_with fail;refine (HC.out).mono ?_;rintro e w1 ⟨rfl,rfl⟩;clear HC;go_wp2_with fail;refine wp_loop_rounds 1 ?_;rw [rounds_succ];go_wp2_with fail
  go_ret3
  rw [HLP.out];exact ⟨none,0,[],rfl,(fun z hz=>by cases hz),⟨aG.none_,fun ad h=>by cases h⟩,Below.refl _ _⟩
 ·obtain ⟨hm,hq⟩:=hcl m q rfl;have hcnt:Hid (bW (bC bs) bs p=bX (bC bs) m q):=hlp;clear hlp hcl;simp only [sB] at HC;obtain ⟨i0,hi0,hz0,hz1,hz2⟩:=info_parts rE;have R0:Hid (qE (fun x=>[Value.int .i64 x]) id (fun _ _ _=>True) 3 1 (bC bs) w w q m 0 (some q) [] (.slice none 0 0)):=
   ⟨Nat.zero_le _,rfl,rfl,(fun z hz=>by injection hz with hz;rw [<- hz];exact ⟨rfl,fun x hx=>by cases hx⟩),⟨rfl,.inl ⟨rfl,rfl⟩⟩,Below.refl _ _⟩
  go_enter Tryz.func84,Tryz.ntmps84;go_wp2_with fail;refine (HC.out).mono ?_;rintro e w1 ⟨rfl,rfl⟩;clear HC;go_wp2_with fail;go_loopw [8,9,10,11,12] (fun pw ew v iv xw wr=>∃ (i:Nat) (s':Option Nat) (xs:List Int),iv=.int .i64 (i:Int)/\pw=pv s'/\ew=ev s'/\(∀ q',s'=some q'->q'<=n)/\qE (fun x=>[Value.int .i64 x]) id (fun _ _ _=>True) 3 1 (bC bs) w wr q m i s' xs v) (fun _ _ _ iv _ _=>((m:Int) - intOf iv).toNat)
  case atStart=>exact ⟨0,some q,[],rfl,rfl,rfl,(fun q' h=>by injection h;omega),R0.out⟩
  case round=>
   obtain ⟨i,s',xs,rfl,rfl,rfl,hle',hR⟩:=hrel;have HQ:=hD hR;have hle:=hR.le;clear hR R0;by_cases him:i < m
   ·have dim:decide ((i:Int) < (m:Int))=true:=by simp;omega
    rcases s' with _ | p'
    ·simp only [pv,ev];go_wp2_with fail
     go_ret3
     exact rD (HQ.out) (.inr rfl) (hcnt.out)
    ·have hp':=hle' p' rfl;have hrR:aG wr w.heap.size 1 A n (bs.map dZ):=(HR.out).below (HQ.out).bel;have HI:=hD (eH A n c (p':Int) bs wr hn w.heap.size hrR (HS.out));rw [sO (HL.out) hp'] at HI;have hnext:∀ q',((some p').bind (bC bs)).map (·.2)=some q'->q'<=n:=fun q' h=>by
      obtain ⟨y,hy,rfl⟩:=Option.map_eq_some_iff.1 h;have:=eB (p:=p') (q:=y.2) (x:=y.1) (by rw [HL.out];exact hp') hy;rw [HL.out] at this;exact this
     have hnx:=hD hnext;have hsz:=(HQ.out).bel.size;have ka:Hid (∀ y,(some p').bind (bC bs)=some y->y.1=id (((bC bs p').map (·.1)).getD 0)):=fun y hy=>by
      have hy':bC bs p'=some y:=hy;rw [hy'];rfl
     clear hrR hle' hnext;simp only [pv,ev];go_wp2_with fail;refine (HI.out).mono ?_;rintro e w2 ⟨rfl,rfl⟩;clear HI;generalize hx:((bC bs p').map (·.1)).getD 0=x at ka;replace hx:=hD hx;go_wp2_with (at_builtin;refine aF _ rfl (.tmp 36) (.tmp 38) 36 36 rfl w.heap.size 3 i0 (.int .i64 0) 1 8 Tryz.underlying36 hi0 hz0 hz1 hz2 rfl (by decide) _ _ _ rfl (((HQ.out).own).alloc _) _ 1 _ rfl (bR _ Tryz.underlying36 [_] 1 1 1 3 rfl (fun u hu=>by simp at hu;subst hu;rfl)) (by unfold maxLen;omega) (by omega) (by simp;omega) ?_);intro v3 w3 hown3 hg3;have R3:=hD ((HQ.out).step him (ka.out) hown3 ((((HQ.out).bel.alloc hsz _)).grown hg3.grown (by simp;omega) (fun g hv=>iY (HQ.out).own hv)) (fun _ _ _ _=>trivial));clear hown3 hg3 hsz hx ka;go_wp2_with fail;go_roundw
     case rel=>exact ⟨i+1,_,_,by go_num,rfl,rfl,hnx.out,R3.out⟩
     case measure=>simp [intOf];omega
   ·have dim:decide ((i:Int) < (m:Int))=false:=by simp;omega
    go_wp2_with fail
    go_ret3
    exact rD (HQ.out) (.inl (by omega)) (hcnt.out)
end
end Go.Proofs.YtkgpoimmniojjaaGreat
