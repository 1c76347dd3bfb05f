/- No condition. -/
import Derived.Test.YtkgpoimmniojjaaGreatZaAJ
import Derived.Test.YtkgpoimmniojjaaGreatZaAK
namespace Go.Proofs.YtkgpoimmniojjaaGreat
set_option linter.unusedVariables false
set_option linter.unusedSimpArgs false
set_option maxRecDepth 100000
set_option maxHeartbeats 16000000
section
open Go.RowKit
variable {w wr:World} {n r q base c g m i:Nat} {bs:List Nat} {s:Option Nat} {e:TypeId} {xs:List Value} {A:Option Addr} {α:Type} {a:Int}
theorem yF (w:World) {p:Nat} (hp:p < 256) (hq:q < 256):
  (convert 25 9 (.slice (some ⟨w.heap.size,0,none⟩) 2 2)).run Tryz.prog (w.alloc (.cells #[.int .u8 (p:Int),.int .u8 (q:Int)] 5))=.ok (.string ⟨#[UInt8.ofNat p,UInt8.ofNat q]⟩) (w.alloc (.cells #[.int .u8 (p:Int),.int .u8 (q:Int)] 5)):=by
 have hk:=aK.new w 5 #[.int .u8 (p:Int),.int .u8 (q:Int)];exact run_convert_bytes_back (P:=Tryz.prog) (w.alloc (.cells #[.int .u8 (p:Int),.int .u8 (q:Int)] 5)) 25 9 5 ⟨w.heap.size,0,none⟩ 2 [UInt8.ofNat p,UInt8.ofNat q] Tryz.underlying25 Tryz.underlying5 Tryz.underlying9 (fun j hj=>by
  rw [Addr.add_lit,Nat.zero_add,hk.cell];have:j=0\/j=1:=by simp at hj;omega
  rcases this with rfl | rfl
  ·show some (Value.int .u8 (p:Int))=some (Value.int .u8 ((UInt8.ofNat p).toNat:Int));rw [UInt8.toNat_ofNat_of_lt' (by show _ < 256;omega)]
  ·show some (Value.int .u8 (q:Int))=some (Value.int .u8 ((UInt8.ofNat q).toNat:Int));rw [UInt8.toNat_ofNat_of_lt' (by show _ < 256;omega)])
def DN (w:World) (e:Ending) (w':World):Prop:=∃ s:ByteArray,e=.returned (.string s)/\w=w'/\s.size<=10
theorem tQ (x:Int) (w:World):Calls Tryz.prog 73 #[.int .i64 x] w (DN w):=by
 have HM:Hid (∀ z m w',m<=1000000000000->Calls Tryz.prog 9 #[.int .i64 z,.int .i64 m] w' (Is w' (.int .i64 (nJ z m)))):=fun z m w' h=>dM z m w' h;go_enter Tryz.func73,Tryz.ntmps73;go_wp2_with fail;refine (HM.out _ _ _ (by omega)).mono ?_;rintro e w1 ⟨rfl,rfl⟩;generalize nJ _ _=q;go_wp2_with fail
 all_goals
  go_ret;exact ⟨_,rfl,rfl,by decide⟩
theorem qH (k x:Int) (w:World):Calls Tryz.prog 70 #[.int .i64 k,.int .i64 x] w (DN w):=by
 have HM:Hid (∀ z m w',m<=1000000000000->Calls Tryz.prog 9 #[.int .i64 z,.int .i64 m] w' (Is w' (.int .i64 (nJ z m)))):=fun z m w' h=>dM z m w' h;go_enter Tryz.func70,Tryz.ntmps70;go_wp2_with fail
 all_goals
  refine (HM.out _ _ _ (by omega)).mono ?_;rintro e w1 ⟨rfl,rfl⟩;generalize nJ _ _=q;go_wp2_with fail
  all_goals
   go_ret;exact ⟨_,rfl,rfl,by decide⟩
theorem uZ (x:Int) (w:World) (hx:aO x):Calls Tryz.prog 74 #[.int .i64 x] w (fun e w'=>Below w.heap.size w w'/\∃ s:ByteArray,e=.returned (.string s)/\s.size<=10):=by
 have HM:Hid (∀ z m w',m<=1000000000000->Calls Tryz.prog 9 #[.int .i64 z,.int .i64 m] w' (Is w' (.int .i64 (nJ z m)))):=fun z m w' h=>dM z m w' h;go_enter Tryz.func74,Tryz.ntmps74;go_wp2_with fail;refine (HM.out _ _ _ (by omega)).mono ?_;rintro e w1 ⟨rfl,rfl⟩;have h1:=gA x 26;obtain ⟨a,ha⟩:=nm (nJ x 26);rw [ha] at h1 ⊢;have h2:0<=a:=h1.1;have h3:a < 26:=h1.2 (by omega);clear h1 ha;go_wp2_with fail;refine (HM.out _ _ _ (by omega)).mono ?_;rintro e w1 ⟨rfl,rfl⟩;have k1:=gA (wrap64 (x.tdiv 26)) 25;obtain ⟨b,hb⟩:=nm (nJ (wrap64 (x.tdiv 26)) 25);rw [hb] at k1 ⊢;obtain ⟨p,rfl⟩:∃ p:Nat,a=p:=⟨a.toNat,by omega⟩;obtain ⟨q,rfl⟩:∃ q:Nat,b=q:=⟨b.toNat,by have:=k1.1;omega⟩;have h4:q < 25:=by have:=k1.2 (by omega);omega
 have h5:p < 26:=by omega
 have hst:=yF w (p:=97+p) (q:=98+q) (by omega) (by omega);rw [show ((97+p:Nat):Int)=97+(p:Int) by omega,show ((98+q:Nat):Int)=98+(q:Int) by omega] at hst;clear k1 hb h2 h3 hx;go_wp2_with fail;go_ret;exact ⟨by repeat (first | exact Below.refl _ _ | refine bK ?_ _),_,rfl,by show 2<=10;omega⟩
theorem nY {N K M:Nat} (nn:Int) (f:Bool) (s:ByteArray) (r:Int) (A:Option Addr) (n c:Nat) (x:Int) (w:World) (h:V w w.heap.size (.sl N 154 (dD K M 152)) (.slice A n c)) (hN:N<=1000000000) (hx:aO x):
  Calls Tryz.prog 71 #[.agg #[.int .i64 nn,.bool f,.string s,.int .i64 r],.agg #[.slice A n c],.int .i64 x] w (aV w fun _ v=>sZ 10 v):=by
 obtain ⟨W,hW⟩:=nm (((w.alloc (.cells #[.int .i64 nn,.bool f,.string s,.int .i64 r] 81)).alloc (.cells #[.slice A n c] 71)).alloc (.cells #[.int .i64 0,.bool false,.string ⟨#[]⟩,.int .i64 0] 81));have HX0:Hid (aK W w.heap.size 81 #[.int .i64 nn,.bool f,.string s,.int .i64 r]):=by subst hW;exact (((aK.new w _ _).alloc _).alloc _)
 have HX1:Hid (aK W (w.heap.size+1) 71 #[.slice A n c]):=by subst hW;exact ((aK.new1 w _ _ _).alloc _)
 have HX2:Hid (aK W (w.heap.size+1+1) 81 #[.int .i64 0,.bool false,.string ⟨#[]⟩,.int .i64 0]):=by subst hW;exact (aK.new2 w _ _ _ _)
 have HBW:Hid (Below w.heap.size w W):=by subst hW;exact (bK (bK (bK (Below.refl _ w) _) _) _)
 have HM4:Hid (∀ z w',Calls Tryz.prog 9 #[.int .i64 z,.int .i64 4] w' (Is w' (.int .i64 (nJ z 4)))):=fun z w'=>dM z 4 w' (by omega);have HM2:Hid (∀ z w',Calls Tryz.prog 9 #[.int .i64 z,.int .i64 2] w' (Is w' (.int .i64 (nJ z 2)))):=fun z w'=>dM z 2 w' (by omega);have HM6:Hid (∀ z w',Calls Tryz.prog 9 #[.int .i64 z,.int .i64 6] w' (Is w' (.int .i64 (nJ z 6)))):=fun z w'=>dM z 6 w' (by omega);have HM3:Hid (∀ z w',Calls Tryz.prog 9 #[.int .i64 z,.int .i64 3] w' (Is w' (.int .i64 (nJ z 3)))):=fun z w'=>dM z 3 w' (by omega);have HWD:Hid (∀ k z w',Calls Tryz.prog 70 #[.int .i64 k,.int .i64 z] w' (DN w')):=fun k z w'=>qH k z w';have HEN:Hid (∀ k,Calls Tryz.prog 67 #[.agg #[.slice A n c],.int .i64 k] W (aV W fun w' v=>V w' w'.heap.size (.sl N 3 [.int]) v)):=fun k=>lM A n c k W (h.up HBW.out) hN;have HPI:Hid (∀ A n c z w',V w' w'.heap.size (.sl N 3 [.int]) (.slice A n c)->Calls Tryz.prog 68 #[.slice A n c,.int .i64 z] w' (fun e w2=>∃ z,e=.returned (.int .i64 z)/\aO z/\w'=w2)):=fun A n c z w' hv=>iX A n c z w' hv hN;clear h;obtain ⟨p0,p1,p2,p3⟩:=HX0.out.c4;have q0:=HX1.out.c1;obtain ⟨r0,r1,r2,r3⟩:=HX2.out.c4;obtain ⟨t0,t1,t2,t3⟩:=HX2.out.f4;have HW:=hD hW;clear hW;have hx1:=hx.1;have hx2:=hx.2;clear hx;go_enter Tryz.func71,Tryz.ntmps71;go_wp2_with (rw [HW.out])
 repeat' (first
  | ((with_reducible refine (HM4.out _ _).mono ?_);rintro e w1 ⟨rfl,rfl⟩;go_wp2_with fail)
  | ((with_reducible refine (HM2.out _ _).mono ?_);rintro e w1 ⟨rfl,rfl⟩;go_wp2_with fail)
  | ((with_reducible refine (HM6.out _ _).mono ?_);rintro e w1 ⟨rfl,rfl⟩;go_wp2_with fail)
  | ((with_reducible refine (HWD.out _ _ _).mono ?_);rintro e w1 ⟨s9,rfl,rfl,hs9⟩;go_wp2_with fail)
  | ((with_reducible refine (HEN.out _).mono ?_);rintro e w5 ⟨hb5,v,rfl,hv⟩;obtain ⟨A2,n2,c2,rfl,-,-⟩:=hv.sl_inv;have HV:=hD hv;have HB5:=hD (aB HBW.out hb5);have HR2:=hD (HX2.out.below hb5 HX2.out.lt);clear hb5 hv p0 p1 p2 p3 q0 r0 r1 r2 r3 t0 t1 t2 t3;have r0:=HR2.out.cell 0;have r1:=HR2.out.cell 1;have r2:=HR2.out.cell 2;have r3:=HR2.out.cell 3;simp at r0 r1 r2 r3;have t0:=HR2.out.frozen 0;have t1:=HR2.out.frozen 1;have t2:=HR2.out.frozen 2;have t3:=HR2.out.frozen 3;go_wp2_with fail;(with_reducible refine (HPI.out A2 n2 c2 _ _ HV.out).mono ?_);rintro e w6 ⟨z9,rfl,hz9,rfl⟩;go_wp2_with fail;(all_goals (first | ((with_reducible refine (HM3.out _ _).mono ?_);rintro e w1 ⟨rfl,rfl⟩;go_wp2_with fail;refine rR (HR2.out.val4 _ _ _ _) Tryz.underlying81 rfl rfl rfl rfl (by kernel_rfl) ?_;exact ⟨aL HB5.out (by omega) _ _ _ _,_,rfl,_,_,_,_,rfl,(by first | assumption | (unfold aO;omega)),(by first | exact Nat.zero_le _ | assumption | decide),(by first | assumption | (unfold aO;omega))⟩) | (refine rR (HR2.out.val4 _ _ _ _) Tryz.underlying81 rfl rfl rfl rfl (by kernel_rfl) ?_;exact ⟨aL HB5.out (by omega) _ _ _ _,_,rfl,_,_,_,_,rfl,(by first | assumption | (unfold aO;omega)),(by first | exact Nat.zero_le _ | assumption | decide),(by first | assumption | (unfold aO;omega))⟩))))
  | (refine rR (HX2.out.val4 _ _ _ _) Tryz.underlying81 rfl rfl rfl rfl (by kernel_rfl) ?_;exact ⟨aL HBW.out (by omega) _ _ _ _,_,rfl,_,_,_,_,rfl,(by first | assumption | (unfold aO;omega)),(by first | exact Nat.zero_le _ | assumption | decide),(by first | assumption | (unfold aO;omega))⟩))
def vW (w:World) (r:Nat) (A:Option Addr) (n c:Nat) (o:Option (List Int × Nat)) (e:Ending) (w':World):Prop:=
 ∃ B cc,∃ xs:List Int,e=.returned (.slice B xs.length cc)/\(∀ z,o=some z->z.1=xs)/\aG w' w'.heap.size 1 B xs.length (xs.map (Value.int .i64))/\(∀ ad,B=some ad->w.heap.size<=ad.block/\ad.block < w'.heap.size)/\Rd w' r A n c (o.map (·.2))/\w.grownBy w' (some r)
structure iI (w0 w:World) (r:Nat) (A:Option Addr) (n c:Nat) (bs:List Nat) (s:Option Nat):Prop where
 rd:Rd w r A n c s
 inn:fQ w r A n c bs
 gr:w0.grownBy w (some r)
 old:r < w0.heap.size
section
variable {w0 w w':World} {r n c:Nat} {A:Option Addr} {bs:List Nat} {s s':Option Nat}
theorem iI.next (h:iI w0 w r A n c bs s) (hr:Rd w' r A n c s') (hg:w.grownBy w' (some r)):iI w0 w' r A n c bs s':=
 ⟨hr,h.inn.grown hg (Nat.le_of_lt h.rd.lt),h.gr.trans hg,h.old⟩
theorem iI.grows {v v':Value} (h:iI w0 w r A n c bs s) (hg:aR w w' v v') (hv:∀ g,v.ownBlock=some g->w0.heap.size<=g):iI w0 w' r A n c bs s:=by
 have ho:=h.old;have hne:some r≠v.ownBlock:=fun e=>by have:=hv r e.symm;omega
 refine ⟨h.rd.grown hg.grown hne,⟨h.inn.hn,h.inn.hnc,h.inn.hr.keep (fun p hp=>World.cell?_of_block (hg.grown.block p.block (by have:=h.rd.lt;omega) (fun e=>by have:=hv p.block e.symm;omega))),h.inn.hbs⟩,?_,h.old⟩;refine ⟨hg.grown.os.trans h.gr.os,hg.grown.tape.trans h.gr.tape,hg.grown.output.trans h.gr.output,Nat.le_trans h.gr.size hg.grown.size,fun i hi hne2=>(hg.grown.block i (Nat.lt_of_lt_of_le hi h.gr.size) (fun e=>?_)).trans (h.gr.block i hi hne2)⟩;have:=hv i e.symm;omega
theorem iI.alloc (h:iI w0 w r A n c bs s) (o:Obj):iI w0 (w.alloc o) r A n c bs s:=
 ⟨h.rd.alloc o,h.inn.alloc (Nat.le_of_lt h.rd.lt) o,eW h.gr o,h.old⟩
theorem iI.drewN (h:iI w0 w r A n c bs s) (k:Nat):iI w0 (w.drewN k) r A n c bs s:=⟨h.rd,⟨h.inn.hn,h.inn.hnc,h.inn.hr,h.inn.hbs⟩,bS h.gr k,h.old⟩
end
theorem iY {size:Nat} {v:Value} (h:w.ownsRow base e size v n xs) (hv:v.ownBlock=some g):base<=g:=by
 rcases h.2 with ⟨rfl,_⟩ | ⟨g',cap,cur,rfl,hb,_⟩
 ·simp [Value.ownBlock] at hv
 ·have:g'=g:=by simpa [Value.ownBlock] using hv
  omega
theorem wS {size:Nat} {v:Value} (h:w.ownsRow base e size v n xs) (hr:r < base):v.ownBlock≠some r:=fun hv=>by have:=iY h hv;omega
theorem sG {size:Nat} {v:Value} (h:w.ownsRow base e size v n xs) (hv:v.ownBlock=some g):g < w.heap.size:=by
 rcases h.2 with ⟨rfl,_⟩ | ⟨g',cap,cur,rfl,hb,hg,_⟩
 ·simp [Value.ownBlock] at hv
 ·have e1:g'=g:=by simpa [Value.ownBlock] using hv
  subst e1;exact (show aK w g' e cur from hg).lt
theorem gO {size:Nat} {v:Value} (h:w.ownsRow base e size v n xs):∃ A c,v=.slice A n c/\aG w w.heap.size size A n xs/\(∀ a,A=some a->base<=a.block/\a.block < w.heap.size):=by
 obtain ⟨A,c,rfl,h1,h2⟩:=aS h;refine ⟨A,c,rfl,h1,fun a ha=>⟨(h2 a ha).1,?_⟩⟩;obtain ⟨b,off,spot⟩:=a;obtain ⟨-,h4,h5⟩:=h2 _ ha;have h4:spot=none:=h4;have h5:off=0:=h5;subst ha h4 h5;exact sG h (by simp [Value.ownBlock])
theorem eX {α:Type} {f:Nat->Option (α × Nat)}:∀ (m i p:Nat),i<=m->bX f i p=none->bX f m p=none
 | 0,i,p,hi,h=>by
  obtain rfl:i=0:=by omega
  exact h
 | m+1,i,p,hi,h=>by
  rcases Nat.lt_or_ge m i with h1 | h1
  ·obtain rfl:i=m+1:=by omega
   exact h
  ·rw [dC,eX m i p h1 h];rfl
structure iJ (w wr:World) (r:Nat) (A:Option Addr) (n c:Nat) (bs:List Nat) (q m i:Nat) (s:Option Nat) (xs:List Int) (v:Value):Prop where
 le:i<=m
 len:xs.length=i
 st:(bX (bC bs) i q).map (·.2)=s
 xs_:∀ z,bX (bC bs) i q=some z->z.1=xs
 own:wr.ownsRow w.heap.size 3 1 v i (xs.map (Value.int .i64))
 mid:iI w wr r A n c bs s
theorem iJ.step {w2:World} {xs:List Int} {v v2:Value} (h:iJ w wr r A n c bs q m i s xs v) (him:i < m) (ka:∀ y,s.bind (bC bs)=some y->y.1=a)
  (hown:w2.ownsRow w.heap.size 3 1 v2 (i+1) (xs.map (Value.int .i64)++[.int .i64 a])) (hm:iI w w2 r A n c bs ((s.bind (bC bs)).map (·.2))):iJ w w2 r A n c bs q m (i+1) ((s.bind (bC bs)).map (·.2)) (xs++[a]) v2:=by
 refine ⟨him,by rw [List.length_append,h.len];rfl,?_,fun z hz=>?_,by rw [List.map_append];exact hown,hm⟩
 ·rw [dC,<- h.st]
  cases bX (bC bs) i q with
  | none=>rfl
  | some y=>
   show ((bC bs y.2).map _).map _=(bC bs y.2).map _
   cases bC bs y.2 <;> rfl
 ·rw [dC] at hz;obtain ⟨y,hy,hz⟩:=Option.bind_eq_some_iff.1 hz;obtain ⟨x,hx,rfl⟩:=Option.map_eq_some_iff.1 hz;have e1:=h.xs_ y hy;have e2:=h.st;rw [hy] at e2;have e3:=ka x (by rw [<- e2];exact hx);rw [e1,e3]
theorem iJ.done {xs:List Int} {v:Value} {o:Option (List Int × Nat)} (h:iJ w wr r A n c bs q m i s xs v) (he:i=m\/s=none) (ho:o=bX (bC bs) m q):vW w r A n c o (.returned v) wr:=by
 obtain ⟨B,cc,rfl,hr,hB⟩:=gO h.own;have hlen:=h.len;have key:(∀ z,o=some z->z.1=xs)/\o.map (·.2)=s:=by
  rcases he with rfl | he
  ·rw [ho];exact ⟨h.xs_,h.st⟩
  ·have h1:bX (bC bs) i q=none:=by
    have:=h.st;rw [he] at this;simpa using this
   rw [ho,eX m i q h.le h1,he];exact ⟨(fun z hz=>by cases hz),rfl⟩
 subst hlen;refine ⟨B,cc,xs,rfl,key.1,hr,hB,?_,h.mid.gr⟩;rw [key.2];exact h.mid.rd
theorem rE:(Tryz.prog.info? 3).map (fun i=>(i.zero,i.size,i.bytes))=some (some (.int .i64 0),1,8):=by kernel_rfl
theorem mL {f:Nat->Option (α × Nat)} (h:(s.bind (bC bs)).map (·.2)=none):s.bind (bW f bs)=none:=by
 rcases s with _ | p
 ·rfl
 ·simp only [Option.bind_some,Option.map_eq_none_iff] at h;show bW f bs p=none;unfold bW cV;rw [h];rfl
theorem pG {f:Nat->Option (α × Nat)} (h:(s.bind (bC bs)).map (·.2)=some q) (k:∀ y,s.bind (bC bs)=some y->y.1=a):
  s.bind (bW f bs)=if a < 0\/(bs.length:Int) - q < a then none else bX f a.toNat q:=by
 rcases s with _ | p
 ·cases h
 ·obtain ⟨y,hy,rfl⟩:=Option.map_eq_some_iff.1 h;rw [<- k y hy];simp only [Option.bind_some] at hy;show bW f bs p=_;unfold bW cV;rw [hy];show Option.bind (if _ then _ else _) _=_
  split
  ·rfl
  ·rfl
theorem map_none {β:Type} {f:α->β} {o:Option α} (h:o=none):o.map f=none:=by rw [h];rfl
theorem vC (h:Rd w r A n c s) (hi:fQ w r A n c bs):
  Calls Tryz.prog 42 #[.pointer (some ⟨r,0,none⟩),.func (.func 41) #[.pointer (some ⟨r,0,none⟩)] #[]] w (vW w r A n c (s.bind (bW (bC bs) bs))):=by
 have hl:=hi.len;have hn:=hi.hn;have L0:=hD (⟨h,hi,World.grownBy.refl w _,h.lt⟩:iI w w r A n c bs s);clear h hi;go_enter Tryz.func42,Tryz.ntmps42;go_wp2_with fail;refine (dL (L0.out).rd (L0.out).inn).mono ?_;rintro e w1 ⟨a,rfl,K1,hrd,hg⟩;replace K1:=hD K1;have L1:=hD ((L0.out).next hrd hg);clear hrd hg L0;generalize hs1:(Option.map (fun x=>x.snd) (s.bind (bC bs)))=s1 at L1;rcases s1 with _ | q
 ·obtain ⟨z1,hb1⟩:=(L1.out).rd;have c2:=hb1.cell 2;have f2:=hb1.frozen 2;simp at c2;have HB:=hD hb1;have HS:=hD hs1;clear hb1 hs1 hl;go_wp2_with fail;go_quiet (fail);go_wp2_with fail;go_ret;rw [mL (HS.out)];exact ⟨none,0,[],rfl,(fun z hz=>by cases hz),aG.none_,(fun ad h=>by cases h),⟨_,((HB.out).drewN _).set_ 2 _⟩,aW (bS (L1.out).gr _) (.inl rfl) _⟩
 ·obtain ⟨hb1,hq⟩:=(L1.out).rd;have hcnt:=pG (f:=bC bs) hs1 (K1.out);have c0:=hb1.cell 0;have c1:=hb1.cell 1;have c2:=hb1.cell 2;have f2:=hb1.frozen 2;simp at c0 c1 c2;have HB:=hD hb1;clear hb1 hs1 K1;by_cases hbad:a < 0\/(bs.length:Int) - q < a
  ·rw [if_pos hbad] at hcnt;replace hcnt:=hD hcnt;rw [hl] at hbad;have hd:(decide (a < 0)=true)\/(decide (a < 0)=false/\decide ((n:Int) - q < a)=true):=by simp;omega
   clear hl;rcases hd with d1 | ⟨d1,d2⟩
   all_goals
    go_wp2_with fail;go_quiet (fail);go_wp2_with fail;go_ret;rw [hcnt.out];exact ⟨none,0,[],rfl,(fun z hz=>by cases hz),aG.none_,(fun ad h=>by cases h),⟨_,((HB.out).drewN _).set_ 2 _⟩,aW (bS (L1.out).gr _) (.inl rfl) _⟩
  ·rw [if_neg hbad] at hcnt;rw [hl] at hbad;obtain ⟨m,rfl⟩:=Int.eq_ofNat_of_zero_le (show 0<=a by omega);have d1:decide ((m:Int) < 0)=false:=by simp
   have d2:decide ((n:Int) - q < (m:Int))=false:=by simp;omega
   have hm:m<=1000000000000:=by omega
   rw [Int.toNat_natCast] at hcnt;replace hcnt:=hD hcnt;clear hl hbad;obtain ⟨i0,hi0,hz0,hz1,hz2⟩:=info_parts rE;have R0:Hid (∀ nq,iJ w (w1.drewN nq) r A n c bs q m 0 (some q) [] (.slice none 0 0)):=fun nq=>
    ⟨Nat.zero_le _,rfl,rfl,(fun z hz=>by injection hz with hz;rw [<- hz]),⟨rfl,.inl ⟨rfl,rfl⟩⟩,(L1.out).drewN nq⟩
   clear L1 HB;go_wp2_with fail;go_quiet (fail);go_wp2_with fail;clear c0 c1 c2 f2 d1 d2;clear hq;go_loopw [6,7] (fun v iv wr=>∃ (i:Nat) (s':Option Nat) (xs:List Int),iv=.int .i64 (i:Int)/\iJ w wr r A n c bs q m i s' xs v) (fun _ iv _=>((m:Int) - intOf iv).toNat)
   case atStart=>exact ⟨0,some q,[],rfl,(R0.out) nq⟩
   case round=>
    obtain ⟨i,s',xs,rfl,hR⟩:=hrel;have HR:=hD hR;have hle:=hR.le;clear hR R0;by_cases him:i < m
    ·have dim:decide ((i:Int) < (m:Int))=true:=by simp;omega
     rcases s' with _ | p
     ·obtain ⟨z1,hb1⟩:=(HR.out).mid.rd;have c2:=hb1.cell 2;simp at c2;clear hb1;go_wp2_with fail;go_ret;exact (HR.out).done (.inr rfl) (hcnt.out)
     ·have hb1:=(HR.out).mid.rd.1;have c2:=hb1.cell 2;simp at c2;clear hb1;go_wp2_with fail;refine (dL (HR.out).mid.rd (HR.out).mid.inn).mono ?_;rintro e w2 ⟨a,rfl,K2,hrd,hg⟩;replace K2:=hD K2;have L2:=hD ((HR.out).mid.next hrd hg);have O2:=hD ((HR.out).own.kept hg (.inr (wS (HR.out).own (HR.out).mid.old)));have hs2:=(L2.out).gr.size;clear hrd hg c2;go_wp2_with (at_builtin;refine aF _ rfl (.tmp 47) (.tmp 50) 36 36 rfl w.heap.size 3 i0 (.int .i64 0) 1 8 Tryz.underlying36 hi0 hz0 hz1 hz2 rfl (by decide) _ _ _ rfl ((O2.out).alloc _) _ 1 _ rfl (bR _ Tryz.underlying36 [_] 1 1 1 3 rfl (fun u hu=>by simp at hu;subst hu;rfl)) (by unfold maxLen;omega) (by omega) (by simp;omega) ?_);intro v3 w3 hown3 hg3;have R3:=hD ((HR.out).step him (K2.out) hown3 (((L2.out).alloc _).grows hg3 (fun g hv=>iY (O2.out) hv)));clear hown3 hg3 hs2;go_wp2_with fail;go_roundw
      case rel=>exact ⟨i+1,_,_,by go_num,R3.out⟩
      case measure=>simp [intOf];omega
    ·have dim:decide ((i:Int) < (m:Int))=false:=by simp;omega
     go_wp2_with fail;go_ret;exact (HR.out).done (.inl (by omega)) (hcnt.out)
def BW {α β:Type} (vals:α->List Value) (pr:α->β) (G:World->Value->α->Prop) (k:Nat) (w:World) (r:Nat) (A:Option Addr) (n c:Nat) (o:Option (List β × Nat)) (e:Ending) (w':World):Prop:=
 ∃ B cc,∃ xs:List α,e=.returned (.slice B xs.length cc)/\(∀ z,o=some z->z.1=xs.map pr/\∀ x∈xs,G w' (.slice B xs.length cc) x)/\aG w' w'.heap.size k B xs.length (xs.flatMap vals)/\(∀ ad,B=some ad->w.heap.size<=ad.block/\ad.block < w'.heap.size)/\Rd w' r A n c (o.map (·.2))/\w.grownBy w' (some r)
structure tA {α β:Type} (vals:α->List Value) (pr:α->β) (G:World->Value->α->Prop) (T:TypeId) (k:Nat) (f:Nat->Option (β × Nat)) (w wr:World) (r:Nat) (A:Option Addr) (n c:Nat) (bs:List Nat) (q m i:Nat) (s:Option Nat) (xs:List α) (v:Value):Prop where
 le:i<=m
 len:xs.length=i
 st:(bX f i q).map (·.2)=s
 xs_:∀ z,bX f i q=some z->z.1=xs.map pr/\∀ x∈xs,G wr v x
 own:wr.ownsRow w.heap.size T k v i (xs.flatMap vals)
 mid:iI w wr r A n c bs s
section
variable {α β:Type} {vals:α->List Value} {pr:α->β} {G:World->Value->α->Prop} {T:TypeId} {k:Nat} {f:Nat->Option (β × Nat)} {w wr w2:World} {r n c q m i:Nat} {A:Option Addr} {bs:List Nat} {s:Option Nat} {xs:List α} {v v2:Value} {a:α}
theorem tA.step (h:tA vals pr G T k f w wr r A n c bs q m i s xs v) (him:i < m) (ka:∀ y,s.bind f=some y->y.1=pr a)
  (hown:w2.ownsRow w.heap.size T k v2 (i+1) (xs.flatMap vals++vals a)) (hm:iI w w2 r A n c bs ((s.bind f).map (·.2))) (hG:(∀ x∈xs,G wr v x)->(∃ y,s.bind f=some y)->∀ x,x∈xs++[a]->G w2 v2 x):tA vals pr G T k f w w2 r A n c bs q m (i+1) ((s.bind f).map (·.2)) (xs++[a]) v2:=by
 refine ⟨him,by rw [List.length_append,h.len];rfl,?_,fun z hz=>?_,by rw [List.flatMap_append,List.flatMap_cons,List.flatMap_nil,List.append_nil];exact hown,hm⟩
 ·rw [dC,<- h.st]
  cases bX f i q with
  | none=>rfl
  | some y=>
   show ((f y.2).map _).map _=(f y.2).map _
   cases f y.2 <;> rfl
 ·rw [dC] at hz;obtain ⟨y,hy,hz⟩:=Option.bind_eq_some_iff.1 hz;obtain ⟨x,hx,rfl⟩:=Option.map_eq_some_iff.1 hz;obtain ⟨e1,eG⟩:=h.xs_ y hy;have e2:=h.st;rw [hy] at e2;have e4:s.bind f=some x:=by rw [<- e2];exact hx
  have e3:=ka x e4;refine ⟨?_,hG eG ⟨x,e4⟩⟩;rw [List.map_append,<- e1,List.map_cons,List.map_nil,<- e3]
theorem tA.done {o:Option (List β × Nat)} (h:tA vals pr G T k f w wr r A n c bs q m i s xs v) (he:i=m\/s=none) (ho:o=bX f m q):BW vals pr G k w r A n c o (.returned v) wr:=by
 obtain ⟨B,cc,rfl,hr,hB⟩:=gO h.own;have hlen:=h.len;subst hlen;have key:(∀ z,o=some z->z.1=xs.map pr/\∀ x∈xs,G wr (.slice B xs.length cc) x)/\o.map (·.2)=s:=by
  rcases he with rfl | he
  ·rw [ho];exact ⟨h.xs_,h.st⟩
  ·have h1:bX f xs.length q=none:=by
    have:=h.st;rw [he] at this;simpa using this
   rw [ho,eX m xs.length q h.le h1,he];exact ⟨(fun z hz=>by cases hz),rfl⟩
 refine ⟨B,cc,xs,rfl,key.1,hr,hB,?_,h.mid.gr⟩;rw [key.2];exact h.mid.rd
end
theorem rL:(Tryz.prog.info? 83).map (fun i=>(i.zero,i.size,i.bytes))=some (some (.agg #[.int .i64 0,.int .i64 0,.int .i64 0,.bool false,.string ByteArray.empty,.int .i64 0]),6,56):=by kernel_rfl
theorem nB:(Tryz.prog.info? 39).map (fun i=>(i.zero,i.size,i.bytes))=some (some (.agg #[.int .i64 0,.slice none 0 0,.slice none 0 0,.string ByteArray.empty,.slice none 0 0]),5,96):=by kernel_rfl
theorem AA (h:Rd w r A n c s) (hi:fQ w r A n c bs):
  Calls Tryz.prog 44 #[.pointer (some ⟨r,0,none⟩),.func (.func 45) #[.pointer (some ⟨r,0,none⟩)] #[]] w (BW bG.vals id (fun _ _ _=>True) 6 w r A n c (s.bind (bW (cY bs) bs))):=by
 have hl:=hi.len;have hn:=hi.hn;have L0:=hD (⟨h,hi,World.grownBy.refl w _,h.lt⟩:iI w w r A n c bs s);clear h hi;go_enter Tryz.func44,Tryz.ntmps44;go_wp2_with fail;refine (dL (L0.out).rd (L0.out).inn).mono ?_;rintro e w1 ⟨a,rfl,K1,hrd,hg⟩;replace K1:=hD K1;have L1:=hD ((L0.out).next hrd hg);clear hrd hg L0;generalize hs1:(Option.map (fun x=>x.snd) (s.bind (bC bs)))=s1 at L1;rcases s1 with _ | q
 ·obtain ⟨z1,hb1⟩:=(L1.out).rd;have c2:=hb1.cell 2;have f2:=hb1.frozen 2;simp at c2;have HB:=hD hb1;have HS:=hD hs1;clear hb1 hs1 hl;go_wp2_with fail;go_quiet (fail);go_wp2_with fail;go_ret;rw [mL (HS.out)];exact ⟨none,0,[],rfl,(fun z hz=>by cases hz),aG.none_,(fun ad h=>by cases h),⟨_,((HB.out).drewN _).set_ 2 _⟩,aW (bS (L1.out).gr _) (.inl rfl) _⟩
 ·obtain ⟨hb1,hq⟩:=(L1.out).rd;have hcnt:=pG (f:=cY bs) hs1 (K1.out);have c0:=hb1.cell 0;have c1:=hb1.cell 1;have c2:=hb1.cell 2;have f2:=hb1.frozen 2;simp at c0 c1 c2;have HB:=hD hb1;clear hb1 hs1 K1;by_cases hbad:a < 0\/(bs.length:Int) - q < a
  ·rw [if_pos hbad] at hcnt;replace hcnt:=hD hcnt;rw [hl] at hbad;have hd:(decide (a < 0)=true)\/(decide (a < 0)=false/\decide ((n:Int) - q < a)=true):=by simp;omega
   clear hl;rcases hd with d1 | ⟨d1,d2⟩
   all_goals
    go_wp2_with fail;go_quiet (fail);go_wp2_with fail;go_ret;rw [hcnt.out];exact ⟨none,0,[],rfl,(fun z hz=>by cases hz),aG.none_,(fun ad h=>by cases h),⟨_,((HB.out).drewN _).set_ 2 _⟩,aW (bS (L1.out).gr _) (.inl rfl) _⟩
  ·rw [if_neg hbad] at hcnt;rw [hl] at hbad;obtain ⟨m,rfl⟩:=Int.eq_ofNat_of_zero_le (show 0<=a by omega);have d1:decide ((m:Int) < 0)=false:=by simp
   have d2:decide ((n:Int) - q < (m:Int))=false:=by simp;omega
   have hm:m<=1000000000000:=by omega
   rw [Int.toNat_natCast] at hcnt;replace hcnt:=hD hcnt;clear hl hbad;obtain ⟨i0,hi0,hz0,hz1,hz2⟩:=info_parts rL;have R0:Hid (∀ nq,tA bG.vals id (fun _ _ _=>True) 83 6 (cY bs) w (w1.drewN nq) r A n c bs q m 0 (some q) [] (.slice none 0 0)):=fun nq=>
    ⟨Nat.zero_le _,rfl,rfl,(fun z hz=>by injection hz with hz;rw [<- hz];exact ⟨rfl,fun x hx=>by cases hx⟩),⟨rfl,.inl ⟨rfl,rfl⟩⟩,(L1.out).drewN nq⟩
   clear L1 HB;go_wp2_with fail;go_quiet (fail);go_wp2_with fail;clear c0 c1 c2 f2 d1 d2;clear hq;go_loopw [6,7] (fun v iv wr=>∃ (i:Nat) (s':Option Nat) (xs:List bG),iv=.int .i64 (i:Int)/\tA bG.vals id (fun _ _ _=>True) 83 6 (cY bs) w wr r A n c bs q m i s' xs v) (fun _ iv _=>((m:Int) - intOf iv).toNat)
   case atStart=>exact ⟨0,some q,[],rfl,(R0.out) nq⟩
   case round=>
    obtain ⟨i,s',xs,rfl,hR⟩:=hrel;have HR:=hD hR;have hle:=hR.le;clear hR R0;by_cases him:i < m
    ·have dim:decide ((i:Int) < (m:Int))=true:=by simp;omega
     rcases s' with _ | p
     ·obtain ⟨z1,hb1⟩:=(HR.out).mid.rd;have c2:=hb1.cell 2;simp at c2;clear hb1;go_wp2_with fail;go_ret;exact (HR.out).done (.inr rfl) (hcnt.out)
     ·have hb1:=(HR.out).mid.rd.1;have c2:=hb1.cell 2;simp at c2;clear hb1;go_wp2_with fail;refine (zA (HR.out).mid.rd (HR.out).mid.inn).mono ?_;rintro e w2 ⟨a,rfl,K2,hrd,hg⟩;replace K2:=hD K2;have L2:=hD ((HR.out).mid.next hrd hg);have O2:=hD ((HR.out).own.kept hg (.inr (wS (HR.out).own (HR.out).mid.old)));have hs2:=(L2.out).gr.size;clear hrd hg c2;go_wp2_with (at_builtin;refine aF _ rfl (.tmp 47) (.tmp 50) 37 37 rfl w.heap.size 83 i0 (.agg #[.int .i64 0,.int .i64 0,.int .i64 0,.bool false,.string ByteArray.empty,.int .i64 0]) 6 56 Tryz.underlying37 hi0 hz0 hz1 hz2 rfl (by decide) _ _ _ rfl ((O2.out).alloc _) _ 1 _ rfl (bR w2 Tryz.underlying37 [.int .i64 a.id,.int .i64 a.field,.int .i64 a.n,.bool a.flag,.string a.text,.int .i64 a.ref] 6 1 1 83 rfl (fun u hu=>by simp at hu;rcases hu with rfl | rfl | rfl | rfl | rfl | rfl <;> rfl)) (by unfold maxLen;omega) (by omega) (by simp;omega) ?_);intro v3 w3 hown3 hg3;have R3:=hD ((HR.out).step him (K2.out) hown3 (((L2.out).alloc _).grows hg3 (fun g hv=>iY (O2.out) hv)) (fun _ _ _ _=>trivial));clear hown3 hg3 hs2;go_wp2_with fail;go_roundw
      case rel=>exact ⟨i+1,_,_,by go_num,R3.out⟩
      case measure=>simp [intOf];omega
    ·have dim:decide ((i:Int) < (m:Int))=false:=by simp;omega
     go_wp2_with fail;go_ret;exact (HR.out).done (.inl (by omega)) (hcnt.out)
end
end Go.Proofs.YtkgpoimmniojjaaGreat
