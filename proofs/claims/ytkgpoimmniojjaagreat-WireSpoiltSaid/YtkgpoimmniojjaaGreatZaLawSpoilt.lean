/-
  WireSpoilt: for every input the law returns true, and its arguments are as they were. No condition beside the given statement's own.
-/
import Derived.Test.YtkgpoimmniojjaaGreatZaBN
namespace Go.Proofs.YtkgpoimmniojjaaGreat.wireSpoilt
open Go.ChangeShapes Go.WideShapes Go.ChangeAt Go.RowKit
open Go.ChangeMaps (open_string shut_string)
set_option linter.unusedVariables false
set_option linter.unusedSimpArgs false
set_option maxRecDepth 100000 in
set_option maxHeartbeats 4000000 in
theorem DS (first:Int) (dA:Option Addr) (dn dc:Nat) (at_:Int) (by_:Nat) (cut:Int) (w:World) (hd:fJ w w.heap.size dA dn) (hdc:dn<=dc) (hdn:dn<=140737488351232) (hby:by_ < 256):
  Calls Tryz.prog 3 #[.int .i64 first,.slice dA dn dc,.int .i64 at_,.int .u8 (by_:Int),.int .i64 cut] w fun e w'=>e=.returned (.bool true)/\Below w.heap.size w w':=by
 have HA:=fun W=>hD (AD W)
 have HMOD:Hid (∀ (z:Int) (m:Nat) w',0 < m->m<=100000000000->Calls Tryz.prog 9 #[.int .i64 z,.int .i64 (m:Int)] w' (fun e w2=>∃ q:Nat,e=.returned (.int .i64 (q:Int))/\q < m/\w'=w2)):=fun z m w' h0 hm=>(dM z m w' (by omega)).mono fun e w2 h=>by
  obtain ⟨h1,h2⟩:=gA z m
  have h3:=h2 (by omega)
  obtain ⟨q,hq⟩:∃ q:Nat,nJ z m=(q:Int):=⟨(nJ z m).toNat,by omega⟩
  refine ⟨q,?_,by omega,h.2⟩
  rw [<- hq]
  exact h.1
 have HH:Hid (∀ m,m<=dn->m<=3->Calls Tryz.prog 5 #[.int .i64 first,.slice dA m dc] w (fun e w1=>∃ A n c xs,e=.returned (.slice A n c)/\pR w w1 A n xs)):=fun m h1 h2=>Br first dA m dc w (hd.take h1) h2
 clear hd
 go_enter Tryz.func3,Tryz.ntmps3
 go_upto_region 1 with fail
 go_cut [11] (fun x w1=>∃ A n c xs,x=.slice A n c/\Hid (pR w w1 A n xs))
 case first=>
  go_wp2_with fail
  all_goals
   refine (HH.out _ (by omega) (by omega)).mono ?_
   rintro r0 w1 ⟨A,n,c,xs,rfl,h⟩
   have HO:=hD h
   clear h
   go_wp2_with fail
   go_meet
   exact ⟨A,n,c,xs,rfl,HO⟩
 case rest=>
  obtain ⟨A,n,c,xs,rfl,HO⟩:=hcut
  have HC1:=hD (vN A n c xs wc HO.out.coms (by have:=HO.out.n5;omega) (nV HO.out.ok HO.out.len))
  have HC2:Hid (∀ w',Below wc.heap.size wc w'->Calls Tryz.prog 8 #[.slice A n c] w' (pW w' (gX xs))):=fun w' hb=>oF A n c xs w' (HO.out.coms.up hb) (by have:=HO.out.n5;omega) (nV HO.out.ok HO.out.len)
  obtain ⟨hlen0,hlen1⟩:=Ad HO.out.ok HO.out.len
  clear HH
  go_wp2_with fail
  refine (HC1.out).mono ?_
  intro e w1 k1
  obtain ⟨v1,rfl,h1⟩:=k1.nw
  clear k1
  obtain ⟨A1,c1,rfl,r1⟩:=h1.reads
  have HOW1:=hD h1.1
  have B1:=hD h1.2
  have R1:=hD r1
  clear h1 r1 HC1
  go_wp2_with fail
  refine (HC2.out _ B1.out).mono ?_
  intro e w2 k2
  obtain ⟨v2,rfl,h2⟩:=k2.nw
  clear k2
  obtain ⟨A2,c2,rfl,r2⟩:=h2.reads
  have B2:=hD (B1.out.trans (h2.2.mono B1.out.size))
  have HSM:=hD (Cu A1 A2 _ c1 c2 (gX xs) _ _ w2 ((R1.out.below h2.2).more h2.2.size) r2 (yV xs))
  have HOW2:=hD (sF (eV HOW1.out h2.2 (cK HOW1.out)) (base':=w.heap.size) (fun g hg=>Nat.le_trans HO.out.bel.size (aU HOW1.out g hg)))
  clear h2 r2 HC2 HOW1 R1
  go_wp2_with fail
  refine (HSM.out).mono ?_
  rintro e w3 ⟨rfl,rfl⟩
  clear HSM
  obtain ⟨bs,hbs⟩:=nm (gX xs)
  have HBY:=hD (yV xs)
  rw [hbs] at HOW2 hlen0 hlen1 HBY
  rw [hbs]
  have HBwc:=hD HO.out.bel
  have HB2:=hD (aB HBwc.out B2.out)
  have HLO:=hD HBwc.out.size
  clear hbs HO B1
  go_wp2_with fail
  refine (HMOD.out _ _ _ hlen0 hlen1).mono ?_
  rintro e w3 ⟨k,rfl,hk,rfl⟩
  go_upto_region 6 with fail
  go_cut [12] (fun v wz=>∃ A' c' b',v=.slice A' b'.length c'/\Hid (Em w wz A' c' b'))
  case first=>
   obtain ⟨x,hx⟩:∃ x,bs[k]?=some x:=⟨_,List.getElem?_eq_getElem hk⟩
   have hxb:=HBY.out x (List.mem_of_getElem? hx)
   obtain ⟨g,rfl,hg,hnc,hfr,hce,hset⟩:=Cy HOW2.out hk (.int .u8 ((x ^^^ by_:Nat):Int))
   rw [List.getElem?_map,hx] at hce
   have hc9:w2.cell? ⟨g,k,none⟩=some (.int .u8 (x:Int)):=hce
   have hxor:bits .xor .u8 (x:Int) (by_:Int)=((x ^^^ by_:Nat):Int):=u8_xor_nat x by_ hxb hby
   have hyb:=AM hxb hby
   obtain ⟨y,hy⟩:=nm (x ^^^ by_)
   rw [hy] at hset hxor hyb
   have hset2:(w2.setCell ⟨g,k,none⟩ (.int .u8 (y:Int))).ownsRow w.heap.size 5 1 (.slice (some ⟨g,0,none⟩) bs.length c1) bs.length ((bs.set k y).map dZ):=by rw [List.map_set];exact hset
   obtain ⟨bs2,hbs2⟩:=nm (bs.set k y)
   have hl2:bs.length=bs2.length:=by rw [<- hbs2,List.length_set]
   have hby2:∀ z∈bs2,z < 256:=fun z hz=>by
    rw [<- hbs2] at hz
    rcases List.mem_or_eq_of_mem_set hz with h | h
    ·exact HBY.out z h
    ·rw [h];exact hyb
   rw [hbs2] at hset2
   have HS2:Hid (Em w (w2.setCell ⟨g,k,none⟩ (.int .u8 (y:Int))) (some ⟨g,0,none⟩) c1 bs2):=by
    rw [hl2] at hset2
    exact ⟨HB2.out.setCell (p:=⟨g,k,none⟩) hg _,hset2,by omega,hby2,by omega,by omega⟩
   have HHY:=hD hxor
   have HL2:=hD hl2
   clear hset hce hset2 hby2 hxor hy hbs2 hyb HOW2 hx hl2
   go_wp2_with (rw [HHY.out])
   go_meet
   exact ⟨_,_,bs2,by rw [HL2.out],HS2⟩
  case rest=>
   clear HOW2 HBY HB2 HLO HBwc B2 hlen0 hlen1
   obtain ⟨A3,c3,b3,rfl,HS⟩:=hcut
   have hlen0:=HS.out.len0
   have hlen1:=HS.out.len
   have hcap3:=HS.out.cap
   have HM4:Hid (∀ w',Calls Tryz.prog 9 #[.int .i64 cut,.int .i64 4] w' (fun e w2=>∃ q:Nat,e=.returned (.int .i64 (q:Int))/\q < 4/\w'=w2)):=fun w'=>HMOD.out cut 4 w' (by omega) (by omega)
   have HML:Hid (∀ w',Calls Tryz.prog 9 #[.int .i64 cut,.int .i64 (b3.length:Int)] w' (fun e w2=>∃ q:Nat,e=.returned (.int .i64 (q:Int))/\q < b3.length/\w'=w2)):=fun w'=>HMOD.out cut _ w' hlen0 hlen1
   clear HMOD
   go_wp2_with fail
   refine (HM4.out _).mono ?_
   rintro e w4 ⟨q,rfl,hq,rfl⟩
   clear HM4
   have hq3:q=0\/q=1\/(q≠0/\q≠1):=by omega
   rcases hq3 with rfl | rfl | ⟨hq0,hq1⟩
   case' inl=>
    go_wp2_with fail
    refine (HML.out _).mono ?_
    rintro e w5 ⟨k2,rfl,hk2,rfl⟩
    have HSP:Hid (Sp w wc A3 k2 c3 (b3.take k2)):=⟨HS.out.bel,uK (aG.of_own HS.out.own) (by omega),by omega,fun z hz=>HS.out.byte z (List.mem_of_mem_take hz),by omega⟩
    go_wp2_with fail
   case' inr.inl=>
    obtain ⟨i0,hi0,hz0,hz1,hz2⟩:=info_parts fM
    have hwz:=HS.out.bel.size
    go_wp2_with (at_builtin;refine aF _ rfl (.tmp 55) (.tmp 57) 25 25 rfl w.heap.size 5 i0 (.int .u8 0) 1 1 Tryz.underlying25 hi0 hz0 hz1 hz2 rfl (by decide) _ _ _ rfl (eV HS.out.own (bK (Below.refl _ _) _) (cK HS.out.own)) _ 1 _ rfl (bR _ Tryz.underlying25 [_] 1 1 1 5 rfl (fun u hu=>by simp at hu;subst hu;rfl)) (by unfold maxLen;omega) (by omega) (by simp;omega) ?_)
    intro v6 w6 hown6 hg6
    have hown7:w6.ownsRow w.heap.size 5 1 v6 (b3.length+1) ((b3++[by_]).map dZ):=by rw [List.map_append];exact hown6
    obtain ⟨A6,c6,rfl,hr6,-⟩:=gO hown7
    have HSP:Hid (Sp w w6 A6 (b3.length+1) c6 (b3++[by_])):=by
     refine ⟨(bK HS.out.bel _).trans (hg6.below (by simp;omega) (aU HS.out.own)),hr6,Bh hown7,fun z hz=>?_,by omega⟩
     rcases List.mem_append.1 hz with h | h
     ·exact HS.out.byte z h
     ·simp at h;omega
    clear hown6 hown7 hg6 hr6
    go_wp2_with fail
   case' inr.inr=>
    have d0:((q:Int) == 0)=false:=by simp;omega
    have d1:((q:Int) == 1)=false:=by simp;omega
    have HSP:Hid (Sp w wc A3 b3.length c3 b3):=⟨HS.out.bel,aG.of_own HS.out.own,hcap3,HS.out.byte,by omega⟩
    go_wp2_with fail
   all_goals
    obtain ⟨m,ec,l,hm,hG1,hG2⟩:=Cr HSP.out
    have G2:=hD hG2
    have HBZ:=hD HSP.out.bel
    refine hG1.mono ?_
    clear hG1 hG2 HSP
    rintro e w7 ⟨B1,d1,xs1,rfl,hx1,hc1,hb1⟩
    have C1:=hD hc1
    have X1:=hD hx1
    have BL1:=hD hb1
    clear hc1 hx1 hb1
    go_wp2_with fail
    refine (G2.out _ BL1.out).mono ?_
    rintro e w8 ⟨B2,d2,ys,rfl,hx2,hc2,hb2⟩
    have CC1:=hD (C1.out.up hb2)
    have CC2:=hD hc2
    have BL2:=hD (aB HBZ.out (aB BL1.out hb2))
    have HSC:=hD (nG (c1:=d1) (c2:=d2) (by omega) CC1.out CC2.out (by rw [X1.out,hx2]))
    have e1:((ec:Int) == ec)=true:=by simp
    clear hx2 hc2 hb2 G2 C1 HBZ BL1 X1
    go_wp2_with fail
    refine (HSC.out).mono ?_
    rintro e w9 ⟨rfl,hb9⟩
    have BL3:=hD (aB BL2.out hb9)
    clear hb9 HSC
    go_wp2_with fail
    refine ((HA _).out).mono ?_
    rintro e w10 ⟨rfl,hb10⟩
    have BL4:=hD (aB BL3.out hb10)
    clear hb10 HA
    go_wp2_with fail
    go_ret
    exact ⟨rfl,BL4.out⟩
theorem own:ownKnob Tryz.prog.godebug=none:=by kernel_rfl
theorem C3:laidOutB Tryz.prog=true:=by kernel_rfl
theorem D1 (H:Type) (ds:List (DataW H)) (h:ds.length=5):Rows.wireSpoiltSpec.fn H (ds++[])={ results:=[.lit (.bool true)],args:=ds }:=by
 match ds,h with
 | [_,_,_,_,_],_=>rfl
set_option maxRecDepth 100000 in
theorem Df (os:Os) (started:os.Started) (H:Type) (enc:TypeId × Value->H):
  ReturnsInHanded {} Tryz.checked os 3 .any (Rows.wireSpoiltSpec.pre6 enc Tryz.prog Tryz.f3 Rows.wireSpoiltRow.domain false) (Rows.wireSpoiltSpec.post enc Tryz.prog Tryz.f3 false true false false):=by
 refine uY (C:=Tryz.checked) own started (by kernel_rfl) Tryz.func3 rfl rfl Tryz.underlying4 C3 (by kernel_rfl) (fun ds h=>D1 H ds (h.trans (by kernel_rfl)))
  (ChangeSpec.witness6 (enc:=enc) (C:=Tryz.checked) false ⟨#[],#[.int .i64 0,.slice none 0 0,.int .i64 0,.int .u8 0,.int .i64 0],[]⟩ 8 (by kernel_rfl) (by kernel_rfl) (by kernel_rfl) (by kernel_rfl)) ?_
 intro W base args ds p hval hA hsz
 have hval':∀ (j:Nat) t v,Tryz.f3.params[j]?=some t->args[j]?=some v->Value.okWide Tryz.prog W .any base t v:=hval
 rw [Tryz.params3] at hval' hA hsz
 obtain ⟨v0,vs0,d0,ds0,p0,q0,hargs,rfl,rfl,h0,r0⟩:=trodAll_cons hA
 obtain ⟨v1,vs1,d1,ds1,p1q,q1,rfl,rfl,rfl,h1,r1⟩:=trodAll_cons r0
 obtain ⟨v2,vs2,d2,ds2,p2,q2,rfl,rfl,rfl,h2,r2⟩:=trodAll_cons r1
 obtain ⟨v3,vs3,d3,ds3,p3,q3,rfl,rfl,rfl,h3,r3⟩:=trodAll_cons r2
 obtain ⟨v4,vs4,d4,ds4,p4,q4,rfl,rfl,rfl,h4,r4⟩:=trodAll_cons r3
 obtain ⟨rfl,rfl,rfl⟩:=trodAll_nil r4
 obtain rfl:args=#[v0,v1,v2,v3,v4]:=by cases args;simp_all
 obtain ⟨a0,rfl,rfl,rfl,w0⟩:=open_int Tryz.underlying3 (hval' 0 3 v0 rfl rfl) h0
 obtain ⟨a1,len1,cap1,rfl⟩:=okWide_slice Tryz.underlying22 (hval' 1 22 v1 rfl rfl)
 obtain ⟨fu1,hf1⟩:=h1
 obtain ⟨hc1,hl1,hd1⟩:=wT hf1 (Da hsz (j:=1) rfl rfl)
 obtain ⟨a2,rfl,rfl,rfl,w2⟩:=open_int Tryz.underlying3 (hval' 2 3 v2 rfl rfl) h2
 obtain ⟨a3,rfl,rfl,rfl,w3⟩:=open_int Tryz.underlying5 (hval' 3 5 v3 rfl rfl) h3
 obtain ⟨a4,rfl,rfl,rfl,w4⟩:=open_int Tryz.underlying3 (hval' 4 3 v4 rfl rfl) h4
 obtain ⟨y,rfl,hy⟩:∃ y:Nat,a3=(y:Int)/\y < 256:=by
  have h5:0<=a3/\a3 < 256:=by
   have h6:0<=a3/\a3<=255:=by simpa [Lit.wf,IntKind.min,IntKind.max,IntKind.signed,IntKind.bits] using w3
   omega
  exact ⟨a3.toNat,by omega,by omega⟩
 exact DS a0 a1 len1 cap1 a2 y a4 W hd1 hc1 hl1 hy
theorem proved:Rows.WireSpoiltSaid:=
 OpenClaim.holds_of_wide 3 Tryz.f3 rfl rfl rfl rfl rfl rfl rfl ⟨rfl,rfl,rfl,rfl,rfl⟩ rfl rfl rfl rfl rfl (by kernel_rfl) Tryz.func3 (by kernel_rfl)
  (of_decide_eq_true (by kernel_rfl)) (by unfold Func.isWrapper;first | (rw [if_pos (by decide+kernel)];kernel_rfl) | (rw [if_neg (by decide+kernel)];exact ⟨rfl,rfl⟩))
  (fun os started H enc _=>Df os started H enc)
end Go.Proofs.YtkgpoimmniojjaaGreat.wireSpoilt
