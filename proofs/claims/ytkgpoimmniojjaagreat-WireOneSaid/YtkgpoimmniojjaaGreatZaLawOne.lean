/-
  WireOne: for every input the law returns true, and its arguments are as they were. No condition beside the given statement's own.
-/
import Derived.Test.YtkgpoimmniojjaaGreatZaBN
namespace Go.Proofs.YtkgpoimmniojjaaGreat.wireOne
open Go.ChangeShapes Go.WideShapes Go.ChangeAt Go.RowKit
open Go.ChangeMaps (open_string shut_string)
set_option linter.unusedVariables false
set_option linter.unusedSimpArgs false
set_option maxRecDepth 100000 in
set_option maxHeartbeats 4000000 in
theorem DS (A:Option Addr) (n c:Nat) (first:Int) (dA:Option Addr) (dn dc:Nat) (bs:List Nat) (w:World) (hm:n<=140737488351232) (hnc:n<=c) (hr:aG w w.heap.size 1 A n (bs.map dZ)) (hbs:∀ x∈bs,x < 256) (hd:fJ w w.heap.size dA dn) (hdc:dn<=dc) (hdn:dn<=140737488351232):
  Calls Tryz.prog 4 #[.slice A n c,.int .i64 first,.slice dA dn dc] w fun e w'=>e=.returned (.bool true)/\Below w.heap.size w w':=by
 have HA:=fun W=>hD (AD W)
 have hl:bs.length=n:=by have:=hr.1;simpa using this
 have HH:Hid (∀ w1 m,Below w.heap.size w w1->m<=dn->m<=3->Calls Tryz.prog 5 #[.int .i64 first,.slice dA m dc] w1 (fun e w2=>∃ A n c xs,e=.returned (.slice A n c)/\pR w1 w2 A n xs)):=fun w1 m hb h1 h2=>Br first dA m dc w1 (by obtain ⟨vs,g1,g2⟩:=(hd.take h1).bel hb;exact ⟨vs,g1.more hb.size,fun j u t hu ht=>(g2 j u t hu ht).more hb.size⟩) h2
 clear hd
 by_cases hn:2000 < n
 ·have d:decide ((2000:Int) < (n:Int))=true:=by simp;omega
  clear hr hbs HH hl
  go_enter Tryz.func4,Tryz.ntmps4
  go_wp2_with fail
  refine ((HA _).out).mono ?_
  rintro e w1 ⟨rfl,hb⟩
  have HB:=hD hb
  clear hb HA
  go_wp2_with fail
  go_ret
  exact ⟨rfl,HB.out⟩
 have d:decide ((2000:Int) < (n:Int))=false:=by simp;omega
 have R0:=hD hr
 have HBY:=hD hbs
 have HLN:=hD hl
 have hcs:(dO bs=none)\/∃ l,dO bs=some l:=by cases dO bs <;> simp
 have HG1:Hid (dO bs=none->Calls Tryz.prog 10 #[.slice A n c] w (fun e w'=>e=.returned (.tuple #[.slice none 0 0,.int .i64 13])/\Below w.heap.size w w')):=fun h=>ES (by omega) hnc hr hbs h
 have HG2:Hid (∀ l,dO bs=some l->Calls Tryz.prog 10 #[.slice A n c] w (Fc w l)):=fun l h=>E8 (by omega) hnc hr hbs h
 clear hr hbs hl
 go_enter Tryz.func4,Tryz.ntmps4
 go_wp2_with fail
 rcases hcs with hcs | ⟨l,hcs⟩
 case' inl=>
  refine (HG1.out hcs).mono ?_
  rintro e wz ⟨rfl,hb⟩
  have HBZ:=hD hb
  clear hb HG1 HG2 hcs R0 HBY HLN
  go_upto_region 6 with fail
 case' inr=>
  refine (HG2.out l hcs).mono ?_
  rintro e w1 ⟨B,cc,xs,rfl,hx,hco,hb⟩
  have hen:gX xs=bs:=by rw [Ev,hx];exact (E9 HBY.out hcs).symm
  have hle:xs.length<=1000000:=by
   have h1:xs.length<=(gX xs).length:=by
    have:=sT (bs:=bs)
    rw [hcs] at this
    have e:l.length=xs.length:=by rw [<- hx,List.length_map]
    rw [hen]
    simpa [e] using this
   rw [hen,HLN.out] at h1
   omega
  have HC:=hD (vN B xs.length cc xs w1 hco hle (EQ (by rw [hen,HLN.out];omega)))
  have HEN:=hD hen
  have HB1:=hD hb
  clear hb HG1 HG2 hcs hx hco hen hle
  go_wp2_with fail
  refine (HC.out).mono ?_
  intro e wz k1
  obtain ⟨v1,rfl,h1⟩:=k1.nw
  clear k1
  rw [HEN.out] at h1
  obtain ⟨A1,c1,rfl,r1⟩:=h1.reads
  have HBZ:=hD (aB HB1.out h1.2)
  have HLB:Hid (n=bs.length):=HLN.out.symm
  have HSM:=hD (Cu A1 A bs.length c1 c bs _ _ wz r1 (by have:=(R0.out.below HBZ.out);rw [<- HLN.out] at this;exact this) HBY.out)
  clear h1 r1 HC HEN HB1 R0 HBY
  rw [HLN.out] at HSM ⊢
  clear HLN HLB
  go_wp2_with fail
  refine (HSM.out).mono ?_
  rintro e w3 ⟨rfl,rfl⟩
  clear HSM
  go_upto_region 6 with fail
 all_goals
  go_wp2_with fail
  all_goals
   refine (HH.out _ _ HBZ.out (by omega) (by omega)).mono ?_
   rintro e w4 ⟨A4,n4,c4,ys,rfl,ho⟩
   have HO:=hD ho
   have HB4:=hD (aB HBZ.out ho.bel)
   have HC4:=hD (vN A4 n4 c4 ys w4 ho.coms (by have:=ho.n5;omega) (nV ho.ok ho.len))
   clear ho
   go_wp2_with fail
   refine (HC4.out).mono ?_
   intro e w5 k1
   obtain ⟨v5,rfl,h5⟩:=k1.nw
   clear k1
   obtain ⟨A5,c5,rfl,hnc5,r5⟩:=ED h5.1
   have HB5:=hD (aB HB4.out h5.2)
   have R5:=hD r5
   obtain ⟨hlen0,hlen1⟩:=Ad HO.out.ok HO.out.len
   have HG5:=hD (E8 (A:=A5) (c:=c5) (by omega) hnc5 r5 (yV ys) (EG HO.out.ok HO.out.len))
   clear h5 r5 HC4
   go_wp2_with fail
   refine (HG5.out).mono ?_
   rintro e w6 ⟨B6,c6,zs,rfl,hz,hco6,hb6⟩
   have hzl:=EY hz
   have HC6:=hD (vN B6 zs.length c6 zs w6 hco6 (by have:=HO.out.len;omega) (nV (EL hz HO.out.ok) (by have:=HO.out.len;omega)))
   have HB6:=hD (aB HB5.out hb6)
   have R6:=hD ((R5.out.below hb6).more hb6.size)
   have HEN:=hD (EE hz)
   clear hz hco6 hb6 HG5 hzl R5
   go_wp2_with fail
   refine (HC6.out).mono ?_
   intro e w7 k1
   obtain ⟨v7,rfl,h7⟩:=k1.nw
   clear k1
   rw [HEN.out] at h7
   obtain ⟨A7,c7,rfl,r7⟩:=h7.reads
   have HB7:=hD (aB HB6.out h7.2)
   have HS7:=hD (Cu A7 A5 _ c7 c5 (gX ys) _ _ w7 r7 (R6.out.below h7.2) (yV ys))
   clear h7 r7 HC6 R6
   go_wp2_with fail
   refine (HS7.out).mono ?_
   rintro e w8 ⟨rfl,rfl⟩
   clear HS7
   go_wp2_with fail
   refine ((HA _).out).mono ?_
   rintro e w9 ⟨rfl,hb9⟩
   have HB9:=hD (aB HB7.out hb9)
   clear hb9 HA
   go_wp2_with fail
   go_ret
   exact ⟨rfl,HB9.out⟩
theorem own:ownKnob Tryz.prog.godebug=none:=by kernel_rfl
theorem C3:laidOutB Tryz.prog=true:=by kernel_rfl
theorem D1 (H:Type) (ds:List (DataW H)) (h:ds.length=3):Rows.wireOneSpec.fn H (ds++[])={ results:=[.lit (.bool true)],args:=ds }:=by
 match ds,h with
 | [_,_,_],_=>rfl
set_option maxRecDepth 100000 in
theorem Df (os:Os) (started:os.Started) (H:Type) (enc:TypeId × Value->H):
  ReturnsInHanded {} Tryz.checked os 4 .any (Rows.wireOneSpec.pre6 enc Tryz.prog Tryz.f4 Rows.wireOneRow.domain false) (Rows.wireOneSpec.post enc Tryz.prog Tryz.f4 false true false false):=by
 refine uY (C:=Tryz.checked) own started (by kernel_rfl) Tryz.func4 rfl rfl Tryz.underlying4 C3 (by kernel_rfl) (fun ds h=>D1 H ds (h.trans (by kernel_rfl)))
  (ChangeSpec.witness6 (enc:=enc) (C:=Tryz.checked) false ⟨#[],#[.slice none 0 0,.int .i64 0,.slice none 0 0],[]⟩ 8 (by kernel_rfl) (by kernel_rfl) (by kernel_rfl) (by kernel_rfl)) ?_
 intro W base args ds p hval hA hsz
 have hval':∀ (j:Nat) t v,Tryz.f4.params[j]?=some t->args[j]?=some v->Value.okWide Tryz.prog W .any base t v:=hval
 rw [Tryz.params4] at hval' hA hsz
 obtain ⟨v0,vs0,d0,ds0,p0,q0,hargs,rfl,rfl,h0,r0⟩:=trodAll_cons hA
 obtain ⟨v1,vs1,d1,ds1,p1q,q1,rfl,rfl,rfl,h1,r1⟩:=trodAll_cons r0
 obtain ⟨v2,vs2,d2,ds2,p2,q2,rfl,rfl,rfl,h2,r2⟩:=trodAll_cons r1
 obtain ⟨rfl,rfl,rfl⟩:=trodAll_nil r2
 obtain rfl:args=#[v0,v1,v2]:=by cases args;simp_all
 obtain ⟨a0,len0,cap0,rfl⟩:=okWide_slice Tryz.underlying25 (hval' 0 25 v0 rfl rfl)
 obtain ⟨hw0,hc0,hm0,bs0,hr0,hbs0⟩:=EB Tryz.underlying25 Tryz.underlying5 (by kernel_rfl) h0
 have hlen0:=EN hsz (j:=0) (t:=25) rfl rfl Tryz.underlying25 (of_decide_eq_true (by kernel_rfl)) hw0
 obtain ⟨a1,rfl,rfl,rfl,w1⟩:=open_int Tryz.underlying3 (hval' 1 3 v1 rfl rfl) h1
 obtain ⟨a2,len2,cap2,rfl⟩:=okWide_slice Tryz.underlying22 (hval' 2 22 v2 rfl rfl)
 obtain ⟨fu2,hf2⟩:=h2
 obtain ⟨hc2,hl2,hd2⟩:=wT hf2 (Da hsz (j:=2) rfl rfl)
 exact DS a0 len0 cap0 a1 a2 len2 cap2 bs0 W hlen0 hc0 hr0 hbs0 hd2 hc2 hl2
theorem proved:Rows.WireOneSaid:=
 OpenClaim.holds_of_wide 4 Tryz.f4 rfl rfl rfl rfl rfl rfl rfl ⟨rfl,rfl,rfl,rfl,rfl⟩ rfl rfl rfl rfl rfl (by kernel_rfl) Tryz.func4 (by kernel_rfl)
  (of_decide_eq_true (by kernel_rfl)) (by unfold Func.isWrapper;first | (rw [if_pos (by decide+kernel)];kernel_rfl) | (rw [if_neg (by decide+kernel)];exact ⟨rfl,rfl⟩))
  (fun os started H enc _=>Df os started H enc)
end Go.Proofs.YtkgpoimmniojjaaGreat.wireOne
