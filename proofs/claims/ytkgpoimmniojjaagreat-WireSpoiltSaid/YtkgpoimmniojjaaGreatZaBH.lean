/- No condition. -/
import Derived.Test.YtkgpoimmniojjaaGreatZaBF
import Derived.Test.YtkgpoimmniojjaaGreatZaBE
import Derived.Test.YtkgpoimmniojjaaGreatZaBD
import Derived.Test.YtkgpoimmniojjaaGreatZaAW
import Derived.Test.YtkgpoimmniojjaaGreatZaBB
import Derived.BigGuardPart
import Derived.Test.YtkgpoimmniojjaaGreatZaBC
namespace Go.Proofs.YtkgpoimmniojjaaGreat
set_option linter.unusedVariables false
set_option linter.unusedSimpArgs false
set_option maxRecDepth 100000
set_option maxHeartbeats 16000000
section
open Go.RowKit
variable {w:World} {n K c:Nat} {A:Option Addr} {e:TypeId}
theorem Ef {t:TX} (hih:∀ k∈t.kids,PC k) (hkd:t.kind=1):PC t:=by
 intro w T0 base n c A ho ht h0 hb hbd hsh hn;have HIH:=hD hih;have HSH:=hD hsh;have HTX:=hD hbd.text;have hkb:=ht.kb;have hs1:1+cX t t.kids.length<=t.plain.size:=Nat.le_of_eq (cO t t.kids.length (Nat.le_refl _)).symm;have har:Ar t.kind t.kids.length:=by cases hsh;assumption
 rw [hkd] at har;clear har;unfold TX.val;rw [hkd];obtain ⟨W,hW⟩:=nm (w.alloc (.cells #[.int .i64 1,.string t.text,.slice t.lA t.leads.length t.lc,.slice t.kA t.kids.length t.kc] 99));have HZ:Hid (PZ w W t 1 base T0 (.slice A n c) (.slice A n c) n):=by rw [<- hW];exact PZ.new ho ht h0 hb hbd hkd
 have HW:=hD hW;clear hih hsh ho ht h0 hb hbd hW hkd;obtain ⟨x0,x1,x2,x3⟩:=HZ.out.box.c4;have HL:Hid (∀ w',Below W.heap.size W w'->∀ z,0<=z->Calls Tryz.prog 166 #[.agg #[.int .i64 1,.string t.text,.slice t.lA t.leads.length t.lc,.slice t.kA t.kids.length t.kc],.int .i64 z] w' (bH w' 110)):=fun w' hb z hz=>by
  have:=(HZ.out.below hb).lead z hz;exact this
 go_enter Tryz.func148,Tryz.ntmps148;go_wp2_with (rw [HW.out]);clear HW;have fx0:=aH x0;have fx1:=aH x1;have fx2:=aH x2;have fx3:=aH x3;refine aY 9 [([0,1,4,6,7],2),([3],5),([8],9)] [] (by kernel_rfl) (by kernel_rfl) ?_;refine aI ?_
 try simp only [sN]
 repeat (go_big_quiet_step (fail))
 refine wpQuiet_nil ?_;refine aC rfl 166 _ _ rfl Tryz.func166 rfl (by kernel_rfl) #[.agg #[.int .i64 1,.string t.text,.slice t.lA t.leads.length t.lc,.slice t.kA t.kids.length t.kc],.int .i64 0] (by simp [Act.eval]) (HL.out _ (cC (Below.refl W.heap.size W)) 0 (by decide)) ?_;rintro e w1_0 ⟨s1_0,rfl,hs1_0,hb1⟩;have HB1_0:=hD (aB (cC (Below.refl W.heap.size W)) hb1);clear hb1;refine ⟨_,rfl,⟨⟨_,HB1_0.out⟩,rfl⟩,?_⟩;simp only [sP];refine aI ?_
 try simp only [sN]
 repeat (go_big_quiet_step (fail))
 refine wpQuiet_nil ?_;refine aC rfl 166 _ _ rfl Tryz.func166 rfl (by kernel_rfl) #[.agg #[.int .i64 1,.string t.text,.slice t.lA t.leads.length t.lc,.slice t.kA t.kids.length t.kc],.int .i64 1] (by simp [Act.eval]) (HL.out _ (HB1_0.out) 1 (by decide)) ?_;rintro e w1_1 ⟨s1_1,rfl,hs1_1,hb1⟩;have HB1_1:=hD (aB (HB1_0.out) hb1);clear hb1;refine ⟨_,rfl,⟨⟨_,HB1_1.out⟩,rfl⟩,?_⟩;simp only [sP];refine aI ?_
 try simp only [sN]
 repeat (go_big_quiet_step (fail))
 refine wpQuiet_nil ?_;obtain ⟨u1,hu1⟩:=nm (w1_1.alloc (.cells #[.string s1_0,.string ⟨#[109,111,100,117,108,101]⟩,.string s1_1,.string t.text] 181));have HU1:Hid (Below W.heap.size W u1):=by rw [<- hu1];exact bK HB1_1.out _
 refine aE rfl (by simp [go_sem];exact ⟨rfl,hu1⟩) ⟨⟨_,HU1.out⟩,rfl⟩ ?_;simp only [sP];refine bD ?_;refine wpQuiet_nil ?_;have HZ1:=hD (HZ.out.below HB1_1.out);have HO1:=hD HZ1.out.own;have HT1:=hD (nH (w:=w1_1) (B:=w1_1.heap.size) hs1_0 (show (⟨#[109,111,100,117,108,101]⟩:ByteArray).size<=110 by decide) hs1_1 HTX.out);have HB1:=hD HZ1.out.size;clear x0 x1 x2 x3 fx0 fx1 fx2 fx3 HZ HL;rw [<- hu1];go_wp2_with (at_builtin;refine p1 (kP 110) rfl rfl base (.slice A (n) c) (n) rfl HO1.out 181 _ 2 2 rfl rfl rfl HT1.out (by omega) HB1.out ?_);intro A1 c1 v1 hown7 hg7 hb7;have HZ:=hD (HZ1.out.push (o:=.cells #[.string s1_0,.string ⟨#[109,111,100,117,108,101]⟩,.string s1_1,.string t.text] 181) (by rw [hu1];exact hg7) hown7);clear hown7 hg7 hb7 HO1 HT1 HZ1 HB1;go_wp2_with fail;refine NoPanic.normal ?_;go_wp2_with fail;go_loopw [0,6] (fun l i wr=>∃ (j m d:Nat) (D:Option Addr),j<=t.kids.length/\i=.int .i64 (j:Int)/\l=.slice D m d/\Hid (PZ w wr t 1 base T0 (.slice A n c) (.slice D m d) m)/\Hid (m<=n+2+10*cX t j)) (fun _ i _=>t.kids.length - (intOf i).toNat)
 case atStart=>exact ⟨0,n+2,c1,A1,Nat.zero_le _,rfl,rfl,HZ,Nat.le_add_right _ _⟩
 case round=>
  clear HZ;obtain ⟨j,m,d,D,hj,rfl,rfl,HZ,HM⟩:=hrel;have hm1:=HM.out;by_cases hlt:j < t.kids.length
  ·obtain ⟨k,hk⟩:∃ k,t.kids[j]?=some k:=⟨_,List.getElem?_eq_getElem hlt⟩;have hsz:cX t j+k.plain.size<=cX t (j+1):=Nat.le_of_eq (cD hk).symm;have hmn:=cE t (show j+1<=t.kids.length by omega);have hps:1<=k.plain.size:=by rw [TX.plain_eq,T.size];omega
   have d1:decide ((j:Int) < (t.kids.length:Int))=true:=decide_eq_true (by omega);have j0:(0:Int)<=(j:Int):=by omega
   have j1:(j:Int) < (t.kids.length:Int):=by omega
   have HKC:=hD (HZ.out.kid HIH.out hk HSH.out (by omega));obtain ⟨ab,ao,hA,hab',e0,e1,e2,e3⟩:=HZ.out.tr.at_ hk;obtain ⟨x0,x1,x2,x3⟩:=HZ.out.box.c4;rw [hA] at x3;clear hA hk;go_wp2_with fail;(with_reducible refine (HKC.out).mono ?_);rintro r0 w8 ⟨A8,n8,c8,rfl,hown8,hn8,hg8⟩;have HZ8:=hD (HZ.out.call hg8 hown8);have HN9:=hD (show n8<=n+2+10*cX t (j+1) by omega);clear hown8 hg8 hn8 hsz hmn hps;go_wp2_with fail;go_roundw
   case rel=>exact ⟨j+1,n8,c8,A8,by omega,by go_num,rfl,HZ8,HN9⟩
   case measure=>simp [intOf];omega
  ·have d1:decide ((j:Int) < (t.kids.length:Int))=false:=decide_eq_false (by omega);have hmn:=cE t (show j<=t.kids.length from hj);obtain ⟨x0,x1,x2,x3⟩:=HZ.out.box.c4;have HL:Hid (∀ w',Below wr.heap.size wr w'->∀ z,0<=z->Calls Tryz.prog 166 #[.agg #[.int .i64 1,.string t.text,.slice t.lA t.leads.length t.lc,.slice t.kA t.kids.length t.kc],.int .i64 z] w' (bH w' 110)):=fun w' hb z hz=>by
    have:=(HZ.out.below hb).lead z hz;exact this
   go_wp2_with fail;(with_reducible refine (HL.out _ (Below.refl _ _) 2 (by decide)).mono ?_);rintro r0 w2 ⟨s2,rfl,hs2,hb2⟩;have HZ1:=hD (HZ.out.below hb2);have HO1:=hD HZ1.out.own;have HT1:=hD (cM (w:=w2) (B:=w2.heap.size) hs2 (show (⟨#[]⟩:ByteArray).size<=110 by decide));have HB1:=hD HZ1.out.size;clear hb2 x0 x1 x2 x3 HZ HL;go_wp2_with (at_builtin;refine p1 (kP 110) rfl rfl base (.slice D (m) d) (m) rfl HO1.out 181 _ 1 1 rfl rfl rfl HT1.out (by omega) HB1.out ?_);intro A2 c2 v2 hown7 hg7 hb7;have HZ:=hD (HZ1.out.push hg7 hown7);clear hown7 hg7 hb7 HO1 HT1 HZ1 HB1;go_wp2_with fail;go_ret;exact ⟨A2,m+1,c2,rfl,HZ.out.own,by omega,HZ.out.gr⟩
theorem wR (t:TX):PC t:=by
 induction t using TX.ind with
 | h t ih=>
 by_cases h1:t.kind=1
 ·exact Ef ih h1
 by_cases h2:t.kind=2
 ·exact Ee ih h2
 by_cases h3:t.kind=3
 ·exact Ed ih h3
 by_cases h4:t.kind=4
 ·exact Ec ih h4
 by_cases h5:t.kind=5
 ·exact Eb ih h5
 by_cases h6:t.kind=6
 ·exact Ea ih h6
 by_cases h7:t.kind=7
 ·exact DZ ih h7
 by_cases h13:t.kind=13
 ·exact DD ih h13
 by_cases h14:t.kind=14
 ·exact DC ih h14
 by_cases h15:t.kind=15
 ·exact DB ih h15
 by_cases h8:t.kind=8
 ·exact DY ih h8
 by_cases h16:t.kind=16
 ·exact DA ih h16
 by_cases h17:t.kind=17
 ·exact D9 ih h17
 by_cases h18:t.kind=18
 ·exact D8 ih h18
 by_cases h19:t.kind=19
 ·exact D7 ih h19
 by_cases h20:t.kind=20
 ·exact D6 ih h20
 by_cases h21:t.kind=21
 ·exact D5 ih h21
 by_cases h22:t.kind=22
 ·exact D4 ih h22
 exact DX ih (by simpa using h1) (by simpa using h2) (by simpa using h3) (by simpa using h4) (by simpa using h5) (by simpa using h6) (by simpa using h7) (by simpa using h13) (by simpa using h14) (by simpa using h15) (by simpa using h8) (by simpa using h16) (by simpa using h17) (by simpa using h18) (by simpa using h19) (by simpa using h20) (by simpa using h21) (by simpa using h22)
theorem V.pie_at {B k len cap:Nat} (h:V w B (.sl n e (kU K)) (.slice A len cap)) (hk:k < len):∃ b off s1q s2,A=some ⟨b,off,none⟩/\b < B/\w.cell? ⟨b,off+k*2,none⟩=some (.string s1q)/\w.cell? ⟨b,off+k*2+1,none⟩=some (.string s2)/\s1q.size<=K/\s2.size<=K:=by
 obtain ⟨b,off,e1,hB,hc⟩:=h.at_ hk (by simp);obtain ⟨u0,h0,v0⟩:=hc 0 _ rfl;obtain ⟨u1,h1,v1⟩:=hc 1 _ rfl;obtain ⟨s1q,rfl,i1⟩:=v0.str_inv;obtain ⟨s2,rfl,i2⟩:=v1.str_inv;simp only [List.length_cons,List.length_nil,Nat.zero_add,Nat.reduceAdd,Nat.add_zero,<- Nat.add_assoc] at h0 h1;exact ⟨b,off,s1q,s2,e1,hB,h0,h1,i1,i2⟩
def pN (w:World) (e:Ending) (w':World):Prop:=∃ A n c,e=.returned (.slice A n c)/\V w' w'.heap.size (.sl 10000 181 (kU 110)) (.slice A n c)/\Below w.heap.size w w'
theorem uN (t:TX) (w:World) (h:Tr w w.heap.size t) (hbd:fG 110 t) (hsh:nP t) (hz:t.plain.size<=1000):Calls Tryz.prog 128 #[t.val] w (pN w):=by
 have HPC:Hid (∀ W,w.heap.size<=W.heap.size->Below w.heap.size w W->Calls Tryz.prog 148 #[.slice none 0 0,t.val] W (pO W W.heap.size (.slice none 0 0) 0 (10*t.plain.size - 1))):=fun W hs hb=>wR t W w.heap.size W.heap.size 0 0 none (aJ.nil _ _ _ _) (h.low hb) hs (Nat.le_refl _) hbd hsh (by omega);unfold TX.val at HPC;unfold TX.val;obtain ⟨W,hW⟩:=nm (w.alloc (.cells #[.int .i64 t.kind,.string t.text,.slice t.lA t.leads.length t.lc,.slice t.kA t.kids.length t.kc] 99));have HB:=bw hW;have HX:=bk hW;have HZ:Hid (w.heap.size < W.heap.size):=HX.out.lt;have HT:=hD h;have HW:=hD hW;clear h hW;obtain ⟨x0,x1,x2,x3⟩:=HX.out.c4;go_enter Tryz.func128,Tryz.ntmps128;go_wp2_with (rw [HW.out]);(with_reducible refine (HPC.out _ (Nat.le_of_lt HZ.out) HB.out).mono ?_);rintro r0 w1 ⟨A7,n7,c7,rfl,hown,hn7,hg⟩;have HV:=hD (hown.v_ (N:=10000) (by omega));have HB1:=hD (aB HB.out hg.below_new);clear hown hg;go_wp2_with fail;go_ret;exact ⟨_,_,_,rfl,HV.out,HB1.out⟩
theorem Au (a b:ByteArray) (w:World) (ha:a.size<=1000) (hb:b.size<=1000):Calls Tryz.prog 129 #[.string a,.string b] w (dI w True):=by
 have HCA:Hid (∀ w,Calls Tryz.prog 142 #[.string a] w (aV w jC)):=fun w=>jR a w (by omega);have HCB:Hid (∀ w,Calls Tryz.prog 142 #[.string b] w (aV w jC)):=fun w=>jR b w (by omega);have hab:(a++b).size<=2000:=by rw [ByteArray.size_append];omega
 have HSC:Hid (∀ w,Calls Tryz.prog 92 #[.string (a++b)] w (aV w (lR (a++b).size))):=fun w=>qT _ w (by omega);go_enter Tryz.func129,Tryz.ntmps129;go_wp2_with fail;(with_reducible refine (HCA.out _).mono ?_);rintro r0 w1 ⟨hb1,v,rfl,z,rfl,-⟩;have HB:=hD hb1;clear hb1;by_cases hz:z=0
 ·have d:(z == 0)=true:=by simpa using hz
  go_wp2_with fail;go_ret;exact ⟨false,rfl,HB.out,fun h=>(nomatch h)⟩
 have d:(z == 0)=false:=by simpa using hz
 go_wp2_with fail;(with_reducible refine (HCB.out _).mono ?_);rintro r0 w2 ⟨hb1,v,rfl,y,rfl,-⟩;have HB:=hD (aB HB.out hb1);clear hb1;by_cases hy:y=0
 ·have d:(y == 0)=true:=by simpa using hy
  go_wp2_with fail;go_ret;exact ⟨false,rfl,HB.out,fun h=>(nomatch h)⟩
 have d:(y == 0)=false:=by simpa using hy
 go_wp2_with fail;(with_reducible refine (HSC.out _).mono ?_);rintro r0 w3 ⟨hb1,v,rfl,A,n,c,tl,at_,er,rfl,hv,ht,ia,ie⟩;have HB:=hD (aB HB.out hb1);clear hb1;have hnl:=hv.len_le;by_cases he:er=0
 case neg=>
  have d:(er != 0)=true:=by simpa using he
  go_wp2_with fail;go_ret;exact ⟨_,rfl,HB.out,fun h=>trivial⟩
 have d:(er != 0)=false:=by simpa using he
 by_cases hn:n=2
 case neg=>
  have d:((n:Int) != 2)=true:=by simp;omega
  go_wp2_with fail;go_ret;exact ⟨_,rfl,HB.out,fun h=>trivial⟩
 subst hn;obtain ⟨b0,off,z0,s1q,s2,rfl,-,e0,e1,e2,-⟩:=hv.tok_at (k:=0) (by decide);obtain ⟨b1,off1,z1,s3,s4,hA,-,e3,e4,e5,-⟩:=hv.tok_at (k:=1) (by decide);injection hA with hA;injection hA with hA1 hA2;subst hA1 hA2;simp only [Nat.zero_mul,Nat.one_mul,Nat.add_zero,Nat.reduceMul] at e0 e1 e2 e3 e4 e5;clear hv;go_wp2_with fail
 all_goals
  go_ret;exact ⟨_,rfl,HB.out,fun h=>trivial⟩
def rQ (w:World) (e:Ending) (w':World):Prop:=∃ s,e=.returned (.string s)/\s.size<=3000000/\Below w.heap.size w w'
theorem zM (t:TX) (w:World) (h:Tr w w.heap.size t) (hbd:fG 110 t) (hz:t.plain.size<=1000):Calls Tryz.prog 110 #[t.val] w (rQ w):=by
 have HPR:Hid (∀ W,Below w.heap.size w W->Calls Tryz.prog 108 #[t.val] W (dI W (nP t/\vV t))):=fun W hb=>kE (K:=110) (by decide) t W (h.up (Nat.le_refl _) hb) hbd;have HPI:Hid (∀ W,Below w.heap.size w W->nP t->Calls Tryz.prog 128 #[t.val] W (pN W)):=fun W hb hs=>uN t W (h.up (Nat.le_refl _) hb) hbd hs hz;have HFU:Hid (∀ a b:ByteArray,a.size<=110->b.size<=110->∀ w,Calls Tryz.prog 129 #[.string a,.string b] w (dI w True)):=fun a b ha hb w=>Au a b w (by omega) (by omega);unfold TX.val at HPR HPI;unfold TX.val;obtain ⟨W,hW⟩:=nm (w.alloc (.cells #[.int .i64 t.kind,.string t.text,.slice t.lA t.leads.length t.lc,.slice t.kA t.kids.length t.kc] 99));have HB:=bw hW;have HX:=bk hW;have HZ:Hid (w.heap.size < W.heap.size):=HX.out.lt;have HT:=hD h;have HW:=hD hW;clear h hW;obtain ⟨x0,x1,x2,x3⟩:=HX.out.c4;clear hbd hz;go_enter Tryz.func110,Tryz.ntmps110;go_wp2_with (rw [HW.out]);(with_reducible refine (HPR.out _ HB.out).mono ?_);rintro r0 w1 ⟨b,rfl,hb1,hs⟩;have HX:=hD (HX.out.below hb1 HX.out.lt);have HB:=hD (aB HB.out hb1);have HS:=hD hs;clear hb1 hs x0 x1 x2 x3
 cases b
 ·go_wp2_with fail;go_ret;exact ⟨⟨#[]⟩,rfl,Nat.zero_le _,HB.out⟩
 obtain ⟨x0,x1,x2,x3⟩:=HX.out.c4;have HSH:Hid (nP t):=(by first | exact (HS.out rfl).1 | exact (HS.out trivial).1);go_wp2_with fail;(with_reducible refine (HPI.out _ HB.out HSH.out).mono ?_);rintro r0 w2 ⟨A,n,c,rfl,hv,hb2⟩;have HB:=hD (aB HB.out hb2);have HV:=hD hv;have hnl:=hv.len_le;clear hb2 hv x0 x1 x2 x3 HX;go_wp2_with fail;go_loopw [4,5] (fun s i wr=>∃ (j:Nat) (b:ByteArray),j<=n/\i=.int .i64 (j:Int)/\s=.string b/\Hid (Below w2.heap.size w2 wr)/\Hid (b.size<=221*j)) (fun _ i _=>n - (intOf i).toNat)
 case atStart=>exact ⟨0,⟨#[]⟩,Nat.zero_le _,rfl,rfl,Below.refl _ _,Nat.zero_le _⟩
 case round=>
  obtain ⟨j,s,hj,rfl,rfl,HBl,HSZ⟩:=hrel;have hsz:=HSZ.out;by_cases hlt:j < n
  ·obtain ⟨bkq,off,s1q,s2,rfl,hbk,e0,e1,hs1,hs2⟩:=(HV.out.up HBl.out).pie_at hlt;have d1:decide ((j:Int) < (n:Int))=true:=decide_eq_true (by omega);have j0:(0:Int)<=(j:Int):=by omega
   have j1:(j:Int) < (n:Int):=by omega
   go_upto_region 8 with fail;go_cut [40] (fun x wq=>∃ b,x=.bool b/\Hid (Below wr.heap.size wr wq))
   case first=>
    have fe0:=aH e0;have fe1:=aH e1;have q1:(s1q.toList == [])=true\/(s1q.toList == [])=false:=by cases (s1q.toList == []) <;> simp
    by_cases hj0:0 < j
    ·have d2:decide ((0:Int) < (j:Int))=true:=decide_eq_true (by omega);rcases q1 with q1 | q1
     ·obtain ⟨bk',off',s3,s4,hA,-,e2,e3,hs3,hs4⟩:=(HV.out.up HBl.out).pie_at (k:=j - 1) (by omega);injection hA with hA;injection hA with hA1 hA2;subst hA1 hA2;have ix0:(0:Int)<=(j:Int) - 1:=by omega
      have ix1:(j:Int) - 1 < (n:Int):=by omega
      have ix2:((j:Int) - 1).toNat=j - 1:=by omega
      have fe3:=aH e3;have HF:=hD (HFU.out s4 s2 hs4 hs2);go_wp2_with fail;refine aY 21 [] [0,1,2,3,4,5,6,7,8,9,10,11,12,13,14,15,16,17,18,19,20,21] (by kernel_rfl) (by kernel_rfl) ?_;refine bD ?_;simp only [sN]
      repeat (go_big_quiet_step (fail))
      refine wpQuiet_nil ?_;clear fe0 fe1 fe3;go_wp2_with fail;(with_reducible refine (HF.out _).mono ?_);rintro r0 w5 ⟨b,rfl,hb5,-⟩;have HB5:=hD (aB (cC (Below.refl wr.heap.size wr)) hb5);clear hb5;go_wp2_with fail;refine NoPanic.normal ?_;go_wp2_with fail;go_meet;exact ⟨_,rfl,HB5⟩
     ·go_wp2_with fail;refine aY 21 [] [0,1,2,3,4,5,6,7,8,9,10,11,12,13,14,15,16,17,18,19,20,21] (by kernel_rfl) (by kernel_rfl) ?_;refine bD ?_;simp only [sN]
      repeat (go_big_quiet_step (fail))
      refine wpQuiet_nil ?_;go_wp2_with fail;refine NoPanic.normal ?_;go_wp2_with fail;go_meet;exact ⟨_,rfl,cC (Below.refl _ _)⟩
    ·have d2:decide ((0:Int) < (j:Int))=false:=decide_eq_false (by omega);go_wp2_with fail;refine aY 21 [] [0,1,2,3,4,5,6,7,8,9,10,11,12,13,14,15,16,17,18,19,20,21] (by kernel_rfl) (by kernel_rfl) ?_;refine bD ?_;simp only [sN]
     repeat (go_big_quiet_step (fail))
     refine wpQuiet_nil ?_;go_wp2_with fail;refine NoPanic.normal ?_;go_wp2_with fail;go_meet;exact ⟨_,rfl,cC (Below.refl _ _)⟩
   case rest=>
    obtain ⟨b,rfl,HBw⟩:=hcut;have g0:=(HBw.out.cell (p:=⟨bkq,off+j*2,none⟩) hbk).trans e0;have g1:=(HBw.out.cell (p:=⟨bkq,off+j*2+1,none⟩) hbk).trans e1;have HBx:=hD (aB HBl.out HBw.out);clear e0 e1 HBw
    cases b
    all_goals
     go_wp2_with fail;go_quiet (fail);have HB9:=hD (lE HBx.out nq);go_wp2_with fail;go_roundw
     case rel=>
      have h32:(⟨#[32]⟩:ByteArray).size=1:=rfl;exact ⟨j+1,_,by omega,by go_num,rfl,HB9,hD (by simp only [ByteArray.size_append,h32];omega)⟩
     case measure=>simp [intOf];omega
  ·have d1:decide ((j:Int) < (n:Int))=false:=decide_eq_false (by omega);go_wp2_with fail;go_ret;exact ⟨s,rfl,by omega,aB HB.out HBl.out⟩
theorem tO (t:TX) (w:World) (h:Tr w w.heap.size t) (hbd:fG 110 t) (hz:t.plain.size<=1000):Calls Tryz.prog 87 #[t.val] w (dI w (nP t/\vV t)):=by
 have HPR:Hid (∀ W,Below w.heap.size w W->Calls Tryz.prog 108 #[t.val] W (dI W (nP t/\vV t))):=fun W hb=>kE (K:=110) (by decide) t W (h.up (Nat.le_refl _) hb) hbd;have HLI:Hid (∀ W,Below w.heap.size w W->Calls Tryz.prog 109 #[t.val] W (dI W True)):=fun W hb=>wY t W (h.up (Nat.le_refl _) hb);have HDE:Hid (∀ W,Below w.heap.size w W->Calls Tryz.prog 94 #[t.val] W (DP W (.int .i64 t.plain.dW))):=fun W hb=>oH t W (h.up (Nat.le_refl _) hb);have HPN:Hid (∀ W,Below w.heap.size w W->Calls Tryz.prog 110 #[t.val] W (rQ W)):=fun W hb=>zM t W (h.up (Nat.le_refl _) hb) hbd hz;unfold TX.val at HPR HLI HDE HPN;unfold TX.val;obtain ⟨W,hW⟩:=nm (w.alloc (.cells #[.int .i64 t.kind,.string t.text,.slice t.lA t.leads.length t.lc,.slice t.kA t.kids.length t.kc] 99));have HB:=bw hW;have HX:=bk hW;have HZ:Hid (w.heap.size < W.heap.size):=HX.out.lt;have HT:=hD h;have HW:=hD hW;clear h hW;obtain ⟨x0,x1,x2,x3⟩:=HX.out.c4;clear hbd hz;go_enter Tryz.func87,Tryz.ntmps87;go_wp2_with (rw [HW.out]);(with_reducible refine (HPR.out _ HB.out).mono ?_);rintro r0 w1 ⟨b,rfl,hb1,hs⟩;have HX:=hD (HX.out.below hb1 HX.out.lt);have HB:=hD (aB HB.out hb1);have HS:=hD hs;clear hb1 hs x0 x1 x2 x3;obtain ⟨x0,x1,x2,x3⟩:=HX.out.c4
 cases b
 ·go_wp2_with fail;go_ret;exact ⟨false,rfl,HB.out,fun h=>(nomatch h)⟩
 have HSH:Hid (nP t/\vV t):=(by first | exact HS.out rfl | exact HS.out trivial);clear HS;go_wp2_with fail;(with_reducible refine (HLI.out _ HB.out).mono ?_);rintro r0 w2 ⟨b,rfl,hb1,-⟩;have HX:=hD (HX.out.below hb1 HX.out.lt);have HB:=hD (aB HB.out hb1);clear hb1 x0 x1 x2 x3;obtain ⟨x0,x1,x2,x3⟩:=HX.out.c4
 cases b
 ·go_wp2_with fail;go_ret;exact ⟨false,rfl,HB.out,fun h=>(nomatch h)⟩
 go_wp2_with fail;(with_reducible refine (HDE.out _ HB.out).mono ?_);rintro r0 w3 ⟨rfl,hb1⟩;have HX:=hD (HX.out.below hb1 HX.out.lt);have HB:=hD (aB HB.out hb1);clear hb1 x0 x1 x2 x3;obtain ⟨x0,x1,x2,x3⟩:=HX.out.c4;have q1:decide (t.plain.dW<=40)=true\/decide (t.plain.dW<=40)=false:=by cases decide (t.plain.dW<=40) <;> simp
 rcases q1 with q1 | q1
 case inr=>
  go_wp2_with fail;go_ret;exact ⟨false,rfl,HB.out,fun h=>(nomatch h)⟩
 go_wp2_with fail;(with_reducible refine (HPN.out _ HB.out).mono ?_);rintro r0 w4 ⟨s,rfl,hs,hb1⟩;have HB:=hD (aB HB.out hb1);clear hb1;go_wp2_with fail;go_ret;exact ⟨_,rfl,HB.out,fun _=>HSH.out⟩
theorem xS {gp:Nat} {tl:ByteArray} {a:Nat} {st e:Int} (w:World) (h:PS w gp K n A c tl a st e) (hn:n<=1000000):
  Calls Tryz.prog 174 #[.pointer (some ⟨gp,0,none⟩)] w (fun r w'=>∃ b,r=.returned (.bool b)/\Below w.heap.size w w'):=by
 have HP:=hD h;have HB:=hD (Below.refl w.heap.size w);clear h;go_enter Tryz.func174,Tryz.ntmps174;go_wp2_with fail;(with_reducible refine (dB w HP.out hn).mono ?_);rintro r0 w1 ⟨k,rfl,hb1,-,-⟩;have HP:=hD (HP.out.below hb1);have HB:Hid (Below w.heap.size w w1):=hb1;clear hb1;have q5:(k == 5)=true\/(k == 5)=false:=by cases (k == 5) <;> simp
 rcases q5 with q5 | q5
 ·go_wp2_with fail;go_ret;exact ⟨_,rfl,HB.out⟩
 have q6:(k == 6)=true\/(k == 6)=false:=by cases (k == 6) <;> simp
 rcases q6 with q6 | q6
 ·go_wp2_with fail;go_ret;exact ⟨_,rfl,HB.out⟩
 have q1:(k == 1)=true\/(k == 1)=false:=by cases (k == 1) <;> simp
 rcases q1 with q1 | q1
 ·go_wp2_with fail;go_ret;exact ⟨_,rfl,HB.out⟩
 have q3:(k == 3)=true\/(k == 3)=false:=by cases (k == 3) <;> simp
 rcases q3 with q3 | q3
 ·go_wp2_with fail;go_ret;exact ⟨_,rfl,HB.out⟩
 go_wp2_with fail;(with_reducible refine (cU _ w1 HP.out hn).mono ?_);rintro r0 v0 ⟨b1,rfl,hb1,-⟩;have HP:=hD (HP.out.below hb1);have HB:=hD (aB HB.out hb1);clear hb1
 cases b1
 case true=>
  go_wp2_with fail;go_ret;exact ⟨_,rfl,HB.out⟩
 go_wp2_with fail;(with_reducible refine (cU _ v0 HP.out hn).mono ?_);rintro r0 v1 ⟨b1,rfl,hb1,-⟩;have HP:=hD (HP.out.below hb1);have HB:=hD (aB HB.out hb1);clear hb1
 cases b1
 case true=>
  go_wp2_with fail;go_ret;exact ⟨_,rfl,HB.out⟩
 go_wp2_with fail;(with_reducible refine (cU _ v1 HP.out hn).mono ?_);rintro r0 v2 ⟨b1,rfl,hb1,-⟩;have HP:=hD (HP.out.below hb1);have HB:=hD (aB HB.out hb1);clear hb1
 cases b1
 case true=>
  go_wp2_with fail;go_ret;exact ⟨_,rfl,HB.out⟩
 go_wp2_with fail;(with_reducible refine (cU _ v2 HP.out hn).mono ?_);rintro r0 v3 ⟨b1,rfl,hb1,-⟩;have HP:=hD (HP.out.below hb1);have HB:=hD (aB HB.out hb1);clear hb1
 cases b1
 case true=>
  go_wp2_with fail;go_ret;exact ⟨_,rfl,HB.out⟩
 go_wp2_with fail;(with_reducible refine (cU _ v3 HP.out hn).mono ?_);rintro r0 v4 ⟨b1,rfl,hb1,-⟩;have HP:=hD (HP.out.below hb1);have HB:=hD (aB HB.out hb1);clear hb1
 cases b1
 case true=>
  go_wp2_with fail;go_ret;exact ⟨_,rfl,HB.out⟩
 go_wp2_with fail;(with_reducible refine (cU _ v4 HP.out hn).mono ?_);rintro r0 v5 ⟨b1,rfl,hb1,-⟩;have HP:=hD (HP.out.below hb1);have HB:=hD (aB HB.out hb1);clear hb1
 cases b1
 case true=>
  go_wp2_with fail;go_ret;exact ⟨_,rfl,HB.out⟩
 go_wp2_with fail;(with_reducible refine (cU _ v5 HP.out hn).mono ?_);rintro r0 v6 ⟨b1,rfl,hb1,-⟩;have HP:=hD (HP.out.below hb1);have HB:=hD (aB HB.out hb1);clear hb1
 cases b1
 all_goals
  go_wp2_with fail;go_ret;exact ⟨_,rfl,HB.out⟩
theorem B8 (s:ByteArray):∀ x∈gI s,x < 256:=fun x hx=>by
 rcases List.mem_append.1 hx with h | h
 ·exact dS _ x h
 ·exact AT s x h
theorem BA (l:List Int):∀ x∈iN l,x < 256:=fun x hx=>by
 rcases List.mem_append.1 hx with h | h
 ·exact dS _ x h
 ·obtain ⟨y,-,hy⟩:=List.mem_flatMap.1 h;exact dS _ x hy
theorem Dj (c:bG):∀ x∈eK c,x < 256:=fun x hx=>by
 unfold eK at hx;simp only [List.mem_append] at hx;rcases hx with ((((h | h) | h) | h) | h) | h
 ·exact dS _ x h
 ·exact dS _ x h
 ·exact dS _ x h
 ·unfold vM at h
  split at h <;> simp at h <;> omega
 ·exact B8 _ x h
 ·exact dS _ x h
theorem BC (c:bY):∀ x∈bQ c,x < 256:=fun x hx=>by
 unfold bQ at hx;simp only [List.mem_append] at hx;rcases hx with ((((h | h) | h) | h) | h) | h
 ·exact dS _ x h
 ·exact BA _ x h
 ·exact BA _ x h
 ·exact B8 _ x h
 ·exact dS _ x h
 ·obtain ⟨y,-,hy⟩:=List.mem_flatMap.1 h;exact Dj _ x hy
theorem yV (l:List CX):∀ x∈gX l,x < 256:=fun x hx=>by
 rcases List.mem_append.1 hx with h | h
 ·exact dS _ x h
 ·obtain ⟨y,-,hy⟩:=List.mem_flatMap.1 h;exact BC _ x hy
theorem Bh {base:Nat} {size m:Nat} {xs:List Value} (h:w.ownsRow base e size (.slice A m c) n xs):n<=c:=by
 rcases h.2 with ⟨h1,rfl⟩ | ⟨g,cap,cur,h1,_,_,hc,_⟩
 ·exact Nat.zero_le _
 ·injection h1 with _ _ h3;subst h3;exact hc
theorem ED {w':World} {bs:List Nat} {v:Value} (h:w'.ownsRow w.heap.size 5 1 v bs.length (bs.map dZ)):∃ A c,v=.slice A bs.length c/\bs.length<=c/\aG w' w'.heap.size 1 A bs.length (bs.map dZ):=by
 obtain ⟨A,c,rfl,hr⟩:=mE h;exact ⟨A,c,rfl,Bh h,hr⟩
theorem Ev (xs:List CX):gX xs=Es (xs.map CX.c):=by
 unfold gX Es jU;rw [List.length_map,List.flatMap_map]
end
end Go.Proofs.YtkgpoimmniojjaaGreat
