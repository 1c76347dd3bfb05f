/- No condition. -/
import Derived.Test.YtkgpoimmniojjaaGreatZaBJ
import Derived.Test.YtkgpoimmniojjaaGreatZaBH
import Derived.Test.YtkgpoimmniojjaaGreatZaBC
namespace Go.Proofs.YtkgpoimmniojjaaGreat
set_option linter.unusedVariables false
set_option linter.unusedSimpArgs false
set_option maxRecDepth 100000
set_option maxHeartbeats 16000000
section
open Go.RowKit
variable {w w':World} {t:TX} {d K i:Nat} {ps:List TX} {D:Option Addr}
theorem yG {B:Nat} {l:List ByteArray} (h:∀ b∈l,b.size<=K):Ts w B [.str K] (l.map Value.string):=fun j u t hu ht=>by
 have:j % 1=0:=Nat.mod_one j;simp [this] at ht;subst ht;rw [List.getElem?_map] at hu
 cases h1:l[j]? with
 | none=>rw [h1] at hu;cases hu
 | some s=>rw [h1] at hu;injection hu with hu;subst hu;exact .str _ _ (h s (List.mem_of_getElem? h1))
def nO (w:World) (e:Ending) (w':World):Prop:=∃ A n c,e=.returned (.slice A n c)/\V w' w'.heap.size (.sl 2 9 [.str 110]) (.slice A n c)/\Below w.heap.size w w'
theorem AZ (l:List ByteArray) {m:Nat} (h:∀ b∈l,b.size<=110) (hl:l.length=m) (h0:0 < m) (h2:m<=2):nO w (.returned (.slice (some ⟨w.heap.size,0,none⟩) m m)) (w.alloc (.cells (l.map Value.string).toArray 9)):=
 ⟨_,_,_,rfl,((V.new (m:=m) (by simpa using hl) (yG h) h0).wide h2).more (by simp),bK (Below.refl _ _) _⟩
theorem Cq (a:ByteArray) (h:a.size<=110):nO w (.returned (.slice (some ⟨w.heap.size,0,none⟩) 1 1)) (w.alloc (.cells #[.string a] 9)):=
 AZ [a] (fun b hb=>by simp at hb;subst hb;exact h) rfl (by decide) (by decide)
theorem Cp (a b:ByteArray) (h:a.size<=110) (h':b.size<=110):nO w (.returned (.slice (some ⟨w.heap.size,0,none⟩) 2 2)) (w.alloc (.cells #[.string a,.string b] 9)):=
 AZ [a,b] (fun c hc=>by simp at hc;rcases hc with rfl | rfl;exact h;exact h') rfl (by decide) (by decide)
theorem tY (x:Int) (w:World):Calls Tryz.prog 59 #[.int .i64 x] w (nO w):=by
 have HM:=hD (dM x 8 w (by decide));go_enter Tryz.func59,Tryz.ntmps59;go_wp2_with fail;(with_reducible refine (HM.out).mono ?_);rintro r0 w1 ⟨rfl,rfl⟩;generalize nJ x 8=z;go_wp2_with fail
 all_goals
  go_ret
  first
   | exact Cq (w:=w) _ (by decide)
   | exact Cp (w:=w) _ _ (by decide) (by decide)
theorem fG.mono {K':Nat} (h:fG K t) (hK:K<=K'):fG K' t:=by
 induction h with
 | mk t h1 h2 sub ih=>exact .mk t (Nat.le_trans h1 hK) (fun s hs=>Nat.le_trans (h2 s hs) hK) ih
def AF (w:World) (e:Ending) (w':World):Prop:=∃ A c ts B,e=.returned (.slice A ts.length c)/\w.heap.size<=B/\TL w' B B (.slice A ts.length c) ts/\ts.length<=2/\(∀ t∈ts,fG 110 t/\t.plain.size<=331)/\Below w.heap.size w w'
theorem tR (x:Int) (w:World):Calls Tryz.prog 30 #[.int .i64 x] w (AF w):=by
 have HSO:=hD (tY x w);have HPA:Hid (∀ s w,s.size<=110->Calls Tryz.prog 60 #[.string s] w (mO w s.size)):=fun s w h=>uP s w (by omega);go_enter Tryz.func30,Tryz.ntmps30;go_wp2_with fail;(with_reducible refine (HSO.out).mono ?_);rintro r0 w1 ⟨A,n,c,rfl,hv,hb1⟩;have HV:=hD hv;have HB1:=hD hb1;have hn2:=hv.len_le;clear hv hb1;go_wp2_with fail;go_loopw [3,5,6,7,8] (fun p i t6 x7 x8 wr=>∃ (j:Nat) (A3:Option Addr) (c3:Nat) (ts:List TX),j<=n/\i=.int .i64 (j:Int)/\p=.slice A3 ts.length c3/\ts.length<=j/\Hid (Below w.heap.size w wr)/\Hid (Below w1.heap.size w1 wr)/\Hid (TL wr w1.heap.size w1.heap.size (.slice A3 ts.length c3) ts)/\Hid (∀ t∈ts,fG 110 t/\t.plain.size<=331)) (fun _ i _ _ _ _=>n - (intOf i).toNat)
 case atStart=>exact ⟨0,none,0,[],Nat.zero_le _,rfl,rfl,Nat.le_refl _,HB1,Below.refl _ _,TL.nil _ _ _,fun t ht=>(nomatch ht)⟩
 case round=>
  obtain ⟨j,A3,c3,ts,hj,rfl,rfl,htl,HB,HBs,HTL,HTB⟩:=hrel;by_cases hlt:j < n
  ·obtain ⟨b,off,s,rfl,hb,e0,hs⟩:=(HV.out.up HBs.out).str_at hlt;have d1:decide ((j:Int) < (n:Int))=true:=decide_eq_true (by omega);have j0:(0:Int)<=(j:Int):=by omega
   have j1:(j:Int) < (n:Int):=by omega
   have HP:=hD (HPA.out s wr hs);clear hb;go_wp2_with fail;(with_reducible refine (HP.out).mono ?_);rintro r0 w3 ⟨t,za,er,hr0,ht,hi,htb,hsz,hb3⟩;obtain rfl:r0=.returned (.tuple #[.agg #[.int .i64 t.kind,.string t.text,.slice t.lA t.leads.length t.lc,.slice t.kA t.kids.length t.kc],.int .i64 za,.int .i64 er]):=hr0;obtain ⟨W4,hW4⟩:=nm (w3.alloc (.cells #[.int .i64 t.kind,.string t.text,.slice t.lA t.leads.length t.lc,.slice t.kA t.kids.length t.kc] 99));have HB3:Hid (Below wr.heap.size wr W4):=by subst hW4;exact bK hb3 _
   have HX4:=bk hW4;have HT4:Hid (Tr W4 W4.heap.size t):=by subst hW4;exact ht.up (Nat.le_refl _) (bK (Below.refl _ _) _)
   have HI4:=hD hi;have HTB4:=hD (show fG 110 t/\t.plain.size<=331 from ⟨htb.mono hs,by omega⟩);have HTL4:=hD (HTL.out.below HB3.out);have HOL:=hD (cK HTL.out.row);have HZ4:Hid (w1.heap.size<=W4.heap.size):=Nat.le_trans HBs.out.size HB3.out.size;have HW4:=hD hW4;clear ht hi htb hsz hb3 hW4;obtain ⟨W5,hW5⟩:=nm (W4.alloc (.cells t.cells.toArray 99));have HZ5:Hid (w1.heap.size<=W5.heap.size):=by subst hW5;simp;exact Nat.le_succ_of_le HZ4.out
   have HO5:Hid (W5.ownsRow w1.heap.size 99 4 (.slice A3 ts.length c3) ts.length (ts.flatMap TX.cells)):=by subst hW5;exact HTL4.out.row.alloc _
   have HSR:Hid (Src Tryz.prog 4 64 (.slice (some ⟨W4.heap.size,0,none⟩) 1 1) 1 t.cells W5):=by rw [<- hW5];exact bR W4 Tryz.underlying64 t.cells 4 1 1 99 rfl (AU t)
   have HW5:Hid (W4.alloc (.cells #[.int .i64 t.kind,.string t.text,.slice t.lA t.leads.length t.lc,.slice t.kA t.kids.length t.kc] 99)=W5):=hW5;have HB5:Hid (Below wr.heap.size wr W5):=by subst hW5;exact bK HB3.out _
   obtain ⟨x0,x1,x2,x3⟩:=HX4.out.c4;obtain ⟨i0,hi0,hz0,hz1,hz2⟩:=dF qK;have hml:ts.length+1<=maxLen:=by unfold maxLen;omega
   have hmb:(ts.length+1)*72<=140737488355328:=by omega
   go_wp2_with (first | rw [HW4.out] | rw [HW5.out] | (at_builtin;refine aF W5 rfl _ _ _ _ rfl w1.heap.size 99 i0 _ 4 72 Tryz.underlying64 hi0 hz0 hz1 hz2 rfl (by decide) (.slice A3 ts.length c3) ts.length (ts.flatMap TX.cells) (by simp [Act.eval]) HO5.out (.slice (some ⟨W4.heap.size,0,none⟩) 1 1) 1 t.cells (by simp [Act.eval]) HSR.out hml hmb HZ5.out ?_));intro v9 w7 hown7 hg7;obtain ⟨A7,c7,rfl,-,-⟩:=aS hown7;have HTL7:=hD (HTL4.out.step (r:=t) HT4.out (HI4.out.mono (fun b hb=>⟨by have:=HBs.out.size;omega,fun e=>by have:=HOL.out b e;omega⟩)) (.cells t.cells.toArray 99) hown7 (by rw [hW5];exact hg7));have HBs7:=hD (HBs.out.trans ((HB5.out.mono HBs.out.size).trans (hg7.below HZ5.out (fun g e=>aU HTL.out.row g e))));have HB7:=hD (aB HB1.out HBs7.out);obtain ⟨t8,ht8⟩:=nm (ts++[t]);have hN8:ts.length+1=t8.length:=by rw [<- ht8];simp
   have hN9:t8.length<=j+1:=by omega
   have HTB8:Hid (∀ x∈t8,fG 110 x/\x.plain.size<=331):=fun x hx=>by
    rw [<- ht8] at hx;rcases List.mem_append.1 hx with hx | hx
    ·exact HTB.out x hx
    ·simp at hx;subst hx;exact HTB4.out
   rw [ht8] at HTL7;rw [hN8] at HTL7 ⊢;clear ht8 hN8 hown7 hg7;go_wp2_with fail;go_roundw
   case rel=>exact ⟨j+1,A7,c7,t8,by omega,by go_num,rfl,hN9,HB7,HBs7,HTL7,HTB8⟩
   case measure=>simp [intOf];omega
  ·have d1:decide ((j:Int) < (n:Int))=false:=decide_eq_false (by omega);go_wp2_with fail;go_ret;exact ⟨A3,c3,ts,w1.heap.size,rfl,HB1.out.size,HTL.out,by omega,HTB.out,HB.out⟩
def rP (z:Int) (w:World) (e:Ending) (w':World):Prop:=∃ b,e=.returned (.bool b)/\w=w'/\(b=true->0<=z/\z < 34603008)
theorem qP (z:Int) (w:World):Calls Tryz.prog 51 #[.int .i64 z] w (rP z w):=by
 go_enter Tryz.func51,Tryz.ntmps51;go_wp2_with fail
 all_goals
  go_ret;refine ⟨_,rfl,rfl,?_⟩;simp
  try omega
theorem oO (z n:Int) (w:World):Calls Tryz.prog 31 #[.int .i64 z,.int .i64 n] w (fun e w'=>∃ r er,e=.returned (.tuple #[.int .i64 r,.int .i64 er])/\w=w'/\aO r):=by
 have HS:=hD (qP z w);go_enter Tryz.func31,Tryz.ntmps31;go_wp2_with fail;(with_reducible refine (HS.out).mono ?_);rintro r0 w1 ⟨b,rfl,rfl,hb⟩;have HBB:=hD hb;clear hb
 cases b
 ·go_wp2_with fail;refine bodyPost_ret (v:=.tuple #[.int .i64 0,.int .i64 5]) (by simp [results,Tryz.results31,go_sem]) rfl ?_;exact ⟨0,5,rfl,rfl,by unfold aO;omega⟩
 have HB2:Hid (0<=z/\z < 34603008):=(by first | exact HBB.out rfl | exact HBB.out trivial);clear HBB;obtain ⟨hz0,hz1⟩:=HB2.out;go_wp2_with fail
 all_goals
  refine bodyPost_ret (v:=.tuple #[.int .i64 _,.int .i64 _]) (by simp [results,Tryz.results31,go_sem];exact ⟨rfl,rfl⟩) rfl ?_;refine ⟨_,_,rfl,rfl,?_⟩
  first | (unfold aO;omega) | (exact wrap64_inI _)
theorem xJ (k:Int) (w:World):Calls Tryz.prog 90 #[.int .i64 k] w (fun e w'=>∃ r:Int,e=.returned (.int .i64 r)/\w=w'/\1<=r/\r<=5/\(k≠1->r≠1)/\(k=1->r=1)):=by
 go_enter Tryz.func90,Tryz.ntmps90;go_wp2_with fail
 all_goals
  go_ret;refine ⟨_,rfl,rfl,?_⟩;simp only [beq_iff_eq,beq_eq_false_iff_ne,ne_eq] at*
  first | omega | (refine ⟨by omega,by omega,fun h=>?_,fun h=>?_⟩ <;> first | omega | (exact absurd h (by omega)) | (exact absurd rfl h) | rfl | trivial)
theorem pF (s:ByteArray) (w:World) (hs:s.size<=1000000):Calls Tryz.prog 114 #[.string s] w (qF w):=by
 go_enter Tryz.func114,Tryz.ntmps114;go_wp2_with fail;go_loopw [3] (fun i wr=>∃ j:Nat,j<=s.size/\i=.int .i64 (j:Int)/\w=wr) (fun i _=>s.size - (intOf i).toNat)
 case atStart=>exact ⟨0,Nat.zero_le _,rfl,rfl⟩
 case round=>
  obtain ⟨j,hj,rfl,rfl⟩:=hrel;by_cases hlt:j < s.size
  ·have d1:decide ((j:Int) < (s.size:Int))=true:=decide_eq_true (by omega);have j0:(0:Int)<=(j:Int):=by omega
   have j1:(j:Int) < (s.size:Int):=by omega
   go_wp2_with fail
   all_goals first
    | (go_ret;exact ⟨_,rfl,rfl⟩)
    | (go_roundw;case rel=>exact ⟨j+1,by omega,by go_num,by trivial⟩
       case measure=>simp [intOf];omega)
  ·have d1:decide ((j:Int) < (s.size:Int))=false:=decide_eq_false (by omega);go_wp2_with fail;go_ret;exact ⟨_,rfl,rfl⟩
def CN (s:ByteArray) (w:World) (e:Ending) (w':World):Prop:=∃ r:Int,e=.returned (.int .i64 r)/\w=w'/\-1<=r/\r < s.size
theorem CF (s:ByteArray) (w:World) (hs:s.size<=1000000):Calls Tryz.prog 132 #[.string s] w (CN s w):=by
 go_enter Tryz.func132,Tryz.ntmps132;go_wp2_with fail;go_loopw [3] (fun i wr=>∃ j:Nat,j<=s.size/\i=.int .i64 (j:Int)/\w=wr) (fun i _=>s.size - (intOf i).toNat)
 case atStart=>exact ⟨0,Nat.zero_le _,rfl,rfl⟩
 case round=>
  obtain ⟨j,hj,rfl,rfl⟩:=hrel;by_cases hlt:j < s.size
  ·have d1:decide ((j:Int) < (s.size:Int))=true:=decide_eq_true (by omega);have j0:(0:Int)<=(j:Int):=by omega
   have j1:(j:Int) < (s.size:Int):=by omega
   go_wp2_with fail
   all_goals first
    | (go_ret;exact ⟨_,rfl,rfl,by omega,by omega⟩)
    | (go_roundw;case rel=>exact ⟨j+1,by omega,by go_num,by trivial⟩
       case measure=>simp [intOf];omega)
  ·have d1:decide ((j:Int) < (s.size:Int))=false:=decide_eq_false (by omega);go_wp2_with fail;go_ret;exact ⟨_,rfl,rfl,by omega,by omega⟩
def BT (w:World) (i n:Nat) (e:Ending) (w':World):Prop:=∃ a b:Int,e=.returned (.tuple #[.int .i64 a,.int .i64 b])/\Below w.heap.size w w'/\aO a/\(a=0->(i:Int) < b/\b<=n)
theorem nW (t:TX) (i:Nat) (w:World) (h:Tr w w.heap.size t) (hi:i < t.kids.length):Calls Tryz.prog 55 #[t.val,.int .i64 (i:Int)] w (BT w i t.kids.length):=by
 have hkb:=h.kb;unfold TX.val;obtain ⟨W,hW⟩:=nm (w.alloc (.cells #[.int .i64 t.kind,.string t.text,.slice t.lA t.leads.length t.lc,.slice t.kA t.kids.length t.kc] 99));have HB:=bw hW;have HX:=bk hW;have HZ:Hid (w.heap.size < W.heap.size):=HX.out.lt;have HT:=hD h;have HW:=hD hW;clear h hW;obtain ⟨x0,x1,x2,x3⟩:=HX.out.c4;generalize t.kind=tk at*;go_enter Tryz.func55,Tryz.ntmps55;go_wp2_with (rw [HW.out])
 all_goals
  refine bodyPost_ret (v:=.tuple #[.int .i64 _,.int .i64 _]) (by simp [results,Tryz.results55,go_sem];exact ⟨rfl,rfl⟩) rfl ?_;refine ⟨_,_,rfl,HB.out,?_,?_⟩ <;> simp only [beq_iff_eq,beq_eq_false_iff_ne,ne_eq,decide_eq_true_eq,decide_eq_false_iff_not] at* <;> (try unfold aO) <;> omega
theorem By (t:TX) (w:World) (h:Tr w w.heap.size t) (hbd:fG 110 t):Calls Tryz.prog 130 #[t.val] w (dI w (t.kind=2)):=by
 have HSH:Hid (∀ W,Below w.heap.size w W->Calls Tryz.prog 126 #[t.val] W (dI W (nP t))):=fun W hb=>nZ (K:=110) (by decide) t W (h.up (Nat.le_refl _) hb) hbd;unfold TX.val at HSH;unfold TX.val;obtain ⟨W,hW⟩:=nm (w.alloc (.cells #[.int .i64 t.kind,.string t.text,.slice t.lA t.leads.length t.lc,.slice t.kA t.kids.length t.kc] 99));have HB:=bw hW;have HX:=bk hW;have HZ:Hid (w.heap.size < W.heap.size):=HX.out.lt;have HT:=hD h;have HW:=hD hW;clear h hW;obtain ⟨x0,x1,x2,x3⟩:=HX.out.c4;go_enter Tryz.func130,Tryz.ntmps130;by_cases hk:t.kind=2
 ·have d:(t.kind == 2)=true:=by simpa using hk
  have HK:=hD hk;clear hk;go_wp2_with (rw [HW.out]);(with_reducible refine (HSH.out _ HB.out).mono ?_);rintro r0 w1 ⟨b,rfl,hb1,-⟩;have HB:=hD (aB HB.out hb1);clear hb1;go_wp2_with fail;go_ret;exact ⟨_,rfl,HB.out,fun _=>HK.out⟩
 ·have d:(t.kind == 2)=false:=by simpa using hk
  go_wp2_with (rw [HW.out]);go_ret;exact ⟨false,rfl,HB.out,fun h=>(nomatch h)⟩
def xX (w:World) (n:Nat) (e:Ending) (w':World):Prop:=∃ A c,e=.returned (.slice A n c)/\V w' w'.heap.size (.sl n 9 [.str 110]) (.slice A n c)/\Below w.heap.size w w'
theorem zF {n:Nat} (hi:i < n) (hd:650 / (n+1)=d):(i+1)*d<=649:=by
 have h1:(i+1)*d<=n*d:=Nat.mul_le_mul_right _ hi;have h2:(n+1)*d<=650:=by rw [<- hd];exact Nat.mul_div_le 650 (n+1)
 rw [Nat.add_mul n,Nat.one_mul] at h2;by_cases h0:d=0
 ·rw [h0];simp
 ·omega
theorem wH (m:Nat) (w:World) (hm:m<=400):Calls Tryz.prog 56 #[.int .i64 (m:Int)] w (xX w m):=by
 have d0:decide ((m:Int) < 0)=false:=decide_eq_false (by omega);have d1:decide ((400:Int) < (m:Int))=false:=decide_eq_false (by omega);have hd0:(650:Int) / ((m:Int)+1)=((650 / (m+1):Nat):Int):=(Int.natCast_ediv 650 (m+1)).symm;obtain ⟨d,hd⟩:=nm (650 / (m+1));rw [hd] at hd0;have hd6:d<=650:=by rw [<- hd];exact Nat.div_le_self _ _
 have HDD:=hD hd;have z0:(((m:Int)+1) == 0)=false:=by rw [beq_eq_false_iff_ne];omega
 have z1:((m:Int)+1=0)=False:=by simp;omega
 have hmi:(m:Int)<=400:=by omega
 clear hd;go_enter Tryz.func56,Tryz.ntmps56;go_wp2_with fail;rw [hd0];clear hd0;go_loopw [3,5] (fun l i wr=>∃ (k c:Nat) (A:Option Addr),k<=m/\i=.int .i64 ((k:Int)+1)/\l=.slice A k c/\Hid (aJ wr w.heap.size 9 [.str 110] (.slice A k c) k)/\Hid (Below w.heap.size w wr)) (fun _ i _=>m+1 - (intOf i).toNat)
 case atStart=>exact ⟨0,0,none,by omega,by go_num,rfl,aJ.nil _ _ _ _,Below.refl _ _⟩
 case round=>
  obtain ⟨k,c,A,hk,rfl,rfl,HO,HB⟩:=hrel;by_cases hlt:k < m
  ·obtain ⟨x,hx⟩:=nm ((k+1)*d);have hx6:x<=649:=by rw [<- hx];exact zF hlt HDD.out
   have hxi:((k:Int)+1)*(d:Int)=(x:Int):=by rw [<- hx];push_cast;rfl
   have b1:(x:Int)<=649:=by omega
   have b0:0<=(x:Int):=by omega
   have q1:(x:Int) / 25<=25:=by omega
   have q0:0<=(x:Int) / 25:=by omega
   have r1:(x:Int) % 25<=24:=by omega
   have r0:0<=(x:Int) % 25:=by omega
   have hst:=yF wr (p:=97+x / 25) (q:=98+x % 25) (by omega) (by omega);rw [show ((97+x / 25:Nat):Int)=97+(x:Int) / 25 by omega,show ((98+x % 25:Nat):Int)=98+(x:Int) % 25 by omega] at hst;have d2:decide ((k:Int)+1<=(m:Int))=true:=decide_eq_true (by omega);obtain ⟨s,hs,hsz⟩:∃ s:ByteArray,(⟨#[UInt8.ofNat (97+x / 25),UInt8.ofNat (98+x % 25)]⟩:ByteArray)=s/\s.size<=110:=⟨_,rfl,by show (2:Nat)<=110;decide⟩;rw [hs] at hst;obtain ⟨W5,hW5⟩:=nm (wr.alloc (.cells #[.int .u8 (97+(x:Int) / 25),.int .u8 (98+(x:Int) % 25)] 5));have HO5:Hid (aJ W5 w.heap.size 9 [.str 110] (.slice A k c) k):=by rw [<- hW5];exact HO.out.alloc _
   have HB5:Hid (Below w.heap.size w W5):=by rw [<- hW5];exact bK HB.out _
   have HT5:Hid (Ts W5 W5.heap.size [.str 110] [.string s]):=yG (l:=[s]) (fun b hb=>by simp at hb;subst hb;exact hsz);have HZ5:=hD HB5.out.size;rw [hW5] at hst;have HW5:=hD hW5;clear hx hs hW5;go_wp2_with (first | rw [HW5.out] | (at_builtin;refine hJ rfl _ _ _ _ rfl w.heap.size 9 [.str 110] 16 DV Tryz.underlying97 Dx (by simp) rfl (.slice A k c) k rfl HO5.out 9 _ 1 1 rfl rfl rfl HT5.out (by unfold maxLen;omega) (by omega) HZ5.out ?_));intro A7 c7 w7 hown7 hg7 hb7;have HO7:=hD hown7;have HB7:=hD (HB5.out.trans hb7);clear hown7 hg7 hb7 hst;go_wp2_with fail;go_roundw
   case rel=>exact ⟨k+1,c7,A7,by omega,by go_num,rfl,HO7,HB7⟩
   case measure=>simp [intOf];omega
  ·obtain rfl:k=m:=by omega
   have d2:decide ((k:Int)+1<=(k:Int))=false:=decide_eq_false (by omega);go_wp2_with fail;go_ret;exact ⟨A,c,rfl,HO.out.v_ (Nat.le_refl _),HB.out⟩
structure RT (w:World) (B:Nat) (A:Option Addr) (ps:List TX):Prop where
 row:aG w B 4 A ps.length (ps.flatMap TX.cells)
 kid:∀ t∈ps,Tr w B t
section
variable {w w':World} {B i:Nat} {A:Option Addr} {ps:List TX} {t:TX}
theorem RT.low (h:RT w B A ps) (hb:Below B w w'):RT w' B A ps:=⟨h.row.below hb,fun t ht=>(h.kid t ht).low hb⟩
theorem RT.at_ (h:RT w B A ps) (hi:ps[i]?=some t):∃ ab ao,A=some ⟨ab,ao,none⟩/\ab < B/\w.cell? ⟨ab,ao+i*4,none⟩=some (.int .i64 t.kind)/\w.cell? ⟨ab,ao+i*4+1,none⟩=some (.string t.text)/\w.cell? ⟨ab,ao+i*4+2,none⟩=some (.slice t.lA t.leads.length t.lc)/\w.cell? ⟨ab,ao+i*4+3,none⟩=some (.slice t.kA t.kids.length t.kc):=by
 have hkl:=(List.getElem?_eq_some_iff.1 hi).1;obtain ⟨ab,ao,e,hb,hc⟩:=h.row.head (by omega) (by omega);refine ⟨ab,ao,e,hb,?_,?_,?_,?_⟩
 ·exact hc (i*4) _ (dN TX.cells_len ps i 0 t hi (by omega))
 ·have:=hc (i*4+1) _ (dN TX.cells_len ps i 1 t hi (by omega));rwa [<- Nat.add_assoc] at this
 ·have:=hc (i*4+2) _ (dN TX.cells_len ps i 2 t hi (by omega));rwa [<- Nat.add_assoc] at this
 ·have:=hc (i*4+3) _ (dN TX.cells_len ps i 3 t hi (by omega));rwa [<- Nat.add_assoc] at this
theorem RT.c4 (h:RT w B A ps) (hi:ps[i]?=some t) {ab ao:Nat} (hA:A=some ⟨ab,ao,none⟩):w.cell? ⟨ab,ao+i*4,none⟩=some (.int .i64 t.kind)/\w.cell? ⟨ab,ao+i*4+1,none⟩=some (.string t.text)/\w.cell? ⟨ab,ao+i*4+2,none⟩=some (.slice t.lA t.leads.length t.lc)/\w.cell? ⟨ab,ao+i*4+3,none⟩=some (.slice t.kA t.kids.length t.kc):=by
 obtain ⟨ab',ao',e,-,h'⟩:=h.at_ hi;rw [hA] at e;injection e with e;injection e with e1 e2;subst e1 e2;exact h'
end
def yB (w:World) (ps:List TX) (e:Ending) (w':World):Prop:=∃ (m d:Int) (b:Bool),e=.returned (.tuple #[.int .i64 m,.int .i64 d,.bool b])/\Below w.heap.size w w'/\(b=true->∃ (mm dd:Nat) (t:TX),m=mm/\d=dd/\ps[mm]?=some t/\dd < t.kids.length)
theorem kY {A:Option Addr} {c:Nat} (m:Nat) (s:ByteArray) (w:World) (h:RT w w.heap.size A ps) (hm:m < ps.length) (hs:s.size<=1000000) (hps:ps.length<=1000) (hkb:∀ t∈ps,t.kids.length<=1000000):Calls Tryz.prog 112 #[.slice A ps.length c,.int .i64 (m:Int),.string s] w (yB w ps):=by
 have HDO:=hD (CF s w hs);have HR:=hD h;obtain ⟨t0,ht0⟩:∃ t,ps[m]?=some t:=⟨_,List.getElem?_eq_getElem hm⟩;obtain ⟨ab,ao,hA,hab,-⟩:=h.at_ ht0;subst hA;have HKB:=hD hkb;clear h hkb;go_enter Tryz.func112,Tryz.ntmps112;go_wp2_with fail;(with_reducible refine (HDO.out).mono ?_);rintro r0 w1 ⟨r,rfl,rfl,hr0,hr1⟩;by_cases hr:0<=r
 case neg=>
  have d:decide (0<=r)=false:=decide_eq_false hr;have HBL:Hid (Below w.heap.size w w):=Below.refl _ _;obtain ⟨mi,hmi⟩:=nm m;obtain ⟨tm,htm⟩:=nm t0;rw [hmi,htm] at ht0;have HTM:=hD ht0;rw [hmi] at hm ⊢;clear ht0 htm;have hkl:=HKB.out tm (List.mem_of_getElem? HTM.out);have m0:(0:Int)<=(mi:Int):=by omega
  have m1:(mi:Int) < (ps.length:Int):=by omega
  go_wp2_with fail;go_loopw [11] (fun i wr=>∃ j:Nat,j<=tm.kids.length/\i=.int .i64 (j:Int)/\Hid (Below w.heap.size w wr)) (fun i _=>tm.kids.length - (intOf i).toNat)
  case atStart=>exact ⟨0,Nat.zero_le _,rfl,HBL⟩
  case round=>
   clear HBL;obtain ⟨j,hj,rfl,HB⟩:=hrel;obtain ⟨e0,e1,e2,e3⟩:=(HR.out.low HB.out).c4 HTM.out rfl;by_cases hlt:j < tm.kids.length
   ·obtain ⟨k,hk⟩:∃ k,tm.kids[j]?=some k:=⟨_,List.getElem?_eq_getElem hlt⟩;obtain ⟨kb,ko,hA,-,f0,f1,f2,f3⟩:=((HR.out.kid tm (List.mem_of_getElem? HTM.out)).low HB.out).at_ hk;rw [hA] at e3;have d1:decide ((j:Int) < (tm.kids.length:Int))=true:=decide_eq_true (by omega);have j0:(0:Int)<=(j:Int):=by omega
    have j1:(j:Int) < (tm.kids.length:Int):=by omega
    clear hA hk;go_wp2_with fail
    all_goals first
     | (refine bodyPost_ret (v:=.tuple #[.int .i64 (mi:Int),.int .i64 (j:Int),.bool true]) (by simp [results,Tryz.results112,go_sem]) rfl ?_;exact ⟨mi,j,true,rfl,HB.out,fun _=>⟨mi,j,tm,rfl,rfl,HTM.out,hlt⟩⟩)
     | (go_roundw;case rel=>exact ⟨j+1,by omega,by go_num,HB⟩
        case measure=>simp [intOf];omega)
   ·have d1:decide ((j:Int) < (tm.kids.length:Int))=false:=decide_eq_false (by omega);go_wp2_with fail;refine bodyPost_ret (v:=.tuple #[.int .i64 0,.int .i64 0,.bool false]) (by simp [results,Tryz.results112,go_sem]) rfl ?_;exact ⟨0,0,false,rfl,HB.out,fun h=>(nomatch h)⟩
 case pos=>
  have d:decide (0<=r)=true:=decide_eq_true hr;obtain ⟨q,rfl⟩:∃ q:Nat,r=q:=⟨r.toNat,by omega⟩;go_wp2_with fail;go_loopw [10] (fun i wr=>∃ j:Nat,j<=ps.length/\i=.int .i64 (j:Int)/\Hid (Below w.heap.size w wr)) (fun i _=>ps.length - (intOf i).toNat)
  case atStart=>exact ⟨0,Nat.zero_le _,rfl,Below.refl _ _⟩
  case round=>
   obtain ⟨j,hj,rfl,HB⟩:=hrel;by_cases hlt:j < ps.length
   ·obtain ⟨tm,htm⟩:∃ t,ps[j]?=some t:=⟨_,List.getElem?_eq_getElem hlt⟩;obtain ⟨e0,e1,e2,e3⟩:=(HR.out.low HB.out).c4 htm rfl;have d1:decide ((j:Int) < (ps.length:Int))=true:=decide_eq_true (by omega);have j0:(0:Int)<=(j:Int):=by omega
    have j1:(j:Int) < (ps.length:Int):=by omega
    have g1:(q:Int)<=(s.size:Int):=by omega
    have g0:(0:Int)<=(q:Int):=by omega
    have HTM:=hD htm;have hkl:=HKB.out tm (List.mem_of_getElem? HTM.out);clear htm;go_wp2_with fail;have fe1:=aH e1;refine aY 12 [] [0,1,2,3,4,5,6,7,8,9,10,11,12] (by kernel_rfl) (by kernel_rfl) ?_;refine bD ?_;simp only [sN]
    repeat (go_big_quiet_step (fail))
    refine wpQuiet_nil ?_;clear fe1;have HB9:=hD (cC HB.out);go_wp2_with fail;refine NoPanic.normal ?_;have d9:((j:Int) == (ps.length:Int))=false:=by simp;omega
    have g2:(q:Int)+1<=(s.size:Int):=by omega
    have g3:(0:Int)<=(q:Int)+1:=by omega
    go_wp2_with fail
    ·go_roundw
     case rel=>exact ⟨j+1,by omega,by go_num,HB9⟩
     case measure=>simp [intOf];omega
    ·go_quiet (fail);have HBL:=hD (lE HB9.out nq);obtain ⟨mi,hmi⟩:=nm j;rw [hmi] at HTM j0 j1 e0 e1 e2 e3 ⊢;go_wp2_with fail;go_loopw [11] (fun i wr=>∃ j:Nat,j<=tm.kids.length/\i=.int .i64 (j:Int)/\Hid (Below w.heap.size w wr)) (fun i _=>tm.kids.length - (intOf i).toNat)
     case atStart=>exact ⟨0,Nat.zero_le _,rfl,HBL⟩
     case round=>
      clear HBL;obtain ⟨j,hj,rfl,HB⟩:=hrel;obtain ⟨e0,e1,e2,e3⟩:=(HR.out.low HB.out).c4 HTM.out rfl;by_cases hlt:j < tm.kids.length
      ·obtain ⟨k,hk⟩:∃ k,tm.kids[j]?=some k:=⟨_,List.getElem?_eq_getElem hlt⟩;obtain ⟨kb,ko,hA,-,f0,f1,f2,f3⟩:=((HR.out.kid tm (List.mem_of_getElem? HTM.out)).low HB.out).at_ hk;rw [hA] at e3;have d1:decide ((j:Int) < (tm.kids.length:Int))=true:=decide_eq_true (by omega);have j0:(0:Int)<=(j:Int):=by omega
       have j1:(j:Int) < (tm.kids.length:Int):=by omega
       clear hA hk;go_wp2_with fail
       all_goals first
        | (refine bodyPost_ret (v:=.tuple #[.int .i64 (mi:Int),.int .i64 (j:Int),.bool true]) (by simp [results,Tryz.results112,go_sem]) rfl ?_;exact ⟨mi,j,true,rfl,HB.out,fun _=>⟨mi,j,tm,rfl,rfl,HTM.out,hlt⟩⟩)
        | (go_roundw;case rel=>exact ⟨j+1,by omega,by go_num,HB⟩
           case measure=>simp [intOf];omega)
      ·have d1:decide ((j:Int) < (tm.kids.length:Int))=false:=decide_eq_false (by omega);go_wp2_with fail;refine bodyPost_ret (v:=.tuple #[.int .i64 0,.int .i64 0,.bool false]) (by simp [results,Tryz.results112,go_sem]) rfl ?_;exact ⟨0,0,false,rfl,HB.out,fun h=>(nomatch h)⟩
   ·obtain rfl:j=ps.length:=by omega
    have d1:decide ((ps.length:Int) < (ps.length:Int))=false:=decide_eq_false (by omega);go_wp2_with fail;go_quiet (fail);have HB9:=hD (lE HB.out nq);go_wp2_with fail;refine bodyPost_ret (v:=.tuple #[.int .i64 0,.int .i64 0,.bool false]) (by simp [results,Tryz.results112,go_sem]) rfl ?_;exact ⟨0,0,false,rfl,HB9.out,fun h=>(nomatch h)⟩
theorem gW:∀ (p:List Int) (t s:TX),t.find p=some s->∀ m,∃ s',t.find (p.take m)=some s'
 | [],t,s,_,m=>⟨t,by rw [List.take_nil,TX.find]⟩
 | x::p,t,s,h,0=>⟨t,by rw [List.take_zero,TX.find]⟩
 | x::p,t,s,h,m+1=>by
  rw [TX.find] at h;rw [List.take_succ_cons,TX.find]
  split at h
  ·cases h
  ·rename_i hx;rw [if_neg hx]
   cases hk:t.kids[x.toNat]? with
   | none=>rw [hk] at h;cases h
   | some k=>rw [hk] at h;exact gW p k s h m
theorem pE (h:i < t.kids.length):∃ s,t.find [(i:Int)]=some s:=by
 refine ⟨t.kids[i],?_⟩;rw [TX.find,if_neg (by omega)];simp [List.getElem?_eq_getElem h,TX.find]
def eY (w:World) (t:TX) (e:Ending) (w':World):Prop:=∃ D d xs,e=.returned (.slice D xs.length d)/\PR w' D xs/\(∀ x∈xs,(∃ s,t.find x.l=some s)/\x.l.length<=100000)/\xs.length<=2000000/\Below w.heap.size w w'
theorem lC (hb:Below w.heap.size w w'):eY w t (.returned (.slice none 0 0)) w':=⟨none,0,[],rfl,⟨aG.none_,fun x hx=>(nomatch hx)⟩,fun x hx=>(nomatch hx),Nat.zero_le _,hb⟩
structure AS (w wr:World) (t:TX) (v:Value) (xs:List PW):Prop where
 bs:BS wr 0 v xs
 gr:aR w wr (.slice none 0 0) v
 ok:∀ x∈xs,(∃ s,t.find x.l=some s)/\x.l.length<=100000
section
variable {w wr w':World} {t:TX} {v v':Value} {xs:List PW} {x:PW}
theorem AS.nil (hb:Below w.heap.size w wr):AS w wr t (.slice none 0 0) []:=⟨⟨fY _ _ _,Nat.zero_le _,fun x hx=>(nomatch hx),fun x hx=>(nomatch hx)⟩,aR.of_below _ hb,fun x hx=>(nomatch hx)⟩
theorem AS.up (h:AS w wr t v xs) (hb:Below wr.heap.size wr w'):AS w w' t v xs:=⟨h.bs.up hb,h.gr.trans (aR.of_below _ hb),h.ok⟩
theorem AS.bel (h:AS w wr t v xs):Below w.heap.size w wr:=h.gr.below_new
theorem AS.new (h:AS w wr t v xs):∀ g,v.ownBlock=some g->w.heap.size<=g:=fun g e=>by
 rcases h.gr.own g e with h1 | h1
 ·simp [Value.ownBlock] at h1
 ·exact h1
theorem AS.push {o:Obj} (h:AS w wr t v xs) (hx:aG wr wr.heap.size 1 x.A x.l.length (x.l.map (Value.int .i64))) (hn:∀ ad,x.A=some ad->0 < x.l.length->v.ownBlock≠some ad.block) (hf:(∃ s,t.find x.l=some s)/\x.l.length<=100000) (hcx:x.l.length<=x.c)
  (hg:aR (wr.alloc o) w' v v') (ho:w'.ownsRow 0 36 1 v' (xs.length+1) (xs.map PW.head++[x.head])):AS w w' t v' (xs++[x]):=by
 have hb:Below wr.heap.size wr (wr.alloc o):=bK (Below.refl _ _) o;refine ⟨(h.bs.up hb).push ⟨(hx.below hb).more hb.size,fun ad e hp=>⟨hn ad e hp,Nat.zero_le _⟩⟩ hcx hg ho,(h.gr.trans (aR.of_below _ hb)).trans hg,fun y hy=>?_⟩;rcases List.mem_append.1 hy with hy | hy
 ·exact h.ok y hy
 ·simp at hy;subst hy;exact hf
theorem AS.ret (h:AS w wr t (.slice D xs.length d) xs) (hl:xs.length<=2000000):eY w t (.returned (.slice D xs.length d)) wr:=
 ⟨D,d,xs,rfl,⟨aG.of_own h.bs.row,fun x hx=>(h.bs.each x hx).1⟩,h.ok,hl,h.bel⟩
end
theorem AE {W:World} {e:Ending} (h:eY W t e w') (hb:Below w.heap.size w W):eY w t e w':=by
 obtain ⟨D,d,xs,h1,h2,h3,h4,h5⟩:=h;exact ⟨D,d,xs,h1,h2,h3,h4,aB hb h5⟩
theorem xU (t:TX) (A:Option Addr) (c:Nat) (p:List Int) (w:World) (h:Tr w w.heap.size t) (hp:aG w w.heap.size 1 A p.length (p.map (Value.int .i64))) (hpc:p.length<=c) (hpl:p.length<=100000) (hkl:t.kids.length<=1000000):
  Calls Tryz.prog 131 #[t.val,.slice A p.length c] w (eY w t):=by
 have HAT:Hid (∀ (m:Nat) w',m<=p.length->Below w.heap.size w w'->Calls Tryz.prog 54 #[t.val,.slice A m c] w' (cJ w' (t.find (p.take m)))):=fun m w' hm hb=>by
  have hl:(p.take m).length=m:=by rw [List.length_take];omega
  have:=fN t A c (p.take m) w' (h.up (Nat.le_refl _) hb) (by
   have h1:=(hp.below hb).more hb.size;rw [hl];refine ⟨by rw [List.length_map,hl];omega,fun h0=>?_⟩;obtain ⟨ad,e,hlt,hc⟩:=h1.2 (by omega);exact ⟨ad,e,hlt,fun j u hu=>hc j u (by
    rw [List.getElem?_map] at hu ⊢;rw [List.getElem?_take] at hu
    split at hu
    ·exact hu
    ·simp at hu)⟩) (by rw [hl];omega)
  rwa [hl] at this
 have HPR:=hD hp;unfold TX.val at HAT;obtain ⟨W,hW⟩:=nm (w.alloc (.cells #[.int .i64 t.kind,.string t.text,.slice t.lA t.leads.length t.lc,.slice t.kA t.kids.length t.kc] 99));have HB:=bw hW;have HX:=bk hW;have HT:=hD h;have HW:=hD hW;have HA0:Hid (Calls Tryz.prog 54 #[.agg #[.int .i64 t.kind,.string t.text,.slice t.lA t.leads.length t.lc,.slice t.kA t.kids.length t.kc],.slice A p.length c] W (cJ W (t.find p))):=by
  have:=HAT.out p.length W (Nat.le_refl _) HB.out;rwa [List.take_length] at this
 clear h hp hW;unfold TX.val;obtain ⟨x0,x1,x2,x3⟩:=HX.out.c4;go_enter Tryz.func131,Tryz.ntmps131;go_wp2_with (rw [HW.out]);(with_reducible refine (HA0.out).mono ?_);rintro r0 w1 ⟨hb1,hq⟩;have HX:=hD (HX.out.below hb1 HX.out.lt);have HB:=hD (aB HB.out hb1);clear hb1 x0 x1 x2 x3 HW;obtain ⟨fo,hf⟩:=nm (t.find p);rw [hf] at hq
 cases fo with
 | none=>
  obtain rfl:r0=.returned (.tuple #[.agg #[.int .i64 0,.string ⟨#[]⟩,.slice none 0 0,.slice none 0 0],.bool false]):=hq;have HB2:=hD (bK HB.out (.cells #[.int .i64 0,.string ⟨#[]⟩,.slice none 0 0,.slice none 0 0] 99));go_wp2_with fail;go_ret;exact lC HB2.out
 | some s0=>
  obtain rfl:r0=.returned (.tuple #[.agg #[.int .i64 s0.kind,.string s0.text,.slice s0.lA s0.leads.length s0.lc,.slice s0.kA s0.kids.length s0.kc],.bool true]):=hq;obtain ⟨W2,hW2⟩:=nm (w1.alloc (.cells #[.int .i64 s0.kind,.string s0.text,.slice s0.lA s0.leads.length s0.lc,.slice s0.kA s0.kids.length s0.kc] 99));have HB:Hid (Below w.heap.size w W2):=by subst hW2;exact bK HB.out _
  have HX:Hid (aK W2 w.heap.size 99 #[.int .i64 t.kind,.string t.text,.slice t.lA t.leads.length t.lc,.slice t.kA t.kids.length t.kc]):=by subst hW2;exact HX.out.alloc _
  have HW2:=hD hW2;have HF:=hD hf;clear hW2 hf;by_cases hp0:p.length=0
  ·have d:((p.length:Int) == 0)=true:=by rw [beq_iff_eq];omega
   go_wp2_with (rw [HW2.out]);go_ret;exact lC HB.out
  have d:((p.length:Int) == 0)=false:=by rw [beq_eq_false_iff_ne];omega
  obtain ⟨b1,o1,u1,rfl,-,hu1,g1⟩:=(HPR.out.below HB.out).at1 (show 0 < p.length by omega);obtain ⟨z1,rfl⟩:∃ z,u1=.int .i64 z:=by
   rw [List.getElem?_map] at hu1
   cases h1:p[0]? with
   | none=>rw [h1] at hu1;cases hu1
   | some z=>rw [h1] at hu1;injection hu1 with hu1;exact ⟨z,hu1.symm⟩
  have q1:(z1 != (t.kids.length:Int) - 1)=true\/(z1 != (t.kids.length:Int) - 1)=false:=by cases (z1 != (t.kids.length:Int) - 1) <;> simp
  have ip0:(0:Int) < (p.length:Int):=by omega
  rw [Nat.add_zero] at g1;clear hu1;rcases q1 with q1 | q1
  ·go_wp2_with (rw [HW2.out]);go_ret;exact lC HB.out
  have HP0:=hD (HPR.out.below HB.out);go_wp2_with (rw [HW2.out]);clear HW2 g1;go_loopw [8,9,10,11] (fun l i x10 x11 wr=>∃ (k:Nat) (D:Option Addr) (d:Nat) (xs:List PW),k<=p.length/\i=.int .i64 (k:Int)/\l=.slice D xs.length d/\Hid (AS W2 wr t (.slice D xs.length d) xs)/\Hid (xs.length+k<=p.length)) (fun _ i _ _ _=>(intOf i).toNat)
  case atStart=>exact ⟨p.length,none,0,[],Nat.le_refl _,rfl,rfl,AS.nil (Below.refl _ _),by simp [Hid]⟩
  case round=>
   obtain ⟨k,D,d,xs,hk,rfl,rfl,HS,HN⟩:=hrel;have hn:=HN.out;by_cases hk0:0 < k
   ·obtain ⟨m,rfl⟩:∃ m,k=m+1:=⟨k - 1,by omega⟩;have d1:decide ((0:Int) < (m:Int)+1)=true:=decide_eq_true (by omega);have m0:(0:Int)<=(m:Int):=by omega
    have m1:(m:Int) < (p.length:Int):=by omega
    have m2:(m:Int)<=(c:Int):=by omega
    have m3:(m:Int)<=(p.length:Int):=by omega
    have HXr:=hD (HX.out.below HS.out.bel HX.out.lt);obtain ⟨x0,x1,x2,x3⟩:=HXr.out.c4;have HAr:Hid (∀ w',Below wr.heap.size wr w'->Calls Tryz.prog 54 #[.agg #[.int .i64 t.kind,.string t.text,.slice t.lA t.leads.length t.lc,.slice t.kA t.kids.length t.kc],.slice (some ⟨b1,o1,none⟩) m c] w' (cJ w' (t.find (p.take m)))):=fun w' hb=>HAT.out m w' (by omega) (aB (aB HB.out HS.out.bel) hb);obtain ⟨s1q,hs1⟩:=gW p t s0 HF.out m;rw [hs1] at HAr;have HF1:=hD hs1;clear hs1;go_upto_region 9 with fail;go_cut [10,11] (fun x10 x11 wq=>∃ g,x10=.pointer (some ⟨g,0,none⟩)/\Hid (aK wq g 99 #[.int .i64 s1q.kind,.string s1q.text,.slice s1q.lA s1q.leads.length s1q.lc,.slice s1q.kA s1q.kids.length s1q.kc])/\Hid (Below wr.heap.size wr wq))
    case first=>
     have fx0:=aH x0;have fx1:=aH x1;have fx2:=aH x2;have fx3:=aH x3;refine eA 10 (.two [0,1,2,3,4] 5 (.one [6,7,8] 9 (.one [] 10 (.last []))) 9 (.one [] 5 (.one [6,7,8] 10 (.last [])))) (by kernel_rfl) (by kernel_rfl) ?_;refine bF ?_;simp only [sN]
     repeat (go_big_quiet_step (fail))
     refine wpQuiet_nil ?_;refine ⟨?_,?_⟩
     ·refine aC rfl 54 _ _ rfl Tryz.func54 rfl (by kernel_rfl) #[.agg #[.int .i64 t.kind,.string t.text,.slice t.lA t.leads.length t.lc,.slice t.kA t.kids.length t.kc],.slice (some ⟨b1,o1,none⟩) m c] (by simp [Act.eval]) (HAr.out _ (cC (Below.refl _ _))) ?_;rintro e w3 ⟨hb3,hq⟩;obtain rfl:e=.returned (.tuple #[.agg #[.int .i64 s1q.kind,.string s1q.text,.slice s1q.lA s1q.leads.length s1q.lc,.slice s1q.kA s1q.kids.length s1q.kc],.bool true]):=hq;have HB3:=hD (aB (cC (Below.refl wr.heap.size wr)) hb3);clear hb3;refine ⟨_,rfl,⟨⟨_,HB3.out⟩,rfl⟩,?_⟩;simp only [sP];refine aD ?_;simp only [sN]
      repeat (go_big_quiet_step (fail))
      refine wpQuiet_nil ?_;obtain ⟨w4,hw4⟩:=nm (w3.alloc (.cells #[.int .i64 0,.string ⟨#[]⟩,.slice none 0 0,.slice none 0 0] 99));have HB4:Hid (Below wr.heap.size wr w4):=by subst hw4;exact bK HB3.out _
      have HX4:=bk hw4;refine aE rfl (by simp [go_sem];exact ⟨rfl,hw4⟩) ⟨⟨_,HB4.out⟩,rfl⟩ ?_;simp only [sP];refine aD ?_;simp only [sN]
      repeat (go_big_quiet_step (fail))
      refine wpQuiet_nil ?_;have HZ3:=hD HB3.out.size;refine aA rfl ?_;obtain ⟨y0,y1,y2,y3⟩:=HX4.out.c4;obtain ⟨q0,q1,q2,q3⟩:=HX4.out.f4;go_wp2_with fail;obtain ⟨W9,hW9⟩:=nm (((((w4.setCell ⟨w3.heap.size,0,none⟩ (.int .i64 s1q.kind)).setCell ⟨w3.heap.size,1,none⟩ (.string s1q.text)).setCell ⟨w3.heap.size,2,none⟩ (.slice s1q.lA s1q.leads.length s1q.lc)).setCell ⟨w3.heap.size,3,none⟩ (.slice s1q.kA s1q.kids.length s1q.kc)));have HG9:Hid (aK W9 (w3.heap.size) 99 #[.int .i64 s1q.kind,.string s1q.text,.slice s1q.lA s1q.leads.length s1q.lc,.slice s1q.kA s1q.kids.length s1q.kc]):=by subst hW9;exact aP HX4.out _ _ _ _
      have HB9:Hid (Below wr.heap.size wr W9):=by subst hW9;exact aL HB4.out HZ3.out _ _ _ _
      rw [hW9];clear hW9;refine ⟨⟨⟨_,HB9.out⟩,rfl⟩,?_⟩;refine aM ?_;simp only [sN]
      repeat (go_big_quiet_step (fail))
      refine wpQuiet_nil ?_;go_wp2_with fail;refine NoPanic.normal ?_;go_wp2_with fail;go_meet;exact ⟨_,rfl,HG9,HB9⟩
     ·obtain ⟨w3,hw3⟩:=nm (wr.drew.alloc (.cells #[.int .i64 0,.string ⟨#[]⟩,.slice none 0 0,.slice none 0 0] 99));have HB3:Hid (Below wr.heap.size wr w3):=by subst hw3;exact bK (cC (Below.refl _ _)) _
      have HX3:Hid (aK w3 wr.heap.size 99 #[.int .i64 0,.string ⟨#[]⟩,.slice none 0 0,.slice none 0 0]):=by subst hw3;exact aK.new _ _ _
      refine aE rfl (by simp [go_sem];exact ⟨rfl,hw3⟩) ⟨⟨_,HB3.out⟩,rfl⟩ ?_;simp only [sP];refine aD ?_;simp only [sN]
      repeat (go_big_quiet_step (fail))
      refine wpQuiet_nil ?_;refine aC rfl 54 _ _ rfl Tryz.func54 rfl (by kernel_rfl) #[.agg #[.int .i64 t.kind,.string t.text,.slice t.lA t.leads.length t.lc,.slice t.kA t.kids.length t.kc],.slice (some ⟨b1,o1,none⟩) m c] (by simp [Act.eval]) (HAr.out _ HB3.out) ?_;rintro e w4 ⟨hb4,hq⟩;obtain rfl:e=.returned (.tuple #[.agg #[.int .i64 s1q.kind,.string s1q.text,.slice s1q.lA s1q.leads.length s1q.lc,.slice s1q.kA s1q.kids.length s1q.kc],.bool true]):=hq;have HB4:=hD (aB HB3.out hb4);have HX4:=hD (HX3.out.below hb4 HX3.out.lt);have HZ3:Hid (wr.heap.size<=wr.heap.size):=Nat.le_refl _;clear hb4;refine ⟨_,rfl,⟨⟨_,HB4.out⟩,rfl⟩,?_⟩;simp only [sP];refine aD ?_;simp only [sN]
      repeat (go_big_quiet_step (fail))
      refine wpQuiet_nil ?_;refine aA rfl ?_;obtain ⟨y0,y1,y2,y3⟩:=HX4.out.c4;obtain ⟨q0,q1,q2,q3⟩:=HX4.out.f4;go_wp2_with fail;obtain ⟨W9,hW9⟩:=nm (((((w4.setCell ⟨wr.heap.size,0,none⟩ (.int .i64 s1q.kind)).setCell ⟨wr.heap.size,1,none⟩ (.string s1q.text)).setCell ⟨wr.heap.size,2,none⟩ (.slice s1q.lA s1q.leads.length s1q.lc)).setCell ⟨wr.heap.size,3,none⟩ (.slice s1q.kA s1q.kids.length s1q.kc)));have HG9:Hid (aK W9 (wr.heap.size) 99 #[.int .i64 s1q.kind,.string s1q.text,.slice s1q.lA s1q.leads.length s1q.lc,.slice s1q.kA s1q.kids.length s1q.kc]):=by subst hW9;exact aP HX4.out _ _ _ _
      have HB9:Hid (Below wr.heap.size wr W9):=by subst hW9;exact aL HB4.out HZ3.out _ _ _ _
      rw [hW9];clear hW9;refine ⟨⟨⟨_,HB9.out⟩,rfl⟩,?_⟩;refine aM ?_;simp only [sN]
      repeat (go_big_quiet_step (fail))
      refine wpQuiet_nil ?_;go_wp2_with fail;refine NoPanic.normal ?_;go_wp2_with fail;go_meet;exact ⟨_,rfl,HG9,HB9⟩
    case rest=>
     obtain ⟨g,rfl,HG,HBq⟩:=hcut;have HS1:=hD (HS.out.up HBq.out);obtain ⟨b2,o2,u2,hA2,-,hu2,g2⟩:=(HP0.out.below (HS1.out.bel.mono HB.out.size)).at1 (show m < p.length by omega);injection hA2 with hA2;injection hA2 with hA3 hA4;subst hA3 hA4;obtain ⟨z2,rfl⟩:∃ z,u2=.int .i64 z:=by
      rw [List.getElem?_map] at hu2
      cases h1:p[m]? with
      | none=>rw [h1] at hu2;cases hu2
      | some z=>rw [h1] at hu2;injection hu2 with hu2;exact ⟨z,hu2.symm⟩
     clear hu2 x0 x1 x2 x3;obtain ⟨x0,x1,x2,x3⟩:=HG.out.c4;have q2:(s1q.kind == 20)=true\/(s1q.kind == 20)=false:=by cases (s1q.kind == 20) <;> simp
     have q3:(z2 == 1)=true\/(z2 == 1)=false:=by cases (z2 == 1) <;> simp
     rcases q2 with q2 | q2
     ·rcases q3 with q3 | q3
      ·obtain ⟨x,hx⟩:∃ y:PW,y=⟨some ⟨b1,o1,none⟩,c,p.take m⟩:=⟨_,rfl⟩;have hxl:x.l.length=m:=by rw [hx];show (p.take m).length=m;rw [List.length_take];omega
       have hxh:x.head=.slice (some ⟨b1,o1,none⟩) m c:=by unfold PW.head;rw [hxl,hx]
       have HXL:Hid ((∃ s,t.find x.l=some s)/\x.l.length<=100000):=⟨⟨s1q,by rw [hx];exact HF1.out⟩,by omega⟩;have HXR:Hid (aG wc wc.heap.size 1 x.A x.l.length (x.l.map (Value.int .i64))):=by
        have h1:=(HP0.out.below (HS1.out.bel.mono HB.out.size)).more (Nat.le_trans HB.out.size HS1.out.bel.size);rw [hx];show aG _ _ 1 _ (p.take m).length _;refine ⟨by simp,fun h0=>?_⟩;obtain ⟨ad,e,hlt,hc⟩:=h1.2 (by omega);exact ⟨ad,e,hlt,fun j u hu=>hc j u (by
         rw [List.getElem?_map] at hu ⊢;rw [List.getElem?_take] at hu
         split at hu
         ·exact hu
         ·simp at hu)⟩
       have HXN:Hid (∀ ad,x.A=some ad->0 < x.l.length->(Value.slice D xs.length d).ownBlock≠some ad.block):=fun ad e _ e2=>by
        rw [hx] at e;have e:some (⟨b1,o1,none⟩:Addr)=some ad:=e;injection e with e;subst e;have h1:=HS1.out.new _ e2;obtain ⟨ad',e3,hlt,-⟩:=HPR.out.2 (by omega);injection e3 with e3;subst e3;have:=HB.out.size;omega
       obtain ⟨w6,hw6⟩:=nm (wc.alloc (.cells #[.slice (some ⟨b1,o1,none⟩) m c] 36));have HSR:Hid (Src Tryz.prog 1 95 (.slice (some ⟨wc.heap.size,0,none⟩) 1 1) 1 [.slice (some ⟨b1,o1,none⟩) m c] w6):=by rw [<- hw6];exact bR wc Tryz.underlying95 [.slice (some ⟨b1,o1,none⟩) m c] 1 1 1 36 rfl (by intro u hu;simp at hu;subst hu;rfl)
       have HO6:Hid (w6.ownsRow 0 36 1 (.slice D xs.length d) xs.length (xs.map PW.head)):=by rw [<- hw6];exact HS1.out.bs.row.alloc _
       have HW6:=hD hw6;have HXH:=hD hxh;have HXC:Hid (x.l.length<=x.c):=by unfold Hid;rw [hxl,hx];show m<=c;omega
       clear hx hxl hw6 hxh;obtain ⟨i0,hi0,hz0,hz1,hz2⟩:=dF jJ;have hml:xs.length+1<=maxLen:=by unfold maxLen;omega
       have hmb:(xs.length+1)*24<=140737488355328:=by omega
       go_wp2_with (first | rw [HW6.out] | (at_builtin;refine aF w6 rfl _ _ _ _ rfl 0 36 i0 _ 1 24 Tryz.underlying95 hi0 hz0 hz1 hz2 rfl (by decide) (.slice D xs.length d) xs.length (xs.map PW.head) (by simp [Act.eval]) HO6.out (.slice (some ⟨wc.heap.size,0,none⟩) 1 1) 1 [.slice (some ⟨b1,o1,none⟩) m c] (by simp [Act.eval]) HSR.out hml hmb (Nat.zero_le _) ?_));intro v9 w7 hown7 hg7;obtain ⟨A7,c7,rfl,-,-⟩:=aS hown7;have HS7:=hD (HS1.out.push (o:=.cells #[.slice (some ⟨b1,o1,none⟩) m c] 36) HXR.out HXN.out HXL.out HXC.out (by rw [HW6.out];exact hg7) (by rw [HXH.out];exact hown7));obtain ⟨x8,hx8⟩:=nm (xs++[x]);have hN8:xs.length+1=x8.length:=by rw [<- hx8];simp
       have HN9:=hD (show x8.length+m<=p.length by omega);rw [hx8] at HS7;rw [hN8] at HS7 ⊢;clear hx8 hN8 hown7 hg7;go_wp2_with fail;go_roundw
       case rel=>exact ⟨m,A7,c7,x8,by omega,by go_num,rfl,HS7,HN9⟩
       case measure=>simp [intOf]
      ·go_wp2_with fail;go_roundw
       case rel=>exact ⟨m,D,d,xs,by omega,by go_num,rfl,HS1,hD (by omega)⟩
       case measure=>simp [intOf]
     ·go_wp2_with fail;go_roundw
      case rel=>exact ⟨m,D,d,xs,by omega,by go_num,rfl,HS1,hD (by omega)⟩
      case measure=>simp [intOf]
   ·have d1:decide ((0:Int) < (k:Int))=false:=decide_eq_false (by omega);go_wp2_with fail;have hn:=HN.out;go_loopw [8,12] (fun l i wr=>∃ (k:Nat) (D:Option Addr) (d:Nat) (xs:List PW),i=.int .i64 (k:Int)/\l=.slice D xs.length d/\(k:Int)<=t.kids.length/\Hid (AS W2 wr t (.slice D xs.length d) xs)/\Hid (xs.length<=p.length+k)) (fun _ i _=>t.kids.length - (intOf i).toNat)
    case atStart=>exact ⟨0,D,d,xs,rfl,rfl,by omega,HS,hD (by omega)⟩
    case round=>
     clear HS HN hn;obtain ⟨k,D,d,xs,rfl,rfl,hk,HS,HN⟩:=hrel;have hn:=HN.out;by_cases hlt:(k:Int) < (t.kids.length:Int) - 2
     ·have d2:decide ((k:Int) < (t.kids.length:Int) - 2)=true:=decide_eq_true hlt;have hkn:k < t.kids.length:=by omega
      obtain ⟨W5,hW5⟩:=nm (wr.alloc (.cells #[.int .i64 (k:Int)] 3));have HS5:Hid (AS W2 W5 t (.slice D xs.length d) xs):=by rw [<- hW5];exact HS.out.up (bK (Below.refl _ _) _)
      have HX5:=bk hW5;have HOL:=hD (cK HS.out.bs.row);have HW5:=hD hW5;clear hW5;obtain ⟨w6,hw6⟩:=nm (W5.alloc (.cells #[.slice (some ⟨wr.heap.size,0,none⟩) 1 1] 36));have HSR:Hid (Src Tryz.prog 1 95 (.slice (some ⟨W5.heap.size,0,none⟩) 1 1) 1 [.slice (some ⟨wr.heap.size,0,none⟩) 1 1] w6):=by rw [<- hw6];exact bR W5 Tryz.underlying95 [.slice (some ⟨wr.heap.size,0,none⟩) 1 1] 1 1 1 36 rfl (by intro u hu;simp at hu;subst hu;rfl)
      have HO6:Hid (w6.ownsRow 0 36 1 (.slice D xs.length d) xs.length (xs.map PW.head)):=by rw [<- hw6];exact HS5.out.bs.row.alloc _
      have HW6:=hD hw6;clear hw6;obtain ⟨i0,hi0,hz0,hz1,hz2⟩:=dF jJ;have hml:xs.length+1<=maxLen:=by unfold maxLen;omega
      have hmb:(xs.length+1)*24<=140737488355328:=by omega
      go_wp2_with (first | rw [HW5.out] | rw [HW6.out] | (at_builtin;refine aF w6 rfl _ _ _ _ rfl 0 36 i0 _ 1 24 Tryz.underlying95 hi0 hz0 hz1 hz2 rfl (by decide) (.slice D xs.length d) xs.length (xs.map PW.head) (by simp [Act.eval]) HO6.out (.slice (some ⟨W5.heap.size,0,none⟩) 1 1) 1 [.slice (some ⟨wr.heap.size,0,none⟩) 1 1] (by simp [Act.eval]) HSR.out hml hmb (Nat.zero_le _) ?_));intro v9 w7 hown7 hg7;obtain ⟨A7,c7,rfl,-,-⟩:=aS hown7;have HS7:=hD (HS5.out.push (x:=⟨some ⟨wr.heap.size,0,none⟩,1,[(k:Int)]⟩) (o:=.cells #[.slice (some ⟨wr.heap.size,0,none⟩) 1 1] 36) (eD (n:=1) (size:=1) (xs:=[.int .i64 (k:Int)]) HX5.out rfl) (fun ad e _ e2=>by
       have e:some (⟨wr.heap.size,0,none⟩:Addr)=some ad:=e;injection e with e;subst e;exact absurd (HOL.out _ e2) (Nat.lt_irrefl _)) ⟨pE hkn,by show (1:Nat)<=100000;decide⟩ (Nat.le_refl _) (by rw [HW6.out];exact hg7) hown7)
      obtain ⟨x8,hx8⟩:=nm (xs++[(⟨some ⟨wr.heap.size,0,none⟩,1,[(k:Int)]⟩:PW)]);have hN8:xs.length+1=x8.length:=by rw [<- hx8];simp
      have HN9:=hD (show x8.length<=p.length+(k+1) by omega);rw [hx8] at HS7;rw [hN8] at HS7 ⊢;clear hx8 hN8 hown7 hg7;go_wp2_with fail;go_roundw
      case rel=>exact ⟨k+1,A7,c7,x8,by go_num,rfl,by omega,HS7,HN9⟩
      case measure=>simp [intOf];omega
     ·have d2:decide ((k:Int) < (t.kids.length:Int) - 2)=false:=decide_eq_false hlt;go_wp2_with fail;go_ret;exact AE (HS.out.ret (by omega)) HB.out
def pU (w:World) (t:TX) (e:Ending) (w':World):Prop:=∃ (D:Option Addr) (d:Nat) (q:List Int) (b:Bool),e=.returned (.tuple #[.slice D q.length d,.bool b])/\aG w' w'.heap.size 1 D q.length (q.map (Value.int .i64))/\q.length<=100000/\q.length<=d/\Below w.heap.size w w'/\(b=true->∃ s,t.find q=some s)
theorem nC (hb:Below w.heap.size w w'):pU w t (.returned (.tuple #[.slice none 0 0,.bool false])) w':=⟨none,0,[],false,rfl,aG.none_,Nat.zero_le _,Nat.zero_le _,hb,fun h=>(nomatch h)⟩
theorem xQ (t:TX) (A:Option Addr) (c:Nat) (p:List Int) (nmq:ByteArray) (w:World) (h:Tr w w.heap.size t) (hbd:fG 110 t) (hp:aG w w.heap.size 1 A p.length (p.map (Value.int .i64))) (hpc:p.length<=c) (hpl:p.length<=100000) (hkl:t.kids.length<=1000000):
  Calls Tryz.prog 111 #[t.val,.slice A p.length c,.string nmq] w (pU w t):=by
 have HFI:Hid (∀ w',Below w.heap.size w w'->Calls Tryz.prog 130 #[t.val] w' (dI w' (t.kind=2))):=fun w' hb=>By t w' (h.up (Nat.le_refl _) hb) hbd;have HAR:Hid (∀ w',Below w.heap.size w w'->Calls Tryz.prog 131 #[t.val,.slice A p.length c] w' (eY w' t)):=fun w' hb=>xU t A c p w' (h.up (Nat.le_refl _) hb) ((hp.below hb).more hb.size) hpc hpl hkl;have HAT:Hid (∀ (x:PW) w',x.l.length<=100000->aG w' w'.heap.size 1 x.A x.l.length (x.l.map (Value.int .i64))->Below w.heap.size w w'->Calls Tryz.prog 54 #[t.val,.slice x.A x.l.length x.c] w' (cJ w' (t.find x.l))):=fun x w' hl hr hb=>fN t x.A x.c x.l w' (h.up (Nat.le_refl _) hb) hr (by omega);unfold TX.val at HFI HAR HAT;obtain ⟨W,hW⟩:=nm (w.alloc (.cells #[.int .i64 t.kind,.string t.text,.slice t.lA t.leads.length t.lc,.slice t.kA t.kids.length t.kc] 99));have HB:=bw hW;have HX:=bk hW;have HW:=hD hW;clear h hp hW hbd;unfold TX.val;obtain ⟨x0,x1,x2,x3⟩:=HX.out.c4;go_enter Tryz.func111,Tryz.ntmps111;go_wp2_with (rw [HW.out]);clear HW;(with_reducible refine (HFI.out _ HB.out).mono ?_);rintro r0 w1 ⟨b,rfl,hb1,-⟩;have HX:=hD (HX.out.below hb1 HX.out.lt);have HB:=hD (aB HB.out hb1);clear hb1 x0 x1 x2 x3
 cases b
 ·go_wp2_with fail;refine bodyPost_ret (v:=.tuple #[.slice none 0 0,.bool false]) (by simp [results,Tryz.results111,go_sem]) rfl ?_;exact nC HB.out
 obtain ⟨x0,x1,x2,x3⟩:=HX.out.c4;go_wp2_with fail;(with_reducible refine (HAR.out _ HB.out).mono ?_);rintro r0 w2 ⟨D,d,xs,rfl,hpr,hok,hxl,hb1⟩;have HX:=hD (HX.out.below hb1 HX.out.lt);have HB:=hD (aB HB.out hb1);have HPR:=hD hpr;have HOK:=hD hok;clear hb1 x0 x1 x2 x3 hpr hok;go_wp2_with fail;go_loopw [9,10,11] (fun i x10 x11 wr=>∃ j:Nat,j<=xs.length/\i=.int .i64 (j:Int)/\Hid (Below w2.heap.size w2 wr)) (fun i _ _ _=>xs.length - (intOf i).toNat)
 case atStart=>exact ⟨0,Nat.zero_le _,rfl,Below.refl _ _⟩
 case round=>
  obtain ⟨j,hj,rfl,HBr⟩:=hrel;have HBw:=hD (aB HB.out HBr.out);by_cases hlt:j < xs.length
  ·have d1:decide ((j:Int) < (xs.length:Int))=true:=decide_eq_true (by omega);have j0:(0:Int)<=(j:Int):=by omega
   have j1:(j:Int) < (xs.length:Int):=by omega
   have HPRr:=hD (HPR.out.up HBr.out);obtain ⟨bkq,off,u1,rfl,-,hu1,g1⟩:=HPRr.out.1.at1 hlt;obtain ⟨x,hx,rfl⟩:∃ x,xs[j]?=some x/\u1=.slice x.A x.l.length x.c:=by
    rw [List.getElem?_map] at hu1
    cases h1:xs[j]? with
    | none=>rw [h1] at hu1;cases hu1
    | some x=>rw [h1] at hu1;injection hu1 with hu1;exact ⟨x,rfl,hu1.symm⟩
   have hxm:=List.mem_of_getElem? hx;obtain ⟨⟨s1q,hs1⟩,hxl1⟩:=HOK.out x hxm;have HRX:Hid (∀ w',Below wr.heap.size wr w'->aG w' w'.heap.size 1 x.A x.l.length (x.l.map (Value.int .i64))):=fun w' hb=>((HPRr.out.2 x hxm).below hb).more hb.size;have HAr:Hid (∀ w',Below wr.heap.size wr w'->Calls Tryz.prog 54 #[.agg #[.int .i64 t.kind,.string t.text,.slice t.lA t.leads.length t.lc,.slice t.kA t.kids.length t.kc],.slice x.A x.l.length x.c] w' (cJ w' (t.find x.l))):=fun w' hb=>HAT.out x w' hxl1 (HRX.out w' hb) (aB HBw.out hb);rw [hs1] at HAr;have HF1:=hD hs1;have HXr:=hD (HX.out.below HBr.out HX.out.lt);obtain ⟨x0,x1,x2,x3⟩:=HXr.out.c4;clear hu1 hx hxm hs1;go_upto_region 7 with fail;go_cut [10,11] (fun x10 x11 wq=>∃ g,x10=.pointer (some ⟨g,0,none⟩)/\Hid (aK wq g 99 #[.int .i64 s1q.kind,.string s1q.text,.slice s1q.lA s1q.leads.length s1q.lc,.slice s1q.kA s1q.kids.length s1q.kc])/\Hid (Below wr.heap.size wr wq))
   case first=>
    have fx0:=aH x0;have fx1:=aH x1;have fx2:=aH x2;have fx3:=aH x3;have fg1:=aH g1;refine eA 10 (.two [0,1,2,3,4] 5 (.one [6,7,8] 9 (.one [] 10 (.last []))) 9 (.one [] 5 (.one [6,7,8] 10 (.last [])))) (by kernel_rfl) (by kernel_rfl) ?_;refine bF ?_;simp only [sN]
    repeat (go_big_quiet_step (fail))
    refine wpQuiet_nil ?_;refine ⟨?_,?_⟩
    ·refine aC rfl 54 _ _ rfl Tryz.func54 rfl (by kernel_rfl) #[.agg #[.int .i64 t.kind,.string t.text,.slice t.lA t.leads.length t.lc,.slice t.kA t.kids.length t.kc],.slice x.A x.l.length x.c] (by simp [Act.eval]) (HAr.out _ (cC (Below.refl _ _))) ?_;rintro e w3 ⟨hb3,hq⟩;obtain rfl:e=.returned (.tuple #[.agg #[.int .i64 s1q.kind,.string s1q.text,.slice s1q.lA s1q.leads.length s1q.lc,.slice s1q.kA s1q.kids.length s1q.kc],.bool true]):=hq;have HB3:=hD (aB (cC (Below.refl wr.heap.size wr)) hb3);clear hb3;refine ⟨_,rfl,⟨⟨_,HB3.out⟩,rfl⟩,?_⟩;simp only [sP];refine aD ?_;simp only [sN]
     repeat (go_big_quiet_step (fail))
     refine wpQuiet_nil ?_;obtain ⟨w4,hw4⟩:=nm (w3.alloc (.cells #[.int .i64 0,.string ⟨#[]⟩,.slice none 0 0,.slice none 0 0] 99));have HB4:Hid (Below wr.heap.size wr w4):=by subst hw4;exact bK HB3.out _
     have HX4:=bk hw4;refine aE rfl (by simp [go_sem];exact ⟨rfl,hw4⟩) ⟨⟨_,HB4.out⟩,rfl⟩ ?_;simp only [sP];refine aD ?_;simp only [sN]
     repeat (go_big_quiet_step (fail))
     refine wpQuiet_nil ?_;have HZ3:=hD HB3.out.size;refine aA rfl ?_;obtain ⟨y0,y1,y2,y3⟩:=HX4.out.c4;obtain ⟨q0,q1,q2,q3⟩:=HX4.out.f4;go_wp2_with fail;obtain ⟨W9,hW9⟩:=nm (((((w4.setCell ⟨w3.heap.size,0,none⟩ (.int .i64 s1q.kind)).setCell ⟨w3.heap.size,1,none⟩ (.string s1q.text)).setCell ⟨w3.heap.size,2,none⟩ (.slice s1q.lA s1q.leads.length s1q.lc)).setCell ⟨w3.heap.size,3,none⟩ (.slice s1q.kA s1q.kids.length s1q.kc)));have HG9:Hid (aK W9 (w3.heap.size) 99 #[.int .i64 s1q.kind,.string s1q.text,.slice s1q.lA s1q.leads.length s1q.lc,.slice s1q.kA s1q.kids.length s1q.kc]):=by subst hW9;exact aP HX4.out _ _ _ _
     have HB9:Hid (Below wr.heap.size wr W9):=by subst hW9;exact aL HB4.out HZ3.out _ _ _ _
     rw [hW9];clear hW9;refine ⟨⟨⟨_,HB9.out⟩,rfl⟩,?_⟩;refine aM ?_;simp only [sN]
     repeat (go_big_quiet_step (fail))
     refine wpQuiet_nil ?_;go_wp2_with fail;refine NoPanic.normal ?_;go_wp2_with fail;go_meet;exact ⟨_,rfl,HG9,HB9⟩
    ·obtain ⟨w3,hw3⟩:=nm (wr.drew.alloc (.cells #[.int .i64 0,.string ⟨#[]⟩,.slice none 0 0,.slice none 0 0] 99));have HB3:Hid (Below wr.heap.size wr w3):=by subst hw3;exact bK (cC (Below.refl _ _)) _
     have HX3:Hid (aK w3 wr.heap.size 99 #[.int .i64 0,.string ⟨#[]⟩,.slice none 0 0,.slice none 0 0]):=by subst hw3;exact aK.new _ _ _
     refine aE rfl (by simp [go_sem];exact ⟨rfl,hw3⟩) ⟨⟨_,HB3.out⟩,rfl⟩ ?_;simp only [sP];refine aD ?_;simp only [sN]
     repeat (go_big_quiet_step (fail))
     refine wpQuiet_nil ?_;refine aC rfl 54 _ _ rfl Tryz.func54 rfl (by kernel_rfl) #[.agg #[.int .i64 t.kind,.string t.text,.slice t.lA t.leads.length t.lc,.slice t.kA t.kids.length t.kc],.slice x.A x.l.length x.c] (by simp [Act.eval]) (HAr.out _ HB3.out) ?_;rintro e w4 ⟨hb4,hq⟩;obtain rfl:e=.returned (.tuple #[.agg #[.int .i64 s1q.kind,.string s1q.text,.slice s1q.lA s1q.leads.length s1q.lc,.slice s1q.kA s1q.kids.length s1q.kc],.bool true]):=hq;have HB4:=hD (aB HB3.out hb4);have HX4:=hD (HX3.out.below hb4 HX3.out.lt);have HZ3:Hid (wr.heap.size<=wr.heap.size):=Nat.le_refl _;clear hb4;refine ⟨_,rfl,⟨⟨_,HB4.out⟩,rfl⟩,?_⟩;simp only [sP];refine aD ?_;simp only [sN]
     repeat (go_big_quiet_step (fail))
     refine wpQuiet_nil ?_;refine aA rfl ?_;obtain ⟨y0,y1,y2,y3⟩:=HX4.out.c4;obtain ⟨q0,q1,q2,q3⟩:=HX4.out.f4;go_wp2_with fail;obtain ⟨W9,hW9⟩:=nm (((((w4.setCell ⟨wr.heap.size,0,none⟩ (.int .i64 s1q.kind)).setCell ⟨wr.heap.size,1,none⟩ (.string s1q.text)).setCell ⟨wr.heap.size,2,none⟩ (.slice s1q.lA s1q.leads.length s1q.lc)).setCell ⟨wr.heap.size,3,none⟩ (.slice s1q.kA s1q.kids.length s1q.kc)));have HG9:Hid (aK W9 (wr.heap.size) 99 #[.int .i64 s1q.kind,.string s1q.text,.slice s1q.lA s1q.leads.length s1q.lc,.slice s1q.kA s1q.kids.length s1q.kc]):=by subst hW9;exact aP HX4.out _ _ _ _
     have HB9:Hid (Below wr.heap.size wr W9):=by subst hW9;exact aL HB4.out HZ3.out _ _ _ _
     rw [hW9];clear hW9;refine ⟨⟨⟨_,HB9.out⟩,rfl⟩,?_⟩;refine aM ?_;simp only [sN]
     repeat (go_big_quiet_step (fail))
     refine wpQuiet_nil ?_;go_wp2_with fail;refine NoPanic.normal ?_;go_wp2_with fail;go_meet;exact ⟨_,rfl,HG9,HB9⟩
   case rest=>
    obtain ⟨g,rfl,HG,HBq⟩:=hcut;have HBc:=hD (aB HBr.out HBq.out);have HBt:=hD (aB HBw.out HBq.out);clear x0 x1 x2 x3;obtain ⟨x0,x1,x2,x3⟩:=HG.out.c4;have g2:=HBq.out.cell (p:=⟨bkq,off+j,none⟩) (World.block_lt_of_cell? wr _ g1);rw [g1] at g2;clear g1;have HRW:=hD (HRX.out wc HBq.out);obtain ⟨W5,hW5⟩:=nm (wc.alloc (.cells #[] 3));have HB5:=bw hW5;have HO5:Hid (W5.ownsRow wc.heap.size 3 1 (.slice (some ⟨wc.heap.size,0,none⟩) 0 0) 0 []):=by rw [<- hW5];exact ⟨rfl,.inr ⟨wc.heap.size,0,#[],rfl,Nat.le_refl _,aK.new wc 3 #[],Nat.le_refl _,Nat.zero_le _,rfl,rfl⟩⟩
    have HSR:Hid (Src Tryz.prog 1 36 (.slice x.A x.l.length x.c) x.l.length (x.l.map (Value.int .i64)) W5):=cQ W5 Tryz.underlying36 x.c (HRW.out.below HB5.out) (oV x.l);have HW5:=hD hW5;clear hW5;have g5:W5.cell? ⟨bkq,off+j,none⟩=some (.slice x.A x.l.length x.c):=(HB5.out.cell (p:=⟨bkq,off+j,none⟩) (World.block_lt_of_cell? wc _ g2)).trans g2;obtain ⟨i0,hi0,hz0,hz1,hz2⟩:=dF oX;have hml:0+x.l.length<=maxLen:=by unfold maxLen;omega
    have hmb:(0+x.l.length)*8<=140737488355328:=by omega
    have q2:(s1q.text.toList == nmq.toList)=true\/(s1q.text.toList == nmq.toList)=false:=by cases (s1q.text.toList == nmq.toList) <;> simp
    rcases q2 with q2 | q2
    ·go_wp2_with (first | rw [HW5.out] | (at_builtin;refine aF W5 rfl _ _ _ _ rfl wc.heap.size 3 i0 _ 1 8 Tryz.underlying36 hi0 hz0 hz1 hz2 rfl (by decide) (.slice (some ⟨wc.heap.size,0,none⟩) 0 0) 0 [] (by simp [Act.eval]) HO5.out (.slice x.A x.l.length x.c) x.l.length (x.l.map (Value.int .i64)) (by simp [Act.eval]) HSR.out hml hmb HB5.out.size ?_));intro v9 w7 hown7 hg7;obtain ⟨A7,c7,rfl,-,-⟩:=aS hown7;have HO7:=hD hown7;have HB7:=hD (aB HBt.out (HB5.out.trans (hg7.below HB5.out.size (fun g e=>aU HO5.out g e))));have HL7:=hD (show x.l.length<=c7 by have:=nI HO7.out;omega);clear hown7 hg7;go_wp2_with fail;refine bodyPost_ret (v:=.tuple #[.slice A7 x.l.length c7,.bool true]) (by simp [results,Tryz.results111,go_sem]) rfl ?_;exact ⟨A7,c7,x.l,true,rfl,aG.of_own HO7.out,hxl1,HL7.out,HB7.out,fun _=>⟨s1q,HF1.out⟩⟩
    ·go_wp2_with fail;go_roundw
     case rel=>exact ⟨j+1,by omega,by go_num,HBc⟩
     case measure=>simp [intOf];omega
  ·have d1:decide ((j:Int) < (xs.length:Int))=false:=decide_eq_false (by omega);go_wp2_with fail;refine bodyPost_ret (v:=.tuple #[.slice none 0 0,.bool false]) (by simp [results,Tryz.results111,go_sem]) rfl ?_;exact nC HBw.out
theorem sI:∀ (p:List Int) (t s:TX),t.find p=some s->0<=t.num p/\t.num p+s.plain.size<=t.plain.size
 | [],t,s,h=>by
  rw [TX.find] at h;injection h with h;subst h;rw [TX.num];omega
 | x::p,t,s,h=>by
  rw [TX.find] at h
  split at h
  ·cases h
  ·rename_i hx
   cases hk:t.kids[x.toNat]? with
   | none=>rw [hk] at h;cases h
   | some k=>
    rw [hk] at h;have h1:=sI p k s h;have h2:=lZ hk;rw [TX.num];simp only [hk];omega
theorem Bm {s:TX} {p:List Int} (h:t.find p=some s) (hz:t.plain.size<=1000000):∃ k:Nat,t.numW p=(k:Int)/\k < t.plain.size:=by
 have h1:=sI p t s h;have h2:=qV s;refine ⟨(t.num p).toNat,?_,by omega⟩;rw [qZ h];rw [IntWalk.wrap64_in _ (by omega)];omega
structure BE (w:World) (B:Nat) (pA:Option Addr) (ps:List TX) (iA:Option Addr) (is:List PW):Prop where
 rt:RT w B pA ps
 ir:aG w B 1 iA is.length (is.map PW.head)
 ie:∀ x∈is,aG w B 1 x.A x.l.length (x.l.map (Value.int .i64))/\∀ z∈x.l,aO z
 len:is.length=ps.length
 sz:∀ (i:Nat) (t:TX) (x:PW),ps[i]?=some t->is[i]?=some x->t.plain.size<=x.l.length/\x.l.length<=1000000
 n2:ps.length<=2
 bd:∀ t∈ps,fG 110 t/\t.plain.size<=331/\t.kind=1
section
variable {w w':World} {B i:Nat} {pA iA:Option Addr} {ps:List TX} {is:List PW} {t s:TX} {q:List Int}
theorem BE.low (h:BE w B pA ps iA is) (hb:Below B w w'):BE w' B pA ps iA is:=⟨h.rt.low hb,h.ir.below hb,fun x hx=>⟨(h.ie x hx).1.below hb,(h.ie x hx).2⟩,h.len,h.sz,h.n2,h.bd⟩
theorem BE.more {B':Nat} (h:BE w B pA ps iA is) (hB:B<=B'):BE w B' pA ps iA is:=⟨⟨h.rt.row.more hB,fun t ht=>(h.rt.kid t ht).more hB⟩,h.ir.more hB,fun x hx=>⟨(h.ie x hx).1.more hB,(h.ie x hx).2⟩,h.len,h.sz,h.n2,h.bd⟩
theorem BE.up (h:BE w w.heap.size pA ps iA is) (hb:Below w.heap.size w w'):BE w' w'.heap.size pA ps iA is:=(h.low hb).more hb.size
theorem gR (t:TX):t.kids.length < t.plain.size:=by
 rw [TX.plain_eq,T.size];have:∀ l:List T,l.length<=T.sizes l:=fun l=>by
  induction l with
  | nil=>simp
  | cons a l ih=>rw [T.sizes,List.length_cons];cases a with | node _ _ _ _=>rw [T.size];omega
 have:=this (t.kids.map TX.plain);rw [List.length_map] at this;omega
theorem BE.kl (h:BE w B pA ps iA is):∀ t∈ps,t.kids.length<=1000000:=fun t ht=>by have:=(h.bd t ht).2.1;have:=gR t;omega
theorem BE.ids (h:BE w B pA ps iA is) (ht:ps[i]?=some t):∃ (b o:Nat) (x:PW),iA=some ⟨b,o,none⟩/\b < B/\is[i]?=some x/\w.cell? ⟨b,o+i,none⟩=some (.slice x.A x.l.length x.c)/\x∈is/\t.plain.size<=x.l.length/\x.l.length<=1000000:=by
 have hi:=(List.getElem?_eq_some_iff.1 ht).1;obtain ⟨b,o,u,e,hb,hu,hc⟩:=h.ir.at1 (show i < is.length by rw [h.len];exact hi);rw [List.getElem?_map] at hu
 cases h1:is[i]? with
 | none=>rw [h1] at hu;cases hu
 | some x=>
  rw [h1] at hu;injection hu with hu;subst hu;exact ⟨b,o,x,e,hb,rfl,hc,List.mem_of_getElem? h1,h.sz i t x ht h1⟩
theorem BE.id (h:BE w B pA ps iA is) {x:PW} (hx:x∈is) {k:Nat} (hk:k < x.l.length):∃ (b o:Nat) (z:Int),x.A=some ⟨b,o,none⟩/\b < B/\w.cell? ⟨b,o+k,none⟩=some (.int .i64 z)/\aO z:=by
 obtain ⟨b,o,u,e,hb,hu,hc⟩:=(h.ie x hx).1.at1 hk;rw [List.getElem?_map] at hu
 cases h1:x.l[k]? with
 | none=>rw [h1] at hu;cases hu
 | some z=>
  rw [h1] at hu;injection hu with hu;subst hu;exact ⟨b,o,z,e,hb,hc,(h.ie x hx).2 z (List.mem_of_getElem? h1)⟩
def yX (w:World) (n:Nat) (e:Ending) (w':World):Prop:=∃ k:Nat,e=.returned (.int .i64 (k:Int))/\k < n/\Below w.heap.size w w'
theorem BE.num (h:BE w w.heap.size pA ps iA is) (ht:ps[i]?=some t) (hf:t.find q=some s) (hq:aG w w.heap.size 1 D q.length (q.map (Value.int .i64))) (hl:q.length<=200000):
  Calls Tryz.prog 89 #[.agg #[.int .i64 t.kind,.string t.text,.slice t.lA t.leads.length t.lc,.slice t.kA t.kids.length t.kc],.slice D q.length d] w (yX w t.plain.size):=by
 have hm:=List.mem_of_getElem? ht;have h1:=uF t D d q w (h.rt.kid t hm) hq (by omega);unfold TX.val at h1;obtain ⟨k,hk,hlt⟩:=Bm hf (by have:=(h.bd t hm).2.1;omega);refine h1.mono (fun e w' he=>⟨k,?_,hlt,he.2⟩);rw [he.1,hk]
end
def Ej (w:World) (e:Ending) (w':World):Prop:=∃ z:Int,e=.returned (.int .i64 z)/\aO z/\Below w.heap.size w w'
theorem rK {is:List PW} {pA iA:Option Addr} {pc ic:Nat} (m d:Nat) (t:TX) (w:World) (h:BE w w.heap.size pA ps iA is) (ht:ps[m]?=some t) (hd:d < t.kids.length):Calls Tryz.prog 113 #[.slice pA ps.length pc,.slice iA is.length ic,.int .i64 (m:Int),.int .i64 (d:Int)] w (Ej w):=by
 have hmp:=(List.getElem?_eq_some_iff.1 ht).1;have hil:=h.len;have hil1:m < is.length:=by omega
 have hil2:is.length<=ps.length:=by omega
 clear hil;have hn2:=h.n2;obtain ⟨ab,ao,rfl,hab,e0,e1,e2,e3⟩:=h.rt.at_ ht;obtain ⟨ib,io,x,rfl,hib,-,c0,hxm,hx1,hx2⟩:=h.ids ht;have HE:=hD h;obtain ⟨s,hs⟩:=pE hd;obtain ⟨w6,hw6⟩:=nm (w.drew.alloc (.cells #[.int .i64 (d:Int)] 3));have HB6:Hid (Below w.heap.size w w6):=by rw [<- hw6];exact bK (cC (Below.refl _ _)) _
 have HR6:Hid (aG w6 w6.heap.size 1 (some ⟨w.heap.size,0,none⟩) 1 [.int .i64 (d:Int)]):=by rw [<- hw6];exact eD (n:=1) (size:=1) (xs:=[.int .i64 (d:Int)]) (aK.new w.drew 3 _) rfl
 have HNC:=hD ((h.up HB6.out).num ht hs (D:=some ⟨w.heap.size,0,none⟩) (d:=1) HR6.out (by simp));have HXM:=hD hxm;have m0:(0:Int)<=(m:Int):=by omega
 have m1:(m:Int) < (ps.length:Int):=by omega
 have m2:(m:Int) < (is.length:Int):=by omega
 have HX12:=hD (And.intro hx1 hx2);clear h hs hxm hab hib hx1 hx2;go_enter Tryz.func113,Tryz.ntmps113;go_wp2_with fail;have fe0:=aH e0;have fe1:=aH e1;have fe2:=aH e2;have fe3:=aH e3;have fc0:=aH c0;refine aY 10 [([0,1,2,3,4,5,6,7,8],9),([],10)] [] (by kernel_rfl) (by kernel_rfl) ?_;refine aI ?_;simp only [sN]
 repeat (go_big_quiet_step (fail))
 refine wpQuiet_nil ?_;refine aE rfl (by simp [go_sem];exact ⟨rfl,hw6⟩) ⟨⟨_,HB6.out⟩,rfl⟩ ?_;simp only [sP];refine aI ?_
 try simp only [sN]
 repeat (go_big_quiet_step (fail))
 refine wpQuiet_nil ?_;refine aC rfl 89 _ _ rfl Tryz.func89 rfl (by kernel_rfl) #[.agg #[.int .i64 t.kind,.string t.text,.slice t.lA t.leads.length t.lc,.slice t.kA t.kids.length t.kc],.slice (some ⟨w.heap.size,0,none⟩) 1 1] (by simp [Act.eval]) (HNC.out) ?_;rintro e w7 ⟨k,rfl,hk,hb7⟩;have HB7:=hD (aB HB6.out hb7);obtain ⟨b9,o9,z9,hA9,-,g9,hz9⟩:=(HE.out.up HB7.out).id HXM.out (show k < x.l.length by have:=HX12.out.1;omega);have hkl:k < x.l.length:=by have:=HX12.out.1;omega
 have hkl2:=HX12.out.2;have k1:(k:Int) < (x.l.length:Int):=by omega
 have k0:(0:Int)<=(k:Int):=by omega
 refine ⟨_,rfl,⟨⟨_,HB7.out⟩,rfl⟩,?_⟩;simp only [sP];refine bD ?_;refine wpQuiet_nil ?_;clear fe0 fe1 fe2 fe3 fc0;rw [hA9];go_wp2_with fail;refine NoPanic.normal ?_;go_wp2_with fail;go_ret;exact ⟨z9,rfl,hz9,HB7.out⟩
end
end Go.Proofs.YtkgpoimmniojjaaGreat
