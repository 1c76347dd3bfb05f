/- No condition. -/
import Derived.Test.YtkgpoimmniojjaaGreatZaAM
import Derived.Test.YtkgpoimmniojjaaGreatZaAL
import Derived.BigGuardPart
import Derived.Test.YtkgpoimmniojjaaGreatZaAI
import Derived.Test.YtkgpoimmniojjaaGreatZaAS
import Derived.Test.YtkgpoimmniojjaaGreatZaAP
import Derived.Test.YtkgpoimmniojjaaGreatZaAU
import Derived.Test.YtkgpoimmniojjaaGreatZaAQ
namespace Go.Proofs.YtkgpoimmniojjaaGreat
set_option linter.unusedVariables false
set_option linter.unusedSimpArgs false
set_option maxRecDepth 100000
set_option maxHeartbeats 16000000
section
open Go.RowKit
variable {w w0 w' wL wr:World} {g p m B q K n i:Nat} {zs cs:Array Value} {bs:List Nat} {o:Obj} {P:Program} {v':Value} {f:Nat->Option (bG × Nat)} {xs:List bG}
def Ar (k:Int) (n:Nat):Prop:=(k=2->2<=n)/\(k=3\/k=4\/k=8\/k=17\/k=22->n=1)/\(k=19->n=3)/\(k=20\/k=21->n=2)
theorem Bi (a b c:Int) (w:World):Calls Tryz.prog 162 #[.int .i64 a,.int .i64 b,.int .i64 c] w (fun e w'=>∃ r,e=.returned (.int .i64 r)/\w=w'/\((a=b/\r=c)\/r=-1)):=by
 go_enter Tryz.func162,Tryz.ntmps162;by_cases h:(a == b)=true
 ·go_wp2_with fail;go_ret;exact ⟨_,rfl,rfl,.inl ⟨by simpa using h,rfl⟩⟩
 ·have h:(a == b)=false:=by simpa using h
  go_wp2_with fail;go_ret;exact ⟨_,rfl,rfl,.inr rfl⟩
def mP (w:World) (k:Int) (n:Nat) (e:Ending) (w':World):Prop:=∃ r:Int,e=.returned (.int .i64 r)/\w=w'/\aO r/\(0<=r->Ar k n/\r<=n+6)
theorem oQ (k:Int) (n:Nat) (w:World) (hn:n<=1000000000000000):Calls Tryz.prog 145 #[.int .i64 k,.int .i64 (n:Int)] w (mP w k n):=by
 have HON:Hid (∀ (b c:Int) w,Calls Tryz.prog 162 #[.int .i64 (n:Int),.int .i64 b,.int .i64 c] w (fun e w'=>∃ r,e=.returned (.int .i64 r)/\w=w'/\(((n:Int)=b/\r=c)\/r=-1))):=fun b c w=>Bi _ b c w;go_enter Tryz.func145,Tryz.ntmps145;go_wp2_with fail
 all_goals first
  | (go_ret;simp only [beq_iff_eq,beq_eq_false_iff_ne,ne_eq,decide_eq_true_eq,decide_eq_false_iff_not] at*;exact ⟨_,rfl,rfl,by unfold aO;omega,by unfold Ar;omega⟩)
  | ((with_reducible refine (HON.out _ _ _).mono ?_);rintro r0 w1 ⟨r,rfl,rfl,hr⟩;have HR:=hD hr;clear hr;go_wp2_with fail;go_ret;have hr:=HR.out;simp only [beq_iff_eq,beq_eq_false_iff_ne,ne_eq,decide_eq_true_eq,decide_eq_false_iff_not] at*;exact ⟨_,rfl,rfl,by unfold aO;omega,by unfold Ar;omega⟩)
theorem xE (k:Int) (w:World):Calls Tryz.prog 164 #[.int .i64 k] w (qF w):=by
 go_enter Tryz.func164,Tryz.ntmps164;go_wp2_with fail
 all_goals
  go_ret;exact ⟨_,rfl,rfl⟩
theorem oU (k:Int) (w:World):Calls Tryz.prog 163 #[.int .i64 k] w (qF w):=by
 go_enter Tryz.func163,Tryz.ntmps163;go_wp2_with fail
 all_goals
  go_ret;exact ⟨_,rfl,rfl⟩
theorem xD (k:Int) (w:World):Calls Tryz.prog 165 #[.int .i64 k] w (qF w):=by
 have HE:Hid (∀ w,Calls Tryz.prog 163 #[.int .i64 k] w (qF w)):=fun w=>oU k w;go_enter Tryz.func165,Tryz.ntmps165;go_wp2_with fail;(with_reducible refine (HE.out _).mono ?_);rintro r0 w1 ⟨b,rfl,rfl⟩
 cases b
 all_goals
  go_wp2_with fail
 all_goals
  go_ret;exact ⟨_,rfl,rfl⟩
theorem C4 (t:TX) (i k:Int) (w:World) (h:Tr w w.heap.size t) (hi:0<=i/\i<=1000000000000000):Calls Tryz.prog 147 #[t.val,.int .i64 i,.int .i64 k] w (fun e w'=>∃ b,e=.returned (.bool b)/\Below w.heap.size w w'):=by
 have HE:Hid (∀ w,Calls Tryz.prog 163 #[.int .i64 k] w (qF w)):=fun w=>oU k w;have HU:Hid (∀ w,Calls Tryz.prog 165 #[.int .i64 k] w (qF w)):=fun w=>xD k w;have HT:Hid (∀ w,Calls Tryz.prog 164 #[.int .i64 k] w (qF w)):=fun w=>xE k w;have hkb:=h.kb;unfold TX.val;obtain ⟨W,hW⟩:=nm (w.alloc (.cells #[.int .i64 t.kind,.string t.text,.slice t.lA t.leads.length t.lc,.slice t.kA t.kids.length t.kc] 99));have HB:=bw hW;have HX:=bk hW;obtain ⟨x0,x1,x2,x3⟩:=HX.out.c4;have HW:=hD hW;clear h hW;generalize t.kind=tk at*;generalize t.text=ts at*;generalize t.leads.length=tl at*;generalize t.kids.length=n at*;go_enter Tryz.func147,Tryz.ntmps147;go_wp2_with (rw [HW.out])
 repeat' (first
  | (go_ret;exact ⟨_,rfl,HB.out⟩)
  | ((first | (with_reducible refine (HE.out _).mono ?_) | (with_reducible refine (HT.out _).mono ?_) | (with_reducible refine (HU.out _).mono ?_));rintro r0 w1 ⟨b,rfl,rfl⟩;cases b <;> go_wp2_with fail))
theorem aJ.blk {base:Nat} {e t:TypeId} {fs:List Ty} {r r':Value} (hr:aJ w base e fs r m) (hx:aK w g t cs) (hne:e≠t) (hg:aR (w.alloc o) w' r r'):aK w' g t cs:=by
 obtain ⟨xs,ho,-⟩:=hr.alloc o;exact hg.blk (hx.alloc o) (fun e1=>aX ho (hx.alloc o) hne e1)
abbrev wE (K:Nat):List Ty:=[.int,.str K,.str K]
theorem DU:cN Tryz.prog 145 3 40:=eC (by kernel_rfl)
theorem Dw:∃ e',Tryz.prog.underlying 137=some (.slice e'):=⟨_,Tryz.underlying137⟩
theorem kT (K:Nat):EK Tryz.prog 145 137 137 (wE K) 40:=⟨DU,Tryz.underlying137,Dw,by simp,rfl,by decide⟩
theorem CY {z0:Int} {s1q s2:ByteArray} (h0:aO z0) (h1:s1q.size<=K) (h2:s2.size<=K):Ts w B (wE K) [.int .i64 z0,.string s1q,.string s2]:=by
 refine nU (by simp) (fun i u t hu ht=>?_);have hi:=(List.getElem?_eq_some_iff.1 hu).1
 match i,hi with
 | 0,_=>cases hu;cases ht;exact .int _ h0
 | 1,_=>cases hu;cases ht;exact .str _ _ h1
 | 2,_=>cases hu;cases ht;exact .str _ _ h2
theorem eO {fn:Func} {a b c d:Tmp} (h:fn.results=#[.tmp a,.tmp b,.tmp c,.tmp d]) (tmps:Array Value) (w:World):(results fn tmps).run P w=.ok (.tuple #[tmps.getD a undef,tmps.getD b undef,tmps.getD c undef,tmps.getD d undef]) w:=by
 simp [results,h]
def lR (S:Nat) (w':World) (v:Value):Prop:=∃ A n c tl at_ e,v=.tuple #[.slice A n c,.string tl,.int .i64 at_,.int .i64 e]/\V w' w'.heap.size (.sl S 145 (wE S)) (.slice A n c)/\tl.size<=S/\aO at_/\aO e
theorem Bb (s:ByteArray) (w:World) (hs:s.size<=1000000000):Calls Tryz.prog 115 #[.string s] w (aV w (lR s.size)):=by
 have HLC:Hid (∀ (k:Nat) w',k<=s.size->Calls Tryz.prog 133 #[.string s,.int .i64 (k:Int)] w' (fun e w2=>∃ (n:Nat) (bad:Int),e=.returned (.tuple #[.int .i64 (n:Int),.int .i64 bad])/\w'=w2/\k+n<=s.size/\-1<=bad/\bad<=s.size)):=fun k w' hk=>uX s k w' hk hs;have HNC:Hid (∀ (k n:Nat) w',k+n < s.size->Calls Tryz.prog 134 #[.string s,.int .i64 ((k:Int)+(n:Int))] w' (aV w' (lU s (k+n)))):=fun k n w' hk=>by
  have:=oP s (k+n) w' hk hs;rwa [show ((k+n:Nat):Int)=(k:Int)+(n:Int) by omega] at this
 go_enter Tryz.func115,Tryz.ntmps115;go_wp2_with fail;go_loopw [6,7] (fun l i wr=>∃ (k m:Nat) (A:Option Addr) (c:Nat),k<=s.size/\m<=k/\l=.slice A m c/\i=.int .i64 (k:Int)/\Hid (aJ wr w.heap.size 145 (wE s.size) (.slice A m c) m)/\Hid (Below w.heap.size w wr)) (fun _ i _=>s.size - (intOf i).toNat)
 case atStart=>exact ⟨0,0,none,0,Nat.zero_le _,Nat.zero_le _,rfl,rfl,aJ.nil _ _ _ _,Below.refl _ _⟩
 case round=>
  obtain ⟨k,m,A,c,hk,hm,rfl,rfl,HO,HB⟩:=hrel;go_wp2_with fail;(with_reducible refine (HLC.out _ _ hk).mono ?_);rintro e w1 ⟨n,bad,rfl,rfl,hn,hb0,hb1⟩;by_cases hbad:0<=bad
  ·have d:decide (0<=bad)=true:=decide_eq_true hbad;go_wp2_with fail;refine bodyPost_ret (eO (P:=Tryz.prog) rfl _ _) rfl ?_;exact ⟨HB.out,_,rfl,_,_,_,_,_,_,rfl,V.nil _ _ _ _ _,Nat.zero_le _,by unfold aO;omega,by unfold aO;omega⟩
  ·have d:decide (0<=bad)=false:=decide_eq_false hbad;by_cases hend:k+n=s.size
   ·have d2:((k:Int)+(n:Int) == (s.size:Int))=true:=by simp;omega
    have HV:=hD (HO.out.v_ (N:=s.size) (by omega));go_wp2_with fail;go_quiet (fail);have HB2:=hD (lE HB.out nq);have HV2:=hD ((HV.out.drewN nq));go_wp2_with fail;refine bodyPost_ret (eO (P:=Tryz.prog) rfl _ _) rfl ?_;exact ⟨HB2.out,_,rfl,_,_,_,_,_,_,rfl,HV2.out,by simp [ByteArray.size_extract],by unfold aO;omega,by unfold aO;omega⟩
   ·have d2:((k:Int)+(n:Int) == (s.size:Int))=false:=by simp;omega
    have hlt:k+n < s.size:=by omega
    go_wp2_with fail;(with_reducible refine (HNC.out _ _ _ hlt).mono ?_);rintro e w2 ⟨hb2,v,rfl,ln,kd,er,a,rfl,hit,il,ik,ie,ia⟩;obtain ⟨W2,hW2⟩:=nm (w2.alloc (.cells #[.int .i64 ln,.int .i64 kd,.int .i64 er,.int .i64 a] 187));have HX:=bk hW2;have HB2:Hid (Below w.heap.size w W2):=by subst hW2;exact bK (aB HB.out hb2) _
    have HO2:Hid (aJ W2 w.heap.size 145 (wE s.size) (.slice A m c) m):=by subst hW2;exact (HO.out.up hb2).alloc _
    have HW2:=hD hW2;clear hb2 hW2;obtain ⟨x0,x1,x2,x3⟩:=HX.out.c4;by_cases he:er=0
    ·subst he;obtain ⟨h1,h2⟩:=hit rfl;obtain ⟨j,rfl⟩:∃ j:Nat,ln=(j:Int):=⟨ln.toNat,by omega⟩;have HZ2:=hD HB2.out.size;go_wp2_with (rw [HW2.out]);have fx0:=aH x0;have fx1:=aH x1;have g1:((k:Int)+(n:Int)).toNat=k+n:=by omega
     have g2:((k:Int)+(n:Int)+(j:Int)).toNat=k+n+j:=by omega
     have g3:(k:Int)+(n:Int)<=(s.size:Int):=by omega
     have g4:(k:Int)+(n:Int)+(j:Int)<=(s.size:Int):=by omega
     have g5:(k:Int)<=(k:Int)+(n:Int):=by omega
     have g6:(k:Int)+(n:Int)<=(k:Int)+(n:Int)+(j:Int):=by omega
     have g7:(0:Int)<=(k:Int)+(n:Int):=by omega
     have g8:(0:Int)<=(k:Int)+(n:Int)+(j:Int):=by omega
     have g9:wrap64 ((k:Int)+(n:Int))=(k:Int)+(n:Int):=wrap64_in (by unfold aO;omega);have g10:wrap64 ((k:Int)+(n:Int)+(j:Int))=(k:Int)+(n:Int)+(j:Int):=wrap64_in (by unfold aO;omega);refine eA 21 (.one [0,1,2,3,4,5,6,7,8,9,10,11,12,13,14,15,16,17,18,19,20] 21 (.last [])) (by kernel_rfl) (by kernel_rfl) ?_;refine aD ?_;simp only [sN]
     repeat (go_big_quiet_step (fail))
     refine wpQuiet_nil ?_;have hS1:(s.extract k (k+n)).size<=s.size:=by simp [ByteArray.size_extract];omega
     have hS2:(s.extract (k+n) (k+n+j)).size<=s.size:=by simp [ByteArray.size_extract];omega
     generalize s.extract k (k+n)=t1 at*;generalize s.extract (k+n) (k+n+j)=t2 at*;obtain ⟨W3,hW3⟩:=nm (W2.drew.alloc (.cells #[.int .i64 kd,.string t1,.string t2] 145));have HB3:Hid (Below W2.heap.size W2 W3):=by subst hW3;exact bK (cC (Below.refl _ _)) _
     refine aE rfl (by simp [go_sem];exact ⟨rfl,hW3⟩) ⟨⟨_,HB3.out⟩,rfl⟩ ?_;simp only [sP];refine aM ?_;simp only [sN]
     repeat (go_big_quiet_step (fail))
     refine wpQuiet_nil ?_;rw [<- hW3];clear fx0 fx1;have HO3:=hD (HO2.out.drew);have HT3:=hD (CY (w:=W2.drew) (B:=W2.drew.heap.size) ik hS1 hS2);go_wp2_with (at_builtin;refine p1 (kT s.size) rfl rfl w.heap.size (.slice A m c) m rfl HO3.out 145 _ 1 1 rfl rfl rfl HT3.out (by omega) HZ2.out ?_);intro A7 c7 w7 hown7 hg7 hb7;have HO7:=hD hown7;have HB7:Hid (Below w.heap.size w w7):=(cC HB2.out).trans hb7;have HX7:=hD (HO3.out.blk (o:=.cells #[.int .i64 kd,.string t1,.string t2] 145) (HX.out.drew) (by decide) (by rw [hW3];exact hg7));clear hown7 hg7 hb7 x0 x1 x2 x3;obtain ⟨x0,x1,x2,x3⟩:=HX7.out.c4;go_wp2_with fail;refine NoPanic.normal ?_;go_wp2_with fail;go_roundw
     case rel=>exact ⟨k+n+j,m+1,A7,c7,by omega,by omega,rfl,by go_num,HO7,HB7⟩
     case measure=>simp [intOf];omega
    ·have d3:(er != 0)=true:=by simpa using he
     go_wp2_with (rw [HW2.out]);go_quiet (fail);have HB3:=hD (lE HB2.out nq);go_wp2_with fail;refine bodyPost_ret (eO (P:=Tryz.prog) rfl _ _) rfl ?_;exact ⟨HB3.out,_,rfl,_,_,_,_,_,_,rfl,V.nil _ _ _ _ _,Nat.zero_le _,ia,ie⟩
theorem qT (s:ByteArray) (w:World) (hs:s.size<=1000000000):Calls Tryz.prog 92 #[.string s] w (aV w (lR s.size)):=by
 have HSC:=hD (Bb s w hs);go_enter Tryz.func92,Tryz.ntmps92;by_cases hb:4096 < s.size
 ·have d:decide ((4096:Int) < (s.size:Int))=true:=decide_eq_true (by omega);go_wp2_with fail
  all_goals first | (exfalso;omega) | skip
  refine bodyPost_ret (eO (P:=Tryz.prog) rfl _ _) rfl ?_;exact ⟨Below.refl _ _,_,rfl,_,_,_,_,_,_,rfl,V.nil _ _ _ _ _,Nat.zero_le _,by unfold aO;omega,by unfold aO;omega⟩
 ·have d:decide ((4096:Int) < (s.size:Int))=false:=decide_eq_false (by omega);go_wp2_with fail
  all_goals first | (exfalso;omega) | skip
  (with_reducible refine (HSC.out).mono ?_);rintro e w1 ⟨hb1,v,rfl,A,n,c,tl,at_,er,rfl,hv,ht,ia,ie⟩;have HB:=hD hb1;have HV:=hD hv;clear hb1 hv;go_wp2_with fail;refine bodyPost_ret (eO (P:=Tryz.prog) rfl _ _) rfl ?_;exact ⟨HB.out,_,rfl,_,_,_,_,_,_,rfl,HV.out,ht,ia,ie⟩
theorem sM {L M N:Nat} (A:Option Addr) (n c:Nat) (z0:Int) (A1:Option Addr) (n1 c1:Nat) (A2:Option Addr) (n2 c2:Nat) (s3:ByteArray) (A4:Option Addr) (n4 c4:Nat) (w:World) (h:V w w.heap.size (.sl L 39 (cL K M N 3 83)) (.slice A n c)) (hL:L<=1000) (hc:dQ w w.heap.size K M N z0 A1 n1 c1 A2 n2 c2 s3 A4 n4 c4):
  Calls Tryz.prog 16 #[.slice A n c,.agg #[.int .i64 z0,.slice A1 n1 c1,.slice A2 n2 c2,.string s3,.slice A4 n4 c4]] w (aV w fun w' v=>V w' w'.heap.size (.ne (n+1) 39 (cL K M N 3 83)) v):=by
 obtain ⟨W,hW⟩:=nm (w.alloc (.cells #[.int .i64 z0,.slice A1 n1 c1,.slice A2 n2 c2,.string s3,.slice A4 n4 c4] 39));have HX0:=bk hW;have HBW:=bw hW;have H:=hD h;have HC:=hD hc;have hn:=h.len_le;have hcp:=h.cap_le;clear h hc;go_enter Tryz.func16,Tryz.ntmps16;go_wp2_with fail;have HW:=hD hW;clear hW;go_loopw [5] (fun i wr=>∃ k:Nat,k<=n/\i=.int .i64 (k:Int)/\Hid (Below W.heap.size W wr)) (fun i _=>n - (intOf i).toNat)
 case atStart=>exact ⟨0,Nat.zero_le _,rfl,Below.refl _ _⟩
 case round=>
  obtain ⟨k,hk,rfl,HB⟩:=hrel;have HBw:=hD (HBW.out.trans (HB.out.mono HBW.out.size));have x0:=(HX0.out.below HB.out HX0.out.lt).cell 0;simp at x0;have hq:(k < n/\∃ b off y0,A=some ⟨b,off,none⟩/\wr.cell? ⟨b,off+k*5,none⟩=some (.int .i64 y0)/\y0 < z0)\/(k < n/\∃ b off y0,A=some ⟨b,off,none⟩/\wr.cell? ⟨b,off+k*5,none⟩=some (.int .i64 y0)/\¬ y0 < z0)\/k=n:=by
   by_cases hlt:k < n
   ·obtain ⟨b,off,y0,-,-,-,-,-,-,-,-,-,-,e,-,e0,-⟩:=(H.out.bel HBw.out).com_at hlt;by_cases q:y0 < z0
    ·exact .inl ⟨hlt,b,off,y0,e,e0,q⟩
    ·exact .inr (.inl ⟨hlt,b,off,y0,e,e0,q⟩)
   ·exact .inr (.inr (by omega))
  rcases hq with ⟨hlt,b,off,y0,rfl,e0,q⟩ | hq
  ·have d:decide (y0 < z0)=true:=decide_eq_true q;go_wp2_with fail;go_quiet (fail);have HB2:Hid (Below W.heap.size W (wr.drewN nq)):=aN HB.out nq;go_wp2_with fail;go_roundw
   case rel=>exact ⟨k+1,by omega,by go_num,HB2⟩
   case measure=>simp [intOf];omega
  ·rcases hq with ⟨hlt,b,off,y0,rfl,e0,q⟩ | rfl
   ·have d:decide (y0 < z0)=false:=decide_eq_false q;go_wp2_with fail;go_quiet (fail);obtain ⟨w1,hw1⟩:=nm (wr.drewN nq);have HB1:Hid (Below W.heap.size W w1):=by subst hw1;exact aN HB.out nq
    have HBw1:=hD (HBW.out.trans (HB1.out.mono HBW.out.size));have HZ1:=hD HB1.out.size;have HV1:=hD ((H.out.bel HBw1.out).take (k:=k) (by omega) (cap':=c) (by omega));rw [hw1];clear hw1 x0 e0;go_wp2_with (at_builtin;refine pV (kM K M N) rfl rfl W.heap.size _ _ rfl (aJ.empty w1 _ _ W.heap.size HZ1.out) L _ _ (some ⟨b,off,none⟩) k c rfl (HV1.out.bel ((Below.refl _ w1).alloc HBw1.out.size _)) (by have:=HBw1.out.size;simp;omega) (by omega) (by have:=HZ1.out;simp;omega) ?_);intro A3 c3 w3 hown3 hg3 hb3;have HO3:Hid (aJ w3 W.heap.size 39 (cL K M N 3 83) (.slice A3 k c3) k):=by unfold Hid;simpa using hown3
    have HB3:Hid (Below W.heap.size W w3):=(HB1.out.alloc HB1.out.size _).trans hb3;have HZ3:=hD HB3.out.size;have HY:=hD (HX0.out.below HB3.out HX0.out.lt);have HT3:=hD (kN ((HC.out.bel (HBW.out.trans (HB3.out.mono HBW.out.size))).more (Nat.le_trans HBW.out.size HB3.out.size)));clear hown3 hg3 hb3;obtain ⟨x0,x1,x2,x3,x4⟩:=HY.out.c5;go_wp2_with (at_builtin;refine p1 (kM K M N) rfl rfl W.heap.size (.slice A3 k c3) k rfl HO3.out 39 _ 1 1 rfl rfl rfl HT3.out (by omega) HZ3.out ?_);intro A4' c4' w4 hown4 hg4 hb4;have HO4:=hD hown4;have HB4:=hD (HB3.out.trans hb4);have HB4w:=hD (HBW.out.trans (HB4.out.mono HBW.out.size));have HZ4:=hD HB4.out.size;have HHB:Hid (w.heap.size<=w4.heap.size):=HB4w.out.size;have HH:=hD (H.out.bel HB4w.out);clear hown4 hg4 hb4 x0 x1 x2 x3 x4;rcases Nat.eq_zero_or_pos k with h0 | h0
    ·subst h0;have HS:=HH;have HO4:Hid (aJ w4 W.heap.size 39 (cL K M N 3 83) (.slice A4' 1 c4') 1):=HO4.out;go_wp2_with (at_builtin;refine pV (kM K M N) rfl rfl W.heap.size (.slice A4' 1 c4') 1 rfl HO4.out L _ _ (some ⟨b,off,none⟩) n c rfl HS.out HHB.out (by omega) HZ4.out ?_);intro A6 c6 w6 hown6 hg6 hb6;have HB6:=hD (HB4w.out.trans (hb6.mono HBW.out.size));have HV6:=hD (hown6.v_ (Nat.le_refl _));clear hown6 hg6 hb6;go_wp2_with fail;go_ret;exact ⟨HB6.out,_,rfl,.ne _ _ _ _ _ _ (HV6.out.wide (by omega)) (by omega)⟩
    ·obtain ⟨b',off',e9,hd⟩:=HH.out.from_ (d:=k) (by omega) (by omega) (by simp);injection e9 with e9;injection e9 with e8 e7;subst e8 e7;rcases hd with ⟨hcd,hn9,hv⟩ | ⟨hcd,hv⟩
     ·exfalso;omega
     ·have HS:=hD hv;have hlc:k < c:=by omega
      clear hv hcd;go_wp2_with (at_builtin;refine pV (kM K M N) rfl rfl W.heap.size (.slice A4' (k+1) c4') (k+1) rfl HO4.out L _ _ (some ⟨b,off+k*5,none⟩) (n - k) (c - k) rfl HS.out HHB.out (by omega) HZ4.out ?_);intro A6 c6 w6 hown6 hg6 hb6;have HB6:=hD (HB4w.out.trans (hb6.mono HBW.out.size));have HV6:=hD (hown6.v_ (Nat.le_refl _));clear hown6 hg6 hb6;go_wp2_with fail;go_ret;exact ⟨HB6.out,_,rfl,.ne _ _ _ _ _ _ (HV6.out.wide (by omega)) (by omega)⟩
   ·go_wp2_with fail;go_quiet (fail);obtain ⟨w1,hw1⟩:=nm (wr.drewN nq);have HB1:Hid (Below W.heap.size W w1):=by subst hw1;exact aN HB.out nq
    have HBw1:=hD (HBW.out.trans (HB1.out.mono HBW.out.size));have HZ1:=hD HB1.out.size;have HV1:=hD ((H.out.bel HBw1.out).take (k:=k) (by omega) (cap':=c) (by omega));rw [hw1];clear hw1 x0;go_wp2_with (at_builtin;refine pV (kM K M N) rfl rfl W.heap.size _ _ rfl (aJ.empty w1 _ _ W.heap.size HZ1.out) L _ _ A k c rfl (HV1.out.bel ((Below.refl _ w1).alloc HBw1.out.size _)) (by have:=HBw1.out.size;simp;omega) (by omega) (by have:=HZ1.out;simp;omega) ?_);intro A3 c3 w3 hown3 hg3 hb3;have HO3:Hid (aJ w3 W.heap.size 39 (cL K M N 3 83) (.slice A3 k c3) k):=by unfold Hid;simpa using hown3
    have HB3:Hid (Below W.heap.size W w3):=(HB1.out.alloc HB1.out.size _).trans hb3;have HZ3:=hD HB3.out.size;have HY:=hD (HX0.out.below HB3.out HX0.out.lt);have HT3:=hD (kN ((HC.out.bel (HBW.out.trans (HB3.out.mono HBW.out.size))).more (Nat.le_trans HBW.out.size HB3.out.size)));clear hown3 hg3 hb3;obtain ⟨x0,x1,x2,x3,x4⟩:=HY.out.c5;go_wp2_with (at_builtin;refine p1 (kM K M N) rfl rfl W.heap.size (.slice A3 k c3) k rfl HO3.out 39 _ 1 1 rfl rfl rfl HT3.out (by omega) HZ3.out ?_);intro A4' c4' w4 hown4 hg4 hb4;have HO4:=hD hown4;have HB4:=hD (HB3.out.trans hb4);have HB4w:=hD (HBW.out.trans (HB4.out.mono HBW.out.size));have HZ4:=hD HB4.out.size;have HHB:Hid (w.heap.size<=w4.heap.size):=HB4w.out.size;have HH:=hD (H.out.bel HB4w.out);clear hown4 hg4 hb4 x0 x1 x2 x3 x4;rcases Nat.eq_zero_or_pos k with h0 | h0
    ·subst h0;have HS:=HH;have HO4:Hid (aJ w4 W.heap.size 39 (cL K M N 3 83) (.slice A4' 1 c4') 1):=HO4.out;go_wp2_with (at_builtin;refine pV (kM K M N) rfl rfl W.heap.size (.slice A4' 1 c4') 1 rfl HO4.out L _ _ A 0 c rfl HS.out HHB.out (by omega) HZ4.out ?_);intro A6 c6 w6 hown6 hg6 hb6;have HB6:=hD (HB4w.out.trans (hb6.mono HBW.out.size));have HV6:=hD (hown6.v_ (Nat.le_refl _));clear hown6 hg6 hb6;go_wp2_with fail;go_ret;exact ⟨HB6.out,_,rfl,.ne _ _ _ _ _ _ (HV6.out.wide (by omega)) (by omega)⟩
    ·obtain ⟨b,off,rfl,hd⟩:=HH.out.from_ (d:=k) (by omega) (by omega) (by simp);rcases hd with ⟨hcd,hn9,hv⟩ | ⟨hcd,hv⟩
     ·subst hcd;have HS:=hD hv;clear hv;go_wp2_with (at_builtin;refine pV (kM K M N) rfl rfl W.heap.size (.slice A4' (c+1) c4') (c+1) rfl HO4.out L _ _ (some ⟨b,off,none⟩) 0 0 rfl HS.out HHB.out (by omega) HZ4.out ?_);intro A6 c6 w6 hown6 hg6 hb6;have HB6:=hD (HB4w.out.trans (hb6.mono HBW.out.size));have HV6:=hD (hown6.v_ (Nat.le_refl _));clear hown6 hg6 hb6;go_wp2_with fail;go_ret;exact ⟨HB6.out,_,rfl,.ne _ _ _ _ _ _ (HV6.out.wide (by omega)) (by omega)⟩
     ·rw [Nat.sub_self] at hv;have HS:=hD hv;have hlc:k < c:=by omega
      clear hv hcd;go_wp2_with (at_builtin;refine pV (kM K M N) rfl rfl W.heap.size (.slice A4' (k+1) c4') (k+1) rfl HO4.out L _ _ (some ⟨b,off+k*5,none⟩) 0 (c - k) rfl HS.out HHB.out (by omega) HZ4.out ?_);intro A6 c6 w6 hown6 hg6 hb6;have HB6:=hD (HB4w.out.trans (hb6.mono HBW.out.size));have HV6:=hD (hown6.v_ (Nat.le_refl _));clear hown6 hg6 hb6;go_wp2_with fail;go_ret;exact ⟨HB6.out,_,rfl,.ne _ _ _ _ _ _ (HV6.out.wide (by omega)) (by omega)⟩
def BU (w:World) (o:Option (bG × Nat)) (e:Ending) (w':World):Prop:=
 ∃ y:bG,e=.returned (.tuple #[.agg #[.int .i64 y.id,.int .i64 y.field,.int .i64 y.n,.bool y.flag,.string y.text,.int .i64 y.ref],pv (o.map (·.2)),ev (o.map (·.2))])/\(∀ z,o=some z->z.1=y)/\Below w.heap.size w w'
theorem yT (hl:bs.length=n) (hp:p<=n):Db (Ak bs (p:Int))=.returned (.tuple #[.string (((cI bs p).map (·.1)).getD ByteArray.empty),pv ((cI bs p).map (·.2)),ev ((cI bs p).map (·.2))]):=by
 rw [C8 hl hp]
 cases cI bs p <;> rfl
theorem lH {t:ByteArray} (hp:p<=bs.length) (h:cI bs p=some (t,q)):q<=bs.length:=by
 unfold cI at h
 split at h
 ·cases h
 ·rename_i n q1 hn;have:=eB hp hn
  split at h
  ·cases h
  ·injection h with h;injection h with h1 h2;omega
theorem uJ {c:Nat} {A:Option Addr} (hn:n<=1000000000000) (hnc:n<=c) (hp:p<=n) (hr:aG w w.heap.size 1 A n (bs.map dZ)) (hbs:∀ x∈bs,x < 256):
  Calls Tryz.prog 86 #[.slice A n c,.int .i64 (p:Int)] w (BU w (cY bs p)):=by
 have hl:bs.length=n:=by have:=hr.1;simpa using this
 have HR:=hD hr;have HI:Hid (∀ (q:Nat) (w':World),q<=n->Below w.heap.size w w'->Calls Tryz.prog 83 #[.slice A n c,.int .i64 (q:Int)] w' fun e w2=>e=.returned (.tuple #[.int .i64 (((bC bs q).map (·.1)).getD 0),pv ((bC bs q).map (·.2)),ev ((bC bs q).map (·.2))])/\w'=w2):=fun q w' hq hb=>by
  have:=eH A n c (q:Int) bs w' hn w.heap.size (hr.below hb) hbs;rwa [sO hl hq] at this
 have HT:Hid (∀ (q:Nat) (w':World),q<=n->Below w.heap.size w w'->Calls Tryz.prog 85 #[.slice A n c,.int .i64 (q:Int)] w' fun e w2=>e=.returned (.tuple #[.string (((cI bs q).map (·.1)).getD ByteArray.empty),pv ((cI bs q).map (·.2)),ev ((cI bs q).map (·.2))])/\w'=w2):=fun q w' hq hb=>by
  have:=iU A n c (q:Int) bs w' hn hnc w.heap.size (hr.below hb) hbs;rwa [yT hl hq] at this
 have HN:Hid (∀ (q:Nat) x q2,q<=n->bC bs q=some (x,q2)->q2<=n):=fun q x q2 hq h=>by have:=eB (by omega) h;omega
 have HX:Hid (∀ (q:Nat) x q2,q<=n->cI bs q=some (x,q2)->q2<=n):=fun q x q2 hq h=>by have:=lH (by omega) h;omega
 have HL:=hD hl;have HBS:=hD hbs;have hch:cY bs p=(bC bs p).bind fun a=>(bC bs a.2).bind fun b=>(bC bs b.2).bind fun c=>(fL bs c.2).bind fun d=>(cI bs d.2).bind fun e=>(bC bs e.2).map fun f=>(⟨a.1,b.1,c.1,d.1,e.1,f.1⟩,f.2):=rfl;replace hch:=hD hch;have HP:=hD hp;clear hr hbs hl hp;go_enter Tryz.func86,Tryz.ntmps86;go_wp2_with fail;refine (HI.out p _ (HP.out) (by repeat (first | exact Below.refl _ _ | refine Below.alloc ?_ (by simp) _ | refine Below.setCell ?_ (by simp) _))).mono ?_;rintro e w1 ⟨rfl,rfl⟩;rcases e1:bC bs p with _ | ⟨a,q1⟩
 ·have ho:cY bs p=none:=by rw [hch.out,e1];rfl
  replace ho:=hD ho;clear hch e1;simp only [Option.map_none,Option.getD_none,pv,ev];go_wp2_with fail;refine bodyPost_ret (aZ (P:=Tryz.prog) rfl _ _ w.heap.size 83 #[.int .i64 0,.int .i64 0,.int .i64 0,.bool false,.string ⟨#[]⟩,.int .i64 0] (0,0) _ rfl (by first | exact (aK.new _ _ _).alloc _ | exact aK.new _ _ _) Tryz.underlying83 rfl (by kernel_rfl)) rfl ?_;rw [ho.out];exact ⟨⟨0,0,0,false,⟨#[]⟩,0⟩,rfl,(fun z hz=>by cases hz),(by repeat (first | exact Below.refl _ _ | refine Below.alloc ?_ (by simp) _ | refine Below.setCell ?_ (by simp) _))⟩
 ·have hq1:Hid (q1<=n):=HN.out p a q1 (HP.out) e1;simp only [Option.map_some,Option.getD_some,pv,ev];replace e1:=hD e1;go_wp2_with fail;refine (HI.out q1 _ (hq1.out) (by repeat (first | exact Below.refl _ _ | refine Below.alloc ?_ (by simp) _ | refine Below.setCell ?_ (by simp) _))).mono ?_;rintro e w2 ⟨rfl,rfl⟩;rcases e2:bC bs q1 with _ | ⟨b,q2⟩
  ·have ho:cY bs p=none:=by rw [hch.out,e1.out,Option.bind_some,e2];rfl
   replace ho:=hD ho;clear hch e1 e2;simp only [Option.map_none,Option.getD_none,pv,ev];go_wp2_with fail;refine bodyPost_ret (aZ (P:=Tryz.prog) rfl _ _ w.heap.size 83 #[.int .i64 a,.int .i64 0,.int .i64 0,.bool false,.string ⟨#[]⟩,.int .i64 0] (0,0) _ rfl (by first | exact (aK.new _ _ _).alloc _ | exact aK.new _ _ _) Tryz.underlying83 rfl (by kernel_rfl)) rfl ?_;rw [ho.out];exact ⟨⟨a,0,0,false,⟨#[]⟩,0⟩,rfl,(fun z hz=>by cases hz),(by repeat (first | exact Below.refl _ _ | refine Below.alloc ?_ (by simp) _ | refine Below.setCell ?_ (by simp) _))⟩
  ·have hq2:Hid (q2<=n):=HN.out q1 b q2 (hq1.out) e2;simp only [Option.map_some,Option.getD_some,pv,ev];replace e2:=hD e2;go_wp2_with fail;refine (HI.out q2 _ (hq2.out) (by repeat (first | exact Below.refl _ _ | refine Below.alloc ?_ (by simp) _ | refine Below.setCell ?_ (by simp) _))).mono ?_;rintro e w3 ⟨rfl,rfl⟩;rcases e3:bC bs q2 with _ | ⟨d,q3⟩
   ·have ho:cY bs p=none:=by rw [hch.out,e1.out,Option.bind_some,e2.out,Option.bind_some,e3];rfl
    replace ho:=hD ho;clear hch e1 e2 e3;simp only [Option.map_none,Option.getD_none,pv,ev];go_wp2_with fail;refine bodyPost_ret (aZ (P:=Tryz.prog) rfl _ _ w.heap.size 83 #[.int .i64 a,.int .i64 b,.int .i64 0,.bool false,.string ⟨#[]⟩,.int .i64 0] (0,0) _ rfl (by first | exact (aK.new _ _ _).alloc _ | exact aK.new _ _ _) Tryz.underlying83 rfl (by kernel_rfl)) rfl ?_;rw [ho.out];exact ⟨⟨a,b,0,false,⟨#[]⟩,0⟩,rfl,(fun z hz=>by cases hz),(by repeat (first | exact Below.refl _ _ | refine Below.alloc ?_ (by simp) _ | refine Below.setCell ?_ (by simp) _))⟩
   ·have hq3:Hid (q3<=n):=HN.out q2 d q3 (hq2.out) e3;simp only [Option.map_some,Option.getD_some,pv,ev];replace e3:=hD e3;by_cases hlt:q3 < n
    ·obtain ⟨ab,ao,u,rfl,hab,hu,hcell⟩:=(HR.out).at1 hlt;obtain ⟨x0,hx0⟩:∃ x0,bs[q3]?=some x0:=⟨bs[q3]'(by have:=HL.out;omega),List.getElem?_eq_getElem _⟩;obtain rfl:u=.int .u8 (x0:Int):=by rw [List.getElem?_map,hx0] at hu;simpa [dZ] using hu.symm
     have dge:decide (n<=q3)=false:=by simp;omega
     have hnle:¬ n<=q3:=by omega
     have hx256:=HBS.out x0 (List.mem_of_getElem? hx0);have hfp:fL bs q3=if 1 < x0 then none else some (x0 == 1,q3+1):=by unfold fL;rw [hx0];rfl
     clear hu;by_cases h1:1 < x0
     ·have d1:decide ((1:Int) < (x0:Int))=true:=by simp;omega
      rw [if_pos h1] at hfp;have ho:cY bs p=none:=by rw [hch.out,e1.out,Option.bind_some,e2.out,Option.bind_some,e3.out,Option.bind_some,hfp];rfl
      replace ho:=hD ho;clear hch hfp h1 hx0;go_wp2_with fail;refine bodyPost_ret (aZ (P:=Tryz.prog) rfl _ _ w.heap.size 83 #[.int .i64 a,.int .i64 b,.int .i64 d,.bool false,.string ⟨#[]⟩,.int .i64 0] (0,0) _ rfl (by first | exact (aK.new _ _ _).alloc _ | exact aK.new _ _ _) Tryz.underlying83 rfl (by kernel_rfl)) rfl ?_;rw [ho.out];exact ⟨⟨a,b,d,false,⟨#[]⟩,0⟩,rfl,(fun z hz=>by cases hz),(by repeat (first | exact Below.refl _ _ | refine Below.alloc ?_ (by simp) _ | refine Below.setCell ?_ (by simp) _))⟩
     ·have d1:decide ((1:Int) < (x0:Int))=false:=by simp;omega
      rw [if_neg h1] at hfp;have hf2:(x0 == 1)=((x0:Int) == 1):=by
       rcases (show x0=0\/x0=1 by omega) with rfl | rfl <;> rfl
      rw [hf2] at hfp;have e4:=hD hfp;have hq4:Hid (q3+1<=n):=hlt;clear hfp h1 hx0 hf2;go_wp2_with fail;refine (HT.out (q3+1) _ (hq4.out) (by repeat (first | exact Below.refl _ _ | refine Below.alloc ?_ (by simp) _ | refine Below.setCell ?_ (by simp) _))).mono ?_;rintro e w5 ⟨rfl,rfl⟩;rcases e5:cI bs (q3+1) with _ | ⟨t,q5⟩
      ·have ho:cY bs p=none:=by rw [hch.out,e1.out,Option.bind_some,e2.out,Option.bind_some,e3.out,Option.bind_some,e4.out,Option.bind_some,e5];rfl
       replace ho:=hD ho;clear hch e1 e2 e3 e4 e5;simp only [Option.map_none,Option.getD_none,pv,ev];go_wp2_with fail;refine bodyPost_ret (aZ (P:=Tryz.prog) rfl _ _ w.heap.size 83 #[.int .i64 a,.int .i64 b,.int .i64 d,.bool ((x0:Int) == 1),.string ⟨#[]⟩,.int .i64 0] (0,0) _ rfl (by first | exact (aK.new _ _ _).alloc _ | exact aK.new _ _ _) Tryz.underlying83 rfl (by kernel_rfl)) rfl ?_;rw [ho.out];exact ⟨⟨a,b,d,((x0:Int) == 1),⟨#[]⟩,0⟩,rfl,(fun z hz=>by cases hz),(by repeat (first | exact Below.refl _ _ | refine Below.alloc ?_ (by simp) _ | refine Below.setCell ?_ (by simp) _))⟩
      ·have hq5:Hid (q5<=n):=HX.out (q3+1) t q5 (hq4.out) e5;simp only [Option.map_some,Option.getD_some,pv,ev];replace e5:=hD e5;go_wp2_with fail;refine (HI.out q5 _ (hq5.out) (by repeat (first | exact Below.refl _ _ | refine Below.alloc ?_ (by simp) _ | refine Below.setCell ?_ (by simp) _))).mono ?_;rintro e w6 ⟨rfl,rfl⟩;rcases e6:bC bs q5 with _ | ⟨x,q6⟩
       ·have ho:cY bs p=none:=by rw [hch.out,e1.out,Option.bind_some,e2.out,Option.bind_some,e3.out,Option.bind_some,e4.out,Option.bind_some,e5.out,Option.bind_some,e6];rfl
        replace ho:=hD ho;clear hch e6;simp only [Option.map_none,Option.getD_none,pv,ev];go_wp2_with fail;refine bodyPost_ret (aZ (P:=Tryz.prog) rfl _ _ w.heap.size 83 #[.int .i64 a,.int .i64 b,.int .i64 d,.bool ((x0:Int) == 1),.string t,.int .i64 0] (0,0) _ rfl (by first | exact (aK.new _ _ _).alloc _ | exact aK.new _ _ _) Tryz.underlying83 rfl (by kernel_rfl)) rfl ?_;rw [ho.out];exact ⟨⟨a,b,d,((x0:Int) == 1),t,0⟩,rfl,(fun z hz=>by cases hz),(by repeat (first | exact Below.refl _ _ | refine Below.alloc ?_ (by simp) _ | refine Below.setCell ?_ (by simp) _))⟩
       ·have ho:cY bs p=some (⟨a,b,d,((x0:Int) == 1),t,x⟩,q6):=by rw [hch.out,e1.out,Option.bind_some,e2.out,Option.bind_some,e3.out,Option.bind_some,e4.out,Option.bind_some,e5.out,Option.bind_some,e6];rfl
        replace ho:=hD ho;clear hch e6;simp only [Option.map_some,Option.getD_some,pv,ev];go_wp2_with fail;refine bodyPost_ret (aZ (P:=Tryz.prog) rfl _ _ w.heap.size 83 #[.int .i64 a,.int .i64 b,.int .i64 d,.bool ((x0:Int) == 1),.string t,.int .i64 x] (0,0) _ rfl (by first | exact (aK.new _ _ _).alloc _ | exact aK.new _ _ _) Tryz.underlying83 rfl (by kernel_rfl)) rfl ?_;rw [ho.out];exact ⟨⟨a,b,d,((x0:Int) == 1),t,x⟩,rfl,(fun z hz=>by injection hz with hz;rw [<- hz]),(by repeat (first | exact Below.refl _ _ | refine Below.alloc ?_ (by simp) _ | refine Below.setCell ?_ (by simp) _))⟩
    ·have dge:decide (n<=q3)=true:=by simp;omega
     have hfp:fL bs q3=none:=by unfold fL;rw [List.getElem?_eq_none (by have:=HL.out;omega)];rfl
     have ho:cY bs p=none:=by rw [hch.out,e1.out,Option.bind_some,e2.out,Option.bind_some,e3.out,Option.bind_some,hfp];rfl
     replace ho:=hD ho;clear hch hfp;go_wp2_with fail;refine bodyPost_ret (aZ (P:=Tryz.prog) rfl _ _ w.heap.size 83 #[.int .i64 a,.int .i64 b,.int .i64 d,.bool false,.string ⟨#[]⟩,.int .i64 0] (0,0) _ rfl (by first | exact (aK.new _ _ _).alloc _ | exact aK.new _ _ _) Tryz.underlying83 rfl (by kernel_rfl)) rfl ?_;rw [ho.out];exact ⟨⟨a,b,d,false,⟨#[]⟩,0⟩,rfl,(fun z hz=>by cases hz),(by repeat (first | exact Below.refl _ _ | refine Below.alloc ?_ (by simp) _ | refine Below.setCell ?_ (by simp) _))⟩
structure cZ (w0 w:World) (g:Nat) (T:TypeId) (zs cs:Array Value):Prop where
 box:aK w (g+1) T cs
 out:aK w g T zs
 bel:Below w0.heap.size w0 w
 new:w0.heap.size<=g
section
variable {w0 w w':World} {g:Nat} {T:TypeId} {zs cs:Array Value}
theorem cZ.size (h:cZ w0 w g T zs cs):g+2<=w.heap.size:=h.box.lt
theorem cZ.next (h:cZ w0 w g T zs cs) (hb:Below w.heap.size w w'):cZ w0 w' g T zs cs:=
 ⟨h.box.below hb h.box.lt,h.out.below hb h.out.lt,h.bel.trans (hb.mono h.bel.size),h.new⟩
theorem cZ.put (h:cZ w0 w g T zs cs) (k:Nat) (u:Value):cZ w0 (w.setCell ⟨g+1,k,none⟩ u) g T zs (cs.setIfInBounds k u):=
 ⟨h.box.set_ k u,h.out.far (by show g≠g+1;omega) u,h.bel.setCell (by have:=h.new;show w0.heap.size<=g+1;omega) u,h.new⟩
theorem cZ.give (h:cZ w0 w g T zs cs) (k:Nat) (u:Value):cZ w0 (w.setCell ⟨g,k,none⟩ u) g T (zs.setIfInBounds k u) cs:=
 ⟨h.box.far (by show g+1≠g;omega) u,h.out.set_ k u,h.bel.setCell h.new u,h.new⟩
theorem cZ.alloc (h:cZ w0 w g T zs cs) (o:Obj):cZ w0 (w.alloc o) g T zs cs:=
 ⟨h.box.alloc o,h.out.alloc o,h.bel.alloc h.bel.size o,h.new⟩
theorem cZ.start (w:World) (T:TypeId) (zs:Array Value):cZ w ((w.alloc (.cells zs T)).alloc (.cells zs T)) w.heap.size T zs zs:=by
 refine ⟨?_,(aK.new w T zs).alloc _,((Below.refl _ w).alloc (Nat.le_refl _) _).alloc (by simp) _,Nat.le_refl _⟩;have:=aK.new (w.alloc (.cells zs T)) T zs;have e:(w.alloc (.cells zs T)).heap.size=w.heap.size+1:=by simp
 rwa [e] at this
theorem cZ.grown {v:Value} (h:cZ w0 w g T zs cs) (hg:aR w w' v v') (h1:v.ownBlock≠some g) (h2:v.ownBlock≠some (g+1)) (h3:∀ b,v.ownBlock=some b->w0.heap.size<=b):cZ w0 w' g T zs cs:=
 ⟨hg.blk h.box h2,hg.blk h.out h1,h.bel.trans (hg.below h.bel.size h3),h.new⟩
end
theorem cZ.other {T:TypeId} (h:cZ w0 w g T zs cs) {p:Addr} (hp:g+1 < p.block) (u:Value):cZ w0 (w.setCell p u) g T zs cs:=
 ⟨h.box.far (by omega) u,h.out.far (by omega) u,h.bel.setCell (by have:=h.new;omega) u,h.new⟩
theorem cZ.six {b:Nat} {T:TypeId} (h:cZ w0 w g T zs cs) (hb:g+1 < b) (u0 u1 u2 u3 u4 u5:Value):
  cZ w0 ((((((w.setCell ⟨b,0,none⟩ u0).setCell ⟨b,1,none⟩ u1).setCell ⟨b,2,none⟩ u2).setCell ⟨b,3,none⟩ u3).setCell ⟨b,4,none⟩ u4).setCell ⟨b,5,none⟩ u5) g T zs cs:=
 (((((h.other (p:=⟨b,0,none⟩) hb u0).other (p:=⟨b,1,none⟩) hb u1).other (p:=⟨b,2,none⟩) hb u2).other (p:=⟨b,3,none⟩) hb u3).other (p:=⟨b,4,none⟩) hb u4).other (p:=⟨b,5,none⟩) hb u5
theorem rO {b:Nat} (h:Below B w0 w) (hb:B<=b) (u0 u1 u2 u3 u4 u5:Value):
  Below B w0 ((((((w.setCell ⟨b,0,none⟩ u0).setCell ⟨b,1,none⟩ u1).setCell ⟨b,2,none⟩ u2).setCell ⟨b,3,none⟩ u3).setCell ⟨b,4,none⟩ u4).setCell ⟨b,5,none⟩ u5):=
 (((((h.setCell hb u0).setCell hb u1).setCell hb u2).setCell hb u3).setCell hb u4).setCell hb u5
theorem tW (w:World) {tx e':TypeId} (hk:P.underlying tx=some (.slice e')) (vals:List Value) (size m c g:Nat) (te:TypeId) (hg:g=w.heap.size) (hl:vals.length=m*size) (h1:∀ u∈vals,u.oneCell'=true):
  Src P size tx (.slice (some ⟨g,0,none⟩) m c) m vals (w.alloc (.cells vals.toArray te)):=by
 subst hg;exact bR w hk vals size m c te hl h1
theorem tZ (w:World) (b:Nat) (u0 u1 u2 u3 u4 u5:Value):((((((w.setCell ⟨b,0,none⟩ u0).setCell ⟨b,1,none⟩ u1).setCell ⟨b,2,none⟩ u2).setCell ⟨b,3,none⟩ u3).setCell ⟨b,4,none⟩ u4).setCell ⟨b,5,none⟩ u5).heap.size=w.heap.size:=by simp [World.setCell]
theorem pI (h:w=w'):Below B w w':=by subst h;exact Below.refl B w
theorem vE {row:Option Nat} (h:w0.grownBy w row) (hb:Below w.heap.size w w'):w0.grownBy w' row:=
 ⟨hb.os.trans h.os,hb.tape.trans h.tape,hb.output.trans h.output,Nat.le_trans h.size hb.size,fun i hi hne=>(hb.block i (Nat.lt_of_lt_of_le hi h.size)).trans (h.block i hi hne)⟩
theorem vD {row:Option Nat} {v:Value} (h:w0.grownBy w row) (hg:aR w w' v v') (hv:∀ g,v.ownBlock=some g->w0.heap.size<=g):w0.grownBy w' row:=by
 refine ⟨hg.grown.os.trans h.os,hg.grown.tape.trans h.tape,hg.grown.output.trans h.output,Nat.le_trans h.size hg.grown.size,fun i hi hne2=>(hg.grown.block i (Nat.lt_of_lt_of_le hi h.size) (fun e=>?_)).trans (h.block i hi hne2)⟩;have:=hv i e.symm;omega
structure xW (w0 wL wr:World) (g:Nat) (f:Nat->Option (bG × Nat)) (zs:Array Value) (cs:Value->Array Value) (q m i:Nat) (p:Nat) (xs:List bG) (v:Value):Prop where
 le:i<=m
 len:xs.length=i
 st:bX f i q=some (xs,p)
 own:wr.ownsRow wL.heap.size 83 6 v i (xs.flatMap bG.vals)
 fill:cZ w0 wr g 39 zs (cs v)
 gr:wL.grownBy wr (some (g+1))
 low:w0.heap.size<=wL.heap.size
theorem xW.step {W3 w4:World} {p2:Nat} {cs:Value->Array Value} {v v2:Value} {a:bG} (h:xW w0 wL wr g f zs cs q m i p xs v) (him:i < m) (hf:f p=some (a,p2))
  (hcs:(cs v).setIfInBounds 4 v2=cs v2) (hb:Below wr.heap.size wr W3) (hg:aR (W3.alloc o) w4 v v2) (hown:w4.ownsRow wL.heap.size 83 6 v2 (i+1) (xs.flatMap bG.vals++a.vals)):
  xW w0 wL (w4.setCell ⟨g+1,4,none⟩ v2) g f zs cs q m (i+1) p2 (xs++[a]) v2:=by
 have hgr1:wL.grownBy (W3.alloc o) (some (g+1)):=eW (vE h.gr hb) o;have hg1:v.ownBlock≠some g:=aX h.own h.fill.out (by decide);have hg2:v.ownBlock≠some (g+1):=aX h.own h.fill.box (by decide);have hge:∀ b,v.ownBlock=some b->wL.heap.size<=b:=fun b hv=>iY h.own hv;have hF:cZ w0 w4 g 39 zs (cs v):=((h.fill.next hb).alloc o).grown hg hg1 hg2 (fun b hv=>Nat.le_trans h.low (hge b hv));have hg3:v2.ownBlock≠some (g+1):=aX hown hF.box (by decide);refine ⟨him,by rw [List.length_append,h.len];rfl,?_,?_,?_,aW (vD hgr1 hg hge) (.inl rfl) v2,h.low⟩
 ·rw [dC,h.st];show (f p).map _=_;rw [hf];rfl
 ·rw [List.flatMap_append,List.flatMap_cons,List.flatMap_nil,List.append_nil];exact hown.kept (aW (World.grownBy.refl w4 (some (g+1))) (.inl rfl) v2) (.inr hg3)
 ·rw [<- hcs];exact hF.put 4 v2
theorem xW.fails {cs:Value->Array Value} {v:Value} (h:xW w0 wL wr g f zs cs q m i p xs v) (him:i < m) (hf:f p=none):bX f m q=none:=by
 refine eX m (i+1) q him ?_;rw [dC,h.st];show (f p).map _=_;rw [hf];rfl
end
end Go.Proofs.YtkgpoimmniojjaaGreat
