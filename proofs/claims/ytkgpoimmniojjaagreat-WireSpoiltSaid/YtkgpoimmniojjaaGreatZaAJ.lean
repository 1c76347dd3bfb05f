/- No condition. -/
import Derived.Test.YtkgpoimmniojjaaGreatZaAF
import Derived.Test.YtkgpoimmniojjaaGreatZaAD
import Derived.Deep.LoopGhost
namespace Go.Proofs.YtkgpoimmniojjaaGreat
set_option linter.unusedVariables false
set_option linter.unusedSimpArgs false
set_option maxRecDepth 100000
set_option maxHeartbeats 16000000
section
open Go.RowKit
variable {M N K n2 n B co ct m gk L n1 c1 c2 n4 g:Nat} {w w' wr:World} {ss lo:List Int} {Ao At A1 A2 A4 A:Option Addr} {z0 x:Int} {s3:ByteArray}
structure dQ (w:World) (B K M N:Nat) (z0:Int) (A1:Option Addr) (n1 c1:Nat) (A2:Option Addr) (n2 c2:Nat) (s3:ByteArray) (A4:Option Addr) (n4 c4:Nat):Prop where
 i0:aO z0
 v1:V w B (.sl M 3 [.int]) (.slice A1 n1 c1)
 v2:V w B (.sl M 3 [.int]) (.slice A2 n2 c2)
 s:s3.size<=K
 v4:V w B (.sl N 83 (aQ K)) (.slice A4 n4 c4)
theorem dQ.bel {c4:Nat} (h:dQ w B K M N z0 A1 n1 c1 A2 n2 c2 s3 A4 n4 c4) (hb:Below B w w'):dQ w' B K M N z0 A1 n1 c1 A2 n2 c2 s3 A4 n4 c4:=
 ⟨h.i0,h.v1.bel hb,h.v2.bel hb,h.s,h.v4.bel hb⟩
theorem dQ.more {B':Nat} {c4:Nat} (h:dQ w B K M N z0 A1 n1 c1 A2 n2 c2 s3 A4 n4 c4) (hB:B<=B'):dQ w B' K M N z0 A1 n1 c1 A2 n2 c2 s3 A4 n4 c4:=
 ⟨h.i0,h.v1.more hB,h.v2.more hB,h.s,h.v4.more hB⟩
theorem dQ.zero (w:World) (B K M N:Nat):dQ w B K M N 0 none 0 0 none 0 0 ⟨#[]⟩ none 0 0:=⟨by unfold aO;omega,V.nil _ _ _ _ _,V.nil _ _ _ _ _,Nat.zero_le _,V.nil _ _ _ _ _⟩
def BR (w:World) (A:Option Addr) (n:Nat) (ss:List Int):Prop:=ss.length=n/\∀ (k b off:Nat) (z:Int),k < n->A=some ⟨b,off,none⟩->w.cell? ⟨b,off+k*5,none⟩=some (.int .i64 z)->z∈ss
theorem qN {c:Nat} (h:V w B (.sl L 39 (cL K M N 3 83)) (.slice A n c)):∃ ss,BR w A n ss:=by
 have hx:∀ k:Nat,∃ z:Int,k < n->∃ b off,A=some ⟨b,off,none⟩/\w.cell? ⟨b,off+k*5,none⟩=some (.int .i64 z):=fun k=>by
  by_cases hk:k < n
  ·obtain ⟨b,off,z0,-,-,-,-,-,-,-,-,-,-,e,-,e0,-⟩:=h.com_at hk;exact ⟨z0,fun _=>⟨b,off,e,e0⟩⟩
  ·exact ⟨0,fun h=>absurd h hk⟩
 obtain ⟨f,hf⟩:=Classical.axiomOfChoice hx;refine ⟨(List.range n).map f,by simp,fun k b off z hk hA hz=>?_⟩;obtain ⟨b',off',e1,e2⟩:=hf k hk;rw [hA] at e1;injection e1 with e1;injection e1 with e3 e4;subst e3 e4;rw [hz] at e2;injection e2 with e2;injection e2 with _ e2;rw [e2];exact List.mem_map.2 ⟨k,List.mem_range.2 hk,rfl⟩
theorem BR.bel (h:BR w A n ss) (hA:∀ b off,A=some ⟨b,off,none⟩->0 < n->b < B) (hb:Below B w w'):BR w' A n ss:=
 ⟨h.1,fun k b off z hk e hz=>h.2 k b off z hk e (by rw [<- hz];exact (hb.cell (p:=⟨b,off+k*5,none⟩) (hA b off e (by omega))).symm)⟩
def pT (w:World) (K M N:Nat) (ss:List Int) (x:Int) (w':World) (v:Value):Prop:=
 ∃ z0 A1 n1 c1 A2 n2 c2 s3 A4 n4 c4 b,v=.tuple #[.agg #[.int .i64 z0,.slice A1 n1 c1,.slice A2 n2 c2,.string s3,.slice A4 n4 c4],.bool b]/\dQ w' w'.heap.size K M N z0 A1 n1 c1 A2 n2 c2 s3 A4 n4 c4/\(b=true->x∈ss)
theorem aK.val5 {t:TypeId} {a b c d e:Value} (h:aK w g t #[a,b,c,d,e]) (a' b' c' d' e':Value):aK (((((w.setCell ⟨g,0,none⟩ a').setCell ⟨g,1,none⟩ b').setCell ⟨g,2,none⟩ c').setCell ⟨g,3,none⟩ d').setCell ⟨g,4,none⟩ e') g t #[a',b',c',d',e']:=
 ((((h.set_ 0 a').set_ 1 b').set_ 2 c').set_ 3 d').set_ 4 e'
theorem iF {w2:World} (h:Below w.heap.size w w2) (hg:w.heap.size<=g) (a b c d e:Value):Below w.heap.size w (((((w2.setCell ⟨g,0,none⟩ a).setCell ⟨g,1,none⟩ b).setCell ⟨g,2,none⟩ c).setCell ⟨g,3,none⟩ d).setCell ⟨g,4,none⟩ e):=
 ((((h.setCell hg a).setCell hg b).setCell hg c).setCell hg d).setCell hg e
theorem vK (A:Option Addr) (n c:Nat) (ss:List Int) (x:Int) (w:World) (h:V w w.heap.size (.sl L 39 (cL K M N 3 83)) (.slice A n c)) (hL:L<=1000000000) (hss:BR w A n ss):
  Calls Tryz.prog 61 #[.slice A n c,.int .i64 x] w (aV w (pT w K M N ss x)):=by
 obtain ⟨W,hW⟩:=nm (w.alloc (.cells #[.int .i64 0,.slice none 0 0,.slice none 0 0,.string ⟨#[]⟩,.slice none 0 0] 39));have HX0:=bk hW;have HBW:=bw hW;have H:=hD (h.bel HBW.out);have hn:=h.len_le;have HSS:=hD (hss.bel (B:=w.heap.size) (fun b off e h0=>by
  obtain ⟨b',off',e1,hb,-⟩:=h.at_ (k:=0) h0 (by simp);rw [e1] at e;injection e with e;injection e with e2 _;omega) HBW.out)
 clear h hss;go_enter Tryz.func61,Tryz.ntmps61;go_wp2_with fail;have HW:=hD hW;clear hW;go_loopw [6] (fun i wr=>∃ (k:Nat),i=.int .i64 (k:Int)/\k<=n/\Hid (wr=W)) (fun i _=>n - (intOf i).toNat)
 case atStart=>exact ⟨0,rfl,Nat.zero_le _,rfl⟩
 case round=>
  obtain ⟨k,rfl,hk,HWR⟩:=hrel;obtain rfl:wr=W:=HWR.out;obtain ⟨x0,x1,x2,x3,x4⟩:=HX0.out.c5;obtain ⟨q0,q1,q2,q3,q4⟩:=HX0.out.f5;by_cases hlt:k < n
  ·obtain ⟨b,off,z0,A1,n1,c1,A2,n2,c2,s3,A4,n4,c4,rfl,hb,e0,e1,e2,e3,e4,i0,v1,v2,i3,v4⟩:=H.out.com_at hlt;have HC:Hid (dQ wr w.heap.size K M N z0 A1 n1 c1 A2 n2 c2 s3 A4 n4 c4):=⟨i0,v1,v2,i3,v4⟩;clear hb i0 v1 v2 i3 v4;by_cases hx:z0=x
   ·subst hx;have HM:Hid (z0∈ss):=HSS.out.2 k b off z0 hlt rfl e0;go_wp2_with fail;refine bodyPost_ret (dK (P:=Tryz.prog) rfl _ _ w.heap.size 39 #[.int .i64 z0,.slice A1 n1 c1,.slice A2 n2 c2,.string s3,.slice A4 n4 c4] (0,0) _ rfl (HX0.out.val5 (.int .i64 z0) (.slice A1 n1 c1) (.slice A2 n2 c2) (.string s3) (.slice A4 n4 c4)) Tryz.underlying39 rfl (by kernel_rfl)) rfl ?_;have hb5:=iF HBW.out (Nat.le_refl _) (.int .i64 z0) (.slice A1 n1 c1) (.slice A2 n2 c2) (.string s3) (.slice A4 n4 c4);refine ⟨hb5,_,rfl,z0,A1,n1,c1,A2,n2,c2,s3,A4,n4,c4,true,rfl,(HC.out.bel ?_).more hb5.size,fun _=>HM.out⟩;exact ((((((Below.refl _ _).setCell (p:=⟨w.heap.size,0,none⟩) (Nat.le_refl _) _).setCell (p:=⟨w.heap.size,1,none⟩) (Nat.le_refl _) _).setCell (p:=⟨w.heap.size,2,none⟩) (Nat.le_refl _) _).setCell (p:=⟨w.heap.size,3,none⟩) (Nat.le_refl _) _).setCell (p:=⟨w.heap.size,4,none⟩) (Nat.le_refl _) _)
   ·have d:(z0 == x)=false:=by simpa using hx
    go_wp2_with fail;go_roundw
    case rel=>exact ⟨k+1,by go_num,by omega,by first | rfl | trivial⟩
    case measure=>simp [intOf];omega
  ·go_wp2_with fail;refine bodyPost_ret (dK (P:=Tryz.prog) rfl _ _ w.heap.size 39 #[.int .i64 0,.slice none 0 0,.slice none 0 0,.string ⟨#[]⟩,.slice none 0 0] (0,0) _ rfl (HX0.out.val5 (.int .i64 0) (.slice none 0 0) (.slice none 0 0) (.string ⟨#[]⟩) (.slice none 0 0)) Tryz.underlying39 rfl (by kernel_rfl)) rfl ?_;exact ⟨iF HBW.out (Nat.le_refl _) _ _ _ _ _,_,rfl,0,none,0,0,none,0,0,⟨#[]⟩,none,0,0,false,rfl,dQ.zero _ _ _ _ _,fun h=>by cases h⟩
def tC (ss l:List Int):Nat:=(ss.filter fun s=> !decide (s∈l)).length
theorem AR (ss l:List Int):tC ss l<=ss.length:=List.length_filter_le _ _
theorem yE {l l':List Int} (hx:x∈ss) (hn:x ∉ l) (h:∀ y,y∈l'↔y=x\/y∈l):tC ss l' < tC ss l:=by
 have key:∀ t:List Int,(t.filter fun s=> !decide (s∈l')).length<=(t.filter fun s=> !decide (s∈l)).length/\(x∈t->(t.filter fun s=> !decide (s∈l')).length < (t.filter fun s=> !decide (s∈l)).length):=fun t=>by
  induction t with
  | nil=>exact ⟨Nat.le_refl _,fun h=>by cases h⟩
  | cons y t ih=>
   obtain ⟨h1,h2⟩:=ih;simp only [List.filter_cons];by_cases e:y=x
   ·subst e;have q1:(!decide (y∈l'))=false:=by simp [h]
    have q2:(!decide (y∈l))=true:=by simpa using hn
    rw [q1,q2];simp;omega
   ·have q:(!decide (y∈l'))=(!decide (y∈l)):=by
     have:(y∈l')↔(y∈l):=by rw [h];simp [e]
     rw [decide_eq_decide.2 this]
    rw [q]
    split
    ·simp;refine ⟨h1,fun h3=>?_⟩;rcases h3 with h3 | h3
     ·exact absurd h3.symm e
     ·exact h2 h3
    ·refine ⟨h1,fun h3=>?_⟩;rcases List.mem_cons.1 h3 with h3 | h3
     ·exact absurd h3.symm e
     ·exact h2 h3
 exact (key ss).2 hx
structure AJ (w wr:World) (ss:List Int) (n n2 M:Nat) (Ao:Option Addr) (co:Nat) (lo:List Int) (At:Option Addr) (ct m:Nat) (gk:Nat):Prop where
 il:IL wr wr.heap.size Ao co lo
 own:aJ wr w.heap.size 3 [.int] (.slice At m ct) m
 bel:Below w.heap.size w wr
 len:lo.length+tC ss lo<=n
 sum:m+M*tC ss lo<=n2+M*n
 apart:∀ ad,Ao=some ad->0 < lo.length->(Value.slice At m ct).ownBlock≠some ad.block
 gk:gk=tC ss lo*(M+1)+m
 ne:0 < lo.length\/Ao=none
theorem jL (A:Option Addr) (m m' c c':Nat):(Value.slice A m c).ownBlock=(Value.slice A m' c').ownBlock:=by cases A <;> rfl
theorem AJ.up (h:AJ w wr ss n n2 M Ao co lo At ct m gk) (hb:Below wr.heap.size wr w'):AJ w w' ss n n2 M Ao co lo At ct m gk:=
 ⟨h.il.up hb,h.own.up hb,aB h.bel hb,h.len,h.sum,h.apart,h.gk,h.ne⟩
theorem AJ.pop (h:AJ w wr ss n n2 M Ao co lo At ct m gk) (hm:0 < m):AJ w wr ss n n2 M Ao co lo At ct (m - 1) (gk - 1):=
 ⟨h.il,h.own.take (by omega),h.bel,h.len,by have:=h.sum;omega,fun ad e h0=>by rw [jL At (m - 1) m ct ct];exact h.apart ad e h0,by have:=h.gk;omega,h.ne⟩
theorem AJ.gk_pos (h:AJ w wr ss n n2 M Ao co lo At ct m gk) (hm:0 < m):gk - 1 < gk:=by have:=h.gk;omega
theorem AJ.push {w1 w5 w6:World} {A':Option Addr} {c':Nat} {lo':List Int} {k1:Nat} {A6:Option Addr} {c6:Nat}
  (h:AJ w w1 ss n n2 M Ao co lo At ct m gk) (hx:x∈ss) (hxl:x ∉ lo) (hp:IL w5 w5.heap.size A' c' lo') (hm:∀ y,y∈lo'↔y=x\/y∈lo) (hl:lo'.length<=lo.length+1) (hA:A'=Ao\/∀ ad,A'=some ad->w1.heap.size<=ad.block)
  (hb5:Below w1.heap.size w1 w5) (hk:k1<=M) (ho:aJ w6 w.heap.size 3 [.int] (.slice A6 (m+k1) c6) (m+k1)) (hg:aR w5 w6 (.slice At m ct) (.slice A6 (m+k1) c6)) (hb6:Below w.heap.size w5 w6):
  AJ w w6 ss n n2 M A' c' lo' A6 c6 (m+k1) (tC ss lo'*(M+1)+(m+k1))/\tC ss lo'*(M+1)+(m+k1) < gk+M+1:=by
 have hu:=yE hx hxl hm;have hpos:0 < lo'.length:=by
  have:x∈lo':=(hm x).2 (.inl rfl);exact List.length_pos_of_mem this
 have hne:∀ ad,A'=some ad->0 < lo'.length->(Value.slice At m ct).ownBlock≠some ad.block:=fun ad e _=>by
  rcases hA with rfl | hA
  ·rcases h.ne with hlo | rfl
   ·exact h.apart ad e hlo
   ·cases e
  ·intro e2;have h1:=h.own.lt _ e2;have h2:=hA ad e;omega
 have hmul:M*(tC ss lo'+1)<=M*tC ss lo:=Nat.mul_le_mul_left _ hu;have hmul2:(tC ss lo'+1)*(M+1)<=tC ss lo*(M+1):=Nat.mul_le_mul_right _ hu;have hsum:=h.sum;have hgk:=h.gk;rw [Nat.mul_add,Nat.mul_one] at hmul;rw [Nat.add_mul,Nat.one_mul] at hmul2;refine ⟨⟨(hp.grows (Nat.le_refl _) hg hne).more hg.size,ho,(aB h.bel hb5).trans hb6,?_,by omega,fun ad e _=>?_,rfl,.inl hpos⟩,by omega⟩
 ·have:=h.len;omega
 ·intro e2;rcases hg.own _ e2 with h1 | h1
  ·exact hne ad e hpos h1
  ·obtain ⟨ad',e3,h3,-⟩:=hp.rd.2 hpos;rw [e] at e3;injection e3 with e3;subst e3;omega
theorem gN {N2:Nat} (A:Option Addr) (n c:Nat) (A2:Option Addr) (n2 c2:Nat) (w:World) (h:V w w.heap.size (.sl L 39 (cL K M N 3 83)) (.slice A n c)) (hL:L<=1000) (hM:M<=1000) (h2:V w w.heap.size (.sl N2 3 [.int]) (.slice A2 n2 c2)) (hN2:N2<=1000):
  Calls Tryz.prog 65 #[.slice A n c,.slice A2 n2 c2] w (aV w fun w' v=>V w' w'.heap.size (.sl L 3 [.int]) v):=by
 obtain ⟨ss,hss⟩:=qN h;have hn:=h.len_le;have hn2:=h2.len_le;have HFC:Hid (∀ x w',Below w.heap.size w w'->Calls Tryz.prog 61 #[.slice A n c,.int .i64 x] w' (aV w' (pT w' K M N ss x))):=fun x w' hb=>vK A n c ss x w' (h.up hb) (by omega) (hss.bel (B:=w.heap.size) (fun b off e h0=>by
  obtain ⟨b',off',e1,hb,-⟩:=h.at_ (k:=0) h0 (by simp);rw [e1] at e;injection e with e;injection e with e2 _;omega) hb)
 have HSL:Hid (ss.length=n):=hss.1;have H2:=hD h2;clear h hss h2;go_enter Tryz.func65,Tryz.ntmps65;go_wp2_with (at_builtin;refine pV kI rfl rfl w.heap.size _ _ rfl (aJ.empty w _ _ w.heap.size (Nat.le_refl _)) N2 w.heap.size _ A2 n2 c2 rfl (H2.out.bel ((Below.refl _ w).alloc (Nat.le_refl _) _)) (by simp) (by omega) (by simp) ?_);intro A3 c3 w3 hown3 hg3 hb3;have HO3:Hid (aJ w3 w.heap.size 3 [.int] (.slice A3 n2 c3) n2):=by unfold Hid;simpa using hown3
 have HB3:Hid (Below w.heap.size w w3):=((Below.refl _ w).alloc (Nat.le_refl _) _).trans hb3;clear hown3 hg3 hb3;go_wp2_with fail
 go_loopg [5,6] (tC ss []*(M+1)+n2) (fun gk o t wr=>∃ (Ao:Option Addr) (co:Nat) (lo:List Int) (At:Option Addr) (ct m:Nat),o=.slice Ao lo.length co/\t=.slice At m ct/\Hid (AJ w wr ss n n2 M Ao co lo At ct m gk))
 case atStart=>
  refine ⟨none,0,[],A3,c3,n2,rfl,rfl,IL.nil _ _,HO3.out,HB3.out,?_,?_,(fun ad e=>by cases e),rfl,.inr rfl⟩
  ·have:=AR ss [];have:=HSL.out;simp;omega
  ·have h1:=AR ss [];rw [HSL.out] at h1;have:M*tC ss []<=M*n:=Nat.mul_le_mul_left _ h1;omega
 case round=>
  obtain ⟨Ao,co,lo,At,ct,m,rfl,rfl,HR⟩:=hrel;obtain ⟨no,hno⟩:=nm lo.length;have HNO:=hD hno;have hmb:m<=1001000:=by
   have h1:=HR.out.sum;have h2:M*n<=1000*1000:=Nat.mul_le_mul hM (by omega);omega
  have hnob:no<=1000:=by have h1:=HR.out.len;omega
  rw [hno];clear hno;rcases Nat.eq_zero_or_pos m with rfl | h0
  ·have HE:=hD (HR.out.il.v (n:=L) (by have:=HR.out.len;omega));rw [HNO.out] at HE;have HB:=hD HR.out.bel;go_wp2_with fail;go_ret;exact ⟨HB.out,_,rfl,HE.out⟩
  ·obtain ⟨b,off,x,rfl,hb,e0,i0⟩:=(HR.out.own.v_ (N:=m) (Nat.le_refl _)).int_at (k:=m - 1) (by omega);have HI:=hD i0;have hct:m<=ct:=(HR.out.own.v_ (N:=m) (Nat.le_refl _)).cap_le;clear hb i0;go_wp2_with fail;refine (HFC.out x _ HR.out.bel).mono ?_;rintro e w1 ⟨hb1,v,rfl,z0,B1,k1,d1,B2,k2,d2,s3,B4,k4,d4,ok,rfl,hc,hok⟩;obtain ⟨W1,hW1⟩:=nm (w1.alloc (.cells #[.int .i64 z0,.slice B1 k1 d1,.slice B2 k2 d2,.string s3,.slice B4 k4 d4] 39));have HKX:=bk hW1;have HB1W:Hid (Below wr.heap.size wr W1):=by subst hW1;exact bK hb1 _
   have HP:=hD ((HR.out.up HB1W.out).pop h0);have HG:=hD (HR.out.gk_pos h0);have HV1:Hid (V W1 w1.heap.size (.sl M 3 [.int]) (.slice B1 k1 d1)):=by subst hW1;exact hc.v1.bel ((Below.refl _ w1).alloc (Nat.le_refl _) _)
   have HZ1:Hid (w1.heap.size < W1.heap.size):=HKX.out.lt;have hk1:=hc.v1.len_le;have HOK:=hD hok;have HW1:=hD hW1;clear hb1 hc hok hW1 e0
   cases ok with
   | false=>
    go_wp2_with fail;rw [HW1.out]
    go_roundg (gk - 1)
    case measure=>exact HG.out
    case rel=>exact ⟨Ao,co,lo,some ⟨b,off,none⟩,ct,m - 1,by rw [HNO.out],rfl,HP.out⟩
   | true=>
    have HXS:Hid (x∈ss):=HOK.out rfl;have HHC:Hid (Calls Tryz.prog 95 #[.slice Ao no co,.int .i64 x] W1 (Is W1 (.bool (decide (x∈lo))))):=by
     have:=jP Ao co lo x W1 HP.out.il (by rw [HNO.out];omega);rwa [HNO.out] at this
    by_cases hxl:x∈lo
    ·have HD:Hid (decide (x∈lo)=true):=decide_eq_true hxl;clear hxl;go_wp2_with fail;rw [HW1.out];refine (HHC.out).mono ?_;rintro e w2 ⟨rfl,rfl⟩;rw [HD.out];go_wp2_with fail
     go_roundg (gk - 1)
     case measure=>exact HG.out
     case rel=>exact ⟨Ao,co,lo,some ⟨b,off,none⟩,ct,m - 1,by rw [HNO.out],rfl,HP.out⟩
    ·have HD:Hid (decide (x∈lo)=false):=decide_eq_false hxl;have HXL:=hD hxl;have HPC:Hid (Calls Tryz.prog 63 #[.slice Ao no co,.int .i64 x] W1 (aV W1 (lS W1 Ao lo x))):=by
      have:=yO Ao co lo x W1 HP.out.il (by rw [HNO.out];omega) HI.out;rwa [HNO.out] at this
     clear hxl;go_wp2_with fail;rw [HW1.out];refine (HHC.out).mono ?_;rintro e w2 ⟨rfl,rfl⟩;rw [HD.out];go_wp2_with fail;refine (HPC.out).mono ?_;rintro e w5 ⟨hb5,v,rfl,A',c',lo',rfl,hil,hmem,hlen,hA⟩;obtain ⟨no',hno'⟩:∃ y,lo'.length=y:=⟨_,rfl⟩;have HNO':=hD hno';have hnb':no'<=1001:=by have:=HNO.out;omega
     have HIL:=hD hil;have HMEM:=hD hmem;have HLEN:=hD hlen;have HAA:=hD hA;have HB5:=hD hb5;have HK5:=hD (HKX.out.below hb5 HKX.out.lt);have HV5:Hid (V w5 w1.heap.size (.sl M 3 [.int]) (.slice B1 k1 d1)):=HV1.out.bel (hb5.mono (Nat.le_of_lt HZ1.out));have HZ5:Hid (w1.heap.size<=w5.heap.size):=Nat.le_trans (Nat.le_of_lt HZ1.out) hb5.size;have HBW5:=hD (aB HP.out.bel hb5);have HZW5:Hid (w.heap.size<=w5.heap.size):=HBW5.out.size;have HO5:Hid (aJ w5 w.heap.size 3 [.int] (.slice (some ⟨b,off,none⟩) (m - 1) ct) (m - 1)):=HP.out.own.up hb5;have y1:=HK5.out.cell 1;simp at y1;rw [hno'];clear hno' hil hmem hlen hA hb5;go_wp2_with (at_builtin;refine pV kI rfl rfl w.heap.size (.slice (some ⟨b,off,none⟩) (m - 1) ct) (m - 1) rfl HO5.out M w1.heap.size _ B1 k1 d1 rfl HV5.out HZ5.out (by omega) HZW5.out ?_);intro A6 c6 w6 hown6 hg6 hb6;have HQ:=hD (HP.out.push HXS.out HXL.out HIL.out HMEM.out HLEN.out HAA.out HB5.out hk1 hown6 hg6 hb6);have HGQ:Hid (tC ss lo'*(M+1)+(m - 1+k1) < gk):=by
      have h1:=HQ.out.2;have h2:=yE HXS.out HXL.out HMEM.out;have h3:(tC ss lo'+1)*(M+1)<=tC ss lo*(M+1):=Nat.mul_le_mul_right _ h2;rw [Nat.add_mul,Nat.one_mul] at h3;have h4:=HR.out.gk;unfold Hid;omega
     clear hown6 hg6 hb6;go_wp2_with fail
     go_roundg (tC ss lo'*(M+1)+(m - 1+k1))
     case measure=>exact HGQ.out
     case rel=>exact ⟨A',c',lo',A6,c6,m - 1+k1,by rw [HNO'.out],rfl,HQ.out.1⟩
theorem iX (A:Option Addr) (n c:Nat) (x:Int) (w:World) (h:V w w.heap.size (.sl N 3 [.int]) (.slice A n c)) (hN:N<=1000000000):
  Calls Tryz.prog 68 #[.slice A n c,.int .i64 x] w (fun e w'=>∃ z,e=.returned (.int .i64 z)/\aO z/\w=w'):=by
 have hn:=h.len_le;have H:=hD h;clear h;rcases Nat.eq_zero_or_pos n with rfl | h0
 ·go_enter Tryz.func68,Tryz.ntmps68;go_wp2_with fail;go_ret;exact ⟨0,rfl,by unfold aO;omega,rfl⟩
 ·have hb:=gA x n;obtain ⟨q,hq⟩:∃ q:Nat,nJ x n=(q:Int):=⟨(nJ x n).toNat,by omega⟩;have hqn:q < n:=by omega
  obtain ⟨b,off,z,rfl,-,e0,i0⟩:=H.out.int_at hqn;have HC:Hid (∀ w',Calls Tryz.prog 9 #[.int .i64 x,.int .i64 (n:Int)] w' (Is w' (.int .i64 (q:Int)))):=fun w'=>hq ▸ dM x n w' (by omega);have HI:=hD i0;clear hq hb i0;go_enter Tryz.func68,Tryz.ntmps68;go_wp2_with fail;refine (HC.out _).mono ?_;rintro e w1 ⟨rfl,rfl⟩;go_wp2_with fail;go_ret;exact ⟨z,rfl,HI.out,rfl⟩
theorem lM (A:Option Addr) (n c:Nat) (kd:Int) (w:World) (h:V w w.heap.size (.sl N 154 (dD K M 152)) (.slice A n c)) (hN:N<=1000000000):
  Calls Tryz.prog 67 #[.agg #[.slice A n c],.int .i64 kd] w (aV w fun w' v=>V w' w'.heap.size (.sl N 3 [.int]) v):=by
 obtain ⟨W,hW⟩:=nm (w.alloc (.cells #[.slice A n c] 71));have HX0:=bk hW;have HBW:=bw hW;have HC:Hid (∀ x w',Below W.heap.size W w'->Calls Tryz.prog 69 #[.agg #[.slice A n c],.int .i64 x] w' (aV w' jC)):=fun x w' hb=>jA A n c x w' (h.up (aB HBW.out hb)) hN;have H:=hD (h.bel HBW.out);have hn:=h.len_le;clear h;go_enter Tryz.func67,Tryz.ntmps67;go_wp2_with fail;have HW:=hD hW;clear hW;go_loopw [5,6] (fun o i wr=>∃ (k m:Nat) (A':Option Addr) (c':Nat),k<=n/\m<=k/\i=.int .i64 (k:Int)/\o=.slice A' m c'/\Hid (aJ wr W.heap.size 3 [.int] (.slice A' m c') m)/\Hid (Below W.heap.size W wr)) (fun _ i _=>n - (intOf i).toNat)
 case atStart=>exact ⟨0,0,none,0,Nat.zero_le _,Nat.zero_le _,rfl,rfl,aJ.nil _ _ _ _,Below.refl _ _⟩
 case round=>
  obtain ⟨k,m,A',c',hk,hm,rfl,rfl,HO,HB⟩:=hrel;have HB2:=hD (HBW.out.trans (HB.out.mono HBW.out.size));have HY0:=hD (HX0.out.below HB.out HX0.out.lt);have x0:=HY0.out.c1;by_cases hlt:k < n
  ·obtain ⟨b,off,z0,z1,A2,n2,c2,rfl,hb,e0,e1,e2,i0,i1,hn2,hc2,hv2⟩:=(H.out.bel (HB.out.mono HBW.out.size)).slot_at hlt;have HF0:=hD (aH e0);have HX:=hD (aH x0);have HK:Hid (∀ w',Below wr.heap.size wr w'->w'.cell? ⟨w.heap.size,0,none⟩=some (.slice (some ⟨b,off,none⟩) n c)/\w'.cell? ⟨b,off+k*3,none⟩=some (.int .i64 z0)/\w'.cell? ⟨b,off+k*3+1,none⟩=some (.int .i64 z1)):=fun w' hb'=>⟨aH x0 ⟨w',hb'⟩,aH e0 ⟨w',hb'⟩,aH e1 ⟨w',hb'⟩⟩;have B0:Hid (Below wr.heap.size wr wr.drew):=aN (Below.refl _ wr) 1;have HCR:Hid (∀ x w',Below wr.heap.size wr w'->Calls Tryz.prog 69 #[.agg #[.slice (some ⟨b,off,none⟩) n c],.int .i64 x] w' (aV w' jC)):=fun x w' hb'=>HC.out x w' (aB HB.out hb');have HEND:Hid (∀ w',Below wr.heap.size wr w'->aJ w' W.heap.size 3 [.int] (.slice A' m c') m/\Below W.heap.size W w'/\W.heap.size<=w'.heap.size):=fun w' hb'=>⟨HO.out.up hb',aB HB.out hb',(aB HB.out hb').size⟩;clear hb i1 hv2 hn2 hc2 e2;by_cases q1:z1=1
   ·subst q1;by_cases q2:kd=0
    ·subst q2;go_wp2_with fail;go_quiet (fail);have HOq:=hD (HO.out.drewN nq);have HBq:Hid (Below W.heap.size W (wr.drewN nq)):=aN HB.out nq;have HZq:Hid (W.heap.size<=(wr.drewN nq).heap.size):=HB.out.size;go_wp2_with (at_builtin;refine p1 kI rfl rfl W.heap.size (.slice A' m c') m rfl HOq.out 3 _ 1 1 rfl rfl rfl (eE (by first | assumption | (unfold aO;omega))) (by omega) HZq.out ?_);intro A3 c3 w3 hown3 hg3 hb3;have HO3:=hD hown3;have HB3:=hD (HBq.out.trans hb3);clear hown3 hg3 hb3;go_wp2_with fail;go_roundw
     case rel=>exact ⟨k+1,m+1,A3,c3,by omega,by omega,by go_num,rfl,HO3,HB3⟩
     case measure=>simp [intOf];omega
    ·have q3:(kd == 0)=false:=by simpa using q2
     have fx0:=aH x0;have fe0:=aH e0;have fe1:=aH e1;go_wp2_with fail;refine fW 18 (by kernel_rfl) (by kernel_rfl) (by kernel_rfl) ?_;simp only [List.take_succ_cons,List.take_zero,List.drop_succ_cons,List.drop_zero]
     repeat (go_big_quiet_step (fail))
     refine wpQuiet_nil ?_;refine iZ rfl 69 _ _ rfl Tryz.func69 rfl (by kernel_rfl) #[.agg #[.slice (some ⟨b,off,none⟩) n c],.int .i64 z0] (by simp [Act.eval]) (fun v=>∃ z,v=.int .i64 z/\aO z) ⟨_,0,rfl,by unfold aO;omega⟩ (fun x=>(HCR.out z0 x.nx x.bel).mono fun e w6 ⟨hb6,v6,he,z6,hv6,hz6⟩=>⟨v6,he,⟨z6,hv6,hz6⟩,hb6⟩) ?_;rintro v6 ⟨z6,rfl,hz6⟩;simp only [sP]
     repeat (go_big_quiet_step (fail))
     refine wpQuiet_nil ?_;intro w5 hw5;obtain ⟨⟨w5,hb5⟩,rfl⟩:=hw5;have HO5:=hD (HEND.out w5 hb5).1;have HB5:=hD (HEND.out w5 hb5).2.1;have HZ5:=hD (HEND.out w5 hb5).2.2;obtain ⟨k0,k1,-⟩:=HK.out w5 hb5;clear fx0 fe0 fe1 x0 e0 e1 hb5;by_cases q5:z6=kd
     ·subst q5;go_wp2_with (at_builtin;refine p1 kI rfl rfl W.heap.size (.slice A' m c') m rfl HO5.out 3 _ 1 1 rfl rfl rfl (eE (by first | assumption | (unfold aO;omega))) (by omega) HZ5.out ?_);intro A3 c3 w3 hown3 hg3 hb3;have HO3:=hD hown3;have HB3:=hD (HB5.out.trans hb3);clear hown3 hg3 hb3;go_wp2_with fail;go_roundw
      case rel=>exact ⟨k+1,m+1,A3,c3,by omega,by omega,by go_num,rfl,HO3,HB3⟩
      case measure=>simp [intOf];omega
     ·have q6:(z6 == kd)=false:=by simpa using q5
      go_wp2_with fail;go_roundw
      case rel=>exact ⟨k+1,m,A',c',by omega,by omega,by go_num,rfl,HO5,HB5⟩
      case measure=>simp [intOf];omega
   ·have q3:(z1 == 1)=false:=by simpa using q1
    go_wp2_with fail;go_quiet (fail);have HOq:=hD (HO.out.drewN nq);have HBq:Hid (Below W.heap.size W (wr.drewN nq)):=aN HB.out nq;go_wp2_with fail;go_roundw
    case rel=>exact ⟨k+1,m,A',c',by omega,by omega,by go_num,rfl,HOq,HBq⟩
    case measure=>simp [intOf];omega
  ·go_wp2_with fail;go_ret;exact ⟨HB2.out,_,rfl,(HO.out).v_ (by omega)⟩
def En (w:World) (N K:Nat) (v:Value):Prop:=∃ A n c,v=.agg #[.slice A n c]/\V w w.heap.size (.sl N 83 (aQ K)) (.slice A n c)
theorem uU (A:Option Addr) (n c:Nat) (w:World) (h:V w w.heap.size (.sl N 154 (dD K M 152)) (.slice A n c)) (hN:N<=1000000000):
  Calls Tryz.prog 66 #[.agg #[.slice A n c]] w (aV w fun w' v=>En w' N K v):=by
 obtain ⟨W,hW⟩:=nm (((w.alloc (.cells #[.slice A n c] 71)).alloc (.cells #[.slice none 0 0] 61)).alloc (.cells #[.slice none 0 0] 61));have HX0:Hid (aK W w.heap.size 71 #[.slice A n c]):=by subst hW;exact (((aK.new w _ _).alloc _).alloc _)
 have HX1:Hid (aK W (w.heap.size+1) 61 #[.slice none 0 0]):=by subst hW;exact ((aK.new1 w _ _ _).alloc _)
 have HX2:Hid (aK W (w.heap.size+1+1) 61 #[.slice none 0 0]):=by subst hW;exact (aK.new2 w _ _ _ _)
 have HBW:Hid (Below w.heap.size w W):=by subst hW;exact (bK (bK (bK (Below.refl _ w) _) _) _)
 have H:=hD h;have hn:=h.len_le;have HWS:Hid (W.heap.size=w.heap.size+1+1+1):=by unfold Hid;rw [<- hW];simp
 have HW:=hD hW;clear h hW;go_enter Tryz.func66,Tryz.ntmps66;go_wp2_with fail;rw [HW.out];go_loopw [4] (fun i wr=>∃ (k m:Nat) (A':Option Addr) (c':Nat),i=.int .i64 (k:Int)/\k<=n/\m<=k/\Hid (Below w.heap.size w wr)/\Hid (aK wr w.heap.size 71 #[.slice A n c])/\Hid (aK wr (w.heap.size+1) 61 #[.slice none 0 0])/\Hid (aK wr (w.heap.size+1+1) 61 #[.slice A' m c'])/\Hid (aJ wr W.heap.size 83 (aQ K) (.slice A' m c') m)/\Hid (W.heap.size<=wr.heap.size)) (fun i _=>n - (intOf i).toNat)
 case atStart=>exact ⟨0,0,none,0,rfl,Nat.zero_le _,Nat.zero_le _,HBW,HX0,HX1,HX2,aJ.nil _ _ _ _,Nat.le_refl _⟩
 case round=>
  obtain ⟨k,m,A',c',rfl,hk,hm,HB,HY0,HY1,HY2,HO,HZ⟩:=hrel;have x0:=HY0.out.cell 0;have y0:=HY2.out.cell 0;have r0:=HY1.out.cell 0;have r1:=HY1.out.frozen 0;simp at x0 y0 r0;by_cases hlt:k < n
  ·obtain ⟨b,off,z0,z1,A2,n2,c2,rfl,hb,e0,e1,e2,i0,i1,hn2,hc2,hv2⟩:=(H.out.bel HB.out).slot_at hlt;obtain ⟨b2,off2,y0',y1,yb,ys,y4,rfl,hb2,a0,a1,a2,a3,a4,j0,j1,j3,j4⟩:=hv2.alt_at hn2;simp only [Nat.zero_mul,Nat.add_zero] at a0 a1 a2 a3 a4;obtain ⟨W1,hW1⟩:=nm (wr.alloc (.cells #[.int .i64 z0,.int .i64 z1,.slice (some ⟨b2,off2,none⟩) n2 c2] 154));have HK1:=bk hW1;have HBa:=bw hW1;have a1':=(HBa.out.cell (p:=⟨b2,off2+1,none⟩) (World.block_lt_of_cell? _ _ a1)).trans a1;have a2':=(HBa.out.cell (p:=⟨b2,off2+2,none⟩) (World.block_lt_of_cell? _ _ a2)).trans a2;have a3':=(HBa.out.cell (p:=⟨b2,off2+3,none⟩) (World.block_lt_of_cell? _ _ a3)).trans a3;have a4':=(HBa.out.cell (p:=⟨b2,off2+4,none⟩) (World.block_lt_of_cell? _ _ a4)).trans a4;have HY0':=hD (HY0.out.below HBa.out HY0.out.lt);have HY1':=hD (HY1.out.below HBa.out HY1.out.lt);have HY2':=hD (HY2.out.below HBa.out HY2.out.lt);have HB1:=hD (aB HB.out HBa.out);have HO1:=hD (HO.out.up HBa.out);have HZ1:Hid (W.heap.size<=W1.heap.size):=Nat.le_trans HZ.out HBa.out.size;obtain ⟨k0,k1,k2⟩:=HK1.out.c3;have HI:Hid (aO z0/\aO z1/\aO y1/\ys.size<=K/\aO y4):=⟨i0,i1,j1,j3,j4⟩;have HW1:=hD hW1;clear hb hb2 j0 a0 hv2 hW1 HI;have HOd:=hD HO1.out.drew;have HZd:Hid (W.heap.size<=W1.drew.heap.size):=HZ1.out;have HY0d:=hD HY0'.out.drew;have HY1d:=hD HY1'.out.drew;have HY2d:=hD HY2'.out.drew;have HBd:Hid (Below w.heap.size w W1.drew):=cC HB1.out;have y0':=HY2d.out.cell 0;simp at y0';have hy2:=HY2'.out.c1;have fy:=aH hy2;have fk0:=aH k0;have fk1:=aH k1
   have fk2:=aH k2;have fa1:=aH a1';have fa2:=aH a2';have fa3:=aH a3';have fa4:=aH a4';go_wp2_with (rw [HW1.out])
   all_goals
    first
     | exact ⟨⟨k+1,m,A',c',by go_num,by omega,by omega,HB1,HY0',HY1',HY2',HO1,HZ1⟩,by simp [intOf];omega⟩
     | (refine oD 12 (by kernel_rfl) (by kernel_rfl) ?_;simp only [List.take_succ_cons,List.take_zero,List.drop_succ_cons,List.drop_zero];repeat (go_big_quiet_step (fail))
        refine wpQuiet_nil ?_;refine Ac rfl (by simp [go_sem];exact ⟨rfl,rfl⟩) ⟨⟨_,by repeat (first | exact Below.refl _ _ | refine bK ?_ _ | refine cC ?_)⟩,rfl⟩ ?_;simp only [sP];go_wp2_with (at_builtin;refine p1 (kC K) rfl rfl W.heap.size (.slice A' m c') m rfl HOd.out 83 _ 1 1 rfl rfl rfl (bJ (by first | assumption | (unfold aO;omega)) (by first | assumption | (unfold aO;omega)) (by first | assumption | (unfold aO;omega)) (by first | assumption | exact Nat.zero_le _) (by first | assumption | (unfold aO;omega))) (by omega) HZd.out ?_);intro A3 c3 w3 hown3 hg3 hb3;have hlt2:w.heap.size+1+1 < W.heap.size:=by have:=HWS.out;omega
        have HY0e:=hD (HY0d.out.below hb3 (by omega));have HY1e:=hD (HY1d.out.below hb3 (by omega));have HY2e:=hD (HY2d.out.below hb3 hlt2);have t0:=HY2e.out.c1;have t1:=HY2e.out.frozen 0;have HBe:Hid (Below w.heap.size w w3):=HBd.out.trans (hb3.mono (by omega));have HOe:Hid (aJ w3 W.heap.size 83 (aQ K) (.slice A3 (m+1) c3) (m+1)):=hown3;have HZe:Hid (W.heap.size<=w3.heap.size):=Nat.le_trans HZd.out hb3.size;have HLT:=hD hlt2;clear hown3 hg3 hb3 hlt2;go_wp2_with fail;refine NoPanic.normal ?_;go_wp2_with fail;go_roundw
        ·exact ⟨k+1,m+1,A3,c3,by go_num,by omega,by omega,HBe.out.setCell (p:=⟨w.heap.size+1+1,0,none⟩) (by show w.heap.size<=w.heap.size+1+1;omega) _,HY0e.out.far (p:=⟨w.heap.size+1+1,0,none⟩) (by show w.heap.size≠w.heap.size+1+1;omega) _,HY1e.out.far (p:=⟨w.heap.size+1+1,0,none⟩) (by show w.heap.size+1≠w.heap.size+1+1;omega) _,HY2e.out.set_ 0 _,aJ.set_ HOe.out HY2e.out HLT.out (by simp [Ty.has,Ty.hasAny]) 0 _,(by unfold Hid;simpa [World.setCell] using HZe.out)⟩
        ·simp [intOf];omega)
  ·have HE:=hD ((HO.out.v_ (N:=N) (by omega)));have HR:=hD (HY1.out.set_ 0 (.slice A' m c'));go_wp2_with fail;refine rR (cs:=#[.slice A' m c']) HR.out Tryz.underlying61 rfl rfl rfl rfl (by kernel_rfl) ?_;exact ⟨HB.out.setCell (Nat.le_succ _) _,_,rfl,A',m,c',rfl,(HE.out.set_ HY1.out (by simp [Ty.has,Ty.hasAny]) 0 _).more (by simp [World.setCell])⟩
end
end Go.Proofs.YtkgpoimmniojjaaGreat
