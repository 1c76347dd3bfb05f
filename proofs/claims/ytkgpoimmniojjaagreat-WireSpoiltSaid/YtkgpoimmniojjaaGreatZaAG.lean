/- No condition. -/
import Derived.Test.YtkgpoimmniojjaaGreatZaAE
import Derived.Test.YtkgpoimmniojjaaGreatZaAB
import Derived.Deep.RegionHeld3
namespace Go.Proofs.YtkgpoimmniojjaaGreat
set_option linter.unusedVariables false
set_option linter.unusedSimpArgs false
set_option maxRecDepth 100000
set_option maxHeartbeats 16000000
section
open Go.RowKit
variable {w w':World} {bs:List Nat}
theorem nD (c:Nat) (w:World):Calls Tryz.prog 150 #[.int .u8 (c:Int)] w (Is w (.bool (xV c))):=by
 unfold xV;obtain ⟨a,ha⟩:=nm (tI c);obtain ⟨b,hb⟩:=nm (zN c);have H1:Hid (Calls Tryz.prog 149 #[.int .u8 (c:Int)] w (Is w (.bool a))):=ha ▸ lX c w;have H2:Hid (Calls Tryz.prog 151 #[.int .u8 (c:Int)] w (Is w (.bool b))):=hb ▸ mW c w;rw [ha,hb];clear ha hb;go_enter Tryz.func150,Tryz.ntmps150;go_wp2_with fail;refine (H1.out).mono ?_;rintro e w1 ⟨rfl,rfl⟩
 cases a
 ·go_wp2_with fail;refine (H2.out).mono ?_;rintro e w1 ⟨rfl,rfl⟩;go_wp2_with fail;go_ret;exact ⟨by simp,rfl⟩
 ·go_wp2_with fail;go_ret;exact ⟨by simp,rfl⟩
theorem xF (c:Nat) (w:World):Calls Tryz.prog 173 #[.int .u8 (c:Int)] w (Is w (.bool (nF c))):=by
 unfold nF;obtain ⟨a,ha⟩:=nm (uW c);obtain ⟨b,hb⟩:=nm (nS c);obtain ⟨d,hd⟩:=nm (xL c);obtain ⟨f,hf⟩:=nm (decide (c=95));have H1:Hid (Calls Tryz.prog 153 #[.int .u8 (c:Int)] w (Is w (.bool a))):=ha ▸ mF c w;have H2:Hid (Calls Tryz.prog 154 #[.int .u8 (c:Int)] w (Is w (.bool b))):=hb ▸ jH c w;have H3:Hid (Calls Tryz.prog 152 #[.int .u8 (c:Int)] w (Is w (.bool d))):=hd ▸ rJ c w;have HF:Hid (((c:Int) == 95)=f):=by
  unfold Hid;rw [<- hf,Bool.eq_iff_iff];simp;omega
 rw [ha,hb,hd,hf];clear ha hb hd hf;go_enter Tryz.func173,Tryz.ntmps173;go_wp2_with fail;refine (H1.out).mono ?_;rintro e w1 ⟨rfl,rfl⟩
 cases a
 ·go_wp2_with fail;refine (H2.out).mono ?_;rintro e w1 ⟨rfl,rfl⟩
  cases b
  ·go_wp2_with fail;refine (H3.out).mono ?_;rintro e w1 ⟨rfl,rfl⟩
   cases d
   ·go_wp2_with fail;go_ret;refine ⟨?_,rfl⟩;rw [HF.out];simp
   ·go_wp2_with fail;go_ret;exact ⟨by simp,rfl⟩
  ·go_wp2_with fail;go_ret;exact ⟨by simp,rfl⟩
 ·go_wp2_with fail;go_ret;exact ⟨by simp,rfl⟩
theorem rZ (s:ByteArray) (w:World):Calls Tryz.prog 169 #[.string s] w (qF w):=by
 go_enter Tryz.func169,Tryz.ntmps169;go_wp2_with fail
 all_goals
  go_ret;exact ⟨_,rfl,rfl⟩
def CU (w:World) (s:ByteArray) (k:Nat) (e:Ending) (w':World):Prop:=∃ n:Nat,e=.returned (.int .i64 (n:Int))/\w=w'/\(n=0\/k+n<=s.size)
theorem Ba (s:ByteArray) (k:Nat) (w:World) (hk:k < s.size) (hs:s.size<=1000000000):Calls Tryz.prog 156 #[.string s,.int .i64 (k:Int)] w (CU w s k):=by
 go_enter Tryz.func156,Tryz.ntmps156;go_wp2_with fail
 all_goals
  go_ret
  first
   | exact ⟨0,rfl,rfl,.inl rfl⟩
   | exact ⟨1,rfl,rfl,.inr (by omega)⟩
   | exact ⟨2,rfl,rfl,.inr (by omega)⟩
def vX (s:ByteArray) (k:Nat):Nat:=if h:k < s.size then s[k].toNat else 0
theorem iE {s:ByteArray} {k:Nat} (h:k < s.size):s[k].toNat=vX s k:=by unfold vX;rw [dif_pos h]
def kH (c:Nat):Bool:=uW c || nS c
theorem C0 {c:Nat} (h:kH c=true):nF c=true:=by
 unfold kH at h;unfold nF;rw [h];rfl
theorem oB (p:Nat->Bool) (N:Nat):∀ (d k:Nat),k+d=N->∃ t,k<=t/\t<=N/\(∀ j,k<=j->j < t->p j=true)/\(t=N\/p t=false)
 | 0,k,h=>⟨k,Nat.le_refl _,by omega,fun j h1 h2=>by omega,.inl (by omega)⟩
 | d+1,k,h=>by
  cases hp:p k with
  | false=>exact ⟨k,Nat.le_refl _,by omega,fun j h1 h2=>by omega,.inr hp⟩
  | true=>
   obtain ⟨t,h1,h2,h3,h4⟩:=oB p N d (k+1) (by omega);refine ⟨t,by omega,h2,fun j h5 h6=>?_,h4⟩;rcases Nat.lt_or_ge k j with h7 | h7
   ·exact h3 j h7 h6
   ·obtain rfl:j=k:=by omega
    exact hp
theorem AO (s:ByteArray) (k:Nat) (hk:k<=1000000001) (hs:s.size<=1000000000):∃ n:Nat,(n=0\/k+n<=s.size)/\(k < s.size->kH (vX s k)=true->1<=n)/\∀ w,Calls Tryz.prog 168 #[.string s,.int .i64 (k:Int)] w (Is w (.int .i64 (n:Int))):=by
 by_cases hlt:k < s.size
 ·have hx:=iE hlt;obtain ⟨t,ht1,ht2,ht3,ht4⟩:=oB (fun j=>nF (vX s j)) s.size (s.size - k) k (by omega);have HIW:Hid (∀ c w',Calls Tryz.prog 173 #[.int .u8 ((c:Nat):Int)] w' (Is w' (.bool (nF c)))):=fun c w'=>xF c w';obtain ⟨x,hxx⟩:=nm (vX s k);rw [hxx] at hx ⊢;obtain ⟨a,ha⟩:=nm (uW x);obtain ⟨b,hb⟩:=nm (nS x);have H1:Hid (∀ w,Calls Tryz.prog 153 #[.int .u8 (x:Int)] w (Is w (.bool a))):=fun w=>ha ▸ mF x w;have H2:Hid (∀ w,Calls Tryz.prog 154 #[.int .u8 (x:Int)] w (Is w (.bool b))):=fun w=>hb ▸ jH x w;have HL:Hid (kH x=(a || b)):=by unfold Hid kH;rw [ha,hb]
  have HT3:Hid (∀ j,k<=j->j < t->nF (vX s j)=true):=ht3;have HT4:Hid (t=s.size\/nF (vX s t)=false):=ht4;have HKT:Hid (kH x=true->k < t):=fun h=>by
   rcases Nat.lt_or_ge k t with h1 | h1
   ·exact h1
   ·obtain rfl:t=k:=by omega
    rcases ht4 with h2 | h2
    ·omega
    ·rw [hxx] at h2;rw [C0 h] at h2
     cases h2
  rw [HL.out] at HKT ⊢;clear ha hb hxx ht3 ht4
  cases hab:(a || b) with
  | false=>
   have h1:a=false:=by cases a <;> simp_all
   have h2:b=false:=by cases b <;> simp_all
   subst h1 h2;refine ⟨0,.inl rfl,(fun _ h=>by cases h),fun w=>?_⟩;clear hab;go_enter Tryz.func168,Tryz.ntmps168;go_wp2_with fail;refine (H1.out _).mono ?_;rintro e w1 ⟨rfl,rfl⟩;go_wp2_with fail;refine (H2.out _).mono ?_;rintro e w1 ⟨rfl,rfl⟩;go_wp2_with fail;go_ret;exact ⟨rfl,rfl⟩
  | true=>
   have hkt:k < t:=HKT.out hab;refine ⟨t - k,.inr (by omega),(fun _ _=>by omega),fun w=>?_⟩;clear HKT;go_enter Tryz.func168,Tryz.ntmps168;go_wp2_with fail;refine (H1.out _).mono ?_;rintro e w1 ⟨rfl,rfl⟩
   cases a
   ·obtain rfl:b=true:=by simpa using hab
    clear hab;go_wp2_with fail;refine (H2.out _).mono ?_;rintro e w1 ⟨rfl,rfl⟩;go_wp2_with fail
    go_loop [5] (fun i=>∃ m:Nat,k<=m/\m<=t/\i=.int .i64 (m:Int)) (fun i=>s.size - (intOf i).toNat)
    case atStart=>exact ⟨k,Nat.le_refl _,by omega,rfl⟩
    case round=>
     obtain ⟨m,hkm,hmt,rfl⟩:=hrel;by_cases hlm:m < s.size
     ·have hy:=iE hlm;obtain ⟨y,hyy⟩:=nm (vX s m);rw [hyy] at hy;by_cases hmt2:m < t
      ·have hq:nF y=true:=by rw [<- hyy];exact HT3.out m hkm hmt2
       have HQ:Hid (∀ w',Calls Tryz.prog 173 #[.int .u8 (y:Int)] w' (Is w' (.bool true))):=fun w'=>hq ▸ HIW.out y w';clear hyy hq;go_wp2_with fail;refine (HQ.out _).mono ?_;rintro e w1 ⟨rfl,rfl⟩;go_wp2_with fail
       go_round
       case rel=>exact ⟨m+1,by omega,by omega,by go_num⟩
       case measure=>simp [intOf];omega
      ·obtain rfl:m=t:=by omega
       have hq:nF y=false:=by
        rcases HT4.out with h | h
        ·omega
        ·rw [<- hyy];exact h
       have HQ:Hid (∀ w',Calls Tryz.prog 173 #[.int .u8 (y:Int)] w' (Is w' (.bool false))):=fun w'=>hq ▸ HIW.out y w';clear hyy hq;go_wp2_with fail;refine (HQ.out _).mono ?_;rintro e w1 ⟨rfl,rfl⟩;go_wp2_with fail;go_ret;exact ⟨by go_num,rfl⟩
     ·obtain rfl:m=t:=by omega
      go_wp2_with fail;go_ret;exact ⟨by go_num,rfl⟩
   ·clear hab;go_wp2_with fail
    go_loop [5] (fun i=>∃ m:Nat,k<=m/\m<=t/\i=.int .i64 (m:Int)) (fun i=>s.size - (intOf i).toNat)
    case atStart=>exact ⟨k,Nat.le_refl _,by omega,rfl⟩
    case round=>
     obtain ⟨m,hkm,hmt,rfl⟩:=hrel;by_cases hlm:m < s.size
     ·have hy:=iE hlm;obtain ⟨y,hyy⟩:=nm (vX s m);rw [hyy] at hy;by_cases hmt2:m < t
      ·have hq:nF y=true:=by rw [<- hyy];exact HT3.out m hkm hmt2
       have HQ:Hid (∀ w',Calls Tryz.prog 173 #[.int .u8 (y:Int)] w' (Is w' (.bool true))):=fun w'=>hq ▸ HIW.out y w';clear hyy hq;go_wp2_with fail;refine (HQ.out _).mono ?_;rintro e w1 ⟨rfl,rfl⟩;go_wp2_with fail
       go_round
       case rel=>exact ⟨m+1,by omega,by omega,by go_num⟩
       case measure=>simp [intOf];omega
      ·obtain rfl:m=t:=by omega
       have hq:nF y=false:=by
        rcases HT4.out with h | h
        ·omega
        ·rw [<- hyy];exact h
       have HQ:Hid (∀ w',Calls Tryz.prog 173 #[.int .u8 (y:Int)] w' (Is w' (.bool false))):=fun w'=>hq ▸ HIW.out y w';clear hyy hq;go_wp2_with fail;refine (HQ.out _).mono ?_;rintro e w1 ⟨rfl,rfl⟩;go_wp2_with fail;go_ret;exact ⟨by go_num,rfl⟩
     ·obtain rfl:m=t:=by omega
      go_wp2_with fail;go_ret;exact ⟨by go_num,rfl⟩
 ·refine ⟨0,.inl rfl,fun h=>absurd h hlt,fun w=>?_⟩;have hge:s.size<=k:=by omega
  go_enter Tryz.func168,Tryz.ntmps168;go_wp2_with fail;go_ret;exact ⟨rfl,rfl⟩
def lU (s:ByteArray) (k:Nat) (w':World) (v:Value):Prop:=∃ ln kd er a:Int,v=.agg #[.int .i64 ln,.int .i64 kd,.int .i64 er,.int .i64 a]/\(er=0->1<=ln/\(k:Int)+ln<=s.size)/\aO ln/\aO kd/\aO er/\aO a
theorem uX (s:ByteArray) (k:Nat) (w:World) (hk:k<=s.size) (hs:s.size<=1000000000):Calls Tryz.prog 133 #[.string s,.int .i64 (k:Int)] w (fun e w'=>∃ (n:Nat) (bad:Int),e=.returned (.tuple #[.int .i64 (n:Int),.int .i64 bad])/\w=w'/\k+n<=s.size/\-1<=bad/\bad<=s.size):=by
 have HWC:Hid (∀ c w',Calls Tryz.prog 149 #[.int .u8 ((c:Nat):Int)] w' (Is w' (.bool (tI c)))):=fun c w'=>lX c w';have HAC:Hid (∀ c w',Calls Tryz.prog 150 #[.int .u8 ((c:Nat):Int)] w' (Is w' (.bool (xV c)))):=fun c w'=>nD c w';go_enter Tryz.func133,Tryz.ntmps133;go_wp2_with fail
 go_loop [6] (fun i=>∃ m:Nat,k<=m/\m<=s.size/\i=.int .i64 (m:Int)) (fun i=>s.size - (intOf i).toNat)
 case atStart=>exact ⟨k,Nat.le_refl _,hk,rfl⟩
 case round=>
  obtain ⟨m,hkm,hms,rfl⟩:=hrel;by_cases hlm:m < s.size
  ·have hy:=iE hlm;obtain ⟨y,hyy⟩:=nm (vX s m);rw [hyy] at hy;have HYY:=hD hyy;obtain ⟨q,hq⟩:=nm (tI y);have HQ:Hid (∀ w',Calls Tryz.prog 149 #[.int .u8 (y:Int)] w' (Is w' (.bool q))):=fun w'=>hq ▸ HWC.out y w';clear hyy hq;go_wp2_with fail;refine (HQ.out _).mono ?_;rintro e w1 ⟨rfl,rfl⟩
   cases q
   ·by_cases h35:y=35
    ·subst h35;go_wp2_with fail
     go_loop [6] (fun i=>∃ m':Nat,m<=m'/\m'<=s.size/\i=.int .i64 (m':Int)) (fun i=>s.size - (intOf i).toNat)
     case atStart=>exact ⟨m,Nat.le_refl _,hms,rfl⟩
     case round=>
      obtain ⟨m',hmm,hms',rfl⟩:=hrel;by_cases hlm':m' < s.size
      ·have hz:=iE hlm';obtain ⟨z,hzz⟩:=nm (vX s m');rw [hzz] at hz;by_cases h10:z=10
       ·have hne:m < m':=by
         rcases Nat.lt_or_ge m m' with h | h
         ·exact h
         ·obtain rfl:m=m':=by omega
          have:=HYY.out.symm.trans hzz;omega
        subst h10;clear hzz;go_wp2_with fail
        go_round
        case rel=>exact ⟨m',by omega,hms',rfl⟩
        case measure=>simp [intOf];omega
       ·have d10:((z:Int) != 10)=true:=by simp;omega
        obtain ⟨q,hq⟩:=nm (xV z);have HQ2:Hid (∀ w',Calls Tryz.prog 150 #[.int .u8 (z:Int)] w' (Is w' (.bool q))):=fun w'=>hq ▸ HAC.out z w';clear hzz hq h10;go_wp2_with fail;refine (HQ2.out _).mono ?_;rintro e w1 ⟨rfl,rfl⟩
        cases q
        ·go_wp2_with fail;go_ret2;exact ⟨m' - k,m',by go_num,rfl,by omega,by omega,by omega⟩
        ·go_wp2_with fail
         go_round
         case rel=>exact ⟨m'+1,by omega,by omega,by go_num⟩
         case measure=>simp [intOf];omega
      ·have hne:m < m':=by omega
       go_wp2_with fail
       go_round
       case rel=>exact ⟨m',by omega,hms',rfl⟩
       case measure=>simp [intOf];omega
    ·have d:((y:Int) == 35)=false:=by simp;omega
     go_wp2_with fail;go_ret2;exact ⟨m - k,-1,by go_num,rfl,by omega,by omega,by omega⟩
   ·go_wp2_with fail
    go_round
    case rel=>exact ⟨m+1,by omega,by omega,by go_num⟩
    case measure=>simp [intOf];omega
  ·go_wp2_with fail;go_ret2;exact ⟨m - k,-1,by go_num,rfl,by omega,by omega,by omega⟩
def Nw (w w':World) (bs:List Nat) (v:Value):Prop:=w'.ownsRow w.heap.size 5 1 v bs.length (bs.map dZ)/\Below w.heap.size w w'
theorem pW.nw {e:Ending} (h:pW w bs e w'):∃ v,e=.returned v/\Nw w w' bs v:=by
 obtain ⟨v,he,h1,h2⟩:=h;exact ⟨v,he,h1,h2⟩
theorem Nw.mk {v:Value} (h:Nw w w' bs v):pW w bs (.returned v) w':=⟨v,rfl,h.1,h.2⟩
theorem Nw.reads {v:Value} (h:Nw w w' bs v):∃ A c,v=.slice A bs.length c/\aG w' w'.heap.size 1 A bs.length (bs.map dZ):=mE h.1
theorem Nw.after {w0:World} {v:Value} (h:Nw w w' bs v) (hb:Below w0.heap.size w0 w):Nw w0 w' bs v:=by
 refine ⟨sF h.1 (fun g hg=>?_),hb.trans (h.2.mono hb.size)⟩;have:=(h.1.lt g hg).1;have:=hb.size;omega
theorem uI (A:Option Addr) (n c:Nat) (bs:List Nat) (A1:Option Addr) (n1 c1:Nat) (l:List Int) (w:World) (hr:aG w w.heap.size 1 A n (bs.map dZ))
  (hr1:aG w w.heap.size 1 A1 n1 (l.map (Value.int .i64))) (hl:∀ x∈l,gD x) (hk:n+10*n1<=950000000000):
  Calls Tryz.prog 39 #[.slice A n c,.slice A1 n1 c1] w (pW w (bs++iN l)):=by
 have hn:l.length=n1:=by have:=hr1.1;simpa using this
 have hbn:bs.length=n:=by have:=hr.1;simpa using this
 have hlen:=dH (n:=n1) (by omega);have HP:=hD (fX A n c bs (n1:Int) w (by omega) hr (by omega) (by omega));have HN:=hD hn;have HBN:=hD hbn;have HR:=hD hr1;have HLo:=hD hl;clear hn hbn hr hr1 hl;go_enter Tryz.func39,Tryz.ntmps39;go_wp2_with fail;refine (HP.out).mono ?_;intro e w1 h;obtain ⟨v1,rfl,hst⟩:=h.nw;have HST:=hD hst;clear h hst HP;go_wp2_with fail;go_loopw [0,5] (fun v' i wr=>∃ j:Nat,j<=n1/\i=.int .i64 (j:Int)/\Nw w wr (bs++(bN (n1:Int)++(l.take j).flatMap bN)) v') (fun _ i _=>n1 - (intOf i).toNat)
 case atStart=>exact ⟨0,by omega,rfl,by simpa using HST.out⟩
 case round=>
  obtain ⟨j,hj,rfl,hst⟩:=hrel;have hsz:=hst.2.size;by_cases hlt:j < n1
  ·obtain ⟨x,hx⟩:∃ x,l[j]?=some x:=⟨l[j]'(by rw [HN.out];exact hlt),List.getElem?_eq_getElem _⟩;have hxi:=HLo.out x (List.mem_of_getElem? hx);obtain ⟨b,off,u,rfl,had,hu,hcell⟩:=(HR.out.below hst.2).at1 hlt;obtain rfl:u=.int .i64 x:=by
    rw [List.getElem?_map,hx] at hu;simpa using hu.symm
   have hfl:((l.take j).flatMap bN).length<=10*j:=by
    have:=mG (l:=l.take j) (fun y hy=>HLo.out y (List.mem_of_mem_take hy));have h2:(l.take j).length<=j:=List.length_take_le _ _;omega
   obtain ⟨A2,c2,rfl,hr2⟩:=hst.reads;have hlen2:(bs++(bN (n1:Int)++(l.take j).flatMap bN)).length<=1000000000000:=by
    simp only [List.length_append];rw [HBN.out];omega
   have h2:=fX A2 _ c2 _ x wr hlen2 hr2 hxi.1 hxi.2;rw [List.append_assoc,List.append_assoc,<- qM l j x hx] at h2;obtain ⟨m2,hm2⟩:∃ m,m=(bs++(bN (n1:Int)++(l.take j).flatMap bN)).length:=⟨_,rfl⟩;rw [<- hm2] at h2 ⊢;have HP:=hD h2;have HST2:=hD hst;clear hst hx hu hxi hr2 h2 hm2 hlen2;go_wp2_with fail;refine (HP.out).mono ?_;intro e w2 h;obtain ⟨v2,rfl,hst2⟩:=h.nw;have HST3:=hD (hst2.after HST2.out.2);clear h hst2 HP HST2;go_wp2_with fail;go_roundw
   case rel=>exact ⟨j+1,by omega,by go_num,HST3.out⟩
   case measure=>simp [intOf];omega
  ·have R:pW w (bs++iN l) (.returned u0) wr:=by
    have h1:=hst.mk;have e1:l.take j=l:=List.take_of_length_le (by rw [HN.out];omega);rw [e1] at h1;unfold iN;rw [HN.out];exact h1
   clear hst;go_wp2_with fail;go_ret;exact R
end
end Go.Proofs.YtkgpoimmniojjaaGreat
