/- No condition. -/
import Derived.Test.YtkgpoimmniojjaaGreatZaAA
import Derived.Laws.BitsAllLaws
import Derived.Laws.BitsLemmas
import Derived.Test.YtkgpoimmniojjaaGreatRows
import Derived.WalkKit
import Derived.WalkSpells
import Derived.WalkLawsBesides
import Derived.Outline
import Derived.BigQuiet
namespace Go.Proofs.YtkgpoimmniojjaaGreat
set_option linter.unusedVariables false
set_option linter.unusedSimpArgs false
set_option maxRecDepth 100000
set_option maxHeartbeats 16000000
section
open Go.RowKit
variable {x i k acc base q p U n u:Nat} {bs pre all:List Nat} {w w1 w' w2 w'':World} {xs:List Value} {v1 v' v'':Value} {o:Obj} {l:List Int} {e:Ending}
def iD (u:Nat):List Nat:=if u < 128 then [u] else (u % 128+128)::iD (u / 128)
termination_by u
decreasing_by omega
theorem iC (h:u < 128):iD u=[u]:=by rw [iD,if_pos h]
theorem nL (h:128<=u):iD u=(u % 128+128)::iD (u / 128):=by rw [iD,if_neg (by omega)]
theorem BF (k:Nat):∀ u,u < 128 ^ (k+1)->(iD u).length<=k+1:=by
 induction k with
 | zero=>intro u h;rw [iC (by simpa using h)];simp
 | succ k ih=>
  intro u h;by_cases h1:u < 128
  ·rw [iC h1];simp
  ·rw [nL (by omega),List.length_cons];have:=ih (u / 128) (Nat.div_lt_of_lt_mul (by rw [Nat.mul_comm];simpa [Nat.pow_succ] using h));omega
theorem xK (h:u < 18446744073709551616):(iD u).length<=10:=by
 have e:(128:Nat) ^ (9+1)=1180591620717411303424:=by decide
 exact BF 9 u (by rw [e];omega)
theorem vL (u:Nat):0 < (iD u).length:=by rw [iD];split <;> simp
theorem Ax (n:Nat):∀ u,u<=n->∀ x∈iD u,x < 256:=by
 induction n with
 | zero=>intro u h x hx;rw [iC (by omega)] at hx;simp at hx;omega
 | succ n ih=>
  intro u h x hx;by_cases h1:u < 128
  ·rw [iC h1] at hx;simp at hx;omega
  ·rw [nL (by omega)] at hx;rcases List.mem_cons.1 hx with rfl | hx
   ·omega
   ·exact ih (u / 128) (by omega) x hx
def tE (n:Int):Nat:=if 0<=n then (2*n).toNat else (-2*n - 1).toNat
theorem AK {n:Int} (h:-9223372036854775808<=n) (h':n<=9223372036854775807):tE n < 18446744073709551616:=by unfold tE;split <;> omega
def bN (n:Int):List Nat:=iD (tE n)
theorem lN {n:Int} (h:-9223372036854775808<=n) (h':n<=9223372036854775807):(bN n).length<=10:=xK (AK h h')
theorem dS (n:Int):∀ x∈bN n,x < 256:=Ax _ _ (Nat.le_refl _)
theorem zZ (y:Nat) (h:y < 18446744073709551616):18446744073709551615 ^^^ y=18446744073709551615 - y:=by
 have h1:=BitVec.toNat_not (x:=BitVec.ofNat 64 y);rw [BitVec.not_def,BitVec.toNat_xor,BitVec.toNat_allOnes,BitVec.toNat_ofNat,Nat.mod_eq_of_lt (by omega)] at h1;simpa using h1
theorem BM (n:Int) (h:n < 0) (h':-9223372036854775808<=n):bits BinOp.xor IntKind.u64 IntKind.u64.max (IntKind.u64.wrap (IntKind.u64.wrap n*2))=(tE n:Int):=by
 have e1:IntKind.u64.max=((18446744073709551615:Nat):Int):=by decide
 have e2:IntKind.u64.wrap (IntKind.u64.wrap n*2)=(((18446744073709551616+2*n).toNat:Nat):Int):=by
  simp only [IntKind.wrap_u64];omega
 rw [e1,e2,u64_xor_nat _ _ (by omega) (by omega),zZ _ (by omega)];unfold tE;rw [if_neg (by omega)];omega
theorem Cx (n:Int) (h:n < 0) (h':-9223372036854775808<=n):-(n+1)*2+1=(tE n:Int):=by
 unfold tE;rw [if_neg (by omega)];omega
theorem Dd (h:x < 18446744073709551616):IntKind.u64.wrap ((x:Int) / 128)=((x / 128:Nat):Int):=by rw [IntKind.wrap_u64];omega
theorem yD (n:Int) (h:¬ n < 0):n*2=(tE n:Int):=by
 unfold tE;rw [if_pos (by omega)];omega
theorem xP (x:Nat):bits BinOp.or IntKind.u8 ((x:Int) % 256) 128=(x:Int) % 128+128:=by
 have h:∀ r:Fin 256,bits BinOp.or IntKind.u8 ((r.val:Nat):Int) 128=((r.val % 128+128:Nat):Int):=by decide+kernel
 have:=h ⟨x % 256,by omega⟩;simp only [Int.natCast_emod] at this;rw [show ((256:Nat):Int)=256 from rfl] at this;rw [this];omega
def fH:Nat->Nat->List Nat->Option (Nat × Nat)
 | _,_,[]=>none
 | i,acc,x::r=>if (i=9/\1 < x)\/(0 < i/\x=0) then none else if x < 128 then some (acc+x % 128*2 ^ (7*i),i+1) else fH (i+1) (acc+x % 128*2 ^ (7*i)) r
def iL (u:Nat):Int:=if u % 2=1 then -((u / 2:Nat):Int) - 1 else ((u / 2:Nat):Int)
def bC (bs:List Nat) (p:Nat):Option (Int × Nat):=(fH 0 0 (bs.drop p)).map fun y=>(iL y.1,p+y.2)
theorem zO (i:Nat):2 ^ (7*(i+1))=128*2 ^ (7*i):=by
 rw [Nat.mul_add,Nat.pow_add];omega
theorem pK (h:acc < 2 ^ (7*i)):acc+x % 128*2 ^ (7*i) < 2 ^ (7*(i+1)):=by
 rw [zO];have h1:x % 128*2 ^ (7*i)<=127*2 ^ (7*i):=Nat.mul_le_mul_right _ (by omega);omega
theorem sY (h:acc < 2 ^ (7*i)) (hi:i<=9) (hx:¬ (i=9/\1 < x)):x % 128*2 ^ (7*i)+2 ^ (7*i)<=18446744073709551616:=by
 by_cases h9:i=9
 ·subst h9;have h0:x % 128<=1:=by omega
  have h2:2 ^ (7*9)=9223372036854775808:=by decide
  clear h;rw [h2];omega
 ·have h2:(2:Nat) ^ (7*i)<=2 ^ 56:=Nat.pow_le_pow_right (by omega) (by omega);have h3:(2:Nat) ^ 56=72057594037927936:=by decide
  have h1:x % 128*2 ^ (7*i)<=127*2 ^ (7*i):=Nat.mul_le_mul_right _ (by omega);rw [h3] at h2;omega
theorem Cz (h:acc < 2 ^ (7*i)) (hi:i<=9) (hx:¬ (i=9/\1 < x)):
  bits BinOp.or IntKind.u64 (acc:Int) ((x % 128*2 ^ (7*i):Nat):Int)=((acc+x % 128*2 ^ (7*i):Nat):Int):=by
 have h1:=sY h hi hx;have h2:0 < 2 ^ (7*i):=Nat.pow_pos (by omega);rw [u64_or_nat _ _ (by omega) (by omega),Nat.or_comm,nat_join (7*i) (x % 128*2 ^ (7*i)) acc (Nat.mul_mod_left _ _) h,Nat.add_comm]
theorem kQ:∀ (l:List Nat) (i acc u k:Nat),acc < 2 ^ (7*i)->i<=9->fH i acc l=some (u,k)->u < 18446744073709551616/\i < k/\k<=i+l.length
 | [],i,acc,u,k,_,_,h=>by simp [fH] at h
 | x::r,i,acc,u,k,ha,hi,h=>by
  rw [fH] at h
  split at h
  ·cases h
  ·rename_i hc;have h1:=sY ha hi (fun hh=>hc (.inl hh))
   split at h
   ·injection h with h;injection h with e1 e2;subst e1;subst e2;exact ⟨by omega,by omega,by simp⟩
   ·rename_i hx;have hi8:i+1<=9:=by omega
    obtain ⟨a,b,c⟩:=kQ r (i+1) _ u k (pK ha) hi8 h;exact ⟨a,by omega,by simp;omega⟩
theorem kX (bs:List Nat) (p:Nat):∀ x q,bC bs p=some (x,q)->(-9223372036854775808<=x/\x<=9223372036854775807)/\p < q:=by
 intro x q h;unfold bC at h
 cases hs:fH 0 0 (bs.drop p) with
 | none=>rw [hs] at h;cases h
 | some y=>
  rw [hs] at h;obtain ⟨u,k⟩:=y;simp at h;obtain ⟨rfl,rfl⟩:=h;obtain ⟨a,b,_⟩:=kQ _ 0 0 u k (by simp) (by omega) hs;unfold iL
  split <;> omega
theorem eB {x:Int} (hp:p<=bs.length) (h:bC bs p=some (x,q)):q<=bs.length:=by
 unfold bC at h
 cases hs:fH 0 0 (bs.drop p) with
 | none=>rw [hs] at h;cases h
 | some y=>
  rw [hs] at h;obtain ⟨u,k⟩:=y;simp at h;obtain ⟨rfl,rfl⟩:=h;obtain ⟨_,_,c⟩:=kQ _ 0 0 u k (by simp) (by omega) hs;rw [List.length_drop] at c;omega
theorem mJ (h:bs[p]?=some x):bs.drop p=x::bs.drop (p+1):=by
 have hp:p < bs.length:=(List.getElem?_eq_some_iff.1 h).1;rw [List.drop_eq_getElem_cons hp]
 congr 1
 rw [List.getElem?_eq_getElem hp] at h;injection h
def Dt (s:ByteArray):List Nat:=s.data.toList.map UInt8.toNat
theorem rX (s:ByteArray):(Dt s).length=s.size:=by unfold Dt;rw [List.length_map,Array.length_toList];rfl
theorem AT (s:ByteArray):∀ x∈Dt s,x < 256:=fun x hx=>by
 obtain ⟨b,_,rfl⟩:=List.mem_map.1 hx;exact UInt8.toNat_lt b
theorem qJ (s:ByteArray):byteCells s=(Dt s).map dZ:=by unfold byteCells Dt;rw [List.map_map];rfl
structure bG where
 id:Int
 field:Int
 n:Int
 flag:Bool
 text:ByteArray
 ref:Int
structure bY where
 stamp:Int
 parents:List Int
 picks:List Int
 note:ByteArray
 writes:List bG
def bG.vals (c:bG):List Value:=[.int .i64 c.id,.int .i64 c.field,.int .i64 c.n,.bool c.flag,.string c.text,.int .i64 c.ref]
def gD (n:Int):Prop:=-9223372036854775808<=n/\n<=9223372036854775807
def bG.ok (c:bG):Prop:=gD c.id/\gD c.field/\gD c.n/\gD c.ref
def bY.ok (c:bY):Prop:=gD c.stamp/\(∀ x∈c.parents,gD x)/\(∀ x∈c.picks,gD x)/\∀ x∈c.writes,x.ok
def gI (s:ByteArray):List Nat:=bN s.size++Dt s
def iN (l:List Int):List Nat:=bN l.length++l.flatMap bN
def vM (b:Bool):List Nat:=if b then [1] else [0]
def eK (c:bG):List Nat:=bN c.id++bN c.field++bN c.n++vM c.flag++gI c.text++bN c.ref
def bQ (c:bY):List Nat:=bN c.stamp++iN c.parents++iN c.picks++gI c.note++bN c.writes.length++c.writes.flatMap eK
def Es (l:List bY):List Nat:=bN l.length++l.flatMap bQ
def bG.size (c:bG):Nat:=c.text.size
def bO (l:List bG):Nat:=(l.map bG.size).sum
def bY.size (c:bY):Nat:=c.parents.length+c.picks.length+c.note.size+c.writes.length+bO c.writes
theorem cF {n:Int} (h:gD n):(bN n).length<=10:=lN h.1 h.2
theorem dH (h:n<=1000000000000):(bN (n:Int)).length<=10:=lN (by omega) (by omega)
theorem gF {s:ByteArray} (h:s.size<=1000000000000):(gI s).length<=10+s.size:=by
 unfold gI;rw [List.length_append,rX];have:=dH h;omega
theorem mG (h:∀ x∈l,gD x):(l.flatMap bN).length<=10*l.length:=by
 induction l with
 | nil=>simp
 | cons x l ih=>
  simp only [List.flatMap_cons,List.length_append,List.length_cons];have h1:=cF (h x (by simp));have h2:=ih (fun y hy=>h y (by simp [hy]));omega
theorem fF (h:∀ x∈l,gD x) (hl:l.length<=1000000000000):(iN l).length<=10+10*l.length:=by
 unfold iN;rw [List.length_append];have:=dH hl;have:=mG h;omega
theorem BG {c:bG} (h:c.ok) (hs:c.text.size<=1000000000000):(eK c).length<=60+c.size:=by
 obtain ⟨h1,h2,h3,h4⟩:=h;have a1:=cF h1;have a2:=cF h2;have a3:=cF h3;have a4:=cF h4;have a5:=gF hs;have a6:(vM c.flag).length=1:=by unfold vM;split <;> rfl
 unfold eK bG.size;simp only [List.length_append];omega
theorem yK {l:List bG} {c:bG} (h:c∈l):c.text.size<=bO l:=by
 induction l with
 | nil=>cases h
 | cons x l ih=>
  unfold bO at*;simp only [List.map_cons,List.sum_cons];rcases List.mem_cons.1 h with rfl | h
  ·unfold bG.size;omega
  ·have:=ih h;omega
theorem mH {l:List bG} (h:∀ x∈l,x.ok) (hs:bO l<=1000000000000):(l.flatMap eK).length<=60*l.length+bO l:=by
 induction l with
 | nil=>simp
 | cons x l ih=>
  have e:bO (x::l)=x.size+bO l:=by unfold bO;simp
  rw [e] at hs ⊢;simp only [List.flatMap_cons,List.length_append,List.length_cons];have h1:=BG (h x (by simp)) (by unfold bG.size at hs;omega);have h2:=ih (fun y hy=>h y (by simp [hy])) (by omega);omega
theorem fM:(Tryz.prog.info? 5).map (fun i=>(i.zero,i.size,i.bytes))=some (some (.int .u8 0),1,1):=by kernel_rfl
def BV (base k:Nat) (v:Value) (xs:List Value) (w:World) (new:List Nat) (e:Ending) (w':World):Prop:=
 ∃ v',e=.returned v'/\w'.ownsRow base 5 1 v' (k+new.length) (xs++new.map dZ)/\aR w w' v v'
def eL (base k:Nat) (v:Value) (xs:List Value) (w:World) (all:List Nat) (v':Value) (x:Nat) (w':World):Prop:=
 ∃ pre:List Nat,all=pre++iD x/\w'.ownsRow base 5 1 v' (k+pre.length) (xs++pre.map dZ)/\aR w w' v v'
theorem eL.start {v:Value} (x:Nat) (h:w.ownsRow base 5 1 v k xs):eL base k v xs w (iD x) v x w:=
 ⟨[],rfl,by simpa using h,aR.refl w v⟩
theorem eL.step {v:Value}
  (ha:all=pre++iD x) (hg:aR w w' v v') (hx:128<=x)
  (hown:w''.ownsRow base 5 1 v'' (k+pre.length+1) (xs++(pre.map dZ++[.int .u8 ((x:Int) % 128+128)]))) (hg2:aR (w'.alloc o) w'' v' v''):eL base k v xs w all v'' (x / 128) w'':=by
 refine ⟨pre++[x % 128+128],by rw [ha,nL hx,List.append_assoc];rfl,?_,(hg.alloc o).trans hg2⟩;have e:dZ (x % 128+128)=.int .u8 ((x:Int) % 128+128):=by unfold dZ;congr 1
 rw [List.map_append,List.length_append];simpa [e,Nat.add_assoc] using hown
theorem eL.done {v:Value}
  (ha:all=pre++iD x) (hg:aR w w' v v') (hx:¬ 128<=x)
  (hown:w''.ownsRow base 5 1 v'' (k+pre.length+1) (xs++(pre.map dZ++[.int .u8 (x:Int)]))) (hg2:aR (w'.alloc o) w'' v' v''):BV base k v xs w all (.returned v'') w'':=by
 refine ⟨v'',rfl,?_,(hg.alloc o).trans hg2⟩;rw [ha,iC (by omega),List.map_append,List.length_append];simpa [dZ,Nat.add_assoc] using hown
theorem DF (ha:all=pre++iD x) (hl:all.length<=10):pre.length+1<=10:=by
 have:=vL x;rw [ha,List.length_append] at hl;omega
theorem cT (base k:Nat) (v:Value) (xs:List Value) (n:Int) (w:World) (hown:w.ownsRow base 5 1 v k xs) (hbase:base<=w.heap.size) (hk:k<=1000000000000) (hn1:-9223372036854775808<=n) (hn2:n<=9223372036854775807):
  Calls Tryz.prog 17 #[v,.int .i64 n] w (BV base k v xs w (bN n)):=by
 obtain ⟨i0,hi,hz0,hz1,hz2⟩:=info_parts fM;have hlen:=lN hn1 hn2;obtain ⟨all,ha0⟩:∃ all,all=bN n:=⟨_,rfl⟩;rw [<- ha0] at hlen ⊢;have hz:all=iD (tE n):=ha0;have HZ:=hD hz;clear hz ha0;have hst:Hid (eL base k v xs w all v (tE n) w):=by rw [HZ.out];exact eL.start _ hown
 have hb1:=fun h=>BM n h hn1;have hb2:=yD n;have HB1:=hD hb1;have HB2:=hD hb2;clear hb1 hb2;by_cases hn:n < 0
 all_goals
  go_enter Tryz.func17,Tryz.ntmps17;go_wp2_with fail;go_loopw [0,5] (fun v' u wr=>∃ (x:Nat),u=.int .u64 x/\eL base k v xs w all v' x wr) (fun _ i _=>(intOf i).toNat)
  case atStart=>exact ⟨tE n,by first | rw [HB1.out hn] | rw [HB2.out hn],hst⟩
  case round=>
   obtain ⟨x,rfl,pre,ha,hown1,hg⟩:=hrel;have hl10:=DF ha hlen;have hsz:=hg.size;have HA:=hD ha;have hor:=xP x;clear hown ha hn1 hn2;by_cases hlt:128<=x
   ·go_wp2_with (at_builtin;refine aF _ rfl (.tmp 15) (.tmp 19) 25 25 rfl base 5 i0 (.int .u8 0) 1 1 Tryz.underlying25 hi hz0 hz1 hz2 rfl (by decide) _ _ _ rfl (hown1.alloc _) _ 1 _ rfl (bR _ Tryz.underlying25 [_] 1 1 1 5 rfl (fun u hu=>by simp at hu;subst hu;rfl)) (by unfold maxLen;omega) (by omega) (by simp;omega) ?_);intro v2 w2 hown2 hg2;have R:=eL.step HA.out hg hlt hown2 hg2;clear hown2 hg2 hown1 hor;go_wp2_with fail;go_roundw
    case rel=>exact ⟨x / 128,by go_num,R⟩
    case measure=>simp [intOf];omega
   ·go_wp2_with (at_builtin;refine aF _ rfl (.tmp 23) (.tmp 26) 25 25 rfl base 5 i0 (.int .u8 0) 1 1 Tryz.underlying25 hi hz0 hz1 hz2 rfl (by decide) _ _ _ rfl (hown1.alloc _) _ 1 _ rfl (bR _ Tryz.underlying25 [_] 1 1 1 5 rfl (fun u hu=>by simp at hu;subst hu;rfl)) (by unfold maxLen;omega) (by omega) (by simp;omega) ?_);intro v2 w2 hown2 hg2;have R:=eL.done HA.out hg hlt hown2 hg2;clear hown2 hg2 hown1 hor;go_wp2_with fail;go_ret;exact R
def Rd (w:World) (r:Nat) (A:Option Addr) (n c:Nat):Option Nat->Prop
 | some p=>aK w r 54 #[.slice A n c,.int .i64 (p:Int),.bool false]/\p<=n
 | none=>∃ z:Int,aK w r 54 #[.slice A n c,.int .i64 z,.bool true]
theorem gP (r:Nat) (A:Option Addr) (n c p x:Nat) (bs:List Nat) (w:World) (hb:aK w r 54 #[.slice A n c,.int .i64 (p:Int),.bool false]) (hp:p < n) (hn:n<=1000000000000)
  (hr:aG w r 1 A n (bs.map dZ)) (hx:bs[p]?=some x):
  Calls Tryz.prog 81 #[.pointer (some ⟨r,0,none⟩)] w fun e w'=>e=.returned (.int .u8 (x:Int))/\aK w' r 54 #[.slice A n c,.int .i64 ((p:Int)+1),.bool false]/\w.grownBy w' (some r):=by
 obtain ⟨b,off,u,rfl,had,hu,hcell⟩:=hr.at1 hp;obtain rfl:u=.int .u8 (x:Int):=by
  rw [List.getElem?_map,hx] at hu;simpa [dZ] using hu.symm
 have c0:=hb.cell 0;have c1:=hb.cell 1;have c2:=hb.cell 2;have f1:=hb.frozen 1;simp at c0 c1 c2;have hlt:¬ n<=p:=by omega
 have hd:decide (n<=p)=false:=by simpa using hlt
 have hne:¬ b=r:=by omega
 have HB:=hD hb;clear hr hu hb hx;go_enter Tryz.func81,Tryz.ntmps81;go_wp2_with fail;go_quiet (fail);go_wp2_with fail;go_quiet (fail);go_wp2_with fail;go_ret;refine ⟨rfl,?_,?_⟩
 ·exact ((HB.out.drewN _).set_ 1 _).drewN _
 ·exact bS (aW (bS (World.grownBy.refl w _) _) (.inl rfl) _) _
theorem mC (r:Nat) (A:Option Addr) (n c p:Nat) (w:World) (hb:aK w r 54 #[.slice A n c,.int .i64 (p:Int),.bool false]) (hp:n<=p):
  Calls Tryz.prog 81 #[.pointer (some ⟨r,0,none⟩)] w fun e w'=>e=.returned (.int .u8 0)/\aK w' r 54 #[.slice A n c,.int .i64 (p:Int),.bool true]/\w.grownBy w' (some r):=by
 have c0:=hb.cell 0;have c1:=hb.cell 1;have c2:=hb.cell 2;have f2:=hb.frozen 2;simp at c0 c1 c2;have hd:decide (n<=p)=true:=by simpa using hp
 have HB:=hD hb;clear hb;go_enter Tryz.func81,Tryz.ntmps81;go_wp2_with fail;go_quiet (fail);go_wp2_with fail;go_ret;refine ⟨rfl,?_,?_⟩
 ·exact (HB.out.drewN _).set_ 2 _
 ·exact aW (bS (World.grownBy.refl w _) _) (.inl rfl) _
theorem qY (r:Nat) (A:Option Addr) (n c:Nat) (z:Int) (w:World) (hb:aK w r 54 #[.slice A n c,.int .i64 z,.bool true]):
  Calls Tryz.prog 81 #[.pointer (some ⟨r,0,none⟩)] w fun e w'=>e=.returned (.int .u8 0)/\aK w' r 54 #[.slice A n c,.int .i64 z,.bool true]/\w.grownBy w' (some r):=by
 have c2:=hb.cell 2;have f2:=hb.frozen 2;simp at c2;have HB:=hD hb;clear hb;go_enter Tryz.func81,Tryz.ntmps81;go_wp2_with fail;go_quiet (fail);go_wp2_with fail;go_ret;refine ⟨rfl,?_,?_⟩
 ·exact (HB.out.drewN _).set_ 2 _
 ·exact aW (bS (World.grownBy.refl w _) _) (.inl rfl) _
def jD (w:World) (r:Nat) (A:Option Addr) (n c:Nat) (o:Option (Int × Nat)) (e:Ending) (w':World):Prop:=
 e=.returned (.int .i64 ((o.map (·.1)).getD 0))/\Rd w' r A n c (o.map (·.2))/\w.grownBy w' (some r)
theorem kW (r:Nat) (A:Option Addr) (n c:Nat) (z:Int) (w:World) (hb:aK w r 54 #[.slice A n c,.int .i64 z,.bool true]):
  Calls Tryz.prog 41 #[.pointer (some ⟨r,0,none⟩)] w (jD w r A n c none):=by
 go_enter Tryz.func41,Tryz.ntmps41;go_wp2_with fail;refine wp_loop_rounds 1 ?_;rw [rounds_succ];go_wp2_with fail;refine (qY r A n c z w hb).mono ?_;rintro e w1 ⟨rfl,hb1,hg1⟩;have c2:=hb1.cell 2;simp at c2;have HB:=hD hb1;have HG:=hD hg1;clear hb1 hg1 hb;go_wp2_with fail;go_ret;exact ⟨rfl,⟨z,HB.out⟩,HG.out⟩
def xZ (w:World) (r:Nat) (A:Option Addr) (n c p:Nat) (bs:List Nat) (i acc:Nat) (wr:World):Prop:=
 acc < 2 ^ (7*i)/\p+i<=n/\fH 0 0 (bs.drop p)=fH i acc (bs.drop (p+i))/\aK wr r 54 #[.slice A n c,.int .i64 ((p+i:Nat):Int),.bool false]/\w.grownBy wr (some r)
theorem Dl (x:Nat) (h:x < 256):bits BinOp.and IntKind.u8 (x:Int) 127=(x:Int) % 128:=by
 rw [show (127:Int)=((127:Nat):Int) from rfl,u8_and_nat x 127 h (by omega),nat_mask7];omega
theorem Dv (h:acc < 2 ^ (7*i)) (hi:i<=9) (hx:¬ (i=9/\1 < x)) (hU:acc+x % 128*2 ^ (7*i)=U):U < 18446744073709551616:=by
 have:=sY h hi hx;omega
theorem uS (h:acc < 2 ^ (7*i)) (hi:i<=9) (hx:¬ (i=9/\1 < x)) (hU:acc+x % 128*2 ^ (7*i)=U):
  bits BinOp.or IntKind.u64 (acc:Int) (IntKind.u64.wrap ((x:Int) % 128*2 ^ (7*i)))=(U:Int):=by
 have h1:=sY h hi hx;have h0:0 < 2 ^ (7*i):=Nat.pow_pos (by omega);have e:((x:Int) % 128*2 ^ (7*i))=((x % 128*2 ^ (7*i):Nat):Int):=by simp
 have e2:IntKind.u64.wrap ((x % 128*2 ^ (7*i):Nat):Int)=((x % 128*2 ^ (7*i):Nat):Int):=by
  rw [IntKind.wrap_u64];generalize x % 128*2 ^ (7*i)=y at*;omega
 rw [e,e2,Cz h hi hx,hU]
theorem jG (U:Nat) (h:U < 18446744073709551616):wrap64 ((U:Int) / 2)=(U:Int) / 2:=IntWalk.wrap64_in _ ⟨by omega,by omega⟩
theorem AL (U:Nat) (h:U < 18446744073709551616):bits BinOp.xor IntKind.i64 (-1) ((U:Int) / 2)=-((U:Int) / 2) - 1:=by
 have e:((U:Int) / 2)=((U / 2:Nat):Int):=by omega
 have hlt:U / 2 < 9223372036854775808:=by omega
 rw [e];generalize U / 2=y at hlt;show IntKind.i64.wrap ((BitVec.ofInt 64 (-1) ^^^ BitVec.ofInt 64 (y:Int)).toNat:Int)=_;have e1:BitVec.ofInt 64 (-1)=BitVec.allOnes 64:=by decide
 rw [e1,<- BitVec.not_def,BitVec.toNat_not,BitVec.ofInt_natCast,BitVec.toNat_ofNat,Nat.mod_eq_of_lt (by omega),IntKind.wrap_i64];omega
theorem CJ (U:Nat) (h:U < 18446744073709551616):(bits BinOp.and IntKind.u64 (U:Int) 1 == 1)=decide (U % 2=1):=by
 rw [show (1:Int)=((1:Nat):Int) from rfl,u64_and_nat U 1 h (by omega),nat_mask1,Bool.eq_iff_iff,beq_iff_eq,decide_eq_true_eq];omega
theorem qI (h:U % 2=1):iL U=-((U:Int) / 2) - 1:=by unfold iL;rw [if_pos h];omega
theorem nT (h:¬ U % 2=1):iL U=(U:Int) / 2:=by unfold iL;rw [if_neg h];omega
theorem zS (hi:i<=9) (h:¬ ((i=9/\1 < x)\/(0 < i/\x=0))):
  (((7:Int)*(i:Int) == 63)=true/\decide ((1:Int) < (x:Int))=false/\decide ((0:Int) < 7*(i:Int))=true/\((x:Int) == 0)=false)\/
  (((7:Int)*(i:Int) == 63)=false/\decide ((1:Int) < (x:Int))=decide ((1:Int) < (x:Int))/\decide ((0:Int) < 7*(i:Int))=true/\((x:Int) == 0)=false)\/
  (((7:Int)*(i:Int) == 63)=false/\decide ((1:Int) < (x:Int))=decide ((1:Int) < (x:Int))/\decide ((0:Int) < 7*(i:Int))=false/\((x:Int) == 0)=((x:Int) == 0)):=by
 by_cases h9:i=9
 ·exact .inl ⟨by rw [beq_iff_eq];omega,by rw [decide_eq_false_iff_not];omega,by rw [decide_eq_true_eq];omega,by rw [beq_eq_false_iff_ne];omega⟩
 ·by_cases h0:0 < i
  ·exact .inr (.inl ⟨by rw [beq_eq_false_iff_ne];omega,rfl,by rw [decide_eq_true_eq];omega,by rw [beq_eq_false_iff_ne];omega⟩)
  ·exact .inr (.inr ⟨by rw [beq_eq_false_iff_ne];omega,rfl,by rw [decide_eq_false_iff_not];omega,rfl⟩)
theorem uE (h:bs.length<=q):fH i acc (bs.drop q)=none:=by rw [List.drop_eq_nil_of_le h];rfl
theorem yL (h:bs[q]?=some x) (hx:(i=9/\1 < x)\/(0 < i/\x=0)):fH i acc (bs.drop q)=none:=by rw [mJ h,fH,if_pos hx]
theorem qS (h:bs[q]?=some x) (hx:¬ ((i=9/\1 < x)\/(0 < i/\x=0))) (hl:x < 128):fH i acc (bs.drop q)=some (acc+x % 128*2 ^ (7*i),i+1):=by rw [mJ h,fH,if_neg hx,if_pos hl]
theorem qR (h:bs[q]?=some x) (hx:¬ ((i=9/\1 < x)\/(0 < i/\x=0))) (hl:¬ x < 128):fH i acc (bs.drop q)=fH (i+1) (acc+x % 128*2 ^ (7*i)) (bs.drop (q+1)):=by rw [mJ h,fH,if_neg hx,if_neg hl]
theorem jM (h:fH 0 0 (bs.drop p)=none):bC bs p=none:=by unfold bC;rw [h];rfl
theorem rA (h:fH 0 0 (bs.drop p)=some (u,k)):bC bs p=some (iL u,p+k):=by unfold bC;rw [h];rfl
theorem mD (r:Nat) (A:Option Addr) (n c p:Nat) (bs:List Nat) (w:World) (hb:aK w r 54 #[.slice A n c,.int .i64 (p:Int),.bool false]) (hp:p<=n) (hn:n<=1000000000000)
  (hr:aG w r 1 A n (bs.map dZ)) (hbs:∀ x∈bs,x < 256):
  Calls Tryz.prog 41 #[.pointer (some ⟨r,0,none⟩)] w (jD w r A n c (bC bs p)):=by
 have hlen:bs.length=n:=by have:=hr.1;simpa using this
 have hst:Hid (xZ w r A n c p bs 0 0 w):=⟨by simp,hp,rfl,hb,World.grownBy.refl w _⟩;have hb0:=hb.lt;have HR:=hD hr;have HS:=hD hbs;have HL:=hD hlen;clear hr hbs hlen hb;go_enter Tryz.func41,Tryz.ntmps41;go_wp2_with fail;go_loopw [3,4] (fun u sh wr=>∃ i acc:Nat,i<=9/\u=.int .u64 (acc:Int)/\sh=.int .i64 (7*(i:Int))/\xZ w r A n c p bs i acc wr) (fun _ sh _=>(70 - intOf sh).toNat)
 case atStart=>exact ⟨0,0,by omega,rfl,rfl,hst⟩
 case round=>
  obtain ⟨i,acc,hi,rfl,rfl,hacc,hpi,hsc,hbk,hg⟩:=hrel;have HA:=hD hacc;have HSC:=hD hsc;have HG:=hD hg;clear hacc hsc hg;by_cases he:n<=p+i
  ·have hno:bC bs p=none:=jM (HSC.out.trans (uE (by rw [HL.out];exact he)));have HN:=hD hno;clear hno;have h63:i=0\/0 < i:=by omega
   rcases h63 with h0 | h0
   ·subst h0;go_wp2_with fail;refine (mC r A n c (p+0) _ hbk he).mono ?_;rintro e w1 ⟨rfl,hb1,hg1⟩;have c2:=hb1.cell 2;have f2:=hb1.frozen 2;simp at c2;have HB:=hD hb1;have HG1:=hD hg1;clear hb1 hg1 hbk;go_wp2_with fail;go_ret;rw [HN.out];exact ⟨rfl,⟨_,HB.out⟩,HG.out.trans HG1.out⟩
   ·have hgt:decide ((0:Int) < 7*(i:Int))=true:=by simp;omega
    have h0':((7:Int)*(i:Int) == 63)=true\/((7:Int)*(i:Int) == 63)=false:=by cases ((7:Int)*(i:Int) == 63) <;> simp
    rcases h0' with h63 | h63
    all_goals
     go_wp2_with fail;refine (mC r A n c (p+i) _ hbk he).mono ?_;rintro e w1 ⟨rfl,hb1,hg1⟩;have c2:=hb1.cell 2;have f2:=hb1.frozen 2;simp at c2;have HB:=hD hb1;have HG1:=hD hg1;clear hb1 hg1 hbk;go_wp2_with fail;go_ret;rw [HN.out];exact ⟨rfl,⟨_,HB.out.set_ 2 _⟩,aW (HG.out.trans HG1.out) (.inl rfl) _⟩
  ·obtain ⟨x,hx⟩:∃ x,bs[p+i]?=some x:=⟨bs[p+i]'(by rw [HL.out];omega),List.getElem?_eq_getElem _⟩;have hx256:x < 256:=HS.out x (List.mem_of_getElem? hx);have hrd:aG wr r 1 A n (bs.map dZ):=(HR.out).keep (fun q hq=>World.cell?_of_block (HG.out.block q.block (by have:=hb0;omega) (fun e=>by injection e;omega)));have hand:=Dl x hx256;by_cases hb1:(i=9/\1 < x)\/(0 < i/\x=0)
   ·have hno:bC bs p=none:=jM (HSC.out.trans (yL hx hb1));have HN:=hD hno;clear hno;have key:∀ w1:World,Hid (aK w1 r 54 #[.slice A n c,.int .i64 (((p+i:Nat):Int)+1),.bool false])->Hid (wr.grownBy w1 (some r))->
      jD w r A n c (bC bs p) (.returned (.int .i64 0)) (w1.setCell ⟨r,2,none⟩ (.bool true)):=fun w1 HB HG1=>by
     rw [HN.out];exact ⟨rfl,⟨_,HB.out.set_ 2 _⟩,aW (HG.out.trans HG1.out) (.inl rfl) _⟩
    have KEY:=hD key;clear key;have h0':((7:Int)*(i:Int) == 63)=true\/((7:Int)*(i:Int) == 63)=false:=by cases ((7:Int)*(i:Int) == 63) <;> simp
    have h1':((x:Int) == 0)=true\/((x:Int) == 0)=false:=by cases ((x:Int) == 0) <;> simp
    have h2':decide ((1:Int) < (x:Int))=true\/decide ((1:Int) < (x:Int))=false:=by cases decide ((1:Int) < (x:Int)) <;> simp
    rcases hb1 with ⟨h9,h1⟩ | ⟨h9,h1⟩
    ·have hgt:decide ((1:Int) < (x:Int))=true:=by simp;omega
     have h63:((7:Int)*(i:Int) == 63)=true:=by rw [beq_iff_eq];omega
     clear h0' h1' h2' hx256 h9 hi;go_wp2_with fail;refine (gP r A n c (p+i) x bs _ hbk (by omega) hn hrd hx).mono ?_;rintro e w1 ⟨rfl,hb1,hg1⟩;have c2:=hb1.cell 2;have f2:=hb1.frozen 2;simp at c2;have HB:=hD hb1;have HG1:=hD hg1;clear hb1 hg1 hbk hx hrd;go_wp2_with fail;go_ret;exact KEY.out w1 HB HG1
    ·obtain rfl:x=0:=h1;clear h1' h2' hx256;have hgt:decide ((0:Int) < 7*(i:Int))=true:=by simp;omega
     rcases h0' with h63 | h63
     all_goals
      go_wp2_with fail;refine (gP r A n c (p+i) 0 bs _ hbk (by omega) hn hrd hx).mono ?_;rintro e w1 ⟨rfl,hb1,hg1⟩;have c2:=hb1.cell 2;have f2:=hb1.frozen 2;simp at c2;have HB:=hD hb1;have HG1:=hD hg1;clear hb1 hg1 hbk hx hrd;go_wp2_with fail;go_ret;exact KEY.out w1 HB HG1
   ·obtain ⟨U,hUe⟩:=nm (acc+x % 128*2 ^ (7*i));have hUl:=Dv HA.out hi (fun h=>hb1 (.inl h)) hUe;have hor:=uS HA.out hi (fun h=>hb1 (.inl h)) hUe;have hw:=jG U hUl;have hxor:=AL U hUl;have hodd:(bits BinOp.and IntKind.u64 (U:Int) 1 == 1)=decide (U % 2=1):=CJ U hUl;have hacc2:U < 2 ^ (7*(i+1)):=by rw [<- hUe];exact pK HA.out
    have HU:=hD hacc2;have HUe:=hD hUe;have HB1:=hD hb1;have HOD:=hD hodd;have HXO:=hD hxor;have hcase:=zS hi hb1;clear hacc2 hUe hUl hb1 hodd hxor;by_cases hl:x < 128
    ·have hyes:bC bs p=some (iL U,p+(i+1)):=rA (HSC.out.trans (by rw [qS hx HB1.out hl,HUe.out]));have HY:=hD hyes;clear hyes;have key:∀ w1:World,Hid (aK w1 r 54 #[.slice A n c,.int .i64 (((p+i:Nat):Int)+1),.bool false])->Hid (wr.grownBy w1 (some r))->
       jD w r A n c (bC bs p) (.returned (.int .i64 (iL U))) w1:=fun w1 HB HG1=>by
      rw [HY.out];exact ⟨rfl,⟨by have:=HB.out;rw [show (((p+i:Nat):Int)+1)=((p+(i+1):Nat):Int) from by omega] at this;exact this,by show p+(i+1)<=n;omega⟩,HG.out.trans HG1.out⟩
     have KEY:=hD key;clear key;rcases hcase with ⟨t1,t2,t3,t4⟩ | ⟨t1,t2,t3,t4⟩ | ⟨t1,t2,t3,t4⟩
     all_goals
      by_cases ho:U % 2=1
      ·have ho':(bits BinOp.and IntKind.u64 (U:Int) 1 == 1)=true:=by rw [HOD.out];simpa using ho
       have hval:=qI ho;have hxo:=HXO.out;rw [<- hval] at hxo;clear hval ho;go_wp2_with fail;refine (gP r A n c (p+i) x bs _ hbk (by omega) hn hrd hx).mono ?_;rintro e w1 ⟨rfl,hb1,hg1⟩;have c2:=hb1.cell 2;have f2:=hb1.frozen 2;simp at c2;have HB:=hD hb1;have HG1:=hD hg1;clear hb1 hg1 hbk hx hrd;go_wp2_with fail;go_ret;exact KEY.out w1 HB HG1
      ·have ho':(bits BinOp.and IntKind.u64 (U:Int) 1 == 1)=false:=by rw [HOD.out];simpa using ho
       have hval:=nT ho;have HW:=hD hw;clear ho hw;go_wp2_with fail;refine (gP r A n c (p+i) x bs _ hbk (by omega) hn hrd hx).mono ?_;rintro e w1 ⟨rfl,hb1,hg1⟩;have c2:=hb1.cell 2;have f2:=hb1.frozen 2;simp at c2;have HB:=hD hb1;have HG1:=hD hg1;have HV:=hD hval;clear hb1 hg1 hbk hx hrd hval;go_wp2_with fail;go_ret;have K2:=KEY.out w1 HB HG1;rw [HV.out,<- HW.out] at K2;exact K2
    ·have hi8:i<=8:=by have:=HB1.out;omega
     have hnext:fH 0 0 (bs.drop p)=fH (i+1) U (bs.drop (p+(i+1))):=HSC.out.trans (by rw [qR hx HB1.out hl,HUe.out];rfl);have HN:=hD hnext;clear hnext;have key:∀ w1:World,Hid (aK w1 r 54 #[.slice A n c,.int .i64 (((p+i:Nat):Int)+1),.bool false])->Hid (wr.grownBy w1 (some r))->
       xZ w r A n c p bs (i+1) U w1:=fun w1 HB HG1=>
      ⟨HU.out,by omega,HN.out,by have:=HB.out;rw [show (((p+i:Nat):Int)+1)=((p+(i+1):Nat):Int) from by omega] at this;exact this,HG.out.trans HG1.out⟩
     have KEY:=hD key;clear key;rcases hcase with ⟨t1,t2,t3,t4⟩ | ⟨t1,t2,t3,t4⟩ | ⟨t1,t2,t3,t4⟩
     all_goals
      go_wp2_with fail;refine (gP r A n c (p+i) x bs _ hbk (by omega) hn hrd hx).mono ?_;rintro e w1 ⟨rfl,hb1,hg1⟩;have c2:=hb1.cell 2;have f2:=hb1.frozen 2;simp at c2;have HB:=hD hb1;have HG1:=hD hg1;clear hb1 hg1 hbk hx hrd;go_wp2_with fail;go_roundw
      case rel=>exact ⟨i+1,U,by omega,rfl,by go_num,KEY.out w1 HB HG1⟩
      case measure=>simp [intOf];omega
theorem yU (A:Option Addr) (n c:Nat) (z:Int) (w:World) (h0:0<=z) (h1:z<=n) (hn:n<=1000000000000):
  Calls Tryz.prog 21 #[.slice A n c,.int .i64 z] w fun e w'=>e=.returned (.pointer (some ⟨w.heap.size,0,none⟩))/\w.alloc (.cells #[.slice A n c,.int .i64 z,.bool false] 54)=w':=by
 have d1:decide (z < 0)=false:=by simp;omega
 have d2:decide ((n:Int) < z)=false:=by simp;omega
 go_enter Tryz.func21,Tryz.ntmps21;go_wp2_with fail
 all_goals go_ret
 all_goals exact ⟨rfl,rfl⟩
theorem Bv (A:Option Addr) (n c:Nat) (z:Int) (w:World) (h:z < 0\/(n:Int) < z) (hn:n<=1000000000000):
  Calls Tryz.prog 21 #[.slice A n c,.int .i64 z] w fun e w'=>e=.returned (.pointer (some ⟨w.heap.size,0,none⟩))/\w.alloc (.cells #[.slice A n c,.int .i64 z,.bool true] 54)=w':=by
 by_cases h0:z < 0
 ·have d1:decide (z < 0)=true:=by simpa using h0
  go_enter Tryz.func21,Tryz.ntmps21;go_wp2_with fail;go_ret;exact ⟨rfl,rfl⟩
 ·have d1:decide (z < 0)=false:=by simpa using h0
  have d2:decide ((n:Int) < z)=true:=by simp;omega
  go_enter Tryz.func21,Tryz.ntmps21;go_wp2_with fail;go_ret;exact ⟨rfl,rfl⟩
def jT (bs:List Nat) (z:Int):Option (Int × Nat):=if 0<=z/\z<=bs.length then bC bs z.toNat else none
def pY:Option (Int × Nat)->Ending
 | some y=>.returned (.tuple #[.int .i64 y.1,.int .i64 (y.2:Int),.int .i64 0])
 | none=>.returned (.tuple #[.int .i64 0,.int .i64 0,.int .i64 13])
theorem nK (hl:bs.length=n) (h:p<=n):jT bs (p:Int)=bC bs p:=by
 unfold jT;rw [if_pos ⟨by omega,by omega⟩];simp
theorem vH {z:Int} (hl:bs.length=n) (h:z < 0\/(n:Int) < z):jT bs z=none:=by
 unfold jT;rw [if_neg (by omega)]
theorem oY (A:Option Addr) (n c:Nat) (z:Int) (bs:List Nat) (w:World) (hn:n<=1000000000000) (hr:aG w w.heap.size 1 A n (bs.map dZ)) (hbs:∀ x∈bs,x < 256):
  Calls Tryz.prog 27 #[.slice A n c,.int .i64 z] w fun e w'=>e=pY (jT bs z)/\Below w.heap.size w w':=by
 have hl:bs.length=n:=by have:=hr.1;simpa using this
 by_cases hz:z < 0\/(n:Int) < z
 ·rw [vH hl hz];have hb:=aK.new w 54 #[.slice A n c,.int .i64 z,.bool true];have HR:=hD hr;have HS:=hD hbs;clear hr hbs hl;go_enter Tryz.func27,Tryz.ntmps27;go_wp2_with fail;refine (Bv A n c z w hz hn).mono ?_;rintro e w1 ⟨rfl,rfl⟩;go_wp2_with fail;refine (kW w.heap.size A n c z _ hb).mono ?_;rintro e w2 ⟨rfl,⟨z2,hb2⟩,hg2⟩;have c2:=hb2.cell 2;simp at c2;have HG:=hD hg2;have HB:=hD hb;clear hg2 hb2 hb;go_wp2_with fail
  go_ret3
  exact ⟨rfl,((Below.refl _ w).alloc (Nat.le_refl _) _).grown HG.out (by simp) (fun k hk=>by injection hk;omega)⟩
 ·obtain ⟨p,rfl⟩:=Int.eq_ofNat_of_zero_le (show 0<=z by omega);have hp:p<=n:=by omega
  rw [nK hl hp];have hb:=aK.new w 54 #[.slice A n c,.int .i64 (p:Int),.bool false];have hr2:aG (w.alloc (.cells #[.slice A n c,.int .i64 (p:Int),.bool false] 54)) w.heap.size 1 A n (bs.map dZ):=hr.alloc (Nat.le_refl _) _;have HN:=hD (mD w.heap.size A n c p bs _ hb hp hn hr2 hbs);clear hr hbs hl hr2 hb;generalize bC bs p=o at HN ⊢;rcases o with _ | ⟨x,q⟩
  all_goals
   go_enter Tryz.func27,Tryz.ntmps27;go_wp2_with fail;refine (yU A n c (p:Int) w (by omega) (by omega) hn).mono ?_;rintro e w1 ⟨rfl,rfl⟩;go_wp2_with fail;refine (HN.out).mono ?_;rintro e w2 ⟨rfl,hrd,hg2⟩;have HG:=hD (((Below.refl w.heap.size w).alloc (Nat.le_refl _) _).grown hg2 (by simp) (fun k hk=>by injection hk;omega));clear hg2 HN
  ·obtain ⟨z2,hb2⟩:=hrd;have c2:=hb2.cell 2;simp at c2;clear hb2;go_wp2_with fail
   go_ret3
   exact ⟨rfl,HG.out⟩
  ·obtain ⟨hb2,hq⟩:=hrd;have c1:=hb2.cell 1;have c2:=hb2.cell 2;simp at c1 c2;clear hb2;go_wp2_with fail;go_quiet (fail);go_wp2_with fail
   go_ret3
   exact ⟨rfl,aN HG.out _⟩
theorem yM {a b x:Int} (ha:a=x) (hb:b=(q:Int)):Ending.returned (.tuple #[.int .i64 a,.int .i64 b,.int .i64 0])=pY (some (x,q)):=by subst ha;subst hb;rfl
theorem Ci (h:U < 18446744073709551616) (ho:((U:Int) % 2 == 1)=true):wrap64 (wrap64 (-wrap64 (IntKind.u64.wrap ((U:Int) / 2))) - 1)=iL U:=by
 rw [beq_iff_eq] at ho;have e:IntKind.u64.wrap ((U:Int) / 2)=(U:Int) / 2:=by rw [IntKind.wrap_u64];omega
 rw [qI (by omega),e,jG U h,IntWalk.wrap64_in (-((U:Int) / 2)) ⟨by omega,by omega⟩,IntWalk.wrap64_in _ ⟨by omega,by omega⟩]
theorem AQ (h:U < 18446744073709551616) (ho:((U:Int) % 2 == 1)=false):wrap64 (IntKind.u64.wrap ((U:Int) / 2))=iL U:=by
 rw [beq_eq_false_iff_ne] at ho;have e:IntKind.u64.wrap ((U:Int) / 2)=(U:Int) / 2:=by rw [IntKind.wrap_u64];omega
 rw [nT (by omega),e,jG U h]
theorem wU (hi:i<=9) (h:¬ ((i=9/\1 < x)\/(0 < i/\x=0))):
  (((i:Int) == 9)=true/\decide ((1:Int) < (x:Int))=false/\decide ((0:Int) < (i:Int))=true/\((x:Int) == 0)=false)\/
  (((i:Int) == 9)=false/\decide ((1:Int) < (x:Int))=decide ((1:Int) < (x:Int))/\decide ((0:Int) < (i:Int))=true/\((x:Int) == 0)=false)\/
  (((i:Int) == 9)=false/\decide ((1:Int) < (x:Int))=decide ((1:Int) < (x:Int))/\decide (0 < i)=false/\i<=0):=by
 by_cases h9:i=9
 ·exact .inl ⟨by rw [beq_iff_eq];omega,by rw [decide_eq_false_iff_not];omega,by rw [decide_eq_true_eq];omega,by rw [beq_eq_false_iff_ne];omega⟩
 ·by_cases h0:0 < i
  ·exact .inr (.inl ⟨by rw [beq_eq_false_iff_ne];omega,rfl,by rw [decide_eq_true_eq];omega,by rw [beq_eq_false_iff_ne];omega⟩)
  ·exact .inr (.inr ⟨by rw [beq_eq_false_iff_ne];omega,rfl,by rw [decide_eq_false_iff_not];omega,by omega⟩)
theorem eH (A:Option Addr) (n c:Nat) (z:Int) (bs:List Nat) (w:World) (hn:n<=1000000000000) (B:Nat) (hr:aG w B 1 A n (bs.map dZ)) (hbs:∀ x∈bs,x < 256):
  Calls Tryz.prog 83 #[.slice A n c,.int .i64 z] w fun e w'=>e=pY (jT bs z)/\w=w':=by
 have hl:bs.length=n:=by have:=hr.1;simpa using this
 by_cases hz:z < 0\/(n:Int) < z
 ·rw [vH hl hz];clear hr hbs hl;go_enter Tryz.func83,Tryz.ntmps83;go_wp2_with fail
  all_goals go_ret3
  all_goals exact ⟨rfl,rfl⟩
 ·obtain ⟨p,rfl⟩:=Int.eq_ofNat_of_zero_le (show 0<=z by omega);have hp:p<=n:=by omega
  rw [nK hl hp];have HR:=hD hr;have HS:=hD hbs;have HL:=hD hl;clear hr hbs hl hz;have d1:decide ((p:Int) < 0)=false:=by simp
  have d2:decide (n < p)=false:=by simp;omega
  go_enter Tryz.func83,Tryz.ntmps83;go_wp2_with fail
  go_loop [7,8] (fun u s=>∃ i acc:Nat,i<=9/\p+i<=n/\u=.int .u64 (acc:Int)/\s=.int .i64 (i:Int)/\Hid (acc < 2 ^ (7*i))/\Hid (fH 0 0 (bs.drop p)=fH i acc (bs.drop (p+i)))) (fun _ s=>(10 - intOf s).toNat)
  case atStart=>exact ⟨0,0,by omega,by omega,rfl,rfl,by show (0:Nat) < 2 ^ (7*0);simp,rfl⟩
  case round=>
   obtain ⟨i,acc,hi,hpi,rfl,rfl,HA,HSC⟩:=hrel;by_cases he:n<=p+i
   ·have hno:=jM (HSC.out.trans (uE (by rw [HL.out];exact he)));have HN:=hD hno;clear hno;go_wp2_with fail
    go_ret3
    rw [HN.out];exact ⟨rfl,rfl⟩
   ·obtain ⟨x,hx⟩:∃ x,bs[p+i]?=some x:=⟨bs[p+i]'(by rw [HL.out];omega),List.getElem?_eq_getElem _⟩;have hx256:x < 256:=HS.out x (List.mem_of_getElem? hx);obtain ⟨b,off,u,rfl,had,hu,hcell⟩:=(HR.out).at1 (show p+i < n by omega);obtain rfl:u=.int .u8 (x:Int):=by
     rw [List.getElem?_map,hx] at hu;simpa [dZ] using hu.symm
    clear hu;have HX:=hD hx;clear hx;by_cases hb1:(i=9/\1 < x)\/(0 < i/\x=0)
    ·have hno:bC bs p=none:=jM (HSC.out.trans (yL HX.out hb1));have HN:=hD hno;clear hno;go_wp2_with fail
     all_goals go_ret3
     all_goals rw [HN.out]
     all_goals exact ⟨rfl,rfl⟩
    ·obtain ⟨U,hUe⟩:=nm (acc+x % 128*2 ^ (7*i));have hUl:=Dv HA.out hi (fun h=>hb1 (.inl h)) hUe;have hor:=uS HA.out hi (fun h=>hb1 (.inl h)) hUe;have hw:=jG U hUl;have hacc2:U < 2 ^ (7*(i+1)):=by rw [<- hUe];exact pK HA.out
     have HU:=hD hacc2;have HUe:=hD hUe;have HB1:=hD hb1;have hcase:=wU hi hb1;have HUL:=hD hUl;have HW:=hD hw;clear hacc2 hUe hUl hb1 hw;by_cases hl:x < 128
     ·have hyes:bC bs p=some (iL U,p+(i+1)):=rA (HSC.out.trans (by rw [qS HX.out HB1.out hl,HUe.out]));have HY:=hD hyes;clear hyes;rcases hcase with ⟨t1,t2,t3,t4⟩ | ⟨t1,t2,t3,t4⟩ | ⟨t1,t2,t3,t4⟩
      all_goals
       go_wp2_with fail
       all_goals go_ret3
       all_goals rw [HY.out]
       all_goals first | exact ⟨yM (Ci HUL.out (by assumption)) (by omega),rfl⟩ | exact ⟨yM (AQ HUL.out (by assumption)) (by omega),rfl⟩
     ·have hi8:i<=8:=by have:=HB1.out;omega
      have hnext:fH 0 0 (bs.drop p)=fH (i+1) U (bs.drop (p+(i+1))):=HSC.out.trans (by rw [qR HX.out HB1.out hl,HUe.out];rfl);have HN:=hD hnext;clear hnext;rcases hcase with ⟨t1,t2,t3,t4⟩ | ⟨t1,t2,t3,t4⟩ | ⟨t1,t2,t3,t4⟩
      all_goals
       go_wp2_with fail
       go_round
       case rel=>exact ⟨i+1,U,by omega,by omega,rfl,by go_num,HU,HN⟩
       case measure=>simp [intOf];omega
def pW (w:World) (bs:List Nat) (e:Ending) (w':World):Prop:=
 ∃ v,e=.returned v/\w'.ownsRow w.heap.size 5 1 v bs.length (bs.map dZ)/\Below w.heap.size w w'
theorem mX (w:World) (e t:TypeId):(w.alloc (.cells #[] e)).ownsRow w.heap.size e 1 (.slice (some ⟨w.heap.size,0,none⟩) 0 0) 0 []:=
 World.ownsRow_made w #[] 0 (Nat.le_refl _) (by unfold maxLen;omega) (by simp)
theorem Az (A:Option Addr) (n c:Nat) (bs:List Nat) (w:World) (hn:n<=1000000000000) (hr:aG w w.heap.size 1 A n (bs.map dZ)):
  Calls Tryz.prog 49 #[.slice A n c] w (pW w bs):=by
 obtain ⟨i0,hi,hz0,hz1,hz2⟩:=info_parts fM;have hl:bs.length=n:=by have:=hr.1;simpa using this
 have hnil:=fun W=>Lib.run_eql_slice_nil (P:=Tryz.prog) W 25 5 A n c 0 0 Tryz.underlying25;rcases A with _ | ad
 ·have h0:n=0:=by
   rcases Nat.eq_zero_or_pos n with h | h
   ·exact h
   ·obtain ⟨_,h,_⟩:=hr.2 h;cases h
  subst h0;obtain rfl:bs=[]:=List.eq_nil_of_length_eq_zero hl;clear hl;go_enter Tryz.func49,Tryz.ntmps49;go_wp2_with fail;go_ret;exact ⟨_,rfl,World.ownsRow_nil _ _ _ _,Below.refl _ _⟩
 ·have hsrc:Src Tryz.prog 1 25 (.slice (some ad) n c) n (bs.map dZ) (w.alloc (.cells #[] 5)):=cQ _ Tryz.underlying25 c (hr.alloc (Nat.le_refl _) _) (sV bs);have HS:=hD hsrc;have HL:=hD hl;clear hr hsrc hl;go_enter Tryz.func49,Tryz.ntmps49;go_wp2_with (at_builtin;refine aF _ rfl (.tmp 5) (.tmp 6) 25 25 rfl w.heap.size 5 i0 (.int .u8 0) 1 1 Tryz.underlying25 hi hz0 hz1 hz2 rfl (by decide) _ _ _ rfl (mX w 5 25) _ n (bs.map dZ) rfl HS.out ?c2 ?c3 ?c4 ?_)
  case c2=>unfold maxLen;omega
  case c3=>omega
  case c4=>simp
  intro v2 w2 hown2 hg2;have R:pW w bs (.returned v2) w2:=⟨v2,rfl,by rw [HL.out];simpa using hown2,((Below.refl _ w).alloc (Nat.le_refl _) _).trans (hg2.below (by simp) (fun g hg=>by simp [Value.ownBlock] at hg;omega))⟩;clear hown2 hg2;go_wp2_with fail;go_ret;exact R
theorem yN {v:Value} {new:List Nat} (hb:Below w.heap.size w w1) (hown:w1.ownsRow w.heap.size 5 1 v bs.length (bs.map dZ)) (h:BV w.heap.size bs.length v (bs.map dZ) w1 new e w2):pW w (bs++new) e w2:=by
 obtain ⟨v',rfl,hown',hg⟩:=h;exact ⟨v',rfl,by rw [List.length_append,List.map_append];exact hown',hb.trans (hg.below hb.size (fun g h=>(hown.lt g h).1))⟩
theorem C5 (A:Option Addr) (n c:Nat) (bs:List Nat) (z:Int) (w:World) (hn:n<=1000000000000) (hr:aG w w.heap.size 1 A n (bs.map dZ)) (hz1:-9223372036854775808<=z) (hz2:z<=9223372036854775807):
  Calls Tryz.prog 26 #[.slice A n c,.int .i64 z] w (pW w (bs++bN z)):=by
 have hl:bs.length=n:=by have:=hr.1;simpa using this
 have HL:=hD hl;have HC:=hD (Az A n c bs w hn hr);clear hl hr;go_enter Tryz.func26,Tryz.ntmps26;go_wp2_with fail;refine (HC.out).mono ?_;rintro e w1 ⟨v1,rfl,hown1,hb1⟩;have hsz:=hb1.size;have HP:=hD (cT w.heap.size bs.length v1 (bs.map dZ) z w1 hown1 hsz (by rw [HL.out];exact hn) hz1 hz2);have HO:=hD hown1;have HB:=hD hb1;clear hown1 hb1 HC;go_wp2_with fail;refine (HP.out).mono ?_;intro e w2 h;have R:=yN HB.out HO.out h;obtain ⟨v',rfl,-,-⟩:=h;go_wp2_with fail;go_ret;exact R
theorem fX (A:Option Addr) (n c:Nat) (bs:List Nat) (z:Int) (w:World) (hn:n<=1000000000000) (hr:aG w w.heap.size 1 A n (bs.map dZ)) (hz1:-9223372036854775808<=z) (hz2:z<=9223372036854775807):
  Calls Tryz.prog 19 #[.slice A n c,.int .i64 z] w (pW w (bs++bN z)):=by
 obtain ⟨i0,hi,hi0,hi1,hi2⟩:=info_parts fM;have hl:bs.length=n:=by have:=hr.1;simpa using this
 have hlen:=lN hz1 hz2;obtain ⟨all,ha0⟩:∃ all,all=bN z:=⟨_,rfl⟩;rw [<- ha0] at hlen ⊢;have hz:all=iD (tE z):=ha0;have HZ:=hD hz;clear hz ha0;have hst:∀ v1 w1,Hid (w1.ownsRow w.heap.size 5 1 v1 n (bs.map dZ))->Hid (eL w.heap.size n v1 (bs.map dZ) w1 all v1 (tE z) w1):=fun v1 w1 h=>by rw [HZ.out];exact eL.start _ h
 have HST:=hD hst;have hb1:=fun h=>Cx z h hz1;have hb2:=yD z;have HB1:=hD hb1;have HZL:=hD (AK hz1 hz2);have HB2:=hD hb2;have hsrc:Src Tryz.prog 1 25 (.slice A n c) n (bs.map dZ) (w.alloc (.cells #[] 5)):=cQ _ Tryz.underlying25 c (hr.alloc (Nat.le_refl _) _) (sV bs);have HS:=hD hsrc;have HL:=hD hl;clear hb1 hb2 hst hr hsrc hl;by_cases hn0:z < 0
 all_goals
  go_enter Tryz.func19,Tryz.ntmps19;go_wp2_with (at_builtin;refine aF _ rfl (.tmp 17) (.tmp 18) 25 25 rfl w.heap.size 5 i0 (.int .u8 0) 1 1 Tryz.underlying25 hi hi0 hi1 hi2 rfl (by decide) _ _ _ rfl (mX w 5 25) _ n (bs.map dZ) rfl HS.out (by unfold maxLen;omega) (by omega) (by simp) ?_);intro v1 w1 hown1 hg1;have hst2:=HST.out v1 w1 (show World.ownsRow _ _ _ _ _ _ _ by simpa using hown1);have hbw:Below w.heap.size w w1:=((Below.refl _ w).alloc (Nat.le_refl _) _).trans (hg1.below (by simp) (fun g hg=>by simp [Value.ownBlock] at hg;omega));have hsz1:=hbw.size;have HBW:=hD hbw;have ho1:w1.ownsRow w.heap.size 5 1 v1 bs.length (bs.map dZ):=by rw [HL.out];simpa using hown1
  have HO1:=hD ho1;clear hown1 hg1 hbw ho1;go_wp2_with fail;go_loopw [0,5] (fun v' u wr=>∃ (x:Nat),Hid (x < 18446744073709551616)/\u=.int .u64 x/\eL w.heap.size n v1 (bs.map dZ) w1 all v' x wr) (fun _ i _=>(intOf i).toNat)
  case atStart=>exact ⟨tE z,HZL,by first | rw [HB1.out hn0] | rw [HB2.out hn0],hst2⟩
  case round=>
   obtain ⟨x,HXL,rfl,pre,ha,hown1,hg⟩:=hrel;have hq:=Dd HXL.out;have HX2:=hD (show x / 128 < 18446744073709551616 from by have:=HXL.out;omega);have hl10:=DF ha hlen;have hsz:=hg.size;have HA:=hD ha;clear ha hz1 hz2;by_cases hlt:128<=x
   ·go_wp2_with (at_builtin;refine aF _ rfl (.tmp 22) (.tmp 27) 25 25 rfl w.heap.size 5 i0 (.int .u8 0) 1 1 Tryz.underlying25 hi hi0 hi1 hi2 rfl (by decide) _ _ _ rfl (hown1.alloc _) _ 1 _ rfl (bR _ Tryz.underlying25 [_] 1 1 1 5 rfl (fun u hu=>by simp at hu;subst hu;rfl)) (by unfold maxLen;omega) (by omega) (by simp;omega) ?_);intro v2 w2 hown2 hg2;have R:=eL.step HA.out hg hlt hown2 hg2;clear hown2 hg2 hown1;go_wp2_with fail;go_roundw
    case rel=>exact ⟨x / 128,HX2,by go_num,R⟩
    case measure=>simp [intOf];omega
   ·go_wp2_with (at_builtin;refine aF _ rfl (.tmp 31) (.tmp 34) 25 25 rfl w.heap.size 5 i0 (.int .u8 0) 1 1 Tryz.underlying25 hi hi0 hi1 hi2 rfl (by decide) _ _ _ rfl (hown1.alloc _) _ 1 _ rfl (bR _ Tryz.underlying25 [_] 1 1 1 5 rfl (fun u hu=>by simp at hu;subst hu;rfl)) (by unfold maxLen;omega) (by omega) (by simp;omega) ?_);intro v2 w2 hown2 hg2;have R:=eL.done HA.out hg hlt hown2 hg2;have R2:=yN HBW.out HO1.out (by rw [HL.out];exact R);clear hown2 hg2 hown1;go_wp2_with fail;go_ret;exact R2
theorem Cu (A A':Option Addr) (n c c':Nat) (bs:List Nat) (B B':Nat) (w:World) (hr:aG w B 1 A n (bs.map dZ)) (hr':aG w B' 1 A' n (bs.map dZ)) (hbs:∀ x∈bs,x < 256):
  Calls Tryz.prog 7 #[.slice A n c,.slice A' n c'] w fun e w'=>e=.returned (.bool true)/\w=w':=by
 have h1:=fA (P:=Tryz.prog) w 25 9 5 c Tryz.underlying25 Tryz.underlying5 Tryz.underlying9 hr hbs;have h2:=fA (P:=Tryz.prog) w 25 9 5 c' Tryz.underlying25 Tryz.underlying5 Tryz.underlying9 hr' hbs;clear hr hr' hbs;go_enter Tryz.func7,Tryz.ntmps7;go_wp2_with fail;go_ret;exact ⟨rfl,rfl⟩
def St (base k:Nat) (v:Value) (xs:List Value) (w:World) (pre:List Nat) (v':Value) (w':World):Prop:=
 w'.ownsRow base 5 1 v' (k+pre.length) (xs++pre.map dZ)/\aR w w' v v'
theorem St.start {v:Value} (h:w.ownsRow base 5 1 v k xs):St base k v xs w [] v w:=⟨by simpa using h,aR.refl w v⟩
theorem St.put {v:Value} {new:List Nat} (h:St base k v xs w pre v1 w1) (hp:BV base (k+pre.length) v1 (xs++pre.map dZ) w1 new e w2):
  ∃ v2,e=.returned v2/\St base k v xs w (pre++new) v2 w2/\aR w1 w2 v1 v2:=by
 obtain ⟨v2,rfl,hown,hg⟩:=hp;exact ⟨v2,rfl,⟨by rw [List.length_append,List.map_append,<- List.append_assoc,<- Nat.add_assoc];exact hown,h.2.trans hg⟩,hg⟩
theorem St.done {v:Value} (h:St base k v xs w pre v1 w1):BV base k v xs w pre (.returned v1) w1:=⟨v1,rfl,h.1,h.2⟩
theorem St.alloc {v:Value} (h:St base k v xs w pre v1 w1) (o:Obj):St base k v xs w pre v1 (w1.alloc o):=⟨h.1.alloc o,h.2.alloc o⟩
theorem iW (base k:Nat) (v:Value) (xs:List Value) (s:ByteArray) (w:World) (hown:w.ownsRow base 5 1 v k xs) (hbase:base<=w.heap.size) (hk:k+s.size<=950000000000):
  Calls Tryz.prog 38 #[v,.string s] w (BV base k v xs w (gI s)):=by
 obtain ⟨i0,hi,hi0,hi1,hi2⟩:=info_parts fM;have hl:=dH (n:=s.size) (by omega);have HP:=hD (cT base k v xs s.size w hown hbase (by omega) (by omega) (by omega));go_enter Tryz.func38,Tryz.ntmps38;go_wp2_with fail;refine (HP.out).mono ?_;intro e w1 h;obtain ⟨v1,rfl,hst,hg1⟩:=(St.start hown).put (by simpa using h);have hsz:=hg1.size;have hown1:=hst.1;simp only [List.nil_append] at hown1;have HST:=hD hst;have HG:=hD hg1;clear h hst hg1 hown HP;go_wp2_with (at_builtin;refine aF _ rfl (.tmp 8) (.tmp 9) 25 9 rfl base 5 i0 (.int .u8 0) 1 1 Tryz.underlying25 hi hi0 hi1 hi2 rfl (by decide) _ _ _ rfl hown1 _ s.size (byteCells s) rfl (Src.ofString _ Tryz.underlying9 s) ?c1 ?c2 ?c3 ?_)
 case c1=>unfold maxLen;omega
 case c2=>omega
 case c3=>omega
 intro v2 w2 hown2 hg2;have R:BV base k v xs w (gI s) (.returned v2) w2:=by
  refine ⟨v2,rfl,?_,HG.out.trans hg2⟩;unfold gI;rw [List.length_append,List.map_append,rX,<- qJ];simpa [Nat.add_assoc] using hown2
 clear hown2 hg2 hown1;go_wp2_with fail;go_ret;exact R
theorem qM (l:List Int) (j:Nat) (x:Int) (h:l[j]?=some x):(l.take (j+1)).flatMap bN=(l.take j).flatMap bN++bN x:=by
 have hj:j < l.length:=(List.getElem?_eq_some_iff.1 h).1;rw [List.take_add_one,h,List.flatMap_append];simp
theorem mV (base k:Nat) (v:Value) (xs:List Value) (A:Option Addr) (n c:Nat) (l:List Int) (w:World) (hown:w.ownsRow base 5 1 v k xs) (hbase:base<=w.heap.size)
  (hr:aG w base 1 A n (l.map (Value.int .i64))) (hl:∀ x∈l,gD x) (hk:k+10*n<=950000000000):
  Calls Tryz.prog 37 #[v,.slice A n c] w (BV base k v xs w (iN l)):=by
 have hn:l.length=n:=by have:=hr.1;simpa using this
 have hlen:=dH (n:=n) (by omega);have HP:=hD (cT base k v xs (n:Int) w hown hbase (by omega) (by omega) (by omega));have HN:=hD hn;have HR:=hD hr;have HO:=hD hown;have HLo:=hD hl;clear hn hr hl hown;go_enter Tryz.func37,Tryz.ntmps37;go_wp2_with fail;refine (HP.out).mono ?_;intro e w1 h;obtain ⟨v1,rfl,hst,hg1⟩:=(St.start HO.out).put (by simpa using h);simp only [List.nil_append] at hst;have HST:=hD hst;clear h hst hg1 HP;go_wp2_with fail;go_loopw [0,13] (fun v' i wr=>∃ j:Nat,j<=n/\i=.int .i64 (j:Int)/\St base k v xs w (bN (n:Int)++(l.take j).flatMap bN) v' wr) (fun _ i _=>n - (intOf i).toNat)
 case atStart=>exact ⟨0,by omega,rfl,by simpa using HST.out⟩
 case round=>
  obtain ⟨j,hj,rfl,hst⟩:=hrel;have hsz:=hst.2.size;by_cases hlt:j < n
  ·obtain ⟨x,hx⟩:∃ x,l[j]?=some x:=⟨l[j]'(by rw [HN.out];exact hlt),List.getElem?_eq_getElem _⟩;have hxi:=HLo.out x (List.mem_of_getElem? hx);obtain ⟨b,off,u,rfl,had,hu,hcell⟩:=(hst.2.reads HR.out hbase (fun g hg=>(HO.out.lt g hg).1)).at1 hlt;obtain rfl:u=.int .i64 x:=by
    rw [List.getElem?_map,hx] at hu;simpa using hu.symm
   have hfl:((l.take j).flatMap bN).length<=10*j:=by
    have:=mG (l:=l.take j) (fun y hy=>HLo.out y (List.mem_of_mem_take hy));have h2:(l.take j).length<=j:=List.length_take_le _ _;omega
   have HP:=hD (cT base _ u0 _ x wr hst.1 (by omega) (by rw [List.length_append];omega) hxi.1 hxi.2);have HX:=hD hx;have HST2:=hD hst;clear hst hx hu hxi;go_wp2_with fail;refine (HP.out).mono ?_;intro e w2 h;obtain ⟨v2,rfl,hst2,-⟩:=HST2.out.put h;rw [List.append_assoc,<- qM l j x HX.out] at hst2;have HST3:=hD hst2;clear h hst2 HP;go_wp2_with fail;go_roundw
   case rel=>exact ⟨j+1,by omega,by go_num,HST3.out⟩
   case measure=>simp [intOf];omega
  ·have R:BV base k v xs w (iN l) (.returned u0) wr:=by
    have h1:=hst.done;have e1:l.take j=l:=List.take_of_length_le (by rw [HN.out];omega);rw [e1] at h1;unfold iN;rw [HN.out];exact h1
   clear hst;go_wp2_with fail;go_ret;exact R
def jF (w:World) (B:Nat) (v:Value) (c:bY):Prop:=
 ∃ A1 c1 A2 c2 A3 c3,v=.agg #[.int .i64 c.stamp,.slice A1 c.parents.length c1,.slice A2 c.picks.length c2,.string c.note,.slice A3 c.writes.length c3]/\
  aG w B 1 A1 c.parents.length (c.parents.map (Value.int .i64))/\aG w B 1 A2 c.picks.length (c.picks.map (Value.int .i64))/\aG w B 6 A3 c.writes.length (c.writes.flatMap bG.vals)
theorem gV (l:List bG):∀ (j i:Nat) (x:bG) (u:Value),l[j]?=some x->x.vals[i]?=some u->i < 6->(l.flatMap bG.vals)[j*6+i]?=some u:=by
 induction l with
 | nil=>intro j i x u h;simp at h
 | cons y l ih=>
  intro j i x u h hi h6;have hy:y.vals.length=6:=rfl;rw [List.flatMap_cons]
  cases j with
  | zero=>
   simp at h;subst h;rw [List.getElem?_append_left (by omega)];simpa using hi
  | succ j=>
   rw [List.getElem?_append_right (by omega),hy];have:=ih j i x u (by simpa using h) hi h6;rw [show (j+1)*6+i - 6=j*6+i from by omega];exact this
theorem St.push {v:Value} {v2:Value} {z:Int} (h:St base k v xs w pre v1 w1) (hz:z=(x:Int))
  (hown:w2.ownsRow base 5 1 v2 (k+pre.length+1) (xs++(pre.map dZ++[.int .u8 z]))) (hg:aR (w1.alloc o) w2 v1 v2):St base k v xs w (pre++[x]) v2 w2/\aR w1 w2 v1 v2:=by
 subst hz;have hg':aR w1 w2 v1 v2:=((aR.refl w1 v1).alloc o).trans hg;refine ⟨⟨?_,h.2.trans hg'⟩,hg'⟩;rw [List.length_append,List.map_append];exact hown
theorem rH {v:Value} {p5 pp:List Nat} {l l':List bG} {x:bG} {fl:Bool} (hend:l'=l++[x])
  (hpp:p5++List.flatMap eK l++bN x.id++bN x.field++bN x.n=pp) (hfl:x.flag=fl) (h:St base k v xs w (pp++[if fl then 1 else 0]++gI x.text++bN x.ref) v1 w1):
  St base k v xs w (p5++l'.flatMap eK) v1 w1:=by
 subst hend;subst hpp;have e:vM x.flag=[if fl then 1 else 0]:=by subst hfl;unfold vM;cases x.flag <;> rfl
 have e2:p5++(l++[x]).flatMap eK=p5++List.flatMap eK l++bN x.id++bN x.field++bN x.n++[if fl then 1 else 0]++gI x.text++bN x.ref:=by
  rw [List.flatMap_append,List.flatMap_cons,List.flatMap_nil,List.append_nil];unfold eK;rw [e];simp only [List.append_assoc]
 rw [e2];exact h
theorem tT {l:List bG} (h:∀ x∈l,x.ok) (j:Nat) (hs:bO l<=1000000000000):((l.take j).flatMap eK).length<=60*j+bO l:=by
 have e:bO l=bO (l.take j)+bO (l.drop j):=by
  unfold bO;rw [<- List.sum_append,<- List.map_append,List.take_append_drop]
 have h1:=mH (l:=l.take j) (fun x hx=>h x (List.mem_of_mem_take hx)) (by omega);have h2:(l.take j).length<=j:=List.length_take_le _ _;omega
theorem kD (base k:Nat) (v cv:Value) (xs:List Value) (c:bY) (w:World) (hown:w.ownsRow base 5 1 v k xs) (hbase:base<=w.heap.size)
  (hc:jF w base cv c) (hok:c.ok) (hk:k+100*c.size<=900000000000):
  Calls Tryz.prog 18 #[v,cv] w (BV base k v xs w (bQ c)):=by
 obtain ⟨A1,c1,A2,c2,A3,c3,rfl,hr1,hr2,hr3⟩:=hc;obtain ⟨i0,hi,hi0,hi1,hi2⟩:=info_parts fM;have hst0:St base k v xs w [] v (w.alloc (.cells #[.int .i64 c.stamp,.slice A1 c.parents.length c1,.slice A2 c.picks.length c2,.string c.note,.slice A3 c.writes.length c3] 39)):=(St.start hown).alloc _;have hblk:=aK.new w 39 #[.int .i64 c.stamp,.slice A1 c.parents.length c1,.slice A2 c.picks.length c2,.string c.note,.slice A3 c.writes.length c3];have hlt:=fun g hg=>(hown.lt g hg).1;have HLT:=hD hlt;have HR1:=hD hr1;have HR2:=hD hr2;have HR3:=hD hr3;have HOK:=hD hok;have HB:=hD hblk;have HS:=hD hst0;have hk':k+100*(c.parents.length+c.picks.length+c.note.size+c.writes.length+bO c.writes)<=900000000000:=hk;clear hk hr1 hr2 hr3 hok hblk hst0 hlt hown;have l1:=cF HOK.out.1;have l2:=fF HOK.out.2.1 (by omega);have l3:=fF HOK.out.2.2.1 (by omega);have l4:=gF (s:=c.note) (by omega);have l5:=dH (n:=c.writes.length) (by omega);have HP:=hD (cT base _ v _ c.stamp _ HS.out.1 (by simp;omega) (by simp;omega) HOK.out.1.1 HOK.out.1.2);go_enter Tryz.func18,Tryz.ntmps18;go_wp2_with fail;refine (HP.out).mono ?_;intro e w1 h;obtain ⟨v1,rfl,hst1,hg1⟩:=HS.out.put h;have hb1:=hg1.blk HB.out (aX HS.out.1 HB.out (by decide));clear h HP HB HS;have HST1:=hD hst1;have HB1:=hD hb1;have hz1:=hst1.2.size;clear hst1 hb1 hg1;have cc1:=HB1.out.cell 1;simp at cc1;have HP:=hD (mV base _ v1 _ A1 _ c1 c.parents w1 HST1.out.1 (by omega) (HST1.out.2.reads HR1.out hbase HLT.out) HOK.out.2.1 (by simp only [List.length_append,List.length_nil];omega))
 go_wp2_with fail;refine (HP.out).mono ?_;intro e w2 h;obtain ⟨v2,rfl,hst2,hg2⟩:=HST1.out.put h;have hb2:=hg2.blk HB1.out (aX HST1.out.1 HB1.out (by decide));clear h HP HB1 HST1 cc1;have HST2:=hD hst2;have HB2:=hD hb2;have hz2:=hst2.2.size;clear hst2 hb2 hg2;have cc2:=HB2.out.cell 2;simp at cc2;have HP:=hD (mV base _ v2 _ A2 _ c2 c.picks w2 HST2.out.1 (by omega) (HST2.out.2.reads HR2.out hbase HLT.out) HOK.out.2.2.1 (by simp only [List.length_append,List.length_nil];omega));go_wp2_with fail;refine (HP.out).mono ?_;intro e w3 h;obtain ⟨v3,rfl,hst3,hg3⟩:=HST2.out.put h;have hb3:=hg3.blk HB2.out (aX HST2.out.1 HB2.out (by decide));clear h HP HB2 HST2 cc2;have HST3:=hD hst3;have HB3:=hD hb3;have hz3:=hst3.2.size;clear hst3 hb3 hg3;have cc3:=HB3.out.cell 3;simp at cc3;have HP:=hD (iW base _ v3 _ c.note w3 HST3.out.1 (by omega) (by simp only [List.length_append,List.length_nil];omega));go_wp2_with fail;refine (HP.out).mono ?_;intro e w4 h;obtain ⟨v4,rfl,hst4,hg4⟩:=HST3.out.put h;have hb4:=hg4.blk HB3.out (aX HST3.out.1 HB3.out (by decide));clear h HP HB3 HST3 cc3;have HST4:=hD hst4;have HB4:=hD hb4;have hz4:=hst4.2.size;clear hst4 hb4 hg4;have cc4:=HB4.out.cell 4;simp at cc4;have HP:=hD (cT base _ v4 _ (c.writes.length:Int) w4 HST4.out.1 (by omega) (by simp only [List.length_append,List.length_nil];omega) (by omega) (by omega));go_wp2_with fail;refine (HP.out).mono ?_;intro e w5 h;obtain ⟨v5,rfl,hst5,hg5⟩:=HST4.out.put h;have hb5:=hg5.blk HB4.out (aX HST4.out.1 HB4.out (by decide))
 clear h HP HB4 HST4 cc4;simp only [List.nil_append] at hst5;obtain ⟨pre5,hp5⟩:∃ p,p=bN c.stamp++iN c.parents++iN c.picks++gI c.note++bN c.writes.length:=⟨_,rfl⟩;rw [<- hp5] at hst5;have lp:pre5.length<=100+10*c.parents.length+10*c.picks.length+c.note.size:=by rw [hp5];simp only [List.length_append];omega
 have HP5:=hD hp5;have HST5:=hD hst5;have cc5:=hb5.cell 4;simp at cc5;clear hst5 hb5 hg5 hp5 l1 l2 l3 l4 l5 hz1 hz2 hz3 hz4 HR1 HR2;go_wp2_with fail;clear cc5;go_loopw [0,31] (fun v' i wr=>∃ j:Nat,j<=c.writes.length/\i=.int .i64 (j:Int)/\St base k v xs w (pre5++(c.writes.take j).flatMap eK) v' wr) (fun _ i _=>c.writes.length - (intOf i).toNat)
 case atStart=>exact ⟨0,by omega,rfl,by simpa using HST5.out⟩
 case round=>
  obtain ⟨j,hj,rfl,hst⟩:=hrel;have hsz:=hst.2.size;by_cases hlt:j < c.writes.length
  ·obtain ⟨x,hx⟩:∃ x,c.writes[j]?=some x:=⟨c.writes[j]'hlt,List.getElem?_eq_getElem _⟩;have hxo:=HOK.out.2.2.2 x (List.mem_of_getElem? hx);have hxs:=yK (List.mem_of_getElem? hx);obtain ⟨b,off,rfl,had,hcell⟩:=(hst.2.reads HR3.out hbase HLT.out).head (by omega) (by omega);have q0:=hcell _ _ (gV c.writes j 0 x (.int .i64 x.id) hx rfl (by omega));have q1:=hcell _ _ (gV c.writes j 1 x (.int .i64 x.field) hx rfl (by omega));have q2:=hcell _ _ (gV c.writes j 2 x (.int .i64 x.n) hx rfl (by omega));have q3:=hcell _ _ (gV c.writes j 3 x (.bool x.flag) hx rfl (by omega));have q4:=hcell _ _ (gV c.writes j 4 x (.string x.text) hx rfl (by omega));have q5:=hcell _ _ (gV c.writes j 5 x (.int .i64 x.ref) hx rfl (by omega));simp only [<- Nat.add_assoc,Nat.add_zero] at q0 q1 q2 q3 q4 q5;have HX:=hD hx;have HST2:=hD hst;have HXO:=hD hxo;clear hst hx hxo hcell;have hfl:((c.writes.take j).flatMap eK).length<=60*j+bO c.writes:=tT HOK.out.2.2.2 j (by omega);have l1:=cF HXO.out.1;have l2:=cF HXO.out.2.1;have l3:=cF HXO.out.2.2.1;have l6:=cF HXO.out.2.2.2;have l5:=gF (s:=x.text) (by omega);have hblk:=aK.new wr 83 #[.int .i64 x.id,.int .i64 x.field,.int .i64 x.n,.bool x.flag,.string x.text,.int .i64 x.ref];have hs0:=HST2.out.alloc (.cells #[.int .i64 x.id,.int .i64 x.field,.int .i64 x.n,.bool x.flag,.string x.text,.int .i64 x.ref] 83);have hy0:w.heap.size<=wr.heap.size+1:=by omega
   have HS0:=hD hs0;have HC0:=hD hblk;clear hblk hs0;have hend:c.writes.take (j+1)=c.writes.take j++[x]:=by rw [List.take_add_one,HX.out];rfl
   have HEND:=hD hend;clear hend;generalize hfg:x.flag=fl at*;have HFG:=hD hfg;clear hfg;rcases fl with _ | _
   all_goals
    have HP:=hD (cT base _ _ _ x.id _ HS0.out.1 (by simp;omega) (by simp only [List.length_append];omega) HXO.out.1.1 HXO.out.1.2);go_wp2_with fail;refine (HP.out).mono ?_;intro e y1 h;obtain ⟨b1,rfl,hst1,hg1⟩:=HS0.out.put h;have hb1:=hg1.blk HC0.out (aX HS0.out.1 HC0.out (by decide));clear h HP;have HS1:=hD hst1;have HC1:=hD hb1;have hy1:=hst1.2.size;clear hst1 hb1 hg1 HC0;have d1:=HC1.out.cell 1;simp at d1;have HP:=hD (cT base _ _ _ x.field _ HS1.out.1 (by omega) (by simp only [List.length_append];omega) HXO.out.2.1.1 HXO.out.2.1.2);go_wp2_with fail;refine (HP.out).mono ?_;intro e y2 h;obtain ⟨b2,rfl,hst2,hg2⟩:=HS1.out.put h;have hb2:=hg2.blk HC1.out (aX HS1.out.1 HC1.out (by decide));clear h HP d1;have HS2:=hD hst2;have HC2:=hD hb2;have hy2:=hst2.2.size;clear hst2 hb2 hg2 HC1;have d2:=HC2.out.cell 2;simp at d2;have HP:=hD (cT base _ _ _ x.n _ HS2.out.1 (by omega) (by simp only [List.length_append];omega) HXO.out.2.2.1.1 HXO.out.2.2.1.2);go_wp2_with fail;refine (HP.out).mono ?_;intro e y3 h;obtain ⟨b3,rfl,hst3,hg3⟩:=HS2.out.put h;have hb3:=hg3.blk HC2.out (aX HS2.out.1 HC2.out (by decide));clear h HP d2;have HS3:=hD hst3;have HC3:=hD hb3;have hy3:=hst3.2.size;clear hst3 hb3 hg3 HC2;have d3:=HC3.out.cell 3;simp at d3;have hown3:=HS3.out.1;have hlen3:k+(pre5++List.flatMap eK (List.take j c.writes)++bN x.id++bN x.field++bN x.n).length+x.text.size<=910000000000:=by simp only [List.length_append];omega
    generalize hpp:(pre5++List.flatMap eK (List.take j c.writes)++bN x.id++bN x.field++bN x.n)=pp at*;have HPP:=hD hpp;clear hpp
   ·go_wp2_with (at_builtin;refine aF _ rfl (.tmp 54) (.tmp 55) 25 25 rfl base 5 i0 (.int .u8 0) 1 1 Tryz.underlying25 hi hi0 hi1 hi2 rfl (by decide) _ _ _ rfl (hown3.alloc _) _ 1 _ rfl (bR _ Tryz.underlying25 [_] 1 1 1 5 rfl (fun u hu=>by simp at hu;subst hu;rfl)) (by unfold maxLen;omega) (by omega) (by simp;omega) ?_);intro b4 y4 hown4 hg4;obtain ⟨hst4,hgg4⟩:=HS3.out.push (x:=0) rfl hown4 hg4;have hb4:=hgg4.blk HC3.out (aX HS3.out.1 HC3.out (by decide));have HS4:=hD hst4;have HC4:=hD hb4;have hy4:=hst4.2.size;clear hst4 hb4 hg4 hgg4 hown4 hown3 d3;have d4:=HC4.out.cell 4;simp at d4;have HP:=hD (iW base _ _ _ x.text _ HS4.out.1 (by omega) (by simp only [List.length_append,List.length_cons,List.length_nil];omega));go_wp2_with fail;refine (HP.out).mono ?_;intro e y5 h;obtain ⟨b5,rfl,hst5,hg5⟩:=HS4.out.put h;have hb5:=hg5.blk HC4.out (aX HS4.out.1 HC4.out (by decide));clear h HP d4;have HS5:=hD hst5;have HC5:=hD hb5;have hy5:=hst5.2.size;clear hst5 hb5 hg5 HC4;have d5:=HC5.out.cell 5;simp at d5;have HP:=hD (cT base _ _ _ x.ref _ HS5.out.1 (by omega) (by simp only [List.length_append,List.length_cons,List.length_nil];omega) HXO.out.2.2.2.1 HXO.out.2.2.2.2);go_wp2_with fail;refine (HP.out).mono ?_;intro e y6 h;obtain ⟨b6,rfl,hst6,hg6⟩:=HS5.out.put h;have hb6:=hg6.blk HC5.out (aX HS5.out.1 HC5.out (by decide));clear h HP d5;have HS6:=hD hst6;have HC6:=hD hb6;have hy6:=hst6.2.size;clear hst6 hb6 hg6 HC5;have R:=rH HEND.out HPP.out HFG.out HS6.out
    clear HS6;have HRR:=hD R;clear R;go_wp2_with fail;go_roundw
    case rel=>exact ⟨j+1,by omega,by go_num,HRR.out⟩
    case measure=>simp [intOf];omega
   ·go_wp2_with (at_builtin;refine aF _ rfl (.tmp 51) (.tmp 52) 25 25 rfl base 5 i0 (.int .u8 0) 1 1 Tryz.underlying25 hi hi0 hi1 hi2 rfl (by decide) _ _ _ rfl (hown3.alloc _) _ 1 _ rfl (bR _ Tryz.underlying25 [_] 1 1 1 5 rfl (fun u hu=>by simp at hu;subst hu;rfl)) (by unfold maxLen;omega) (by omega) (by simp;omega) ?_);intro b4 y4 hown4 hg4;obtain ⟨hst4,hgg4⟩:=HS3.out.push (x:=1) rfl hown4 hg4;have hb4:=hgg4.blk HC3.out (aX HS3.out.1 HC3.out (by decide));have HS4:=hD hst4;have HC4:=hD hb4;have hy4:=hst4.2.size;clear hst4 hb4 hg4 hgg4 hown4 hown3 d3;have d4:=HC4.out.cell 4;simp at d4;have HP:=hD (iW base _ _ _ x.text _ HS4.out.1 (by omega) (by simp only [List.length_append,List.length_cons,List.length_nil];omega));go_wp2_with fail;refine (HP.out).mono ?_;intro e y5 h;obtain ⟨b5,rfl,hst5,hg5⟩:=HS4.out.put h;have hb5:=hg5.blk HC4.out (aX HS4.out.1 HC4.out (by decide));clear h HP d4;have HS5:=hD hst5;have HC5:=hD hb5;have hy5:=hst5.2.size;clear hst5 hb5 hg5 HC4;have d5:=HC5.out.cell 5;simp at d5;have HP:=hD (cT base _ _ _ x.ref _ HS5.out.1 (by omega) (by simp only [List.length_append,List.length_cons,List.length_nil];omega) HXO.out.2.2.2.1 HXO.out.2.2.2.2);go_wp2_with fail;refine (HP.out).mono ?_;intro e y6 h;obtain ⟨b6,rfl,hst6,hg6⟩:=HS5.out.put h;have hb6:=hg6.blk HC5.out (aX HS5.out.1 HC5.out (by decide));clear h HP d5;have HS6:=hD hst6;have HC6:=hD hb6;have hy6:=hst6.2.size;clear hst6 hb6 hg6 HC5;have R:=rH HEND.out HPP.out HFG.out HS6.out
    clear HS6;have HRR:=hD R;clear R;go_wp2_with fail;go_roundw
    case rel=>exact ⟨j+1,by omega,by go_num,HRR.out⟩
    case measure=>simp [intOf];omega
  ·have R:BV base k v xs w (bQ c) (.returned u0) wr:=by
    have h1:=hst.done;have e1:c.writes.take j=c.writes:=List.take_of_length_le (by omega);rw [e1,HP5.out] at h1;exact h1
   clear hst;go_wp2_with fail;go_ret;exact R
theorem qD (cv:Value) (c:bY) (w:World) (hc:jF w w.heap.size cv c) (hok:c.ok) (hk:100*c.size<=900000000000):
  Calls Tryz.prog 28 #[cv] w (pW w (bQ c)):=by
 obtain ⟨A1,c1,A2,c2,A3,c3,rfl,hr1,hr2,hr3⟩:=hc;have hP:=kD w.heap.size 0 (.slice none 0 0) (.agg #[.int .i64 c.stamp,.slice A1 c.parents.length c1,.slice A2 c.picks.length c2,.string c.note,.slice A3 c.writes.length c3]) [] c
  (w.alloc (.cells #[.int .i64 c.stamp,.slice A1 c.parents.length c1,.slice A2 c.picks.length c2,.string c.note,.slice A3 c.writes.length c3] 39)) (World.ownsRow_nil _ _ _ _) (by simp)
  ⟨A1,c1,A2,c2,A3,c3,rfl,hr1.alloc (Nat.le_refl _) _,hr2.alloc (Nat.le_refl _) _,hr3.alloc (Nat.le_refl _) _⟩ hok (by omega)
 have HP:=hD hP;clear hP hr1 hr2 hr3 hok hk;go_enter Tryz.func28,Tryz.ntmps28;go_wp2_with fail;refine (HP.out).mono ?_;rintro e w1 ⟨v1,rfl,hown,hg⟩;have R:pW w (bQ c) (.returned v1) w1:=⟨v1,rfl,by simpa using hown,((Below.refl _ w).alloc (Nat.le_refl _) _).trans (hg.below (by simp) (fun g h=>by simp [Value.ownBlock] at h))⟩;clear hown hg HP;go_wp2_with fail;go_ret;exact R
theorem DI:bN 64=[128,1]:=by
 have:tE 64=128:=by decide
 unfold bN;rw [this,nL (by omega),iC (by omega)]
theorem Dk:bN 0=[0]:=by
 have:tE 0=0:=by decide
 unfold bN;rw [this,iC (by omega)]
def eS:bY:=⟨0,[],[],ByteArray.empty,[]⟩
theorem BD:bQ eS=[0,0,0,0,0]:=by
 have h1:iN []=[0]:=by
  unfold iN;rw [show ((List.length ([]:List Int):Nat):Int)=0 from rfl,Dk];rfl
 have h2:gI ByteArray.empty=[0]:=by
  unfold gI;rw [show ((ByteArray.empty.size:Nat):Int)=0 from rfl,Dk];rfl
 unfold bQ eS;rw [h1,h2,show ((List.length ([]:List bG):Nat):Int)=0 from rfl,Dk];rfl
theorem Cg:eS.ok:=⟨⟨by decide,by decide⟩,(fun _ h=>by cases h),(fun _ h=>by cases h),(fun _ h=>by cases h)⟩
theorem Ch (w:World):jF w w.heap.size (.agg #[.int .i64 0,.slice none 0 0,.slice none 0 0,.string ByteArray.empty,.slice none 0 0]) eS:=
 ⟨none,0,none,0,none,0,rfl,aG.none_,aG.none_,aG.none_⟩
theorem DH:jT [128,1] 0=some (64,2):=by decide
theorem Di:jT [128,0] 0=none:=by decide
theorem mE {v:Value} (h:w'.ownsRow w.heap.size 5 1 v bs.length (bs.map dZ)):∃ A c,v=.slice A bs.length c/\aG w' w'.heap.size 1 A bs.length (bs.map dZ):=by
 obtain ⟨A,c,e,hr,_⟩:=aS h;exact ⟨A,c,e,hr⟩
theorem AD (w:World):Calls Tryz.prog 13 #[] w fun e w'=>e=.returned (.bool true)/\Below w.heap.size w w':=by
 have h1:=C5 none 0 0 [] 64 w (by omega) aG.none_ (by omega) (by omega);rw [DI,List.nil_append] at h1;have H1:=hD h1;clear h1;go_enter Tryz.func13,Tryz.ntmps13;go_wp2_with fail;refine (H1.out).mono ?_;rintro e w1 ⟨v1,rfl,hown1,hb1⟩;obtain ⟨A1,c1,rfl,hr1⟩:=mE hown1;have h2:=oY A1 2 c1 0 [128,1] w1 (by omega) hr1 (by decide);rw [DH] at h2;simp only [pY] at h2;have H2:=hD h2;have HB1:=hD hb1;clear h2 hown1 hr1 hb1 H1;go_wp2_with fail;refine (H2.out).mono ?_;rintro e w2 ⟨rfl,hb2⟩;have HB2:=hD (HB1.out.trans (hb2.mono HB1.out.size));clear hb2 H2 HB1;have h3:=oY (some ⟨w2.heap.size,0,none⟩) 2 2 0 [128,0] (w2.alloc (.cells #[.int .u8 128,.int .u8 0] 5)) (by omega) (aG.of_own (base:=w2.heap.size) (e:=5) (c:=2) ⟨rfl,.inr ⟨w2.heap.size,2,_,rfl,Nat.le_refl _,heap_alloc_new w2 _,by omega,by unfold maxLen;omega,rfl,rfl⟩⟩) (by decide);rw [Di] at h3;simp only [pY] at h3;have H3:=hD h3;clear h3;go_wp2_with fail;refine (H3.out).mono ?_;rintro e w3 ⟨rfl,hb3⟩;have HB3:=hD ((HB2.out.alloc HB2.out.size _).trans (hb3.mono (by simp;exact Nat.le_succ_of_le HB2.out.size)));clear hb3 H3 HB2;have h4:=qD _ eS w3 (Ch w3) Cg (by decide);rw [BD] at h4;have H4:=hD h4;clear h4;go_wp2_with fail;refine (H4.out).mono ?_;rintro e w4 ⟨v4,rfl,hown4,hb4⟩;obtain ⟨A4,c4,rfl,hr4⟩:=mE hown4;have HB4:=hD (HB3.out.trans (hb4.mono HB3.out.size));clear hb4 H4 HB3 hown4 hr4;go_wp2_with fail;go_ret;exact ⟨rfl,HB4.out⟩
def cI (bs:List Nat) (p:Nat):Option (ByteArray × Nat):=
 match bC bs p with
 | none=>none
 | some (n,q)=>if n < 0\/(bs.length:Int) - q < n then none else some (str ((bs.drop q).take n.toNat),q+n.toNat)
def pL (w:World) (r:Nat) (A:Option Addr) (n c:Nat) (o:Option (ByteArray × Nat)) (e:Ending) (w':World):Prop:=
 e=.returned (.string ((o.map (·.1)).getD ByteArray.empty))/\Rd w' r A n c (o.map (·.2))/\w.grownBy w' (some r)
theorem aG.mid {B:Nat} {A:Option Addr} (h:aG w B 1 A n xs) {lo cap:Nat} (hk:lo+k<=n) (hc:n<=cap):
  aG w B 1 (if cap=lo then A else A.map (·.add lo)) k ((xs.drop lo).take k):=by
 have hx:=h.1;refine ⟨by rw [List.length_take,List.length_drop];omega,fun hn=>?_⟩;obtain ⟨ad,rfl,hb,hcell⟩:=h.2 (by omega);rw [if_neg (by omega)];refine ⟨ad.add lo,rfl,by rw [bU];exact hb,fun j u hu=>?_⟩;rw [lD];refine hcell _ u ?_;rw [List.getElem?_take] at hu
 split at hu
 ·rw [<- hu,List.getElem?_drop]
 ·cases hu
theorem AX (r:Nat) (A:Option Addr) (n c:Nat) (z:Int) (w:World) (hb:aK w r 54 #[.slice A n c,.int .i64 z,.bool true]):
  Calls Tryz.prog 43 #[.pointer (some ⟨r,0,none⟩)] w (pL w r A n c none):=by
 have H1:=hD (kW r A n c z w hb);clear hb;go_enter Tryz.func43,Tryz.ntmps43;go_wp2_with fail;refine (H1.out).mono ?_;rintro e w1 ⟨rfl,⟨z1,hb1⟩,hg1⟩;have c2:=hb1.cell 2;have f2:=hb1.frozen 2;simp at c2;have HB:=hD hb1;have HG:=hD hg1;clear hb1 hg1 H1;go_wp2_with fail;go_quiet (fail);go_wp2_with fail;go_ret;exact ⟨rfl,⟨_,(HB.out.drewN _).set_ 2 _⟩,aW (bS HG.out _) (.inl rfl) _⟩
theorem Co (r:Nat) (A:Option Addr) (n c p:Nat) (bs:List Nat) (w:World) (hb:aK w r 54 #[.slice A n c,.int .i64 (p:Int),.bool false]) (hp:p<=n) (hn:n<=1000000000000) (hnc:n<=c)
  (hr:aG w r 1 A n (bs.map dZ)) (hbs:∀ x∈bs,x < 256):
  Calls Tryz.prog 43 #[.pointer (some ⟨r,0,none⟩)] w (pL w r A n c (cI bs p)):=by
 have hl:bs.length=n:=by have:=hr.1;simpa using this
 have H1:=hD (mD r A n c p bs w hb hp hn hr hbs);have hlt:=hb.lt;have HR:=hD hr;have HS:=hD hbs;have HL:=hD hl;clear hr hbs hl hb;have hnb:=kX bs p;generalize hnum:bC bs p=o at H1 hnb;rcases o with _ | ⟨x,q⟩
 ·have hno:cI bs p=none:=by unfold cI;rw [hnum]
  have HN:=hD hno;clear hno hnum;go_enter Tryz.func43,Tryz.ntmps43;go_wp2_with fail;refine (H1.out).mono ?_;rintro e w1 ⟨rfl,⟨z1,hb1⟩,hg1⟩;have c2:=hb1.cell 2;have f2:=hb1.frozen 2;simp at c2;have HB:=hD hb1;have HG:=hD hg1;clear hb1 hg1 H1;go_wp2_with fail;go_quiet (fail);go_wp2_with fail;go_ret;rw [HN.out];exact ⟨rfl,⟨_,(HB.out.drewN _).set_ 2 _⟩,aW (bS HG.out _) (.inl rfl) _⟩
 ·obtain ⟨hx1,hx2⟩:=hnb x q rfl;clear hnb;by_cases hbad:x < 0\/(bs.length:Int) - q < x
  ·have hno:cI bs p=none:=by unfold cI;rw [hnum];simp only;rw [if_pos hbad]
   have HN:=hD hno;rw [HL.out] at hbad;clear hno hnum;have hd:(decide (x < 0)=true)\/(decide (x < 0)=false/\decide ((n:Int) - q < x)=true):=by simp;omega
   rcases hd with d1 | ⟨d1,d2⟩
   all_goals
    go_enter Tryz.func43,Tryz.ntmps43;go_wp2_with fail;refine (H1.out).mono ?_;rintro e w1 ⟨rfl,⟨hb1,hq1⟩,hg1⟩;simp only at hq1;have c0:=hb1.cell 0;have c1:=hb1.cell 1;have c2:=hb1.cell 2;have f2:=hb1.frozen 2;simp at c0 c1 c2;have HB:=hD hb1;have HG:=hD hg1;clear hb1 hg1 H1;go_wp2_with fail;go_quiet (fail);go_wp2_with fail;go_ret;rw [HN.out];exact ⟨rfl,⟨_,(HB.out.drewN _).set_ 2 _⟩,aW (bS HG.out _) (.inl rfl) _⟩
  ·have hyes:cI bs p=some (str ((bs.drop q).take x.toNat),q+x.toNat):=by unfold cI;rw [hnum];simp only;rw [if_neg hbad]
   have HY:=hD hyes;rw [HL.out] at hbad;clear hyes hnum;obtain ⟨m,rfl⟩:=Int.eq_ofNat_of_zero_le (show 0<=x by omega);have d1:decide ((m:Int) < 0)=false:=by simp
   have d2:decide ((n:Int) - q < (m:Int))=false:=by simp;omega
   go_enter Tryz.func43,Tryz.ntmps43;go_wp2_with fail;refine (H1.out).mono ?_;rintro e w1 ⟨rfl,⟨hb1,hq1⟩,hg1⟩;simp only at hq1;have c0:=hb1.cell 0;have c1:=hb1.cell 1;have c2:=hb1.cell 2;have f1:=hb1.frozen 1;simp at c0 c1 c2;have HB:=hD hb1;have HG:=hD hg1;clear hb1 hg1 H1;go_wp2_with fail;go_quiet (fail);go_wp2_with fail;obtain ⟨W2,hW2⟩:∃ W,W=(w1.drewN nq).setCell ⟨r,1,none⟩ (.int .i64 ((q:Int)+(m:Int))):=⟨_,rfl⟩;rw [<- hW2];have hb2:aK W2 r 54 #[.slice A n c,.int .i64 ((q:Int)+(m:Int)),.bool false]:=by rw [hW2];exact (HB.out.drewN _).set_ 1 _
   have hg2:w.grownBy W2 (some r):=by rw [hW2];exact aW (bS HG.out _) (.inl rfl) _
   have hr2:aG W2 r 1 A n (bs.map dZ):=HR.out.keep (fun p hp=>World.cell?_of_block (hg2.block p.block (by omega) (fun e=>by injection e;omega)));have hcv:∀ k,(convert 25 9 (.slice (if c=q then A else Option.map (fun x=>x.add q) A) m (c - q))).run Tryz.prog (W2.drewN k)=.ok (.string (str ((bs.drop q).take m))) (W2.drewN k):=fun k=>
    fA (P:=Tryz.prog) (W2.drewN k) 25 9 5 (c - q) Tryz.underlying25 Tryz.underlying5 Tryz.underlying9 (bs:=(bs.drop q).take m) (by rw [List.map_take,List.map_drop];exact (hr2.drewN k).mid (k:=m) (by omega) hnc) (fun x hx=>HS.out x (List.mem_of_mem_drop (List.mem_of_mem_take hx)))
   have e0:=hb2.cell 0;have e1:=hb2.cell 1;simp at e0 e1;have HB2:=hD hb2;have HG2:=hD hg2;clear hb2 hg2 hr2 hW2 c0 c1 c2 f1 HB HG;have s1:IntKind.i64.wrap ((q:Int)+m - m)=q:=by rw [IntKind.wrap_i64];omega
   have s2:((q:Int)+m - m).toNat=q:=by omega
   have s3:((q:Int)+m).toNat=q+m:=by omega
   go_quiet (fail);go_wp2_with fail
   all_goals go_ret
   all_goals rw [HY.out]
   all_goals
    have hB:=HB2.out.drewN nq;rw [show ((q:Int)+(m:Int))=((q+(m:Int).toNat:Nat):Int) from by omega] at hB
    first
     | exact ⟨rfl,⟨hB,by show q+(m:Int).toNat<=n;omega⟩,bS HG2.out _⟩
     | (obtain rfl:c=q:=by assumption
        exact ⟨rfl,⟨hB,by show c+(m:Int).toNat<=n;omega⟩,bS HG2.out _⟩)
def Ak (bs:List Nat) (z:Int):Option (ByteArray × Nat):=if 0<=z/\z<=bs.length then cI bs z.toNat else none
def Db:Option (ByteArray × Nat)->Ending
 | some y=>.returned (.tuple #[.string y.1,.int .i64 (y.2:Int),.int .i64 0])
 | none=>.returned (.tuple #[.string ByteArray.empty,.int .i64 0,.int .i64 13])
theorem C8 (hl:bs.length=n) (h:p<=n):Ak bs (p:Int)=cI bs p:=by
 unfold Ak;rw [if_pos ⟨by omega,by omega⟩];simp
theorem Bu (bs:List Nat) (z:Int):Ak bs z=match jT bs z with
  | none=>none
  | some (n,q)=>if n < 0\/(bs.length:Int) - q < n then none else some (str ((bs.drop q).take n.toNat),q+n.toNat):=by
 unfold Ak jT
 split
 ·rfl
 ·rfl
theorem oZ {z x:Int} (h:jT bs z=some (x,q)):(-9223372036854775808<=x/\x<=9223372036854775807)/\q<=bs.length:=by
 unfold jT at h
 split at h
 ·rename_i hz;refine ⟨(kX bs _ x q h).1,eB (by omega) h⟩
 ·cases h
theorem iU (A:Option Addr) (n c:Nat) (z:Int) (bs:List Nat) (w:World) (hn:n<=1000000000000) (hnc:n<=c) (B:Nat) (hr:aG w B 1 A n (bs.map dZ)) (hbs:∀ x∈bs,x < 256):
  Calls Tryz.prog 85 #[.slice A n c,.int .i64 z] w fun e w'=>e=Db (Ak bs z)/\w=w':=by
 have hl:bs.length=n:=by have:=hr.1;simpa using this
 have H1:=hD (eH A n c z bs w hn B hr hbs);rw [Bu];have hgb:=fun x q=>oZ (bs:=bs) (z:=z) (x:=x) (q:=q);generalize jT bs z=o at H1 hgb ⊢;rcases o with _ | ⟨x,q⟩
 ·simp only [pY] at H1;clear hr hbs hl hgb;go_enter Tryz.func85,Tryz.ntmps85;go_wp2_with fail;refine (H1.out).mono ?_;rintro e w1 ⟨rfl,rfl⟩;clear H1;go_wp2_with fail
  go_ret3
  exact ⟨rfl,rfl⟩
 ·simp only [pY] at H1;obtain ⟨hx1,hx2⟩:=hgb x q rfl;rw [hl] at hx2;clear hgb;simp only;by_cases hbad:x < 0\/(bs.length:Int) - q < x
  ·rw [if_pos hbad];rw [hl] at hbad;have hd:(decide (x < 0)=true)\/(decide (x < 0)=false/\decide ((n:Int) - q < x)=true):=by simp;omega
   clear hr hbs hl;rcases hd with d1 | ⟨d1,d2⟩
   all_goals
    go_enter Tryz.func85,Tryz.ntmps85;go_wp2_with fail;refine (H1.out).mono ?_;rintro e w1 ⟨rfl,rfl⟩;clear H1;go_wp2_with fail
    go_ret3
    exact ⟨rfl,rfl⟩
  ·rw [if_neg hbad];rw [hl] at hbad;obtain ⟨m,rfl⟩:=Int.eq_ofNat_of_zero_le (show 0<=x by omega);have d1:decide ((m:Int) < 0)=false:=by simp
   have d2:decide ((n:Int) - q < (m:Int))=false:=by simp;omega
   have hcv:(convert 25 9 (.slice (if c=q then A else Option.map (fun x=>x.add q) A) m (c - q))).run Tryz.prog w=.ok (.string (str ((bs.drop q).take m))) w:=
    fA (P:=Tryz.prog) w 25 9 5 (c - q) Tryz.underlying25 Tryz.underlying5 Tryz.underlying9 (bs:=(bs.drop q).take m) (by rw [List.map_take,List.map_drop];exact hr.mid (k:=m) (by omega) hnc) (fun x hx=>hbs x (List.mem_of_mem_drop (List.mem_of_mem_take hx)))
   clear hr hbs hl;go_enter Tryz.func85,Tryz.ntmps85;go_wp2_with fail;refine (H1.out).mono ?_;rintro e w1 ⟨rfl,rfl⟩;clear H1;go_wp2_with fail
   all_goals go_ret3
   all_goals exact ⟨by simp [Db],rfl⟩
theorem uH (A:Option Addr) (n c:Nat) (bs:List Nat) (s:ByteArray) (w:World) (hn:n+s.size<=950000000000) (hr:aG w w.heap.size 1 A n (bs.map dZ)):
  Calls Tryz.prog 40 #[.slice A n c,.string s] w (pW w (bs++gI s)):=by
 obtain ⟨i0,hi,hi0,hi1,hi2⟩:=info_parts fM;have hl:bs.length=n:=by have:=hr.1;simpa using this
 have hlen:=dH (n:=s.size) (by omega);have HC:=hD (fX A n c bs s.size w (by omega) hr (by omega) (by omega));clear hr;go_enter Tryz.func40,Tryz.ntmps40;go_wp2_with fail;refine (HC.out).mono ?_;rintro e w1 ⟨v1,rfl,hown1,hb1⟩;have hsz:=hb1.size;rw [List.length_append,hl] at hown1;have HB:=hD hb1;have HO:=hD hown1;have HL:=hD hl;clear hb1 HC hl;go_wp2_with (at_builtin;refine aF _ rfl (.tmp 8) (.tmp 9) 25 9 rfl w.heap.size 5 i0 (.int .u8 0) 1 1 Tryz.underlying25 hi hi0 hi1 hi2 rfl (by decide) _ _ _ rfl hown1 _ s.size (byteCells s) rfl (Src.ofString _ Tryz.underlying9 s) ?c1 ?c2 ?c3 ?_)
 case c1=>unfold maxLen;omega
 case c2=>omega
 case c3=>omega
 intro v2 w2 hown2 hg2;have R:pW w (bs++gI s) (.returned v2) w2:=by
  refine ⟨v2,rfl,?_,HB.out.trans (hg2.below HB.out.size (fun g h=>(HO.out.lt g h).1))⟩;unfold gI;rw [<- List.append_assoc,List.length_append,List.map_append,rX,<- qJ,List.length_append,HL.out,List.map_append,List.append_assoc];exact hown2
 clear hown2 hg2 hown1;go_wp2_with fail;go_ret;exact R
end
end Go.Proofs.YtkgpoimmniojjaaGreat
