/- No condition. -/
import Derived.Test.YtkgpoimmniojjaaGreatZaAG
import Derived.Test.YtkgpoimmniojjaaGreatZaAB
namespace Go.Proofs.YtkgpoimmniojjaaGreat
set_option linter.unusedVariables false
set_option linter.unusedSimpArgs false
set_option maxRecDepth 100000
set_option maxHeartbeats 16000000
section
open Go.RowKit
variable {p:Nat} {rest bs e:List Nat} {n:Int} {α:Type} {l:List bY}
theorem zB (s:ByteArray) (k:Nat) (w:World) (hk:k < s.size) (hs:s.size<=1000000000) (hl:kH (vX s k)=true):Calls Tryz.prog 155 #[.string s,.int .i64 (k:Int)] w (aV w (lU s k)):=by
 obtain ⟨n,hn0,hn1,hwc⟩:=AO s k (by omega) hs;have hn:1<=n:=hn1 hk hl;have hkn:k+n<=s.size:=by omega
 obtain ⟨n2,hn20,-,hwc2⟩:=AO s (k+n+1) (by omega) hs;have HWC:=hD hwc;have HWC2:Hid (∀ w',Calls Tryz.prog 168 #[.string s,.int .i64 ((k:Int)+(n:Int)+1)] w' (Is w' (.int .i64 (n2:Int)))):=fun w'=>by
  have:=hwc2 w';rwa [show ((k+n+1:Nat):Int)=(k:Int)+(n:Int)+1 by omega] at this
 have HUC:Hid (∀ c w',Calls Tryz.prog 154 #[.int .u8 ((c:Nat):Int)] w' (Is w' (.bool (nS c)))):=fun c w'=>jH c w';have HRC:Hid (∀ t w',Calls Tryz.prog 169 #[.string t] w' (qF w')):=fun t w'=>rZ t w';have hx:=iE hk;obtain ⟨x,hxx⟩:=nm (vX s k);rw [hxx] at hx;clear hxx hwc hwc2 hn0 hn1 hl;obtain ⟨W,hW⟩:=nm (w.alloc (.cells #[.int .i64 0,.int .i64 0,.int .i64 0,.int .i64 0] 187));have HX0:=bk hW;have HBW:=bw hW;obtain ⟨y0,y1,y2,y3⟩:=HX0.out.c4;obtain ⟨q0,q1,q2,q3⟩:=HX0.out.f4;have HW:=hD hW;clear hW;go_enter Tryz.func155,Tryz.ntmps155;go_wp2_with fail;rw [HW.out];refine (HWC.out _).mono ?_;rintro e w1 ⟨rfl,rfl⟩;go_wp2_with fail;refine (HUC.out _ _).mono ?_;rintro e w1 ⟨rfl,rfl⟩;generalize nS _=r2
 cases r2 <;> go_wp2_with fail
 repeat' (first
  | (refine rR (HX0.out.val4 _ _ _ _) Tryz.underlying187 rfl rfl rfl rfl (by kernel_rfl) ?_;exact ⟨aL HBW.out (Nat.le_refl _) _ _ _ _,_,rfl,_,_,_,_,rfl,(fun h=>by first | (exact ⟨by omega,by omega⟩) | omega),by unfold aO;omega,by unfold aO;omega,by unfold aO;omega,by unfold aO;omega⟩)
  | (refine (HRC.out _ _).mono ?_;rintro e w1 ⟨r2,rfl,rfl⟩;cases r2 <;> go_wp2_with fail)
  | (refine (HUC.out _ _).mono ?_;rintro e w1 ⟨rfl,rfl⟩;generalize nS _=r2;cases r2 <;> go_wp2_with fail)
  | (refine (HWC2.out _).mono ?_;rintro e w1 ⟨rfl,rfl⟩;go_wp2_with fail))
def cV (bs:List Nat) (p:Nat):Option (Nat × Nat):=(bC bs p).bind fun y=>if y.1 < 0\/(bs.length:Int) - y.2 < y.1 then none else some (y.1.toNat,y.2)
def bX {α:Type} (f:Nat->Option (α × Nat)):Nat->Nat->Option (List α × Nat)
 | 0,p=>some ([],p)
 | k+1,p=>(f p).bind fun y=>(bX f k y.2).map fun z=>(y.1::z.1,z.2)
def bW {α:Type} (f:Nat->Option (α × Nat)) (bs:List Nat) (p:Nat):Option (List α × Nat):=(cV bs p).bind fun y=>bX f y.1 y.2
def fL (bs:List Nat) (p:Nat):Option (Bool × Nat):=(bs[p]?).bind fun x=>if 1 < x then none else some (x == 1,p+1)
def cY (bs:List Nat) (p:Nat):Option (bG × Nat):=
 (bC bs p).bind fun a=>(bC bs a.2).bind fun b=>(bC bs b.2).bind fun c=>(fL bs c.2).bind fun d=>(cI bs d.2).bind fun e=>(bC bs e.2).map fun f=>(⟨a.1,b.1,c.1,d.1,e.1,f.1⟩,f.2)
def bB (bs:List Nat) (p:Nat):Option (bY × Nat):=
 (bC bs p).bind fun a=>(bW (bC bs) bs a.2).bind fun b=>(bW (bC bs) bs b.2).bind fun c=>(cI bs c.2).bind fun d=>(bW (cY bs) bs d.2).map fun e=>(⟨a.1,b.1,c.1,d.1,e.1⟩,e.2)
def dO (bs:List Nat):Option (List bY):=(bW (bB bs) bs 0).bind fun y=>if y.2=bs.length then some y.1 else none
theorem dC {α:Type} {f:Nat->Option (α × Nat)}:∀ (k p:Nat),bX f (k+1) p=(bX f k p).bind fun y=>(f y.2).map fun z=>(y.1++[z.1],z.2)
 | 0,p=>by
  show (f p).bind _=(f p).map _
  cases f p <;> rfl
 | k+1,p=>by
  rw [bX,bX]
  cases h:f p with
  | none=>rfl
  | some y=>
   show (bX f (k+1) y.2).map _=((bX f k y.2).map _).bind _;rw [dC k y.2]
   cases bX f k y.2 with
   | none=>rfl
   | some z=>
    show ((f z.2).map _).map _=(f z.2).map _
    cases f z.2 <;> rfl
theorem rB {α:Type} {f:Nat->Option (α × Nat)}:∀ (k p:Nat) (l:List α) (q:Nat),bX f k p=some (l,q)->l.length=k
 | 0,p,l,q,h=>by
  injection h with h;injection h with h;subst h;rfl
 | k+1,p,l,q,h=>by
  rw [bX] at h;obtain ⟨y,hy,h⟩:=Option.bind_eq_some_iff.1 h;obtain ⟨z,hz,e⟩:=Option.map_eq_some_iff.1 h;injection e with e1 e2;subst e1;have:=rB k y.2 z.1 z.2 hz;rw [List.length_cons,this]
theorem uV {α:Type} {f:Nat->Option (α × Nat)} {N:Nat} (hf:∀ p x q,p<=N->f p=some (x,q)->q<=N):∀ (k p:Nat) (l:List α) (q:Nat),p<=N->bX f k p=some (l,q)->q<=N
 | 0,p,l,q,hp,h=>by
  injection h with h;injection h with _ h;omega
 | k+1,p,l,q,hp,h=>by
  rw [bX] at h;obtain ⟨y,hy,h⟩:=Option.bind_eq_some_iff.1 h;obtain ⟨z,hz,e⟩:=Option.map_eq_some_iff.1 h;injection e with e1 e2;subst e2;exact uV hf k y.2 z.1 z.2 (hf p y.1 y.2 hp hy) hz
theorem E6:∀ (n u i acc:Nat) (rest:List Nat),u<=n->u*2 ^ (7*i) < 18446744073709551616->i<=9->(0 < i->0 < u)->fH i acc (iD u++rest)=some (acc+u*2 ^ (7*i),i+(iD u).length)
 | n,u,i,acc,rest,hn,hu,hi,h0=>by
  have h9:i=9->u<=1:=fun e=>by
   subst e;have e2:(2:Nat) ^ (7*9)=9223372036854775808:=rfl;rw [e2] at hu;omega
  by_cases h:u < 128
  ·rw [iC h,List.singleton_append,fH,if_neg (by omega),if_pos h,Nat.mod_eq_of_lt h];rfl
  ·have hi8:i < 9:=by
    rcases Nat.lt_or_ge i 9 with h' | h'
    ·exact h'
    ·have:=h9 (by omega);omega
   rw [nL (by omega),List.cons_append,fH,if_neg (by omega),if_neg (by omega)]
   cases n with
   | zero=>omega
   | succ n=>
    have e3:u / 128*2 ^ (7*(i+1))=(u / 128*128)*2 ^ (7*i):=by rw [zO i,Nat.mul_assoc]
    have e5:(u / 128*128)*2 ^ (7*i)<=u*2 ^ (7*i):=Nat.mul_le_mul_right _ (by omega);rw [E6 n (u / 128) (i+1) _ rest (by omega) (by omega) (by omega) (fun _=>by omega)];have e1:(u % 128+128) % 128=u % 128:=by omega
    have e4:u % 128*2 ^ (7*i)+u / 128*128*2 ^ (7*i)=u*2 ^ (7*i):=by
     rw [<- Nat.add_mul]
     congr 1
     omega
    rw [e1,e3,Nat.add_assoc acc,e4,List.length_cons]
    congr 2
    omega
theorem EJ (n:Int):iL (tE n)=n:=by
 unfold iL tE
 split <;> split <;> omega
theorem EX (s:ByteArray):str (Dt s)=s:=by
 apply ByteArray.ext;unfold str Dt;rw [List.map_map];have e:(UInt8.ofNat ∘ UInt8.toNat)=id:=by funext c;simp
 rw [e,List.map_id]
section
variable {bs:List Nat}
theorem Ep (h:bs.drop p=e++rest):bs.drop (p+e.length)=rest:=by rw [<- List.drop_drop,h,List.drop_left]
theorem Eo (hp:p<=bs.length) (h:bs.drop p=e++rest):p+e.length+rest.length=bs.length:=by
 have:=congrArg List.length h;rw [List.length_drop,List.length_append] at this;omega
theorem Er (hn:gD n) (h:bs.drop p=bN n++rest):bC bs p=some (n,p+(bN n).length):=by
 unfold bC;have hz:=AK hn.1 hn.2;have:=E6 (tE n) (tE n) 0 0 rest (Nat.le_refl _) (by simpa using hz) (by omega) (by omega);rw [h];unfold bN;rw [this];simp [EJ]
theorem Fb {k:Nat} (h:k<=1000000000000):gD (k:Int):=⟨by omega,by omega⟩
theorem E0 {s:ByteArray} (hs:s.size<=1000000000000) (hp:p<=bs.length) (h:bs.drop p=gI s++rest):cI bs p=some (s,p+(gI s).length):=by
 unfold gI at h ⊢;rw [List.append_assoc] at h;have h1:=Ep h;have h2:=Eo hp h;unfold cI;rw [Er (Fb hs) h];rw [List.length_append,rX] at h2;show (if (s.size:Int) < 0\/(bs.length:Int) - ((p+(bN (s.size:Int)).length:Nat):Int) < (s.size:Int) then none else _)=_;rw [if_neg (by omega),h1,Int.toNat_natCast];rw [List.length_append,rX,<- Nat.add_assoc];have e:((Dt s++rest).take s.size)=Dt s:=by rw [<- rX s,List.take_left]
 rw [e,EX]
theorem EO {b:Bool} (h:bs.drop p=vM b++rest):fL bs p=some (b,p+(vM b).length):=by
 have:bs[p]?=some (if b then 1 else 0):=by
  have e:=congrArg (fun l=>l[0]?) h;simp only [List.getElem?_drop,Nat.add_zero] at e;rw [e]
  cases b <;> rfl
 unfold fL;rw [this]
 cases b <;> rfl
theorem E1 {α:Type} {f:Nat->Option (α × Nat)} {enc:α->List Nat}:∀ (xs:List α) (p:Nat) (rest:List Nat),(∀ x∈xs,∀ (p:Nat) rest,p<=bs.length->bs.drop p=enc x++rest->f p=some (x,p+(enc x).length))->p<=bs.length->bs.drop p=xs.flatMap enc++rest->bX f xs.length p=some (xs,p+(xs.flatMap enc).length)
 | [],p,rest,hf,hp,h=>rfl
 | x::xs,p,rest,hf,hp,h=>by
  rw [List.flatMap_cons,List.append_assoc] at h;have h1:=Ep h;have h2:=Eo hp h;rw [List.length_cons,bX,hf x (by simp) p _ hp h];show (bX f xs.length (p+(enc x).length)).map _=_;rw [E1 xs _ rest (fun y hy=>hf y (by simp [hy])) (by omega) h1];simp [Nat.add_assoc]
theorem EH {α:Type} {enc:α->List Nat}:∀ (xs:List α),(∀ x∈xs,0 < (enc x).length)->xs.length<=(xs.flatMap enc).length
 | [],_=>Nat.zero_le _
 | x::xs,h=>by
  have:=EH xs (fun y hy=>h y (by simp [hy]));have:=h x (by simp);rw [List.flatMap_cons,List.length_append,List.length_cons];omega
theorem Eu {f:Nat->Option (α × Nat)} {enc:α->List Nat} {xs:List α} (hx:xs.length<=1000000000000) (hpos:∀ x∈xs,0 < (enc x).length) (hf:∀ x∈xs,∀ (p:Nat) rest,p<=bs.length->bs.drop p=enc x++rest->f p=some (x,p+(enc x).length)) (hp:p<=bs.length) (h:bs.drop p=bN xs.length++(xs.flatMap enc++rest)):
  bW f bs p=some (xs,p+(bN xs.length).length+(xs.flatMap enc).length):=by
 have h1:=Ep h;have h2:=Eo hp h;have h3:=EH xs hpos;rw [List.length_append] at h2;have hc:cV bs p=some (xs.length,p+(bN xs.length).length):=by
  unfold cV;rw [Er (Fb hx) h];show (if (xs.length:Int) < 0\/(bs.length:Int) - ((p+(bN (xs.length:Int)).length:Nat):Int) < (xs.length:Int) then none else some ((xs.length:Int).toNat,p+(bN (xs.length:Int)).length))=_;rw [if_neg (by omega),Int.toNat_natCast]
 unfold bW;rw [hc];exact E1 xs _ rest hf (by omega) h1
def bG.fit (c:bG):Prop:=c.ok/\c.text.size<=1000000000000
def bY.fit (c:bY):Prop:=c.ok/\c.note.size<=1000000000000/\c.parents.length<=1000000000000/\c.picks.length<=1000000000000/\c.writes.length<=1000000000000/\∀ x∈c.writes,x.fit
theorem EP {c:bG} (hc:c.fit) (hp:p<=bs.length) (h:bs.drop p=eK c++rest):cY bs p=some (c,p+(eK c).length):=by
 obtain ⟨⟨k1,k2,k3,k4⟩,k5⟩:=hc;unfold eK at h ⊢;simp only [List.append_assoc] at h;have h1:=Ep h;have p1:=Eo hp h;have h2:=Ep h1;have p2:=Eo (by omega) h1;have h3:=Ep h2;have p3:=Eo (by omega) h2;have h4:=Ep h3;have p4:=Eo (by omega) h3;have h5:=Ep h4;unfold cY;rw [Er k1 h,Option.bind_some,Er k2 h1,Option.bind_some,Er k3 h2,Option.bind_some,EO h3,Option.bind_some,E0 k5 (by show p+(bN c.id).length+(bN c.field).length+(bN c.n).length+(vM c.flag).length<=bs.length;omega) h4,Option.bind_some,Er k4 h5];simp [Nat.add_assoc]
theorem EU (c:bG):0 < (eK c).length:=by
 unfold eK bN;have:=vL (tE c.id);simp only [List.length_append];omega
theorem EA {c:bY} (hc:c.fit) (hp:p<=bs.length) (h:bs.drop p=bQ c++rest):bB bs p=some (c,p+(bQ c).length):=by
 obtain ⟨⟨k1,k2,k3,k4⟩,k5,k6,k7,k8,k9⟩:=hc;unfold bQ iN at h ⊢;simp only [List.append_assoc] at h;have h1:=Ep h;have p1:=Eo hp h;have g1:=Ep h1;have q1:=Eo (by omega) h1;have h2:=Ep g1;have p2:=Eo (by omega) g1;have g2:=Ep h2;have q2:=Eo (by omega) h2;have h3:=Ep g2;have p3:=Eo (by omega) g2;have h4:=Ep h3;have p4:=Eo (by omega) h3;have hn:∀ x:Int,0 < (bN x).length:=fun x=>vL _;unfold bB;rw [Er k1 h,Option.bind_some,Eu k6 (fun x _=>hn x) (fun x hx p rest _ h=>Er (k2 x hx) h) (by show p+_<=_;omega) h1,Option.bind_some,Eu k7 (fun x _=>hn x) (fun x hx p rest _ h=>Er (k3 x hx) h) (by show p+_+_+_<=_;omega) h2,Option.bind_some,E0 k5 (by show p+_+_+_+_+_<=_;omega) h3,Option.bind_some,Eu k8 (fun x _=>EU x) (fun x hx p rest hp h=>EP (k9 x hx) hp h) (by show p+_+_+_+_+_+_<=_;omega) h4];simp [Nat.add_assoc]
theorem Ey (c:bY):0 < (bQ c).length:=by
 unfold bQ bN;have:=vL (tE c.stamp);simp only [List.length_append];omega
theorem E2 (hl:l.length<=1000000000000) (hf:∀ c∈l,c.fit):dO (Es l)=some l:=by
 have h:(Es l).drop 0=bN l.length++(l.flatMap bQ++[]):=by rw [List.append_nil];rfl
 unfold dO;rw [Eu hl (fun x _=>Ey x) (fun x hx p rest hp h=>EA (hf x hx) hp h) (Nat.zero_le _) h];show (if _ then _ else _)=_;rw [if_pos (by unfold Es;simp)]
end
theorem E5:∀ (l:List Nat) (i acc u k:Nat),(∀ x∈l,x < 256)->i<=9->fH i acc l=some (u,k)->∃ v,u=acc+v*2 ^ (7*i)/\l=iD v++l.drop (k - i)/\k=i+(iD v).length/\(0 < i->0 < v)
 | [],i,acc,u,k,hb,hi,h=>by cases h
 | x::r,i,acc,u,k,hb,hi,h=>by
  have hx:x < 256:=hb x (by simp);rw [fH] at h
  split at h
  ·cases h
  ·rename_i hc
   split at h
   ·rename_i hx1;injection h with h;injection h with h1 h2;refine ⟨x,?_,?_,?_,fun h0=>?_⟩
    ·rw [<- h1,Nat.mod_eq_of_lt hx1]
    ·rw [iC hx1,<- h2,show i+1 - i=1 by omega];rfl
    ·rw [iC hx1,<- h2];rfl
    ·rcases Nat.eq_zero_or_pos x with e | e
     ·exact absurd (.inr ⟨h0,e⟩) hc
     ·exact e
   ·rename_i hx1;have hi9:i+1<=9:=by
     rcases Nat.lt_or_ge i 9 with h' | h'
     ·omega
     ·exact absurd (.inl ⟨by omega,by omega⟩) hc
    obtain ⟨v,e1,e2,e3,e4⟩:=E5 r (i+1) _ u k (fun y hy=>hb y (by simp [hy])) hi9 h;have hv:=e4 (by omega);refine ⟨x % 128+128*v,?_,?_,?_,fun _=>by omega⟩
    ·rw [e1,zO,Nat.add_mul,Nat.add_assoc,<- Nat.mul_assoc,Nat.mul_comm v 128]
    ·rw [nL (by omega),show (x % 128+128*v) % 128+128=x by omega,show (x % 128+128*v) / 128=v by omega,show k - i=(k - (i+1))+1 by omega,List.drop_succ_cons,List.cons_append,<- e2]
    ·rw [nL (by omega),show (x % 128+128*v) / 128=v by omega,List.length_cons,e3];omega
theorem EI (u:Nat):tE (iL u)=u:=by
 unfold iL tE
 split <;> split <;> omega
theorem ER (hb:∀ x∈bs,x < 256) {q:Nat} (h:bC bs p=some (n,q)):bs.drop p=bN n++bs.drop q/\q=p+(bN n).length:=by
 unfold bC at h;obtain ⟨⟨u,k⟩,hs,e⟩:=Option.map_eq_some_iff.1 h;injection e with e1 e2;obtain ⟨v,h1,h2,h3,-⟩:=E5 _ 0 0 u k (fun x hx=>hb x (List.mem_of_mem_drop hx)) (by omega) hs;have hv:u=v:=by simpa using h1
 subst hv;have he:bN n=iD u:=by unfold bN;rw [<- e1,EI]
 have hk:k=(iD u).length:=by omega
 rw [he,<- e2];show bs.drop p=iD u++bs.drop (p+k)/\p+k=p+(iD u).length;refine ⟨?_,by omega⟩;rw [<- List.drop_drop];simpa using h2
section
variable {bs:List Nat}
def EZ {α:Type} (bs:List Nat) (enc:α->List Nat) (f:Nat->Option (α × Nat)):Prop:=∀ (p:Nat) (x:α) (q:Nat),p<=bs.length->f p=some (x,q)->bs.drop p=enc x++bs.drop q/\q=p+(enc x).length/\q<=bs.length
theorem Et (hb:∀ x∈bs,x < 256):EZ bs bN (bC bs):=fun p x q hp h=>by
 obtain ⟨h1,h2⟩:=ER hb h;exact ⟨h1,h2,eB hp h⟩
theorem EW {l:List Nat} (h:∀ x∈l,x < 256):Dt (str l)=l:=by
 show (l.map UInt8.ofNat).map UInt8.toNat=l;rw [List.map_map];have:∀ x∈l,(UInt8.toNat ∘ UInt8.ofNat) x=x:=fun x hx=>UInt8.toNat_ofNat_of_lt' (h x hx);rw [List.map_congr_left this,List.map_id']
theorem E3 (hb:∀ x∈bs,x < 256):EZ bs gI (cI bs):=fun p s q hp h=>by
 unfold cI at h
 split at h
 ·cases h
 ·rename_i n q1 hn
  split at h
  ·cases h
  ·rename_i hc;injection h with h;injection h with h1 h2;obtain ⟨a1,a2,a3⟩:=Et hb p n q1 hp hn;have ht:Dt s=(bs.drop q1).take n.toNat:=by
    rw [<- h1];exact EW (fun x hx=>hb x (List.mem_of_mem_drop (List.mem_of_mem_take hx)))
   have hs:s.size=n.toNat:=by
    rw [<- rX,ht,List.length_take,List.length_drop];omega
   have hsn:(s.size:Int)=n:=by omega
   refine ⟨?_,?_,by omega⟩
   ·unfold gI;rw [hsn,ht,a1,<- h2,<- List.drop_drop,List.append_assoc,List.take_append_drop]
   ·unfold gI;rw [hsn,List.length_append,rX,<- h2,a2,hs];omega
theorem ET:EZ bs vM (fL bs):=fun p b q hp h=>by
 unfold fL at h;obtain ⟨x,hx,h⟩:=Option.bind_eq_some_iff.1 h
 split at h
 ·cases h
 ·rename_i hc;injection h with h;injection h with h1 h2;have hlt:=(List.getElem?_eq_some_iff.1 hx).1;have he:vM b=[x]:=by
   rw [<- h1];rcases (show x=0\/x=1 by omega) with rfl | rfl <;> rfl
  rw [he,<- h2];exact ⟨mJ hx,rfl,by omega⟩
theorem E7 {α:Type} {f:Nat->Option (α × Nat)} {enc:α->List Nat} (hf:EZ bs enc f):∀ (k:Nat),EZ bs (fun l:List α=>l.flatMap enc) (bX f k)
 | 0,p,l,q,hp,h=>by
  injection h with h;injection h with h1 h2;subst h1 h2;exact ⟨rfl,rfl,hp⟩
 | k+1,p,l,q,hp,h=>by
  rw [bX] at h;obtain ⟨⟨x,q1⟩,hx,h⟩:=Option.bind_eq_some_iff.1 h;obtain ⟨⟨l2,q2⟩,hl,e⟩:=Option.map_eq_some_iff.1 h;injection e with e1 e2;subst e1 e2;obtain ⟨a1,a2,a3⟩:=hf p x q1 hp hx;obtain ⟨b1,b2,b3⟩:=E7 hf k q1 l2 q2 a3 hl;refine ⟨?_,?_,b3⟩
  ·show bs.drop p=(x::l2).flatMap enc++bs.drop q2;rw [List.flatMap_cons,List.append_assoc,a1]
   congr 1
  ·show q2=p+((x::l2).flatMap enc).length;have b2':q2=q1+(l2.flatMap enc).length:=b2;rw [List.flatMap_cons,List.length_append];omega
theorem Ew (hb:∀ x∈bs,x < 256) {f:Nat->Option (α × Nat)} {enc:α->List Nat} (hf:EZ bs enc f):EZ bs (fun l:List α=>bN l.length++l.flatMap enc) (bW f bs):=fun p l q hp h=>by
 unfold bW at h;obtain ⟨⟨n,q1⟩,hc,h⟩:=Option.bind_eq_some_iff.1 h;unfold cV at hc;obtain ⟨⟨z,q2⟩,hz,hc⟩:=Option.bind_eq_some_iff.1 hc
 split at hc
 ·cases hc
 ·rename_i hn;injection hc with hc;injection hc with c1 c2;have c1':z.toNat=n:=c1;have c2':q2=q1:=c2;subst c2';obtain ⟨a1,a2,a3⟩:=Et hb p z q2 hp hz;have hlen:=rB n q2 l q h;obtain ⟨b1,b2,b3⟩:=E7 hf n q2 l q a3 h;have hzl:((l.length:Nat):Int)=z:=by omega
  have b1':bs.drop q2=l.flatMap enc++bs.drop q:=b1;have b2':q=q2+(l.flatMap enc).length:=b2;refine ⟨?_,?_,b3⟩
  ·show bs.drop p=(bN l.length++l.flatMap enc)++bs.drop q;rw [hzl,List.append_assoc,a1,b1']
  ·show q=p+(bN l.length++l.flatMap enc).length;rw [hzl,List.length_append];omega
theorem EV (hb:∀ x∈bs,x < 256):EZ bs eK (cY bs):=fun p c q hp h=>by
 unfold cY at h;obtain ⟨⟨x1,q1⟩,h1,h⟩:=Option.bind_eq_some_iff.1 h;obtain ⟨⟨x2,q2⟩,h2,h⟩:=Option.bind_eq_some_iff.1 h;obtain ⟨⟨x3,q3⟩,h3,h⟩:=Option.bind_eq_some_iff.1 h;obtain ⟨⟨x4,q4⟩,h4,h⟩:=Option.bind_eq_some_iff.1 h;obtain ⟨⟨x5,q5⟩,h5,h⟩:=Option.bind_eq_some_iff.1 h;obtain ⟨⟨x6,q6⟩,h6,e⟩:=Option.map_eq_some_iff.1 h;injection e with e1 e2;subst e1 e2;obtain ⟨a1,b1,c1⟩:=Et hb p x1 q1 hp h1;obtain ⟨a2,b2,c2⟩:=Et hb q1 x2 q2 c1 h2;obtain ⟨a3,b3,c3⟩:=Et hb q2 x3 q3 c2 h3;obtain ⟨a4,b4,c4⟩:=ET q3 x4 q4 c3 h4;obtain ⟨a5,b5,c5⟩:=E3 hb q4 x5 q5 c4 h5;obtain ⟨a6,b6,c6⟩:=Et hb q5 x6 q6 c5 h6;refine ⟨?_,?_,c6⟩
 ·unfold eK;rw [a1,a2,a3,a4,a5,a6];simp only [List.append_assoc]
 ·unfold eK;simp only [List.length_append];show q6=_;omega
theorem EF (hb:∀ x∈bs,x < 256):EZ bs bQ (bB bs):=fun p c q hp h=>by
 unfold bB at h;obtain ⟨⟨x1,q1⟩,h1,h⟩:=Option.bind_eq_some_iff.1 h;obtain ⟨⟨x2,q2⟩,h2,h⟩:=Option.bind_eq_some_iff.1 h;obtain ⟨⟨x3,q3⟩,h3,h⟩:=Option.bind_eq_some_iff.1 h;obtain ⟨⟨x4,q4⟩,h4,h⟩:=Option.bind_eq_some_iff.1 h;obtain ⟨⟨x5,q5⟩,h5,e⟩:=Option.map_eq_some_iff.1 h;injection e with e1 e2;subst e1 e2;obtain ⟨a1,b1,c1⟩:=Et hb p x1 q1 hp h1;obtain ⟨a2,b2,c2⟩:=Ew hb (Et hb) q1 x2 q2 c1 h2;obtain ⟨a3,b3,c3⟩:=Ew hb (Et hb) q2 x3 q3 c2 h3;obtain ⟨a4,b4,c4⟩:=E3 hb q3 x4 q4 c3 h4;obtain ⟨a5,b5,c5⟩:=Ew hb (EV hb) q4 x5 q5 c4 h5;simp only [List.length_append] at b2 b3 b5;refine ⟨?_,?_,c5⟩
 ·unfold bQ iN;rw [a1,a2,a3,a4,a5];simp only [List.append_assoc]
 ·unfold bQ iN;simp only [List.length_append];show q5=_;omega
theorem E9 (hb:∀ x∈bs,x < 256) (h:dO bs=some l):bs=Es l:=by
 unfold dO at h;obtain ⟨⟨l2,q⟩,hl,h⟩:=Option.bind_eq_some_iff.1 h
 split at h
 ·rename_i hq;injection h with h;subst h;obtain ⟨a1,-,-⟩:=Ew hb (EF hb) 0 l2 q (Nat.zero_le _) hl;have hq':q=bs.length:=hq;rw [hq',List.drop_length,List.append_nil] at a1;exact a1
 ·cases h
end
def Al (bs:List Nat) (z:Int):Option (Nat × Nat):=(jT bs z).bind fun y=>if y.1 < 0\/(bs.length:Int) - y.2 < y.1 then none else some (y.1.toNat,y.2)
def sB:Option (Nat × Nat)->Ending
 | some y=>.returned (.tuple #[.int .i64 (y.1:Int),.int .i64 (y.2:Int),.int .i64 0])
 | none=>.returned (.tuple #[.int .i64 0,.int .i64 0,.int .i64 13])
theorem sQ {n:Nat} (hl:bs.length=n) (h:p<=n):Al bs (p:Int)=cV bs p:=by
 unfold Al cV;rw [nK hl h]
theorem hY (A:Option Addr) (n c:Nat) (z:Int) (bs:List Nat) (w:World) (hn:n<=1000000000000) (B:Nat) (hr:aG w B 1 A n (bs.map dZ)) (hbs:∀ x∈bs,x < 256):
  Calls Tryz.prog 46 #[.slice A n c,.int .i64 z] w fun e w'=>e=sB (Al bs z)/\w=w':=by
 have hl:bs.length=n:=by have:=hr.1;simpa using this
 have H1:=hD (eH A n c z bs w hn B hr hbs);unfold Al;rw [hl];have hgb:=fun x q=>oZ (bs:=bs) (z:=z) (x:=x) (q:=q);generalize jT bs z=o at H1 hgb ⊢;rcases o with _ | ⟨x,q⟩
 ·simp only [pY] at H1;have HE:Hid (sB ((none:Option (Int × Nat)).bind fun y=>if y.1 < 0\/(n:Int) - y.2 < y.1 then none else some (y.1.toNat,y.2))=.returned (.tuple #[.int .i64 0,.int .i64 0,.int .i64 13])):=rfl;clear hr hbs hl hgb;go_enter Tryz.func46,Tryz.ntmps46;go_wp2_with fail;refine (H1.out).mono ?_;rintro e w1 ⟨rfl,rfl⟩;go_wp2_with fail
  go_ret3
  exact ⟨HE.out.symm,rfl⟩
 ·simp only [pY] at H1;obtain ⟨hx1,hx2⟩:=hgb x q rfl;rw [hl] at hx2;clear hgb hr hbs;by_cases hx:x < 0\/(n:Int) - q < x
  ·have HE:Hid (sB ((some (x,q)).bind fun y=>if y.1 < 0\/(n:Int) - y.2 < y.1 then none else some (y.1.toNat,y.2))=.returned (.tuple #[.int .i64 0,.int .i64 0,.int .i64 13])):=by
    unfold Hid;rw [Option.bind_some,if_pos hx];rfl
   clear hl;go_enter Tryz.func46,Tryz.ntmps46;go_wp2_with fail;refine (H1.out).mono ?_;rintro e w1 ⟨rfl,rfl⟩;by_cases h0:x < 0
   ·have d1:decide (x < 0)=true:=decide_eq_true h0;go_wp2_with fail
    go_ret3
    exact ⟨HE.out.symm,rfl⟩
   ·have d1:decide (x < 0)=false:=decide_eq_false h0;have d2:decide ((n:Int) - (q:Int) < x)=true:=decide_eq_true (by omega);go_wp2_with fail
    go_ret3
    exact ⟨HE.out.symm,rfl⟩
  ·have HE:Hid (sB ((some (x,q)).bind fun y=>if y.1 < 0\/(n:Int) - y.2 < y.1 then none else some (y.1.toNat,y.2))=.returned (.tuple #[.int .i64 x,.int .i64 (q:Int),.int .i64 0])):=by
    unfold Hid;rw [Option.bind_some,if_neg hx];show Ending.returned (.tuple #[.int .i64 (x.toNat:Int),.int .i64 (q:Int),.int .i64 0])=_;rw [Int.toNat_of_nonneg (by omega)]
   have d1:decide (x < 0)=false:=decide_eq_false (by omega);have d2:decide ((n:Int) - (q:Int) < x)=false:=decide_eq_false (by omega);clear hl;go_enter Tryz.func46,Tryz.ntmps46;go_wp2_with fail;refine (H1.out).mono ?_;rintro e w1 ⟨rfl,rfl⟩;go_wp2_with fail
   go_ret3
   exact ⟨HE.out.symm,rfl⟩
def pS (w:World) (r:Nat) (A:Option Addr) (n c:Nat) (o:Option (Bool × Nat)) (e:Ending) (w':World):Prop:=
 ∃ b,e=.returned (.bool b)/\(∀ y,o=some y->y.1=b)/\Rd w' r A n c (o.map (·.2))/\w.grownBy w' (some r)
theorem Bw (r:Nat) (A:Option Addr) (n c:Nat) (z:Int) (w:World) (hb:aK w r 54 #[.slice A n c,.int .i64 z,.bool true]):
  Calls Tryz.prog 82 #[.pointer (some ⟨r,0,none⟩)] w (pS w r A n c none):=by
 have H1:=hD (qY r A n c z w hb);clear hb;go_enter Tryz.func82,Tryz.ntmps82;go_wp2_with fail;refine (H1.out).mono ?_;rintro e w1 ⟨rfl,hb1,hg1⟩;have HB:=hD hb1;have HG:=hD hg1;clear hb1 hg1 H1;go_wp2_with fail;go_ret;exact ⟨_,rfl,(fun y h=>by cases h),⟨z,HB.out⟩,HG.out⟩
theorem CB (r:Nat) (A:Option Addr) (n c p:Nat) (bs:List Nat) (w:World) (hb:aK w r 54 #[.slice A n c,.int .i64 (p:Int),.bool false]) (hp:p<=n) (hn:n<=1000000000000)
  (hr:aG w r 1 A n (bs.map dZ)):
  Calls Tryz.prog 82 #[.pointer (some ⟨r,0,none⟩)] w (pS w r A n c (fL bs p)):=by
 have hl:bs.length=n:=by have:=hr.1;simpa using this
 by_cases hlt:p < n
 ·obtain ⟨x,hx⟩:∃ x,bs[p]?=some x:=⟨_,List.getElem?_eq_getElem (by omega)⟩;have H1:=hD (gP r A n c p x bs w hb hlt hn hr hx);have hf:fL bs p=if 1 < x then none else some (x == 1,p+1):=by unfold fL;rw [hx];rfl
  rw [hf];by_cases h1:1 < x
  ·rw [if_pos h1];have d1:decide ((1:Int) < (x:Int))=true:=decide_eq_true (by omega);have d1':decide (1 < x)=true:=decide_eq_true h1;clear hb hr hx hf;go_enter Tryz.func82,Tryz.ntmps82;go_wp2_with fail;refine (H1.out).mono ?_;rintro e w1 ⟨rfl,hb1,hg1⟩;have c2:=hb1.cell 2;have f2:=hb1.frozen 2;simp at c2;have HB:=hD hb1;have HG:=hD hg1;clear hb1 hg1 H1;go_wp2_with fail;go_ret;exact ⟨_,rfl,(fun y h=>by cases h),⟨_,by simpa using HB.out.set_ 2 (.bool true)⟩,aW HG.out (.inl rfl) _⟩
  ·rw [if_neg h1];have d1:decide ((1:Int) < (x:Int))=false:=decide_eq_false (by omega);have d1':decide (1 < x)=false:=decide_eq_false h1;have HX:Hid ((x == 1)=((x:Int) == 1)):=by
    unfold Hid;rcases (show x=0\/x=1 by omega) with rfl | rfl <;> rfl
   clear hb hr hx hf;go_enter Tryz.func82,Tryz.ntmps82;go_wp2_with fail;refine (H1.out).mono ?_;rintro e w1 ⟨rfl,hb1,hg1⟩;have HB:=hD hb1;have HG:=hD hg1;clear hb1 hg1 H1;go_wp2_with fail;go_ret;refine ⟨_,rfl,(fun y h=>?_),⟨by simpa using HB.out,by show p+1<=n;omega⟩,HG.out⟩;injection h with h;subst h;simpa using HX.out
 ·have hf:fL bs p=none:=by unfold fL;rw [List.getElem?_eq_none (by omega)];rfl
  rw [hf];have H1:=hD (mC r A n c p w hb (by omega));clear hb hr hf;go_enter Tryz.func82,Tryz.ntmps82;go_wp2_with fail;refine (H1.out).mono ?_;rintro e w1 ⟨rfl,hb1,hg1⟩;have HB:=hD hb1;have HG:=hD hg1;clear hb1 hg1 H1;go_wp2_with fail;go_ret;exact ⟨_,rfl,(fun y h=>by cases h),⟨_,HB.out⟩,HG.out⟩
structure fQ (w:World) (r:Nat) (A:Option Addr) (n c:Nat) (bs:List Nat):Prop where
 hn:n<=1000000000000
 hnc:n<=c
 hr:aG w r 1 A n (bs.map dZ)
 hbs:∀ x∈bs,x < 256
section
variable {w w':World} {r n c:Nat} {A:Option Addr} {bs:List Nat} {s:Option Nat}
theorem fQ.grown (h:fQ w r A n c bs) (hg:w.grownBy w' (some r)) (hr:r<=w.heap.size):fQ w' r A n c bs:=
 ⟨h.hn,h.hnc,h.hr.grown hg hr (fun g hg=>by injection hg;omega),h.hbs⟩
theorem fQ.alloc (h:fQ w r A n c bs) (hr:r<=w.heap.size) (o:Obj):fQ (w.alloc o) r A n c bs:=⟨h.hn,h.hnc,h.hr.alloc hr o,h.hbs⟩
theorem fQ.setCell (h:fQ w r A n c bs) {p:Addr} (hp:r<=p.block) (u:Value):fQ (w.setCell p u) r A n c bs:=⟨h.hn,h.hnc,h.hr.setCell hp u,h.hbs⟩
theorem fQ.len (h:fQ w r A n c bs):bs.length=n:=by have:=h.hr.1;simpa using this
theorem Rd.lt (h:Rd w r A n c s):r < w.heap.size:=by
 cases s with
 | none=>obtain ⟨z,hb⟩:=h;exact hb.lt
 | some p=>exact h.1.lt
theorem Rd.alloc (h:Rd w r A n c s) (o:Obj):Rd (w.alloc o) r A n c s:=by
 cases s with
 | none=>obtain ⟨z,hb⟩:=h;exact ⟨z,hb.alloc o⟩
 | some p=>exact ⟨h.1.alloc o,h.2⟩
theorem Rd.far (h:Rd w r A n c s) {p:Addr} (hp:r≠p.block) (u:Value):Rd (w.setCell p u) r A n c s:=by
 cases s with
 | none=>obtain ⟨z,hb⟩:=h;exact ⟨z,hb.far hp u⟩
 | some q=>exact ⟨h.1.far hp u,h.2⟩
theorem Rd.drewN (h:Rd w r A n c s) (k:Nat):Rd (w.drewN k) r A n c s:=h
theorem Rd.grown {row:Option Nat} (h:Rd w r A n c s) (hg:w.grownBy w' row) (hr:some r≠row):Rd w' r A n c s:=by
 cases s with
 | none=>obtain ⟨z,hb⟩:=h;exact ⟨z,hb.grown hg hr⟩
 | some p=>exact ⟨h.1.grown hg hr,h.2⟩
def Dp (w:World) (r:Nat) (A:Option Addr) (n c:Nat) (o:Option (Int × Nat)) (e:Ending) (w':World):Prop:=
 ∃ v,e=.returned (.int .i64 v)/\(∀ y,o=some y->y.1=v)/\Rd w' r A n c (o.map (·.2))/\w.grownBy w' (some r)
def CL (w:World) (r:Nat) (A:Option Addr) (n c:Nat) (o:Option (ByteArray × Nat)) (e:Ending) (w':World):Prop:=
 ∃ v,e=.returned (.string v)/\(∀ y,o=some y->y.1=v)/\Rd w' r A n c (o.map (·.2))/\w.grownBy w' (some r)
theorem dL (h:Rd w r A n c s) (hi:fQ w r A n c bs):Calls Tryz.prog 41 #[.pointer (some ⟨r,0,none⟩)] w (Dp w r A n c (s.bind (bC bs))):=by
 have key:Calls Tryz.prog 41 #[.pointer (some ⟨r,0,none⟩)] w (jD w r A n c (s.bind (bC bs))):=by
  cases s with
  | none=>obtain ⟨z,hb⟩:=h;exact kW r A n c z w hb
  | some p=>exact mD r A n c p bs w h.1 h.2 hi.hn hi.hr hi.hbs
 exact key.mono fun e w' ⟨h1,h2,h3⟩=>⟨_,h1,fun y hy=>by rw [hy];rfl,h2,h3⟩
theorem tS (h:Rd w r A n c s) (hi:fQ w r A n c bs):Calls Tryz.prog 43 #[.pointer (some ⟨r,0,none⟩)] w (CL w r A n c (s.bind (cI bs))):=by
 have key:Calls Tryz.prog 43 #[.pointer (some ⟨r,0,none⟩)] w (pL w r A n c (s.bind (cI bs))):=by
  cases s with
  | none=>obtain ⟨z,hb⟩:=h;exact AX r A n c z w hb
  | some p=>exact Co r A n c p bs w h.1 h.2 hi.hn hi.hnc hi.hr hi.hbs
 exact key.mono fun e w' ⟨h1,h2,h3⟩=>⟨_,h1,fun y hy=>by rw [hy];rfl,h2,h3⟩
theorem Bx (h:Rd w r A n c s) (hi:fQ w r A n c bs):Calls Tryz.prog 82 #[.pointer (some ⟨r,0,none⟩)] w (pS w r A n c (s.bind (fL bs))):=by
 cases s with
 | none=>obtain ⟨z,hb⟩:=h;exact Bw r A n c z w hb
 | some p=>exact CB r A n c p bs w h.1 h.2 hi.hn hi.hr
end
def Cb (w:World) (r:Nat) (A:Option Addr) (n c:Nat) (o:Option (bG × Nat)) (e:Ending) (w':World):Prop:=
 ∃ y:bG,e=.returned (.agg #[.int .i64 y.id,.int .i64 y.field,.int .i64 y.n,.bool y.flag,.string y.text,.int .i64 y.ref])/\(∀ z,o=some z->z.1=y)/\Rd w' r A n c (o.map (·.2))/\w.grownBy w' (some r)
def Ds (w:World) (g:Nat) (y:bG):Prop:=aK w g 83 #[.int .i64 y.id,.int .i64 y.field,.int .i64 y.n,.bool y.flag,.string y.text,.int .i64 y.ref]
structure Dr (w0 w:World) (r g:Nat) (A:Option Addr) (n c:Nat) (bs:List Nat) (s:Option Nat) (y:bG):Prop where
 rd:Rd w r A n c s
 inn:fQ w r A n c bs
 box:Ds w (g+1) y
 out:aK w g 83 #[.int .i64 0,.int .i64 0,.int .i64 0,.bool false,.string ByteArray.empty,.int .i64 0]
 gr:w0.grownBy w (some r)
 new:w0.heap.size<=g
 old:r < w0.heap.size
section
variable {w0 w w':World} {r g n c:Nat} {A:Option Addr} {bs:List Nat} {s s':Option Nat} {y:bG}
theorem Dr.next (h:Dr w0 w r g A n c bs s y) (hr:Rd w' r A n c s') (hg:w.grownBy w' (some r)):Dr w0 w' r g A n c bs s' y:=
 ⟨hr,h.inn.grown hg (Nat.le_of_lt h.rd.lt),h.box.grown hg (by have:=h.new;have:=h.old;intro e;injection e;omega),h.out.grown hg (by have:=h.new;have:=h.old;intro e;injection e;omega),h.gr.trans hg,h.new,h.old⟩
theorem Dr.put (h:Dr w0 w r g A n c bs s y) (k:Nat) (u:Value) (y':bG) (hy:(#[.int .i64 y.id,.int .i64 y.field,.int .i64 y.n,.bool y.flag,.string y.text,.int .i64 y.ref]:Array Value).setIfInBounds k u=#[.int .i64 y'.id,.int .i64 y'.field,.int .i64 y'.n,.bool y'.flag,.string y'.text,.int .i64 y'.ref]):
  Dr w0 (w.setCell ⟨g+1,k,none⟩ u) r g A n c bs s y':=by
 have h1:=h.new;have h2:=h.old;refine ⟨h.rd.far (by show r≠g+1;omega) u,h.inn.setCell (by show r<=g+1;omega) u,?_,h.out.far (by show g≠g+1;omega) u,aW h.gr (.inr (by show w0.heap.size<=g+1;omega)) u,h.new,h.old⟩;have:=h.box.set_ k u;unfold Ds;rw [<- hy];exact this
end
theorem xO {s s1 s2 s3 s4 s5 s6:Option Nat} {a b c f:Int} {d:Bool} {e:ByteArray}
  (h1:(s.bind (bC bs)).map (·.2)=s1) (k1:∀ y,s.bind (bC bs)=some y->y.1=a)
  (h2:(s1.bind (bC bs)).map (·.2)=s2) (k2:∀ y,s1.bind (bC bs)=some y->y.1=b)
  (h3:(s2.bind (bC bs)).map (·.2)=s3) (k3:∀ y,s2.bind (bC bs)=some y->y.1=c)
  (h4:(s3.bind (fL bs)).map (·.2)=s4) (k4:∀ y,s3.bind (fL bs)=some y->y.1=d)
  (h5:(s4.bind (cI bs)).map (·.2)=s5) (k5:∀ y,s4.bind (cI bs)=some y->y.1=e)
  (h6:(s5.bind (bC bs)).map (·.2)=s6) (k6:∀ y,s5.bind (bC bs)=some y->y.1=f):
  (∀ z,s.bind (cY bs)=some z->z.1=⟨a,b,c,d,e,f⟩)/\(s.bind (cY bs)).map (·.2)=s6:=by
 subst h1 h2 h3 h4 h5 h6;rcases s with _ | p
 ·exact ⟨(fun z hz=>by cases hz),rfl⟩
 simp only [Option.bind_some] at*;unfold cY;rcases e1:bC bs p with _ | y1
 ·exact ⟨(fun z hz=>by cases hz),rfl⟩
 simp only [e1,Option.map_some,Option.bind_some] at*;rcases e2:bC bs y1.2 with _ | y2
 ·exact ⟨(fun z hz=>by cases hz),rfl⟩
 simp only [e2,Option.map_some,Option.bind_some] at*;rcases e3:bC bs y2.2 with _ | y3
 ·exact ⟨(fun z hz=>by cases hz),rfl⟩
 simp only [e3,Option.map_some,Option.bind_some] at*;rcases e4:fL bs y3.2 with _ | y4
 ·exact ⟨(fun z hz=>by cases hz),rfl⟩
 simp only [e4,Option.map_some,Option.bind_some] at*;rcases e5:cI bs y4.2 with _ | y5
 ·exact ⟨(fun z hz=>by cases hz),rfl⟩
 simp only [e5,Option.map_some,Option.bind_some] at*;rcases e6:bC bs y5.2 with _ | y6
 ·exact ⟨(fun z hz=>by cases hz),rfl⟩
 simp only [e6,Option.map_some] at*;refine ⟨fun z hz=>?_,trivial⟩;injection hz with hz;subst hz;rw [k1 _ rfl,k2 _ rfl,k3 _ rfl,k4 _ rfl,k5 _ rfl,k6 _ rfl]
end
end Go.Proofs.YtkgpoimmniojjaaGreat
