/- No condition. -/
import Derived.Test.YtkgpoimmniojjaaGreatZaAE
namespace Go.Proofs.YtkgpoimmniojjaaGreat
set_option linter.unusedVariables false
set_option linter.unusedSimpArgs false
set_option maxRecDepth 100000
set_option maxHeartbeats 16000000
section
open Go.RowKit
variable {w w':World} {c B N K M n k:Nat} {A:Option Addr} {l:List Int} {e:TypeId} {fs:List Ty}
theorem V.new {vals:List Value} {m:Nat} (hl:vals.length=m*fs.length) (hT:Ts w w.heap.size fs vals) (hm:0 < m):V (w.alloc (.cells vals.toArray e)) (w.heap.size+1) (.sl m e fs) (.slice (some ⟨w.heap.size,0,none⟩) m m):=by
 have hb:(w.alloc (.cells vals.toArray e)).heap[w.heap.size]?=some (.cells vals.toArray e (0,0)):=heap_alloc_new w _;refine .sl m e fs _ m m vals (Nat.le_refl _) (Nat.le_refl _) ⟨hl,fun _=>⟨_,rfl,Nat.lt_succ_self _,fun j u hu=>?_⟩⟩ (fun ad e1 _=>?_) (fun j u t hu ht=>((hT j u t hu ht).bel ((Below.refl _ w).alloc (Nat.le_refl _) _)).more (Nat.le_succ _))
 ·rw [Addr.add_lit,Nat.zero_add,cell_of_row _ _ j _ e (0,0) hb];simpa using hu
 ·injection e1 with e1;subst e1;exact ⟨_,hb⟩
structure IL (w:World) (B:Nat) (A:Option Addr) (c:Nat) (l:List Int):Prop where
 rd:aG w B 1 A l.length (l.map (Value.int .i64))
 cap:l.length<=c
 ok:∀ x∈l,aO x
 blk:∀ ad,A=some ad->0 < l.length->∃ cs,w.heap[ad.block]?=some (.cells cs 3 (0,0))
theorem IL.v (h:IL w B A c l) (hn:l.length<=n):V w B (.sl n 3 [.int]) (.slice A l.length c):=
 .sl n 3 [.int] A l.length c _ h.cap hn h.rd h.blk (fun j u t hu ht=>by
  rw [List.getElem?_map] at hu;obtain ⟨x,hx,rfl⟩:=Option.map_eq_some_iff.1 hu;have:j % [Ty.int].length=0:=by simp [Nat.mod_one]
  rw [this] at ht;simp at ht;subst ht;exact .int x (h.ok x (List.mem_of_getElem? hx)))
theorem oW {w:World} {B:Nat}:∀ {xs:List Value},Ts w B [.int] xs->∃ l:List Int,xs=l.map (Value.int .i64)/\∀ x∈l,aO x
 | [],_=>⟨[],rfl,fun _ h=>by cases h⟩
 | u::xs,h=>by
  obtain ⟨z,rfl,hz⟩:=(h 0 u .int rfl rfl).int_inv;obtain ⟨l,rfl,hl⟩:=oW (xs:=xs) (fun j u t hu ht=>h (j+1) u t (by simpa using hu) (by simpa [Nat.mod_one] using ht));refine ⟨z::l,rfl,fun x hx=>?_⟩;rcases List.mem_cons.1 hx with rfl | hx
  ·exact hz
  ·exact hl x hx
theorem V.il {len:Nat} (h:V w B (.sl n 3 [.int]) (.slice A len c)):∃ l:List Int,l.length=len/\IL w B A c l:=by
 cases h with
 | sl n e fs A len cap xs hc hn hr hb hx=>
  obtain ⟨l,rfl,hl⟩:=oW hx;have e:l.length=len:=by have:=hr.1;simpa using this
  subst e;exact ⟨l,rfl,hr,hc,hl,hb⟩
theorem IL.bel (h:IL w B A c l) (hb:Below B w w'):IL w' B A c l:=by
 obtain ⟨l',e,h'⟩:=((h.v (Nat.le_refl _)).bel hb).il;refine ⟨h.rd.below hb,h.cap,h.ok,fun ad e0 h0=>?_⟩;obtain ⟨cs,hcs⟩:=h.blk ad e0 h0;obtain ⟨ad',e1,hB,_⟩:=h.rd.2 h0;rw [e0] at e1;injection e1 with e1;subst e1;exact ⟨cs,(hb.block _ hB).trans hcs⟩
theorem IL.more {B':Nat} (h:IL w B A c l) (hB:B<=B'):IL w B' A c l:=⟨h.rd.more hB,h.cap,h.ok,h.blk⟩
theorem IL.up (h:IL w w.heap.size A c l) (hb:Below w.heap.size w w'):IL w' w'.heap.size A c l:=(h.bel hb).more hb.size
theorem IL.grows {r r':Value} (h:IL w B A c l) (hB:B<=w.heap.size) (hg:aR w w' r r') (hne:∀ ad,A=some ad->0 < l.length->r.ownBlock≠some ad.block):IL w' B A c l:=by
 have same:∀ ad,A=some ad->0 < l.length->w'.heap[ad.block]?=w.heap[ad.block]?:=fun ad e h0=>by
  obtain ⟨ad',e1,hb,-⟩:=h.rd.2 h0;rw [e] at e1;injection e1 with e1;subst e1;exact hg.grown.block ad.block (by omega) (fun e2=>hne ad e h0 e2.symm)
 refine ⟨⟨h.rd.1,fun h0=>?_⟩,h.cap,h.ok,fun ad e h0=>?_⟩
 ·obtain ⟨ad,e,hb,hc⟩:=h.rd.2 h0;exact ⟨ad,e,hb,fun j u hu=>(World.cell?_of_block (by rw [bU];exact same ad e h0)).trans (hc j u hu)⟩
 ·obtain ⟨cs,hcs⟩:=h.blk ad e h0;exact ⟨cs,(same ad e h0).trans hcs⟩
theorem IL.nil (w:World) (B:Nat):IL w B none 0 []:=⟨aG.none_,Nat.le_refl _,(fun _ h=>by cases h),(fun _ h=>by cases h)⟩
theorem IL.at_ (h:IL w B A c l) (hk:k < l.length):∃ b off,A=some ⟨b,off,none⟩/\b < B/\w.cell? ⟨b,off+k,none⟩=some (.int .i64 l[k])/\aO l[k]:=by
 obtain ⟨b,off,u,e,hb,hu,hc⟩:=h.rd.at1 hk;rw [List.getElem?_map,List.getElem?_eq_getElem hk] at hu;simp at hu;subst hu;exact ⟨b,off,e,hb,hc,h.ok _ (List.getElem_mem hk)⟩
theorem IL.of_own {base:Nat} (hn:l.length=n) (h:w.ownsRow base 3 1 (.slice A n c) n (l.map (Value.int .i64))) (hl:∀ x∈l,aO x):IL w w.heap.size A c l:=by
 subst hn;refine ⟨aG.of_own h,?_,hl,fun ad e h0=>?_⟩
 ·rcases h.2 with ⟨h1,h2⟩ | ⟨g,cap,cur,h1,-,-,h2,-⟩
  ·injection h1 with e1 e2 e3;omega
  ·injection h1 with e1 e2 e3;omega
 ·rcases h.2 with ⟨h1,h2⟩ | ⟨g,cap,cur,h1,-,hh,-⟩
  ·omega
  ·injection h1 with e1 e2 e3;rw [e1] at e;injection e with e;subst e;exact ⟨cur,hh⟩
theorem IL.take (h:IL w B A c l) (hk:k<=l.length):aG w B 1 A k ((l.take k).map (Value.int .i64)):=by
 refine ⟨by simp;omega,fun h0=>?_⟩;obtain ⟨ad,e,hb,hc⟩:=h.rd.2 (by omega);refine ⟨ad,e,hb,fun j u hu=>hc j u ?_⟩;rw [List.map_take,List.getElem?_take] at hu
 split at hu
 ·exact hu
 ·cases hu
theorem IL.drop (h:IL w B A c l) (hk:k<=l.length):aG w B 1 (if c=k then A else A.map (·.add k)) (l.length - k) ((l.drop k).map (Value.int .i64)):=by
 have:=h.rd.cut hk h.cap;rw [Nat.mul_one,<- List.map_drop] at this;exact this
theorem hZ (w:World) (e:TypeId) (size base:Nat) (hb:base<=w.heap.size):(w.alloc (.cells #[] e)).ownsRow base e size (.slice (some ⟨w.heap.size,0,none⟩) 0 0) 0 []:=
 ⟨by simp,.inr ⟨w.heap.size,0,#[],rfl,hb,heap_alloc_new w _,Nat.le_refl _,Nat.zero_le _,by simp,by simp⟩⟩
theorem aJ.empty (w:World) (e:TypeId) (fs:List Ty) (base:Nat) (hb:base<=w.heap.size):aJ (w.alloc (.cells #[] e)) base e fs (.slice (some ⟨w.heap.size,0,none⟩) 0 0) 0:=
 ⟨[],hZ w e _ base hb,fun j u t h=>by simp at h⟩
theorem jP (A:Option Addr) (c:Nat) (l:List Int) (x:Int) (w:World) (h:IL w w.heap.size A c l) (hn:l.length<=1000000000):Calls Tryz.prog 95 #[.slice A l.length c,.int .i64 x] w (Is w (.bool (decide (x∈l)))):=by
 obtain ⟨n,hnl⟩:=nm l.length;have H:=hD h;have HN:=hD hnl;rw [hnl] at hn ⊢;clear h hnl;go_enter Tryz.func95,Tryz.ntmps95;go_wp2_with fail
 go_loop [5] (fun i=>∃ k:Nat,k<=n/\i=.int .i64 (k:Int)/\Hid (∀ j (hj:j < l.length),j < k->l[j]≠x)) (fun i=>n - (intOf i).toNat)
 case atStart=>exact ⟨0,Nat.zero_le _,rfl,fun j hj h=>absurd h (by omega)⟩
 case round=>
  obtain ⟨k,hk,rfl,HA⟩:=hrel;by_cases hlt:k < n
  ·have hkl:k < l.length:=by rw [HN.out];exact hlt
   obtain ⟨b,off,rfl,hb,e0,i0⟩:=H.out.at_ hkl;obtain ⟨z,hz⟩:=nm (l[k]);rw [hz] at e0 i0;by_cases hx:z=x
   ·have HE:Hid (decide (x∈l)=true):=decide_eq_true (by rw [<- hx,<- hz];exact List.getElem_mem hkl);subst hx;clear hz hb i0 hkl;go_wp2_with fail;go_ret;exact ⟨by rw [HE.out];rfl,rfl⟩
   ·have d:(z == x)=false:=by simpa using hx
    have HA2:Hid (∀ j (hj:j < l.length),j < k+1->l[j]≠x):=fun j hj h=>by
     rcases Nat.lt_or_ge j k with h' | h'
     ·exact HA.out j hj h'
     ·obtain rfl:j=k:=by omega
      rw [hz];exact hx
    clear hz hb i0 hx hkl;go_wp2_with fail
    go_round
    case rel=>exact ⟨k+1,by omega,by go_num,HA2⟩
    case measure=>simp [intOf];omega
  ·have HE:Hid (decide (x∈l)=false):=decide_eq_false (fun hm=>by
    obtain ⟨j,hj,e⟩:=List.mem_iff_getElem.1 hm;exact HA.out j hj (by have:=HN.out;omega) e)
   go_wp2_with fail;go_ret;exact ⟨by rw [HE.out];rfl,rfl⟩
theorem cW {ops:Array Oper} {rest:List Oper} {o:Oper} {a:Act} {Q:Exit->Act->World->Prop} (hgd:o.guard=none) (s x:Operand) (t tx:TypeId)
  (ho:o.op=.call { callee:=.builtin .append,args:=#[s,x],argTypes:=#[t,tx] })
  (base n:Nat) (l:List Int) (hs':t=36/\tx=36) {A0:Option Addr} {c0:Nat} (hs:a.eval s=.slice A0 n c0) (hown:w.ownsRow base 3 1 (.slice A0 n c0) n (l.map (Value.int .i64)))
  (B:Nat) (A:Option Addr) (m c:Nat) (l2:List Int) (hx:a.eval x=.slice A m c) (hr:aG w B 1 A m (l2.map (Value.int .i64)))
  (h63:n+m<=maxLen) (hbytes:(n+m)*8<=140737488355328) (hbase:base<=w.heap.size)
  (h:∀ A' c' w',w'.ownsRow base 3 1 (.slice A' (n+m) c') (n+m) ((l++l2).map (Value.int .i64))->aR w w' (.slice A0 n c0) (.slice A' (n+m) c')->Below base w w'->wpList Tryz.prog ops Q rest (a.put o.dst (.slice A' (n+m) c')) w'):wpList Tryz.prog ops Q (o::rest) a w:=by
 obtain ⟨rfl,rfl⟩:=hs';obtain ⟨i,z,h1,h2,h3,h4,h5⟩:=Dg;refine aF w hgd s x _ _ ho base 3 i z 1 8 Tryz.underlying36 h1 h2 h3 h4 h5 (by omega) _ n _ hs hown _ m _ hx (cQ w Tryz.underlying36 c hr (Bj l2)) h63 hbytes hbase fun v' w' hown' hg=>?_;obtain ⟨A',c',rfl,-,-⟩:=aS hown';exact h A' c' w' (by rw [List.map_append];exact hown') hg ((Below.refl base w).grown hg.grown hbase (aU hown))
theorem kR (w:World) (t:TypeId) (x:Int):aG (w.alloc (.cells #[.int .i64 x] t)) (w.heap.size+1) 1 (some ⟨w.heap.size,0,none⟩) 1 ([x].map (Value.int .i64)):=by
 refine ⟨rfl,fun _=>⟨_,rfl,Nat.lt_succ_self _,fun j u hu=>?_⟩⟩;have hj:j=0:=by have:=(List.getElem?_eq_some_iff.1 hu).1;simpa using this
 subst hj;have h1:=(aK.new w t #[.int .i64 x]).cell 0;have h2:Value.int .i64 x=u:=by simpa using hu
 rw [<- h2,Addr.add_lit];exact h1
theorem C6 (l:List Int) (k:Nat) (x y:Int):y∈l.take k++[x]++l.drop k↔y=x\/y∈l:=by
 constructor
 ·intro h;rcases List.mem_append.1 h with h | h
  ·rcases List.mem_append.1 h with h | h
   ·exact .inr (List.mem_of_mem_take h)
   ·exact .inl (List.mem_singleton.1 h)
  ·exact .inr (List.mem_of_mem_drop h)
 ·intro h;rcases h with rfl | h
  ·simp
  ·have e:=List.take_append_drop k l;rw [<- e] at h;rcases List.mem_append.1 h with h | h
   ·exact List.mem_append_left _ (List.mem_append_left _ h)
   ·exact List.mem_append_right _ h
def lS (w:World) (A0:Option Addr) (l:List Int) (x:Int) (w':World) (v:Value):Prop:=∃ A c l',v=.slice A l'.length c/\IL w' w'.heap.size A c l'/\(∀ y,y∈l'↔y=x\/y∈l)/\l'.length<=l.length+1/\(A=A0\/∀ ad,A=some ad->w.heap.size<=ad.block)
theorem yO (A:Option Addr) (c:Nat) (l:List Int) (x:Int) (w:World) (h:IL w w.heap.size A c l) (hn:l.length<=1000000000) (hx:aO x):Calls Tryz.prog 63 #[.slice A l.length c,.int .i64 x] w (aV w (lS w A l x)):=by
 obtain ⟨n,hnl⟩:=nm l.length;have H:=hD h;have HN:=hD hnl;have HX:=hD hx;have hcap:=h.cap;rw [hnl] at hn hcap ⊢;clear h hnl hx;go_enter Tryz.func63,Tryz.ntmps63;go_wp2_with fail
 go_loop [5] (fun i=>∃ k:Nat,k<=n/\i=.int .i64 (k:Int)) (fun i=>(intOf i).toNat)
 case atStart=>exact ⟨n,Nat.le_refl _,rfl⟩
 case round=>
  obtain ⟨k,hk,rfl⟩:=hrel;have HG:Hid (∀ hk:0 < k,∃ b off z,A=some ⟨b,off,none⟩/\w.cell? ⟨b,off+(k - 1),none⟩=some (.int .i64 z)/\(z=x->x∈l)):=fun h0=>by
   have hkl:k - 1 < l.length:=by have:=HN.out;omega
   obtain ⟨b,off,e,hb,e0,i0⟩:=H.out.at_ hkl;exact ⟨b,off,_,e,e0,fun e=>by rw [<- e];exact List.getElem_mem hkl⟩
  have HS:Hid (0 < k->∃ b off z,A=some ⟨b,off,none⟩/\w.cell? ⟨b,off+(k - 1),none⟩=some (.int .i64 z)/\(z=x->x∈l)):=HG.out;by_cases hgo:0 < k/\∃ b off z,A=some ⟨b,off,none⟩/\w.cell? ⟨b,off+(k - 1),none⟩=some (.int .i64 z)/\x<=z
  ·obtain ⟨h0,b,off,z,rfl,e0,hz⟩:=hgo;have d0:decide (0 < (k:Int))=true:=by simp;omega
   have d1:decide (x<=z)=true:=by simpa using hz
   by_cases hzx:z=x
   ·have HM:Hid (x∈l):=by
     obtain ⟨b',off',z',e1,e2,e3⟩:=HG.out h0;injection e1 with e1;injection e1 with e4 e5;subst e4 e5;rw [e0] at e2;injection e2 with e2;injection e2 with _ e2;exact e3 (e2 ▸ hzx)
    subst hzx;clear HG HS;go_wp2_with fail;go_ret;refine ⟨Below.refl _ _,_,rfl,some ⟨b,off,none⟩,c,l,congrArg (Value.slice _ · c) HN.out.symm,H.out,fun y=>⟨.inr,fun h=>h.elim (fun h=>h ▸ HM.out) id⟩,by omega,.inl rfl⟩
   ·have d2:(z == x)=false:=by simpa using hzx
    clear HG HS hzx hz;go_wp2_with fail
    go_round
    case rel=>exact ⟨k - 1,by omega,by go_num⟩
    case measure=>simp [intOf];omega
  ·have HD:Hid (k=0\/∃ b off z,0 < k/\A=some ⟨b,off,none⟩/\w.cell? ⟨b,off+(k - 1),none⟩=some (.int .i64 z)/\decide (0 < (k:Int))=true/\decide (x<=z)=false):=by
    rcases Nat.eq_zero_or_pos k with h0 | h0
    ·exact .inl h0
    ·obtain ⟨b,off,z,e,e0,-⟩:=HG.out h0;exact .inr ⟨b,off,z,h0,e,e0,by simp;omega,decide_eq_false (fun hz=>hgo ⟨h0,b,off,z,e,e0,hz⟩)⟩
   have HRT:=hD (H.out.take (k:=k) (by rw [HN.out];exact hk));have HRD:=hD (H.out.drop (k:=k) (by rw [HN.out];exact hk));have HRE:Hid (aG w w.heap.size 1 A n (l.map (Value.int .i64))):=by have:=H.out.rd;rw [HN.out] at this;exact this
   clear HG HS hgo;rcases HD.out with rfl | ⟨b,off,z,h0,rfl,e0,d0,d1⟩
   ·clear HD
    skip
    go_wp2_with (at_builtin;refine cW rfl _ _ _ _ rfl w.heap.size _ [] ⟨rfl,rfl⟩ rfl (hZ w 3 1 w.heap.size (Nat.le_refl _)) w.heap.size _ 0 c (l.take 0) rfl (HRT.out.alloc (Nat.le_refl _) _) (by unfold maxLen;omega) (by omega) (by simp) ?_);intro A3 c3 w3 hown3 hg3 hb3;have HO3:Hid (w3.ownsRow w.heap.size 3 1 (.slice A3 0 c3) 0 ((l.take 0).map (Value.int .i64))):=by unfold Hid;simpa using hown3
    have HB3:Hid (Below w.heap.size w w3):=((Below.refl _ w).alloc (Nat.le_refl _) _).trans hb3;have HZ3:=hD HB3.out.size;clear hown3 hg3 hb3;go_wp2_with (at_builtin;refine cW rfl _ _ _ _ rfl w.heap.size _ (l.take 0) ⟨rfl,rfl⟩ rfl (HO3.out.alloc _) (w3.heap.size+1) _ 1 1 [x] rfl (kR w3 _ x) (by unfold maxLen;omega) (by omega) (by have:=HZ3.out;simp;omega) ?_);intro A4 c4 w4 hown4 hg4 hb4;have HO4:Hid (w4.ownsRow w.heap.size 3 1 (.slice A4 (0+1) c4) (0+1) ((l.take 0++[x]).map (Value.int .i64))):=by unfold Hid;simpa using hown4
    have HB4:Hid (Below w.heap.size w w4):=(HB3.out.alloc HZ3.out _).trans hb4;have HZ4:=hD HB4.out.size;clear hown4 hg4 hb4;go_wp2_with (at_builtin;refine cW rfl _ _ _ _ rfl w.heap.size _ (l.take 0++[x]) ⟨rfl,rfl⟩ rfl HO4.out w.heap.size _ _ _ l rfl (HRE.out.below HB4.out) (by unfold maxLen;omega) (by omega) HZ4.out ?_);intro A5 c5 w5 hown5 hg5 hb5;have HE:Hid (aV w (lS w A l x) (.returned (.slice A5 (0+1+n) c5)) w5):=by
     have hlen:(l.take 0++[x]++l).length=0+1+n:=by have:=HN.out;simp;omega
     have ho:w5.ownsRow w.heap.size 3 1 (.slice A5 (0+1+n) c5) (0+1+n) ((l.take 0++[x]++l).map (Value.int .i64)):=by simpa using hown5
     have hmem:∀ y,y∈l.take 0++[x]++l↔y=x\/y∈l:=fun y=>by
      simp
     refine ⟨HB4.out.trans hb5,_,rfl,A5,c5,l.take 0++[x]++l,congrArg (Value.slice A5 · c5) hlen.symm,IL.of_own hlen ho (fun y hy=>?_),hmem,by have:=HN.out;omega,.inr (fun ad e=>aU ho ad.block (by rw [e];rfl))⟩;rcases (hmem y).1 hy with rfl | hy
     ·exact HX.out
     ·exact H.out.ok y hy
    clear hown5 hg5 hb5;go_wp2_with fail;go_ret;exact HE.out
   rcases Nat.lt_or_ge k c with hck | hck
   ·have hck2:c≠k:=by omega
    have HRK:=hD ((HRE.out.dropK hk hcap).2 hck2);clear hck2
    ·clear HD;have HRD2:Hid (aG w w.heap.size 1 (some ⟨b,off+k,none⟩) (n - k) ((l.drop k).map (Value.int .i64))):=by rw [List.map_drop];exact HRK.out
     go_wp2_with (at_builtin;refine cW rfl _ _ _ _ rfl w.heap.size _ [] ⟨rfl,rfl⟩ rfl (hZ w 3 1 w.heap.size (Nat.le_refl _)) w.heap.size _ k c (l.take k) rfl (HRT.out.alloc (Nat.le_refl _) _) (by unfold maxLen;omega) (by omega) (by simp) ?_);intro A3 c3 w3 hown3 hg3 hb3;have HO3:Hid (w3.ownsRow w.heap.size 3 1 (.slice A3 k c3) k ((l.take k).map (Value.int .i64))):=by unfold Hid;simpa using hown3
     have HB3:Hid (Below w.heap.size w w3):=((Below.refl _ w).alloc (Nat.le_refl _) _).trans hb3;have HZ3:=hD HB3.out.size;clear hown3 hg3 hb3;go_wp2_with (at_builtin;refine cW rfl _ _ _ _ rfl w.heap.size _ (l.take k) ⟨rfl,rfl⟩ rfl (HO3.out.alloc _) (w3.heap.size+1) _ 1 1 [x] rfl (kR w3 _ x) (by unfold maxLen;omega) (by omega) (by have:=HZ3.out;simp;omega) ?_);intro A4 c4 w4 hown4 hg4 hb4;have HO4:Hid (w4.ownsRow w.heap.size 3 1 (.slice A4 (k+1) c4) (k+1) ((l.take k++[x]).map (Value.int .i64))):=by unfold Hid;simpa using hown4
     have HB4:Hid (Below w.heap.size w w4):=(HB3.out.alloc HZ3.out _).trans hb4;have HZ4:=hD HB4.out.size;clear hown4 hg4 hb4;go_wp2_with (at_builtin;refine cW rfl _ _ _ _ rfl w.heap.size _ (l.take k++[x]) ⟨rfl,rfl⟩ rfl HO4.out w.heap.size _ _ _ (l.drop k) rfl (HRD2.out.below HB4.out) (by unfold maxLen;omega) (by omega) HZ4.out ?_);intro A5 c5 w5 hown5 hg5 hb5;have HE:Hid (aV w (lS w (some ⟨b,off,none⟩) l x) (.returned (.slice A5 (k+1+(n - k)) c5)) w5):=by
      have hlen:(l.take k++[x]++(l.drop k)).length=k+1+(n - k):=by have:=HN.out;simp;omega
      have ho:w5.ownsRow w.heap.size 3 1 (.slice A5 (k+1+(n - k)) c5) (k+1+(n - k)) ((l.take k++[x]++(l.drop k)).map (Value.int .i64)):=by simpa using hown5
      have hmem:∀ y,y∈l.take k++[x]++(l.drop k)↔y=x\/y∈l:=fun y=>by
       exact C6 l k x y
      refine ⟨HB4.out.trans hb5,_,rfl,A5,c5,l.take k++[x]++(l.drop k),congrArg (Value.slice A5 · c5) hlen.symm,IL.of_own hlen ho (fun y hy=>?_),hmem,by have:=HN.out;omega,.inr (fun ad e=>aU ho ad.block (by rw [e];rfl))⟩;rcases (hmem y).1 hy with rfl | hy
      ·exact HX.out
      ·exact H.out.ok y hy
     clear hown5 hg5 hb5;go_wp2_with fail;go_ret;exact HE.out
   ·obtain rfl:k=n:=by omega
    obtain rfl:k=c:=by omega
    have HRK:Hid True:=trivial
    ·clear HD;have HRD2:Hid (aG w w.heap.size 1 (some ⟨b,off,none⟩) 0 (([]:List Int).map (Value.int .i64))):=⟨rfl,fun h=>absurd h (by omega)⟩;go_wp2_with (at_builtin;refine cW rfl _ _ _ _ rfl w.heap.size _ [] ⟨rfl,rfl⟩ rfl (hZ w 3 1 w.heap.size (Nat.le_refl _)) w.heap.size _ k k (l.take k) rfl (HRT.out.alloc (Nat.le_refl _) _) (by unfold maxLen;omega) (by omega) (by simp) ?_);intro A3 c3 w3 hown3 hg3 hb3;have HO3:Hid (w3.ownsRow w.heap.size 3 1 (.slice A3 k c3) k ((l.take k).map (Value.int .i64))):=by unfold Hid;simpa using hown3
     have HB3:Hid (Below w.heap.size w w3):=((Below.refl _ w).alloc (Nat.le_refl _) _).trans hb3;have HZ3:=hD HB3.out.size;clear hown3 hg3 hb3;go_wp2_with (at_builtin;refine cW rfl _ _ _ _ rfl w.heap.size _ (l.take k) ⟨rfl,rfl⟩ rfl (HO3.out.alloc _) (w3.heap.size+1) _ 1 1 [x] rfl (kR w3 _ x) (by unfold maxLen;omega) (by omega) (by have:=HZ3.out;simp;omega) ?_);intro A4 c4 w4 hown4 hg4 hb4;have HO4:Hid (w4.ownsRow w.heap.size 3 1 (.slice A4 (k+1) c4) (k+1) ((l.take k++[x]).map (Value.int .i64))):=by unfold Hid;simpa using hown4
     have HB4:Hid (Below w.heap.size w w4):=(HB3.out.alloc HZ3.out _).trans hb4;have HZ4:=hD HB4.out.size;clear hown4 hg4 hb4;go_wp2_with (at_builtin;refine cW rfl _ _ _ _ rfl w.heap.size _ (l.take k++[x]) ⟨rfl,rfl⟩ rfl HO4.out w.heap.size _ _ _ [] rfl (HRD2.out.below HB4.out) (by unfold maxLen;omega) (by omega) HZ4.out ?_);intro A5 c5 w5 hown5 hg5 hb5;have HE:Hid (aV w (lS w (some ⟨b,off,none⟩) l x) (.returned (.slice A5 (k+1+0) c5)) w5):=by
      have hlen:(l.take k++[x]++[]).length=k+1+0:=by have:=HN.out;simp;omega
      have ho:w5.ownsRow w.heap.size 3 1 (.slice A5 (k+1+0) c5) (k+1+0) ((l.take k++[x]++[]).map (Value.int .i64)):=by simpa using hown5
      have hmem:∀ y,y∈l.take k++[x]++[]↔y=x\/y∈l:=fun y=>by
       rw [List.take_of_length_le (by rw [HN.out];exact Nat.le_refl _)];simp [or_comm]
      refine ⟨HB4.out.trans hb5,_,rfl,A5,c5,l.take k++[x]++[],congrArg (Value.slice A5 · c5) hlen.symm,IL.of_own hlen ho (fun y hy=>?_),hmem,by have:=HN.out;omega,.inr (fun ad e=>aU ho ad.block (by rw [e];rfl))⟩;rcases (hmem y).1 hy with rfl | hy
      ·exact HX.out
      ·exact H.out.ok y hy
     clear hown5 hg5 hb5;go_wp2_with fail;go_ret;exact HE.out
theorem Ai (A:Option Addr) (n c:Nat) (w:World) (h:V w w.heap.size (.sl N 83 (aQ K)) (.slice A n c)) (hN:N<=1000000000):
  Calls Tryz.prog 123 #[.agg #[.slice A n c]] w (aV w fun w' v=>V w' w'.heap.size (.sl N 3 [.int]) v):=by
 obtain ⟨W,hW⟩:=nm (w.alloc (.cells #[.slice A n c] 61));have HX:=bk hW;have HBW:=bw hW;have H:=hD (h.bel HBW.out);have hn:=h.len_le;have x0:=HX.out.c1;clear h;go_enter Tryz.func123,Tryz.ntmps123;go_wp2_with fail;have HW:=hD hW;clear hW x0;go_loopw [3,4] (fun o i wr=>∃ (k m:Nat) (A':Option Addr) (c':Nat),k<=n/\m<=k/\i=.int .i64 (k:Int)/\o=.slice A' m c'/\Hid (aJ wr W.heap.size 3 [.int] (.slice A' m c') m)/\Hid (Below W.heap.size W wr)) (fun _ i _=>n - (intOf i).toNat)
 case atStart=>exact ⟨0,0,none,0,Nat.zero_le _,Nat.zero_le _,rfl,rfl,aJ.nil _ _ _ _,Below.refl _ _⟩
 case round=>
  obtain ⟨k,m,A',c',hk,hm,rfl,rfl,HO,HB⟩:=hrel;have x0:=(HX.out.below HB.out HX.out.lt).c1;have HB2:=hD (HBW.out.trans (HB.out.mono HBW.out.size));by_cases hlt:k < n
  ·obtain ⟨b,off,z0,z1,z2,b3,s4,z5,rfl,hb,e0,e1,e2,e3,e4,e5,i0,i1,i2,i4,i5⟩:=(H.out.bel (HB.out.mono HBW.out.size)).cell_at hlt;have HZ:=hD HB.out.size;clear i1 i2 i4 i5 hb;rcases Nat.eq_zero_or_pos k with rfl | hk0
   ·simp only [Nat.zero_mul,Nat.add_zero] at e0;go_wp2_with fail;go_quiet (fail);have HOq:=hD (HO.out.drewN nq);have HZq:Hid (W.heap.size<=(wr.drewN nq).heap.size):=HZ.out;go_wp2_with (at_builtin;refine p1 kI rfl rfl W.heap.size (.slice A' m c') m rfl HOq.out 3 _ 1 1 rfl rfl rfl (eE (by first | assumption | (unfold aO;omega))) (by omega) HZq.out ?_);intro A3 c3 w3 hown3 hg3 hb3;have HO3:=hD hown3;have HB3:Hid (Below W.heap.size W w3):=(aN HB.out nq).trans hb3;clear hown3 hg3 hb3;go_wp2_with fail;go_roundw
    case rel=>exact ⟨1,m+1,A3,c3,by omega,by omega,by go_num,rfl,HO3,HB3⟩
    case measure=>simp [intOf];omega
   ·obtain ⟨b',off',y0,y1,y2,y3,t4,y5,e9,-,g0,-⟩:=(H.out.bel (HB.out.mono HBW.out.size)).cell_at (k:=k - 1) (by omega);injection e9 with e9;injection e9 with e8 e7;subst e8 e7;have dk:((k:Int) == 0)=false:=by simp;omega
    by_cases hd:z0=y0
    ·have d:(z0 != y0)=false:=by simpa using hd
     subst hd;go_wp2_with fail;go_quiet (fail);have HOq:=hD (HO.out.drewN nq);have HBq:Hid (Below W.heap.size W (wr.drewN nq)):=aN HB.out nq;go_wp2_with fail;go_roundw
     case rel=>exact ⟨k+1,m,A',c',by omega,by omega,by go_num,rfl,HOq,HBq⟩
     case measure=>simp [intOf];omega
    ·have d:(z0 != y0)=true:=by simpa using hd
     go_wp2_with fail;go_quiet (fail);have HOq:=hD (HO.out.drewN nq);have HZq:Hid (W.heap.size<=(wr.drewN nq).heap.size):=HZ.out;go_wp2_with (at_builtin;refine p1 kI rfl rfl W.heap.size (.slice A' m c') m rfl HOq.out 3 _ 1 1 rfl rfl rfl (eE (by first | assumption | (unfold aO;omega))) (by omega) HZq.out ?_);intro A3 c3 w3 hown3 hg3 hb3;have HO3:=hD hown3;have HB3:Hid (Below W.heap.size W w3):=(aN HB.out nq).trans hb3;clear hown3 hg3 hb3;go_wp2_with fail;go_roundw
     case rel=>exact ⟨k+1,m+1,A3,c3,by omega,by omega,by go_num,rfl,HO3,HB3⟩
     case measure=>simp [intOf];omega
  ·go_wp2_with fail;go_ret;exact ⟨HB2.out,_,rfl,(HO.out).v_ (by omega)⟩
theorem rF (A:Option Addr) (n c:Nat) (w:World) (h:V w w.heap.size (.sl N 3 [.int]) (.slice A n c)) (hN:N<=1000000000):
  Calls Tryz.prog 103 #[.slice A n c] w (aV w dP):=by
 have H:=hD h;have hn:=h.len_le;clear h;go_enter Tryz.func103,Tryz.ntmps103;go_wp2_with fail;go_loopw [3] (fun i wr=>∃ (k:Nat),k<=n/\i=.int .i64 (k:Int)/\Hid (Below w.heap.size w wr)) (fun i _=>n - (intOf i).toNat)
 case atStart=>exact ⟨0,Nat.zero_le _,rfl,Below.refl _ _⟩
 case round=>
  obtain ⟨k,hk,rfl,HB⟩:=hrel;by_cases hlt:k < n
  ·obtain ⟨b,off,z,rfl,hb,e0,i0⟩:=(H.out.bel HB.out).int_at hlt;obtain ⟨v,hv⟩:=nm (yQ z);have HID:Hid (∀ w',Calls Tryz.prog 102 #[.int .i64 z] w' (Is w' (.bool v))):=fun w'=>hv ▸ dX z w';have q1:v=false\/v=true:=by cases v <;> simp
   clear hv hb i0;rcases Nat.eq_zero_or_pos k with rfl | hk0
   ·rcases q1 with rfl | rfl
    all_goals
     simp only [Nat.add_zero] at e0;go_wp2_with fail;go_quiet (exact eU (HID.out _));have HE:Hid (Below w.heap.size w (wr.drewN nq)):=lE HB.out nq;go_wp2_with fail
     first
      | (go_ret;exact ⟨HE.out,_,rfl,_,rfl⟩)
      | (go_roundw
         ·exact ⟨1,by omega,by go_num,HE⟩
         ·simp [intOf];omega)
   ·obtain ⟨b',off',y,e9,-,g0,-⟩:=(H.out.bel HB.out).int_at (k:=k - 1) (by omega);injection e9 with e9;injection e9 with e8 e7;subst e8 e7;have dk:decide (0 < (k:Int))=true:=by simp;omega
    have q2:decide (z<=y)=true\/decide (z<=y)=false:=by cases decide (z<=y) <;> simp
    rcases q1 with rfl | rfl <;> rcases q2 with q2 | q2
    all_goals
     go_wp2_with fail;go_quiet (exact eU (HID.out _));have HE:Hid (Below w.heap.size w (wr.drewN nq)):=lE HB.out nq;go_wp2_with fail
     first
      | (go_ret;exact ⟨HE.out,_,rfl,_,rfl⟩)
      | (go_roundw
         ·exact ⟨k+1,by omega,by go_num,HE⟩
         ·simp [intOf];omega)
  ·go_wp2_with fail;go_ret;exact ⟨HB.out,_,rfl,_,rfl⟩
theorem qW (A:Option Addr) (n c:Nat) (id fd:Int) (w:World) (h:V w w.heap.size (.sl N 154 (dD K M 152)) (.slice A n c)) (hN:N<=1000000000):
  Calls Tryz.prog 121 #[.agg #[.slice A n c],.int .i64 id,.int .i64 fd] w (aV w fun _ v=>∃ k:Nat,v=.int .i64 (k:Int)/\k<=n):=by
 obtain ⟨W,hW⟩:=nm (w.alloc (.cells #[.slice A n c] 71));have HX:=bk hW;have HBW:=bw hW;have H:=hD (h.bel HBW.out);have hn:=h.len_le;have x0:=HX.out.c1;have HB0:Hid (Below W.heap.size W W):=Below.refl _ _;clear h;go_enter Tryz.func121,Tryz.ntmps121;go_wp2_with fail;have HW:=hD hW;clear hW;go_quiet (fail);go_wp2_with fail;clear x0;go_loopw [7,8] (fun i j wr=>∃ (lo hi:Nat),i=.int .i64 (lo:Int)/\j=.int .i64 (hi:Int)/\lo<=hi/\hi<=n/\Hid (Below W.heap.size W wr)) (fun i j _=>(intOf j - intOf i).toNat)
 case atStart=>exact ⟨0,n,rfl,rfl,Nat.zero_le _,Nat.le_refl _,aN HB0.out _⟩
 case round=>
  obtain ⟨lo,hi,rfl,rfl,hle,hhi,HB⟩:=hrel;have x0:=(HX.out.below HB.out HX.out.lt).c1;have HB2:=hD (HBW.out.trans (HB.out.mono HBW.out.size));by_cases hlt:lo < hi
  ·obtain ⟨m,hm⟩:∃ m:Nat,((lo:Int)+(hi:Int)) / 2=(m:Int):=⟨(lo+hi) / 2,by omega⟩;have hm1:lo<=m:=by omega
   have hm2:m < hi:=by omega
   have hm3:m < n:=by omega
   obtain ⟨b,off,z0,z1,A2,n2,c2,rfl,hb,e0,e1,e2,i0,i1,hn2,hc2,hv2⟩:=(H.out.bel (HB.out.mono HBW.out.size)).slot_at hm3;obtain ⟨v,hv⟩:=nm (BP z0 z1 id fd);have HAH:Hid (∀ w',Calls Tryz.prog 101 #[.int .i64 z0,.int .i64 z1,.int .i64 id,.int .i64 fd] w' (Is w' (.bool v))):=fun w'=>hv ▸ mM _ _ _ _ w';have q:v=false\/v=true:=by cases v <;> simp
   clear hv hb i0 i1 hv2;rcases q with rfl | rfl
   all_goals
    go_wp2_with fail;go_quiet (exact eU (HAH.out _));have HE:Hid (Below W.heap.size W (wr.drewN nq)):=aN HB.out nq;go_wp2_with fail;go_roundw
    case rel=>first | exact ⟨m+1,hi,by go_num,rfl,by omega,hhi,HE⟩ | exact ⟨lo,m,rfl,congrArg _ hm,by omega,by omega,HE⟩
    case measure=>simp [intOf];omega
  ·go_wp2_with fail;go_ret;exact ⟨HB2.out,_,rfl,lo,rfl,by omega⟩
theorem pJ (A:Option Addr) (n c:Nat) (id fd:Int) (w:World) (h:V w w.heap.size (.sl N 154 (dD K M 152)) (.slice A n c)) (hN:N<=1000000000):
  Calls Tryz.prog 97 #[.agg #[.slice A n c],.int .i64 id,.int .i64 fd] w (aV w fun w' v=>V w' w'.heap.size (.sl M 152 (fI K)) v):=by
 obtain ⟨W,hW⟩:=nm (w.alloc (.cells #[.slice A n c] 71));have HX:=bk hW;have HBW:=bw hW;have H:=hD (h.bel HBW.out);have hn:=h.len_le;have x0:=HX.out.c1;have HC:=hD (qW A n c id fd W (h.up HBW.out) hN);clear h;go_enter Tryz.func97,Tryz.ntmps97;go_wp2_with fail;have HW:=hD hW;clear hW x0;refine (HC.out).mono ?_;rintro e w1 ⟨hb1,v,rfl,k,rfl,hk⟩;have HB:=hD hb1;have HB2:=hD (HBW.out.trans (hb1.mono HBW.out.size));have x0:=(HX.out.below hb1 HX.out.lt).c1;clear hb1 HC;by_cases hlt:k < n
 ·obtain ⟨b,off,z0,z1,A2,n2,c2,rfl,hb,e0,e1,e2,i0,i1,hn2,hc2,hv2⟩:=(H.out.bel (HB.out.mono HBW.out.size)).slot_at hlt;have HE:Hid (V w1 w1.heap.size (.sl M 152 (fI K)) (.slice A2 n2 c2)):=hv2.more HB2.out.size;clear hb i0 i1 hv2;go_wp2_with fail
  all_goals
   go_ret
   first
    | exact ⟨HB2.out,_,rfl,HE.out⟩
    | exact ⟨HB2.out,_,rfl,V.nil _ _ _ _ _⟩
 ·go_wp2_with fail;go_ret;exact ⟨HB2.out,_,rfl,V.nil _ _ _ _ _⟩
theorem jA (A:Option Addr) (n c:Nat) (id:Int) (w:World) (h:V w w.heap.size (.sl N 154 (dD K M 152)) (.slice A n c)) (hN:N<=1000000000):
  Calls Tryz.prog 69 #[.agg #[.slice A n c],.int .i64 id] w (aV w jC):=by
 obtain ⟨W,hW⟩:=nm (w.alloc (.cells #[.slice A n c] 71));have HX:=bk hW;have HBW:=bw hW;have H:=hD (h.bel HBW.out);have hn:=h.len_le;have x0:=HX.out.c1;have HC:=hD (pJ A n c id 1 W (h.up HBW.out) hN);clear h;go_enter Tryz.func69,Tryz.ntmps69;go_wp2_with fail;have HW:=hD hW;clear hW x0;refine (HC.out).mono ?_;rintro e w1 ⟨hb1,v,rfl,hv⟩;obtain ⟨A2,n2,c2,rfl,hc2,hn2⟩:=hv.sl_inv;have HV:=hD hv;have HB2:=hD (HBW.out.trans (hb1.mono HBW.out.size));clear hb1 HC hv;rcases Nat.eq_zero_or_pos n2 with rfl | h0
 ·go_wp2_with fail;go_ret;exact ⟨HB2.out,_,rfl,0,rfl,by unfold aO;omega⟩
 ·obtain ⟨b,off,z0,z1,b2,s3,z4,rfl,hb,e0,e1,e2,e3,e4,i0,i1,-⟩:=HV.out.alt_at h0;have d:((n2:Int) == 0)=false:=by simp;omega
  have HI:=hD i1;simp only [Nat.zero_mul,Nat.add_zero] at e0 e1 e2 e3 e4;clear i0 i1 hb;go_wp2_with fail;go_ret;exact ⟨HB2.out,_,rfl,z1,rfl,HI.out⟩
theorem xB {N2:Nat} (A:Option Addr) (n c:Nat) (A1:Option Addr) (n1 c1:Nat) (id:Int) (w:World) (h:V w w.heap.size (.sl N 154 (dD K M 152)) (.slice A n c)) (hN:N<=1000000000) (h1:V w w.heap.size (.sl N2 83 (aQ K)) (.slice A1 n1 c1)) (hN2:N2<=1000000000):
  Calls Tryz.prog 106 #[.agg #[.slice A n c],.slice A1 n1 c1,.int .i64 id] w (aV w jC):=by
 obtain ⟨W,hW⟩:=nm (w.alloc (.cells #[.slice A n c] 71));have HX:=bk hW;have HBW:=bw hW;have H:=hD (h.bel HBW.out);have hn:=h.len_le;have x0:=HX.out.c1;have HC:=hD (jA A n c id W (h.up HBW.out) hN);have HC2:Hid (∀ w',Below w.heap.size w w'->Calls Tryz.prog 105 #[.slice A1 n1 c1,.int .i64 id,.int .i64 1] w' (aV w' (Dm K))):=fun w' hb=>mQ A1 n1 c1 id 1 w' (h1.up hb) hN2;clear h h1;go_enter Tryz.func106,Tryz.ntmps106;go_wp2_with fail;have HW:=hD hW;clear hW x0;refine (HC.out).mono ?_;rintro e w1 ⟨hb1,v,rfl,z,rfl,hz⟩;have HZ:=hD hz;have HB2:=hD (HBW.out.trans (hb1.mono HBW.out.size));clear hb1 HC hz;by_cases hz0:z=0
 ·subst hz0;go_wp2_with fail;refine (HC2.out _ HB2.out).mono ?_;rintro e w2 ⟨hb2,v,rfl,n',f',s',r',b',rfl,i1,-,-⟩;have HB3:=hD (aB HB2.out hb2);have HI:=hD i1;clear hb2 i1;go_wp2_with fail;go_ret;exact ⟨by repeat (first | exact HB3.out | refine bK ?_ _ | refine DJ ?_ (by first | exact HB3.out.size | (simp;exact HB3.out.size)) _),_,rfl,n',rfl,HI.out⟩
 ·have d:(z != 0)=true:=by simpa using hz0
  go_wp2_with fail;go_ret;exact ⟨HB2.out,_,rfl,z,rfl,HZ.out⟩
theorem Cm {ea:TypeId} {z0 z1:Int} (h0:aO z0) (h1:aO z1) (h2:V w B (.sl M ea (fI K)) (.slice A n c)) (hn:0 < n):Ts w B (dD K M ea) [.int .i64 z0,.int .i64 z1,.slice A n c]:=by
 refine nU (by simp) (fun i u t hu ht=>?_);have hi:=(List.getElem?_eq_some_iff.1 hu).1
 match i,hi with
 | 0,_=>cases hu;cases ht;exact .int _ h0
 | 1,_=>cases hu;cases ht;exact .int _ h1
 | 2,_=>cases hu;cases ht;exact .ne _ _ _ _ _ _ h2 hn
theorem V.from_ {d:Nat} (h:V w B (.sl N e fs) (.slice A n c)) (hd:d<=n) (h0:0 < d) (hf:0 < fs.length):∃ b off,A=some ⟨b,off,none⟩/\((c=d/\n<=d/\V w B (.sl N e fs) (.slice (some ⟨b,off,none⟩) 0 0))\/(c≠d/\V w B (.sl N e fs) (.slice (some ⟨b,off+d*fs.length,none⟩) (n - d) (c - d)))):=by
 obtain ⟨b,off,e1,-,-⟩:=h.at_ (k:=0) (by omega) hf;subst e1;have hc:=h.cap_le;obtain ⟨k1,k2⟩:=h.dropK hd;refine ⟨b,off,rfl,?_⟩;by_cases hcd:c=d
 ·have hn:n=d:=by omega
  have:=k1 hcd;rw [hn,Nat.sub_self] at this;exact .inl ⟨hcd,by omega,this⟩
 ·exact .inr ⟨hcd,k2 hcd⟩
def Du (w:World) (N K M:Nat) (v:Value):Prop:=∃ A n c,v=.agg #[.slice A n c]/\V w w.heap.size (.sl N 154 (dD K M 152)) (.slice A n c)
theorem Ct (A:Option Addr) (n c:Nat) (id fd:Int) (A1:Option Addr) (n1 c1:Nat) (w:World) (h:V w w.heap.size (.sl N 154 (dD K M 152)) (.slice A n c)) (hN:N<=1000000000)
  (h1:V w w.heap.size (.sl M 152 (fI K)) (.slice A1 n1 c1)) (hM:M<=1000000000) (hid:aO id) (hfd:aO fd):
  Calls Tryz.prog 98 #[.agg #[.slice A n c],.int .i64 id,.int .i64 fd,.slice A1 n1 c1] w (aV w fun w' v=>Du w' (n+1) K M v):=by
 obtain ⟨W,hW⟩:=nm ((w.alloc (.cells #[.slice A n c] 71)).alloc (.cells #[.slice none 0 0] 71));have HX0:Hid (aK W w.heap.size 71 #[.slice A n c]):=by subst hW;exact ((aK.new w _ _).alloc _)
 have HX1:Hid (aK W (w.heap.size+1) 71 #[.slice none 0 0]):=by subst hW;exact (aK.new1 w _ _ _)
 have HBW:Hid (Below w.heap.size w W):=by subst hW;exact (bK (bK (Below.refl _ w) _) _)
 have H:=hD (h.bel HBW.out);have H1:=hD (h1.bel HBW.out);have hn:=h.len_le;have hc:=h.cap_le;have hn1:=h1.len_le;have HI:Hid (aO id/\aO fd):=⟨hid,hfd⟩;have HC:=hD (qW A n c id fd W (h.up HBW.out) hN);clear h h1 hid hfd;have x0:=HX0.out.c1;go_enter Tryz.func98,Tryz.ntmps98;go_wp2_with fail;have HW:=hD hW;clear hW x0;refine (HC.out).mono ?_;rintro e w1 ⟨hb1,v,rfl,k,rfl,hk⟩;have HB1:=hD hb1;have HB1w:=hD (HBW.out.trans (hb1.mono HBW.out.size));have x0:=(HX0.out.below hb1 HX0.out.lt).c1;have HV1:=hD ((H.out.bel (hb1.mono HBW.out.size)).take hk (Nat.le_trans hk hc));have HZ1:=hD hb1.size;have hz:w.heap.size < w1.heap.size:=Nat.lt_of_lt_of_le HX0.out.lt hb1.size;clear hb1 HC;go_wp2_with (at_builtin;refine pV (kS K M) rfl rfl W.heap.size _ _ rfl (aJ.empty w1 _ _ W.heap.size HZ1.out) N w.heap.size _ A k c rfl (HV1.out.bel ((Below.refl _ w1).alloc HB1w.out.size _)) (by have:=HB1w.out.size;simp;omega) (by omega) (by have:=HZ1.out;simp;omega) ?_);intro A3 c3 w3 hown3 hg3 hb3;have HO3:Hid (aJ w3 W.heap.size 154 (dD K M 152) (.slice A3 k c3) k):=by unfold Hid;simpa using hown3
 have HB3:Hid (Below W.heap.size W w3):=(HB1.out.alloc HB1.out.size _).trans hb3;clear hown3 hg3 hb3 x0 hz;go_upto_if 23 with fail;go_cut [10] (fun o wr=>∃ (A':Option Addr) (m c':Nat),o=.slice A' m c'/\m<=k+1/\Hid (aJ wr W.heap.size 154 (dD K M 152) (.slice A' m c') m)/\Hid (Below W.heap.size W wr))
 case first=>
  rcases Nat.eq_zero_or_pos n1 with rfl | h01
  ·go_wp2_with fail;go_meet;exact ⟨A3,k,c3,rfl,by omega,HO3,HB3⟩
  ·have HT:=hD (Cm (w:=w3) (B:=w3.heap.size) HI.out.1 HI.out.2 ((H1.out.bel (HB3.out.mono HBW.out.size)).more (Nat.le_trans HBW.out.size HB3.out.size)) h01);have HZ3:=hD HB3.out.size;go_wp2_with (at_builtin;refine p1 (kS K M) rfl rfl W.heap.size (.slice A3 k c3) k rfl HO3.out 154 _ 1 1 rfl rfl rfl HT.out (by omega) HZ3.out ?_);intro A4 c4 w4 hown4 hg4 hb4;have HO4:=hD hown4;have HB4:=hD (HB3.out.trans hb4);clear hown4 hg4 hb4;go_wp2_with fail;go_meet;exact ⟨A4,k+1,c4,rfl,by omega,HO4,HB4⟩
 case rest=>
  obtain ⟨A4,m,c4,rfl,hm,HO4,HB4⟩:=hcut;clear HO3 HB3 HB1 HB1w HV1 HZ1;have x0:=(HX0.out.below HB4.out HX0.out.lt).c1;have HB4w:=hD (HBW.out.trans (HB4.out.mono HBW.out.size));have HZ4:=hD HB4.out.size;have HH:=hD (H.out.bel (HB4.out.mono HBW.out.size));have HHB:Hid (w.heap.size<=wc.heap.size):=HB4w.out.size;by_cases hlt:k < n
  ·obtain ⟨b,off,z0,z1,A2,n2,c2,rfl,hb,e0,e1,e2,i0,i1,hn2,hc2,hv2⟩:=HH.out.slot_at hlt;clear hb i0 i1 hv2 e2;by_cases hq:z0=id/\z1=fd
   ·obtain ⟨rfl,rfl⟩:=hq;obtain ⟨b',off',e9,hd⟩:=HH.out.from_ (d:=k+1) (by omega) (by omega) (by simp);injection e9 with e9;injection e9 with e8 e7;subst e8 e7;rcases hd with ⟨hcd,hn9,hv⟩ | ⟨hcd,hv⟩
    ·subst hcd;have HS:=hD hv;clear hv;go_wp2_with (at_builtin;refine pV (kS K M) rfl rfl W.heap.size (.slice A4 m c4) m rfl HO4.out N w.heap.size _ (some ⟨b,off,none⟩) 0 0 rfl HS.out HHB.out (by omega) HZ4.out ?_);intro A6 c6 w6 hown6 hg6 hb6;have HB6:=hD (HB4w.out.trans (hb6.mono HBW.out.size));have HV6:=hD (hown6.v_ (N:=n+1) (by omega));have HR:=hD (HX1.out.below (HB4.out.trans hb6) HX1.out.lt);have p0:=HR.out.c1;have q0:=HR.out.frozen 0;clear hown6 hg6 hb6;go_wp2_with fail;refine rR (cs:=#[.slice A6 _ c6]) (HR.out.set_ 0 (.slice A6 _ c6)) Tryz.underlying71 rfl rfl rfl rfl (by kernel_rfl) ?_;exact ⟨HB6.out.setCell (Nat.le_succ _) _,_,rfl,A6,_,c6,rfl,(HV6.out.set_ HR.out (by simp [Ty.has,Ty.hasAny]) 0 _).more (by simp [World.setCell])⟩
    ·have HS:=hD hv;have hlc:k+1 < c:=by omega
     clear hv hcd;go_wp2_with (at_builtin;refine pV (kS K M) rfl rfl W.heap.size (.slice A4 m c4) m rfl HO4.out N w.heap.size _ (some ⟨b,off+(k+1)*3,none⟩) (n - (k+1)) (c - (k+1)) rfl HS.out HHB.out (by omega) HZ4.out ?_);intro A6 c6 w6 hown6 hg6 hb6;have HB6:=hD (HB4w.out.trans (hb6.mono HBW.out.size));have HV6:=hD (hown6.v_ (N:=n+1) (by omega));have HR:=hD (HX1.out.below (HB4.out.trans hb6) HX1.out.lt);have p0:=HR.out.c1;have q0:=HR.out.frozen 0;clear hown6 hg6 hb6;go_wp2_with fail;refine rR (cs:=#[.slice A6 _ c6]) (HR.out.set_ 0 (.slice A6 _ c6)) Tryz.underlying71 rfl rfl rfl rfl (by kernel_rfl) ?_;exact ⟨HB6.out.setCell (Nat.le_succ _) _,_,rfl,A6,_,c6,rfl,(HV6.out.set_ HR.out (by simp [Ty.has,Ty.hasAny]) 0 _).more (by simp [World.setCell])⟩
   ·have hq2:(z0 == id)=false\/((z0 == id)=true/\(z1 == fd)=false):=by
     by_cases h1:z0=id
     ·right;simp [h1];intro e;exact hq ⟨h1,e⟩
     ·left;simpa using h1
    clear hq;rcases Nat.eq_zero_or_pos k with rfl | hk0
    ·simp only [Nat.zero_mul,Nat.add_zero] at e0 e1;have HS:=HH;rcases hq2 with q | ⟨q,q'⟩
     all_goals
      go_wp2_with (at_builtin;refine pV (kS K M) rfl rfl W.heap.size (.slice A4 m c4) m rfl HO4.out N w.heap.size _ (some ⟨b,off,none⟩) n c rfl HS.out HHB.out (by omega) HZ4.out ?_);intro A6 c6 w6 hown6 hg6 hb6;have HB6:=hD (HB4w.out.trans (hb6.mono HBW.out.size));have HV6:=hD (hown6.v_ (N:=n+1) (by omega));have HR:=hD (HX1.out.below (HB4.out.trans hb6) HX1.out.lt);have p0:=HR.out.c1;have q0:=HR.out.frozen 0;clear hown6 hg6 hb6;go_wp2_with fail;refine rR (cs:=#[.slice A6 _ c6]) (HR.out.set_ 0 (.slice A6 _ c6)) Tryz.underlying71 rfl rfl rfl rfl (by kernel_rfl) ?_;exact ⟨HB6.out.setCell (Nat.le_succ _) _,_,rfl,A6,_,c6,rfl,(HV6.out.set_ HR.out (by simp [Ty.has,Ty.hasAny]) 0 _).more (by simp [World.setCell])⟩
    ·obtain ⟨b',off',e9,hd⟩:=HH.out.from_ (d:=k) (by omega) (by omega) (by simp);injection e9 with e9;injection e9 with e8 e7;subst e8 e7;rcases hd with ⟨hcd,hn9,hv⟩ | ⟨hcd,hv⟩
     ·exfalso;omega
     ·have HS:=hD hv;have hlc:k < c:=by omega
      clear hv hcd;rcases hq2 with q | ⟨q,q'⟩
      all_goals
       go_wp2_with (at_builtin;refine pV (kS K M) rfl rfl W.heap.size (.slice A4 m c4) m rfl HO4.out N w.heap.size _ (some ⟨b,off+k*3,none⟩) (n - k) (c - k) rfl HS.out HHB.out (by omega) HZ4.out ?_);intro A6 c6 w6 hown6 hg6 hb6;have HB6:=hD (HB4w.out.trans (hb6.mono HBW.out.size));have HV6:=hD (hown6.v_ (N:=n+1) (by omega));have HR:=hD (HX1.out.below (HB4.out.trans hb6) HX1.out.lt);have p0:=HR.out.c1;have q0:=HR.out.frozen 0;clear hown6 hg6 hb6;go_wp2_with fail;refine rR (cs:=#[.slice A6 _ c6]) (HR.out.set_ 0 (.slice A6 _ c6)) Tryz.underlying71 rfl rfl rfl rfl (by kernel_rfl) ?_;exact ⟨HB6.out.setCell (Nat.le_succ _) _,_,rfl,A6,_,c6,rfl,(HV6.out.set_ HR.out (by simp [Ty.has,Ty.hasAny]) 0 _).more (by simp [World.setCell])⟩
  ·rcases Nat.eq_zero_or_pos k with rfl | hk0
   ·have HS:=HH;go_wp2_with (at_builtin;refine pV (kS K M) rfl rfl W.heap.size (.slice A4 m c4) m rfl HO4.out N w.heap.size _ A n c rfl HS.out HHB.out (by omega) HZ4.out ?_);intro A6 c6 w6 hown6 hg6 hb6;have HB6:=hD (HB4w.out.trans (hb6.mono HBW.out.size));have HV6:=hD (hown6.v_ (N:=n+1) (by omega));have HR:=hD (HX1.out.below (HB4.out.trans hb6) HX1.out.lt);have p0:=HR.out.c1;have q0:=HR.out.frozen 0;clear hown6 hg6 hb6;go_wp2_with fail;refine rR (cs:=#[.slice A6 _ c6]) (HR.out.set_ 0 (.slice A6 _ c6)) Tryz.underlying71 rfl rfl rfl rfl (by kernel_rfl) ?_;exact ⟨HB6.out.setCell (Nat.le_succ _) _,_,rfl,A6,_,c6,rfl,(HV6.out.set_ HR.out (by simp [Ty.has,Ty.hasAny]) 0 _).more (by simp [World.setCell])⟩
   ·obtain ⟨b,off,rfl,hd⟩:=HH.out.from_ (d:=k) (by omega) (by omega) (by simp);rcases hd with ⟨hcd,hn9,hv⟩ | ⟨hcd,hv⟩
    ·subst hcd;have HS:=hD hv;clear hv;go_wp2_with (at_builtin;refine pV (kS K M) rfl rfl W.heap.size (.slice A4 m c4) m rfl HO4.out N w.heap.size _ (some ⟨b,off,none⟩) 0 0 rfl HS.out HHB.out (by omega) HZ4.out ?_);intro A6 c6 w6 hown6 hg6 hb6;have HB6:=hD (HB4w.out.trans (hb6.mono HBW.out.size));have HV6:=hD (hown6.v_ (N:=n+1) (by omega));have HR:=hD (HX1.out.below (HB4.out.trans hb6) HX1.out.lt);have p0:=HR.out.c1;have q0:=HR.out.frozen 0;clear hown6 hg6 hb6;go_wp2_with fail;refine rR (cs:=#[.slice A6 _ c6]) (HR.out.set_ 0 (.slice A6 _ c6)) Tryz.underlying71 rfl rfl rfl rfl (by kernel_rfl) ?_;exact ⟨HB6.out.setCell (Nat.le_succ _) _,_,rfl,A6,_,c6,rfl,(HV6.out.set_ HR.out (by simp [Ty.has,Ty.hasAny]) 0 _).more (by simp [World.setCell])⟩
    ·have HS:=hD hv;have hlc:k < c:=by omega
     clear hv hcd;go_wp2_with (at_builtin;refine pV (kS K M) rfl rfl W.heap.size (.slice A4 m c4) m rfl HO4.out N w.heap.size _ (some ⟨b,off+k*3,none⟩) (n - k) (c - k) rfl HS.out HHB.out (by omega) HZ4.out ?_);intro A6 c6 w6 hown6 hg6 hb6;have HB6:=hD (HB4w.out.trans (hb6.mono HBW.out.size));have HV6:=hD (hown6.v_ (N:=n+1) (by omega));have HR:=hD (HX1.out.below (HB4.out.trans hb6) HX1.out.lt);have p0:=HR.out.c1;have q0:=HR.out.frozen 0;clear hown6 hg6 hb6;go_wp2_with fail;refine rR (cs:=#[.slice A6 _ c6]) (HR.out.set_ 0 (.slice A6 _ c6)) Tryz.underlying71 rfl rfl rfl rfl (by kernel_rfl) ?_;exact ⟨HB6.out.setCell (Nat.le_succ _) _,_,rfl,A6,_,c6,rfl,(HV6.out.set_ HR.out (by simp [Ty.has,Ty.hasAny]) 0 _).more (by simp [World.setCell])⟩
end
end Go.Proofs.YtkgpoimmniojjaaGreat
