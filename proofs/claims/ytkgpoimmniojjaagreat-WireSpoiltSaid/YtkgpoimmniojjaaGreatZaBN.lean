/- No condition. -/
import Derived.Test.YtkgpoimmniojjaaGreatZaBM
import Derived.Test.YtkgpoimmniojjaaGreatZaAW
import Derived.Test.YtkgpoimmniojjaaGreatZaAV
import Derived.Test.YtkgpoimmniojjaaGreatZaBH
import Derived.Deep.CutBlock
namespace Go.Proofs.YtkgpoimmniojjaaGreat
set_option linter.unusedVariables false
set_option linter.unusedSimpArgs false
set_option maxRecDepth 100000
set_option maxHeartbeats 16000000
section
open Go.RowKit
variable {w w':World} {n B c M j i L K N g:Nat} {A:Option Addr} {cs:Array Value} {fs:List Ty} {l xs:List CX}
def AH (w:World) (e:Ending) (w':World):Prop:=Below w.heap.size w w'/\∃ z0 A1 n1 c1 A2 n2 c2 s3 A4 n4 c4,e=.returned (.agg #[.int .i64 z0,.slice A1 n1 c1,.slice A2 n2 c2,.string s3,.slice A4 n4 c4])/\dQ w' w'.heap.size 110 1000 6620 z0 A1 n1 c1 A2 n2 c2 s3 A4 n4 c4
theorem Av (x:Int) (w:World):Calls Tryz.prog 14 #[.int .i64 x] w (AH w):=by
 obtain ⟨W,hW⟩:=nm (w.alloc (.cells #[.int .i64 0,.slice none 0 0,.slice none 0 0,.string ⟨#[]⟩,.slice none 0 0] 39));have HB:=bw hW;have HX:=bk hW;have HW:=hD hW;clear hW;go_enter Tryz.func14,Tryz.ntmps14;go_wp2_with (rw [HW.out]);clear HW;(with_reducible refine (tR x W).mono ?_);rintro r0 w1 ⟨A,c,ts,B,rfl,hB,htl,hn,htb,hb1⟩;have HX:=hD (HX.out.below hb1 HX.out.lt);have HB:=hD (aB HB.out hb1);have HRT:Hid (RT w1 w1.heap.size A ts):=⟨aG.of_own htl.row,fun t ht=>(htl.kid t ht).1⟩;have HBI:=hD (BN (pc:=c) 1048576 w1 HRT.out htb hn);clear hb1 htl htb;go_wp2_with fail;(with_reducible refine (HBI.out).mono ?_);rintro r0 w2 ⟨A4,n4,c4,la,er,rfl,hv,hb2⟩;obtain ⟨W3,hW3⟩:=nm (w2.alloc (.cells #[.slice A4 n4 c4] 61));have HB3:=bw hW3;have HM:=bk hW3;have HX:=hD ((HX.out.below hb2 HX.out.lt).below HB3.out (HX.out.below hb2 HX.out.lt).lt);have HB:=hD (aB (aB HB.out hb2) HB3.out);have HV:=hD (hv.up HB3.out);have HW3:=hD hW3;clear hb2 hW3 hv;have m0:=HM.out.cell 0;simp at m0;go_wp2_with (rw [HW3.out]);(with_reducible refine (oO la 1 W3).mono ?_);rintro r0 w4 ⟨r,er2,rfl,rfl,hri⟩;obtain ⟨x0,x1,x2,x3,x4⟩:=HX.out.c5;obtain ⟨q0,q1,q2,q3,q4⟩:=HX.out.f5;obtain ⟨W5,hW5⟩:=nm ((((((W3.setCell ⟨w.heap.size,0,none⟩ (.int .i64 r)).setCell ⟨w.heap.size,1,none⟩ (.slice none 0 0)).setCell ⟨w.heap.size,2,none⟩ (.slice none 0 0)).setCell ⟨w.heap.size,3,none⟩ (.string ⟨#[102,105,114,115,116]⟩)).setCell ⟨w.heap.size,4,none⟩ (.slice A4 n4 c4)));have HX5:Hid (aK W5 w.heap.size 39 #[.int .i64 r,.slice none 0 0,.slice none 0 0,.string ⟨#[102,105,114,115,116]⟩,.slice A4 n4 c4]):=by rw [<- hW5];exact HX.out.val5 _ _ _ _ _
 have HB5:Hid (Below w.heap.size w W5):=by rw [<- hW5];exact iF HB.out (Nat.le_refl _) _ _ _ _ _
 have HV5:Hid (V W5 W5.heap.size (.sl 6620 83 (aQ 110)) (.slice A4 n4 c4)):=by
  have SZ:W5.heap.size=W3.heap.size:=by rw [<- hW5];simp [World.setCell]
  have k0:=HX.out;have k1:=k0.set_ 0 (.int .i64 r);have k2:=k1.set_ 1 (.slice none 0 0);have k3:=k2.set_ 2 (.slice none 0 0);have k4:=k3.set_ 3 (.string ⟨#[102,105,114,115,116]⟩);have h1:=((((HV.out.set_ k0 (by decide) 0 (.int .i64 r)).set_ k1 (by decide) 1 (.slice none 0 0)).set_ k2 (by decide) 2 (.slice none 0 0)).set_ k3 (by decide) 3 (.string ⟨#[102,105,114,115,116]⟩)).set_ k4 (by decide) 4 (.slice A4 n4 c4);rw [hW5] at h1;unfold Hid;rwa [SZ]
 have HW5:=hD hW5;clear hW5;go_wp2_with (rw [HW5.out]);refine rR (cs:=#[.int .i64 r,.slice none 0 0,.slice none 0 0,.string ⟨#[102,105,114,115,116]⟩,.slice A4 n4 c4]) HX5.out Tryz.underlying39 rfl rfl rfl rfl (by kernel_rfl) ?_;exact ⟨HB5.out,_,_,_,_,_,_,_,_,_,_,_,rfl,hri,V.nil _ _ _ _ _,V.nil _ _ _ _ _,by show (5:Nat)<=110;decide,HV5.out⟩
theorem Bq {z:Int} (h:V w B (.sl M 3 [.int]) (.slice A n c)) (hb:aK w g 3 cs) (hz:aO z):V (w.setCell ⟨g,i,none⟩ (.int .i64 z)) B (.sl M 3 [.int]) (.slice A n c):=by
 have hM:=h.len_le;obtain ⟨l,rfl,H⟩:=h.il;rcases Nat.eq_zero_or_pos l.length with h0 | h0
 ·refine .sl M _ [.int] A l.length c [] H.cap hM ⟨by simp [h0],fun h1=>absurd h1 (by omega)⟩ (fun _ _ h1=>absurd h1 (by omega)) (fun j u t hu ht=>by simp at hu)
 ·obtain ⟨b,off,rfl,hB,hc⟩:=H.rd.head h0 (by omega);obtain ⟨cb,hcb⟩:=H.blk _ rfl h0;by_cases hg:b=g
  ·subst hg;have hset:=hb.set_ i (.int .i64 z);have hat:∀ j,j < l.length->∃ y,aO y/\(w.setCell ⟨b,i,none⟩ (.int .i64 z)).cell? ⟨b,off+j,none⟩=some (.int .i64 y):=fun j hj=>by
    rw [hset.cell];have h1:=hc j (.int .i64 l[j]) (by simp [List.getElem?_eq_getElem hj]);rw [hb.cell] at h1;have hlt:off+j < cs.size:=by
     rcases Nat.lt_or_ge (off+j) cs.size with h2 | h2
     ·exact h2
     ·rw [Array.getElem?_eq_none h2] at h1;cases h1
    by_cases hij:i=off+j
    ·subst hij;exact ⟨z,hz,by simp [Array.getElem?_setIfInBounds,hlt]⟩
    ·exact ⟨l[j],H.ok _ (List.getElem_mem hj),by rw [Array.getElem?_setIfInBounds_ne hij];exact h1⟩
   obtain ⟨l',hl',hp⟩:∃ l':List Int,l'.length=l.length/\∀ j (hj:j < l'.length),aO l'[j]/\(w.setCell ⟨b,i,none⟩ (.int .i64 z)).cell? ⟨b,off+j,none⟩=some (.int .i64 l'[j]):=by
    have:∀ m,m<=l.length->∃ l':List Int,l'.length=m/\∀ j (hj:j < l'.length),aO l'[j]/\(w.setCell ⟨b,i,none⟩ (.int .i64 z)).cell? ⟨b,off+j,none⟩=some (.int .i64 l'[j]):=by
     intro m
     induction m with
     | zero=>exact fun _=>⟨[],rfl,fun j hj=>absurd hj (by simp)⟩
     | succ m ih=>
      intro hm;obtain ⟨l',e,hp⟩:=ih (by omega);obtain ⟨y,hy,hcell⟩:=hat m (by omega);refine ⟨l'++[y],by simp [e],fun j hj=>?_⟩;rcases Nat.lt_or_ge j l'.length with h2 | h2
      ·rw [List.getElem_append_left h2];exact hp j h2
      ·have:j=m:=by simp at hj;omega
       subst this;rw [List.getElem_append_right (by omega)];simp [e];exact ⟨hy,hcell⟩
    exact this _ (Nat.le_refl _)
   have H':IL (w.setCell ⟨b,i,none⟩ (.int .i64 z)) B (some ⟨b,off,none⟩) c l':=by
    refine ⟨⟨by simp,fun _=>⟨_,rfl,hB,fun j u hu=>?_⟩⟩,by rw [hl'];exact H.cap,fun x hx=>?_,fun ad e1 _=>?_⟩
    ·rw [List.getElem?_map] at hu;obtain ⟨y,hy,rfl⟩:=Option.map_eq_some_iff.1 hu;obtain ⟨hj,rfl⟩:=List.getElem?_eq_some_iff.1 hy;rw [Addr.add_lit];exact (hp j hj).2
    ·obtain ⟨j,hj,rfl⟩:=List.getElem_of_mem hx;exact (hp j hj).1
    ·injection e1 with e1;subst e1;exact ⟨_,hset⟩
   have:=H'.v (n:=M) (by omega);rwa [hl'] at this
  ·have hk:(w.setCell ⟨g,i,none⟩ (.int .i64 z)).heap[b]?=w.heap[b]?:=Below.heap_setCell w ⟨g,i,none⟩ _ b hg;have H':IL (w.setCell ⟨g,i,none⟩ (.int .i64 z)) B (some ⟨b,off,none⟩) c l:=by
    refine ⟨⟨by simp,fun _=>⟨_,rfl,hB,fun j u hu=>?_⟩⟩,H.cap,H.ok,fun ad e1 _=>?_⟩
    ·rw [Addr.add_lit];exact (World.cell?_of_block hk).trans (hc j u hu)
    ·injection e1 with e1;subst e1;exact ⟨cb,hk.trans hcb⟩
   exact H'.v hM
theorem CH {z:Int} (h:V w B (.sl L 39 (cL K M N 3 83)) (.slice A n c)) (hb:aK w g 3 cs) (hz:aO z):V (w.setCell ⟨g,i,none⟩ (.int .i64 z)) B (.sl L 39 (cL K M N 3 83)) (.slice A n c):=by
 cases h with
 | sl n e fs A len cap xs hc hn hr hbk hx=>
  have same:∀ ad,A=some ad->0 < n->(w.setCell ⟨g,i,none⟩ (.int .i64 z)).heap[ad.block]?=w.heap[ad.block]?:=fun ad e1 h0=>by
   obtain ⟨cs',hcs⟩:=hbk ad e1 h0;refine Below.heap_setCell w ⟨g,i,none⟩ _ ad.block ?_;exact aK.ne_ (t:=39) (t':=3) hcs hb (by decide)
  refine .sl L _ _ A n c xs hc hn ⟨hr.1,fun h0=>?_⟩ (fun ad e1 h0=>?_) (fun j u t hu ht=>?_)
  ·obtain ⟨ad,e1,hB,hcell⟩:=hr.2 h0;exact ⟨ad,e1,hB,fun j u hu=>(World.cell?_of_block (by rw [bU];exact same ad e1 h0)).trans (hcell j u hu)⟩
  ·obtain ⟨cs',hcs⟩:=hbk ad e1 h0;exact ⟨cs',(same ad e1 h0).trans hcs⟩
  ·have h1:=hx j u t hu ht;have h5:j % 5 < 5:=Nat.mod_lt _ (by omega);have hl:(cL K M N 3 83).length=5:=rfl;rw [hl] at ht;obtain ⟨r,hr'⟩:∃ r,j % 5=r:=⟨_,rfl⟩;rw [hr'] at ht h5
   match r,h5 with
   | 0,_=>cases ht;exact h1.set_ hb (by simp [Ty.has]) i _
   | 1,_=>
    cases ht
    obtain ⟨A2,n2,c2,rfl,-,-⟩:=h1.sl_inv;exact Bq h1 hb hz
   | 2,_=>
    cases ht
    obtain ⟨A2,n2,c2,rfl,-,-⟩:=h1.sl_inv;exact Bq h1 hb hz
   | 3,_=>cases ht;exact h1.set_ hb (by simp [Ty.has]) i _
   | 4,_=>cases ht;exact h1.set_ hb (by simp [Ty.has,Ty.hasAny]) i _
section
variable {P:Program} {w:World}
def CM (w w':World):Prop:=Below w.heap.size w w'\/∃ g cs i z,aK w g 3 cs/\aO z/\w'=w.setCell ⟨g,i,none⟩ (.int .i64 z)
theorem CM.com (hw:CM w w') (h:V w w.heap.size (.sl L 39 (cL K M N 3 83)) (.slice A n c)):V w' w'.heap.size (.sl L 39 (cL K M N 3 83)) (.slice A n c):=by
 rcases hw with hb | ⟨g,cs,i,z,hb,hz,rfl⟩
 ·exact h.up hb
 ·have:=CH (i:=i) h hb hz;have e:(w.setCell ⟨g,i,none⟩ (.int .i64 z)).heap.size=w.heap.size:=by simp [World.setCell]
  rwa [e]
theorem rU {ops:Array Oper} {rest:List Oper} {o:Oper} {a:Act} {Q:Exit->Act->World->Prop} (hgd:o.guard=none) (s x:Operand) (t tx:TypeId)
  (ho:o.op=.call { callee:=.builtin .append,args:=#[s,x],argTypes:=#[t,tx] })
  (base:Nat) (bytes:Nat) (hi:cN P 3 1 bytes) (ht:P.underlying t=some (.slice 3)) (htx:∃ e',P.underlying tx=some (.slice e'))
  (v:Value) (n:Nat) (hs:a.eval s=v) (hown:aJ w base 3 [.int] v n)
  (te:TypeId) (z:Int) (hz:aO z) (w1:World) (hw:w1=w.alloc (.cells #[.int .i64 z] te)) (c:Nat) (hx:a.eval x=.slice (some ⟨w.heap.size,0,none⟩) 1 c)
  (h63:n+1<=maxLen) (hbytes:(n+1)*bytes<=140737488355328) (hbase:base<=w.heap.size)
  (h:∀ A' c' w',aJ w' base 3 [.int] (.slice A' (n+1) c') (n+1)->CM w1 w'->Below base w w'->wpList P ops Q rest (a.put o.dst (.slice A' (n+1) c')) w'):wpList P ops Q (o::rest) a w1:=by
 subst hw;obtain ⟨e',he'⟩:=htx;have hTs:Ts w w.heap.size [.int] [.int .i64 z]:=eE hz;have hT2:=hTs.up (w':=w.alloc (.cells #[.int .i64 z] te)) ((Below.refl _ w).alloc (Nat.le_refl _) _);have hsrc:=bR (P:=P) w he' [.int .i64 z] 1 1 c te rfl (fun u hu=>by simp at hu;subst hu;rfl);have hown2:=hown.alloc (.cells #[.int .i64 z] te);obtain ⟨ii,zz,h1,h2,h3,h4,h5⟩:=hi;obtain ⟨xs,ho',hT'⟩:=hown2;refine wpList_plain hgd fun K hK=>?_;obtain ⟨v',w',hrun,g2,g3⟩:=iT (P:=P) (w.alloc (.cells #[.int .i64 z] te)) base t tx o.type 3 ii zz 1 bytes ht h1 h2 h3 h4 h5 (by omega) v n xs ho' _ 1 _ hsrc h63 hbytes (by simp;omega);have hIW:CM (w.alloc (.cells #[.int .i64 z] te)) w':=by
  have hlen1:[Ty.int].length=1:=rfl;rcases ho'.2 with ⟨rfl,rfl⟩ | ⟨g,cap,cur,rfl,hbg,hg,hnc,hcm,hcs,htake⟩
  ·exact .inl g3.below_new
  ·by_cases hroom:n+1<=cap
   ·have hr:=run_append_room_src (P:=P) (w.alloc (.cells #[.int .i64 z] te)) t tx o.type 3 ii ht h1 g 0 n cap _ 1 [.int .i64 z] (by rw [h3];exact hsrc) hroom (fun j hj=>by
     rw [cell_of_row _ g _ cur _ (0,0) hg];have:j=0:=by simpa using hj
     have hcs2:cur.size=cap:=by simpa using hcs
     rw [Array.getElem?_eq_getElem (by rw [h3];omega)];rfl) (fun j hj=>by simp [World.frozen?,hg])
    rw [hr] at hrun;injection hrun with e1 e2;refine .inr ⟨g,cur,0+n*ii.size,z,hg,hz,?_⟩;rw [<- e2];simp [World.setCells]
   ·have hge:=grownCap_ge (w.alloc (.cells #[.int .i64 z] te)) (n+1) cap 3;have holds:∀ j u,xs[j]?=some u->(w.alloc (.cells #[.int .i64 z] te)).drew.cell? ((⟨g,0,none⟩:Addr).add j)=some u:=ho'.cells (g:=g) rfl;have hr:=run_append_grow_src (P:=P) (w.alloc (.cells #[.int .i64 z] te)) t tx o.type 3 ii zz ht h1 h2 (some ⟨g,0,none⟩) n cap xs (by rw [h3];exact run_firstCells_some _ 1 n ⟨g,0,none⟩ n cap xs ho'.1 holds) _ 1 [.int .i64 z] (by rw [h3];exact hsrc) (by omega) (by simp only [maxLen] at h63;omega) (growslice_fits (by omega) (by rw [h4];exact hbytes));rw [hr] at hrun;injection hrun with e1 e2;subst e2;exact .inl (bK (cC (Below.refl _ _)) _)
 have hOV:aJ w' base 3 [.int] v' (n+1):=by
  refine ⟨xs++[.int .i64 z],g2,fun j u t hu hft=>?_⟩;exact (((hT'.append hT2 ho'.1) j u t hu hft).grows (Nat.le_refl _) g3 ho' (by
   have:j % [Ty.int].length=0:=by simp [Nat.mod_one]
   rw [this] at hft;simp at hft;subst hft;rfl)).more g3.size
 obtain ⟨A',c',rfl,-,-⟩:=hOV.form;have hfin:=h A' c' w' hOV hIW (((Below.refl base w).alloc hbase _).grown g3.grown (by simp;omega) hown.from_);unfold Oper.wp execOp;simp only [ho,resolve,invoke,builtin,Sem.run_bind,Sem.run_pure,Result.andThen_ok,List.map_toArray,List.map_cons,List.map_nil,hs,hx,hrun];exact hK _ _ hfin
end
def fJ (w:World) (B:Nat) (A:Option Addr) (n:Nat):Prop:=∃ xs,aG w B 4 A n xs/\Ts w B [.int,.int,.int,.int] xs
theorem fJ.bel (h:fJ w B A n) (hb:Below B w w'):fJ w' B A n:=by
 obtain ⟨xs,h1,h2⟩:=h;exact ⟨xs,h1.below hb,fun j u t hu ht=>(h2 j u t hu ht).bel hb⟩
theorem fJ.at_ {k:Nat} (h:fJ w B A n) (hk:k < n):∃ b off z0 z1 z2 z3,A=some ⟨b,off,none⟩/\b < B/\w.cell? ⟨b,off+k*4,none⟩=some (.int .i64 z0)/\w.cell? ⟨b,off+k*4+1,none⟩=some (.int .i64 z1)/\
  w.cell? ⟨b,off+k*4+2,none⟩=some (.int .i64 z2)/\w.cell? ⟨b,off+k*4+3,none⟩=some (.int .i64 z3)/\aO z0/\aO z1/\aO z2/\aO z3:=by
 obtain ⟨xs,h1,h2⟩:=h;obtain ⟨b,off,e,hB,hc⟩:=h1.head (by omega) (by omega);have hl:=h1.1;have key:∀ i,i < 4->∃ z,w.cell? ⟨b,off+(k*4+i),none⟩=some (.int .i64 z)/\aO z:=fun i hi=>by
  have hlt:k*4+i < xs.length:=by omega
  have hti:([.int,.int,.int,.int]:List Ty)[(k*4+i) % ([.int,.int,.int,.int]:List Ty).length]?=some .int:=by
   have:(k*4+i) % ([.int,.int,.int,.int]:List Ty).length=i:=by show (k*4+i) % 4=i;omega
   rw [this]
   match i,hi with
   | 0,_=>rfl
   | 1,_=>rfl
   | 2,_=>rfl
   | 3,_=>rfl
  obtain ⟨z,hz,hi⟩:=(h2 _ _ .int (List.getElem?_eq_getElem hlt) hti).int_inv;exact ⟨z,by rw [hc _ _ (List.getElem?_eq_getElem hlt),hz],hi⟩
 obtain ⟨z0,c0,i0⟩:=key 0 (by omega);obtain ⟨z1,c1,i1⟩:=key 1 (by omega);obtain ⟨z2,c2,i2⟩:=key 2 (by omega);obtain ⟨z3,c3,i3⟩:=key 3 (by omega);simp only [Nat.add_zero,<- Nat.add_assoc] at c0 c1 c2 c3;exact ⟨b,off,z0,z1,z2,z3,e,hB,c0,c1,c2,c3,i0,i1,i2,i3⟩
def NN:Nat->Nat
 | 0=>6620
 | j+1=>12*((j+1)*NN j)+20
theorem DM (h:j<=2):(j+1)*NN j+NN j<=9000000:=by
 match j,h with
 | 0,_=>decide
 | 1,_=>decide
 | 2,_=>decide
theorem DL:NN j<=NN (j+1):=by
 show NN j<=12*((j+1)*NN j)+20;have:NN j<=(j+1)*NN j:=Nat.le_mul_of_pos_left _ (by omega);omega
theorem Dq (h:j<=3):NN j<=68654180:=by
 match j,h with
 | 0,_=>decide
 | 1,_=>decide
 | 2,_=>decide
 | 3,_=>decide
structure HR (w wr:World) (j:Nat) (A:Option Addr) (n c:Nat) (A1:Option Addr) (n1 c1:Nat):Prop where
 out:V wr wr.heap.size (.sl (j+1) 39 (cL 110 1000 (NN j) 3 83)) (.slice A n c)
 n0:0 < n
 made:aJ wr w.heap.size 3 [.int] (.slice A1 n1 c1) n1
 m0:0 < n1
 mj:n1<=j+1
 bel:Below w.heap.size w wr
theorem HR.drewN {wr:World} {A1:Option Addr} {n1 c1:Nat} (h:HR w wr j A n c A1 n1 c1) (k:Nat):HR w (wr.drewN k) j A n c A1 n1 c1:=⟨by have:=h.out.drewN k;simpa using this,h.n0,h.made.drewN k,h.m0,h.mj,aN h.bel k⟩
def BZ (w:World) (m:Nat) (e:Ending) (w':World):Prop:=Below w.heap.size w w'/\∃ A n c,e=.returned (.slice A n c)/\0 < n/\n<=m+1/\V w' w'.heap.size (.sl (m+1) 39 (cL 110 1000 (NN m) 3 83)) (.slice A n c)
theorem Bs (first:Int) (dA:Option Addr) (dn dc:Nat) (w:World) (h:fJ w w.heap.size dA dn) (h3:dn<=3):Calls Tryz.prog 5 #[.int .i64 first,.slice dA dn dc] w (BZ w dn):=by
 have HF:=hD (Av first w);have HD:=hD h;clear h;go_enter Tryz.func5,Tryz.ntmps5;go_wp2_with fail;(with_reducible refine (HF.out).mono ?_);rintro r0 w1 ⟨hb1,z0,A1,n1,c1,A2,n2,c2,s3,A4,n4,c4,rfl,hic⟩;clear HF;have HIC:=hD hic;have HB1:=hD hb1;clear hic hb1;go_wp2_with fail;obtain ⟨W,hW⟩:=nm (((w1.alloc (.cells #[.int .i64 z0,.slice A1 n1 c1,.slice A2 n2 c2,.string s3,.slice A4 n4 c4] 39)).alloc (.cells #[.int .i64 z0,.slice A1 n1 c1,.slice A2 n2 c2,.string s3,.slice A4 n4 c4] 39)).alloc (.cells #[.int .i64 z0] 3));have HR0:Hid (HR w W 0 (some ⟨w1.heap.size+1,0,none⟩) 1 1 (some ⟨w1.heap.size+1+1,0,none⟩) 1 1):=by
  obtain ⟨Wa,hWa⟩:=nm (w1.alloc (.cells #[.int .i64 z0,.slice A1 n1 c1,.slice A2 n2 c2,.string s3,.slice A4 n4 c4] 39));have ba:Below w1.heap.size w1 Wa:=by rw [<- hWa];exact bK (Below.refl _ _) _
  have za:Wa.heap.size=w1.heap.size+1:=by rw [<- hWa];simp
  rw [hWa] at hW;obtain ⟨Wb,hWb⟩:=nm (Wa.alloc (.cells #[.int .i64 z0,.slice A1 n1 c1,.slice A2 n2 c2,.string s3,.slice A4 n4 c4] 39));have bb:Below Wa.heap.size Wa Wb:=by rw [<- hWb];exact bK (Below.refl _ _) _
  have zb:Wb.heap.size=w1.heap.size+1+1:=by rw [<- hWb];simp [za]
  have vb:V Wb (Wa.heap.size+1) (.sl 1 39 (cL 110 1000 6620 3 83)) (.slice (some ⟨Wa.heap.size,0,none⟩) 1 1):=by
   rw [<- hWb];exact V.new (vals:=[.int .i64 z0,.slice A1 n1 c1,.slice A2 n2 c2,.string s3,.slice A4 n4 c4]) rfl (kN (HIC.out.up ba)) (by omega)
  rw [hWb] at hW;have bwq:Below Wb.heap.size Wb W:=by rw [<- hW];exact bK (Below.refl _ _) _
  have bww:Below w.heap.size w W:=aB (aB (aB HB1.out ba) bb) bwq;have hm:aJ W w.heap.size 3 [.int] (.slice (some ⟨Wb.heap.size,0,none⟩) 1 1) 1:=by
   rw [<- hW];exact aJ.fresh Wb _ _ w.heap.size (Nat.le_trans HB1.out.size (Nat.le_trans ba.size bb.size)) (vals:=[.int .i64 z0]) (m:=1) rfl (eE HIC.out.i0) (by unfold maxLen;omega)
  rw [za] at vb;rw [zb] at hm;refine ⟨((vb.bel (bwq.mono (by omega))).more (by have:=bwq.size;omega)),by omega,hm,by omega,by omega,bww⟩
 have hz0:=HIC.out.i0;rw [hW];clear hW HIC HB1;go_loopw [6,7,8] (fun x y i wr=>∃ (j:Nat) (A:Option Addr) (n c:Nat) (A1:Option Addr) (n1 c1:Nat),x=.slice A n c/\y=.slice A1 n1 c1/\i=.int .i64 (j:Int)/\j<=dn/\Hid (HR w wr j A n c A1 n1 c1)) (fun _ _ i _=>dn - (intOf i).toNat)
 case atStart=>exact ⟨0,_,_,_,_,_,_,rfl,rfl,rfl,Nat.zero_le _,HR0⟩
 case round=>
  clear HR0;obtain ⟨j,A,n,c,A1,n1,c1,rfl,rfl,rfl,hj,HR⟩:=hrel;rcases Nat.lt_or_ge j dn with hlt | hge
  ·have d1:decide ((j:Int) < (dn:Int))=true:=decide_eq_true (by omega);have d2:decide ((j:Int) < 9)=true:=decide_eq_true (by omega);obtain ⟨db,doff,y0,y1,y2,y3,rfl,hdb,e0,e1,e2,e3,i0,i1,i2,i3⟩:=(HD.out.bel HR.out.bel).at_ hlt;have hle:=DM (j:=j) (by omega);have hdz:=hdb;go_wp2_with fail;(with_reducible refine (xM A n c A1 n1 c1 y0 y1 y2 y3 wr HR.out.out (HR.out.made.v_ HR.out.mj) HR.out.n0 HR.out.m0 (by omega) (by omega) (by omega) hle (by omega) (by omega) i1 i3).mono ?_);rintro r0 w2 ⟨hb2,x0,B1,m1,k1,B2,m2,k2,t3,B4,m4,k4,ok,rfl,hic⟩;have HIC:Hid (dQ w2 w2.heap.size 110 1000 (NN (j+1)) x0 B1 m1 k1 B2 m2 k2 t3 B4 m4 k4):=hic;have HV2:Hid (V w2 w2.heap.size (.sl (j+1) 39 (cL 110 1000 (NN (j+1)) 3 83)) (.slice A n c)):=(HR.out.out.up hb2).comW DL HR.out.out.len_le;have HM2:=hD (HR.out.made.up hb2);have HB2:=hD (aB HR.out.bel hb2);have HN0:Hid (0 < n):=HR.out.n0;have HM0:Hid (0 < n1/\n1<=j+1):=⟨HR.out.m0,HR.out.mj⟩;clear HR hb2 hic e0 e1 e2 e3 hle d1 d2
   cases ok
   case false=>
    go_wp2_with fail;go_roundw
    case rel=>
     refine ⟨j+1,_,_,_,_,_,_,rfl,rfl,by go_num,by omega,⟨?_,HN0.out,HM2.out.alloc _,HM0.out.1,by have:=HM0.out.2;omega,bK HB2.out _⟩⟩;exact (HV2.out.up (bK (Below.refl _ _) _)).wide (Nat.le_trans HV2.out.len_le (by omega))
    case measure=>simp [intOf];omega
   case true=>
    obtain ⟨W3,hW3⟩:=nm (w2.alloc (.cells #[.int .i64 x0,.slice B1 m1 k1,.slice B2 m2 k2,.string t3,.slice B4 m4 k4] 39));have HX:=bk hW3;have hb3:Below w2.heap.size w2 W3:=by rw [<- hW3];exact bK (Below.refl _ _) _
    have HV3:=hD (HV2.out.up hb3);have HI3:=hD (HIC.out.up hb3);have HM3:=hD (HM2.out.up hb3);have HB3:=hD (aB HB2.out hb3);have HW3:=hD hW3;clear hb3 hW3 HV2 HIC HM2 HB2;obtain ⟨x_0,x_1,x_2,x_3,x_4⟩:=HX.out.c5;go_wp2_with (rw [HW3.out]);(with_reducible refine (sM A n c x0 B1 m1 k1 B2 m2 k2 t3 B4 m4 k4 W3 HV3.out (by omega) HI3.out).mono ?_);rintro r0 w4 ⟨hb4,v,rfl,hv4⟩;obtain ⟨A',n',c',rfl,hn',hv'⟩:=hv4.ne_inv;have HX4:=hD (HX.out.below hb4 HX.out.lt);have HL3:=hD HV3.out.len_le;have HM4:=hD (HM3.out.up hb4);have HB4:=hD (aB HB3.out hb4);have HV4:=hD hv';have HN4:=hD hn';have hx0:=HI3.out.i0;clear hb4 hv4 hv' hn' HV3 HI3 HM3 HB3 HX HW3 x_0 x_1 x_2 x_3 x_4;obtain ⟨x_0,x_1,x_2,x_3,x_4⟩:=HX4.out.c5;go_wp2_with (at_builtin;refine rU rfl _ _ _ _ rfl w.heap.size 8 Dg Tryz.underlying36 CP (.slice A1 n1 c1) n1 rfl HM4.out _ x0 hx0 _ rfl _ rfl (by have:=HM0.out.2;unfold maxLen;omega) (by have:=HM0.out.2;omega) HB4.out.size ?_);intro A6 c6 w6 hown6 hiw6 hb6;have HM6:=hD hown6;have HB6:=hD (HB4.out.trans hb6);have HV6:=hD (hiw6.com (HV4.out.up (bK (Below.refl _ _) _)));clear hown6 hiw6 hb6 x_0 x_1 x_2 x_3 x_4;go_wp2_with fail;go_roundw
    case rel=>
     refine ⟨j+1,_,_,_,_,_,_,rfl,rfl,by go_num,by omega,⟨HV6.out.wide (Nat.le_trans HV6.out.len_le (by have:=HL3.out;omega)),HN4.out,HM6.out,by omega,by have:=HM0.out.2;omega,HB6.out⟩⟩
    case measure=>simp [intOf];omega
  ·have d1:decide ((j:Int) < (dn:Int))=false:=decide_eq_false (by omega);obtain rfl:j=dn:=by omega
   go_wp2_with fail;go_ret;exact ⟨HR.out.bel,_,_,_,rfl,HR.out.n0,HR.out.out.len_le,HR.out.out⟩
theorem tP {a b:List Value} (h:Ts w B fs (a++b)) (ha:a.length=fs.length):Ts w B fs b:=fun j u t hu ht=>by
 refine h (fs.length+j) u t ?_ ?_
 ·rw [List.getElem?_append_right (by omega),ha,Nat.add_sub_cancel_left];exact hu
 ·rwa [Nat.add_comm,Nat.add_mod_right]
theorem eN {xs:List Value} (h:Ts w B fs xs) {u:Value} {t:Ty} (hu:xs[i]?=some u) (hi:i < fs.length) (ht:fs[i]?=some t):V w B t u:=h i u t hu (by rw [Nat.mod_eq_of_lt hi];exact ht)
theorem pH {w:World} {B K:Nat}:∀ (n:Nat) (vs:List Value),vs.length=n*6->Ts w B (aQ K) vs->∃ ws:List bG,ws.length=n/\vs=ws.flatMap bG.vals/\∀ y∈ws,y.ok/\y.text.size<=K
 | 0,vs,hl,_=>⟨[],rfl,List.eq_nil_of_length_eq_zero (by omega),fun y hy=>by cases hy⟩
 | n+1,vs,hl,h=>by
  rcases vs with _ | ⟨v0,_ | ⟨v1,_ | ⟨v2,_ | ⟨v3,_ | ⟨v4,_ | ⟨v5,vs⟩⟩⟩⟩⟩⟩
  all_goals first | (exfalso;simp only [List.length_nil,List.length_cons] at hl;omega) | skip
  obtain ⟨a,rfl,ha⟩:=(eN h (i:=0) rfl (by simp) rfl:V w B .int v0).int_inv;obtain ⟨b,rfl,hb⟩:=(eN h (i:=1) rfl (by simp) rfl:V w B .int v1).int_inv;obtain ⟨c,rfl,hc⟩:=(eN h (i:=2) rfl (by simp) rfl:V w B .int v2).int_inv;obtain ⟨d,rfl⟩:=(eN h (i:=3) rfl (by simp) rfl:V w B .bool v3).bool_inv;obtain ⟨s,rfl,hs⟩:=(eN h (i:=4) rfl (by simp) rfl:V w B (.str K) v4).str_inv;obtain ⟨f,rfl,hf⟩:=(eN h (i:=5) rfl (by simp) rfl:V w B .int v5).int_inv;obtain ⟨ws,h1,h2,h3⟩:=pH n vs (by simp only [List.length_cons] at hl;omega) (tP (a:=[.int .i64 a,.int .i64 b,.int .i64 c,.bool d,.string s,.int .i64 f]) h rfl);refine ⟨⟨a,b,c,d,s,f⟩::ws,by simp [h1],by rw [h2];rfl,fun y hy=>?_⟩;rcases List.mem_cons.1 hy with rfl | hy
  ·exact ⟨⟨ha,hb,hc,hf⟩,hs⟩
  ·exact h3 y hy
structure lQ (K M N:Nat) (c:bY):Prop where
 ps:c.parents.length<=M
 ks:c.picks.length<=M
 note:c.note.size<=K
 ws:c.writes.length<=N
 tx:∀ y∈c.writes,y.text.size<=K
theorem vQ {w:World} {K M N:Nat} (hM:M<=1000000) (hN:N<=1000000000) (hK:K<=1000000):∀ (n:Nat) (vs:List Value),vs.length=n*5->Ts w w.heap.size (cL K M N 3 83) vs->∃ xs:List CX,xs.length=n/\vs=xs.flatMap lO/\∀ x∈xs,iM w x/\lQ K M N x.c
 | 0,vs,hl,_=>⟨[],rfl,List.eq_nil_of_length_eq_zero (by omega),fun y hy=>by cases hy⟩
 | n+1,vs,hl,h=>by
  rcases vs with _ | ⟨v0,_ | ⟨v1,_ | ⟨v2,_ | ⟨v3,_ | ⟨v4,vs⟩⟩⟩⟩⟩
  all_goals first | (exfalso;simp only [List.length_nil,List.length_cons] at hl;omega) | skip
  obtain ⟨a,rfl,ha⟩:=(eN h (i:=0) rfl (by simp) rfl:V w w.heap.size .int v0).int_inv;have g1:V w w.heap.size (.sl M 3 [.int]) v1:=eN h (i:=1) rfl (by simp) rfl;obtain ⟨A1,n1,c1,rfl,-,h1n⟩:=g1.sl_inv;obtain ⟨l1,rfl,i1⟩:=g1.il;have g2:V w w.heap.size (.sl M 3 [.int]) v2:=eN h (i:=2) rfl (by simp) rfl;obtain ⟨A2,n2,c2,rfl,-,h2n⟩:=g2.sl_inv;obtain ⟨l2,rfl,i2⟩:=g2.il;obtain ⟨s,rfl,hs⟩:=(eN h (i:=3) rfl (by simp) rfl:V w w.heap.size (.str K) v3).str_inv;have g4:V w w.heap.size (.sl N 83 (aQ K)) v4:=eN h (i:=4) rfl (by simp) rfl;obtain ⟨A4,n4,c4,rfl,-,h4n⟩:=g4.sl_inv;obtain ⟨vc,rc,tc⟩:=g4.reads;obtain ⟨ws,rfl,rfl,w3⟩:=pH n4 vc rc.1 tc;obtain ⟨xs,h1,h2,h3⟩:=vQ hM hN hK n vs (by simp only [List.length_cons] at hl;omega) (tP (a:=[.int .i64 a,.slice A1 l1.length c1,.slice A2 l2.length c2,.string s,.slice A4 ws.length c4]) h rfl);refine ⟨⟨⟨a,l1,l2,s,ws⟩,A1,c1,A2,c2,A4,c4⟩::xs,by simp [h1],by rw [h2];rfl,fun y hy=>?_⟩;rcases List.mem_cons.1 hy with rfl | hy
  ·refine ⟨⟨⟨ha,i1.ok,i2.ok,fun y hy=>(w3 y hy).1⟩,i1.rd,i2.rd,rc,?_,?_,?_,?_,fun y hy=>?_⟩,⟨h1n,h2n,hs,h4n,fun y hy=>(w3 y hy).2⟩⟩
   ·show l1.length<=_;omega
   ·show l2.length<=_;omega
   ·show ws.length<=_;omega
   ·show s.size<=_;omega
   ·have:=(w3 y hy).2;omega
  ·exact h3 y hy
theorem Ay (hM:M<=1000000) (hN:N<=1000000000) (hK:K<=1000000) (h:V w w.heap.size (.sl L 39 (cL K M N 3 83)) (.slice A n c)):∃ xs,lV w A n xs/\∀ x∈xs,lQ K M N x.c:=by
 obtain ⟨vs,hr,ht⟩:=h.reads;obtain ⟨xs,h1,rfl,h3⟩:=vQ hM hN hK n vs hr.1 ht;exact ⟨xs,⟨h1,hr,fun x hx=>(h3 x hx).1⟩,fun x hx=>(h3 x hx).2⟩
theorem wF {K:Nat}:∀ {l:List bG},(∀ y∈l,y.text.size<=K)->bO l<=l.length*K
 | [],_=>by simp [bO]
 | y::l,h=>by
  have e:bO (y::l)=y.text.size+bO l:=by unfold bO;simp [bG.size]
  have h1:=h y List.mem_cons_self;have h2:=wF (l:=l) (fun z hz=>h z (List.mem_cons_of_mem _ hz));rw [e,List.length_cons,Nat.add_mul];omega
theorem wJ {c:bY} (h:lQ 110 1000 68654180 c):c.size<=8000000000:=by
 have h1:=wF h.tx;have h2:c.writes.length*110<=68654180*110:=Nat.mul_le_mul_right _ h.ws;have:=h.ps;have:=h.ks;have:=h.note;have:=h.ws;unfold bY.size;omega
theorem zI {c:bY} (hc:c.ok) (h:lQ 110 1000 68654180 c):(bQ c).length<=12000000000:=by
 have s1q:=wF h.tx;have s2:c.writes.length*110<=68654180*110:=Nat.mul_le_mul_right _ h.ws;have q1:=h.ps;have q2:=h.ks;have q3:=h.note;have q4:=h.ws;have l1:=cF hc.1;have l2:=fF hc.2.1 (by omega);have l3:=fF hc.2.2.1 (by omega);have l4:=gF (s:=c.note) (by omega);have l5:=dH (n:=c.writes.length) (by omega);have l6:=mH hc.2.2.2 (by omega);unfold bQ;simp only [List.length_append];omega
theorem EM {c:bY} (hc:c.ok) (h:lQ 110 1000 68654180 c):c.fit:=by
 have q1:=h.ps;have q2:=h.ks;have q3:=h.note;have q4:=h.ws;refine ⟨hc,by omega,by omega,by omega,by omega,fun y hy=>⟨hc.2.2.2 y hy,?_⟩⟩;have:=h.tx y hy;omega
theorem kZ:∀ {l:List CX},(∀ x∈l,x.c.ok/\lQ 110 1000 68654180 x.c)->(jU l).length<=12000000000*l.length
 | [],_=>by simp [jU]
 | x::l,h=>by
  have h1:=zI (h x List.mem_cons_self).1 (h x List.mem_cons_self).2;have h2:=kZ (l:=l) (fun y hy=>h y (List.mem_cons_of_mem _ hy));have e2:jU (x::l)=bQ x.c++jU l:=by unfold jU;simp
  rw [e2,List.length_append,List.length_cons];omega
theorem nV (h:∀ x∈l,x.c.ok/\lQ 110 1000 68654180 x.c) (hl:l.length<=5):Dn l:=
 ⟨fun x hx=>wJ (h x hx).2,fun k=>by
  have h1:=kZ (l:=l.take k) (fun x hx=>h x (List.mem_of_mem_take hx));have h2:(l.take k).length<=l.length:=by rw [List.length_take];omega
  omega⟩
theorem EG (h:∀ x∈xs,x.c.ok/\lQ 110 1000 68654180 x.c) (hl:xs.length<=5):dO (gX xs)=some (xs.map CX.c):=by
 rw [Ev];refine E2 (by rw [List.length_map];omega) (fun c hc=>?_);obtain ⟨x,hx,rfl⟩:=List.mem_map.1 hc;exact EM (h x hx).1 (h x hx).2
theorem Ad (h:∀ x∈xs,x.c.ok/\lQ 110 1000 68654180 x.c) (hl:xs.length<=5):0 < (gX xs).length/\(gX xs).length<=100000000000:=by
 have h1:=kZ h;have h2:=dH (n:=xs.length) (by omega);have h3:0 < (bN (xs.length:Int)).length:=vL _;unfold gX;rw [List.length_append];omega
theorem Aj {w:World} {m:Nat} (hm:m<=3) (hn:n<=m+1) (h:V w' w'.heap.size (.sl (m+1) 39 (cL 110 1000 (NN m) 3 83)) (.slice A n c)):∃ xs,lV w' A n xs/\xs.length<=5/\∀ x∈xs,x.c.ok/\lQ 110 1000 68654180 x.c:=by
 have h1:V w' w'.heap.size (.sl (m+1) 39 (cL 110 1000 68654180 3 83)) (.slice A n c):=h.comW (Dq hm) hn;obtain ⟨xs,h2,h3⟩:=Ay (by omega) (by omega) (by omega) h1;exact ⟨xs,h2,by rw [h2.len];omega,fun x hx=>⟨(h2.good x hx).ok,h3 x hx⟩⟩
theorem E4 (c:bY):c.size<=(bQ c).length:=by
 have hI:∀ z:Int,0 < (bN z).length:=fun z=>vL _;have hL:∀ l:List Int,l.length<=(l.flatMap bN).length:=fun l=>by
  induction l with
  | nil=>simp
  | cons x l ih=>have:=hI x;simp only [List.flatMap_cons,List.length_append,List.length_cons];omega
 have hC:∀ l:List bG,l.length+bO l<=(l.flatMap eK).length:=fun l=>by
  induction l with
  | nil=>simp [bO]
  | cons x l ih=>
   have e:bO (x::l)=x.text.size+bO l:=by unfold bO;simp [bG.size]
   have:=hI x.id;have e3:(eK x).length ≥ 1+x.text.size:=by unfold eK gI;simp only [List.length_append,rX];omega
   rw [e];simp only [List.flatMap_cons,List.length_append,List.length_cons];omega
 have h1:=hL c.parents;have h2:=hL c.picks;have h3:=hC c.writes;unfold bY.size bQ iN gI;simp only [List.length_append,rX];omega
theorem EQ (h:(gX l).length<=2000):Dn l:=by
 have h0:(jU l).length<=2000:=by unfold gX at h;rw [List.length_append] at h;omega
 refine ⟨fun x hx=>?_,fun k=>?_⟩
 ·have h1:=E4 x.c;obtain ⟨a,b,rfl⟩:=List.append_of_mem hx;unfold jU at h0;simp only [List.flatMap_append,List.flatMap_cons,List.length_append] at h0;omega
 ·have e:jU l=jU (l.take k)++jU (l.drop k):=by unfold jU;rw [<- List.flatMap_append,List.take_append_drop]
  rw [e,List.length_append] at h0;omega
end
section
open Go.ChangeShapes Go.WideShapes Go.ChangeAt Go.RowKit Go.Deep
variable {A:Option Addr} {w w1:World} {n c k B:Nat} {bs:List Nat} {xs ys:List CX}
theorem fJ.take (h:fJ w B A n) (hk:k<=n):fJ w B A k:=by
 obtain ⟨xs,hr,ht⟩:=h;refine ⟨xs.take (k*4),⟨?_,fun h0=>?_⟩,fun j u t hu hf=>?_⟩
 ·rw [List.length_take,hr.1,Nat.min_eq_left (Nat.mul_le_mul_right _ hk)]
 ·obtain ⟨ad,e1,hB,hcell⟩:=hr.2 (by omega);refine ⟨ad,e1,hB,fun j u hu=>hcell j u ?_⟩;rw [List.getElem?_take] at hu
  split at hu
  ·exact hu
  ·cases hu
 ·rw [List.getElem?_take] at hu
  split at hu
  ·exact ht j u t hu hf
  ·cases hu
theorem yH {w:World} {B:Nat}:∀ {xs:List (Int × Int × Int × Int)},(∀ x∈xs,aO x.1/\aO x.2.1/\aO x.2.2.1/\aO x.2.2.2)->Ts w B [.int,.int,.int,.int] (xs.flatMap fun x=>[.int .i64 x.1,.int .i64 x.2.1,.int .i64 x.2.2.1,.int .i64 x.2.2.2])
 | [],_=>fun j u t hu _=>by simp at hu
 | x::xs,h=>fun j u t hu ht=>by
  obtain ⟨a,b,c,d⟩:=h x List.mem_cons_self;rw [List.flatMap_cons] at hu
  match j with
  | 0=>cases ht;cases hu;exact .int _ a
  | 1=>cases ht;cases hu;exact .int _ b
  | 2=>cases ht;cases hu;exact .int _ c
  | 3=>cases ht;cases hu;exact .int _ d
  | j+4=>
   refine yH (fun y hy=>h y (List.mem_cons_of_mem _ hy)) j u t ?_ ?_
   ·simpa using hu
   ·rwa [show (j+4) % ([.int,.int,.int,.int]:List Ty).length=j % ([.int,.int,.int,.int]:List Ty).length from Nat.add_mod_right _ _] at ht
section
variable {H:Type} {enc:TypeId × Value->H} {W:World} {held:Bool}
theorem wT {fuel len cap:Nat} {d:DataW H} {p:List MemPlace} (h:DataW.trod enc Tryz.prog W 0 (fun _=>true) held fuel 22 [.slice A len cap]=some (d,p)) (hsm:Sm Tryz.prog 22 d):
  len<=cap/\len<=140737488351232/\fJ W W.heap.size A len:=by
 have hb61:0 < Tryz.prog.bytesOf 44:=of_decide_eq_true (by kernel_rfl);have hc3:Tryz.prog.cellsOf 3=1:=by kernel_rfl
 obtain ⟨h1,-,h3,xs,h4,h5,h6⟩:=zR (α:=Int × Int × Int × Int) Tryz.underlying22 (by kernel_rfl:Tryz.prog.cellsOf 44=4) (by omega) (fun x=>[.int .i64 x.1,.int .i64 x.2.1,.int .i64 x.2.2.1,.int .i64 x.2.2.2]) (fun x=>aO x.1/\aO x.2.1/\aO x.2.2.1/\aO x.2.2.2) (fun _=>rfl) (fun cs' d' pl n htr hs hlen=>by
  obtain ⟨ys,m,-,hx,-,hyl,hfd⟩:=DataW.trod_struct Tryz.underlying44 htr;obtain ⟨c0,c1,c2,c3,rfl⟩:∃ c0 c1 c2 c3,cs'=[c0,c1,c2,c3]:=by
   match cs',hlen with
   | [c0,c1,c2,c3],_=>exact ⟨c0,c1,c2,c3,rfl⟩
  obtain ⟨y0,y1,y2,y3,rfl⟩:∃ y0 y1 y2 y3,ys=[y0,y1,y2,y3]:=by
   match ys,hyl with
   | [y0,y1,y2,y3],_=>exact ⟨y0,y1,y2,y3,rfl⟩
  have e0:=hfd 0 _ rfl;have e1:=hfd 1 _ rfl;have e2:=hfd 2 _ rfl;have e3:=hfd 3 _ rfl;simp [hc3] at e0 e1 e2 e3;obtain ⟨z0,q0,-,g0⟩:=DataW.trod_int Tryz.underlying3 e0;obtain ⟨z1,q1,-,g1⟩:=DataW.trod_int Tryz.underlying3 e1;obtain ⟨z2,q2,-,g2⟩:=DataW.trod_int Tryz.underlying3 e2;obtain ⟨z3,q3,-,g3⟩:=DataW.trod_int Tryz.underlying3 e3;simp at q0 q1 q2 q3;subst q0 q1 q2 q3;exact ⟨(z0,z1,z2,z3),rfl,rW g0,rW g1,rW g2,rW g3⟩) h hsm
 exact ⟨h1,h3 hb61,_,h5,yH h6⟩
end
theorem Cy {base:Nat} {e:TypeId} {xs:List Value} (h:w.ownsRow base e 1 (.slice A n c) n xs) (hk:k < n) (u:Value):
  ∃ g,A=some ⟨g,0,none⟩/\base<=g/\n<=c/\w.frozen? ⟨g,k,none⟩=false/\w.cell? ⟨g,k,none⟩=xs[k]?/\(w.setCell ⟨g,k,none⟩ u).ownsRow base e 1 (.slice A n c) n (xs.set k u):=by
 have hl:xs.length=n:=by have:=h.1;simpa using this
 rcases h.2 with ⟨h1,rfl⟩ | ⟨g,cap,cur,h1,hb,hh,h2,h3,h4,h5⟩
 ·omega
 ·injection h1 with e1 e2 e3;subst e1 e3;have hB:aK w g e cur:=hh;have hlt:k < cur.size:=by omega
  have hcell:w.cell? ⟨g,k,none⟩=xs[k]?:=by
   rw [hB.cell,<- h5,List.getElem?_take,if_pos (by omega)];simp
  refine ⟨g,rfl,hb,h2,hB.frozen k,hcell,⟨by rw [List.length_set];exact h.1,.inr ⟨g,_,_,rfl,hb,hB.set_ k u,h2,h3,by simpa using h4,?_⟩⟩⟩;rw [Array.toList_setIfInBounds,List.take_set,h5]
structure pR (w w1:World) (A:Option Addr) (n:Nat) (xs:List CX):Prop where
 bel:Below w.heap.size w w1
 coms:lV w1 A n xs
 len:xs.length<=5
 ok:∀ x∈xs,x.c.ok/\lQ 110 1000 68654180 x.c
structure Sp (w w1:World) (A:Option Addr) (n c:Nat) (bs:List Nat):Prop where
 bel:Below w.heap.size w w1
 rd:aG w1 w1.heap.size 1 A n (bs.map dZ)
 cap:n<=c
 byte:∀ x∈bs,x < 256
 len:n<=1000000000000
theorem uK (h:aG w B 1 A n (bs.map dZ)) (hk:k<=n):aG w B 1 A k ((bs.take k).map dZ):=by
 refine ⟨?_,fun h0=>?_⟩
 ·have:=h.1;simp at this ⊢;omega
 ·obtain ⟨ad,e1,hB,hcell⟩:=h.2 (by omega);refine ⟨ad,e1,hB,fun j u hu=>hcell j u ?_⟩;rw [List.map_take,List.getElem?_take] at hu
  split at hu
  ·exact hu
  ·cases hu
structure Em (w w1:World) (A:Option Addr) (c:Nat) (bs:List Nat):Prop where
 bel:Below w.heap.size w w1
 own:w1.ownsRow w.heap.size 5 1 (.slice A bs.length c) bs.length (bs.map dZ)
 cap:bs.length<=c
 byte:∀ x∈bs,x < 256
 len0:0 < bs.length
 len:bs.length<=100000000000
theorem AM {x y:Nat} (hx:x < 256) (hy:y < 256):x ^^^ y < 256:=Nat.xor_lt_two_pow (n:=8) hx hy
def DO (w:World) (m:Nat) (ec:Int) (l:List bY) (e:Ending) (w':World):Prop:=
 ∃ B cc xs,e=.returned (.tuple #[.slice B m cc,.int .i64 ec])/\xs.map CX.c=l/\lV w' B m xs/\Below w.heap.size w w'
theorem Cr (h:Sp w w1 A n c bs):∃ m ec l,m<=1000000000000/\Calls Tryz.prog 10 #[.slice A n c] w1 (DO w1 m ec l)/\∀ w2,Below w1.heap.size w1 w2->Calls Tryz.prog 11 #[.slice A n c] w2 (DO w2 m ec l):=by
 have hl:bs.length=n:=by have:=h.rd.1;simpa using this
 refine ⟨((dO bs).getD []).length,El (dO bs),(dO bs).getD [],?_,(pB A n c bs w1 h.len h.cap h.rd h.byte).mono fun _ _ h=>yS h,fun w2 hb=>(lK A n c bs w2 h.len h.cap ((h.rd.below hb).more hb.size) h.byte).mono fun _ _ h=>yS h⟩;have:=sT (bs:=bs);have:=h.len;omega
theorem pR.n5 (h:pR w w1 A n xs):n<=5:=by rw [<- h.coms.len];exact h.len
theorem Br (first:Int) (dA:Option Addr) (m dc:Nat) (w:World) (h:fJ w w.heap.size dA m) (h3:m<=3):Calls Tryz.prog 5 #[.int .i64 first,.slice dA m dc] w (fun e w1=>∃ A n c xs,e=.returned (.slice A n c)/\pR w w1 A n xs):=
 (Bs first dA m dc w h h3).mono fun e w1 h=>by
  obtain ⟨hb,A,n,c,rfl,h0,hn,hv⟩:=h;obtain ⟨xs,h1,h2,h3'⟩:=Aj (w:=w) h3 hn hv;exact ⟨A,n,c,xs,rfl,hb,h1,h2,h3'⟩
def Fc (w:World) (xs:List bY) (e:Ending) (w':World):Prop:=
 ∃ B cc ys,e=.returned (.tuple #[.slice B ys.length cc,.int .i64 0])/\ys.map CX.c=xs/\lV w' B ys.length ys/\Below w.heap.size w w'
theorem E8 {l:List bY} (hn:n<=1000000000000) (hnc:n<=c) (hr:aG w w.heap.size 1 A n (bs.map dZ)) (hb:∀ x∈bs,x < 256) (h:dO bs=some l):Calls Tryz.prog 10 #[.slice A n c] w (Fc w l):=
 (pB A n c bs w hn hnc hr hb).mono fun e w' hp=>by
  rw [h] at hp;obtain ⟨⟨B,cc,xs,k1,k2,k3⟩,hbel⟩:=hp;exact ⟨B,cc,xs,k1,k2,k3.1,hbel⟩
theorem ES (hn:n<=1000000000000) (hnc:n<=c) (hr:aG w w.heap.size 1 A n (bs.map dZ)) (hb:∀ x∈bs,x < 256) (h:dO bs=none):Calls Tryz.prog 10 #[.slice A n c] w (fun e w'=>e=.returned (.tuple #[.slice none 0 0,.int .i64 13])/\Below w.heap.size w w'):=
 (pB A n c bs w hn hnc hr hb).mono fun e w' hp=>by
  rw [h] at hp;exact hp
theorem EL (h:ys.map CX.c=xs.map CX.c) (hx:∀ x∈xs,x.c.ok/\lQ 110 1000 68654180 x.c):∀ y∈ys,y.c.ok/\lQ 110 1000 68654180 y.c:=fun y hy=>by
 have h1:y.c∈ys.map CX.c:=List.mem_map.2 ⟨y,hy,rfl⟩;rw [h] at h1;obtain ⟨x,h2,h3⟩:=List.mem_map.1 h1;rw [<- h3];exact hx x h2
theorem EE (h:ys.map CX.c=xs.map CX.c):gX ys=gX xs:=by rw [Ev,Ev,h]
theorem EY (h:ys.map CX.c=xs.map CX.c):ys.length=xs.length:=by rw [<- List.length_map (f:=CX.c),h,List.length_map]
end
end Go.Proofs.YtkgpoimmniojjaaGreat
