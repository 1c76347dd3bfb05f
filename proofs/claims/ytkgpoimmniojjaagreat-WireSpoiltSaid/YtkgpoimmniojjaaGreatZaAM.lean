/- No condition. -/
import Derived.Test.YtkgpoimmniojjaaGreatRows
import Derived.Test.YtkgpoimmniojjaaGreatZaAI
import Derived.Test.YtkgpoimmniojjaaGreatZaAC
import Derived.WalkKit
import Derived.WalkSpells
import Derived.WalkLawsBesides
import Derived.Outline
import Derived.BigQuiet
import Derived.KernelRfl
import Derived.Deep.DeepCutAuto
import Derived.Deep.RegionHeld3
import Derived.Deep.RegionLaw
import Derived.Test.YtkgpoimmniojjaaGreatZaAL
import Derived.Test.YtkgpoimmniojjaaGreatZaAE
import Derived.Test.YtkgpoimmniojjaaGreatZaAD
import Derived.Test.YtkgpoimmniojjaaGreatZaAK
import Derived.Deep.CutBlock
import Derived.Test.YtkgpoimmniojjaaGreatZaAF
namespace Go.Proofs.YtkgpoimmniojjaaGreat
set_option linter.unusedVariables false
set_option linter.unusedSimpArgs false
set_option maxRecDepth 100000
set_option maxHeartbeats 16000000
section
open Go.ChangeShapes Go.WideShapes Go.ChangeAt Go.RowKit Go.Deep
inductive T where
 | node (kind:Int) (text:ByteArray) (leads:List ByteArray) (kids:List T)
def T.kids:T->List T
 | .node _ _ _ ks=>ks
def T.kind:T->Int
 | .node k _ _ _=>k
def T.text:T->ByteArray
 | .node _ s _ _=>s
def T.leads:T->List ByteArray
 | .node _ _ l _=>l
mutual
def T.size:T->Nat
 | .node _ _ _ ks=>1+T.sizes ks
def T.sizes:List T->Nat
 | []=>0
 | k::ks=>T.size k+T.sizes ks
end
mutual
def T.dW:T->Int
 | .node _ _ _ ks=>wrap64 (T.dWs ks+1)
def T.dWs:List T->Int
 | []=>0
 | k::ks=>max (T.dW k) (T.dWs ks)
end
inductive TX where
 | node (kind:Int) (text:ByteArray) (lA:Option Addr) (leads:List ByteArray) (lc:Nat) (kA:Option Addr) (kids:List TX) (kc:Nat)
instance:Inhabited TX:=⟨.node 0 ByteArray.empty none [] 0 none [] 0⟩
mutual
def TX.plain:TX->T
 | .node kind text _ leads _ _ kids _=>.node kind text leads (TX.plains kids)
def TX.plains:List TX->List T
 | []=>[]
 | k::ks=>TX.plain k::TX.plains ks
end
theorem TX.plains_map (l:List TX):TX.plains l=l.map TX.plain:=by
 induction l with
 | nil=>rw [TX.plains];rfl
 | cons k ks ih=>rw [TX.plains,ih];rfl
theorem T.sizes_append (a b:List T):T.sizes (a++b)=T.sizes a+T.sizes b:=by
 induction a with
 | nil=>rw [List.nil_append,T.sizes];omega
 | cons k ks ih=>rw [List.cons_append,T.sizes,T.sizes,ih];omega
theorem T.dWs_pos (a:List T):0<=T.dWs a:=by
 induction a with
 | nil=>rw [T.dWs];omega
 | cons k ks ih=>rw [T.dWs];omega
theorem T.dWs_append (a b:List T):T.dWs (a++b)=max (T.dWs a) (T.dWs b):=by
 have hb:=T.dWs_pos b
 induction a with
 | nil=>rw [List.nil_append,T.dWs];omega
 | cons k ks ih=>rw [List.cons_append,T.dWs,T.dWs,ih];omega
def TX.kind:TX->Int | .node k _ _ _ _ _ _ _=>k
def TX.text:TX->ByteArray | .node _ s _ _ _ _ _ _=>s
def TX.lA:TX->Option Addr | .node _ _ a _ _ _ _ _=>a
def TX.leads:TX->List ByteArray | .node _ _ _ l _ _ _ _=>l
def TX.lc:TX->Nat | .node _ _ _ _ c _ _ _=>c
def TX.kA:TX->Option Addr | .node _ _ _ _ _ a _ _=>a
def TX.kids:TX->List TX | .node _ _ _ _ _ _ k _=>k
def TX.kc:TX->Nat | .node _ _ _ _ _ _ _ c=>c
def TX.cells (t:TX):List Value:=[.int .i64 t.kind,.string t.text,.slice t.lA t.leads.length t.lc,.slice t.kA t.kids.length t.kc]
theorem TX.plain_eq (t:TX):t.plain=.node t.kind t.text t.leads (t.kids.map TX.plain):=by
 cases t with
 | node kind text lA leads lc kA kids kc=>rw [TX.plain,TX.plains_map];rfl
theorem TX.cells_len (t:TX):t.cells.length=4:=rfl
theorem TX.ind {P:TX->Prop} (h:∀ t:TX,(∀ k∈t.kids,P k)->P t):∀ t,P t:=by
 exact fun t=>TX.rec (motive_1:=P) (motive_2:=fun l=>∀ k∈l,P k) (fun kind text lA leads lc kA kids kc ih=>h _ ih) (fun k hk=>by cases hk) (fun k ks h1 h2 x hx=>by
  rcases List.mem_cons.1 hx with rfl | hx
  ·exact h1
  ·exact h2 x hx) t
inductive Tr (w:World) (B:Nat):TX->Prop where
 | mk (t:TX) (hk:aG w B 4 t.kA t.kids.length (t.kids.flatMap TX.cells)) (hl:aG w B 1 t.lA t.leads.length (t.leads.map Value.string)) (kb:t.kids.length*72<=140737488351232) (kc:t.kids.length<=t.kc) (lb:t.leads.length*16<=140737488351232) (kr:-9223372036854775808<=t.kind/\t.kind<=9223372036854775807) (sub:∀ k∈t.kids,Tr w B k):Tr w B t
section
variable {w w':World} {B B':Nat} {t:TX}
theorem Tr.rk (h:Tr w B t):aG w B 4 t.kA t.kids.length (t.kids.flatMap TX.cells):=by cases h;assumption
theorem Tr.rl (h:Tr w B t):aG w B 1 t.lA t.leads.length (t.leads.map Value.string):=by cases h;assumption
theorem Tr.kbs (h:Tr w B t):t.kids.length*72<=140737488351232:=by cases h;assumption
theorem Tr.kb (h:Tr w B t):t.kids.length<=140737488351232:=by have:=h.kbs;omega
theorem Tr.lbs (h:Tr w B t):t.leads.length*16<=140737488351232:=by cases h;assumption
theorem Tr.lb (h:Tr w B t):t.leads.length<=140737488351232:=by have:=h.lbs;omega
theorem Tr.kr (h:Tr w B t):-9223372036854775808<=t.kind/\t.kind<=9223372036854775807:=by cases h;assumption
theorem Tr.sub (h:Tr w B t):∀ k∈t.kids,Tr w B k:=by cases h;assumption
theorem Tr.low (h:Tr w B t) (hb:Below B w w'):Tr w' B t:=by
 induction h with
 | mk t hk hl kb kc lb kr sub ih=>exact .mk t (hk.below hb) (hl.below hb) kb kc lb kr (fun k hk=>ih k hk)
theorem Tr.more (h:Tr w B t) (hB:B<=B'):Tr w B' t:=by
 induction h with
 | mk t hk hl kb kc lb kr sub ih=>exact .mk t (hk.more hB) (hl.more hB) kb kc lb kr (fun k hk=>ih k hk)
theorem Tr.up (h:Tr w B t) (hB:B<=w.heap.size) (hb:Below w.heap.size w w'):Tr w' w'.heap.size t:=(h.low (hb.mono hB)).more (Nat.le_trans hB hb.size)
theorem Tr.at_ (h:Tr w B t) {i:Nat} {k:TX} (hi:t.kids[i]?=some k):∃ ab ao,t.kA=some ⟨ab,ao,none⟩/\ab < B/\w.cell? ⟨ab,ao+i*4,none⟩=some (.int .i64 k.kind)/\w.cell? ⟨ab,ao+i*4+1,none⟩=some (.string k.text)/\w.cell? ⟨ab,ao+i*4+2,none⟩=some (.slice k.lA k.leads.length k.lc)/\w.cell? ⟨ab,ao+i*4+3,none⟩=some (.slice k.kA k.kids.length k.kc):=by
 have hkl:=(List.getElem?_eq_some_iff.1 hi).1;obtain ⟨ab,ao,e,hb,hc⟩:=h.rk.head (by omega) (by omega);refine ⟨ab,ao,e,hb,?_,?_,?_,?_⟩
 ·exact hc (i*4) _ (dN TX.cells_len t.kids i 0 k hi (by omega))
 ·have:=hc (i*4+1) _ (dN TX.cells_len t.kids i 1 k hi (by omega));rwa [<- Nat.add_assoc] at this
 ·have:=hc (i*4+2) _ (dN TX.cells_len t.kids i 2 k hi (by omega));rwa [<- Nat.add_assoc] at this
 ·have:=hc (i*4+3) _ (dN TX.cells_len t.kids i 3 k hi (by omega));rwa [<- Nat.add_assoc] at this
end
def TX.val (t:TX):Value:=.agg #[.int .i64 t.kind,.string t.text,.slice t.lA t.leads.length t.lc,.slice t.kA t.kids.length t.kc]
def TX.arr (t:TX):Array Value:=#[.int .i64 t.kind,.string t.text,.slice t.lA t.leads.length t.lc,.slice t.kA t.kids.length t.kc]
end
section
open Go.RowKit
variable {N K:Nat}
theorem zG (A:Option Addr) (n c:Nat) (w:World) (h:V w w.heap.size (.sl N 83 (aQ K)) (.slice A n c)) (hN:N<=1000000000) (hK:K<=1000000000):
  Calls Tryz.prog 122 #[.agg #[.slice A n c]] w (aV w dP):=by
 obtain ⟨W,hW⟩:=nm (w.alloc (.cells #[.slice A n c] 61));have HX0:=bk hW;have HBW:=bw hW;have HVA:=hD (tN A n c W (h.up HBW.out) hN);have HFI:Hid (∀ k f n s b r w',b.size<=K->Calls Tryz.prog 125 #[.int .i64 k,.int .i64 f,.agg #[.int .i64 n,.bool s,.string b,.int .i64 r]] w' (aV w' dP)):=fun k f n s b r w' hb=>pD k f n s b r w' (Nat.le_trans hb hK);have H:=hD h;have hn:=h.len_le;clear h;have x0:=HX0.out.c1;have HW:=hD hW;clear hW;go_enter Tryz.func122,Tryz.ntmps122;go_wp2_with (rw [HW.out]);refine (HVA.out).mono ?_;rintro e w1 ⟨hb1,v,rfl,r,rfl⟩;have HB1:=hD (aB HBW.out hb1);clear hb1 x0
 cases r
 ·go_wp2_with fail;go_ret;exact ⟨HB1.out,_,rfl,_,rfl⟩
 ·go_wp2_with fail;go_loopw [4,5,6,7] (fun x y z i wr=>∃ (kd:Int) (b1 b2:Bool) (k:Nat),x=.int .i64 kd/\y=.bool b1/\z=.bool b2/\i=.int .i64 (k:Int)/\k<=n/\Hid (Below w.heap.size w wr)) (fun _ _ _ i _=>n - (intOf i).toNat)
  case atStart=>exact ⟨0,false,false,0,rfl,rfl,rfl,rfl,Nat.zero_le _,HB1⟩
  case round=>
   obtain ⟨kd,b1,b2,k,rfl,rfl,rfl,rfl,hk,HB⟩:=hrel;by_cases hlt:k < n
   ·have hlk:k < n:=hlt;go_upto_region 8 with fail;go_cut [34] (fun x wq=>∃ (v:Bool),x=.bool v/\Hid (Below w.heap.size w wq))
    case first=>
     obtain ⟨b,off,z0,z1,z2,zb3,zs4,z5,rfl,-,e0,e1,e2,e3,e4,e5,zi0,zi1,zi2,zi4,zi5⟩:=(H.out.bel HB.out).cell_at (k:=k) (by omega);clear zi0 zi1 zi2 zi4 zi5;rcases Nat.eq_zero_or_pos k with rfl | h0
     ·go_wp2_with fail;go_quiet (fail);have HE:=hD (lE HB.out nq);go_wp2_with fail;go_meet;exact ⟨_,rfl,HE⟩
     ·have d0:((k:Int) == 0)=false:=by simp;omega
      obtain ⟨b',off',y0,y1,y2,yb3,ys4,y5,e9,-,g0,g1,g2,g3,g4,g5,yi0,yi1,yi2,yi4,yi5⟩:=(H.out.bel HB.out).cell_at (k:=k - 1) (by omega);injection e9 with e9;injection e9 with e8 e7;subst e8 e7;clear yi0 yi1 yi2 yi4 yi5;have q:(z0 == y0)=false\/(z0 == y0)=true:=by cases z0 == y0 <;> simp
      rcases q with q | q
      all_goals
       go_wp2_with fail;go_quiet (fail);have HE:=hD (lE HB.out nq);go_wp2_with fail;go_meet;exact ⟨_,rfl,HE⟩
    case rest=>
     obtain ⟨v,rfl,HBd⟩:=hcut;clear HB;go_upto_if 34 with fail;go_cut [4,5,6] (fun x y z wq=>∃ (kd:Int) (b1 b2:Bool),x=.int .i64 kd/\y=.bool b1/\z=.bool b2/\Hid (Below w.heap.size w wq))
     case first=>
      obtain ⟨b,off,z0,z1,z2,zb3,zs4,z5,rfl,-,e0,e1,e2,e3,e4,e5,zi0,zi1,zi2,zi4,zi5⟩:=(H.out.bel HBd.out).cell_at (k:=k) (by omega);clear zi0 zi1 zi2 zi4 zi5
      cases v
      all_goals
       go_wp2_with fail
       all_goals
        first
         | (go_ret;exact ⟨HBd.out,_,rfl,_,rfl⟩)
         | (go_meet;exact ⟨_,_,_,rfl,rfl,rfl,HBd⟩)
     case rest=>
      obtain ⟨kd,b1,b2,rfl,rfl,rfl,HBc⟩:=hcut;clear HBd;obtain ⟨b,off,z0,z1,z2,zb3,zs4,z5,rfl,-,e0,e1,e2,e3,e4,e5,zi0,zi1,zi2,zi4,zi5⟩:=(H.out.bel HBc.out).cell_at (k:=k) (by omega);clear zi0 zi1 zi2 zi5;have HS:=hD zi4;clear zi4;have fe1:=aH e1;have fe2:=aH e2;have fe3:=aH e3;have fe4:=aH e4;have fe5:=aH e5;go_wp2_with fail;refine fW 11 (by kernel_rfl) (by kernel_rfl) (by kernel_rfl) ?_;simp only [List.take_succ_cons,List.take_zero,List.drop_succ_cons,List.drop_zero]
      repeat (go_big_quiet_step (fail))
      refine wpQuiet_nil ?_;refine iZ rfl 125 _ _ rfl Tryz.func125 rfl (by kernel_rfl) #[.int .i64 kd,.int .i64 z1,.agg #[.int .i64 z2,.bool zb3,.string zs4,.int .i64 z5]] (by simp [Act.eval]) (fun v=>∃ z,v=.bool z) ⟨_,false,rfl⟩ (fun x=>(HFI.out _ _ _ _ _ _ x.nx HS.out).mono fun e w6 ⟨hb6,v6,he,z6,hv6⟩=>⟨v6,he,⟨z6,hv6⟩,hb6⟩) ?_;rintro v6 ⟨z6,rfl⟩;simp only [sP]
      repeat (go_big_quiet_step (fail))
      refine wpQuiet_nil ?_;intro w5 hw5;obtain ⟨⟨w5,hb5⟩,rfl⟩:=hw5;have HB5:=hD (aB HBc.out hb5);clear fe1 fe2 fe3 fe4 fe5 e0 e1 e2 e3 e4 e5 hb5
      cases z6
      ·go_wp2_with fail;go_ret;exact ⟨HB5.out,_,rfl,_,rfl⟩
      ·clear HBc;obtain ⟨b',off',y0,y1,y2,yb3,ys4,y5,e9,-,g0,g1,-⟩:=(H.out.bel HB5.out).cell_at (k:=k) (by omega);injection e9 with e9;injection e9 with e8 e7;subst e8 e7;go_upto_region 14 with fail;go_cut [5] (fun y wq=>∃ (b1:Bool),y=.bool b1/\Hid (wq=w5))
       case first=>
        cases b1
        all_goals
         go_wp2_with fail;go_meet;exact ⟨_,rfl,rfl⟩
       case rest=>
       obtain ⟨b1,rfl,HQ⟩:=hcut;have hq:=HQ.out;clear HQ;subst hq;go_upto_region 15 with fail;go_cut [6] (fun y wq=>∃ (b2:Bool),y=.bool b2/\Hid (Below w.heap.size w wq))
       case first=>
        cases b2
        all_goals
         go_wp2_with fail;go_meet;exact ⟨_,rfl,HB5⟩
       case rest=>
        obtain ⟨b2,rfl,HBc⟩:=hcut;clear HB5 g0 g1;by_cases hl:k+1=n
        ·have dl:((k:Int) == (n:Int) - 1)=true:=by simp;omega
         have q5:(kd == 5)=false\/(kd == 5)=true:=by cases kd == 5 <;> simp
         cases b1 <;> cases b2 <;> rcases q5 with q5 | q5
         all_goals
          go_wp2_with fail;go_quiet (fail);have HE:=hD (lE HBc.out nq);go_wp2_with fail
          all_goals
           first
            | (go_ret;exact ⟨HE.out,_,rfl,_,rfl⟩)
            | (go_roundw
               ·exact ⟨_,_,_,k+1,rfl,rfl,rfl,by go_num,by omega,HE⟩
               ·simp [intOf];omega)
            | exact ⟨⟨_,_,_,k+1,rfl,rfl,rfl,by go_num,by omega,HE⟩,by simp [intOf];omega⟩
        ·have dl:((k:Int) == (n:Int) - 1)=false:=by simp;omega
         obtain ⟨b',off',y0,y1,y2,yb3,ys4,y5,e9,-,g0,-⟩:=(H.out.bel HBc.out).cell_at (k:=k) (by omega);injection e9 with e9;injection e9 with e8 e7;subst e8 e7;obtain ⟨b',off',x0,x1,x2,xb3,xs4,x5,e9,-,f0,-⟩:=(H.out.bel HBc.out).cell_at (k:=k+1) (by omega);injection e9 with e9;injection e9 with e8 e7;subst e8 e7;have q:(x0 == y0)=false\/(x0 == y0)=true:=by cases x0 == y0 <;> simp
         have q5:(kd == 5)=false\/(kd == 5)=true:=by cases kd == 5 <;> simp
         cases b1 <;> cases b2 <;> rcases q5 with q5 | q5 <;> rcases q with q | q
         all_goals
          go_wp2_with fail;go_quiet (fail);have HE:=hD (lE HBc.out nq);go_wp2_with fail
          all_goals
           first
            | (go_ret;exact ⟨HE.out,_,rfl,_,rfl⟩)
            | (go_roundw
               ·exact ⟨_,_,_,k+1,rfl,rfl,rfl,by go_num,by omega,HE⟩
               ·simp [intOf];omega)
            | exact ⟨⟨_,_,_,k+1,rfl,rfl,rfl,by go_num,by omega,HE⟩,by simp [intOf];omega⟩
   ·go_wp2_with fail;go_ret;exact ⟨HB.out,_,rfl,_,rfl⟩
theorem AC (A:Option Addr) (n c:Nat) (id:Int) (w:World) (h:V w w.heap.size (.sl N 83 (aQ K)) (.slice A n c)) (hN:N<=1000000000) (hK:K<=1000000000):
  Calls Tryz.prog 99 #[.agg #[.slice A n c],.int .i64 id] w (aV w fun w' v=>V w' w'.heap.size (.sl N 3 [.int]) v):=by
 obtain ⟨W,hW⟩:=nm (w.alloc (.cells #[.slice A n c] 61));have HX0:=bk hW;have HBW:=bw hW;have HSO:=hD (zG A n c W (h.up HBW.out) hN hK);have HVA:Hid (∀ z w',Calls Tryz.prog 102 #[.int .i64 z] w' (Is w' (.bool (yQ z)))):=fun z w'=>dX z w';have HID:Hid (∀ w',Below W.heap.size W w'->Calls Tryz.prog 123 #[.agg #[.slice A n c]] w' (aV w' fun w' v=>V w' w'.heap.size (.sl N 3 [.int]) v)):=fun w' hb=>Ai A n c w' (h.up (aB HBW.out hb)) hN;have HRE:Hid (∀ x y m w',Below W.heap.size W w'->aO m->Calls Tryz.prog 124 #[.agg #[.slice A n c],.int .i64 x,.int .i64 y,.int .i64 m] w' (aV w' dP)):=fun x y m w' hb hm=>uL A n c x y m w' (h.up (aB HBW.out hb)) hN hm;clear h;have x0:=HX0.out.c1;have HW:=hD hW;clear hW;go_enter Tryz.func99,Tryz.ntmps99;go_wp2_with (rw [HW.out]);refine (HSO.out).mono ?_;rintro e w1 ⟨hb1,v,rfl,r,rfl⟩;have HB1:Hid (Below W.heap.size W w1):=hb1;clear hb1 x0
 cases r
 ·go_wp2_with fail;have HE:=hD (HBW.out.trans (HB1.out.mono HBW.out.size));go_ret;exact ⟨HE.out,_,rfl,V.nil _ _ _ _ _⟩
 ·have x0:=(HX0.out.below HB1.out HX0.out.lt).cell 0;simp at x0;go_wp2_with fail;refine (HVA.out _ _).mono ?_;rintro e w2 ⟨rfl,rfl⟩;generalize yQ id=r
  cases r
  ·go_wp2_with fail;have HE:=hD (HBW.out.trans (HB1.out.mono HBW.out.size));go_ret;exact ⟨HE.out,_,rfl,V.nil _ _ _ _ _⟩
  ·go_wp2_with fail;refine (HID.out _ HB1.out).mono ?_;rintro e w2 ⟨hb2,v,rfl,hv⟩;obtain ⟨A2,n2,c2,rfl,hc2,hn2⟩:=hv.sl_inv;have HV:=hD hv;have HB2:=hD (aB HB1.out hb2);clear hb2 hv x0 HB1 HSO HID;go_wp2_with fail;have hsz:Hid (W.heap.size<=w2.heap.size):=HB2.out.size;have HY0:=hD (HX0.out.below HB2.out HX0.out.lt);have HQ:Hid (∀ wr,Below w2.heap.size w2 wr->Below w.heap.size w wr/\wr.cell? ⟨w.heap.size,0,none⟩=some (.slice A n c)):=fun wr hb=>by
    have h1:Below w.heap.size w wr:=HBW.out.trans ((HB2.out.trans (hb.mono hsz.out)).mono HBW.out.size);have h2:=(HY0.out.below hb HY0.out.lt).c1;exact ⟨h1,h2⟩
   have HRE2:Hid (∀ x y m w',Below w2.heap.size w2 w'->aO m->Calls Tryz.prog 124 #[.agg #[.slice A n c],.int .i64 x,.int .i64 y,.int .i64 m] w' (aV w' dP)):=fun x y m w' hb hm=>HRE.out x y m w' (HB2.out.trans (hb.mono hsz.out)) hm;clear HRE HBW;go_loopw [5,7] (fun o i wr=>∃ (k m:Nat) (A':Option Addr) (c':Nat),k<=n2/\m<=k/\i=.int .i64 (k:Int)/\o=.slice A' m c'/\Hid (aJ wr w2.heap.size 3 [.int] (.slice A' m c') m)/\Hid (Below w2.heap.size w2 wr)) (fun _ i _=>n2 - (intOf i).toNat)
   case atStart=>exact ⟨0,0,none,0,Nat.zero_le _,Nat.zero_le _,rfl,rfl,aJ.nil _ _ _ _,Below.refl _ _⟩
   case round=>
    obtain ⟨k,m,A',c',hk,hm,rfl,rfl,HO,HB⟩:=hrel;have HE:Hid (Below w.heap.size w wr):=(HQ.out _ HB.out).1;have x0:=(HQ.out _ HB.out).2;by_cases hlt:k < n2
    ·obtain ⟨b,off,z0,rfl,-,e0,i0⟩:=(HV.out.bel HB.out).int_at hlt;have HI:=hD i0;clear i0;by_cases q:z0=id
     ·subst q;go_wp2_with fail;go_quiet (fail);have HO2:=hD (HO.out.drewN nq);have HB3:Hid (Below w2.heap.size w2 (wr.drewN nq)):=aN HB.out nq;go_wp2_with fail;go_roundw
      case rel=>exact ⟨k+1,m,A',c',by omega,by omega,by go_num,rfl,HO2,HB3⟩
      case measure=>simp [intOf];omega
     ·have q2:(z0 == id)=false:=by simpa using q
      have q3:(z0 != id)=true:=by simpa using q
      have fx0:=aH x0;have fe0:=aH e0;have HRF:Hid (∀ x:jS wr,Calls Tryz.prog 124 #[.agg #[.slice A n c],.int .i64 z0,.int .i64 id,.int .i64 ((n2:Int)+1)] x.nx (aV x.nx dP)):=fun x=>HRE2.out z0 id _ x.nx (aB HB.out x.bel) (by unfold aO;omega);have HEND:Hid (∀ w',Below wr.heap.size wr w'->aJ w' w2.heap.size 3 [.int] (.slice A' m c') m/\Below w2.heap.size w2 w'/\w2.heap.size<=w'.heap.size):=fun w' hb'=>⟨HO.out.up hb',aB HB.out hb',(aB HB.out hb').size⟩;go_wp2_with fail;refine fW 16 (by kernel_rfl) (by kernel_rfl) (by kernel_rfl) ?_;simp only [List.take_succ_cons,List.take_zero,List.drop_succ_cons,List.drop_zero]
      repeat (go_big_quiet_step (fail))
      refine wpQuiet_nil ?_;refine iZ rfl 124 _ _ rfl Tryz.func124 rfl (by kernel_rfl) #[.agg #[.slice A n c],.int .i64 z0,.int .i64 id,.int .i64 ((n2:Int)+1)] (by simp [Act.eval]) (fun v=>∃ z,v=.bool z) ⟨_,false,rfl⟩ (fun x=>(HRF.out x).mono fun e w6 ⟨hb6,v6,he,z6,hv6⟩=>⟨v6,he,⟨z6,hv6⟩,hb6⟩) ?_;rintro v6 ⟨z6,rfl⟩;simp only [sP]
      repeat (go_big_quiet_step (fail))
      refine wpQuiet_nil ?_;intro w5 hw5;obtain ⟨⟨w5,hb5⟩,rfl⟩:=hw5;have HO5:=hD (HEND.out w5 hb5).1;have HB5:=hD (HEND.out w5 hb5).2.1;have HZ5:=hD (HEND.out w5 hb5).2.2;have g0:=fe0 ⟨w5,hb5⟩;simp only at g0;clear fx0 fe0 x0 e0 hb5 HEND HRF
      cases z6
      ·go_wp2_with fail;go_roundw
       case rel=>exact ⟨k+1,m,A',c',by omega,by omega,by go_num,rfl,HO5,HB5⟩
       case measure=>simp [intOf];omega
      ·have i0:=HI.out;go_wp2_with (at_builtin;refine p1 kI rfl rfl w2.heap.size (.slice A' m c') m rfl HO5.out 3 _ 1 1 rfl rfl rfl (eE (by first | assumption | (unfold aO;omega))) (by omega) HZ5.out ?_);intro A3 c3 w3 hown3 hg3 hb3;have HO3:=hD hown3;have HB3:=hD (HB5.out.trans hb3);clear hown3 hg3 hb3;go_wp2_with fail;go_roundw
       case rel=>exact ⟨k+1,m+1,A3,c3,by omega,by omega,by go_num,rfl,HO3,HB3⟩
       case measure=>simp [intOf];omega
    ·have HF:=hD ((HO.out).v_ (N:=N) (by omega));go_wp2_with fail;go_ret;exact ⟨HE.out,_,rfl,HF.out⟩
theorem aJ.fresh (w:World) (e:TypeId) (fs:List Ty) (base:Nat) (hb:base<=w.heap.size) {vals:List Value} {m:Nat} (hl:vals.length=m*fs.length) (hT:Ts w w.heap.size fs vals) (hm:m<=maxLen):
  aJ (w.alloc (.cells vals.toArray e)) base e fs (.slice (some ⟨w.heap.size,0,none⟩) m m) m:=
 ⟨vals,⟨hl,.inr ⟨w.heap.size,m,vals.toArray,rfl,hb,heap_alloc_new w _,Nat.le_refl _,hm,by simpa using hl,by simp [<- hl]⟩⟩,hT.up (bK (Below.refl _ _) _)⟩
theorem of_own (A:Option Addr) (n c:Nat) (id:Int) (w:World) (h:V w w.heap.size (.sl N 83 (aQ K)) (.slice A n c)) (hN:N<=1000000000):
  Calls Tryz.prog 100 #[.slice A n c,.int .i64 id] w (fun e w'=>Below w.heap.size w w'/\∃ A5 n5 c5,e=.returned (.slice A5 n5 c5)/\n5<=N/\aJ w' w.heap.size 83 (aQ K) (.slice A5 n5 c5) n5):=by
 have H:=hD h;have hn:=h.len_le;clear h;go_enter Tryz.func100,Tryz.ntmps100;go_wp2_with fail;go_loopw [5,6] (fun o i wr=>∃ (k m:Nat) (A':Option Addr) (c':Nat),k<=n/\m<=k/\i=.int .i64 (k:Int)/\o=.slice A' m c'/\Hid (aJ wr w.heap.size 83 (aQ K) (.slice A' m c') m)/\Hid (Below w.heap.size w wr)) (fun _ i _=>n - (intOf i).toNat)
 case atStart=>exact ⟨0,0,none,0,Nat.zero_le _,Nat.zero_le _,rfl,rfl,aJ.nil _ _ _ _,Below.refl _ _⟩
 case round=>
  obtain ⟨k,m,A',c',hk,hm,rfl,rfl,HO,HB⟩:=hrel;by_cases hlt:k < n
  ·obtain ⟨b,off,z0,z1,z2,b3,s4,z5,rfl,hb,e0,e1,e2,e3,e4,e5,i0,i1,i2,i4,i5⟩:=(H.out.bel HB.out).cell_at hlt;have HT:=hD (bJ (w:=wr) (B:=wr.heap.size) (b3:=b3) i0 i1 i2 i4 i5);have HZ:=hD HB.out.size;clear i0 i1 i2 i4 i5 hb;by_cases hid:z0=id
   ·subst hid;go_wp2_with (at_builtin;refine p1 (kC K) rfl rfl w.heap.size (.slice A' m c') m rfl HO.out 83 _ 1 1 rfl rfl rfl HT.out (by omega) HZ.out ?_);intro A3 c3 w3 hown3 hg3 hb3;have HO3:=hD hown3;have HB3:=hD (HB.out.trans hb3);clear hown3 hg3 hb3;go_wp2_with fail;go_roundw
    case rel=>exact ⟨k+1,m+1,A3,c3,by omega,by omega,by go_num,rfl,HO3,HB3⟩
    case measure=>simp [intOf];omega
   ·have d:(z0 == id)=false:=by simpa using hid
    go_wp2_with fail;go_roundw
    case rel=>exact ⟨k+1,m,A',c',by omega,by omega,by go_num,rfl,HO,HB⟩
    case measure=>simp [intOf];omega
  ·go_wp2_with fail;go_ret;exact ⟨HB.out,_,_,_,rfl,by omega,HO.out⟩
theorem CK (A:Option Addr) (n c:Nat) (id:Int) (w:World) (h:V w w.heap.size (.sl N 83 (aQ K)) (.slice A n c)) (hN:N<=100000000) (hK:K<=1000000000) (hid:aO id):
  Calls Tryz.prog 76 #[.agg #[.slice A n c],.int .i64 id] w (aV w fun w' v=>V w' w'.heap.size (.sl (12*N) 83 (aQ K)) v):=by
 obtain ⟨W,hW⟩:=nm (w.alloc (.cells #[.slice A n c] 61));have HX0:=bk hW;have HBW:=bw hW;have HBL:Hid (∀ w',Below W.heap.size W w'->Calls Tryz.prog 99 #[.agg #[.slice A n c],.int .i64 id] w' (aV w' fun w' v=>V w' w'.heap.size (.sl N 3 [.int]) v)):=fun w' hb=>AC A n c id w' (h.up (aB HBW.out hb)) (by omega) hK;have HOF:Hid (∀ x w',Below W.heap.size W w'->Calls Tryz.prog 100 #[.slice A n c,.int .i64 x] w' (fun e w2=>Below w'.heap.size w' w2/\∃ A5 n5 c5,e=.returned (.slice A5 n5 c5)/\n5<=N/\aJ w2 w'.heap.size 83 (aQ K) (.slice A5 n5 c5) n5)):=fun x w' hb=>of_own A n c x w' (h.up (aB HBW.out hb)) (by omega);clear h;have p0:=(HX0.out.alloc (.cells #[.int .i64 id] 3)).c1;have HW:=hD hW;clear hW;go_enter Tryz.func76,Tryz.ntmps76;go_wp2_with (rw [HW.out]);(with_reducible refine (HBL.out _ (bK (Below.refl _ _) _)).mono ?_);rintro e w1 ⟨hb1,v,rfl,hv⟩;obtain ⟨A2,n2,c2,rfl,hc2,hn2⟩:=hv.sl_inv;have HN:Hid (aJ w1 W.heap.size 3 [.int] (.slice (some ⟨W.heap.size,0,none⟩) 1 1) 1):=(aJ.fresh W 3 [.int] W.heap.size (Nat.le_refl _) (vals:=[.int .i64 id]) (m:=1) rfl (eE hid) (by unfold maxLen;omega)).up hb1;have HV:=hD hv;have HB1:Hid (Below W.heap.size W w1):=(bK (Below.refl _ _) _).trans (hb1.mono (by simp));have HZ1:=hD HB1.out.size;clear hb1 hv p0;go_wp2_with (at_builtin;refine pV kI rfl rfl W.heap.size (.slice (some ⟨W.heap.size,0,none⟩) 1 1) 1 rfl HN.out _ _ _ A2 n2 c2 rfl HV.out (Nat.le_refl _) (by omega) HZ1.out ?_);intro A3 c3 w3 hown3 hg3 hb3;have HI:=hD (hown3.v_ (N:=1+n2) (Nat.le_refl _))
 have HB3:=hD (HB1.out.trans hb3);have HS3:=hD HB3.out.size;clear hown3 hg3 hb3 HN HV HZ1 HB1;have HQ:Hid (∀ wr,Below w3.heap.size w3 wr->Below w.heap.size w wr/\Below W.heap.size W wr/\wr.cell? ⟨w.heap.size,0,none⟩=some (.slice A n c)):=fun wr hb=>by
  have h1:Below W.heap.size W wr:=HB3.out.trans (hb.mono HS3.out);have h2:=(HX0.out.below h1 HX0.out.lt).c1;exact ⟨HBW.out.trans (h1.mono HBW.out.size),h1,h2⟩
 go_wp2_with fail;go_loopw [6,7] (fun o i wr=>∃ (k m:Nat) (A':Option Addr) (c':Nat),k<=1+n2/\k<=12/\m<=k*N/\i=.int .i64 (k:Int)/\o=.slice A' m c'/\Hid (aJ wr w3.heap.size 83 (aQ K) (.slice A' m c') m)/\Hid (Below w3.heap.size w3 wr)) (fun _ i _=>12 - (intOf i).toNat)
 case atStart=>exact ⟨0,0,none,0,Nat.zero_le _,Nat.zero_le _,Nat.zero_le _,rfl,rfl,aJ.nil _ _ _ _,Below.refl _ _⟩
 case round=>
  obtain ⟨k,m,A',c',hk,hk12,hm,rfl,rfl,HO,HB⟩:=hrel;have HE:Hid (Below w.heap.size w wr):=(HQ.out _ HB.out).1;have x0:=(HQ.out _ HB.out).2.2;have HF:=hD ((HO.out).v_ (N:=12*N) (Nat.le_trans hm (Nat.mul_le_mul_right _ hk12)));by_cases hlt:k < 1+n2
  ·have hltI:(k:Int) < 1+(n2:Int):=by omega
   by_cases hl12:k < 12
   ·obtain ⟨b,off,z0,rfl,-,e0,i0⟩:=(HI.out.bel HB.out).int_at hlt;clear i0;have hmN:m<=12*N:=Nat.le_trans hm (Nat.mul_le_mul_right _ hk12);have hstep:k*N+N=(k+1)*N:=by rw [Nat.add_mul,Nat.one_mul]
    have h12:(k+1)*N<=12*N:=Nat.mul_le_mul_right _ (by omega);have fx0:=aH x0;have fe0:=aH e0;go_upto_region 6 with fail;go_cut [8] (fun x wq=>∃ (A5:Option Addr) (n5 c5:Nat),x=.slice A5 n5 c5/\n5<=N/\Hid (aJ wq wr.heap.size 83 (aQ K) (.slice A5 n5 c5) n5)/\Hid (Below wr.heap.size wr wq))
    case first=>
     go_wp2_with fail;refine oD 6 (by kernel_rfl) (by kernel_rfl) ?_;simp only [List.take_succ_cons,List.take_zero,List.drop_succ_cons,List.drop_zero]
     repeat (go_big_quiet_step (fail))
     refine wpQuiet_nil ?_;refine Bn rfl 100 _ _ rfl Tryz.func100 rfl (by kernel_rfl) #[.slice A n c,.int .i64 z0] (by simp [Act.eval]) (HOF.out z0 wr.drew (cC (HQ.out _ HB.out).2.1)) ?_;rintro e w6 ⟨hb6,A5,n5,c5,rfl,hn5,hown5⟩;have H5:Hid (aJ w6 wr.heap.size 83 (aQ K) (.slice A5 n5 c5) n5):=hown5;have HBX:Hid (Below wr.heap.size wr w6):=(cC (Below.refl _ _)).trans hb6;clear hb6 hown5 fx0 fe0 x0 e0;refine ⟨_,rfl,⟨⟨w6,HBX.out⟩,rfl⟩,?_⟩;simp only [sP];go_wp2_with fail;refine NoPanic.normal ?_;go_wp2_with fail;go_meet;exact ⟨_,_,_,rfl,hn5,H5,HBX⟩
    case rest=>
     obtain ⟨A5,n5,c5,rfl,hn5,H5,HBX⟩:=hcut;have HB6:=hD (HB.out.trans (HBX.out.mono HB.out.size));have HO6:Hid (aJ wc w3.heap.size 83 (aQ K) (.slice A' m c') m):=HO.out.up HBX.out;have HNE:Hid (∀ g,(Value.slice A5 n5 c5).ownBlock=some g->(Value.slice A' m c').ownBlock≠some g):=fun g e1 e2=>by
      have h1:=H5.out.from_ g e1;have h2:=HO.out.lt g e2;omega
     have H5:Hid (aJ wc w3.heap.size 83 (aQ K) (.slice A5 n5 c5) n5):=H5.out.low HB.out.size;clear HBX fx0 fe0 x0 e0 HO HB HE HF;go_wp2_with fail;go_loopw [6,9] (fun o i wq=>∃ (j m:Nat) (A':Option Addr) (c':Nat),j<=n5/\m<=k*N+j/\i=.int .i64 (j:Int)/\o=.slice A' m c'/\Hid (aJ wq w3.heap.size 83 (aQ K) (.slice A' m c') m)/\Hid (aJ wq w3.heap.size 83 (aQ K) (.slice A5 n5 c5) n5)/\Hid (∀ g,(Value.slice A5 n5 c5).ownBlock=some g->(Value.slice A' m c').ownBlock≠some g)/\Hid (Below w3.heap.size w3 wq)) (fun _ i _=>n5 - (intOf i).toNat)
     case atStart=>exact ⟨0,m,A',c',Nat.zero_le _,by omega,rfl,rfl,HO6,H5,HNE,HB6⟩
     case round=>
      clear HO6 H5 HNE HB6;obtain ⟨j,m,A',c',hj,hm,rfl,rfl,HO,H5,HNE,HB⟩:=hrel;by_cases hlj:j < n5
      ·obtain ⟨b,off,z0,z1,z2,b3,s4,z5,rfl,-,e0,e1,e2,e3,e4,e5,i0,i1,i2,i4,i5⟩:=(H5.out.v_ (N:=n5) (Nat.le_refl _)).cell_at hlj;have HT:=hD (bJ (w:=wr) (B:=wr.heap.size) (b3:=b3) i0 i1 i2 i4 i5);have HZ:=hD HB.out.size;clear i0 i1 i2 i4 i5;by_cases q:z1=1
       ·subst q;go_wp2_with fail;go_roundw
        case rel=>exact ⟨j+1,m,A',c',by omega,by omega,by go_num,rfl,HO,H5,HNE,HB⟩
        case measure=>simp [intOf];omega
       ·have q1:(z1 == 1)=false:=by simpa using q
        have q2:(z1 != 1)=true:=by simpa using q
        go_wp2_with (at_builtin;refine p1 (kC K) rfl rfl w3.heap.size (.slice A' m c') m rfl HO.out 83 _ 1 1 rfl rfl rfl HT.out (by omega) HZ.out ?_);intro A7 c7 w7 hown7 hg7 hb7;have HO7:=hD hown7;have HB7:=hD (HB.out.trans hb7);obtain ⟨xs,ho,-⟩:=HO.out.alloc (.cells [Value.int .i64 z0,.int .i64 z1,.int .i64 z2,.bool b3,.string s4,.int .i64 z5].toArray 83);have H57:Hid (aJ w7 w3.heap.size 83 (aQ K) (.slice (some ⟨b,off,none⟩) n5 c5) n5):=(H5.out.alloc _).other hg7 ho rfl HNE.out;have HNE7:Hid (∀ g,(Value.slice (some ⟨b,off,none⟩) n5 c5).ownBlock=some g->(Value.slice A7 (m+1) c7).ownBlock≠some g):=fun g e1 e2=>by
         rcases hg7.own g e2 with h2 | h2
         ·exact HNE.out g e1 h2
         ·have:=H5.out.lt g e1;simp at h2;omega
        clear hown7 hg7 hb7 ho;go_wp2_with fail;go_roundw
        case rel=>exact ⟨j+1,m+1,A7,c7,by omega,by omega,by go_num,rfl,HO7,H57,HNE7,HB7⟩
        case measure=>simp [intOf];omega
      ·go_wp2_with fail;go_roundw
       case rel=>exact ⟨k+1,m,A',c',by omega,by omega,by omega,by go_num,rfl,HO,HB⟩
       case measure=>simp [intOf];omega
   ·go_wp2_with fail
    all_goals
     go_ret;exact ⟨HE.out,_,rfl,HF.out⟩
  ·have hltI:1+(n2:Int)<=(k:Int):=by omega
   go_wp2_with fail
   all_goals
    go_ret;exact ⟨HE.out,_,rfl,HF.out⟩
end
end Go.Proofs.YtkgpoimmniojjaaGreat
