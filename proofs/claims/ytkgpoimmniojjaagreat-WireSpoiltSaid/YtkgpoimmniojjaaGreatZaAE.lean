/- No condition. -/
import Derived.Test.YtkgpoimmniojjaaGreatRows
import Derived.Test.YtkgpoimmniojjaaGreatZaAC
import Derived.BigGuardPart
namespace Go.Proofs.YtkgpoimmniojjaaGreat
set_option linter.unusedVariables false
set_option linter.unusedSimpArgs false
set_option maxRecDepth 100000
set_option maxHeartbeats 16000000
section
open Go.RowKit
variable {w:World} {K N g B:Nat} {P:Program} {f:FuncId} {args:Array Value}
def uW (c:Nat):Bool:=decide (97<=c/\c<=122)
def nS (c:Nat):Bool:=decide (65<=c/\c<=90)
def xL (c:Nat):Bool:=decide (48<=c/\c<=57)
def tI (c:Nat):Bool:=decide (c=9\/c=10\/c=13\/c=32)
def zN (c:Nat):Bool:=decide (32<=c/\c<=126)
def xV (c:Nat):Bool:=tI c || zN c
def nF (c:Nat):Bool:=uW c || nS c || xL c || decide (c=95)
def Is (w:World) (v:Value) (e:Ending) (w':World):Prop:=e=.returned v/\w=w'
def qF (w:World) (e:Ending) (w':World):Prop:=∃ b,e=.returned (.bool b)/\w=w'
theorem mF (c:Nat) (w:World):Calls Tryz.prog 153 #[.int .u8 (c:Int)] w (Is w (.bool (uW c))):=by
 go_enter Tryz.func153,Tryz.ntmps153;go_wp2_with fail
 all_goals
  go_ret;refine ⟨congrArg (fun b=>Ending.returned (Value.bool b)) ?_,rfl⟩;unfold uW;rw [Bool.eq_iff_iff];simp
  try omega
theorem jH (c:Nat) (w:World):Calls Tryz.prog 154 #[.int .u8 (c:Int)] w (Is w (.bool (nS c))):=by
 go_enter Tryz.func154,Tryz.ntmps154;go_wp2_with fail
 all_goals
  go_ret;refine ⟨congrArg (fun b=>Ending.returned (Value.bool b)) ?_,rfl⟩;unfold nS;rw [Bool.eq_iff_iff];simp
  try omega
theorem rJ (c:Nat) (w:World):Calls Tryz.prog 152 #[.int .u8 (c:Int)] w (Is w (.bool (xL c))):=by
 go_enter Tryz.func152,Tryz.ntmps152;go_wp2_with fail
 all_goals
  go_ret;refine ⟨congrArg (fun b=>Ending.returned (Value.bool b)) ?_,rfl⟩;unfold xL;rw [Bool.eq_iff_iff];simp
  try omega
theorem lX (c:Nat) (w:World):Calls Tryz.prog 149 #[.int .u8 (c:Int)] w (Is w (.bool (tI c))):=by
 go_enter Tryz.func149,Tryz.ntmps149;go_wp2_with fail
 all_goals
  go_ret;refine ⟨congrArg (fun b=>Ending.returned (Value.bool b)) ?_,rfl⟩;unfold tI;rw [Bool.eq_iff_iff];simp
  try omega
theorem mW (c:Nat) (w:World):Calls Tryz.prog 151 #[.int .u8 (c:Int)] w (Is w (.bool (zN c))):=by
 go_enter Tryz.func151,Tryz.ntmps151;go_wp2_with fail
 all_goals
  go_ret;refine ⟨congrArg (fun b=>Ending.returned (Value.bool b)) ?_,rfl⟩;unfold zN;rw [Bool.eq_iff_iff];simp
  try omega
def BP (a b c d:Int):Bool:=decide (a < c) || (decide (a=c) && decide (b < d))
theorem mM (a b c d:Int) (w:World):Calls Tryz.prog 101 #[.int .i64 a,.int .i64 b,.int .i64 c,.int .i64 d] w (Is w (.bool (BP a b c d))):=by
 go_enter Tryz.func101,Tryz.ntmps101;go_wp2_with fail
 all_goals
  go_ret;refine ⟨congrArg (fun b=>Ending.returned (Value.bool b)) ?_,rfl⟩;unfold BP;rw [Bool.eq_iff_iff];simp
  try omega
def yQ (a:Int):Bool:=decide (1048576 < a) && decide (a < 34603008) && decide (a % 1048576≠0)
theorem dX (a:Int) (w:World):Calls Tryz.prog 102 #[.int .i64 a] w (Is w (.bool (yQ a))):=by
 go_enter Tryz.func102,Tryz.ntmps102;go_wp2_with fail
 all_goals
  go_ret;refine ⟨congrArg (fun b=>Ending.returned (Value.bool b)) ?_,rfl⟩;unfold yQ;rw [Bool.eq_iff_iff];simp
  try omega
def C9 (a:Int):Bool:=(decide (1<=a) && decide (a<=4)) || (decide (8<=a) && decide (a < 48))
theorem vB (a:Int) (w:World):Calls Tryz.prog 104 #[.int .i64 a] w (Is w (.bool (C9 a))):=by
 go_enter Tryz.func104,Tryz.ntmps104;go_wp2_with fail
 all_goals
  go_ret;refine ⟨congrArg (fun b=>Ending.returned (Value.bool b)) ?_,rfl⟩;unfold C9;rw [Bool.eq_iff_iff];simp
  try omega
def Gv (w:World) (v:Value) (e:Ending) (w':World):Prop:=e=.returned v/\Below w.heap.size w w'
def Dc (a b a' b':Int):Bool:=decide (a=a') && decide (b=b')
theorem sC (a b n r a' b' n' r':Int) (f f':Bool) (s s':ByteArray) (w:World):Calls Tryz.prog 172 #[.agg #[.int .i64 a,.int .i64 b,.int .i64 n,.bool f,.string s,.int .i64 r],.agg #[.int .i64 a',.int .i64 b',.int .i64 n',.bool f',.string s',.int .i64 r']] w (Gv w (.bool (Dc a b a' b'))):=by
 go_enter Tryz.func172,Tryz.ntmps172;go_wp2_with fail
 all_goals
  go_ret;refine ⟨congrArg (fun b=>Ending.returned (Value.bool b)) ?_,by repeat (first | exact Below.refl _ _ | refine bK ?_ _ | refine cC ?_)⟩;unfold Dc;rw [Bool.eq_iff_iff];simp
  try omega
def yW (a b a' b':Int):Bool:=if a≠a' then decide (a < a') else decide (b < b')
theorem nE (a b n r a' b' n' r':Int) (f f':Bool) (s s':ByteArray) (w:World):Calls Tryz.prog 171 #[.agg #[.int .i64 a,.int .i64 b,.int .i64 n,.bool f,.string s,.int .i64 r],.agg #[.int .i64 a',.int .i64 b',.int .i64 n',.bool f',.string s',.int .i64 r']] w (Gv w (.bool (yW a b a' b'))):=by
 go_enter Tryz.func171,Tryz.ntmps171;go_wp2_with fail
 all_goals
  go_ret;refine ⟨congrArg (fun b=>Ending.returned (Value.bool b)) ?_,by repeat (first | exact Below.refl _ _ | refine bK ?_ _ | refine cC ?_)⟩;unfold yW;rw [Bool.eq_iff_iff]
  split <;> simp_all <;> omega
theorem xG {x:jS w} {v:Value} (h:Calls P f args x.nx (Is x.nx v)):Calls P f args x.nx (fun e w''=>e=.returned v/\∃ y:jS w,w''=y.nx):=
 h.mono fun e w'' ⟨he,hw⟩=>⟨he,x,hw.symm⟩
theorem sR {x:jS w} {v:Value} (h:Calls P f args x.nx (Gv x.nx v)):Calls P f args x.nx (fun e w''=>e=.returned v/\∃ y:jS w,w''=y.nx):=
 h.mono fun e w'' ⟨he,hb⟩=>⟨he,⟨w'',x.bel.trans (hb.mono x.bel.size)⟩,rfl⟩
theorem aH {p:Addr} {u:Value} (h:w.cell? p=some u) (x:jS w):x.nx.cell? p=some u:=
 (x.bel.cell (World.block_lt_of_cell? w _ h)).trans h
theorem dK {fn:Func} {p u:Tmp} {ty:TypeId} (h:fn.results=#[.cell p ty,.tmp u]) (tmps:Array Value) (w:World) (g:Nat) (t:TypeId) (cs:Array Value) (fr:Nat × Nat) (d:TypeDesc)
  (hp:tmps.getD p undef=.pointer (some ⟨g,0,none⟩)) (hg:w.heap[g]?=some (.cells cs t fr))
  (hu:P.underlying ty=some d) (hd:(match d with | .struct _ | .array _ _=>true | _=>false)=true) (hi:(P.info? ty).map (·.size)=some cs.size):
  (results fn tmps).run P w=.ok (.tuple #[.agg cs,tmps.getD u undef]) w:=by
 have hp':tmps[p]?.getD undef=.pointer (some ⟨g,0,none⟩):=by simpa using hp
 simp [results,h,hp',asAddr,run_loadVar_row w g t ty cs fr d hg hu hd hi,Result.andThen]
theorem aK.val4 {t:TypeId} {a b c d:Value} (h:aK w g t #[a,b,c,d]) (a' b' c' d':Value):aK ((((w.setCell ⟨g,0,none⟩ a').setCell ⟨g,1,none⟩ b').setCell ⟨g,2,none⟩ c').setCell ⟨g,3,none⟩ d') g t #[a',b',c',d']:=
 (((h.set_ 0 a').set_ 1 b').set_ 2 c').set_ 3 d'
theorem aL {w2:World} (h:Below w.heap.size w w2) (hg:w.heap.size<=g) (a b c d:Value):Below w.heap.size w ((((w2.setCell ⟨g,0,none⟩ a).setCell ⟨g,1,none⟩ b).setCell ⟨g,2,none⟩ c).setCell ⟨g,3,none⟩ d):=
 (((h.setCell hg a).setCell hg b).setCell hg c).setCell hg d
theorem aK.new1 (w:World) (o:Obj) (t:TypeId) (cs:Array Value):aK ((w.alloc o).alloc (.cells cs t)) (w.heap.size+1) t cs:=by
 have:=aK.new (w.alloc o) t cs;rwa [show (w.alloc o).heap.size=w.heap.size+1 by simp] at this
theorem aK.new2 (w:World) (o o':Obj) (t:TypeId) (cs:Array Value):aK (((w.alloc o).alloc o').alloc (.cells cs t)) (w.heap.size+1+1) t cs:=by
 have:=aK.new ((w.alloc o).alloc o') t cs;rwa [show ((w.alloc o).alloc o').heap.size=w.heap.size+1+1 by simp] at this
theorem xI (a d:Int) (b:Bool) (s:ByteArray) (w:World):(Instr.field 81 (.agg #[.int .i64 a,.bool b,.string s,.int .i64 d]) 3).run Tryz.prog w=.ok (.int .i64 d) w:=by kernel_rfl
theorem Ab (z m:Int) (h0:0 < m):(z % m=if z.tmod m < 0 then z.tmod m+m else z.tmod m)/\-m < z.tmod m/\z.tmod m < m:=by
 have h1:=Int.tmod_lt_of_pos z h0;have h2:-m < z.tmod m:=by
  have h3:=Int.lt_tmod_of_pos z h0;omega
 refine ⟨?_,h2,h1⟩;rw [Int.tmod_eq_emod];have h4:=Int.emod_nonneg z (show m≠0 by omega);have h5:=Int.emod_lt_of_pos z h0;have h6:((m.natAbs:Nat):Int)=m:=Int.natAbs_of_nonneg (by omega)
 split <;> split <;> omega
def nJ (z n:Int):Int:=if n < 1 then 0 else z % n
theorem gA (z n:Int):0<=nJ z n/\(1<=n->nJ z n < n):=by
 unfold nJ
 split
 ·exact ⟨Int.le_refl _,fun h=>by omega⟩
 ·exact ⟨Int.emod_nonneg _ (by omega),fun h=>Int.emod_lt_of_pos _ (by omega)⟩
theorem dM (z m:Int) (w:World) (hm:m<=1000000000000):Calls Tryz.prog 9 #[.int .i64 z,.int .i64 m] w (Is w (.int .i64 (nJ z m))):=by
 unfold nJ;by_cases h1:m < 1
 ·rw [if_pos h1];go_enter Tryz.func9,Tryz.ntmps9;go_wp2_with fail;go_ret;exact ⟨rfl,rfl⟩
 rw [if_neg h1];have h0:0 < m:=by omega
 have hne:¬ m=0:=by omega
 have hne':(m == 0)=false:=by simpa using hne
 obtain ⟨ht,hr1,hr2⟩:=Ab z m h0;obtain ⟨r,hr⟩:=nm (z % m);obtain ⟨q,hq⟩:=nm (z.tmod m);rw [hr] at ht ⊢;rw [hq] at ht hr1 hr2;clear hr;by_cases hneg:q < 0
 ·rw [if_pos hneg] at ht;subst ht;go_enter Tryz.func9,Tryz.ntmps9;go_wp2_with fail;go_ret;refine ⟨congrArg (fun b=>Ending.returned (Value.int .i64 b)) ?_,rfl⟩;have h9:=Int.emod_eq_of_lt (show 0<=q+m by omega) (show q+m < m by omega)
  first | (rw [Int.add_emod_right] at h9;simpa using h9) | (rw [Int.add_emod_self] at h9;simpa using h9)
 ·rw [if_neg hneg] at ht;subst ht;go_enter Tryz.func9,Tryz.ntmps9;go_wp2_with fail;go_ret;refine ⟨congrArg (fun b=>Ending.returned (Value.int .i64 b)) ?_,rfl⟩;have:=Int.emod_eq_of_lt (by omega) hr2;simpa using this
theorem Dg:cN Tryz.prog 3 1 8:=eC (by kernel_rfl)
theorem rN:cN Tryz.prog 83 6 56:=eC (by kernel_rfl)
theorem Ei:cN Tryz.prog 152 5 48:=eC (by kernel_rfl)
theorem D3:cN Tryz.prog 154 3 40:=eC (by kernel_rfl)
theorem Eh:cN Tryz.prog 39 5 96:=eC (by kernel_rfl)
theorem DV:cN Tryz.prog 9 1 16:=eC (by kernel_rfl)
theorem CP:∃ e',Tryz.prog.underlying 36=some (.slice e'):=⟨_,Tryz.underlying36⟩
theorem lY:∃ e',Tryz.prog.underlying 37=some (.slice e'):=⟨_,Tryz.underlying37⟩
theorem D0:∃ e',Tryz.prog.underlying 148=some (.slice e'):=⟨_,Tryz.underlying148⟩
theorem CV:∃ e',Tryz.prog.underlying 69=some (.slice e'):=⟨_,Tryz.underlying69⟩
theorem Dz:∃ e',Tryz.prog.underlying 23=some (.slice e'):=⟨_,Tryz.underlying23⟩
theorem bJ {z0 z1 z2 z5:Int} {b3:Bool} {s4:ByteArray} (h0:aO z0) (h1:aO z1) (h2:aO z2) (h4:s4.size<=K) (h5:aO z5):Ts w B (aQ K) [.int .i64 z0,.int .i64 z1,.int .i64 z2,.bool b3,.string s4,.int .i64 z5]:=by
 refine nU (by simp) (fun i u t hu ht=>?_);have hi:=(List.getElem?_eq_some_iff.1 hu).1
 match i,hi with
 | 0,_=>cases hu;cases ht;exact .int _ h0
 | 1,_=>cases hu;cases ht;exact .int _ h1
 | 2,_=>cases hu;cases ht;exact .int _ h2
 | 3,_=>cases hu;cases ht;exact .bool _
 | 4,_=>cases hu;cases ht;exact .str _ _ h4
 | 5,_=>cases hu;cases ht;exact .int _ h5
theorem eE {z:Int} (h:aO z):Ts w B [.int] [.int .i64 z]:=by
 refine nU (by simp) (fun i u t hu ht=>?_);have hi:=(List.getElem?_eq_some_iff.1 hu).1
 match i,hi with
 | 0,_=>cases hu;cases ht;exact .int _ h
theorem kI:EK Tryz.prog 3 36 36 [.int] 8:=⟨Dg,Tryz.underlying36,CP,by simp,rfl,by decide⟩
theorem kC (K:Nat):EK Tryz.prog 83 37 37 (aQ K) 56:=⟨rN,Tryz.underlying37,lY,by simp,rfl,by decide⟩
theorem kA (K:Nat):EK Tryz.prog 152 148 148 (fI K) 48:=⟨Ei,Tryz.underlying148,D0,by simp,rfl,by decide⟩
theorem kS (K M:Nat):EK Tryz.prog 154 69 69 (dD K M 152) 40:=⟨D3,Tryz.underlying69,CV,by simp,rfl,by decide⟩
theorem kM (K M N:Nat):EK Tryz.prog 39 23 23 (cL K M N 3 83) 96:=⟨Eh,Tryz.underlying23,Dz,by simp,rfl,by decide⟩
theorem zH (A:Option Addr) (n c:Nat) (w:World) (h:V w w.heap.size (.sl N 83 (aQ K)) (.slice A n c)) (hN:N<=1000000000):
  Calls Tryz.prog 58 #[.slice A n c] w (aV w fun w' v=>V w' w'.heap.size (.sl N 83 (aQ K)) v):=by
 have H:=hD h;have hn:=h.len_le;clear h;go_enter Tryz.func58,Tryz.ntmps58;go_wp2_with fail;go_loopw [3,4] (fun o i wr=>∃ (k m:Nat) (A':Option Addr) (c':Nat),k<=n/\m<=k/\i=.int .i64 (k:Int)/\o=.slice A' m c'/\Hid (aJ wr w.heap.size 83 (aQ K) (.slice A' m c') m)/\Hid (Below w.heap.size w wr)) (fun _ i _=>n - (intOf i).toNat)
 case atStart=>exact ⟨0,0,none,0,Nat.zero_le _,Nat.zero_le _,rfl,rfl,aJ.nil _ _ _ _,Below.refl _ _⟩
 case round=>
  obtain ⟨k,m,A',c',hk,hm,rfl,rfl,HO,HB⟩:=hrel;by_cases hlt:k < n
  ·obtain ⟨b,off,z0,z1,z2,b3,s4,z5,rfl,hb,e0,e1,e2,e3,e4,e5,i0,i1,i2,i4,i5⟩:=(H.out.bel HB.out).cell_at hlt;have HZ:=hD HB.out.size;clear hb;go_wp2_with (at_builtin;refine p1 (kC K) rfl rfl w.heap.size (.slice A' m c') m rfl HO.out 83 _ 1 1 rfl rfl rfl (bJ (by first | assumption | (unfold aO;omega)) (by first | assumption | (unfold aO;omega)) (by first | assumption | (unfold aO;omega)) (by first | assumption | exact Nat.zero_le _) (by first | assumption | (unfold aO;omega))) (by omega) HZ.out ?_)
   all_goals
    first
     | (intro A3 c3 w3 hown3 hg3 hb3;have HO3:=hD hown3;have HB3:=hD (HB.out.trans hb3);clear hown3 hg3 hb3;go_wp2_with fail;go_roundw
        ·exact ⟨k+1,m+1,A3,c3,by omega,by omega,by go_num,rfl,HO3,HB3⟩
        ·simp [intOf];omega)
     | (go_roundw
        ·exact ⟨k+1,m,A',c',by omega,by omega,by go_num,rfl,HO,HB⟩
        ·simp [intOf];omega)
  ·go_wp2_with fail;go_ret;exact ⟨HB.out,_,rfl,(HO.out).v_ (by omega)⟩
theorem rT (A:Option Addr) (n c:Nat) (w:World) (h:V w w.heap.size (.sl N 83 (aQ K)) (.slice A n c)) (hN:N<=1000000000):
  Calls Tryz.prog 160 #[.slice A n c] w (aV w dP):=by
 have H:=hD h;have hn:=h.len_le;clear h;go_enter Tryz.func160,Tryz.ntmps160;go_wp2_with fail;go_loopw [3] (fun i wr=>∃ (k:Nat),k<=n/\i=.int .i64 (k:Int)/\Hid (Below w.heap.size w wr)) (fun i _=>n - (intOf i).toNat)
 case atStart=>exact ⟨0,Nat.zero_le _,rfl,Below.refl _ _⟩
 case round=>
  obtain ⟨k,hk,rfl,HB⟩:=hrel;by_cases hlt:k < n
  ·obtain ⟨b,off,z0,z1,z2,b3,s4,z5,rfl,hb,e0,e1,e2,e3,e4,e5,i0,i1,i2,i4,i5⟩:=(H.out.bel HB.out).cell_at hlt;have f0:=aH e0;have f1:=aH e1;have f2:=aH e2;have f3:=aH e3;have f4:=aH e4;have f5:=aH e5;clear e0 e1 e2 e3 e4 e5 i0 i1 i2 i4 i5 hb;obtain ⟨v,hv⟩:=nm (yQ z0);have HID:Hid (∀ w',Calls Tryz.prog 102 #[.int .i64 z0] w' (Is w' (.bool v))):=fun w'=>hv ▸ dX z0 w';have q1:v=false\/v=true:=by cases v <;> simp
   have q2:decide (z1 < 1)=true\/decide (z1 < 1)=false:=by cases decide (z1 < 1) <;> simp
   have q3:decide (48<=z1)=true\/decide (48<=z1)=false:=by cases decide (48<=z1) <;> simp
   have dk:∀ j:Nat,0 < j->decide (0 < (j:Int))=true:=fun j h=>by simp;omega
   rcases Nat.eq_zero_or_pos k with rfl | hk0
   ·simp only [Nat.zero_mul,Nat.add_zero] at f0 f1 f2 f3 f4 f5;clear hv dk;rcases q1 with rfl | rfl <;> rcases q2 with q2 | q2 <;> rcases q3 with q3 | q3
    all_goals
     first | (exfalso;simp at q2 q3;omega) | skip
    all_goals
     go_wp2_with fail;refine dU (by kernel_rfl) (by kernel_rfl) ?_
     repeat (go_big_quiet_step (first | (with_reducible exact xG (HID.out _))))
     refine wpQuiet_nil ?_;intro w5 hw5;obtain ⟨⟨w5,hb5⟩,rfl⟩:=hw5;have HE:=hD (HB.out.trans (hb5.mono HB.out.size));clear hb5;go_wp2_with fail
     first
      | (go_ret;exact ⟨HE.out,_,rfl,_,rfl⟩)
      | (go_roundw
         ·exact ⟨1,by omega,by go_num,HE⟩
         ·simp [intOf];omega)
   ·obtain ⟨b',off',y0,y1,y2,y3,t4,y5,e9,-,g0,g1,g2,g3,g4,g5,-⟩:=(H.out.bel HB.out).cell_at (k:=k - 1) (by omega);injection e9 with e9;injection e9 with e8 e7;subst e8 e7;have r0:=aH g0;have r1:=aH g1;have r2:=aH g2;have r3:=aH g3;have r4:=aH g4;have r5:=aH g5;obtain ⟨v2,hv2⟩:=nm (yW y0 y1 z0 z1);have HAH:Hid (∀ w',Calls Tryz.prog 171 #[.agg #[.int .i64 y0,.int .i64 y1,.int .i64 y2,.bool y3,.string t4,.int .i64 y5],.agg #[.int .i64 z0,.int .i64 z1,.int .i64 z2,.bool b3,.string s4,.int .i64 z5]] w' (Gv w' (.bool v2))):=fun w'=>hv2 ▸ nE _ _ _ _ _ _ _ _ _ _ _ _ w';clear g0 g1 g2 g3 g4 g5 hv hv2;have dk1:=dk k hk0;clear dk;have q4:v2=false\/v2=true:=by cases v2 <;> simp
    rcases q1 with rfl | rfl <;> rcases q2 with q2 | q2 <;> rcases q3 with q3 | q3 <;> rcases q4 with rfl | rfl
    all_goals
     first | (exfalso;simp at q2 q3;omega) | skip
    all_goals
     go_wp2_with fail;refine dU (by kernel_rfl) (by kernel_rfl) ?_
     repeat (go_big_quiet_step (first | (with_reducible exact xG (HID.out _)) | (with_reducible exact sR (HAH.out _))))
     refine wpQuiet_nil ?_;intro w5 hw5;obtain ⟨⟨w5,hb5⟩,rfl⟩:=hw5;have HE:=hD (HB.out.trans (hb5.mono HB.out.size));clear hb5;go_wp2_with fail
     first
      | (go_ret;exact ⟨HE.out,_,rfl,_,rfl⟩)
      | (go_roundw
         ·exact ⟨k+1,by omega,by go_num,HE⟩
         ·simp [intOf];omega)
  ·go_wp2_with fail;go_ret;exact ⟨HB.out,_,rfl,_,rfl⟩
theorem tN (A:Option Addr) (n c:Nat) (w:World) (h:V w w.heap.size (.sl N 83 (aQ K)) (.slice A n c)) (hN:N<=1000000000):
  Calls Tryz.prog 139 #[.slice A n c] w (aV w dP):=by
 have H:=hD h;have hn:=h.len_le;have HWR:Hid (∀ w',Below w.heap.size w w'->Calls Tryz.prog 160 #[.slice A n c] w' (aV w' dP)):=fun w' hb=>rT A n c w' (h.up hb) hN;clear h;go_enter Tryz.func139,Tryz.ntmps139;go_wp2_with fail;go_loopw [3] (fun i wr=>∃ (k:Nat),k<=n/\i=.int .i64 (k:Int)/\Hid (Below w.heap.size w wr)) (fun i _=>n - (intOf i).toNat)
 case atStart=>exact ⟨0,Nat.zero_le _,rfl,Below.refl _ _⟩
 case round=>
  obtain ⟨k,hk,rfl,HB⟩:=hrel;by_cases hlt:k < n
  ·obtain ⟨b,off,z0,z1,z2,b3,s4,z5,rfl,hb,e0,e1,e2,e3,e4,e5,i0,i1,i2,i4,i5⟩:=(H.out.bel HB.out).cell_at hlt;clear i0 i1 i2 i4 i5 hb;go_wp2_with fail
   all_goals
    first
     | (go_ret;exact ⟨HB.out,_,rfl,_,rfl⟩)
     | (go_roundw
        ·exact ⟨k+1,by omega,by go_num,HB⟩
        ·simp [intOf];omega)
  ·go_wp2_with fail;refine (HWR.out _ HB.out).mono ?_;rintro e w1 ⟨hb1,v,rfl,b1,rfl⟩;have HE:=hD (aB HB.out hb1);clear hb1;go_wp2_with fail;go_ret;exact ⟨HE.out,_,rfl,_,rfl⟩
theorem uR (A:Option Addr) (n c:Nat) (w:World) (h:V w w.heap.size (.sl N 83 (aQ K)) (.slice A n c)) (hN:N<=1000000000):
  Calls Tryz.prog 79 #[.slice A n c] w (aV w dP):=by
 have H:=hD h;have hn:=h.len_le;clear h;go_enter Tryz.func79,Tryz.ntmps79;go_wp2_with fail;go_loopw [3] (fun i wr=>∃ (k:Nat),i=.int .i64 ((k:Int)+1)/\k<=n/\Hid (Below w.heap.size w wr)) (fun i _=>n+1 - (intOf i).toNat)
 case atStart=>exact ⟨0,by go_num,Nat.zero_le _,Below.refl _ _⟩
 case round=>
  obtain ⟨k,rfl,hk,HB⟩:=hrel;by_cases hlt:k+1 < n
  ·obtain ⟨b,off,z0,z1,z2,b3,s4,z5,rfl,hb,e0,e1,e2,e3,e4,e5,i0,i1,i2,i4,i5⟩:=(H.out.bel HB.out).cell_at hlt;obtain ⟨b',off',y0,y1,y2,y3,t4,y5,e9,-,g0,g1,g2,g3,g4,g5,-⟩:=(H.out.bel HB.out).cell_at (k:=k) (by omega);injection e9 with e9;injection e9 with e8 e7;subst e8 e7;obtain ⟨v,hv⟩:=nm (BP y0 y1 z0 z1);have HAH:Hid (∀ w',Calls Tryz.prog 101 #[.int .i64 y0,.int .i64 y1,.int .i64 z0,.int .i64 z1] w' (Is w' (.bool v))):=fun w'=>hv ▸ mM _ _ _ _ w';clear i0 i1 i2 i4 i5 hb hv;have q:v=false\/v=true:=by cases v <;> simp
   rcases q with rfl | rfl
   all_goals
    go_wp2_with fail;go_quiet (exact eU (HAH.out _));have HE:=hD (lE HB.out nq);go_wp2_with fail
    first
     | (go_ret;exact ⟨HE.out,_,rfl,_,rfl⟩)
     | (go_roundw
        ·exact ⟨k+1,by go_num,by omega,HE⟩
        ·simp [intOf];omega)
  ·go_wp2_with fail;go_ret;exact ⟨HB.out,_,rfl,_,rfl⟩
def sZ (K:Nat) (v:Value):Prop:=∃ n f s r,v=.agg #[.int .i64 n,.bool f,.string s,.int .i64 r]/\aO n/\s.size<=K/\aO r
def Dm (K:Nat) (w:World) (v:Value):Prop:=∃ n f s r b,v=.tuple #[.agg #[.int .i64 n,.bool f,.string s,.int .i64 r],.bool b]/\aO n/\s.size<=K/\aO r
theorem mQ (A:Option Addr) (n c:Nat) (id fd:Int) (w:World) (h:V w w.heap.size (.sl N 83 (aQ K)) (.slice A n c)) (hN:N<=1000000000):
  Calls Tryz.prog 105 #[.slice A n c,.int .i64 id,.int .i64 fd] w (aV w (Dm K)):=by
 obtain ⟨W,hW⟩:=nm (w.alloc (.cells #[.int .i64 0,.bool false,.string ⟨#[]⟩,.int .i64 0] 81));have HX:=bk hW;have HBW:=bw hW;have H:=hD (h.bel HBW.out);have hn:=h.len_le;clear h;go_enter Tryz.func105,Tryz.ntmps105;go_wp2_with fail;have HW:=hD hW;clear hW;go_loopw [8] (fun i wr=>∃ (k:Nat),i=.int .i64 ((k:Int) - 1)/\k<=n/\Hid (Below W.heap.size W wr)) (fun i _=>(intOf i+1).toNat)
 case atStart=>exact ⟨n,by go_num,Nat.le_refl _,Below.refl _ _⟩
 case round=>
  obtain ⟨k,rfl,hk,HB⟩:=hrel;have HB2:=hD (HBW.out.trans (HB.out.mono HBW.out.size));have HX2:Hid (aK wr w.heap.size 81 #[.int .i64 0,.bool false,.string ⟨#[]⟩,.int .i64 0]):=HX.out.below HB.out HX.out.lt;obtain ⟨x0,x1,x2,x3⟩:=HX2.out.f4;obtain ⟨y0,y1,y2,y3⟩:=HX2.out.c4;rcases k with _ | k
  ·go_wp2_with fail;refine bodyPost_ret (dK (P:=Tryz.prog) rfl _ _ w.heap.size 81 #[.int .i64 0,.bool false,.string ⟨#[]⟩,.int .i64 0] (0,0) _ rfl (HX2.out.val4 (.int .i64 0) (.bool false) (.string ⟨#[]⟩) (.int .i64 0)) Tryz.underlying81 rfl (by kernel_rfl)) rfl ?_;exact ⟨aL HB2.out (Nat.le_refl _) _ _ _ _,_,rfl,_,_,_,_,_,rfl,by unfold aO;omega,Nat.zero_le _,by unfold aO;omega⟩
  ·have hlt:k < n:=by omega
   obtain ⟨b,off,z0,z1,z2,b3,s4,z5,rfl,hb,e0,e1,e2,e3,e4,e5,i0,i1,i2,i4,i5⟩:=(H.out.bel (HB.out.mono HBW.out.size)).cell_at hlt;have FM:=hD (HX2.out.val4 (.int .i64 z2) (.bool b3) (.string s4) (.int .i64 z5));have HV:Hid (aO z2/\s4.size<=K/\aO z5):=⟨i2,i4,i5⟩;clear hb i0 i1 i2 i4 i5;by_cases hid:z0=id/\z1=fd
   ·obtain ⟨rfl,rfl⟩:=hid;go_wp2_with fail;refine bodyPost_ret (dK (P:=Tryz.prog) rfl _ _ w.heap.size 81 #[.int .i64 z2,.bool b3,.string s4,.int .i64 z5] (0,0) _ rfl FM.out Tryz.underlying81 rfl (by kernel_rfl)) rfl ?_;exact ⟨aL HB2.out (Nat.le_refl _) _ _ _ _,_,rfl,_,_,_,_,_,rfl,HV.out.1,HV.out.2.1,HV.out.2.2⟩
   ·have d:(z0 == id)=false\/((z0 == id)=true/\(z1 == fd)=false):=by
     by_cases h1:z0=id
     ·right;simp [h1];intro e;exact hid ⟨h1,e⟩
     ·left;simpa using h1
    clear hid;rcases d with d | ⟨d,d'⟩
    all_goals
     go_wp2_with fail;go_roundw
     ·exact ⟨k,by go_num,by omega,HB⟩
     ·simp [intOf]
end
end Go.Proofs.YtkgpoimmniojjaaGreat
