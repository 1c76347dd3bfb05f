/-
  awake: two equal leaves. No condition.
-/
import Derived.Test.YtdabmjcpiblofaaDoorPkM
import Derived.Test.YtdabmjcpiblofaaDoorPkSd
namespace Go.Proofs.YtdabmjcpiblofaaDoor
open Go.RowKit
set_option linter.unusedVariables false

def bE : ByteArray := ⟨#[]⟩
def b1 : ByteArray := ⟨#[49]⟩
def bP : ByteArray := ⟨#[43]⟩
def leafT : T := .node 10 b1 [bE] []
def rootT : T := .node 21 bP [bE] [leafT, leafT]
def leafN : PN := (10, b1, [bE], [])
def rootN : PN := (21, bP, [bE], [0, 0])
theorem ne_lr : leafN ≠ rootN := fun e => by
  injection e with e _
  cases e
theorem awake_puts : T.puts [rootT] [] = ([leafN, rootN], [1]) := by
  have f0 : putN [] leafN = ([leafN], 0) := by unfold putN; rw [findN_none.2 (by simp)]; rfl
  have f1 : putN [leafN] leafN = ([leafN], 0) := by
    unfold putN
    have : findN [leafN] leafN = some 0 := findN_new (l := []) (by simp)
    rw [this]
  have f2 : putN [leafN] rootN = ([leafN, rootN], 1) := by
    unfold putN
    rw [findN_none.2 (by simp; exact fun e => ne_lr e.symm)]
    rfl
  have g0 : T.put leafT [] = ([leafN], 0) := by unfold leafT; rw [T.put, T.puts]; exact f0
  have g1 : T.put leafT [leafN] = ([leafN], 0) := by unfold leafT; rw [T.put, T.puts]; exact f1
  have g2 : T.puts [leafT, leafT] [] = ([leafN], [0, 0]) := by
    rw [T.puts, g0, T.puts, g1, T.puts]; rfl
  have g3 : T.put rootT [] = ([leafN, rootN], 1) := by
    unfold rootT; rw [T.put, g2]; exact f2
  rw [T.puts, g3, T.puts]; rfl
theorem awake_size : T.sizes [rootT] = 3 := by
  unfold rootT leafT
  simp [T.sizes, T.size]
theorem awake_valid : validP [leafN, rootN] [1] := by
  have h := puts_valid (ts := [rootT]) (by rw [awake_size]; omega)
  rw [awake_puts] at h
  exact h
theorem awake_err : errP [leafN, rootN] [1] = 0 := errP_ok ⟨awake_valid.1, awake_valid.2.1⟩ awake_valid.2.2.1
theorem awake_trees : (treesP [leafN, rootN] [1]).length = 1 := by unfold treesP; simp
theorem awake_form : errP [] [0] = 13 := errP_form (fun h => by
  have := h.2 0 (by simp)
  simp at this)
theorem awake_bytes : 4 < (encP [leafN, rootN] [1]).length ∧ (encP [leafN, rootN] [1]).length ≤ 700000000 := by
  have hp : ∀ x : Int, 0 < (encI x).length := fun x => encU_pos _
  have h1 := encP_len [leafN, rootN] [1]
  have e1 : ([leafN, rootN] : List PN).flatMap encN = encN leafN ++ (encN rootN ++ []) := rfl
  rw [e1] at h1
  simp only [List.length_append, List.length_nil] at h1
  have h2 := encN_len leafN
  have h3 := encN_len rootN
  have i1 := fun (n : Int) (h : inI64 n) => encI_len' h
  have t1 := encT_len (s := b1) (by decide)
  have t2 := encT_len (s := bP) (by decide)
  have t3 := encT_len (s := bE) (by decide)
  have z1 : b1.size = 1 := rfl
  have z2 : bP.size = 1 := rfl
  have z3 : bE.size = 0 := rfl
  have l1 := encL_len (l := [0, 0]) (fun x hx => by simp at hx; subst hx; exact ⟨by omega, by omega⟩) (by simp)
  have l2 := encL_len (l := ([] : List Int)) (fun x hx => by cases hx) (by simp)
  have l3 := encL_len (l := [1]) (fun x hx => by simp at hx; subst hx; exact ⟨by omega, by omega⟩) (by simp)
  have k1 := hp leafN.1
  have k2 := hp rootN.1
  have k3 := hp (([leafN, rootN] : List PN).length : Int)
  have k4 := hp (leafN.2.2.1.length : Int)
  have k5 := hp (rootN.2.2.1.length : Int)
  have j1 := i1 leafN.1 ⟨by decide, by decide⟩
  have j2 := i1 rootN.1 ⟨by decide, by decide⟩
  have j3 := i1 (([leafN, rootN] : List PN).length : Int) ⟨by decide, by decide⟩
  have j4 := i1 (leafN.2.2.1.length : Int) ⟨by decide, by decide⟩
  have j5 := i1 (rootN.2.2.1.length : Int) ⟨by decide, by decide⟩
  have s1 : (encT leafN.2.1).length = (encT b1).length := rfl
  have s2 : (encT rootN.2.1).length = (encT bP).length := rfl
  have s3 : (leafN.2.2.1.flatMap encT).length = (encT bE).length := by show ((encT bE) ++ []).length = _; simp
  have s4 : (rootN.2.2.1.flatMap encT).length = (encT bE).length := by show ((encT bE) ++ []).length = _; simp
  have s5 : (encL leafN.2.2.2).length = (encL []).length := rfl
  have s6 : (encL rootN.2.2.2).length = (encL [0, 0]).length := rfl
  simp only [List.length_cons, List.length_nil] at l1 l2 l3
  omega
/-- the leaf, the root in memory -/
def leafX (g : Nat) : TX := .node 10 b1 (some ⟨g, 0, none⟩) [bE] 1 none [] 0
def rootX (g g2 k : Nat) : TX := .node 21 bP (some ⟨g2, 0, none⟩) [bE] 1 (some ⟨k, 0, none⟩) [leafX g, leafX g] 2
theorem bE_leads : (leadsK [bE]).length ≤ 140737488355328 := by
  have e : (leadsK [bE]).length = (leadK bE).length := by unfold leadsK; simp
  rw [e, leadK_len]
  have := Lib.itoa_length_le ((bE.size : Nat) : Int) (by omega) (by show ((0 : Nat) : Int) ≤ _; omega)
  have z : bE.size = 0 := rfl
  omega
theorem leaf_tr {w : World} {g : Nat} (h : Blk w g 9 #[.string bE]) : Tr w w.heap.size (leafX g) :=
  .mk _ Reads.none_ (blk_reads (xs := [.string bE]) h rfl) (by show 0 * 72 ≤ _; omega) (by show 0 ≤ 0; omega) (by show 1 * 16 ≤ _; omega) ⟨by show _ ≤ (10 : Int); omega, by show (10 : Int) ≤ _; omega⟩ (fun k hk => by cases hk)
theorem leaf_fine (g : Nat) : Fine (leafX g) := .mk _ (by show b1.size ≤ _; decide) bE_leads (fun k hk => by cases hk)
theorem root_tr {w : World} {g g2 k : Nat} (h : Blk w g 9 #[.string bE]) (h2 : Blk w g2 9 #[.string bE]) (hk : Blk w k 42 ((leafX g).cells ++ (leafX g).cells).toArray) : Tr w w.heap.size (rootX g g2 k) :=
  .mk _ (blk_reads (size := 4) (n := 2) (xs := (leafX g).cells ++ (leafX g).cells) hk rfl) (blk_reads (xs := [.string bE]) h2 rfl) (by show 2 * 72 ≤ _; omega) (by show 2 ≤ 2; omega) (by show 1 * 16 ≤ _; omega) ⟨by show _ ≤ (21 : Int); omega, by show (21 : Int) ≤ _; omega⟩ (fun x hx => by
    have : x = leafX g := by
      have hx' : x ∈ [leafX g, leafX g] := hx
      simp at hx'
      exact hx'
    rw [this]; exact leaf_tr h)
theorem root_fine (g g2 k : Nat) : Fine (rootX g g2 k) := .mk _ (by show bP.size ≤ _; decide) bE_leads (fun x hx => by
    have : x = leafX g := by
      have hx' : x ∈ [leafX g, leafX g] := hx
      simp at hx'
      exact hx'
    rw [this]; exact leaf_fine g)
theorem root_plain (g g2 k : Nat) : (rootX g g2 k).plain = rootT := by
  rw [TX.plain_eq]
  unfold rootT
  show T.node 21 bP [bE] ([leafX g, leafX g].map TX.plain) = _
  have : (leafX g).plain = leafT := by rw [TX.plain_eq]; rfl
  simp [this]

def TruePost (w : World) (e : Ending) (w' : World) : Prop := e = .returned (.bool true) ∧ Below w.heap.size w w'
set_option maxRecDepth 100000 in
set_option maxHeartbeats 3200000 in
theorem awake_any (w : World) (ht : Tab w) : Calls Tryd.prog 15 #[] w (TruePost w) := by
  obtain ⟨W1, hW1⟩ : ∃ W, w.alloc (.cells #[.string ⟨#[]⟩] 9) = W := ⟨_, rfl⟩
  have q1 : Blk W1 w.heap.size 9 #[.string bE] := by subst hW1; exact Blk.new _ _ _
  have B1 : Below w.heap.size w W1 := by subst hW1; exact bal (Below.refl _ _) _
  obtain ⟨W2, hW2⟩ : ∃ W, W1.alloc (.cells #[.int .i64 10, .string ⟨#[49]⟩, .slice (some ⟨w.heap.size, 0, none⟩) 1 1, .slice none 0 0] 42) = W := ⟨_, rfl⟩
  have q2 : Blk W2 W1.heap.size 42 #[.int .i64 10, .string ⟨#[49]⟩, .slice (some ⟨w.heap.size, 0, none⟩) 1 1, .slice none 0 0] := by subst hW2; exact Blk.new _ _ _
  have q1 : Blk W2 w.heap.size 9 #[.string bE] := by subst hW2; exact q1.alloc _
  have B2 : Below w.heap.size w W2 := by subst hW2; exact bal B1 _
  obtain ⟨W3, hW3⟩ : ∃ W, W2.alloc (.cells #[.string ⟨#[]⟩] 9) = W := ⟨_, rfl⟩
  have q3 : Blk W3 W2.heap.size 9 #[.string bE] := by subst hW3; exact Blk.new _ _ _
  have q2' := q2
  have q2 : Blk W3 W1.heap.size 42 #[.int .i64 10, .string ⟨#[49]⟩, .slice (some ⟨w.heap.size, 0, none⟩) 1 1, .slice none 0 0] := by subst hW3; exact q2.alloc _
  have q1 : Blk W3 w.heap.size 9 #[.string bE] := by subst hW3; exact q1.alloc _
  have B3 : Below w.heap.size w W3 := by subst hW3; exact bal B2 _
  obtain ⟨W4, hW4⟩ : ∃ W, W3.alloc (.cells #[.int .i64 10, .string ⟨#[49]⟩, .slice (some ⟨w.heap.size, 0, none⟩) 1 1, .slice none 0 0, .int .i64 10, .string ⟨#[49]⟩, .slice (some ⟨w.heap.size, 0, none⟩) 1 1, .slice none 0 0] 42) = W := ⟨_, rfl⟩
  have q4 : Blk W4 W3.heap.size 42 ((leafX w.heap.size).cells ++ (leafX w.heap.size).cells).toArray := by subst hW4; exact Blk.new _ _ _
  have q3 : Blk W4 W2.heap.size 9 #[.string bE] := by subst hW4; exact q3.alloc _
  have q1 : Blk W4 w.heap.size 9 #[.string bE] := by subst hW4; exact q1.alloc _
  have B4 : Below w.heap.size w W4 := by subst hW4; exact bal B3 _
  obtain ⟨W5, hW5⟩ : ∃ W, W4.alloc (.cells #[.int .i64 21, .string ⟨#[43]⟩, .slice (some ⟨W2.heap.size, 0, none⟩) 1 1, .slice (some ⟨W3.heap.size, 0, none⟩) 2 2] 42) = W := ⟨_, rfl⟩
  have q5 : Blk W5 W4.heap.size 42 (rootX w.heap.size W2.heap.size W3.heap.size).cells.toArray := by subst hW5; exact Blk.new _ _ _
  have q4 : Blk W5 W3.heap.size 42 ((leafX w.heap.size).cells ++ (leafX w.heap.size).cells).toArray := by subst hW5; exact q4.alloc _
  have q3 : Blk W5 W2.heap.size 9 #[.string bE] := by subst hW5; exact q3.alloc _
  have q1 : Blk W5 w.heap.size 9 #[.string bE] := by subst hW5; exact q1.alloc _
  have B5 : Below w.heap.size w W5 := by subst hW5; exact bal B4 _
  have HLT : Hid (LT W5 (some ⟨W4.heap.size, 0, none⟩) [rootX w.heap.size W2.heap.size W3.heap.size]) := ⟨blk_reads (size := 4) (n := 1) (xs := (rootX w.heap.size W2.heap.size W3.heap.size).cells) q5 rfl, fun t ht => by
    simp at ht
    subst ht
    exact ⟨root_tr q1 q3 q4, root_fine _ _ _⟩⟩
  have HC := Lib.hid (make_any (some ⟨W4.heap.size, 0, none⟩) 1 [rootX w.heap.size W2.heap.size W3.heap.size] W5 HLT.out (by simp only [List.map_cons, List.map_nil]; rw [root_plain, awake_size]; omega) (ht.below B5))
  simp only [List.map_cons, List.map_nil, root_plain, awake_puts, List.length_cons, List.length_nil] at HC
  have d0 := q2'.cell 0
  have d1 := q2'.cell 1
  have d2 := q2'.cell 2
  have d3 := q2'.cell 3
  have f0 := q2.cell 0
  have f1 := q2.cell 1
  have f2 := q2.cell 2
  have f3 := q2.cell 3
  simp at d0 d1 d2 d3 f0 f1 f2 f3
  have hS : W2.setCell ⟨W1.heap.size, 3, none⟩ (.slice none 0 0) = W2 := by
    rw [← hW2]
    exact (World.setCell_alloc_at _ _ _ _ _ rfl).trans rfl
  have z3 := q2'.frozen 3
  have HB5 := Lib.hid B5
  have HT := Lib.hid ht
  clear q1 q2 q2' q3 q4 q5 B1 B2 B3 B4 B5 ht
  go_enter Tryd.func15, Tryd.ntmps15
  go_wp2_with fail
  refine (HC.out).mono ?_
  rintro e w6 ⟨u, rfl, hns, hrs, huk, hb6⟩
  have hup : ((u.ps.length : Int) == 2) = true := by
    have : u.ps.length = 2 := by rw [← u.ns_len, hns]; rfl
    rw [this]; rfl
  have HNS := Lib.hid hns
  have HRS := Lib.hid hrs
  have HB6 : Hid (Below w.heap.size w w6) := HB5.out.trans (hb6.mono HB5.out.size)
  have HU6 := Lib.hid huk
  unfold PkV.val
  obtain ⟨W7, hW7⟩ : ∃ W, w6.alloc (.cells #[.slice u.nA u.ps.length u.nc, .slice u.rA u.rs.length u.rc] 29) = W := ⟨_, rfl⟩
  have HBX7 : Hid (Blk W7 w6.heap.size 29 #[.slice u.nA u.ps.length u.nc, .slice u.rA u.rs.length u.rc]) := by subst hW7; exact Blk.new _ _ _
  have HB67 : Hid (Below w6.heap.size w6 W7) := by subst hW7; exact bal (Below.refl _ _) _
  have HB7 : Hid (Below w.heap.size w W7) := HB6.out.trans (HB67.out.mono HB6.out.size)
  have HC7 := Lib.hid (trees_any u W7 (HU6.out.up (Nat.le_refl _) HB67.out))
  unfold PkV.val at HC7
  have g0 := HBX7.out.cell 0
  have g1 := HBX7.out.cell 1
  simp at g0 g1
  clear hns hrs huk hb6 d0 d1 d2 d3 f0 f1 f2 f3 z3 hS hW1 hW2 hW3 hW4 hW5 HC
  go_wp2_with fail
  refine (HC7.out).mono ?_
  rintro e w8 ⟨A8, c8, ts, rfl, htl, hpl, -, hb8⟩
  have he8 : errP u.ns u.rs = 0 := by rw [HNS.out, HRS.out]; exact awake_err
  have hts : ((ts.length : Int) == 1) = true := by
    have h1 := congrArg List.length (hpl he8)
    rw [HNS.out, HRS.out, awake_trees, List.length_map] at h1
    rw [h1]; rfl
  rw [he8]
  have HB8 : Hid (Below w.heap.size w w8) := HB7.out.trans (hb8.mono HB7.out.size)
  have HB78 := Lib.hid hb8
  obtain ⟨W9, hW9⟩ : ∃ W, w8.alloc (.cells #[.int .i64 0] 3) = W := ⟨_, rfl⟩
  have hq9 : Blk W9 w8.heap.size 3 #[.int .i64 0] := by subst hW9; exact Blk.new _ _ _
  have HB89 : Hid (Below w8.heap.size w8 W9) := by subst hW9; exact bal (Below.refl _ _) _
  have HB9 : Hid (Below w.heap.size w W9) := HB8.out.trans (HB89.out.mono HB8.out.size)
  have HC9 := Lib.hid (trees_any ⟨none, [], 0, some ⟨w8.heap.size, 0, none⟩, [0], 1⟩ W9 ⟨Reads.none_, blk_reads (xs := [.int .i64 0]) hq9 rfl, (fun p hp => by cases hp), by show 0 ≤ _; omega, by show 1 ≤ _; omega, (fun r hr => by simp at hr; subst hr; exact ⟨by omega, by omega⟩)⟩)
  unfold PkV.val at HC9
  simp only [List.length_cons, List.length_nil, Nat.zero_add] at HC9
  clear htl hpl hb8 hq9 he8 hW7
  go_wp2_with fail
  refine (HC9.out).mono ?_
  rintro e w10 ⟨A10, c10, ts10, rfl, -, -, -, hb10⟩
  have he10 : errP (PkV.ns ⟨none, [], 0, some ⟨w8.heap.size, 0, none⟩, [0], 1⟩) [0] = 13 := awake_form
  rw [he10]
  have HB910 := Lib.hid hb10
  have HB10 : Hid (Below w.heap.size w w10) := HB9.out.trans (hb10.mono HB9.out.size)
  have hb710 : Below W7.heap.size W7 w10 := HB78.out.trans ((HB89.out.trans (hb10.mono HB89.out.size)).mono HB78.out.size)
  have HU10 := Lib.hid ((HU6.out.up (Nat.le_refl _) HB67.out).up (Nat.le_refl _) hb710)
  have HBX10 : Hid (Blk w10 w6.heap.size 29 #[.slice u.nA u.ps.length u.nc, .slice u.rA u.rs.length u.rc]) := HBX7.out.below hb710 HBX7.out.lt
  have g0 := HBX10.out.cell 0
  have g1 := HBX10.out.cell 1
  simp at g0 g1
  have HC10 := Lib.hid (valid_any u w10 HU10.out (HT.out.below HB10.out))
  unfold PkV.val at HC10
  have HVT : Hid (validP u.ns u.rs) := by unfold Hid; rw [HNS.out, HRS.out]; exact awake_valid
  clear hb10 he10 hb710 hW9
  go_wp2_with fail
  refine (HC10.out).mono ?_
  rintro e w11 ⟨bv, hbv, rfl, hb11⟩
  obtain rfl : bv = true := hbv.2 HVT.out
  have HB11 : Hid (Below w.heap.size w w11) := HB10.out.trans (hb11.mono HB10.out.size)
  have HU11 := Lib.hid (HU10.out.up (Nat.le_refl _) hb11)
  have HBX11 : Hid (Blk w11 w6.heap.size 29 #[.slice u.nA u.ps.length u.nc, .slice u.rA u.rs.length u.rc]) := HBX10.out.below hb11 HBX10.out.lt
  have g0 := HBX11.out.cell 0
  have g1 := HBX11.out.cell 1
  simp at g0 g1
  have HC11 := Lib.hid (bytes_any u w11 HU11.out (by rw [HNS.out, HRS.out]; exact awake_bytes.2))
  unfold PkV.val at HC11
  have hlen : decide ((4 : Int) < ((encP u.ns u.rs).length : Int)) = true := by
    rw [HNS.out, HRS.out]
    exact decide_eq_true (by have := awake_bytes.1; omega)
  clear hbv hb11
  go_wp2_with fail
  refine (HC11.out).mono ?_
  rintro e w12 ⟨A12, c12, rfl, -, hb12, -⟩
  have HB12 : Hid (Below w.heap.size w w12) := HB11.out.trans (hb12.mono HB11.out.size)
  clear hb12
  go_wp2_with fail
  go_ret
  exact ⟨rfl, HB12.out⟩
end Go.Proofs.YtdabmjcpiblofaaDoor
