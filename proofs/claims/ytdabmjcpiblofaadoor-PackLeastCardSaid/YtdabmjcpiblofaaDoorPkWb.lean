/-
  What the two GetText return, and the bytes that the two Text return. No condition.
-/
import Derived.Test.YtdabmjcpiblofaaDoorPkWa
namespace Go.Proofs.YtdabmjcpiblofaaDoor
open Go.RowKit
set_option linter.unusedVariables false

/-- the text at a position, and the position behind it -/
def textP (bs : List Nat) (p : Nat) : Option (ByteArray × Nat) :=
  match numP bs p with
  | none => none
  | some (n, q) => if n < 0 ∨ (bs.length : Int) - q < n then none else some (str ((bs.drop q).take n.toNat), q + n.toNat)

def TextPost (w : World) (r : Nat) (A : Option Addr) (n c : Nat) (o : Option (ByteArray × Nat)) (e : Ending) (w' : World) : Prop :=
  e = .returned (.string ((o.map (·.1)).getD ByteArray.empty)) ∧ Rd w' r A n c (o.map (·.2)) ∧ w.grownBy w' (some r)

/-- a cut out of the middle -/
theorem Reads.mid {w : World} {B n : Nat} {A : Option Addr} {xs : List Value} (h : Reads w B 1 A n xs) {lo k cap : Nat} (hk : lo + k ≤ n) (hc : n ≤ cap) :
    Reads w B 1 (if cap = lo then A else A.map (·.add lo)) k ((xs.drop lo).take k) := by
  have hx := h.1
  refine ⟨by rw [List.length_take, List.length_drop]; omega, fun hn => ?_⟩
  obtain ⟨ad, rfl, hb, hcell⟩ := h.2 (by omega)
  rw [if_neg (by omega)]
  refine ⟨ad.add lo, rfl, by rw [block_of_add]; exact hb, fun j u hu => ?_⟩
  rw [add_of_add]
  refine hcell _ u ?_
  rw [List.getElem?_take] at hu
  split at hu
  · rw [← hu, List.getElem?_drop]
  · cases hu

set_option maxRecDepth 100000 in
set_option maxHeartbeats 1000000 in
theorem text_bad (r : Nat) (A : Option Addr) (n c : Nat) (z : Int) (w : World) (hb : Blk w r 123 #[.slice A n c, .int .i64 z, .bool true]) :
    Calls Tryd.prog 86 #[.pointer (some ⟨r, 0, none⟩)] w (TextPost w r A n c none) := by
  have H1 := Lib.hid (number_bad r A n c z w hb)
  clear hb
  go_enter Tryd.func86, Tryd.ntmps86
  go_wp2_with fail
  refine (H1.out).mono ?_
  rintro e w1 ⟨rfl, ⟨z1, hb1⟩, hg1⟩
  have c2 := hb1.cell 2
  have f2 := hb1.frozen 2
  simp at c2
  have HB := Lib.hid hb1
  have HG := Lib.hid hg1
  clear hb1 hg1 H1
  go_wp2_with fail
  go_quiet (fail)
  go_wp2_with fail
  go_ret
  exact ⟨rfl, ⟨_, (HB.out.drewN _).set_ 2 _⟩, only_setCell (only_drewN HG.out _) (.inl rfl) _⟩

set_option maxRecDepth 100000 in
set_option maxHeartbeats 1000000 in
theorem text_ok (r : Nat) (A : Option Addr) (n c p : Nat) (bs : List Nat) (w : World) (hb : Blk w r 123 #[.slice A n c, .int .i64 (p : Int), .bool false]) (hp : p ≤ n) (hn : n ≤ 1000000000) (hnc : n ≤ c)
    (hr : Reads w r 1 A n (bs.map byt)) (hbs : ∀ x ∈ bs, x < 256) :
    Calls Tryd.prog 86 #[.pointer (some ⟨r, 0, none⟩)] w (TextPost w r A n c (textP bs p)) := by
  have hl : bs.length = n := by have := hr.1; simpa using this
  have H1 := Lib.hid (number_ok r A n c p bs w hb hp hn hr hbs)
  have hlt := hb.lt
  have HR := Lib.hid hr
  have HS := Lib.hid hbs
  have HL := Lib.hid hl
  clear hr hbs hl hb
  have hnb := numP_bound bs p
  generalize hnum : numP bs p = o at H1 hnb
  rcases o with _ | ⟨x, q⟩
  · have hno : textP bs p = none := by unfold textP; rw [hnum]
    have HN := Lib.hid hno
    clear hno hnum
    go_enter Tryd.func86, Tryd.ntmps86
    go_wp2_with fail
    refine (H1.out).mono ?_
    rintro e w1 ⟨rfl, ⟨z1, hb1⟩, hg1⟩
    have c2 := hb1.cell 2
    have f2 := hb1.frozen 2
    simp at c2
    have HB := Lib.hid hb1
    have HG := Lib.hid hg1
    clear hb1 hg1 H1
    go_wp2_with fail
    go_quiet (fail)
    go_wp2_with fail
    go_ret
    rw [HN.out]
    exact ⟨rfl, ⟨_, (HB.out.drewN _).set_ 2 _⟩, only_setCell (only_drewN HG.out _) (.inl rfl) _⟩
  · obtain ⟨hx1, hx2⟩ := hnb x q rfl
    clear hnb
    by_cases hbad : x < 0 ∨ (bs.length : Int) - q < x
    · have hno : textP bs p = none := by unfold textP; rw [hnum]; simp only; rw [if_pos hbad]
      have HN := Lib.hid hno
      rw [HL.out] at hbad
      clear hno hnum
      have hd : (decide (x < 0) = true) ∨ (decide (x < 0) = false ∧ decide ((n : Int) - q < x) = true) := by simp; omega
      rcases hd with d1 | ⟨d1, d2⟩
      all_goals
        go_enter Tryd.func86, Tryd.ntmps86
        go_wp2_with fail
        refine (H1.out).mono ?_
        rintro e w1 ⟨rfl, ⟨hb1, hq1⟩, hg1⟩
        simp only at hq1
        have c0 := hb1.cell 0
        have c1 := hb1.cell 1
        have c2 := hb1.cell 2
        have f2 := hb1.frozen 2
        simp at c0 c1 c2
        have HB := Lib.hid hb1
        have HG := Lib.hid hg1
        clear hb1 hg1 H1
        go_wp2_with fail
        go_quiet (fail)
        go_wp2_with fail
        go_ret
        rw [HN.out]
        exact ⟨rfl, ⟨_, (HB.out.drewN _).set_ 2 _⟩, only_setCell (only_drewN HG.out _) (.inl rfl) _⟩
    · have hyes : textP bs p = some (str ((bs.drop q).take x.toNat), q + x.toNat) := by unfold textP; rw [hnum]; simp only; rw [if_neg hbad]
      have HY := Lib.hid hyes
      rw [HL.out] at hbad
      clear hyes hnum
      obtain ⟨m, rfl⟩ := Int.eq_ofNat_of_zero_le (show 0 ≤ x by omega)
      have d1 : decide ((m : Int) < 0) = false := by simp
      have d2 : decide ((n : Int) - q < (m : Int)) = false := by simp; omega
      go_enter Tryd.func86, Tryd.ntmps86
      go_wp2_with fail
      refine (H1.out).mono ?_
      rintro e w1 ⟨rfl, ⟨hb1, hq1⟩, hg1⟩
      simp only at hq1
      have c0 := hb1.cell 0
      have c1 := hb1.cell 1
      have c2 := hb1.cell 2
      have f1 := hb1.frozen 1
      simp at c0 c1 c2
      have HB := Lib.hid hb1
      have HG := Lib.hid hg1
      clear hb1 hg1 H1
      go_wp2_with fail
      go_quiet (fail)
      go_wp2_with fail
      obtain ⟨W2, hW2⟩ : ∃ W, W = (w1.drewN nq).setCell ⟨r, 1, none⟩ (.int .i64 ((q : Int) + (m : Int))) := ⟨_, rfl⟩
      rw [← hW2]
      have hb2 : Blk W2 r 123 #[.slice A n c, .int .i64 ((q : Int) + (m : Int)), .bool false] := by rw [hW2]; exact (HB.out.drewN _).set_ 1 _
      have hg2 : w.grownBy W2 (some r) := by rw [hW2]; exact only_setCell (only_drewN HG.out _) (.inl rfl) _
      have hr2 : Reads W2 r 1 A n (bs.map byt) := HR.out.keep (fun p hp => World.cell?_of_block (hg2.block p.block (by omega) (fun e => by injection e; omega)))
      have hcv : ∀ k, (convert 54 9 (.slice (if c = q then A else Option.map (fun x => x.add q) A) m (c - q))).run Tryd.prog (W2.drewN k) = .ok (.string (str ((bs.drop q).take m))) (W2.drewN k) := fun k =>
        run_bytes_str (P := Tryd.prog) (W2.drewN k) 54 9 5 (c - q) Tryd.underlying54 Tryd.underlying5 Tryd.underlying9 (bs := (bs.drop q).take m) (by rw [List.map_take, List.map_drop]; exact (hr2.drewN k).mid (k := m) (by omega) hnc) (fun x hx => HS.out x (List.mem_of_mem_drop (List.mem_of_mem_take hx)))
      have e0 := hb2.cell 0
      have e1 := hb2.cell 1
      simp at e0 e1
      have HB2 := Lib.hid hb2
      have HG2 := Lib.hid hg2
      clear hb2 hg2 hr2 hW2 c0 c1 c2 f1 HB HG
      have s1 : IntKind.i64.wrap ((q : Int) + m - m) = q := by rw [IntKind.wrap_i64]; omega
      have s2 : ((q : Int) + m - m).toNat = q := by omega
      have s3 : ((q : Int) + m).toNat = q + m := by omega
      go_quiet (fail)
      go_wp2_with fail
      all_goals go_ret
      all_goals rw [HY.out]
      all_goals
        have hB := HB2.out.drewN nq
        rw [show ((q : Int) + (m : Int)) = ((q + (m : Int).toNat : Nat) : Int) from by omega] at hB
        first
          | exact ⟨rfl, ⟨hB, by show q + (m : Int).toNat ≤ n; omega⟩, only_drewN HG2.out _⟩
          | (obtain rfl : c = q := by assumption
             exact ⟨rfl, ⟨hB, by show c + (m : Int).toNat ≤ n; omega⟩, only_drewN HG2.out _⟩)

/-- the text at a position that may be none -/
def getT (bs : List Nat) (z : Int) : Option (ByteArray × Nat) := if 0 ≤ z ∧ z ≤ bs.length then textP bs z.toNat else none
def resT : Option (ByteArray × Nat) → Ending
  | some y => .returned (.tuple #[.string y.1, .int .i64 (y.2 : Int), .int .i64 0])
  | none => .returned (.tuple #[.string ByteArray.empty, .int .i64 0, .int .i64 13])
theorem getT_ok {bs : List Nat} {n p : Nat} (hl : bs.length = n) (h : p ≤ n) : getT bs (p : Int) = textP bs p := by
  unfold getT; rw [if_pos ⟨by omega, by omega⟩]; simp
theorem getT_bad {bs : List Nat} {n : Nat} {z : Int} (hl : bs.length = n) (h : z < 0 ∨ (n : Int) < z) : getT bs z = none := by
  unfold getT; rw [if_neg (by omega)]

set_option maxRecDepth 100000 in
set_option maxHeartbeats 400000 in
theorem getText_any (A : Option Addr) (n c : Nat) (z : Int) (bs : List Nat) (w : World) (hn : n ≤ 1000000000) (hnc : n ≤ c) (hr : Reads w w.heap.size 1 A n (bs.map byt)) (hbs : ∀ x ∈ bs, x < 256) :
    Calls Tryd.prog 81 #[.slice A n c, .int .i64 z] w fun e w' => e = resT (getT bs z) ∧ Below w.heap.size w w' := by
  have hl : bs.length = n := by have := hr.1; simpa using this
  by_cases hz : z < 0 ∨ (n : Int) < z
  · rw [getT_bad hl hz]
    have hb := Blk.new w 123 #[.slice A n c, .int .i64 z, .bool true]
    clear hr hbs hl
    go_enter Tryd.func81, Tryd.ntmps81
    go_wp2_with fail
    refine (from_bad A n c z w hz hn).mono ?_
    rintro e w1 ⟨rfl, rfl⟩
    go_wp2_with fail
    refine (text_bad w.heap.size A n c z _ hb).mono ?_
    rintro e w2 ⟨rfl, ⟨z2, hb2⟩, hg2⟩
    have c2 := hb2.cell 2
    simp at c2
    have HG := Lib.hid hg2
    clear hg2 hb2 hb
    go_wp2_with fail
    go_ret3
    exact ⟨rfl, ((Below.refl _ w).alloc (Nat.le_refl _) _).grown HG.out (by simp) (fun k hk => by injection hk; omega)⟩
  · obtain ⟨p, rfl⟩ := Int.eq_ofNat_of_zero_le (show 0 ≤ z by omega)
    have hp : p ≤ n := by omega
    rw [getT_ok hl hp]
    have hb := Blk.new w 123 #[.slice A n c, .int .i64 (p : Int), .bool false]
    have hr2 : Reads (w.alloc (.cells #[.slice A n c, .int .i64 (p : Int), .bool false] 123)) w.heap.size 1 A n (bs.map byt) := hr.alloc (Nat.le_refl _) _
    have HN := Lib.hid (text_ok w.heap.size A n c p bs _ hb hp hn hnc hr2 hbs)
    clear hr hbs hl hr2 hb
    generalize textP bs p = o at HN ⊢
    rcases o with _ | ⟨x, q⟩
    all_goals
      go_enter Tryd.func81, Tryd.ntmps81
      go_wp2_with fail
      refine (from_ok A n c (p : Int) w (by omega) (by omega) hn).mono ?_
      rintro e w1 ⟨rfl, rfl⟩
      go_wp2_with fail
      refine (HN.out).mono ?_
      rintro e w2 ⟨rfl, hrd, hg2⟩
      have HG := Lib.hid (((Below.refl w.heap.size w).alloc (Nat.le_refl _) _).grown hg2 (by simp) (fun k hk => by injection hk; omega))
      clear hg2 HN
    · obtain ⟨z2, hb2⟩ := hrd
      have c2 := hb2.cell 2
      simp at c2
      clear hb2
      go_wp2_with fail
      go_ret3
      exact ⟨rfl, HG.out⟩
    · obtain ⟨hb2, hq⟩ := hrd
      have c1 := hb2.cell 1
      have c2 := hb2.cell 2
      simp at c1 c2
      clear hb2
      go_wp2_with fail
      go_quiet (fail)
      go_wp2_with fail
      go_ret3
      exact ⟨rfl, below_drewN HG.out _⟩

theorem getT_get (bs : List Nat) (z : Int) : getT bs z = match getI bs z with
    | none => none
    | some (n, q) => if n < 0 ∨ (bs.length : Int) - q < n then none else some (str ((bs.drop q).take n.toNat), q + n.toNat) := by
  unfold getT getI
  split
  · rfl
  · rfl
theorem getI_bound {bs : List Nat} {z x : Int} {q : Nat} (h : getI bs z = some (x, q)) : (-9223372036854775808 ≤ x ∧ x ≤ 9223372036854775807) ∧ q ≤ bs.length := by
  unfold getI at h
  split at h
  · rename_i hz
    refine ⟨(numP_bound bs _ x q h).1, numP_le (by omega) h⟩
  · cases h

set_option maxRecDepth 100000 in
set_option maxHeartbeats 1000000 in
theorem refGetText_any (A : Option Addr) (n c : Nat) (z : Int) (bs : List Nat) (w : World) (hn : n ≤ 1000000000) (hnc : n ≤ c) (B : Nat) (hr : Reads w B 1 A n (bs.map byt)) (hbs : ∀ x ∈ bs, x < 256) :
    Calls Tryd.prog 75 #[.slice A n c, .int .i64 z] w fun e w' => e = resT (getT bs z) ∧ w = w' := by
  have hl : bs.length = n := by have := hr.1; simpa using this
  have H1 := Lib.hid (refGetInt_any A n c z bs w hn B hr hbs)
  rw [getT_get]
  have hgb := fun x q => getI_bound (bs := bs) (z := z) (x := x) (q := q)
  generalize getI bs z = o at H1 hgb ⊢
  rcases o with _ | ⟨x, q⟩
  · simp only [resI] at H1
    clear hr hbs hl hgb
    go_enter Tryd.func75, Tryd.ntmps75
    go_wp2_with fail
    refine (H1.out).mono ?_
    rintro e w1 ⟨rfl, rfl⟩
    clear H1
    go_wp2_with fail
    go_ret3
    exact ⟨rfl, rfl⟩
  · simp only [resI] at H1
    obtain ⟨hx1, hx2⟩ := hgb x q rfl
    rw [hl] at hx2
    clear hgb
    simp only
    by_cases hbad : x < 0 ∨ (bs.length : Int) - q < x
    · rw [if_pos hbad]
      rw [hl] at hbad
      have hd : (decide (x < 0) = true) ∨ (decide (x < 0) = false ∧ decide ((n : Int) - q < x) = true) := by simp; omega
      clear hr hbs hl
      rcases hd with d1 | ⟨d1, d2⟩
      all_goals
        go_enter Tryd.func75, Tryd.ntmps75
        go_wp2_with fail
        refine (H1.out).mono ?_
        rintro e w1 ⟨rfl, rfl⟩
        clear H1
        go_wp2_with fail
        go_ret3
        exact ⟨rfl, rfl⟩
    · rw [if_neg hbad]
      rw [hl] at hbad
      obtain ⟨m, rfl⟩ := Int.eq_ofNat_of_zero_le (show 0 ≤ x by omega)
      have d1 : decide ((m : Int) < 0) = false := by simp
      have d2 : decide ((n : Int) - q < (m : Int)) = false := by simp; omega
      have hcv : (convert 54 9 (.slice (if c = q then A else Option.map (fun x => x.add q) A) m (c - q))).run Tryd.prog w = .ok (.string (str ((bs.drop q).take m))) w :=
        run_bytes_str (P := Tryd.prog) w 54 9 5 (c - q) Tryd.underlying54 Tryd.underlying5 Tryd.underlying9 (bs := (bs.drop q).take m) (by rw [List.map_take, List.map_drop]; exact hr.mid (k := m) (by omega) hnc) (fun x hx => hbs x (List.mem_of_mem_drop (List.mem_of_mem_take hx)))
      clear hr hbs hl
      go_enter Tryd.func75, Tryd.ntmps75
      go_wp2_with fail
      refine (H1.out).mono ?_
      rintro e w1 ⟨rfl, rfl⟩
      clear H1
      go_wp2_with fail
      all_goals go_ret3
      all_goals exact ⟨by simp [resT], rfl⟩

set_option maxRecDepth 100000 in
set_option maxHeartbeats 400000 in
theorem wtext_any (A : Option Addr) (n c : Nat) (bs : List Nat) (s : ByteArray) (w : World) (hn : n + s.size ≤ 900000000) (hr : Reads w w.heap.size 1 A n (bs.map byt)) :
    Calls Tryd.prog 52 #[.slice A n c, .string s] w (New w (bs ++ encT s)) := by
  have hl : bs.length = n := by have := hr.1; simpa using this
  have HL := Lib.hid hl
  have HC := Lib.hid (cloneB_any A n c bs w (by omega) hr)
  clear hl hr
  go_enter Tryd.func52, Tryd.ntmps52
  go_wp2_with fail
  refine (HC.out).mono ?_
  rintro e w1 ⟨v1, rfl, hown1, hb1⟩
  have hsz := hb1.size
  have HP := Lib.hid (putText_any w.heap.size bs.length v1 (bs.map byt) s w1 hown1 hsz (by rw [HL.out]; exact hn))
  have HO := Lib.hid hown1
  have HB := Lib.hid hb1
  clear hown1 hb1 HC
  go_wp2_with fail
  refine (HP.out).mono ?_
  intro e w2 h
  have R := put_new HB.out HO.out h
  obtain ⟨v', rfl, -, -⟩ := h
  go_wp2_with fail
  go_ret
  exact R

set_option maxRecDepth 100000 in
set_option maxHeartbeats 400000 in
theorem refText_any (A : Option Addr) (n c : Nat) (bs : List Nat) (s : ByteArray) (w : World) (hn : n + s.size ≤ 900000000) (hr : Reads w w.heap.size 1 A n (bs.map byt)) :
    Calls Tryd.prog 55 #[.slice A n c, .string s] w (New w (bs ++ encT s)) := by
  obtain ⟨i0, hi, hi0, hi1, hi2⟩ := info_parts u8_info
  have hl : bs.length = n := by have := hr.1; simpa using this
  have hlen := encI_nat (n := s.size) (by omega)
  have HC := Lib.hid (refInt_any A n c bs s.size w (by omega) hr (by omega) (by omega))
  clear hr
  go_enter Tryd.func55, Tryd.ntmps55
  go_wp2_with fail
  refine (HC.out).mono ?_
  rintro e w1 ⟨v1, rfl, hown1, hb1⟩
  have hsz := hb1.size
  rw [List.length_append, hl] at hown1
  have HB := Lib.hid hb1
  have HO := Lib.hid hown1
  have HL := Lib.hid hl
  clear hb1 HC hl
  go_wp2_with (at_builtin; refine wpList_append_row _ rfl (.tmp 8) (.tmp 9) 54 9 rfl w.heap.size 5 i0 (.int .u8 0) 1 1 Tryd.underlying54 hi hi0 hi1 hi2 rfl (by decide) _ _ _ rfl hown1 _ s.size (byteCells s) rfl (Src.ofString _ Tryd.underlying9 s) ?c1 ?c2 ?c3 ?_)
  case c1 => unfold maxLen; omega
  case c2 => omega
  case c3 => omega
  intro v2 w2 hown2 hg2
  have R : New w (bs ++ encT s) (.returned v2) w2 := by
    refine ⟨v2, rfl, ?_, HB.out.trans (hg2.below HB.out.size (fun g h => (HO.out.lt g h).1))⟩
    unfold encT
    rw [← List.append_assoc, List.length_append, List.map_append, txt_len, ← txt_cells, List.length_append, HL.out, List.map_append, List.append_assoc]
    exact hown2
  clear hown2 hg2 hown1
  go_wp2_with fail
  go_ret
  exact R
end Go.Proofs.YtdabmjcpiblofaaDoor
