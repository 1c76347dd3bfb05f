/-
  The texts of ids: the program's Format and the reference's. No condition.
-/
import Derived.Test.YtbphdbhlckbecaaDoorIdent
import Derived.Test.YtbphdbhlckbecaaDoorShelf
import Derived.Lib.AppendIntMem
import Derived.WalkSmall
import Derived.Test.YtbphdbhlckbecaaDoorBase
namespace Go.Proofs.YtbphdbhlckbecaaDoor
open Go.RowKit
set_option linter.unusedVariables false

theorem gTab : Tryd.prog.globalNamed "internal/strconv.uint64pow10" = some 0 := by kernel_rfl
/-- the library's table is as its text lays it -/
def Tab (w : World) : Prop := Lib.TabIs Tryd.prog w "internal/strconv.uint64pow10" .u64 Lib.pow10Tab ∧ 0 < w.heap.size
theorem Tab.below {w w' : World} (h : Tab w) (hb : Below w.heap.size w w') : Tab w' := ⟨var?_below hb gTab h.2 h.1, Nat.lt_of_lt_of_le h.2 hb.size⟩

def dec (n : Nat) : ByteArray := ⟨(Lib.decDigits n).toArray⟩

theorem itoa_any (n : Nat) (w : World) (hn : n ≤ 1048576) (ht : Tab w) : Calls Tryd.prog 26 #[.int .i64 (n : Int)] w fun e w' => e = .returned (.string (dec n)) ∧ Below w.heap.size w w' := by
  refine (Tryd.strconv_Itoa (n : Int) (by omega) (by omega) w ht.1).mono ?_
  rintro e w' ⟨rfl, k, os, rfl⟩
  refine ⟨?_, Lib.below_grow _ _ (Nat.le_refl _) _ _⟩
  have e1 : Lib.itoa (n : Int) = Lib.decDigits n := by unfold Lib.itoa; rw [if_neg (by omega), Int.toNat_natCast]
  rw [e1]
  rfl

theorem dec_len (k : Nat) : ∀ n, n < 10 ^ (k + 1) → (Lib.decDigits n).length ≤ k + 1 := by
  induction k with
  | zero => intro n h; rw [Lib.decDigits, dif_pos (by simpa using h)]; simp
  | succ k ih =>
    intro n h
    rw [Lib.decDigits]
    split
    · simp
    · rw [List.length_append]
      have := ih (n / 10) (Nat.div_lt_of_lt_mul (by rw [Nat.mul_comm]; simpa [Nat.pow_succ] using h))
      simp; omega
theorem dec_size {n : Nat} (h : n ≤ 1048576) : (dec n).size ≤ 7 := by
  have h1 := dec_len 6 n (by omega)
  show (Lib.decDigits n).toArray.size ≤ 7
  simpa using h1

/-- the text of the id with a site and a serial -/
def fmtP (s n : Nat) : ByteArray := dec s ++ ⟨#[46]⟩ ++ dec n
def fmtI (id : Int) : ByteArray := if validB id then fmtP (id / 1048576).toNat (id % 1048576).toNat else ByteArray.empty

set_option maxRecDepth 100000 in
set_option maxHeartbeats 400000 in
theorem format_any (id : Int) (w : World) (ht : Tab w) : Calls Tryd.prog 20 #[.int .i64 id] w fun e w' => e = .returned (.string (fmtI id)) ∧ Below w.heap.size w w' := by
  by_cases hv : validB id = true
  case neg =>
    have hv' : validB id = false := by simpa using hv
    have H1 := Lib.hid (valid_any id w)
    have e : fmtI id = ByteArray.empty := by unfold fmtI; rw [hv']; rfl
    rw [hv'] at H1
    rw [e]
    clear hv hv' ht e
    go_enter Tryd.func20, Tryd.ntmps20
    go_wp2_with fail
    refine (H1.out).mono ?_
    rintro e w1 ⟨rfl, rfl⟩
    clear H1
    go_wp2_with fail
    go_ret
    exact ⟨rfl, Below.refl _ _⟩
  obtain ⟨h1, h2, h3⟩ := valid_iff.1 hv
  have H1 := Lib.hid (valid_any id w)
  have H2 := Lib.hid (site_any id w)
  have H3 := fun W => Lib.hid (serial_any id W)
  obtain ⟨s, hs⟩ := Int.eq_ofNat_of_zero_le (show 0 ≤ id / 1048576 by omega)
  obtain ⟨n, hn⟩ := Int.eq_ofNat_of_zero_le (show 0 ≤ id % 1048576 by omega)
  unfold siteI at H2
  unfold serialI at H3
  rw [hv] at H1 H2
  simp only [hv, if_true] at H3
  simp only [if_true] at H2
  rw [hs] at H2
  rw [hn] at H3
  have efm : fmtI id = fmtP s n := by unfold fmtI; rw [hv, hs, hn]; rfl
  rw [efm]
  clear efm
  have d1 := dec_size (n := s) (by omega)
  have d2 := dec_size (n := n) (by omega)
  have hs32 : s ≤ 32 := by omega
  have hn32 : n ≤ 1048575 := by omega
  have HT := Lib.hid ht
  clear hs hn h1 h2 h3 hv ht
  go_enter Tryd.func20, Tryd.ntmps20
  go_wp2_with fail
  refine (H1.out).mono ?_
  rintro e w1 ⟨rfl, rfl⟩
  go_wp2_with fail
  refine (H2.out).mono ?_
  rintro e w1 ⟨rfl, rfl⟩
  clear H1 H2
  go_wp2_with fail
  refine (itoa_any s w (by omega) HT.out).mono ?_
  rintro e w1 ⟨rfl, hb1⟩
  have HT1 := Lib.hid (HT.out.below hb1)
  have HB1 := Lib.hid hb1
  clear hb1 HT
  go_wp2_with fail
  refine ((H3 w1).out).mono ?_
  rintro e w1' ⟨rfl, rfl⟩
  clear H3
  go_wp2_with fail
  refine (itoa_any n w1 (by omega) HT1.out).mono ?_
  rintro e w2 ⟨rfl, hb2⟩
  have HB2 := Lib.hid (HB1.out.trans (hb2.mono HB1.out.size))
  clear hb2 HT1 HB1
  go_wp2_with fail
  go_ret
  exact ⟨rfl, HB2.out⟩

def DecRel (N : Nat) (w : World) (m : Nat) (r : List UInt8) (wr : World) : Prop := Lib.decDigits N = Lib.decDigits m ++ r ∧ r.length ≤ 8 ∧ Below w.heap.size w wr

theorem mk_app (a b : List UInt8) : (⟨a.toArray⟩ : ByteArray) ++ ⟨b.toArray⟩ = ⟨(a ++ b).toArray⟩ := by
  rw [ByteArray.mk_append_mk]

theorem conv1 (w : World) (m : Nat) : (convert 36 9 (.slice (some ⟨w.heap.size, 0, none⟩) 1 1)).run Tryd.prog (w.alloc (.cells #[.int .u8 (48 + (m : Int) % 10)] 5)) = .ok (.string ⟨[UInt8.ofNat (48 + m % 10)].toArray⟩) (w.alloc (.cells #[.int .u8 (48 + (m : Int) % 10)] 5)) := by
  have h := run_bytes_str (P := Tryd.prog) (w.alloc (.cells #[.int .u8 (48 + (m : Int) % 10)] 5)) 36 9 5 (A := some ⟨w.heap.size, 0, none⟩) (n := 1) 1 (bs := [48 + m % 10]) Tryd.underlying36 Tryd.underlying5 Tryd.underlying9
    (B := w.heap.size + 1) ⟨rfl, fun _ => ⟨_, rfl, Nat.lt_succ_self _, fun j u hu => ?_⟩⟩ (fun x hx => by simp at hx; omega)
  · exact h
  · match j, hu with
    | 0, hu =>
      simp at hu
      subst hu
      have hb : (w.alloc (.cells #[.int .u8 (48 + (m : Int) % 10)] 5)).heap[w.heap.size]? = some (.cells #[.int .u8 (48 + (m : Int) % 10)] 5 (0, 0)) := heap_alloc_new w _
      rw [Addr.add_lit, cell_of_row _ _ _ _ 5 (0, 0) hb]
      simp [byt]

set_option maxRecDepth 100000 in
set_option maxHeartbeats 400000 in
theorem decimal_any (N : Nat) (w : World) (hN : N ≤ 1048576) : Calls Tryd.prog 27 #[.int .i64 (N : Int)] w fun e w' => e = .returned (.string (dec N)) ∧ Below w.heap.size w w' := by
  have h0 := dec_len 6 N (by omega)
  have HST : Hid (DecRel N w N [] w) := ⟨by simp, by simp, Below.refl _ _⟩
  go_enter Tryd.func27, Tryd.ntmps27
  go_wp2_with fail
  go_loopw [0, 3] (fun n s wr => ∃ (m : Nat) (r : List UInt8), m ≤ 1048576 ∧ n = .int .i64 (m : Int) ∧ s = .string ⟨r.toArray⟩ ∧ DecRel N w m r wr) (fun n _ _ => (intOf n).toNat + 1)
  case atStart => exact ⟨N, [], hN, rfl, rfl, HST⟩
  case round =>
    obtain ⟨m, r, hm, rfl, rfl, hd, hr8, hb⟩ := hrel
    have hc := conv1 wr m
    obtain ⟨d, hd0⟩ : ∃ d, d = UInt8.ofNat (48 + m % 10) := ⟨_, rfl⟩
    rw [← hd0] at hc
    have hc' : (convert 36 9 (.slice (some ⟨wr.heap.size, 0, none⟩) 1 1)).run Tryd.prog (wr.alloc (.cells #[.int .u8 (48 + (m : Int) % 10)] 5)) = .ok (.string ⟨#[d]⟩) (wr.alloc (.cells #[.int .u8 (48 + (m : Int) % 10)] 5)) := hc
    have hsz : (⟨r.toArray⟩ : ByteArray).size ≤ 8 := by show r.toArray.size ≤ 8; simpa using hr8
    have hs1 : (⟨#[d]⟩ : ByteArray).size ≤ 1 := Nat.le_refl 1
    have HD := Lib.hid hd
    have HB := Lib.hid hb
    have HD0 := Lib.hid hd0
    have hmk : (⟨#[d]⟩ : ByteArray) ++ ⟨r.toArray⟩ = ⟨(d :: r).toArray⟩ := mk_app [d] r
    have HMK := Lib.hid hmk
    clear hd hb hc hd0 hmk
    by_cases h10 : m < 10
    · have hfin : Lib.decDigits N = d :: r := by rw [HD.out, Lib.decDigits_one h10, HD0.out, Nat.mod_eq_of_lt h10]; rfl
      have HF := Lib.hid hfin
      clear hfin
      have hz : (m : Int) / 10 = 0 := by omega
      go_wp2_with fail
      go_ret
      refine ⟨?_, HB.out.alloc HB.out.size _⟩
      unfold dec
      rw [HF.out, ← HMK.out]
      rfl
    · have hl : (Lib.decDigits m).length + r.length ≤ 7 := by have := h0; rw [HD.out, List.length_append] at this; exact this
      have hm1 : 1 ≤ (Lib.decDigits (m / 10)).length := by rw [Lib.decDigits_length]; exact Lib.nDigits_pos _
      have hd1 : Lib.decDigits m = Lib.decDigits (m / 10) ++ [UInt8.ofNat (48 + m % 10)] := by rw [Lib.decDigits, dif_neg h10]
      have hrel2 : DecRel N w (m / 10) (d :: r) (wr.alloc (.cells #[.int .u8 (48 + (m : Int) % 10)] 5)) :=
        ⟨by rw [HD.out, hd1, ← HD0.out, List.append_assoc]; rfl, by rw [hd1, List.length_append] at hl; simp at hl ⊢; omega, HB.out.alloc HB.out.size _⟩
      have HREL := Lib.hid hrel2
      have hz : ((m : Int) / 10 == 0) = false := by rw [beq_eq_false_iff_ne]; omega
      clear hl hd1 hrel2 hm1
      go_wp2_with fail
      go_roundw
      case rel => exact ⟨m / 10, d :: r, by omega, by go_num, by rw [← HMK.out], HREL.out⟩
      case measure => simp [intOf]; omega

set_option maxRecDepth 100000 in
set_option maxHeartbeats 400000 in
theorem refFormat_any (id : Int) (w : World) : Calls Tryd.prog 21 #[.int .i64 id] w fun e w' => e = .returned (.string (fmtI id)) ∧ Below w.heap.size w w' := by
  by_cases hv : validB id = true
  case neg =>
    have hv' : validB id = false := by simpa using hv
    have H1 := Lib.hid (refValid_any id w)
    have e : fmtI id = ByteArray.empty := by unfold fmtI; rw [hv']; rfl
    rw [hv'] at H1
    rw [e]
    clear hv hv' e
    go_enter Tryd.func21, Tryd.ntmps21
    go_wp2_with fail
    refine (H1.out).mono ?_
    rintro e w1 ⟨rfl, rfl⟩
    clear H1
    go_wp2_with fail
    go_ret
    exact ⟨rfl, Below.refl _ _⟩
  obtain ⟨h1, h2, h3⟩ := valid_iff.1 hv
  have H1 := Lib.hid (refValid_any id w)
  have H2 := Lib.hid (refSite_any id w)
  have H3 := fun W => Lib.hid (refSerial_any id W)
  obtain ⟨s, hs⟩ := Int.eq_ofNat_of_zero_le (show 0 ≤ id / 1048576 by omega)
  obtain ⟨n, hn⟩ := Int.eq_ofNat_of_zero_le (show 0 ≤ id % 1048576 by omega)
  unfold siteI at H2
  unfold serialI at H3
  rw [hv] at H1 H2
  simp only [hv, if_true] at H3
  simp only [if_true] at H2
  rw [hs] at H2
  rw [hn] at H3
  have efm : fmtI id = fmtP s n := by unfold fmtI; rw [hv, hs, hn]; rfl
  rw [efm]
  clear efm
  have d1 := dec_size (n := s) (by omega)
  have d2 := dec_size (n := n) (by omega)
  have hs32 : s ≤ 32 := by omega
  have hn32 : n ≤ 1048575 := by omega
  clear hs hn h1 h2 h3 hv
  go_enter Tryd.func21, Tryd.ntmps21
  go_wp2_with fail
  refine (H1.out).mono ?_
  rintro e w1 ⟨rfl, rfl⟩
  go_wp2_with fail
  refine (H2.out).mono ?_
  rintro e w1 ⟨rfl, rfl⟩
  clear H1 H2
  go_wp2_with fail
  refine (decimal_any s w (by omega)).mono ?_
  rintro e w1 ⟨rfl, hb1⟩
  have HB1 := Lib.hid hb1
  clear hb1
  go_wp2_with fail
  refine ((H3 w1).out).mono ?_
  rintro e w1' ⟨rfl, rfl⟩
  clear H3
  go_wp2_with fail
  refine (decimal_any n w1 (by omega)).mono ?_
  rintro e w2 ⟨rfl, hb2⟩
  have HB2 := Lib.hid (HB1.out.trans (hb2.mono HB1.out.size))
  clear hb2 HB1
  go_wp2_with fail
  go_ret
  exact ⟨rfl, HB2.out⟩
end Go.Proofs.YtbphdbhlckbecaaDoor
