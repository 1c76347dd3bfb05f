/-
  The keys of n letters between two texts: the reference's keys. No condition.
-/
import Derived.Test.YtikabbpipdekfaaPsE
namespace Go.Proofs.Ytikabbpipdekfaa
open Go.RowKit
set_option linter.unusedVariables false

theorem str_info : (Try.prog.info? 9).map (fun i => (i.zero, i.size, i.bytes)) = some (some (.string ByteArray.empty), 1, 16) := by kernel_rfl
theorem info3 {t : TypeId} {z : Value} {s b : Nat} (h : (Try.prog.info? t).map (fun i => (i.zero, i.size, i.bytes)) = some (some z, s, b)) : ∃ i, Try.prog.info? t = some i ∧ i.zero = some z ∧ i.size = s ∧ i.bytes = b := by
  obtain ⟨i, hi, hr⟩ := Option.map_eq_some_iff.1 h
  injection hr with h1 h2
  injection h2 with h2 h3
  exact ⟨i, hi, h1, h2, h3⟩
def val (n : Nat) (t : ByteArray) : Nat := V n t.data.toList
/-- all texts of n letters from the number K0 on, up to K, and those among them that are keys -/
structure KS (H n K0 : Nat) (t : ByteArray) (xs : List ByteArray) (K : Nat) : Prop where
  k0 : K0 ≤ K
  cur : (t.data.toList.length = n ∧ Lets t.data.toList ∧ val n t = K) ∨ (t.data.toList = [] ∧ K = 26 ^ n)
  nums : xs.map (val n) = (List.range' K0 (K - K0)).filter (fun k => k % 26 ≠ 0)
  each : ∀ x ∈ xs, x.data.toList.length = n ∧ Lets x.data.toList
  lt : ∀ k, K0 ≤ k → k < K → k * Bn n < H
theorem KS.step {H n K0 K : Nat} {t t' : ByteArray} {xs ys : List ByteArray} (h : KS H n K0 t xs K) (hK : K * Bn n < H) (hc : (t'.data.toList.length = n ∧ Lets t'.data.toList ∧ val n t' = K + 1) ∨ (t'.data.toList = [] ∧ K + 1 = 26 ^ n))
    (hy : (K % 26 ≠ 0 ∧ t.data.toList.length = n ∧ Lets t.data.toList ∧ val n t = K ∧ ys = xs ++ [t]) ∨ (K % 26 = 0 ∧ ys = xs)) : KS H n K0 t' ys (K + 1) := by
  have e1 : List.range' K0 (K + 1 - K0) = List.range' K0 (K - K0) ++ [K] := by
    have := h.k0
    rw [show K + 1 - K0 = (K - K0) + 1 by omega, List.range'_concat, Nat.one_mul]
    congr 2
    omega
  refine ⟨by have := h.k0; omega, hc, ?_, ?_, fun k h1 h2 => ?_⟩
  · rw [e1, List.filter_append, ← h.nums]
    rcases hy with ⟨h1, -, -, h2, rfl⟩ | ⟨h1, rfl⟩
    · rw [List.map_append, List.map_cons, List.map_nil, h2, List.filter_cons, if_pos (by simpa using h1)]
      rfl
    · rw [List.filter_cons, if_neg (by simpa using h1)]
      simp
  · rcases hy with ⟨h1, h2, h3, -, rfl⟩ | ⟨h1, rfl⟩
    · intro x hx
      rcases List.mem_append.1 hx with hx | hx
      · exact h.each x hx
      · simp at hx; subst hx; exact ⟨h2, h3⟩
    · exact h.each
  · rcases Nat.lt_or_ge k K with h3 | h3
    · exact h.lt k h1 h3
    · obtain rfl : k = K := by omega
      exact hK
def KRes (H n K0 : Nat) (xs : List ByteArray) : Prop := ∃ t K, KS H n K0 t xs K ∧ (K = 26 ^ n ∨ H ≤ K * Bn n ∨ 100 ≤ xs.length)
def KeysPost (w : World) (H n K0 : Nat) (e : Ending) (w' : World) : Prop :=
  Below w.heap.size w w' ∧ ∃ A c xs, e = .returned (.slice A xs.length c) ∧ Reads w' w'.heap.size 1 A xs.length (xs.map Value.string) ∧ xs.length ≤ 100 ∧ KRes H n K0 xs
/-- where keys begins -/
def from_ (l : List UInt8) (n : Nat) : Nat := if l.length < n then V n l else V n l + 1
theorem KS.first {H n : Nat} {l : List UInt8} {t : ByteArray} (h : (t.data.toList.length = n ∧ Lets t.data.toList ∧ V n t.data.toList = (if l.length < n then V n l else V n l + 1)) ∨ (t.data.toList = [] ∧ n ≤ l.length ∧ V n l + 1 = 26 ^ n)) : KS H n (from_ l n) t [] (from_ l n) := by
  refine ⟨Nat.le_refl _, ?_, by simp, (fun x hx => by cases hx), (fun k h1 h2 => by omega)⟩
  rcases h with ⟨h1, h2, h3⟩ | ⟨h1, h2, h3⟩
  · exact .inl ⟨h1, h2, h3⟩
  · exact .inr ⟨h1, by unfold from_; rw [if_neg (by omega)]; exact h3⟩
theorem V_lt_pow {n : Nat} {t : ByteArray} (h : Lets t.data.toList) : val n t < 26 ^ n := V_lt n _ h
def left (n : Nat) (v : Value) : Nat := match v with
  | .string t => if t.data.toList = [] then 0 else 26 ^ n - val n t
  | _ => 0
theorem left_str (n : Nat) (t : ByteArray) : left n (.string t) = if t.data.toList = [] then 0 else 26 ^ n - val n t := rfl
theorem left_lt {n K : Nat} {t t' : ByteArray} (hne : t.data.toList ≠ []) (hl : Lets t.data.toList) (hv : val n t = K) (hc : (t'.data.toList.length = n ∧ Lets t'.data.toList ∧ val n t' = K + 1) ∨ (t'.data.toList = [] ∧ K + 1 = 26 ^ n)) : left n (.string t') < left n (.string t) := by
  have h1 := V_lt_pow (n := n) hl
  rw [left_str, left_str, if_neg hne]
  split
  · omega
  · rcases hc with ⟨_, _, h2⟩ | ⟨h2, _⟩
    · omega
    · exact absurd h2 ‹_›
theorem strs_one (xs : List ByteArray) : ∀ u ∈ xs.map Value.string, u.oneCell' = true := fun u hu => by
  obtain ⟨x, -, rfl⟩ := List.mem_map.1 hu
  rfl

set_option maxRecDepth 100000 in
set_option maxHeartbeats 3200000 in
theorem keys_any (lo hi : ByteArray) (n : Nat) (w : World) (h : Fit lo hi) (h1 : 1 ≤ n) (hn : n ≤ 60) : Calls Try.prog 26 #[.string lo, .string hi, .int .i64 (n : Int)] w (KeysPost w (top hi.data.toList) n (from_ lo.data.toList n)) := by
  have HF := Lib.hid h
  have HC := Lib.hid (after_any lo n w h.lets.2 h.lets.1 h1 hn)
  obtain ⟨i9, a1, a2, a3, a4⟩ := info3 str_info
  have HI := Lib.hid a1
  have HIz := Lib.hid a2
  have HIs := Lib.hid a3
  have HIb := Lib.hid a4
  clear h a1 a2 a3 a4
  go_enter Try.func26, Try.ntmps26
  go_wp2_with fail
  refine (HC.out).mono ?_
  rintro e w1 ⟨hb1, t1, rfl, ht1⟩
  have HB1 := Lib.hid hb1
  have HK1 := Lib.hid (KS.first (H := top hi.data.toList) ht1)
  have HO1 : Hid (w1.ownsRow w.heap.size 9 1 (.slice none 0 0) 0 (([] : List ByteArray).map Value.string)) := owns_nil w1 w.heap.size 9
  clear hb1 ht1 HC
  go_wp2_with fail
  go_loopw [7, 8] (fun l s wr => ∃ (t : ByteArray) (xs : List ByteArray) (K m c : Nat) (A : Option Addr), l = .slice A m c ∧ s = .string t ∧ m ≤ 100 ∧ Hid (m = xs.length) ∧ Hid (wr.ownsRow w.heap.size 9 1 (.slice A m c) m (xs.map Value.string)) ∧ Hid (KS (top hi.data.toList) n (from_ lo.data.toList n) t xs K) ∧ Hid (Below w.heap.size w wr)) (fun l s _ => left n s)
  case atStart => exact ⟨t1, [], _, 0, 0, none, rfl, rfl, by omega, rfl, HO1, HK1, HB1⟩
  case round =>
    obtain ⟨t, xs, K, m, c, A, rfl, rfl, hm, HM, HO, HK, HB⟩ := hrel
    have hend : ∀ (hx : K = 26 ^ n ∨ top hi.data.toList ≤ K * Bn n ∨ 100 ≤ xs.length), KeysPost w (top hi.data.toList) n (from_ lo.data.toList n) (.returned (.slice A m c)) wr := fun hx => by
      have hmm := HM.out
      subst hmm
      obtain ⟨A', c', e, hr, -⟩ := reads_of_owns HO.out
      injection e with e1 e2 e3
      subst e1 e3
      exact ⟨HB.out, A, c, xs, rfl, hr, hm, t, K, HK.out, hx⟩
    have HEND := Lib.hid hend
    clear hend
    by_cases e1 : t.toList = []
    · have HX : Hid (K = 26 ^ n) := by
        rcases HK.out.cur with ⟨a, b, d⟩ | ⟨a, b⟩
        · rw [toList_nil.1 e1] at a; simp at a; omega
        · exact b
      go_wp2_with fail
      go_ret
      exact HEND.out (.inl HX.out)
    · have e1' : t.toList.isEmpty = false := by simpa using e1
      have hcur := HK.out.cur.resolve_right (fun h => e1 (toList_nil.2 h.1))
      have HCUR := Lib.hid hcur
      have hW : W t.data.toList = K * Bn n := by rw [W_eq (by omega), hcur.1]; show val n t * _ = _; rw [hcur.2.2]
      have hin : Hid (K * Bn n < top hi.data.toList) ∨ (¬ hi.toList = [] ∧ Op.bytesLess t.toList hi.toList = false ∧ Hid (top hi.data.toList ≤ K * Bn n)) := by
        by_cases e2 : hi.toList = []
        · refine .inl ?_
          unfold top Hid
          rw [if_pos (toList_nil.1 e2), ← hW]
          exact W_lt hcur.2.1
        · have hkh : Key hi.data.toList := keyB_iff.1 (HF.out.okHi.resolve_left e2)
          have htop : top hi.data.toList = W hi.data.toList := if_neg (fun h => e2 (toList_nil.2 h))
          have hiff := W_lt_iff hcur.2.1 (by omega) hkh.lets hkh.len hkh.fin
          rw [hW, ← htop] at hiff
          by_cases hlt : t.data.toList < hi.data.toList
          · exact .inl (hiff.1 hlt)
          · exact .inr ⟨e2, by rw [less_iff]; exact decide_eq_false hlt, Nat.not_lt.1 (fun h => hlt (hiff.2 h))⟩
      rcases hin with HLT | ⟨e2, hbl, HGE⟩
      rotate_left
      · have e2' : hi.toList.isEmpty = false := by simpa using e2
        clear hcur hW
        go_wp2_with fail
        go_ret
        exact HEND.out (.inr (.inl HGE.out))
      have hhi : hi.toList = [] ∨ (¬ hi.toList = [] ∧ Op.bytesLess t.toList hi.toList = true) := by
        by_cases e2 : hi.toList = []
        · exact .inl e2
        · have hkh : Key hi.data.toList := keyB_iff.1 (HF.out.okHi.resolve_left e2)
          have htop : top hi.data.toList = W hi.data.toList := if_neg (fun h => e2 (toList_nil.2 h))
          have hiff := W_lt_iff hcur.2.1 (by omega) hkh.lets hkh.len hkh.fin
          rw [hW, ← htop] at hiff
          exact .inr ⟨e2, by rw [less_iff]; exact decide_eq_true (hiff.2 HLT.out)⟩
      by_cases h100 : m < 100
      rotate_left
      · have e3 : decide ((m : Int) < 100) = false := decide_eq_false (by omega)
        have HX : Hid (100 ≤ xs.length) := by have := HM.out; unfold Hid; omega
        clear hcur hW
        rcases hhi with e2 | ⟨e2, hbl⟩
        · go_wp2_with fail
          go_ret
          exact HEND.out (.inr (.inr HX.out))
        · have e2' : hi.toList.isEmpty = false := by simpa using e2
          go_wp2_with fail
          go_ret
          exact HEND.out (.inr (.inr HX.out))
      have e3 : decide ((m : Int) < 100) = true := decide_eq_true (by omega)
      have hts : t.size = n := by rw [← size_data]; exact hcur.1
      have HV := Lib.hid (rvalid_any t wr (by omega))
      have hkey : keyB t.data.toList = decide (K % 26 ≠ 0) := by
        have hne : t.data.toList ≠ [] := fun h => e1 (toList_nil.2 h)
        have hf := fin_iff hne hcur.2.1
        rw [hcur.1, show V n t.data.toList = K from hcur.2.2] at hf
        by_cases hk : K % 26 = 0
        · rw [decide_eq_false (fun h => h hk)]
          cases hb : keyB t.data.toList with
          | false => rfl
          | true => exact absurd hk (hf.1 (keyB_iff.1 hb).fin)
        · rw [decide_eq_true hk]
          exact keyB_iff.2 ⟨hne, by omega, hcur.2.1, hf.2 hk⟩
      unfold VldPost at HV
      rw [hkey] at HV
      have HA : Hid (∀ w' : World, Calls Try.prog 30 #[.string t, .int .i64 (n : Int)] w' (AfterPost w' t.data.toList n)) := fun w' => after_any t n w' (by omega) hcur.2.1 h1 hn
      have HNX : Hid (∀ t' : ByteArray, ((t'.data.toList.length = n ∧ Lets t'.data.toList ∧ V n t'.data.toList = (if t.data.toList.length < n then V n t.data.toList else V n t.data.toList + 1)) ∨ (t'.data.toList = [] ∧ n ≤ t.data.toList.length ∧ V n t.data.toList + 1 = 26 ^ n)) → (t'.data.toList.length = n ∧ Lets t'.data.toList ∧ val n t' = K + 1) ∨ (t'.data.toList = [] ∧ K + 1 = 26 ^ n)) := fun t' hq => by
        have hv : V n t.data.toList = K := hcur.2.2
        rcases hq with ⟨a, b, d⟩ | ⟨a, b, d⟩
        · rw [if_neg (by omega)] at d
          exact .inl ⟨a, b, by show V n t'.data.toList = _; rw [d, hv]⟩
        · exact .inr ⟨a, by rw [← hv]; exact d⟩
      clear hcur hW hts hkey
      rcases hhi with e2 | ⟨e2, hbl⟩
      · by_cases hk : K % 26 = 0
        · rw [decide_eq_false (fun h => h hk)] at HV
          have HKK := Lib.hid hk
          clear hk
          go_wp2_with fail
          refine (HV.out).mono ?_
          rintro e w2 ⟨rfl, rfl⟩
          go_wp2_with fail
          refine (HA.out _).mono ?_
          rintro e w3 ⟨hb3, t', rfl, ht'⟩
          have HNN := Lib.hid (HNX.out t' ht')
          have HBB := Lib.hid (HB.out.trans (hb3.mono HB.out.size))
          have HKS := Lib.hid (HK.out.step HLT.out HNN.out (.inr ⟨HKK.out, rfl⟩))
          have HLL := Lib.hid (left_lt (fun h => e1 (toList_nil.2 h)) HCUR.out.2.1 HCUR.out.2.2 HNN.out)
          have HB3 := Lib.hid hb3
          clear hb3 ht'
          go_wp2_with fail
          go_roundw
          case rel => exact ⟨t', xs, K + 1, m, c, A, rfl, rfl, by omega, HM, owns_below HO.out HB3.out (own_lt HO.out), HKS, HBB⟩
          case measure => exact HLL.out
        · rw [decide_eq_true hk] at HV
          have HKK := Lib.hid hk
          have HOA : Hid ((wr.alloc (.cells #[.string t] 9)).ownsRow w.heap.size 9 1 (.slice A m c) m (xs.map Value.string)) := HO.out.alloc _
          have HL1 : Hid (m + 1 ≤ maxLen) := by unfold Hid maxLen; omega
          have HL2 : Hid ((m + 1) * 16 ≤ 140737488355328) := by unfold Hid; omega
          have HL3 : Hid (w.heap.size ≤ (wr.alloc (.cells #[.string t] 9)).heap.size) := by have := HB.out.size; unfold Hid; simp; omega
          clear hk
          go_wp2_with fail
          refine (HV.out).mono ?_
          rintro e w2 ⟨rfl, rfl⟩
          go_wp2_with (at_builtin; refine wpList_append_row _ rfl (.tmp 30) (.tmp 32) 28 28 rfl w.heap.size 9 i9 (.string ByteArray.empty) 1 16 Try.underlying28 HI.out HIz.out HIs.out HIb.out rfl (by decide) (.slice A m c) m (xs.map Value.string) rfl HOA.out (.slice (some ⟨wr.heap.size, 0, none⟩) 1 1) 1 [.string t] rfl (src_new wr Try.underlying28 [.string t] 1 1 1 9 rfl (strs_one [t])) HL1.out HL2.out HL3.out ?_)
          intro v3 w3 hown3 hg3
          obtain ⟨A3, c3, rfl, -, -⟩ := reads_of_owns hown3
          have HO3 : Hid (w3.ownsRow w.heap.size 9 1 (.slice A3 (m + 1) c3) (m + 1) ((xs ++ [t]).map Value.string)) := by rw [List.map_append]; exact hown3
          have HB3' : Hid (Below w.heap.size w w3) := (HB.out.alloc HB.out.size _).grown hg3.grown HL3.out (fun g e => own_from HOA.out g e)
          clear hown3 hg3
          go_wp2_with fail
          refine (HA.out _).mono ?_
          rintro e w4 ⟨hb4, t', rfl, ht'⟩
          have HNN := Lib.hid (HNX.out t' ht')
          have HBB := Lib.hid (HB3'.out.trans (hb4.mono HB3'.out.size))
          have HKS := Lib.hid (HK.out.step HLT.out HNN.out (.inl ⟨HKK.out, HCUR.out.1, HCUR.out.2.1, HCUR.out.2.2, rfl⟩))
          have HLL := Lib.hid (left_lt (fun h => e1 (toList_nil.2 h)) HCUR.out.2.1 HCUR.out.2.2 HNN.out)
          have HB3 := Lib.hid hb4
          clear hb4 ht'
          go_wp2_with fail
          go_roundw
          case rel => exact ⟨t', xs ++ [t], K + 1, m + 1, c3, A3, rfl, rfl, by omega, by have := HM.out; unfold Hid; simp; omega, owns_below HO3.out HB3.out (own_lt HO3.out), HKS, HBB⟩
          case measure => exact HLL.out
      · have e2' : hi.toList.isEmpty = false := by simpa using e2
        by_cases hk : K % 26 = 0
        · rw [decide_eq_false (fun h => h hk)] at HV
          have HKK := Lib.hid hk
          clear hk
          go_wp2_with fail
          refine (HV.out).mono ?_
          rintro e w2 ⟨rfl, rfl⟩
          go_wp2_with fail
          refine (HA.out _).mono ?_
          rintro e w3 ⟨hb3, t', rfl, ht'⟩
          have HNN := Lib.hid (HNX.out t' ht')
          have HBB := Lib.hid (HB.out.trans (hb3.mono HB.out.size))
          have HKS := Lib.hid (HK.out.step HLT.out HNN.out (.inr ⟨HKK.out, rfl⟩))
          have HLL := Lib.hid (left_lt (fun h => e1 (toList_nil.2 h)) HCUR.out.2.1 HCUR.out.2.2 HNN.out)
          have HB3 := Lib.hid hb3
          clear hb3 ht'
          go_wp2_with fail
          go_roundw
          case rel => exact ⟨t', xs, K + 1, m, c, A, rfl, rfl, by omega, HM, owns_below HO.out HB3.out (own_lt HO.out), HKS, HBB⟩
          case measure => exact HLL.out
        · rw [decide_eq_true hk] at HV
          have HKK := Lib.hid hk
          have HOA : Hid ((wr.alloc (.cells #[.string t] 9)).ownsRow w.heap.size 9 1 (.slice A m c) m (xs.map Value.string)) := HO.out.alloc _
          have HL1 : Hid (m + 1 ≤ maxLen) := by unfold Hid maxLen; omega
          have HL2 : Hid ((m + 1) * 16 ≤ 140737488355328) := by unfold Hid; omega
          have HL3 : Hid (w.heap.size ≤ (wr.alloc (.cells #[.string t] 9)).heap.size) := by have := HB.out.size; unfold Hid; simp; omega
          clear hk
          go_wp2_with fail
          refine (HV.out).mono ?_
          rintro e w2 ⟨rfl, rfl⟩
          go_wp2_with (at_builtin; refine wpList_append_row _ rfl (.tmp 30) (.tmp 32) 28 28 rfl w.heap.size 9 i9 (.string ByteArray.empty) 1 16 Try.underlying28 HI.out HIz.out HIs.out HIb.out rfl (by decide) (.slice A m c) m (xs.map Value.string) rfl HOA.out (.slice (some ⟨wr.heap.size, 0, none⟩) 1 1) 1 [.string t] rfl (src_new wr Try.underlying28 [.string t] 1 1 1 9 rfl (strs_one [t])) HL1.out HL2.out HL3.out ?_)
          intro v3 w3 hown3 hg3
          obtain ⟨A3, c3, rfl, -, -⟩ := reads_of_owns hown3
          have HO3 : Hid (w3.ownsRow w.heap.size 9 1 (.slice A3 (m + 1) c3) (m + 1) ((xs ++ [t]).map Value.string)) := by rw [List.map_append]; exact hown3
          have HB3' : Hid (Below w.heap.size w w3) := (HB.out.alloc HB.out.size _).grown hg3.grown HL3.out (fun g e => own_from HOA.out g e)
          clear hown3 hg3
          go_wp2_with fail
          refine (HA.out _).mono ?_
          rintro e w4 ⟨hb4, t', rfl, ht'⟩
          have HNN := Lib.hid (HNX.out t' ht')
          have HBB := Lib.hid (HB3'.out.trans (hb4.mono HB3'.out.size))
          have HKS := Lib.hid (HK.out.step HLT.out HNN.out (.inl ⟨HKK.out, HCUR.out.1, HCUR.out.2.1, HCUR.out.2.2, rfl⟩))
          have HLL := Lib.hid (left_lt (fun h => e1 (toList_nil.2 h)) HCUR.out.2.1 HCUR.out.2.2 HNN.out)
          have HB3 := Lib.hid hb4
          clear hb4 ht'
          go_wp2_with fail
          go_roundw
          case rel => exact ⟨t', xs ++ [t], K + 1, m + 1, c3, A3, rfl, rfl, by omega, by have := HM.out; unfold Hid; simp; omega, owns_below HO3.out HB3.out (own_lt HO3.out), HKS, HBB⟩
          case measure => exact HLL.out
end Go.Proofs.Ytikabbpipdekfaa
