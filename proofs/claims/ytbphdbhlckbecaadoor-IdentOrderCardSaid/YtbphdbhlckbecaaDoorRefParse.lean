/-
  The id of a text: the reference's Parse; both agree. No condition.
-/
import Derived.Test.YtbphdbhlckbecaaDoorParse
namespace Go.Proofs.YtbphdbhlckbecaaDoor
open Go.RowKit
set_option linter.unusedVariables false

def refRun : List UInt8 → Nat → Nat → Nat → Option (Nat × Nat)
  | [], a, b, _ => some (a, b)
  | c :: r, a, b, d =>
    if c.toNat = 46 then refRun r a b (d + 1)
    else if c.toNat < 48 ∨ 57 < c.toNat ∨ 1048576 < a ∨ 1048576 < b then none
    else if d = 0 then refRun r (a * 10 + (c.toNat - 48)) b d
    else refRun r a (b * 10 + (c.toNat - 48)) d

noncomputable def refP (s : ByteArray) : Int × Int :=
  if 20 < s.size then (0, 13) else match refRun s.data.toList 0 0 0 with
    | none => (0, 13)
    | some (a, b) => fin s a b

set_option maxRecDepth 100000 in
set_option maxHeartbeats 1000000 in
theorem refParse_any (s : ByteArray) (w : World) (hs : s.size ≤ 9223372036854775806) :
    Calls Tryd.prog 19 #[.string s] w fun e w' => e = .returned (.tuple #[.int .i64 (refP s).1, .int .i64 (refP s).2]) ∧ Below w.heap.size w w' := by
  by_cases h20 : 20 < s.size
  · have e : refP s = (0, 13) := by unfold refP; rw [if_pos h20]
    rw [e]
    clear e
    go_enter Tryd.func19, Tryd.ntmps19
    go_wp2_with fail
    go_ret2
    exact ⟨rfl, Below.refl _ _⟩
  have hdef : refP s = match refRun s.data.toList 0 0 0 with
    | none => (0, 13)
    | some (a, b) => fin s a b := by unfold refP; rw [if_neg h20]
  have HD := Lib.hid hdef
  have d20 : decide (20 < s.size) = false := by simpa using h20
  have HST : Hid (refRun s.data.toList 0 0 0 = refRun (s.data.toList.drop 0) 0 0 0) := by show _ = _; rw [List.drop_zero]
  clear hdef
  go_enter Tryd.func19, Tryd.ntmps19
  go_wp2_with fail
  go_loop [4, 5, 6, 7] (fun sa sb sd si => ∃ i a b d : Nat, i ≤ s.size ∧ a ≤ 10485769 ∧ b ≤ 10485769 ∧ d ≤ i ∧ sa = .int .i64 (a : Int) ∧ sb = .int .i64 (b : Int) ∧ sd = .int .i64 (d : Int) ∧ si = .int .i64 (i : Int) ∧ Hid (refRun s.data.toList 0 0 0 = refRun (s.data.toList.drop i) a b d)) (fun _ _ _ si => s.size - (intOf si).toNat)
  case atStart => exact ⟨0, 0, 0, 0, by omega, by omega, by omega, by omega, rfl, rfl, rfl, rfl, HST⟩
  case round =>
    obtain ⟨i, a, b, d, hi, ha, hb, hd, rfl, rfl, rfl, rfl, HR⟩ := hrel
    by_cases hk : i < s.size
    · have hdr := drop_at s i hk
      by_cases hdot : s[i].toNat = 46
      · have hn : refRun s.data.toList 0 0 0 = refRun (s.data.toList.drop (i + 1)) a b (d + 1) := by rw [HR.out, hdr, refRun, if_pos hdot]
        have HN := Lib.hid hn
        have t1 : (((s[i].toNat : Nat) : Int) == 46) = true := by rw [beq_iff_eq]; omega
        clear hn hdot hdr
        go_wp2_with fail
        go_round
        case rel => exact ⟨i + 1, a, b, d + 1, by omega, by omega, by omega, by omega, rfl, rfl, by go_num, by go_num, HN⟩
        case measure => simp [intOf]; omega
      · have t1 : (((s[i].toNat : Nat) : Int) == 46) = false := by rw [beq_eq_false_iff_ne]; omega
        by_cases hbad : s[i].toNat < 48 ∨ 57 < s[i].toNat ∨ 1048576 < a ∨ 1048576 < b
        · have hn : refRun s.data.toList 0 0 0 = none := by rw [HR.out, hdr, refRun, if_neg hdot, if_pos hbad]
          have hfin : refP s = (0, 13) := by rw [HD.out, hn]
          have HF := Lib.hid hfin
          clear hn hfin hdot hdr
          go_wp2_with fail
          all_goals go_ret2
          all_goals rw [HF.out]
          all_goals exact ⟨rfl, Below.refl _ _⟩
        · by_cases hd0 : d = 0
          · have hn : refRun s.data.toList 0 0 0 = refRun (s.data.toList.drop (i + 1)) (a * 10 + (s[i].toNat - 48)) b d := by rw [HR.out, hdr, refRun, if_neg hdot, if_neg hbad, if_pos hd0]
            have HN := Lib.hid hn
            have t2 : ((d : Int) == 0) = true := by rw [beq_iff_eq]; omega
            clear hn hdot hdr hd0
            go_wp2_with fail
            go_round
            case rel => exact ⟨i + 1, _, b, d, by omega, by omega, by omega, by omega, congrArg (Value.int .i64) (by omega), rfl, rfl, by go_num, HN⟩
            case measure => simp [intOf]; omega
          · have hn : refRun s.data.toList 0 0 0 = refRun (s.data.toList.drop (i + 1)) a (b * 10 + (s[i].toNat - 48)) d := by rw [HR.out, hdr, refRun, if_neg hdot, if_neg hbad, if_neg hd0]
            have HN := Lib.hid hn
            have t2 : ((d : Int) == 0) = false := by rw [beq_eq_false_iff_ne]; omega
            clear hn hdot hdr hd0
            go_wp2_with fail
            go_round
            case rel => exact ⟨i + 1, a, _, d, by omega, by omega, by omega, by omega, rfl, congrArg (Value.int .i64) (by omega), rfl, by go_num, HN⟩
            case measure => simp [intOf]; omega
    · have hn : refRun s.data.toList 0 0 0 = some (a, b) := by rw [HR.out, drop_end s i hk, refRun]
      have hp1 : refP s = fin s a b := by rw [HD.out, hn]
      clear hn HD HR HST
      have H3 := Lib.hid (refMake_any (a : Int) (b : Int) w)
      by_cases hpt : partsB (a : Int) (b : Int) = true
      case neg =>
        have hp2 : fin s a b = (0, 13) := by unfold fin; rw [if_neg (fun h => hpt h.1)]
        have HF := Lib.hid (hp1.trans hp2)
        have e1 : makeE (a : Int) (b : Int) = 5 := by unfold makeE; rw [if_neg hpt]
        rw [e1] at H3
        generalize makeI (a : Int) (b : Int) = id at H3
        clear hp1 hp2 hpt e1
        go_wp2_with fail
        refine (H3.out).mono ?_
        rintro e w1 ⟨rfl, rfl⟩
        clear H3
        go_wp2_with fail
        go_ret2
        rw [HF.out]
        exact ⟨rfl, Below.refl _ _⟩
      obtain ⟨e1, e2, -, -⟩ := make_valid hpt
      rw [e1] at H3
      have hfin : fin s a b = if fmtI (makeI (a : Int) (b : Int)) = s then (makeI (a : Int) (b : Int), 0) else (0, 13) := by
        unfold fin
        by_cases h : fmtI (makeI (a : Int) (b : Int)) = s
        · rw [if_pos ⟨hpt, h⟩, if_pos h]
        · rw [if_neg (fun hh => h hh.2), if_neg h]
      have hp3 := hp1.trans hfin
      generalize makeI (a : Int) (b : Int) = id at H3 hp3
      have H4 := Lib.hid (refFormat_any id w)
      have hbt := beq_text (a := fmtI id) (b := s)
      clear hp1 hfin hpt e1 e2
      generalize fmtI id = tx at H4 hbt hp3
      by_cases heq : tx = s
      · rw [if_pos heq] at hp3
        have HF := Lib.hid hp3
        have hb2 : (tx.toList == s.toList) = true := by rw [hbt]; simpa using heq
        clear hbt heq hp3
        go_wp2_with fail
        refine (H3.out).mono ?_
        rintro e w1 ⟨rfl, rfl⟩
        clear H3
        go_wp2_with fail
        refine (H4.out).mono ?_
        rintro e w1 ⟨rfl, hb⟩
        have HB := Lib.hid hb
        clear H4 hb
        go_wp2_with fail
        go_ret2
        rw [HF.out]
        exact ⟨rfl, HB.out⟩
      · rw [if_neg heq] at hp3
        have HF := Lib.hid hp3
        have hb2 : (tx.toList == s.toList) = false := by rw [hbt]; simpa using heq
        clear hbt heq hp3
        go_wp2_with fail
        refine (H3.out).mono ?_
        rintro e w1 ⟨rfl, rfl⟩
        clear H3
        go_wp2_with fail
        refine (H4.out).mono ?_
        rintro e w1 ⟨rfl, hb⟩
        have HB := Lib.hid hb
        clear H4 hb
        go_wp2_with fail
        go_ret2
        rw [HF.out]
        exact ⟨rfl, HB.out⟩

/-! Both read the text of an id as the id, and no other text -/
theorem fin_no {s : ByteArray} {a b : Int} (h : ∀ x n : Nat, 1 ≤ x → x ≤ 32 → 1 ≤ n → n ≤ 1048575 → fmtP x n ≠ s) : fin s a b = (0, 13) := by
  unfold fin
  rw [if_neg ?_]
  rintro ⟨hp, he⟩
  obtain ⟨_, hv, h1, h2⟩ := make_valid hp
  have hp' : 1 ≤ a ∧ a ≤ 32 ∧ 1 ≤ b ∧ b ≤ 1048575 := by unfold partsB at hp; rwa [decide_eq_true_eq] at hp
  refine h a.toNat b.toNat (by omega) (by omega) (by omega) (by omega) ?_
  rw [← he]
  unfold fmtI
  rw [hv, h1, h2, if_pos rfl]
theorem fin_yes {x n : Nat} (h1 : 1 ≤ x) (h2 : x ≤ 32) (h3 : 1 ≤ n) (h4 : n ≤ 1048575) : fin (fmtP x n) x n = ((x : Int) * 1048576 + n, 0) := by
  have hp : partsB (x : Int) (n : Int) = true := by unfold partsB; rw [decide_eq_true_eq]; omega
  obtain ⟨_, hv, e1, e2⟩ := make_valid hp
  have e0 : makeI (x : Int) (n : Int) = (x : Int) * 1048576 + n := by unfold makeI; rw [if_pos hp]
  unfold fin
  have e3 : fmtI (makeI (x : Int) (n : Int)) = fmtP x n := by
    unfold fmtI
    rw [hv, e1, e2, if_pos rfl, Int.toNat_natCast, Int.toNat_natCast]
  rw [if_pos ⟨hp, e3⟩, e0]

abbrev isDig (c : UInt8) : Prop := 48 ≤ c.toNat ∧ c.toNat ≤ 57
theorem dig_of {k : Nat} (h : k < 10) : isDig (UInt8.ofNat (48 + k)) ∧ (UInt8.ofNat (48 + k)).toNat - 48 = k := by
  have e : (UInt8.ofNat (48 + k)).toNat = 48 + k := UInt8.toNat_ofNat_of_lt' (show 48 + k < 256 by omega)
  unfold isDig
  rw [e]
  omega
theorem dec_dig : ∀ (k n : Nat), n ≤ k → ∀ c ∈ Lib.decDigits n, isDig c
  | 0, n, h, c, hc => by
    rw [Lib.decDigits_one (by omega)] at hc
    simp only [List.mem_singleton] at hc
    subst hc
    exact (dig_of (by omega)).1
  | k + 1, n, h, c, hc => by
    by_cases h10 : n < 10
    · rw [Lib.decDigits_one h10] at hc
      simp only [List.mem_singleton] at hc
      subst hc
      exact (dig_of h10).1
    · rw [Lib.decDigits, dif_neg h10] at hc
      rcases List.mem_append.1 hc with hc | hc
      · exact dec_dig k (n / 10) (by omega) c hc
      · simp only [List.mem_singleton] at hc
        subst hc
        exact (dig_of (by omega)).1

def stepD (n : Nat) (c : UInt8) : Nat := min (10 * n + (c.toNat - 48)) 1048576
theorem runD_app (l r : List UInt8) (h : ∀ c ∈ l, isDig c) : ∀ n, runD (l ++ r) n = ((runD r (l.foldl stepD n)).1, l.length + (runD r (l.foldl stepD n)).2) := by
  induction l with
  | nil => intro n; simp
  | cons c l ih =>
    intro n
    have hc : 48 ≤ c.toNat ∧ c.toNat ≤ 57 := h c (by simp)
    rw [List.cons_append, runD, if_pos hc, ih (fun x hx => h x (by simp [hx]))]
    simp only [List.foldl_cons, List.length_cons, stepD, Prod.mk.injEq]
    exact ⟨trivial, by omega⟩
theorem fold_dec : ∀ (k n : Nat), n ≤ k → n ≤ 1048576 → (Lib.decDigits n).foldl stepD 0 = n
  | 0, n, h, _ => by
    rw [Lib.decDigits_one (by omega)]
    simp only [List.foldl_cons, List.foldl_nil, stepD]
    rw [(dig_of (show n < 10 by omega)).2]
    omega
  | k + 1, n, h, h' => by
    by_cases h10 : n < 10
    · rw [Lib.decDigits_one h10]
      simp only [List.foldl_cons, List.foldl_nil, stepD]
      rw [(dig_of h10).2]
      omega
    · rw [Lib.decDigits, dif_neg h10, List.foldl_append, fold_dec k (n / 10) (by omega) (by omega)]
      simp only [List.foldl_cons, List.foldl_nil, stepD]
      rw [(dig_of (show n % 10 < 10 by omega)).2]
      omega
theorem runD_dec {n : Nat} (h : n ≤ 1048575) (r : List UInt8) (hr : ∀ c t, r = c :: t → ¬ isDig c) : runD (Lib.decDigits n ++ r) 0 = (n, (Lib.decDigits n).length) := by
  rw [runD_app _ _ (dec_dig n n (Nat.le_refl _)), fold_dec n n (Nat.le_refl _) (by omega)]
  cases r with
  | nil => simp [runD]
  | cons c t =>
    have hc : ¬ (48 ≤ c.toNat ∧ c.toNat ≤ 57) := hr c t rfl
    rw [runD, if_neg hc]; simp

theorem fmtP_list (x n : Nat) : (fmtP x n).data.toList = Lib.decDigits x ++ 46 :: Lib.decDigits n := by
  unfold fmtP dec
  rw [show (⟨#[46]⟩ : ByteArray) = ⟨[(46 : UInt8)].toArray⟩ from rfl, mk_app, mk_app]
  simp
theorem fmtP_size {x n : Nat} : (fmtP x n).size = (Lib.decDigits x).length + 1 + (Lib.decDigits n).length := by
  have h : (fmtP x n).data.toList.length = (fmtP x n).size := by rw [Array.length_toList]; rfl
  rw [← h, fmtP_list]
  simp; omega

theorem drop_fmt (x n : Nat) : (fmtP x n).data.toList.drop (Lib.decDigits x).length = 46 :: Lib.decDigits n := by
  rw [fmtP_list, List.drop_left]
theorem drop_fmt1 (x n : Nat) : (fmtP x n).data.toList.drop ((Lib.decDigits x).length + 1) = Lib.decDigits n := by
  rw [← List.drop_drop, drop_fmt]
  rfl
theorem parseP_yes {x n : Nat} (h1 : 1 ≤ x) (h2 : x ≤ 32) (h3 : 1 ≤ n) (h4 : n ≤ 1048575) : parseP (fmtP x n) = ((x : Int) * 1048576 + n, 0) := by
  have r1 : runD (fmtP x n).data.toList 0 = (x, (Lib.decDigits x).length) := by
    rw [fmtP_list]
    exact runD_dec (by omega) _ (fun c t h => by injection h with h _; subst h; unfold isDig; decide)
  have r2 : runD ((fmtP x n).data.toList.drop ((Lib.decDigits x).length + 1)) 0 = (n, (Lib.decDigits n).length) := by
    rw [drop_fmt1]
    have := runD_dec (n := n) (by omega) [] (fun c t h => by cases h)
    simpa using this
  have hs := fmtP_size (x := x) (n := n)
  have hlt : (Lib.decDigits x).length < (fmtP x n).size := by omega
  have hdot : (fmtP x n)[(Lib.decDigits x).length] = 46 := by
    have h := drop_at (fmtP x n) _ hlt
    rw [drop_fmt] at h
    injection h with h _
    exact h.symm
  unfold parseP
  rw [if_pos (by simp only [r1]; exact ⟨hlt, hdot⟩), r1]
  simp only
  rw [r2]
  simp only
  rw [if_pos (by omega), fin_yes h1 h2 h3 h4]
theorem parseP_no {s : ByteArray} (h : ∀ x n : Nat, 1 ≤ x → x ≤ 32 → 1 ≤ n → n ≤ 1048575 → fmtP x n ≠ s) : parseP s = (0, 13) := by
  unfold parseP
  split
  · split
    · exact fin_no h
    · rfl
  · rfl
theorem refRun_dec0 : ∀ (k x : Nat), x ≤ k → x ≤ 10485760 → ∀ (b : Nat) (r : List UInt8), b ≤ 1048576 → refRun (Lib.decDigits x ++ r) 0 b 0 = refRun r x b 0 := by
  have one : ∀ (y a b : Nat) (r : List UInt8), y < 10 → a ≤ 1048576 → b ≤ 1048576 → refRun (UInt8.ofNat (48 + y) :: r) a b 0 = refRun r (a * 10 + y) b 0 := by
    intro y a b r hy ha hb
    obtain ⟨⟨d1, d2⟩, d3⟩ := dig_of hy
    rw [refRun, if_neg (by omega), if_neg (by omega), if_pos rfl, d3]
  intro k
  induction k with
  | zero =>
    intro x h _ b r hb
    rw [Lib.decDigits_one (by omega), List.singleton_append, one x 0 b r (by omega) (by omega) hb]
    simp
  | succ k ih =>
    intro x h h' b r hb
    by_cases h10 : x < 10
    · rw [Lib.decDigits_one h10, List.singleton_append, one x 0 b r h10 (by omega) hb]
      simp
    · rw [Lib.decDigits, dif_neg h10, List.append_assoc, ih (x / 10) (by omega) (by omega) b _ hb, List.singleton_append, one _ _ b r (by omega) (by omega) hb]
      congr 1
      omega
theorem refRun_dec1 (a d : Nat) (ha : a ≤ 1048576) (hd : d ≠ 0) : ∀ (k x : Nat), x ≤ k → x ≤ 10485760 → ∀ (r : List UInt8), refRun (Lib.decDigits x ++ r) a 0 d = refRun r a x d := by
  have one : ∀ (y b : Nat) (r : List UInt8), y < 10 → b ≤ 1048576 → refRun (UInt8.ofNat (48 + y) :: r) a b d = refRun r a (b * 10 + y) d := by
    intro y b r hy hb
    obtain ⟨⟨d1, d2⟩, d3⟩ := dig_of hy
    rw [refRun, if_neg (by omega), if_neg (by omega), if_neg hd, d3]
  intro k
  induction k with
  | zero =>
    intro x h _ r
    rw [Lib.decDigits_one (by omega), List.singleton_append, one x 0 r (by omega) (by omega)]
    simp
  | succ k ih =>
    intro x h h' r
    by_cases h10 : x < 10
    · rw [Lib.decDigits_one h10, List.singleton_append, one x 0 r h10 (by omega)]
      simp
    · rw [Lib.decDigits, dif_neg h10, List.append_assoc, ih (x / 10) (by omega) (by omega) _, List.singleton_append, one _ _ r (by omega) (by omega)]
      congr 1
      omega
theorem refP_yes {x n : Nat} (h1 : 1 ≤ x) (h2 : x ≤ 32) (h3 : 1 ≤ n) (h4 : n ≤ 1048575) : refP (fmtP x n) = ((x : Int) * 1048576 + n, 0) := by
  have hs := fmtP_size (x := x) (n := n)
  have l1 := dec_len 6 x (by omega)
  have l2 := dec_len 6 n (by omega)
  have hr : refRun (fmtP x n).data.toList 0 0 0 = some (x, n) := by
    rw [fmtP_list, refRun_dec0 x x (Nat.le_refl _) (by omega) 0 _ (by omega), refRun, if_pos (by decide)]
    have := refRun_dec1 x (0 + 1) (by omega) (by omega) n n (Nat.le_refl _) (by omega) []
    rw [List.append_nil] at this
    rw [this, refRun]
  unfold refP
  rw [if_neg (by omega), hr]
  exact fin_yes h1 h2 h3 h4
theorem refP_no {s : ByteArray} (h : ∀ x n : Nat, 1 ≤ x → x ≤ 32 → 1 ≤ n → n ≤ 1048575 → fmtP x n ≠ s) : refP s = (0, 13) := by
  unfold refP
  split
  · rfl
  · split
    · rfl
    · exact fin_no h
theorem parse_eq (s : ByteArray) : parseP s = refP s := by
  by_cases h : ∃ x n : Nat, 1 ≤ x ∧ x ≤ 32 ∧ 1 ≤ n ∧ n ≤ 1048575 ∧ fmtP x n = s
  · obtain ⟨x, n, h1, h2, h3, h4, rfl⟩ := h
    rw [parseP_yes h1 h2 h3 h4, refP_yes h1 h2 h3 h4]
  · have h' : ∀ x n : Nat, 1 ≤ x → x ≤ 32 → 1 ≤ n → n ≤ 1048575 → fmtP x n ≠ s := fun x n a b c d e => h ⟨x, n, a, b, c, d, e⟩
    rw [parseP_no h', refP_no h']
end Go.Proofs.YtbphdbhlckbecaaDoor
