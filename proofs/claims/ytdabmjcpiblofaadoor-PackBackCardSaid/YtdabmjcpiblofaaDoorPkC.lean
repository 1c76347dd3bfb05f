/-
  A pack, plain: its nodes' keys differ as the nodes do. No condition.
-/
import Derived.Test.YtdabmjcpiblofaaDoorPkB
import Derived.Maps.Own
import Derived.Maps.OwnOps
import Derived.Maps.OwnSet
import Derived.Maps.Views
import Derived.DeepKeys4
namespace Go.Proofs.YtdabmjcpiblofaaDoor
open Go.RowKit
set_option linter.unusedVariables false

/-- a node of a pack: kind, text, leads, kids -/
abbrev PN := Int × ByteArray × List ByteArray × List Int
def decVal (l : List UInt8) : Nat := l.foldl (fun a c => a * 10 + (c.toNat - 48)) 0
theorem dig_val {d : Nat} (h : d < 10) : (UInt8.ofNat (48 + d)).toNat = 48 + d := by
  rw [UInt8.toNat_ofNat']; omega
theorem decVal_dec (n : Nat) : decVal (Lib.decDigits n) = n := by
  induction n using Nat.strongRecOn with
  | _ n ih =>
    rw [Lib.decDigits]
    split
    · rename_i h
      unfold decVal
      simp only [List.foldl_cons, List.foldl_nil]
      rw [dig_val h]
      omega
    · rename_i h
      have := ih (n / 10) (by omega)
      unfold decVal at this ⊢
      rw [List.foldl_append, this]
      simp only [List.foldl_cons, List.foldl_nil]
      rw [dig_val (by omega)]
      omega
theorem dec_in (n : Nat) : ∀ c ∈ Lib.decDigits n, 48 ≤ c.toNat ∧ c.toNat ≤ 57 := by
  induction n using Nat.strongRecOn with
  | _ n ih =>
    rw [Lib.decDigits]
    split
    · rename_i h
      intro c hc
      rw [List.mem_singleton] at hc
      subst hc
      rw [dig_val h]; omega
    · rename_i h
      intro c hc
      rcases List.mem_append.1 hc with hc | hc
      · exact ih (n / 10) (by omega) c hc
      · rw [List.mem_singleton] at hc
        subst hc
        rw [dig_val (show n % 10 < 10 by omega)]; omega
theorem itoa_in (n : Int) : ∀ c ∈ Lib.itoa n, c.toNat = 45 ∨ (48 ≤ c.toNat ∧ c.toNat ≤ 57) := by
  unfold Lib.itoa
  intro c hc
  split at hc
  · rcases List.mem_cons.1 hc with rfl | hc
    · exact .inl rfl
    · exact .inr (dec_in _ c hc)
  · exact .inr (dec_in _ c hc)
theorem dec_inj {a b : Nat} (h : Lib.decDigits a = Lib.decDigits b) : a = b := by
  rw [← decVal_dec a, h, decVal_dec]
theorem itoa_inj {a b : Int} (h : Lib.itoa a = Lib.itoa b) : a = b := by
  unfold Lib.itoa at h
  split at h <;> split at h
  · injection h with _ h
    have := dec_inj h
    omega
  · have := dec_in b.toNat 45 (by rw [← h]; exact List.mem_cons_self)
    exact absurd this.1 (by decide)
  · have := dec_in a.toNat 45 (by rw [h]; exact List.mem_cons_self)
    exact absurd this.1 (by decide)
  · have := dec_inj h
    omega
theorem cut_eq {c : UInt8} : ∀ {a a' r r' : List UInt8}, c ∉ a → c ∉ a' → a ++ c :: r = a' ++ c :: r' → a = a' ∧ r = r' := by
  intro a
  induction a with
  | nil =>
    intro a' r r' _ h2 h
    cases a' with
    | nil => simp at h; exact ⟨rfl, h⟩
    | cons x xs =>
      simp at h
      exact absurd (h.1 ▸ List.mem_cons_self) h2
  | cons x xs ih =>
    intro a' r r' h1 h2 h
    cases a' with
    | nil =>
      simp at h
      exact absurd (h.1 ▸ List.mem_cons_self) h1
    | cons y ys =>
      simp at h
      obtain ⟨h3, h4⟩ := ih (fun hm => h1 (List.mem_cons_of_mem _ hm)) (fun hm => h2 (List.mem_cons_of_mem _ hm)) h.2
      exact ⟨by rw [h.1, h3], h4⟩
theorem kidsK_cons (n : Int) (ns : List Int) : kidsK (n :: ns) = Lib.itoa n ++ 44 :: kidsK ns := by simp [kidsK, kidK]
theorem leadsK_cons (s : ByteArray) (ls : List ByteArray) : leadsK (s :: ls) = Lib.itoa (s.size : Int) ++ 58 :: (s.data.toList ++ leadsK ls) := by simp [leadsK, leadK]
theorem no44 (n : Int) : (44 : UInt8) ∉ Lib.itoa n := fun h => by
  have := itoa_in n 44 h
  have e : (44 : UInt8).toNat = 44 := rfl
  omega
theorem no58 (n : Int) : (58 : UInt8) ∉ Lib.itoa n := fun h => by
  have := itoa_in n 58 h
  have e : (58 : UInt8).toNat = 58 := rfl
  omega
theorem kidsK_inj : ∀ {a b : List Int}, kidsK a = kidsK b → a = b := by
  intro a
  induction a with
  | nil =>
    intro b h
    cases b with
    | nil => rfl
    | cons y ys => rw [kidsK_cons] at h; simp [kidsK] at h
  | cons x xs ih =>
    intro b h
    cases b with
    | nil => rw [kidsK_cons] at h; simp [kidsK] at h
    | cons y ys =>
      rw [kidsK_cons, kidsK_cons] at h
      obtain ⟨h1, h2⟩ := cut_eq (no44 x) (no44 y) h
      rw [itoa_inj h1, ih h2]
theorem leadsK_inj : ∀ {a b : List ByteArray}, leadsK a = leadsK b → a = b := by
  intro a
  induction a with
  | nil =>
    intro b h
    cases b with
    | nil => rfl
    | cons y ys => rw [leadsK_cons] at h; simp [leadsK] at h
  | cons x xs ih =>
    intro b h
    cases b with
    | nil => rw [leadsK_cons] at h; simp [leadsK] at h
    | cons y ys =>
      rw [leadsK_cons, leadsK_cons] at h
      obtain ⟨h1, h2⟩ := cut_eq (no58 _) (no58 _) h
      have h3 := itoa_inj h1
      obtain ⟨h4, h5⟩ := List.append_inj h2 (by rw [← ba_size, ← ba_size]; omega)
      have h6 : x = y := by
        cases x; cases y
        simp at h4
        rw [h4]
      rw [h6, ih h5]
/-- the key of a node -/
def shp (x : PN) : Value := .agg #[.int .i64 x.1, .string x.2.1, .string ⟨(leadsK x.2.2.1).toArray⟩, .string ⟨(kidsK x.2.2.2).toArray⟩]
theorem shp_inj {x y : PN} (h : shp x = shp y) : x = y := by
  unfold shp at h
  simp at h
  obtain ⟨h1, h2, h3, h4⟩ := h
  obtain ⟨a, b, c, d⟩ := x
  obtain ⟨a', b', c', d'⟩ := y
  simp at h1 h2 h3 h4
  rw [h1, h2, leadsK_inj h3, kidsK_inj h4]

/-- the place of a node among others -/
def findN (l : List PN) (x : PN) : Option Nat := l.findIdx? (fun y => decide (y = x))
def putN (l : List PN) (x : PN) : List PN × Nat := match findN l x with
  | some i => (l, i)
  | none => (l ++ [x], l.length)
theorem findN_none {l : List PN} {x : PN} : findN l x = none ↔ x ∉ l := by
  unfold findN
  rw [List.findIdx?_eq_none_iff]
  constructor
  · intro h hm
    have := h x hm
    simp at this
  · intro h y hy
    simp
    exact fun e => h (e ▸ hy)
theorem findN_some {l : List PN} {x : PN} {i : Nat} (h : findN l x = some i) : l[i]? = some x ∧ x ∈ l := by
  unfold findN at h
  rw [List.findIdx?_eq_some_iff_getElem] at h
  obtain ⟨hi, h1, -⟩ := h
  simp at h1
  exact ⟨by rw [List.getElem?_eq_getElem hi, h1], h1 ▸ List.getElem_mem hi⟩
theorem findN_snoc {l : List PN} {x y : PN} (h : x ≠ y) : findN (l ++ [y]) x = findN l x := by
  unfold findN
  rw [List.findIdx?_append]
  have e : [y].findIdx? (fun z => decide (z = x)) = none := by
    rw [List.findIdx?_eq_none_iff]
    intro z hz
    simp at hz
    subst hz
    simp
    exact fun e => h e.symm
  rw [e]
  simp
theorem findN_new {l : List PN} {x : PN} (h : x ∉ l) : findN (l ++ [x]) x = some l.length := by
  unfold findN
  rw [List.findIdx?_append]
  have e := findN_none.2 h
  unfold findN at e
  rw [e]
  simp
end Go.Proofs.YtdabmjcpiblofaaDoor
