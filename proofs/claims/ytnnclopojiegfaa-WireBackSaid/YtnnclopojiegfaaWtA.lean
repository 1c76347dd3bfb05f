/-
  Commits out of bytes: plain parsers. No condition.
-/
import Derived.Test.YtnnclopojiegfaaWData
import Derived.Test.YtnnclopojiegfaaText
namespace Go.Proofs.Ytnnclopojiegfaa
open Go.RowKit
set_option linter.unusedVariables false

/-- a number of elements -/
def countP (bs : List Nat) (p : Nat) : Option (Nat × Nat) := (numP bs p).bind fun y => if y.1 < 0 ∨ (bs.length : Int) - y.2 < y.1 then none else some (y.1.toNat, y.2)
/-- so many elements, one after another -/
def manyP {α : Type} (f : Nat → Option (α × Nat)) : Nat → Nat → Option (List α × Nat)
  | 0, p => some ([], p)
  | k + 1, p => (f p).bind fun y => (manyP f k y.2).map fun z => (y.1 :: z.1, z.2)
def listP {α : Type} (f : Nat → Option (α × Nat)) (bs : List Nat) (p : Nat) : Option (List α × Nat) := (countP bs p).bind fun y => manyP f y.1 y.2
def flagP (bs : List Nat) (p : Nat) : Option (Bool × Nat) := (bs[p]?).bind fun x => if 1 < x then none else some (x == 1, p + 1)
def cellP (bs : List Nat) (p : Nat) : Option (WCell × Nat) :=
  (numP bs p).bind fun a => (numP bs a.2).bind fun b => (numP bs b.2).bind fun c => (flagP bs c.2).bind fun d => (textP bs d.2).bind fun e => (numP bs e.2).map fun f => (⟨a.1, b.1, c.1, d.1, e.1, f.1⟩, f.2)
def commitP (bs : List Nat) (p : Nat) : Option (WCommit × Nat) :=
  (numP bs p).bind fun a => (listP (numP bs) bs a.2).bind fun b => (listP (numP bs) bs b.2).bind fun c => (textP bs c.2).bind fun d => (listP (cellP bs) bs d.2).map fun e => (⟨a.1, b.1, c.1, d.1, e.1⟩, e.2)
/-- all bytes as commits -/
def commitsP (bs : List Nat) : Option (List WCommit) := (listP (commitP bs) bs 0).bind fun y => if y.2 = bs.length then some y.1 else none

theorem manyP_snoc {α : Type} {f : Nat → Option (α × Nat)} : ∀ (k p : Nat), manyP f (k + 1) p = (manyP f k p).bind fun y => (f y.2).map fun z => (y.1 ++ [z.1], z.2)
  | 0, p => by
    show (f p).bind _ = (f p).map _
    cases f p <;> rfl
  | k + 1, p => by
    rw [manyP, manyP]
    cases h : f p with
    | none => rfl
    | some y =>
      show (manyP f (k + 1) y.2).map _ = ((manyP f k y.2).map _).bind _
      rw [manyP_snoc k y.2]
      cases manyP f k y.2 with
      | none => rfl
      | some z =>
        show ((f z.2).map _).map _ = (f z.2).map _
        cases f z.2 <;> rfl
theorem manyP_len {α : Type} {f : Nat → Option (α × Nat)} : ∀ (k p : Nat) (l : List α) (q : Nat), manyP f k p = some (l, q) → l.length = k
  | 0, p, l, q, h => by
    injection h with h
    injection h with h
    subst h
    rfl
  | k + 1, p, l, q, h => by
    rw [manyP] at h
    obtain ⟨y, hy, h⟩ := Option.bind_eq_some_iff.1 h
    obtain ⟨z, hz, e⟩ := Option.map_eq_some_iff.1 h
    injection e with e1 e2
    subst e1
    have := manyP_len k y.2 z.1 z.2 hz
    rw [List.length_cons, this]
/-- what begins inside ends inside -/
theorem manyP_le {α : Type} {f : Nat → Option (α × Nat)} {N : Nat} (hf : ∀ p x q, p ≤ N → f p = some (x, q) → q ≤ N) : ∀ (k p : Nat) (l : List α) (q : Nat), p ≤ N → manyP f k p = some (l, q) → q ≤ N
  | 0, p, l, q, hp, h => by
    injection h with h
    injection h with _ h
    omega
  | k + 1, p, l, q, hp, h => by
    rw [manyP] at h
    obtain ⟨y, hy, h⟩ := Option.bind_eq_some_iff.1 h
    obtain ⟨z, hz, e⟩ := Option.map_eq_some_iff.1 h
    injection e with e1 e2
    subst e2
    exact manyP_le hf k y.2 z.1 z.2 (hf p y.1 y.2 hp hy) hz
/-- a number that was written is read back -/
theorem scan_enc : ∀ (n u i acc : Nat) (rest : List Nat), u ≤ n → u * 2 ^ (7 * i) < 18446744073709551616 → i ≤ 9 → (0 < i → 0 < u) → scan i acc (encU u ++ rest) = some (acc + u * 2 ^ (7 * i), i + (encU u).length)
  | n, u, i, acc, rest, hn, hu, hi, h0 => by
    have h9 : i = 9 → u ≤ 1 := fun e => by
      subst e
      have e2 : (2 : Nat) ^ (7 * 9) = 9223372036854775808 := rfl
      rw [e2] at hu
      omega
    by_cases h : u < 128
    · rw [encU_lt h, List.singleton_append, scan, if_neg (by omega), if_pos h, Nat.mod_eq_of_lt h]
      rfl
    · have hi8 : i < 9 := by
        rcases Nat.lt_or_ge i 9 with h' | h'
        · exact h'
        · have := h9 (by omega); omega
      rw [encU_ge (by omega), List.cons_append, scan, if_neg (by omega), if_neg (by omega)]
      cases n with
      | zero => omega
      | succ n =>
        have e3 : u / 128 * 2 ^ (7 * (i + 1)) = (u / 128 * 128) * 2 ^ (7 * i) := by rw [pow7_succ i, Nat.mul_assoc]
        have e5 : (u / 128 * 128) * 2 ^ (7 * i) ≤ u * 2 ^ (7 * i) := Nat.mul_le_mul_right _ (by omega)
        rw [scan_enc n (u / 128) (i + 1) _ rest (by omega) (by omega) (by omega) (fun _ => by omega)]
        have e1 : (u % 128 + 128) % 128 = u % 128 := by omega
        have e4 : u % 128 * 2 ^ (7 * i) + u / 128 * 128 * 2 ^ (7 * i) = u * 2 ^ (7 * i) := by
          rw [← Nat.add_mul]
          congr 1
          omega
        rw [e1, e3, Nat.add_assoc acc, e4, List.length_cons]
        congr 2
        omega
theorem unzig_zig (n : Int) : unzig (zig n) = n := by
  unfold unzig zig
  split <;> split <;> omega
theorem str_txt (s : ByteArray) : str (txt s) = s := by
  apply ByteArray.ext
  unfold str txt
  rw [List.map_map]
  have e : (UInt8.ofNat ∘ UInt8.toNat) = id := by funext c; simp
  rw [e, List.map_id]
section
variable {bs : List Nat}
theorem drop_after {p : Nat} {e rest : List Nat} (h : bs.drop p = e ++ rest) : bs.drop (p + e.length) = rest := by rw [← List.drop_drop, h, List.drop_left]
theorem inside_after {p : Nat} {e rest : List Nat} (hp : p ≤ bs.length) (h : bs.drop p = e ++ rest) : p + e.length + rest.length = bs.length := by
  have := congrArg List.length h
  rw [List.length_drop, List.length_append] at this
  omega
theorem numP_enc {n : Int} (hn : inI64 n) {p : Nat} {rest : List Nat} (h : bs.drop p = encI n ++ rest) : numP bs p = some (n, p + (encI n).length) := by
  unfold numP
  have hz := zig_lt hn.1 hn.2
  have := scan_enc (zig n) (zig n) 0 0 rest (Nat.le_refl _) (by simpa using hz) (by omega) (by omega)
  rw [h]
  unfold encI
  rw [this]
  simp [unzig_zig]
theorem nat64 {k : Nat} (h : k ≤ 1000000000) : inI64 (k : Int) := ⟨by omega, by omega⟩
theorem textP_enc {s : ByteArray} (hs : s.size ≤ 1000000000) {p : Nat} {rest : List Nat} (hp : p ≤ bs.length) (h : bs.drop p = encT s ++ rest) : textP bs p = some (s, p + (encT s).length) := by
  unfold encT at h ⊢
  rw [List.append_assoc] at h
  have h1 := drop_after h
  have h2 := inside_after hp h
  unfold textP
  rw [numP_enc (nat64 hs) h]
  rw [List.length_append, txt_len] at h2
  show (if (s.size : Int) < 0 ∨ (bs.length : Int) - ((p + (encI (s.size : Int)).length : Nat) : Int) < (s.size : Int) then none else _) = _
  rw [if_neg (by omega), h1, Int.toNat_natCast]
  rw [List.length_append, txt_len, ← Nat.add_assoc]
  have e : ((txt s ++ rest).take s.size) = txt s := by rw [← txt_len s, List.take_left]
  rw [e, str_txt]
theorem flagP_enc {b : Bool} {p : Nat} {rest : List Nat} (h : bs.drop p = encF b ++ rest) : flagP bs p = some (b, p + (encF b).length) := by
  have : bs[p]? = some (if b then 1 else 0) := by
    have e := congrArg (fun l => l[0]?) h
    simp only [List.getElem?_drop, Nat.add_zero] at e
    rw [e]
    cases b <;> rfl
  unfold flagP
  rw [this]
  cases b <;> rfl
theorem manyP_enc {α : Type} {f : Nat → Option (α × Nat)} {enc : α → List Nat} : ∀ (xs : List α) (p : Nat) (rest : List Nat), (∀ x ∈ xs, ∀ (p : Nat) rest, p ≤ bs.length → bs.drop p = enc x ++ rest → f p = some (x, p + (enc x).length)) → p ≤ bs.length → bs.drop p = xs.flatMap enc ++ rest → manyP f xs.length p = some (xs, p + (xs.flatMap enc).length)
  | [], p, rest, hf, hp, h => rfl
  | x :: xs, p, rest, hf, hp, h => by
    rw [List.flatMap_cons, List.append_assoc] at h
    have h1 := drop_after h
    have h2 := inside_after hp h
    rw [List.length_cons, manyP, hf x (by simp) p _ hp h]
    show (manyP f xs.length (p + (enc x).length)).map _ = _
    rw [manyP_enc xs _ rest (fun y hy => hf y (by simp [hy])) (by omega) h1]
    simp [Nat.add_assoc]
theorem flat_ge {α : Type} {enc : α → List Nat} : ∀ (xs : List α), (∀ x ∈ xs, 0 < (enc x).length) → xs.length ≤ (xs.flatMap enc).length
  | [], _ => Nat.zero_le _
  | x :: xs, h => by
    have := flat_ge xs (fun y hy => h y (by simp [hy]))
    have := h x (by simp)
    rw [List.flatMap_cons, List.length_append, List.length_cons]
    omega
theorem listP_enc {α : Type} {f : Nat → Option (α × Nat)} {enc : α → List Nat} {xs : List α} (hx : xs.length ≤ 1000000000) (hpos : ∀ x ∈ xs, 0 < (enc x).length) (hf : ∀ x ∈ xs, ∀ (p : Nat) rest, p ≤ bs.length → bs.drop p = enc x ++ rest → f p = some (x, p + (enc x).length)) {p : Nat} {rest : List Nat} (hp : p ≤ bs.length) (h : bs.drop p = encI xs.length ++ (xs.flatMap enc ++ rest)) :
    listP f bs p = some (xs, p + (encI xs.length).length + (xs.flatMap enc).length) := by
  have h1 := drop_after h
  have h2 := inside_after hp h
  have h3 := flat_ge xs hpos
  rw [List.length_append] at h2
  have hc : countP bs p = some (xs.length, p + (encI xs.length).length) := by
    unfold countP
    rw [numP_enc (nat64 hx) h]
    show (if (xs.length : Int) < 0 ∨ (bs.length : Int) - ((p + (encI (xs.length : Int)).length : Nat) : Int) < (xs.length : Int) then none else some ((xs.length : Int).toNat, p + (encI (xs.length : Int)).length)) = _
    rw [if_neg (by omega), Int.toNat_natCast]
  unfold listP
  rw [hc]
  exact manyP_enc xs _ rest hf (by omega) h1
/-- a write, a commit, commits are read back -/
def WCell.fit (c : WCell) : Prop := c.ok ∧ c.text.size ≤ 1000000000
def WCommit.fit (c : WCommit) : Prop := c.ok ∧ c.note.size ≤ 1000000000 ∧ c.parents.length ≤ 1000000000 ∧ c.picks.length ≤ 1000000000 ∧ c.writes.length ≤ 1000000000 ∧ ∀ x ∈ c.writes, x.fit
theorem cellP_enc {c : WCell} (hc : c.fit) {p : Nat} {rest : List Nat} (hp : p ≤ bs.length) (h : bs.drop p = encC c ++ rest) : cellP bs p = some (c, p + (encC c).length) := by
  obtain ⟨⟨k1, k2, k3, k4⟩, k5⟩ := hc
  unfold encC at h ⊢
  simp only [List.append_assoc] at h
  have h1 := drop_after h
  have p1 := inside_after hp h
  have h2 := drop_after h1
  have p2 := inside_after (by omega) h1
  have h3 := drop_after h2
  have p3 := inside_after (by omega) h2
  have h4 := drop_after h3
  have p4 := inside_after (by omega) h3
  have h5 := drop_after h4
  unfold cellP
  rw [numP_enc k1 h, Option.bind_some, numP_enc k2 h1, Option.bind_some, numP_enc k3 h2, Option.bind_some, flagP_enc h3, Option.bind_some, textP_enc k5 (by show p + (encI c.id).length + (encI c.field).length + (encI c.n).length + (encF c.flag).length ≤ bs.length; omega) h4, Option.bind_some, numP_enc k4 h5]
  simp [Nat.add_assoc]
theorem encC_pos (c : WCell) : 0 < (encC c).length := by
  unfold encC encI
  have := encU_pos (zig c.id)
  simp only [List.length_append]
  omega
theorem commitP_enc {c : WCommit} (hc : c.fit) {p : Nat} {rest : List Nat} (hp : p ≤ bs.length) (h : bs.drop p = encCommit c ++ rest) : commitP bs p = some (c, p + (encCommit c).length) := by
  obtain ⟨⟨k1, k2, k3, k4⟩, k5, k6, k7, k8, k9⟩ := hc
  unfold encCommit encL at h ⊢
  simp only [List.append_assoc] at h
  have h1 := drop_after h
  have p1 := inside_after hp h
  have g1 := drop_after h1
  have q1 := inside_after (by omega) h1
  have h2 := drop_after g1
  have p2 := inside_after (by omega) g1
  have g2 := drop_after h2
  have q2 := inside_after (by omega) h2
  have h3 := drop_after g2
  have p3 := inside_after (by omega) g2
  have h4 := drop_after h3
  have p4 := inside_after (by omega) h3
  have hn : ∀ x : Int, 0 < (encI x).length := fun x => encU_pos _
  unfold commitP
  rw [numP_enc k1 h, Option.bind_some, listP_enc k6 (fun x _ => hn x) (fun x hx p rest _ h => numP_enc (k2 x hx) h) (by show p + _ ≤ _; omega) h1, Option.bind_some, listP_enc k7 (fun x _ => hn x) (fun x hx p rest _ h => numP_enc (k3 x hx) h) (by show p + _ + _ + _ ≤ _; omega) h2, Option.bind_some, textP_enc k5 (by show p + _ + _ + _ + _ + _ ≤ _; omega) h3, Option.bind_some, listP_enc k8 (fun x _ => encC_pos x) (fun x hx p rest hp h => cellP_enc (k9 x hx) hp h) (by show p + _ + _ + _ + _ + _ + _ ≤ _; omega) h4]
  simp [Nat.add_assoc]
theorem encCommit_pos (c : WCommit) : 0 < (encCommit c).length := by
  unfold encCommit encI
  have := encU_pos (zig c.stamp)
  simp only [List.length_append]
  omega
theorem commitsP_enc {l : List WCommit} (hl : l.length ≤ 1000000000) (hf : ∀ c ∈ l, c.fit) : commitsP (encCommits l) = some l := by
  have h : (encCommits l).drop 0 = encI l.length ++ (l.flatMap encCommit ++ []) := by rw [List.append_nil]; rfl
  unfold commitsP
  rw [listP_enc hl (fun x _ => encCommit_pos x) (fun x hx p rest hp h => commitP_enc (hf x hx) hp h) (Nat.zero_le _) h]
  show (if _ then _ else _) = _
  rw [if_pos (by unfold encCommits; simp)]
end
/-- bytes that are a number are the only ones for it -/
theorem scan_one : ∀ (l : List Nat) (i acc u k : Nat), (∀ x ∈ l, x < 256) → i ≤ 9 → scan i acc l = some (u, k) → ∃ v, u = acc + v * 2 ^ (7 * i) ∧ l = encU v ++ l.drop (k - i) ∧ k = i + (encU v).length ∧ (0 < i → 0 < v)
  | [], i, acc, u, k, hb, hi, h => by cases h
  | x :: r, i, acc, u, k, hb, hi, h => by
    have hx : x < 256 := hb x (by simp)
    rw [scan] at h
    split at h
    · cases h
    · rename_i hc
      split at h
      · rename_i hx1
        injection h with h
        injection h with h1 h2
        refine ⟨x, ?_, ?_, ?_, fun h0 => ?_⟩
        · rw [← h1, Nat.mod_eq_of_lt hx1]
        · rw [encU_lt hx1, ← h2, show i + 1 - i = 1 by omega]; rfl
        · rw [encU_lt hx1, ← h2]; rfl
        · rcases Nat.eq_zero_or_pos x with e | e
          · exact absurd (.inr ⟨h0, e⟩) hc
          · exact e
      · rename_i hx1
        have hi9 : i + 1 ≤ 9 := by
          rcases Nat.lt_or_ge i 9 with h' | h'
          · omega
          · exact absurd (.inl ⟨by omega, by omega⟩) hc
        obtain ⟨v, e1, e2, e3, e4⟩ := scan_one r (i + 1) _ u k (fun y hy => hb y (by simp [hy])) hi9 h
        have hv := e4 (by omega)
        refine ⟨x % 128 + 128 * v, ?_, ?_, ?_, fun _ => by omega⟩
        · rw [e1, pow7_succ, Nat.add_mul, Nat.add_assoc, ← Nat.mul_assoc, Nat.mul_comm v 128]
        · rw [encU_ge (by omega), show (x % 128 + 128 * v) % 128 + 128 = x by omega, show (x % 128 + 128 * v) / 128 = v by omega, show k - i = (k - (i + 1)) + 1 by omega, List.drop_succ_cons, List.cons_append, ← e2]
        · rw [encU_ge (by omega), show (x % 128 + 128 * v) / 128 = v by omega, List.length_cons, e3]; omega
theorem zig_unzig (u : Nat) : zig (unzig u) = u := by
  unfold unzig zig
  split <;> split <;> omega
theorem numP_one {bs : List Nat} (hb : ∀ x ∈ bs, x < 256) {p q : Nat} {n : Int} (h : numP bs p = some (n, q)) : bs.drop p = encI n ++ bs.drop q ∧ q = p + (encI n).length := by
  unfold numP at h
  obtain ⟨⟨u, k⟩, hs, e⟩ := Option.map_eq_some_iff.1 h
  injection e with e1 e2
  obtain ⟨v, h1, h2, h3, -⟩ := scan_one _ 0 0 u k (fun x hx => hb x (List.mem_of_mem_drop hx)) (by omega) hs
  have hv : u = v := by simpa using h1
  subst hv
  have he : encI n = encU u := by unfold encI; rw [← e1, zig_unzig]
  have hk : k = (encU u).length := by omega
  rw [he, ← e2]
  show bs.drop p = encU u ++ bs.drop (p + k) ∧ p + k = p + (encU u).length
  refine ⟨?_, by omega⟩
  rw [← List.drop_drop]
  simpa using h2
section
variable {bs : List Nat}
/-- what is read at p is what stands there -/
def One {α : Type} (bs : List Nat) (enc : α → List Nat) (f : Nat → Option (α × Nat)) : Prop := ∀ (p : Nat) (x : α) (q : Nat), p ≤ bs.length → f p = some (x, q) → bs.drop p = enc x ++ bs.drop q ∧ q = p + (enc x).length ∧ q ≤ bs.length
theorem num_one (hb : ∀ x ∈ bs, x < 256) : One bs encI (numP bs) := fun p x q hp h => by
  obtain ⟨h1, h2⟩ := numP_one hb h
  exact ⟨h1, h2, numP_le hp h⟩
theorem txt_str {l : List Nat} (h : ∀ x ∈ l, x < 256) : txt (str l) = l := by
  show (l.map UInt8.ofNat).map UInt8.toNat = l
  rw [List.map_map]
  have : ∀ x ∈ l, (UInt8.toNat ∘ UInt8.ofNat) x = x := fun x hx => UInt8.toNat_ofNat_of_lt' (h x hx)
  rw [List.map_congr_left this, List.map_id']
theorem text_one (hb : ∀ x ∈ bs, x < 256) : One bs encT (textP bs) := fun p s q hp h => by
  unfold textP at h
  split at h
  · cases h
  · rename_i n q1 hn
    split at h
    · cases h
    · rename_i hc
      injection h with h
      injection h with h1 h2
      obtain ⟨a1, a2, a3⟩ := num_one hb p n q1 hp hn
      have ht : txt s = (bs.drop q1).take n.toNat := by
        rw [← h1]
        exact txt_str (fun x hx => hb x (List.mem_of_mem_drop (List.mem_of_mem_take hx)))
      have hs : s.size = n.toNat := by
        rw [← txt_len, ht, List.length_take, List.length_drop]
        omega
      have hsn : (s.size : Int) = n := by omega
      refine ⟨?_, ?_, by omega⟩
      · unfold encT
        rw [hsn, ht, a1, ← h2, ← List.drop_drop, List.append_assoc, List.take_append_drop]
      · unfold encT
        rw [hsn, List.length_append, txt_len, ← h2, a2, hs]
        omega
theorem flag_one : One bs encF (flagP bs) := fun p b q hp h => by
  unfold flagP at h
  obtain ⟨x, hx, h⟩ := Option.bind_eq_some_iff.1 h
  split at h
  · cases h
  · rename_i hc
    injection h with h
    injection h with h1 h2
    have hlt := (List.getElem?_eq_some_iff.1 hx).1
    have he : encF b = [x] := by
      rw [← h1]
      rcases (show x = 0 ∨ x = 1 by omega) with rfl | rfl <;> rfl
    rw [he, ← h2]
    exact ⟨drop_cons hx, rfl, by omega⟩
theorem many_one {α : Type} {f : Nat → Option (α × Nat)} {enc : α → List Nat} (hf : One bs enc f) : ∀ (k : Nat), One bs (fun l : List α => l.flatMap enc) (manyP f k)
  | 0, p, l, q, hp, h => by
    injection h with h
    injection h with h1 h2
    subst h1 h2
    exact ⟨rfl, rfl, hp⟩
  | k + 1, p, l, q, hp, h => by
    rw [manyP] at h
    obtain ⟨⟨x, q1⟩, hx, h⟩ := Option.bind_eq_some_iff.1 h
    obtain ⟨⟨l2, q2⟩, hl, e⟩ := Option.map_eq_some_iff.1 h
    injection e with e1 e2
    subst e1 e2
    obtain ⟨a1, a2, a3⟩ := hf p x q1 hp hx
    obtain ⟨b1, b2, b3⟩ := many_one hf k q1 l2 q2 a3 hl
    refine ⟨?_, ?_, b3⟩
    · show bs.drop p = (x :: l2).flatMap enc ++ bs.drop q2
      rw [List.flatMap_cons, List.append_assoc, a1]
      congr 1
    · show q2 = p + ((x :: l2).flatMap enc).length
      have b2' : q2 = q1 + (l2.flatMap enc).length := b2
      rw [List.flatMap_cons, List.length_append]
      omega
theorem list_one (hb : ∀ x ∈ bs, x < 256) {α : Type} {f : Nat → Option (α × Nat)} {enc : α → List Nat} (hf : One bs enc f) : One bs (fun l : List α => encI l.length ++ l.flatMap enc) (listP f bs) := fun p l q hp h => by
  unfold listP at h
  obtain ⟨⟨n, q1⟩, hc, h⟩ := Option.bind_eq_some_iff.1 h
  unfold countP at hc
  obtain ⟨⟨z, q2⟩, hz, hc⟩ := Option.bind_eq_some_iff.1 hc
  split at hc
  · cases hc
  · rename_i hn
    injection hc with hc
    injection hc with c1 c2
    have c1' : z.toNat = n := c1
    have c2' : q2 = q1 := c2
    subst c2'
    obtain ⟨a1, a2, a3⟩ := num_one hb p z q2 hp hz
    have hlen := manyP_len n q2 l q h
    obtain ⟨b1, b2, b3⟩ := many_one hf n q2 l q a3 h
    have hzl : ((l.length : Nat) : Int) = z := by omega
    have b1' : bs.drop q2 = l.flatMap enc ++ bs.drop q := b1
    have b2' : q = q2 + (l.flatMap enc).length := b2
    refine ⟨?_, ?_, b3⟩
    · show bs.drop p = (encI l.length ++ l.flatMap enc) ++ bs.drop q
      rw [hzl, List.append_assoc, a1, b1']
    · show q = p + (encI l.length ++ l.flatMap enc).length
      rw [hzl, List.length_append]
      omega
theorem cell_one (hb : ∀ x ∈ bs, x < 256) : One bs encC (cellP bs) := fun p c q hp h => by
  unfold cellP at h
  obtain ⟨⟨x1, q1⟩, h1, h⟩ := Option.bind_eq_some_iff.1 h
  obtain ⟨⟨x2, q2⟩, h2, h⟩ := Option.bind_eq_some_iff.1 h
  obtain ⟨⟨x3, q3⟩, h3, h⟩ := Option.bind_eq_some_iff.1 h
  obtain ⟨⟨x4, q4⟩, h4, h⟩ := Option.bind_eq_some_iff.1 h
  obtain ⟨⟨x5, q5⟩, h5, h⟩ := Option.bind_eq_some_iff.1 h
  obtain ⟨⟨x6, q6⟩, h6, e⟩ := Option.map_eq_some_iff.1 h
  injection e with e1 e2
  subst e1 e2
  obtain ⟨a1, b1, c1⟩ := num_one hb p x1 q1 hp h1
  obtain ⟨a2, b2, c2⟩ := num_one hb q1 x2 q2 c1 h2
  obtain ⟨a3, b3, c3⟩ := num_one hb q2 x3 q3 c2 h3
  obtain ⟨a4, b4, c4⟩ := flag_one q3 x4 q4 c3 h4
  obtain ⟨a5, b5, c5⟩ := text_one hb q4 x5 q5 c4 h5
  obtain ⟨a6, b6, c6⟩ := num_one hb q5 x6 q6 c5 h6
  refine ⟨?_, ?_, c6⟩
  · unfold encC
    rw [a1, a2, a3, a4, a5, a6]
    simp only [List.append_assoc]
  · unfold encC
    simp only [List.length_append]
    show q6 = _
    omega
theorem commit_one (hb : ∀ x ∈ bs, x < 256) : One bs encCommit (commitP bs) := fun p c q hp h => by
  unfold commitP at h
  obtain ⟨⟨x1, q1⟩, h1, h⟩ := Option.bind_eq_some_iff.1 h
  obtain ⟨⟨x2, q2⟩, h2, h⟩ := Option.bind_eq_some_iff.1 h
  obtain ⟨⟨x3, q3⟩, h3, h⟩ := Option.bind_eq_some_iff.1 h
  obtain ⟨⟨x4, q4⟩, h4, h⟩ := Option.bind_eq_some_iff.1 h
  obtain ⟨⟨x5, q5⟩, h5, e⟩ := Option.map_eq_some_iff.1 h
  injection e with e1 e2
  subst e1 e2
  obtain ⟨a1, b1, c1⟩ := num_one hb p x1 q1 hp h1
  obtain ⟨a2, b2, c2⟩ := list_one hb (num_one hb) q1 x2 q2 c1 h2
  obtain ⟨a3, b3, c3⟩ := list_one hb (num_one hb) q2 x3 q3 c2 h3
  obtain ⟨a4, b4, c4⟩ := text_one hb q3 x4 q4 c3 h4
  obtain ⟨a5, b5, c5⟩ := list_one hb (cell_one hb) q4 x5 q5 c4 h5
  simp only [List.length_append] at b2 b3 b5
  refine ⟨?_, ?_, c5⟩
  · unfold encCommit encL
    rw [a1, a2, a3, a4, a5]
    simp only [List.append_assoc]
  · unfold encCommit encL
    simp only [List.length_append]
    show q5 = _
    omega
theorem commits_one (hb : ∀ x ∈ bs, x < 256) {l : List WCommit} (h : commitsP bs = some l) : bs = encCommits l := by
  unfold commitsP at h
  obtain ⟨⟨l2, q⟩, hl, h⟩ := Option.bind_eq_some_iff.1 h
  split at h
  · rename_i hq
    injection h with h
    subst h
    obtain ⟨a1, -, -⟩ := list_one hb (commit_one hb) 0 l2 q (Nat.zero_le _) hl
    have hq' : q = bs.length := hq
    rw [hq', List.drop_length, List.append_nil] at a1
    exact a1
  · cases h
end
end Go.Proofs.Ytnnclopojiegfaa
