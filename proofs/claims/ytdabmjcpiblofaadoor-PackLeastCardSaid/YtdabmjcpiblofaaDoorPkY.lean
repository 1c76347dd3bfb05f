/-
  The parser of packs: plain, numbers, texts, counts, lists. No condition.
-/
import Derived.Test.YtdabmjcpiblofaaDoorPkM
import Derived.Deep.RegionHeld3
import Derived.Test.YtdabmjcpiblofaaDoorPkOwn
namespace Go.Proofs.YtdabmjcpiblofaaDoor
open Go.RowKit
set_option linter.unusedVariables false

/-- a number of elements -/
def countP (bs : List Nat) (p : Nat) : Option (Nat × Nat) := (numP bs p).bind fun y => if y.1 < 0 ∨ (bs.length : Int) - y.2 < y.1 then none else some (y.1.toNat, y.2)
/-- so many elements, one after another -/
def manyP {α : Type} (f : Nat → Option (α × Nat)) : Nat → Nat → Option (List α × Nat)
  | 0, p => some ([], p)
  | k + 1, p => (f p).bind fun y => (manyP f k y.2).map fun z => (y.1 :: z.1, z.2)
def listP {α : Type} (f : Nat → Option (α × Nat)) (bs : List Nat) (p : Nat) : Option (List α × Nat) := (countP bs p).bind fun y => manyP f y.1 y.2
/-- a node, a pack -/
def nodeP (bs : List Nat) (p : Nat) : Option (PN × Nat) :=
  (numP bs p).bind fun a => (textP bs a.2).bind fun t => (listP (textP bs) bs t.2).bind fun l => (listP (numP bs) bs l.2).map fun k => ((a.1, t.1, l.1, k.1), k.2)
def packP (bs : List Nat) (p : Nat) : Option ((List PN × List Int) × Nat) := (listP (nodeP bs) bs p).bind fun y => (listP (numP bs) bs y.2).map fun z => ((y.1, z.1), z.2)
/-- all bytes as a pack -/
def packB (bs : List Nat) : Option (List PN × List Int) := (packP bs 0).bind fun y => if y.2 = bs.length then some y.1 else none

theorem manyP_snoc {α : Type} {f : Nat → Option (α × Nat)} : ∀ (k p : Nat), manyP f (k + 1) p = (manyP f k p).bind fun y => (f y.2).map fun z => (y.1 ++ [z.1], z.2)
  | 0, p => by
    show (f p).bind _ = (f p).map _
    cases f p <;> rfl
  | k + 1, p => by
    rw [manyP, manyP]
    cases h : f p with
    | none => rfl
    | some y =>
      show (manyP f (k + 1) y.2).map _ = ((manyP f k y.2).map _).bind _
      rw [manyP_snoc k y.2]
      cases manyP f k y.2 with
      | none => rfl
      | some z =>
        show ((f z.2).map _).map _ = (f z.2).map _
        cases f z.2 <;> rfl
theorem manyP_len {α : Type} {f : Nat → Option (α × Nat)} : ∀ (k p : Nat) (l : List α) (q : Nat), manyP f k p = some (l, q) → l.length = k
  | 0, p, l, q, h => by
    injection h with h
    injection h with h
    subst h
    rfl
  | k + 1, p, l, q, h => by
    rw [manyP] at h
    obtain ⟨y, hy, h⟩ := Option.bind_eq_some_iff.1 h
    obtain ⟨z, hz, e⟩ := Option.map_eq_some_iff.1 h
    injection e with e1 e2
    subst e1
    have := manyP_len k y.2 z.1 z.2 hz
    rw [List.length_cons, this]
/-- what begins inside ends inside -/
theorem manyP_le {α : Type} {f : Nat → Option (α × Nat)} {N : Nat} (hf : ∀ p x q, p ≤ N → f p = some (x, q) → q ≤ N) : ∀ (k p : Nat) (l : List α) (q : Nat), p ≤ N → manyP f k p = some (l, q) → q ≤ N
  | 0, p, l, q, hp, h => by
    injection h with h
    injection h with _ h
    omega
  | k + 1, p, l, q, hp, h => by
    rw [manyP] at h
    obtain ⟨y, hy, h⟩ := Option.bind_eq_some_iff.1 h
    obtain ⟨z, hz, e⟩ := Option.map_eq_some_iff.1 h
    injection e with e1 e2
    subst e2
    exact manyP_le hf k y.2 z.1 z.2 (hf p y.1 y.2 hp hy) hz
/-- a number that was written is read back -/
theorem scan_enc : ∀ (n u i acc : Nat) (rest : List Nat), u ≤ n → u * 2 ^ (7 * i) < 18446744073709551616 → i ≤ 9 → (0 < i → 0 < u) → scan i acc (encU u ++ rest) = some (acc + u * 2 ^ (7 * i), i + (encU u).length)
  | n, u, i, acc, rest, hn, hu, hi, h0 => by
    have h9 : i = 9 → u ≤ 1 := fun e => by
      subst e
      have e2 : (2 : Nat) ^ (7 * 9) = 9223372036854775808 := rfl
      rw [e2] at hu
      omega
    by_cases h : u < 128
    · rw [encU_lt h, List.singleton_append, scan, if_neg (by omega), if_pos h, Nat.mod_eq_of_lt h]
      rfl
    · have hi8 : i < 9 := by
        rcases Nat.lt_or_ge i 9 with h' | h'
        · exact h'
        · have := h9 (by omega); omega
      rw [encU_ge (by omega), List.cons_append, scan, if_neg (by omega), if_neg (by omega)]
      cases n with
      | zero => omega
      | succ n =>
        have e3 : u / 128 * 2 ^ (7 * (i + 1)) = (u / 128 * 128) * 2 ^ (7 * i) := by rw [pow7_succ i, Nat.mul_assoc]
        have e5 : (u / 128 * 128) * 2 ^ (7 * i) ≤ u * 2 ^ (7 * i) := Nat.mul_le_mul_right _ (by omega)
        rw [scan_enc n (u / 128) (i + 1) _ rest (by omega) (by omega) (by omega) (fun _ => by omega)]
        have e1 : (u % 128 + 128) % 128 = u % 128 := by omega
        have e4 : u % 128 * 2 ^ (7 * i) + u / 128 * 128 * 2 ^ (7 * i) = u * 2 ^ (7 * i) := by
          rw [← Nat.add_mul]
          congr 1
          omega
        rw [e1, e3, Nat.add_assoc acc, e4, List.length_cons]
        congr 2
        omega
theorem unzig_zig (n : Int) : unzig (zig n) = n := by
  unfold unzig zig
  split <;> split <;> omega
theorem str_txt (s : ByteArray) : str (txt s) = s := by
  apply ByteArray.ext
  unfold str txt
  rw [List.map_map]
  have e : (UInt8.ofNat ∘ UInt8.toNat) = id := by funext c; simp
  rw [e, List.map_id]
section
variable {bs : List Nat}
theorem drop_after {p : Nat} {e rest : List Nat} (h : bs.drop p = e ++ rest) : bs.drop (p + e.length) = rest := by rw [← List.drop_drop, h, List.drop_left]
theorem inside_after {p : Nat} {e rest : List Nat} (hp : p ≤ bs.length) (h : bs.drop p = e ++ rest) : p + e.length + rest.length = bs.length := by
  have := congrArg List.length h
  rw [List.length_drop, List.length_append] at this
  omega
theorem numP_enc {n : Int} (hn : inI64 n) {p : Nat} {rest : List Nat} (h : bs.drop p = encI n ++ rest) : numP bs p = some (n, p + (encI n).length) := by
  unfold numP
  have hz := zig_lt hn.1 hn.2
  have := scan_enc (zig n) (zig n) 0 0 rest (Nat.le_refl _) (by simpa using hz) (by omega) (by omega)
  rw [h]
  unfold encI
  rw [this]
  simp [unzig_zig]
theorem nat64 {k : Nat} (h : k ≤ 1000000000) : inI64 (k : Int) := ⟨by omega, by omega⟩
theorem textP_enc {s : ByteArray} (hs : s.size ≤ 1000000000) {p : Nat} {rest : List Nat} (hp : p ≤ bs.length) (h : bs.drop p = encT s ++ rest) : textP bs p = some (s, p + (encT s).length) := by
  unfold encT at h ⊢
  rw [List.append_assoc] at h
  have h1 := drop_after h
  have h2 := inside_after hp h
  unfold textP
  rw [numP_enc (nat64 hs) h]
  rw [List.length_append, txt_len] at h2
  show (if (s.size : Int) < 0 ∨ (bs.length : Int) - ((p + (encI (s.size : Int)).length : Nat) : Int) < (s.size : Int) then none else _) = _
  rw [if_neg (by omega), h1, Int.toNat_natCast]
  rw [List.length_append, txt_len, ← Nat.add_assoc]
  have e : ((txt s ++ rest).take s.size) = txt s := by rw [← txt_len s, List.take_left]
  rw [e, str_txt]
theorem manyP_enc {α : Type} {f : Nat → Option (α × Nat)} {enc : α → List Nat} : ∀ (xs : List α) (p : Nat) (rest : List Nat), (∀ x ∈ xs, ∀ (p : Nat) rest, p ≤ bs.length → bs.drop p = enc x ++ rest → f p = some (x, p + (enc x).length)) → p ≤ bs.length → bs.drop p = xs.flatMap enc ++ rest → manyP f xs.length p = some (xs, p + (xs.flatMap enc).length)
  | [], p, rest, hf, hp, h => rfl
  | x :: xs, p, rest, hf, hp, h => by
    rw [List.flatMap_cons, List.append_assoc] at h
    have h1 := drop_after h
    have h2 := inside_after hp h
    rw [List.length_cons, manyP, hf x (by simp) p _ hp h]
    show (manyP f xs.length (p + (enc x).length)).map _ = _
    rw [manyP_enc xs _ rest (fun y hy => hf y (by simp [hy])) (by omega) h1]
    simp [Nat.add_assoc]
theorem flat_ge {α : Type} {enc : α → List Nat} : ∀ (xs : List α), (∀ x ∈ xs, 0 < (enc x).length) → xs.length ≤ (xs.flatMap enc).length
  | [], _ => Nat.zero_le _
  | x :: xs, h => by
    have := flat_ge xs (fun y hy => h y (by simp [hy]))
    have := h x (by simp)
    rw [List.flatMap_cons, List.length_append, List.length_cons]
    omega
theorem listP_enc {α : Type} {f : Nat → Option (α × Nat)} {enc : α → List Nat} {xs : List α} (hx : xs.length ≤ 1000000000) (hpos : ∀ x ∈ xs, 0 < (enc x).length) (hf : ∀ x ∈ xs, ∀ (p : Nat) rest, p ≤ bs.length → bs.drop p = enc x ++ rest → f p = some (x, p + (enc x).length)) {p : Nat} {rest : List Nat} (hp : p ≤ bs.length) (h : bs.drop p = encI xs.length ++ (xs.flatMap enc ++ rest)) :
    listP f bs p = some (xs, p + (encI xs.length).length + (xs.flatMap enc).length) := by
  have h1 := drop_after h
  have h2 := inside_after hp h
  have h3 := flat_ge xs hpos
  rw [List.length_append] at h2
  have hc : countP bs p = some (xs.length, p + (encI xs.length).length) := by
    unfold countP
    rw [numP_enc (nat64 hx) h]
    show (if (xs.length : Int) < 0 ∨ (bs.length : Int) - ((p + (encI (xs.length : Int)).length : Nat) : Int) < (xs.length : Int) then none else some ((xs.length : Int).toNat, p + (encI (xs.length : Int)).length)) = _
    rw [if_neg (by omega), Int.toNat_natCast]
  unfold listP
  rw [hc]
  exact manyP_enc xs _ rest hf (by omega) h1
/-- a node, a pack are read back -/
def fitN (x : PN) : Prop := inI64 x.1 ∧ x.2.1.size ≤ 1000000000 ∧ (x.2.2.1.length ≤ 1000000000 ∧ ∀ l ∈ x.2.2.1, l.size ≤ 1000000000) ∧ x.2.2.2.length ≤ 1000000000 ∧ ∀ k ∈ x.2.2.2, inI64 k
theorem encI_pos (n : Int) : 0 < (encI n).length := by
  unfold encI; exact encU_pos _
theorem encT_pos1 (s : ByteArray) : 0 < (encT s).length := by
  unfold encT; rw [List.length_append]; have := encI_pos (s.size : Int); omega
theorem encN_pos (x : PN) : 0 < (encN x).length := by
  unfold encN; rw [List.length_append]; have := encI_pos x.1; omega
theorem ints_enc {l : List Int} (hl : l.length ≤ 1000000000) (h64 : ∀ k ∈ l, inI64 k) {p : Nat} {rest : List Nat} (hp : p ≤ bs.length) (h : bs.drop p = encL l ++ rest) : listP (numP bs) bs p = some (l, p + (encL l).length) := by
  unfold encL at h ⊢
  rw [List.append_assoc] at h
  rw [listP_enc hl (fun x _ => encI_pos x) (fun x hx p rest _ h => numP_enc (h64 x hx) h) hp h, List.length_append, Nat.add_assoc]
theorem nodeP_enc {x : PN} (hc : fitN x) {p : Nat} {rest : List Nat} (hp : p ≤ bs.length) (h : bs.drop p = encN x ++ rest) : nodeP bs p = some (x, p + (encN x).length) := by
  obtain ⟨k1, k2, ⟨k3, k4⟩, k5, k6⟩ := hc
  obtain ⟨kd, tx, ls, ks⟩ := x
  unfold encN at h ⊢
  simp only [List.append_assoc] at h k1 k2 k3 k4 k5 k6 ⊢
  have h1 := drop_after h
  have p1 := inside_after hp h
  have h2 := drop_after h1
  have p2 := inside_after (by omega) h1
  have h3 := drop_after h2
  have p3 := inside_after (by omega) h2
  have h4 := drop_after h3
  have p4 := inside_after (by omega) h3
  unfold nodeP
  rw [numP_enc k1 h, Option.bind_some, textP_enc k2 (by show p + _ ≤ _; omega) h1, Option.bind_some]
  rw [listP_enc k3 (fun x _ => encT_pos1 x) (fun x hx p rest hp h => textP_enc (k4 x hx) hp h) (by show p + _ + _ ≤ _; omega) h2, Option.bind_some]
  rw [ints_enc k5 k6 (by show p + _ + _ + _ + _ ≤ _; omega) h4]
  simp [Nat.add_assoc]
def fitP (ns : List PN) (rs : List Int) : Prop := ns.length ≤ 1000000000 ∧ (∀ x ∈ ns, fitN x) ∧ rs.length ≤ 1000000000 ∧ ∀ k ∈ rs, inI64 k
end
theorem packB_enc {ns : List PN} {rs : List Int} (h : fitP ns rs) : packB (encP ns rs) = some (ns, rs) := by
  obtain ⟨k1, k2, k3, k4⟩ := h
  have h0 : (encP ns rs).drop 0 = encI (ns.length : Int) ++ (ns.flatMap encN ++ (encL rs ++ [])) := by rw [List.drop_zero, List.append_nil]; rfl
  have h1 := drop_after h0
  have p1 := inside_after (by omega) h0
  have h2 := drop_after h1
  have p2 := inside_after (by omega) h1
  unfold packB packP
  rw [listP_enc k1 (fun x _ => encN_pos x) (fun x hx p rest hp h => nodeP_enc (k2 x hx) hp h) (by omega) h0, Option.bind_some]
  rw [ints_enc k3 k4 (by show 0 + _ + _ ≤ _; omega) h2]
  show (if 0 + (encI (ns.length : Int)).length + (ns.flatMap encN).length + (encL rs).length = (encP ns rs).length then some (ns, rs) else none) = _
  rw [if_pos]
  unfold encP
  simp only [List.length_append]
  omega

/-- a parser at block r, over the slice A n c: at a position, or bad -/
def PRd (w : World) (r : Nat) (A : Option Addr) (n c : Nat) : Option Nat → Prop
  | some p => Blk w r 85 #[.slice A n c, .int .i64 (p : Int), .bool false] ∧ p ≤ n
  | none => ∃ z : Int, Blk w r 85 #[.slice A n c, .int .i64 z, .bool true]
/-- what a parser reads from -/
structure RdIn (w : World) (r : Nat) (A : Option Addr) (n c : Nat) (bs : List Nat) : Prop where
  hn : n ≤ 1000000000
  hnc : n ≤ c
  hr : Reads w r 1 A n (bs.map byt)
  hbs : ∀ x ∈ bs, x < 256
section
variable {w w' : World} {r n c : Nat} {A : Option Addr} {bs : List Nat} {s : Option Nat}
theorem RdIn.grown (h : RdIn w r A n c bs) (hg : w.grownBy w' (some r)) (hr : r ≤ w.heap.size) : RdIn w' r A n c bs :=
  ⟨h.hn, h.hnc, h.hr.grown hg hr (fun g hg => by injection hg; omega), h.hbs⟩
theorem RdIn.alloc (h : RdIn w r A n c bs) (hr : r ≤ w.heap.size) (o : Obj) : RdIn (w.alloc o) r A n c bs := ⟨h.hn, h.hnc, h.hr.alloc hr o, h.hbs⟩
theorem RdIn.setCell (h : RdIn w r A n c bs) {p : Addr} (hp : r ≤ p.block) (u : Value) : RdIn (w.setCell p u) r A n c bs := ⟨h.hn, h.hnc, h.hr.setCell hp u, h.hbs⟩
theorem RdIn.len (h : RdIn w r A n c bs) : bs.length = n := by have := h.hr.1; simpa using this
theorem RdIn.all (h : RdIn w r A n c bs) (hr : r ≤ w.heap.size) : Reads w w.heap.size 1 A n (bs.map byt) := h.hr.more hr
theorem PRd.lt (h : PRd w r A n c s) : r < w.heap.size := by
  cases s with
  | none => obtain ⟨z, hb⟩ := h; exact hb.lt
  | some p => exact h.1.lt
theorem PRd.alloc (h : PRd w r A n c s) (o : Obj) : PRd (w.alloc o) r A n c s := by
  cases s with
  | none => obtain ⟨z, hb⟩ := h; exact ⟨z, hb.alloc o⟩
  | some p => exact ⟨h.1.alloc o, h.2⟩
theorem PRd.far (h : PRd w r A n c s) {p : Addr} (hp : r ≠ p.block) (u : Value) : PRd (w.setCell p u) r A n c s := by
  cases s with
  | none => obtain ⟨z, hb⟩ := h; exact ⟨z, hb.far hp u⟩
  | some q => exact ⟨h.1.far hp u, h.2⟩
theorem PRd.grown {row : Option Nat} (h : PRd w r A n c s) (hg : w.grownBy w' row) (hr : some r ≠ row) : PRd w' r A n c s := by
  cases s with
  | none => obtain ⟨z, hb⟩ := h; exact ⟨z, hb.grown hg hr⟩
  | some p => exact ⟨h.1.grown hg hr, h.2⟩
def NumAny (w : World) (r : Nat) (A : Option Addr) (n c : Nat) (o : Option (Int × Nat)) (e : Ending) (w' : World) : Prop :=
  ∃ v, e = .returned (.int .i64 v) ∧ (∀ y, o = some y → y.1 = v) ∧ PRd w' r A n c (o.map (·.2)) ∧ w.grownBy w' (some r)
def TextAny (w : World) (r : Nat) (A : Option Addr) (n c : Nat) (o : Option (ByteArray × Nat)) (e : Ending) (w' : World) : Prop :=
  ∃ v, e = .returned (.string v) ∧ (∀ y, o = some y → y.1 = v) ∧ PRd w' r A n c (o.map (·.2)) ∧ w.grownBy w' (some r)
end
theorem textP_le {bs : List Nat} {p q : Nat} {x : ByteArray} (h : textP bs p = some (x, q)) : q ≤ bs.length := by
  unfold textP at h
  split at h
  · cases h
  · split at h
    · cases h
    · injection h with h
      injection h with h1 h2
      omega
set_option maxRecDepth 100000 in
set_option maxHeartbeats 1000000 in
theorem pnumber_any {w : World} {r n c : Nat} {A : Option Addr} {bs : List Nat} {s : Option Nat} (h : PRd w r A n c s) (hi : RdIn w r A n c bs) :
    Calls Tryd.prog 72 #[.pointer (some ⟨r, 0, none⟩)] w (NumAny w r A n c (s.bind (numP bs))) := by
  have hl := hi.len
  have hn := hi.hn
  rcases s with _ | p
  · obtain ⟨z, hb⟩ := h
    have c2 := hb.cell 2
    simp at c2
    have HB := Lib.hid hb
    clear hb hi hl hn
    go_enter Tryd.func72, Tryd.ntmps72
    go_wp2_with fail
    go_ret
    exact ⟨0, rfl, (fun y hy => by cases hy), ⟨z, HB.out⟩, World.grownBy.refl w _⟩
  · obtain ⟨hb, hp⟩ := h
    have hN := getInt_any A n c (p : Int) bs w.drew hn (hi.all (Nat.le_of_lt hb.lt)) hi.hbs
    rw [getI_ok hl hp] at hN
    have hbound : ∀ x q, numP bs p = some (x, q) → q ≤ n := fun x q e => by
      have := (getI_bound ((getI_ok hl hp).trans e)).2
      omega
    have c0 := hb.cell 0
    have c1 := hb.cell 1
    have c2 := hb.cell 2
    have f1 := hb.frozen 1
    have f2 := hb.frozen 2
    simp at c0 c1 c2
    have HN := Lib.hid hN
    have HB := Lib.hid hb
    have HQ := Lib.hid hbound
    have C5 : Hid (∀ w5, Below w.drew.heap.size w.drew w5 → w5.cell? ⟨r, 0, none⟩ = some (.slice A n c) ∧ w5.cell? ⟨r, 1, none⟩ = some (.int .i64 (p : Int))) := fun w5 hb5 => by
      have h5 := (show Blk w.drew r _ _ from hb).below hb5 hb.lt
      have a0 := h5.cell 0
      have a1 := h5.cell 1
      simp at a0 a1
      exact ⟨a0, a1⟩
    have B0 : Hid (Below w.drew.heap.size w.drew w.drew) := Below.refl _ _
    have F5 : Hid (∀ w5, Below w.drew.heap.size w.drew w5 → Blk w5 r 85 #[.slice A n c, .int .i64 (p : Int), .bool false] ∧ w.grownBy w5 (some r)) := fun w5 hb5 => by
      refine ⟨(show Blk w.drew r _ _ from hb).below hb5 hb.lt, ?_⟩
      have := only_of_below hb5 (some r)
      exact ⟨this.os, this.tape, this.output, this.size, this.block⟩
    clear hN hb hbound hi hl
    show Calls Tryd.prog _ _ w (NumAny w r A n c (numP bs p))
    generalize numP bs p = o at HN HQ ⊢
    rcases o with _ | ⟨x, q⟩
    all_goals
      go_enter Tryd.func72, Tryd.ntmps72
      go_wp2_with fail
      go_region_held3 (fun w' => w'.cell? ⟨r, 0, none⟩ = some (.slice A n c) ∧ w'.cell? ⟨r, 1, none⟩ = some (.int .i64 (p : Int))) (first | (with_reducible exact (C5.out _ B0.out)) | (with_reducible exact (C5.out _ B5.out))) ((go_at_call 80; refine (HN.out).mono ?_; rintro e w5 ⟨he, hb5⟩; dsimp only [resI] at he; subst he; have B5 := Lib.hid hb5; clear hb5))
      obtain ⟨hB5, hG5⟩ := F5.out _ B5.out
      have k1 := hB5.cell 1
      have k2 := hB5.cell 2
      have g1 := hB5.frozen 1
      have g2 := hB5.frozen 2
      simp at k1 k2
      have HB5 := Lib.hid hB5
      have HG5 := Lib.hid hG5
      clear hB5 hG5
      go_wp2_with fail
      go_ret
    · exact ⟨_, rfl, (fun y hy => by cases hy), ⟨0, ((HB5.out).set_ 1 _).set_ 2 _⟩, only_setCell (only_setCell HG5.out (.inl rfl) _) (.inl rfl) _⟩
    · exact ⟨_, rfl, (fun y hy => by injection hy with hy; rw [← hy]), ⟨((HB5.out).set_ 1 _).set_ 2 _, HQ.out x q rfl⟩, only_setCell (only_setCell HG5.out (.inl rfl) _) (.inl rfl) _⟩
set_option maxRecDepth 100000 in
set_option maxHeartbeats 1000000 in
theorem ptext_any {w : World} {r n c : Nat} {A : Option Addr} {bs : List Nat} {s : Option Nat} (h : PRd w r A n c s) (hi : RdIn w r A n c bs) :
    Calls Tryd.prog 73 #[.pointer (some ⟨r, 0, none⟩)] w (TextAny w r A n c (s.bind (textP bs))) := by
  have hl := hi.len
  have hn := hi.hn
  rcases s with _ | p
  · obtain ⟨z, hb⟩ := h
    have c2 := hb.cell 2
    simp at c2
    have HB := Lib.hid hb
    clear hb hi hl hn
    go_enter Tryd.func73, Tryd.ntmps73
    go_wp2_with fail
    go_ret
    exact ⟨ByteArray.empty, rfl, (fun y hy => by cases hy), ⟨z, HB.out⟩, World.grownBy.refl w _⟩
  · obtain ⟨hb, hp⟩ := h
    have hN := getText_any A n c (p : Int) bs w.drew hn hi.hnc (hi.all (Nat.le_of_lt hb.lt)) hi.hbs
    rw [getT_ok hl hp] at hN
    have hbound : ∀ x q, textP bs p = some (x, q) → q ≤ n := fun x q e => by
      have := textP_le e
      omega
    have c0 := hb.cell 0
    have c1 := hb.cell 1
    have c2 := hb.cell 2
    have f1 := hb.frozen 1
    have f2 := hb.frozen 2
    simp at c0 c1 c2
    have HN := Lib.hid hN
    have HB := Lib.hid hb
    have HQ := Lib.hid hbound
    have C5 : Hid (∀ w5, Below w.drew.heap.size w.drew w5 → w5.cell? ⟨r, 0, none⟩ = some (.slice A n c) ∧ w5.cell? ⟨r, 1, none⟩ = some (.int .i64 (p : Int))) := fun w5 hb5 => by
      have h5 := (show Blk w.drew r _ _ from hb).below hb5 hb.lt
      have a0 := h5.cell 0
      have a1 := h5.cell 1
      simp at a0 a1
      exact ⟨a0, a1⟩
    have B0 : Hid (Below w.drew.heap.size w.drew w.drew) := Below.refl _ _
    have F5 : Hid (∀ w5, Below w.drew.heap.size w.drew w5 → Blk w5 r 85 #[.slice A n c, .int .i64 (p : Int), .bool false] ∧ w.grownBy w5 (some r)) := fun w5 hb5 => by
      refine ⟨(show Blk w.drew r _ _ from hb).below hb5 hb.lt, ?_⟩
      have := only_of_below hb5 (some r)
      exact ⟨this.os, this.tape, this.output, this.size, this.block⟩
    clear hN hb hbound hi hl
    show Calls Tryd.prog _ _ w (TextAny w r A n c (textP bs p))
    generalize textP bs p = o at HN HQ ⊢
    rcases o with _ | ⟨x, q⟩
    all_goals
      go_enter Tryd.func73, Tryd.ntmps73
      go_wp2_with fail
      go_region_held3 (fun w' => w'.cell? ⟨r, 0, none⟩ = some (.slice A n c) ∧ w'.cell? ⟨r, 1, none⟩ = some (.int .i64 (p : Int))) (first | (with_reducible exact (C5.out _ B0.out)) | (with_reducible exact (C5.out _ B5.out))) ((go_at_call 81; refine (HN.out).mono ?_; rintro e w5 ⟨he, hb5⟩; dsimp only [resT] at he; subst he; have B5 := Lib.hid hb5; clear hb5))
      obtain ⟨hB5, hG5⟩ := F5.out _ B5.out
      have k1 := hB5.cell 1
      have k2 := hB5.cell 2
      have g1 := hB5.frozen 1
      have g2 := hB5.frozen 2
      simp at k1 k2
      have HB5 := Lib.hid hB5
      have HG5 := Lib.hid hG5
      clear hB5 hG5
      go_wp2_with fail
      go_ret
    · exact ⟨_, rfl, (fun y hy => by cases hy), ⟨0, ((HB5.out).set_ 1 _).set_ 2 _⟩, only_setCell (only_setCell HG5.out (.inl rfl) _) (.inl rfl) _⟩
    · exact ⟨_, rfl, (fun y hy => by injection hy with hy; rw [← hy]), ⟨((HB5.out).set_ 1 _).set_ 2 _, HQ.out x q rfl⟩, only_setCell (only_setCell HG5.out (.inl rfl) _) (.inl rfl) _⟩

def CntAny (w : World) (r : Nat) (A : Option Addr) (n c : Nat) (o : Option (Nat × Nat)) (e : Ending) (w' : World) : Prop :=
  ∃ v : Nat, e = .returned (.int .i64 (v : Int)) ∧ v ≤ 1000000000 ∧ (∀ y, o = some y → y.1 = v) ∧ (o = none → v = 0) ∧ PRd w' r A n c (o.map (·.2)) ∧ w.grownBy w' (some r)
/-- what a walk over the parser knows -/
structure LMid (w0 w : World) (r : Nat) (A : Option Addr) (n c : Nat) (bs : List Nat) (s : Option Nat) : Prop where
  rd : PRd w r A n c s
  inn : RdIn w r A n c bs
  gr : w0.grownBy w (some r)
  old : r < w0.heap.size
section
variable {w0 w w' : World} {r n c : Nat} {A : Option Addr} {bs : List Nat} {s s' : Option Nat}
theorem LMid.next (h : LMid w0 w r A n c bs s) (hr : PRd w' r A n c s') (hg : w.grownBy w' (some r)) : LMid w0 w' r A n c bs s' :=
  ⟨hr, h.inn.grown hg (Nat.le_of_lt h.rd.lt), h.gr.trans hg, h.old⟩
theorem LMid.grows {v v' : Value} (h : LMid w0 w r A n c bs s) (hg : Grows w w' v v') (hv : ∀ g, v.ownBlock = some g → w0.heap.size ≤ g) : LMid w0 w' r A n c bs s := by
  have ho := h.old
  have hne : some r ≠ v.ownBlock := fun e => by have := hv r e.symm; omega
  refine ⟨h.rd.grown hg.grown hne, ⟨h.inn.hn, h.inn.hnc, h.inn.hr.keep (fun p hp => World.cell?_of_block (hg.grown.block p.block (by have := h.rd.lt; omega) (fun e => by have := hv p.block e.symm; omega))), h.inn.hbs⟩, ?_, h.old⟩
  refine ⟨hg.grown.os.trans h.gr.os, hg.grown.tape.trans h.gr.tape, hg.grown.output.trans h.gr.output, Nat.le_trans h.gr.size hg.grown.size, fun i hi hne2 => (hg.grown.block i (Nat.lt_of_lt_of_le hi h.gr.size) (fun e => ?_)).trans (h.gr.block i hi hne2)⟩
  have := hv i e.symm
  omega
theorem LMid.alloc (h : LMid w0 w r A n c bs s) (o : Obj) : LMid w0 (w.alloc o) r A n c bs s :=
  ⟨h.rd.alloc o, h.inn.alloc (Nat.le_of_lt h.rd.lt) o, only_alloc h.gr o, h.old⟩
theorem LMid.setCell (h : LMid w0 w r A n c bs s) {p : Addr} (hp : w0.heap.size ≤ p.block) (u : Value) : LMid w0 (w.setCell p u) r A n c bs s :=
  ⟨h.rd.far (by have := h.old; omega) u, h.inn.setCell (by have := h.old; omega) u, only_setCell h.gr (.inr hp) u, h.old⟩
theorem LMid.drewN (h : LMid w0 w r A n c bs s) (k : Nat) : LMid w0 (w.drewN k) r A n c bs s := ⟨h.rd, ⟨h.inn.hn, h.inn.hnc, h.inn.hr, h.inn.hbs⟩, only_drewN h.gr k, h.old⟩
end
theorem map_none {α β : Type} {f : α → β} {o : Option α} (h : o = none) : o.map f = none := by rw [h]; rfl
set_option maxRecDepth 100000 in
set_option maxHeartbeats 1000000 in
theorem pcount_any {w : World} {r n c : Nat} {A : Option Addr} {bs : List Nat} {s : Option Nat} (h : PRd w r A n c s) (hi : RdIn w r A n c bs) :
    Calls Tryd.prog 56 #[.pointer (some ⟨r, 0, none⟩)] w (CntAny w r A n c (s.bind (countP bs))) := by
  have hl := hi.len
  have hn := hi.hn
  have L0 := Lib.hid (⟨h, hi, World.grownBy.refl w _, h.lt⟩ : LMid w w r A n c bs s)
  have hcp : s.bind (countP bs) = (s.bind (numP bs)).bind fun y => if y.1 < 0 ∨ (bs.length : Int) - y.2 < y.1 then none else some (y.1.toNat, y.2) := by cases s <;> rfl
  have HN := Lib.hid (pnumber_any h hi)
  rw [hcp]
  clear h hi hcp
  generalize (s.bind (numP bs)) = o at HN ⊢
  rcases o with _ | ⟨x, q⟩
  · show Calls Tryd.prog _ _ w (CntAny w r A n c none)
    go_enter Tryd.func56, Tryd.ntmps56
    go_wp2_with fail
    refine (HN.out).mono ?_
    rintro e w1 ⟨a, rfl, K1, hrd, hg⟩
    have L1 := Lib.hid ((L0.out).next hrd hg)
    clear hrd hg L0 HN
    obtain ⟨z1, hb1⟩ := (L1.out).rd
    have c2 := hb1.cell 2
    have f2 := hb1.frozen 2
    simp at c2
    have HB := Lib.hid hb1
    clear hb1 hl K1
    go_wp2_with fail
    go_quiet (fail)
    go_wp2_with fail
    go_ret
    exact ⟨0, rfl, by omega, (fun z hz => by cases hz), (fun _ => rfl), ⟨_, ((HB.out).drewN _).set_ 2 _⟩, only_setCell (only_drewN (L1.out).gr _) (.inl rfl) _⟩
  · show Calls Tryd.prog _ _ w (CntAny w r A n c (if x < 0 ∨ (bs.length : Int) - q < x then none else some (x.toNat, q)))
    have key : ∀ w1 : World, LMid w w1 r A n c bs (some q) → Blk w1 r 85 #[.slice A n c, .int .i64 (q : Int), .bool false] ∧ q ≤ n := fun w1 h => h.rd
    have KEY := Lib.hid key
    clear key
    by_cases hbad : x < 0 ∨ (bs.length : Int) - q < x
    · rw [if_pos hbad]
      rw [hl] at hbad
      have hd : (decide (x < 0) = true) ∨ (decide (x < 0) = false ∧ decide ((n : Int) - q < x) = true) := by simp; omega
      clear hl hbad
      rcases hd with d1 | ⟨d1, d2⟩
      all_goals
        go_enter Tryd.func56, Tryd.ntmps56
        go_wp2_with fail
        refine (HN.out).mono ?_
        rintro e w1 ⟨a, rfl, K1, hrd, hg⟩
        obtain rfl : x = a := K1 _ rfl
        have L1 := Lib.hid ((L0.out).next hrd hg)
        clear hrd hg L0 HN K1
        obtain ⟨hb1, hq⟩ := KEY.out w1 L1.out
        have c0 := hb1.cell 0
        have c1 := hb1.cell 1
        have c2 := hb1.cell 2
        have f2 := hb1.frozen 2
        simp at c0 c1 c2
        have HB := Lib.hid hb1
        clear hb1
        go_wp2_with fail
        go_quiet (fail)
        go_wp2_with fail
        go_ret
        exact ⟨0, rfl, by omega, (fun z hz => by cases hz), (fun _ => rfl), ⟨_, ((HB.out).drewN _).set_ 2 _⟩, only_setCell (only_drewN (L1.out).gr _) (.inl rfl) _⟩
    · rw [if_neg hbad]
      rw [hl] at hbad
      obtain ⟨m, rfl⟩ := Int.eq_ofNat_of_zero_le (show 0 ≤ x by omega)
      have d1 : decide ((m : Int) < 0) = false := by simp
      have d2 : decide ((n : Int) - q < (m : Int)) = false := by simp; omega
      have hm : m ≤ 1000000000 := by omega
      clear hl hbad
      go_enter Tryd.func56, Tryd.ntmps56
      go_wp2_with fail
      refine (HN.out).mono ?_
      rintro e w1 ⟨a, rfl, K1, hrd, hg⟩
      obtain rfl : (m : Int) = a := K1 _ rfl
      have L1 := Lib.hid ((L0.out).next hrd hg)
      clear hrd hg L0 HN K1
      obtain ⟨hb1, hq⟩ := KEY.out w1 L1.out
      have c0 := hb1.cell 0
      have c1 := hb1.cell 1
      have c2 := hb1.cell 2
      have f2 := hb1.frozen 2
      simp at c0 c1 c2
      have HB := Lib.hid hb1
      clear hb1
      go_wp2_with fail
      go_quiet (fail)
      go_wp2_with fail
      go_ret
      exact ⟨m, rfl, hm, (fun z hz => by injection hz with hz; rw [← hz]; rfl), (fun h => by cases h), ⟨(HB.out).drewN _, hq⟩, only_drewN (L1.out).gr _⟩

theorem own_ge {w : World} {base : Nat} {e : TypeId} {size n : Nat} {v : Value} {xs : List Value} (h : w.ownsRow base e size v n xs) {g : Nat} (hv : v.ownBlock = some g) : base ≤ g := by
  rcases h.2 with ⟨rfl, _⟩ | ⟨g', cap, cur, rfl, hb, _⟩
  · simp [Value.ownBlock] at hv
  · have : g' = g := by simpa [Value.ownBlock] using hv
    omega
theorem own_ne {w : World} {base r : Nat} {e : TypeId} {size n : Nat} {v : Value} {xs : List Value} (h : w.ownsRow base e size v n xs) (hr : r < base) : v.ownBlock ≠ some r := fun hv => by have := own_ge h hv; omega
theorem own_lt' {w : World} {base : Nat} {e : TypeId} {size n : Nat} {v : Value} {xs : List Value} (h : w.ownsRow base e size v n xs) {g : Nat} (hv : v.ownBlock = some g) : g < w.heap.size := by
  rcases h.2 with ⟨rfl, _⟩ | ⟨g', cap, cur, rfl, hb, hg, _⟩
  · simp [Value.ownBlock] at hv
  · have e1 : g' = g := by simpa [Value.ownBlock] using hv
    subst e1
    exact (show Blk w g' e cur from hg).lt
theorem own_reads {w : World} {base : Nat} {e : TypeId} {size n : Nat} {v : Value} {xs : List Value} (h : w.ownsRow base e size v n xs) : ∃ A c, v = .slice A n c ∧ Reads w w.heap.size size A n xs ∧ (∀ a, A = some a → base ≤ a.block ∧ a.block < w.heap.size) := by
  obtain ⟨A, c, rfl, h1, h2⟩ := reads_of_owns h
  refine ⟨A, c, rfl, h1, fun a ha => ⟨(h2 a ha).1, ?_⟩⟩
  obtain ⟨b, off, spot⟩ := a
  obtain ⟨-, h4, h5⟩ := h2 _ ha
  have h4 : spot = none := h4
  have h5 : off = 0 := h5
  subst ha h4 h5
  exact own_lt' h (by simp [Value.ownBlock])
theorem manyP_none {α : Type} {f : Nat → Option (α × Nat)} : ∀ (m i p : Nat), i ≤ m → manyP f i p = none → manyP f m p = none
  | 0, i, p, hi, h => by
    obtain rfl : i = 0 := by omega
    exact h
  | m + 1, i, p, hi, h => by
    rcases Nat.lt_or_ge m i with h1 | h1
    · obtain rfl : i = m + 1 := by omega
      exact h
    · rw [manyP_snoc, manyP_none m i p h1 h]
      rfl

def LPost {α β : Type} (vals : α → List Value) (pr : α → β) (G : World → Value → α → Prop) (k : Nat) (w : World) (r : Nat) (A : Option Addr) (n c : Nat) (o : Option (List β × Nat)) (e : Ending) (w' : World) : Prop :=
  ∃ B cc, ∃ xs : List α, e = .returned (.slice B xs.length cc) ∧ (∀ z, o = some z → z.1 = xs.map pr ∧ ∀ x ∈ xs, G w' (.slice B xs.length cc) x) ∧ Reads w' w'.heap.size k B xs.length (xs.flatMap vals) ∧ (∀ ad, B = some ad → w.heap.size ≤ ad.block ∧ ad.block < w'.heap.size) ∧ PRd w' r A n c (o.map (·.2)) ∧ w.grownBy w' (some r)
structure LRel {α β : Type} (vals : α → List Value) (pr : α → β) (G : World → Value → α → Prop) (T : TypeId) (k : Nat) (f : Nat → Option (β × Nat)) (w wr : World) (r : Nat) (A : Option Addr) (n c : Nat) (bs : List Nat) (q m i : Nat) (s : Option Nat) (xs : List α) (v : Value) : Prop where
  le : i ≤ m
  len : xs.length = i
  st : (manyP f i q).map (·.2) = s
  xs_ : ∀ z, manyP f i q = some z → z.1 = xs.map pr ∧ ∀ x ∈ xs, G wr v x
  own : wr.ownsRow w.heap.size T k v i (xs.flatMap vals)
  mid : LMid w wr r A n c bs s
section
variable {α β : Type} {vals : α → List Value} {pr : α → β} {G : World → Value → α → Prop} {T : TypeId} {k : Nat} {f : Nat → Option (β × Nat)} {w wr w2 : World} {r n c q m i : Nat} {A : Option Addr} {bs : List Nat} {s : Option Nat} {xs : List α} {v v2 : Value} {a : α}
theorem LRel.step (h : LRel vals pr G T k f w wr r A n c bs q m i s xs v) (him : i < m) (ka : ∀ y, s.bind f = some y → y.1 = pr a)
    (hown : w2.ownsRow w.heap.size T k v2 (i + 1) (xs.flatMap vals ++ vals a)) (hm : LMid w w2 r A n c bs ((s.bind f).map (·.2))) (hG : (∀ x ∈ xs, G wr v x) → (∃ y, s.bind f = some y) → ∀ x, x ∈ xs ++ [a] → G w2 v2 x) : LRel vals pr G T k f w w2 r A n c bs q m (i + 1) ((s.bind f).map (·.2)) (xs ++ [a]) v2 := by
  refine ⟨him, by rw [List.length_append, h.len]; rfl, ?_, fun z hz => ?_, by rw [List.flatMap_append, List.flatMap_cons, List.flatMap_nil, List.append_nil]; exact hown, hm⟩
  · rw [manyP_snoc, ← h.st]
    cases manyP f i q with
    | none => rfl
    | some y =>
      show ((f y.2).map _).map _ = (f y.2).map _
      cases f y.2 <;> rfl
  · rw [manyP_snoc] at hz
    obtain ⟨y, hy, hz⟩ := Option.bind_eq_some_iff.1 hz
    obtain ⟨x, hx, rfl⟩ := Option.map_eq_some_iff.1 hz
    obtain ⟨e1, eG⟩ := h.xs_ y hy
    have e2 := h.st
    rw [hy] at e2
    have e4 : s.bind f = some x := by rw [← e2]; exact hx
    have e3 := ka x e4
    refine ⟨?_, hG eG ⟨x, e4⟩⟩
    rw [List.map_append, ← e1, List.map_cons, List.map_nil, ← e3]
theorem LRel.done {o : Option (List β × Nat)} (h : LRel vals pr G T k f w wr r A n c bs q m i s xs v) (he : i = m ∨ s = none) (ho : o = manyP f m q) : LPost vals pr G k w r A n c o (.returned v) wr := by
  obtain ⟨B, cc, rfl, hr, hB⟩ := own_reads h.own
  have hlen := h.len
  subst hlen
  have key : (∀ z, o = some z → z.1 = xs.map pr ∧ ∀ x ∈ xs, G wr (.slice B xs.length cc) x) ∧ o.map (·.2) = s := by
    rcases he with rfl | he
    · rw [ho]; exact ⟨h.xs_, h.st⟩
    · have h1 : manyP f xs.length q = none := by
        have := h.st
        rw [he] at this
        simpa using this
      rw [ho, manyP_none m xs.length q h.le h1, he]
      exact ⟨(fun z hz => by cases hz), rfl⟩
  refine ⟨B, cc, xs, rfl, key.1, hr, hB, ?_, h.mid.gr⟩
  rw [key.2]
  exact h.mid.rd
end
theorem list_count {α : Type} (f : Nat → Option (α × Nat)) (bs : List Nat) (s : Option Nat) : s.bind (listP f bs) = (s.bind (countP bs)).bind fun y => manyP f y.1 y.2 := by cases s <;> rfl
def IntsPost (w : World) (r : Nat) (A : Option Addr) (n c : Nat) (o : Option (List Int × Nat)) : Ending → World → Prop :=
  LPost (α := Int) (β := Int) (fun x => [Value.int .i64 x]) id (fun _ _ _ => True) 1 w r A n c o

set_option maxRecDepth 100000 in
set_option maxHeartbeats 1000000 in
theorem pnumbers_any {w : World} {r n c : Nat} {A : Option Addr} {bs : List Nat} {s : Option Nat} (h : PRd w r A n c s) (hi : RdIn w r A n c bs) :
    Calls Tryd.prog 58 #[.pointer (some ⟨r, 0, none⟩)] w (IntsPost w r A n c (s.bind (listP (numP bs) bs))) := by
  have L0 := Lib.hid (⟨h, hi, World.grownBy.refl w _, h.lt⟩ : LMid w w r A n c bs s)
  have HN := Lib.hid (pcount_any h hi)
  rw [list_count]
  clear h hi
  obtain ⟨i0, hi0, hz0, hz1, hz2⟩ := info_parts int_info
  generalize (s.bind (countP bs)) = o at HN ⊢
  rcases o with _ | ⟨m, q⟩
  · show Calls Tryd.prog _ _ w (IntsPost w r A n c none)
    go_enter Tryd.func58, Tryd.ntmps58
    go_wp2_with fail
    refine (HN.out).mono ?_
    rintro e w1 ⟨v, rfl, hv, -, K1, hrd, hg⟩
    obtain rfl := K1 rfl
    have L1 := Lib.hid ((L0.out).next hrd hg)
    clear hrd hg L0 HN K1 hv
    go_wp2_with fail
    refine wp_loop_rounds 1 ?_
    rw [rounds_succ]
    go_wp2_with fail
    go_ret
    exact ⟨none, 0, [], rfl, (fun z hz => by cases hz), Reads.none_, (fun ad h => by cases h), (L1.out).rd, (L1.out).gr⟩
  · show Calls Tryd.prog _ _ w (IntsPost w r A n c (manyP (numP bs) m q))
    have R0 : Hid (∀ w1, LMid w w1 r A n c bs (some q) → LRel (α := Int) (β := Int) (fun x => [Value.int .i64 x]) id (fun _ _ _ => True) 3 1 (numP bs) w w1 r A n c bs q m 0 (some q) [] (.slice none 0 0)) := fun w1 h =>
      ⟨Nat.zero_le _, rfl, rfl, (fun z hz => by injection hz with hz; rw [← hz]; exact ⟨rfl, fun x hx => by cases hx⟩), ⟨rfl, .inl ⟨rfl, rfl⟩⟩, h⟩
    go_enter Tryd.func58, Tryd.ntmps58
    go_wp2_with fail
    refine (HN.out).mono ?_
    rintro e w1 ⟨v, rfl, hv, K0, -, hrd, hg⟩
    obtain rfl : m = v := K0 _ rfl
    have R1 := Lib.hid (R0.out _ ((L0.out).next hrd hg))
    clear hrd hg L0 HN K0 R0
    go_wp2_with fail
    go_loopw [3, 4] (fun v iv wr => ∃ (i : Nat) (s' : Option Nat) (xs : List Int), iv = .int .i64 ((m - i : Nat) : Int) ∧ LRel (α := Int) (β := Int) (fun x => [Value.int .i64 x]) id (fun _ _ _ => True) 3 1 (numP bs) w wr r A n c bs q m i s' xs v) (fun _ iv _ => (intOf iv).toNat)
    case atStart => exact ⟨0, some q, [], rfl, R1.out⟩
    case round =>
      obtain ⟨i, s', xs, rfl, hR⟩ := hrel
      have HR := Lib.hid hR
      have hle := hR.le
      clear hR R1
      by_cases him : i < m
      · have dim : decide (((m - i : Nat) : Int) > 0) = true := by simp; omega
        have dim2 : decide (0 < m - i) = true := by simp; omega
        have e1 : IntKind.i64.wrap (((m - i : Nat) : Int) - 1) = ((m - (i + 1) : Nat) : Int) := by rw [IntKind.wrap_i64]; omega
        rcases s' with _ | p
        · obtain ⟨z1, hb1⟩ := (HR.out).mid.rd
          have c2 := hb1.cell 2
          simp at c2
          clear hb1
          go_wp2_with fail
          go_ret
          exact (HR.out).done (.inr rfl) rfl
        · have hb1 := (HR.out).mid.rd.1
          have c2 := hb1.cell 2
          simp at c2
          clear hb1
          go_wp2_with fail
          refine (pnumber_any (HR.out).mid.rd (HR.out).mid.inn).mono ?_
          rintro e w2 ⟨a, rfl, K2, hrd, hg⟩
          replace K2 := Lib.hid K2
          have L2 := Lib.hid ((HR.out).mid.next hrd hg)
          have O2 := Lib.hid ((HR.out).own.kept hg (.inr (own_ne (HR.out).own (HR.out).mid.old)))
          have hs2 := (L2.out).gr.size
          clear hrd hg c2
          go_wp2_with (at_builtin; refine wpList_append_row _ rfl (.tmp 18) (.tmp 21) 27 27 rfl w.heap.size 3 i0 (.int .i64 0) 1 8 Tryd.underlying27 hi0 hz0 hz1 hz2 rfl (by decide) _ _ _ rfl ((O2.out).alloc _) _ 1 _ rfl (src_new _ Tryd.underlying27 [_] 1 1 1 3 rfl (fun u hu => by simp at hu; subst hu; rfl)) (by unfold maxLen; omega) (by omega) (by simp; omega) ?_)
          intro v3 w3 hown3 hg3
          have R3 := Lib.hid ((HR.out).step him (K2.out) hown3 (((L2.out).alloc _).grows hg3 (fun g hv => own_ge (O2.out) hv)) (fun _ _ _ _ => trivial))
          clear hown3 hg3 hs2
          go_wp2_with fail
          go_roundw
          case rel => exact ⟨i + 1, _, _, by go_num, R3.out⟩
          case measure => simp [intOf]; omega
      · have dim : decide (((m - i : Nat) : Int) > 0) = false := by simp; omega
        have dim2 : decide (0 < m - i) = false := by simp; omega
        go_wp2_with fail
        go_ret
        exact (HR.out).done (.inl (by omega)) rfl
end Go.Proofs.YtdabmjcpiblofaaDoor
