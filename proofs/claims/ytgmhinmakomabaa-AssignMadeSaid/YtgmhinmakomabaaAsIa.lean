/-
  hungarian: what is known at the head of its inner loop, and behind each step. No condition.
-/
import Derived.Test.YtgmhinmakomabaaAsI
namespace Go.Proofs.Ytgmhinmakomabaa
open Go.RowKit
set_option linter.unusedVariables false

abbrev farV : Int := 1125899906842624
theorem cnt_sh (s0 : Bool) (d : Nat → Bool) : ∀ n, cnt (sh s0 d) (n + 1) = cnt d n + if s0 then 1 else 0
  | 0 => by cases s0 <;> simp [cnt, sh]
  | n + 1 => by
    show cnt (sh s0 d) (n + 1) + (if sh s0 d (n + 1) then 1 else 0) = cnt d n + (if d n then 1 else 0) + if s0 then 1 else 0
    rw [cnt_sh s0 d n]
    show _ + (if d n then 1 else 0) = _
    omega

/-- the first cells of least are far -/
def LFar (J : Nat) (l0 : Int) (sl : Nat → Int) : Prop := (0 < J → l0 = farV) ∧ ∀ i, i + 1 < J → sl i = farV
section
variable {w wr w2 : World} {n cc s k m : Nat} {A : Option Addr} {b : HB} {c : Nat → Nat → Int} {u v ow sl : Nat → Int} {x0 y0 r0 l0 : Int} {s0 : Bool} {wy fr ord : Nat → Nat} {d : Nat → Bool} {tt : Nat → Nat} {D : Int}
/-- least is being filled -/
def LFill (w : World) (A : Option Addr) (n cc : Nat) (b : HB) (c : Nat → Nat → Int) (u v ow : Nat → Int) (x0 y0 r0 : Int) (s J : Nat) (wr : World) : Prop :=
  ∃ l0 sl, HP w wr A n cc b c u v ow x0 y0 r0 s (fun _ => 0) l0 sl false (fun _ => false) ∧ LFar J l0 sl
theorem LFill.next {J : Nat} (h : LFill w A n cc b c u v ow x0 y0 r0 s J wr) (hJ : J < n + 1) : (∃ y, wr.cell? ⟨s + 1, J, none⟩ = some y) ∧ wr.frozen? ⟨s + 1, J, none⟩ = false ∧ LFill w A n cc b c u v ow x0 y0 r0 s (J + 1) (wr.setCell ⟨s + 1, J, none⟩ (.int .i64 farV)) := by
  obtain ⟨l0, sl, h1, h2, h3⟩ := h
  refine ⟨⟨_, h1.vl.at_ hJ⟩, Vec.frozen h1.vl J, ?_⟩
  cases J with
  | zero => exact ⟨_, _, h1.setL0 farV, fun _ => rfl, fun i hi => absurd hi (by omega)⟩
  | succ j =>
    refine ⟨_, _, h1.setL j farV, fun _ => h2 (by omega), fun i hi => ?_⟩
    by_cases e : i = j
    · subst e; exact upd_same _ _ _
    · rw [upd_ne _ _ e]; exact h3 i (by omega)
theorem LFill.done (h : LFill w A n cc b c u v ow x0 y0 r0 s (n + 1) wr) : HP w wr A n cc b c u v ow x0 y0 r0 s (fun _ => 0) farV (fun _ => farV) false (fun _ => false) := by
  obtain ⟨l0, sl, h1, h2, h3⟩ := h
  obtain rfl : l0 = farV := h2 (by omega)
  exact h1.congr (fun _ _ => rfl) (fun _ _ => rfl) (fun _ _ => rfl) (fun _ _ => rfl) (fun i hi => (h3 i (by omega)).symm) (fun _ _ => rfl)

/-- the head of the loop -/
def HunH (w : World) (A : Option Addr) (n cc : Nat) (b : HB) (c : Nat → Nat → Int) (k s at_ : Nat) (wr : World) : Prop :=
  (∃ u v tt ow x0 y0, at_ = 0 ∧ Ph n k c u v tt ow ∧ HP w wr A n cc b c u v ow x0 y0 ((k : Int) + 1) s (fun _ => 0) farV (fun _ => farV) false (fun _ => false) ∧ -(1048576 * (k : Int)) ≤ y0 ∧ y0 ≤ 0) ∨
  (∃ u v tt ow x0 y0 x d sl fr ord m D wy, at_ = x + 1 ∧ x < n ∧ Gr n k c u v tt ow d sl fr ord m D ∧ sl x = 0 ∧ d x = false ∧ WayOk n k ow wy fr ∧ HP w wr A n cc b c u v ow x0 y0 ((k : Int) + 1) s wy farV sl true d ∧ -(1048576 * (k : Int)) - D ≤ y0 ∧ y0 ≤ 0)
/-- a free column is found -/
def HunF (w : World) (A : Option Addr) (n cc : Nat) (b : HB) (c : Nat → Nat → Int) (k s x : Nat) (wr : World) : Prop :=
  ∃ u v tt ow x0 y0 d sl fr ord m D wy, x < n ∧ Gr n k c u v tt ow d sl fr ord m D ∧ sl x = 0 ∧ ow x = -1 ∧ WayOk n k ow wy fr ∧ HP w wr A n cc b c u v ow x0 y0 ((k : Int) + 1) s wy farV sl true d ∧ -(1048576 * ((k : Int) + 1)) ≤ y0 ∧ y0 ≤ 0
/-- a row is looked at -/
structure HunP (w : World) (A : Option Addr) (n cc : Nat) (b : HB) (c : Nat → Nat → Int) (k s at_ : Nat) (wr : World) (u v : Nat → Int) (tt : Nat → Nat) (ow : Nat → Int) (x0 y0 : Int) (wy : Nat → Nat) (sl : Nat → Int) (d : Nat → Bool) (r : Nat) (D : Int) (g : Nat → Int) : Prop where
  an : at_ ≤ n
  rn : r < n
  row : wr.cell? ⟨b.r, at_, none⟩ = some (.int .i64 ((r : Int) + 1))
  used : ∃ z, wr.cell? ⟨s + 1 + 1, at_, none⟩ = some z
  usedf : wr.frozen? ⟨s + 1 + 1, at_, none⟩ = false
  hp : HP w (wr.setCell ⟨s + 1 + 1, at_, none⟩ (.bool true)) A n cc b c u v ow x0 y0 ((k : Int) + 1) s wy farV sl true d
  gg : ∀ j, g j = c r j - u r - v j
  gr : ∃ fr ord m, Gr n k c u v tt ow d (rS d sl g n) fr ord m D ∧ WayOk n k ow (rF d sl g wy at_ n) fr
  y1 : -(1048576 * (k : Int)) - D ≤ y0
  y2 : y0 ≤ 0
  cn : cnt d n + 1 = dmem wr (s + 1 + 1) (n + 1) + 1
theorem HunH.split {at_ : Nat} (h : HunH w A n cc b c k s at_ wr) (hk : k < n) (hc : CB n c) :
    (∃ x, at_ = x + 1 ∧ x < n ∧ wr.cell? ⟨b.r, x + 1, none⟩ = some (.int .i64 0) ∧ HunF w A n cc b c k s x wr) ∨
    ∃ u v tt ow x0 y0 wy sl d r D g, HunP w A n cc b c k s at_ wr u v tt ow x0 y0 wy sl d r D g := by
  rcases h with ⟨u, v, tt, ow, x0, y0, rfl, h1, h2, h3, h4⟩ | ⟨u, v, tt, ow, x0, y0, x, d, sl, fr, ord, m, D, wy, rfl, hx, h1, h2, h3, h4, h5, h6, h7⟩
  · obtain ⟨a1, a2⟩ := h1.relax hk (by have := h2.hx.n40; omega) hc (fun _ => 0)
    refine .inr ⟨u, v, tt, ow, x0, y0, fun _ => 0, fun _ => farV, fun _ => false, k, 0, fun j => c k j - u k - v j, ⟨by omega, hk, ?_, ⟨_, h2.vs.at_ (by omega)⟩, Vec.frozen h2.vs 0, h2.setS0 true, fun _ => rfl, ⟨_, _, _, a1, a2⟩, by omega, h4, ?_⟩⟩
    · exact h2.hx.vr.at_ (i := 0) (by omega)
    · rw [dmem_eq h2.vs, cnt_sh]; simp
  · rcases h1.col x hx with e | ⟨r, e1, e2, e3⟩
    · refine .inl ⟨x, rfl, hx, ?_, u, v, tt, ow, x0, y0, d, sl, fr, ord, m, D, wy, hx, h1, h2, e, h4, h5, by have := h1.Dle; omega, h7⟩
      have := h5.hx.vr.at_ (i := x + 1) (by omega)
      rw [this]
      show some (Value.int .i64 (ow x + 1)) = _
      rw [e]; rfl
    · have hkn := h1.kn
      obtain ⟨a1, _, _⟩ := h1.relax hx h3 h2 e2
      refine .inr ⟨u, v, tt, ow, x0, y0, wy, sl, upd d x true, r, D, fun j => c r j - u r - v j, ⟨by omega, by omega, ?_, ⟨_, h5.vs.at_ (i := x + 1) (by omega)⟩, Vec.frozen h5.vs _, h5.setS x true, fun _ => rfl, ⟨_, _, _, a1, h4.relax hx e2 _ _⟩, h6, h7, ?_⟩⟩
      · have := h5.hx.vr.at_ (i := x + 1) (by omega)
        rw [this]
        show some (Value.int .i64 (ow x + 1)) = _
        rw [e2]
      · rw [dmem_eq h5.vs, cnt_sh, cnt_upd h3 hx]; simp
/-- column q takes the row's number -/
theorem HP.take {q at_ : Nat} {g : Nat → Int} (h : HP w wr A n cc b c u v ow x0 y0 r0 s (rF d sl g wy at_ q) l0 (rS d sl g q) s0 d) (hd : d q = false) (hg : g q < sl q) (e : Nat) (hw : w2 = wr.drewN e) :
    HP w ((w2.setCell ⟨s + 1, q + 1, none⟩ (.int .i64 (g q))).setCell ⟨s, q + 1, none⟩ (.int .i64 (at_ : Int))) A n cc b c u v ow x0 y0 r0 s (rF d sl g wy at_ (q + 1)) l0 (rS d sl g (q + 1)) s0 d := by
  subst hw
  exact (((h.drewN e).setL q (g q)).setW q at_).congr (fun _ _ => rfl) (fun _ _ => rfl) (fun _ _ => rfl) (fun i _ => rF_take hd hg i) (fun i _ => rS_take hd hg i) (fun _ _ => rfl)
theorem HP.pass {q at_ : Nat} {g : Nat → Int} (h : HP w wr A n cc b c u v ow x0 y0 r0 s (rF d sl g wy at_ q) l0 (rS d sl g q) s0 d) (hd : d q = true ∨ sl q ≤ g q) (e : Nat) (hw : w2 = wr.drewN e) :
    HP w w2 A n cc b c u v ow x0 y0 r0 s (rF d sl g wy at_ (q + 1)) l0 (rS d sl g (q + 1)) s0 d := by
  subst hw
  exact (h.drewN e).congr (fun _ _ => rfl) (fun _ _ => rfl) (fun _ _ => rfl) (fun i _ => rF_skip hd i) (fun i _ => rS_skip hd i) (fun _ _ => rfl)
/-- column 0 is moved -/
theorem HP.move0 {δ : Int} (h : HP w wr A n cc b c u v ow x0 y0 r0 s wy l0 sl s0 d) (e : Nat) (hw : w2 = wr.drewN e) (k : Nat) (tt : Nat → Nat) :
    HP w ((w2.setCell ⟨b.u, k + 1, none⟩ (.int .i64 (u k + δ))).setCell ⟨b.v, 0, none⟩ (.int .i64 (y0 - δ))) A n cc b c (uJ k tt d u δ 0) (vJ d v δ 0) ow x0 (y0 - δ) r0 s wy l0 (sJ d sl δ 0) s0 d := by
  subst hw
  exact (((h.drewN e).setU k (u k + δ)).setV0 (y0 - δ)).congr (fun i _ => uJ_start i) (fun i _ => vJ_start i) (fun _ _ => rfl) (fun _ _ => rfl) (fun i _ => sJ_start i) (fun _ _ => rfl)
theorem HP.moveDone {q r : Nat} {δ : Int} (h : HP w wr A n cc b c (uJ k tt d u δ q) (vJ d v δ q) ow x0 y0 r0 s wy l0 (sJ d sl δ q) s0 d) (hg : Gr n k c u v tt ow d sl fr ord m D) (hq : q < n) (hd : d q = true) (hr : ow q = (r : Int)) (e : Nat) (hw : w2 = wr.drewN e) :
    HP w ((w2.setCell ⟨b.u, r + 1, none⟩ (.int .i64 (u r + δ))).setCell ⟨b.v, q + 1, none⟩ (.int .i64 (v q - δ))) A n cc b c (uJ k tt d u δ (q + 1)) (vJ d v δ (q + 1)) ow x0 y0 r0 s wy l0 (sJ d sl δ (q + 1)) s0 d := by
  subst hw
  exact (((h.drewN e).setU r (u r + δ)).setV q (v q - δ)).congr (fun i _ => (uJ_done hg hq hd hr).2 i) (fun i _ => vJ_done hd i) (fun _ _ => rfl) (fun _ _ => rfl) (fun i _ => sJ_done hd i) (fun _ _ => rfl)
theorem HP.moveNot {q : Nat} {δ : Int} (h : HP w wr A n cc b c (uJ k tt d u δ q) (vJ d v δ q) ow x0 y0 r0 s wy l0 (sJ d sl δ q) s0 d) (hd : d q = false) :
    HP w (wr.setCell ⟨s + 1, q + 1, none⟩ (.int .i64 (sl q - δ))) A n cc b c (uJ k tt d u δ (q + 1)) (vJ d v δ (q + 1)) ow x0 y0 r0 s wy l0 (sJ d sl δ (q + 1)) s0 d :=
  (h.setL q (sl q - δ)).congr (fun i _ => uJ_not hd i) (fun i _ => vJ_not hd i) (fun _ _ => rfl) (fun _ _ => rfl) (fun i _ => sJ_not hd i) (fun _ _ => rfl)
end

/-- between the rows -/
def HunA (w : World) (A : Option Addr) (n cc : Nat) (b : HB) (c : Nat → Nat → Int) (k : Nat) (wr : World) : Prop :=
  ∃ u v tt ow x0 y0 r0, Ph n k c u v tt ow ∧ HX w wr A n cc b c u v ow x0 y0 r0 ∧ -(1048576 * (k : Int)) ≤ y0 ∧ y0 ≤ 0
/-- the way back from column x -/
def HunT (w : World) (A : Option Addr) (n cc : Nat) (b : HB) (c : Nat → Nat → Int) (k s : Nat) (u v : Nat → Int) (tt : Nat → Nat) (ow : Nat → Int) (d : Nat → Bool) (fr ord : Nat → Nat) (wy : Nat → Nat) (sl : Nat → Int) (x0 y0 : Int) (x l : Nat) (wr : World) : Prop :=
  ∃ tt' ow', Tn n k c u v tt ow d fr ord x l tt' ow' ∧ HP w wr A n cc b c u v ow' x0 y0 ((k : Int) + 1) s wy farV sl true d
section
variable {w wr : World} {n cc s k m x l : Nat} {A : Option Addr} {b : HB} {c : Nat → Nat → Int} {u v ow sl : Nat → Int} {x0 y0 : Int} {wy fr ord : Nat → Nat} {d : Nat → Bool} {tt : Nat → Nat} {D : Int}
theorem HunT.step (t : HunT w A n cc b c k s u v tt ow d fr ord wy sl x0 y0 x l wr) (h : Gr n k c u v tt ow d sl fr ord m D) (hw : WayOk n k ow wy fr) (hx : x < n) (hy : -(1048576 * ((k : Int) + 1)) ≤ y0) (hy2 : y0 ≤ 0) :
    (wr.cell? ⟨s, x + 1, none⟩ = some (.int .i64 ((wy x : Nat) : Int))) ∧ (∃ z, wr.cell? ⟨b.r, x + 1, none⟩ = some z) ∧ wr.frozen? ⟨b.r, x + 1, none⟩ = false ∧ wy x ≤ n ∧
    ((wy x = 0 ∧ wr.cell? ⟨b.r, 0, none⟩ = some (.int .i64 ((k : Int) + 1)) ∧ HunA w A n cc b c (k + 1) (wr.setCell ⟨b.r, x + 1, none⟩ (.int .i64 ((k : Int) + 1)))) ∨
     ∃ p, wy x = p + 1 ∧ p < n ∧ wr.cell? ⟨b.r, p + 1, none⟩ = some (.int .i64 ((fr x : Int) + 1)) ∧ ord p < l ∧ d p = true ∧ HunT w A n cc b c k s u v tt ow d fr ord wy sl x0 y0 p (ord p) (wr.setCell ⟨b.r, x + 1, none⟩ (.int .i64 ((fr x : Int) + 1)))) := by
  obtain ⟨tt', ow', h1, h2⟩ := t
  have hwx : wy x ≤ n := by rcases hw x hx with ⟨e, _⟩ | ⟨p, e, hp, _⟩ <;> omega
  refine ⟨h2.vw.at_ (i := x + 1) (by omega), ⟨_, h2.hx.vr.at_ (i := x + 1) (by omega)⟩, Vec.frozen h2.hx.vr _, hwx, ?_⟩
  rcases hw x hx with ⟨e1, e2⟩ | ⟨p, e1, hp, e2⟩
  · refine .inl ⟨e1, h2.hx.vr.at_ (i := 0) (by omega), u, v, _, _, x0, y0, _, h1.last h e2, (h2.setR x (k : Int)).hx, ?_, hy2⟩
    rw [show ((k + 1 : Nat) : Int) = (k : Int) + 1 by omega]
    exact hy
  · have hne : fr x ≠ k := fun e => by
      obtain ⟨i, q1, q2, q3⟩ := (h.col p hp).resolve_left (by omega)
      omega
    obtain ⟨a1, a2, a3, a4⟩ := h1.back h hne
    obtain ⟨i, q1, q2, q3⟩ := (h.col p hp).resolve_left (by omega)
    obtain rfl : i = fr x := by omega
    rw [q3] at a3 a4
    have hd := (h1.px.resolve_left hne).2.1
    rw [q3] at hd
    have ho := (h1.same p hp hd a3).1
    refine .inr ⟨p, e1, hp, ?_, a3, hd, _, _, a4, h2.setR x (fr x : Int)⟩
    rw [h2.hx.vr.at_ (i := p + 1) (by omega)]
    show some (Value.int .i64 (ow' p + 1)) = _
    rw [ho, e2]
theorem HunF.start (h : Gr n k c u v tt ow d sl fr ord m D) (hx : x < n) (h0 : sl x = 0) (ho : ow x = -1) (hp : HP w wr A n cc b c u v ow x0 y0 ((k : Int) + 1) s wy farV sl true d) : HunT w A n cc b c k s u v tt ow d fr ord wy sl x0 y0 x m wr :=
  ⟨tt, ow, h.turn hx h0 ho, hp⟩
end
end Go.Proofs.Ytgmhinmakomabaa
