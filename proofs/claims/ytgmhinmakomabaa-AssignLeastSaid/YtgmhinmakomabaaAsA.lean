/-
  The solver in memory; tight, turn. No condition.
-/
import Derived.Test.YtgmhinmakomabaaAsY
namespace Go.Proofs.Ytgmhinmakomabaa
open Go.RowKit
set_option linter.unusedVariables false

/-- the blocks of a solver -/
structure SB where
  g : Nat
  u : Nat
  v : Nat
  t : Nat
  o : Nat
structure SB.ok (b : SB) (B : Nat) : Prop where
  g : B ≤ b.g
  u : B ≤ b.u
  v : B ≤ b.v
  t : B ≤ b.t
  o : B ≤ b.o
  gu : b.g ≠ b.u
  gv : b.g ≠ b.v
  gt : b.g ≠ b.t
  go : b.g ≠ b.o
  uv : b.u ≠ b.v
  ut : b.u ≠ b.t
  uo : b.u ≠ b.o
  vt : b.v ≠ b.t
  vo : b.v ≠ b.o
  to : b.t ≠ b.o
/-- the solver in memory -/
structure Sv (w : World) (B : Nat) (A : Option Addr) (n cc : Nat) (b : SB) (c : Nat → Nat → Int) (u v tf ow : Nat → Int) : Prop where
  hd : Blk w b.g 45 #[.slice A n cc, .slice (some ⟨b.u, 0, none⟩) n n, .slice (some ⟨b.v, 0, none⟩) n n, .slice (some ⟨b.t, 0, none⟩) n n, .slice (some ⟨b.o, 0, none⟩) n n]
  sq : Sq w B A n c
  vu : IVec w b.u n u
  vv : IVec w b.v n v
  vt : IVec w b.t n tf
  vo : IVec w b.o n ow
  ok : b.ok B
  n40 : n ≤ 40
section
variable {w w' : World} {B n cc : Nat} {A : Option Addr} {b : SB} {c : Nat → Nat → Int} {u v tf ow u' v' tf' ow' : Nat → Int}
theorem Sv.drewN (h : Sv w B A n cc b c u v tf ow) (k : Nat) : Sv (w.drewN k) B A n cc b c u v tf ow := ⟨h.hd, h.sq, h.vu, h.vv, h.vt, h.vo, h.ok, h.n40⟩
theorem Sv.drew (h : Sv w B A n cc b c u v tf ow) : Sv w.drew B A n cc b c u v tf ow := ⟨h.hd, h.sq, h.vu, h.vv, h.vt, h.vo, h.ok, h.n40⟩
theorem Sv.setU (h : Sv w B A n cc b c u v tf ow) (i : Nat) (x : Int) : Sv (w.setCell ⟨b.u, i, none⟩ (.int .i64 x)) B A n cc b c (upd u i x) v tf ow :=
  ⟨h.hd.far h.ok.gu _, h.sq.setCell h.ok.u _, h.vu.set_ i x, h.vv.far h.ok.uv.symm _, h.vt.far h.ok.ut.symm _, h.vo.far h.ok.uo.symm _, h.ok, h.n40⟩
theorem Sv.setV (h : Sv w B A n cc b c u v tf ow) (i : Nat) (x : Int) : Sv (w.setCell ⟨b.v, i, none⟩ (.int .i64 x)) B A n cc b c u (upd v i x) tf ow :=
  ⟨h.hd.far h.ok.gv _, h.sq.setCell h.ok.v _, h.vu.far h.ok.uv _, h.vv.set_ i x, h.vt.far h.ok.vt.symm _, h.vo.far h.ok.vo.symm _, h.ok, h.n40⟩
theorem Sv.setT (h : Sv w B A n cc b c u v tf ow) (i : Nat) (x : Int) : Sv (w.setCell ⟨b.t, i, none⟩ (.int .i64 x)) B A n cc b c u v (upd tf i x) ow :=
  ⟨h.hd.far h.ok.gt _, h.sq.setCell h.ok.t _, h.vu.far h.ok.ut _, h.vv.far h.ok.vt _, h.vt.set_ i x, h.vo.far h.ok.to.symm _, h.ok, h.n40⟩
theorem Sv.setO (h : Sv w B A n cc b c u v tf ow) (i : Nat) (x : Int) : Sv (w.setCell ⟨b.o, i, none⟩ (.int .i64 x)) B A n cc b c u v tf (upd ow i x) :=
  ⟨h.hd.far h.ok.go _, h.sq.setCell h.ok.o _, h.vu.far h.ok.uo _, h.vv.far h.ok.vo _, h.vt.far h.ok.to _, h.vo.set_ i x, h.ok, h.n40⟩
/-- is a block one of the solver's? -/
def SB.has (b : SB) (x : Nat) : Prop := x = b.g ∨ x = b.u ∨ x = b.v ∨ x = b.t ∨ x = b.o
theorem Sv.below {B' : Nat} (h : Sv w B A n cc b c u v tf ow) (hb : Below B' w w') (hB : B ≤ B') (hx : ∀ x, b.has x → x < B') : Sv w' B A n cc b c u v tf ow :=
  ⟨h.hd.below hb (hx _ (.inl rfl)), h.sq.below (hb.mono hB), h.vu.below hb (hx _ (.inr (.inl rfl))), h.vv.below hb (hx _ (.inr (.inr (.inl rfl)))), h.vt.below hb (hx _ (.inr (.inr (.inr (.inl rfl))))), h.vo.below hb (hx _ (.inr (.inr (.inr (.inr rfl))))), h.ok, h.n40⟩
theorem Sv.chg {M : Nat → Prop} (h : Sv w B A n cc b c u v tf ow) (hc : Chg w w' M) (hB : B ≤ w.heap.size) (hM : ∀ x, x < B → ¬ M x) (hx : ∀ x, b.has x → ¬ M x) : Sv w' B A n cc b c u v tf ow :=
  ⟨h.hd.chg hc (hx _ (.inl rfl)), h.sq.chg hc hB hM, h.vu.chg hc (hx _ (.inr (.inl rfl))), h.vv.chg hc (hx _ (.inr (.inr (.inl rfl)))), h.vt.chg hc (hx _ (.inr (.inr (.inr (.inl rfl))))), h.vo.chg hc (hx _ (.inr (.inr (.inr (.inr rfl))))), h.ok, h.n40⟩
theorem Sv.far (h : Sv w B A n cc b c u v tf ow) {p : Addr} (hB : B ≤ p.block) (hp : ¬ b.has p.block) (x : Value) : Sv (w.setCell p x) B A n cc b c u v tf ow :=
  ⟨h.hd.far (fun e => hp (.inl e.symm)) _, h.sq.setCell hB _, h.vu.far (fun e => hp (.inr (.inl e.symm))) _, h.vv.far (fun e => hp (.inr (.inr (.inl e.symm)))) _, h.vt.far (fun e => hp (.inr (.inr (.inr (.inl e.symm))))) _, h.vo.far (fun e => hp (.inr (.inr (.inr (.inr e.symm))))) _, h.ok, h.n40⟩
theorem Sv.alloc (h : Sv w B A n cc b c u v tf ow) (hB : B ≤ w.heap.size) (o : Obj) : Sv (w.alloc o) B A n cc b c u v tf ow :=
  ⟨h.hd.alloc _, h.sq.alloc hB _, h.vu.alloc _, h.vv.alloc _, h.vt.alloc _, h.vo.alloc _, h.ok, h.n40⟩
theorem Sv.lt (h : Sv w B A n cc b c u v tf ow) : ∀ x, b.has x → x < w.heap.size := fun x hx => by
  rcases hx with rfl | rfl | rfl | rfl | rfl
  · exact h.hd.lt
  · exact Vec.lt h.vu
  · exact Vec.lt h.vv
  · exact Vec.lt h.vt
  · exact Vec.lt h.vo
theorem Sv.congr (h : Sv w B A n cc b c u v tf ow) (hu : ∀ i, i < n → u' i = u i) (hv : ∀ i, i < n → v' i = v i) (ht : ∀ i, i < n → tf' i = tf i) (ho : ∀ i, i < n → ow' i = ow i) : Sv w B A n cc b c u' v' tf' ow' :=
  ⟨h.hd, h.sq, h.vu.congr hu, h.vv.congr hv, h.vt.congr ht, h.vo.congr ho, h.ok, h.n40⟩
/-- the cells of the solver's struct -/
theorem Sv.cells (h : Sv w B A n cc b c u v tf ow) : w.cell? ⟨b.g, 0, none⟩ = some (.slice A n cc) ∧ w.cell? ⟨b.g, 1, none⟩ = some (.slice (some ⟨b.u, 0, none⟩) n n) ∧ w.cell? ⟨b.g, 2, none⟩ = some (.slice (some ⟨b.v, 0, none⟩) n n) ∧
    w.cell? ⟨b.g, 3, none⟩ = some (.slice (some ⟨b.t, 0, none⟩) n n) ∧ w.cell? ⟨b.g, 4, none⟩ = some (.slice (some ⟨b.o, 0, none⟩) n n) := by
  have h0 := h.hd.cell 0
  have h1 := h.hd.cell 1
  have h2 := h.hd.cell 2
  have h3 := h.hd.cell 3
  have h4 := h.hd.cell 4
  simp at h0 h1 h2 h3 h4
  exact ⟨h0, h1, h2, h3, h4⟩
end

set_option maxRecDepth 100000 in
set_option maxHeartbeats 1000000 in
theorem tight_any (w : World) (B n cc : Nat) (A : Option Addr) (b : SB) (c : Nat → Nat → Int) (u v tf ow : Nat → Int) (h : Sv w B A n cc b c u v tf ow) (i j : Nat) (hi : i < n) (hj : j < n)
    (hu : -1000000000 ≤ u i ∧ u i ≤ 1000000000) (hv : -1000000000 ≤ v j ∧ v j ≤ 1000000000) :
    Calls Try.prog 33 #[.pointer (some ⟨b.g, 0, none⟩), .int .i64 (i : Int), .int .i64 (j : Int)] w (QuietP w (.bool (decide (u i + v j = c i j)))) := by
  obtain ⟨c0, c1, c2, _, _⟩ := h.cells
  have d1 := h.vu.at_ hi
  have d2 := h.vv.at_ hj
  have hn := h.n40
  obtain ⟨b1, o1, b2, o2, c', rfl, h1, h2, h3, h4⟩ := h.sq i hi
  have h5 := h4 j hj
  obtain ⟨x, hx⟩ : ∃ x, u i = x := ⟨_, rfl⟩
  obtain ⟨y, hy⟩ : ∃ y, v j = y := ⟨_, rfl⟩
  obtain ⟨z, hz⟩ : ∃ z, c i j = z := ⟨_, rfl⟩
  rw [hx] at d1 hu ⊢
  rw [hy] at d2 hv ⊢
  rw [hz] at h5 ⊢
  obtain ⟨hu1, hu2⟩ := hu
  obtain ⟨hv1, hv2⟩ := hv
  clear h h1 h2 h4 hx hy hz
  by_cases he : x + y = z
  · have he' : (x + y == z) = true := by simpa using he
    rw [show decide (x + y = z) = true by simpa using he]
    clear he
    go_enter Try.func33, Try.ntmps33
    go_wp2_with fail
    go_quiet (fail)
    go_wp2_with fail
    go_ret
    exact ⟨rfl, _, rfl⟩
  · have he' : (x + y == z) = false := by simpa using he
    rw [show decide (x + y = z) = false by simpa using he]
    clear he
    go_enter Try.func33, Try.ntmps33
    go_wp2_with fail
    go_quiet (fail)
    go_wp2_with fail
    go_ret
    exact ⟨rfl, _, rfl⟩

def TurnPost (w : World) (B n cc : Nat) (A : Option Addr) (b : SB) (c : Nat → Nat → Int) (u v : Nat → Int) (k : Nat) (e : Ending) (w' : World) : Prop :=
  e = .returned (.tuple #[]) ∧ ∃ to' tf' ow', Ph n (k + 1) c u v to' ow' ∧ (∀ i, i < k + 1 → tf' i = (to' i : Int)) ∧ Sv w' B A n cc b c u v tf' ow' ∧ Chg w w' (fun x => x = b.t ∨ x = b.o)
/-- what is known on the way back -/
def TurnSt (w : World) (B n cc : Nat) (A : Option Addr) (b : SB) (c : Nat → Nat → Int) (u v : Nat → Int) (k : Nat) (to : Nat → Nat) (ow : Nat → Int) (d : Nat → Bool) (fr ord : Nat → Nat) (x l : Nat) (wr : World) : Prop :=
  ∃ to' tf' ow', Tn n k c u v to ow d fr ord x l to' ow' ∧ (∀ i, i < k → tf' i = (to' i : Int)) ∧ Sv wr B A n cc b c u v tf' ow' ∧ Chg w wr (fun y => y = b.t ∨ y = b.o)
theorem TurnSt.last {w wr : World} {B n cc : Nat} {A : Option Addr} {b : SB} {c : Nat → Nat → Int} {u v : Nat → Int} {k : Nat} {to : Nat → Nat} {ow : Nat → Int} {d : Nat → Bool} {fr ord : Nat → Nat} {x l m : Nat} {sl : Nat → Int} {D : Int}
    (t : TurnSt w B n cc A b c u v k to ow d fr ord x l wr) (h : Gr n k c u v to ow d sl fr ord m D) (hk : fr x = k) :
    TurnPost w B n cc A b c u v k (.returned (.tuple #[])) ((wr.setCell ⟨b.t, k, none⟩ (.int .i64 (x : Int))).setCell ⟨b.o, x, none⟩ (.int .i64 (k : Int))) := by
  obtain ⟨to', tf', ow', h1, h2, h3, h4⟩ := t
  refine ⟨rfl, _, _, _, h1.last h hk, fun i hi => ?_, (h3.setT k x).setO x k, (h4.setCell (.inl (.inl rfl)) _).setCell (.inl (.inr rfl)) _⟩
  by_cases e : i = k
  · subst e; rw [upd_same, upd_same]
  · rw [upd_ne _ _ e, upd_ne _ _ e]; exact h2 i (by omega)
theorem TurnSt.back {w wr : World} {B n cc : Nat} {A : Option Addr} {b : SB} {c : Nat → Nat → Int} {u v : Nat → Int} {k : Nat} {to : Nat → Nat} {ow : Nat → Int} {d : Nat → Bool} {fr ord : Nat → Nat} {x l m : Nat} {sl : Nat → Int} {D : Int}
    (t : TurnSt w B n cc A b c u v k to ow d fr ord x l wr) (h : Gr n k c u v to ow d sl fr ord m D) (hk : fr x ≠ k) :
    fr x < k ∧ to (fr x) < n ∧ wr.cell? ⟨b.t, fr x, none⟩ = some (.int .i64 (to (fr x) : Int)) ∧ ord (to (fr x)) < l ∧ d (to (fr x)) = true ∧
      TurnSt w B n cc A b c u v k to ow d fr ord (to (fr x)) (ord (to (fr x))) ((wr.setCell ⟨b.t, fr x, none⟩ (.int .i64 (x : Int))).setCell ⟨b.o, x, none⟩ (.int .i64 (fr x : Int))) := by
  obtain ⟨to', tf', ow', h1, h2, h3, h4⟩ := t
  obtain ⟨a1, a2, a3, a4⟩ := h1.back h hk
  have hkn := h.kn
  refine ⟨a1, h.lt _ a1, ?_, a3, (h1.px.resolve_left hk).2.1, _, _, _, a4, fun i hi => ?_, (h3.setT (fr x) x).setO x (fr x), (h4.setCell (.inl (.inl rfl)) _).setCell (.inl (.inr rfl)) _⟩
  · rw [h3.vt.at_ (show fr x < n by omega), h2 _ a1, a2]
  · by_cases e : i = fr x
    · subst e; rw [upd_same, upd_same]
    · rw [upd_ne _ _ e, upd_ne _ _ e]; exact h2 i hi

set_option maxRecDepth 100000 in
set_option maxHeartbeats 1000000 in
theorem turn_any (w : World) (B n cc : Nat) (A : Option Addr) (b : SB) (c : Nat → Nat → Int) (u v tf ow : Nat → Int) (k m : Nat) (to : Nat → Nat) (d : Nat → Bool) (sl : Nat → Int) (fr ord : Nat → Nat) (D : Int) (x bf : Nat)
    (h : Gr n k c u v to ow d sl fr ord m D) (hx : x < n) (h0 : sl x = 0) (ho : ow x = -1) (hs : Sv w B A n cc b c u v tf ow) (ht : ∀ i, i < k → tf i = (to i : Int)) (hf : IVec w bf n (fun j => (fr j : Int))) (hbt : bf ≠ b.t) (hbo : bf ≠ b.o) :
    Calls Try.prog 32 #[.pointer (some ⟨b.g, 0, none⟩), .int .i64 (x : Int), .int .i64 (k : Int), .slice (some ⟨bf, 0, none⟩) n n] w (TurnPost w B n cc A b c u v k) := by
  have HT : Hid (TurnSt w B n cc A b c u v k to ow d fr ord x m w) := ⟨to, tf, ow, h.turn hx h0 ho, ht, hs, Chg.refl _ _⟩
  have hkn := h.kn
  have hn := hs.n40
  have e1 := hs.ok.gt
  have e2 := hs.ok.go
  have e3 := hs.ok.to
  have HG := Lib.hid h
  have HF := Lib.hid hf
  have HX := Lib.hid (h.free_nd hx ho)
  have HO1 : Hid (upd ord x m x = m) := upd_same _ _ _
  have HO2 : Hid (∀ y, y ≠ x → upd ord x m y = ord y) := fun y hy => upd_ne _ _ hy
  obtain ⟨o1, ho1⟩ : ∃ o1, o1 = upd ord x m := ⟨_, rfl⟩
  rw [← ho1] at HO1 HO2
  clear h ho hs ht hf h0 ho1
  go_enter Try.func32, Try.ntmps32
  go_wp2_with fail
  go_loopw [1] (fun s wr => ∃ y : Nat, y < n ∧ s = .int .i64 (y : Int) ∧ Hid (TurnSt w B n cc A b c u v k to ow d fr ord y (o1 y) wr)) (fun s _ => o1 (intOf s).toNat)
  case atStart => exact ⟨x, hx, rfl, by rw [HO1.out]; exact HT.out⟩
  case round =>
    clear HT
    obtain ⟨wo, rfl⟩ : ∃ wo : World, wo = wr := ⟨_, rfl⟩
    obtain ⟨y, hy, rfl, HS⟩ := hrel
    obtain ⟨to', tf', ow', t1, t2, t3, t4⟩ := HS.out
    obtain ⟨_, _, _, c3, c4⟩ := t3.cells
    have hfx : wo.cell? ⟨bf, y, none⟩ = some (.int .i64 (fr y : Int)) := ((HF.out).chg t4 (by rintro (e | e); exact hbt e; exact hbo e)).at_ hy
    have f1 := t3.vt.frozen (fr y)
    have f2 := t3.vo.frozen y
    have g2 := t3.vo.at_ hy
    by_cases hk : fr y = k
    · have HE := Lib.hid (HS.out.last HG.out hk)
      rw [hk] at hfx f1
      have g1 := t3.vt.at_ hkn
      clear t1 t2 t3 t4 HS hk HF
      go_wp2_with fail
      go_end0
      exact HE.out
    · have HB := HS.out.back HG.out hk
      obtain ⟨r1, r2, r3, r4, r5, HE⟩ := HB
      have hne : to (fr y) ≠ x := fun e => by have := HX.out; rw [e] at r5; rw [this] at r5; cases r5
      have HM : Hid (o1 (to (fr y)) = ord (to (fr y))) := HO2.out _ hne
      have hlt : o1 (to (fr y)) < o1 y := by rw [HM.out]; exact r4
      rw [← HM.out] at HE
      have hk' : ((fr y : Int) == (k : Int)) = false := by simpa using (by omega : ¬ ((fr y : Int) = (k : Int)))
      have r6 : fr y < n := by omega
      obtain ⟨z, hz⟩ : ∃ z, to (fr y) = z := ⟨_, rfl⟩
      rw [hz] at r2 r3 hlt HE
      obtain ⟨q, hq⟩ : ∃ q, fr y = q := ⟨_, rfl⟩
      rw [hq] at hfx f1 r1 r3 HE hk' r6
      have HE2 := Lib.hid HE
      clear t1 t2 t3 t4 HS hk HF r4 r5 hne HM hz hq HE
      go_wp2_with fail
      go_roundw
      case rel => exact ⟨z, r2, rfl, HE2.out⟩
      case measure => simp [intOf]; omega
end Go.Proofs.Ytgmhinmakomabaa
