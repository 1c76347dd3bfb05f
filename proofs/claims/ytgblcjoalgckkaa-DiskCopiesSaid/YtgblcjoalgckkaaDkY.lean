/-
  play: one act on both disks. No condition.
-/
import Derived.Test.YtgblcjoalgckkaaDkX
import Derived.Test.YtgblcjoalgckkaaDkU
import Derived.Deep.RegionHeld3
namespace Go.Proofs.Ytgblcjoalgckkaa
open Go.RowKit
set_option linter.unusedVariables false

def atS (x : ActX) : Int := if x.kind.tmod 2 = 0 then x.at_ % 70 - 2 else x.at_
def playS (s : DS) (x : ActX) : DS :=
  if x.kind % 9 ≤ 3 then (writeS s (atS x) x.bs).2 else if x.kind % 9 ≤ 5 then (syncS s).2 else if x.kind % 9 = 6 then fuseS s x.n else if x.kind % 9 = 7 then crashS s x.ks x.n else s

theorem Two.under {w0 w w' : World} {d r : Nat} {s t : DS} (h : Two w w' d s r t) (hb : Below w0.heap.size w0 w) : Two w0 w' d s r t := by
  obtain ⟨M, I, Mr, Ir, h⟩ := h
  have hs := hb.size
  exact ⟨M, I, Mr, Ir, ⟨h.disk, h.ref, h.ap1, h.ap2, fun b hm => by have := h.own b hm; omega, hb.trans (h.bel.mono hs)⟩⟩

def PlayPost (w0 : World) (d r : Nat) (s : DS) (e : Ending) (w' : World) : Prop := e = .returned (.bool true) ∧ Two w0 w' d s r s

/-- the two disks beside the act's box -/
def acA (x : ActX) : Array Value := #[.int .i64 x.kind, .int .i64 x.at_, .int .i64 x.n, .slice x.bA x.bs.length x.bc, .slice x.kA x.ks.length x.kc]
structure TwoB (w0 w : World) (d : Nat) (s : DS) (r : Nat) (t : DS) (bx : Nat) (x : ActX) : Prop where
  at_ : ∃ M I Mr Ir, TwoX w0 w d s r t M I Mr Ir ∧ ¬ M bx ∧ ¬ Mr bx
  blk : Blk w bx 46 (acA x)
section
variable {w0 w w' : World} {d r bx : Nat} {s t s' t' : DS} {x : ActX}
theorem TwoB.two (h : TwoB w0 w d s r t bx x) : Two w0 w d s r t := by
  obtain ⟨M, I, Mr, Ir, h1, -, -⟩ := h.at_
  exact ⟨M, I, Mr, Ir, h1⟩
theorem TwoB.on (h : TwoB w0 w d s r t bx x) (hb : Below w.heap.size w w') : TwoB w0 w' d s r t bx x := by
  obtain ⟨M, I, Mr, Ir, h1, h2, h3⟩ := h.at_
  exact ⟨⟨M, I, Mr, Ir, h1.on hb, h2, h3⟩, (hb.block bx h.blk.lt).trans h.blk⟩
theorem TwoB.drew (h : TwoB w0 w d s r t bx x) : TwoB w0 w.drew d s r t bx x := h.on (below_drewN (Below.refl _ _) 1)
end
section
variable (w0 w : World) (d r bx : Nat) (s t : DS) (x : ActX) (h : TwoB w0 w d s r t bx x)
include h
theorem p_write (hx : GoodAct w0 x) (hbl : x.bs.length ≤ 4000) (a : Int) : Calls Try.prog 11 #[.pointer (some ⟨d, 0, none⟩), .int .i64 a, .slice x.bA x.bs.length x.bc] w fun e w' => e = .returned (.int .i64 (writeS s a x.bs).1) ∧ TwoB w0 w' d (writeS s a x.bs).2 r t bx x := by
  have h' := h
  obtain ⟨⟨M, I, Mr, Ir, h1, h2, h3⟩, hbk⟩ := h
  refine (write_any d s M I a x.bA x.bc x.bs w h1.disk hx.byt (by omega) (hx.rb.up (Nat.le_refl _) h1.bel) (fun hn ad e hm => by have := hx.rb.at_block hn ad e; have := h1.own _ (.inl hm); omega)).mono ?_
  rintro e w1 ⟨rfl, ho⟩
  obtain ⟨M', I', h4, h5, h6⟩ := h1.op ho
  refine ⟨rfl, ⟨M', I', Mr, Ir, h4, fun hm => ?_, h3⟩, hbk.chg h5 h2⟩
  rcases h6 _ hm with h7 | h7
  · exact h2 h7
  · have := hbk.lt; omega
theorem q_write (hx : GoodAct w0 x) (hbl : x.bs.length ≤ 4000) (a : Int) : Calls Try.prog 30 #[.pointer (some ⟨r, 0, none⟩), .int .i64 a, .slice x.bA x.bs.length x.bc] w fun e w' => e = .returned (.int .i64 (writeS t a x.bs).1) ∧ TwoB w0 w' d s r (writeS t a x.bs).2 bx x := by
  obtain ⟨⟨M, I, Mr, Ir, h1, h2, h3⟩, hbk⟩ := h
  refine (rwrite_any r t Mr Ir a x.bA x.bc x.bs w h1.ref hx.byt (by omega) (hx.rb.up (Nat.le_refl _) h1.bel) (fun hn ad e hm => by have := hx.rb.at_block hn ad e; have := h1.own _ (.inr hm); omega)).mono ?_
  rintro e w1 ⟨rfl, ho⟩
  obtain ⟨M', I', h4, h5, h6⟩ := h1.rop ho
  refine ⟨rfl, ⟨M, I, M', I', h4, h2, fun hm => ?_⟩, hbk.chg h5 h3⟩
  rcases h6 _ hm with h7 | h7
  · exact h3 h7
  · have := hbk.lt; omega
theorem p_sync  : Calls Try.prog 12 #[.pointer (some ⟨d, 0, none⟩)] w fun e w' => e = .returned (.int .i64 (syncS s).1) ∧ TwoB w0 w' d (syncS s).2 r t bx x := by
  obtain ⟨⟨M, I, Mr, Ir, h1, h2, h3⟩, hbk⟩ := h
  refine (sync_any d s M I w h1.disk).mono ?_
  rintro e w1 ⟨rfl, ho⟩
  obtain ⟨M', I', h4, h5, h6⟩ := h1.op ho
  refine ⟨rfl, ⟨M', I', Mr, Ir, h4, fun hm => ?_, h3⟩, hbk.chg h5 h2⟩
  rcases h6 _ hm with h7 | h7
  · exact h2 h7
  · have := hbk.lt; omega
theorem q_sync  : Calls Try.prog 31 #[.pointer (some ⟨r, 0, none⟩)] w fun e w' => e = .returned (.int .i64 (syncS t).1) ∧ TwoB w0 w' d s r (syncS t).2 bx x := by
  obtain ⟨⟨M, I, Mr, Ir, h1, h2, h3⟩, hbk⟩ := h
  refine (rsync_any r t Mr Ir w h1.ref).mono ?_
  rintro e w1 ⟨rfl, ho⟩
  obtain ⟨M', I', h4, h5, h6⟩ := h1.rop ho
  refine ⟨rfl, ⟨M, I, M', I', h4, h2, fun hm => ?_⟩, hbk.chg h5 h3⟩
  rcases h6 _ hm with h7 | h7
  · exact h3 h7
  · have := hbk.lt; omega
theorem p_fuse (hx : GoodAct w0 x) : Calls Try.prog 24 #[.pointer (some ⟨d, 0, none⟩), .int .i64 x.n] w fun e w' => e = .returned (.tuple #[]) ∧ TwoB w0 w' d (fuseS s x.n) r t bx x := by
  obtain ⟨⟨M, I, Mr, Ir, h1, h2, h3⟩, hbk⟩ := h
  have hmd : M d := by obtain ⟨_, _, _, _, _, _, _, hx⟩ := h1.disk; exact hx.md
  refine (fuse_any d s M I x.n w h1.disk hx.n.2).mono ?_
  rintro e w1 ⟨rfl, ho, hc, -⟩
  obtain ⟨M', I', h4, h5, h6⟩ := h1.op (then_same ho (hc.mono (fun b e => by subst e; exact hmd)))
  refine ⟨rfl, ⟨M', I', Mr, Ir, h4, fun hm => ?_, h3⟩, hbk.chg h5 h2⟩
  rcases h6 _ hm with h7 | h7
  · exact h2 h7
  · have := hbk.lt; omega
theorem q_fuse (hx : GoodAct w0 x) : Calls Try.prog 32 #[.pointer (some ⟨r, 0, none⟩), .int .i64 x.n] w fun e w' => e = .returned (.tuple #[]) ∧ TwoB w0 w' d s r (fuseS t x.n) bx x := by
  obtain ⟨⟨M, I, Mr, Ir, h1, h2, h3⟩, hbk⟩ := h
  refine (rfuse_any r t Mr Ir x.n w h1.ref hx.n.2).mono ?_
  rintro e w1 ⟨rfl, ho⟩
  obtain ⟨M', I', h4, h5, h6⟩ := h1.rop ho
  refine ⟨rfl, ⟨M, I, M', I', h4, h2, fun hm => ?_⟩, hbk.chg h5 h3⟩
  rcases h6 _ hm with h7 | h7
  · exact h3 h7
  · have := hbk.lt; omega
theorem p_crash (hx : GoodAct w0 x) (hkl : x.ks.length ≤ 4000) : Calls Try.prog 13 #[.pointer (some ⟨d, 0, none⟩), .slice x.kA x.ks.length x.kc, .int .i64 x.n] w fun e w' => e = .returned (.tuple #[]) ∧ TwoB w0 w' d (crashS s x.ks x.n) r t bx x := by
  obtain ⟨⟨M, I, Mr, Ir, h1, h2, h3⟩, hbk⟩ := h
  refine (crash_any d s M I x.kA x.kc x.ks x.n w h1.disk (by omega) (hx.rk.up (Nat.le_refl _) h1.bel) (fun hn ad e hm => by have := hx.rk.at_block hn ad e; have := h1.own _ (.inl hm); omega)).mono ?_
  rintro e w1 ⟨rfl, ho⟩
  obtain ⟨M', I', h4, h5, h6⟩ := h1.op ho
  refine ⟨rfl, ⟨M', I', Mr, Ir, h4, fun hm => ?_, h3⟩, hbk.chg h5 h2⟩
  rcases h6 _ hm with h7 | h7
  · exact h2 h7
  · have := hbk.lt; omega
theorem q_crash (hx : GoodAct w0 x) (hkl : x.ks.length ≤ 4000) : Calls Try.prog 33 #[.pointer (some ⟨r, 0, none⟩), .slice x.kA x.ks.length x.kc, .int .i64 x.n] w fun e w' => e = .returned (.tuple #[]) ∧ TwoB w0 w' d s r (crashS t x.ks x.n) bx x := by
  obtain ⟨⟨M, I, Mr, Ir, h1, h2, h3⟩, hbk⟩ := h
  refine (rcrash_any r t Mr Ir x.kA x.kc x.ks x.n w h1.ref (by omega) (hx.rk.up (Nat.le_refl _) h1.bel) (fun hn ad e hm => by have := hx.rk.at_block hn ad e; have := h1.own _ (.inr hm); omega)).mono ?_
  rintro e w1 ⟨rfl, ho⟩
  obtain ⟨M', I', h4, h5, h6⟩ := h1.rop ho
  refine ⟨rfl, ⟨M, I, M', I', h4, h2, fun hm => ?_⟩, hbk.chg h5 h3⟩
  rcases h6 _ hm with h7 | h7
  · exact h3 h7
  · have := hbk.lt; omega
theorem p_read (hx : GoodAct w0 x) (a : Int) : Calls Try.prog 14 #[.pointer (some ⟨d, 0, none⟩), .int .i64 a, .int .i64 x.n] w (ReadPost w (readS s a x.n)) := by
  obtain ⟨⟨M, I, Mr, Ir, h1, h2, h3⟩, hbk⟩ := h
  exact read_any d s M I a x.n w h1.disk hx.n.2
theorem q_read (hx : GoodAct w0 x) (a : Int) : Calls Try.prog 34 #[.pointer (some ⟨r, 0, none⟩), .int .i64 a, .int .i64 x.n] w (ReadPost w (readS t a x.n)) := by
  obtain ⟨⟨M, I, Mr, Ir, h1, h2, h3⟩, hbk⟩ := h
  exact rread_any r t Mr Ir a x.n w h1.ref hx.n.2
end
theorem TwoB.c2 {w0 w : World} {d r bx : Nat} {s t : DS} {x : ActX} (h : TwoB w0 w d s r t bx x) : w.cell? ⟨bx, 2, none⟩ = some (.int .i64 x.n) := by rw [h.blk.cell]; rfl
theorem TwoB.c3 {w0 w : World} {d r bx : Nat} {s t : DS} {x : ActX} (h : TwoB w0 w d s r t bx x) : w.cell? ⟨bx, 3, none⟩ = some (.slice x.bA x.bs.length x.bc) := by rw [h.blk.cell]; rfl
theorem TwoB.c4 {w0 w : World} {d r bx : Nat} {s t : DS} {x : ActX} (h : TwoB w0 w d s r t bx x) : w.cell? ⟨bx, 4, none⟩ = some (.slice x.kA x.ks.length x.kc) := by rw [h.blk.cell]; rfl

set_option maxRecDepth 100000 in
set_option maxHeartbeats 3200000 in
theorem play_any (d r : Nat) (x : ActX) (s : DS) (w0 w : World) (h : Two w0 w d s r s) (hx : GoodAct w0 x) (hbl : x.bs.length ≤ 4000) (hkl : x.ks.length ≤ 4000) :
    Calls Try.prog 19 #[.pointer (some ⟨d, 0, none⟩), .pointer (some ⟨r, 0, none⟩), .agg #[.int .i64 x.kind, .int .i64 x.at_, .int .i64 x.n, .slice x.bA x.bs.length x.bc, .slice x.kA x.ks.length x.kc]] w (PlayPost w0 d r (playS s x)) := by
  have HX := Lib.hid hx
  obtain ⟨⟨hk1, hk2⟩, ⟨ha1, ha2⟩, ⟨hn1, hn2⟩, -, byb, -, -, -, -⟩ := hx
  have HBY := Lib.hid byb
  obtain ⟨W, hW⟩ : ∃ W, w.alloc (.cells #[.int .i64 x.kind, .int .i64 x.at_, .int .i64 x.n, .slice x.bA x.bs.length x.bc, .slice x.kA x.ks.length x.kc] 46) = W := ⟨_, rfl⟩
  have HT : Hid (TwoB w0 W d s r s w.heap.size x) := by
    obtain ⟨M, I, Mr, Ir, hT⟩ := h
    subst hW
    exact ⟨⟨M, I, Mr, Ir, hT.on ((Below.refl _ w).alloc (Nat.le_refl _) _), fun hm => by have := hT.disk.lt _ (.inl hm); omega, fun hm => by have := hT.ref.lt _ (.inl hm); omega⟩, Blk.new w 46 _⟩
  have HW := Lib.hid hW
  have j0 : W.cell? ⟨w.heap.size, 0, none⟩ = some (.int .i64 x.kind) := by rw [HT.out.blk.cell]; rfl
  have j1 : W.cell? ⟨w.heap.size, 1, none⟩ = some (.int .i64 x.at_) := by rw [HT.out.blk.cell]; rfl
  have j2 := HT.out.c2
  have j3 := HT.out.c3
  have j4 := HT.out.c4
  have HMA := Lib.hid (fun wx => mod_any x.at_ 70 wx (by omega) (by omega) ha1 ha2)
  have HMK := Lib.hid (fun wx => mod_any x.kind 9 wx (by omega) (by omega) hk1 hk2)
  have hm0 : 0 ≤ x.at_ % 70 := Int.emod_nonneg _ (by omega)
  have hm1 : x.at_ % 70 < 70 := Int.emod_lt_of_pos _ (by omega)
  clear h hW byb
  obtain ⟨q, hq⟩ : ∃ q, x.kind % 9 = q := ⟨_, rfl⟩
  have hq0 : 0 ≤ q := by omega
  have hq1 : q < 9 := by omega
  rw [hq] at HMK
  have HQ := Lib.hid hq
  clear hq
  obtain ⟨bx, hbx⟩ : ∃ bx, w.heap.size = bx := ⟨_, rfl⟩
  have HBX := Lib.hid hbx
  rw [hbx] at HT j0 j1 j2 j3 j4
  go_enter Try.func19, Try.ntmps19
  go_upto_if 17 with fail
  go_cut [5, 7] (fun u v wx => u = .pointer (some ⟨bx, 0, none⟩) ∧ v = .int .i64 (atS x) ∧ wx = W)
  case first =>
    have hb' := HBX.out
    obtain ⟨p, hp⟩ : ∃ p, x.kind.tmod 2 = p := ⟨_, rfl⟩
    by_cases h0 : p = 0
    · have HE : Hid (atS x = x.at_ % 70 - 2) := by unfold Hid atS; rw [if_pos (by omega)]
      subst h0
      go_wp2_with fail
      refine (HMA.out _).mono ?_
      rintro e wy ⟨rfl, rfl⟩
      go_wp2_with fail
      go_meet
      exact ⟨rfl, by rw [HE.out], HW.out⟩
    · have HE : Hid (atS x = x.at_) := by unfold Hid atS; rw [if_neg (by omega)]
      have hq0 : (p == 0) = false := by simpa using h0
      go_wp2_with fail
      go_meet
      exact ⟨rfl, by rw [HE.out], HW.out⟩
  case rest =>
  obtain ⟨rfl, rfl, rfl⟩ := hcut
  rename World => W
  obtain ⟨at_, hat⟩ : ∃ a, atS x = a := ⟨_, rfl⟩
  have HAT := Lib.hid hat
  rw [hat]
  clear hat hbx HW HBX HMA hm0 hm1
  go_wp2_with fail
  refine (HMK.out _).mono ?_
  rintro e wy ⟨rfl, rfl⟩
  have hqs : q = 0 ∨ q = 1 ∨ q = 2 ∨ q = 3 ∨ q = 4 ∨ q = 5 ∨ q = 6 ∨ q = 7 ∨ q = 8 := by omega
  clear hq0 hq1 HMK j0 j1
  rcases hqs with rfl | rfl | rfl | rfl | rfl | rfl | rfl | rfl | rfl
  · as_aux_lemma =>
    have HE : Hid (playS s x = (writeS s at_ x.bs).2) := by unfold Hid playS; rw [HQ.out, HAT.out]; rfl
    go_wp2_with fail
    go_region_held3 (fun w' => w'.cell? ⟨bx, 3, none⟩ = some (.slice x.bA x.bs.length x.bc)) (first | exact HT.out.drew.c3 | exact H1.out.c3 | exact H2.out.c3)
      (first | (go_at_call 11; refine (p_write w0 _ d r bx s s x HT.out.drew HX.out hbl at_).mono ?_; rintro e w1 ⟨rfl, h1⟩; have H1 := Lib.hid h1; clear h1) | (go_at_call 30; refine (q_write w0 _ d r bx _ s x H1.out HX.out hbl at_).mono ?_; rintro e w2 ⟨rfl, h2⟩; have H2 := Lib.hid h2; clear h2))
    go_wp2_with fail
    go_ret
    exact ⟨rfl, by rw [HE.out]; exact H2.out.two⟩
  · as_aux_lemma =>
    have HE : Hid (playS s x = (writeS s at_ x.bs).2) := by unfold Hid playS; rw [HQ.out, HAT.out]; rfl
    go_wp2_with fail
    go_region_held3 (fun w' => w'.cell? ⟨bx, 3, none⟩ = some (.slice x.bA x.bs.length x.bc)) (first | exact HT.out.drew.c3 | exact H1.out.c3 | exact H2.out.c3)
      (first | (go_at_call 11; refine (p_write w0 _ d r bx s s x HT.out.drew HX.out hbl at_).mono ?_; rintro e w1 ⟨rfl, h1⟩; have H1 := Lib.hid h1; clear h1) | (go_at_call 30; refine (q_write w0 _ d r bx _ s x H1.out HX.out hbl at_).mono ?_; rintro e w2 ⟨rfl, h2⟩; have H2 := Lib.hid h2; clear h2))
    go_wp2_with fail
    go_ret
    exact ⟨rfl, by rw [HE.out]; exact H2.out.two⟩
  · as_aux_lemma =>
    have HE : Hid (playS s x = (writeS s at_ x.bs).2) := by unfold Hid playS; rw [HQ.out, HAT.out]; rfl
    go_wp2_with fail
    go_region_held3 (fun w' => w'.cell? ⟨bx, 3, none⟩ = some (.slice x.bA x.bs.length x.bc)) (first | exact HT.out.drew.c3 | exact H1.out.c3 | exact H2.out.c3)
      (first | (go_at_call 11; refine (p_write w0 _ d r bx s s x HT.out.drew HX.out hbl at_).mono ?_; rintro e w1 ⟨rfl, h1⟩; have H1 := Lib.hid h1; clear h1) | (go_at_call 30; refine (q_write w0 _ d r bx _ s x H1.out HX.out hbl at_).mono ?_; rintro e w2 ⟨rfl, h2⟩; have H2 := Lib.hid h2; clear h2))
    go_wp2_with fail
    go_ret
    exact ⟨rfl, by rw [HE.out]; exact H2.out.two⟩
  · as_aux_lemma =>
    have HE : Hid (playS s x = (writeS s at_ x.bs).2) := by unfold Hid playS; rw [HQ.out, HAT.out]; rfl
    go_wp2_with fail
    go_region_held3 (fun w' => w'.cell? ⟨bx, 3, none⟩ = some (.slice x.bA x.bs.length x.bc)) (first | exact HT.out.drew.c3 | exact H1.out.c3 | exact H2.out.c3)
      (first | (go_at_call 11; refine (p_write w0 _ d r bx s s x HT.out.drew HX.out hbl at_).mono ?_; rintro e w1 ⟨rfl, h1⟩; have H1 := Lib.hid h1; clear h1) | (go_at_call 30; refine (q_write w0 _ d r bx _ s x H1.out HX.out hbl at_).mono ?_; rintro e w2 ⟨rfl, h2⟩; have H2 := Lib.hid h2; clear h2))
    go_wp2_with fail
    go_ret
    exact ⟨rfl, by rw [HE.out]; exact H2.out.two⟩
  · as_aux_lemma =>
    have HE : Hid (playS s x = (syncS s).2) := by unfold Hid playS; rw [HQ.out]; rfl
    go_wp2_with fail
    refine (p_sync w0 _ d r bx s s x HT.out).mono ?_
    rintro e w1 ⟨rfl, h1⟩
    have H1 := Lib.hid h1
    clear h1
    go_wp2_with fail
    refine (q_sync w0 _ d r bx _ s x H1.out).mono ?_
    rintro e w2 ⟨rfl, h2⟩
    have H2 := Lib.hid h2
    clear h2
    go_wp2_with fail
    go_ret
    exact ⟨rfl, by rw [HE.out]; exact H2.out.two⟩
  · as_aux_lemma =>
    have HE : Hid (playS s x = (syncS s).2) := by unfold Hid playS; rw [HQ.out]; rfl
    go_wp2_with fail
    refine (p_sync w0 _ d r bx s s x HT.out).mono ?_
    rintro e w1 ⟨rfl, h1⟩
    have H1 := Lib.hid h1
    clear h1
    go_wp2_with fail
    refine (q_sync w0 _ d r bx _ s x H1.out).mono ?_
    rintro e w2 ⟨rfl, h2⟩
    have H2 := Lib.hid h2
    clear h2
    go_wp2_with fail
    go_ret
    exact ⟨rfl, by rw [HE.out]; exact H2.out.two⟩
  · as_aux_lemma =>
    have HE : Hid (playS s x = fuseS s x.n) := by unfold Hid playS; rw [HQ.out]; rfl
    go_wp2_with fail
    refine (p_fuse w0 _ d r bx s s x HT.out HX.out).mono ?_
    rintro e w1 ⟨rfl, h1⟩
    have H1 := Lib.hid h1
    have k2 := h1.c2
    clear h1
    go_wp2_with fail
    refine (q_fuse w0 _ d r bx _ s x H1.out HX.out).mono ?_
    rintro e w2 ⟨rfl, h2⟩
    have H2 := Lib.hid h2
    clear h2
    go_wp2_with fail
    go_ret
    exact ⟨rfl, by rw [HE.out]; exact H2.out.two⟩
  · as_aux_lemma =>
    have HE : Hid (playS s x = crashS s x.ks x.n) := by unfold Hid playS; rw [HQ.out]; rfl
    go_wp2_with fail
    refine (p_crash w0 _ d r bx s s x HT.out HX.out hkl).mono ?_
    rintro e w1 ⟨rfl, h1⟩
    have H1 := Lib.hid h1
    have k2 := h1.c2
    have k4 := h1.c4
    clear h1
    go_wp2_with fail
    refine (q_crash w0 _ d r bx _ s x H1.out HX.out hkl).mono ?_
    rintro e w2 ⟨rfl, h2⟩
    have H2 := Lib.hid h2
    clear h2
    go_wp2_with fail
    go_ret
    exact ⟨rfl, by rw [HE.out]; exact H2.out.two⟩
  · as_aux_lemma =>
    have HE : Hid (playS s x = s) := by unfold Hid playS; rw [HQ.out]; rfl
    have HOK : Hid s.ok := by obtain ⟨M, I, Mr, Ir, h1, -, -⟩ := HT.out.at_; exact h1.disk.ok
    have HRD := Lib.hid (p_read w0 _ d r bx s s x HT.out HX.out at_)
    have hqm : Hid (∀ u ∈ (readS s at_ x.n).1, u < 256) := read_mem s HOK.out at_ x.n
    obtain ⟨rr, hrr⟩ : ∃ rr, readS s at_ x.n = rr := ⟨_, rfl⟩
    have HRR := Lib.hid hrr
    rw [hrr] at HRD hqm
    clear hrr
    go_wp2_with fail
    refine (HRD.out).mono ?_
    rintro e w1 ⟨A1, c1, rfl, hr1, -, -, hb1⟩
    have H1 := Lib.hid (HT.out.on hb1)
    have HR1 := Lib.hid hr1
    have k2 := H1.out.c2
    have HRD1 := Lib.hid (q_read w0 _ d r bx s s x H1.out HX.out at_)
    rw [HRR.out] at HRD1
    clear hr1 hb1 HRD
    go_wp2_with fail
    refine (HRD1.out).mono ?_
    rintro e w2 ⟨A2, c2, rfl, hr2, -, -, hb2⟩
    have H2 := Lib.hid (H1.out.on hb2)
    have HSM := Lib.hid (same_any A1 A2 c1 c2 rr.1 rr.1 w2 _ _ (HR1.out.up (Nat.le_refl _) hb2) hr2 hqm.out hqm.out)
    rw [decide_eq_true rfl] at HSM
    clear hr2 hb2 HRD1 HR1
    go_wp2_with fail
    refine (HSM.out).mono ?_
    rintro e w3 ⟨rfl, rfl⟩
    go_wp2_with fail
    go_ret
    exact ⟨rfl, by rw [HE.out]; exact H2.out.two⟩
end Go.Proofs.Ytgblcjoalgckkaa
