/-
  awake: the example. No condition.
-/
import Derived.Test.YtaadaekpmblpaaaSqX
import Derived.Test.YtaadaekpmblpaaaSqG
import Derived.Test.YtaadaekpmblpaaaSqT
namespace Go.Proofs.Ytaadaekpmblpaaa
open Go.RowKit
set_option linter.unusedVariables false

theorem ex_proper : properL [1, 1] [1] [[5], [0]] = true := by decide
theorem ex_pot : potF [1, 1] [1] [[5], [0]] 2 1 = 1 := by simp [potF, pget]; decide
theorem ex_back : backF [1, 1] [1] [[5], [0]] 2 1 = [(1, 0)] := by simp [backF, potF, pget]; intro h; exact absurd (by decide) h
theorem ex_align : alignL [1, 1] [1] [[5], [0]] = [(1, 0)] := by
  unfold alignL
  show (backF [1, 1] [1] [[5], [0]] 2 1).reverse = _
  rw [ex_back]; rfl

theorem ints_new (w : World) (l : List Int) (n : Nat) (hn : l.length = n) : Ints (w.alloc (.cells (l.map (Value.int .i64)).toArray 3)) (w.heap.size + 1) (some ⟨w.heap.size, 0, none⟩) n l := by
  subst hn
  refine ⟨by simp, fun _ => ⟨_, rfl, by show w.heap.size < w.heap.size + 1; omega, fun j u hu => ?_⟩⟩
  rw [Addr.add_lit, Nat.zero_add, (Blk.new w 3 _).cell]
  simpa using hu
def exW (w : World) (s : Nat) : World := ((((w.alloc (.cells #[.int .i64 1, .int .i64 1] 3)).alloc (.cells #[.int .i64 1] 3)).alloc (.cells #[.int .i64 5] 3)).alloc (.cells #[.int .i64 0] 3)).alloc (.cells #[.slice (some ⟨s + 2, 0, none⟩) 1 1, .slice (some ⟨s + 3, 0, none⟩) 1 1] 22)
theorem exW_size (w : World) (s : Nat) : (exW w s).heap.size = w.heap.size + 5 := by simp [exW]
theorem exW_below (w : World) (s : Nat) : Below w.heap.size w (exW w s) := by
  unfold exW
  exact (((((Below.refl _ w).alloc (Nat.le_refl _) _).alloc (by simp) _).alloc (by simp; omega) _).alloc (by simp; omega) _).alloc (by simp; omega) _
theorem ex_three (w : World) (s : Nat) (hs : w.heap.size = s) : Three (exW w s) (exW w s).heap.size (some ⟨s, 0, none⟩) 2 (some ⟨s + 1, 0, none⟩) 1 (some ⟨s + 4, 0, none⟩) 2 [1, 1] [1] [[5], [0]] := by
  subst hs
  have b1 : Blk (exW w w.heap.size) w.heap.size 3 #[.int .i64 1, .int .i64 1] := by
    unfold exW
    exact ((((Blk.new w 3 _).alloc _).alloc _).alloc _).alloc _
  have b2 : Blk (exW w w.heap.size) (w.heap.size + 1) 3 #[.int .i64 1] := by
    unfold exW
    have := (((Blk.new (w.alloc (.cells #[.int .i64 1, .int .i64 1] 3)) 3 #[.int .i64 1]).alloc (.cells #[.int .i64 5] 3)).alloc (.cells #[.int .i64 0] 3)).alloc (.cells #[.slice (some ⟨w.heap.size + 2, 0, none⟩) 1 1, .slice (some ⟨w.heap.size + 3, 0, none⟩) 1 1] 22)
    simpa using this
  have b3 : Blk (exW w w.heap.size) (w.heap.size + 2) 3 #[.int .i64 5] := by
    unfold exW
    have := ((Blk.new ((w.alloc (.cells #[.int .i64 1, .int .i64 1] 3)).alloc (.cells #[.int .i64 1] 3)) 3 #[.int .i64 5]).alloc (.cells #[.int .i64 0] 3)).alloc (.cells #[.slice (some ⟨w.heap.size + 2, 0, none⟩) 1 1, .slice (some ⟨w.heap.size + 3, 0, none⟩) 1 1] 22)
    simpa using this
  have b4 : Blk (exW w w.heap.size) (w.heap.size + 3) 3 #[.int .i64 0] := by
    unfold exW
    have := (Blk.new (((w.alloc (.cells #[.int .i64 1, .int .i64 1] 3)).alloc (.cells #[.int .i64 1] 3)).alloc (.cells #[.int .i64 5] 3)) 3 #[.int .i64 0]).alloc (.cells #[.slice (some ⟨w.heap.size + 2, 0, none⟩) 1 1, .slice (some ⟨w.heap.size + 3, 0, none⟩) 1 1] 22)
    simpa using this
  have b5 : Blk (exW w w.heap.size) (w.heap.size + 4) 22 #[.slice (some ⟨w.heap.size + 2, 0, none⟩) 1 1, .slice (some ⟨w.heap.size + 3, 0, none⟩) 1 1] := by
    unfold exW
    have := Blk.new ((((w.alloc (.cells #[.int .i64 1, .int .i64 1] 3)).alloc (.cells #[.int .i64 1] 3)).alloc (.cells #[.int .i64 5] 3)).alloc (.cells #[.int .i64 0] 3)) 22 #[.slice (some ⟨w.heap.size + 2, 0, none⟩) 1 1, .slice (some ⟨w.heap.size + 3, 0, none⟩) 1 1]
    simpa using this
  have key : ∀ {g : Nat} {l : List Int} {cs : Array Value}, Blk (exW w w.heap.size) g 3 cs → cs = (l.map (Value.int .i64)).toArray → Ints (exW w w.heap.size) (exW w w.heap.size).heap.size (some ⟨g, 0, none⟩) l.length l := by
    intro g l cs hb he
    subst he
    refine ⟨by simp, fun _ => ⟨_, rfl, hb.lt, fun j u hu => ?_⟩⟩
    rw [Addr.add_lit, Nat.zero_add, hb.cell]
    simpa using hu
  refine ⟨key (l := [1, 1]) b1 (by simp), key (l := [1]) b2 (by simp), ⟨[(some ⟨w.heap.size + 2, 0, none⟩, 1, 1), (some ⟨w.heap.size + 3, 0, none⟩, 1, 1)], ⟨rfl, fun _ => ⟨_, rfl, b5.lt, fun j u hu => ?_⟩⟩, rfl, fun i h r h1 h2 => ?_⟩, by omega, by omega, by omega, by simp⟩
  · rw [Addr.add_lit, Nat.zero_add, b5.cell]
    simpa [hdv] using hu
  · match i, h1, h2 with
    | 0, h1, h2 => simp at h1 h2; subst h1 h2; exact key (l := [5]) b3 (by simp)
    | 1, h1, h2 => simp at h1 h2; subst h1 h2; exact key (l := [0]) b4 (by simp)
    | i + 2, h1, h2 => simp at h1

def ExPost (w : World) (e : Ending) (w' : World) : Prop :=
  ∃ A c g bs, e = .returned (.tuple #[.agg #[.slice A 1 c, .int .i64 1, .slice (some ⟨g, 0, none⟩) 3 3], .int .i64 0]) ∧ Prs w' w'.heap.size A 1 [(1, 0)] ∧ Made w' g 3 2 bs (potF [1, 1] [1] [[5], [0]]) ∧ bs.length = 3 ∧ Below w.heap.size w w' ∧ w.heap.size ≤ g
theorem ex_call (w : World) : Calls Try.prog 11 #[.slice (some ⟨w.heap.size, 0, none⟩) 2 2, .slice (some ⟨w.heap.size + 1, 0, none⟩) 1 1, .slice (some ⟨w.heap.size + 4, 0, none⟩) 2 2] (exW w w.heap.size) (ExPost (exW w w.heap.size)) :=
  (align_yes (some ⟨w.heap.size, 0, none⟩) 2 2 (some ⟨w.heap.size + 1, 0, none⟩) 1 1 (some ⟨w.heap.size + 4, 0, none⟩) 2 2 [1, 1] [1] [[5], [0]] (exW w w.heap.size) (ex_three w _ rfl) ex_proper).mono fun e w1 ⟨A, n, c, g, bs, he, hpr, hmade, hbs, hbe, hgg⟩ => by
    rw [ex_align] at hpr
    obtain rfl : 1 = n := Prs.len hpr
    have hpot : potF [1, 1] [1] [[5], [0]] ([1, 1] : List Int).length ([1] : List Int).length = 1 := ex_pot
    rw [hpot] at he
    exact ⟨A, c, g, bs, he, hpr, hmade, hbs, hbe, hgg⟩

set_option maxRecDepth 100000 in
set_option maxHeartbeats 800000 in
theorem awake_any (w : World) : Calls Try.prog 10 #[] w fun e w' => e = .returned (.bool true) ∧ Below w.heap.size w w' := by
  have HC := Lib.hid (ex_call w)
  have hg := guard45
  have he := equal_pair
  go_enter Try.func10, Try.ntmps10
  go_wp2_with fail
  refine (HC.out).mono ?_
  rintro e w1 ⟨A, c, g, bs, rfl, hpr, hmade, hbs, hbe, hgg⟩
  obtain ⟨w2, hw2⟩ : ∃ w2, w2 = w1.alloc (.cells #[.slice A 1 c, .int .i64 1, .slice (some ⟨g, 0, none⟩) 3 3] 28) := ⟨_, rfl⟩
  have hbe0 : Below w.heap.size w w1 := (exW_below w _).trans (hbe.mono (by rw [exW_size]; omega))
  have hbA : Below w.heap.size w w2 := by subst hw2; exact hbe0.alloc hbe0.size _
  have hb12 : Below w1.heap.size w1 w2 := by subst hw2; exact (Below.refl _ _).alloc (Nat.le_refl _) _
  have hs2 : w2.heap.size = w1.heap.size + 1 := by rw [hw2]; simp
  have hpr2 : Prs w2 w2.heap.size A 1 [(1, 0)] := (hpr.below hb12).more (by omega)
  have hmat2 : Mat w2 w2.heap.size (some ⟨g, 0, none⟩) 3 (potM [1, 1] [1] [[5], [0]]) := (hmade.more hb12).mat hbs
  obtain ⟨bp, op, xp, yp, hAp, hbp, hxp, cp1, cp2⟩ := Prs.at_ (k := 0) hpr (by omega)
  simp at hxp
  obtain ⟨rfl, rfl⟩ := hxp
  subst hAp
  simp only [Nat.zero_mul, Nat.add_zero] at cp1 cp2
  have hbX := exW_below w2 (w1.heap.size + 1)
  have HV := Lib.hid (verify_any (some ⟨w1.heap.size + 1, 0, none⟩) 2 2 (some ⟨w1.heap.size + 1 + 1, 0, none⟩) 1 1 (some ⟨w1.heap.size + 1 + 4, 0, none⟩) 2 2 (some ⟨bp, op, none⟩) 1 c 1 (some ⟨g, 0, none⟩) 3 3 [1, 1] [1] [[5], [0]] [(1, 0)] (potM [1, 1] [1] [[5], [0]]) (exW w2 (w1.heap.size + 1)) (ex_three w2 _ hs2) ((hpr2.below hbX).more hbX.size) (by omega) ((hmat2.below hbX).more hbX.size) (by omega) (fun r hr => by
    unfold potM at hr
    obtain ⟨i, _, rfl⟩ := List.mem_map.1 hr
    simp))
  have hver := align_verified ex_proper
  rw [ex_align, show potF [1, 1] [1] [[5], [0]] ([1, 1] : List Int).length ([1] : List Int).length = 1 from ex_pot] at hver
  rw [hver] at HV
  have HBX := Lib.hid (hbA.trans (hbX.mono hbA.size))
  have HSX := Lib.hid (hbA.trans (hbX.mono hbA.size)).size
  subst hw2
  clear hpr hmade hbs hbe hgg hbA hb12 hpr2 hmat2 hver hbX hs2 HC hbe0
  go_wp2_with fail
  refine (HV.out).mono ?_
  rintro e w3 ⟨rfl, hb3⟩
  have HB3 := Lib.hid (HBX.out.trans (hb3.mono HSX.out))
  clear hb3
  go_wp2_with fail
  go_ret
  exact ⟨rfl, HB3.out⟩
end Go.Proofs.Ytaadaekpmblpaaa
