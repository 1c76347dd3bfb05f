/-
  The reference log's Open: what the loop knows. No condition.
-/
import Derived.Test.YtnjafhlpnoikcaaLrGa
import Derived.Deep.DeepCutAuto
namespace Go.Proofs.Ytnjafhlpnoikcaa
open Go.RowKit
set_option linter.unusedVariables false

theorem rrec_push {wr w2 w3 : World} {g r : Nat} {l : LS} {v v3 : Value} {rs : List Rc} {K : Nat → Prop} {o : Obj} {A2 : Option Addr} {q2 : Nat} {b : List Nat} {fin' : Nat} (h : RLogX wr g r l v rs K) (hb : Below wr.heap.size wr w2) (hr2 : Reads w2 w2.heap.size 1 A2 b.length (b.map byt))
    (hA2 : ∀ ad, A2 = some ad → wr.heap.size ≤ ad.block) (hbb : ∀ x ∈ b, x < 256) (hsm : b.length ≤ 65536) (hg : Grows (w2.alloc o) w3 v v3) (hown : w3.ownsRow 0 32 1 v3 (rs.length + 1) (rs.flatMap rcell ++ [.slice A2 b.length q2])) (hf : l.fin + 5 ≤ fin') (hf2 : fin' ≤ l.half) :
    RLogX ((w3.setCell ⟨g, 1, none⟩ v3).setCell ⟨g, 3, none⟩ (.int .i64 (fin' : Int))) g r { l with recs := l.recs ++ [b], fin := fin' } v3 (rs ++ [⟨A2, q2, b⟩]) (fun i => K i ∨ (wr.heap.size ≤ i ∧ i < w3.heap.size)) ∧ Chg wr ((w3.setCell ⟨g, 1, none⟩ v3).setCell ⟨g, 3, none⟩ (.int .i64 (fin' : Int))) K := by
  have hgl := h.lt g h.kg
  have hs2 := hb.size
  have hs3 : w2.heap.size + 1 ≤ w3.heap.size := by have := hg.size; simpa using this
  have hvg : v.ownBlock ≠ some g := own_blk_ne h.own h.blk (by decide)
  have hc2 : Chg wr (w2.alloc o) K := (Chg.of_below (M := fun i => wr.heap.size ≤ i) hb (fun i hi => hi)).alloc o |> fun c => ⟨c.os, c.tape, c.output, c.size, fun i hi _ => c.block i hi (by omega)⟩
  have hc3 : Chg wr w3 K := ⟨hg.grown.os.trans hc2.os, hg.grown.tape.trans hc2.tape, hg.grown.output.trans hc2.output, Nat.le_trans hc2.size hg.grown.size, fun i hi hn => (hg.grown.block i (Nat.lt_of_lt_of_le hi hc2.size) (fun e => hn (h.kv i e.symm))).trans (hc2.block i hi hn)⟩
  have hblk3 : Blk w3 g 85 #[.pointer (some ⟨r, 0, none⟩), v, .bool l.second, .int .i64 (l.fin : Int), .bool l.dead] := hg.blk ((h.blk.below hb hgl).alloc o) hvg
  have hv3 : ∀ x, v3.ownBlock = some x → (v.ownBlock = some x ∨ w2.heap.size + 1 ≤ x) := fun x hx => by
    rcases hg.own x hx with h1 | h1
    · exact .inl h1
    · right; simpa using h1
  have hv3g : v3.ownBlock ≠ some g := own_blk_ne hown hblk3 (by decide)
  have hblkF := (hblk3.set_ 1 v3).set_ 3 (.int .i64 (fin' : Int))
  -- old blocks but v's row and g, and new ones but v3's row, stay
  have hkeep : ∀ i, i < w3.heap.size → i ≠ g → ((w3.setCell ⟨g, 1, none⟩ v3).setCell ⟨g, 3, none⟩ (.int .i64 (fin' : Int))).heap[i]? = w3.heap[i]? := fun i hi hne =>
    (Below.heap_setCell _ _ _ i (by show i ≠ g; exact hne)).trans (Below.heap_setCell _ _ _ i (by show i ≠ g; exact hne))
  have hsF : ((w3.setCell ⟨g, 1, none⟩ v3).setCell ⟨g, 3, none⟩ (.int .i64 (fin' : Int))).heap.size = w3.heap.size := by simp [World.setCell]
  have hownF : ((w3.setCell ⟨g, 1, none⟩ v3).setCell ⟨g, 3, none⟩ (.int .i64 (fin' : Int))).ownsRow 0 32 1 v3 (rs.length + 1) (rs.flatMap rcell ++ [.slice A2 b.length q2]) :=
    hown.kept (only_setCell (only_setCell (World.grownBy.refl w3 (some g)) (.inl rfl) v3) (.inl rfl) _) (.inr hv3g)
  refine ⟨⟨hblkF, ?_, ?_, fun x hx => ?_, .inl h.kg, fun x hx => ?_, fun x hx => ?_, h.half, hf2, ?_, fun y hy => ?_, fun y hy => ?_⟩, ?_⟩
  · rw [List.flatMap_append, List.length_append]
    exact hownF
  · rw [List.map_append, h.rsb]; rfl
  · rcases List.mem_append.1 hx with hx | hx
    · obtain ⟨g1, g2⟩ := h.good x hx
      refine ⟨?_, fun hn ad ha => ?_⟩
      · refine read_keep g1 (by rw [hsF]; omega) (fun hn ad ha => ?_)
        obtain ⟨k1, k2, k3⟩ := g2 hn ad ha
        have hl := h.lt _ k1
        rw [hkeep _ (by omega) k3]
        refine (hg.grown.block _ (by simp; omega) (fun e => k2 e.symm)).trans ?_
        exact (Below.heap_alloc w2 o _ (by omega)).trans (hb.block _ hl)
      · obtain ⟨k1, k2, k3⟩ := g2 hn ad ha
        have hl := h.lt _ k1
        refine ⟨.inl k1, fun e => ?_, k3⟩
        rcases hv3 _ e with h1 | h1
        · exact k2 h1
        · omega
    · obtain rfl : x = ⟨A2, q2, b⟩ := by simpa using hx
      have hlt2 : 0 < b.length → ∀ ad, A2 = some ad → ad.block < w2.heap.size := fun hn ad ha => by
        obtain ⟨ad', e, hl, -⟩ := hr2.2 hn
        rw [ha] at e
        injection e with e
        rw [e]
        exact hl
      refine ⟨?_, fun hn ad ha => ?_⟩
      · refine read_keep (w := w2) hr2 (by rw [hsF]; omega) (fun hn ad ha => ?_)
        have l1 := hA2 ad ha
        have l2 := hlt2 hn ad ha
        rw [hkeep _ (by omega) (by omega)]
        refine (hg.grown.block _ (by simp; omega) (fun e => ?_)).trans (Below.heap_alloc w2 o _ l2)
        have := h.lt _ (h.kv _ e.symm)
        omega
      · have ha' : A2 = some ad := ha
        have l1 := hA2 ad ha'
        have l2 := hlt2 hn ad ha'
        refine ⟨.inr ⟨l1, by omega⟩, fun e => ?_, by omega⟩
        rcases hv3 _ e with h1 | h1
        · have := h.lt _ (h.kv _ h1); omega
        · omega
  · rcases hv3 x hx with h1 | h1
    · exact .inl (h.kv x h1)
    · exact .inr ⟨by omega, own_lt hown x hx⟩
  · rw [hsF]
    rcases hx with hx | hx
    · have := h.lt x hx; omega
    · exact hx.2
  · have := h.few
    simp only [List.length_append, List.length_singleton]
    omega
  · rcases List.mem_append.1 hy with hy | hy
    · exact h.byte y hy
    · obtain rfl : y = b := by simpa using hy
      exact hbb
  · rcases List.mem_append.1 hy with hy | hy
    · exact h.small y hy
    · obtain rfl : y = b := by simpa using hy
      exact hsm
  · exact (hc3.setCell (p := ⟨g, 1, none⟩) (.inl h.kg) v3).setCell (p := ⟨g, 3, none⟩) (.inl h.kg) _

/-- the loop of Open: w is where it began -/
structure RSc (w wr : World) (g r : Nat) (l : LS) (K : Nat → Prop) (ar : List Nat) (k e : Nat) (done : List (List Nat)) (v : Value) (rs : List Rc) (K' : Nat → Prop) : Prop where
  fuel : ar.length < k + e
  le : e ≤ ar.length
  log : RLogX wr g r { l with recs := done, fin := e } v rs K'
  chg : Chg w wr K
  sub : ∀ b, K' b → K b ∨ w.heap.size ≤ b
  tot : done ++ (scanS ar k e).1 = (scanS ar (ar.length + 1) 0).1 ∧ (scanS ar k e).2 = (scanS ar (ar.length + 1) 0).2
section
variable {w wr wq wF : World} {g r : Nat} {l : LS} {K : Nat → Prop} {ar : List Nat} {k e m : Nat} {dn : List (List Nat)} {v v3 : Value} {rs rs3 : List Rc} {K' : Nat → Prop} {S : Nat}
theorem RSc.drewN (h : RSc w wr g r l K ar k e dn v rs K') (q : Nat) : RSc w (wr.drewN q) g r l K ar k e dn v rs K' :=
  ⟨h.fuel, h.le, h.log.below (below_drewN (Below.refl _ wr) q), h.chg.drewN q, h.sub, h.tot⟩
theorem RSc.push (h : RSc w wq g r l K ar k e dn v rs K') (h1 : e + 5 ≤ ar.length ∧ ar.getD e 0 = 1) (hy : len4 ar (e + 1) = m) (h2 : e + 5 + m ≤ ar.length)
    (hp : RLogX wF g r { l with recs := dn ++ [(ar.drop (e + 5)).take m], fin := e + 5 + m } v3 rs3 (fun i => K' i ∨ (wq.heap.size ≤ i ∧ i < S)) ∧ Chg wq wF K') : RSc w wF g r l K ar (k - 1) (e + 5 + m) (dn ++ [(ar.drop (e + 5)).take m]) v3 rs3 (fun i => K' i ∨ (wq.heap.size ≤ i ∧ i < S)) := by
  have hk : 0 < k := by have := h.fuel; omega
  obtain ⟨j, rfl⟩ : ∃ j, k = j + 1 := ⟨k - 1, by omega⟩
  have hs := h.chg.size
  refine ⟨by have := h.fuel; omega, h2, hp.1, ?_, fun b hb => ?_, ?_⟩
  · refine ⟨hp.2.os.trans h.chg.os, hp.2.tape.trans h.chg.tape, hp.2.output.trans h.chg.output, Nat.le_trans hs hp.2.size, fun i hi hn => (hp.2.block i (by omega) (fun hk' => ?_)).trans (h.chg.block i hi hn)⟩
    rcases h.sub i hk' with h3 | h3
    · exact hn h3
    · omega
  · rcases hb with hb | hb
    · exact h.sub b hb
    · exact .inr (by omega)
  · obtain ⟨t1, t2⟩ := h.tot
    rw [scan_next h1 (by rw [hy]; exact h2), hy] at t1 t2
    refine ⟨?_, t2⟩
    rw [List.append_assoc]
    exact t1
end
theorem bor {k P a b : Nat} (hP : P = 2 ^ k) (ha : a * P + b < 4294967296) (hb : b < P) : bits BinOp.or IntKind.i64 ((a * P : Nat) : Int) (b : Int) = ((a * P + b : Nat) : Int) := by
  have l1 : a * P < 2 ^ 64 := Nat.lt_of_lt_of_le (m := 4294967296) (Nat.lt_of_le_of_lt (Nat.le_add_right _ b) ha) (by decide)
  have l2 : b < 2 ^ 64 := Nat.lt_of_lt_of_le (m := 4294967296) (Nat.lt_of_le_of_lt (Nat.le_add_left b _) ha) (by decide)
  show IntKind.i64.wrap ((BitVec.ofInt 64 ((a * P : Nat) : Int) ||| BitVec.ofInt 64 (b : Int)).toNat : Int) = _
  rw [BitVec.ofInt_natCast, BitVec.ofInt_natCast, BitVec.toNat_or, BitVec.toNat_ofNat, BitVec.toNat_ofNat, Nat.mod_eq_of_lt l1, Nat.mod_eq_of_lt l2]
  have h : a * P ||| b = a * P + b := by
    subst hP
    have := Nat.two_pow_add_eq_or_of_lt hb a
    rw [Nat.mul_comm] at this
    exact this.symm
  rw [h, IntKind.wrap_i64]
  clear hP h l1 l2
  generalize a * P + b = q at *
  omega
theorem num1 (a : Nat) : (((a * 16777216 : Nat)) : Int) = (a : Int) * 16777216 := by simp
theorem num2 (b : Nat) : (((b * 65536 : Nat)) : Int) = (b : Int) * 65536 := by simp
theorem num3 (a b : Nat) : ((a * 16777216 + b * 65536 : Nat) : Int) = (a : Int) * 16777216 + (b : Int) * 65536 := by simp
theorem num4 (a b : Nat) : (((a * 256 + b) * 65536 : Nat) : Int) = (a : Int) * 16777216 + (b : Int) * 65536 := by
  rw [show (a * 256 + b) * 65536 = a * 16777216 + b * 65536 by omega]; simp
theorem num5 (a b c : Nat) : (((a * 256 + b) * 65536 + c * 256 : Nat) : Int) = (a : Int) * 16777216 + (b : Int) * 65536 + (c : Int) * 256 := by
  rw [show (a * 256 + b) * 65536 + c * 256 = a * 16777216 + b * 65536 + c * 256 by omega]; simp
theorem num6 (c : Nat) : ((c * 256 : Nat) : Int) = (c : Int) * 256 := by simp
theorem num7 (a b c : Nat) : ((((a * 256 + b) * 256 + c) * 256 : Nat) : Int) = (a : Int) * 16777216 + (b : Int) * 65536 + (c : Int) * 256 := by
  rw [show ((a * 256 + b) * 256 + c) * 256 = a * 16777216 + b * 65536 + c * 256 by omega]; simp
theorem num8 (a b c d : Nat) : ((((a * 256 + b) * 256 + c) * 256 + d : Nat) : Int) = (a : Int) * 16777216 + (b : Int) * 65536 + (c : Int) * 256 + (d : Int) := by
  rw [show ((a * 256 + b) * 256 + c) * 256 + d = a * 16777216 + b * 65536 + c * 256 + d by omega]; simp
theorem bor3 {a b c d : Nat} (ha : a < 256) (hb : b < 256) (hc : c < 256) (hd : d < 256) :
    bits BinOp.or IntKind.i64 ((a : Int) * 16777216) ((b : Int) * 65536) = (a : Int) * 16777216 + (b : Int) * 65536 ∧
    bits BinOp.or IntKind.i64 ((a : Int) * 16777216 + (b : Int) * 65536) ((c : Int) * 256) = (a : Int) * 16777216 + (b : Int) * 65536 + (c : Int) * 256 ∧
    bits BinOp.or IntKind.i64 ((a : Int) * 16777216 + (b : Int) * 65536 + (c : Int) * 256) (d : Int) = (a : Int) * 16777216 + (b : Int) * 65536 + (c : Int) * 256 + (d : Int) := by
  have q1 := bor (k := 24) (P := 16777216) (a := a) (b := b * 65536) (by decide) (by omega) (by omega)
  have q2 := bor (k := 16) (P := 65536) (a := a * 256 + b) (b := c * 256) (by decide) (by omega) (by omega)
  have q3 := bor (k := 8) (P := 256) (a := (a * 256 + b) * 256 + c) (b := d) (by decide) (by omega) (by omega)
  rw [num1, num2, num3] at q1
  rw [num4, num5, num6] at q2
  rw [num7, num8] at q3
  exact ⟨q1, q2, q3⟩

theorem wrap64_b {a : Nat} (h : a < 256) : wrap64 (a : Int) = (a : Int) := by
  exact IntWalk.wrap64_in _ ⟨by omega, by omega⟩
theorem num_y {a1 a2 a3 a4 y : Nat} (b1 : a1 < 256) (b2 : a2 < 256) (b3 : a3 < 256) (b4 : a4 < 256) (hy : ((a1 * 256 + a2) * 256 + a3) * 256 + a4 = y) :
    (Value.int .i64 ((a1 : Int) * 16777216 + (a2 : Int) * 65536 + (a3 : Int) * 256 + (a4 : Int)) = Value.int .i64 (y : Int)) ∧ y < 4294967296 := by
  refine ⟨?_, by omega⟩
  rw [← hy]
  refine congrArg (Value.int .i64) ?_
  omega
def ROpenPost (w : World) (r : Nat) (s : DS) (F : Nat → Prop) (e : Ending) (w' : World) : Prop :=
  Below w.heap.size w w' ∧ match openS s with
    | none => e = .returned (.tuple #[.pointer none, .int .i64 15])
    | some l => ∃ g K, e = .returned (.tuple #[.pointer (some ⟨g, 0, none⟩), .int .i64 0]) ∧ RBoth w' g r s l F K ∧ ∀ b, K b → w.heap.size ≤ b

set_option maxRecDepth 100000 in
set_option maxHeartbeats 40000000 in
theorem ropen_any {w : World} {r : Nat} {s : DS} {F : Nat → Prop} (h : RMine w r s F) : Calls Try.prog 20 #[.pointer (some ⟨r, 0, none⟩)] w (ROpenPost w r s F) := by
  have hok := h.ok
  obtain ⟨N, hN⟩ : ∃ N, s.dur.length = N := ⟨_, rfl⟩
  have hlo := hok.lo
  have hhi := hok.hi
  have hsl : (seenL s.dur s.wait).length = N := by rw [← hN]; exact seen_len _ _ hok.fit rfl
  have hsm : ∀ x ∈ seenL s.dur s.wait, x < 256 := seen_mem _ _ hok.fit hok.byt
  have HSZ := rsize_m r s F w h
  rw [hN] at HSZ hlo hhi
  replace HSZ := Lib.hid HSZ
  have HH := Lib.hid h
  have HN := Lib.hid hN
  have HSL := Lib.hid hsl
  have HSM := Lib.hid hsm
  obtain ⟨hf, hhf⟩ : ∃ hf, hf = (N - 1) / 2 := ⟨_, rfl⟩
  have hfb : hf + hf + 1 ≤ N := by omega
  have hf1 : 31 ≤ hf := by omega
  have HHF := Lib.hid hhf
  have HHALF : Hid (∀ W, Calls Try.prog 44 #[.int .i64 (N : Int)] W fun e w' => e = .returned (.int .i64 (hf : Int)) ∧ W = w') := fun W => by rw [hhf]; exact rhalf_any N W (by omega) (by omega)
  have hrd := rread_m r s F 0 (N : Int) w h (by omega)
  clear h hok hN hsl hsm hhf
  by_cases hoff : s.off = true
  · have hrs : readS s 0 (N : Int) = ([], 15) := by unfold readS; rw [if_pos hoff]
    rw [hrs] at hrd
    replace hrd := Lib.hid hrd
    have hop : Hid (openS s = none) := by unfold Hid openS; rw [if_pos hoff]
    clear hrs
    go_enter Try.func20, Try.ntmps20
    go_wp2_with fail
    refine (HSZ.out).mono ?_
    rintro e w1 ⟨rfl, rfl⟩
    go_wp2_with fail
    refine (hrd.out).mono ?_
    rintro e w2 ⟨A, c, rfl, -, -, -, hb2⟩
    have B2 := Lib.hid hb2
    clear hb2 hrd
    go_wp2_with fail
    go_ret2
    unfold ROpenPost
    rw [hop.out]
    exact ⟨B2.out, rfl⟩
  have hrs : readS s 0 (N : Int) = (seenL s.dur s.wait, 0) := by
    unfold readS
    rw [if_neg hoff]
    have hin : insideB s.dur.length 0 (N : Int) = true := by unfold insideB; rw [HN.out]; simp
    rw [hin]
    simp only [Bool.not_true, Bool.false_eq_true, if_false]
    have e0 : ((0 : Int)).toNat = 0 := rfl
    rw [e0, List.drop_zero, Int.toNat_natCast, List.take_of_length_le (by rw [HSL.out]; exact Nat.le_refl _)]
  rw [hrs] at hrd
  replace hrd := Lib.hid hrd
  have HOFF := Lib.hid hoff
  clear hrs hoff
  go_enter Try.func20, Try.ntmps20
  go_wp2_with fail
  refine (HSZ.out).mono ?_
  rintro e w1 ⟨rfl, rfl⟩
  clear HSZ
  go_wp2_with fail
  refine (hrd.out).mono ?_
  rintro e w2 ⟨A, c, rfl, hr2, hNc, hA2, hb2⟩
  simp only [HSL.out] at hr2 hNc ⊢
  have B2 := Lib.hid hb2
  have M2 := Lib.hid ((HH.out).below hb2)
  obtain ⟨b0, hb0⟩ : ∃ b0, (seenL s.dur s.wait)[0]? = some b0 := ⟨(seenL s.dur s.wait)[0]'(by rw [HSL.out]; omega), List.getElem?_eq_getElem _⟩
  have HR2 := Lib.hid hr2
  obtain ⟨ab, ao, u, rfl, hab, hu, hcell⟩ := hr2.at1 (show 0 < N by omega)
  obtain rfl : u = .int .u8 (b0 : Int) := by rw [List.getElem?_map, hb0] at hu; simpa [byt] using hu.symm
  rw [Nat.add_zero] at hcell
  obtain ⟨sec, hsec⟩ : ∃ sec, ((b0 : Int) != 0) = sec := ⟨_, rfl⟩
  have hsec2 : ((seenL s.dur s.wait).getD 0 0 != 0) = sec := by
    rw [List.getD_eq_getElem?_getD, hb0, ← hsec]
    show (b0 != 0) = ((b0 : Int) != 0)
    by_cases h0 : b0 = 0
    · subst h0; rfl
    · have e1 : (b0 != 0) = true := by simpa using h0
      have e2 : ((b0 : Int) != 0) = true := by simp; omega
      rw [e1, e2]
  have HSEC := Lib.hid hsec2
  have HAW : Hid (w.heap.size ≤ ab) := hA2 _ rfl
  have OBJ := Lib.hid (Blk.new w2 85 #[.pointer (some ⟨r, 0, none⟩), .slice none 0 0, .bool sec, .int .i64 0, .bool false])
  have L3 : Hid (RLogX (w2.alloc (.cells #[.pointer (some ⟨r, 0, none⟩), .slice none 0 0, .bool sec, .int .i64 0, .bool false] 85)) w2.heap.size r { (⟨hf, sec, 0, [], false⟩ : LS) with recs := [], fin := 0 } (.slice none 0 0) [] (fun b => b = w2.heap.size)) :=
    ⟨OBJ.out, ⟨rfl, .inl ⟨rfl, rfl⟩⟩, rfl, (fun x hx => by cases hx), rfl, (fun b hb => by simp [Value.ownBlock] at hb), (fun b hb => by rw [hb]; simp), by show hf ≤ 65536; omega, Nat.zero_le _, Nat.le_refl _, (fun b hb => by cases hb), (fun b hb => by cases hb)⟩
  have M3 := Lib.hid ((M2.out).alloc (.cells #[.pointer (some ⟨r, 0, none⟩), .slice none 0 0, .bool sec, .int .i64 0, .bool false] 85))
  have B3 := Lib.hid (bal (B2.out) (.cells #[.pointer (some ⟨r, 0, none⟩), .slice none 0 0, .bool sec, .int .i64 0, .bool false] 85))
  have hab2 := hab
  have RB3 : Hid (RBoth (w2.alloc (.cells #[.pointer (some ⟨r, 0, none⟩), .slice none 0 0, .bool sec, .int .i64 0, .bool false] 85)) w2.heap.size r s { (⟨hf, sec, 0, [], false⟩ : LS) with recs := [], fin := 0 } F (fun b => b = w2.heap.size)) :=
    ⟨M3.out, ⟨_, _, L3.out⟩, fun i hF hi => by have := (M2.out).lt i hF; omega, by rw [HN.out]; exact HHF.out⟩
  have hsz2 := rsize_m r s F _ M3.out
  rw [HN.out] at hsz2
  have HSZ2 := Lib.hid hsz2
  clear hsz2
  have HBASE := Lib.hid (rbase_any RB3.out)
  have HAR2 := Lib.hid ((HR2.out).alloc (Nat.le_refl _) (.cells #[.pointer (some ⟨r, 0, none⟩), .slice none 0 0, .bool sec, .int .i64 0, .bool false] 85))
  clear hr2 hA2 hb2 hrd hu hb0 hsec2
  go_wp2_with fail
  generalize w2.alloc (.cells #[.pointer (some ⟨r, 0, none⟩), .slice none 0 0, .bool sec, .int .i64 0, .bool false] 85) = W3 at *
  refine (HSZ2.out).mono ?_
  rintro e w4 ⟨rfl, rfl⟩
  go_wp2_with fail
  refine (HHALF.out _).mono ?_
  rintro e w4 ⟨rfl, rfl⟩
  go_wp2_with fail
  refine (HBASE.out).mono ?_
  rintro e w4 ⟨rfl, rfl⟩
  go_wp2_with fail
  refine (HBASE.out).mono ?_
  rintro e w4 ⟨rfl, rfl⟩
  have hst1 : startS hf sec + hf ≤ N := by unfold startS; split <;> omega
  obtain ⟨st, hst⟩ : ∃ st, startS hf sec = st := ⟨_, rfl⟩
  have HSTA := Lib.hid hst
  obtain ⟨ar, har⟩ : ∃ ar, ar = ((seenL s.dur s.wait).drop st).take hf := ⟨_, rfl⟩
  rw [hst] at hst1
  have hst2 : 1 ≤ st := by rw [← hst]; unfold startS; split <;> omega
  have harl : ar.length = hf := by rw [har, List.length_take, List.length_drop, HSL.out]; omega
  have hmid : Reads W3 w2.heap.size 1 (some ⟨ab, ao + st, none⟩) hf (ar.map byt) := by
    rw [har]
    exact reads_mid (lo := st) (m := hf) (HAR2.out) (by omega)
  have hbs : ∀ x ∈ ar, x < 256 := fun x hx => by rw [har] at hx; exact (HSM.out) x (List.mem_of_mem_drop (List.mem_of_mem_take hx))
  have HARL := Lib.hid harl
  have HBS := Lib.hid hbs
  have HAR := Lib.hid har
  have HR := Lib.hid hmid
  have s1 : IntKind.i64.wrap ((st : Int) + (hf : Int)) = (st : Int) + (hf : Int) := by rw [IntKind.wrap_i64]; omega
  have s2 : ((st : Int)).toNat = st := by omega
  have s3 : ((st : Int) + (hf : Int)).toNat = st + hf := by omega
  have t1 : 0 ≤ (st : Int) + (hf : Int) := by omega
  have t2 : (st : Int) + (hf : Int) ≤ (c : Int) := by omega
  have t3 : 0 ≤ (st : Int) := by omega
  have t6 : (st : Int) ≤ (st : Int) + (hf : Int) := by omega
  have t4 : (st : Int) ≤ max ((st : Int) + (hf : Int)) 0 := by omega
  have t5 : ¬ c = st := by omega
  have t7 : st + hf - st = hf := by omega
  have R0 : Hid (RSc W3 W3 w2.heap.size r ⟨hf, sec, 0, [], false⟩ (fun b => b = w2.heap.size) ar (ar.length + 1) 0 [] (.slice none 0 0) [] (fun b => b = w2.heap.size)) := ⟨by omega, Nat.zero_le _, L3.out, Chg.refl _ _, fun b hb => .inl hb, by simp⟩
  have B3s : Hid (w2.heap.size ≤ W3.heap.size) := Nat.le_of_lt ((L3.out).lt _ rfl)
  have hop : openS s = some ⟨hf, sec, (scanS ar (ar.length + 1) 0).2, (scanS ar (ar.length + 1) 0).1, false⟩ := by
    unfold openS
    rw [if_neg HOFF.out, HN.out, ← HHF.out, HSEC.out, HARL.out, HAR.out, ← HSTA.out]
  have HOP := Lib.hid hop
  have FIN : Hid (∀ wr k e dn v rs K', RSc W3 wr w2.heap.size r ⟨hf, sec, 0, [], false⟩ (fun b => b = w2.heap.size) ar k e dn v rs K' → scanS ar k e = ([], e) → ROpenPost w r s F (.returned (.tuple #[.pointer (some ⟨w2.heap.size, 0, none⟩), .int .i64 0])) wr) := by
    intro wr k e dn v rs K' h hs
    obtain ⟨t1, t2⟩ := h.tot
    rw [hs] at t1 t2
    rw [List.append_nil] at t1
    have hb3 := (B3.out).size
    have hw2 : w.heap.size ≤ w2.heap.size := (B2.out).size
    refine ⟨(B3.out).trans (h.chg.below hb3 (fun i hi => by rw [hi]; exact hw2)), ?_⟩
    rw [HOP.out]
    refine ⟨w2.heap.size, K', rfl, ⟨(M3.out).chg h.chg (fun b hF hK => ?_), ⟨v, rs, ?_⟩, fun b hF hK => ?_, ?_⟩, fun b hK => ?_⟩
    · have h1 := (HH.out).lt b hF
      have hK' : b = w2.heap.size := hK
      omega
    · rw [← t1, ← t2]
      exact h.log
    · have h1 := (HH.out).lt b hF
      rcases h.sub b hK with h2 | h2
      · have h2' : b = w2.heap.size := h2
        omega
      · omega
    · rw [HN.out]; exact HHF.out
    · rcases h.sub b hK with h2 | h2
      · have h2' : b = w2.heap.size := h2
        omega
      · omega
  clear hst har harl hmid hbs HR2 HAR2 HSM hop HH HN HSL HSEC HOP HAR OBJ L3 M3 B3 RB3 HSZ2 HBASE M2 HHALF HOFF HHF hcell
  simp only [HSTA.out]
  go_wp2_with fail
  clear s1 s2 s3 t1 t2 t3 t4 t5 t6 t7
  have HAB : Hid (ab < w2.heap.size) := hab
  clear hab hab2 HAW
  generalize w2.heap.size = g at *
  go_loopw [] (fun wr => ∃ (k e : Nat) (dn : List (List Nat)) (v : Value) (rs : List Rc) (K' : Nat → Prop), RSc W3 wr g r ⟨hf, sec, 0, [], false⟩ (fun b => b = g) ar k e dn v rs K') (fun wr => ((hf : Int) - intOf ((wr.cell? ⟨g, 3, none⟩).getD (.int .i64 0))).toNat)
  case atStart => exact ⟨_, _, _, _, _, _, R0.out⟩
  case round =>
    obtain ⟨k, e, dn, v, rs, K', hR⟩ := hrel
    have RR := Lib.hid hR
    have c3 := hR.log.blk.cell 3
    have hle := hR.le
    simp at c3
    rw [HARL.out] at hle
    by_cases hlt : e < hf
    · have d0 : decide ((e : Int) < (hf : Int)) = true := by simp; omega
      have hrw : Reads wr g 1 (some ⟨ab, ao + st, none⟩) hf (ar.map byt) := (HR.out).chg hR.chg (B3s.out) (fun ad ha hk => by injection ha with ha; subst ha; have h2 : ab = g := hk; have := HAB.out; omega)
      obtain ⟨x, hx⟩ : ∃ x, ar[e]? = some x := ⟨ar[e]'(by rw [HARL.out]; omega), List.getElem?_eq_getElem _⟩
      have hgx : ar.getD e 0 = x := by rw [List.getD_eq_getElem?_getD, hx]; rfl
      obtain ⟨ab', ao', u, he, -, hu, hcell⟩ := hrw.at1 hlt
      injection he with he
      injection he with he1 he2
      subst he1
      have he2' : ao' = ao + st := he2.symm
      subst he2'
      obtain rfl : u = .int .u8 (x : Int) := by rw [List.getElem?_map, hx] at hu; simpa [byt] using hu.symm
      have HRW := Lib.hid hrw
      clear hR R0 hrw hu hx he2
      have hne : ¬ hf ≤ e := by omega
      have w5 : IntKind.i64.wrap ((e : Int) + 5) = (e : Int) + 5 := by rw [IntKind.wrap_i64]; omega
      have HGX := Lib.hid hgx
      clear hgx
      by_cases h1 : x = 1
      · subst h1
        have d1 : (((1 : Nat) : Int) == 1) = true := by simp
        by_cases h5 : e + 5 ≤ hf
        · have d5 : decide ((e : Int) + 5 ≤ (hf : Int)) = true := by simp; omega
          obtain ⟨a1, ha1⟩ : ∃ x, ar[e + 1]? = some x := ⟨ar[e + 1]'(by rw [HARL.out]; omega), List.getElem?_eq_getElem _⟩
          obtain ⟨a2, ha2⟩ : ∃ x, ar[e + 2]? = some x := ⟨ar[e + 2]'(by rw [HARL.out]; omega), List.getElem?_eq_getElem _⟩
          obtain ⟨a3, ha3⟩ : ∃ x, ar[e + 3]? = some x := ⟨ar[e + 3]'(by rw [HARL.out]; omega), List.getElem?_eq_getElem _⟩
          obtain ⟨a4, ha4⟩ : ∃ x, ar[e + 4]? = some x := ⟨ar[e + 4]'(by rw [HARL.out]; omega), List.getElem?_eq_getElem _⟩
          have b1 : a1 < 256 := (HBS.out) _ (List.mem_of_getElem? ha1)
          have b2 : a2 < 256 := (HBS.out) _ (List.mem_of_getElem? ha2)
          have b3 : a3 < 256 := (HBS.out) _ (List.mem_of_getElem? ha3)
          have b4 : a4 < 256 := (HBS.out) _ (List.mem_of_getElem? ha4)
          have hval : len4 ar (e + 1) = ((a1 * 256 + a2) * 256 + a3) * 256 + a4 := by
            unfold len4
            simp only [List.getD_eq_getElem?_getD, show e + 1 + 1 = e + 2 from rfl, show e + 1 + 2 = e + 3 from rfl, show e + 1 + 3 = e + 4 from rfl, ha1, ha2, ha3, ha4, Option.getD_some]
          have CE : ∀ (j a : Nat), ar[j]? = some a → j < hf → wr.cell? ⟨ab, ao + st + j, none⟩ = some (.int .u8 (a : Int)) := fun j a ha hj => by
            obtain ⟨ab', ao', u, he, -, hu, hcell⟩ := (HRW.out).at1 hj
            injection he with he
            injection he with he1 he2
            subst he1
            have he2' : ao' = ao + st := he2.symm
            subst he2'
            obtain rfl : u = .int .u8 (a : Int) := by rw [List.getElem?_map, ha] at hu; simpa [byt] using hu.symm
            exact hcell
          have k1 := CE (e + 1) a1 ha1 (by omega)
          have k2 := CE (e + 2) a2 ha2 (by omega)
          have k3 := CE (e + 3) a3 ha3 (by omega)
          have k4 := CE (e + 4) a4 ha4 (by omega)
          obtain ⟨o1, o2, o3⟩ := bor3 b1 b2 b3 b4
          have n1 : IntKind.i64.wrap ((e : Int) + 1) = (e : Int) + 1 := by rw [IntKind.wrap_i64]; omega
          have n2 : IntKind.i64.wrap ((e : Int) + 2) = (e : Int) + 2 := by rw [IntKind.wrap_i64]; omega
          have n3 : IntKind.i64.wrap ((e : Int) + 3) = (e : Int) + 3 := by rw [IntKind.wrap_i64]; omega
          have n4 : IntKind.i64.wrap ((e : Int) + 4) = (e : Int) + 4 := by rw [IntKind.wrap_i64]; omega
          obtain ⟨y, hy⟩ : ∃ y, ((a1 * 256 + a2) * 256 + a3) * 256 + a4 = y := ⟨_, rfl⟩
          obtain ⟨hy2, hyb⟩ := num_y b1 b2 b3 b4 hy
          have o4 := wrap64_b b4
          replace o4 := Lib.hid o4
          replace hy2 := Lib.hid hy2
          rw [hy] at hval
          have HY4 := Lib.hid hval
          clear CE ha1 ha2 ha3 ha4 hval hy
          go_upto_region 11 with fail
          go_cut [9] (fun v wx => v = .int .i64 (y : Int) ∧ ∃ q, wx = wr.drewN q)
          case first => as_aux_lemma =>
            go_wp2_with fail
            go_quiet (fail)
            go_wp2_with fail
            go_meet
            exact ⟨by rw [o4.out, o3]; exact hy2.out, _, rfl⟩
          case rest =>
            obtain ⟨rfl, q, rfl⟩ := hcut
            clear k1 k2 k3 k4 o1 o2 o3 n1 n2 n3 n4 hy2 d0 d1 d5 hcell b1 b2 b3 b4
            have w6 : IntKind.i64.wrap ((hf : Int) - (e : Int)) = (hf : Int) - (e : Int) := by rw [IntKind.wrap_i64]; omega
            have w7 : IntKind.i64.wrap ((hf : Int) - (e : Int) - 5) = (hf : Int) - (e : Int) - 5 := by rw [IntKind.wrap_i64]; omega
            have c3q : (wr.drewN q).cell? ⟨g, 3, none⟩ = some (.int .i64 (e : Int)) := c3
            by_cases hlong : e + 5 + y ≤ hf
            · have dl : decide ((hf : Int) - (e : Int) - 5 < (y : Int)) = false := by simp; omega
              have RQ := Lib.hid ((RR.out).drewN q)
              have HRQ := Lib.hid ((HRW.out).drewN q)
              have C3 := Lib.hid c3
              clear RR HRW c3
              generalize wr.drewN q = wq at *
              obtain ⟨Av, cv, hv⟩ := (RQ.out).log.slice
              subst hv
              have c1q := (RQ.out).log.blk.cell 1
              have f1q := (RQ.out).log.blk.frozen 1
              have f3q := (RQ.out).log.blk.frozen 3
              simp at c1q
              obtain ⟨i0, hi0, hz0, hz1, hz2⟩ := info_parts slices_info
              obtain ⟨i5, hi5, hy0, hy1, hy2⟩ := info_parts byte_info
              have HI0 := Lib.hid hi0
              have HZ0 := Lib.hid hz0
              have HZ1 := Lib.hid hz1
              have HZ2 := Lib.hid hz2
              have HI5 := Lib.hid hi5
              have HY0 := Lib.hid hy0
              have HY1 := Lib.hid hy1
              have HY2 := Lib.hid hy2
              obtain ⟨b, hb⟩ : ∃ b, b = (ar.drop (e + 5)).take y := ⟨_, rfl⟩
              have hbl : b.length = y := by rw [hb, List.length_take, List.length_drop, HARL.out]; omega
              have hbb : Hid (∀ x ∈ b, x < 256) := fun x hx => by rw [hb] at hx; exact (HBS.out) x (List.mem_of_mem_drop (List.mem_of_mem_take hx))
              have hmid := reads_mid (lo := e + 5) (m := y) (HRQ.out) hlong
              rw [← hb] at hmid
              have HBE := Lib.hid hb
              have HBL := Lib.hid hbl
              have HM := Lib.hid hmid
              have HO1 := Lib.hid (RQ.out).log.own
              have hgw := Lib.hid ((RQ.out).log.lt g (RQ.out).log.kg)
              clear hi0 hz0 hz1 hz2 hi5 hy0 hy1 hy2 hb hbl hmid
              have hby : y < 131072 := by omega
              have hrs : rs.length ≤ 65536 := by have h1 := (RQ.out).log.few; have h2 := (RQ.out).log.fin; have h3 := (RQ.out).log.half; have h4 := (RQ.out).log.len; simp only at h1 h2 h3 h4; omega
              have hor : ((c - st = e + 5) = True ∧ Hid (∀ X, Below wq.heap.size wq X → Src Try.prog 1 32 (.slice (some ⟨ab, ao + st, none⟩) y (c - st - (e + 5))) y (b.map byt) X)) ∨ ((c - st = e + 5) = False ∧ Hid (∀ X, Below wq.heap.size wq X → Src Try.prog 1 32 (.slice (some ⟨ab, ao + st + (e + 5), none⟩) y (c - st - (e + 5))) y (b.map byt) X)) := by
                by_cases hce : c - st = e + 5
                · refine .inl ⟨eq_true hce, fun X hb => ?_⟩
                  have hy0 : y = 0 := by omega
                  have hb0 : b = [] := List.eq_nil_of_length_eq_zero (by rw [HBL.out]; exact hy0)
                  rw [hb0, hy0]
                  exact src_reads (P := Try.prog) X (tx := 32) Try.underlying32 (B := X.heap.size) _ ⟨rfl, fun h => absurd h (by omega)⟩ (byt_one [])
                · refine .inr ⟨eq_false hce, fun X hb => ?_⟩
                  have hg' : g ≤ wq.heap.size := Nat.le_of_lt hgw.out
                  refine src_reads (P := Try.prog) X (tx := 32) Try.underlying32 (B := X.heap.size) _ ?_ (byt_one b)
                  have hm2 : Reads wq wq.heap.size 1 (some ⟨ab, ao + st + (e + 5), none⟩) y (b.map byt) := ⟨(HM.out).1, fun hn => by obtain ⟨ad, he, hb', hc'⟩ := (HM.out).2 hn; exact ⟨ad, he, Nat.lt_of_lt_of_le hb' hg', hc'⟩⟩
                  exact read_keep hm2 hb.size (fun _ ad ha => hb.block _ (by injection ha with ha; subst ha; have := HAB.out; show ab < wq.heap.size; omega))
              have HC : Hid (∀ X, Below wq.heap.size wq X → X.cell? ⟨g, 1, none⟩ = some (.slice Av rs.length cv) ∧ X.cell? ⟨g, 3, none⟩ = some (.int .i64 (e : Int))) := fun X hb => by
                have hk2 := (RQ.out).log.blk.below hb (RQ.out).log.blk.lt
                exact ⟨by rw [hk2.cell]; rfl, by rw [hk2.cell]; rfl⟩
              have B0 : Hid (Below wq.heap.size wq wq.drew) := below_drewN (Below.refl _ _) 1
              have MA : Hid (rs.length + 1 ≤ maxLen ∧ (rs.length + 1) * 24 ≤ 140737488355328) := by unfold Hid maxLen; omega
              have MB : Hid (0 + y ≤ maxLen ∧ (0 + y) * 1 ≤ 140737488355328) := by unfold Hid maxLen; omega
              have OWN : Hid (∀ X, Below wq.heap.size wq X → X.ownsRow 0 32 1 (.slice Av rs.length cv) rs.length (rs.flatMap rcell)) := fun X hb => owns_below HO1.out hb (own_lt HO1.out)
              have BHL : Hid (∀ vh wh, Grows (wq.drew.alloc (.cells #[] 5)) wh (.slice (some ⟨wq.drew.heap.size, 0, none⟩) 0 0) vh → Below wq.heap.size wq wh) := fun vh wh hg => (bal B0.out _).trans (hg.below (bal B0.out _).size (fun q hq => by simp [Value.ownBlock] at hq; have h1 := (B0.out).size; simp at h1; omega))
              have KEEP : Hid (∀ wh, Below wq.heap.size wq wh → ∀ o v3 w3, Grows (wh.alloc o) w3 (.slice Av rs.length cv) v3 → w3.frozen? ⟨g, 1, none⟩ = false ∧ w3.frozen? ⟨g, 3, none⟩ = false ∧ w3.cell? ⟨g, 3, none⟩ = some (.int .i64 (e : Int)) ∧ w3.cell? ⟨g, 1, none⟩ = some (.slice Av rs.length cv) ∧ ∀ v, (w3.setCell ⟨g, 1, none⟩ v).cell? ⟨g, 3, none⟩ = some (.int .i64 (e : Int))) := fun wh hb o v3 w3 hg => by
                have hk3 := hg.blk (((RQ.out).log.blk.below hb (RQ.out).log.blk.lt).alloc o) (own_blk_ne HO1.out (RQ.out).log.blk (by decide))
                exact ⟨hk3.frozen 1, hk3.frozen 3, by rw [hk3.cell]; rfl, by rw [hk3.cell]; rfl, fun v => by rw [(hk3.set_ 1 v).cell]; rfl⟩
              have s2 : ((e : Int) + 5).toNat = e + 5 := by omega
              have s1 : IntKind.i64.wrap ((e : Int) + 5 + (y : Int)) = (e : Int) + 5 + (y : Int) := by rw [IntKind.wrap_i64]; omega
              have s3 : ((e : Int) + 5 + (y : Int)).toNat = e + 5 + y := by omega
              have s4 : e + 5 + y - (e + 5) = y := by omega
              have t1 : 0 ≤ (e : Int) + 5 + (y : Int) := by omega
              have hcc : hf ≤ c - st := by omega
              have hcs : ((c - st : Nat) : Int) = (c : Int) - (st : Int) := by omega
              have t2 : (e : Int) + 5 + (y : Int) ≤ ((c - st : Nat) : Int) := by omega
              have t3 : 0 ≤ (e : Int) + 5 := by omega
              have t6 : (e : Int) + 5 ≤ (e : Int) + 5 + (y : Int) := by omega
              have t4 : (e : Int) + 5 ≤ max ((e : Int) + 5 + (y : Int)) 0 := by omega
              have hgq := hgw.out
              have c1d : wq.drew.cell? ⟨g, 1, none⟩ = some (.slice Av rs.length cv) := (HC.out _ B0.out).1
              have c3d : wq.drew.cell? ⟨g, 3, none⟩ = some (.int .i64 (e : Int)) := (HC.out _ B0.out).2
              have c1e := (HC.out _ (bal B0.out (.cells #[] 5))).1
              have c3e := (HC.out _ (bal B0.out (.cells #[] 5))).2
              clear hcs
              rcases hor with ⟨hce, HSRC⟩ | ⟨hce, HSRC⟩
              all_goals
                go_wp2_with fail
                have HS0 := Lib.hid (HC.out _ B0.out)
                refine wp_region_w (fun w' => w'.cell? ⟨g, 1, none⟩ = some (.slice Av rs.length cv) ∧ w'.cell? ⟨g, 3, none⟩ = some (.int .i64 (e : Int))) 25 (by kernel_rfl) ?_
                refine wpAnyW_takeY (i := 0) (v := ?_) rfl (by kernel_rfl) (by kernel_rfl) (by kernel_rfl) rfl (fun _ _ _ h => h) (by rfl) (fun wv => ?_) HS0.out ?_
                rotate_left
                · go_simp; with_reducible rfl
                try simp only [Act.put, List.setIfInBounds_toArray]
                refine wpAnyW_takeY (i := 1) (v := ?_) rfl (by kernel_rfl) (by kernel_rfl) (by kernel_rfl) rfl (fun _ _ _ h => h) (by rfl) (fun wv => ?_) HS0.out ?_
                rotate_left
                · go_simp; with_reducible rfl
                try simp only [Act.put]
                refine wpAnyW_takeY (i := 2) (v := ?_) rfl (by kernel_rfl) (by kernel_rfl) (by kernel_rfl) rfl (fun _ _ _ h => h) (by rfl) (fun wv => ?_) HS0.out ?_
                rotate_left
                · go_simp; with_reducible rfl
                try simp only [Act.put]
                refine wpAnyW_takeY (i := 3) (v := ?_) rfl (by kernel_rfl) (by kernel_rfl) (by kernel_rfl) rfl (fun _ _ _ h => h) (by rfl) (fun wv => ?_) HS0.out ?_
                rotate_left
                · go_simp; with_reducible rfl
                try simp only [Act.put]
                refine wpAnyW_takeS (i := 4) (v := ?_) rfl (by kernel_rfl) (by kernel_rfl) (by kernel_rfl) rfl (by kernel_rfl) (by kernel_rfl) (fun _ _ _ h => h) (by rfl) (fun wv hv => ?_) HS0.out ?_
                rotate_left
                · (try dsimp only at hv); go_simp; with_reducible rfl
                try simp only [Act.put]
                refine wpAnyW_takeY (i := 6) (v := ?_) rfl (by kernel_rfl) (by kernel_rfl) (by kernel_rfl) rfl (fun _ _ _ h => h) (by rfl) (fun wv => ?_) HS0.out ?_
                rotate_left
                · go_simp; with_reducible rfl
                try simp only [Act.put]
                refine wpAnyW_takeY (i := 7) (v := ?_) rfl (by kernel_rfl) (by kernel_rfl) (by kernel_rfl) rfl (fun _ _ _ h => h) (by rfl) (fun wv => ?_) HS0.out ?_
                rotate_left
                · go_simp; with_reducible rfl
                try simp only [Act.put]
                refine wpAnyW_takeY (i := 8) (v := ?_) rfl (by kernel_rfl) (by kernel_rfl) (by kernel_rfl) rfl (fun _ _ _ h => h) (by rfl) (fun wv => ?_) HS0.out ?_
                rotate_left
                · go_simp; with_reducible rfl
                try simp only [Act.put]
                refine wpAnyW_takeY (i := 9) (v := ?_) rfl (by kernel_rfl) (by kernel_rfl) (by kernel_rfl) rfl (fun _ _ _ h => h) (by rfl) (fun wv => ?_) HS0.out ?_
                rotate_left
                · go_simp; with_reducible rfl
                try simp only [Act.put]
                refine wpAnyW_takeS (i := 10) (v := ?_) rfl (by kernel_rfl) (by kernel_rfl) (by kernel_rfl) rfl (by kernel_rfl) (by kernel_rfl) (fun _ _ _ h => h) (by rfl) (fun wv hv => ?_) HS0.out ?_
                rotate_left
                · (try dsimp only at hv); go_simp; with_reducible rfl
                try simp only [Act.put]
                refine wpAnyW_takeY (i := 11) (v := ?_) rfl (by kernel_rfl) (by kernel_rfl) (by kernel_rfl) rfl (fun _ _ _ h => h) (by rfl) (fun wv => ?_) HS0.out ?_
                rotate_left
                · go_simp; with_reducible rfl
                try simp only [Act.put]
                refine wpAnyW_takeY (i := 12) (v := ?_) rfl (by kernel_rfl) (by kernel_rfl) (by kernel_rfl) rfl (fun _ _ _ h => h) (by rfl) (fun wv => ?_) HS0.out ?_
                rotate_left
                · go_simp; with_reducible rfl
                try simp only [Act.put]
                refine wpAnyW_takeY (i := 13) (v := ?_) rfl (by kernel_rfl) (by kernel_rfl) (by kernel_rfl) rfl (fun _ _ _ h => h) (by rfl) (fun wv => ?_) HS0.out ?_
                rotate_left
                · go_simp; with_reducible rfl
                try simp only [Act.put]
                refine wpAnyW_takeY (i := 14) (v := ?_) rfl (by kernel_rfl) (by kernel_rfl) (by kernel_rfl) rfl (fun _ _ _ h => h) (by rfl) (fun wv => ?_) HS0.out ?_
                rotate_left
                · go_simp; with_reducible rfl
                try simp only [Act.put]
                refine wpAnyW_takeS (i := 15) (v := ?_) rfl (by kernel_rfl) (by kernel_rfl) (by kernel_rfl) rfl (by kernel_rfl) (by kernel_rfl) (fun _ _ _ h => h) (by rfl) (fun wv hv => ?_) HS0.out ?_
                rotate_left
                · (try dsimp only at hv); go_simp; with_reducible rfl
                try simp only [Act.put]
                refine wpAnyW_takeY (i := 16) (v := ?_) rfl (by kernel_rfl) (by kernel_rfl) (by kernel_rfl) rfl (fun _ _ _ h => h) (by rfl) (fun wv => ?_) HS0.out ?_
                rotate_left
                · go_simp; with_reducible rfl
                try simp only [Act.put]
                refine wpAnyW_takeY (i := 17) (v := ?_) rfl (by kernel_rfl) (by kernel_rfl) (by kernel_rfl) rfl (fun _ _ _ h => h) (by rfl) (fun wv => ?_) HS0.out ?_
                rotate_left
                · go_simp; with_reducible rfl
                try simp only [Act.put]
                refine wpAnyW_takeY (i := 18) (v := ?_) rfl (by kernel_rfl) (by kernel_rfl) (by kernel_rfl) rfl (fun _ _ _ h => h) (by rfl) (fun wv => ?_) HS0.out ?_
                rotate_left
                · go_simp; with_reducible rfl
                try simp only [Act.put]
                refine wpAnyW_takeY (i := 19) (v := ?_) rfl (by kernel_rfl) (by kernel_rfl) (by kernel_rfl) rfl (fun _ _ _ h => h) (by rfl) (fun wv => ?_) HS0.out ?_
                rotate_left
                · go_simp; with_reducible rfl
                try simp only [Act.put]
                refine wpAnyW_one (i := 5) (by kernel_rfl) rfl (fun KK hKK => ?_)
                go_simp
                refine hKK.out _ _ (HC.out _ (bal B0.out _)) ?_
                try simp only [Act.put]
                refine wpAnyW_one (i := 20) (by kernel_rfl) rfl (fun KK hKK => ?_)
                (refine step_append_row _ rfl (.tmp 121) (.tmp 135) 32 32 rfl wq.heap.size 5 i5 (.int .u8 0) 1 1 Try.underlying32 HI5.out HY0.out HY1.out HY2.out rfl (by decide) _ 0 _ rfl (own_emp (Blk.new _ 5 #[]) (Nat.le_refl _)) _ y (b.map byt) rfl (HSRC.out _ (bal B0.out _)) MB.out.1 MB.out.2 ((bal B0.out _).size) ?_; intro vh wh ho hg; obtain ⟨Ah, ch, rfl, -, -⟩ := reads_of_owns ho; have HOH := Lib.hid ho; have BH := Lib.hid (BHL.out _ _ hg); have OCV := Lib.hid (OWN.out _ BH.out); obtain ⟨k12, k32⟩ := HC.out _ BH.out; obtain ⟨k13, k33'⟩ := HC.out _ (bal BH.out (.cells #[.slice Ah (0 + y) ch] 32)); have hl2 := Nat.lt_of_lt_of_le hgw.out (BH.out).size; clear ho hg)
                refine hKK.out _ _ (HC.out _ BH.out) ?_
                try simp only [Act.put, List.setIfInBounds_toArray]
                refine wpAnyW_one (i := 21) (by kernel_rfl) rfl (fun KK hKK => ?_)
                go_simp
                refine hKK.out _ _ (HC.out _ (bal BH.out _)) ?_
                try simp only [Act.put]
                refine wpAnyW_one (i := 22) (by kernel_rfl) rfl (fun KK hKK => ?_)
                (refine step_append_row _ rfl (.tmp 120) (.tmp 137) 35 35 rfl 0 32 i0 (.slice none 0 0) 1 24 Try.underlying35 HI0.out HZ0.out HZ1.out HZ2.out rfl (by decide) _ rs.length _ rfl ((OCV.out).alloc _) _ 1 _ rfl (src_new wh Try.underlying35 [_] 1 1 1 32 rfl (fun u hu => by simp at hu; subst hu; rfl)) MA.out.1 MA.out.2 (Nat.zero_le _) ?_; intro v3 w3 ho3 hg3; obtain ⟨A3, q3, rfl, -, -⟩ := reads_of_owns ho3; have HO3 := Lib.hid ho3; have HG3 := Lib.hid hg3; obtain ⟨l31, l33, k33, l11, k3s⟩ := KEEP.out _ BH.out _ _ _ hg3; clear ho3 hg3 k12 k32 k13 k33' hl2)
                refine hKK.out _ _ ⟨l11, k33⟩ ?_
                try simp only [Act.put, List.setIfInBounds_toArray]
                have HS3 := Lib.hid (And.intro l11 k33)
                refine wpAnyW_takeY (i := 23) (v := ?_) rfl (by kernel_rfl) (by kernel_rfl) (by kernel_rfl) rfl (fun _ _ _ h => h) (by rfl) (fun wv => ?_) HS3.out ?_
                rotate_left
                · go_simp; with_reducible rfl
                try simp only [Act.put]
                refine wpAnyW_takeY (i := 24) (v := ?_) rfl (by kernel_rfl) (by kernel_rfl) (by kernel_rfl) rfl (fun _ _ _ h => h) (by rfl) (fun wv => ?_) HS3.out ?_
                rotate_left
                · go_simp; with_reducible rfl
                try simp only [Act.put]
                refine wpAnyW_last (i := 25) (by kernel_rfl) rfl (by kernel_rfl) (by kernel_rfl) (fun KK hKK => ?_)
                go_simp
                refine hKK.out _ _ ?_
                all_goals as_aux_lemma =>
                  have e0 : 0 + y = b.length := by rw [HBL.out]; omega
                  have hoh := HOH.out
                  have ho3 := HO3.out
                  rw [e0, List.nil_append] at hoh
                  first | rw [e0] at ho3 | rw [← HBL.out] at ho3
                  have hP := rrec_push (fin' := e + 5 + y) (RQ.out).log (BH.out) (Reads.of_own hoh) (fun ad ha => by obtain ⟨A', c', he', -, hA'⟩ := reads_of_owns hoh; injection he' with he'; subst he'; exact (hA' ad ha).1) (hbb.out) (by rw [HBL.out]; omega) (HG3.out) ho3 (by show e + 5 ≤ e + 5 + y; omega) (by show e + 5 + y ≤ hf; omega)
                  have hcast : ((e + 5 + y : Nat) : Int) = (e : Int) + (5 + (y : Int)) := by omega
                  rw [hcast, HBE.out] at hP
                  have R3 := Lib.hid ((RQ.out).push ⟨by rw [HARL.out]; exact h5, HGX.out⟩ (HY4.out) (by rw [HARL.out]; exact hlong) hP)
                  have cF := (R3.out).log.blk.cell 3
                  simp only [List.getElem?_toArray, List.getElem?_cons_succ, List.getElem?_cons_zero] at cF
                  have CF := Lib.hid cF
                  have z1 : IntKind.i64.wrap (5 + (y : Int)) = 5 + (y : Int) := by rw [IntKind.wrap_i64]; omega
                  have z2 : IntKind.i64.wrap ((e : Int) + (5 + (y : Int))) = (e : Int) + (5 + (y : Int)) := by rw [IntKind.wrap_i64]; omega
                  clear hP cF hoh ho3 HOH HO3 HG3 BH OCV RQ HRQ HSRC
                  go_wp2_with fail
                  refine ⟨⟨k - 1, e + 5 + y, _, _, _, _, R3.out⟩, ?_⟩
                  rw [CF.out, C3.out]
                  simp only [Option.getD_some, intOf]
                  omega
            · have dl : decide ((hf : Int) - (e : Int) - 5 < (y : Int)) = true := by simp; omega
              have HS := Lib.hid (scan_long (l := ar) (k := k) (e := e) (by rw [HY4.out, HARL.out]; exact hlong))
              go_wp2_with fail
              go_ret2
              exact FIN.out _ _ _ _ _ _ _ ((RR.out).drewN q) (HS.out)
        · have d5 : decide ((e : Int) + 5 ≤ (hf : Int)) = false := by simp; omega
          have HS := Lib.hid (scan_stop (l := ar) (k := k) (e := e) (by rw [HARL.out]; exact fun h => h5 h.1))
          go_wp2_with fail
          go_ret2
          exact FIN.out _ _ _ _ _ _ _ (RR.out) (HS.out)
      · have d1 : ((x : Int) == 1) = false := by simp; omega
        have HS := Lib.hid (scan_stop (l := ar) (k := k) (e := e) (by rw [HGX.out]; exact fun h => h1 h.2))
        clear HRW
        go_wp2_with fail
        go_ret2
        exact FIN.out _ _ _ _ _ _ _ (RR.out) (HS.out)
    · have d0 : decide ((e : Int) < (hf : Int)) = false := by simp; omega
      have HS := Lib.hid (scan_stop (l := ar) (k := k) (e := e) (by rw [HARL.out]; exact fun h => hlt (by omega)))
      clear hR R0
      go_wp2_with fail
      go_ret2
      exact FIN.out _ _ _ _ _ _ _ (RR.out) (HS.out)
end Go.Proofs.Ytnjafhlpnoikcaa
