/-
  Lists of records beside a log: they stay while the log works. No condition.
-/
import Derived.Test.YtnjafhlpnoikcaaLgV
namespace Go.Proofs.Ytnjafhlpnoikcaa
open Go.ChangeShapes Go.WideShapes Go.ChangeAt Go.RowKit Go.Deep
set_option linter.unusedVariables false

section
variable {P : Program}
/-- append behind a guard that says yes -/
theorem wpList_append_rowG (w : World) {ops : Array Oper} {rest : List Oper} {o : Oper} {a : Act} {Q : Exit → Act → World → Prop} (hw : Region.wanted o (yielded ops a.tmps) = true) (s x : Operand) (t tx : TypeId)
    (ho : o.op = .call { callee := .builtin .append, args := #[s, x], argTypes := #[t, tx] })
    (base : Nat) (e : TypeId) (i : TypeInfo) (z : Value) (size bytes : Nat) (ht : P.underlying t = some (.slice e)) (hi : P.info? e = some i) (hz : i.zero = some z)
    (hsize : i.size = size) (hby : i.bytes = bytes) (hzs : z.cells.size = size) (hsz : 0 < size)
    (v : Value) (n : Nat) (xs : List Value) (hs : a.eval s = v) (hown : w.ownsRow base e size v n xs)
    (y : Value) (m : Nat) (news : List Value) (hx : a.eval x = y) (hr : Src P size tx y m news w)
    (h63 : n + m ≤ maxLen) (hbytes : (n + m) * bytes ≤ 140737488355328) (hbase : base ≤ w.heap.size)
    (h : ∀ v' w', w'.ownsRow base e size v' (n + m) (xs ++ news) → Grows w w' v v' → wpList P ops Q rest (a.put o.dst v') w') : wpList P ops Q (o :: rest) a w :=
  BigFrame.wpList_want hw fun _ hK => wp_append_row w s x t tx ho base e i z size bytes ht hi hz hsize hby hzs hsz v n xs hs hown y m news hx hr h63 hbytes hbase fun v' w' h2 h3 => hK _ _ (h v' w' h2 h3)
end
theorem own_emp {X : World} {g base size : Nat} {e : TypeId} (h : Blk X g e #[]) (hb : base ≤ g) : X.ownsRow base e size (.slice (some ⟨g, 0, none⟩) 0 0) 0 [] :=
  ⟨by simp, .inr ⟨g, 0, #[], rfl, hb, h, Nat.le_refl _, Nat.zero_le _, by simp, by simp⟩⟩
theorem rcell_one (rs : List Rc) : ∀ u ∈ rs.flatMap rcell, u.oneCell' = true := fun u hu => by
  obtain ⟨r, -, hr⟩ := List.mem_flatMap.1 hu
  simp [rcell] at hr
  subst hr
  rfl
theorem Grows.chg {w w' : World} {v v' : Value} (h : Grows w w' v v') : Chg w w' (fun b => v.ownBlock = some b) := Chg.of_grown h.grown (fun g hg => hg)

/-- records that can be read; none of their blocks is one of G -/
structure RcA (X : World) (G : Nat → Prop) (A : Option Addr) (rs : List Rc) : Prop where
  row : Reads X X.heap.size 1 A rs.length (rs.flatMap rcell)
  each : ∀ r ∈ rs, Reads X X.heap.size 1 r.A r.b.length (r.b.map byt) ∧ ∀ x ∈ r.b, x < 256
  rowG : 0 < rs.length → ∀ ad, A = some ad → ¬ G ad.block
  eachG : ∀ r ∈ rs, 0 < r.b.length → ∀ ad, r.A = some ad → ¬ G ad.block
section
variable {w X X' : World} {G G' : Nat → Prop} {A A' : Option Addr} {rs : List Rc}
theorem RcA.rcr (h : RcA X G A rs) : RcR X X.heap.size A rs := ⟨h.row, h.each⟩
theorem RcA.chg (h : RcA X G A rs) (hc : Chg X X' G) (hG : ∀ i, G' i → G i ∨ X.heap.size ≤ i) : RcA X' G' A rs := by
  have hn : ∀ {n : Nat} {B : Option Addr} {xs : List Value}, Reads X X.heap.size 1 B n xs → (0 < n → ∀ ad, B = some ad → ¬ G ad.block) → 0 < n → ∀ ad, B = some ad → ¬ G' ad.block := fun hr hg hn ad ha hx => by
    rcases hG _ hx with h1 | h1
    · exact hg hn ad ha h1
    · have := hr.at_block hn ad ha; omega
  exact ⟨(h.row.chg0 hc (Nat.le_refl _) h.rowG).more hc.size, fun r hr => ⟨((h.each r hr).1.chg0 hc (Nat.le_refl _) (h.eachG r hr)).more hc.size, (h.each r hr).2⟩, hn h.row h.rowG, fun r hr => hn (h.each r hr).1 (h.eachG r hr)⟩
theorem RcA.below (h : RcA X G A rs) (hb : Below X.heap.size X X') : RcA X' G A rs :=
  ⟨h.row.up (Nat.le_refl _) hb, fun r hr => ⟨(h.each r hr).1.up (Nat.le_refl _) hb, (h.each r hr).2⟩, h.rowG, h.eachG⟩
theorem RcA.sub (h : RcA X G A rs) (hG : ∀ i, G' i → G i) : RcA X G' A rs := ⟨h.row, h.each, fun hn ad ha hx => h.rowG hn ad ha (hG _ hx), fun r hr hn ad ha hx => h.eachG r hr hn ad ha (hG _ hx)⟩
theorem Chg.of_bel (hb : Below X.heap.size X X') : Chg X X' G := ⟨hb.os, hb.tape, hb.output, hb.size, fun i hi _ => hb.block i hi⟩
theorem RcA.alloc (h : RcA X G A rs) (o : Obj) : RcA (X.alloc o) G A rs := h.below ((Below.refl _ X).alloc (Nat.le_refl _) o)
theorem RcA.drewN (h : RcA X G A rs) (n : Nat) : RcA (X.drewN n) G A rs := h.below (below_drewN (Below.refl _ X) n)
/-- a row of one's own, of records that were there at first -/
theorem RcA.of_own {c : Nat} (ho : X.ownsRow w.heap.size 32 1 (.slice A rs.length c) rs.length (rs.flatMap rcell)) (he : ∀ r ∈ rs, GoodR w r) (hb : Below w.heap.size w X) (ha : ∀ b, (Value.slice A rs.length c).ownBlock = some b → ¬ G b) (hG : ∀ b, G b → w.heap.size ≤ b) : RcA X G A rs := by
  refine ⟨Reads.of_own ho, fun r hr => ⟨((he r hr).up hb).read, (he r hr).byte⟩, fun hn ad hA hx => ?_, fun r hr hn ad hA hx => ?_⟩
  · subst hA
    exact ha ad.block rfl hx
  · have := (he r hr).read.at_block hn ad hA
    have := hG _ hx
    omega
/-- one more -/
theorem RcA.snoc {base c : Nat} {q : Rc} (h : RcA X G A rs) (hb : Below X.heap.size X X') (ho : X'.ownsRow base 32 1 (.slice A' (rs.length + 1) c) (rs.length + 1) (rs.flatMap rcell ++ [.slice q.A q.b.length q.c])) (hq : Reads X' X'.heap.size 1 q.A q.b.length (q.b.map byt)) (hqb : ∀ x ∈ q.b, x < 256) : RcR X' X'.heap.size A' (rs ++ [q]) := by
  have h2 := h.below hb
  refine ⟨?_, fun r hr => ?_⟩
  · have := Reads.of_own ho
    rw [List.flatMap_append, List.length_append]
    exact this
  · rcases List.mem_append.1 hr with hr | hr
    · exact h2.each r hr
    · obtain rfl : r = q := by simpa using hr
      exact ⟨hq, hqb⟩
end

/-- a row of the law's own beside a log of the law's own -/
structure LR (w X : World) (g d : Nat) (s : DS) (l : LS) (F K : Nat → Prop) (v : Value) (rs : List Rc) : Prop where
  lb : LB w X g d s l F K
  own : X.ownsRow w.heap.size 32 1 v rs.length (rs.flatMap rcell)
  apart : ∀ b, v.ownBlock = some b → ¬ F b ∧ ¬ K b
  each : ∀ r ∈ rs, GoodR w r
section
variable {w X X' : World} {g d : Nat} {s s' : DS} {l : LS} {F K : Nat → Prop} {v v' : Value} {rs : List Rc} {e : Ending} {q : Rc}
theorem LB.lt (h : LB w X g d s l F K) : ∀ b, F b ∨ K b → b < X.heap.size := fun b hb => by
  rcases hb with hb | hb
  · exact h.both.disk.lt b hb
  · obtain ⟨v, rs, hx⟩ := h.both.log
    exact hx.lt b hb
theorem LR.below (h : LR w X g d s l F K v rs) (hb : Below X.heap.size X X') : LR w X' g d s l F K v rs :=
  ⟨h.lb.below hb, owns_below h.own hb (own_lt h.own), h.apart, h.each⟩
theorem LR.alloc (h : LR w X g d s l F K v rs) (o : Obj) : LR w (X.alloc o) g d s l F K v rs := h.below ((Below.refl _ X).alloc (Nat.le_refl _) o)
theorem LR.drewN (h : LR w X g d s l F K v rs) (n : Nat) : LR w (X.drewN n) g d s l F K v rs := h.below (below_drewN (Below.refl _ X) n)
theorem LR.app {r : Int × DS × LS} (h : LR w X g d s l F K v rs) (ha : AppPost X g d F K r e X') : e = .returned (.int .i64 r.1) ∧ ∃ F' K', LR w X' g d r.2.1 r.2.2 F' K' v rs := by
  have hlt := own_lt h.own
  obtain ⟨he, F', K', h1, h2, h3⟩ := ha
  have hs := h.lb.bel.size
  refine ⟨he, F', K', ⟨h1, fun b hb => ?_, h.lb.bel.trans (h2.below hs h.lb.own)⟩, owns_chg h.own h2 (fun b hb hx => by
    rcases hx with hx | hx
    · exact (h.apart b hb).1 hx
    · exact (h.apart b hb).2 hx), fun b hb => ?_, h.each⟩
  · rcases h3 b hb with h4 | h4
    · exact h.lb.own b h4
    · omega
  · have hl := hlt b hb
    refine ⟨fun hx => ?_, fun hx => ?_⟩
    · rcases h3 b (.inl hx) with (h4 | h4) | h4
      · exact (h.apart b hb).1 h4
      · exact (h.apart b hb).2 h4
      · omega
    · rcases h3 b (.inr hx) with (h4 | h4) | h4
      · exact (h.apart b hb).1 h4
      · exact (h.apart b hb).2 h4
      · omega
theorem LR.op (h : LR w X g d s l F K v rs) (ho : OpPost X d s' F X') : ∃ F', LR w X' g d s' l F' K v rs := by
  have hlt := own_lt h.own
  obtain ⟨F', h1, h2, h3⟩ := ho
  have hs := h.lb.bel.size
  obtain ⟨v0, rs0, hx⟩ := h.lb.both.log
  refine ⟨F', ⟨⟨h1, LogAt.chg ⟨v0, rs0, hx⟩ h2 (fun i hK hF => h.lb.both.apart i hF hK), fun i hF hK => ?_⟩, fun b hb => ?_, h.lb.bel.trans (h2.below hs (fun i hF => h.lb.own i (.inl hF)))⟩, owns_chg h.own h2 (fun b hb => (h.apart b hb).1), fun b hb => ⟨fun hF => ?_, (h.apart b hb).2⟩, h.each⟩
  · rcases h3 i hF with h4 | h4
    · exact h.lb.both.apart i h4 hK
    · have := hx.lt i hK; omega
  · rcases hb with hb | hb
    · rcases h3 b hb with h4 | h4
      · exact h.lb.own b (.inl h4)
      · omega
    · exact h.lb.own b (.inr hb)
  · rcases h3 b hF with h4 | h4
    · exact (h.apart b hb).1 h4
    · have := hlt b hb; omega
theorem LR.push (h : LR w X g d s l F K v rs) (hg : Grows X X' v v') (ho : X'.ownsRow w.heap.size 32 1 v' (rs.length + 1) (rs.flatMap rcell ++ [.slice q.A q.b.length q.c])) (hq : GoodR w q) : LR w X' g d s l F K v' (rs ++ [q]) := by
  have hc := hg.chg
  have hs := h.lb.bel.size
  obtain ⟨v0, rs0, hx⟩ := h.lb.both.log
  refine ⟨⟨⟨h.lb.both.disk.chg hc (fun b hF hv => (h.apart b hv).1 hF), LogAt.chg ⟨v0, rs0, hx⟩ hc (fun b hK hv => (h.apart b hv).2 hK), h.lb.both.apart⟩, h.lb.own, h.lb.bel.trans (hc.below hs (own_from h.own))⟩, ?_, fun b hb => ?_, fun r hr => ?_⟩
  · rw [List.flatMap_append, List.length_append]
    exact ho
  · rcases hg.own b hb with h1 | h1
    · exact h.apart b h1
    · exact ⟨fun hF => by have := h.lb.lt b (.inl hF); omega, fun hK => by have := h.lb.lt b (.inr hK); omega⟩
  · rcases List.mem_append.1 hr with hr | hr
    · exact h.each r hr
    · obtain rfl : r = q := by simpa using hr
      exact hq
theorem LR.rca (h : LR w X g d s l F K v rs) : ∃ A c, v = .slice A rs.length c ∧ RcA X (fun i => F i ∨ K i) A rs := by
  have ho := h.own
  obtain ⟨A, c, rfl, -, -⟩ := reads_of_owns ho
  exact ⟨A, c, rfl, RcA.of_own ho h.each h.lb.bel (fun b hb hx => by
    rcases hx with hx | hx
    · exact (h.apart b hb).1 hx
    · exact (h.apart b hb).2 hx) h.lb.own⟩
end
section
variable {w X X' X2 : World} {g g' d : Nat} {s s' : DS} {l l' : LS} {F K K' G : Nat → Prop} {A : Option Addr} {rs : List Rc} {e : Ending} {q : Rc} {v v' : Value} {o : Obj} {n : Nat} {xs : List Value}
theorem LB.appN {r : Int × DS × LS} (h : LB w X g d s l F K) (ha : AppPost X g d F K r e X') (hn : RcA X (fun i => F i ∨ K i) A rs) : e = .returned (.int .i64 r.1) ∧ ∃ F' K', LB w X' g d r.2.1 r.2.2 F' K' ∧ RcA X' (fun i => F' i ∨ K' i) A rs := by
  obtain ⟨he, F', K', h1, h2, h3⟩ := ha
  have hs := h.bel.size
  refine ⟨he, F', K', ⟨h1, fun b hb => ?_, h.bel.trans (h2.below hs h.own)⟩, hn.chg h2 h3⟩
  rcases h3 b hb with h4 | h4
  · exact h.own b h4
  · omega
theorem LB.opN (h : LB w X g d s l F K) (ho : OpPost X d s' F X') (hn : RcA X (fun i => F i ∨ K i) A rs) : ∃ F', LB w X' g d s' l F' K ∧ RcA X' (fun i => F' i ∨ K i) A rs := by
  obtain ⟨F', h1, h2, h3⟩ := ho
  have hs := h.bel.size
  obtain ⟨v0, rs0, hx⟩ := h.both.log
  refine ⟨F', ⟨⟨h1, LogAt.chg ⟨v0, rs0, hx⟩ h2 (fun i hK hF => h.both.apart i hF hK), fun i hF hK => ?_⟩, fun b hb => ?_, h.bel.trans (h2.below hs (fun i hF => h.own i (.inl hF)))⟩, hn.chg (h2.mono (fun i hi => .inl hi)) (fun i hi => ?_)⟩
  · rcases h3 i hF with h4 | h4
    · exact h.both.apart i h4 hK
    · have := hx.lt i hK; omega
  · rcases hb with hb | hb
    · rcases h3 b hb with h4 | h4
      · exact h.own b (.inl h4)
      · omega
    · exact h.own b (.inr hb)
  · rcases hi with hi | hi
    · rcases h3 i hi with h4 | h4
      · exact .inl (.inl h4)
      · exact .inr h4
    · exact .inl (.inr hi)
theorem LB.opened (h : LB w X g d s l F K) (hb : Below X.heap.size X X') (hbo : Both X' g' d s l' F K') (hK : ∀ b, K' b → X.heap.size ≤ b) : LB w X' g' d s l' F K' ∧ ∀ {A : Option Addr} {rs : List Rc}, RcA X (fun i => F i ∨ K i) A rs → RcA X' (fun i => F i ∨ K' i) A rs :=
  ⟨⟨hbo, fun b hb => by
    rcases hb with hb | hb
    · exact h.own b (.inl hb)
    · have h1 := hK b hb; have h2 := h.bel.size; omega, h.bel.trans (hb.mono h.bel.size)⟩, fun hn => hn.chg (Chg.of_bel hb) (fun i hi => by
    rcases hi with hi | hi
    · exact .inl (.inl hi)
    · exact .inr (hK i hi))⟩
/-- 'append(append([][]byte{}, rs...), q)' -/
theorem RcA.appended (h : RcA X G A rs) (ho : X'.ownsRow X.heap.size 32 1 v n xs) (hg : Grows (X.alloc (.cells #[] 32)) X' (.slice (some ⟨X.heap.size, 0, none⟩) 0 0) v) (hg2 : Grows (X'.alloc o) X2 v v') (ho2 : X2.ownsRow X.heap.size 32 1 v' (rs.length + 1) (rs.flatMap rcell ++ [.slice q.A q.b.length q.c]))
    (hq : Reads X X.heap.size 1 q.A q.b.length (q.b.map byt)) (hqb : ∀ x ∈ q.b, x < 256) : ∃ A' c', v' = .slice A' (rs.length + 1) c' ∧ RcR X2 X2.heap.size A' (rs ++ [q]) ∧ Below X.heap.size X X2 := by
  obtain ⟨A', c', rfl, -, -⟩ := reads_of_owns ho2
  have b1 : Below X.heap.size X X' := ((Below.refl _ X).alloc (Nat.le_refl _) _).trans (hg.below (by simp) (fun g hg => by simp [Value.ownBlock] at hg; omega))
  have b2 : Below X.heap.size X X2 := (b1.alloc b1.size o).trans (hg2.below (by have := b1.size; simp; omega) (own_from ho))
  exact ⟨A', c', rfl, h.snoc b2 ho2 (hq.up (Nat.le_refl _) b2) hqb, b2⟩
end

/-- the records that a log answers -/
def RecsPost (w : World) (L : List (List Nat)) (e : Ending) (w' : World) : Prop :=
  ∃ (rs : List Rc) (A : Option Addr) (c : Nat), e = .returned (.slice A rs.length c) ∧ rs.map (·.b) = L ∧ rs.length ≤ 65536 ∧ RcA w' (fun i => i < w.heap.size) A rs ∧ Below w.heap.size w w'
theorem recs_m {w : World} {g d : Nat} {l : LS} {K : Nat → Prop} (h : LogAt w g d l K) : Calls Try.prog 16 #[.pointer (some ⟨g, 0, none⟩)] w (RecsPost w l.recs) := by
  refine (records_any h).mono fun e w' ⟨rs, hrs, rs', he, hC⟩ => ?_
  obtain ⟨v, rs0, hx⟩ := h
  have hlen : rs.length = l.recs.length := by rw [← hrs, List.length_map]
  have hmap : rs'.map (·.b) = l.recs := by
    have := hC.same
    rw [List.take_of_length_le (by simp)] at this
    rw [this, hrs]
  have hl' := hC.len
  refine ⟨rs', some ⟨w.heap.size, 0, none⟩, rs.length, ?_, hmap, ?_, ⟨?_, fun r hr => ⟨(hC.good r hr).1, fun x hx2 => hx.byte r.b (by rw [← hmap]; exact List.mem_map.2 ⟨r, hr, rfl⟩) x hx2⟩, fun hn ad ha hlt => ?_, fun r hr hn ad ha hlt => ?_⟩, hC.bel⟩
  · rw [hl']; exact he
  · have h1 := hx.few; have h2 := hx.fin; have h3 := hx.half; rw [hl', hlen]; omega
  · have hb := hC.blk
    rw [Nat.sub_self, List.replicate_zero, List.append_nil] at hb
    exact ⟨by rw [rcell_len]; simp, fun _ => ⟨_, rfl, hb.lt, fun j u hu => by rw [Addr.add_lit, Nat.zero_add, hb.cell]; simpa using hu⟩⟩
  · injection ha with ha
    rw [← ha] at hlt
    exact absurd hlt (Nat.lt_irrefl _)
  · have := (hC.good r hr).2 hn ad ha
    omega
end Go.Proofs.Ytnjafhlpnoikcaa
