/-
  The law's trees, plain and in memory; Mod. grow: the tree's literal, in whatever order. No condition.
-/
import Derived.Test.YtdabmjcpiblofaaDoorPkN
import Derived.Test.YtdabmjcpiblofaaDoorPkOwn
namespace Go.Proofs.YtdabmjcpiblofaaDoor
open Go.RowKit
set_option linter.unusedVariables false

theorem mod_spelt (z m : Int) (h0 : 0 < m) : (z % m = if z.tmod m < 0 then z.tmod m + m else z.tmod m) ∧ -m < z.tmod m ∧ z.tmod m < m := by
  have hne : ¬ m = 0 := by omega
  have h1 := Int.tmod_eq_emod (a := z) (b := m)
  have h2 := Int.emod_nonneg z hne
  have h3 := Int.emod_lt_of_pos z h0
  have h5 : ∀ q : Int, (0 ≤ z ∨ m ∣ z) ∨ ¬ (0 ≤ z ∨ m ∣ z) := fun _ => Classical.em _
  rcases h5 0 with h | h
  · rw [if_pos h] at h1
    refine ⟨?_, by omega, by omega⟩
    rw [if_neg (by omega)]; omega
  · rw [if_neg h] at h1
    have h6 : z % m ≠ 0 := fun e => h (.inr (Int.dvd_of_emod_eq_zero e))
    refine ⟨?_, by omega, by omega⟩
    rw [if_pos (by omega)]; omega

set_option maxRecDepth 100000 in
set_option maxHeartbeats 400000 in
theorem mod_any (z m : Int) (w : World) (h0 : 0 < m) (hm : m ≤ 1000000000) (hz1 : -9223372036854775808 ≤ z) (hz2 : z ≤ 9223372036854775807) :
    Calls Tryd.prog 26 #[.int .i64 z, .int .i64 m] w fun e w' => e = .returned (.int .i64 (z % m)) ∧ w = w' := by
  have hne : ¬ m = 0 := by omega
  have hne' : (m == 0) = false := by simpa using hne
  obtain ⟨ht, hr1, hr2⟩ := mod_spelt z m h0
  obtain ⟨r, hr⟩ : ∃ r, z % m = r := ⟨_, rfl⟩
  obtain ⟨q, hq⟩ : ∃ q, z.tmod m = q := ⟨_, rfl⟩
  rw [hr] at ht ⊢
  rw [hq] at ht hr1 hr2
  clear hr
  by_cases hneg : q < 0
  · rw [if_pos hneg] at ht
    subst ht
    go_enter Tryd.func26, Tryd.ntmps26
    go_wp2_with fail
    go_ret
    simp
    have h9 := Int.emod_eq_of_lt (show 0 ≤ q + m by omega) (show q + m < m by omega)
    first | (rw [Int.add_emod_right] at h9; exact h9) | (rw [Int.add_emod_self] at h9; exact h9)
  · rw [if_neg hneg] at ht
    subst ht
    go_enter Tryd.func26, Tryd.ntmps26
    go_wp2_with fail
    go_ret
    simp
    exact Int.emod_eq_of_lt (by omega) hr2

abbrev ND := Int × Int × Int
def ndCells (x : ND) : List Value := [.int .i64 x.1, .int .i64 x.2.1, .int .i64 x.2.2]
theorem ndCells_len (x : ND) : (ndCells x).length = 3 := rfl
def bS : ByteArray := ⟨#[32]⟩
def ndText (x : ND) : ByteArray := str [97 + (x.2.1 % 2).toNat]
def ndLeads (x : ND) : List ByteArray := if x.1 % 4 = 3 then [bS] else []
/-- the kids after so many rounds, and where the next node is -/
def kst (f : Nat → T × Nat) (n a0 : Nat) : Nat → List T × Nat
  | 0 => ([], a0)
  | c + 1 => let s := kst f n a0 c; if s.2 < n then (s.1 ++ [(f s.2).1], (f s.2).2) else s
def growP (l : List ND) : Nat → Nat → T × Nat
  | 0, a => (.node ((l.getD a (0, 0, 0)).1 % 3) (ndText (l.getD a (0, 0, 0))) (ndLeads (l.getD a (0, 0, 0))) [], a + 1)
  | d + 1, a => let s := kst (growP l d) l.length (a + 1) ((l.getD a (0, 0, 0)).2.2 % 4).toNat; (.node ((l.getD a (0, 0, 0)).1 % 3) (ndText (l.getD a (0, 0, 0))) (ndLeads (l.getD a (0, 0, 0))) s.1, s.2)
/-- a small node -/
def tiny (t : T) : Prop := ∀ u ∈ t.subs, u.text.size ≤ 1 ∧ u.leads.length ≤ 1 ∧ (∀ s ∈ u.leads, s.size ≤ 1) ∧ 0 ≤ u.kind ∧ u.kind ≤ 2
theorem tiny_mk {k : Int} {s : ByteArray} {ld : List ByteArray} {ks : List T} (h : s.size ≤ 1 ∧ ld.length ≤ 1 ∧ (∀ s ∈ ld, s.size ≤ 1) ∧ 0 ≤ k ∧ k ≤ 2) (hk : ∀ t ∈ ks, tiny t) : tiny (.node k s ld ks) := fun u hu => by
  rw [T.subs] at hu
  rcases List.mem_cons.1 hu with rfl | hu
  · exact h
  · obtain ⟨t, ht, hu⟩ := mem_subsL.1 hu
    exact hk t ht u hu
theorem nd_tiny (x : ND) : (ndText x).size ≤ 1 ∧ (ndLeads x).length ≤ 1 ∧ (∀ s ∈ ndLeads x, s.size ≤ 1) ∧ 0 ≤ x.1 % 3 ∧ x.1 % 3 ≤ 2 := by
  refine ⟨Nat.le_refl 1, ?_, fun s hs => ?_, by omega, by omega⟩
  · unfold ndLeads; split <;> simp
  · unfold ndLeads at hs
    split at hs
    · simp at hs; subst hs; exact Nat.le_refl 1
    · cases hs
theorem kst_inv {f : Nat → T × Nat} {n : Nat} (hf : ∀ a, a < n → a < (f a).2 ∧ (f a).2 ≤ n ∧ (f a).1.size + a ≤ (f a).2 ∧ tiny (f a).1) (a0 : Nat) (h0 : a0 ≤ n) : ∀ c, a0 ≤ (kst f n a0 c).2 ∧ (kst f n a0 c).2 ≤ n ∧ T.sizes (kst f n a0 c).1 + a0 ≤ (kst f n a0 c).2 ∧ ∀ t ∈ (kst f n a0 c).1, tiny t
  | 0 => by
    show a0 ≤ a0 ∧ a0 ≤ n ∧ T.sizes [] + a0 ≤ a0 ∧ _
    rw [T.sizes]
    exact ⟨by omega, h0, by omega, fun t ht => by cases ht⟩
  | c + 1 => by
    obtain ⟨h1, h2, h3, h4⟩ := kst_inv hf a0 h0 c
    rw [kst]
    split
    · rename_i hlt
      obtain ⟨g1, g2, g3, g4⟩ := hf _ hlt
      refine ⟨by show a0 ≤ (f (kst f n a0 c).2).2; omega, g2, ?_, fun t ht => ?_⟩
      · show T.sizes ((kst f n a0 c).1 ++ [(f (kst f n a0 c).2).1]) + a0 ≤ (f (kst f n a0 c).2).2
        rw [T.sizes_append, T.sizes, T.sizes]; omega
      · rcases List.mem_append.1 ht with ht | ht
        · exact h4 t ht
        · simp at ht; subst ht; exact g4
    · exact ⟨h1, h2, h3, h4⟩
theorem growP_inv (l : List ND) : ∀ (d a : Nat), a < l.length → a < (growP l d a).2 ∧ (growP l d a).2 ≤ l.length ∧ (growP l d a).1.size + a ≤ (growP l d a).2 ∧ tiny (growP l d a).1
  | 0, a, ha => by
    rw [growP]
    refine ⟨by show a < a + 1; omega, ha, ?_, tiny_mk (nd_tiny _) (fun t ht => by cases ht)⟩
    show T.size (.node _ _ _ []) + a ≤ a + 1
    rw [T.size, T.sizes]; omega
  | d + 1, a, ha => by
    obtain ⟨h1, h2, h3, h4⟩ := kst_inv (growP_inv l d) (a + 1) ha ((l.getD a (0, 0, 0)).2.2 % 4).toNat
    rw [growP]
    refine ⟨by show a < (kst (growP l d) l.length (a + 1) ((l.getD a (0, 0, 0)).2.2 % 4).toNat).2; omega, h2, ?_, tiny_mk (nd_tiny _) h4⟩
    show T.size (.node _ _ _ _) + a ≤ (kst (growP l d) l.length (a + 1) ((l.getD a (0, 0, 0)).2.2 % 4).toNat).2
    rw [T.size]; omega
theorem kst_stop {f : Nat → T × Nat} {n a0 : Nat} : ∀ {c c' : Nat}, c ≤ c' → ¬ (kst f n a0 c).2 < n → kst f n a0 c' = kst f n a0 c
  | c, 0, h, hs => by have : c = 0 := by omega
                      subst this; rfl
  | c, c' + 1, h, hs => by
    rcases Nat.lt_or_ge c (c' + 1) with h1 | h1
    · have ih := kst_stop (c' := c') (by omega) hs
      show (if (kst f n a0 c').2 < n then _ else kst f n a0 c') = _
      rw [ih, if_neg hs]
    · have : c = c' + 1 := by omega
      subst this; rfl

/-- a tree that is being grown: its box at g, its kids so far -/
structure GR (w wr : World) (g HB : Nat) (kind : Int) (text : ByteArray) (leads : List ByteArray) (A : Option Addr) (c : Nat) (Q : List T) (kv : Value) (rs : List TX) : Prop where
  bel : Below w.heap.size w wr
  b0 : Blk wr w.heap.size 42 zeroT
  b1 : Blk wr g 42 #[.int .i64 kind, .string text, .slice A leads.length c, kv]
  lead : RowIn wr (fun b => w.heap.size ≤ b ∧ b < HB ∧ b ≠ g ∧ b ≠ w.heap.size) A leads.length (leads.map Value.string)
  gg : w.heap.size < g
  gh : g < HB
  hb : HB ≤ wr.heap.size
  tl : TL wr HB HB kv rs
  pl : rs.map TX.plain = Q
section
variable {w wr w1 w3 : World} {g HB c : Nat} {kind : Int} {text : ByteArray} {leads : List ByteArray} {A : Option Addr} {Q : List T} {kv v3 : Value} {rs : List TX} {r : TX}
theorem GR.below {w' : World} (h : GR w wr g HB kind text leads A c Q kv rs) (hb : Below wr.heap.size wr w') : GR w w' g HB kind text leads A c Q kv rs :=
  ⟨h.bel.trans (hb.mono h.bel.size), h.b0.below hb h.b0.lt, h.b1.below hb h.b1.lt, h.lead.chg (M := fun i => wr.heap.size ≤ i) (Chg.of_below hb (fun i hi => hi)) (fun i hi e => by have := hi.2.1; have := h.hb; omega), h.gg, h.gh, Nat.le_trans h.hb hb.size, h.tl.below hb, h.pl⟩
theorem GR.step (h : GR w wr g HB kind text leads A c Q kv rs) (hb : Below wr.heap.size wr w1) (hr : Tr w1 w1.heap.size r) (hi : InS (wr.heap.size ≤ ·) r) (hf : Fine r) (o : Obj)
    (ho : w3.ownsRow HB 42 4 v3 (rs.length + 1) (rs.flatMap TX.cells ++ r.cells)) (hg : Grows (w1.alloc o) w3 kv v3) : GR w (w3.setCell ⟨g, 3, none⟩ v3) g HB kind text leads A c (Q ++ [r.plain]) v3 (rs ++ [r]) := by
  have hz1 := hb.size
  have hz := h.bel.size
  have hhb := h.hb
  have hgg := h.gg
  have hgh := h.gh
  have hbo : Below wr.heap.size wr (w1.alloc o) := hb.alloc hz1 _
  have hvg := own_from h.tl.row
  have hvl := own_lt h.tl.row
  have hgs := hg.size
  have hsz : (w1.alloc o).heap.size = w1.heap.size + 1 := by simp
  have hss : (w3.setCell ⟨g, 3, none⟩ v3).heap.size = w3.heap.size := by simp [World.setCell]
  have hv3 : ∀ b, v3.ownBlock = some b → HB ≤ b := own_from ho
  have ne : ∀ {b : Nat}, b < HB → kv.ownBlock ≠ some b := fun hb' e => by have := hvg _ e; omega
  have hchg : Chg wr (w3.setCell ⟨g, 3, none⟩ v3) (fun i => i = g ∨ kv.ownBlock = some i) :=
    (((Chg.of_new hbo _).trans (Chg.of_grown hg.grown (fun x e => e)) (fun i _ e => .inr e)).setCell (p := ⟨g, 3, none⟩) (.inl (.inl rfl)) v3)
  have htl : TL w3 HB HB v3 (rs ++ [r]) :=
    (h.tl.below hb).step hr (hi.mono (fun b hb' => ⟨by omega, fun e => by have := hvl b e; omega⟩)) hf o ho hg
  refine ⟨?_, ?_, ?_, ?_, hgg, hgh, by omega, ?_, ?_⟩
  · exact h.bel.trans (hchg.below hz (fun i hi => by
      rcases hi with rfl | hi
      · omega
      · have := hvg i hi; omega))
  · exact h.b0.chg hchg (fun x => by
      rcases x with x | x
      · omega
      · exact ne (by omega) x)
  · exact (hg.blk (h.b1.below hbo h.b1.lt) (ne hgh)).set_ 3 v3
  · exact h.lead.chg hchg (fun i hi x => x.elim (fun x => hi.2.2.1 x) (fun x => ne hi.2.1 x))
  · exact htl.chg (M := fun i => i = g) ((Chg.refl _ (fun i => i = g)).setCell (p := ⟨g, 3, none⟩) (.inl rfl) v3) (fun x hx e => by have := hv3 x hx; omega) (fun i hi => .inl (by omega))
  · rw [List.map_append, h.pl]; rfl
theorem GR.done (h : GR w wr g HB kind text leads A c Q kv rs) (hk : i64 kind) (ht : text.size ≤ 1) (hl : leads.length ≤ 1) (hls : ∀ s ∈ leads, s.size ≤ 1) (hq : Q.length ≤ 1000000) :
    ∃ r : TX, (.agg #[.int .i64 kind, .string text, .slice A leads.length c, kv] : Value) = r.val ∧ r.plain = .node kind text leads Q ∧ Tr ((((wr.setCell ⟨w.heap.size, 0, none⟩ (.int .i64 kind)).setCell ⟨w.heap.size, 1, none⟩ (.string text)).setCell ⟨w.heap.size, 2, none⟩ (.slice A leads.length c)).setCell ⟨w.heap.size, 3, none⟩ kv) ((((wr.setCell ⟨w.heap.size, 0, none⟩ (.int .i64 kind)).setCell ⟨w.heap.size, 1, none⟩ (.string text)).setCell ⟨w.heap.size, 2, none⟩ (.slice A leads.length c)).setCell ⟨w.heap.size, 3, none⟩ kv).heap.size r ∧ InS (w.heap.size ≤ ·) r ∧ Fine r ∧ Below w.heap.size w ((((wr.setCell ⟨w.heap.size, 0, none⟩ (.int .i64 kind)).setCell ⟨w.heap.size, 1, none⟩ (.string text)).setCell ⟨w.heap.size, 2, none⟩ (.slice A leads.length c)).setCell ⟨w.heap.size, 3, none⟩ kv) := by
  have hch := put4_chg wr w.heap.size (.int .i64 kind) (.string text) (.slice A leads.length c) kv
  obtain ⟨kA, kc, rfl, hrk, hkA⟩ := reads_of_owns h.tl.row
  have hz := h.bel.size
  have hhb := h.hb
  have hgg := h.gg
  have hgh := h.gh
  have hln : rs.length = Q.length := by rw [← h.pl, List.length_map]
  obtain ⟨r, hr'⟩ : ∃ r : TX, r = .node kind text A leads c kA rs kc := ⟨_, rfl⟩
  have hkids : r.kids = rs := by rw [hr']; rfl
  have hcc : rs.length ≤ kc := by
    rcases h.tl.row.2 with ⟨e, hn⟩ | ⟨g, cap, cur, e, -, -, hnc, -⟩
    · have : rs.length = 0 := by
        injection e with e1 e2 e3
      omega
    · injection e with _ _ e3; omega
  have hins : InS (fun b => w.heap.size < b) r := by
    refine .mk r (fun ad e hn => ?_) (fun ad e hn => ?_) (fun k hk => (h.tl.kid k (hkids ▸ hk)).2.1.mono (fun b hb => by omega))
    · rw [hr'] at e
      have := (hkA ad e).1
      omega
    · rw [hr'] at e hn
      obtain ⟨g', off, e', hb, -, -⟩ := h.lead.2 hn
      have e1 : A = some ad := e
      rw [e'] at e1
      injection e1 with e1
      rw [← e1]
      show w.heap.size < g'
      omega
  have htr : Tr wr wr.heap.size r := by
    refine .mk r ?_ ?_ ?_ ?_ ?_ ?_ (fun k hk => (h.tl.kid k (hkids ▸ hk)).1)
    · rw [hr']; exact hrk
    · rw [hr']; exact h.lead.reads
    · rw [hkids]; omega
    · rw [hkids, hr']; exact hcc
    · rw [hr']; show leads.length * 16 ≤ _; omega
    · rw [hr']; exact hk
  have hlk : (leadsK leads).length ≤ 140737488355328 := by
    rcases leads with _ | ⟨s, l2⟩
    · simp [leadsK]
    · have : l2 = [] := by
        cases l2 with
        | nil => rfl
        | cons a b => simp at hl
      subst this
      have e : (leadsK [s]).length = (leadK s).length := by unfold leadsK; simp
      have hs1 := hls s (by simp)
      rw [e, leadK_len]
      have := Lib.itoa_length_le ((s.size : Nat) : Int) (by omega) (by omega)
      omega
  refine ⟨r, ?_, ?_, (htr.chgS hins hch (Nat.le_refl _) (fun i hi e => by omega)).more hch.size, hins.mono (fun b hb => by omega), .mk r ?_ ?_ (fun k hk => (h.tl.kid k (hkids ▸ hk)).2.2), h.bel.trans (hch.below hz (fun i hi => by omega))⟩
  · rw [hr']; rfl
  · rw [TX.plain_eq, hkids, h.pl, hr']; rfl
  · rw [hr']; show text.size ≤ _; omega
  · rw [hr']; exact hlk
end
end Go.Proofs.YtdabmjcpiblofaaDoor

namespace Go.Proofs.YtdabmjcpiblofaaDoor
open Go.RowKit
set_option linter.unusedVariables false

/-- the frame, with the yields of the literal's operations -/
def gAct (ab ao n c a w0 g8 : Nat) (D : Int) (x : ND) (v : Nat → Value) : Act :=
  { tmps := #[.slice (some ⟨ab, ao, none⟩) n c, .int .i64 (a : Int), .int .i64 D, undef, undef, undef, .pointer (some ⟨w0, 0, none⟩), .int .i64 0, .pointer (some ⟨g8, 0, none⟩), v 11, undef, undef, .slice (some ⟨ab, ao, none⟩) n c, .int .i64 (a : Int), .pointer (some ⟨ab, ao + a * 3, none⟩), .agg #[.int .i64 x.1, .int .i64 x.2.1, .int .i64 x.2.2], v 0, v 1, v 2, v 3, v 4, v 5, v 6, v 7, v 8, v 9, v 10, undef, undef, undef, undef, undef, undef, undef, undef, undef, undef, undef, undef, undef, undef, undef, undef, undef, undef, undef, undef, undef, undef, undef, undef, undef, undef, undef, undef, undef, undef, undef, undef, undef, undef, undef, undef, undef, undef, undef, undef, undef], defers := [] }
def finT (x : ND) : Array Value := #[.int .i64 (x.1 % 3), .string (ndText x), .slice none 0 0, .slice none 0 0]
def GF (wB wr : World) (g8 : Nat) (x : ND) (l12 : Bool) (i : Nat) (u : Value) : Prop :=
  match i with
  | 0 => u = .pointer (some ⟨g8, 0, none⟩)
  | 1 => u = .int .i64 x.1
  | 2 => u = .int .i64 (x.1 % 3)
  | 3 => u = .pointer (some ⟨g8, 1, none⟩)
  | 4 => u = .int .i64 x.2.1
  | 5 => u = .int .i64 (x.2.1 % 2)
  | 6 => u = .int .i64 (97 + x.2.1 % 2)
  | 7 => u = .int .u8 (97 + x.2.1 % 2)
  | 8 => ∃ g, u = .slice (some ⟨g, 0, none⟩) 1 1 ∧ Blk wr g 5 #[.int .u8 (97 + x.2.1 % 2)] ∧ wB.heap.size ≤ g
  | 9 => u = .string (ndText x)
  | 10 => u = .agg (finT x)
  | 11 => ∃ g, u = .pointer (some ⟨g, 0, none⟩) ∧ wB.heap.size ≤ g ∧ Blk wr g 42 (if l12 then finT x else zeroT)
  | _ => True
theorem GF.below {wB wr w' : World} {g8 : Nat} {x : ND} {l12 : Bool} {i : Nat} {u : Value} (h : GF wB wr g8 x l12 i u) (hb : Below wr.heap.size wr w') : GF wB w' g8 x l12 i u := by
  unfold GF at h ⊢
  split at h
  all_goals first
    | exact h
    | (obtain ⟨g, e, hk, hg⟩ := h; exact ⟨g, e, hk.below hb hk.lt, hg⟩)
    | (obtain ⟨g, e, hg, hk⟩ := h; exact ⟨g, e, hg, hk.below hb hk.lt⟩)
/-- what is known whatever has run -/
def GI (wB : World) (ab ao n c a w0 g8 : Nat) (D : Int) (x : ND) (listed : Array Bool) (act : Act) (wr : World) : Prop :=
  listed.size = 13 ∧ (listed.getD 12 false = true → listed.getD 11 false = true) ∧ ∃ v, act = gAct ab ao n c a w0 g8 D x v ∧ Below wB.heap.size wB wr ∧ ∀ i, i < 12 → listed.getD i false = true → GF wB wr g8 x (listed.getD 12 false) i (v i)
theorem GI.step {wB wr w' : World} {ab ao n c a w0 g8 : Nat} {D : Int} {x : ND} {listed : Array Bool} {v : Nat → Value} {i : Nat} {u : Value} (hs : listed.size = 13) (h12 : listed.getD 12 false = true → listed.getD 11 false = true) (hb0 : Below wB.heap.size wB wr) (hf : ∀ i, i < 12 → listed.getD i false = true → GF wB wr g8 x (listed.getD 12 false) i (v i))
    (hi : i < 12) (hb : Below wr.heap.size wr w') (hu : GF wB w' g8 x (listed.getD 12 false) i u) : GI wB ab ao n c a w0 g8 D x (listed.setIfInBounds i true) (gAct ab ao n c a w0 g8 D x (upd v i u)) w' := by
  have e12 : (listed.setIfInBounds i true).getD 12 false = listed.getD 12 false := by rw [getD_set _ _ _ _ (by omega), if_neg (by omega)]
  refine ⟨by simpa using hs, fun h => ?_, upd v i u, rfl, hb0.trans (hb.mono hb0.size), fun j hj hl => ?_⟩
  · rw [e12] at h
    rw [getD_set _ _ _ _ (by omega)]
    split
    · rfl
    · exact h12 h
  · rw [e12]
    by_cases e : j = i
    · subst e; rw [upd_same]; exact hu
    · rw [upd_ne _ _ e]
      rw [getD_set _ _ _ _ (by omega), if_neg e] at hl
      exact (hf j hj hl).below hb
theorem u8_char (r : Int) (h0 : 0 ≤ r) (h1 : r ≤ 1) : IntKind.u8.wrap (97 + r) = 97 + r := by
  rcases (show r = 0 ∨ r = 1 by omega) with rfl | rfl <;> rfl
theorem conv_text {w : World} {g : Nat} {x : ND} (h : Blk w g 5 #[.int .u8 (97 + x.2.1 % 2)]) : (convert 54 9 (.slice (some ⟨g, 0, none⟩) 1 1)).run Tryd.prog w = .ok (.string (ndText x)) w := by
  have e : Value.int .u8 (97 + x.2.1 % 2) = byt (97 + (x.2.1 % 2).toNat) := by
    unfold byt
    congr 1
    omega
  rw [e] at h
  have hr : Reads w w.heap.size 1 (some ⟨g, 0, none⟩) 1 ([97 + (x.2.1 % 2).toNat].map byt) := blk_reads (xs := [byt (97 + (x.2.1 % 2).toNat)]) h rfl
  exact run_bytes_str w 54 9 5 1 Tryd.underlying54 Tryd.underlying5 Tryd.underlying9 hr (fun y hy => by simp at hy; omega)
end Go.Proofs.YtdabmjcpiblofaaDoor
