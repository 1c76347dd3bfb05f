/-
  The reference's Size and limited; Add, the reference's. No condition.
-/
import Derived.Test.YtdabmjcpiblofaaDoorPkKp
namespace Go.Proofs.YtdabmjcpiblofaaDoor
open Go.RowKit
set_option linter.unusedVariables false

theorem sizes_succ {ts : List TX} {j : Nat} {t : TX} (h : ts[j]? = some t) : T.sizes ((ts.take (j + 1)).map TX.plain) = T.sizes ((ts.take j).map TX.plain) + t.plain.size := by
  rw [take_snoc' h, List.map_append, List.map_cons, List.map_nil, T.sizes_append, T.sizes, T.sizes]
  omega
theorem kid_size (t : TX) : t.plain.size = 1 + T.sizes (t.kids.map TX.plain) := by rw [TX.plain_eq, T.size]
theorem Tr.lt {w : World} {t : TX} (h : Tr w w.heap.size t) (hf : Fine t) : LT w t.kA t.kids := ⟨h.rk, fun k hk => ⟨h.sub k hk, hf.sub k hk⟩⟩

set_option maxRecDepth 100000 in
set_option maxHeartbeats 3200000 in
theorem refSize_any (N : Nat) : ∀ (A : Option Addr) (c : Nat) (ts : List TX) (w : World), LT w A ts → T.sizes (ts.map TX.plain) = N → N ≤ 1000000 → Calls Tryd.prog 40 #[.slice A ts.length c] w fun e w' => e = .returned (.int .i64 (N : Int)) ∧ w = w' := by
  induction N using Nat.strongRecOn with
  | _ N ih =>
  intro A c ts w h hN hle
  obtain ⟨n, hn⟩ : ∃ n, ts.length = n := ⟨_, rfl⟩
  have hls := len_sizes (ts.map TX.plain)
  rw [List.length_map, hn, hN] at hls
  have HIH := Lib.hid ih
  have H := Lib.hid h
  have HN := Lib.hid hn
  have HS := Lib.hid hN
  rw [hn]
  clear ih h hn hN
  go_enter Tryd.func40, Tryd.ntmps40
  go_wp2_with fail
  go_loop [3, 4] (fun s i => ∃ j : Nat, j ≤ n ∧ i = .int .i64 (j : Int) ∧ s = .int .i64 ((T.sizes ((ts.take j).map TX.plain) : Nat) : Int)) (fun _ i => n - (intOf i).toNat)
  case atStart => exact ⟨0, by omega, rfl, by simp [T.sizes]⟩
  case round =>
    obtain ⟨j, hj, rfl, rfl⟩ := hrel
    by_cases hlt : j < n
    · obtain ⟨t, ht⟩ : ∃ t, ts[j]? = some t := ⟨_, List.getElem?_eq_getElem (by rw [HN.out]; exact hlt)⟩
      obtain ⟨ab, ao, rfl, hab, hcells⟩ := H.out.at_ ht
      obtain ⟨p0, p1, p2, p3⟩ := hcells w (Below.refl _ _)
      have hsu := sizes_succ ht
      have hst := sizes_take (l := ts) ht
      rw [HS.out] at hst
      have hk := kid_size t
      have HC := Lib.hid (HIH.out (T.sizes (t.kids.map TX.plain)) (by omega) t.kA t.kc t.kids w ((H.out.2 t (hmem ht)).1.lt (H.out.2 t (hmem ht)).2) rfl (by omega))
      obtain ⟨sk, hsk⟩ : ∃ x, T.sizes (t.kids.map TX.plain) = x := ⟨_, rfl⟩
      obtain ⟨s0, hs0⟩ : ∃ x, T.sizes ((ts.take j).map TX.plain) = x := ⟨_, rfl⟩
      rw [hsk] at HC hk
      rw [hs0] at hsu hst ⊢
      have HNX : Hid (T.sizes ((ts.take (j + 1)).map TX.plain) = s0 + (1 + sk)) := by unfold Hid; rw [hsu, hk]
      rw [hk] at hst
      clear ht hcells hsk hs0 hsu hk p0 p1 p2
      go_wp2_with fail
      refine (HC.out).mono ?_
      rintro e w2 ⟨rfl, rfl⟩
      go_wp2_with fail
      go_round
      case rel => exact ⟨j + 1, by omega, by go_num, by rw [HNX.out]; first | rfl | (congr 1; omega)⟩
      case measure => simp [intOf] <;> omega
    · have he : T.sizes ((ts.take j).map TX.plain) = N := by rw [List.take_of_length_le (by rw [HN.out]; omega)]; exact HS.out
      rw [he]
      clear he
      go_wp2_with fail
      go_ret
      exact ⟨rfl, rfl⟩

open Classical in
noncomputable def addE (ns : List PN) (rs : List Int) (ls : List T) : Int := if errP ns rs = 0 then (if T.sizes (treesP ns rs ++ ls) ≤ 20000 then 0 else 3) else errP ns rs
open Classical in
noncomputable def addP (ns : List PN) (rs : List Int) (ls : List T) : List PN × List Int := if addE ns rs ls = 0 then T.puts (treesP ns rs ++ ls) [] else ([], [])
section
variable {ns : List PN} {rs : List Int} {ls : List T}
theorem addE_err (h : errP ns rs ≠ 0) : addE ns rs ls = errP ns rs := by unfold addE; rw [if_neg h]
theorem addE_long (h : errP ns rs = 0) (h3 : ¬ T.sizes (treesP ns rs ++ ls) ≤ 20000) : addE ns rs ls = 3 := by unfold addE; rw [if_pos h, if_neg h3]
theorem addE_ok (h : errP ns rs = 0) (h3 : T.sizes (treesP ns rs ++ ls) ≤ 20000) : addE ns rs ls = 0 := by unfold addE; rw [if_pos h, if_pos h3]
theorem addP_no (h : addE ns rs ls ≠ 0) : addP ns rs ls = ([], []) := by unfold addP; rw [if_neg h]
theorem addP_ok (h : addE ns rs ls = 0) : addP ns rs ls = T.puts (treesP ns rs ++ ls) [] := by unfold addP; rw [if_pos h]
end
def AddPost (w : World) (v : PkV) (ls : List T) (e : Ending) (w' : World) : Prop := ∃ u : PkV, e = .returned (.tuple #[u.val, .int .i64 (addE v.ns v.rs ls)]) ∧ (u.ns, u.rs) = addP v.ns v.rs ls ∧ u.ok w' w'.heap.size ∧ Below w.heap.size w w'
theorem AddPost.no {w wr : World} {v : PkV} {ls : List T} {e : Int} (he : addE v.ns v.rs ls = e) (h : e ≠ 0) (hb : Below w.heap.size w wr) : AddPost w v ls (.returned (.tuple #[.agg #[.slice none 0 0, .slice none 0 0], .int .i64 e])) wr := by
  subst he
  exact ⟨PkV.zero, rfl, by rw [addP_no h]; rfl, PkV.zero_ok _ _, hb⟩
/-- a pack stored into the result's box -/
theorem boxed {w7 : World} {u : PkV} {g : Nat} {A B : Option Addr} {n m c d : Nat} (hk : u.ok w7 w7.heap.size) (hb : Blk w7 g 29 #[.slice A n c, .slice B m d]) : u.ok ((w7.setCell ⟨g, 0, none⟩ (.slice u.nA u.ps.length u.nc)).setCell ⟨g, 1, none⟩ (.slice u.rA u.rs.length u.rc)) ((w7.setCell ⟨g, 0, none⟩ (.slice u.nA u.ps.length u.nc)).setCell ⟨g, 1, none⟩ (.slice u.rA u.rs.length u.rc)).heap.size := by
  have h1 := hk.unbox (k := 0) hb (slices2 _ _ _ _ _ _) (.slice u.nA u.ps.length u.nc)
  have h2 := h1.unbox (k := 1) (hb.set_ 0 (.slice u.nA u.ps.length u.nc)) (slices2 _ _ _ _ _ _) (.slice u.rA u.rs.length u.rc)
  have e : ((w7.setCell ⟨g, 0, none⟩ (.slice u.nA u.ps.length u.nc)).setCell ⟨g, 1, none⟩ (.slice u.rA u.rs.length u.rc)).heap.size = w7.heap.size := by simp [World.setCell]
  rw [e]
  exact h2
theorem AddPost.yes {w w7 : World} {v u : PkV} {ls : List T} (he : addE v.ns v.rs ls = 0) (hu : (u.ns, u.rs) = addP v.ns v.rs ls) (hk : u.ok w7 w7.heap.size) (hb : Blk w7 (w.heap.size + 1) 29 #[.slice none 0 0, .slice none 0 0]) (hw : Below w.heap.size w w7) :
    AddPost w v ls (.returned (.tuple #[.agg #[.slice u.nA u.ps.length u.nc, .slice u.rA u.rs.length u.rc], .int .i64 0])) ((w7.setCell ⟨w.heap.size + 1, 0, none⟩ (.slice u.nA u.ps.length u.nc)).setCell ⟨w.heap.size + 1, 1, none⟩ (.slice u.rA u.rs.length u.rc)) :=
  ⟨u, by rw [he]; rfl, hu, boxed hk hb, (hw.setCell (p := ⟨w.heap.size + 1, 0, none⟩) (Nat.le_succ _) _).setCell (p := ⟨w.heap.size + 1, 1, none⟩) (Nat.le_succ _) _⟩
/-- what limited gives -/
def LimPost (w : World) (ls : List T) (e : Ending) (w' : World) : Prop := ∃ u : PkV, ((T.sizes ls ≤ 20000 ∧ e = .returned (.tuple #[u.val, .int .i64 0]) ∧ (u.ns, u.rs) = T.puts ls []) ∨ (¬ T.sizes ls ≤ 20000 ∧ e = .returned (.tuple #[u.val, .int .i64 3]) ∧ u = PkV.zero)) ∧ u.ok w' w'.heap.size ∧ Below w.heap.size w w'

set_option maxRecDepth 100000 in
set_option maxHeartbeats 3200000 in
theorem limited_any (A : Option Addr) (c : Nat) (ts : List TX) (w : World) (h : LT w A ts) (hs : T.sizes (ts.map TX.plain) ≤ 1000000) : Calls Tryd.prog 50 #[.slice A ts.length c] w (LimPost w (ts.map TX.plain)) := by
  obtain ⟨W, hW⟩ : ∃ W, w.alloc (.cells #[.slice none 0 0, .slice none 0 0] 29) = W := ⟨_, rfl⟩
  have HBX : Hid (Blk W w.heap.size 29 #[.slice none 0 0, .slice none 0 0]) := by subst hW; exact Blk.new w _ _
  have HBW : Hid (Below w.heap.size w W) := by subst hW; exact bal (Below.refl _ w) _
  have hL := h.up HBW.out
  have HC := Lib.hid (refSize_any _ A c ts W hL rfl hs)
  have HM := Lib.hid (refMake_any A c ts W hL hs)
  obtain ⟨N, hN⟩ : ∃ N, T.sizes (ts.map TX.plain) = N := ⟨_, rfl⟩
  have HN := Lib.hid hN
  rw [hN] at HC hs
  have o0 := HBX.out.cell 0
  have o1 := HBX.out.cell 1
  have f0 := HBX.out.frozen 0
  have f1 := HBX.out.frozen 1
  simp at o0 o1
  clear h hL hN
  by_cases hov : 20000 < N
  · have d1 : decide ((20000 : Int) < (N : Int)) = true := decide_eq_true (by omega)
    go_enter Tryd.func50, Tryd.ntmps50
    go_wp2_with fail
    refine (HC.out).mono ?_
    rintro e w2 ⟨rfl, rfl⟩
    have HW := Lib.hid hW
    clear hW HC
    go_wp2_with fail
    have FM := (HBX.out.set_ 0 (.slice none 0 0)).set_ 1 (.slice none 0 0)
    refine bodyPost_ret (results_cell_row2 (P := Tryd.prog) rfl _ _ w.heap.size 29 #[.slice none 0 0, .slice none 0 0] (0, 0) _ rfl FM Tryd.underlying29 rfl (by kernel_rfl)) rfl ?_
    exact ⟨PkV.zero, .inr ⟨by rw [HN.out]; omega, rfl, rfl⟩, PkV.zero_ok _ _, (HBW.out.setCell (p := ⟨w.heap.size, 0, none⟩) (Nat.le_refl _) _).setCell (p := ⟨w.heap.size, 1, none⟩) (Nat.le_refl _) _⟩
  · have d1 : decide ((20000 : Int) < (N : Int)) = false := decide_eq_false (by omega)
    clear o0 o1 f0 f1
    go_enter Tryd.func50, Tryd.ntmps50
    go_wp2_with fail
    refine (HC.out).mono ?_
    rintro e w2 ⟨rfl, rfl⟩
    go_wp2_with fail
    refine (HM.out).mono ?_
    rintro e w3 ⟨u, rfl, hun, hur, huk, hb3⟩
    have HW := Lib.hid hW
    have HX3 := Lib.hid (HBX.out.below hb3 HBX.out.lt)
    have HB3 : Hid (Below w.heap.size w w3) := HBW.out.trans (hb3.mono HBW.out.size)
    have HU := Lib.hid huk
    have HUP : Hid ((u.ns, u.rs) = T.puts (ts.map TX.plain) []) := by unfold Hid; rw [hun, hur]
    have o0 := HX3.out.cell 0
    have o1 := HX3.out.cell 1
    have f0 := HX3.out.frozen 0
    have f1 := HX3.out.frozen 1
    simp at o0 o1
    unfold PkV.val
    clear hW HC hun hur huk hb3
    go_wp2_with fail
    have FM := (HX3.out.set_ 0 (.slice u.nA u.ps.length u.nc)).set_ 1 (.slice u.rA u.rs.length u.rc)
    refine bodyPost_ret (results_cell_row2 (P := Tryd.prog) rfl _ _ w.heap.size 29 #[.slice u.nA u.ps.length u.nc, .slice u.rA u.rs.length u.rc] (0, 0) _ rfl FM Tryd.underlying29 rfl (by kernel_rfl)) rfl ?_
    exact ⟨u, .inl ⟨by rw [HN.out]; omega, rfl, HUP.out⟩, boxed HU.out HX3.out, (HB3.out.setCell (p := ⟨w.heap.size, 0, none⟩) (Nat.le_refl _) _).setCell (p := ⟨w.heap.size, 1, none⟩) (Nat.le_refl _) _⟩
theorem TL.app {w1 w3 : World} {lo base : Nat} {v v3 : Value} {ts ls : List TX} (h : TL w1 lo base v ts) (hl : ∀ t ∈ ls, Tr w1 base t ∧ Fine t) (hb : base ≤ w1.heap.size) (hg : Grows w1 w3 v v3) : ∀ t ∈ ts ++ ls, Tr w3 w3.heap.size t ∧ Fine t := fun t ht => by
  have hgs := hg.size
  rcases List.mem_append.1 ht with ht | ht
  · obtain ⟨h1, h2, h3⟩ := h.kid t ht
    have hins : InS (fun b => b < w1.heap.size ∧ v.ownBlock ≠ some b) t := h1.ins.and h2 (fun b a c => ⟨a, c.2⟩)
    exact ⟨(h1.keepS hins (fun p hp _ => World.cell?_of_block (hg.grown.block p.block hp.1 (fun e => hp.2 e.symm)))).more (by omega), h3⟩
  · obtain ⟨h1, h3⟩ := hl t ht
    have hvg := own_from h.row
    exact ⟨(h1.keepS h1.ins (fun p hp _ => World.cell?_of_block (hg.grown.block p.block (by omega) (fun e => by have := hvg _ e.symm; omega)))).more (by omega), h3⟩

set_option maxRecDepth 100000 in
set_option maxHeartbeats 3200000 in
theorem radd_any (v : PkV) (L : Option Addr) (lc : Nat) (ls : List TX) (w : World) (h : v.ok w w.heap.size) (hl : LT w L ls) (hls : T.sizes (ls.map TX.plain) ≤ 900000) :
    Calls Tryd.prog 30 #[v.val, .slice L ls.length lc] w (AddPost w v (ls.map TX.plain)) := by
  obtain ⟨n, hn⟩ : ∃ n, ls.length = n := ⟨_, rfl⟩
  have hlen := len_sizes (ls.map TX.plain)
  rw [List.length_map, hn] at hlen
  obtain ⟨W0, hW0⟩ : ∃ W, w.alloc (.cells #[.slice v.nA v.ps.length v.nc, .slice v.rA v.rs.length v.rc] 29) = W := ⟨_, rfl⟩
  obtain ⟨W1, hW1⟩ : ∃ W, W0.alloc (.cells #[.slice none 0 0, .slice none 0 0] 29) = W := ⟨_, rfl⟩
  have hs0 : W0.heap.size = w.heap.size + 1 := by subst hW0; simp
  have HBX : Hid (Blk W1 w.heap.size 29 #[.slice v.nA v.ps.length v.nc, .slice v.rA v.rs.length v.rc]) := by subst hW1 hW0; exact (Blk.new w _ _).alloc _
  have HRX : Hid (Blk W1 (w.heap.size + 1) 29 #[.slice none 0 0, .slice none 0 0]) := by subst hW1; rw [← hs0]; exact Blk.new W0 _ _
  have HBW : Hid (Below w.heap.size w W1) := by subst hW1 hW0; exact bal (bal (Below.refl _ w) _) _
  have c0 := HBX.out.cell 0
  have c1 := HBX.out.cell 1
  simp at c0 c1
  have HC := Lib.hid (rtrees_any v W1 (h.up (Nat.le_refl _) HBW.out))
  have HL := Lib.hid hl
  have HLS := Lib.hid hls
  have HN := Lib.hid hn
  have hn9 : n ≤ 900000 := by omega
  have hrl := h.rl
  obtain ⟨i0', hi', hz0, hz1, hz2⟩ := info_parts tree_info
  have HI := Lib.hid hi'
  have HZ0 := Lib.hid hz0
  have HZ1 := Lib.hid hz1
  have HZ2 := Lib.hid hz2
  rw [hn]
  unfold PkV.val at HC ⊢
  clear h hl hls hn hi' hz0 hz1 hz2
  go_enter Tryd.func30, Tryd.ntmps30
  go_wp2_with fail
  refine (HC.out).mono ?_
  rintro e w1 ⟨A, c, ts, rfl, htl, hpl, hno, hb⟩
  have HB1 : Hid (Below w.heap.size w w1) := HBW.out.trans (hb.mono HBW.out.size)
  have HRX1 : Hid (Blk w1 (w.heap.size + 1) 29 #[.slice none 0 0, .slice none 0 0]) := HRX.out.below hb HRX.out.lt
  have HW0 := Lib.hid hW0
  have HW1 := Lib.hid hW1
  clear hW0 hW1 c0 c1 HC
  by_cases h0 : errP v.ns v.rs = 0
  rotate_left
  · obtain ⟨er, her⟩ : ∃ er, errP v.ns v.rs = er := ⟨_, rfl⟩
    have HE := Lib.hid (addE_err (ls := ls.map TX.plain) h0)
    rw [her] at h0 HE ⊢
    have d1 : (er != 0) = true := by simpa using h0
    have d2 : (er == 0) = false := by simpa using h0
    have HNZ := Lib.hid h0
    have o0 := HRX1.out.cell 0
    have o1 := HRX1.out.cell 1
    have f0 := HRX1.out.frozen 0
    have f1 := HRX1.out.frozen 1
    simp at o0 o1
    clear htl hpl hno hb h0 her
    go_wp2_with fail
    have FM := (HRX1.out.set_ 0 (.slice none 0 0)).set_ 1 (.slice none 0 0)
    refine bodyPost_ret (results_cell_row2 (P := Tryd.prog) rfl _ _ (w.heap.size + 1) 29 #[.slice none 0 0, .slice none 0 0] (0, 0) _ rfl FM Tryd.underlying29 rfl (by kernel_rfl)) rfl ?_
    exact AddPost.no HE.out HNZ.out ((HB1.out.setCell (p := ⟨w.heap.size + 1, 0, none⟩) (Nat.le_succ _) _).setCell (p := ⟨w.heap.size + 1, 1, none⟩) (Nat.le_succ _) _)
  have HPL := Lib.hid (hpl h0)
  have HE0 := Lib.hid h0
  have hz20 := (errP_zero h0).2.2
  obtain ⟨m, hm⟩ : ∃ m, ts.length = m := ⟨_, rfl⟩
  have hml := len_sizes (ts.map TX.plain)
  rw [hpl h0, ← hpl h0, List.length_map, hm, hpl h0] at hml
  have HTL := Lib.hid htl
  have HM := Lib.hid hm
  have hm20 : m ≤ 20000 := by omega
  have hzb := hb.size
  have HROW : Hid (w1.ownsRow W1.heap.size 42 4 (.slice A m c) m (ts.flatMap TX.cells)) := by have := htl.row; rw [hm] at this; exact this
  have HRD : Hid (Reads w1 W1.heap.size 4 L n (ls.flatMap TX.cells)) := by
    have h1 := ((HL.out.1.below HB1.out).more HBW.out.size)
    rw [HN.out] at h1
    exact h1
  rw [h0, hm]
  clear htl hpl hno hb h0 hm
  have HONE : Hid (∀ u ∈ ls.flatMap TX.cells, u.oneCell' = true) := fun u hu => by
    obtain ⟨t, -, ht⟩ := List.mem_flatMap.1 hu
    exact tree_one t u ht
  go_wp2_with (at_builtin; refine wpList_append_row _ rfl (.tmp 17) (.tmp 18) 23 23 rfl W1.heap.size 42 i0' (.agg #[.int .i64 0, .string ⟨#[]⟩, .slice none 0 0, .slice none 0 0]) 4 72 Tryd.underlying23 HI.out HZ0.out HZ1.out HZ2.out rfl (by decide) (.slice A m c) m (ts.flatMap TX.cells) rfl HROW.out (.slice L n lc) n (ls.flatMap TX.cells) rfl (src_reads _ Tryd.underlying23 lc HRD.out HONE.out) ?c1 ?c2 ?c3 ?_)
  case c1 => unfold maxLen; omega
  case c2 => omega
  case c3 => omega
  intro v6 w6 ho6 hg6
  obtain ⟨A6, c6, rfl, hr6, -⟩ := reads_of_owns ho6
  have hall := HTL.out.app (ls := ls) (fun t ht => ⟨((HL.out.2 t ht).1.low HB1.out).more HBW.out.size, (HL.out.2 t ht).2⟩) hzb (by rw [HM.out]; exact hg6)
  have HLT6 : Hid (LT w6 A6 (ts ++ ls)) := by
    refine ⟨?_, hall⟩
    rw [List.length_append, List.flatMap_append, HM.out, HN.out]
    exact hr6
  have HB6 : Hid (Below w.heap.size w w6) := HB1.out.grown hg6.grown HB1.out.size (fun g hg => by have := own_from HROW.out g hg; have := HBW.out.size; omega)
  have HRX6 : Hid (Blk w6 (w.heap.size + 1) 29 #[.slice none 0 0, .slice none 0 0]) := hg6.blk HRX1.out (fun e => by have := own_from HROW.out _ e; have := HRX.out.lt; omega)
  have hpe : (ts ++ ls).map TX.plain = treesP v.ns v.rs ++ ls.map TX.plain := by rw [List.map_append, HPL.out]
  have hlim := limited_any A6 c6 (ts ++ ls) w6 HLT6.out (by rw [hpe, T.sizes_append]; have := HLS.out; omega)
  have hlen2 : (ts ++ ls).length = m + n := by rw [List.length_append, HM.out, HN.out]
  rw [hpe, hlen2] at hlim
  have HLIM := Lib.hid hlim
  clear ho6 hg6 hr6 hall hpe hlim hlen2
  go_wp2_with fail
  refine (HLIM.out).mono ?_
  rintro e w7 ⟨u, hcase, huk, hb7⟩
  have HRX7 := Lib.hid (HRX6.out.below hb7 HRX6.out.lt)
  have HB7 : Hid (Below w.heap.size w w7) := HB6.out.trans (hb7.mono HB6.out.size)
  have HU := Lib.hid huk
  have o0 := HRX7.out.cell 0
  have o1 := HRX7.out.cell 1
  have f0 := HRX7.out.frozen 0
  have f1 := HRX7.out.frozen 1
  simp at o0 o1
  clear huk hb7
  rcases hcase with ⟨hle, rfl, hup⟩ | ⟨hov, rfl, rfl⟩
  · have HE := Lib.hid (addE_ok (ls := ls.map TX.plain) HE0.out hle)
    have HUP : Hid ((u.ns, u.rs) = addP v.ns v.rs (ls.map TX.plain)) := by unfold Hid; rw [addP_ok HE.out]; exact hup
    unfold PkV.val
    clear hle hup
    go_wp2_with fail
    have FM := (HRX7.out.set_ 0 (.slice u.nA u.ps.length u.nc)).set_ 1 (.slice u.rA u.rs.length u.rc)
    refine bodyPost_ret (results_cell_row2 (P := Tryd.prog) rfl _ _ (w.heap.size + 1) 29 #[.slice u.nA u.ps.length u.nc, .slice u.rA u.rs.length u.rc] (0, 0) _ rfl FM Tryd.underlying29 rfl (by kernel_rfl)) rfl ?_
    exact AddPost.yes HE.out HUP.out HU.out HRX7.out HB7.out
  · have HE := Lib.hid (addE_long (ls := ls.map TX.plain) HE0.out hov)
    have hzv : PkV.zero.val = .agg #[.slice none 0 0, .slice none 0 0] := rfl
    rw [hzv]
    clear hov hzv
    go_wp2_with fail
    have FM := (HRX7.out.set_ 0 (.slice none 0 0)).set_ 1 (.slice none 0 0)
    refine bodyPost_ret (results_cell_row2 (P := Tryd.prog) rfl _ _ (w.heap.size + 1) 29 #[.slice none 0 0, .slice none 0 0] (0, 0) _ rfl FM Tryd.underlying29 rfl (by kernel_rfl)) rfl ?_
    exact AddPost.no HE.out (by decide) ((HB7.out.setCell (p := ⟨w.heap.size + 1, 0, none⟩) (Nat.le_succ _) _).setCell (p := ⟨w.heap.size + 1, 1, none⟩) (Nat.le_succ _) _)
end Go.Proofs.YtdabmjcpiblofaaDoor
