/-
  Keep: plain, words, the program's. No condition.
-/
import Derived.Test.YtdabmjcpiblofaaDoorPkSz
import Derived.Test.YtdabmjcpiblofaaDoorPkLa
import Derived.Test.YtdabmjcpiblofaaDoorPkXb
namespace Go.Proofs.YtdabmjcpiblofaaDoor
open Go.RowKit
set_option linter.unusedVariables false

def keptT (ns : List PN) (rs ks : List Int) : List T := ks.map fun k => (treesP ns rs).getD k.toNat T0
def inK (rs ks : List Int) : Prop := ∀ k ∈ ks, 0 ≤ k ∧ k < (rs.length : Int)
open Classical in
noncomputable def keepE (ns : List PN) (rs ks : List Int) : Int := if errP ns rs = 0 then (if inK rs ks then (if T.sizes (keptT ns rs ks) ≤ 20000 then 0 else 3) else 5) else errP ns rs
open Classical in
noncomputable def keepP (ns : List PN) (rs ks : List Int) : List PN × List Int := if keepE ns rs ks = 0 then T.puts (keptT ns rs ks) [] else ([], [])
section
variable {ns : List PN} {rs ks : List Int}
theorem keepE_err (h : errP ns rs ≠ 0) : keepE ns rs ks = errP ns rs := by unfold keepE; rw [if_neg h]
theorem keepE_arg (h : errP ns rs = 0) (h2 : ¬ inK rs ks) : keepE ns rs ks = 5 := by unfold keepE; rw [if_pos h, if_neg h2]
theorem keepE_long (h : errP ns rs = 0) (h2 : inK rs ks) (h3 : ¬ T.sizes (keptT ns rs ks) ≤ 20000) : keepE ns rs ks = 3 := by unfold keepE; rw [if_pos h, if_pos h2, if_neg h3]
theorem keepE_ok (h : errP ns rs = 0) (h2 : inK rs ks) (h3 : T.sizes (keptT ns rs ks) ≤ 20000) : keepE ns rs ks = 0 := by unfold keepE; rw [if_pos h, if_pos h2, if_pos h3]
theorem keepP_no (h : keepE ns rs ks ≠ 0) : keepP ns rs ks = ([], []) := by unfold keepP; rw [if_neg h]
theorem keepP_ok (h : keepE ns rs ks = 0) : keepP ns rs ks = T.puts (keptT ns rs ks) [] := by unfold keepP; rw [if_pos h]
end
def KeepPost (w : World) (v : PkV) (ks : List Int) (e : Ending) (w' : World) : Prop := ∃ u : PkV, e = .returned (.tuple #[u.val, .int .i64 (keepE v.ns v.rs ks)]) ∧ (u.ns, u.rs) = keepP v.ns v.rs ks ∧ u.ok w' w'.heap.size ∧ Below w.heap.size w w'
def PkV.zero : PkV := ⟨none, [], 0, none, [], 0⟩
theorem PkV.zero_ok (w : World) (B : Nat) : PkV.zero.ok w B := ⟨Reads.none_, Reads.none_, (fun p hp => by cases hp), Nat.zero_le _, Nat.zero_le _, (fun r hr => by cases hr)⟩
theorem KeepPost.no {w wr : World} {v : PkV} {ks : List Int} {e : Int} (he : keepE v.ns v.rs ks = e) (h : e ≠ 0) (hb : Below w.heap.size w wr) : KeepPost w v ks (.returned (.tuple #[.agg #[.slice none 0 0, .slice none 0 0], .int .i64 e])) wr := by
  subst he
  exact ⟨PkV.zero, rfl, by rw [keepP_no h]; rfl, PkV.zero_ok _ _, hb⟩
theorem hmem {α : Type} {l : List α} {k : Nat} {x : α} (h : l[k]? = some x) : x ∈ l := List.mem_of_getElem? h
/-- a block of slices holds no row of a pack -/
theorem reads_unbox {w : World} {B size n b k : Nat} {A : Option Addr} {xs : List Value} {t : TypeId} {cs : Array Value} (h : Reads w B size A n xs) (hb : Blk w b t cs) (hx : ∀ x, xs[0]? = some x → x ∉ cs.toList) (hxs : 0 < n → 0 < xs.length) (u : Value) : Reads (w.setCell ⟨b, k, none⟩ u) B size A n xs := by
  refine ⟨h.1, fun hn => ?_⟩
  obtain ⟨ad, e, hB, hc⟩ := h.2 hn
  have hne : ad.block ≠ b := fun e1 => by
    have hl := hxs hn
    have h0 := hc 0 xs[0] (List.getElem?_eq_getElem hl)
    refine hx xs[0] (List.getElem?_eq_getElem hl) ?_
    have h1 : (ad.add 0).block = b := by rw [block_of_add]; exact e1
    obtain ⟨i, hi⟩ : ∃ i, cs.toList[i]? = some xs[0] := by
      have h2 : w.heap[b]? = some (.cells cs t (0, 0)) := hb
      unfold World.cell? at h0
      rw [h1, h2] at h0
      simp at h0
      exact ⟨_, by rw [Array.getElem?_toList]; exact h0.2⟩
    exact List.mem_of_getElem? hi
  refine ⟨ad, e, hB, fun j v hv => (World.cell?_of_block ?_).trans (hc j v hv)⟩
  exact Below.heap_setCell w ⟨b, k, none⟩ u _ (by rw [block_of_add]; exact hne)
def slices (cs : Array Value) : Prop := ∀ x ∈ cs.toList, ∃ A n c, x = .slice A n c
theorem PkV.ok.unbox {v : PkV} {w : World} {B b k : Nat} {t : TypeId} {cs : Array Value} (h : v.ok w B) (hb : Blk w b t cs) (hs : slices cs) (u : Value) : v.ok (w.setCell ⟨b, k, none⟩ u) B := by
  have hi : ∀ {i : IntKind} {n : Int}, Value.int i n ∉ cs.toList := fun hm => by obtain ⟨A, n, c, e⟩ := hs _ hm; cases e
  have hst : ∀ {s : ByteArray}, Value.string s ∉ cs.toList := fun hm => by obtain ⟨A, n, c, e⟩ := hs _ hm; cases e
  have hint : ∀ (l : List Int) (x : Value), (l.map (Value.int .i64))[0]? = some x → x ∉ cs.toList := fun l x hx => by
    cases l with
    | nil => cases hx
    | cons a l => simp at hx; subst hx; exact hi
  refine ⟨reads_unbox h.nodes hb (fun x hx => ?_) (fun hn => ?_) u, reads_unbox h.roots hb (fun x hx => hint _ x hx) (fun hn => by simpa using hn) u, fun p hp => ?_, h.nl, h.rl, h.rr⟩
  · cases hps : v.ps with
    | nil => rw [hps] at hx; cases hx
    | cons p ps => rw [hps] at hx; simp [PX.cells] at hx; subst hx; exact hi
  · have := h.nodes.1; rw [this]; omega
  · have hp' := h.each p hp
    refine ⟨reads_unbox hp'.leads hb (fun x hx => ?_) (fun hn => by simpa using hn) u, reads_unbox hp'.kids hb (fun x hx => hint _ x hx) (fun hn => by simpa using hn) u, hp'.kind, hp'.text, hp'.lk, hp'.ll, hp'.kl, hp'.kk⟩
    cases hls : p.leads with
    | nil => rw [hls] at hx; cases hx
    | cons s l => rw [hls] at hx; simp at hx; subst hx; exact hst
theorem slices2 (A B : Option Addr) (n m c d : Nat) : slices #[.slice A n c, .slice B m d] := fun x hx => by
  simp at hx
  rcases hx with rfl | rfl <;> exact ⟨_, _, _, rfl⟩
theorem KeepPost.yes {w w7 : World} {v u : PkV} {ks : List Int} (he : keepE v.ns v.rs ks = 0) (hu : (u.ns, u.rs) = keepP v.ns v.rs ks) (hk : u.ok w7 w7.heap.size) (hb : Blk w7 (w.heap.size + 1) 29 #[.slice none 0 0, .slice none 0 0]) (hw : Below w.heap.size w w7) :
    KeepPost w v ks (.returned (.tuple #[.agg #[.slice u.nA u.ps.length u.nc, .slice u.rA u.rs.length u.rc], .int .i64 0])) ((w7.setCell ⟨w.heap.size + 1, 0, none⟩ (.slice u.nA u.ps.length u.nc)).setCell ⟨w.heap.size + 1, 1, none⟩ (.slice u.rA u.rs.length u.rc)) := by
  refine ⟨u, by rw [he]; rfl, hu, ?_, (hw.setCell (p := ⟨w.heap.size + 1, 0, none⟩) (Nat.le_succ _) _).setCell (p := ⟨w.heap.size + 1, 1, none⟩) (Nat.le_succ _) _⟩
  have h1 := hk.unbox (k := 0) hb (slices2 _ _ _ _ _ _) (.slice u.nA u.ps.length u.nc)
  have h2 := h1.unbox (k := 1) (hb.set_ 0 (.slice u.nA u.ps.length u.nc)) (slices2 _ _ _ _ _ _) (.slice u.rA u.rs.length u.rc)
  have e : ((w7.setCell ⟨w.heap.size + 1, 0, none⟩ (.slice u.nA u.ps.length u.nc)).setCell ⟨w.heap.size + 1, 1, none⟩ (.slice u.rA u.rs.length u.rc)).heap.size = w7.heap.size := by simp [World.setCell]
  rw [e]
  exact h2
structure KRel (w1 wr : World) (ts kept : List TX) (KT : List T) (j : Nat) (lv : Value) : Prop where
  bel : Below w1.heap.size w1 wr
  own : wr.ownsRow w1.heap.size 42 4 lv j (kept.flatMap TX.cells)
  len : kept.length = j
  pl : kept.map TX.plain = KT.take j
  mem : ∀ t ∈ kept, t ∈ ts
section
variable {w1 wr w2 w3 : World} {ts kept : List TX} {KT : List T} {j : Nat} {lv v3 : Value} {t : TX}
theorem KRel.start (w : World) (ts : List TX) (KT : List T) : KRel w w ts [] KT 0 (.slice none 0 0) := ⟨Below.refl _ _, ⟨rfl, .inl ⟨rfl, rfl⟩⟩, rfl, by simp, (fun t ht => by cases ht)⟩
theorem KRel.step (h : KRel w1 wr ts kept KT j lv) (hb : Below wr.heap.size wr w2) (hk : KT[j]? = some t.plain) (ht : t ∈ ts) (o : Obj) (ho : w3.ownsRow w1.heap.size 42 4 v3 (j + 1) (kept.flatMap TX.cells ++ t.cells)) (hg : Grows (w2.alloc o) w3 lv v3) : KRel w1 w3 ts (kept ++ [t]) KT (j + 1) v3 := by
  have hbo : Below w1.heap.size w1 (w2.alloc o) := bal (h.bel.trans (hb.mono h.bel.size)) _
  refine ⟨hbo.grown hg.grown hbo.size (fun g hg' => own_from h.own g hg'), by rw [List.flatMap_append, List.flatMap_cons, List.flatMap_nil, List.append_nil]; exact ho, by simp [h.len], ?_, fun x hx => ?_⟩
  · rw [List.map_append, h.pl, take_snoc' hk]; rfl
  · rcases List.mem_append.1 hx with hx | hx
    · exact h.mem x hx
    · simp at hx; subst hx; exact ht
theorem KRel.lt {A : Option Addr} {c : Nat} (h : KRel w1 wr ts kept KT j (.slice A j c)) (ht : ∀ t ∈ ts, Tr w1 w1.heap.size t ∧ Fine t) : LT wr A kept := by
  have h1 := Reads.of_own h.own
  rw [← h.len] at h1
  exact ⟨h1, fun t hm => ⟨(ht t (h.mem t hm)).1.up (Nat.le_refl _) h.bel, (ht t (h.mem t hm)).2⟩⟩
end
theorem LT.at_ {w : World} {A : Option Addr} {ts : List TX} {k : Nat} {t : TX} (h : LT w A ts) (hk : ts[k]? = some t) : ∃ ab ao, A = some ⟨ab, ao, none⟩ ∧ ab < w.heap.size ∧ ∀ w', Below w.heap.size w w' → w'.cell? ⟨ab, ao + k * 4, none⟩ = some (.int .i64 t.kind) ∧ w'.cell? ⟨ab, ao + k * 4 + 1, none⟩ = some (.string t.text) ∧ w'.cell? ⟨ab, ao + k * 4 + 2, none⟩ = some (.slice t.lA t.leads.length t.lc) ∧ w'.cell? ⟨ab, ao + k * 4 + 3, none⟩ = some (.slice t.kA t.kids.length t.kc) := by
  have hl := (List.getElem?_eq_some_iff.1 hk).1
  obtain ⟨ab, ao, rfl, hab, hca⟩ := h.1.head (by omega) (by omega)
  refine ⟨ab, ao, rfl, hab, fun w' hw => ?_⟩
  have p0 := hca (k * 4) _ (flat_at TX.cells_len ts k 0 t hk (by omega))
  have p1 := hca (k * 4 + 1) _ (flat_at TX.cells_len ts k 1 t hk (by omega))
  have p2 := hca (k * 4 + 2) _ (flat_at TX.cells_len ts k 2 t hk (by omega))
  have p3 := hca (k * 4 + 3) _ (flat_at TX.cells_len ts k 3 t hk (by omega))
  rw [← Nat.add_assoc] at p1 p2 p3
  exact ⟨(hw.cell hab).trans p0, (hw.cell hab).trans p1, (hw.cell hab).trans p2, (hw.cell hab).trans p3⟩
theorem kept_at {ns : List PN} {rs ks : List Int} {ts : List TX} {j kn : Nat} {t : TX} (hp : ts.map TX.plain = treesP ns rs) (hk : ks[j]? = some (kn : Int)) (ht : ts[kn]? = some t) : (keptT ns rs ks)[j]? = some t.plain := by
  unfold keptT
  rw [List.getElem?_map, hk, ← hp]
  simp [List.getD, ht]
theorem keptT_len (ns : List PN) (rs ks : List Int) : (keptT ns rs ks).length = ks.length := by unfold keptT; simp
theorem capSum_cap : ∀ (ts : List T), capSum (ts.map T.size) = capS (T.sizes ts) := fun ts => by
  refine snoc_ind (P := fun ts => capSum (ts.map T.size) = capS (T.sizes ts)) (by simp [capSum, capS, T.sizes]) (fun l x h => ?_) ts
  rw [List.map_append, List.map_cons, List.map_nil, capSum_snoc, h, T.sizes_append, T.sizes, T.sizes]
  unfold capS; omega
theorem sizes_takeK (ts : List T) (j : Nat) : T.sizes (ts.take j) ≤ T.sizes ts := by
  have h : T.sizes ts = T.sizes (ts.take j ++ ts.drop j) := by rw [List.take_append_drop]
  rw [T.sizes_append] at h
  omega
def totK (KT : List T) (j : Nat) : Nat := capSum ((KT.take j).map T.size)
theorem totK_succ {KT : List T} {j : Nat} {t : T} (h : KT[j]? = some t) : totK KT (j + 1) = min (totK KT j + t.size) 20001 := by
  unfold totK
  rw [take_snoc' h, List.map_append, List.map_cons, List.map_nil, capSum_snoc]
theorem totK_le (KT : List T) (j : Nat) : totK KT j ≤ 20001 := capSum_le _
theorem totK_over {KT : List T} {j : Nat} (h : 20000 < totK KT j) : ¬ T.sizes KT ≤ 20000 := by
  unfold totK at h
  rw [capSum_cap] at h
  have := sizes_takeK KT j
  unfold capS at h
  omega
theorem totK_all {KT : List T} {j : Nat} (h : ¬ 20000 < totK KT j) (hj : KT.length ≤ j) : T.sizes KT ≤ 20000 := by
  unfold totK at h
  rw [capSum_cap, List.take_of_length_le hj] at h
  unfold capS at h
  omega

set_option maxRecDepth 100000 in
set_option maxHeartbeats 4000000 in
theorem keep_any (v : PkV) (R : Option Addr) (rc : Nat) (ks : List Int) (w : World) (h : v.ok w w.heap.size) (ht : Tab w) (hr : Reads w w.heap.size 1 R ks.length (ks.map (Value.int .i64))) (hkl : ks.length ≤ 1000000) (hk64 : ∀ k ∈ ks, i64 k) :
    Calls Tryd.prog 27 #[v.val, .slice R ks.length rc] w (KeepPost w v ks) := by
  obtain ⟨n, hn⟩ : ∃ n, ks.length = n := ⟨_, rfl⟩
  obtain ⟨nn, hnn⟩ : ∃ n, v.ps.length = n := ⟨_, rfl⟩
  obtain ⟨mm, hmm⟩ : ∃ n, v.rs.length = n := ⟨_, rfl⟩
  have hrl := h.rl
  rw [hmm] at hrl
  rw [hn] at hkl hr ⊢
  have hval : v.val = .agg #[.slice v.nA nn v.nc, .slice v.rA mm v.rc] := by unfold PkV.val; rw [hnn, hmm]
  obtain ⟨W0, hW0⟩ : ∃ W, w.alloc (.cells #[.slice v.nA nn v.nc, .slice v.rA mm v.rc] 29) = W := ⟨_, rfl⟩
  obtain ⟨W1, hW1⟩ : ∃ W, W0.alloc (.cells #[.slice none 0 0, .slice none 0 0] 29) = W := ⟨_, rfl⟩
  have hs0 : W0.heap.size = w.heap.size + 1 := by subst hW0; simp
  have HBX : Hid (Blk W1 w.heap.size 29 #[.slice v.nA nn v.nc, .slice v.rA mm v.rc]) := by subst hW1 hW0; exact (Blk.new w _ _).alloc _
  have HRX : Hid (Blk W1 (w.heap.size + 1) 29 #[.slice none 0 0, .slice none 0 0]) := by subst hW1; rw [← hs0]; exact Blk.new W0 _ _
  have HBW : Hid (Below w.heap.size w W1) := by subst hW1 hW0; exact bal (bal (Below.refl _ w) _) _
  have c0 := HBX.out.cell 0
  have c1 := HBX.out.cell 1
  simp at c0 c1
  have HC := Lib.hid (trees_any v W1 (h.up (Nat.le_refl _) HBW.out))
  rw [hval] at HC ⊢
  have HR : Hid (∀ wr, Below w.heap.size w wr → Reads wr w.heap.size 1 R n (ks.map (Value.int .i64))) := fun wr hb => hr.below hb
  have HT := Lib.hid ht
  have HN := Lib.hid hn
  have HMM := Lib.hid hmm
  obtain ⟨i0', hi', hz0, hz1, hz2⟩ := info_parts tree_info
  have HI := Lib.hid hi'
  have HZ0 := Lib.hid hz0
  have HZ1 := Lib.hid hz1
  have HZ2 := Lib.hid hz2
  clear h ht hr hn hnn hmm hval hi' hz0 hz1 hz2
  go_enter Tryd.func27, Tryd.ntmps27
  go_wp2_with fail
  refine (HC.out).mono ?_
  rintro e w1 ⟨A, c, ts, rfl, htl, hpl, hno, hb⟩
  have HB1 : Hid (Below w.heap.size w w1) := HBW.out.trans (hb.mono HBW.out.size)
  have HRX1 : Hid (Blk w1 (w.heap.size + 1) 29 #[.slice none 0 0, .slice none 0 0]) := HRX.out.below hb HRX.out.lt
  have HW0 := Lib.hid hW0
  have HW1 := Lib.hid hW1
  clear hW0 hW1 c0 c1 HC
  by_cases h0 : errP v.ns v.rs = 0
  rotate_left
  · obtain ⟨er, her⟩ : ∃ er, errP v.ns v.rs = er := ⟨_, rfl⟩
    have HE := Lib.hid (keepE_err (ks := ks) h0)
    rw [her] at h0 HE ⊢
    have d1 : (er != 0) = true := by simpa using h0
    have d2 : (er == 0) = false := by simpa using h0
    have HNZ := Lib.hid h0
    have o0 := HRX1.out.cell 0
    have o1 := HRX1.out.cell 1
    have f0 := HRX1.out.frozen 0
    have f1 := HRX1.out.frozen 1
    simp at o0 o1
    clear htl hpl hno hb h0 her
    go_wp2_with fail
    have FM := (HRX1.out.set_ 0 (.slice none 0 0)).set_ 1 (.slice none 0 0)
    refine bodyPost_ret (results_cell_row2 (P := Tryd.prog) rfl _ _ (w.heap.size + 1) 29 #[.slice none 0 0, .slice none 0 0] (0, 0) _ rfl FM Tryd.underlying29 rfl (by kernel_rfl)) rfl ?_
    exact KeepPost.no HE.out HNZ.out ((HB1.out.setCell (p := ⟨w.heap.size + 1, 0, none⟩) (Nat.le_succ _) _).setCell (p := ⟨w.heap.size + 1, 1, none⟩) (Nat.le_succ _) _)
  have HPL := Lib.hid (hpl h0)
  have HLT := Lib.hid htl.lt
  have HE0 := Lib.hid h0
  have hmts : ts.length = mm := by
    have := congrArg List.length (hpl h0)
    unfold treesP at this
    simp at this
    rw [this]; exact HMM.out
  rw [h0, hmts]
  have HTL := Lib.hid hmts
  clear htl hpl hno hb h0 hmts
  go_wp2_with fail
  go_loop [25] (fun i => ∃ j : Nat, j ≤ n ∧ i = .int .i64 (j : Int) ∧ Hid (∀ k ∈ ks.take j, 0 ≤ k ∧ k < (mm : Int))) (fun i => n - (intOf i).toNat)
  case atStart => exact ⟨0, by omega, rfl, (fun k hk => by simp at hk)⟩
  case round =>
    obtain ⟨j, hj, rfl, HK⟩ := hrel
    by_cases hlt : j < n
    · obtain ⟨k, hk⟩ : ∃ k, ks[j]? = some k := ⟨_, List.getElem?_eq_getElem (by rw [HN.out]; exact hlt)⟩
      obtain ⟨b1, o1, u1, rfl, -, hu1, g1⟩ := (HR.out _ HB1.out).at1 hlt
      obtain rfl : u1 = .int .i64 k := by rw [List.getElem?_map, hk] at hu1; simpa using hu1.symm
      by_cases hkr : 0 ≤ k ∧ k < (mm : Int)
      · have d1 : decide (k < 0) = false := decide_eq_false (by omega)
        have d2 : decide ((mm : Int) ≤ k) = false := decide_eq_false (by omega)
        have HY3 : Hid (∀ y ∈ ks.take (j + 1), 0 ≤ y ∧ y < (mm : Int)) := by
          rw [take_snoc' hk]
          intro y' hy'
          rcases List.mem_append.1 hy' with h' | h'
          · exact HK.out y' h'
          · simp at h'; omega
        clear hk hu1 hkr
        go_wp2_with fail
        go_round
        case rel => exact ⟨j + 1, by omega, by go_num, HY3⟩
        case measure => simp [intOf]; omega
      · have HE := Lib.hid (keepE_arg (ks := ks) HE0.out (fun hin => by have := hin k (List.mem_of_getElem? hk); rw [HMM.out] at this; exact hkr this))
        have o0 := HRX1.out.cell 0
        have o1' := HRX1.out.cell 1
        have f0 := HRX1.out.frozen 0
        have f1 := HRX1.out.frozen 1
        simp at o0 o1'
        by_cases hy0 : k < 0
        · have d1 : decide (k < 0) = true := decide_eq_true hy0
          clear hk hu1 hkr
          go_wp2_with fail
          have FM := (HRX1.out.set_ 0 (.slice none 0 0)).set_ 1 (.slice none 0 0)
          refine bodyPost_ret (results_cell_row2 (P := Tryd.prog) rfl _ _ (w.heap.size + 1) 29 #[.slice none 0 0, .slice none 0 0] (0, 0) _ rfl FM Tryd.underlying29 rfl (by kernel_rfl)) rfl ?_
          exact KeepPost.no HE.out (by decide) ((HB1.out.setCell (p := ⟨w.heap.size + 1, 0, none⟩) (Nat.le_succ _) _).setCell (p := ⟨w.heap.size + 1, 1, none⟩) (Nat.le_succ _) _)
        · have d1 : decide (k < 0) = false := decide_eq_false hy0
          have d2 : decide ((mm : Int) ≤ k) = true := decide_eq_true (by omega)
          clear hk hu1 hkr
          go_wp2_with fail
          have FM := (HRX1.out.set_ 0 (.slice none 0 0)).set_ 1 (.slice none 0 0)
          refine bodyPost_ret (results_cell_row2 (P := Tryd.prog) rfl _ _ (w.heap.size + 1) 29 #[.slice none 0 0, .slice none 0 0] (0, 0) _ rfl FM Tryd.underlying29 rfl (by kernel_rfl)) rfl ?_
          exact KeepPost.no HE.out (by decide) ((HB1.out.setCell (p := ⟨w.heap.size + 1, 0, none⟩) (Nat.le_succ _) _).setCell (p := ⟨w.heap.size + 1, 1, none⟩) (Nat.le_succ _) _)
    · obtain rfl : j = n := by omega
      have HIN : Hid (∀ k ∈ ks, 0 ≤ k ∧ k < (mm : Int)) := by
        have h2 := HK.out
        rw [List.take_of_length_le (by rw [HN.out]; exact Nat.le_refl _)] at h2
        exact h2
      have hsz20 : ∀ t ∈ ts, t.plain.size ≤ 20000 := fun t hm => by
        have h1 := size_mem (ts := treesP v.ns v.rs) (by rw [← HPL.out]; exact List.mem_map_of_mem hm)
        have := (errP_zero HE0.out).2.2
        omega
      have HS20 := Lib.hid hsz20
      have HIK : Hid (inK v.rs ks) := fun k hk => by have := HIN.out k hk; rw [HMM.out]; exact this
      obtain ⟨KT, hKT⟩ : ∃ l, keptT v.ns v.rs ks = l := ⟨_, rfl⟩
      have HKT := Lib.hid hKT
      have HKL : Hid (KT.length = j) := by unfold Hid; rw [← hKT, keptT_len, HN.out]
      have HR0 : Hid (KRel w1 w1 ts [] KT 0 (.slice none 0 0)) := KRel.start w1 ts KT
      clear hsz20 hKT
      go_wp2_with fail
      go_loopw [10, 11, 41] (fun s l i wr => ∃ (a : Nat) (lA : Option Addr) (lc : Nat) (kept : List TX), a ≤ j ∧ i = .int .i64 (a : Int) ∧ s = .int .i64 (totK KT a : Int) ∧ ¬ 20000 < totK KT a ∧ l = .slice lA a lc ∧ Hid (KRel w1 wr ts kept KT a (.slice lA a lc))) (fun _ _ i _ => j - (intOf i).toNat)
      case atStart => exact ⟨0, none, 0, [], by omega, rfl, by simp [totK, capSum], by simp [totK, capSum], rfl, HR0⟩
      case round =>
        obtain ⟨a, lA, lc, kept, ha, rfl, rfl, hnot, rfl, HQ⟩ := hrel
        obtain ⟨tot, htot⟩ : ∃ x, totK KT a = x := ⟨_, rfl⟩
        rw [htot] at hnot ⊢
        have HTOT := Lib.hid htot
        clear htot
        have HBR : Hid (Below w.heap.size w wr) := HB1.out.trans (HQ.out.bel.mono HB1.out.size)
        have hzr := HQ.out.bel.size
        by_cases hla : a < j
        · obtain ⟨k, hk⟩ : ∃ k, ks[a]? = some k := ⟨_, List.getElem?_eq_getElem (by rw [HN.out]; exact hla)⟩
          obtain ⟨b1, o1, u1, rfl, -, hu1, g1⟩ := (HR.out _ HBR.out).at1 hla
          obtain rfl : u1 = .int .i64 k := by rw [List.getElem?_map, hk] at hu1; simpa using hu1.symm
          have hkr := HIN.out k (List.mem_of_getElem? hk)
          obtain ⟨kn, rfl⟩ : ∃ kn : Nat, k = (kn : Int) := ⟨k.toNat, by omega⟩
          obtain ⟨t, htk⟩ : ∃ t, ts[kn]? = some t := ⟨_, List.getElem?_eq_getElem (by rw [HTL.out]; omega)⟩
          have hts := hmem htk
          have ht20 := HS20.out t hts
          have hKat : KT[a]? = some t.plain := by rw [← HKT.out]; exact kept_at HPL.out hk htk
          have HKAT := Lib.hid hKat
          have HNX := Lib.hid (totK_succ hKat)
          rw [HTOT.out] at HNX
          obtain ⟨ab, ao, rfl, hab, hcells⟩ := HLT.out.at_ htk
          have HCE := Lib.hid hcells
          obtain ⟨p0, p1, p2, p3⟩ := hcells wr HQ.out.bel
          have HTT := Lib.hid (HLT.out.2 t hts)
          have hsz := size_any t wr (HTT.out.1.up (Nat.le_refl _) HQ.out.bel)
          have hwr : wrap64 (t.plain.size : Int) = (t.plain.size : Int) := IntWalk.wrap64_in _ (by omega)
          obtain ⟨ss, hss⟩ : ∃ x, t.plain.size = x := ⟨_, rfl⟩
          unfold SizeAt TX.val at hsz
          rw [hwr, hss] at hsz
          rw [hss] at HNX ht20
          have HSZ := Lib.hid hsz
          have HTS := Lib.hid hts
          have k0 : (0 : Int) ≤ (kn : Int) := by omega
          have k1 : (kn : Int) < (mm : Int) := by omega
          clear hk hu1 hkr htk hts hKat hcells hsz hwr hss
          go_wp2_with fail
          refine (HSZ.out).mono ?_
          rintro e w5 ⟨rfl, hb5⟩
          have HB5 := Lib.hid hb5
          have hz5 := hb5.size
          obtain ⟨wA, hwA⟩ : ∃ wA, w5.alloc (.cells #[.int .i64 (tot : Int), .int .i64 (ss : Int)] 3) = wA := ⟨_, rfl⟩
          have HSUM : Hid (Calls Tryd.prog 42 #[.slice (some ⟨w5.heap.size, 0, none⟩) 2 2] wA fun e w' => e = .returned (.int .i64 ((min (tot + ss) 20001 : Nat) : Int)) ∧ wA = w') := by
            have h1 : Blk wA w5.heap.size 3 #[.int .i64 (tot : Int), .int .i64 (ss : Int)] := by subst hwA; exact Blk.new w5 _ _
            have h2 := sum_any (some ⟨w5.heap.size, 0, none⟩) 2 wA.heap.size [tot, ss] wA (blk_reads (xs := [.int .i64 (tot : Int), .int .i64 (ss : Int)]) h1 rfl) (fun x hx => by simp at hx; omega) (by simp)
            have e : capSum [tot, ss] = min (tot + ss) 20001 := by simp [capSum]; omega
            rw [e] at h2
            exact h2
          have HBA : Hid (Below wr.heap.size wr wA) := by subst hwA; exact bal HB5.out _
          obtain ⟨q0, q1, q2, q3⟩ := HCE.out wA (HQ.out.bel.trans (HBA.out.mono hzr))
          have hzA := HBA.out.size
          clear hb5 p0 p1 p2 p3
          go_wp2_with fail
          refine (HSUM.out).mono ?_
          rintro e w6 ⟨rfl, rfl⟩
          obtain ⟨nt, hnt⟩ : ∃ x, min (tot + ss) 20001 = x := ⟨_, rfl⟩
          rw [hnt] at HNX ⊢
          clear hnt
          have HWA := Lib.hid hwA
          clear hwA
          by_cases hov : 20000 < nt
          · have d1 : decide ((20000 : Int) < (nt : Int)) = true := decide_eq_true (by omega)
            have HE := Lib.hid (keepE_long HE0.out HIK.out (by rw [HKT.out]; exact totK_over (j := a + 1) (by rw [HNX.out]; exact hov)))
            have HB9 : Hid (Below w.heap.size w wA) := HBR.out.trans (HBA.out.mono HBR.out.size)
            have HRX9 : Hid (Blk wA (w.heap.size + 1) 29 #[.slice none 0 0, .slice none 0 0]) := (HRX1.out.below HQ.out.bel HRX1.out.lt).below HBA.out (by have := HRX1.out.lt; omega)
            have o0 := HRX9.out.cell 0
            have o1' := HRX9.out.cell 1
            have f0 := HRX9.out.frozen 0
            have f1 := HRX9.out.frozen 1
            simp at o0 o1'
            go_wp2_with fail
            have FM := (HRX9.out.set_ 0 (.slice none 0 0)).set_ 1 (.slice none 0 0)
            refine bodyPost_ret (results_cell_row2 (P := Tryd.prog) rfl _ _ (w.heap.size + 1) 29 #[.slice none 0 0, .slice none 0 0] (0, 0) _ rfl FM Tryd.underlying29 rfl (by kernel_rfl)) rfl ?_
            exact KeepPost.no HE.out (by decide) ((HB9.out.setCell (p := ⟨w.heap.size + 1, 0, none⟩) (Nat.le_succ _) _).setCell (p := ⟨w.heap.size + 1, 1, none⟩) (Nat.le_succ _) _)
          · have d1 : decide ((20000 : Int) < (nt : Int)) = false := decide_eq_false (by omega)
            have HOA : Hid (wA.ownsRow w1.heap.size 42 4 (.slice lA a lc) a (kept.flatMap TX.cells)) := owns_below HQ.out.own HBA.out (own_lt HQ.out.own)
            go_wp2_with (at_builtin; refine wpList_append_row _ rfl (.tmp 56) (.tmp 61) 23 23 rfl w1.heap.size 42 i0' (.agg #[.int .i64 0, .string ⟨#[]⟩, .slice none 0 0, .slice none 0 0]) 4 72 Tryd.underlying23 HI.out HZ0.out HZ1.out HZ2.out rfl (by decide) (.slice lA a lc) a (kept.flatMap TX.cells) rfl (HOA.out.alloc _) (.slice (some ⟨wA.heap.size, 0, none⟩) 1 1) 1 t.cells rfl (src_new wA Tryd.underlying23 t.cells 4 1 1 42 rfl (tree_one t)) ?c1 ?c2 ?c3 ?_)
            case c1 => unfold maxLen; omega
            case c2 => omega
            case c3 => simp; omega
            intro v6 w6 ho6 hg6
            obtain ⟨A6, c6, rfl, -, -⟩ := reads_of_owns ho6
            have HQ6 := Lib.hid (HQ.out.step HBA.out HKAT.out HTS.out _ ho6 hg6)
            clear ho6 hg6 q0 q1 q2 q3
            go_wp2_with fail
            go_roundw
            case rel => exact ⟨a + 1, A6, c6, _, by omega, by go_num, by rw [HNX.out], by rw [HNX.out]; exact hov, rfl, HQ6⟩
            case measure => simp [intOf]; omega
        · obtain rfl : a = j := by omega
          have HSK : Hid (T.sizes KT ≤ 20000) := totK_all (j := a) (by rw [HTOT.out]; exact hnot) (by rw [HKL.out]; exact Nat.le_refl _)
          have hpk : kept.map TX.plain = KT := by rw [HQ.out.pl, List.take_of_length_le (by rw [HKL.out]; exact Nat.le_refl _)]
          have HE := Lib.hid (keepE_ok HE0.out HIK.out (by rw [HKT.out]; exact HSK.out))
          have hln := HQ.out.len
          have hmk := make_any lA lc kept wr (HQ.out.lt HLT.out.2) (by rw [hpk]; have := HSK.out; omega) (HT.out.below HBR.out)
          rw [hpk, hln] at hmk
          have HMK := Lib.hid hmk
          have HRX9 : Hid (Blk wr (w.heap.size + 1) 29 #[.slice none 0 0, .slice none 0 0]) := HRX1.out.below HQ.out.bel HRX1.out.lt
          clear hpk hmk hln
          go_wp2_with fail
          refine (HMK.out).mono ?_
          rintro e w7 ⟨u, rfl, hun, hur, huk, hb7⟩
          have HRX7 := Lib.hid (HRX9.out.below hb7 HRX9.out.lt)
          have HB7 : Hid (Below w.heap.size w w7) := HBR.out.trans (hb7.mono HBR.out.size)
          have HU := Lib.hid huk
          have HUP : Hid ((u.ns, u.rs) = keepP v.ns v.rs ks) := by unfold Hid; rw [keepP_ok HE.out, HKT.out, hun, hur]
          have o0 := HRX7.out.cell 0
          have o1' := HRX7.out.cell 1
          have f0 := HRX7.out.frozen 0
          have f1 := HRX7.out.frozen 1
          simp at o0 o1'
          unfold PkV.val
          clear hun hur huk hb7
          go_wp2_with fail
          have FM := (HRX7.out.set_ 0 (.slice u.nA u.ps.length u.nc)).set_ 1 (.slice u.rA u.rs.length u.rc)
          refine bodyPost_ret (results_cell_row2 (P := Tryd.prog) rfl _ _ (w.heap.size + 1) 29 #[.slice u.nA u.ps.length u.nc, .slice u.rA u.rs.length u.rc] (0, 0) _ rfl FM Tryd.underlying29 rfl (by kernel_rfl)) rfl ?_
          exact KeepPost.yes HE.out HUP.out HU.out HRX7.out HB7.out
end Go.Proofs.YtdabmjcpiblofaaDoor
