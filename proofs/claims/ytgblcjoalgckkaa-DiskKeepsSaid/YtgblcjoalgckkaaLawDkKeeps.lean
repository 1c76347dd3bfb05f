/-
  DiskKeeps: for every input the law returns true, and its arguments are as they were. No condition beside the given statement's own.
-/
import Derived.Test.YtgblcjoalgckkaaDkP
namespace Go.Proofs.Ytgblcjoalgckkaa.diskKeeps
open Go.ChangeShapes Go.WideShapes Go.ChangeAt Go.RowKit
open Go.ChangeMaps (open_string shut_string)
set_option linter.unusedVariables false

theorem spl_get {d b : List Nat} {y : Nat} (h : y + b.length ≤ d.length) (j : Nat) : (spl d y b)[j]? = if y ≤ j ∧ j < y + b.length then b[j - y]? else d[j]? := by
  unfold spl
  by_cases h1 : j < y
  · rw [if_neg (by omega), List.getElem?_append_left (by simp; omega), List.getElem?_take_of_lt h1]
  · rw [List.getElem?_append_right (by simp; omega)]
    have e : (d.take y).length = y := by simp; omega
    rw [e]
    by_cases h2 : j < y + b.length
    · rw [if_pos ⟨by omega, h2⟩, List.getElem?_append_left (by omega)]
    · rw [if_neg (by omega), List.getElem?_append_right (by omega), List.getElem?_drop]
      congr 1
      omega
def kD (a b : List Nat) (x y m : Nat) : List Nat := spl (spl (List.replicate 64 0) x a) y (b.take m)
def kS (D : List Nat) (l : List (Nat × List Nat)) : DS := { dur := D, wait := l, off := false, fuse := none }
theorem write_k (D : List Nat) (x : Nat) (b : List Nat) (h : x + b.length ≤ D.length) : writeS (kS D []) (x : Int) b = (0, kS D [(x, b)]) := by
  have hi : insideB D.length (x : Int) (b.length : Int) = true := by simp [insideB]; omega
  unfold writeS
  rw [show (kS D []).off = false from rfl, show (kS D []).dur = D from rfl, hi, show (kS D []).wait.length = 0 from rfl, show spendS (kS D []) = (true, kS D []) from rfl]
  rw [if_neg (by decide), if_neg (by decide), if_neg (by decide), if_pos rfl]
  rfl
theorem sync_k (D : List Nat) (x : Nat) (b : List Nat) : syncS (kS D [(x, b)]) = (0, kS (spl D x b) []) := rfl
theorem crash_k (D : List Nat) (y : Nat) (b : List Nat) (keep : List Bool) (part : Int) : ∃ m, crashS (kS D [(y, b)]) keep part = kS (spl D y (b.take m)) [] := by
  unfold crashS kS crashL
  split
  · exact ⟨b.length, by rw [List.take_length]; rfl⟩
  · exact ⟨_, rfl⟩
theorem crash_k0 (D : List Nat) (keep : List Bool) (part : Int) : crashS (kS D []) keep part = kS D [] := rfl
theorem read_k (D : List Nat) (h : D.length = 64) : readS (kS D []) 0 64 = (D, 0) := by
  have hi : insideB D.length 0 64 = true := by rw [h]; decide
  unfold readS
  rw [show (kS D []).off = false from rfl, show (kS D []).dur = D from rfl, hi, show (kS D []).wait = [] from rfl]
  rw [if_neg (by decide), if_neg (by decide)]
  show ((D.drop 0).take 64, (0 : Int)) = _
  rw [List.drop_zero, List.take_of_length_le (by omega)]
theorem kD_len {a b : List Nat} {x y m : Nat} (ha : x + a.length ≤ 64) (hb : y + b.length ≤ 64) : (spl (List.replicate 64 0) x a).length = 64 ∧ (kD a b x y m).length = 64 := by
  have h1 : (spl (List.replicate 64 0) x a).length = 64 := by rw [spl_len (by simpa using ha)]; simp
  refine ⟨h1, ?_⟩
  unfold kD
  rw [spl_len (by have : (b.take m).length ≤ b.length := List.length_take_le' _ _; omega), h1]
theorem kD_get {a b : List Nat} {x y m i p : Nat} (ha : x + a.length ≤ 64) (hb : y + b.length ≤ 64) (hi : a[i]? = some p) : ∃ q, (kD a b x y m)[x + i]? = some q ∧ (q = p ∨ (y ≤ x + i ∧ x + i < y + b.length ∧ b[x + i - y]? = some q)) := by
  have hl := (kD_len (m := m) ha hb).1
  have hil := (List.getElem?_eq_some_iff.1 hi).1
  have ht : (b.take m).length ≤ b.length := List.length_take_le' _ _
  have h1 : (spl (List.replicate 64 0) x a)[x + i]? = some p := by
    rw [spl_get (by simpa using ha), if_pos ⟨by omega, by omega⟩, show x + i - x = i by omega, hi]
  unfold kD
  rw [spl_get (by omega)]
  by_cases h : y ≤ x + i ∧ x + i < y + (b.take m).length
  · rw [if_pos h]
    have h2 : x + i - y < (b.take m).length := by omega
    refine ⟨_, List.getElem?_eq_getElem h2, .inr ⟨h.1, by omega, ?_⟩⟩
    rw [List.getElem_take, List.getElem?_eq_getElem]
  · rw [if_neg h]
    exact ⟨p, h1, .inl rfl⟩
theorem kD_mem {a b : List Nat} {x y m : Nat} (ha : ∀ u ∈ a, u < 256) (hb : ∀ u ∈ b, u < 256) : ∀ u ∈ kD a b x y m, u < 256 := by
  unfold kD
  exact spl_mem (spl_mem (fun u hu => by simp at hu; omega) ha) (fun u hu => hb u (List.mem_of_mem_take hu))
theorem reads_take {w : World} {B : Nat} {A : Option Addr} {l : List Nat} (k : Nat) (hk : k ≤ l.length) (h : Reads w B 1 A l.length (l.map byt)) : Reads w B 1 A (l.take k).length ((l.take k).map byt) := by
  refine ⟨by simp, fun hp => ?_⟩
  have hlt : 0 < l.length := by simp at hp; omega
  obtain ⟨ad, e, hb, hc⟩ := h.2 hlt
  refine ⟨ad, e, hb, fun j u hu => hc j u ?_⟩
  rw [List.map_take, List.getElem?_take] at hu
  split at hu
  · exact hu
  · cases hu

set_option maxRecDepth 100000 in
set_option maxHeartbeats 1600000 in
theorem walk (A B : Option Addr) (ca cb : Nat) (a b : List Nat) (z1 z2 : Int) (K : Option Addr) (ck : Nat) (keep : List Bool) (part : Int) (w : World) (v1 : (Lit.int .i64 z1).wf = true) (v2 : (Lit.int .i64 z2).wf = true)
    (hra : Reads w w.heap.size 1 A a.length (a.map byt)) (hrb : Reads w w.heap.size 1 B b.length (b.map byt)) (hrk : Reads w w.heap.size 1 K keep.length (keep.map Value.bool)) (ha : ∀ u ∈ a, u < 256) (hb : ∀ u ∈ b, u < 256) (hla : a.length ≤ ca) (hlb : b.length ≤ cb) (hlk : keep.length ≤ 140737488351232) (hla2 : a.length ≤ 140737488351232) (hlb2 : b.length ≤ 140737488351232) :
    Calls Try.prog 3 #[.slice A a.length ca, .slice B b.length cb, .int .i64 z1, .int .i64 z2, .slice K keep.length ck, .int .i64 part] w fun e w' => e = .returned (.bool true) ∧ Below w.heap.size w w' := by
  have HRA := Lib.hid hra
  have HRB := Lib.hid hrb
  have HRK := Lib.hid hrk
  have HA := Lib.hid ha
  have HB := Lib.hid hb
  have hz1 := wf_i64 v1
  have hz2 := wf_i64 v2
  clear hra hrb hrk ha hb
  go_enter Try.func3, Try.ntmps3
  go_upto_if 25 with fail
  go_cut [0] (fun v wx => ∃ a' : List Nat, a'.length ≤ 30 ∧ v = .slice A a'.length ca ∧ wx = w ∧ Hid (Reads w w.heap.size 1 A a'.length (a'.map byt) ∧ ∀ u ∈ a', u < 256))
  case first =>
    by_cases h30 : 30 < a.length
    · have HE : Hid (Reads w w.heap.size 1 A (a.take 30).length ((a.take 30).map byt) ∧ ∀ u ∈ a.take 30, u < 256) := ⟨reads_take 30 (by omega) HRA.out, fun u hu => HA.out u (List.mem_of_mem_take hu)⟩
      have HL : Hid ((a.take 30).length = 30) := by unfold Hid; rw [List.length_take]; omega
      go_wp2_with fail
      go_meet
      exact ⟨a.take 30, by rw [HL.out]; omega, by rw [HL.out], rfl, HE⟩
    · have HE : Hid (Reads w w.heap.size 1 A a.length (a.map byt) ∧ ∀ u ∈ a, u < 256) := ⟨HRA.out, HA.out⟩
      go_wp2_with fail
      go_meet
      exact ⟨a, by omega, rfl, rfl, HE⟩
  case rest =>
  obtain ⟨a', ha30, rfl, rfl, HA'⟩ := hcut
  rename World => w
  go_upto_if 30 with fail
  go_cut [1] (fun v wx => ∃ b' : List Nat, b'.length ≤ 30 ∧ v = .slice B b'.length cb ∧ wx = w ∧ Hid (Reads w w.heap.size 1 B b'.length (b'.map byt) ∧ ∀ u ∈ b', u < 256))
  case first =>
    by_cases h30 : 30 < b.length
    · have HE : Hid (Reads w w.heap.size 1 B (b.take 30).length ((b.take 30).map byt) ∧ ∀ u ∈ b.take 30, u < 256) := ⟨reads_take 30 (by omega) HRB.out, fun u hu => HB.out u (List.mem_of_mem_take hu)⟩
      have HL : Hid ((b.take 30).length = 30) := by unfold Hid; rw [List.length_take]; omega
      go_wp2_with fail
      go_meet
      exact ⟨b.take 30, by rw [HL.out]; omega, by rw [HL.out], rfl, HE⟩
    · have HE : Hid (Reads w w.heap.size 1 B b.length (b.map byt) ∧ ∀ u ∈ b, u < 256) := ⟨HRB.out, HB.out⟩
      go_wp2_with fail
      go_meet
      exact ⟨b, by omega, rfl, rfl, HE⟩
  case rest =>
  obtain ⟨b', hb30, rfl, rfl, HB'⟩ := hcut
  rename World => w
  have HN := Lib.hid (new_m 64 w (by omega) (by omega))
  have HM1 := Lib.hid (fun wx => mod_any z1 (64 - (a'.length : Int)) wx (by omega) (by omega) hz1.1 hz1.2)
  have HM2 := Lib.hid (fun wx => mod_any z2 (64 - (b'.length : Int)) wx (by omega) (by omega) hz2.1 hz2.2)
  have hx0 := Int.emod_nonneg z1 (show 64 - (a'.length : Int) ≠ 0 by omega)
  have hx1 := Int.emod_lt_of_pos z1 (show 0 < 64 - (a'.length : Int) by omega)
  have hy0 := Int.emod_nonneg z2 (show 64 - (b'.length : Int) ≠ 0 by omega)
  have hy1 := Int.emod_lt_of_pos z2 (show 0 < 64 - (b'.length : Int) by omega)
  obtain ⟨x, hx⟩ : ∃ x : Nat, z1 % (64 - (a'.length : Int)) = x := ⟨(z1 % (64 - (a'.length : Int))).toNat, by omega⟩
  obtain ⟨y, hy⟩ : ∃ y : Nat, z2 % (64 - (b'.length : Int)) = y := ⟨(z2 % (64 - (b'.length : Int))).toNat, by omega⟩
  rw [hx] at HM1 hx1
  rw [hy] at HM2 hy1
  have hxa : x + a'.length ≤ 64 := by omega
  have hyb : y + b'.length ≤ 64 := by omega
  clear HRA HRB HA HB hz1 hz2 hx hy hx0 hy0 hx1 hy1 hla hlb hla2 hlb2
  by_cases hk2 : 200 < keep.length
  · have dk : decide (200 < keep.length) = true := by simpa using hk2
    go_wp2_with fail
    refine (HN.out).mono ?_
    rintro e w1 ⟨d, F, rfl, hmi, hF, hbe⟩
    have HBE := Lib.hid hbe
    clear hmi hF hbe HN
    go_wp2_with fail
    refine (awake_any _).mono ?_
    rintro e w2 ⟨rfl, hb2⟩
    have HB2 := Lib.hid (HBE.out.trans (hb2.mono HBE.out.size))
    clear hb2
    go_wp2_with fail
    go_ret
    exact ⟨rfl, HB2.out⟩
  · have dk : decide (200 < keep.length) = false := by simpa using hk2
    go_wp2_with fail
    refine (HN.out).mono ?_
    rintro e w1 ⟨d, F, rfl, hmi, hF, hbe⟩
    have H1 : Hid (Mine0 w w1 d (kS (List.replicate 64 0) []) F) := ⟨hmi, hF, hbe⟩
    clear hmi hF hbe HN
    go_wp2_with fail
    refine (HM1.out _).mono ?_
    rintro e w0 ⟨rfl, rfl⟩
    go_wp2_with fail
    refine (HM2.out _).mono ?_
    rintro e w0 ⟨rfl, rfl⟩
    have HW1 := Lib.hid (write_m d _ F (x : Int) A ca a' w1 H1.out.mine HA'.out.2 (by omega) (HA'.out.1.up (Nat.le_refl _) H1.out.bel) (fun hn ad e hf => by have := HA'.out.1.at_block hn ad e; have := H1.out.own _ hf; omega))
    rw [write_k _ _ _ (by simpa using hxa)] at HW1
    clear HM1 HM2
    go_wp2_with fail
    refine (HW1.out).mono ?_
    rintro e w2 ⟨rfl, ho⟩
    obtain ⟨F2, h2, -, -⟩ := H1.out.op ho
    have HS := Lib.hid (sync_m d _ F2 w2 h2.mine)
    rw [sync_k] at HS
    have H2 := Lib.hid h2
    clear h2 ho H1 HW1
    go_wp2_with fail
    refine (HS.out).mono ?_
    rintro e w3 ⟨rfl, ho⟩
    obtain ⟨F3, h3, -, -⟩ := H2.out.op ho
    have hD1 := (kD_len (m := 0) hxa hyb).1
    have HW2 := Lib.hid (write_m d _ F3 (y : Int) B cb b' w3 h3.mine HB'.out.2 (by omega) (HB'.out.1.up (Nat.le_refl _) h3.bel) (fun hn ad e hf => by have := HB'.out.1.at_block hn ad e; have := h3.own _ hf; omega))
    rw [write_k _ _ _ (by rw [hD1]; exact hyb)] at HW2
    have H3 := Lib.hid h3
    clear h3 ho H2 HS hD1
    go_wp2_with fail
    refine (HW2.out).mono ?_
    rintro e w4 ⟨rfl, ho⟩
    obtain ⟨F4, h4, -, -⟩ := H3.out.op ho
    obtain ⟨m, hcr⟩ := crash_k (spl (List.replicate 64 0) x a') y b' keep part
    have HC := Lib.hid (crash_m d _ F4 K ck keep part w4 h4.mine (by omega) (HRK.out.up (Nat.le_refl _) h4.bel) (fun hn ad e hf => by have := HRK.out.at_block hn ad e; have := h4.own _ hf; omega))
    rw [hcr] at HC
    have H4 := Lib.hid h4
    clear h4 ho H3 HW2 hcr
    go_wp2_with fail
    refine (HC.out).mono ?_
    rintro e w5 ⟨rfl, ho⟩
    obtain ⟨F5, h5, -, -⟩ := H4.out.op ho
    obtain ⟨D, hD⟩ : ∃ D, kD a' b' x y m = D := ⟨_, rfl⟩
    have hDl : D.length = 64 := by rw [← hD]; exact (kD_len hxa hyb).2
    have h5' : Mine0 w w5 d (kS D []) F5 := by rw [← hD]; exact h5
    have HR := Lib.hid (read_m d _ F5 0 64 w5 h5'.mine (by omega))
    rw [read_k D hDl] at HR
    have H5 := Lib.hid h5'
    have HDL := Lib.hid hDl
    have HD := Lib.hid hD
    clear h5 h5' ho H4 HC hD hDl
    go_wp2_with fail
    refine (HR.out).mono ?_
    rintro e w6 ⟨R, c6, rfl, hr6, hcp6, hnw6, hb6⟩
    dsimp only at hr6 hcp6 ⊢
    rw [HDL.out] at hr6 hcp6 ⊢
    have h6 := H5.out.on hb6
    have H6 := Lib.hid h6
    have HR6 := Lib.hid hr6
    have HNF : Hid (∀ ad, R = some ad → ¬ F5 ad.block) := fun ad e hf => by have h1 := H5.out.mine.lt _ hf; have h2 := hnw6 ad e; omega
    obtain ⟨rb, ro, rfl, hrb, hrc⟩ := hr6.head (by omega) (by omega)
    have HRC := Lib.hid hrc
    have HA6 := Lib.hid (HA'.out.1.up (Nat.le_refl _) h6.bel)
    have HB6 := Lib.hid (HB'.out.1.up (Nat.le_refl _) h6.bel)
    clear hr6 hcp6 hnw6 hb6 h6 hrc HR H5 hrb
    go_wp2_with fail
    go_loopw [19] (fun s wr => ∃ (i n : Nat), i ≤ a'.length ∧ s = .int .i64 (i : Int) ∧ wr = w6.drewN n) (fun s _ => a'.length - (intOf s).toNat)
    case atStart => exact ⟨0, 0, by omega, rfl, rfl⟩
    case round =>
      obtain ⟨i, n, hi, rfl, rfl⟩ := hrel
      by_cases hlt : i < a'.length
      · obtain ⟨ab, ao, u, rfl, -, hu, hac⟩ := HA6.out.at1 hlt
        obtain ⟨p, hp⟩ : ∃ p, a'[i]? = some p := ⟨_, List.getElem?_eq_getElem hlt⟩
        have hup : u = byt p := by rw [List.getElem?_map, hp] at hu; simpa using hu.symm
        subst hup
        obtain ⟨q, hq, hqq⟩ := kD_get (m := m) hxa hyb hp
        rw [HD.out] at hq
        have hqc := HRC.out (x + i) (byt q) (by rw [List.getElem?_map, hq]; rfl)
        have hac' : w6.cell? ⟨ab, ao + i, none⟩ = some (.int .u8 (p : Int)) := hac
        have hqc' : w6.cell? ⟨rb, ro + (x + i), none⟩ = some (.int .u8 (q : Int)) := hqc
        have hx64 : (x : Int) + (i : Int) < 64 := by omega
        have s1 : IntKind.i64.wrap ((x : Int) + (i : Int)) = ((x + i : Nat) : Int) := by rw [IntWalk.i64_in _ (by omega)]; omega
        have s2 : 0 ≤ ((x + i : Nat) : Int) := by omega
        by_cases hqp : q = p
        · subst hqp
          clear hqq hq hqc hac hp hu
          go_wp2_with fail
          go_quiet (fail)
          go_wp2_with fail
          go_roundw
          case rel => exact ⟨i + 1, n + nq, by omega, by go_num, rfl⟩
          case measure => simp [intOf]; omega
        · obtain ⟨hy1, hy2, hbq⟩ : y ≤ x + i ∧ x + i < y + b'.length ∧ b'[x + i - y]? = some q := by
            rcases hqq with h | h
            · exact absurd h hqp
            · exact h
          obtain ⟨kk, hkk⟩ : ∃ kk : Nat, x + i - y = kk := ⟨_, rfl⟩
          have hki : (x : Int) + (i : Int) - (y : Int) = (kk : Int) := by omega
          have hkl : kk < b'.length := by omega
          rw [hkk] at hbq
          obtain ⟨bb, bo, u', rfl, -, hu', hbc⟩ := HB6.out.at1 hkl
          have hup' : u' = byt q := by rw [List.getElem?_map, hbq] at hu'; simpa using hu'.symm
          subst hup'
          have hbc' : w6.cell? ⟨bb, bo + kk, none⟩ = some (.int .u8 (q : Int)) := hbc
          have n1 : ((q : Int) != (p : Int)) = true := by simp; omega
          have n2 : decide ((kk : Int) < 0) = false := by simp
          have n3 : decide ((b'.length : Int) ≤ (kk : Int)) = false := by simp; omega
          have n4 : decide (b'.length ≤ kk) = false := by simp; omega
          have n5 : ((q : Int) == (p : Int)) = false := by simp; omega
          clear hqq hq hqc hac hp hu hbq hu' hbc hkk hy1 hy2
          go_wp2_with fail
          go_quiet (fail)
          go_wp2_with fail
          go_roundw
          case rel => exact ⟨i + 1, n + nq, by omega, by go_num, rfl⟩
          case measure => simp [intOf]; omega
      · have HC2 := Lib.hid (crash_m d _ F5 K ck keep part (w6.drewN n) (H6.out.mine.drewN n) (by omega) ((HRK.out.up (Nat.le_refl _) H6.out.bel).drewN n) (fun hn ad e hf => by have := HRK.out.at_block hn ad e; have := H6.out.own _ hf; omega))
        rw [crash_k0] at HC2
        have H6n : Hid (Mine0 w (w6.drewN n) d (kS D []) F5) := H6.out.on (below_drewN (Below.refl _ w6) n)
        go_wp2_with fail
        refine (HC2.out).mono ?_
        rintro e w7 ⟨rfl, ho⟩
        obtain ⟨F7, h7, hc7, -⟩ := H6n.out.op ho
        have HR7 := Lib.hid (((HR6.out.drewN n).chg hc7 (Nat.le_refl _) (fun ad e => HNF.out ad e)).more (B' := w7.heap.size) hc7.size)
        have HRD := Lib.hid (read_m d _ F7 0 64 w7 h7.mine (by omega))
        rw [read_k D HDL.out] at HRD
        have H7 := Lib.hid h7
        clear h7 hc7 ho HC2
        go_wp2_with fail
        refine (HRD.out).mono ?_
        rintro e w8 ⟨R8, c8, rfl, hr8, -, -, hb8⟩
        have HR8 : Hid (Reads w8 w8.heap.size 1 R8 D.length (D.map byt)) := hr8
        have HR78 : Hid (Reads w8 w8.heap.size 1 (some ⟨rb, ro, none⟩) D.length (D.map byt)) := by
          have := HR7.out.up (Nat.le_refl _) hb8
          unfold Hid
          rw [HDL.out]
          exact this
        have HDB : Hid (∀ u ∈ D, u < 256) := by unfold Hid; rw [← HD.out]; exact kD_mem HA'.out.2 HB'.out.2
        have HSM := Lib.hid (same_any (some ⟨rb, ro, none⟩) R8 c6 c8 D D w8 _ _ HR78.out HR8.out HDB.out HDB.out)
        rw [decide_eq_true rfl, HDL.out] at HSM
        have HB8 := Lib.hid (H7.out.on hb8).bel
        dsimp only
        rw [HDL.out]
        clear hr8 hb8
        go_wp2_with fail
        refine (HSM.out).mono ?_
        rintro e w9 ⟨rfl, rfl⟩
        go_wp2_with fail
        refine (awake_any _).mono ?_
        rintro e w9 ⟨rfl, hb9⟩
        have HB9 := Lib.hid (HB8.out.trans (hb9.mono HB8.out.size))
        clear hb9
        go_wp2_with fail
        go_ret
        exact ⟨rfl, HB9.out⟩


theorem own : ownKnob Try.prog.godebug = none := by kernel_rfl
theorem laidOut : laidOutB Try.prog = true := by kernel_rfl
theorem specN (H : Type) (ds : List (DataW H)) (h : ds.length = 6) : Rows.diskKeepsSpec.fn H (ds ++ []) = { results := [.lit (.bool true)], args := ds } := by
  match ds, h with
  | [_, _, _, _, _, _], _ => rfl

set_option maxRecDepth 100000 in
theorem lifted (os : Os) (started : os.Started) (H : Type) (enc : TypeId × Value → H) :
    ReturnsInHanded {} Try.checked os 3 .any (Rows.diskKeepsSpec.pre6 enc Try.prog Try.f3 Rows.diskKeepsRow.domain false) (Rows.diskKeepsSpec.post enc Try.prog Try.f3 false true false false) := by
  refine law_of_walk (C := Try.checked) own started (by kernel_rfl) Try.func3 rfl rfl Try.underlying4 laidOut (by kernel_rfl) (fun ds h => specN H ds (h.trans (by kernel_rfl)))
    (ChangeSpec.witness6 (enc := enc) (C := Try.checked) false ⟨#[], #[.slice none 0 0, .slice none 0 0, .int .i64 0, .int .i64 0, .slice none 0 0, .int .i64 0], []⟩ 8 (by kernel_rfl) (by kernel_rfl) (by kernel_rfl) (by kernel_rfl)) ?_
  intro W base args ds p hval hA hsz
  have hval' : ∀ (j : Nat) t v, Try.f3.params[j]? = some t → args[j]? = some v → Value.okWide Try.prog W .any base t v := hval
  rw [Try.params3] at hval' hA hsz
  obtain ⟨v0, vs0, d0, ds0, p0, q0, hargs, rfl, rfl, h0, r0⟩ := trodAll_cons hA
  obtain ⟨v1, vs1, d1, ds1, p1, q1, rfl, rfl, rfl, h1, r1⟩ := trodAll_cons r0
  obtain ⟨v2, vs2, d2, ds2, p2, q2, rfl, rfl, rfl, h2, r2⟩ := trodAll_cons r1
  obtain ⟨v3, vs3, d3, ds3, p3, q3, rfl, rfl, rfl, h3, r3⟩ := trodAll_cons r2
  obtain ⟨v4, vs4, d4, ds4, p4, q4, rfl, rfl, rfl, h4, r4⟩ := trodAll_cons r3
  obtain ⟨v5, vs5, d5, ds5, p5, q5, rfl, rfl, rfl, h5, r5⟩ := trodAll_cons r4
  obtain ⟨rfl, rfl, rfl⟩ := trodAll_nil r5
  obtain rfl : args = #[v0, v1, v2, v3, v4, v5] := by cases args; simp_all
  obtain ⟨a0, len0, cap0, rfl⟩ := okWide_slice Try.underlying22 (hval' 0 22 v0 rfl rfl)
  obtain ⟨hw0, hc0, hm0, bs0, hr0, hbs0⟩ := open_bytes Try.underlying22 Try.underlying5 (by kernel_rfl) h0
  have hlen0 := len_reach hsz (j := 0) (t := 22) rfl rfl Try.underlying22 (of_decide_eq_true (by kernel_rfl)) hw0
  obtain ⟨a1, len1, cap1, rfl⟩ := okWide_slice Try.underlying22 (hval' 1 22 v1 rfl rfl)
  obtain ⟨hw1, hc1, hm1, bs1, hr1, hbs1⟩ := open_bytes Try.underlying22 Try.underlying5 (by kernel_rfl) h1
  have hlen1 := len_reach hsz (j := 1) (t := 22) rfl rfl Try.underlying22 (of_decide_eq_true (by kernel_rfl)) hw1
  obtain ⟨a2, rfl, rfl, rfl, w2⟩ := open_int Try.underlying3 (hval' 2 3 v2 rfl rfl) h2
  obtain ⟨a3, rfl, rfl, rfl, w3⟩ := open_int Try.underlying3 (hval' 3 3 v3 rfl rfl) h3
  obtain ⟨a4, len4, cap4, rfl⟩ := okWide_slice Try.underlying23 (hval' 4 23 v4 rfl rfl)
  obtain ⟨fu4, hf4⟩ := h4
  obtain ⟨t1, t2, ks, rfl, t4⟩ := open_boolsS (d := d4) (p := p4) Try.underlying23 Try.underlying4 (by kernel_rfl) (of_decide_eq_true (by kernel_rfl)) hf4 (sm_arg hsz (j := 4) rfl rfl)
  obtain ⟨a5, rfl, rfl, rfl, w5⟩ := open_int Try.underlying3 (hval' 5 3 v5 rfl rfl) h5
  have e0 : bs0.length = len0 := by have := hr0.1; simpa using this
  have e1 : bs1.length = len1 := by have := hr1.1; simpa using this
  subst e0 e1
  exact walk a0 a1 cap0 cap1 bs0 bs1 _ _ a4 cap4 ks _ W w2 w3 hr0 hr1 t4 hbs0 hbs1 hc0 hc1 t2 hlen0 hlen1

theorem proved : Rows.DiskKeepsSaid :=
  OpenClaim.holds_of_wide 3 Try.f3 rfl rfl rfl rfl rfl rfl rfl ⟨rfl, rfl, rfl, rfl, rfl⟩ rfl rfl rfl rfl rfl (by kernel_rfl) Try.func3 (by kernel_rfl)
    (of_decide_eq_true (by kernel_rfl)) (by unfold Func.isWrapper; first | (rw [if_pos (by decide +kernel)]; kernel_rfl) | (rw [if_neg (by decide +kernel)]; exact ⟨rfl, rfl⟩))
    (fun os started H enc _ => lifted os started H enc)
end Go.Proofs.Ytgblcjoalgckkaa.diskKeeps
