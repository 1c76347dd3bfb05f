/-
  same, awake. No condition.
-/
import Derived.Test.YtgblcjoalgckkaaDkN
namespace Go.Proofs.Ytgblcjoalgckkaa
open Go.RowKit
set_option linter.unusedVariables false

theorem ba_eq {a b : ByteArray} (h : a.toList = b.toList) : a = b := by
  rw [ByteArray.toList_eq, ByteArray.toList_eq] at h
  cases a; cases b
  simpa using h
theorem beq_text {a b : ByteArray} : (a.toList == b.toList) = decide (a = b) := by
  rw [Bool.eq_iff_iff, beq_iff_eq, decide_eq_true_eq]
  exact ⟨ba_eq, fun h => by rw [h]⟩
theorem str_inj {a b : List Nat} (ha : ∀ x ∈ a, x < 256) (hb : ∀ x ∈ b, x < 256) : ((str a).toList == (str b).toList) = decide (a = b) := by
  have h : str a = str b ↔ a = b := by
    constructor
    · intro h
      unfold str at h
      have h1 : a.map UInt8.ofNat = b.map UInt8.ofNat := by
        have := congrArg (fun x => x.data.toList) h
        simpa using this
      have h2 := congrArg (List.map UInt8.toNat) h1
      rw [List.map_map, List.map_map] at h2
      have e : ∀ l : List Nat, (∀ x ∈ l, x < 256) → l.map (UInt8.toNat ∘ UInt8.ofNat) = l := fun l hl => by
        conv => rhs; rw [← List.map_id l]
        refine List.map_congr_left (fun x hx => ?_)
        simp only [Function.comp]
        rw [UInt8.toNat_ofNat_of_lt' (hl x hx)]; rfl
      rwa [e a ha, e b hb] at h2
    · rintro rfl; rfl
  rw [beq_text]
  exact decide_eq_decide.2 h

set_option maxRecDepth 100000 in
set_option maxHeartbeats 400000 in
theorem same_any (A B : Option Addr) (c c' : Nat) (a b : List Nat) (w : World) (B1 B2 : Nat) (hr : Reads w B1 1 A a.length (a.map byt)) (hr' : Reads w B2 1 B b.length (b.map byt)) (ha : ∀ x ∈ a, x < 256) (hb : ∀ x ∈ b, x < 256) :
    Calls Try.prog 15 #[.slice A a.length c, .slice B b.length c'] w fun e w' => e = .returned (.bool (decide (a = b))) ∧ w = w' := by
  have r1 := run_bytes_str (P := Try.prog) w 22 9 5 c Try.underlying22 Try.underlying5 Try.underlying9 hr ha
  have r2 := run_bytes_str (P := Try.prog) w 22 9 5 c' Try.underlying22 Try.underlying5 Try.underlying9 hr' hb
  rw [← str_inj ha hb]
  clear hr hr' ha hb
  go_enter Try.func15, Try.ntmps15
  go_wp2_with fail
  go_ret
  exact ⟨rfl, rfl⟩

def ex1 : DS := { dur := List.replicate 64 0, wait := [(0, [1, 2])], off := false, fuse := none }
def ex2 : DS := { dur := 1 :: List.replicate 63 0, wait := [], off := false, fuse := none }
def ex3 : DS := { dur := 1 :: List.replicate 63 0, wait := [], off := false, fuse := some 1 }
def ex4 : DS := { dur := 1 :: List.replicate 63 0, wait := [(0, [3])], off := false, fuse := some 0 }
def ex5 : DS := { dur := 1 :: List.replicate 63 0, wait := [(0, [3])], off := true, fuse := some 0 }
theorem ex_w1 : writeS (newS 64) 0 [1, 2] = (0, ex1) := by rfl
theorem ex_c1 : crashS ex1 [] 1 = ex2 := by rfl
theorem ex_r1 : readS ex2 0 2 = ([1, 0], 0) := by rfl
theorem ex_f1 : fuseS ex2 1 = ex3 := by rfl
theorem ex_w2 : writeS ex3 0 [3] = (0, ex4) := by rfl
theorem ex_s2 : syncS ex4 = (15, ex5) := by rfl

def AwPost (w : World) (e : Ending) (w' : World) : Prop := e = .returned (.bool true) ∧ Below w.heap.size w w'
set_option maxRecDepth 100000 in
set_option maxHeartbeats 1600000 in
theorem awake_any (w : World) : Calls Try.prog 9 #[] w (AwPost w) := by
  have HN := Lib.hid (new_m 64 w (by omega) (by omega))
  go_enter Try.func9, Try.ntmps9
  go_wp2_with fail
  refine (HN.out).mono ?_
  rintro e w1 ⟨d, F, rfl, hm, hF, hb⟩
  have H1 : Hid (Mine0 w w1 d (newS 64) F) := ⟨hm, hF, hb⟩
  have HW := Lib.hid (write_m d (newS 64) F 0 _ 2 [1, 2] _ (H1.out.mine.alloc _) (by simp) (by simp) (bytes_new w1 [1, 2]) H1.out.mine.fresh)
  rw [ex_w1] at HW
  clear hm hF hb
  go_wp2_with fail
  refine (HW.out).mono ?_
  rintro e w2 ⟨rfl, ho⟩
  obtain ⟨F2, h2, -, -⟩ := (H1.out.alloc _).op ho
  have HC := Lib.hid (crash_m d ex1 F2 none 0 [] 1 w2 h2.mine (by simp) Reads.none_ (fun _ ad e => by cases e))
  rw [ex_c1] at HC
  have H2 := Lib.hid h2
  clear h2 ho HW HN H1
  go_wp2_with fail
  refine (HC.out).mono ?_
  rintro e w3 ⟨rfl, ho⟩
  obtain ⟨F3, h3, -, -⟩ := H2.out.op ho
  have HR := Lib.hid (read_m d ex2 F3 0 2 w3 h3.mine (by omega))
  rw [ex_r1] at HR
  have H3 := Lib.hid h3
  clear h3 ho H2 HC
  go_wp2_with fail
  refine (HR.out).mono ?_
  rintro e w4 ⟨A, c, rfl, hr, hcp, hnw, hb4⟩
  have h4 := H3.out.on hb4
  have HF := Lib.hid (fuse_m d ex2 F3 1 w4 h4.mine (by omega))
  rw [ex_f1] at HF
  obtain ⟨bk, o, hA, hlt, hcl⟩ := hr.head (by simp) (by omega)
  subst hA
  have hnf : ¬ F3 bk := fun hf => by have h1 := H3.out.mine.lt bk hf; have h2 : w3.heap.size ≤ bk := hnw _ rfl; omega
  have HRD : Hid (Reads w4 w4.heap.size 1 (some ⟨bk, o, none⟩) 2 (([1, 0] : List Nat).map byt)) := hr
  have H4 := Lib.hid h4
  have HLT := Lib.hid hlt
  have HNF := Lib.hid hnf
  clear hr hcp hnw hb4 h4 hlt hcl hnf H3 HR
  go_wp2_with fail
  refine (HF.out).mono ?_
  rintro e w5 ⟨rfl, ho⟩
  obtain ⟨F5, h5, hc5, hn5⟩ := H4.out.op ho
  have HRD5 := Lib.hid ((HRD.out.chg hc5 (Nat.le_refl _) (fun ad e => by injection e with e; rw [← e]; exact HNF.out)).more hc5.size)
  have HNF5 : Hid (¬ F5 bk) := fun hf => by
    rcases hn5 bk hf with h | h
    · exact HNF.out h
    · have := HLT.out; omega
  have HLT5 : Hid (bk < w5.heap.size) := Nat.lt_of_lt_of_le HLT.out hc5.size
  have H5 := Lib.hid h5
  have HW := Lib.hid (write_m d ex3 F5 0 _ 1 [3] _ (h5.mine.alloc _) (by simp) (by simp) (bytes_new w5 [3]) h5.mine.fresh)
  rw [ex_w2] at HW
  clear ho h5 hc5 hn5 HRD HNF HLT H4 HF
  go_wp2_with fail
  refine (HW.out).mono ?_
  rintro e w6 ⟨rfl, ho⟩
  obtain ⟨F6, h6, hc6, hn6⟩ := (H5.out.alloc _).op ho
  have HRD6 := Lib.hid (((HRD5.out.alloc (Nat.le_refl _) _).chg hc6 (by simp) (fun ad e => by injection e with e; rw [← e]; exact HNF5.out)).more (B' := w6.heap.size) (by have := hc6.size; simp at this; omega))
  have HNF6 : Hid (¬ F6 bk) := fun hf => by
    rcases hn6 bk hf with h | h
    · exact HNF5.out h
    · have := HLT5.out; simp at h; omega
  have H6 := Lib.hid h6
  have HS := Lib.hid (sync_m d ex4 F6 w6 h6.mine)
  rw [ex_s2] at HS
  clear ho h6 hc6 hn6 HRD5 HNF5 HLT5 H5 HW
  go_wp2_with fail
  refine (HS.out).mono ?_
  rintro e w7 ⟨rfl, ho⟩
  obtain ⟨F7, h7, hc7, hn7⟩ := H6.out.op ho
  have hr7 := (HRD6.out.chg hc7 (Nat.le_refl _) (fun ad e => by injection e with e; rw [← e]; exact HNF6.out))
  obtain ⟨b', o', hA', hb', hcl⟩ := hr7.head (by simp) (by omega)
  injection hA' with hA'
  injection hA' with hA1 hA2 _
  subst hA1 hA2
  have l0 : w7.cell? ⟨bk, o, none⟩ = some (.int .u8 1) := hcl 0 _ rfl
  have l1 : w7.cell? ⟨bk, o + 1, none⟩ = some (.int .u8 0) := hcl 1 _ rfl
  have HO := Lib.hid (off_m d ex5 F7 w7 h7.mine)
  have HP := Lib.hid (pending_m d ex5 F7 w7 h7.mine)
  have HB := Lib.hid h7.bel
  rw [show ex5.off = true from rfl] at HO
  rw [show ((ex5.wait.length : Nat) : Int) = 1 from rfl] at HP
  clear ho h7 hc7 hn7 hr7 hb' hcl H6 HRD6 HNF6 HS
  go_wp2_with fail
  refine (HO.out).mono ?_
  rintro e w8 ⟨rfl, rfl⟩
  go_wp2_with fail
  refine (HP.out).mono ?_
  rintro e w8 ⟨rfl, rfl⟩
  go_wp2_with fail
  go_ret
  exact ⟨rfl, HB.out⟩
end Go.Proofs.Ytgblcjoalgckkaa
