/-
  The next text of n letters: the reference's after. No condition.
-/
import Derived.Test.YtikabbpipdekfaaPsD
namespace Go.Proofs.Ytikabbpipdekfaa
open Go.RowKit
set_option linter.unusedVariables false

/-- one more, at the last place at which that is possible -/
theorem after_short {l p : List UInt8} {n j : Nat} {c : UInt8} (h : Lets l) (hp : l.take n = p ++ [c] ++ List.replicate j 122) (hpn : p.length + 1 + j = n) (hc : c.toNat < 122) :
    (p ++ [c + 1] ++ List.replicate j 97).length = n ∧ Lets (p ++ [c + 1] ++ List.replicate j 97) ∧ V n (p ++ [c + 1] ++ List.replicate j 97) = V n l + 1 := by
  have hT := h.take n
  rw [hp] at hT
  have hcl : Let c := hT c (by simp)
  have hpl : Lets p := fun y hy => hT y (by simp [hy])
  have hc1 : (c + 1).toNat = c.toNat + 1 := by
    rw [UInt8.toNat_add]
    show (c.toNat + 1) % 256 = _
    omega
  have hcl' : Let (c + 1) := ⟨by rw [hc1]; have := hcl.1; omega, by rw [hc1]; omega⟩
  have hd : dg (c + 1) = dg c + 1 := by unfold dg; rw [hc1]; have := hcl.1; omega
  refine ⟨by simp; omega, (hpl.app (fun y hy => by simp at hy; subst hy; exact hcl')).app (lets_rep ⟨by decide, by decide⟩ j), ?_⟩
  have e1 : V n (p ++ [c + 1] ++ List.replicate j 97) = (V p.length p * 26 + (dg c + 1)) * 26 ^ j := by
    have := V_app (p ++ [c + 1]) (List.replicate j 97) j
    rw [List.length_append, List.length_cons, List.length_nil, hpn, V_last, hd, V_as, Nat.add_zero] at this
    exact this
  have e2 : V n l = (V p.length p * 26 + dg c) * 26 ^ j + V j (List.replicate j 122) := by
    rw [← V_of_take, hp]
    have := V_app (p ++ [c]) (List.replicate j 122) j
    rw [List.length_append, List.length_cons, List.length_nil, hpn, V_last] at this
    exact this
  have := V_zs j
  rw [e1, e2, ← Nat.add_assoc, Nat.add_mul _ 1, Nat.one_mul]
  omega
def AfterPost (w : World) (l : List UInt8) (n : Nat) (e : Ending) (w' : World) : Prop :=
  Below w.heap.size w w' ∧ ∃ t : ByteArray, e = .returned (.string t) ∧ ((t.data.toList.length = n ∧ Lets t.data.toList ∧ V n t.data.toList = (if l.length < n then V n l else V n l + 1)) ∨ (t.data.toList = [] ∧ n ≤ l.length ∧ V n l + 1 = 26 ^ n))
theorem set_mid {p : List UInt8} {c : UInt8} {i m j : Nat} (hp : p.length = i) (hm : m < j) : (p ++ [c] ++ (List.replicate m 97 ++ List.replicate (j - m) 122)).set (i + 1 + m) 97 = p ++ [c] ++ (List.replicate (m + 1) 97 ++ List.replicate (j - (m + 1)) 122) := by
  have hl : (p ++ [c]).length = i + 1 := by simp [hp]
  rw [List.set_append_right _ _ (by rw [hl]; omega), hl, show i + 1 + m - (i + 1) = m by omega, List.set_append_right _ _ (by simp), List.length_replicate, Nat.sub_self, show j - m = (j - (m + 1)) + 1 by omega, List.replicate_succ, List.set_cons_zero, List.replicate_succ']
  simp
theorem set_at {p q : List UInt8} {c x : UInt8} {i : Nat} (hp : p.length = i) : (p ++ [c] ++ q).set i x = p ++ [x] ++ q := by
  subst hp; simp
theorem get_at {p q : List UInt8} {c : UInt8} {i : Nat} (hp : p.length = i) {h : i < (p ++ [c] ++ q).length} : (p ++ [c] ++ q)[i] = c := by
  subst hp; simp

set_option maxRecDepth 100000 in
set_option maxHeartbeats 1600000 in
theorem after_any (s : ByteArray) (n : Nat) (w : World) (hs : s.size ≤ 60) (hl : Lets s.data.toList) (h1 : 1 ≤ n) (hn : n ≤ 60) : Calls Try.prog 30 #[.string s, .int .i64 (n : Int)] w (AfterPost w s.data.toList n) := by
  have HL := Lib.hid hl
  clear hl
  by_cases hc : s.size < n
  · have d1 : decide ((s.size : Int) < (n : Int)) = true := decide_eq_true (by omega)
    have d1' : decide (s.size < n) = true := decide_eq_true (by omega)
    go_enter Try.func30, Try.ntmps30
    go_wp2_with fail
    go_loop [5] (fun v => ∃ (t : ByteArray) (j : Nat), v = .string t ∧ t.size ≤ n ∧ Hid (t.size = s.size + j ∧ t.data.toList = s.data.toList ++ List.replicate j 97)) (fun v => match v with | .string t => n - t.size | _ => 0)
    case atStart => exact ⟨s, 0, rfl, by omega, rfl, by simp⟩
    case round =>
      obtain ⟨t, j, rfl, htn, HT⟩ := hrel
      by_cases hlt : t.size < n
      · have e1 : decide (t.size < n) = true := decide_eq_true hlt
        have HN : Hid ((t ++ ⟨#[97]⟩ : ByteArray).size = s.size + (j + 1) ∧ (t ++ ⟨#[97]⟩ : ByteArray).data.toList = s.data.toList ++ List.replicate (j + 1) 97) := by
          refine ⟨?_, ?_⟩
          · rw [← size_data, cat_data, HT.out.2]; simp
          · rw [cat_data, HT.out.2, List.replicate_succ']; simp
        have hsz : (t ++ ⟨#[97]⟩ : ByteArray).size ≤ n := by rw [HN.out.1]; have := HT.out.1; omega
        have hsz2 : n - (t ++ ⟨#[97]⟩ : ByteArray).size < n - t.size := by rw [HN.out.1]; have := HT.out.1; omega
        have HSZ := Lib.hid (And.intro hsz hsz2)
        clear hsz hsz2
        go_wp2_with fail
        go_round
        case rel => exact ⟨_, j + 1, rfl, HSZ.out.1, HN⟩
        case measure => exact HSZ.out.2
      · have e1 : decide (t.size < n) = false := decide_eq_false hlt
        go_wp2_with fail
        go_ret
        have hj := HT.out.1
        refine ⟨Below.refl _ _, t, rfl, .inl ⟨by rw [size_data]; omega, ?_, ?_⟩⟩
        · rw [HT.out.2]; exact HL.out.app (lets_rep ⟨by decide, by decide⟩ j)
        · rw [HT.out.2, if_pos (by rw [size_data]; exact hc)]
          have e2 := V_app s.data.toList (List.replicate j 97) j
          have e3 := V_more s.data.toList j
          rw [size_data, show s.size + j = n by omega] at e2 e3
          rw [e2, e3, V_as, Nat.add_zero]
  · have d1 : decide ((s.size : Int) < (n : Int)) = false := decide_eq_false (by omega)
    have d1' : decide (s.size < n) = false := decide_eq_false (by omega)
    obtain ⟨cap, w2, hcv, hby, hb2⟩ := byts_new w (s.extract 0 n)
    have hex : (s.extract 0 n).data.toList = s.data.toList.take n := extract_data s n
    have hxs : (s.extract 0 n).size = n := by rw [← size_data, hex, List.length_take, size_data]; omega
    rw [hxs] at hcv
    rw [hex] at hby
    have HBY := Lib.hid hby
    have HB2 := Lib.hid hb2
    have b0 : (0 : Int) ≤ (n : Int) := by omega
    have b1 : (n : Int) ≤ (s.size : Int) := by omega
    have HGL := Lib.hid (show (s.data.toList.take n).length = n by rw [List.length_take, size_data]; omega)
    clear hex hxs hby hb2
    go_enter Try.func30, Try.ntmps30
    go_wp2_with fail
    clear hcv
    go_loopw [7] (fun i wr => ∃ z : Int, i = .int .i64 z ∧ -1 ≤ z ∧ z < (n : Int) ∧ Hid (∀ m (hm : m < s.size), m < n → z < (m : Int) → s[m] = 122) ∧ Hid (Byts wr w.heap.size (s.data.toList.take n)) ∧ Hid (Below w.heap.size w wr)) (fun i _ => (intOf i + 1).toNat)
    case atStart => exact ⟨_, rfl, by omega, by omega, fun m hm h2 h3 => absurd h3 (by omega), HBY, HB2⟩
    case round =>
      obtain ⟨z, rfl, hz1, hz2, HZ, HBR, HBW⟩ := hrel
      by_cases hneg : z < 0
      · obtain rfl : z = -1 := by omega
        have HE : Hid (V n s.data.toList + 1 = 26 ^ n) := by
          unfold Hid
          rw [← V_of_take, ← V_zs n]
          congr 2
          apply List.ext_getElem?
          intro k
          rw [List.getElem?_take, List.getElem?_replicate]
          split
          · rename_i hk
            rw [get_data s k (by omega), HZ.out k (by omega) hk (by omega)]
          · rfl
        go_wp2_with fail
        go_ret
        exact ⟨HBW.out, ⟨#[]⟩, rfl, .inr ⟨rfl, by rw [size_data]; omega, HE.out⟩⟩
      · obtain ⟨m, rfl⟩ : ∃ m : Nat, z = m := ⟨z.toNat, by omega⟩
        have hms : m < s.size := by omega
        have hmn : m < n := by omega
        have hlet : Let s[m] := HL.out _ (List.mem_of_getElem? (get_data s m hms))
        have c0 := HBR.out.cell (j := m) (by rw [HGL.out]; exact hmn)
        have hgm : (s.data.toList.take n)[m]'(by rw [HGL.out]; exact hmn) = s[m] := by
          have := get_data s m hms
          rw [List.getElem_take]
          exact (List.getElem?_eq_some_iff.1 this).2
        rw [hgm] at c0
        have i1 : (m : Int) < (n : Int) := by omega
        by_cases hz : s[m] = 122
        · have hz' : s[m].toNat = 122 := by rw [hz]; rfl
          have e1 : decide ((s[m].toNat : Int) < 122) = false := decide_eq_false (by omega)
          have HN : Hid (∀ k (hm : k < s.size), k < n → (m : Int) - 1 < (k : Int) → s[k] = 122) := fun k hk h2 h3 => by
            rcases Nat.lt_or_ge m k with h' | h'
            · exact HZ.out k hk h2 (by omega)
            · obtain rfl : k = m := by omega
              exact hz
          clear hz hz' hlet hgm
          go_wp2_with fail
          go_roundw
          case rel => exact ⟨_, rfl, by omega, by omega, HN, HBR, HBW⟩
          case measure => simp [intOf]
        · have hz' : s[m].toNat < 122 := by
            have := hlet.2
            rcases Nat.lt_or_ge s[m].toNat 122 with h | h
            · exact h
            · exact absurd (UInt8.toNat_inj.1 (by show s[m].toNat = 122; omega)) hz
          have e1 : decide ((s[m].toNat : Int) < 122) = true := decide_eq_true (by omega)
          have hp := short_parts hms hmn (by omega) HZ.out
          have hpl : (s.data.toList.take m).length = m := by rw [List.length_take, size_data]; omega
          obtain ⟨j, hj⟩ : ∃ j, n - 1 - m = j := ⟨_, rfl⟩
          rw [hj] at hp
          obtain ⟨p, hpe⟩ : ∃ p, s.data.toList.take m = p := ⟨_, rfl⟩
          rw [hpe] at hp hpl
          obtain ⟨c, hce⟩ : ∃ c, s[m] = c := ⟨_, rfl⟩
          rw [hce] at hp hz' c0 e1
          have HK := Lib.hid (after_short HL.out hp (by rw [hpl]; omega) hz')
          have hn1 : ((c + 1).toNat : Int) = (c.toNat : Int) + 1 := by rw [UInt8.toNat_add]; show (((c.toNat + 1) % 256 : Nat) : Int) = _; omega
          have HBP : Hid (Byts wr w.heap.size (p ++ [c] ++ List.replicate j 122)) := by rw [← hp]; exact HBR
          have cf := HBP.out.froz (j := m) (by simp [hpl])
          have hnx := HBP.out.set_ (k := m) (by simp [hpl]) (c + 1)
          rw [set_at hpl, hn1] at hnx
          have HNX := Lib.hid hnx
          have HBN : Hid (Below w.heap.size w (wr.setCell ⟨w.heap.size, m, none⟩ (.int .u8 ((c.toNat : Int) + 1)))) := HBW.out.setCell (p := ⟨w.heap.size, m, none⟩) (Nat.le_refl _) _
          have hc1 : (c.toNat : Int) ≤ 121 := by omega
          have hc0 : 0 ≤ (c.toNat : Int) := by omega
          have HPL := Lib.hid hpl
          have HJ := Lib.hid hj
          have hjn : j ≤ n := by omega
          clear hz hz' hlet hgm hp hpe hce hn1 hnx hpl hj HBP HBR
          go_wp2_with fail
          go_loopw [8] (fun k wr => ∃ q : Nat, q ≤ j ∧ k = .int .i64 ((m : Int) + 1 + (q : Int)) ∧ Hid (Byts wr w.heap.size (p ++ [c + 1] ++ (List.replicate q 97 ++ List.replicate (j - q) 122))) ∧ Hid (Below w.heap.size w wr)) (fun k _ => n - (intOf k).toNat)
          case atStart => exact ⟨0, by omega, by go_num, by simpa using HNX, HBN⟩
          case round =>
            obtain ⟨q, hq, rfl, HBQ, HBV⟩ := hrel
            have hjj := HJ.out
            by_cases hqj : q < j
            · have e2 : decide ((m : Int) + 1 + (q : Int) < (n : Int)) = true := decide_eq_true (by omega)
              obtain ⟨u0, g0⟩ : ∃ u, wr.cell? ⟨w.heap.size, m + 1 + q, none⟩ = some u := ⟨_, HBQ.out.cell (j := m + 1 + q) (by simp [HPL.out]; omega)⟩
              have gf := HBQ.out.froz (j := m + 1 + q) (by simp [HPL.out]; omega)
              have hnx := HBQ.out.set_ (k := m + 1 + q) (by simp [HPL.out]; omega) 97
              rw [set_mid HPL.out hqj] at hnx
              have HNQ : Hid (Byts (wr.setCell ⟨w.heap.size, m + 1 + q, none⟩ (.int .u8 97)) w.heap.size (p ++ [c + 1] ++ (List.replicate (q + 1) 97 ++ List.replicate (j - (q + 1)) 122))) := hnx
              have HBN2 : Hid (Below w.heap.size w (wr.setCell ⟨w.heap.size, m + 1 + q, none⟩ (.int .u8 97))) := HBV.out.setCell (p := ⟨w.heap.size, m + 1 + q, none⟩) (Nat.le_refl _) _
              have i5 : 0 ≤ (m : Int) + 1 + (q : Int) := by omega
              have i6 : (m : Int) + 1 + (q : Int) < (n : Int) := by omega
              have i7 : ((m : Int) + 1 + (q : Int)).toNat = m + 1 + q := by omega
              clear hnx hjj
              go_wp2_with fail
              go_roundw
              case rel => exact ⟨q + 1, by omega, by go_num, HNQ, HBN2⟩
              case measure => simp [intOf]; omega
            · obtain rfl : q = j := by omega
              have e2 : decide ((m : Int) + 1 + (q : Int) < (n : Int)) = false := decide_eq_false (by omega)
              rw [Nat.sub_self, List.replicate_zero, List.append_nil] at HBQ
              have hst := HBQ.out.str cap
              rw [HK.out.1] at hst
              clear hjj
              go_wp2_with fail
              go_ret
              have hk := HK.out
              rw [show p ++ [c + 1] ++ List.replicate q 97 = p ++ (c + 1) :: List.replicate q 97 by simp] at hk
              exact ⟨HBV.out, _, rfl, .inl ⟨hk.1, hk.2.1, by rw [if_neg (by rw [size_data]; exact hc)]; exact hk.2.2⟩⟩
end Go.Proofs.Ytikabbpipdekfaa
