/-
  What scan finds. No condition.
-/
import Derived.Test.YtnjafhlpnoikcaaLgD
namespace Go.Proofs.Ytnjafhlpnoikcaa
open Go.RowKit
set_option linter.unusedVariables false

/-- the first j bytes from e on as a number -/
def valS (l : List Nat) (e : Nat) : Nat → Nat
  | 0 => 0
  | j + 1 => valS l e j * 256 + l.getD (e + j) 0
theorem val_len4 (l : List Nat) (e : Nat) : valS l e 4 = len4 l e := by
  unfold len4
  simp [valS]
theorem val_lt {l : List Nat} (hl : ∀ x ∈ l, x < 256) (e : Nat) : ∀ j, valS l e j < 256 ^ j
  | 0 => by simp [valS]
  | j + 1 => by
    have h1 := val_lt hl e j
    have h2 : l.getD (e + j) 0 < 256 := by
      rw [List.getD_eq_getElem?_getD]
      cases h : l[e + j]? with
      | none => simp
      | some x => exact hl x (List.mem_of_getElem? h)
    have h3 : 256 ^ (j + 1) = 256 ^ j * 256 := Nat.pow_succ 256 j
    rw [h3]
    unfold valS
    generalize 256 ^ j = p at *
    omega
theorem or8 (x y : Nat) (hx : x < 16777216) (hy : y < 256) : bits BinOp.or IntKind.i64 ((x : Int) * 256) (y : Int) = (x : Int) * 256 + (y : Int) := by
  have e : ((x : Int) * 256) = ((x * 256 : Nat) : Int) := by simp
  rw [e]
  show IntKind.i64.wrap ((BitVec.ofInt 64 ((x * 256 : Nat) : Int) ||| BitVec.ofInt 64 (y : Int)).toNat : Int) = _
  rw [BitVec.ofInt_natCast, BitVec.ofInt_natCast, BitVec.toNat_or, BitVec.toNat_ofNat, BitVec.toNat_ofNat, Nat.mod_eq_of_lt (by omega), Nat.mod_eq_of_lt (by omega)]
  have h : x * 256 ||| y = x * 256 + y := by
    have := Nat.two_pow_add_eq_or_of_lt (i := 8) (by omega : y < 2 ^ 8) x
    rw [show (2 : Nat) ^ 8 = 256 from rfl, Nat.mul_comm] at this
    exact this.symm
  rw [h, IntKind.wrap_i64]
  omega
theorem scan_stop {l : List Nat} {k e : Nat} (h : ¬ (e + 5 ≤ l.length ∧ l.getD e 0 = 1)) : scanS l k e = ([], e) := by
  cases k with
  | zero => rfl
  | succ k => unfold scanS; rw [if_neg h]
theorem scan_long {l : List Nat} {k e : Nat} (h : ¬ e + 5 + len4 l (e + 1) ≤ l.length) : scanS l k e = ([], e) := by
  cases k with
  | zero => rfl
  | succ k =>
    unfold scanS
    split
    · rfl
    · rfl
theorem scan_next {l : List Nat} {k e : Nat} (h : e + 5 ≤ l.length ∧ l.getD e 0 = 1) (h2 : e + 5 + len4 l (e + 1) ≤ l.length) : scanS l (k + 1) e = ((l.drop (e + 5)).take (len4 l (e + 1)) :: (scanS l k (e + 5 + len4 l (e + 1))).1, (scanS l k (e + 5 + len4 l (e + 1))).2) := by
  rw [scanS, if_pos h, if_pos h2]
/-- the scan's loop -/
structure ScRel (w wr : World) (g d : Nat) (l : LS) (K : Nat → Prop) (ar : List Nat) (k e : Nat) (done : List (List Nat)) (v : Value) (rs : List Rc) (K' : Nat → Prop) : Prop where
  fuel : ar.length < k + e
  le : e ≤ ar.length
  log : LogX wr g d { l with recs := done, fin := e } v rs K'
  chg : Chg w wr K
  sub : ∀ b, K' b → K b ∨ w.heap.size ≤ b
  tot : done ++ (scanS ar k e).1 = (scanS ar (ar.length + 1) 0).1 ∧ (scanS ar k e).2 = (scanS ar (ar.length + 1) 0).2
def ScPost (w : World) (g d : Nat) (l : LS) (K : Nat → Prop) (ar : List Nat) (e : Ending) (w' : World) : Prop :=
  e = .returned (.tuple #[]) ∧ ∃ K', LogAt w' g d { l with recs := (scanS ar (ar.length + 1) 0).1, fin := (scanS ar (ar.length + 1) 0).2 } K' ∧ Chg w w' K ∧ ∀ b, K' b → K b ∨ w.heap.size ≤ b
theorem ScRel.drewN {w wr : World} {g d : Nat} {l : LS} {K : Nat → Prop} {ar : List Nat} {k e : Nat} {dn : List (List Nat)} {v : Value} {rs : List Rc} {K' : Nat → Prop} (h : ScRel w wr g d l K ar k e dn v rs K') (q : Nat) : ScRel w (wr.drewN q) g d l K ar k e dn v rs K' :=
  ⟨h.fuel, h.le, h.log.below (below_drewN (Below.refl _ wr) q), h.chg.drewN q, h.sub, h.tot⟩
theorem ScRel.push {w wq wF : World} {g d : Nat} {l : LS} {K : Nat → Prop} {ar : List Nat} {k e m : Nat} {dn : List (List Nat)} {v v3 : Value} {rs rs3 : List Rc} {K' : Nat → Prop} {S : Nat} (h : ScRel w wq g d l K ar k e dn v rs K') (h1 : e + 5 ≤ ar.length ∧ ar.getD e 0 = 1) (hy : len4 ar (e + 1) = m) (h2 : e + 5 + m ≤ ar.length)
    (hp : LogX wF g d { l with recs := dn ++ [(ar.drop (e + 5)).take m], fin := e + 5 + m } v3 rs3 (fun i => K' i ∨ (wq.heap.size ≤ i ∧ i < S)) ∧ Chg wq wF K') : ScRel w wF g d l K ar (k - 1) (e + 5 + m) (dn ++ [(ar.drop (e + 5)).take m]) v3 rs3 (fun i => K' i ∨ (wq.heap.size ≤ i ∧ i < S)) := by
  have hk : 0 < k := by have := h.fuel; omega
  obtain ⟨j, rfl⟩ : ∃ j, k = j + 1 := ⟨k - 1, by omega⟩
  have hs := h.chg.size
  refine ⟨by have := h.fuel; omega, h2, hp.1, ?_, fun b hb => ?_, ?_⟩
  · refine ⟨hp.2.os.trans h.chg.os, hp.2.tape.trans h.chg.tape, hp.2.output.trans h.chg.output, Nat.le_trans hs hp.2.size, fun i hi hn => (hp.2.block i (by omega) (fun hk' => ?_)).trans (h.chg.block i hi hn)⟩
    rcases h.sub i hk' with h3 | h3
    · exact hn h3
    · omega
  · rcases hb with hb | hb
    · exact h.sub b hb
    · exact .inr (by omega)
  · obtain ⟨t1, t2⟩ := h.tot
    rw [scan_next h1 (by rw [hy]; exact h2), hy] at t1 t2
    refine ⟨?_, t2⟩
    rw [List.append_assoc]
    exact t1
/-- a cut out of the middle of bytes -/
theorem reads_mid {w : World} {B n ab ao lo m : Nat} {xs : List Nat} (h : Reads w B 1 (some ⟨ab, ao, none⟩) n (xs.map byt)) (hm : lo + m ≤ n) : Reads w B 1 (some ⟨ab, ao + lo, none⟩) m (((xs.drop lo).take m).map byt) := by
  have hx := h.1
  simp only [List.length_map, Nat.mul_one] at hx
  refine ⟨by simp; omega, fun hn => ?_⟩
  obtain ⟨ad, e, hb, hc⟩ := h.2 (by omega)
  injection e with e
  subst e
  refine ⟨_, rfl, hb, fun j u hu => ?_⟩
  rw [Addr.add_lit, Nat.add_assoc, ← Addr.add_lit]
  refine hc (lo + j) u ?_
  rw [List.getElem?_map, List.getElem?_take] at hu
  split at hu
  · rw [List.getElem?_drop] at hu
    rw [List.getElem?_map]
    exact hu
  · cases hu
theorem slices_info : (Try.prog.info? 32).map (fun i => (i.zero, i.size, i.bytes)) = some (some (.slice none 0 0), 1, 24) := by kernel_rfl
theorem ScRel.done {w wr : World} {g d : Nat} {l : LS} {K : Nat → Prop} {ar : List Nat} {k e : Nat} {dn : List (List Nat)} {v : Value} {rs : List Rc} {K' : Nat → Prop} (h : ScRel w wr g d l K ar k e dn v rs K') (hs : scanS ar k e = ([], e)) : ScPost w g d l K ar (.returned (.tuple #[])) wr := by
  obtain ⟨t1, t2⟩ := h.tot
  rw [hs] at t1 t2
  rw [List.append_nil] at t1
  refine ⟨rfl, K', ⟨v, rs, ?_⟩, h.chg, h.sub⟩
  rw [← t1, ← t2]
  exact h.log

set_option maxRecDepth 100000 in
set_option maxHeartbeats 2000000 in
theorem scan_any {w : World} {g d : Nat} {l : LS} {K : Nat → Prop} {A : Option Addr} {c : Nat} {ar : List Nat} (h : LogAt w g d { l with recs := [], fin := 0 } K) (hlen : ar.length = l.half) (hr : Reads w w.heap.size 1 A ar.length (ar.map byt)) (hA : ∀ ad, A = some ad → ¬ K ad.block) (hbs : ∀ x ∈ ar, x < 256) (hc : ar.length ≤ c) :
    Calls Try.prog 31 #[.pointer (some ⟨g, 0, none⟩), .slice A ar.length c] w (ScPost w g d l K ar) := by
  obtain ⟨v0, rs0, hx0⟩ := h
  have R0 : Hid (ScRel w w g d l K ar (ar.length + 1) 0 [] v0 rs0 K) := ⟨by omega, Nat.zero_le _, hx0, Chg.refl w K, fun b hb => .inl hb, by simp⟩
  obtain ⟨n, hn⟩ : ∃ n, ar.length = n := ⟨_, rfl⟩
  have hn6 : n ≤ 65536 := by have := hx0.half; simp only at this; omega
  rw [hn] at hr hc
  have HN := Lib.hid hn
  have HR := Lib.hid hr
  have HAA := Lib.hid hA
  have HBS := Lib.hid hbs
  have HLEN := Lib.hid hlen
  rw [hn]
  clear hr hA hbs hx0 hlen hn
  go_enter Try.func31, Try.ntmps31
  go_wp2_with fail
  go_loopw [] (fun wr => ∃ (k e : Nat) (dn : List (List Nat)) (v : Value) (rs : List Rc) (K' : Nat → Prop), ScRel w wr g d l K ar k e dn v rs K') (fun wr => ((n : Int) - intOf ((wr.cell? ⟨g, 3, none⟩).getD (.int .i64 0))).toNat)
  case atStart => exact ⟨_, _, _, _, _, _, R0.out⟩
  case round =>
    obtain ⟨k, e, dn, v, rs, K', hR⟩ := hrel
    have RR := Lib.hid hR
    have c3 := hR.log.blk.cell 3
    have hle := hR.le
    simp at c3
    rw [HN.out] at hle
    clear hR R0
    by_cases h5 : e + 5 ≤ n
    · have d5 : decide ((5 : Int) ≤ (n : Int) - (e : Int)) = true := by simp; omega
      have hrw : Reads wr w.heap.size 1 A n (ar.map byt) := (HR.out).chg (RR.out).chg (Nat.le_refl _) (HAA.out)
      obtain ⟨x, hx⟩ : ∃ x, ar[e]? = some x := ⟨ar[e]'(by rw [HN.out]; omega), List.getElem?_eq_getElem _⟩
      have hgx : ar.getD e 0 = x := by rw [List.getD_eq_getElem?_getD, hx]; rfl
      obtain ⟨ab, ao, u, rfl, hab, hu, hcell⟩ := hrw.at1 (show e < n by omega)
      obtain rfl : u = .int .u8 (x : Int) := by rw [List.getElem?_map, hx] at hu; simpa [byt] using hu.symm
      have HRW := Lib.hid hrw
      have hne : ¬ n ≤ e := by omega
      clear hrw hu hx
      by_cases h1 : x = 1
      · subst h1
        have d1 : (((1 : Nat) : Int) == 1) = true := by simp
        go_wp2_with fail
        go_quiet (fail)
        go_wp2_with fail
        have h54 : e + 5 - (e + 1) = 4 := by omega
        have hv0 : ∀ j, valS ar (e + 1) j < 256 ^ j := val_lt (HBS.out) (e + 1)
        have HV := Lib.hid hv0
        have HGX := Lib.hid hgx
        clear hv0 hgx hcell d1
        rw [h54]
        go_loopw [4, 39] (fun nv jv wi => ∃ (j y q : Nat), j ≤ 4 ∧ jv = .int .i64 (j : Int) ∧ nv = .int .i64 (y : Int) ∧ Hid (valS ar (e + 1) j = y) ∧ wi = wr.drewN q) (fun _ jv _ => ((4 : Int) - intOf jv).toNat)
        case atStart => exact ⟨0, 0, nq, by omega, rfl, rfl, rfl, rfl⟩
        case round =>
          obtain ⟨j, y, q, hj, rfl, rfl, HY, rfl⟩ := hrel
          by_cases hj4 : j < 4
          · have dj : decide ((j : Int) < 4) = true := by simp; omega
            obtain ⟨z, hz⟩ : ∃ z, ar[e + 1 + j]? = some z := ⟨ar[e + 1 + j]'(by rw [HN.out]; omega), List.getElem?_eq_getElem _⟩
            have hz256 : z < 256 := (HBS.out) z (List.mem_of_getElem? hz)
            have hyb : y < 16777216 := by
              have := (HV.out) j
              rw [HY.out] at this
              have hp : 256 ^ j ≤ 256 ^ 3 := Nat.pow_le_pow_right (by omega) (by omega)
              omega
            have hor := or8 y z hyb hz256
            have hny : valS ar (e + 1) (j + 1) = y * 256 + z := by
              show valS ar (e + 1) j * 256 + ar.getD (e + 1 + j) 0 = _
              rw [HY.out, List.getD_eq_getElem?_getD, hz]
              rfl
            have HNY := Lib.hid hny
            obtain ⟨ab2, ao2, u2, he2, -, hu2, hcell2⟩ := (HRW.out).at1 (show e + 1 + j < n by omega)
            obtain rfl : u2 = .int .u8 (z : Int) := by rw [List.getElem?_map, hz] at hu2; simpa [byt] using hu2.symm
            simp at he2
            obtain ⟨rfl, rfl⟩ := he2
            have hc2 : wr.cell? ⟨ab, ao + (e + 1) + j, none⟩ = some (.int .u8 (z : Int)) := by rw [show ao + (e + 1) + j = ao + (e + 1 + j) by omega]; exact hcell2
            clear hcell2
            have hne4 : ¬ 4 ≤ j := by omega
            clear hny hu2 hz
            go_wp2_with fail
            go_roundw
            case rel => exact ⟨j + 1, y * 256 + z, q, by omega, by go_num, by go_num, HNY.out, rfl⟩
            case measure => simp [intOf]; omega
          · have dj : decide ((j : Int) < 4) = false := by simp; omega
            obtain rfl : j = 4 := by omega
            have hy4 : len4 ar (e + 1) = y := by rw [← val_len4, HY.out]
            by_cases hlong : e + 5 + y ≤ n
            · have dl : decide ((n : Int) - (e : Int) - 5 < (y : Int)) = false := by simp; omega
              have RQ := Lib.hid ((RR.out).drewN q)
              have HRQ := Lib.hid ((HRW.out).drewN q)
              have HY4 := Lib.hid hy4
              have c3q : (wr.drewN q).cell? ⟨g, 3, none⟩ = some (.int .i64 (e : Int)) := c3
              have C3 := Lib.hid c3
              clear hy4 RR HRW c3 HY HV
              generalize wr.drewN q = wq at *
              obtain ⟨Av, cv, hv⟩ := (RQ.out).log.slice
              subst hv
              have c4q := (RQ.out).log.blk.cell 4
              have f4q := (RQ.out).log.blk.frozen 4
              have f3q := (RQ.out).log.blk.frozen 3
              simp at c4q
              obtain ⟨i0, hi0, hz0, hz1, hz2⟩ := info_parts slices_info
              have HI0 := Lib.hid hi0
              have HZ0 := Lib.hid hz0
              have HZ1 := Lib.hid hz1
              have HZ2 := Lib.hid hz2
              obtain ⟨b, hb⟩ : ∃ b, b = (ar.drop (e + 5)).take y := ⟨_, rfl⟩
              have hbl : b.length = y := by rw [hb, List.length_take, List.length_drop, HN.out]; omega
              have hbb : Hid (∀ x ∈ b, x < 256) := fun x hx => by rw [hb] at hx; exact (HBS.out) x (List.mem_of_mem_drop (List.mem_of_mem_take hx))
              have hmid := reads_mid (lo := e + 5) (m := y) (HRQ.out) hlong
              rw [← hb] at hmid
              have hcl := clone_any (if c = e + 5 then some ⟨ab, ao, none⟩ else some ⟨ab, ao + (e + 5), none⟩) (c - (e + 5)) w.heap.size b wq.drew (by omega) (by
                split
                · have hy0 : y = 0 := by omega
                  have hb0 : b = [] := List.eq_nil_of_length_eq_zero (by omega)
                  rw [hb0]
                  exact ⟨rfl, fun h => absurd h (by simp)⟩
                · rw [hbl]
                  exact hmid) ((RQ.out).chg.size)
              rw [hbl] at hcl
              have HBE := Lib.hid hb
              have HBL := Lib.hid hbl
              have HO1 := Lib.hid (RQ.out).log.own
              have hgw := Lib.hid ((RQ.out).log.lt g (RQ.out).log.kg)
              have hrs : rs.length ≤ 65536 := by have h1 := (RQ.out).log.few; have h2 := (RQ.out).log.fin; have h3 := (RQ.out).log.half; have h4 := (RQ.out).log.len; simp only at h1 h2 h3 h4; omega
              have hyy : e + 5 + y - (e + 5) = y := by omega
              have s1 : IntKind.i64.wrap ((e : Int) + 5 + (y : Int)) = (e : Int) + 5 + (y : Int) := by rw [IntKind.wrap_i64]; omega
              have s2 : ((e : Int) + 5).toNat = e + 5 := by omega
              have s3 : ((e : Int) + 5 + (y : Int)).toNat = e + 5 + y := by omega
              have t1 : 0 ≤ (e : Int) + 5 + (y : Int) := by omega
              have t2 : (e : Int) + 5 + (y : Int) ≤ (c : Int) := by omega
              have t3 : 0 ≤ (e : Int) + 5 := by omega
              have t6 : (e : Int) + 5 ≤ (e : Int) + 5 + (y : Int) := by omega
              have t4 : (e : Int) + 5 ≤ max ((e : Int) + 5 + (y : Int)) 0 := by omega
              by_cases hce : c = e + 5
              · have t5 : (e : Int) + 5 + (y : Int) ≤ (e : Int) + 5 := by omega
                rw [if_pos hce] at hcl
                replace hce : (c = e + 5) = True := eq_true hce
                have HCL := Lib.hid hcl
                clear hcl hmid hb hbl hi0 hz0 hz1 hz2
                go_wp2_with fail
                go_region_law (first
                  | (refine step_call rfl 34 _ _ rfl Try.func34 (by kernel_rfl) (by kernel_rfl) #[.slice (some ⟨ab, ao, none⟩) y (c - (e + 5))] (by first | (simp [Act.eval]; done) | (simp [Act.eval, Act.put]; done) | (simp [Act.eval, Act.put, hce]; done)) HCL.out ?_; rintro e' w2 ⟨A2, q2, rfl, hr2, hA2, hcp2, hb2'⟩; refine ⟨_, rfl, ?_⟩; have hb2 : Below wq.heap.size wq w2 := ⟨hb2'.os, hb2'.tape, hb2'.output, hb2'.size, hb2'.block⟩; have hk2 := (RQ.out).log.blk.below hb2 (RQ.out).log.blk.lt; have k2 : w2.cell? ⟨g, 4, none⟩ = some (.slice Av rs.length cv) := (by rw [hk2.cell]; rfl); have hlt2 : g < w2.heap.size := hk2.lt; have HB2 := Lib.hid hb2; have HR2 := Lib.hid hr2; have HA2 := Lib.hid hA2; have HO2 := Lib.hid (owns_below HO1.out hb2 (own_lt HO1.out)); clear hr2 hA2 hb2 hb2' hk2 hcp2)
                  | (refine step_append_row _ rfl (.tmp 68) (.tmp 76) 35 35 rfl 0 32 i0 (.slice none 0 0) 1 24 Try.underlying35 HI0.out HZ0.out HZ1.out HZ2.out rfl (by decide) (.slice Av rs.length cv) rs.length (rs.flatMap rcell) (by simp [Act.eval]) (HO2.out.alloc _) (.slice (some ⟨w2.heap.size, 0, none⟩) 1 1) 1 [.slice A2 b.length q2] (by simp [Act.eval]) (src_new w2 Try.underlying35 [.slice A2 b.length q2] 1 1 1 32 rfl (by intro u hu; simp at hu; subst hu; rfl)) (by unfold maxLen; omega) (by omega) (by omega) ?_; intro v3 w3 hown3 hg3; obtain ⟨A3, q3, rfl, -, -⟩ := reads_of_owns hown3; have hk3 := hg3.blk (((RQ.out).log.blk.below HB2.out (RQ.out).log.blk.lt).alloc _) (own_blk_ne HO1.out (RQ.out).log.blk (by decide)); have k3 : w3.cell? ⟨g, 4, none⟩ = some (.slice Av rs.length cv) := (by rw [hk3.cell]; rfl); have l3 := hk3.frozen 4; have k33 : w3.cell? ⟨g, 3, none⟩ = some (.int .i64 (e : Int)) := (by rw [hk3.cell]; rfl); have l33 := hk3.frozen 3; have HO3 := Lib.hid hown3; have HG3 := Lib.hid hg3; clear hown3 hg3 hk3))
                all_goals
                  have hP := rec_push (fin' := e + 5 + y) (RQ.out).log (HB2.out) (HR2.out) (fun ad ha => ((HA2.out) ad ha).1) (hbb.out) (by rw [HBL.out]; omega) (HG3.out) (HO3.out) (by show e + 5 ≤ e + 5 + y; omega) (by show e + 5 + y ≤ l.half; have := HLEN.out; have := HN.out; omega)
                  have hcast : ((e + 5 + y : Nat) : Int) = (e : Int) + 5 + (y : Int) := by omega
                  rw [hcast, HBE.out] at hP
                  have R3 := Lib.hid ((RQ.out).push ⟨by rw [HN.out]; exact h5, HGX.out⟩ (HY4.out) (by rw [HN.out]; exact hlong) hP)
                  have cF := (R3.out).log.blk.cell 3
                  simp only [List.getElem?_toArray, List.getElem?_cons_succ, List.getElem?_cons_zero] at cF
                  have CF := Lib.hid cF
                  clear hP cF HO3 HG3 HB2 HR2 HA2 HO2 RQ HRQ HCL
                  go_wp2_with fail
                  go_roundw
                  case rel => exact ⟨k - 1, e + 5 + y, _, _, _, _, R3.out⟩
                  case measure =>
                    rw [CF.out, C3.out]
                    simp only [Option.getD_some, intOf]
                    omega
              · rw [if_neg hce] at hcl
                have HCL := Lib.hid hcl
                clear hcl hmid hb hbl hi0 hz0 hz1 hz2
                go_wp2_with fail
                go_region_law (first
                  | (refine step_call rfl 34 _ _ rfl Try.func34 (by kernel_rfl) (by kernel_rfl) #[.slice (some ⟨ab, ao + (e + 5), none⟩) y (c - (e + 5))] (by first | (simp [Act.eval]; done) | (simp [Act.eval, Act.put]; done) | (simp [Act.eval, Act.put, hce]; done)) HCL.out ?_; rintro e' w2 ⟨A2, q2, rfl, hr2, hA2, hcp2, hb2'⟩; refine ⟨_, rfl, ?_⟩; have hb2 : Below wq.heap.size wq w2 := ⟨hb2'.os, hb2'.tape, hb2'.output, hb2'.size, hb2'.block⟩; have hk2 := (RQ.out).log.blk.below hb2 (RQ.out).log.blk.lt; have k2 : w2.cell? ⟨g, 4, none⟩ = some (.slice Av rs.length cv) := (by rw [hk2.cell]; rfl); have hlt2 : g < w2.heap.size := hk2.lt; have HB2 := Lib.hid hb2; have HR2 := Lib.hid hr2; have HA2 := Lib.hid hA2; have HO2 := Lib.hid (owns_below HO1.out hb2 (own_lt HO1.out)); clear hr2 hA2 hb2 hb2' hk2 hcp2)
                  | (refine step_append_row _ rfl (.tmp 68) (.tmp 76) 35 35 rfl 0 32 i0 (.slice none 0 0) 1 24 Try.underlying35 HI0.out HZ0.out HZ1.out HZ2.out rfl (by decide) (.slice Av rs.length cv) rs.length (rs.flatMap rcell) (by simp [Act.eval]) (HO2.out.alloc _) (.slice (some ⟨w2.heap.size, 0, none⟩) 1 1) 1 [.slice A2 b.length q2] (by simp [Act.eval]) (src_new w2 Try.underlying35 [.slice A2 b.length q2] 1 1 1 32 rfl (by intro u hu; simp at hu; subst hu; rfl)) (by unfold maxLen; omega) (by omega) (by omega) ?_; intro v3 w3 hown3 hg3; obtain ⟨A3, q3, rfl, -, -⟩ := reads_of_owns hown3; have hk3 := hg3.blk (((RQ.out).log.blk.below HB2.out (RQ.out).log.blk.lt).alloc _) (own_blk_ne HO1.out (RQ.out).log.blk (by decide)); have k3 : w3.cell? ⟨g, 4, none⟩ = some (.slice Av rs.length cv) := (by rw [hk3.cell]; rfl); have l3 := hk3.frozen 4; have k33 : w3.cell? ⟨g, 3, none⟩ = some (.int .i64 (e : Int)) := (by rw [hk3.cell]; rfl); have l33 := hk3.frozen 3; have HO3 := Lib.hid hown3; have HG3 := Lib.hid hg3; clear hown3 hg3 hk3))
                all_goals
                  have hP := rec_push (fin' := e + 5 + y) (RQ.out).log (HB2.out) (HR2.out) (fun ad ha => ((HA2.out) ad ha).1) (hbb.out) (by rw [HBL.out]; omega) (HG3.out) (HO3.out) (by show e + 5 ≤ e + 5 + y; omega) (by show e + 5 + y ≤ l.half; have := HLEN.out; have := HN.out; omega)
                  have hcast : ((e + 5 + y : Nat) : Int) = (e : Int) + 5 + (y : Int) := by omega
                  rw [hcast, HBE.out] at hP
                  have R3 := Lib.hid ((RQ.out).push ⟨by rw [HN.out]; exact h5, HGX.out⟩ (HY4.out) (by rw [HN.out]; exact hlong) hP)
                  have cF := (R3.out).log.blk.cell 3
                  simp only [List.getElem?_toArray, List.getElem?_cons_succ, List.getElem?_cons_zero] at cF
                  have CF := Lib.hid cF
                  clear hP cF HO3 HG3 HB2 HR2 HA2 HO2 RQ HRQ HCL
                  go_wp2_with fail
                  go_roundw
                  case rel => exact ⟨k - 1, e + 5 + y, _, _, _, _, R3.out⟩
                  case measure =>
                    rw [CF.out, C3.out]
                    simp only [Option.getD_some, intOf]
                    omega
            · have dl : decide ((n : Int) - (e : Int) - 5 < (y : Int)) = true := by simp; omega
              have HS := Lib.hid (scan_long (l := ar) (k := k) (e := e) (by rw [hy4, HN.out]; exact hlong))
              clear hy4
              go_wp2_with fail
              go_end0
              exact ((RR.out).drewN q).done (HS.out)
      · have d1 : ((x : Int) == 1) = false := by simp; omega
        have HS := Lib.hid (scan_stop (l := ar) (k := k) (e := e) (by rw [hgx]; exact fun h => h1 h.2))
        clear HRW hgx
        go_wp2_with fail
        go_end0
        exact (RR.out).done (HS.out)
    · have d5 : decide ((5 : Int) ≤ (n : Int) - (e : Int)) = false := by simp; omega
      have HS := Lib.hid (scan_stop (l := ar) (k := k) (e := e) (by rw [HN.out]; exact fun h => h5 h.1))
      go_wp2_with fail
      go_end0
      exact (RR.out).done (HS.out)
end Go.Proofs.Ytnjafhlpnoikcaa
