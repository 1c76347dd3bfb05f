/-
  Bytes, the program's. Bytes, the program's: the walk. No condition.
-/
import Derived.Test.YtdabmjcpiblofaaDoorPkWb
import Derived.Test.YtdabmjcpiblofaaDoorPkH
namespace Go.Proofs.YtdabmjcpiblofaaDoor
open Go.RowKit
set_option linter.unusedVariables false

/-- the bytes of a node, of a pack -/
def encN (x : PN) : List Nat := encI x.1 ++ (encT x.2.1 ++ (encI (x.2.2.1.length : Int) ++ (x.2.2.1.flatMap encT ++ encL x.2.2.2)))
def encP (ns : List PN) (rs : List Int) : List Nat := encI (ns.length : Int) ++ (ns.flatMap encN ++ encL rs)
/-- bytes in a row of one's own -/
abbrev Acc (w : World) (base : Nat) (v : Value) (bs : List Nat) : Prop := w.ownsRow base 5 1 v bs.length (bs.map byt)
theorem acc_app {w : World} {base : Nat} {v : Value} {bs new : List Nat} (h : w.ownsRow base 5 1 v (bs.length + new.length) (bs.map byt ++ new.map byt)) : Acc w base v (bs ++ new) := by
  unfold Acc
  rw [List.length_append, List.map_append]; exact h
def AccPost (w : World) (base : Nat) (v : Value) (bs : List Nat) (e : Ending) (w' : World) : Prop := ∃ A c, e = .returned (.slice A bs.length c) ∧ Acc w' base (.slice A bs.length c) bs ∧ Grows w w' v (.slice A bs.length c)
theorem flat_succ {α : Type} (f : α → List Nat) {l : List α} {j : Nat} {x : α} (h : l[j]? = some x) : (l.take (j + 1)).flatMap f = (l.take j).flatMap f ++ f x := by
  rw [take_snoc' h, List.flatMap_append]; simp
theorem flat_len_le {α : Type} (f : α → List Nat) {l : List α} {j : Nat} {x : α} (h : l[j]? = some x) : ((l.take j).flatMap f).length + (f x).length ≤ (l.flatMap f).length := by
  obtain ⟨hlt, rfl⟩ := List.getElem?_eq_some_iff.1 h
  have e : l.flatMap f = (l.take j).flatMap f ++ (f l[j] ++ (l.drop (j + 1)).flatMap f) := by
    rw [← List.flatMap_cons (f := f), ← List.flatMap_append, ← List.drop_eq_getElem_cons hlt, List.take_append_drop]
  rw [e, List.length_append, List.length_append]; omega
theorem own_none {w : World} {base : Nat} : Acc w base (.slice none 0 0) [] := ⟨rfl, .inl ⟨rfl, rfl⟩⟩

set_option maxRecDepth 100000 in
set_option maxHeartbeats 1600000 in
theorem appendInts_any (base : Nat) (A1 : Option Addr) (c1 : Nat) (bs : List Nat) (A : Option Addr) (c B : Nat) (l : List Int) (w : World) (hacc : Acc w base (.slice A1 bs.length c1) bs) (hbase : base ≤ w.heap.size) (hr : Reads w B 1 A l.length (l.map (Value.int .i64))) (hB : B ≤ base) (hl : ∀ x ∈ l, inI64 x) (hll : l.length ≤ 1000000) (hsz : bs.length + (encL l).length ≤ 800000000) :
    Calls Tryd.prog 53 #[.slice A1 bs.length c1, .slice A l.length c] w (AccPost w base (.slice A1 bs.length c1) (bs ++ encL l)) := by
  obtain ⟨i0, hi, hz0, hz1, hz2⟩ := info_parts u8_info
  obtain ⟨n, hn⟩ : ∃ n, l.length = n := ⟨_, rfl⟩
  have hel : (encL l).length = (encI (n : Int)).length + (l.flatMap encI).length := by unfold encL; rw [List.length_append, hn]
  rw [hn] at hr hll ⊢
  have hlen := encI_nat (n := n) (by omega)
  have HC := Lib.hid (int_any none 0 0 [] (n : Int) w (by omega) Reads.none_ (by omega) (by omega))
  have HI := Lib.hid hi
  have HZ0 := Lib.hid hz0
  have HZ1 := Lib.hid hz1
  have HZ2 := Lib.hid hz2
  have HA := Lib.hid hacc
  have HR := Lib.hid hr
  have HN := Lib.hid hn
  have HL := Lib.hid hl
  have HEL := Lib.hid hel
  have hbg := own_from hacc
  have hbl := own_lt hacc
  clear hi hz0 hz1 hz2 hacc hr hn hl hel
  go_enter Tryd.func53, Tryd.ntmps53
  go_wp2_with fail
  refine (HC.out).mono ?_
  rintro e w1 ⟨v1, rfl, hown1, hb1⟩
  obtain ⟨A2, c2, rfl, hr2⟩ := new_reads hown1
  rw [List.nil_append] at hr2 ⊢
  have HA1 : Hid (Acc w1 base (.slice A1 bs.length c1) bs) := owns_below HA.out hb1 hbl
  have HB1 := Lib.hid hb1
  have HR2 := Lib.hid hr2
  have hz1' := hb1.size
  have hsz2 := HEL.out
  rw [hsz2] at hsz
  clear hown1 hb1 hr2 hsz2 HC
  go_wp2_with (at_builtin; refine wpList_append_row _ rfl (.tmp 7) (.tmp 10) 54 54 rfl base 5 i0 (.int .u8 0) 1 1 Tryd.underlying54 HI.out HZ0.out HZ1.out HZ2.out rfl (by decide) (.slice A1 bs.length c1) bs.length (bs.map byt) rfl HA1.out (.slice A2 (encI (n : Int)).length c2) (encI (n : Int)).length ((encI (n : Int)).map byt) rfl (src_reads _ Tryd.underlying54 c2 HR2.out (byt_one _)) ?c1 ?c2 ?c3 ?_)
  case c1 => unfold maxLen; omega
  case c2 => omega
  case c3 => omega
  intro v2 w2 hown2 hg2
  obtain ⟨A3, c3, rfl, -, -⟩ := reads_of_owns hown2
  obtain ⟨p0, hp0⟩ : ∃ p0, bs ++ encI (n : Int) = p0 := ⟨_, rfl⟩
  have hl0 : bs.length + (encI (n : Int)).length = p0.length := by rw [← hp0, List.length_append]
  have hown3 : Acc w2 base (.slice A3 p0.length c3) p0 := by rw [← hp0]; rw [← hp0, List.length_append] at *; exact acc_app hown2
  rw [hl0]
  rw [hl0] at hg2
  have HG2 : Hid (Grows w w2 (.slice A1 bs.length c1) (.slice A3 p0.length c3)) := (Grows.of_below _ HB1.out).trans hg2
  have HA3 := Lib.hid hown3
  have HP0 := Lib.hid hp0
  have hb2 : base ≤ w2.heap.size := by have := HG2.out.size; omega
  clear hown2 hg2 hown3 hp0
  go_wp2_with fail
  go_loopw [0, 14] (fun b i wr => ∃ (j : Nat) (A' : Option Addr) (c' : Nat) (pre : List Nat), j ≤ n ∧ i = .int .i64 (j : Int) ∧ b = .slice A' pre.length c' ∧ Hid (pre = p0 ++ (l.take j).flatMap encI) ∧ Hid (Acc wr base (.slice A' pre.length c') pre) ∧ Hid (Grows w wr (.slice A1 bs.length c1) (.slice A' pre.length c'))) (fun _ i _ => n - (intOf i).toNat)
  case atStart => exact ⟨0, A3, c3, p0, by omega, rfl, rfl, (by show p0 = _; simp), HA3, HG2⟩
  case round =>
    obtain ⟨j, A', c', pre, hj, rfl, rfl, HP, HAC, HG⟩ := hrel
    have hbr := HG.out.size
    by_cases hlt : j < n
    · obtain ⟨x, hx⟩ : ∃ x, l[j]? = some x := ⟨_, List.getElem?_eq_getElem (by rw [HN.out]; exact hlt)⟩
      obtain ⟨b1, o1, u1, rfl, -, hu1, g1⟩ := ((HR.out.grown HG.out.grown (by omega) (fun g hg => by have := hbg g hg; omega))).at1 hlt
      obtain rfl : u1 = .int .i64 x := by rw [List.getElem?_map, hx] at hu1; simpa using hu1.symm
      have hxl := HL.out x (List.mem_of_getElem? hx)
      have hxe := encI_len' hxl
      have HC := Lib.hid (int_any none 0 0 [] x wr (by omega) Reads.none_ hxl.1 hxl.2)
      have hle := flat_len_le encI hx
      have hpl : pre.length = p0.length + ((l.take j).flatMap encI).length := by rw [HP.out, List.length_append]
      have hb3 : pre.length + (encI x).length ≤ 800000000 := by omega
      have HNX : Hid (pre ++ encI x = p0 ++ (l.take (j + 1)).flatMap encI) := by
        unfold Hid
        rw [HP.out, flat_succ encI hx, List.append_assoc]
      clear hx hu1 hxl hle hpl hl0
      go_wp2_with fail
      refine (HC.out).mono ?_
      rintro e w3 ⟨v3, rfl, hown3, hb3'⟩
      obtain ⟨A4, c4, rfl, hr4⟩ := new_reads hown3
      rw [List.nil_append] at hr4 ⊢
      have HA4 : Hid (Acc w3 base (.slice A' pre.length c') pre) := owns_below HAC.out hb3' (own_lt HAC.out)
      have HB4 := Lib.hid hb3'
      have HR4 := Lib.hid hr4
      have hz3 := hb3'.size
      clear hown3 hb3' hr4 HC
      go_wp2_with (at_builtin; refine wpList_append_row _ rfl (.tmp 18) (.tmp 20) 54 54 rfl base 5 i0 (.int .u8 0) 1 1 Tryd.underlying54 HI.out HZ0.out HZ1.out HZ2.out rfl (by decide) (.slice A' pre.length c') pre.length (pre.map byt) rfl HA4.out (.slice A4 (encI x).length c4) (encI x).length ((encI x).map byt) rfl (src_reads _ Tryd.underlying54 c4 HR4.out (byt_one _)) ?c1 ?c2 ?c3 ?_)
      case c1 => unfold maxLen; omega
      case c2 => omega
      case c3 => omega
      intro v5 w5 hown5 hg5
      obtain ⟨A5, c5, rfl, -, -⟩ := reads_of_owns hown5
      obtain ⟨p5, hp5⟩ : ∃ p5, pre ++ encI x = p5 := ⟨_, rfl⟩
      have hl5 : pre.length + (encI x).length = p5.length := by rw [← hp5, List.length_append]
      have hac5 := acc_app hown5
      rw [hp5] at hac5
      rw [hl5] at hg5 hac5 ⊢
      have HG5 : Hid (Grows w w5 (.slice A1 bs.length c1) (.slice A5 p5.length c5)) := HG.out.trans ((Grows.of_below _ HB4.out).trans hg5)
      have HA5 := Lib.hid hac5
      have HP5 : Hid (p5 = p0 ++ (l.take (j + 1)).flatMap encI) := by rw [← hp5]; exact HNX
      clear hown5 hg5 hac5 hp5 hl5
      go_wp2_with fail
      go_roundw
      case rel => exact ⟨j + 1, A5, c5, p5, by omega, by go_num, rfl, HP5, HA5, HG5⟩
      case measure => simp [intOf]; omega
    · have HE : Hid (pre = bs ++ encL l) := by
        unfold Hid
        rw [HP.out, ← HP0.out, List.take_of_length_le (by rw [HN.out]; omega)]
        unfold encL
        rw [HN.out, List.append_assoc]
      have HE2 : Hid (AccPost w base (.slice A1 bs.length c1) (bs ++ encL l) (.returned (.slice A' pre.length c')) wr) := ⟨A', c', by rw [HE.out], by rw [← HE.out]; exact HAC.out, by rw [← HE.out]; exact HG.out⟩
      go_wp2_with fail
      go_ret
      exact HE2.out
end Go.Proofs.YtdabmjcpiblofaaDoor

namespace Go.Proofs.YtdabmjcpiblofaaDoor
open Go.RowKit
set_option linter.unusedVariables false

theorem encN_len (x : PN) : (encN x).length = (encI x.1).length + (encT x.2.1).length + (encI (x.2.2.1.length : Int)).length + (x.2.2.1.flatMap encT).length + (encL x.2.2.2).length := by
  unfold encN; simp only [List.length_append]; omega
theorem encP_len (ns : List PN) (rs : List Int) : (encP ns rs).length = (encI (ns.length : Int)).length + (ns.flatMap encN).length + (encL rs).length := by
  unfold encP; simp only [List.length_append]; omega
theorem encT_ge (s : ByteArray) : s.size ≤ (encT s).length := by unfold encT; rw [List.length_append, txt_len]; omega
theorem encT_pos (s : ByteArray) : 1 ≤ (encT s).length := by
  unfold encT encI; rw [List.length_append]; have := encU_pos (zig (s.size : Int)); omega
theorem flatT_ge : ∀ (l : List ByteArray), l.length ≤ (l.flatMap encT).length
  | [] => Nat.zero_le _
  | x :: xs => by
    have := flatT_ge xs
    have := encT_pos x
    rw [List.flatMap_cons, List.length_append, List.length_cons]; omega
def BytesPost (w : World) (bs : List Nat) (e : Ending) (w' : World) : Prop := ∃ A c, e = .returned (.slice A bs.length c) ∧ Reads w' w'.heap.size 1 A bs.length (bs.map byt) ∧ Below w.heap.size w w' ∧ Acc w' w.heap.size (.slice A bs.length c) bs
set_option maxRecDepth 100000 in
set_option maxHeartbeats 8000000 in
theorem bytes_any (v : PkV) (w : World) (h : v.ok w w.heap.size) (hsz : (encP v.ns v.rs).length ≤ 700000000) : Calls Tryd.prog 31 #[v.val] w (BytesPost w (encP v.ns v.rs)) := by
  obtain ⟨i0, hi, hz0, hz1, hz2⟩ := info_parts u8_info
  obtain ⟨n, hn⟩ : ∃ n, v.ps.length = n := ⟨_, rfl⟩
  obtain ⟨m, hm⟩ : ∃ m, v.rs.length = m := ⟨_, rfl⟩
  obtain ⟨nA, hnA⟩ : ∃ a, v.nA = a := ⟨_, rfl⟩
  obtain ⟨base, hbase⟩ : ∃ b, w.heap.size = b := ⟨_, rfl⟩
  have hnl := h.nl
  have hrl := h.rl
  rw [hn] at hnl
  rw [hm] at hrl
  have hval : v.val = .agg #[.slice nA n v.nc, .slice v.rA m v.rc] := by unfold PkV.val; rw [hn, hm, hnA]
  rw [hval]
  have hel := encP_len v.ns v.rs
  rw [hel, v.ns_len, hn] at hsz
  obtain ⟨W, hW⟩ : ∃ W, w.alloc (.cells #[.slice nA n v.nc, .slice v.rA m v.rc] 29) = W := ⟨_, rfl⟩
  have HBX : Hid (Blk W w.heap.size 29 #[.slice nA n v.nc, .slice v.rA m v.rc]) := by subst hW; exact Blk.new w _ _
  have HBW : Hid (Below w.heap.size w W) := by subst hW; exact bal (Below.refl _ w) _
  have c0 := HBX.out.cell 0
  have c1 := HBX.out.cell 1
  simp at c0 c1
  have hlen := encI_nat (n := n) (by omega)
  have HC := Lib.hid (int_any none 0 0 [] (n : Int) W (by omega) Reads.none_ (by omega) (by omega))
  have HI := Lib.hid hi
  have HZ0 := Lib.hid hz0
  have HZ1 := Lib.hid hz1
  have HZ2 := Lib.hid hz2
  have H := Lib.hid h
  have HN := Lib.hid hn
  have HM := Lib.hid hm
  have HNA := Lib.hid hnA
  have HBASE := Lib.hid hbase
  clear hi hz0 hz1 hz2 h hn hm hnA hval hel hbase
  go_enter Tryd.func31, Tryd.ntmps31
  go_wp2_with fail
  refine (HC.out).mono ?_
  rintro e w1 ⟨v1, rfl, hown1, hb1⟩
  rw [List.nil_append] at hown1
  have hown1' : Acc w1 base v1 (encI (n : Int)) := owns_up hown1 (fun g hg => by have := own_from hown1 g hg; have := HBW.out.size; have := HBASE.out; omega)
  have HW := Lib.hid hW
  obtain ⟨A1, k1, rfl, -, -⟩ := reads_of_owns hown1'
  obtain ⟨p1, hp1⟩ : ∃ p1, encI (n : Int) = p1 := ⟨_, rfl⟩
  rw [hp1] at hown1' hlen hsz ⊢
  have HA1 := Lib.hid hown1'
  have HP1 := Lib.hid hp1
  have HB1 : Hid (Below w.heap.size w w1) := HBW.out.trans (hb1.mono HBW.out.size)
  have HBX1 : Hid (Blk w1 w.heap.size 29 #[.slice nA n v.nc, .slice v.rA m v.rc]) := HBX.out.below hb1 HBX.out.lt
  have c0 := HBX1.out.cell 0
  have c1 := HBX1.out.cell 1
  simp at c0 c1
  clear hown1 hown1' hp1 hb1 HC hW
  go_wp2_with fail
  clear c0 c1
  go_loopw [3, 15] (fun b i wr => ∃ (j : Nat) (A' : Option Addr) (c' : Nat) (pre : List Nat), j ≤ n ∧ i = .int .i64 (j : Int) ∧ b = .slice A' pre.length c' ∧ Hid (pre = p1 ++ (v.ns.take j).flatMap encN) ∧ Hid (Acc wr base (.slice A' pre.length c') pre) ∧ Hid (Below w.heap.size w wr) ∧ Hid (Blk wr w.heap.size 29 #[.slice nA n v.nc, .slice v.rA m v.rc])) (fun _ i _ => n - (intOf i).toNat)
  case atStart => exact ⟨0, A1, k1, p1, by omega, rfl, rfl, (by show p1 = _; simp), HA1, HB1, HBX1⟩
  case round =>
    obtain ⟨j, A', c', pre, hj, rfl, rfl, HP, HAC, HB, HBX2⟩ := hrel
    obtain ⟨wo, rfl⟩ : ∃ wo : World, wo = wr := ⟨_, rfl⟩
    have hzo := HB.out.size
    have c0 := HBX2.out.cell 0
    have c1 := HBX2.out.cell 1
    simp at c0 c1
    by_cases hlt : j < n
    · obtain ⟨p, hp⟩ : ∃ p, v.ps[j]? = some p := ⟨_, List.getElem?_eq_getElem (by rw [HN.out]; exact hlt)⟩
      obtain ⟨ab, ao, hA, hab, e0, e1, e2, e3⟩ := (H.out.low HB.out).at_ hp
      obtain rfl : nA = some ⟨ab, ao, none⟩ := HNA.out.symm.trans hA
      have HPO := Lib.hid (H.out.each p (List.mem_of_getElem? hp))
      have hnj := v.ns_at hp
      have hle := flat_len_le encN hnj
      have hpl : pre.length ≤ p1.length + ((v.ns.take j).flatMap encN).length := by rw [HP.out, List.length_append]; exact Nat.le_refl _
      have hnlen := encN_len p.plain
      have HNX : Hid (pre ++ encN p.plain = p1 ++ (v.ns.take (j + 1)).flatMap encN) := by
        unfold Hid
        rw [HP.out, flat_succ encN hnj, List.append_assoc]
      obtain ⟨ln, hln⟩ : ∃ ln, p.leads.length = ln := ⟨_, rfl⟩
      obtain ⟨lA, hlA⟩ : ∃ lA, p.lA = lA := ⟨_, rfl⟩
      have HLA := Lib.hid hlA
      rw [hlA] at e2
      have hpn : (encN p.plain).length = (encI p.kind).length + (encT p.text).length + (encI (ln : Int)).length + (p.leads.flatMap encT).length + (encL p.kids).length := by rw [← hln]; exact hnlen
      rw [hpn] at hle
      have htx := encT_ge p.text
      have hkr := HPO.out.kind
      have hll := HPO.out.ll
      have hkl := HPO.out.kl
      have hlf := flatT_ge p.leads
      rw [hln] at e2 hll hlf
      have HLN := Lib.hid hln
      obtain ⟨wk, hwk⟩ : ∃ wk, wo.alloc (.cells #[.int .i64 p.kind, .string p.text, .slice lA ln p.lc, .slice p.kA p.kids.length p.kc] 48) = wk := ⟨_, rfl⟩
      have HBK : Hid (Blk wk wo.heap.size 48 #[.int .i64 p.kind, .string p.text, .slice lA ln p.lc, .slice p.kA p.kids.length p.kc]) := by subst hwk; exact Blk.new wo _ _
      have HBPK : Hid (Blk wk w.heap.size 29 #[.slice (some ⟨ab, ao, none⟩) n v.nc, .slice v.rA m v.rc]) := by subst hwk; exact HBX2.out.alloc _
      have HACK : Hid (Acc wk base (.slice A' pre.length c') pre) := by subst hwk; exact HAC.out.alloc _
      have HBEK : Hid (Below w.heap.size w wk) := by subst hwk; exact bal HB.out _
      have f0 := HBK.out.cell 0
      have f1 := HBK.out.cell 1
      have f2 := HBK.out.cell 2
      have f3 := HBK.out.cell 3
      simp at f0 f1 f2 f3
      have hzk := HBEK.out.size
      have hbs : base ≤ w.heap.size ∧ w.heap.size ≤ base := by have := HBASE.out; omega
      have HP' := Lib.hid hp
      have hl10 := encI_nat (n := ln) (by omega)
      clear hp hA hnj hln hlA hnlen hpn
      have HC2 := Lib.hid (int_any none 0 0 [] p.kind wk (by omega) Reads.none_ hkr.1 hkr.2)
      go_wp2_with fail
      refine (HC2.out).mono ?_
      rintro e x2 ⟨y2, rfl, hown2, hbb2⟩
      obtain ⟨B2, d2, rfl, hr2⟩ := new_reads hown2
      rw [List.nil_append] at hr2 ⊢
      have HX2 : Hid (Acc x2 base (.slice A' pre.length c') pre) := owns_below HACK.out hbb2 (own_lt HACK.out)
      have HBB2 : Hid (Below w.heap.size w x2) := HBEK.out.trans (hbb2.mono HBEK.out.size)
      have HRR2 := Lib.hid hr2
      have HKx2 := Lib.hid (HBK.out.below hbb2 HBK.out.lt)
      have HQx2 := Lib.hid (HBPK.out.below hbb2 HBPK.out.lt)
      have hzx2 := HBB2.out.size
      clear hown2 hbb2 hr2 HC2
      go_wp2_with (at_builtin; refine wpList_append_row _ rfl (.tmp 19) (.tmp 22) 54 54 rfl base 5 i0 (.int .u8 0) 1 1 Tryd.underlying54 HI.out HZ0.out HZ1.out HZ2.out rfl (by decide) (.slice A' pre.length c') pre.length (pre.map byt) rfl HX2.out (.slice B2 (encI p.kind).length d2) (encI p.kind).length ((encI p.kind).map byt) rfl (src_reads _ Tryd.underlying54 d2 HRR2.out (byt_one _)) ?c1 ?c2 ?c3 ?_)
      case c1 => unfold maxLen; omega
      case c2 => omega
      case c3 => omega
      intro v2 w2 hown2 hg2
      obtain ⟨A2, c2, rfl, -, -⟩ := reads_of_owns hown2
      obtain ⟨p2, hp2⟩ : ∃ p2, pre ++ encI p.kind = p2 := ⟨_, rfl⟩
      have hl2 : pre.length + (encI p.kind).length = p2.length := by rw [← hp2, List.length_append]
      have hac2 := acc_app hown2
      rw [hp2] at hac2
      rw [hl2] at hg2 hac2 ⊢
      have HA2 := Lib.hid hac2
      have HB2 : Hid (Below w.heap.size w w2) := HBB2.out.grown hg2.grown HBB2.out.size (fun g hg => by have := own_from HX2.out g hg; omega)
      have HK2 := Lib.hid (hg2.blk HKx2.out (own_blk_ne HX2.out HKx2.out (by decide)))
      have HQ2 := Lib.hid (hg2.blk HQx2.out (own_blk_ne HX2.out HQx2.out (by decide)))
      have HP2 := Lib.hid hp2
      have hm2 : p2.length ≤ pre.length + (encI p.kind).length := Nat.le_of_eq hl2.symm
      clear hown2 hg2 hac2 hp2 hl2
      have HWK := Lib.hid hwk
      clear f0 f1 f2 f3 hwk e0 e1 e2 e3
      have f0 := HK2.out.cell 0
      have f1 := HK2.out.cell 1
      have f2 := HK2.out.cell 2
      have f3 := HK2.out.cell 3
      simp at f0 f1 f2 f3
      have HC3 := Lib.hid (wtext_any none 0 0 [] p.text w2 (by omega) Reads.none_)
      go_wp2_with fail
      refine (HC3.out).mono ?_
      rintro e x3 ⟨y3, rfl, hown3, hbb3⟩
      obtain ⟨B3, d3, rfl, hr3⟩ := new_reads hown3
      rw [List.nil_append] at hr3 ⊢
      have HX3 : Hid (Acc x3 base (.slice A2 p2.length c2) p2) := owns_below HA2.out hbb3 (own_lt HA2.out)
      have HBB3 : Hid (Below w.heap.size w x3) := HB2.out.trans (hbb3.mono HB2.out.size)
      have HRR3 := Lib.hid hr3
      have HKx3 := Lib.hid (HK2.out.below hbb3 HK2.out.lt)
      have HQx3 := Lib.hid (HQ2.out.below hbb3 HQ2.out.lt)
      have hzx3 := HBB3.out.size
      clear hown3 hbb3 hr3 HC3
      go_wp2_with (at_builtin; refine wpList_append_row _ rfl (.tmp 24) (.tmp 27) 54 54 rfl base 5 i0 (.int .u8 0) 1 1 Tryd.underlying54 HI.out HZ0.out HZ1.out HZ2.out rfl (by decide) (.slice A2 p2.length c2) p2.length (p2.map byt) rfl HX3.out (.slice B3 (encT p.text).length d3) (encT p.text).length ((encT p.text).map byt) rfl (src_reads _ Tryd.underlying54 d3 HRR3.out (byt_one _)) ?c1 ?c2 ?c3 ?_)
      case c1 => unfold maxLen; omega
      case c2 => omega
      case c3 => omega
      intro v3 w3 hown3 hg3
      obtain ⟨A3, c3, rfl, -, -⟩ := reads_of_owns hown3
      obtain ⟨p3, hp3⟩ : ∃ p3, p2 ++ encT p.text = p3 := ⟨_, rfl⟩
      have hl3 : p2.length + (encT p.text).length = p3.length := by rw [← hp3, List.length_append]
      have hac3 := acc_app hown3
      rw [hp3] at hac3
      rw [hl3] at hg3 hac3 ⊢
      have HA3 := Lib.hid hac3
      have HB3 : Hid (Below w.heap.size w w3) := HBB3.out.grown hg3.grown HBB3.out.size (fun g hg => by have := own_from HX3.out g hg; omega)
      have HK3 := Lib.hid (hg3.blk HKx3.out (own_blk_ne HX3.out HKx3.out (by decide)))
      have HQ3 := Lib.hid (hg3.blk HQx3.out (own_blk_ne HX3.out HQx3.out (by decide)))
      have HP3 := Lib.hid hp3
      have hm3 : p3.length ≤ p2.length + (encT p.text).length := Nat.le_of_eq hl3.symm
      clear hown3 hg3 hac3 hp3 hl3
      clear f0 f1 f2 f3
      have f0 := HK3.out.cell 0
      have f1 := HK3.out.cell 1
      have f2 := HK3.out.cell 2
      have f3 := HK3.out.cell 3
      simp at f0 f1 f2 f3
      have HC4 := Lib.hid (int_any none 0 0 [] (ln : Int) w3 (by omega) Reads.none_ (by omega) (by omega))
      go_wp2_with fail
      refine (HC4.out).mono ?_
      rintro e x4 ⟨y4, rfl, hown4, hbb4⟩
      obtain ⟨B4, d4, rfl, hr4⟩ := new_reads hown4
      rw [List.nil_append] at hr4 ⊢
      have HX4 : Hid (Acc x4 base (.slice A3 p3.length c3) p3) := owns_below HA3.out hbb4 (own_lt HA3.out)
      have HBB4 : Hid (Below w.heap.size w x4) := HB3.out.trans (hbb4.mono HB3.out.size)
      have HRR4 := Lib.hid hr4
      have HKx4 := Lib.hid (HK3.out.below hbb4 HK3.out.lt)
      have HQx4 := Lib.hid (HQ3.out.below hbb4 HQ3.out.lt)
      have hzx4 := HBB4.out.size
      clear hown4 hbb4 hr4 HC4
      go_wp2_with (at_builtin; refine wpList_append_row _ rfl (.tmp 29) (.tmp 33) 54 54 rfl base 5 i0 (.int .u8 0) 1 1 Tryd.underlying54 HI.out HZ0.out HZ1.out HZ2.out rfl (by decide) (.slice A3 p3.length c3) p3.length (p3.map byt) rfl HX4.out (.slice B4 (encI (ln : Int)).length d4) (encI (ln : Int)).length ((encI (ln : Int)).map byt) rfl (src_reads _ Tryd.underlying54 d4 HRR4.out (byt_one _)) ?c1 ?c2 ?c3 ?_)
      case c1 => unfold maxLen; omega
      case c2 => omega
      case c3 => omega
      intro v4 w4 hown4 hg4
      obtain ⟨A4, c4, rfl, -, -⟩ := reads_of_owns hown4
      obtain ⟨p4, hp4⟩ : ∃ p4, p3 ++ encI (ln : Int) = p4 := ⟨_, rfl⟩
      have hl4 : p3.length + (encI (ln : Int)).length = p4.length := by rw [← hp4, List.length_append]
      have hac4 := acc_app hown4
      rw [hp4] at hac4
      rw [hl4] at hg4 hac4 ⊢
      have HA4 := Lib.hid hac4
      have HB4 : Hid (Below w.heap.size w w4) := HBB4.out.grown hg4.grown HBB4.out.size (fun g hg => by have := own_from HX4.out g hg; omega)
      have HK4 := Lib.hid (hg4.blk HKx4.out (own_blk_ne HX4.out HKx4.out (by decide)))
      have HQ4 := Lib.hid (hg4.blk HQx4.out (own_blk_ne HX4.out HQx4.out (by decide)))
      have HP4 := Lib.hid hp4
      have hm4 : p4.length ≤ p3.length + (encI (ln : Int)).length := Nat.le_of_eq hl4.symm
      clear hown4 hg4 hac4 hp4 hl4
      clear f0 f1 f2 f3
      have f0 := HK4.out.cell 0
      have f1 := HK4.out.cell 1
      have f2 := HK4.out.cell 2
      have f3 := HK4.out.cell 3
      simp at f0 f1 f2 f3
      have hp4l : p4.length ≤ pre.length + (encI p.kind).length + (encT p.text).length + (encI (ln : Int)).length := by omega
      go_wp2_with fail
      clear f0 f1 f2 f3
      go_loopw [3, 38] (fun b i wr => ∃ (k : Nat) (A' : Option Addr) (c' : Nat) (q : List Nat), k ≤ ln ∧ i = .int .i64 (k : Int) ∧ b = .slice A' q.length c' ∧ Hid (q = p4 ++ (p.leads.take k).flatMap encT) ∧ Hid (Acc wr base (.slice A' q.length c') q) ∧ Hid (Below w.heap.size w wr) ∧ Hid (Blk wr wo.heap.size 48 #[.int .i64 p.kind, .string p.text, .slice lA ln p.lc, .slice p.kA p.kids.length p.kc]) ∧ Hid (Blk wr w.heap.size 29 #[.slice (some ⟨ab, ao, none⟩) n v.nc, .slice v.rA m v.rc])) (fun _ i _ => ln - (intOf i).toNat)
      case atStart => exact ⟨0, A4, c4, p4, by omega, rfl, rfl, (by show p4 = _; simp), HA4, HB4, HK4, HQ4⟩
      case round =>
        obtain ⟨k, A5, c5, q, hk, rfl, rfl, HQP, HA5, HB5, HK5, HQ5⟩ := hrel
        have f0 := HK5.out.cell 0
        have f1 := HK5.out.cell 1
        have f2 := HK5.out.cell 2
        have f3 := HK5.out.cell 3
        simp at f0 f1 f2 f3
        have hz5 := HB5.out.size
        by_cases hlk : k < ln
        · obtain ⟨s, hs⟩ : ∃ s, p.leads[k]? = some s := ⟨_, List.getElem?_eq_getElem (by rw [HLN.out]; exact hlk)⟩
          have hlr := HPO.out.leads.below HB5.out
          rw [HLN.out] at hlr
          obtain ⟨b1, o1, u1, hlA, -, hu1, g1⟩ := hlr.at1 hlk
          obtain rfl : u1 = Value.string s := by rw [List.getElem?_map, hs] at hu1; simpa using hu1.symm
          obtain rfl : lA = some ⟨b1, o1, none⟩ := HLA.out.symm.trans hlA
          have hsle := flat_len_le encT hs
          have hss := encT_ge s
          have hql : q.length ≤ p4.length + ((p.leads.take k).flatMap encT).length := by rw [HQP.out, List.length_append]; exact Nat.le_refl _
          have HQX : Hid (q ++ encT s = p4 ++ (p.leads.take (k + 1)).flatMap encT) := by
            unfold Hid
            rw [HQP.out, flat_succ encT hs, List.append_assoc]
          clear hs hu1 hlA
          have HC6 := Lib.hid (wtext_any none 0 0 [] s wr (by omega) Reads.none_)
          go_wp2_with fail
          refine (HC6.out).mono ?_
          rintro e x6 ⟨y6, rfl, hown6, hbb6⟩
          obtain ⟨B6, d6, rfl, hr6⟩ := new_reads hown6
          rw [List.nil_append] at hr6 ⊢
          have HX6 : Hid (Acc x6 base (.slice A5 q.length c5) q) := owns_below HA5.out hbb6 (own_lt HA5.out)
          have HBB6 : Hid (Below w.heap.size w x6) := HB5.out.trans (hbb6.mono HB5.out.size)
          have HRR6 := Lib.hid hr6
          have HKx6 := Lib.hid (HK5.out.below hbb6 HK5.out.lt)
          have HQx6 := Lib.hid (HQ5.out.below hbb6 HQ5.out.lt)
          have hzx6 := HBB6.out.size
          clear hown6 hbb6 hr6 HC6
          go_wp2_with (at_builtin; refine wpList_append_row _ rfl (.tmp 42) (.tmp 44) 54 54 rfl base 5 i0 (.int .u8 0) 1 1 Tryd.underlying54 HI.out HZ0.out HZ1.out HZ2.out rfl (by decide) (.slice A5 q.length c5) q.length (q.map byt) rfl HX6.out (.slice B6 (encT s).length d6) (encT s).length ((encT s).map byt) rfl (src_reads _ Tryd.underlying54 d6 HRR6.out (byt_one _)) ?c1 ?c2 ?c3 ?_)
          case c1 => unfold maxLen; omega
          case c2 => omega
          case c3 => omega
          intro v6 w6 hown6 hg6
          obtain ⟨A6, c6, rfl, -, -⟩ := reads_of_owns hown6
          obtain ⟨p6, hp6⟩ : ∃ p6, q ++ encT s = p6 := ⟨_, rfl⟩
          have hl6 : q.length + (encT s).length = p6.length := by rw [← hp6, List.length_append]
          have hac6 := acc_app hown6
          rw [hp6] at hac6
          rw [hl6] at hg6 hac6 ⊢
          have HA6 := Lib.hid hac6
          have HB6 : Hid (Below w.heap.size w w6) := HBB6.out.grown hg6.grown HBB6.out.size (fun g hg => by have := own_from HX6.out g hg; omega)
          have HK6 := Lib.hid (hg6.blk HKx6.out (own_blk_ne HX6.out HKx6.out (by decide)))
          have HQ6 := Lib.hid (hg6.blk HQx6.out (own_blk_ne HX6.out HQx6.out (by decide)))
          have HP6 := Lib.hid hp6
          have hm6 : p6.length ≤ q.length + (encT s).length := Nat.le_of_eq hl6.symm
          clear hown6 hg6 hac6 hp6 hl6
          have HP7 : Hid (p6 = p4 ++ (p.leads.take (k + 1)).flatMap encT) := by rw [← HP6.out]; exact HQX
          have HK7 : Hid (Blk w6 wo.heap.size 48 #[.int .i64 p.kind, .string p.text, .slice (some ⟨b1, o1, none⟩) ln p.lc, .slice p.kA p.kids.length p.kc]) := HK6
          clear f0 f1 f2 f3
          go_wp2_with fail
          go_roundw
          case rel => exact ⟨k + 1, A6, c6, p6, by omega, by go_num, rfl, HP7, HA6, HB6, HK7, HQ6⟩
          case measure => simp [intOf]; omega
        · obtain rfl : k = ln := by omega
          have hql : q.length ≤ p4.length + (p.leads.flatMap encT).length := by rw [HQP.out, List.length_append, List.take_of_length_le (by rw [HLN.out]; exact Nat.le_refl _)]; exact Nat.le_refl _
          have HC7 := Lib.hid (appendInts_any base A5 c5 q p.kA p.kc w.heap.size p.kids wr HA5.out (by omega) (HPO.out.kids.below HB5.out) (by omega) HPO.out.kk hkl (by omega))
          have HQE : Hid (q ++ encL p.kids = p1 ++ (v.ns.take (j + 1)).flatMap encN) := by
            unfold Hid
            rw [← HNX.out, HQP.out, ← HP4.out, ← HP3.out, ← HP2.out, List.take_of_length_le (by rw [HLN.out]; exact Nat.le_refl _)]
            unfold encN PX.plain
            rw [HLN.out]
            simp only [List.append_assoc]
          go_wp2_with fail
          refine (HC7.out).mono ?_
          rintro e w7 ⟨A7, c7, rfl, hac7, hg7⟩
          have HB7 : Hid (Below w.heap.size w w7) := HB5.out.grown hg7.grown HB5.out.size (fun g hg => by have := own_from HA5.out g hg; omega)
          have HQ7 : Hid (Blk w7 w.heap.size 29 #[.slice (some ⟨ab, ao, none⟩) n v.nc, .slice v.rA m v.rc]) := hg7.blk HQ5.out (own_blk_ne HA5.out HQ5.out (by decide))
          obtain ⟨p7, hp7⟩ : ∃ p7, q ++ encL p.kids = p7 := ⟨_, rfl⟩
          rw [hp7] at hac7 ⊢
          have HA7 := Lib.hid hac7
          have HP7 : Hid (p7 = p1 ++ (v.ns.take (j + 1)).flatMap encN) := by rw [← hp7]; exact HQE
          clear hac7 hg7 hp7 f0 f1 f2 f3 HC7
          go_wp2_with fail
          go_roundw
          case rel => exact ⟨j + 1, A7, c7, p7, by omega, by go_num, rfl, HP7, HA7, HB7, HQ7⟩
          case measure => simp [intOf]; omega
    · obtain rfl : j = n := by omega
      have hpl : pre.length ≤ p1.length + (v.ns.flatMap encN).length := by rw [HP.out, List.length_append, List.take_of_length_le (by rw [v.ns_len, HN.out]; exact Nat.le_refl _)]; exact Nat.le_refl _
      have hbs : base ≤ w.heap.size ∧ w.heap.size ≤ base := by have := HBASE.out; omega
      have hrr := H.out.roots.below HB.out
      have HC7 := Lib.hid (appendInts_any base A' c' pre v.rA v.rc w.heap.size v.rs wo HAC.out (by omega) hrr (by omega) H.out.rr (by rw [HM.out]; exact hrl) (by omega))
      rw [HM.out] at HC7
      have HE : Hid (pre ++ encL v.rs = encP v.ns v.rs) := by
        unfold Hid
        rw [HP.out, ← HP1.out, List.take_of_length_le (by rw [v.ns_len, HN.out]; exact Nat.le_refl _)]
        unfold encP
        rw [v.ns_len, HN.out, List.append_assoc]
      clear hrr
      go_wp2_with fail
      refine (HC7.out).mono ?_
      rintro e w7 ⟨A7, c7, rfl, hac7, hg7⟩
      have hb7 : Below w.heap.size w w7 := HB.out.grown hg7.grown HB.out.size (fun g hg => by have := own_from HAC.out g hg; omega)
      obtain ⟨p8, hp8⟩ : ∃ p8, pre ++ encL v.rs = p8 := ⟨_, rfl⟩
      rw [hp8] at hac7 ⊢
      have HBP : Hid (BytesPost w (encP v.ns v.rs) (.returned (.slice A7 p8.length c7)) w7) := by
        rw [← HE.out, hp8]
        exact ⟨A7, c7, rfl, Reads.of_own hac7, hb7, by rw [HBASE.out]; exact hac7⟩
      clear hac7 hg7 hp8 hb7
      go_wp2_with fail
      go_ret
      exact HBP.out
end Go.Proofs.YtdabmjcpiblofaaDoor
