/-
  The plain log: what is found on a disk, what is appended. No condition.
-/
import Derived.Test.YtnjafhlpnoikcaaDkN
namespace Go.Proofs.Ytnjafhlpnoikcaa
open Go.RowKit
set_option linter.unusedVariables false

/-- a length of four bytes -/
def be4 (n : Nat) : List Nat := [n / 16777216 % 256, n / 65536 % 256, n / 256 % 256, n % 256]
def len4 (l : List Nat) (e : Nat) : Nat := ((l.getD e 0 * 256 + l.getD (e + 1) 0) * 256 + l.getD (e + 2) 0) * 256 + l.getD (e + 3) 0
/-- the records from e on, and the end -/
def scanS (l : List Nat) : Nat → Nat → List (List Nat) × Nat
  | 0, e => ([], e)
  | k + 1, e => if e + 5 ≤ l.length ∧ l.getD e 0 = 1 then
      (if e + 5 + len4 l (e + 1) ≤ l.length then ((l.drop (e + 5)).take (len4 l (e + 1)) :: (scanS l k (e + 5 + len4 l (e + 1))).1, (scanS l k (e + 5 + len4 l (e + 1))).2) else ([], e))
    else ([], e)
/-- the log's state but for its disk -/
structure LS where
  half : Nat
  second : Bool
  fin : Nat
  recs : List (List Nat)
  dead : Bool
def startS (half : Nat) (second : Bool) : Nat := if second then 1 + half else 1
def LS.at_ (l : LS) : Nat := startS l.half l.second + l.fin
/-- write and sync -/
def storeS (s : DS) (a : Int) (b : List Nat) : Int × DS :=
  if (writeS s a b).1 = 0 then syncS (writeS s a b).2 else writeS s a b
/-- a record behind the last one -/
def addS (s : DS) (l : LS) (b : List Nat) : Int × DS :=
  if (readS s l.at_ 1).2 = 0 then
    (let r := if (readS s l.at_ 1).1.getD 0 0 = 0 then (0, s) else storeS s l.at_ [0]
     if r.1 = 0 then
      (let t := storeS r.2 (l.at_ + 1 : Nat) (be4 b.length ++ b ++ [0])
       if t.1 = 0 then storeS t.2 l.at_ [1] else t)
     else r)
  else ((readS s l.at_ 1).2, s)
def appS (s : DS) (l : LS) (b : List Nat) : Int × DS × LS :=
  if l.dead then (15, s, l)
  else if l.half < l.fin + 6 + b.length then (17, s, l)
  else if (addS s l b).1 = 0 then (0, (addS s l b).2, { l with recs := l.recs ++ [b], fin := l.fin + 5 + b.length })
  else ((addS s l b).1, (addS s l b).2, { l with dead := true })
def roomS (l : LS) : Int := if l.dead ∨ l.half < l.fin + 6 then -1 else (l.half : Int) - l.fin - 6
/-- the bytes of records, without the byte behind them -/
def areaS (rs : List (List Nat)) : List Nat := rs.flatMap fun b => [1] ++ be4 b.length ++ b
def replS (s : DS) (l : LS) (rs : List (List Nat)) : Int × DS :=
  let t := storeS s (startS l.half (!l.second) : Nat) (areaS rs ++ [0])
  if t.1 = 0 then storeS t.2 0 [if l.second then 0 else 1] else t
def resetS (s : DS) (l : LS) (rs : List (List Nat)) : Int × DS × LS :=
  if l.dead then (15, s, l)
  else if l.half < (areaS rs).length + 1 then (17, s, l)
  else if (replS s l rs).1 = 0 then (0, (replS s l rs).2, { l with second := !l.second, recs := rs, fin := (areaS rs).length })
  else ((replS s l rs).1, (replS s l rs).2, { l with dead := true })
/-- what Open finds; none: the disk is off -/
def openS (s : DS) : Option LS :=
  if s.off then none
  else
    let h := (s.dur.length - 1) / 2
    let sec := (seenL s.dur s.wait).getD 0 0 != 0
    let a := ((seenL s.dur s.wait).drop (startS h sec)).take h
    some ⟨h, sec, (scanS a (h + 1) 0).2, (scanS a (h + 1) 0).1, false⟩
theorem be4_len (n : Nat) : (be4 n).length = 4 := rfl
theorem be4_byte (n : Nat) : ∀ x ∈ be4 n, x < 256 := fun x hx => by
  unfold be4 at hx
  simp at hx
  omega
end Go.Proofs.Ytnjafhlpnoikcaa
