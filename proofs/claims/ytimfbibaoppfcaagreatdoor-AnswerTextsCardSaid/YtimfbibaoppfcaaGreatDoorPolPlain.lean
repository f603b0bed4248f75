/-
  Package policy, in plain Lean: counts and offsets.
-/
import Derived.Test.YtimfbibaoppfcaaGreatDoorPolData
import Derived.Test.YtimfbibaoppfcaaGreatDoorRows
set_option linter.unusedSimpArgs false
set_option linter.unusedVariables false
namespace Go.Proofs.YtimfbibaoppfcaaGreatDoor
open Go AM
def inB (n lo hi : Int) : Bool := decide (lo ≤ n) && decide (n ≤ hi)
def count (p : D.Policy) : Int := if inB p.Repeat 0 8 = true ∧ p.Steps.length ≤ 8 then (p.Steps.length : Int) * (p.Repeat + 1) else 0
theorem inB_spec {n lo hi : Int} (h : inB n lo hi = true) : lo ≤ n ∧ n ≤ hi := by simpa [inB] using h
theorem inB_false {n lo hi : Int} (h : inB n lo hi = false) : ¬ (lo ≤ n ∧ n ≤ hi) := by simpa [inB] using h
def offW (p : D.Policy) : Nat → Int
  | 0 => 0
  | k + 1 => IntKind.i64.wrap (offW p k + (nth p.Steps (k % p.Steps.length)).Wait)
def offs (p : D.Policy) (k : Nat) : List Int := (List.range (k + 1)).map (offW p)
def waitsOK (p : D.Policy) : Bool := p.Steps.all fun s => inB s.Wait 0 86400
def offsets (p : D.Policy) : List Int := if waitsOK p = true then offs p (count p).toNat else []
def offset (p : D.Policy) (k : Int) : Int × Bool := if inB k 0 ((offsets p).length - 1) = true then (nth (offsets p) k.toNat, true) else (0, false)
def part (p : D.Policy) (k : Int) : Int × Int × Bool := if inB k 0 (count p - 1) = true then (k % p.Steps.length, k / p.Steps.length, true) else (0, 0, false)
def started (p : D.Policy) (o : Int) : Nat := ((offsets p).dropLast.takeWhile (fun x => decide (x ≤ o))).length
end Go.Proofs.YtimfbibaoppfcaaGreatDoor
