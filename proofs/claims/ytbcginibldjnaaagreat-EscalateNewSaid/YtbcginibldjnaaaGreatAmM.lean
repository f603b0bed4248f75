/-
  The abstract machine, part M: short words for values, small facts that the walker's texts use. No project text.
-/
import Derived.Test.YtbcginibldjnaaaGreatAmL
set_option linter.unusedSimpArgs false
set_option linter.unusedVariables false
namespace Go.Proofs.YtbcginibldjnaaaGreat.AM
open Go

abbrev vI (n : Int) : AV := .p (.v (.int .i64 n))
abbrev vK (k : IntKind) (n : Int) : AV := .p (.v (.int k n))
abbrev vB (b : Bool) : AV := .p (.v (.bool b))
abbrev vS (s : ByteArray) : AV := .p (.v (.string s))
abbrev pI (n : Int) : PV := .v (.int .i64 n)
abbrev pK (k : IntKind) (n : Int) : PV := .v (.int k n)
abbrev pB (b : Bool) : PV := .v (.bool b)
abbrev pS (s : ByteArray) : PV := .v (.string s)
namespace D
abbrev cInt (n : Int) : List PV := [pI n]
abbrev cK (k : IntKind) (n : Int) : List PV := [pK k n]
abbrev cBool (b : Bool) : List PV := [pB b]
abbrev cStr (s : ByteArray) : List PV := [pS s]
end D

/-- The element at an index. -/
def nth {α : Type} [Inhabited α] (l : List α) (i : Nat) : α := l.getD i default
theorem nth_eq {α : Type} [Inhabited α] {l : List α} {i : Nat} (h : i < l.length) : l[i]? = some (nth l i) := by
  simp [nth, List.getD_eq_getElem?_getD, List.getElem?_eq_getElem h]
theorem map_nth {α : Type} [Inhabited α] {l : List α} {f : α → List PV} {i : Nat} (h : i < l.length) : (l.map f)[i]? = some (f (nth l i)) := by
  rw [List.getElem?_map, nth_eq h]; rfl
theorem nth_mem {α : Type} [Inhabited α] {l : List α} {i : Nat} (h : i < l.length) : nth l i ∈ l := List.mem_of_getElem? (nth_eq h)

theorem quo_nat (a b : Nat) (h : (a : Int) ≤ 9223372036854775807) : IntKind.i64.wrap ((a : Int).tdiv (b : Int)) = ((a / b : Nat) : Int) := by
  have h0 : ((a : Int).tdiv (b : Int)) = ((a / b : Nat) : Int) := rfl
  rw [h0]
  have h1 : a / b ≤ a := Nat.div_le_self a b
  have h2 : ((a / b : Nat) : Int) ≤ (a : Int) := Int.ofNat_le.2 h1
  have h3 : 0 ≤ ((a / b : Nat) : Int) := Int.natCast_nonneg _
  generalize ((a / b : Nat) : Int) = c at h2 h3 ⊢
  exact IntWalk.i64_in c ⟨by omega, by omega⟩

theorem bytes_eq (x y : ByteArray) : (x.toList == y.toList) = decide (x = y) := by
  rw [ByteArray.toList_eq, ByteArray.toList_eq]
  by_cases h : x = y
  · subst h; simp
  · have : ¬ x.data.toList = y.data.toList := fun e => h (by
      cases x; cases y
      have e' := Array.toList_inj.1 e
      simp only at e'
      rw [e'])
    rw [decide_eq_false h]
    exact beq_eq_false_iff_ne.2 this

section
variable {P : Program} {o : Oper} {rd : List (Nat × AV)}
theorem OpOK.eqlS {T T' : TypeId} {x y : Operand} {a b : ByteArray} {q : Bool} (ho : o.op = .binOp .eql T x y T') (hx : evalO rd x = some (.p (.v (.string a)))) (hy : evalO rd y = some (.p (.v (.string b)))) (hr : decide (a = b) = q) : OpOK P o ⟨rd, [], .p (.v (.bool q)), [], []⟩ :=
  OpOK.bin ho hx hy (eqGuard_at_string ..) (fun w => by simp only [binOp, Op.stringOp, bytes_eq, hr]; rfl) rfl
theorem OpOK.neqS {T T' : TypeId} {x y : Operand} {a b : ByteArray} {q : Bool} (ho : o.op = .binOp .neq T x y T') (hx : evalO rd x = some (.p (.v (.string a)))) (hy : evalO rd y = some (.p (.v (.string b)))) (hr : decide (a ≠ b) = q) : OpOK P o ⟨rd, [], .p (.v (.bool q)), [], []⟩ :=
  OpOK.bin ho hx hy (eqGuard_at_string ..) (fun w => by rw [← hr]; simp only [binOp, Op.stringOp, bytes_eq, decide_not]; rfl) rfl
theorem run_equal_bool {w : World} {T : TypeId} {a b : Bool} (h : P.underlying T = some .bool) : (Op.equal T (.bool a) (.bool b)).run P w = .ok (a == b) w := by
  unfold Op.equal
  rw [show Op.maxDepth = (Op.maxDepth - 1) + 1 from rfl]
  simp [Op.equalIn, run_underlying h]
theorem OpOK.eqlB {T T' : TypeId} {x y : Operand} {a b : Bool} {q : Bool} (ho : o.op = .binOp .eql T x y T') (hT : P.underlying T = some .bool) (hx : evalO rd x = some (.p (.v (.bool a)))) (hy : evalO rd y = some (.p (.v (.bool b)))) (hr : decide (a = b) = q) : OpOK P o ⟨rd, [], .p (.v (.bool q)), [], []⟩ :=
  OpOK.bin ho hx hy (eqGuard_at_bool ..) (fun w => by rw [← hr]; simp only [binOp, Sem.run_bind, run_equal_bool hT, Result.andThen_ok]; cases a <;> cases b <;> rfl) rfl
theorem OpOK.neqB {T T' : TypeId} {x y : Operand} {a b : Bool} {q : Bool} (ho : o.op = .binOp .neq T x y T') (hT : P.underlying T = some .bool) (hx : evalO rd x = some (.p (.v (.bool a)))) (hy : evalO rd y = some (.p (.v (.bool b)))) (hr : decide (a ≠ b) = q) : OpOK P o ⟨rd, [], .p (.v (.bool q)), [], []⟩ :=
  OpOK.bin ho hx hy (eqGuard_at_bool ..) (fun w => by rw [← hr]; simp only [binOp, Sem.run_bind, run_equal_bool hT, Result.andThen_ok]; cases a <;> cases b <;> rfl) rfl
end

end Go.Proofs.YtbcginibldjnaaaGreat.AM
