/-
  The abstract machine, part R: nil errors, a byte as a text, ranging over a map in whatever order. No project text.
-/
import Derived.Test.YtimfbibaoppfcaaGreatDoorAmQ
import Derived.Maps.RangeRun
import Derived.Laws.StructEq
set_option linter.unusedSimpArgs false
set_option linter.unusedVariables false
namespace Go.Proofs.YtimfbibaoppfcaaGreatDoor.AM
open Go
section
variable {P : Program} {o : Oper} {rd : List (Nat × AV)}
def ifaceT (P : Program) (T : TypeId) : Bool := match P.underlying T with
  | some (.interface _) => true
  | _ => false
theorem OpOK.maxI {x y : Operand} {ats : Array TypeId} {m k r : Int} (ho : o.op = .call { callee := .builtin .max, args := #[x, y], argTypes := ats }) (hx : evalO rd x = some (.p (.v (.int .i64 m)))) (hy : evalO rd y = some (.p (.v (.int .i64 k)))) (hr : max m k = r) :
    OpOK P o ⟨rd, [], .p (.v (.int .i64 r)), [], []⟩ :=
  OpOK.quiet fun Γ ρ M s a w hs hh => by
    have h1 := evalO_R hs hh hx
    have h2 := evalO_R hs hh hy
    simp only [AV.R, PV.R] at h1 h2
    refine ⟨.int .i64 r, ?_, by simp only [AV.R, PV.R]; exact ⟨trivial, rfl⟩⟩
    have e : (if m < k then k else m) = r := by rw [← hr]; split <;> omega
    simp [execOp, ho, h1.1, h2.1, resolve, invoke, builtin, run_max_int2, e]
def intField (P : Program) (f : Field) (i : Nat) : Bool := f.name != "_" && Nat.beq f.offset i && (match P.underlying f.type with | some (.int .i64) => true | _ => false)
def intFields (P : Program) : List Field → Nat → Bool
  | [], _ => true
  | f :: fs, i => intField P f i && intFields P fs (i + 1)
def intsT (P : Program) (T : TypeId) (n : Nat) : Bool := (match P.underlying T with | some (.struct fs) => Nat.beq fs.size n && intFields P fs.toList 0 | _ => false) && !P.stoodInHeld T && !P.eqGuardType P.depth T
theorem run_part_int {w : World} {T : TypeId} {cs : Array Value} {i : Nat} {v : Value} (hT : P.underlying T = some (.int .i64)) (h : cs[i]? = some v) : (part T cs i).run P w = .ok v w := by
  have hf : flatT P T = true := by simp [flatT, hT]
  simp [part, run_isAgg_false hf, h]
theorem eqFields_ints (d : Nat) (w : World) (xs ys : Array Value) : ∀ (fs : List Field) (i : Nat) (as1 bs : List Int), intFields P fs i = true → as1.length = fs.length → bs.length = fs.length →
    (∀ j (a : Int), as1[j]? = some a → xs[i + j]? = some (.int .i64 a)) → (∀ j (b : Int), bs[j]? = some b → ys[i + j]? = some (.int .i64 b)) → (Op.eqFields (d + 1) xs ys fs).run P w = .ok (decide (as1 = bs)) w
  | [], i, as1, bs, _, h1, h2, _, _ => by
    have e1 : as1 = [] := List.eq_nil_of_length_eq_zero (by simpa using h1)
    have e2 : bs = [] := List.eq_nil_of_length_eq_zero (by simpa using h2)
    subst e1; subst e2; simp [Op.eqFields]
  | f :: fs, i, [], bs, _, h1, _, _, _ => by simp at h1
  | f :: fs, i, a :: as1, [], _, _, h2, _, _ => by simp at h2
  | f :: fs, i, a :: as1, b :: bs, hf, h1, h2, h3, h4 => by
    simp only [intFields, intField, Bool.and_eq_true, bne_iff_ne, ne_eq] at hf
    obtain ⟨⟨⟨g1, g2⟩, g3⟩, g4⟩ := hf
    have ho : f.offset = i := Nat.eq_of_beq_eq_true g2
    have hT : P.underlying f.type = some (.int .i64) := by
      split at g3
      · assumption
      · simp at g3
    have e1 := run_part_int (w := w) hT (h3 0 a (by simp))
    have e2 := run_part_int (w := w) hT (h4 0 b (by simp))
    rw [Nat.add_zero] at e1 e2
    have ih := eqFields_ints d w xs ys fs (i + 1) as1 bs g4 (by simpa using h1) (by simpa using h2) (fun j x hx => by
      have := h3 (j + 1) x (by simpa using hx); rwa [show i + (j + 1) = i + 1 + j by omega] at this) (fun j x hx => by
      have := h4 (j + 1) x (by simpa using hx); rwa [show i + (j + 1) = i + 1 + j by omega] at this)
    simp only [Op.eqFields, if_pos g1, Sem.run_bind, ho, e1, e2, Result.andThen_ok, run_equalIn_int w d f.type .i64 .i64 a b hT]
    by_cases h : a = b
    · subst h
      simp [ih]
    · simp [h]
theorem Rs_ints {ρ : Name → Loc} {H : Heap} {M : Nat → Prop} {w : World} : ∀ {as1 : List Int} {us : List Value}, AV.Rs ρ H M w (as1.map fun a => .p (.v (.int .i64 a))) us → us = as1.map (Value.int .i64)
  | [], us, h => by simpa only [List.map_nil, AV.Rs] using h
  | a :: r, us, h => by
    simp only [List.map_cons, AV.Rs, AV.R, PV.R] at h
    obtain ⟨u, us', rfl, _, ⟨rfl, _⟩, h2⟩ := h
    rw [Rs_ints h2]; rfl
end
section
variable {P : Program} {Γ : Ctx} {Q : Exit → AS → Prop}
end
end Go.Proofs.YtimfbibaoppfcaaGreatDoor.AM
