/-
  The abstract machine, part S: structs of numbers that differ. No project text.
-/
import Derived.Test.YtbcginibldjnaaaGreatAmR
import Derived.Laws.Slices
set_option linter.unusedSimpArgs false
set_option linter.unusedVariables false
namespace Go.Proofs.YtbcginibldjnaaaGreat.AM
open Go
section
variable {P : Program} {o : Oper} {rd : List (Nat × AV)}
theorem OpOK.neqInts {T T' : TypeId} {x y : Operand} {as1 bs : List Int} {q : Bool} (ho : o.op = .binOp .neq T x y T') (hT : intsT P T as1.length = true) (hl : Nat.beq bs.length as1.length = true)
    (hx : evalO rd x = some (.agg (as1.map fun a => .p (.v (.int .i64 a))))) (hy : evalO rd y = some (.agg (bs.map fun a => .p (.v (.int .i64 a))))) (hr : decide (as1 ≠ bs) = q) : OpOK P o ⟨rd, [], .p (.v (.bool q)), [], []⟩ :=
  OpOK.quiet fun Γ ρ M s a w hs hh => by
    have h1 := evalO_R hs hh hx
    have h2 := evalO_R hs hh hy
    simp only [AV.R] at h1 h2
    obtain ⟨us, hu, k1⟩ := h1
    obtain ⟨vs, hv, k2⟩ := h2
    replace k1 := Rs_ints k1
    replace k2 := Rs_ints k2
    have hl' := Nat.eq_of_beq_eq_true hl
    unfold intsT at hT
    simp only [Bool.and_eq_true, Bool.not_eq_true'] at hT
    obtain ⟨⟨g1, g2⟩, g3⟩ := hT
    split at g1
    · rename_i fs hfs
      simp only [Bool.and_eq_true] at g1
      have hsz := Nat.eq_of_beq_eq_true g1.1
      have hF : P.fieldsOf T = fs := by simp [Program.fieldsOf, hfs]
      refine ⟨.bool q, ?_, by simp only [AV.R, PV.R]; exact ⟨trivial, rfl⟩⟩
      have e1 := run_equalIn_struct (P := P) w 9999 T us vs (by rw [hF]; exact hfs) g2
      rw [hF, eqFields_ints 9998 w us vs fs.toList 0 as1 bs g1.2 (by simp [hsz]) (by simp [hsz, hl']) (fun j a0 hj => by
        rw [Nat.zero_add, ← Array.getElem?_toList, k1, List.getElem?_map, hj]; rfl) (fun j a0 hj => by
        rw [Nat.zero_add, ← Array.getElem?_toList, k2, List.getElem?_map, hj]; rfl)] at e1
      have hq : (!decide (as1 = bs)) = q := by rw [← hr]; simp
      simp [execOp, ho, hu, hv, run_eqGuard_agg w .neq T x y us vs g3, run_neq_struct, e1, hq]
    · simp at g1
/-! ### Slices of slices that are pure data -/
/-- x[k:] -/
theorem OpOK.sliceLo {T e : TypeId} {x lo : Operand} {full : Bool} {es k : Nat} {rows rows' : List (List PV)} {i : Int} (ho : o.op = .slice T x (some lo) none none) (hT : P.underlying T = some (.slice e)) (hz : sizeT P e = some es)
    (hx : evalO rd x = some (.p (.sl full es rows))) (hlo : evalO rd lo = some (.p (.v (.int .i64 i)))) (hi : i = ((k : Nat) : Int)) (hk : k ≤ rows.length) (hr : rows.drop k = rows') : OpOK P o ⟨rd, [], .p (.sl full es rows'), [], []⟩ :=
  OpOK.quiet fun Γ ρ M s a w hs hh => by
    subst hr; subst hi
    have h1 := evalO_R hs hh hx
    have h2 := evalO_R hs hh hlo
    simp only [AV.R, PV.R] at h1 h2
    obtain ⟨ad, cap, hu, hl, hf, hn, hc⟩ := h1
    refine ⟨.slice (if cap = k then ad else ad.map (·.add (k * es))) (rows.length - k) (cap - k), ?_, ?_⟩
    · have hb : (Instr.sliceBounds true rows.length cap (some (.int .i64 ((k : Nat) : Int))) none none).run P w = .ok (k, rows.length, cap) w := by
        unfold Instr.sliceBounds
        simp [run_sliceBound, hk]
      simp [execOp, ho, hu, h2.1, Instr.sliceAt, Instr.slice, run_underlying hT, hb, run_sizeOf hz]
    · simp only [AV.R, PV.R, List.length_drop]
      refine ⟨_, _, rfl, by omega, fun h => by rw [hf h], fun h => ?_, fun ad' had hcap => ?_⟩
      · split at h
        · omega
        · cases ad with
          | none => rw [hn rfl]; omega
          | some x => simp at h
      · have hne : ¬ cap = k := by omega
        rw [if_neg hne] at had
        cases ad with
        | none => simp at had
        | some x =>
          obtain ⟨g1, g2, g3, g4⟩ := hc x rfl (by omega)
          obtain ⟨b0, o0, s0⟩ := x
          simp only at g1; subst g1
          simp only [Option.map_some, Option.some.injEq] at had
          rw [addr_add] at had
          subst had
          exact ⟨rfl, g2, g3, g4.drop k⟩
/-- x[:k:k] -/
theorem OpOK.sliceMax {T e : TypeId} {x hi mx : Operand} {full : Bool} {es k : Nat} {rows rows' : List (List PV)} {i : Int} (ho : o.op = .slice T x none (some hi) (some mx)) (hT : P.underlying T = some (.slice e)) (hz : sizeT P e = some es)
    (hx : evalO rd x = some (.p (.sl full es rows))) (hhi : evalO rd hi = some (.p (.v (.int .i64 i)))) (hmx : evalO rd mx = some (.p (.v (.int .i64 i)))) (hi : i = ((k : Nat) : Int)) (hk : k ≤ rows.length) (hr : rows.take k = rows') : OpOK P o ⟨rd, [], .p (.sl true es rows'), [], []⟩ :=
  OpOK.quiet fun Γ ρ M s a w hs hh => by
    subst hr; subst hi
    have h1 := evalO_R hs hh hx
    have h2 := evalO_R hs hh hhi
    have h3 := evalO_R hs hh hmx
    simp only [AV.R, PV.R] at h1 h2 h3
    obtain ⟨ad, cap, hu, hl, hf, hn, hc⟩ := h1
    refine ⟨.slice ad k k, ?_, ?_⟩
    · have hkc : k ≤ cap := by omega
      have hb : (Instr.sliceBounds true rows.length cap none (some (.int .i64 ((k : Nat) : Int))) (some (.int .i64 ((k : Nat) : Int)))).run P w = .ok (0, k, k) w := by
        unfold Instr.sliceBounds
        simp [run_sliceBound, hkc]
      have hz0 : ∀ x : Addr, x.add 0 = x := fun x => by
        obtain ⟨b0, o0, s0⟩ := x
        cases s0 <;> simp [Addr.add]
      cases ad with
      | none => simp [execOp, ho, hu, h2.1, h3.1, Instr.sliceAt, Instr.slice, run_underlying hT, hb, run_sizeOf hz]
      | some x => simp [execOp, ho, hu, h2.1, h3.1, Instr.sliceAt, Instr.slice, run_underlying hT, hb, run_sizeOf hz, hz0]
    · simp only [AV.R, PV.R, List.length_take]
      refine ⟨ad, k, by rw [Nat.min_eq_left hk], by omega, fun _ => by omega, fun h => ?_, fun ad' had hcap => ?_⟩
      · have := hn h; omega
      · obtain ⟨g1, g2, g3, g4⟩ := hc ad' had (by omega)
        exact ⟨g1, g2, g3, g4.take k⟩
end
end Go.Proofs.YtbcginibldjnaaaGreat.AM
