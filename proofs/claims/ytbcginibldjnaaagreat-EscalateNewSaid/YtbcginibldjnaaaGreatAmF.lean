/-
  The abstract machine, part F: the operations. No project text.
-/
import Derived.Test.YtbcginibldjnaaaGreatAmE
import Derived.Deep.AppendSrc
import Derived.Deep.Upon
import Derived.IntWalk
import Derived.Laws.Strings
set_option linter.unusedSimpArgs false
set_option linter.unusedVariables false
namespace Go.Proofs.YtbcginibldjnaaaGreat.AM
open Go

section
variable {P : Program} {o : Oper} {rd : List (Nat × AV)}

/-- An operation that yields a value and leaves the world alone. -/
theorem OpOK.quiet {hp : List (Name × AO)} {v : AV}
    (h : ∀ (Γ : Ctx) (ρ : Name → Loc) (M : Nat → Prop) (s : AS) (a : Act) (w : World), Sim Γ ρ M s a w → s.holds ⟨rd, hp, v, [], []⟩ → ∃ u, (execOp a.eval o).run P w = .ok (.value u) w ∧ v.R ρ s.heap M w u) : OpOK P o ⟨rd, hp, v, [], []⟩ := by
  intro Γ ρ M s a w K Q hs hh hd hK
  obtain ⟨u, h1, h2⟩ := h Γ ρ M s a w hs hh
  unfold Oper.wp
  rw [h1, Oper.upon_value]
  exact hK ρ M _ w ((hs.put hd (fun _ => h2)).congr (fun t => rfl) (fun n => rfl))

theorem OpOK.move {x : Operand} {v : AV} (ho : o.op = .move x) (hx : evalO rd x = some v) : OpOK P o ⟨rd, [], v, [], []⟩ :=
  OpOK.quiet fun Γ ρ M s a w hs hh => ⟨a.eval x, by simp [execOp, ho], evalO_R hs hh hx⟩
theorem OpOK.assign {x : Operand} {v : AV} (ho : o.op = .assign x) (hx : evalO rd x = some v) : OpOK P o ⟨rd, [], v, [], []⟩ :=
  OpOK.quiet fun Γ ρ M s a w hs hh => ⟨a.eval x, by simp [execOp, ho], evalO_R hs hh hx⟩

theorem eval_v {Γ : Ctx} {ρ : Name → Loc} {M : Nat → Prop} {s : AS} {a : Act} {w : World} {e : Eff} (hs : Sim Γ ρ M s a w) (hh : s.holds e) {x : Operand} {c : Value} (h : evalO e.rd x = some (.p (.v c))) : a.eval x = c := by
  have := evalO_R hs hh h
  simp only [AV.R, PV.R] at this
  exact this.1
theorem eval_v1 {Γ : Ctx} {ρ : Name → Loc} {M : Nat → Prop} {s : AS} {a : Act} {w : World} {e : Eff} (hs : Sim Γ ρ M s a w) (hh : s.holds e) {x : Operand} {c : Value} (h : evalO e.rd x = some (.p (.v c))) : c.oneCell' = true := by
  have := evalO_R hs hh h
  simp only [AV.R, PV.R] at this
  exact this.2

theorem OpOK.pickT {c x y : Operand} {v : AV} (ho : o.op = .pick c x y) (hc : evalO rd c = some (.p (.v (.bool true)))) (hx : evalO rd x = some v) : OpOK P o ⟨rd, [], v, [], []⟩ :=
  OpOK.quiet fun Γ ρ M s a w hs hh => ⟨a.eval x, by simp [execOp, ho, eval_v hs hh hc, asBool], evalO_R hs hh hx⟩
theorem OpOK.pickF {c x y : Operand} {v : AV} (ho : o.op = .pick c x y) (hc : evalO rd c = some (.p (.v (.bool false)))) (hy : evalO rd y = some v) : OpOK P o ⟨rd, [], v, [], []⟩ :=
  OpOK.quiet fun Γ ρ M s a w hs hh => ⟨a.eval y, by simp [execOp, ho, eval_v hs hh hc, asBool], evalO_R hs hh hy⟩

/-! ### Numbers -/
/-- An operation on two known values. -/
theorem OpOK.bin {op : BinOp} {T T' : TypeId} {x y : Operand} {c d r : Value} (ho : o.op = .binOp op T x y T') (hx : evalO rd x = some (.p (.v c))) (hy : evalO rd y = some (.p (.v d)))
    (hg : eqGuard op T x y c d = pure ()) (hr : ∀ w : World, (binOp op T c d).run P w = .ok r w) (h1 : r.oneCell' = true) : OpOK P o ⟨rd, [], .p (.v r), [], []⟩ :=
  OpOK.quiet fun Γ ρ M s a w hs hh => ⟨r, by simp [execOp, ho, eval_v hs hh hx, eval_v hs hh hy, hg, hr], by simp only [AV.R, PV.R]; exact ⟨trivial, h1⟩⟩

section ints
variable {T T' : TypeId} {x y : Operand} {k : IntKind} {a b r : Int}
theorem OpOK.add (ho : o.op = .binOp .add T x y T') (hx : evalO rd x = some (.p (.v (.int k a)))) (hy : evalO rd y = some (.p (.v (.int k b)))) (hr : k.wrap (a + b) = r) : OpOK P o ⟨rd, [], .p (.v (.int k r)), [], []⟩ :=
  OpOK.bin ho hx hy rfl (fun w => by simp [binOp, Op.intArith, hr]) rfl
theorem OpOK.sub (ho : o.op = .binOp .sub T x y T') (hx : evalO rd x = some (.p (.v (.int k a)))) (hy : evalO rd y = some (.p (.v (.int k b)))) (hr : k.wrap (a - b) = r) : OpOK P o ⟨rd, [], .p (.v (.int k r)), [], []⟩ :=
  OpOK.bin ho hx hy rfl (fun w => by simp [binOp, Op.intArith, hr]) rfl
theorem OpOK.mul (ho : o.op = .binOp .mul T x y T') (hx : evalO rd x = some (.p (.v (.int k a)))) (hy : evalO rd y = some (.p (.v (.int k b)))) (hr : k.wrap (a * b) = r) : OpOK P o ⟨rd, [], .p (.v (.int k r)), [], []⟩ :=
  OpOK.bin ho hx hy rfl (fun w => by simp [binOp, Op.intArith, hr]) rfl
theorem OpOK.quo (ho : o.op = .binOp .quo T x y T') (hx : evalO rd x = some (.p (.v (.int k a)))) (hy : evalO rd y = some (.p (.v (.int k b)))) (hb : b ≠ 0) (hr : k.wrap (a.tdiv b) = r) : OpOK P o ⟨rd, [], .p (.v (.int k r)), [], []⟩ :=
  OpOK.bin ho hx hy rfl (fun w => by simp [binOp, Op.intDiv, hr, hb]) rfl
theorem OpOK.rem (ho : o.op = .binOp .rem T x y T') (hx : evalO rd x = some (.p (.v (.int k a)))) (hy : evalO rd y = some (.p (.v (.int k b)))) (hb : b ≠ 0) (hr : a.tmod b = r) : OpOK P o ⟨rd, [], .p (.v (.int k r)), [], []⟩ :=
  OpOK.bin ho hx hy rfl (fun w => by simp [binOp, Op.intDiv, hr, hb]) rfl
variable {q : Bool}
theorem OpOK.lss (ho : o.op = .binOp .lss T x y T') (hx : evalO rd x = some (.p (.v (.int k a)))) (hy : evalO rd y = some (.p (.v (.int k b)))) (hr : decide (a < b) = q) : OpOK P o ⟨rd, [], .p (.v (.bool q)), [], []⟩ :=
  OpOK.bin ho hx hy rfl (fun w => by simp only [binOp, ne_eq, not_true_eq_false, if_false, Op.intCmp, hr]; rfl) rfl
theorem OpOK.leq (ho : o.op = .binOp .leq T x y T') (hx : evalO rd x = some (.p (.v (.int k a)))) (hy : evalO rd y = some (.p (.v (.int k b)))) (hr : decide (a ≤ b) = q) : OpOK P o ⟨rd, [], .p (.v (.bool q)), [], []⟩ :=
  OpOK.bin ho hx hy rfl (fun w => by simp only [binOp, ne_eq, not_true_eq_false, if_false, Op.intCmp, hr]; rfl) rfl
theorem OpOK.gtr (ho : o.op = .binOp .gtr T x y T') (hx : evalO rd x = some (.p (.v (.int k a)))) (hy : evalO rd y = some (.p (.v (.int k b)))) (hr : decide (b < a) = q) : OpOK P o ⟨rd, [], .p (.v (.bool q)), [], []⟩ :=
  OpOK.bin ho hx hy rfl (fun w => by simp only [binOp, ne_eq, not_true_eq_false, if_false, Op.intCmp, gt_iff_lt, hr]; rfl) rfl
theorem OpOK.geq (ho : o.op = .binOp .geq T x y T') (hx : evalO rd x = some (.p (.v (.int k a)))) (hy : evalO rd y = some (.p (.v (.int k b)))) (hr : decide (b ≤ a) = q) : OpOK P o ⟨rd, [], .p (.v (.bool q)), [], []⟩ :=
  OpOK.bin ho hx hy rfl (fun w => by simp only [binOp, ne_eq, not_true_eq_false, if_false, Op.intCmp, ge_iff_le, hr]; rfl) rfl
theorem OpOK.eqlI (ho : o.op = .binOp .eql T x y T') (hx : evalO rd x = some (.p (.v (.int k a)))) (hy : evalO rd y = some (.p (.v (.int k b)))) (hr : decide (a = b) = q) : OpOK P o ⟨rd, [], .p (.v (.bool q)), [], []⟩ :=
  OpOK.bin ho hx hy (eqGuard_at_int ..) (fun w => by rw [← hr]; simp only [binOp, ne_eq, not_true_eq_false, if_false, Op.intCmp]; rfl) rfl
theorem OpOK.neqI (ho : o.op = .binOp .neq T x y T') (hx : evalO rd x = some (.p (.v (.int k a)))) (hy : evalO rd y = some (.p (.v (.int k b)))) (hr : decide (a ≠ b) = q) : OpOK P o ⟨rd, [], .p (.v (.bool q)), [], []⟩ :=
  OpOK.bin ho hx hy (eqGuard_at_int ..) (fun w => by rw [← hr]; simp only [binOp, ne_eq, not_true_eq_false, if_false, Op.intCmp, decide_not, bne]; rfl) rfl
theorem OpOK.not {b : Bool} (ho : o.op = .unOp .not T x) (hx : evalO rd x = some (.p (.v (.bool b)))) (hr : (!b) = q) : OpOK P o ⟨rd, [], .p (.v (.bool q)), [], []⟩ :=
  OpOK.quiet fun Γ ρ M s a w hs hh => ⟨.bool q, by simp [execOp, ho, eval_v hs hh hx, Op.unary, hr], by simp only [AV.R, PV.R]; exact ⟨trivial, rfl⟩⟩
theorem OpOK.neg (ho : o.op = .unOp .neg T x) (hx : evalO rd x = some (.p (.v (.int k a)))) (hr : k.wrap (0 - a) = r) : OpOK P o ⟨rd, [], .p (.v (.int k r)), [], []⟩ :=
  OpOK.quiet fun Γ ρ M s a w hs hh => ⟨.int k r, by simp only [execOp, ho, eval_v hs hh hx, Op.unary, Op.intArith, hr]; rfl, by simp only [AV.R, PV.R]; exact ⟨trivial, rfl⟩⟩
end ints

/-! ### Places -/
def fieldOff (P : Program) (S : TypeId) (i : Nat) : Option Nat :=
  match P.underlying S with
  | some (.struct fields) => match fields[i]? with
    | some f => match sizeT P f.type with
      | some (_ + 1) => some f.offset
      | _ => none
    | none => none
  | _ => none

theorem run_fieldAt {S : TypeId} {i fo : Nat} (h : fieldOff P S i = some fo) (b k : Nat) (w : World) :
    (Instr.fieldAt S (.pointer (some ⟨b, k, none⟩)) i).run P w = .ok (.pointer (some ⟨b, k + fo, none⟩)) w := by
  unfold fieldOff at h
  cases hu : P.underlying S with
  | none => simp [hu] at h
  | some d =>
    cases d with
    | struct fields =>
      simp only [hu] at h
      cases hf : fields[i]? with
      | none => simp [hf] at h
      | some f =>
        simp only [hf] at h
        cases hz : sizeT P f.type with
        | none => simp [hz] at h
        | some z =>
          cases z with
          | zero => simp [hz] at h
          | succ z =>
            simp only [hz, Option.some.injEq] at h
            subst h
            simp [Instr.fieldAt, run_underlying hu, hf, Instr.sureAddr, fieldPlace, run_sizeOf hz, addr_add]
    | _ => simp [hu] at h

theorem OpOK.fieldRef {S : TypeId} {x : Operand} {i fo k k' : Nat} {n : Name} (ho : o.op = .fieldAddr S x i) (hx : evalO rd x = some (.ref n k)) (hf : fieldOff P S i = some fo) (hk : k + fo = k') {cells : List AV} :
    OpOK P o ⟨rd, [(n, .box cells)], .ref n k', [], []⟩ :=
  OpOK.quiet fun Γ ρ M s a w hs hh => by
    subst hk
    have hr := evalO_R hs hh hx
    simp only [AV.R] at hr
    obtain ⟨b, hb, hu⟩ := hr.2 cells (hh.hp n _ (by simp))
    refine ⟨.pointer (some ⟨b, k + fo, none⟩), by simp [execOp, ho, hu, run_fieldAt hf], ?_⟩
    simp only [AV.R]
    exact ⟨rfl, fun _ _ => ⟨b, hb, rfl⟩⟩
theorem OpOK.fieldPtr {S : TypeId} {x : Operand} {i fo : Nat} {cells sub : List PV} (ho : o.op = .fieldAddr S x i) (hx : evalO rd x = some (.eptr cells)) (hf : fieldOff P S i = some fo) (hsub : cells.drop fo = sub) :
    OpOK P o ⟨rd, [], .eptr sub, [], []⟩ :=
  OpOK.quiet fun Γ ρ M s a w hs hh => by
    have hr := evalO_R hs hh hx
    simp only [AV.R] at hr
    obtain ⟨⟨b, off, spot⟩, hu, hsp, hM, hlt, hc⟩ := hr
    simp only at hsp; subst hsp
    refine ⟨.pointer (some ⟨b, off + fo, none⟩), by simp [execOp, ho, hu, run_fieldAt hf], ?_⟩
    simp only [AV.R]
    exact ⟨_, rfl, rfl, hM, hlt, by rw [← hsub]; exact hc.drop fo⟩
theorem OpOK.fieldElemSh {S : TypeId} {x : Operand} {i fo len j k k' : Nat} {n : Name} (ho : o.op = .fieldAddr S x i) (hx : evalO rd x = some (.aref n len j k)) (hf : fieldOff P S i = some fo) (hk : k + fo = k') {ob : AO} {es kk : Nat} (hsh : ob.shape = some (es, kk)) (hl : Nat.beq len kk = true) :
    OpOK P o ⟨rd, [(n, ob)], .aref n len j k', [], []⟩ :=
  OpOK.quiet fun Γ ρ M s a w hs hh => by
    subst hk
    have hr := evalO_R hs hh hx
    simp only [AV.R] at hr
    have hl' := Nat.eq_of_beq_eq_true hl
    have hn := hh.hp n _ (by simp : (n, ob) ∈ _)
    obtain ⟨h1, h2⟩ := hr.2 ob es kk hn hsh
    obtain ⟨b, hb, hu⟩ := h2 hl'
    refine ⟨.pointer (some ⟨b, j * es + (k + fo), none⟩), by simp [execOp, ho, hu, run_fieldAt hf, Nat.add_assoc], ?_⟩
    simp only [AV.R]
    refine ⟨rfl, fun o' es' k' hc hs' => ?_⟩
    rw [hn] at hc; cases hc
    rw [hsh] at hs'; cases hs'
    exact ⟨h1, fun _ => ⟨b, hb, rfl⟩⟩
theorem OpOK.fieldElem {S : TypeId} {x : Operand} {i fo len j k k' : Nat} {n : Name} (ho : o.op = .fieldAddr S x i) (hx : evalO rd x = some (.aref n len j k)) (hf : fieldOff P S i = some fo) (hk : k + fo = k') {es : Nat} {rows : List (List PV)} (hl : Nat.beq len rows.length = true) :
    OpOK P o ⟨rd, [(n, .arr es rows)], .aref n len j k', [], []⟩ := OpOK.fieldElemSh ho hx hf hk rfl hl

theorem OpOK.nilCheckRef {x : Operand} {n : Name} {k : Nat} (ho : o.op = .nilCheck x) (hx : evalO rd x = some (.ref n k)) {cells : List AV} : OpOK P o ⟨rd, [(n, .box cells)], .ref n k, [], []⟩ :=
  OpOK.quiet fun Γ ρ M s a w hs hh => by
    have hr := evalO_R hs hh hx
    have hr' := hr
    simp only [AV.R] at hr'
    obtain ⟨b, hb, hu⟩ := hr'.2 cells (hh.hp n _ (by simp))
    exact ⟨.pointer (some ⟨b, k, none⟩), by simp [execOp, ho, hu], by rw [← hu]; exact hr⟩
theorem OpOK.nilCheckPtr {x : Operand} {cells : List PV} (ho : o.op = .nilCheck x) (hx : evalO rd x = some (.eptr cells)) : OpOK P o ⟨rd, [], .eptr cells, [], []⟩ :=
  OpOK.quiet fun Γ ρ M s a w hs hh => by
    have hr := evalO_R hs hh hx
    have hr' := hr
    simp only [AV.R] at hr'
    obtain ⟨ad, hu, _⟩ := hr'
    exact ⟨.pointer (some ad), by simp [execOp, ho, hu], by rw [← hu]; exact hr⟩
theorem OpOK.nilCheckSh {x : Operand} {n : Name} {len j k es kk : Nat} {ob : AO} (ho : o.op = .nilCheck x) (hx : evalO rd x = some (.aref n len j k)) (hsh : ob.shape = some (es, kk)) (hl : Nat.beq len kk = true) : OpOK P o ⟨rd, [(n, ob)], .aref n len j k, [], []⟩ :=
  OpOK.quiet fun Γ ρ M s a w hs hh => by
    have hr := evalO_R hs hh hx
    have hr' := hr
    simp only [AV.R] at hr'
    obtain ⟨b, hb, hu⟩ := (hr'.2 ob es kk (hh.hp n _ (by simp)) hsh).2 (Nat.eq_of_beq_eq_true hl)
    exact ⟨.pointer (some ⟨b, j * es + k, none⟩), by simp [execOp, ho, hu], by rw [← hu]; exact hr⟩
theorem OpOK.nilCheckElem {x : Operand} {n : Name} {len j k es : Nat} {rows : List (List PV)} (ho : o.op = .nilCheck x) (hx : evalO rd x = some (.aref n len j k)) (hl : Nat.beq len rows.length = true) : OpOK P o ⟨rd, [(n, .arr es rows)], .aref n len j k, [], []⟩ :=
  OpOK.nilCheckSh ho hx rfl hl

/-! ### Loads -/
theorem OpOK.loadBoxAgg {T : TypeId} {x : Operand} {n : Name} {k z : Nat} {cells sub : List AV} (ho : o.op = .load T x) (hx : evalO rd x = some (.ref n k)) (hT : aggT P T = true) (hz : sizeT P T = some z)
    (hsub : (cells.drop k).take z = sub) (hl : sub.length = z) : OpOK P o ⟨rd, [(n, .box cells)], .agg sub, [], []⟩ :=
  OpOK.quiet fun Γ ρ M s a w hs hh => by
    have hr := evalO_R hs hh hx
    simp only [AV.R] at hr
    have hn := hh.hp n _ (by simp : (n, AO.box cells) ∈ _)
    obtain ⟨b, hb, hu⟩ := hr.2 cells hn
    obtain ⟨b', us, g1, g2, g3⟩ := box_cells (hs.objs n _ hn)
    have e : b' = b := by rw [g1] at hb; simpa using hb
    subst e
    have g4 := (g2.drop k).take z
    rw [hsub] at g4
    refine ⟨.agg ((us.drop k).take z).toArray, ?_, by simp only [AV.R]; exact ⟨_, rfl, by simpa using g4⟩⟩
    have := run_loadVar_agg (P := P) (w := w) (a := ⟨b', k, none⟩) (us := (us.drop k).take z) hT (by rw [hz, g4.length, hl]) (fun j v hj => by
      rw [addr_add]
      refine g3 (k + j) v ?_
      rw [List.getElem?_take] at hj
      split at hj
      · simpa using hj
      · simp at hj)
    simp [execOp, ho, hu, Instr.loadAt, Instr.sureAddr, this]
theorem OpOK.loadBox {T : TypeId} {x : Operand} {n : Name} {k : Nat} {cells : List AV} {c : AV} (ho : o.op = .load T x) (hx : evalO rd x = some (.ref n k)) (hT : flatT P T = true)
    (hc : cells[k]? = some c) : OpOK P o ⟨rd, [(n, .box cells)], c, [], []⟩ :=
  OpOK.quiet fun Γ ρ M s a w hs hh => by
    have hr := evalO_R hs hh hx
    simp only [AV.R] at hr
    have hn := hh.hp n _ (by simp : (n, AO.box cells) ∈ _)
    obtain ⟨b, hb, hu⟩ := hr.2 cells hn
    obtain ⟨b', us, g1, g2, g3⟩ := box_cells (hs.objs n _ hn)
    have e : b' = b := by rw [g1] at hb; simpa using hb
    subst e
    obtain ⟨u, k1, k2, k3⟩ := g2.get k c hc
    exact ⟨u, by simp [execOp, ho, hu, Instr.loadAt, Instr.sureAddr, run_loadVar_flat hT (g3 k u k1)], k3⟩
theorem OpOK.loadPtrAgg {T : TypeId} {x : Operand} {z : Nat} {cells sub : List PV} {sub' : List AV} (ho : o.op = .load T x) (hx : evalO rd x = some (.eptr cells)) (hT : aggT P T = true) (hz : sizeT P T = some z)
    (hsub : cells.take z = sub) (hl : sub.length = z) (hs' : pcells sub = sub') : OpOK P o ⟨rd, [], .agg sub', [], []⟩ :=
  OpOK.quiet fun Γ ρ M s a w hs hh => by
    subst hs'
    have hr := evalO_R hs hh hx
    simp only [AV.R] at hr
    obtain ⟨⟨b, off, spot⟩, hu, hsp, hM, hlt, hc⟩ := hr
    simp only at hsp; subst hsp
    have hc' := hc.take z
    rw [hsub] at hc'
    obtain ⟨us, g1, g2⟩ := Rs_of_Cells (ρ := ρ) (H := s.heap) hc'
    refine ⟨.agg us.toArray, ?_, by simp only [AV.R]; exact ⟨_, rfl, by simpa using g1⟩⟩
    have := run_loadVar_agg (P := P) (w := w) (a := ⟨b, off, none⟩) (us := us) hT (by rw [hz, g1.length]; simp [pcells, hl]) (fun j v hj => by rw [addr_add]; exact g2 j v hj)
    simp [execOp, ho, hu, Instr.loadAt, Instr.sureAddr, this]
theorem OpOK.loadPtr {T : TypeId} {x : Operand} {cells : List PV} {c : PV} (ho : o.op = .load T x) (hx : evalO rd x = some (.eptr cells)) (hT : flatT P T = true)
    (hc0 : cells[0]? = some c) : OpOK P o ⟨rd, [], .p c, [], []⟩ :=
  OpOK.quiet fun Γ ρ M s a w hs hh => by
    have hr := evalO_R hs hh hx
    simp only [AV.R] at hr
    obtain ⟨⟨b, off, spot⟩, hu, hsp, hM, hlt, hc⟩ := hr
    simp only at hsp; subst hsp
    obtain ⟨u, k1, k2⟩ := hc.get 0 c hc0
    simp only [Nat.add_zero] at k1
    exact ⟨u, by simp [execOp, ho, hu, Instr.loadAt, Instr.sureAddr, run_loadVar_flat hT k1], by simpa only [AV.R] using k2⟩

/-- A row of an array of ours. -/
theorem arr_row {ρ : Name → Loc} {H : Heap} {M : Nat → Prop} {w : World} {n : Name} {es : Nat} {rows : List (List PV)} (h : ObjAt ρ H M w n (.arr es rows)) {b : Nat} (hb : (ρ n).base = some ⟨b, 0, none⟩) {i : Nat} {row : List PV} (hi : rows[i]? = some row) :
    row.length = es ∧ PV.Cells M w b (i * es) row := by
  obtain ⟨h0, h1, h2⟩ := h
  have hlt : i < rows.length := by
    rcases Nat.lt_or_ge i rows.length with h' | h'
    · exact h'
    · rw [List.getElem?_eq_none h'] at hi; simp at hi
  rcases h2 with h2 | ⟨b', T, cs, h3, h4, h5, h6, h7⟩
  · omega
  · rw [hb] at h3
    simp at h3; subst h3
    have := h7.get i row hi
    simpa using this
theorem OpOK.loadElemAgg {T : TypeId} {x : Operand} {n : Name} {len i k z es : Nat} {rows : List (List PV)} {row sub : List PV} (ho : o.op = .load T x) (hx : evalO rd x = some (.aref n len i k)) (hT : aggT P T = true) (hz : sizeT P T = some z)
    (hlen : Nat.beq len rows.length = true) (hi : rows[i]? = some row) (hsub : (row.drop k).take z = sub) (hl : sub.length = z) {sub' : List AV} (hs' : pcells sub = sub') : OpOK P o ⟨rd, [(n, .arr es rows)], .agg sub', [], []⟩ :=
  OpOK.quiet fun Γ ρ M s a w hs hh => by
    subst hs'
    have hr := evalO_R hs hh hx
    simp only [AV.R] at hr
    have hn := hh.hp n _ (by simp : (n, AO.arr es rows) ∈ _)
    obtain ⟨b, hb, hu⟩ := (hr.2 _ es rows.length hn rfl).2 (Nat.eq_of_beq_eq_true hlen)
    obtain ⟨_, hc⟩ := arr_row (hs.objs n _ hn) hb hi
    have hc' := (hc.drop k).take z
    rw [hsub] at hc'
    obtain ⟨us, g1, g2⟩ := Rs_of_Cells (ρ := ρ) (H := s.heap) hc'
    refine ⟨.agg us.toArray, ?_, by simp only [AV.R]; exact ⟨_, rfl, by simpa using g1⟩⟩
    have := run_loadVar_agg (P := P) (w := w) (a := ⟨b, i * es + k, none⟩) (us := us) hT (by rw [hz, g1.length]; simp [pcells, hl]) (fun j v hj => by rw [addr_add]; exact g2 j v hj)
    simp [execOp, ho, hu, Instr.loadAt, Instr.sureAddr, this]
theorem OpOK.loadElem {T : TypeId} {x : Operand} {n : Name} {len i k es : Nat} {rows : List (List PV)} {row : List PV} {c : PV} (ho : o.op = .load T x) (hx : evalO rd x = some (.aref n len i k)) (hT : flatT P T = true)
    (hlen : Nat.beq len rows.length = true) (hi : rows[i]? = some row) (hc0 : row[k]? = some c) : OpOK P o ⟨rd, [(n, .arr es rows)], .p c, [], []⟩ :=
  OpOK.quiet fun Γ ρ M s a w hs hh => by
    have hr := evalO_R hs hh hx
    simp only [AV.R] at hr
    have hn := hh.hp n _ (by simp : (n, AO.arr es rows) ∈ _)
    obtain ⟨b, hb, hu⟩ := (hr.2 _ es rows.length hn rfl).2 (Nat.eq_of_beq_eq_true hlen)
    obtain ⟨_, hc⟩ := arr_row (hs.objs n _ hn) hb hi
    obtain ⟨u, k1, k2⟩ := hc.get k c hc0
    exact ⟨u, by simp [execOp, ho, hu, Instr.loadAt, Instr.sureAddr, run_loadVar_flat hT k1], by simpa only [AV.R] using k2⟩

/-- The row of a hole. -/
theorem hole_row {ρ : Name → Loc} {H : Heap} {M : Nat → Prop} {w : World} {n : Name} {es : Nat} {pre post : List (List PV)} {row : List AV} {b : Nat} (h : ObjAt ρ H M w n (.hole es pre row post)) (hb : (ρ n).base = some ⟨b, 0, none⟩) :
    ∃ us : List Value, AV.Rs ρ H M w row us ∧ ∀ j v, us[j]? = some v → w.cell? ⟨b, pre.length * es + j, none⟩ = some v := by
  obtain ⟨h0, h0', h1, b', T, cs, h3, h4, h5, h6, h7, h8, h9⟩ := h
  rw [hb] at h3; cases h3
  refine ⟨_, h8, fun j v hj => ?_⟩
  have hl := h8.length
  have hjl : j < es := by
    rcases Nat.lt_or_ge j es with h | h
    · exact h
    · rw [List.getElem?_eq_none (by rw [hl, h0']; exact h)] at hj; simp at hj
  rw [List.getElem?_take, if_pos hjl, List.getElem?_drop] at hj
  unfold World.cell?
  simp only [h5]
  simpa using hj
theorem OpOK.loadHoleAgg {T : TypeId} {x : Operand} {n : Name} {len i k z es : Nat} {pre post : List (List PV)} {row sub : List AV} (ho : o.op = .load T x) (hx : evalO rd x = some (.aref n len i k)) (hT : aggT P T = true) (hz : sizeT P T = some z)
    (hlen : Nat.beq len (pre.length + 1 + post.length) = true) (hi : i = pre.length) (hsub : (row.drop k).take z = sub) (hl : sub.length = z) : OpOK P o ⟨rd, [(n, .hole es pre row post)], .agg sub, [], []⟩ :=
  OpOK.quiet fun Γ ρ M s a w hs hh => by
    have hr := evalO_R hs hh hx
    simp only [AV.R] at hr
    have hn := hh.hp n _ (by simp : (n, AO.hole es pre row post) ∈ _)
    obtain ⟨b, hb, hu⟩ := (hr.2 _ es _ hn rfl).2 (Nat.eq_of_beq_eq_true hlen)
    obtain ⟨us, g1, g2⟩ := hole_row (hs.objs n _ hn) hb
    subst hi
    have g3 : AV.Rs ρ s.heap M w sub ((us.drop k).take z) := by
      rw [← hsub]
      refine AV.Rs.of_get (by simp [g1.length]) fun j x u hj hu => ?_
      rw [List.getElem?_take] at hj hu
      split at hj
      · rename_i hjz
        rw [if_pos hjz, List.getElem?_drop] at hu
        rw [List.getElem?_drop] at hj
        obtain ⟨u', q1, q2, q3⟩ := g1.get _ _ hj
        rw [q1] at hu; cases hu
        exact ⟨q2, q3⟩
      · simp at hj
    refine ⟨.agg ((us.drop k).take z).toArray, ?_, by simp only [AV.R]; exact ⟨_, rfl, by simpa using g3⟩⟩
    have := run_loadVar_agg (P := P) (w := w) (a := ⟨b, pre.length * es + k, none⟩) (us := (us.drop k).take z) hT (by rw [hz, g3.length, hl]) (fun j v hj => by
      rw [addr_add, Nat.add_assoc]
      refine g2 _ _ ?_
      rw [List.getElem?_take] at hj
      split at hj
      · rwa [List.getElem?_drop] at hj
      · simp at hj)
    simp [execOp, ho, hu, Instr.loadAt, Instr.sureAddr, this]
theorem OpOK.loadHole {T : TypeId} {x : Operand} {n : Name} {len i k es : Nat} {pre post : List (List PV)} {row : List AV} {c : AV} (ho : o.op = .load T x) (hx : evalO rd x = some (.aref n len i k)) (hT : flatT P T = true)
    (hlen : Nat.beq len (pre.length + 1 + post.length) = true) (hi : i = pre.length) (hc0 : row[k]? = some c) : OpOK P o ⟨rd, [(n, .hole es pre row post)], c, [], []⟩ :=
  OpOK.quiet fun Γ ρ M s a w hs hh => by
    have hr := evalO_R hs hh hx
    simp only [AV.R] at hr
    have hn := hh.hp n _ (by simp : (n, AO.hole es pre row post) ∈ _)
    obtain ⟨b, hb, hu⟩ := (hr.2 _ es _ hn rfl).2 (Nat.eq_of_beq_eq_true hlen)
    obtain ⟨us, g1, g2⟩ := hole_row (hs.objs n _ hn) hb
    subst hi
    obtain ⟨u, k1, k2, k3⟩ := g1.get k c hc0
    have k4 := g2 k u k1
    exact ⟨u, by simp [execOp, ho, hu, Instr.loadAt, Instr.sureAddr, run_loadVar_flat hT k4], k3⟩

/-! ### Slices, indexes -/
def elemT (P : Program) (T : TypeId) : Option TypeId := match P.underlying T with | some (.slice e) => some e | _ => none
theorem elemT_spec {T e : TypeId} (h : elemT P T = some e) : P.underlying T = some (.slice e) := by
  unfold elemT at h
  split at h
  · rename_i h'; cases h; exact h'
  · simp at h

theorem OpOK.indexP {T e : TypeId} {x y : Operand} {f : Bool} {es i : Nat} {rows : List (List PV)} {row : List PV} {k : IntKind} {j : Int} (ho : o.op = .indexAddr T x y) (hT : elemT P T = some e) (hz : sizeT P e = some es)
    (hx : evalO rd x = some (.p (.sl f es rows))) (hy : evalO rd y = some (.p (.v (.int k j)))) (hj : j = (i : Int)) (hi : rows[i]? = some row) : OpOK P o ⟨rd, [], .eptr row, [], []⟩ :=
  OpOK.quiet fun Γ ρ M s a w hs hh => by
    have hr := evalO_R hs hh hx
    simp only [AV.R, PV.R] at hr
    obtain ⟨ad, cap, hu, h2, h3, h4, h5⟩ := hr
    have hlt : i < rows.length := by
      rcases Nat.lt_or_ge i rows.length with h' | h'
      · exact h'
      · rw [List.getElem?_eq_none h'] at hi; simp at hi
    cases ad with
    | none => have := h4 rfl; omega
    | some ad =>
      obtain ⟨g1, g2, g3, g4⟩ := h5 ad rfl (by omega)
      obtain ⟨b, off, spot⟩ := ad
      simp only at g1; subst g1
      refine ⟨.pointer (some ⟨b, off + i * es, none⟩), ?_, ?_⟩
      · simp [execOp, ho, hu, eval_v hs hh hy, Instr.indexAt, asIntOf, run_underlying (elemT_spec hT), hj, hlt, run_sizeOf hz, addr_add]
      · simp only [AV.R]
        exact ⟨_, rfl, rfl, g2, g3, (g4.get i row hi).2⟩
theorem OpOK.indexOwn {T e : TypeId} {x y : Operand} {n : Name} {len es i : Nat} {rows : List (List PV)} {k : IntKind} {j : Int} (ho : o.op = .indexAddr T x y) (hT : elemT P T = some e) (hz : sizeT P e = some es)
    (hx : evalO rd x = some (.own n len)) (hlen : Nat.beq len rows.length = true) (hy : evalO rd y = some (.p (.v (.int k j)))) (hj : j = (i : Int)) (hi : i < rows.length) : OpOK P o ⟨rd, [(n, .arr es rows)], .aref n len i 0, [], []⟩ :=
  OpOK.quiet fun Γ ρ M s a w hs hh => by
    have hr := evalO_R hs hh hx
    simp only [AV.R] at hr
    have hn := hh.hp n _ (by simp : (n, AO.arr es rows) ∈ _)
    have hle := Nat.eq_of_beq_eq_true hlen
    have hu := (hr.2 _ es rows.length hn rfl).2 hle
    obtain ⟨h0, h1, h2⟩ := hs.objs n _ hn
    rcases h2 with h2 | ⟨b, T', cs, h3, h4, h5, h6, h7⟩
    · omega
    · refine ⟨.pointer (some ⟨b, i * es, none⟩), ?_, ?_⟩
      · simp [execOp, ho, hu, h3, eval_v hs hh hy, Instr.indexAt, asIntOf, run_underlying (elemT_spec hT), hj, hle, hi, run_sizeOf hz, addr_add]
      · simp only [AV.R]
        refine ⟨rfl, fun o' es' k' hc hs' => ?_⟩
        rw [hn] at hc; cases hc
        cases hs'
        exact ⟨by omega, fun _ => ⟨b, h3, by simp⟩⟩

theorem OpOK.indexHole {T e : TypeId} {x y : Operand} {n : Name} {len es i : Nat} {pre post : List (List PV)} {row : List AV} {k : IntKind} {j : Int} (ho : o.op = .indexAddr T x y) (hT : elemT P T = some e) (hz : sizeT P e = some es)
    (hx : evalO rd x = some (.own n len)) (hlen : Nat.beq len (pre.length + 1 + post.length) = true) (hy : evalO rd y = some (.p (.v (.int k j)))) (hj : j = (i : Int)) (hi : i < pre.length + 1 + post.length) : OpOK P o ⟨rd, [(n, .hole es pre row post)], .aref n len i 0, [], []⟩ :=
  OpOK.quiet fun Γ ρ M s a w hs hh => by
    have hr := evalO_R hs hh hx
    simp only [AV.R] at hr
    have hn := hh.hp n _ (by simp : (n, AO.hole es pre row post) ∈ _)
    have hle := Nat.eq_of_beq_eq_true hlen
    have hu := (hr.2 _ es _ hn rfl).2 hle
    obtain ⟨h0, h0', h1, b, T', cs, h3, h4, h5, h6, h7⟩ := hs.objs n _ hn
    refine ⟨.pointer (some ⟨b, i * es, none⟩), ?_, ?_⟩
    · simp [execOp, ho, hu, h3, eval_v hs hh hy, Instr.indexAt, asIntOf, run_underlying (elemT_spec hT), hj, hle, hi, run_sizeOf hz, addr_add]
    · simp only [AV.R]
      refine ⟨rfl, fun o' es' k' hc hs' => ?_⟩
      rw [hn] at hc; cases hc
      cases hs'
      exact ⟨by omega, fun _ => ⟨b, h3, by simp⟩⟩

theorem OpOK.lenP {T e : TypeId} {x : Operand} {ats : Array TypeId} {f : Bool} {es : Nat} {rows : List (List PV)} {r : Int} (ho : o.op = .call { callee := .builtin .len, args := #[x], argTypes := ats }) (hat : ats[0]? = some T) (hT : elemT P T = some e)
    (hx : evalO rd x = some (.p (.sl f es rows))) (hr : (rows.length : Int) = r) : OpOK P o ⟨rd, [], .p (.v (.int .i64 r)), [], []⟩ :=
  OpOK.quiet fun Γ ρ M s a w hs hh => by
    have hr' := evalO_R hs hh hx
    simp only [AV.R, PV.R] at hr'
    obtain ⟨ad, cap, hu, h2, h3, h4, h5⟩ := hr'
    refine ⟨.int .i64 r, ?_, by simp only [AV.R, PV.R]; exact ⟨trivial, rfl⟩⟩
    simp [execOp, ho, resolve, invoke, builtin, Builtin.len_, hat, hu, run_underlying (elemT_spec hT), goInt, hr]
theorem OpOK.lenOwn {T e : TypeId} {x : Operand} {ats : Array TypeId} {n : Name} {len es : Nat} {rows : List (List PV)} {r : Int} (ho : o.op = .call { callee := .builtin .len, args := #[x], argTypes := ats }) (hat : ats[0]? = some T) (hT : elemT P T = some e)
    (hx : evalO rd x = some (.own n len)) (hlen : Nat.beq len rows.length = true) (hr : (rows.length : Int) = r) : OpOK P o ⟨rd, [(n, .arr es rows)], .p (.v (.int .i64 r)), [], []⟩ :=
  OpOK.quiet fun Γ ρ M s a w hs hh => by
    have hr' := evalO_R hs hh hx
    simp only [AV.R] at hr'
    have hle := Nat.eq_of_beq_eq_true hlen
    have hu := (hr'.2 (.arr es rows) es rows.length (hh.hp n _ (by simp)) rfl).2 hle
    refine ⟨.int .i64 r, ?_, by simp only [AV.R, PV.R]; exact ⟨trivial, rfl⟩⟩
    simp [execOp, ho, resolve, invoke, builtin, Builtin.len_, hat, hu, run_underlying (elemT_spec hT), goInt, hle, hr]

theorem OpOK.lenHole {T e : TypeId} {x : Operand} {ats : Array TypeId} {n : Name} {len es : Nat} {pre post : List (List PV)} {row : List AV} {r : Int} (ho : o.op = .call { callee := .builtin .len, args := #[x], argTypes := ats }) (hat : ats[0]? = some T) (hT : elemT P T = some e)
    (hx : evalO rd x = some (.own n len)) (hlen : Nat.beq len (pre.length + 1 + post.length) = true) (hr : ((len : Nat) : Int) = r) : OpOK P o ⟨rd, [(n, .hole es pre row post)], .p (.v (.int .i64 r)), [], []⟩ :=
  OpOK.quiet fun Γ ρ M s a w hs hh => by
    have hr' := evalO_R hs hh hx
    simp only [AV.R] at hr'
    have hle := Nat.eq_of_beq_eq_true hlen
    have hu := (hr'.2 (.hole es pre row post) es _ (hh.hp n _ (by simp)) rfl).2 hle
    refine ⟨.int .i64 r, ?_, by simp only [AV.R, PV.R]; exact ⟨trivial, rfl⟩⟩
    simp [execOp, ho, resolve, invoke, builtin, Builtin.len_, hat, hu, run_underlying (elemT_spec hT), goInt, hr]

theorem OpOK.extract {x : Operand} {i : Nat} {vs : List AV} {v : AV} (ho : o.op = .extract x i) (hx : evalO rd x = some (.tup vs)) (hv : vs[i]? = some v) : OpOK P o ⟨rd, [], v, [], []⟩ :=
  OpOK.quiet fun Γ ρ M s a w hs hh => by
    have hr := evalO_R hs hh hx
    simp only [AV.R] at hr
    obtain ⟨us, hu, h2⟩ := hr
    obtain ⟨u, g1, g2⟩ := h2.get.2 i v hv
    have g3 : us[i]? = some u := by simpa using g1
    refine ⟨u, ?_, g2⟩
    simp only [execOp, ho, hu, Instr.extract]
    simp [g3]

end
end Go.Proofs.YtbcginibldjnaaaGreat.AM
