/-
  The abstract machine, part F: the operations. No project text.
-/
import Derived.Test.YtfhcigjkfelnfaaGreatQRowAuditLateA
import Derived.Deep.AppendSrc
import Derived.Deep.Upon
import Derived.IntWalk
import Derived.Laws.Strings
set_option linter.unusedSimpArgs false
set_option linter.unusedVariables false
namespace Go.Proofs.YtfhcigjkfelnfaaGreat.AM
open Go
section
variable {P : Program} {o : Oper} {rd : List (Nat × AV)}
theorem OpOK.quiet {hp : List (Name × AO)} {v : AV}
    (h : ∀ (Γ : Ctx) (ρ : Name → Loc) (M : Nat → Prop) (s : AS) (a : Act) (w : World), Sim Γ ρ M s a w → s.holds ⟨rd, hp, v, [], []⟩ → ∃ u, (execOp a.eval o).run P w = .ok (.value u) w ∧ v.R ρ s.heap M w u) : OpOK P o ⟨rd, hp, v, [], []⟩ := by
  intro Γ ρ M s a w K Q hs hh hd hK
  obtain ⟨u, h1, h2⟩ := h Γ ρ M s a w hs hh
  unfold Oper.wp
  rw [h1, Oper.upon_value]
  exact hK ρ M _ w ((hs.put hd (fun _ => h2)).congr (fun t => rfl) (fun n => rfl))
theorem OpOK.move {x : Operand} {v : AV} (ho : o.op = .move x) (hx : evalO rd x = some v) : OpOK P o ⟨rd, [], v, [], []⟩ :=
  OpOK.quiet fun Γ ρ M s a w hs hh => ⟨a.eval x, by simp [execOp, ho], evalO_R hs hh hx⟩
theorem OpOK.assign {x : Operand} {v : AV} (ho : o.op = .assign x) (hx : evalO rd x = some v) : OpOK P o ⟨rd, [], v, [], []⟩ :=
  OpOK.quiet fun Γ ρ M s a w hs hh => ⟨a.eval x, by simp [execOp, ho], evalO_R hs hh hx⟩
theorem eval_v {Γ : Ctx} {ρ : Name → Loc} {M : Nat → Prop} {s : AS} {a : Act} {w : World} {e : Eff} (hs : Sim Γ ρ M s a w) (hh : s.holds e) {x : Operand} {c : Value} (h : evalO e.rd x = some (.p (.v c))) : a.eval x = c := by
  have := evalO_R hs hh h
  simp only [AV.R, PV.R] at this
  exact this.1
theorem OpOK.pickT {c x y : Operand} {v : AV} (ho : o.op = .pick c x y) (hc : evalO rd c = some (.p (.v (.bool true)))) (hx : evalO rd x = some v) : OpOK P o ⟨rd, [], v, [], []⟩ :=
  OpOK.quiet fun Γ ρ M s a w hs hh => ⟨a.eval x, by simp [execOp, ho, eval_v hs hh hc, asBool], evalO_R hs hh hx⟩
theorem OpOK.pickF {c x y : Operand} {v : AV} (ho : o.op = .pick c x y) (hc : evalO rd c = some (.p (.v (.bool false)))) (hy : evalO rd y = some v) : OpOK P o ⟨rd, [], v, [], []⟩ :=
  OpOK.quiet fun Γ ρ M s a w hs hh => ⟨a.eval y, by simp [execOp, ho, eval_v hs hh hc, asBool], evalO_R hs hh hy⟩
theorem OpOK.bin {op : BinOp} {T T' : TypeId} {x y : Operand} {c d r : Value} (ho : o.op = .binOp op T x y T') (hx : evalO rd x = some (.p (.v c))) (hy : evalO rd y = some (.p (.v d)))
    (hg : eqGuard op T x y c d = pure ()) (hr : ∀ w : World, (binOp op T c d).run P w = .ok r w) (h1 : r.oneCell' = true) : OpOK P o ⟨rd, [], .p (.v r), [], []⟩ :=
  OpOK.quiet fun Γ ρ M s a w hs hh => ⟨r, by simp [execOp, ho, eval_v hs hh hx, eval_v hs hh hy, hg, hr], by simp only [AV.R, PV.R]; exact ⟨trivial, h1⟩⟩
section ints
variable {T T' : TypeId} {x y : Operand} {k : IntKind} {a b r : Int}
theorem OpOK.add (ho : o.op = .binOp .add T x y T') (hx : evalO rd x = some (.p (.v (.int k a)))) (hy : evalO rd y = some (.p (.v (.int k b)))) (hr : k.wrap (a + b) = r) : OpOK P o ⟨rd, [], .p (.v (.int k r)), [], []⟩ :=
  OpOK.bin ho hx hy rfl (fun w => by simp [binOp, Op.intArith, hr]) rfl
theorem OpOK.sub (ho : o.op = .binOp .sub T x y T') (hx : evalO rd x = some (.p (.v (.int k a)))) (hy : evalO rd y = some (.p (.v (.int k b)))) (hr : k.wrap (a - b) = r) : OpOK P o ⟨rd, [], .p (.v (.int k r)), [], []⟩ :=
  OpOK.bin ho hx hy rfl (fun w => by simp [binOp, Op.intArith, hr]) rfl
theorem OpOK.mul (ho : o.op = .binOp .mul T x y T') (hx : evalO rd x = some (.p (.v (.int k a)))) (hy : evalO rd y = some (.p (.v (.int k b)))) (hr : k.wrap (a * b) = r) : OpOK P o ⟨rd, [], .p (.v (.int k r)), [], []⟩ :=
  OpOK.bin ho hx hy rfl (fun w => by simp [binOp, Op.intArith, hr]) rfl
theorem OpOK.quo (ho : o.op = .binOp .quo T x y T') (hx : evalO rd x = some (.p (.v (.int k a)))) (hy : evalO rd y = some (.p (.v (.int k b)))) (hb : b ≠ 0) (hr : k.wrap (a.tdiv b) = r) : OpOK P o ⟨rd, [], .p (.v (.int k r)), [], []⟩ :=
  OpOK.bin ho hx hy rfl (fun w => by simp [binOp, Op.intDiv, hr, hb]) rfl
theorem OpOK.rem (ho : o.op = .binOp .rem T x y T') (hx : evalO rd x = some (.p (.v (.int k a)))) (hy : evalO rd y = some (.p (.v (.int k b)))) (hb : b ≠ 0) (hr : a.tmod b = r) : OpOK P o ⟨rd, [], .p (.v (.int k r)), [], []⟩ :=
  OpOK.bin ho hx hy rfl (fun w => by simp [binOp, Op.intDiv, hr, hb]) rfl
variable {q : Bool}
theorem OpOK.lss (ho : o.op = .binOp .lss T x y T') (hx : evalO rd x = some (.p (.v (.int k a)))) (hy : evalO rd y = some (.p (.v (.int k b)))) (hr : decide (a < b) = q) : OpOK P o ⟨rd, [], .p (.v (.bool q)), [], []⟩ :=
  OpOK.bin ho hx hy rfl (fun w => by simp only [binOp, ne_eq, not_true_eq_false, if_false, Op.intCmp, hr]; rfl) rfl
theorem OpOK.leq (ho : o.op = .binOp .leq T x y T') (hx : evalO rd x = some (.p (.v (.int k a)))) (hy : evalO rd y = some (.p (.v (.int k b)))) (hr : decide (a ≤ b) = q) : OpOK P o ⟨rd, [], .p (.v (.bool q)), [], []⟩ :=
  OpOK.bin ho hx hy rfl (fun w => by simp only [binOp, ne_eq, not_true_eq_false, if_false, Op.intCmp, hr]; rfl) rfl
theorem OpOK.gtr (ho : o.op = .binOp .gtr T x y T') (hx : evalO rd x = some (.p (.v (.int k a)))) (hy : evalO rd y = some (.p (.v (.int k b)))) (hr : decide (b < a) = q) : OpOK P o ⟨rd, [], .p (.v (.bool q)), [], []⟩ :=
  OpOK.bin ho hx hy rfl (fun w => by simp only [binOp, ne_eq, not_true_eq_false, if_false, Op.intCmp, gt_iff_lt, hr]; rfl) rfl
theorem OpOK.geq (ho : o.op = .binOp .geq T x y T') (hx : evalO rd x = some (.p (.v (.int k a)))) (hy : evalO rd y = some (.p (.v (.int k b)))) (hr : decide (b ≤ a) = q) : OpOK P o ⟨rd, [], .p (.v (.bool q)), [], []⟩ :=
  OpOK.bin ho hx hy rfl (fun w => by simp only [binOp, ne_eq, not_true_eq_false, if_false, Op.intCmp, ge_iff_le, hr]; rfl) rfl
theorem OpOK.eqlI (ho : o.op = .binOp .eql T x y T') (hx : evalO rd x = some (.p (.v (.int k a)))) (hy : evalO rd y = some (.p (.v (.int k b)))) (hr : decide (a = b) = q) : OpOK P o ⟨rd, [], .p (.v (.bool q)), [], []⟩ :=
  OpOK.bin ho hx hy (eqGuard_at_int ..) (fun w => by rw [← hr]; simp only [binOp, ne_eq, not_true_eq_false, if_false, Op.intCmp]; rfl) rfl
theorem OpOK.neqI (ho : o.op = .binOp .neq T x y T') (hx : evalO rd x = some (.p (.v (.int k a)))) (hy : evalO rd y = some (.p (.v (.int k b)))) (hr : decide (a ≠ b) = q) : OpOK P o ⟨rd, [], .p (.v (.bool q)), [], []⟩ :=
  OpOK.bin ho hx hy (eqGuard_at_int ..) (fun w => by rw [← hr]; simp only [binOp, ne_eq, not_true_eq_false, if_false, Op.intCmp, decide_not, bne]; rfl) rfl
theorem OpOK.not {b : Bool} (ho : o.op = .unOp .not T x) (hx : evalO rd x = some (.p (.v (.bool b)))) (hr : (!b) = q) : OpOK P o ⟨rd, [], .p (.v (.bool q)), [], []⟩ :=
  OpOK.quiet fun Γ ρ M s a w hs hh => ⟨.bool q, by simp [execOp, ho, eval_v hs hh hx, Op.unary, hr], by simp only [AV.R, PV.R]; exact ⟨trivial, rfl⟩⟩
theorem OpOK.neg (ho : o.op = .unOp .neg T x) (hx : evalO rd x = some (.p (.v (.int k a)))) (hr : k.wrap (0 - a) = r) : OpOK P o ⟨rd, [], .p (.v (.int k r)), [], []⟩ :=
  OpOK.quiet fun Γ ρ M s a w hs hh => ⟨.int k r, by simp only [execOp, ho, eval_v hs hh hx, Op.unary, Op.intArith, hr]; rfl, by simp only [AV.R, PV.R]; exact ⟨trivial, rfl⟩⟩
end ints
def fieldOff (P : Program) (S : TypeId) (i : Nat) : Option Nat :=
  match P.underlying S with
  | some (.struct fields) => match fields[i]? with
    | some f => match sizeT P f.type with
      | some (_ + 1) => some f.offset
      | _ => none
    | none => none
  | _ => none
theorem run_fieldAt {S : TypeId} {i fo : Nat} (h : fieldOff P S i = some fo) (b k : Nat) (w : World) :
    (Instr.fieldAt S (.pointer (some ⟨b, k, none⟩)) i).run P w = .ok (.pointer (some ⟨b, k + fo, none⟩)) w := by
  unfold fieldOff at h
  cases hu : P.underlying S with
  | none => simp [hu] at h
  | some d =>
    cases d with
    | struct fields =>
      simp only [hu] at h
      cases hf : fields[i]? with
      | none => simp [hf] at h
      | some f =>
        simp only [hf] at h
        cases hz : sizeT P f.type with
        | none => simp [hz] at h
        | some z =>
          cases z with
          | zero => simp [hz] at h
          | succ z =>
            simp only [hz, Option.some.injEq] at h
            subst h
            simp [Instr.fieldAt, run_underlying hu, hf, Instr.sureAddr, fieldPlace, run_sizeOf hz, addr_add]
    | _ => simp [hu] at h
theorem OpOK.fieldRef {S : TypeId} {x : Operand} {i fo k k' : Nat} {n : Name} (ho : o.op = .fieldAddr S x i) (hx : evalO rd x = some (.ref n k)) (hf : fieldOff P S i = some fo) (hk : k + fo = k') {cells : List AV} :
    OpOK P o ⟨rd, [(n, .box cells)], .ref n k', [], []⟩ :=
  OpOK.quiet fun Γ ρ M s a w hs hh => by
    subst hk
    have hr := evalO_R hs hh hx
    simp only [AV.R] at hr
    obtain ⟨b, hb, hu⟩ := hr.2 cells (hh.hp n _ (by simp))
    refine ⟨.pointer (some ⟨b, k + fo, none⟩), by simp [execOp, ho, hu, run_fieldAt hf], ?_⟩
    simp only [AV.R]
    exact ⟨rfl, fun _ _ => ⟨b, hb, rfl⟩⟩
theorem OpOK.fieldPtr {S : TypeId} {x : Operand} {i fo : Nat} {cells sub : List PV} (ho : o.op = .fieldAddr S x i) (hx : evalO rd x = some (.eptr cells)) (hf : fieldOff P S i = some fo) (hsub : cells.drop fo = sub) :
    OpOK P o ⟨rd, [], .eptr sub, [], []⟩ :=
  OpOK.quiet fun Γ ρ M s a w hs hh => by
    have hr := evalO_R hs hh hx
    simp only [AV.R] at hr
    obtain ⟨⟨b, off, spot⟩, hu, hsp, hM, hlt, hc⟩ := hr
    simp only at hsp; subst hsp
    refine ⟨.pointer (some ⟨b, off + fo, none⟩), by simp [execOp, ho, hu, run_fieldAt hf], ?_⟩
    simp only [AV.R]
    exact ⟨_, rfl, rfl, hM, hlt, by rw [← hsub]; exact hc.drop fo⟩
theorem OpOK.fieldElemSh {S : TypeId} {x : Operand} {i fo len j k k' : Nat} {n : Name} (ho : o.op = .fieldAddr S x i) (hx : evalO rd x = some (.aref n len j k)) (hf : fieldOff P S i = some fo) (hk : k + fo = k') {ob : AO} {es kk : Nat} (hsh : ob.shape = some (es, kk)) (hl : Nat.beq len kk = true) :
    OpOK P o ⟨rd, [(n, ob)], .aref n len j k', [], []⟩ :=
  OpOK.quiet fun Γ ρ M s a w hs hh => by
    subst hk
    have hr := evalO_R hs hh hx
    simp only [AV.R] at hr
    have hl' := Nat.eq_of_beq_eq_true hl
    have hn := hh.hp n _ (by simp : (n, ob) ∈ _)
    obtain ⟨h1, h2⟩ := hr.2 ob es kk hn hsh
    obtain ⟨b, hb, hu⟩ := h2 hl'
    refine ⟨.pointer (some ⟨b, j * es + (k + fo), none⟩), by simp [execOp, ho, hu, run_fieldAt hf, Nat.add_assoc], ?_⟩
    simp only [AV.R]
    refine ⟨rfl, fun o' es' k' hc hs' => ?_⟩
    rw [hn] at hc; cases hc
    rw [hsh] at hs'; cases hs'
    exact ⟨h1, fun _ => ⟨b, hb, rfl⟩⟩
theorem OpOK.fieldElem {S : TypeId} {x : Operand} {i fo len j k k' : Nat} {n : Name} (ho : o.op = .fieldAddr S x i) (hx : evalO rd x = some (.aref n len j k)) (hf : fieldOff P S i = some fo) (hk : k + fo = k') {es : Nat} {rows : List (List PV)} (hl : Nat.beq len rows.length = true) :
    OpOK P o ⟨rd, [(n, .arr es rows)], .aref n len j k', [], []⟩ := OpOK.fieldElemSh ho hx hf hk rfl hl
theorem OpOK.nilCheckRef {x : Operand} {n : Name} {k : Nat} (ho : o.op = .nilCheck x) (hx : evalO rd x = some (.ref n k)) {cells : List AV} : OpOK P o ⟨rd, [(n, .box cells)], .ref n k, [], []⟩ :=
  OpOK.quiet fun Γ ρ M s a w hs hh => by
    have hr := evalO_R hs hh hx
    have hr' := hr
    simp only [AV.R] at hr'
    obtain ⟨b, hb, hu⟩ := hr'.2 cells (hh.hp n _ (by simp))
    exact ⟨.pointer (some ⟨b, k, none⟩), by simp [execOp, ho, hu], by rw [← hu]; exact hr⟩
theorem OpOK.nilCheckPtr {x : Operand} {cells : List PV} (ho : o.op = .nilCheck x) (hx : evalO rd x = some (.eptr cells)) : OpOK P o ⟨rd, [], .eptr cells, [], []⟩ :=
  OpOK.quiet fun Γ ρ M s a w hs hh => by
    have hr := evalO_R hs hh hx
    have hr' := hr
    simp only [AV.R] at hr'
    obtain ⟨ad, hu, _⟩ := hr'
    exact ⟨.pointer (some ad), by simp [execOp, ho, hu], by rw [← hu]; exact hr⟩
theorem OpOK.nilCheckSh {x : Operand} {n : Name} {len j k es kk : Nat} {ob : AO} (ho : o.op = .nilCheck x) (hx : evalO rd x = some (.aref n len j k)) (hsh : ob.shape = some (es, kk)) (hl : Nat.beq len kk = true) : OpOK P o ⟨rd, [(n, ob)], .aref n len j k, [], []⟩ :=
  OpOK.quiet fun Γ ρ M s a w hs hh => by
    have hr := evalO_R hs hh hx
    have hr' := hr
    simp only [AV.R] at hr'
    obtain ⟨b, hb, hu⟩ := (hr'.2 ob es kk (hh.hp n _ (by simp)) hsh).2 (Nat.eq_of_beq_eq_true hl)
    exact ⟨.pointer (some ⟨b, j * es + k, none⟩), by simp [execOp, ho, hu], by rw [← hu]; exact hr⟩
theorem OpOK.nilCheckElem {x : Operand} {n : Name} {len j k es : Nat} {rows : List (List PV)} (ho : o.op = .nilCheck x) (hx : evalO rd x = some (.aref n len j k)) (hl : Nat.beq len rows.length = true) : OpOK P o ⟨rd, [(n, .arr es rows)], .aref n len j k, [], []⟩ :=
  OpOK.nilCheckSh ho hx rfl hl
theorem OpOK.loadBoxAgg {T : TypeId} {x : Operand} {n : Name} {k z : Nat} {cells sub : List AV} (ho : o.op = .load T x) (hx : evalO rd x = some (.ref n k)) (hT : aggT P T = true) (hz : sizeT P T = some z)
    (hsub : (cells.drop k).take z = sub) (hl : sub.length = z) : OpOK P o ⟨rd, [(n, .box cells)], .agg sub, [], []⟩ :=
  OpOK.quiet fun Γ ρ M s a w hs hh => by
    have hr := evalO_R hs hh hx
    simp only [AV.R] at hr
    have hn := hh.hp n _ (by simp : (n, AO.box cells) ∈ _)
    obtain ⟨b, hb, hu⟩ := hr.2 cells hn
    obtain ⟨b', us, g1, g2, g3⟩ := box_cells (hs.objs n _ hn)
    have e : b' = b := by rw [g1] at hb; simpa using hb
    subst e
    have g4 := (g2.drop k).take z
    rw [hsub] at g4
    refine ⟨.agg ((us.drop k).take z).toArray, ?_, by simp only [AV.R]; exact ⟨_, rfl, by simpa using g4⟩⟩
    have := run_loadVar_agg (P := P) (w := w) (a := ⟨b', k, none⟩) (us := (us.drop k).take z) hT (by rw [hz, g4.length, hl]) (fun j v hj => by
      rw [addr_add]
      refine g3 (k + j) v ?_
      rw [List.getElem?_take] at hj
      split at hj
      · simpa using hj
      · simp at hj)
    simp [execOp, ho, hu, Instr.loadAt, Instr.sureAddr, this]
theorem OpOK.loadBox {T : TypeId} {x : Operand} {n : Name} {k : Nat} {cells : List AV} {c : AV} (ho : o.op = .load T x) (hx : evalO rd x = some (.ref n k)) (hT : flatT P T = true)
    (hc : cells[k]? = some c) : OpOK P o ⟨rd, [(n, .box cells)], c, [], []⟩ :=
  OpOK.quiet fun Γ ρ M s a w hs hh => by
    have hr := evalO_R hs hh hx
    simp only [AV.R] at hr
    have hn := hh.hp n _ (by simp : (n, AO.box cells) ∈ _)
    obtain ⟨b, hb, hu⟩ := hr.2 cells hn
    obtain ⟨b', us, g1, g2, g3⟩ := box_cells (hs.objs n _ hn)
    have e : b' = b := by rw [g1] at hb; simpa using hb
    subst e
    obtain ⟨u, k1, k2, k3⟩ := g2.get k c hc
    exact ⟨u, by simp [execOp, ho, hu, Instr.loadAt, Instr.sureAddr, run_loadVar_flat hT (g3 k u k1)], k3⟩
theorem OpOK.loadPtrAgg {T : TypeId} {x : Operand} {z : Nat} {cells sub : List PV} {sub' : List AV} (ho : o.op = .load T x) (hx : evalO rd x = some (.eptr cells)) (hT : aggT P T = true) (hz : sizeT P T = some z)
    (hsub : cells.take z = sub) (hl : sub.length = z) (hs' : pcells sub = sub') : OpOK P o ⟨rd, [], .agg sub', [], []⟩ :=
  OpOK.quiet fun Γ ρ M s a w hs hh => by
    subst hs'
    have hr := evalO_R hs hh hx
    simp only [AV.R] at hr
    obtain ⟨⟨b, off, spot⟩, hu, hsp, hM, hlt, hc⟩ := hr
    simp only at hsp; subst hsp
    have hc' := hc.take z
    rw [hsub] at hc'
    obtain ⟨us, g1, g2⟩ := Rs_of_Cells (ρ := ρ) (H := s.heap) hc'
    refine ⟨.agg us.toArray, ?_, by simp only [AV.R]; exact ⟨_, rfl, by simpa using g1⟩⟩
    have := run_loadVar_agg (P := P) (w := w) (a := ⟨b, off, none⟩) (us := us) hT (by rw [hz, g1.length]; simp [pcells, hl]) (fun j v hj => by rw [addr_add]; exact g2 j v hj)
    simp [execOp, ho, hu, Instr.loadAt, Instr.sureAddr, this]
theorem OpOK.loadPtr {T : TypeId} {x : Operand} {cells : List PV} {c : PV} (ho : o.op = .load T x) (hx : evalO rd x = some (.eptr cells)) (hT : flatT P T = true)
    (hc0 : cells[0]? = some c) : OpOK P o ⟨rd, [], .p c, [], []⟩ :=
  OpOK.quiet fun Γ ρ M s a w hs hh => by
    have hr := evalO_R hs hh hx
    simp only [AV.R] at hr
    obtain ⟨⟨b, off, spot⟩, hu, hsp, hM, hlt, hc⟩ := hr
    simp only at hsp; subst hsp
    obtain ⟨u, k1, k2⟩ := hc.get 0 c hc0
    simp only [Nat.add_zero] at k1
    exact ⟨u, by simp [execOp, ho, hu, Instr.loadAt, Instr.sureAddr, run_loadVar_flat hT k1], by simpa only [AV.R] using k2⟩
theorem arr_row {ρ : Name → Loc} {H : Heap} {M : Nat → Prop} {w : World} {n : Name} {es : Nat} {rows : List (List PV)} (h : ObjAt ρ H M w n (.arr es rows)) {b : Nat} (hb : (ρ n).base = some ⟨b, 0, none⟩) {i : Nat} {row : List PV} (hi : rows[i]? = some row) :
    row.length = es ∧ PV.Cells M w b (i * es) row := by
  obtain ⟨h0, h1, h2⟩ := h
  have hlt : i < rows.length := by
    rcases Nat.lt_or_ge i rows.length with h' | h'
    · exact h'
    · rw [List.getElem?_eq_none h'] at hi; simp at hi
  rcases h2 with h2 | ⟨b', T, cs, h3, h4, h5, h6, h7⟩
  · omega
  · rw [hb] at h3
    simp at h3; subst h3
    have := h7.get i row hi
    simpa using this
theorem OpOK.loadElemAgg {T : TypeId} {x : Operand} {n : Name} {len i k z es : Nat} {rows : List (List PV)} {row sub : List PV} (ho : o.op = .load T x) (hx : evalO rd x = some (.aref n len i k)) (hT : aggT P T = true) (hz : sizeT P T = some z)
    (hlen : Nat.beq len rows.length = true) (hi : rows[i]? = some row) (hsub : (row.drop k).take z = sub) (hl : sub.length = z) {sub' : List AV} (hs' : pcells sub = sub') : OpOK P o ⟨rd, [(n, .arr es rows)], .agg sub', [], []⟩ :=
  OpOK.quiet fun Γ ρ M s a w hs hh => by
    subst hs'
    have hr := evalO_R hs hh hx
    simp only [AV.R] at hr
    have hn := hh.hp n _ (by simp : (n, AO.arr es rows) ∈ _)
    obtain ⟨b, hb, hu⟩ := (hr.2 _ es rows.length hn rfl).2 (Nat.eq_of_beq_eq_true hlen)
    obtain ⟨_, hc⟩ := arr_row (hs.objs n _ hn) hb hi
    have hc' := (hc.drop k).take z
    rw [hsub] at hc'
    obtain ⟨us, g1, g2⟩ := Rs_of_Cells (ρ := ρ) (H := s.heap) hc'
    refine ⟨.agg us.toArray, ?_, by simp only [AV.R]; exact ⟨_, rfl, by simpa using g1⟩⟩
    have := run_loadVar_agg (P := P) (w := w) (a := ⟨b, i * es + k, none⟩) (us := us) hT (by rw [hz, g1.length]; simp [pcells, hl]) (fun j v hj => by rw [addr_add]; exact g2 j v hj)
    simp [execOp, ho, hu, Instr.loadAt, Instr.sureAddr, this]
theorem OpOK.loadElem {T : TypeId} {x : Operand} {n : Name} {len i k es : Nat} {rows : List (List PV)} {row : List PV} {c : PV} (ho : o.op = .load T x) (hx : evalO rd x = some (.aref n len i k)) (hT : flatT P T = true)
    (hlen : Nat.beq len rows.length = true) (hi : rows[i]? = some row) (hc0 : row[k]? = some c) : OpOK P o ⟨rd, [(n, .arr es rows)], .p c, [], []⟩ :=
  OpOK.quiet fun Γ ρ M s a w hs hh => by
    have hr := evalO_R hs hh hx
    simp only [AV.R] at hr
    have hn := hh.hp n _ (by simp : (n, AO.arr es rows) ∈ _)
    obtain ⟨b, hb, hu⟩ := (hr.2 _ es rows.length hn rfl).2 (Nat.eq_of_beq_eq_true hlen)
    obtain ⟨_, hc⟩ := arr_row (hs.objs n _ hn) hb hi
    obtain ⟨u, k1, k2⟩ := hc.get k c hc0
    exact ⟨u, by simp [execOp, ho, hu, Instr.loadAt, Instr.sureAddr, run_loadVar_flat hT k1], by simpa only [AV.R] using k2⟩
def elemT (P : Program) (T : TypeId) : Option TypeId := match P.underlying T with | some (.slice e) => some e | _ => none
theorem elemT_spec {T e : TypeId} (h : elemT P T = some e) : P.underlying T = some (.slice e) := by
  unfold elemT at h
  split at h
  · rename_i h'; cases h; exact h'
  · simp at h
theorem OpOK.indexP {T e : TypeId} {x y : Operand} {f : Bool} {es i : Nat} {rows : List (List PV)} {row : List PV} {k : IntKind} {j : Int} (ho : o.op = .indexAddr T x y) (hT : elemT P T = some e) (hz : sizeT P e = some es)
    (hx : evalO rd x = some (.p (.sl f es rows))) (hy : evalO rd y = some (.p (.v (.int k j)))) (hj : j = (i : Int)) (hi : rows[i]? = some row) : OpOK P o ⟨rd, [], .eptr row, [], []⟩ :=
  OpOK.quiet fun Γ ρ M s a w hs hh => by
    have hr := evalO_R hs hh hx
    simp only [AV.R, PV.R] at hr
    obtain ⟨ad, cap, hu, h2, h3, h4, h5⟩ := hr
    have hlt : i < rows.length := by
      rcases Nat.lt_or_ge i rows.length with h' | h'
      · exact h'
      · rw [List.getElem?_eq_none h'] at hi; simp at hi
    cases ad with
    | none => have := h4 rfl; omega
    | some ad =>
      obtain ⟨g1, g2, g3, g4⟩ := h5 ad rfl (by omega)
      obtain ⟨b, off, spot⟩ := ad
      simp only at g1; subst g1
      refine ⟨.pointer (some ⟨b, off + i * es, none⟩), ?_, ?_⟩
      · simp [execOp, ho, hu, eval_v hs hh hy, Instr.indexAt, asIntOf, run_underlying (elemT_spec hT), hj, hlt, run_sizeOf hz, addr_add]
      · simp only [AV.R]
        exact ⟨_, rfl, rfl, g2, g3, (g4.get i row hi).2⟩
theorem OpOK.indexOwn {T e : TypeId} {x y : Operand} {n : Name} {len es i : Nat} {rows : List (List PV)} {k : IntKind} {j : Int} (ho : o.op = .indexAddr T x y) (hT : elemT P T = some e) (hz : sizeT P e = some es)
    (hx : evalO rd x = some (.own n len)) (hlen : Nat.beq len rows.length = true) (hy : evalO rd y = some (.p (.v (.int k j)))) (hj : j = (i : Int)) (hi : i < rows.length) : OpOK P o ⟨rd, [(n, .arr es rows)], .aref n len i 0, [], []⟩ :=
  OpOK.quiet fun Γ ρ M s a w hs hh => by
    have hr := evalO_R hs hh hx
    simp only [AV.R] at hr
    have hn := hh.hp n _ (by simp : (n, AO.arr es rows) ∈ _)
    have hle := Nat.eq_of_beq_eq_true hlen
    have hu := (hr.2 _ es rows.length hn rfl).2 hle
    obtain ⟨h0, h1, h2⟩ := hs.objs n _ hn
    rcases h2 with h2 | ⟨b, T', cs, h3, h4, h5, h6, h7⟩
    · omega
    · refine ⟨.pointer (some ⟨b, i * es, none⟩), ?_, ?_⟩
      · simp [execOp, ho, hu, h3, eval_v hs hh hy, Instr.indexAt, asIntOf, run_underlying (elemT_spec hT), hj, hle, hi, run_sizeOf hz, addr_add]
      · simp only [AV.R]
        refine ⟨rfl, fun o' es' k' hc hs' => ?_⟩
        rw [hn] at hc; cases hc
        cases hs'
        exact ⟨by omega, fun _ => ⟨b, h3, by simp⟩⟩
theorem OpOK.lenP {T e : TypeId} {x : Operand} {ats : Array TypeId} {f : Bool} {es : Nat} {rows : List (List PV)} {r : Int} (ho : o.op = .call { callee := .builtin .len, args := #[x], argTypes := ats }) (hat : ats[0]? = some T) (hT : elemT P T = some e)
    (hx : evalO rd x = some (.p (.sl f es rows))) (hr : (rows.length : Int) = r) : OpOK P o ⟨rd, [], .p (.v (.int .i64 r)), [], []⟩ :=
  OpOK.quiet fun Γ ρ M s a w hs hh => by
    have hr' := evalO_R hs hh hx
    simp only [AV.R, PV.R] at hr'
    obtain ⟨ad, cap, hu, h2, h3, h4, h5⟩ := hr'
    refine ⟨.int .i64 r, ?_, by simp only [AV.R, PV.R]; exact ⟨trivial, rfl⟩⟩
    simp [execOp, ho, resolve, invoke, builtin, Builtin.len_, hat, hu, run_underlying (elemT_spec hT), goInt, hr]
theorem OpOK.lenOwn {T e : TypeId} {x : Operand} {ats : Array TypeId} {n : Name} {len es : Nat} {rows : List (List PV)} {r : Int} (ho : o.op = .call { callee := .builtin .len, args := #[x], argTypes := ats }) (hat : ats[0]? = some T) (hT : elemT P T = some e)
    (hx : evalO rd x = some (.own n len)) (hlen : Nat.beq len rows.length = true) (hr : (rows.length : Int) = r) : OpOK P o ⟨rd, [(n, .arr es rows)], .p (.v (.int .i64 r)), [], []⟩ :=
  OpOK.quiet fun Γ ρ M s a w hs hh => by
    have hr' := evalO_R hs hh hx
    simp only [AV.R] at hr'
    have hle := Nat.eq_of_beq_eq_true hlen
    have hu := (hr'.2 (.arr es rows) es rows.length (hh.hp n _ (by simp)) rfl).2 hle
    refine ⟨.int .i64 r, ?_, by simp only [AV.R, PV.R]; exact ⟨trivial, rfl⟩⟩
    simp [execOp, ho, resolve, invoke, builtin, Builtin.len_, hat, hu, run_underlying (elemT_spec hT), goInt, hle, hr]
theorem OpOK.extract {x : Operand} {i : Nat} {vs : List AV} {v : AV} (ho : o.op = .extract x i) (hx : evalO rd x = some (.tup vs)) (hv : vs[i]? = some v) : OpOK P o ⟨rd, [], v, [], []⟩ :=
  OpOK.quiet fun Γ ρ M s a w hs hh => by
    have hr := evalO_R hs hh hx
    simp only [AV.R] at hr
    obtain ⟨us, hu, h2⟩ := hr
    obtain ⟨u, g1, g2⟩ := h2.get.2 i v hv
    have g3 : us[i]? = some u := by simpa using g1
    refine ⟨u, ?_, g2⟩
    simp only [execOp, ho, hu, Instr.extract]
    simp [g3]
end
end Go.Proofs.YtfhcigjkfelnfaaGreat.AM
/-
  The abstract machine, part G: operations that make or write memory. No project text.
-/
set_option linter.unusedSimpArgs false
set_option linter.unusedVariables false
namespace Go.Proofs.YtfhcigjkfelnfaaGreat.AM
open Go
theorem Ext.alloc (w : World) (o : Obj) : Ext (fun _ => False) w (w.alloc o) :=
  ⟨by simp, fun b hb _ => by
    show (w.heap.push o)[b]? = w.heap[b]?
    rw [Array.getElem?_push, if_neg (Nat.ne_of_lt hb)], rfl, rfl⟩
theorem Ext.drew (w : World) : Ext (fun _ => False) w w.drew := ⟨Nat.le_refl _, fun _ _ _ => rfl, rfl, rfl⟩
theorem heap_alloc_new (w : World) (o : Obj) : (w.alloc o).heap[w.heap.size]? = some o := by
  show (w.heap.push o)[w.heap.size]? = some o
  simp
def cellsAV : AV → Option (List AV)
  | .agg cs => some cs
  | .tup _ => none
  | x => some [x]
section
variable {ρ : Name → Loc} {H : Heap} {M : Nat → Prop} {w : World}
theorem flat_cells {u : Value} (h : u.oneCell' = true) : u.cells = #[u] := by cases u <;> first | rfl | (simp [Value.oneCell'] at h)
theorem cellsAV_R {x : AV} {cs : List AV} {u : Value} (h : cellsAV x = some cs) (hr : x.R ρ H M w u) : AV.Rs ρ H M w cs u.cells.toList := by
  have single : ∀ y : AV, y.R ρ H M w u → u.oneCell' = true → AV.Rs ρ H M w [y] u.cells.toList := fun y hy h1 => by
    rw [flat_cells h1]; simp only [AV.Rs]; exact ⟨u, [], rfl, h1, hy, rfl⟩
  cases x with
  | agg cs' => simp only [cellsAV, Option.some.injEq] at h; subst h; simp only [AV.R] at hr; obtain ⟨us, rfl, h2⟩ := hr; exact h2
  | tup vs => simp [cellsAV] at h
  | p y => simp only [cellsAV, Option.some.injEq] at h; subst h; exact single _ hr (by simp only [AV.R] at hr; exact hr.flat)
  | ref n k => simp only [cellsAV, Option.some.injEq] at h; subst h; exact single _ hr (by simp only [AV.R] at hr; exact hr.1)
  | own n k => simp only [cellsAV, Option.some.injEq] at h; subst h; exact single _ hr (by simp only [AV.R] at hr; exact hr.1)
  | aref n a b c => simp only [cellsAV, Option.some.injEq] at h; subst h; exact single _ hr (by simp only [AV.R] at hr; exact hr.1)
  | view n a b c => simp only [cellsAV, Option.some.injEq] at h; subst h; exact single _ hr (by simp only [AV.R] at hr; exact hr.1)
  | eptr cells => simp only [cellsAV, Option.some.injEq] at h; subst h; exact single _ hr (by simp only [AV.R] at hr; obtain ⟨ad, rfl, _⟩ := hr; rfl)
  | clo f a b => simp only [cellsAV, Option.some.injEq] at h; subst h; exact single _ hr (by simp only [AV.R] at hr; obtain ⟨a, c, rfl, _⟩ := hr; rfl)
  | oref b n => simp only [cellsAV, Option.some.injEq] at h; subst h; exact single _ hr (by simp only [AV.R] at hr; exact hr.1)
  | err b => simp only [cellsAV, Option.some.injEq] at h; subst h; exact single _ hr (by simp only [AV.R] at hr; exact hr.1)
  | ub => simp only [cellsAV, Option.some.injEq] at h; subst h; exact single _ hr (by simp only [AV.R] at hr; obtain ⟨q, rfl⟩ := hr; rfl)
  | any => simp only [cellsAV, Option.some.injEq] at h; subst h; exact single _ hr (by simpa only [AV.R] using hr)
theorem hasL_cells {x : AV} {cs : List AV} {n : Name} (h : cellsAV x = some cs) (hn : x.has n = false) : AV.hasL n cs = false := by
  cases x <;> simp only [cellsAV, Option.some.injEq, reduceCtorEq] at h <;> subst h <;> simp_all [AV.has, AV.hasL]
end
theorem has_const {c : Value} {x : AV} (h : constAV c = some x) (n : Name) : x.has n = false := by
  have hc : ∀ c : Value, (constCell c).has n = false := fun c => by unfold constCell; split <;> rfl
  have hcs : ∀ l : List Value, AV.hasL n (l.map constCell) = false := fun l => by
    induction l with
    | nil => rfl
    | cons y l ih => simp [AV.hasL, hc, ih]
  unfold constAV at h
  split at h
  · split at h
    · cases h; simp only [AV.has]; exact hcs _
    · simp at h
  · split at h
    · cases h; exact hc _
    · simp at h
theorem evalO_free {s : AS} {e : Eff} (hh : s.holds e) {x : Operand} {y : AV} (h : evalO e.rd x = some y) {n : Name} (hn : s.free n) : y.has n = false := by
  cases x with
  | tmp t => exact hn.1 t y (hh.rd t y (look_mem h))
  | const c => exact has_const h n
  | global g => simp only [evalO, Option.some.injEq] at h; subst h; rfl
  | func f => simp only [evalO, Option.some.injEq] at h; subst h; rfl
theorem Sim.mkBox {Γ : Ctx} {ρ : Name → Loc} {M : Nat → Prop} {s : AS} {a : Act} {w : World} (h : Sim Γ ρ M s a w) {n : Name} (hn : s.heap n = none) (hf : s.free n) {cells : List AV} {us : List Value}
    (hr : AV.Rs ρ s.heap M w cells us) (hc : AV.hasL n cells = false) (T : TypeId) :
    Sim Γ (fun m => if m = n then ⟨some ⟨w.heap.size, 0, none⟩, 1⟩ else ρ m) (fun b => M b ∨ b = w.heap.size) ⟨s.slot, fun m => if m = n then some (.box cells) else s.heap m⟩ a (w.alloc (.cells us.toArray T)) := by
  have he := Ext.alloc w (.cells us.toArray T)
  refine h.update1 (he.weaken fun _ _ hb => hb.elim) (fun b hb => .inl hb) (fun b hb => hb.imp id (fun e => by omega)) (fun b hb => ?_) (fun o' ho' => by rw [hn] at ho'; simp at ho') (fun _ => hf) ?_ (fun b hb => .inr ?_)
  · rcases hb with hb | hb
    · have := h.msize b hb; simp; omega
    · simp [hb]
  · refine ⟨w.heap.size, T, us.toArray, by simp, .inr rfl, heap_alloc_new w _, ?_⟩
    refine AV.Rs.step (B := fun _ => False) he (fun _ hb => hb.elim) (fun b hb hb' => hb'.resolve_right (by omega)) (fun m o hm => ?_) (fun m hm hmn => ?_) (by simpa using hr)
    · by_cases e : m = n
      · subst e; rw [hn] at hm; simp at hm
      · simp only [e, if_false, hm]; exact stays_refl _ _
    · by_cases e : m = n
      · subst e; rw [hc] at hm; simp at hm
      · simp [e, hmn]
  · simp [Loc.blk] at hb; omega
section
variable {P : Program} {o : Oper} {rd : List (Nat × AV)}
def zeroAV (P : Program) (T : TypeId) : Option (List AV) := match P.info? T with
  | some i => match i.zero with
    | some z => if z.cells.toList.all (fun c => c.oneCell') then some (z.cells.toList.map constCell) else none
    | none => none
  | none => none
theorem zeroAV_spec {T : TypeId} {cs : List AV} (h : zeroAV P T = some cs) : ∃ i z, P.info? T = some i ∧ i.zero = some z ∧ (∀ c ∈ z.cells.toList, c.oneCell' = true) ∧ cs = z.cells.toList.map constCell := by
  unfold zeroAV at h
  split at h
  · rename_i i hi
    split at h
    · rename_i z hz
      split at h
      · rename_i hall; cases h; exact ⟨i, z, hi, hz, List.all_eq_true.1 hall, rfl⟩
      · simp at h
    · simp at h
  · simp at h
theorem run_zeroValue {T : TypeId} {i : TypeInfo} {z : Value} (hi : P.info? T = some i) (hz : i.zero = some z) (w : World) : (zeroValue T).run P w = .ok z w := by
  simp [zeroValue, typeInfo, hi, hz]
theorem hasL_consts (n : Name) (l : List Value) : AV.hasL n (l.map constCell) = false := by
  have hc : ∀ c : Value, (constCell c).has n = false := fun c => by unfold constCell; split <;> rfl
  induction l with
  | nil => rfl
  | cons y l ih => simp [AV.hasL, hc, ih]
theorem OpOK.mk {hp : List (Name × AO)} {v : AV} {n : Name} {ob : AO}
    (h : ∀ (Γ : Ctx) (ρ : Name → Loc) (M : Nat → Prop) (s : AS) (a : Act) (w : World), Sim Γ ρ M s a w → s.holds ⟨rd, hp, v, [(n, ob)], [n]⟩ → ∃ u w' ρ' M', (execOp a.eval o).run P w = .ok (.value u) w' ∧
      Sim Γ ρ' M' ⟨s.slot, fun m => if m = n then some ob else s.heap m⟩ a w' ∧ v.R ρ' (fun m => if m = n then some ob else s.heap m) M' w' u) : OpOK P o ⟨rd, hp, v, [(n, ob)], [n]⟩ := by
  intro Γ ρ M s a w K Q hs hh hd hK
  obtain ⟨u, w', ρ', M', h1, h2, h3⟩ := h Γ ρ M s a w hs hh
  unfold Oper.wp
  rw [h1, Oper.upon_value]
  refine hK ρ' M' _ w' ((h2.put hd (fun _ => h3)).congr (fun t => rfl) (fun m => ?_))
  simp only [AS.run, AS.set, look]
  by_cases e : n = m
  · subst e; simp
  · simp [e, Ne.symm e]
theorem OpOK.alloc {T : TypeId} {n : Name} {cs : List AV} (ho : o.op = .alloc T) (hz : zeroAV P T = some cs) : OpOK P o ⟨rd, [], .ref n 0, [(n, .box cs)], [n]⟩ :=
  OpOK.mk fun Γ ρ M s a w hs hh => by
    obtain ⟨i, z, hi, hz', hall, rfl⟩ := zeroAV_spec hz
    obtain ⟨hn, hf⟩ := hh.nw n (by simp)
    refine ⟨.pointer (some ⟨w.heap.size, 0, none⟩), w.alloc (.cells z.cells T), _, _, ?_, hs.mkBox hn hf (constCells_R hall) (hasL_consts n _) T, ?_⟩
    · simp [execOp, ho, Instr.alloc, run_zeroValue hi hz', newVar, newRow]
    · simp only [AV.R]; exact ⟨rfl, fun _ _ => ⟨w.heap.size, by simp, rfl⟩⟩
theorem OpOK.box {T : TypeId} {x : Operand} {n : Name} {v : AV} {cs : List AV} (ho : o.op = .box T x) (hx : evalO rd x = some v) (hc : cellsAV v = some cs) : OpOK P o ⟨rd, [], .ref n 0, [(n, .box cs)], [n]⟩ :=
  OpOK.mk fun Γ ρ M s a w hs hh => by
    obtain ⟨hn, hf⟩ := hh.nw n (by simp)
    have hr := cellsAV_R hc (evalO_R hs hh hx)
    refine ⟨.pointer (some ⟨w.heap.size, 0, none⟩), w.alloc (.cells (a.eval x).cells T), _, _, ?_, hs.mkBox hn hf hr (hasL_cells hc (evalO_free hh hx hf)) T, ?_⟩
    · simp [execOp, ho, Instr.box, newVar, newRow]
    · simp only [AV.R]; exact ⟨rfl, fun _ _ => ⟨w.heap.size, by simp, rfl⟩⟩
theorem OpOK.wr {hp : List (Name × AO)} {n : Name} {ob : AO} (hdst : o.dst = none)
    (h : ∀ (Γ : Ctx) (ρ : Name → Loc) (M : Nat → Prop) (s : AS) (a : Act) (w : World), Sim Γ ρ M s a w → s.holds ⟨rd, hp, .any, [(n, ob)], []⟩ → ∃ w' ρ' M', (execOp a.eval o).run P w = .ok .skip w' ∧
      Sim Γ ρ' M' ⟨s.slot, fun m => if m = n then some ob else s.heap m⟩ a w') : OpOK P o ⟨rd, hp, .any, [(n, ob)], []⟩ := by
  intro Γ ρ M s a w K Q hs hh hd hK
  obtain ⟨w', ρ', M', h1, h2⟩ := h Γ ρ M s a w hs hh
  unfold Oper.wp
  rw [h1, Oper.upon_skip]
  refine hK ρ' M' _ w' ((h2.put (dst := o.dst) (x := .any) (u := undef) hd (fun hne => absurd hdst hne)).congr (fun t => rfl) (fun m => ?_))
  simp only [AS.run, AS.set, look]
  by_cases e : n = m
  · subst e; simp
  · simp [e, Ne.symm e]
def setAt {α : Type} (cs : List α) (k : Nat) (vs : List α) : List α := cs.take k ++ vs ++ cs.drop (k + vs.length)
theorem Rs_one {ρ : Name → Loc} {H : Heap} {M : Nat → Prop} {w : World} : ∀ {xs : List AV} {us : List Value}, AV.Rs ρ H M w xs us → ∀ u ∈ us, u.oneCell' = true
  | [], us, h, u, hu => by simp only [AV.Rs] at h; subst h; simp at hu
  | x :: xs, us, h, u, hu => by
    simp only [AV.Rs] at h
    obtain ⟨v, us', rfl, h2, h3, h4⟩ := h
    rcases List.mem_cons.1 hu with rfl | hu
    · exact h2
    · exact Rs_one h4 u hu
theorem run_storeVar {T : TypeId} {b k : Nat} {t : TypeId} {cur : Array Value} {u : Value} {w : World} (hz : sizeT P T = some u.cells.size) (hb : w.heap[b]? = some (.cells cur t (0, 0))) (hl : k + u.cells.size ≤ cur.size) (h1 : ∀ v ∈ u.cells.toList, v.oneCell' = true) :
    (storeVar T ⟨b, k, none⟩ u).run P w = .ok () (w.setRow b (setAt cur.toList k u.cells.toList).toArray) := by
  have := run_storeCells_at (P := P) b k t u.cells.toList 0 cur w hb (by simpa using hl) h1
  simp only [Nat.add_zero] at this
  unfold storeVar
  simp only [Sem.run_bind, run_sizeOf hz, Result.andThen_ok, ne_eq, not_true_eq_false, if_false, setAt]
  simpa using this
theorem OpOK.storeBox {T : TypeId} {x y : Operand} {n : Name} {k : Nat} {cells vs cells' : List AV} {v : AV} (hdst : o.dst = none) (ho : o.op = .store T x y) (hx : evalO rd x = some (.ref n k)) (hy : evalO rd y = some v) (hv : cellsAV v = some vs)
    (hz : sizeT P T = some vs.length) (hl : Nat.ble (k + vs.length) cells.length = true) (hc : setAt cells k vs = cells') : OpOK P o ⟨rd, [(n, .box cells)], .any, [(n, .box cells')], []⟩ :=
  OpOK.wr hdst fun Γ ρ M s a w hs hh => by
    have hr := evalO_R hs hh hx
    simp only [AV.R] at hr
    have hn := hh.hp n _ (by simp : (n, AO.box cells) ∈ _)
    obtain ⟨b, hb, hu⟩ := hr.2 cells hn
    have hobj := hs.objs n _ hn
    obtain ⟨b', t, cs, g1, g2, g3, g4⟩ := hobj
    have e : b' = b := by rw [g1] at hb; simpa using hb
    subst e
    have hvs := cellsAV_R hv (evalO_R hs hh hy)
    have hlen := hvs.length
    have hlen2 := g4.length
    have hl' := Nat.le_of_ble_eq_true hl
    simp only [Array.length_toList] at hlen hlen2
    have hrun := run_storeVar (P := P) (T := T) (b := b') (k := k) (u := a.eval y) (w := w) (by rw [hz, hlen]) g3 (by omega) (Rs_one hvs)
    refine ⟨w.setRow b' (setAt cs.toList k (a.eval y).cells.toList).toArray, (fun m => if m = n then ρ n else ρ m), M, ?_, ?_⟩
    · simp [execOp, ho, hu, Instr.storeAt, Instr.sureAddr, hrun]
    · have hblk : (ρ n).blk = some b' := by rw [g1]; simp [Loc.blk]
      have he : Ext (fun b => b = b') w (w.setRow b' (setAt cs.toList k (a.eval y).cells.toList).toArray) := ⟨by simp [World.setRow], fun b hb hne => setRow_other w b' b _ hne, rfl, rfl⟩
      have hM : M b' := g2
      refine hs.update1 (he.weaken fun b _ hb => ⟨by rw [hblk, hb], by rw [hn]; simp⟩) (fun _ hb => hb) (fun _ hb => .inl hb) (fun b hb => Nat.lt_of_lt_of_le (hs.msize b hb) he.size)
        (fun o' ho' => by rw [hn] at ho'; cases ho'; simp [stays]) (fun h0 => by rw [hn] at h0; simp at h0) ?_ (fun b hb => .inl ⟨_, hn, hb⟩)
      refine ⟨b', t, _, by simp [g1], hM, setRow_heap w b' cs _ t (0, 0) g3, ?_⟩
      rw [← hc]
      have hst : HStep ρ s.heap (fun m => if m = n then ρ n else ρ m) (fun m => if m = n then some (.box (setAt cells k vs)) else s.heap m) := fun m o' hm => by
        by_cases e : m = n
        · subst e; rw [hn] at hm; cases hm; simp [stays]
        · simp only [e, if_false, hm]; exact stays_refl _ _
      have hnn : ∀ m, s.heap m = none → (if m = n then some (AO.box (setAt cells k vs)) else s.heap m) = none := fun m hm => by
        by_cases e : m = n
        · subst e; rw [hn] at hm; simp at hm
        · simp [e, hm]
      have r1 := (g4.take k).step he (fun b hb => by rw [hb]; exact hM) (fun b _ hb => hb) hst (fun m _ => hnn m)
      have r2 := hvs.step he (fun b hb => by rw [hb]; exact hM) (fun b _ hb => hb) hst (fun m _ => hnn m)
      have r3 := (g4.drop (k + vs.length)).step he (fun b hb => by rw [hb]; exact hM) (fun b _ hb => hb) hst (fun m _ => hnn m)
      have := (r1.append r2).append r3
      have hL : (a.eval y).cells.toList.length = vs.length := by simpa using hlen
      simp only [setAt, hL] at this ⊢
      exact this
def pureL : List AV → Option (List PV)
  | [] => some []
  | .p x :: r => match pureL r with
    | some xs => some (x :: xs)
    | none => none
  | _ :: _ => none
theorem pureL_spec : ∀ {l : List AV} {ps : List PV}, pureL l = some ps → l = pcells ps
  | [], ps, h => by simp only [pureL, Option.some.injEq] at h; subst h; rfl
  | x :: r, ps, h => by
    cases x with
    | p x =>
      simp only [pureL] at h
      split at h
      · rename_i xs hxs; cases h; rw [pureL_spec hxs]; rfl
      · simp at h
    | _ => simp [pureL] at h
def putRows (rd : List (Nat × AV)) (es : Nat) : List (Nat × Operand) → List (List PV) → Option (List (List PV))
  | [], rows => some rows
  | (i, x) :: r, rows => match evalO rd x with
    | some y => match cellsAV y with
      | some cs => match pureL cs with
        | some ps => if Nat.beq ps.length es && Nat.blt i rows.length then putRows rd es r (rows.set i ps) else none
        | none => none
      | none => none
    | none => none
theorem fold_set (off : Nat) : ∀ (vs : List Value) (k : Nat) (cs : Array Value), off + k + vs.length ≤ cs.size →
    ((vs.zipIdx k).foldl (fun (acc : Array Value) (p : Value × Nat) => acc.setIfInBounds (off + p.2) p.1) cs).toList = setAt cs.toList (off + k) vs
  | [], k, cs, _ => by simp [setAt]
  | v :: vs, k, cs, h => by
    simp only [List.zipIdx_cons, List.foldl_cons]
    rw [fold_set off vs (k + 1) _ (by simp at h ⊢; omega)]
    simp only [List.length_cons] at h
    have hlt : off + k < cs.size := by omega
    simp only [setAt, Array.toList_setIfInBounds, List.length_cons]
    apply List.ext_getElem?
    intro j
    simp only [List.getElem?_append, List.length_append, List.length_take, List.length_set, Array.length_toList, List.length_cons, List.getElem?_take, List.getElem?_set, List.getElem?_drop]
    have e1 : min (off + k) cs.size = off + k := by omega
    have e2 : min (off + (k + 1)) cs.size = off + k + 1 := by omega
    rw [e1, e2]
    rcases Nat.lt_trichotomy j (off + k) with h1 | h1 | h1
    · have : ¬ (off + k = j) := by omega
      simp [show j < off + k + 1 + vs.length by omega, show j < off + k + 1 by omega, show j < off + (k + 1) by omega, this, h1, show j < off + k + (vs.length + 1) by omega]
    · subst h1
      simp [hlt, show off + k < off + (k + 1) by omega, show off + k < off + k + 1 + vs.length by omega]
    · by_cases h2 : j < off + k + 1 + vs.length
      · have : ¬ j < off + k + 1 := by omega
        have h3 : ¬ j < off + k := by omega
        have e : j - (off + k) = (j - (off + k + 1)) + 1 := by omega
        simp [h2, this, h3, show j < off + k + (vs.length + 1) by omega, e]
      · have h3 : ¬ j < off + k + (vs.length + 1) := by omega
        have e : ¬ (off + k = off + (k + 1) + vs.length + (j - (off + k + 1 + vs.length))) := by omega
        simp [h2, h3, e]
        congr 1
        omega
theorem flat_len {es : Nat} : ∀ {rows : List (List Value)}, (∀ r ∈ rows, r.length = es) → rows.flatten.length = rows.length * es
  | [], _ => by simp
  | r :: rows, h => by
    have := flat_len (es := es) (rows := rows) (fun r hr => h r (by simp [hr]))
    simp only [List.flatten_cons, List.length_append, this, h r (by simp), List.length_cons, Nat.succ_mul]
    omega
theorem flat_take {es : Nat} : ∀ {rows : List (List Value)} (i : Nat), (∀ r ∈ rows, r.length = es) → rows.flatten.take (i * es) = (rows.take i).flatten
  | rows, 0, _ => by simp
  | [], i + 1, _ => by simp
  | r :: rows, i + 1, h => by
    have hr := h r (by simp)
    have := flat_take (es := es) (rows := rows) i (fun r hr => h r (by simp [hr]))
    simp only [List.flatten_cons, List.take_succ_cons, ← this]
    rw [List.take_append, hr, List.take_of_length_le (by rw [hr, Nat.succ_mul]; omega), Nat.succ_mul, Nat.add_sub_cancel]
theorem flat_drop {es : Nat} : ∀ {rows : List (List Value)} (i : Nat), (∀ r ∈ rows, r.length = es) → rows.flatten.drop (i * es) = (rows.drop i).flatten
  | rows, 0, _ => by simp
  | [], i + 1, _ => by simp
  | r :: rows, i + 1, h => by
    have hr := h r (by simp)
    have := flat_drop (es := es) (rows := rows) i (fun r hr => h r (by simp [hr]))
    simp only [List.flatten_cons, List.drop_succ_cons, ← this]
    rw [List.drop_append, hr, List.drop_of_length_le (by rw [hr, Nat.succ_mul]; omega), Nat.succ_mul, Nat.add_sub_cancel]
    simp
theorem flat_set {es : Nat} {rows : List (List Value)} {i : Nat} {r : List Value} (h : ∀ r ∈ rows, r.length = es) (hr : r.length = es) (hi : i < rows.length) : setAt rows.flatten (i * es) r = (rows.set i r).flatten := by
  unfold setAt
  rw [flat_take i h, hr, show i * es + es = (i + 1) * es by rw [Nat.succ_mul], flat_drop (i + 1) h, List.set_eq_take_append_cons_drop, if_pos hi]
  simp
theorem flat_get {es : Nat} {rows : List (List Value)} (h : ∀ r ∈ rows, r.length = es) {i : Nat} {r : List Value} (hi : rows[i]? = some r) {j : Nat} (hj : j < es) : rows.flatten[i * es + j]? = r[j]? := by
  have := flat_drop i h
  have h2 : rows.flatten[i * es + j]? = (rows.flatten.drop (i * es))[j]? := by simp
  have hlt : i < rows.length := by
    rcases Nat.lt_or_ge i rows.length with h' | h'
    · exact h'
    · rw [List.getElem?_eq_none h'] at hi; simp at hi
  have hmem : r ∈ rows := List.mem_of_getElem? hi
  rw [h2, this, List.drop_eq_getElem_cons hlt, List.flatten_cons, List.getElem?_append_left]
  · have : rows[i] = r := by rw [List.getElem?_eq_getElem hlt] at hi; simpa using hi
    rw [this]
  · have : rows[i] = r := by rw [List.getElem?_eq_getElem hlt] at hi; simpa using hi
    rw [this, h r hmem]; exact hj
end
end Go.Proofs.YtfhcigjkfelnfaaGreat.AM
/-
  The abstract machine, part H: literals, append, stores into arrays, calls. No project text.
-/
set_option linter.unusedSimpArgs false
set_option linter.unusedVariables false
namespace Go.Proofs.YtfhcigjkfelnfaaGreat.AM
open Go
section
variable {ρ : Name → Loc} {H : Heap} {M : Nat → Prop} {w : World}
def RR (ρ : Name → Loc) (H : Heap) (M : Nat → Prop) (w : World) : List (List PV) → List (List Value) → Prop
  | [], cr => cr = []
  | r :: rs, cr => ∃ c cr', cr = c :: cr' ∧ AV.Rs ρ H M w (pcells r) c ∧ RR ρ H M w rs cr'
theorem RR.length : ∀ {rows : List (List PV)} {cr : List (List Value)}, RR ρ H M w rows cr → cr.length = rows.length
  | [], cr, h => by simp only [RR] at h; simp [h]
  | r :: rs, cr, h => by simp only [RR] at h; obtain ⟨c, cr', rfl, _, h2⟩ := h; simp [h2.length]
theorem RR.get : ∀ {rows : List (List PV)} {cr : List (List Value)}, RR ρ H M w rows cr → ∀ (i : Nat) (r : List PV), rows[i]? = some r → ∃ c : List Value, cr[i]? = some c ∧ AV.Rs ρ H M w (pcells r) c
  | [], cr, h, i, r, hi => by simp at hi
  | r0 :: rs, cr, h, i, r, hi => by
    simp only [RR] at h
    obtain ⟨c, cr', rfl, h1, h2⟩ := h
    cases i with
    | zero => simp at hi; subst hi; exact ⟨c, by simp, h1⟩
    | succ i => simpa using h2.get i r (by simpa using hi)
theorem RR.set : ∀ {rows : List (List PV)} {cr : List (List Value)}, RR ρ H M w rows cr → ∀ (i : Nat) (ps : List PV) (c : List Value), AV.Rs ρ H M w (pcells ps) c → RR ρ H M w (rows.set i ps) (cr.set i c)
  | [], cr, h, i, ps, c, hc => by simp only [RR] at h; subst h; simp [RR]
  | r0 :: rs, cr, h, i, ps, c, hc => by
    simp only [RR] at h
    obtain ⟨c0, cr', rfl, h1, h2⟩ := h
    cases i with
    | zero => simp only [List.set_cons_zero, RR]; exact ⟨c, cr', rfl, hc, h2⟩
    | succ i => simp only [List.set_cons_succ, RR]; exact ⟨c0, cr'.set i c, rfl, h1, h2.set i ps c hc⟩
theorem RR.append : ∀ {rows : List (List PV)} {cr : List (List Value)}, RR ρ H M w rows cr → ∀ {rows' : List (List PV)} {cr' : List (List Value)}, RR ρ H M w rows' cr' → RR ρ H M w (rows ++ rows') (cr ++ cr')
  | [], cr, h, rows', cr', h' => by simp only [RR] at h; subst h; simpa using h'
  | r :: rs, cr, h, rows', cr', h' => by
    simp only [RR] at h
    obtain ⟨c, cr1, rfl, h1, h2⟩ := h
    simp only [List.cons_append, RR]
    exact ⟨c, cr1 ++ cr', rfl, h1, h2.append h'⟩
theorem RR.replicate {r : List PV} {c : List Value} (h : AV.Rs ρ H M w (pcells r) c) : ∀ n, RR ρ H M w (List.replicate n r) (List.replicate n c)
  | 0 => by simp [RR]
  | n + 1 => by simp only [List.replicate_succ, RR]; exact ⟨c, _, rfl, h, RR.replicate h n⟩
theorem RR.len {es : Nat} : ∀ {rows : List (List PV)} {cr : List (List Value)}, RR ρ H M w rows cr → (∀ r ∈ rows, r.length = es) → ∀ c ∈ cr, c.length = es
  | [], cr, h, _, c, hc => by simp only [RR] at h; subst h; simp at hc
  | r :: rs, cr, h, hl, c, hc => by
    simp only [RR] at h
    obtain ⟨c0, cr', rfl, h1, h2⟩ := h
    rcases List.mem_cons.1 hc with rfl | hc
    · rw [h1.length]; simp [pcells, hl r (by simp)]
    · exact h2.len (fun r hr => hl r (by simp [hr])) c hc
theorem RR.one : ∀ {rows : List (List PV)} {cr : List (List Value)}, RR ρ H M w rows cr → ∀ u ∈ cr.flatten, u.oneCell' = true
  | [], cr, h, u, hu => by simp only [RR] at h; subst h; simp at hu
  | r :: rs, cr, h, u, hu => by
    simp only [RR] at h
    obtain ⟨c0, cr', rfl, h1, h2⟩ := h
    simp only [List.flatten_cons, List.mem_append] at hu
    rcases hu with hu | hu
    · exact Rs_one h1 u hu
    · exact h2.one u hu
theorem RR.of_Rows {b es : Nat} : ∀ {off : Nat} {rows : List (List PV)}, PV.Rows M w b es off rows → ∃ cr : List (List Value), RR ρ H M w rows cr ∧ (∀ r ∈ rows, r.length = es) ∧ ∀ j u, cr.flatten[j]? = some u → w.cell? ⟨b, off + j, none⟩ = some u
  | off, [], h => ⟨[], by simp [RR], by simp, by simp⟩
  | off, r :: rs, h => by
    simp only [PV.Rows] at h
    obtain ⟨h1, h2, h3⟩ := h
    obtain ⟨c, g1, g2⟩ := Rs_of_Cells (ρ := ρ) (H := H) h2
    obtain ⟨cr, k1, k2, k3⟩ := RR.of_Rows h3
    have hcl : c.length = es := by rw [g1.length]; simp [pcells, h1]
    refine ⟨c :: cr, by simp only [RR]; exact ⟨c, cr, rfl, g1, k1⟩, fun r' hr' => ?_, fun j u hj => ?_⟩
    · rcases List.mem_cons.1 hr' with rfl | hr'
      · exact h1
      · exact k2 r' hr'
    · simp only [List.flatten_cons, List.getElem?_append] at hj
      split at hj
      · exact g2 j u hj
      · have := k3 (j - c.length) u hj
        rwa [hcl, show off + es + (j - es) = off + j by omega] at this
theorem Rows_of_RR {b es : Nat} {rows : List (List PV)} {cr : List (List Value)} (h : RR ρ H M w rows cr) (hl : ∀ r ∈ rows, r.length = es) (hc : ∀ j u, cr.flatten[j]? = some u → w.cell? ⟨b, j, none⟩ = some u) : PV.Rows M w b es 0 rows := by
  refine PV.Rows.of_get fun i r hi => ?_
  obtain ⟨c, h1, h2⟩ := h.get i r hi
  have hrl := hl r (List.mem_of_getElem? hi)
  refine ⟨hrl, Cells_of_Rs h2 fun j u hj => ?_⟩
  have hcl : c.length = es := by rw [h2.length]; simp [pcells, hrl]
  have hj' : j < es := by
    rcases Nat.lt_or_ge j c.length with h' | h'
    · omega
    · rw [List.getElem?_eq_none h'] at hj; simp at hj
  have := flat_get (h.len hl) h1 hj'
  rw [hj] at this
  simpa using hc _ _ this
theorem RR.step {ρ' : Name → Loc} {H' : Heap} {M' B : Nat → Prop} {w' : World} (he : Ext B w w') (hB : ∀ b, B b → M b) (hM : ∀ b, b < w.heap.size → M' b → M b) :
    ∀ {rows : List (List PV)} {cr : List (List Value)}, RR ρ H M w rows cr → RR ρ' H' M' w' rows cr
  | [], cr, h => by simpa only [RR] using h
  | r :: rs, cr, h => by
    simp only [RR] at h ⊢
    obtain ⟨c, cr', h0, h1, h2⟩ := h
    refine ⟨c, cr', h0, ?_, RR.step he hB hM h2⟩
    refine AV.Rs.of_get h1.length fun j x u hx hu => ?_
    obtain ⟨u', k1, k2, k3⟩ := h1.get j x hx
    rw [hu] at k1; cases k1
    refine ⟨k2, ?_⟩
    simp only [pcells, List.getElem?_map] at hx
    cases hr : r[j]? with
    | none => simp [hr] at hx
    | some y =>
      simp [hr] at hx
      subst hx
      simp only [AV.R] at k3 ⊢
      exact k3.mono he hB hM
end
section
variable {P : Program} {o : Oper} {rd : List (Nat × AV)}
def bytesT (P : Program) (T : TypeId) : Option Nat := (P.info? T).map (·.bytes)
def elemOK (P : Program) (e : TypeId) (es bytes : Nat) : Bool := match P.info? e with
  | some i => Nat.beq i.size es && Nat.beq i.bytes bytes && (match i.zero with | some z => Nat.beq z.cells.size es | none => false)
  | none => false
theorem elemOK_spec {e : TypeId} {es bytes : Nat} (h : elemOK P e es bytes = true) : ∃ i z, P.info? e = some i ∧ i.zero = some z ∧ i.size = es ∧ i.bytes = bytes ∧ z.cells.size = es := by
  unfold elemOK at h
  split at h
  · rename_i i hi
    simp only [Bool.and_eq_true] at h
    obtain ⟨⟨h1, h2⟩, h3⟩ := h
    split at h3
    · rename_i z hz
      exact ⟨i, z, hi, hz, Nat.eq_of_beq_eq_true h1, Nat.eq_of_beq_eq_true h2, Nat.eq_of_beq_eq_true h3⟩
    · simp at h3
  · simp at h
theorem fill_rows {Γ : Ctx} {ρ : Name → Loc} {M : Nat → Prop} {s : AS} {a : Act} {w : World} {e : Eff} (hs : Sim Γ ρ M s a w) (hh : s.holds e) {es : Nat} :
    ∀ (parts : List (Nat × Operand)) (rows rows' : List (List PV)) (cr : List (List Value)) (cells : Array Value), RR ρ s.heap M w rows cr → (∀ r ∈ rows, r.length = es) → cells.toList = cr.flatten → putRows e.rd es parts rows = some rows' →
    ∃ cr' cells', Instr.fill (fun i => some (i * es, es)) cells (parts.map fun p => (p.1, a.eval p.2)) = some cells' ∧ RR ρ s.heap M w rows' cr' ∧ (∀ r ∈ rows', r.length = es) ∧ cells'.toList = cr'.flatten ∧ rows'.length = rows.length
  | [], rows, rows', cr, cells, h1, h2, h3, h4 => by
    simp only [putRows, Option.some.injEq] at h4; subst h4
    exact ⟨cr, cells, rfl, h1, h2, h3, rfl⟩
  | (i, x) :: r, rows, rows', cr, cells, h1, h2, h3, h4 => by
    simp only [putRows] at h4
    split at h4
    · rename_i y hy
      split at h4
      · rename_i cs hcs
        split at h4
        · rename_i ps hps
          split at h4
          · rename_i hck
            simp only [Bool.and_eq_true] at hck
            have hpl := Nat.eq_of_beq_eq_true hck.1
            have hil : i < rows.length := Nat.le_of_ble_eq_true hck.2
            have hR := cellsAV_R hcs (evalO_R hs hh hy)
            rw [pureL_spec hps] at hR
            have hus : (a.eval x).cells.size = es := by have := hR.length; simp [pcells] at this; rw [this, hpl]
            have hcl := h1.len h2
            have hlen := h1.length
            have hsz : cells.size = cr.length * es := by rw [← flat_len hcl, ← h3]; simp
            have hle : i * es + es ≤ cr.length * es := by rw [← Nat.succ_mul]; exact Nat.mul_le_mul_right es (by omega)
            have hA : ∀ r' ∈ rows.set i ps, r'.length = es := fun r' hr' => by
              rcases List.mem_or_eq_of_mem_set hr' with h | h
              · exact h2 r' h
              · rw [h]; exact hpl
            have hB : ((a.eval x).cells.zipIdx.foldl (fun cs (c, j) => cs.setIfInBounds (i * es + j) c) cells).toList = (cr.set i (a.eval x).cells.toList).flatten := by
              have := fold_set (i * es) (a.eval x).cells.toList 0 cells (by simp [hus]; omega)
              simp only [Nat.add_zero] at this
              rw [← flat_set hcl (by simp [hus]) (by omega), ← h3, ← this, ← Array.foldl_toList]
              simp [Array.toList_zipIdx]
            obtain ⟨cr', cells', g1, g2, g3, g4, g5⟩ := fill_rows hs hh r (rows.set i ps) rows' (cr.set i (a.eval x).cells.toList) _ (h1.set i ps _ hR) hA hB h4
            refine ⟨cr', cells', ?_, g2, g3, g4, by simpa using g5⟩
            simp only [List.map_cons, Instr.fill, hus]
            rw [if_neg (by simp; omega)]
            exact g1
          · simp at h4
        · simp at h4
      · simp at h4
    · simp at h4
theorem zero_rows (z : List Value) (n es : Nat) (hz : z.length = es) (hes : 1 ≤ es) : ((Array.range (n * es)).map (fun i => z.toArray[i % z.toArray.size]!)).toList = (List.replicate n z).flatten := by
  apply List.ext_getElem?
  intro j
  have hl : (List.replicate n z).flatten.length = n * es := by simp [hz]
  by_cases hj : j < n * es
  · have hdiv : j / es < n := (Nat.div_lt_iff_lt_mul (by omega)).2 hj
    have hmod : j % es < es := Nat.mod_lt _ (by omega)
    have h1 := flat_get (rows := List.replicate n z) (es := es) (fun r hr => by rw [List.eq_of_mem_replicate hr]; exact hz) (i := j / es) (r := z) (by simp [hdiv]) hmod
    rw [show j / es * es + j % es = j by rw [Nat.mul_comm]; exact Nat.div_add_mod j es] at h1
    rw [h1]
    simp [hj, hz, hmod]
  · rw [List.getElem?_eq_none (by simp; omega), List.getElem?_eq_none (by omega)]
def zeroRow (P : Program) (e : TypeId) : Option (List PV) := match zeroAV P e with
  | some cs => pureL cs
  | none => none
theorem OpOK.buildSlice {T e : TypeId} {len es : Nat} {parts : Array (Nat × Operand)} {zr : List PV} {rows : List (List PV)} (ho : o.op = .buildSlice T len parts) (hT : elemT P T = some e) (hz : sizeT P e = some es) (hes : Nat.ble 1 es = true)
    (hzr : zeroRow P e = some zr) (hzl : zr.length = es) (hsz : Nat.ble (len * es) 16777216 = true) (hrows : putRows rd es parts.toList (List.replicate len zr) = some rows) : OpOK P o ⟨rd, [], .p (.sl true es rows), [], []⟩ := by
  intro Γ ρ M s a w K Q hs hh hd hK
  unfold zeroRow at hzr
  split at hzr
  · rename_i cs hcs
    obtain ⟨i, z, hi, hz', hall, rfl⟩ := zeroAV_spec hcs
    have hzR : AV.Rs ρ s.heap M w (pcells zr) z.cells.toList := by
      rw [← pureL_spec hzr]; exact constCells_R hall
    have hzlen : z.cells.toList.length = es := by have := hzR.length; rw [this]; simp [pcells, hzl]
    have hes' := Nat.le_of_ble_eq_true hes
    have h0 := zero_rows z.cells.toList len es hzlen hes'
    obtain ⟨cr, cells, g1, g2, g3, g4, g5⟩ := fill_rows hs hh parts.toList (List.replicate len zr) rows (List.replicate len z.cells.toList) ((Array.range (len * es)).map (fun i => z.cells[i % z.cells.size]!))
      (RR.replicate hzR len) (fun r hr => by rw [List.eq_of_mem_replicate hr]; exact hzl) (by simpa using h0) hrows
    have hlen : rows.length = len := by simpa using g5
    have hrun : (execOp a.eval o).run P w = .ok (.value (.slice (some ⟨w.heap.size, 0, none⟩) len len)) (w.alloc (.cells cells e)) := by
      have h2 : ¬ (len * es > 16777216) := by have := Nat.le_of_ble_eq_true hsz; omega
      have hparts : ((parts.map fun (i, x) => (i, a.eval x)) : Array (Nat × Value)).toList = parts.toList.map fun p => (p.1, a.eval p.2) := by simp
      simp only [execOp, ho, Instr.buildSlice, Sem.run_bind, run_underlying (elemT_spec hT), Result.andThen_ok, run_sizeOf hz, h2, if_false]
      simp only [hparts]
      by_cases h5 : len * es = 0
      · have g1' := g1
        rw [h5] at g1'
        simp only [Array.range_zero', Array.map_empty] at g1'
        simp [h5, g1', newRow, Array.range_zero']
      · simp only [h5, if_false, Sem.run_bind, run_zeroValue hi hz', Result.andThen_ok, Sem.run_pure, g1]
        simp [h2, newRow, g1, run_zeroValue hi hz']
    unfold Oper.wp
    rw [hrun, Oper.upon_value]
    have hs' := hs.world (Ext.alloc w (.cells cells e))
    refine hK ρ M _ _ ((hs'.put hd (fun _ => ?_)).congr (fun t => rfl) (fun n => rfl))
    simp only [AV.R, PV.R]
    refine ⟨some ⟨w.heap.size, 0, none⟩, len, by rw [hlen], by omega, fun _ => hlen.symm, by simp, fun ad had _ => ?_⟩
    cases had
    refine ⟨rfl, fun hm => absurd (hs.msize _ hm) (Nat.lt_irrefl _), by simp, ?_⟩
    have g2' := g2.step (ρ' := ρ) (H' := s.heap) (M' := M) (B := fun _ => False) (Ext.alloc w (.cells cells e)) (fun _ hb => hb.elim) (fun b _ hb => hb)
    refine Rows_of_RR g2' g3 fun j u hj => ?_
    rw [← g4] at hj
    simp only [World.cell?, heap_alloc_new]
    simpa using hj
  · simp at hzr
def placesL (P : Program) : List Field → Option (List (Nat × Nat))
  | [] => some []
  | f :: r => match sizeT P f.type, placesL P r with
    | some z, some ps => some ((f.offset, z) :: ps)
    | _, _ => none
theorem run_places {w : World} : ∀ {fs : List Field} {ps : List (Nat × Nat)}, placesL P fs = some ps → (fs.mapM (fun f => do pure (f.offset, ← sizeOf f.type)) : Sem (List (Nat × Nat))).run P w = .ok ps w
  | [], ps, h => by simp only [placesL, Option.some.injEq] at h; subst h; simp
  | f :: r, ps, h => by
    simp only [placesL] at h
    split at h
    · rename_i z ps' h1 h2
      cases h
      have ih := run_places (w := w) h2
      rw [List.mapM_cons]
      simp only [Sem.run_bind, run_sizeOf h1, Result.andThen_ok, Sem.run_pure, ih]
    · simp at h
def putCells (rd : List (Nat × AV)) (places : List (Nat × Nat)) : List (Nat × Operand) → List AV → Option (List AV)
  | [], cells => some cells
  | (i, x) :: r, cells => match places[i]?, evalO rd x with
    | some (off, size), some y => match cellsAV y with
      | some cs => if Nat.beq cs.length size && Nat.ble (off + size) cells.length then putCells rd places r (setAt cells off cs) else none
      | none => none
    | _, _ => none
theorem fill_cells {Γ : Ctx} {ρ : Name → Loc} {M : Nat → Prop} {s : AS} {a : Act} {w : World} {e : Eff} (hs : Sim Γ ρ M s a w) (hh : s.holds e) {places : List (Nat × Nat)} :
    ∀ (parts : List (Nat × Operand)) (cells cells' : List AV) (us : Array Value), AV.Rs ρ s.heap M w cells us.toList → putCells e.rd places parts cells = some cells' →
    ∃ us', Instr.fill (fun i => places[i]?) us (parts.map fun p => (p.1, a.eval p.2)) = some us' ∧ AV.Rs ρ s.heap M w cells' us'.toList
  | [], cells, cells', us, h1, h4 => by
    simp only [putCells, Option.some.injEq] at h4; subst h4
    exact ⟨us, rfl, h1⟩
  | (i, x) :: r, cells, cells', us, h1, h4 => by
    simp only [putCells] at h4
    split at h4
    · rename_i off size y hpl hy
      split at h4
      · rename_i cs hcs
        split at h4
        · rename_i hck
          simp only [Bool.and_eq_true] at hck
          have hpl' := Nat.eq_of_beq_eq_true hck.1
          have hle := Nat.le_of_ble_eq_true hck.2
          have hR := cellsAV_R hcs (evalO_R hs hh hy)
          have hus : (a.eval x).cells.size = size := by have := hR.length; simp at this; rw [this, hpl']
          have hlen : us.size = cells.length := by have := h1.length; simpa using this
          have hB : AV.Rs ρ s.heap M w (setAt cells off cs) ((a.eval x).cells.zipIdx.foldl (fun cs (c, j) => cs.setIfInBounds (off + j) c) us).toList := by
            have := fold_set off (a.eval x).cells.toList 0 us (by simp [hus]; omega)
            simp only [Nat.add_zero] at this
            have e1 : ((a.eval x).cells.zipIdx.foldl (fun cs (c, j) => cs.setIfInBounds (off + j) c) us).toList = setAt us.toList off (a.eval x).cells.toList := by
              rw [← this, ← Array.foldl_toList]; simp [Array.toList_zipIdx]
            rw [e1]
            unfold setAt
            rw [show (a.eval x).cells.toList.length = cs.length by simp [hus, hpl']]
            exact ((h1.take off).append hR).append (h1.drop _)
          obtain ⟨us', g1, g2⟩ := fill_cells hs hh r (setAt cells off cs) cells' _ hB h4
          refine ⟨us', ?_, g2⟩
          simp only [List.map_cons, Instr.fill, hpl, hus]
          rw [if_neg (by simp; omega)]
          exact g1
        · simp at h4
      · simp at h4
    · simp at h4
def structT (P : Program) (T : TypeId) : Option (List (Nat × Nat)) := match P.underlying T with
  | some (.struct fields) => placesL P fields.toList
  | _ => none
theorem OpOK.build {T : TypeId} {parts : Array (Nat × Operand)} {zs cells : List AV} {pl : List (Nat × Nat)} (ho : o.op = .build T parts) (hT : structT P T = some pl) (hz : zeroAV P T = some zs) (hc : putCells rd pl parts.toList zs = some cells) :
    OpOK P o ⟨rd, [], .agg cells, [], []⟩ :=
  OpOK.quiet fun Γ ρ M s a w hs hh => by
    obtain ⟨i, z, hi, hz', hall, rfl⟩ := zeroAV_spec hz
    obtain ⟨us, g1, g2⟩ := fill_cells hs hh parts.toList _ cells z.cells (constCells_R hall) hc
    refine ⟨.agg us, ?_, by simp only [AV.R]; exact ⟨us, rfl, g2⟩⟩
    unfold structT at hT
    cases hu : P.underlying T with
    | none => simp [hu] at hT
    | some d =>
      cases d with
      | struct fields =>
        simp only [hu] at hT
        have hpl := run_places (P := P) (w := w) hT
        have hparts : ((parts.map fun (i, x) => (i, a.eval x)) : Array (Nat × Value)).toList = parts.toList.map fun p => (p.1, a.eval p.2) := by simp
        simp only [execOp, ho, Instr.build, Sem.run_bind, run_zeroValue hi hz', Result.andThen_ok, run_underlying hu]
        rw [Array.mapM_eq_mapM_toList]
        simp only [Sem.run_bind, Sem.run_map, hpl, Result.andThen_ok, hparts, List.getElem?_toArray, g1]
        simp
      | _ => simp [hu] at hT
theorem OpOK.fieldAgg {T : TypeId} {x : Operand} {i off z : Nat} {cells sub : List AV} {T' : TypeId} (ho : o.op = .field T x i) (hx : evalO rd x = some (.agg cells)) {fs : Array Field} {f : Field} (hu : P.underlying T = some (.struct fs)) (hf : fs[i]? = some f) (ht : aggT P f.type = true)
    (hz : sizeT P f.type = some z) (hsub : (cells.drop f.offset).take z = sub) : OpOK P o ⟨rd, [], .agg sub, [], []⟩ :=
  OpOK.quiet fun Γ ρ M s a w hs hh => by
    have hr := evalO_R hs hh hx
    simp only [AV.R] at hr
    obtain ⟨us, hus, h2⟩ := hr
    refine ⟨.agg (us.extract f.offset (f.offset + z)), ?_, ?_⟩
    · simp [execOp, ho, Instr.field, run_underlying hu, hf, hus, asAgg, part, run_isAgg_true ht, run_sizeOf hz]
    · simp only [AV.R]
      refine ⟨_, rfl, ?_⟩
      have := (h2.drop f.offset).take z
      rw [hsub] at this
      simpa [Array.toList_extract, List.extract_eq_take_drop] using this
theorem OpOK.field {T : TypeId} {x : Operand} {i : Nat} {cells : List AV} {c : AV} (ho : o.op = .field T x i) (hx : evalO rd x = some (.agg cells)) {fs : Array Field} {f : Field} (hu : P.underlying T = some (.struct fs)) (hf : fs[i]? = some f) (ht : flatT P f.type = true)
    (hc : cells[f.offset]? = some c) : OpOK P o ⟨rd, [], c, [], []⟩ :=
  OpOK.quiet fun Γ ρ M s a w hs hh => by
    have hr := evalO_R hs hh hx
    simp only [AV.R] at hr
    obtain ⟨us, hus, h2⟩ := hr
    obtain ⟨u, k1, k2, k3⟩ := h2.get f.offset c hc
    refine ⟨u, ?_, k3⟩
    have : us[f.offset]? = some u := by simpa using k1
    simp [execOp, ho, Instr.field, run_underlying hu, hf, hus, asAgg, part, run_isAgg_false ht, this]
end
end Go.Proofs.YtfhcigjkfelnfaaGreat.AM
/-
  The abstract machine, part I: append, stores into arrays, calls. No project text.
-/
set_option linter.unusedSimpArgs false
set_option linter.unusedVariables false
namespace Go.Proofs.YtfhcigjkfelnfaaGreat.AM
open Go
section
variable {P : Program} {o : Oper} {rd : List (Nat × AV)}
theorem OpOK.put {hp : List (Name × AO)} {v : AV} {n : Name} {ob : AO} {nw : List Name}
    (h : ∀ (Γ : Ctx) (ρ : Name → Loc) (M : Nat → Prop) (s : AS) (a : Act) (w : World), Sim Γ ρ M s a w → s.holds ⟨rd, hp, v, [(n, ob)], nw⟩ → ∃ u w' ρ' M', (execOp a.eval o).run P w = .ok (.value u) w' ∧
      Sim Γ ρ' M' ⟨s.slot, fun m => if m = n then some ob else s.heap m⟩ a w' ∧ v.R ρ' (fun m => if m = n then some ob else s.heap m) M' w' u) : OpOK P o ⟨rd, hp, v, [(n, ob)], nw⟩ := by
  intro Γ ρ M s a w K Q hs hh hd hK
  obtain ⟨u, w', ρ', M', h1, h2, h3⟩ := h Γ ρ M s a w hs hh
  unfold Oper.wp
  rw [h1, Oper.upon_value]
  refine hK ρ' M' _ w' ((h2.put hd (fun _ => h3)).congr (fun t => rfl) (fun m => ?_))
  simp only [AS.run, AS.set, look]
  by_cases e : n = m
  · subst e; simp
  · simp [e, Ne.symm e]
theorem src_of {ρ : Name → Loc} {H : Heap} {M : Nat → Prop} {w : World} {f : Bool} {es : Nat} {rows : List (List PV)} {u : Value} {T e : TypeId} (hT : elemT P T = some e) (h : PV.R M w (.sl f es rows) u) :
    ∃ cr : List (List Value), RR ρ H M w rows cr ∧ (∀ r ∈ rows, r.length = es) ∧ Src P es T u rows.length cr.flatten w := by
  simp only [PV.R] at h
  obtain ⟨a, cap, rfl, h2, h3, h4, h5⟩ := h
  cases a with
  | none =>
    have hc := h4 rfl
    have hl : rows = [] := List.eq_nil_of_length_eq_zero (by omega)
    subst hl; subst hc
    exact ⟨[], by simp [RR], by simp, Src.ofNil (w := w) (elemT_spec hT) 0⟩
  | some ad =>
    by_cases hc : cap = 0
    · have hl : rows = [] := List.eq_nil_of_length_eq_zero (by omega)
      subst hl
      exact ⟨[], by simp [RR], by simp, Src.ofSlice (w := w) (elemT_spec hT) ad _ _ [] (by simp) (by simp) (by simp)⟩
    obtain ⟨g1, g2, g3, g4⟩ := h5 ad rfl hc
    obtain ⟨b, off, spot⟩ := ad
    simp only at g1; subst g1
    obtain ⟨cr, k1, k2, k3⟩ := RR.of_Rows (ρ := ρ) (H := H) g4
    have hfl : cr.flatten.length = rows.length * es := by rw [flat_len (k1.len k2), k1.length]
    exact ⟨cr, k1, k2, Src.ofSlice (w := w) (elemT_spec hT) _ _ _ _ hfl (fun j u hj => by rw [addr_add]; exact k3 j u hj) k1.one⟩
theorem size_zeroCells' (z : Array Value) (n : Nat) : (Builtin.zeroCells z n).size = n * z.size := by simp [Builtin.zeroCells]
theorem Sim.grown {Γ : Ctx} {ρ : Name → Loc} {M : Nat → Prop} {s : AS} {a : Act} {w : World} (h : Sim Γ ρ M s a w) {n : Name} {es cap : Nat} {rows : List (List PV)} {cr : List (List Value)} {rest : Array Value} {e : TypeId}
    (hes : 1 ≤ es) (hrr : RR ρ s.heap M w rows cr) (hl : ∀ r ∈ rows, r.length = es) (hcap : rows.length ≤ cap) (hrest : rest.size = (cap - rows.length) * es) (h0 : 0 < rows.length)
    (hst : ∀ o', s.heap n = some o' → ∃ rows0, o' = .arr es rows0 ∧ rows0.length < rows.length) (hfree : s.heap n = none → s.free n) :
    ∃ M', Sim Γ (fun m => if m = n then ⟨some ⟨w.heap.size, 0, none⟩, cap⟩ else ρ m) M' ⟨s.slot, fun m => if m = n then some (.arr es rows) else s.heap m⟩ a (w.drew.alloc (.cells (cr.flatten.toArray ++ rest) e)) := by
  have he : Ext (fun _ => False) w (w.drew.alloc (.cells (cr.flatten.toArray ++ rest) e)) := (Ext.drew w).trans (Ext.alloc w.drew _) (fun _ _ hb => hb.elim)
  refine ⟨fun b => M b ∨ b = w.heap.size, h.update1 (he.weaken fun _ _ hb => hb.elim) (fun b hb => .inl hb) (fun b hb => hb.imp id (fun e => by omega)) (fun b hb => ?_) (fun o' ho' => ?_) hfree ?_ (fun b hb => .inr ?_)⟩
  · rcases hb with hb | hb
    · have := h.msize b hb; simp; omega
    · simp [hb]
  · obtain ⟨rows0, rfl, hlt⟩ := hst o' ho'
    simp only [stays]
    exact ⟨trivial, by omega, fun hc => by omega⟩
  · have hcr := hrr.length
    have hfl : cr.flatten.length = rows.length * es := by rw [flat_len (hrr.len hl), hcr]
    refine ⟨hes, by simpa using hcap, .inr ⟨w.heap.size, e, _, by simp, .inr rfl, by have := heap_alloc_new w.drew (.cells (cr.flatten.toArray ++ rest) e); simpa using this, ?_, ?_⟩⟩
    · simp only [if_true, Array.size_append, List.size_toArray, hfl, hrest]
      rw [← Nat.add_mul]
      congr 1
      omega
    · refine Rows_of_RR (ρ := ρ) (H := s.heap) (hrr.step (B := fun _ => False) he (fun _ hb => hb.elim) (fun b hb hb' => hb'.resolve_right (by omega))) hl fun j u hj => ?_
      have := heap_alloc_new w.drew (.cells (cr.flatten.toArray ++ rest) e)
      simp only [World.size_drew] at this
      simp only [World.cell?, this]
      have hlt : j < cr.flatten.length := by
        rcases Nat.lt_or_ge j cr.flatten.length with h' | h'
        · exact h'
        · rw [List.getElem?_eq_none h'] at hj; simp at hj
      show (if (none : Option Nat).isSome = true then none else (cr.flatten.toArray ++ rest)[j]?) = some u
      rw [if_neg (by simp), Array.getElem?_append_left (by simpa only [List.size_toArray] using hlt), List.getElem?_toArray]
      exact hj
  · simp only [Loc.blk] at hb
    split at hb
    · simp at hb
    · simp at hb; omega
theorem setCells_eq {w : World} {b k : Nat} {cur : Array Value} {t : TypeId} {vs : List Value} (hb : w.heap[b]? = some (.cells cur t (0, 0))) (hl : k + vs.length ≤ cur.size) (h1 : ∀ v ∈ vs, v.oneCell' = true) :
    w.setCells b k vs = w.setRow b (setAt cur.toList k vs).toArray := by
  have r1 := run_storeCells_at (P := default) b k t vs 0 cur w hb (by simpa using hl) h1
  have r2 := run_storeCells_cells (P := default) b k vs 0 w (fun j hj => by
      have : k + j < cur.size := by omega
      simp [World.cell?, hb, this]) (fun j hj => by simp [World.frozen?, hb]) h1
  rw [r1] at r2
  simp only [Nat.add_zero] at r2
  injection r2 with _ r3
  exact r3.symm
theorem OpOK.appendOwn {T e : TypeId} {x y : Operand} {ats : Array TypeId} {n : Name} {len es bytes r : Nat} {f : Bool} {rows rows' rows2 : List (List PV)}
    (ho : o.op = .call { callee := .builtin .append, args := #[x, y], argTypes := ats }) (hat : ats = #[T, T]) (hT : elemT P T = some e) (hok : elemOK P e es bytes = true)
    (hx : evalO rd x = some (.own n len)) (hlen : Nat.beq len rows.length = true) (hy : evalO rd y = some (.p (.sl f es rows'))) (h2 : rows ++ rows' = rows2) (hr : rows2.length = r)
    (hfit : (rows.length + rows'.length) * bytes ≤ 140737488355328) (hfit2 : rows.length + rows'.length ≤ 140737488355328) :
    OpOK P o ⟨rd, [(n, .arr es rows)], .own n r, [(n, .arr es rows2)], []⟩ :=
  OpOK.put fun Γ ρ M s a w hs hh => by
    subst h2; subst hr; subst hat
    have hle := Nat.eq_of_beq_eq_true hlen
    subst hle
    obtain ⟨i, z, hi, hz, hsz, hby, hzs⟩ := elemOK_spec hok
    have hrx := evalO_R hs hh hx
    simp only [AV.R] at hrx
    have hn := hh.hp n _ (by simp : (n, AO.arr es rows) ∈ _)
    have hux := (hrx.2 _ es rows.length hn rfl).2 rfl
    have hry := evalO_R hs hh hy
    simp only [AV.R] at hry
    obtain ⟨cr', k1, k2, hsrc⟩ := src_of (P := P) (ρ := ρ) (H := s.heap) hT hry
    obtain ⟨hes, hcap, hobj⟩ := hs.objs n _ hn
    have hexec : ∀ (u : Value) (w' : World), (Builtin.append_ #[T, T] o.type #[.slice (ρ n).base rows.length (ρ n).cap, a.eval y]).run P w = .ok u w' → (execOp a.eval o).run P w = .ok (.value u) w' := by
      intro u w' hrun
      simp [execOp, ho, resolve, invoke, builtin, hux, hrun]
    rw [← hsz] at hsrc
    by_cases hnil : rows' = []
    · subst hnil
      simp only [List.append_nil]
      simp only [RR] at k1
      subst k1
      have hrun := run_append_nothing w T T o.type e i (elemT_spec hT) hi (ρ n).base rows.length (ρ n).cap hcap (a.eval y) (by simpa using hsrc)
      have hfun : (fun m => if m = n then some (AO.arr es rows) else s.heap m) = s.heap := by
        funext m; by_cases e : m = n
        · subst e; simp [hn]
        · simp [e]
      refine ⟨_, w, ρ, M, hexec _ _ hrun, by rw [hfun]; exact hs, ?_⟩
      rw [hfun, ← hux]
      simp only [AV.R]
      exact hrx
    · have hpos : 0 < rows'.length := List.length_pos_iff.2 hnil
      by_cases hroom : rows.length + rows'.length ≤ (ρ n).cap
      · -- there is room
        rcases hobj with hobj | ⟨b, T', cs, h3, h4, h5, h6, h7⟩
        · omega
        · have hcrl := k1.length
          have hfl : cr'.flatten.length = rows'.length * es := by rw [flat_len (k1.len k2), hcrl]
          have hfits : rows.length * es + cr'.flatten.length ≤ cs.size := by
            rw [hfl, h6, ← Nat.add_mul]; exact Nat.mul_le_mul_right es hroom
          have hle2 : rows.length * es + cr'.flatten.length ≤ cs.size := hfits
          obtain ⟨cr0, m1, m2, m3⟩ := RR.of_Rows (ρ := ρ) (H := s.heap) h7
          have hfl0 : cr0.flatten.length = rows.length * es := by rw [flat_len (m1.len m2), m1.length]
          have hcell : ∀ j, j < cs.size → w.cell? ⟨b, j, none⟩ = cs[j]? := fun j hj => by simp [World.cell?, h5]
          have hrun := run_append_room_src (P := P) w T T o.type e i (elemT_spec hT) hi b 0 rows.length (ρ n).cap (a.eval y) rows'.length cr'.flatten hsrc hroom
            (fun j hj => by rw [hsz, Nat.zero_add, hcell _ (by omega)]; simp; omega) (fun j hj => by simp [World.frozen?, h5])
          rw [hsz, Nat.zero_add, setCells_eq h5 hle2 k1.one, ← h3] at hrun
          have he : Ext (fun b' => b' = b) w (w.setRow b (setAt cs.toList (rows.length * es) cr'.flatten).toArray) := ⟨by simp [World.setRow], fun b' hb hne => setRow_other w b b' _ hne, rfl, rfl⟩
          have hblk : (ρ n).blk = some b := by
            have : (ρ n).cap ≠ 0 := by omega
            simp [Loc.blk, this, h3]
          have hM : M b := h4
          refine ⟨_, _, (fun m => if m = n then ρ n else ρ m), M, hexec _ _ hrun, hs.update1 (he.weaken fun b' _ hb => ⟨by rw [hblk, hb], by rw [hn]; simp⟩) (fun _ hb => hb) (fun _ hb => .inl hb) (fun b' hb => Nat.lt_of_lt_of_le (hs.msize b' hb) he.size)
            (fun o' ho' => by rw [hn] at ho'; cases ho'; simp [stays]) (fun h0 => by rw [hn] at h0; simp at h0) ?_ (fun b' hb => .inl ⟨_, hn, hb⟩), ?_⟩
          · refine ⟨hes, by simpa using hroom, .inr ⟨b, T', _, by simp [h3], hM, setRow_heap w b cs _ T' (0, 0) h5, ?_, ?_⟩⟩
            · simp only [if_true, List.size_toArray, setAt, List.length_append, List.length_take, List.length_drop, Array.length_toList, ← h6]
              omega
            · have st : ∀ {rs : List (List PV)} {c : List (List Value)}, RR ρ s.heap M w rs c → RR ρ s.heap M (w.setRow b (setAt cs.toList (rows.length * es) cr'.flatten).toArray) rs c := fun h => h.step he (fun b' hb => by rw [hb]; exact hM) (fun b' _ hb => hb)
              refine Rows_of_RR (ρ := ρ) (H := s.heap) ((st m1).append (st k1)) (fun r hr => ?_) fun j u hj => ?_
              · rcases List.mem_append.1 hr with hr | hr
                · exact m2 r hr
                · exact k2 r hr
              · rw [cell_setRow_same w b j cs _ T' (0, 0) h5]
                simp only [List.flatten_append] at hj
                simp only [List.getElem?_toArray, setAt]
                rw [List.getElem?_append] at hj
                split at hj
                · rename_i hlt
                  have := m3 j u hj
                  rw [Nat.zero_add, hcell j (by omega)] at this
                  rw [List.append_assoc, List.getElem?_append_left (by simp; omega), List.getElem?_take_of_lt (by omega)]
                  simpa using this
                · rename_i hge
                  have hjl : j - cr0.flatten.length < cr'.flatten.length := by
                    rcases Nat.lt_or_ge (j - cr0.flatten.length) cr'.flatten.length with h' | h'
                    · exact h'
                    · rw [List.getElem?_eq_none h'] at hj; simp at hj
                  have htl : (List.take (rows.length * es) cs.toList).length = rows.length * es := by simp; omega
                  rw [List.append_assoc, List.getElem?_append_right (by omega), List.getElem?_append_left (by omega), htl, ← hfl0]
                  exact hj
          · simp only [AV.R]
            refine ⟨rfl, fun o' es' k' hc hs' => ?_⟩
            simp only [if_true] at hc
            cases hc
            cases hs'
            exact ⟨Nat.le_refl _, fun _ => by simp⟩
      · -- a new row
        have hg : (ρ n).cap < rows.length + rows'.length := by omega
        have hold : ∃ cr0, RR ρ s.heap M w rows cr0 ∧ (∀ r ∈ rows, r.length = es) ∧ (Builtin.firstCells i.size rows.length (.slice (ρ n).base rows.length (ρ n).cap)).run P w.drew = .ok cr0.flatten.toArray w.drew := by
          rcases hobj with hobj | ⟨b, T', cs, h3, h4, h5, h6, h7⟩
          · have hl : rows = [] := List.eq_nil_of_length_eq_zero (by omega)
            subst hl
            refine ⟨[], by simp [RR], by simp, ?_⟩
            cases hb : (ρ n).base with
            | none => simpa using run_firstCells_none (P := P) w.drew i.size 0 0 (ρ n).cap
            | some ad => simpa using run_firstCells_some (P := P) w.drew i.size 0 ad 0 (ρ n).cap [] (by simp) (by simp)
          · obtain ⟨cr0, m1, m2, m3⟩ := RR.of_Rows (ρ := ρ) (H := s.heap) h7
            refine ⟨cr0, m1, m2, ?_⟩
            rw [h3]
            exact run_firstCells_some (P := P) w.drew i.size rows.length _ rows.length (ρ n).cap cr0.flatten (by rw [hsz, flat_len (m1.len m2), m1.length]) (fun j u hj => by
              rw [addr_add, Nat.zero_add, World.cell?_drew]; have := m3 j u hj; rwa [Nat.zero_add] at this)
        obtain ⟨cr0, m1, m2, hold⟩ := hold
        have hrun := run_append_grow_src (P := P) w T T o.type e i z (elemT_spec hT) hi hz (ρ n).base rows.length (ρ n).cap cr0.flatten hold (a.eval y) rows'.length cr'.flatten hsrc hg
          (by omega) (growslice_fits hg (by rw [hby]; exact hfit))
        have hge := grownCap_ge w (rows.length + rows'.length) (ρ n).cap e
        have happ : (cr0.flatten ++ cr'.flatten) = (cr0 ++ cr').flatten := by simp
        rw [happ] at hrun
        obtain ⟨M', hsim⟩ := hs.grown (n := n) (es := es) (cap := grownCap w (rows.length + rows'.length) (ρ n).cap e) (rows := rows ++ rows') (cr := cr0 ++ cr') (rest := Builtin.zeroCells z.cells (grownCap w (rows.length + rows'.length) (ρ n).cap e - (rows.length + rows'.length))) (e := e)
          hes (m1.append k1) (fun r hr => by rcases List.mem_append.1 hr with hr | hr; exact m2 r hr; exact k2 r hr) (by simpa using hge) (by rw [size_zeroCells', hzs]; simp) (by simp; omega)
          (fun o' ho' => by rw [hn] at ho'; cases ho'; exact ⟨rows, rfl, by simp; omega⟩) (fun h0 => by rw [hn] at h0; simp at h0)
        refine ⟨_, _, _, M', hexec _ _ hrun, hsim, ?_⟩
        simp only [AV.R]
        refine ⟨rfl, fun o' es' k' hc hs' => ?_⟩
        simp only [if_true] at hc
        cases hc
        cases hs'
        exact ⟨Nat.le_refl _, fun _ => by simp⟩
end
end Go.Proofs.YtfhcigjkfelnfaaGreat.AM
/-
  The abstract machine, part J: append that makes an array of ours, stores into arrays, calls, what is frozen. No project text.
-/
set_option linter.unusedSimpArgs false
set_option linter.unusedVariables false
namespace Go.Proofs.YtfhcigjkfelnfaaGreat.AM
open Go
section
variable {P : Program} {o : Oper} {rd : List (Nat × AV)}
theorem OpOK.appendNew {T e : TypeId} {x y : Operand} {ats : Array TypeId} {n : Name} {es es0 bytes r : Nat} {f : Bool} {rows rows' rows2 : List (List PV)}
    (ho : o.op = .call { callee := .builtin .append, args := #[x, y], argTypes := ats }) (hat : ats = #[T, T]) (hT : elemT P T = some e) (hok : elemOK P e es bytes = true) (hes : Nat.ble 1 es = true)
    (hx : evalO rd x = some (.p (.sl true es0 rows))) (hy : evalO rd y = some (.p (.sl f es rows'))) (h2 : rows ++ rows' = rows2) (hr : rows2.length = r) (hnn : rows = [] ∨ (rows' ≠ [] ∧ es0 = es))
    (hfit : (rows.length + rows'.length) * bytes ≤ 140737488355328) (hfit2 : rows.length + rows'.length ≤ 140737488355328) :
    OpOK P o ⟨rd, [], .own n r, [(n, .arr es rows2)], [n]⟩ :=
  OpOK.put fun Γ ρ M s a w hs hh => by
    subst h2; subst hr; subst hat
    obtain ⟨i, z, hi, hz, hsz, hby, hzs⟩ := elemOK_spec hok
    obtain ⟨hn, hfree⟩ := hh.nw n (by simp)
    have hes' := Nat.le_of_ble_eq_true hes
    have hrx := evalO_R hs hh hx
    simp only [AV.R] at hrx
    have hrx' := hrx
    simp only [PV.R] at hrx'
    obtain ⟨ax, cx, hux, _, hfull, hnone, hsome⟩ := hrx'
    have hcx := hfull trivial
    subst hcx
    have hry := evalO_R hs hh hy
    simp only [AV.R] at hry
    obtain ⟨cr', k1, k2, hsrc⟩ := src_of (P := P) (ρ := ρ) (H := s.heap) hT hry
    rw [← hsz] at hsrc
    have hexec : ∀ (u : Value) (w' : World), (Builtin.append_ #[T, T] o.type #[.slice ax rows.length rows.length, a.eval y]).run P w = .ok u w' → (execOp a.eval o).run P w = .ok (.value u) w' := by
      intro u w' hrun
      simp [execOp, ho, resolve, invoke, builtin, hux, hrun]
    by_cases hnil : rows' = []
    · have hrows : rows = [] := hnn.resolve_right (fun h => h.1 hnil)
      subst hnil; subst hrows
      simp only [RR] at k1
      subst k1
      have hrun := run_append_nothing w T T o.type e i (elemT_spec hT) hi ax 0 0 (Nat.le_refl _) (a.eval y) (by simpa using hsrc)
      refine ⟨_, w, (fun m => if m = n then ⟨ax, 0⟩ else ρ m), M, hexec _ _ hrun, hs.update1 (Ext.refl _ _) (fun _ hb => hb) (fun _ hb => .inl hb) hs.msize (fun o' ho' => by rw [hn] at ho'; simp at ho') (fun _ => hfree) ?_ (fun b hb => by simp [Loc.blk] at hb), ?_⟩
      · exact ⟨hes', by simp, .inl (by simp)⟩
      · simp only [AV.R]
        refine ⟨rfl, fun o' es' k' hc hs' => ?_⟩
        simp only [if_true] at hc
        cases hc
        cases hs'
        exact ⟨Nat.le_refl _, fun _ => by simp⟩
    · have hpos : 0 < rows'.length := List.length_pos_iff.2 hnil
      have hg : rows.length < rows.length + rows'.length := by omega
      have hold : ∃ cr0, RR ρ s.heap M w rows cr0 ∧ (∀ r ∈ rows, r.length = es) ∧ (Builtin.firstCells i.size rows.length (.slice ax rows.length rows.length)).run P w.drew = .ok cr0.flatten.toArray w.drew := by
        by_cases hl : rows = []
        · subst hl
          refine ⟨[], by simp [RR], by simp, ?_⟩
          cases ax with
          | none => simpa using run_firstCells_none (P := P) w.drew i.size 0 0 0
          | some ad => simpa using run_firstCells_some (P := P) w.drew i.size 0 ad 0 0 [] (by simp) (by simp)
        · have he0 := (hnn.resolve_left hl).2
          subst he0
          cases ax with
          | none => exact absurd (List.eq_nil_of_length_eq_zero (hnone rfl)) hl
          | some ad =>
            obtain ⟨q1, q2, q3, q4⟩ := hsome ad rfl (fun h0 => hl (List.eq_nil_of_length_eq_zero h0))
            obtain ⟨b, off, spot⟩ := ad
            simp only at q1; subst q1
            obtain ⟨cr0, m1, m2, m3⟩ := RR.of_Rows (ρ := ρ) (H := s.heap) q4
            exact ⟨cr0, m1, m2, run_firstCells_some (P := P) w.drew i.size rows.length _ rows.length rows.length cr0.flatten (by rw [hsz, flat_len (m1.len m2), m1.length]) (fun j u hj => by
              rw [addr_add, World.cell?_drew]; exact m3 j u hj)⟩
      obtain ⟨cr0, m1, m2, hold⟩ := hold
      have hrun := run_append_grow_src (P := P) w T T o.type e i z (elemT_spec hT) hi hz ax rows.length rows.length cr0.flatten hold (a.eval y) rows'.length cr'.flatten hsrc hg
        (by omega) (growslice_fits hg (by rw [hby]; exact hfit))
      have hge := grownCap_ge w (rows.length + rows'.length) rows.length e
      have happ : (cr0.flatten ++ cr'.flatten) = (cr0 ++ cr').flatten := by simp
      rw [happ] at hrun
      obtain ⟨M', hsim⟩ := hs.grown (n := n) (es := es) (cap := grownCap w (rows.length + rows'.length) rows.length e) (rows := rows ++ rows') (cr := cr0 ++ cr') (rest := Builtin.zeroCells z.cells (grownCap w (rows.length + rows'.length) rows.length e - (rows.length + rows'.length))) (e := e)
        hes' (m1.append k1) (fun r hr => by rcases List.mem_append.1 hr with hr | hr; exact m2 r hr; exact k2 r hr) (by simpa using hge) (by rw [size_zeroCells', hzs]; simp) (by simp; omega)
        (fun o' ho' => by rw [hn] at ho'; simp at ho') (fun _ => hfree)
      refine ⟨_, _, _, M', hexec _ _ hrun, hsim, ?_⟩
      simp only [AV.R]
      refine ⟨rfl, fun o' es' k' hc hs' => ?_⟩
      simp only [if_true] at hc
      cases hc
      cases hs'
      exact ⟨Nat.le_refl _, fun _ => by simp⟩
theorem OpOK.storeElem {T : TypeId} {x y : Operand} {n : Name} {len i k es : Nat} {rows : List (List PV)} {row row' : List PV} {vs : List AV} {ps : List PV} {v : AV} (hdst : o.dst = none) (ho : o.op = .store T x y) (hx : evalO rd x = some (.aref n len i k)) (hy : evalO rd y = some v) (hv : cellsAV v = some vs)
    (hp : pureL vs = some ps) (hlen : Nat.beq len rows.length = true) (hi : rows[i]? = some row) (hz : sizeT P T = some vs.length) (hl : Nat.ble (k + vs.length) row.length = true) (hc : setAt row k ps = row') {rows' : List (List PV)} (hr' : rows.set i row' = rows') :
    OpOK P o ⟨rd, [(n, .arr es rows)], .any, [(n, .arr es rows')], []⟩ :=
  OpOK.wr hdst fun Γ ρ M s a w hs hh => by
    subst hr'; subst hc
    have hr := evalO_R hs hh hx
    simp only [AV.R] at hr
    have hn := hh.hp n _ (by simp : (n, AO.arr es rows) ∈ _)
    have hle := Nat.eq_of_beq_eq_true hlen
    obtain ⟨b, hb, hu⟩ := (hr.2 _ es rows.length hn rfl).2 hle
    obtain ⟨hes, hcap, hobj⟩ := hs.objs n _ hn
    have hil : i < rows.length := by
      rcases Nat.lt_or_ge i rows.length with h' | h'
      · exact h'
      · rw [List.getElem?_eq_none h'] at hi; simp at hi
    rcases hobj with hobj | ⟨b', t, cs, h3, h4, h5, h6, h7⟩
    · omega
    · have e : b' = b := by rw [hb] at h3; simpa using h3.symm
      subst e
      have hvs := cellsAV_R hv (evalO_R hs hh hy)
      rw [pureL_spec hp] at hvs hz hl
      have hlen2 := hvs.length
      simp only [Array.length_toList] at hlen2
      have hpl : (pcells ps).length = ps.length := by simp [pcells]
      rw [hpl] at hlen2 hz hl
      have hl' := Nat.le_of_ble_eq_true hl
      obtain ⟨cr, m1, m2, m3⟩ := RR.of_Rows (ρ := ρ) (H := s.heap) h7
      have hrl := m2 row (List.mem_of_getElem? hi)
      have hbound : i * es + es ≤ cs.size := by
        rw [h6, ← Nat.succ_mul]; exact Nat.mul_le_mul_right es (by omega)
      have hrun := run_storeVar (P := P) (T := T) (b := b') (k := i * es + k) (u := a.eval y) (w := w) (by rw [hz, hlen2]) h5 (by omega) (Rs_one hvs)
      refine ⟨w.setRow b' (setAt cs.toList (i * es + k) (a.eval y).cells.toList).toArray, (fun m => if m = n then ρ n else ρ m), M, ?_, ?_⟩
      · simp [execOp, ho, hu, Instr.storeAt, Instr.sureAddr, hrun]
      · have hblk : (ρ n).blk = some b' := by
          have : (ρ n).cap ≠ 0 := by omega
          simp [Loc.blk, this, h3]
        have he : Ext (fun b => b = b') w (w.setRow b' (setAt cs.toList (i * es + k) (a.eval y).cells.toList).toArray) := ⟨by simp [World.setRow], fun b hb hne => setRow_other w b' b _ hne, rfl, rfl⟩
        have hM : M b' := h4
        refine hs.update1 (he.weaken fun b _ hb => ⟨by rw [hblk, hb], by rw [hn]; simp⟩) (fun _ hb => hb) (fun _ hb => .inl hb) (fun b hb => Nat.lt_of_lt_of_le (hs.msize b hb) he.size)
          (fun o' ho' => by rw [hn] at ho'; cases ho'; simp [stays]) (fun h0 => by rw [hn] at h0; simp at h0) ?_ (fun b hb => .inl ⟨_, hn, hb⟩)
        refine ⟨hes, by simpa using hcap, .inr ⟨b', t, _, by simp [h3], hM, setRow_heap w b' cs _ t (0, 0) h5, ?_, ?_⟩⟩
        · simp only [if_true, List.size_toArray, setAt, List.length_append, List.length_take, List.length_drop, Array.length_toList, ← h6, hlen2]
          omega
        · have stv : ∀ {xs : List PV} {us : List Value}, AV.Rs ρ s.heap M w (pcells xs) us → PV.Rows M (w.setRow b' (setAt cs.toList (i * es + k) (a.eval y).cells.toList).toArray) b' es 0 [] := fun _ => by simp [PV.Rows]
          have hmono : ∀ {x : PV} {u : Value}, x.R M w u → x.R M (w.setRow b' (setAt cs.toList (i * es + k) (a.eval y).cells.toList).toArray) u := fun h => h.mono he (fun b hb => by rw [hb]; exact hM) (fun b _ hb => hb)
          have hcell : ∀ j, (w.setRow b' (setAt cs.toList (i * es + k) (a.eval y).cells.toList).toArray).cell? ⟨b', j, none⟩ = (setAt cs.toList (i * es + k) (a.eval y).cells.toList)[j]? := fun j => by
            rw [cell_setRow_same w b' j cs _ t (0, 0) h5, List.getElem?_toArray]
          have hold : ∀ j, w.cell? ⟨b', j, none⟩ = cs.toList[j]? := fun j => by simp [World.cell?, h5]
          have hset : ∀ j, (setAt cs.toList (i * es + k) (a.eval y).cells.toList)[j]? = if i * es + k ≤ j ∧ j < i * es + k + ps.length then (a.eval y).cells.toList[j - (i * es + k)]? else cs.toList[j]? := fun j => by
            have htl : (List.take (i * es + k) cs.toList).length = i * es + k := by simp; omega
            unfold setAt
            by_cases c1 : j < i * es + k
            · rw [if_neg (by omega), List.append_assoc, List.getElem?_append_left (by omega), List.getElem?_take_of_lt c1]
            · by_cases c2 : j < i * es + k + ps.length
              · rw [if_pos ⟨by omega, c2⟩, List.append_assoc, List.getElem?_append_right (by omega), List.getElem?_append_left (by simp; omega), htl]
              · rw [if_neg (by omega), List.getElem?_append_right (by simp; omega), List.getElem?_drop]
                congr 1
                simp; omega
          refine PV.Rows.of_get fun i' r' hi' => ?_
          rw [List.getElem?_set] at hi'
          by_cases e : i = i'
          · subst e
            simp only [if_true, hil] at hi'
            cases hi'
            have hsl : (setAt row k ps).length = es := by simp [setAt, hrl]; omega
            refine ⟨hsl, PV.Cells.of_get fun j c hj => ?_⟩
            have hj' : j < es := by
              rcases Nat.lt_or_ge j (setAt row k ps).length with h' | h'
              · omega
              · rw [List.getElem?_eq_none h'] at hj; simp at hj
            rw [hcell, hset]
            obtain ⟨_, g2⟩ := h7.get i row hi
            unfold setAt at hj
            have htl : (List.take k row).length = k := by simp; omega
            by_cases c1 : j < k
            · rw [if_neg (by omega)]
              rw [List.append_assoc, List.getElem?_append_left (by omega), List.getElem?_take_of_lt c1] at hj
              obtain ⟨u, hu', hr'⟩ := g2.get j c hj
              rw [hold] at hu'
              exact ⟨u, hu', hmono hr'⟩
            · by_cases c2 : j < k + ps.length
              · rw [if_pos ⟨by omega, by omega⟩]
                rw [List.append_assoc, List.getElem?_append_right (by omega), List.getElem?_append_left (by omega), htl] at hj
                obtain ⟨u, hu', _, hr'⟩ := hvs.get (j - k) (.p c) (by simp [pcells, hj])
                simp only [AV.R] at hr'
                refine ⟨u, ?_, hmono hr'⟩
                rw [← hu']
                congr 1
                omega
              · rw [if_neg (by omega)]
                rw [List.getElem?_append_right (by simp; omega), List.getElem?_drop] at hj
                obtain ⟨u, hu', hr'⟩ := g2.get j c (by rw [← hj]; congr 1; simp; omega)
                rw [hold] at hu'
                exact ⟨u, hu', hmono hr'⟩
          · rw [if_neg e] at hi'
            obtain ⟨g1, g2⟩ := h7.get i' r' hi'
            refine ⟨g1, PV.Cells.of_get fun j c hj => ?_⟩
            have hj' : j < es := by
              rcases Nat.lt_or_ge j r'.length with h' | h'
              · omega
              · rw [List.getElem?_eq_none h'] at hj; simp at hj
            obtain ⟨u, hu', hr'⟩ := g2.get j c hj
            rw [hcell, hset, if_neg ?_]
            · rw [hold] at hu'
              exact ⟨u, hu', hmono hr'⟩
            · intro ⟨c1, c2⟩
              rcases Nat.lt_or_gt_of_ne e with h' | h'
              · have : (i + 1) * es ≤ i' * es := Nat.mul_le_mul_right es h'
                rw [Nat.succ_mul] at this
                omega
              · have : (i' + 1) * es ≤ i * es := Nat.mul_le_mul_right es h'
                rw [Nat.succ_mul] at this
                omega
mutual
def AV.closed (ks : List Name) : AV → Bool
  | .p _ => true
  | .agg cs => AV.closedL ks cs
  | .ref m _ => ks.contains m
  | .own m _ => ks.contains m
  | .aref m _ _ _ => ks.contains m
  | .view m _ _ _ => ks.contains m
  | .eptr _ => true
  | .tup vs => AV.closedL ks vs
  | .clo _ fs caps => AV.closedL ks fs && AV.closedL ks caps
  | .oref _ m => ks.contains m
  | .err _ => true
  | .ub => true
  | .any => true
def AV.closedL (ks : List Name) : List AV → Bool
  | [] => true
  | x :: xs => AV.closed ks x && AV.closedL ks xs
end
mutual
theorem AV.closed_has {ks : List Name} {n : Name} : ∀ {x : AV}, x.closed ks = true → x.has n = true → n ∈ ks
  | .p _, _, h => by simp [AV.has] at h
  | .agg cs, h, h' => AV.closedL_has (xs := cs) (by simpa only [AV.closed] using h) (by simpa only [AV.has] using h')
  | .ref m _, h, h' => by simp only [AV.has, beq_iff_eq] at h'; subst h'; simpa [AV.closed] using h
  | .own m _, h, h' => by simp only [AV.has, beq_iff_eq] at h'; subst h'; simpa [AV.closed] using h
  | .view m _ _ _, h, h' => by simp only [AV.has, beq_iff_eq] at h'; subst h'; simpa [AV.closed] using h
  | .aref m _ _ _, h, h' => by simp only [AV.has, beq_iff_eq] at h'; subst h'; simpa [AV.closed] using h
  | .eptr _, _, h => by simp [AV.has] at h
  | .tup vs, h, h' => AV.closedL_has (xs := vs) (by simpa only [AV.closed] using h) (by simpa only [AV.has] using h')
  | .clo _ fs caps, h, h' => by
    simp only [AV.closed, Bool.and_eq_true] at h
    simp only [AV.has, Bool.or_eq_true] at h'
    rcases h' with h' | h'
    · exact AV.closedL_has h.1 h'
    · exact AV.closedL_has h.2 h'
  | .oref _ m, h, h' => by simp only [AV.has, beq_iff_eq] at h'; subst h'; simpa [AV.closed] using h
  | .err _, _, h => by simp [AV.has] at h
  | .ub, _, h => by simp [AV.has] at h
  | .any, _, h => by simp [AV.has] at h
theorem AV.closedL_has {ks : List Name} {n : Name} : ∀ {xs : List AV}, AV.closedL ks xs = true → AV.hasL n xs = true → n ∈ ks
  | [], _, h => by simp [AV.hasL] at h
  | x :: xs, h, h' => by
    simp only [AV.closedL, Bool.and_eq_true] at h
    simp only [AV.hasL, Bool.or_eq_true] at h'
    rcases h' with h' | h'
    · exact AV.closed_has h.1 h'
    · exact AV.closedL_has h.2 h'
end
def AO.closed (ks : List Name) : AO → Bool
  | .box cells => AV.closedL ks cells
  | .arr _ _ => true
  | .hole _ _ row _ => AV.closedL ks row
  | .fact a _ => a.closed ks
  | .obj _ => true
theorem AO.closed_has {ks : List Name} {n : Name} {ob : AO} (h : ob.closed ks = true) (h' : ob.has n = true) : n ∈ ks := by
  cases ob with
  | box cells => exact AV.closedL_has h h'
  | arr es rows => simp [AO.has] at h'
  | hole es pre row post => exact AV.closedL_has h h'
  | fact a x => exact AV.closed_has h h'
  | obj x => simp [AO.has] at h'
def callOK (pre h : List (Name × AO)) (nw : List Name) (v : AV) : Bool :=
  (keys h).all (fun n => (keys pre).contains n || nw.contains n) && nw.all (fun n => (keys h).contains n && !(keys pre).contains n) && v.closed (keys h) && h.all (fun p => p.2.closed (keys h))
theorem ObjAt.blk_size {ρ : Name → Loc} {H : Heap} {M : Nat → Prop} {w : World} {n : Name} {ob : AO} (h : ObjAt ρ H M w n ob) {b : Nat} (hb : (ρ n).blk = some b) : b < w.heap.size := by
  cases ob with
  | box cells =>
    obtain ⟨b', T, cs, h1, h2, h3, h4⟩ := h
    rw [h1] at hb; simp [Loc.blk] at hb; subst hb
    exact (Array.getElem?_eq_some_iff.1 h3).1
  | arr es rows =>
    obtain ⟨h0, h1, h2⟩ := h
    rcases h2 with h2 | ⟨b', T, cs, h3, h4, h5, h6⟩
    · simp [Loc.blk, h2] at hb
    · unfold Loc.blk at hb
      split at hb
      · simp at hb
      · rw [h3] at hb; simp at hb; subst hb; exact (Array.getElem?_eq_some_iff.1 h5).1
  | hole es pre row post =>
    obtain ⟨_, _, h1, b', T, cs, h3, h4, h5, _⟩ := h
    unfold Loc.blk at hb
    rw [if_neg (by omega), h3] at hb
    simp at hb; subst hb; exact (Array.getElem?_eq_some_iff.1 h5).1
  | fact a x => simp [Loc.blk, h.1] at hb
  | obj x =>
    obtain ⟨b', h1, h2, h3⟩ := h
    rw [h1] at hb; simp [Loc.blk] at hb; subst hb
    exact (Array.getElem?_eq_some_iff.1 h3).1
theorem look_keys {α : Type} {n : Nat} : ∀ {l : List (Nat × α)}, n ∈ keys l → ∃ x, look n l = some x
  | [], h => by simp [keys] at h
  | (k, y) :: r, h => by
    simp only [keys, List.map_cons, List.mem_cons] at h
    simp only [look]
    split
    · exact ⟨y, rfl⟩
    · rename_i hne
      rcases h with h | h
      · exact absurd h.symm hne
      · exact look_keys h
theorem Sim.after {Γ : Ctx} {ρ : Name → Loc} {M : Nat → Prop} {s : AS} {a : Act} {w : World} (hs : Sim Γ ρ M s a w) {pre h : List (Name × AO)} {nw : List Name} {v : AV} {u : Value} {ρ' : Name → Loc} {w' : World}
    (hpre : ∀ n ob, look n pre = some ob → s.heap n = some ob) (hnw : ∀ n, n ∈ nw → s.heap n = none ∧ s.free n) (hok : callOK pre h nw v = true) (ha : After ρ M w pre u v h ρ' w') :
    Sim Γ (fun m => if (keys h).contains m then ρ' m else ρ m) (newM M ρ' h) ⟨s.slot, fun m => match look m h with | some ob => some ob | none => s.heap m⟩ a w' ∧
      v.R (fun m => if (keys h).contains m then ρ' m else ρ m) (fun m => match look m h with | some ob => some ob | none => s.heap m) (newM M ρ' h) w' u := by
  simp only [callOK, Bool.and_eq_true, List.all_eq_true, Bool.or_eq_true, List.contains_eq_mem, decide_eq_true_eq, Bool.not_eq_true', decide_eq_false_iff_not] at hok
  obtain ⟨⟨⟨hk1, hk2⟩, hk3⟩, hk4⟩ := hok
  have hin : ∀ n ob, look n h = some ob → n ∈ keys h := fun n ob hn => keys_of_look (by rw [hn]; simp)
  have hstep0 : HStep ρ' (lookH h) (fun m => if (keys h).contains m then ρ' m else ρ m) (fun m => match look m h with | some ob => some ob | none => s.heap m) := fun n ob hn => by
    change look n h = some ob at hn
    simp only [hn, List.contains_eq_mem, decide_eq_true (hin n ob hn), if_true]
    exact stays_refl _ _
  have hclosed : ∀ n, n ∈ keys h → lookH h n = none → (match look n h with | some ob => some ob | none => s.heap n) = none := fun n hn hnone => by
    obtain ⟨x, hx⟩ := look_keys hn
    change look n h = none at hnone
    rw [hx] at hnone; simp at hnone
  have hconvM : ∀ b, newM M ρ' h b → newM M ρ' h b := fun _ hb => hb
  have hval : v.R (fun m => if (keys h).contains m then ρ' m else ρ m) (fun m => match look m h with | some ob => some ob | none => s.heap m) (newM M ρ' h) w' u :=
    ha.val.step (Ext.refl (fun _ => False) _) (fun _ hb => hb.elim) (fun b _ hb => hb) hstep0 (fun n hn hnone => hclosed n (AV.closed_has hk3 hn) hnone)
  refine ⟨?_, hval⟩
  have hlt : ∀ m o' b, s.heap m = some o' → (ρ m).blk = some b → b < w.heap.size ∧ M b := fun m o' b h1 h2 => (hs.objs m o' h1).blk_lt hs.msize h2
  have hhad : ∀ n ob o', look n h = some ob → s.heap n = some o' → look n pre = some o' := fun n ob o' h1 h2 => by
    rcases hk1 n (hin n ob h1) with h3 | h3
    · obtain ⟨x, hx⟩ := look_keys h3
      have := hpre n x hx
      rw [h2] at this; cases this; exact hx
    · have := (hnw n h3).1; rw [h2] at this; simp at this
  refine hs.update (ha.ext.weaken fun b _ ⟨n, ob, h1, h2⟩ => ⟨n, ob, hpre n ob h1, h2⟩) (fun b hb => .inl hb) (fun b hb => ?_) (fun b hb => ?_) (fun n ob hn => ?_) (fun n hn => ?_) (fun n hn hn' => ?_) (fun n ob hn => ?_) (fun n m o1 o2 b h1 h2 h3 h4 => ?_)
  · rcases hb with hb | ⟨n, ob, h1, h2⟩
    · exact .inl hb
    · rcases ha.own n ob b h1 h2 with ⟨o', h3, h4⟩ | h3
      · exact .inl (hlt n o' b (hpre n o' h3) h4).2
      · exact .inr h3
  · rcases hb with hb | ⟨n, ob, h1, h2⟩
    · exact Nat.lt_of_lt_of_le (hs.msize b hb) ha.ext.size
    · exact (ha.objs n ob h1).blk_size h2
  · cases hl : look n h with
    | none =>
      have : n ∉ keys h := fun hk => by obtain ⟨x, hx⟩ := look_keys hk; rw [hl] at hx; simp at hx
      simp only [hn, List.contains_eq_mem, decide_eq_false this]
      exact stays_refl _ _
    | some ob' =>
      have hp := hhad n ob' ob hl hn
      obtain ⟨o2, h1, h2⟩ := ha.keep n ob hp
      rw [hl] at h1; cases h1
      simp only [List.contains_eq_mem, decide_eq_true (hin n ob' hl), if_true]
      exact h2
  · obtain ⟨ob, h1, _⟩ := hs.keep n hn
    cases hl : look n h <;> simp [h1]
  · cases hl : look n h with
    | none => simp [hl, hn] at hn'
    | some ob =>
      rcases hk1 n (hin n ob hl) with h3 | h3
      · obtain ⟨x, hx⟩ := look_keys h3
        have := hpre n x hx
        rw [hn] at this; simp at this
      · exact (hnw n h3).2
  · cases hl : look n h with
    | none =>
      have hk : n ∉ keys h := fun hk => by obtain ⟨x, hx⟩ := look_keys hk; rw [hl] at hx; simp at hx
      simp only [hl] at hn
      refine .inl ⟨hn, by simp [hk], fun b hb => ?_⟩
      refine ha.ext.same b (hlt n ob b hn hb).1 (fun ⟨m, o', g1, g2⟩ => ?_)
      have := hs.inj n m ob o' b hn (hpre m o' g1) hb g2
      subst this
      obtain ⟨o2, h1, _⟩ := ha.keep n o' g1
      rw [hl] at h1; simp at h1
    | some ob' =>
      simp only [hl] at hn
      cases hn
      have hk := hin n ob hl
      refine .inr ⟨?_, fun b hb => ?_⟩
      · have h0 := ha.objs n ob hl
        refine h0.step (Ext.refl (fun _ => False) _) (fun _ hb => hb.elim) (fun b _ hb => hb) (fun b hb => hb) hstep0 (fun m hm hnone => ?_) (by simp [hk]) (fun b _ => rfl) (fun b hb => ?_)
        · exact hclosed m (AO.closed_has (hk4 _ (look_mem hl)) hm) hnone
        · rcases hb with hb | ⟨n, ob, h1, h2⟩
          · exact Nat.lt_of_lt_of_le (hs.msize b hb) ha.ext.size
          · exact (ha.objs n ob h1).blk_size h2
      · simp only [List.contains_eq_mem, decide_eq_true hk, if_true] at hb
        rcases ha.own n ob b hl hb with ⟨o', h3, h4⟩ | h3
        · exact .inl ⟨o', hpre n o' h3, h4⟩
        · exact .inr h3
  · cases hl : look n h with
    | none =>
      have hk : n ∉ keys h := fun hk => by obtain ⟨x, hx⟩ := look_keys hk; rw [hl] at hx; simp at hx
      simp only [hl] at h1
      simp only [List.contains_eq_mem, decide_eq_false hk, Bool.false_eq_true, if_false] at h3
      cases hl' : look m h with
      | none =>
        have hk' : m ∉ keys h := fun hk => by obtain ⟨x, hx⟩ := look_keys hk; rw [hl'] at hx; simp at hx
        simp only [hl'] at h2
        simp only [List.contains_eq_mem, decide_eq_false hk', Bool.false_eq_true, if_false] at h4
        exact hs.inj n m o1 o2 b h1 h2 h3 h4
      | some ob' =>
        have hk' := hin m ob' hl'
        simp only [List.contains_eq_mem, decide_eq_true hk', if_true] at h4
        exfalso
        rcases ha.own m ob' b hl' h4 with ⟨o', g1, g2⟩ | g
        · have := hs.inj n m o1 o' b h1 (hpre m o' g1) h3 g2
          subst this; rw [hl] at hl'; simp at hl'
        · have := (hlt n o1 b h1 h3).1; omega
    | some ob =>
      have hk := hin n ob hl
      simp only [List.contains_eq_mem, decide_eq_true hk, if_true] at h3
      cases hl' : look m h with
      | none =>
        have hk' : m ∉ keys h := fun hk => by obtain ⟨x, hx⟩ := look_keys hk; rw [hl'] at hx; simp at hx
        simp only [hl'] at h2
        simp only [List.contains_eq_mem, decide_eq_false hk', Bool.false_eq_true, if_false] at h4
        exfalso
        rcases ha.own n ob b hl h3 with ⟨o', g1, g2⟩ | g
        · have := hs.inj m n o2 o' b h2 (hpre n o' g1) h4 g2
          subst this; rw [hl'] at hl; simp at hl
        · have := (hlt m o2 b h2 h4).1; omega
      | some ob' =>
        have hk' := hin m ob' hl'
        simp only [List.contains_eq_mem, decide_eq_true hk', if_true] at h4
        exact ha.inj n m ob ob' b hl hl' h3 h4
theorem Sim.grounded {Γ : Ctx} {ρ : Name → Loc} {M : Nat → Prop} {s : AS} {a : Act} {w : World} {pre : List (Name × AO)} (hs : Sim Γ ρ M s a w) (hpre : ∀ n ob, look n pre = some ob → s.heap n = some ob) :
    Ground Γ.G w (fun b => ∃ n o, look n pre = some o ∧ (ρ n).blk = some b) :=
  ⟨hs.ground.laid, Nat.le_trans hs.ground.size hs.ext.size, fun b hb => by
    rw [hs.ext.same b (Nat.lt_of_lt_of_le hb hs.ground.size) (fun hB => by have := hs.ground.out b hB; omega)]; exact hs.ground.same b hb,
   fun b ⟨n, o, hn, hb⟩ => by
    rcases hs.own0 n o b (hpre n o hn) hb with ⟨h1, h2⟩ | h1
    · exact hs.ground.out b ⟨n, h1, h2⟩
    · exact Nat.le_trans hs.ground.size h1⟩
theorem call_core {f : FuncId} {args : List AV} {pre h : List (Name × AO)} {v : AV} {nw : List Name} {hrd : List (Nat × AV)}
    (hrun : ∀ (Γ : Ctx) (ρ : Name → Loc) (M : Nat → Prop) (s : AS) (a : Act) (w : World), Sim Γ ρ M s a w → s.holds ⟨rd, pre, v, h, nw⟩ → ∃ us : List Value, AV.Ts ρ s.heap M w args us ∧ (execOp a.eval o).run P w = .ok (.enter f us.toArray) w)
    (hspec : SpecIs P f args pre v h) (hok : callOK pre h nw v = true) : OpOK P o ⟨rd, pre, v, h, nw⟩ := by
  intro Γ ρ M s a w K Q hs hh hd hK
  obtain ⟨us, h1, h2⟩ := hrun Γ ρ M s a w hs hh
  have hpre : ∀ n ob, look n pre = some ob → s.heap n = some ob := fun n ob hn => hh.hp n ob (look_mem hn)
  have hstep : HStep ρ s.heap ρ (lookH pre) := fun n ob hn => by
    cases hc : lookH pre n with
    | none => cases ob <;> simp [stays]
    | some o' => have := hpre n o' hc; rw [hn] at this; cases this; exact stays_refl _ _
  have hnone : ∀ n, s.heap n = none → lookH pre n = none := fun n hn => by
    cases hc : lookH pre n with
    | none => rfl
    | some o' => have := hpre n o' hc; rw [hn] at this; simp at this
  unfold Oper.wp
  rw [h2, Oper.upon_enter]
  refine (hspec Γ.G ρ M w us (hs.grounded hpre) hs.msize (AV.Ts.step (Ext.refl (fun _ => False) _) (fun _ hb => hb.elim) (fun b _ hb => hb) hstep (fun n _ => hnone n) h1) (fun n ob hn => ?_) (fun n m o1 o2 b g1 g2 => hs.inj n m o1 o2 b (hpre _ _ g1) (hpre _ _ g2))).mono ?_
  · refine (hs.objs n ob (hpre n ob hn)).step (Ext.refl (fun _ => False) _) (fun _ hb => hb.elim) (fun b _ hb => hb) (fun b hb => hb) hstep (fun m _ => hnone m) rfl (fun _ _ => rfl) hs.msize
  · rintro e w' ⟨u, v', h', ρ', rfl, ⟨rfl, rfl⟩, ha⟩
    obtain ⟨k1, k2⟩ := hs.after hpre hh.nw hok ha
    exact hK _ _ _ w' ((k1.put hd (fun _ => k2)).congr (fun t => rfl) (fun m => rfl))
def callable (P : Program) (f : FuncId) : Bool := match P.funcs[f]? with
  | some fn => !(fn.name == "runtime.NumGoroutine") && fn.body.isSome
  | none => false
theorem run_callFunc {f : FuncId} (h : callable P f = true) (args : Array Value) (w : World) : (callFunc f args).run P w = .ok (.enter f args) w := by
  unfold callable at h
  cases hf : P.funcs[f]? with
  | none => simp [hf] at h
  | some fn =>
    simp only [hf, Bool.and_eq_true, Bool.not_eq_true'] at h
    have hb : fn.body.isNone = false := by cases hc : fn.body <;> simp_all
    simp only [callFunc, Sem.run_bind, run_program, Result.andThen_ok, hf, h.1, hb, Bool.false_eq_true, if_false]
    rfl
theorem OpOK.call {f : FuncId} {argOps : Array Operand} {ats : Array TypeId} {args : List AV} {pre h : List (Name × AO)} {v : AV} {nw : List Name}
    (ho : o.op = .call { callee := .value (.func f), args := argOps, argTypes := ats }) (hf : callable P f = true) (hargs : evalL rd argOps.toList = some args)
    (hspec : SpecIs P f args pre v h) (hok : callOK pre h nw v = true) : OpOK P o ⟨rd, pre, v, h, nw⟩ :=
  call_core (hrd := rd) (fun Γ ρ M s a w hs hh => ⟨argOps.toList.map a.eval, evalL_R hs hh hargs, by
    have e : (argOps.toList.map a.eval).toArray = argOps.map a.eval := by rw [← Array.toList_map]
    rw [e]
    simp [execOp, ho, resolve, Deferred.ofValue, Act.eval, invoke, run_callFunc hf]⟩) hspec hok
end
end Go.Proofs.YtfhcigjkfelnfaaGreat.AM
