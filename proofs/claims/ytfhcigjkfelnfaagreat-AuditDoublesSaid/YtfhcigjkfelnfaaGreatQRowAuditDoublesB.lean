/-
  The abstract machine, part E: code, contracts, calls. No project text.
-/
import Derived.Test.YtfhcigjkfelnfaaGreatQRowAuditDoublesA
import Derived.Deep.AppendSrc
import Derived.Deep.Upon
import Derived.IntWalk
import Derived.Laws.Strings
set_option linter.unusedSimpArgs false
set_option linter.unusedVariables false
namespace Go.Proofs.YtfhcigjkfelnfaaGreat.AM
open Go
section code
variable {P : Program} {Γ : Ctx} {s : AS} {Q : Exit → AS → Prop}
def nextQ (N : AS → Prop) (Q : Exit → AS → Prop) : Exit → AS → Prop
  | .normal, s => N s
  | e, s => Q e s
def blockQ (id : Nat) (Q : Exit → AS → Prop) : Exit → AS → Prop
  | .exit k, s => if k = id then Q .normal s else Q (.exit k) s
  | e, s => Q e s
theorem AWp.mono {c : Code} {Q' : Exit → AS → Prop} (h : AWp P Γ c s Q) (hq : ∀ e s, Q e s → Q' e s) : AWp P Γ c s Q' :=
  fun ρ M a w hs => wp_mono (h ρ M a w hs) fun e a' w' ⟨s', ρ', M', h1, h2⟩ => ⟨s', ρ', M', hq _ _ h1, h2⟩
theorem AWp.skip (h : Q .normal s) : AWp P Γ .skip s Q := fun ρ M a w hs => wp_skip ⟨s, ρ, M, h, hs⟩
theorem AWp.exit {id : Nat} (h : Q (.exit id) s) : AWp P Γ (.exit id) s Q := fun ρ M a w hs => wp_exit ⟨s, ρ, M, h, hs⟩
theorem AWp.ret (h : Q .ret s) : AWp P Γ .ret s Q := fun ρ M a w hs => wp_ret ⟨s, ρ, M, h, hs⟩
theorem AWp.label {l : Nat} (h : Q .normal s) : AWp P Γ (.label l) s Q := fun ρ M a w hs => wp_label ⟨s, ρ, M, h, hs⟩
theorem AWp.seq {x y : Code} (h : AWp P Γ x s (nextQ (fun s' => AWp P Γ y s' Q) Q)) : AWp P Γ (.seq x y) s Q := by
  intro ρ M a w hs
  refine wp_seq (wp_mono (h ρ M a w hs) fun e a' w' ⟨s', ρ', M', h1, h2⟩ => ?_)
  cases e <;> simp only [nextQ] at h1 <;> simp only [Exit.then]
  · exact h1 ρ' M' a' w' h2
  all_goals exact ⟨s', ρ', M', h1, h2⟩
theorem AWp.block {id : Nat} {c : Code} (h : AWp P Γ c s (blockQ id Q)) : AWp P Γ (.block id c) s Q := by
  intro ρ M a w hs
  refine wp_block (wp_mono (h ρ M a w hs) fun e a' w' ⟨s', ρ', M', h1, h2⟩ => ?_)
  cases e with
  | exit k =>
    simp only [blockQ] at h1
    simp only [Exit.inBlock]
    split
    · rename_i e; simp only [e, if_true] at h1; exact ⟨s', ρ', M', h1, h2⟩
    · rename_i e; simp only [e, if_false] at h1; exact ⟨s', ρ', M', h1, h2⟩
  | _ => exact ⟨s', ρ', M', h1, h2⟩
theorem eval_bool {ρ : Name → Loc} {M : Nat → Prop} {a : Act} {w : World} {t : Nat} {b : Bool} (hs : Sim Γ ρ M s a w) (h : s.slot t = some (.p (.v (.bool b)))) : a.eval (.tmp t) = .bool b := by
  obtain ⟨u, hu, hr⟩ := hs.slots t _ h
  simp only [AV.R, PV.R] at hr
  simp [Act.eval, Array.getD_eq_getD_getElem?, hu, hr.1]
theorem AWp.cond {t : Nat} {x y : Code} (b : Bool) (hc : s.slot t = some (.p (.v (.bool b)))) (ht : b = true → AWp P Γ x s Q) (hf : b = false → AWp P Γ y s Q) : AWp P Γ (.cond (.tmp t) x y) s Q :=
  fun ρ M a w hs => wp_cond_split (eval_bool hs hc) (fun hb => ht hb ρ M a w hs) (fun hb => hf hb ρ M a w hs)
theorem AWp.loop {c : Code} (I : Nat → AS → Prop) (h0 : ∃ m, I m s) (round : ∀ m s, I m s → AWp P Γ c s (nextQ (fun s' => ∃ m', m' < m ∧ I m' s') Q)) : AWp P Γ (.loop c) s Q := by
  intro ρ M a w hs b k cs
  have key : ∀ m s ρ M a w, I m s → Sim Γ ρ M s a w →
      ∃ e a' w', (∃ s' ρ' M', Q e s' ∧ Sim Γ ρ' M' s' a' w') ∧ Arrives P (lone (b.at a (.code c :: .inLoop c :: k)) cs w) b k cs e a' w' := by
    intro m
    induction m using Nat.strongRecOn with
    | _ m ih =>
      intro s ρ M a w hI hs
      obtain ⟨e, a₁, w₁, ⟨s', ρ', M', h1, h2⟩, harr⟩ := round m s hI ρ M a w hs b (.inLoop c :: k) cs
      cases e with
      | normal =>
        simp only [nextQ] at h1
        obtain ⟨m', hlt, hI'⟩ := h1
        obtain ⟨e₂, a₂, w₂, hq₂, harr₂⟩ := ih m' hlt s' ρ' M' a₁ w₁ hI' h2
        exact ⟨e₂, a₂, w₂, hq₂, .of_steps (Steps.trans harr (.one step_inLoop)) harr₂⟩
      | exit id => exact ⟨_, a₁, w₁, ⟨s', ρ', M', h1, h2⟩, .pass (x := .inLoop c) rfl (fun _ _ => .inl (by simp)) harr⟩
      | goto l => exact ⟨_, a₁, w₁, ⟨s', ρ', M', h1, h2⟩, .pass (x := .inLoop c) rfl (fun _ _ => .inl (by simp)) harr⟩
      | ret => exact ⟨_, a₁, w₁, ⟨s', ρ', M', h1, h2⟩, .pass (x := .inLoop c) rfl (fun _ _ => .inl (by simp)) harr⟩
      | panic ch => exact ⟨_, a₁, w₁, ⟨s', ρ', M', h1, h2⟩, .pass (x := .inLoop c) rfl (fun _ _ => .inl (by simp)) harr⟩
      | outgrown => exact ⟨_, a₁, w₁, ⟨s', ρ', M', h1, h2⟩, .pass (x := .inLoop c) rfl (fun _ _ => .inl (by simp)) harr⟩
  obtain ⟨m, hm⟩ := h0
  obtain ⟨e, a', w', hq, harr⟩ := key m s ρ M a w hm hs
  exact ⟨e, a', w', hq, .of_steps (.one step_loop) harr⟩
end code
def constCell : Value → AV
  | .slice none 0 0 => .p (.sl true 0 [])
  | c => .p (.v c)
def constAV : Value → Option AV
  | .agg cs => if cs.toList.all (fun c => c.oneCell') then some (.agg (cs.toList.map constCell)) else none
  | c => if c.oneCell' then some (constCell c) else none
def evalO (rd : List (Nat × AV)) : Operand → Option AV
  | .tmp t => look t rd
  | .const c => constAV c
  | .global g => some (.p (.v (.pointer (some ⟨g, 0, none⟩))))
  | .func f => some (.p (.v (.func (.func f) #[] #[])))
def evalL (rd : List (Nat × AV)) : List Operand → Option (List AV)
  | [] => some []
  | x :: r => match evalO rd x, evalL rd r with
    | some y, some ys => some (y :: ys)
    | _, _ => none
section
variable {ρ : Name → Loc} {H : Heap} {M : Nat → Prop} {w : World}
theorem constCell_R {c : Value} (h : c.oneCell' = true) : (constCell c).R ρ H M w c := by
  unfold constCell
  split
  · simp only [AV.R, PV.R]; exact ⟨none, 0, by simp⟩
  · simp only [AV.R, PV.R]; exact ⟨trivial, h⟩
theorem constCells_R : ∀ {cs : List Value}, (∀ c ∈ cs, c.oneCell' = true) → AV.Rs ρ H M w (cs.map constCell) cs
  | [], _ => by simp [AV.Rs]
  | c :: cs, h => by
    simp only [List.map_cons, AV.Rs]
    exact ⟨c, cs, rfl, h c (by simp), constCell_R (h c (by simp)), constCells_R (fun c hc => h c (by simp [hc]))⟩
theorem constAV_R {c : Value} {x : AV} (h : constAV c = some x) : x.R ρ H M w c := by
  unfold constAV at h
  split at h
  · rename_i cs
    split at h
    · rename_i hall
      cases h
      simp only [AV.R]
      exact ⟨cs, rfl, constCells_R (List.all_eq_true.1 hall)⟩
    · simp at h
  · split at h
    · rename_i hc; cases h; exact constCell_R hc
    · simp at h
theorem evalO_R {Γ : Ctx} {s : AS} {a : Act} {e : Eff} (hs : Sim Γ ρ M s a w) (hh : s.holds e) {x : Operand} {y : AV} (h : evalO e.rd x = some y) : y.R ρ s.heap M w (a.eval x) := by
  cases x with
  | tmp t =>
    obtain ⟨u, hu, hr⟩ := hs.slots t y (hh.rd t y (look_mem h))
    simpa [Act.eval, Array.getD_eq_getD_getElem?, hu] using hr
  | const c => exact constAV_R h
  | global g => simp only [evalO, Option.some.injEq] at h; subst h; simp only [AV.R, PV.R]; exact ⟨rfl, rfl⟩
  | func f => simp only [evalO, Option.some.injEq] at h; subst h; simp only [AV.R, PV.R]; exact ⟨rfl, rfl⟩
theorem evalL_R {Γ : Ctx} {s : AS} {a : Act} {e : Eff} (hs : Sim Γ ρ M s a w) (hh : s.holds e) : ∀ {xs : List Operand} {ys : List AV}, evalL e.rd xs = some ys → AV.Ts ρ s.heap M w ys (xs.map a.eval)
  | [], ys, h => by simp only [evalL, Option.some.injEq] at h; subst h; simp [AV.Ts]
  | x :: r, ys, h => by
    simp only [evalL] at h
    split at h
    · rename_i y ys' h1 h2
      cases h
      simp only [List.map_cons, AV.Ts]
      exact ⟨_, _, rfl, evalO_R hs hh h1, evalL_R hs hh h2⟩
    · simp at h
end
def lookH (l : List (Name × AO)) : Heap := fun n => look n l
def newM (M : Nat → Prop) (ρ : Name → Loc) (h : List (Name × AO)) : Nat → Prop := fun b => M b ∨ ∃ n o, look n h = some o ∧ (ρ n).blk = some b
structure After (ρ : Name → Loc) (M : Nat → Prop) (w : World) (pre : List (Name × AO)) (u : Value) (v : AV) (h : List (Name × AO)) (ρ' : Name → Loc) (w' : World) : Prop where
  val : v.R ρ' (lookH h) (newM M ρ' h) w' u
  objs : ∀ n o, look n h = some o → ObjAt ρ' (lookH h) (newM M ρ' h) w' n o
  inj : ∀ n m o o' b, look n h = some o → look m h = some o' → (ρ' n).blk = some b → (ρ' m).blk = some b → n = m
  own : ∀ n o b, look n h = some o → (ρ' n).blk = some b → (∃ o', look n pre = some o' ∧ (ρ n).blk = some b) ∨ w.heap.size ≤ b
  ext : Ext (fun b => ∃ n o, look n pre = some o ∧ (ρ n).blk = some b) w w'
  keep : ∀ n o, look n pre = some o → ∃ o', look n h = some o' ∧ stays o (ρ n) (some o') (ρ' n)
def Spec (P : Program) (f : FuncId) (args : List AV) (pre : List (Name × AO)) (post : AV → List (Name × AO) → Prop) : Prop :=
  ∀ (G : World) (ρ : Name → Loc) (M : Nat → Prop) (w : World) (us : List Value), Ground G w (fun b => ∃ n o, look n pre = some o ∧ (ρ n).blk = some b) → (∀ b, M b → b < w.heap.size) → AV.Ts ρ (lookH pre) M w args us →
    (∀ n o, look n pre = some o → ObjAt ρ (lookH pre) M w n o) →
    (∀ n m o o' b, look n pre = some o → look m pre = some o' → (ρ n).blk = some b → (ρ m).blk = some b → n = m) →
    Calls P f us.toArray w fun e w' => ∃ u v h ρ', e = .returned u ∧ post v h ∧ After ρ M w pre u v h ρ' w'
theorem Spec.mono {P : Program} {f : FuncId} {args : List AV} {pre : List (Name × AO)} {post post' : AV → List (Name × AO) → Prop} (h : Spec P f args pre post) (hp : ∀ v h, post v h → post' v h) : Spec P f args pre post' :=
  fun G ρ M w us hG h1 h2 h3 h4 => (h G ρ M w us hG h1 h2 h3 h4).mono fun e w' ⟨u, v, h, ρ', g1, g2, g3⟩ => ⟨u, v, h, ρ', g1, hp _ _ g2, g3⟩
abbrev SpecIs (P : Program) (f : FuncId) (args : List AV) (pre : List (Name × AO)) (v : AV) (h : List (Name × AO)) : Prop := Spec P f args pre fun v' h' => v' = v ∧ h' = h
def argSlots : Nat → List AV → List (Nat × AV)
  | _, [] => []
  | i, x :: r => (i, x) :: argSlots (i + 1) r
theorem argSlots_get : ∀ {i : Nat} {l : List AV} {t : Nat} {x : AV}, look t (argSlots i l) = some x → i ≤ t ∧ l[t - i]? = some x
  | i, [], t, x, h => by simp [argSlots, look] at h
  | i, y :: r, t, x, h => by
    simp only [argSlots, look] at h
    split at h
    · rename_i e; subst e; cases h; exact ⟨Nat.le_refl _, by simp⟩
    · obtain ⟨h1, h2⟩ := argSlots_get h
      refine ⟨by omega, ?_⟩
      rw [show t - i = (t - (i + 1)) + 1 by omega]; simpa using h2
theorem AV.Ts.get {ρ : Name → Loc} {H : Heap} {M : Nat → Prop} {w : World} : ∀ {xs : List AV} {us : List Value}, AV.Ts ρ H M w xs us → us.length = xs.length ∧ ∀ (j : Nat) (x : AV), xs[j]? = some x → ∃ u : Value, us[j]? = some u ∧ x.R ρ H M w u
  | [], us, h => by simp only [AV.Ts] at h; subst h; simp
  | x0 :: xs, us, h => by
    simp only [AV.Ts] at h
    obtain ⟨u, us', rfl, h3, h4⟩ := h
    obtain ⟨g1, g2⟩ := AV.Ts.get h4
    refine ⟨by simp [g1], fun j x hj => ?_⟩
    cases j with
    | zero => simp at hj; subst hj; exact ⟨u, by simp, h3⟩
    | succ j => simpa using g2 j x (by simpa using hj)
def aggT (P : Program) (T : TypeId) : Bool := match P.underlying T with | some (.struct _) => true | some (.array _ _) => true | some _ => false | none => false
def flatT (P : Program) (T : TypeId) : Bool := match P.underlying T with | some (.struct _) => false | some (.array _ _) => false | some _ => true | none => false
def sizeT (P : Program) (T : TypeId) : Option Nat := (P.info? T).map (·.size)
theorem run_isAgg_true {P : Program} {T : TypeId} (h : aggT P T = true) (w : World) : (isAgg T).run P w = .ok true w := by
  unfold aggT at h
  unfold isAgg underlying
  cases hu : P.underlying T with
  | none => simp [hu] at h
  | some d => cases d <;> simp_all
theorem run_isAgg_false {P : Program} {T : TypeId} (h : flatT P T = true) (w : World) : (isAgg T).run P w = .ok false w := by
  unfold flatT at h
  unfold isAgg underlying
  cases hu : P.underlying T with
  | none => simp [hu] at h
  | some d => cases d <;> simp_all
theorem run_sizeOf {P : Program} {T : TypeId} {k : Nat} (h : sizeT P T = some k) (w : World) : (sizeOf T).run P w = .ok k w := by
  unfold sizeT at h
  unfold sizeOf typeInfo
  cases hu : P.info? T with
  | none => simp [hu] at h
  | some i => simp [hu] at h ⊢; simp [h]
theorem run_loadVar_agg {P : Program} {w : World} {T : TypeId} {a : Addr} {us : List Value} (hT : aggT P T = true) (hz : sizeT P T = some us.length) (h : ∀ j v, us[j]? = some v → w.cell? (a.add j) = some v) :
    (loadVar T a).run P w = .ok (.agg us.toArray) w := by
  unfold loadVar
  simp only [Sem.run_bind, run_isAgg_true hT, Result.andThen, if_true, run_sizeOf hz, run_loadCells_list w a us h]
  rfl
theorem run_loadVar_flat {P : Program} {w : World} {T : TypeId} {a : Addr} {u : Value} (hT : flatT P T = true) (h : w.cell? a = some u) :
    (loadVar T a).run P w = .ok u w := by
  unfold loadVar
  simp only [Sem.run_bind, run_isAgg_false hT, Result.andThen, if_false, Bool.false_eq_true, run_load, h]
theorem addr_add (b o j : Nat) : (Addr.add ⟨b, o, none⟩ j) = ⟨b, o + j, none⟩ := by
  unfold Addr.add; split
  · rename_i h; subst h; rfl
  · rfl
theorem box_cells {ρ : Name → Loc} {H : Heap} {M : Nat → Prop} {w : World} {n : Name} {cells : List AV} (h : ObjAt ρ H M w n (.box cells)) :
    ∃ (b : Nat) (us : List Value), ρ n = ⟨some ⟨b, 0, none⟩, 1⟩ ∧ AV.Rs ρ H M w cells us ∧ ∀ j v, us[j]? = some v → w.cell? ⟨b, j, none⟩ = some v := by
  obtain ⟨b, T, cs, h1, h2, h3, h4⟩ := h
  refine ⟨b, cs.toList, h1, h4, fun j v hj => ?_⟩
  simp [World.cell?, h3]
  simpa using hj
def Res1 (P : Program) (s : AS) : ResultVar → AV → Prop
  | .tmp t, v => s.slot t = some v
  | .cell t T, v => ∃ n cells, s.slot t = some (.ref n 0) ∧ s.heap n = some (.box cells) ∧ ((aggT P T = true ∧ sizeT P T = some cells.length ∧ v = .agg cells) ∨ (flatT P T = true ∧ cells = [v]))
def Res1s (P : Program) (s : AS) : List ResultVar → List AV → Prop
  | [], vs => vs = []
  | r :: rs, vs => ∃ v vs', vs = v :: vs' ∧ Res1 P s r v ∧ Res1s P s rs vs'
def Res (P : Program) (s : AS) (rs : Array ResultVar) (v : AV) : Prop := if rs.size = 1 then Res1s P s rs.toList [v] else ∃ vs, v = .tup vs ∧ Res1s P s rs.toList vs
def resOf (tmps : Array Value) : ResultVar → Sem Value
  | .tmp t => pure (tmps.getD t undef)
  | .cell a t => do loadVar t (← asAddr (tmps.getD a undef))
theorem run_res1 {P : Program} {Γ : Ctx} {ρ : Name → Loc} {M : Nat → Prop} {s : AS} {a : Act} {w : World} (hs : Sim Γ ρ M s a w) {r : ResultVar} {v : AV} (h : Res1 P s r v) :
    ∃ u, (resOf a.tmps r).run P w = .ok u w ∧ v.R ρ s.heap M w u := by
  cases r with
  | tmp t =>
    obtain ⟨u, hu, hr⟩ := hs.slots t v h
    exact ⟨u, by simp [resOf, Array.getD_eq_getD_getElem?, hu], hr⟩
  | cell t T =>
    obtain ⟨n, cells, h1, h2, h3⟩ := h
    obtain ⟨u, hu, hr⟩ := hs.slots t _ h1
    simp only [AV.R] at hr
    obtain ⟨b, hb, rfl⟩ := hr.2 cells h2
    obtain ⟨b', us, g1, g2, g3⟩ := box_cells (hs.objs n _ h2)
    have e : b' = b := by rw [g1] at hb; simpa using hb
    subst e
    rcases h3 with ⟨hT, hz, rfl⟩ | ⟨hT, rfl⟩
    · refine ⟨.agg us.toArray, ?_, by simp only [AV.R]; exact ⟨us.toArray, rfl, by simpa using g2⟩⟩
      simp only [resOf, Array.getD_eq_getD_getElem?, hu, Option.getD_some, asAddr, Sem.run_bind]
      exact run_loadVar_agg hT (by rw [hz, g2.length]) (fun j v hj => by rw [addr_add, Nat.zero_add]; exact g3 j v hj)
    · simp only [AV.Rs] at g2
      obtain ⟨u, us', rfl, _, k3, k4⟩ := g2
      refine ⟨u, ?_, k3⟩
      simp only [resOf, Array.getD_eq_getD_getElem?, hu, Option.getD_some, asAddr, Sem.run_bind]
      exact run_loadVar_flat hT (g3 0 u (by simp))
theorem run_res1s {P : Program} {Γ : Ctx} {ρ : Name → Loc} {M : Nat → Prop} {s : AS} {a : Act} {w : World} (hs : Sim Γ ρ M s a w) : ∀ {rs : List ResultVar} {vs : List AV}, Res1s P s rs vs →
    ∃ us, (rs.mapM (resOf a.tmps)).run P w = .ok us w ∧ AV.Ts ρ s.heap M w vs us
  | [], vs, h => by
    simp only [Res1s] at h; subst h
    exact ⟨[], by simp, by simp [AV.Ts]⟩
  | r :: rs, vs, h => by
    simp only [Res1s] at h
    obtain ⟨v, vs', rfl, h1, h2⟩ := h
    obtain ⟨u, g1, g2⟩ := run_res1 hs h1
    obtain ⟨us, g3, g4⟩ := run_res1s hs h2
    refine ⟨u :: us, ?_, by simp only [AV.Ts]; exact ⟨u, us, rfl, g2, g4⟩⟩
    rw [List.mapM_cons]
    simp [g1, g3, Result.andThen]
theorem results_eq (fn : Func) (tmps : Array Value) : results fn tmps = (do let vs ← fn.results.mapM (resOf tmps); pure (if h : vs.size = 1 then vs[0] else .tuple vs)) := by
  rfl
theorem run_results {P : Program} {Γ : Ctx} {ρ : Name → Loc} {M : Nat → Prop} {s : AS} {a : Act} {w : World} (hs : Sim Γ ρ M s a w) {fn : Func} {v : AV} (h : Res P s fn.results v) :
    ∃ u, (results fn a.tmps).run P w = .ok u w ∧ v.R ρ s.heap M w u := by
  rw [results_eq]
  have key : ∀ vs, Res1s P s fn.results.toList vs → ∃ us, (fn.results.mapM (resOf a.tmps)).run P w = .ok us.toArray w ∧ AV.Ts ρ s.heap M w vs us := fun vs hv => by
    obtain ⟨us, g1, g2⟩ := run_res1s hs hv
    refine ⟨us, ?_, g2⟩
    rw [Array.mapM_eq_mapM_toList]
    simp [g1, Result.andThen]
  unfold Res at h
  split at h
  · rename_i hsz
    obtain ⟨us, g1, g2⟩ := key _ h
    simp only [AV.Ts] at g2
    obtain ⟨u, us', rfl, g3, rfl⟩ := g2
    refine ⟨u, ?_, g3⟩
    simp [g1, Result.andThen]
  · rename_i hsz
    obtain ⟨vs, rfl, h⟩ := h
    have hl : ∀ (rs : List ResultVar) (vs : List AV), Res1s P s rs vs → vs.length = rs.length := by
      intro rs
      induction rs with
      | nil => intro vs h; simp only [Res1s] at h; simp [h]
      | cons r rs ih => intro vs h; simp only [Res1s] at h; obtain ⟨v, vs', rfl, _, h2⟩ := h; simp [ih _ h2]
    obtain ⟨us, g1, g2⟩ := key _ h
    have hlen := g2.get.1
    refine ⟨.tuple us.toArray, ?_, by simp only [AV.R]; exact ⟨us.toArray, rfl, by simpa using g2⟩⟩
    have h1 : ¬ us.length = 1 := by rw [hlen, hl _ _ h]; simpa using hsz
    simp [g1, Result.andThen, h1]
theorem Spec.intro {P : Program} {f : FuncId} {fn : Func} {c : Code} {args : List AV} {pre : List (Name × AO)} {post : AV → List (Name × AO) → Prop}
    (hf : P.funcs[f]? = some fn) (hb : fn.body = some c) (hlen : Nat.ble args.length fn.ntmps = true)
    (h : ∀ Γ : Ctx, Γ.n = fn.ntmps → Γ.names = keys pre → AWp P Γ c (mk (argSlots 0 args) pre) fun e s' => (e = .normal ∨ e = .ret) ∧
      ∃ v h', Res P s' fn.results v ∧ (∀ n o, look n h' = some o → s'.heap n = some o) ∧ (∀ n, n ∈ keys pre → look n h' ≠ none) ∧ post v h') : Spec P f args pre post := by
  intro G ρ M w us hG hM hargs hobjs hinj
  have hlen' := Nat.le_of_ble_eq_true hlen
  obtain ⟨hul, hug⟩ := hargs.get
  let Γ : Ctx := { n := fn.ntmps, names := keys pre, pre := fun n => (look n pre).getD (.box []), ρ0 := ρ, w0 := w, M := M, G := G }
  have hsome : ∀ n, n ∈ keys pre → ∃ o, look n pre = some o := by
    intro n hn
    rcases Classical.em (look n pre = none) with h' | h'
    · exfalso
      have : ∀ (l : List (Name × AO)), n ∈ keys l → look n l ≠ none := by
        intro l
        induction l with
        | nil => intro h; simp [keys] at h
        | cons p r ih =>
          intro h
          obtain ⟨k, y⟩ := p
          simp only [keys, List.map_cons, List.mem_cons] at h
          simp only [look]
          split
          · simp
          · rename_i hne
            rcases h with h | h
            · exact absurd h.symm hne
            · exact ih h
      exact this pre hn h'
    · cases hc : look n pre with
      | none => exact absurd hc h'
      | some o => exact ⟨o, rfl⟩
  have hsim : Sim Γ ρ M (mk (argSlots 0 args) pre) { tmps := us.toArray ++ Array.replicate (fn.ntmps - us.toArray.size) undef, defers := [] } w := by
    refine ⟨by simp [Γ]; omega, rfl, fun t x ht => ?_, hobjs, hinj, fun n o b hn hb => .inl ⟨?_, hb⟩, fun n hn => ?_, Ext.refl _ _, fun b hb => hb, hM, hM, ⟨hG.laid, hG.size, hG.same, fun b ⟨n, hn, hb⟩ => by obtain ⟨o, ho⟩ := hsome n hn; exact hG.out b ⟨n, o, ho, hb⟩⟩⟩
    · obtain ⟨_, h2⟩ := argSlots_get ht
      obtain ⟨u, hu, hr⟩ := hug t x (by simpa using h2)
      refine ⟨u, ?_, hr⟩
      have : t < us.length := by
        rcases Nat.lt_or_ge t us.length with h' | h'
        · exact h'
        · rw [List.getElem?_eq_none h'] at hu; simp at hu
      rw [Array.getElem?_append_left (by simpa using this)]
      simpa using hu
    · exact keys_of_look (by change look n pre = some o at hn; rw [hn]; simp)
    · obtain ⟨o, ho⟩ := hsome n hn
      exact ⟨o, ho, by simp only [Γ, ho, Option.getD_some]; exact stays_refl _ _⟩
  refine calls_of_wp hf hb (wp_mono (h Γ rfl rfl ρ M _ w hsim) fun e a' w' ⟨s', ρ', M', ⟨he, v, h', h1, h2, h3, h4⟩, hs'⟩ => ?_)
  have hfin : ∃ u, (results fn a'.tmps).run P w' = .ok u w' ∧ ∃ u' v h ρ', Ending.returned u = .returned u' ∧ post v h ∧ After ρ M w pre u' v h ρ' w' := by
    obtain ⟨u, hu, hr⟩ := run_results hs' h1
    refine ⟨u, hu, u, v, h', ρ', rfl, h4, ?_⟩
    have hM' : ∀ b, newM M ρ' h' b → M' b := by
      intro b hb
      rcases hb with hb | ⟨n, o, g1, g2⟩
      · exact hs'.mext b hb
      · exact ((hs'.objs n o (h2 n o g1)).blk_lt hs'.msize g2).2
    have hstep : HStep ρ' s'.heap ρ' (lookH h') := by
      intro n o hn
      cases hc : lookH h' n with
      | none => cases o <;> simp [stays]
      | some o' => have := h2 n o' hc; rw [hn] at this; cases this; exact stays_refl _ _
    have hnone : ∀ n, s'.heap n = none → lookH h' n = none := fun n hn => by
      cases hc : lookH h' n with
      | none => rfl
      | some o' => have := h2 n o' hc; rw [hn] at this; simp at this
    refine ⟨hr.step (Ext.refl (fun _ => False) _) (fun _ hb => hb.elim) (fun b _ hb => hM' b hb) hstep (fun n _ => hnone n), fun n o hn => ?_, fun n m o o' b g1 g2 => hs'.inj n m o o' b (h2 _ _ g1) (h2 _ _ g2), fun n o b g1 g2 => ?_, ?_, fun n o hn => ?_⟩
    · -- objects
      have hobj := hs'.objs n o (h2 n o hn)
      cases o with
      | box cells =>
        obtain ⟨b, T, cs, k1, k2, k3, k4⟩ := hobj
        exact ⟨b, T, cs, k1, .inr ⟨n, _, hn, by rw [k1]; simp [Loc.blk]⟩, k3, k4.step (Ext.refl (fun _ => False) _) (fun _ hb => hb.elim) (fun b _ hb => hM' b hb) hstep (fun m _ => hnone m)⟩
      | arr es rows =>
        obtain ⟨k0, k1, k2⟩ := hobj
        refine ⟨k0, k1, ?_⟩
        by_cases hc : (ρ' n).cap = 0
        · exact .inl hc
        · rcases k2 with k2 | ⟨b, T, cs, k3, k4, k5, k6, k7⟩
          · exact .inl k2
          · refine .inr ⟨b, T, cs, k3, .inr ⟨n, _, hn, by simp [Loc.blk, hc, k3]⟩, k5, k6, ?_⟩
            refine PV.Rows.of_get fun i r hi => ?_
            obtain ⟨g1, g2⟩ := k7.get i r hi
            refine ⟨g1, PV.Cells.of_get fun j c hj => ?_⟩
            obtain ⟨u, hu, hr⟩ := g2.get j c hj
            exact ⟨u, hu, hr.mono (Ext.refl (fun _ => False) _) (fun _ hb => hb.elim) (fun b _ hb => hM' b hb)⟩
      | hole es pre row post =>
        obtain ⟨k0, k0', k1, b, T, cs, k3, k4, k5, k6, k7, k8, k9⟩ := hobj
        exact ⟨k0, k0', k1, b, T, cs, k3, .inr ⟨n, _, hn, by unfold Loc.blk; rw [if_neg (by omega), k3]; rfl⟩, k5, k6, k7.stepB (Ext.refl (fun _ => False) _) (fun _ hb => hb.elim) (fun b _ hb => hM' b hb) rfl,
          k8.step (Ext.refl (fun _ => False) _) (fun _ hb => hb.elim) (fun b _ hb => hM' b hb) hstep (fun m _ => hnone m), k9.stepB (Ext.refl (fun _ => False) _) (fun _ hb => hb.elim) (fun b _ hb => hM' b hb) rfl⟩
      | fact a x => exact ⟨hobj.1, hobj.2.step (Ext.refl (fun _ => False) _) (fun _ hb => hb.elim) (fun b _ hb => hM' b hb) hstep (fun m _ => hnone m)⟩
      | obj x =>
        obtain ⟨b, k1, k2, k3⟩ := hobj
        exact ⟨b, k1, .inr ⟨n, _, hn, by rw [k1]; simp [Loc.blk]⟩, k3⟩
    · rcases hs'.own0 n o b (h2 n o g1) g2 with ⟨k1, k2⟩ | k1
      · obtain ⟨o', ho'⟩ := hsome n k1
        exact .inl ⟨o', ho', k2⟩
      · exact .inr k1
    · exact hs'.ext.weaken (fun b _ ⟨n, k1, k2⟩ => by obtain ⟨o', ho'⟩ := hsome n k1; exact ⟨n, o', ho', k2⟩)
    · obtain ⟨o1, k1, k2⟩ := hs'.keep n (keys_of_look (by rw [hn]; simp))
      cases hc : look n h' with
      | none => exact absurd hc (h3 n (keys_of_look (by rw [hn]; simp)))
      | some o2 =>
        have := h2 n o2 hc
        rw [k1] at this; cases this
        refine ⟨o1, rfl, ?_⟩
        simpa [Γ, hn] using k2
  rcases he with rfl | rfl
  · exact ⟨hs'.d, hfin⟩
  · exact ⟨hs'.d, hfin⟩
end Go.Proofs.YtfhcigjkfelnfaaGreat.AM
/-
  The abstract machine, part F: the operations. No project text.
-/
set_option linter.unusedSimpArgs false
set_option linter.unusedVariables false
namespace Go.Proofs.YtfhcigjkfelnfaaGreat.AM
open Go
section
variable {P : Program} {o : Oper} {rd : List (Nat × AV)}
theorem OpOK.quiet {hp : List (Name × AO)} {v : AV}
    (h : ∀ (Γ : Ctx) (ρ : Name → Loc) (M : Nat → Prop) (s : AS) (a : Act) (w : World), Sim Γ ρ M s a w → s.holds ⟨rd, hp, v, [], []⟩ → ∃ u, (execOp a.eval o).run P w = .ok (.value u) w ∧ v.R ρ s.heap M w u) : OpOK P o ⟨rd, hp, v, [], []⟩ := by
  intro Γ ρ M s a w K Q hs hh hd hK
  obtain ⟨u, h1, h2⟩ := h Γ ρ M s a w hs hh
  unfold Oper.wp
  rw [h1, Oper.upon_value]
  exact hK ρ M _ w ((hs.put hd (fun _ => h2)).congr (fun t => rfl) (fun n => rfl))
theorem OpOK.move {x : Operand} {v : AV} (ho : o.op = .move x) (hx : evalO rd x = some v) : OpOK P o ⟨rd, [], v, [], []⟩ :=
  OpOK.quiet fun Γ ρ M s a w hs hh => ⟨a.eval x, by simp [execOp, ho], evalO_R hs hh hx⟩
theorem OpOK.assign {x : Operand} {v : AV} (ho : o.op = .assign x) (hx : evalO rd x = some v) : OpOK P o ⟨rd, [], v, [], []⟩ :=
  OpOK.quiet fun Γ ρ M s a w hs hh => ⟨a.eval x, by simp [execOp, ho], evalO_R hs hh hx⟩
theorem eval_v {Γ : Ctx} {ρ : Name → Loc} {M : Nat → Prop} {s : AS} {a : Act} {w : World} {e : Eff} (hs : Sim Γ ρ M s a w) (hh : s.holds e) {x : Operand} {c : Value} (h : evalO e.rd x = some (.p (.v c))) : a.eval x = c := by
  have := evalO_R hs hh h
  simp only [AV.R, PV.R] at this
  exact this.1
theorem OpOK.pickT {c x y : Operand} {v : AV} (ho : o.op = .pick c x y) (hc : evalO rd c = some (.p (.v (.bool true)))) (hx : evalO rd x = some v) : OpOK P o ⟨rd, [], v, [], []⟩ :=
  OpOK.quiet fun Γ ρ M s a w hs hh => ⟨a.eval x, by simp [execOp, ho, eval_v hs hh hc, asBool], evalO_R hs hh hx⟩
theorem OpOK.pickF {c x y : Operand} {v : AV} (ho : o.op = .pick c x y) (hc : evalO rd c = some (.p (.v (.bool false)))) (hy : evalO rd y = some v) : OpOK P o ⟨rd, [], v, [], []⟩ :=
  OpOK.quiet fun Γ ρ M s a w hs hh => ⟨a.eval y, by simp [execOp, ho, eval_v hs hh hc, asBool], evalO_R hs hh hy⟩
theorem OpOK.bin {op : BinOp} {T T' : TypeId} {x y : Operand} {c d r : Value} (ho : o.op = .binOp op T x y T') (hx : evalO rd x = some (.p (.v c))) (hy : evalO rd y = some (.p (.v d)))
    (hg : eqGuard op T x y c d = pure ()) (hr : ∀ w : World, (binOp op T c d).run P w = .ok r w) (h1 : r.oneCell' = true) : OpOK P o ⟨rd, [], .p (.v r), [], []⟩ :=
  OpOK.quiet fun Γ ρ M s a w hs hh => ⟨r, by simp [execOp, ho, eval_v hs hh hx, eval_v hs hh hy, hg, hr], by simp only [AV.R, PV.R]; exact ⟨trivial, h1⟩⟩
section ints
variable {T T' : TypeId} {x y : Operand} {k : IntKind} {a b r : Int}
theorem OpOK.add (ho : o.op = .binOp .add T x y T') (hx : evalO rd x = some (.p (.v (.int k a)))) (hy : evalO rd y = some (.p (.v (.int k b)))) (hr : k.wrap (a + b) = r) : OpOK P o ⟨rd, [], .p (.v (.int k r)), [], []⟩ :=
  OpOK.bin ho hx hy rfl (fun w => by simp [binOp, Op.intArith, hr]) rfl
theorem OpOK.sub (ho : o.op = .binOp .sub T x y T') (hx : evalO rd x = some (.p (.v (.int k a)))) (hy : evalO rd y = some (.p (.v (.int k b)))) (hr : k.wrap (a - b) = r) : OpOK P o ⟨rd, [], .p (.v (.int k r)), [], []⟩ :=
  OpOK.bin ho hx hy rfl (fun w => by simp [binOp, Op.intArith, hr]) rfl
theorem OpOK.mul (ho : o.op = .binOp .mul T x y T') (hx : evalO rd x = some (.p (.v (.int k a)))) (hy : evalO rd y = some (.p (.v (.int k b)))) (hr : k.wrap (a * b) = r) : OpOK P o ⟨rd, [], .p (.v (.int k r)), [], []⟩ :=
  OpOK.bin ho hx hy rfl (fun w => by simp [binOp, Op.intArith, hr]) rfl
theorem OpOK.quo (ho : o.op = .binOp .quo T x y T') (hx : evalO rd x = some (.p (.v (.int k a)))) (hy : evalO rd y = some (.p (.v (.int k b)))) (hb : b ≠ 0) (hr : k.wrap (a.tdiv b) = r) : OpOK P o ⟨rd, [], .p (.v (.int k r)), [], []⟩ :=
  OpOK.bin ho hx hy rfl (fun w => by simp [binOp, Op.intDiv, hr, hb]) rfl
theorem OpOK.rem (ho : o.op = .binOp .rem T x y T') (hx : evalO rd x = some (.p (.v (.int k a)))) (hy : evalO rd y = some (.p (.v (.int k b)))) (hb : b ≠ 0) (hr : a.tmod b = r) : OpOK P o ⟨rd, [], .p (.v (.int k r)), [], []⟩ :=
  OpOK.bin ho hx hy rfl (fun w => by simp [binOp, Op.intDiv, hr, hb]) rfl
variable {q : Bool}
theorem OpOK.lss (ho : o.op = .binOp .lss T x y T') (hx : evalO rd x = some (.p (.v (.int k a)))) (hy : evalO rd y = some (.p (.v (.int k b)))) (hr : decide (a < b) = q) : OpOK P o ⟨rd, [], .p (.v (.bool q)), [], []⟩ :=
  OpOK.bin ho hx hy rfl (fun w => by simp only [binOp, ne_eq, not_true_eq_false, if_false, Op.intCmp, hr]; rfl) rfl
theorem OpOK.leq (ho : o.op = .binOp .leq T x y T') (hx : evalO rd x = some (.p (.v (.int k a)))) (hy : evalO rd y = some (.p (.v (.int k b)))) (hr : decide (a ≤ b) = q) : OpOK P o ⟨rd, [], .p (.v (.bool q)), [], []⟩ :=
  OpOK.bin ho hx hy rfl (fun w => by simp only [binOp, ne_eq, not_true_eq_false, if_false, Op.intCmp, hr]; rfl) rfl
theorem OpOK.gtr (ho : o.op = .binOp .gtr T x y T') (hx : evalO rd x = some (.p (.v (.int k a)))) (hy : evalO rd y = some (.p (.v (.int k b)))) (hr : decide (b < a) = q) : OpOK P o ⟨rd, [], .p (.v (.bool q)), [], []⟩ :=
  OpOK.bin ho hx hy rfl (fun w => by simp only [binOp, ne_eq, not_true_eq_false, if_false, Op.intCmp, gt_iff_lt, hr]; rfl) rfl
theorem OpOK.geq (ho : o.op = .binOp .geq T x y T') (hx : evalO rd x = some (.p (.v (.int k a)))) (hy : evalO rd y = some (.p (.v (.int k b)))) (hr : decide (b ≤ a) = q) : OpOK P o ⟨rd, [], .p (.v (.bool q)), [], []⟩ :=
  OpOK.bin ho hx hy rfl (fun w => by simp only [binOp, ne_eq, not_true_eq_false, if_false, Op.intCmp, ge_iff_le, hr]; rfl) rfl
theorem OpOK.eqlI (ho : o.op = .binOp .eql T x y T') (hx : evalO rd x = some (.p (.v (.int k a)))) (hy : evalO rd y = some (.p (.v (.int k b)))) (hr : decide (a = b) = q) : OpOK P o ⟨rd, [], .p (.v (.bool q)), [], []⟩ :=
  OpOK.bin ho hx hy (eqGuard_at_int ..) (fun w => by rw [← hr]; simp only [binOp, ne_eq, not_true_eq_false, if_false, Op.intCmp]; rfl) rfl
theorem OpOK.neqI (ho : o.op = .binOp .neq T x y T') (hx : evalO rd x = some (.p (.v (.int k a)))) (hy : evalO rd y = some (.p (.v (.int k b)))) (hr : decide (a ≠ b) = q) : OpOK P o ⟨rd, [], .p (.v (.bool q)), [], []⟩ :=
  OpOK.bin ho hx hy (eqGuard_at_int ..) (fun w => by rw [← hr]; simp only [binOp, ne_eq, not_true_eq_false, if_false, Op.intCmp, decide_not, bne]; rfl) rfl
theorem OpOK.not {b : Bool} (ho : o.op = .unOp .not T x) (hx : evalO rd x = some (.p (.v (.bool b)))) (hr : (!b) = q) : OpOK P o ⟨rd, [], .p (.v (.bool q)), [], []⟩ :=
  OpOK.quiet fun Γ ρ M s a w hs hh => ⟨.bool q, by simp [execOp, ho, eval_v hs hh hx, Op.unary, hr], by simp only [AV.R, PV.R]; exact ⟨trivial, rfl⟩⟩
theorem OpOK.neg (ho : o.op = .unOp .neg T x) (hx : evalO rd x = some (.p (.v (.int k a)))) (hr : k.wrap (0 - a) = r) : OpOK P o ⟨rd, [], .p (.v (.int k r)), [], []⟩ :=
  OpOK.quiet fun Γ ρ M s a w hs hh => ⟨.int k r, by simp only [execOp, ho, eval_v hs hh hx, Op.unary, Op.intArith, hr]; rfl, by simp only [AV.R, PV.R]; exact ⟨trivial, rfl⟩⟩
end ints
def fieldOff (P : Program) (S : TypeId) (i : Nat) : Option Nat :=
  match P.underlying S with
  | some (.struct fields) => match fields[i]? with
    | some f => match sizeT P f.type with
      | some (_ + 1) => some f.offset
      | _ => none
    | none => none
  | _ => none
theorem run_fieldAt {S : TypeId} {i fo : Nat} (h : fieldOff P S i = some fo) (b k : Nat) (w : World) :
    (Instr.fieldAt S (.pointer (some ⟨b, k, none⟩)) i).run P w = .ok (.pointer (some ⟨b, k + fo, none⟩)) w := by
  unfold fieldOff at h
  cases hu : P.underlying S with
  | none => simp [hu] at h
  | some d =>
    cases d with
    | struct fields =>
      simp only [hu] at h
      cases hf : fields[i]? with
      | none => simp [hf] at h
      | some f =>
        simp only [hf] at h
        cases hz : sizeT P f.type with
        | none => simp [hz] at h
        | some z =>
          cases z with
          | zero => simp [hz] at h
          | succ z =>
            simp only [hz, Option.some.injEq] at h
            subst h
            simp [Instr.fieldAt, run_underlying hu, hf, Instr.sureAddr, fieldPlace, run_sizeOf hz, addr_add]
    | _ => simp [hu] at h
theorem OpOK.fieldRef {S : TypeId} {x : Operand} {i fo k k' : Nat} {n : Name} (ho : o.op = .fieldAddr S x i) (hx : evalO rd x = some (.ref n k)) (hf : fieldOff P S i = some fo) (hk : k + fo = k') {cells : List AV} :
    OpOK P o ⟨rd, [(n, .box cells)], .ref n k', [], []⟩ :=
  OpOK.quiet fun Γ ρ M s a w hs hh => by
    subst hk
    have hr := evalO_R hs hh hx
    simp only [AV.R] at hr
    obtain ⟨b, hb, hu⟩ := hr.2 cells (hh.hp n _ (by simp))
    refine ⟨.pointer (some ⟨b, k + fo, none⟩), by simp [execOp, ho, hu, run_fieldAt hf], ?_⟩
    simp only [AV.R]
    exact ⟨rfl, fun _ _ => ⟨b, hb, rfl⟩⟩
theorem OpOK.fieldPtr {S : TypeId} {x : Operand} {i fo : Nat} {cells sub : List PV} (ho : o.op = .fieldAddr S x i) (hx : evalO rd x = some (.eptr cells)) (hf : fieldOff P S i = some fo) (hsub : cells.drop fo = sub) :
    OpOK P o ⟨rd, [], .eptr sub, [], []⟩ :=
  OpOK.quiet fun Γ ρ M s a w hs hh => by
    have hr := evalO_R hs hh hx
    simp only [AV.R] at hr
    obtain ⟨⟨b, off, spot⟩, hu, hsp, hM, hlt, hc⟩ := hr
    simp only at hsp; subst hsp
    refine ⟨.pointer (some ⟨b, off + fo, none⟩), by simp [execOp, ho, hu, run_fieldAt hf], ?_⟩
    simp only [AV.R]
    exact ⟨_, rfl, rfl, hM, hlt, by rw [← hsub]; exact hc.drop fo⟩
theorem OpOK.fieldElemSh {S : TypeId} {x : Operand} {i fo len j k k' : Nat} {n : Name} (ho : o.op = .fieldAddr S x i) (hx : evalO rd x = some (.aref n len j k)) (hf : fieldOff P S i = some fo) (hk : k + fo = k') {ob : AO} {es kk : Nat} (hsh : ob.shape = some (es, kk)) (hl : Nat.beq len kk = true) :
    OpOK P o ⟨rd, [(n, ob)], .aref n len j k', [], []⟩ :=
  OpOK.quiet fun Γ ρ M s a w hs hh => by
    subst hk
    have hr := evalO_R hs hh hx
    simp only [AV.R] at hr
    have hl' := Nat.eq_of_beq_eq_true hl
    have hn := hh.hp n _ (by simp : (n, ob) ∈ _)
    obtain ⟨h1, h2⟩ := hr.2 ob es kk hn hsh
    obtain ⟨b, hb, hu⟩ := h2 hl'
    refine ⟨.pointer (some ⟨b, j * es + (k + fo), none⟩), by simp [execOp, ho, hu, run_fieldAt hf, Nat.add_assoc], ?_⟩
    simp only [AV.R]
    refine ⟨rfl, fun o' es' k' hc hs' => ?_⟩
    rw [hn] at hc; cases hc
    rw [hsh] at hs'; cases hs'
    exact ⟨h1, fun _ => ⟨b, hb, rfl⟩⟩
theorem OpOK.fieldElem {S : TypeId} {x : Operand} {i fo len j k k' : Nat} {n : Name} (ho : o.op = .fieldAddr S x i) (hx : evalO rd x = some (.aref n len j k)) (hf : fieldOff P S i = some fo) (hk : k + fo = k') {es : Nat} {rows : List (List PV)} (hl : Nat.beq len rows.length = true) :
    OpOK P o ⟨rd, [(n, .arr es rows)], .aref n len j k', [], []⟩ := OpOK.fieldElemSh ho hx hf hk rfl hl
theorem OpOK.nilCheckRef {x : Operand} {n : Name} {k : Nat} (ho : o.op = .nilCheck x) (hx : evalO rd x = some (.ref n k)) {cells : List AV} : OpOK P o ⟨rd, [(n, .box cells)], .ref n k, [], []⟩ :=
  OpOK.quiet fun Γ ρ M s a w hs hh => by
    have hr := evalO_R hs hh hx
    have hr' := hr
    simp only [AV.R] at hr'
    obtain ⟨b, hb, hu⟩ := hr'.2 cells (hh.hp n _ (by simp))
    exact ⟨.pointer (some ⟨b, k, none⟩), by simp [execOp, ho, hu], by rw [← hu]; exact hr⟩
theorem OpOK.nilCheckPtr {x : Operand} {cells : List PV} (ho : o.op = .nilCheck x) (hx : evalO rd x = some (.eptr cells)) : OpOK P o ⟨rd, [], .eptr cells, [], []⟩ :=
  OpOK.quiet fun Γ ρ M s a w hs hh => by
    have hr := evalO_R hs hh hx
    have hr' := hr
    simp only [AV.R] at hr'
    obtain ⟨ad, hu, _⟩ := hr'
    exact ⟨.pointer (some ad), by simp [execOp, ho, hu], by rw [← hu]; exact hr⟩
theorem OpOK.nilCheckSh {x : Operand} {n : Name} {len j k es kk : Nat} {ob : AO} (ho : o.op = .nilCheck x) (hx : evalO rd x = some (.aref n len j k)) (hsh : ob.shape = some (es, kk)) (hl : Nat.beq len kk = true) : OpOK P o ⟨rd, [(n, ob)], .aref n len j k, [], []⟩ :=
  OpOK.quiet fun Γ ρ M s a w hs hh => by
    have hr := evalO_R hs hh hx
    have hr' := hr
    simp only [AV.R] at hr'
    obtain ⟨b, hb, hu⟩ := (hr'.2 ob es kk (hh.hp n _ (by simp)) hsh).2 (Nat.eq_of_beq_eq_true hl)
    exact ⟨.pointer (some ⟨b, j * es + k, none⟩), by simp [execOp, ho, hu], by rw [← hu]; exact hr⟩
theorem OpOK.nilCheckElem {x : Operand} {n : Name} {len j k es : Nat} {rows : List (List PV)} (ho : o.op = .nilCheck x) (hx : evalO rd x = some (.aref n len j k)) (hl : Nat.beq len rows.length = true) : OpOK P o ⟨rd, [(n, .arr es rows)], .aref n len j k, [], []⟩ :=
  OpOK.nilCheckSh ho hx rfl hl
theorem OpOK.loadBoxAgg {T : TypeId} {x : Operand} {n : Name} {k z : Nat} {cells sub : List AV} (ho : o.op = .load T x) (hx : evalO rd x = some (.ref n k)) (hT : aggT P T = true) (hz : sizeT P T = some z)
    (hsub : (cells.drop k).take z = sub) (hl : sub.length = z) : OpOK P o ⟨rd, [(n, .box cells)], .agg sub, [], []⟩ :=
  OpOK.quiet fun Γ ρ M s a w hs hh => by
    have hr := evalO_R hs hh hx
    simp only [AV.R] at hr
    have hn := hh.hp n _ (by simp : (n, AO.box cells) ∈ _)
    obtain ⟨b, hb, hu⟩ := hr.2 cells hn
    obtain ⟨b', us, g1, g2, g3⟩ := box_cells (hs.objs n _ hn)
    have e : b' = b := by rw [g1] at hb; simpa using hb
    subst e
    have g4 := (g2.drop k).take z
    rw [hsub] at g4
    refine ⟨.agg ((us.drop k).take z).toArray, ?_, by simp only [AV.R]; exact ⟨_, rfl, by simpa using g4⟩⟩
    have := run_loadVar_agg (P := P) (w := w) (a := ⟨b', k, none⟩) (us := (us.drop k).take z) hT (by rw [hz, g4.length, hl]) (fun j v hj => by
      rw [addr_add]
      refine g3 (k + j) v ?_
      rw [List.getElem?_take] at hj
      split at hj
      · simpa using hj
      · simp at hj)
    simp [execOp, ho, hu, Instr.loadAt, Instr.sureAddr, this]
theorem OpOK.loadBox {T : TypeId} {x : Operand} {n : Name} {k : Nat} {cells : List AV} {c : AV} (ho : o.op = .load T x) (hx : evalO rd x = some (.ref n k)) (hT : flatT P T = true)
    (hc : cells[k]? = some c) : OpOK P o ⟨rd, [(n, .box cells)], c, [], []⟩ :=
  OpOK.quiet fun Γ ρ M s a w hs hh => by
    have hr := evalO_R hs hh hx
    simp only [AV.R] at hr
    have hn := hh.hp n _ (by simp : (n, AO.box cells) ∈ _)
    obtain ⟨b, hb, hu⟩ := hr.2 cells hn
    obtain ⟨b', us, g1, g2, g3⟩ := box_cells (hs.objs n _ hn)
    have e : b' = b := by rw [g1] at hb; simpa using hb
    subst e
    obtain ⟨u, k1, k2, k3⟩ := g2.get k c hc
    exact ⟨u, by simp [execOp, ho, hu, Instr.loadAt, Instr.sureAddr, run_loadVar_flat hT (g3 k u k1)], k3⟩
theorem OpOK.loadPtrAgg {T : TypeId} {x : Operand} {z : Nat} {cells sub : List PV} {sub' : List AV} (ho : o.op = .load T x) (hx : evalO rd x = some (.eptr cells)) (hT : aggT P T = true) (hz : sizeT P T = some z)
    (hsub : cells.take z = sub) (hl : sub.length = z) (hs' : pcells sub = sub') : OpOK P o ⟨rd, [], .agg sub', [], []⟩ :=
  OpOK.quiet fun Γ ρ M s a w hs hh => by
    subst hs'
    have hr := evalO_R hs hh hx
    simp only [AV.R] at hr
    obtain ⟨⟨b, off, spot⟩, hu, hsp, hM, hlt, hc⟩ := hr
    simp only at hsp; subst hsp
    have hc' := hc.take z
    rw [hsub] at hc'
    obtain ⟨us, g1, g2⟩ := Rs_of_Cells (ρ := ρ) (H := s.heap) hc'
    refine ⟨.agg us.toArray, ?_, by simp only [AV.R]; exact ⟨_, rfl, by simpa using g1⟩⟩
    have := run_loadVar_agg (P := P) (w := w) (a := ⟨b, off, none⟩) (us := us) hT (by rw [hz, g1.length]; simp [pcells, hl]) (fun j v hj => by rw [addr_add]; exact g2 j v hj)
    simp [execOp, ho, hu, Instr.loadAt, Instr.sureAddr, this]
theorem OpOK.loadPtr {T : TypeId} {x : Operand} {cells : List PV} {c : PV} (ho : o.op = .load T x) (hx : evalO rd x = some (.eptr cells)) (hT : flatT P T = true)
    (hc0 : cells[0]? = some c) : OpOK P o ⟨rd, [], .p c, [], []⟩ :=
  OpOK.quiet fun Γ ρ M s a w hs hh => by
    have hr := evalO_R hs hh hx
    simp only [AV.R] at hr
    obtain ⟨⟨b, off, spot⟩, hu, hsp, hM, hlt, hc⟩ := hr
    simp only at hsp; subst hsp
    obtain ⟨u, k1, k2⟩ := hc.get 0 c hc0
    simp only [Nat.add_zero] at k1
    exact ⟨u, by simp [execOp, ho, hu, Instr.loadAt, Instr.sureAddr, run_loadVar_flat hT k1], by simpa only [AV.R] using k2⟩
theorem arr_row {ρ : Name → Loc} {H : Heap} {M : Nat → Prop} {w : World} {n : Name} {es : Nat} {rows : List (List PV)} (h : ObjAt ρ H M w n (.arr es rows)) {b : Nat} (hb : (ρ n).base = some ⟨b, 0, none⟩) {i : Nat} {row : List PV} (hi : rows[i]? = some row) :
    row.length = es ∧ PV.Cells M w b (i * es) row := by
  obtain ⟨h0, h1, h2⟩ := h
  have hlt : i < rows.length := by
    rcases Nat.lt_or_ge i rows.length with h' | h'
    · exact h'
    · rw [List.getElem?_eq_none h'] at hi; simp at hi
  rcases h2 with h2 | ⟨b', T, cs, h3, h4, h5, h6, h7⟩
  · omega
  · rw [hb] at h3
    simp at h3; subst h3
    have := h7.get i row hi
    simpa using this
theorem OpOK.loadElemAgg {T : TypeId} {x : Operand} {n : Name} {len i k z es : Nat} {rows : List (List PV)} {row sub : List PV} (ho : o.op = .load T x) (hx : evalO rd x = some (.aref n len i k)) (hT : aggT P T = true) (hz : sizeT P T = some z)
    (hlen : Nat.beq len rows.length = true) (hi : rows[i]? = some row) (hsub : (row.drop k).take z = sub) (hl : sub.length = z) {sub' : List AV} (hs' : pcells sub = sub') : OpOK P o ⟨rd, [(n, .arr es rows)], .agg sub', [], []⟩ :=
  OpOK.quiet fun Γ ρ M s a w hs hh => by
    subst hs'
    have hr := evalO_R hs hh hx
    simp only [AV.R] at hr
    have hn := hh.hp n _ (by simp : (n, AO.arr es rows) ∈ _)
    obtain ⟨b, hb, hu⟩ := (hr.2 _ es rows.length hn rfl).2 (Nat.eq_of_beq_eq_true hlen)
    obtain ⟨_, hc⟩ := arr_row (hs.objs n _ hn) hb hi
    have hc' := (hc.drop k).take z
    rw [hsub] at hc'
    obtain ⟨us, g1, g2⟩ := Rs_of_Cells (ρ := ρ) (H := s.heap) hc'
    refine ⟨.agg us.toArray, ?_, by simp only [AV.R]; exact ⟨_, rfl, by simpa using g1⟩⟩
    have := run_loadVar_agg (P := P) (w := w) (a := ⟨b, i * es + k, none⟩) (us := us) hT (by rw [hz, g1.length]; simp [pcells, hl]) (fun j v hj => by rw [addr_add]; exact g2 j v hj)
    simp [execOp, ho, hu, Instr.loadAt, Instr.sureAddr, this]
theorem OpOK.loadElem {T : TypeId} {x : Operand} {n : Name} {len i k es : Nat} {rows : List (List PV)} {row : List PV} {c : PV} (ho : o.op = .load T x) (hx : evalO rd x = some (.aref n len i k)) (hT : flatT P T = true)
    (hlen : Nat.beq len rows.length = true) (hi : rows[i]? = some row) (hc0 : row[k]? = some c) : OpOK P o ⟨rd, [(n, .arr es rows)], .p c, [], []⟩ :=
  OpOK.quiet fun Γ ρ M s a w hs hh => by
    have hr := evalO_R hs hh hx
    simp only [AV.R] at hr
    have hn := hh.hp n _ (by simp : (n, AO.arr es rows) ∈ _)
    obtain ⟨b, hb, hu⟩ := (hr.2 _ es rows.length hn rfl).2 (Nat.eq_of_beq_eq_true hlen)
    obtain ⟨_, hc⟩ := arr_row (hs.objs n _ hn) hb hi
    obtain ⟨u, k1, k2⟩ := hc.get k c hc0
    exact ⟨u, by simp [execOp, ho, hu, Instr.loadAt, Instr.sureAddr, run_loadVar_flat hT k1], by simpa only [AV.R] using k2⟩
def elemT (P : Program) (T : TypeId) : Option TypeId := match P.underlying T with | some (.slice e) => some e | _ => none
theorem elemT_spec {T e : TypeId} (h : elemT P T = some e) : P.underlying T = some (.slice e) := by
  unfold elemT at h
  split at h
  · rename_i h'; cases h; exact h'
  · simp at h
theorem OpOK.indexP {T e : TypeId} {x y : Operand} {f : Bool} {es i : Nat} {rows : List (List PV)} {row : List PV} {k : IntKind} {j : Int} (ho : o.op = .indexAddr T x y) (hT : elemT P T = some e) (hz : sizeT P e = some es)
    (hx : evalO rd x = some (.p (.sl f es rows))) (hy : evalO rd y = some (.p (.v (.int k j)))) (hj : j = (i : Int)) (hi : rows[i]? = some row) : OpOK P o ⟨rd, [], .eptr row, [], []⟩ :=
  OpOK.quiet fun Γ ρ M s a w hs hh => by
    have hr := evalO_R hs hh hx
    simp only [AV.R, PV.R] at hr
    obtain ⟨ad, cap, hu, h2, h3, h4, h5⟩ := hr
    have hlt : i < rows.length := by
      rcases Nat.lt_or_ge i rows.length with h' | h'
      · exact h'
      · rw [List.getElem?_eq_none h'] at hi; simp at hi
    cases ad with
    | none => have := h4 rfl; omega
    | some ad =>
      obtain ⟨g1, g2, g3, g4⟩ := h5 ad rfl (by omega)
      obtain ⟨b, off, spot⟩ := ad
      simp only at g1; subst g1
      refine ⟨.pointer (some ⟨b, off + i * es, none⟩), ?_, ?_⟩
      · simp [execOp, ho, hu, eval_v hs hh hy, Instr.indexAt, asIntOf, run_underlying (elemT_spec hT), hj, hlt, run_sizeOf hz, addr_add]
      · simp only [AV.R]
        exact ⟨_, rfl, rfl, g2, g3, (g4.get i row hi).2⟩
theorem OpOK.indexOwn {T e : TypeId} {x y : Operand} {n : Name} {len es i : Nat} {rows : List (List PV)} {k : IntKind} {j : Int} (ho : o.op = .indexAddr T x y) (hT : elemT P T = some e) (hz : sizeT P e = some es)
    (hx : evalO rd x = some (.own n len)) (hlen : Nat.beq len rows.length = true) (hy : evalO rd y = some (.p (.v (.int k j)))) (hj : j = (i : Int)) (hi : i < rows.length) : OpOK P o ⟨rd, [(n, .arr es rows)], .aref n len i 0, [], []⟩ :=
  OpOK.quiet fun Γ ρ M s a w hs hh => by
    have hr := evalO_R hs hh hx
    simp only [AV.R] at hr
    have hn := hh.hp n _ (by simp : (n, AO.arr es rows) ∈ _)
    have hle := Nat.eq_of_beq_eq_true hlen
    have hu := (hr.2 _ es rows.length hn rfl).2 hle
    obtain ⟨h0, h1, h2⟩ := hs.objs n _ hn
    rcases h2 with h2 | ⟨b, T', cs, h3, h4, h5, h6, h7⟩
    · omega
    · refine ⟨.pointer (some ⟨b, i * es, none⟩), ?_, ?_⟩
      · simp [execOp, ho, hu, h3, eval_v hs hh hy, Instr.indexAt, asIntOf, run_underlying (elemT_spec hT), hj, hle, hi, run_sizeOf hz, addr_add]
      · simp only [AV.R]
        refine ⟨rfl, fun o' es' k' hc hs' => ?_⟩
        rw [hn] at hc; cases hc
        cases hs'
        exact ⟨by omega, fun _ => ⟨b, h3, by simp⟩⟩
theorem OpOK.lenP {T e : TypeId} {x : Operand} {ats : Array TypeId} {f : Bool} {es : Nat} {rows : List (List PV)} {r : Int} (ho : o.op = .call { callee := .builtin .len, args := #[x], argTypes := ats }) (hat : ats[0]? = some T) (hT : elemT P T = some e)
    (hx : evalO rd x = some (.p (.sl f es rows))) (hr : (rows.length : Int) = r) : OpOK P o ⟨rd, [], .p (.v (.int .i64 r)), [], []⟩ :=
  OpOK.quiet fun Γ ρ M s a w hs hh => by
    have hr' := evalO_R hs hh hx
    simp only [AV.R, PV.R] at hr'
    obtain ⟨ad, cap, hu, h2, h3, h4, h5⟩ := hr'
    refine ⟨.int .i64 r, ?_, by simp only [AV.R, PV.R]; exact ⟨trivial, rfl⟩⟩
    simp [execOp, ho, resolve, invoke, builtin, Builtin.len_, hat, hu, run_underlying (elemT_spec hT), goInt, hr]
theorem OpOK.lenOwn {T e : TypeId} {x : Operand} {ats : Array TypeId} {n : Name} {len es : Nat} {rows : List (List PV)} {r : Int} (ho : o.op = .call { callee := .builtin .len, args := #[x], argTypes := ats }) (hat : ats[0]? = some T) (hT : elemT P T = some e)
    (hx : evalO rd x = some (.own n len)) (hlen : Nat.beq len rows.length = true) (hr : (rows.length : Int) = r) : OpOK P o ⟨rd, [(n, .arr es rows)], .p (.v (.int .i64 r)), [], []⟩ :=
  OpOK.quiet fun Γ ρ M s a w hs hh => by
    have hr' := evalO_R hs hh hx
    simp only [AV.R] at hr'
    have hle := Nat.eq_of_beq_eq_true hlen
    have hu := (hr'.2 (.arr es rows) es rows.length (hh.hp n _ (by simp)) rfl).2 hle
    refine ⟨.int .i64 r, ?_, by simp only [AV.R, PV.R]; exact ⟨trivial, rfl⟩⟩
    simp [execOp, ho, resolve, invoke, builtin, Builtin.len_, hat, hu, run_underlying (elemT_spec hT), goInt, hle, hr]
theorem OpOK.extract {x : Operand} {i : Nat} {vs : List AV} {v : AV} (ho : o.op = .extract x i) (hx : evalO rd x = some (.tup vs)) (hv : vs[i]? = some v) : OpOK P o ⟨rd, [], v, [], []⟩ :=
  OpOK.quiet fun Γ ρ M s a w hs hh => by
    have hr := evalO_R hs hh hx
    simp only [AV.R] at hr
    obtain ⟨us, hu, h2⟩ := hr
    obtain ⟨u, g1, g2⟩ := h2.get.2 i v hv
    have g3 : us[i]? = some u := by simpa using g1
    refine ⟨u, ?_, g2⟩
    simp only [execOp, ho, hu, Instr.extract]
    simp [g3]
end
end Go.Proofs.YtfhcigjkfelnfaaGreat.AM
/-
  The abstract machine, part G: operations that make or write memory. No project text.
-/
set_option linter.unusedSimpArgs false
set_option linter.unusedVariables false
namespace Go.Proofs.YtfhcigjkfelnfaaGreat.AM
open Go
theorem Ext.alloc (w : World) (o : Obj) : Ext (fun _ => False) w (w.alloc o) :=
  ⟨by simp, fun b hb _ => by
    show (w.heap.push o)[b]? = w.heap[b]?
    rw [Array.getElem?_push, if_neg (Nat.ne_of_lt hb)], rfl, rfl⟩
theorem Ext.drew (w : World) : Ext (fun _ => False) w w.drew := ⟨Nat.le_refl _, fun _ _ _ => rfl, rfl, rfl⟩
theorem heap_alloc_new (w : World) (o : Obj) : (w.alloc o).heap[w.heap.size]? = some o := by
  show (w.heap.push o)[w.heap.size]? = some o
  simp
def cellsAV : AV → Option (List AV)
  | .agg cs => some cs
  | .tup _ => none
  | x => some [x]
section
variable {ρ : Name → Loc} {H : Heap} {M : Nat → Prop} {w : World}
theorem flat_cells {u : Value} (h : u.oneCell' = true) : u.cells = #[u] := by cases u <;> first | rfl | (simp [Value.oneCell'] at h)
theorem cellsAV_R {x : AV} {cs : List AV} {u : Value} (h : cellsAV x = some cs) (hr : x.R ρ H M w u) : AV.Rs ρ H M w cs u.cells.toList := by
  have single : ∀ y : AV, y.R ρ H M w u → u.oneCell' = true → AV.Rs ρ H M w [y] u.cells.toList := fun y hy h1 => by
    rw [flat_cells h1]; simp only [AV.Rs]; exact ⟨u, [], rfl, h1, hy, rfl⟩
  cases x with
  | agg cs' => simp only [cellsAV, Option.some.injEq] at h; subst h; simp only [AV.R] at hr; obtain ⟨us, rfl, h2⟩ := hr; exact h2
  | tup vs => simp [cellsAV] at h
  | p y => simp only [cellsAV, Option.some.injEq] at h; subst h; exact single _ hr (by simp only [AV.R] at hr; exact hr.flat)
  | ref n k => simp only [cellsAV, Option.some.injEq] at h; subst h; exact single _ hr (by simp only [AV.R] at hr; exact hr.1)
  | own n k => simp only [cellsAV, Option.some.injEq] at h; subst h; exact single _ hr (by simp only [AV.R] at hr; exact hr.1)
  | aref n a b c => simp only [cellsAV, Option.some.injEq] at h; subst h; exact single _ hr (by simp only [AV.R] at hr; exact hr.1)
  | view n a b c => simp only [cellsAV, Option.some.injEq] at h; subst h; exact single _ hr (by simp only [AV.R] at hr; exact hr.1)
  | eptr cells => simp only [cellsAV, Option.some.injEq] at h; subst h; exact single _ hr (by simp only [AV.R] at hr; obtain ⟨ad, rfl, _⟩ := hr; rfl)
  | clo f a b => simp only [cellsAV, Option.some.injEq] at h; subst h; exact single _ hr (by simp only [AV.R] at hr; obtain ⟨a, c, rfl, _⟩ := hr; rfl)
  | oref b n => simp only [cellsAV, Option.some.injEq] at h; subst h; exact single _ hr (by simp only [AV.R] at hr; exact hr.1)
  | err b => simp only [cellsAV, Option.some.injEq] at h; subst h; exact single _ hr (by simp only [AV.R] at hr; exact hr.1)
  | ub => simp only [cellsAV, Option.some.injEq] at h; subst h; exact single _ hr (by simp only [AV.R] at hr; obtain ⟨q, rfl⟩ := hr; rfl)
  | any => simp only [cellsAV, Option.some.injEq] at h; subst h; exact single _ hr (by simpa only [AV.R] using hr)
theorem hasL_cells {x : AV} {cs : List AV} {n : Name} (h : cellsAV x = some cs) (hn : x.has n = false) : AV.hasL n cs = false := by
  cases x <;> simp only [cellsAV, Option.some.injEq, reduceCtorEq] at h <;> subst h <;> simp_all [AV.has, AV.hasL]
end
theorem has_const {c : Value} {x : AV} (h : constAV c = some x) (n : Name) : x.has n = false := by
  have hc : ∀ c : Value, (constCell c).has n = false := fun c => by unfold constCell; split <;> rfl
  have hcs : ∀ l : List Value, AV.hasL n (l.map constCell) = false := fun l => by
    induction l with
    | nil => rfl
    | cons y l ih => simp [AV.hasL, hc, ih]
  unfold constAV at h
  split at h
  · split at h
    · cases h; simp only [AV.has]; exact hcs _
    · simp at h
  · split at h
    · cases h; exact hc _
    · simp at h
theorem evalO_free {s : AS} {e : Eff} (hh : s.holds e) {x : Operand} {y : AV} (h : evalO e.rd x = some y) {n : Name} (hn : s.free n) : y.has n = false := by
  cases x with
  | tmp t => exact hn.1 t y (hh.rd t y (look_mem h))
  | const c => exact has_const h n
  | global g => simp only [evalO, Option.some.injEq] at h; subst h; rfl
  | func f => simp only [evalO, Option.some.injEq] at h; subst h; rfl
theorem Sim.mkBox {Γ : Ctx} {ρ : Name → Loc} {M : Nat → Prop} {s : AS} {a : Act} {w : World} (h : Sim Γ ρ M s a w) {n : Name} (hn : s.heap n = none) (hf : s.free n) {cells : List AV} {us : List Value}
    (hr : AV.Rs ρ s.heap M w cells us) (hc : AV.hasL n cells = false) (T : TypeId) :
    Sim Γ (fun m => if m = n then ⟨some ⟨w.heap.size, 0, none⟩, 1⟩ else ρ m) (fun b => M b ∨ b = w.heap.size) ⟨s.slot, fun m => if m = n then some (.box cells) else s.heap m⟩ a (w.alloc (.cells us.toArray T)) := by
  have he := Ext.alloc w (.cells us.toArray T)
  refine h.update1 (he.weaken fun _ _ hb => hb.elim) (fun b hb => .inl hb) (fun b hb => hb.imp id (fun e => by omega)) (fun b hb => ?_) (fun o' ho' => by rw [hn] at ho'; simp at ho') (fun _ => hf) ?_ (fun b hb => .inr ?_)
  · rcases hb with hb | hb
    · have := h.msize b hb; simp; omega
    · simp [hb]
  · refine ⟨w.heap.size, T, us.toArray, by simp, .inr rfl, heap_alloc_new w _, ?_⟩
    refine AV.Rs.step (B := fun _ => False) he (fun _ hb => hb.elim) (fun b hb hb' => hb'.resolve_right (by omega)) (fun m o hm => ?_) (fun m hm hmn => ?_) (by simpa using hr)
    · by_cases e : m = n
      · subst e; rw [hn] at hm; simp at hm
      · simp only [e, if_false, hm]; exact stays_refl _ _
    · by_cases e : m = n
      · subst e; rw [hc] at hm; simp at hm
      · simp [e, hmn]
  · simp [Loc.blk] at hb; omega
section
variable {P : Program} {o : Oper} {rd : List (Nat × AV)}
def zeroAV (P : Program) (T : TypeId) : Option (List AV) := match P.info? T with
  | some i => match i.zero with
    | some z => if z.cells.toList.all (fun c => c.oneCell') then some (z.cells.toList.map constCell) else none
    | none => none
  | none => none
theorem zeroAV_spec {T : TypeId} {cs : List AV} (h : zeroAV P T = some cs) : ∃ i z, P.info? T = some i ∧ i.zero = some z ∧ (∀ c ∈ z.cells.toList, c.oneCell' = true) ∧ cs = z.cells.toList.map constCell := by
  unfold zeroAV at h
  split at h
  · rename_i i hi
    split at h
    · rename_i z hz
      split at h
      · rename_i hall; cases h; exact ⟨i, z, hi, hz, List.all_eq_true.1 hall, rfl⟩
      · simp at h
    · simp at h
  · simp at h
theorem run_zeroValue {T : TypeId} {i : TypeInfo} {z : Value} (hi : P.info? T = some i) (hz : i.zero = some z) (w : World) : (zeroValue T).run P w = .ok z w := by
  simp [zeroValue, typeInfo, hi, hz]
theorem hasL_consts (n : Name) (l : List Value) : AV.hasL n (l.map constCell) = false := by
  have hc : ∀ c : Value, (constCell c).has n = false := fun c => by unfold constCell; split <;> rfl
  induction l with
  | nil => rfl
  | cons y l ih => simp [AV.hasL, hc, ih]
theorem OpOK.mk {hp : List (Name × AO)} {v : AV} {n : Name} {ob : AO}
    (h : ∀ (Γ : Ctx) (ρ : Name → Loc) (M : Nat → Prop) (s : AS) (a : Act) (w : World), Sim Γ ρ M s a w → s.holds ⟨rd, hp, v, [(n, ob)], [n]⟩ → ∃ u w' ρ' M', (execOp a.eval o).run P w = .ok (.value u) w' ∧
      Sim Γ ρ' M' ⟨s.slot, fun m => if m = n then some ob else s.heap m⟩ a w' ∧ v.R ρ' (fun m => if m = n then some ob else s.heap m) M' w' u) : OpOK P o ⟨rd, hp, v, [(n, ob)], [n]⟩ := by
  intro Γ ρ M s a w K Q hs hh hd hK
  obtain ⟨u, w', ρ', M', h1, h2, h3⟩ := h Γ ρ M s a w hs hh
  unfold Oper.wp
  rw [h1, Oper.upon_value]
  refine hK ρ' M' _ w' ((h2.put hd (fun _ => h3)).congr (fun t => rfl) (fun m => ?_))
  simp only [AS.run, AS.set, look]
  by_cases e : n = m
  · subst e; simp
  · simp [e, Ne.symm e]
theorem OpOK.alloc {T : TypeId} {n : Name} {cs : List AV} (ho : o.op = .alloc T) (hz : zeroAV P T = some cs) : OpOK P o ⟨rd, [], .ref n 0, [(n, .box cs)], [n]⟩ :=
  OpOK.mk fun Γ ρ M s a w hs hh => by
    obtain ⟨i, z, hi, hz', hall, rfl⟩ := zeroAV_spec hz
    obtain ⟨hn, hf⟩ := hh.nw n (by simp)
    refine ⟨.pointer (some ⟨w.heap.size, 0, none⟩), w.alloc (.cells z.cells T), _, _, ?_, hs.mkBox hn hf (constCells_R hall) (hasL_consts n _) T, ?_⟩
    · simp [execOp, ho, Instr.alloc, run_zeroValue hi hz', newVar, newRow]
    · simp only [AV.R]; exact ⟨rfl, fun _ _ => ⟨w.heap.size, by simp, rfl⟩⟩
theorem OpOK.box {T : TypeId} {x : Operand} {n : Name} {v : AV} {cs : List AV} (ho : o.op = .box T x) (hx : evalO rd x = some v) (hc : cellsAV v = some cs) : OpOK P o ⟨rd, [], .ref n 0, [(n, .box cs)], [n]⟩ :=
  OpOK.mk fun Γ ρ M s a w hs hh => by
    obtain ⟨hn, hf⟩ := hh.nw n (by simp)
    have hr := cellsAV_R hc (evalO_R hs hh hx)
    refine ⟨.pointer (some ⟨w.heap.size, 0, none⟩), w.alloc (.cells (a.eval x).cells T), _, _, ?_, hs.mkBox hn hf hr (hasL_cells hc (evalO_free hh hx hf)) T, ?_⟩
    · simp [execOp, ho, Instr.box, newVar, newRow]
    · simp only [AV.R]; exact ⟨rfl, fun _ _ => ⟨w.heap.size, by simp, rfl⟩⟩
theorem OpOK.wr {hp : List (Name × AO)} {n : Name} {ob : AO} (hdst : o.dst = none)
    (h : ∀ (Γ : Ctx) (ρ : Name → Loc) (M : Nat → Prop) (s : AS) (a : Act) (w : World), Sim Γ ρ M s a w → s.holds ⟨rd, hp, .any, [(n, ob)], []⟩ → ∃ w' ρ' M', (execOp a.eval o).run P w = .ok .skip w' ∧
      Sim Γ ρ' M' ⟨s.slot, fun m => if m = n then some ob else s.heap m⟩ a w') : OpOK P o ⟨rd, hp, .any, [(n, ob)], []⟩ := by
  intro Γ ρ M s a w K Q hs hh hd hK
  obtain ⟨w', ρ', M', h1, h2⟩ := h Γ ρ M s a w hs hh
  unfold Oper.wp
  rw [h1, Oper.upon_skip]
  refine hK ρ' M' _ w' ((h2.put (dst := o.dst) (x := .any) (u := undef) hd (fun hne => absurd hdst hne)).congr (fun t => rfl) (fun m => ?_))
  simp only [AS.run, AS.set, look]
  by_cases e : n = m
  · subst e; simp
  · simp [e, Ne.symm e]
def setAt {α : Type} (cs : List α) (k : Nat) (vs : List α) : List α := cs.take k ++ vs ++ cs.drop (k + vs.length)
theorem Rs_one {ρ : Name → Loc} {H : Heap} {M : Nat → Prop} {w : World} : ∀ {xs : List AV} {us : List Value}, AV.Rs ρ H M w xs us → ∀ u ∈ us, u.oneCell' = true
  | [], us, h, u, hu => by simp only [AV.Rs] at h; subst h; simp at hu
  | x :: xs, us, h, u, hu => by
    simp only [AV.Rs] at h
    obtain ⟨v, us', rfl, h2, h3, h4⟩ := h
    rcases List.mem_cons.1 hu with rfl | hu
    · exact h2
    · exact Rs_one h4 u hu
theorem run_storeVar {T : TypeId} {b k : Nat} {t : TypeId} {cur : Array Value} {u : Value} {w : World} (hz : sizeT P T = some u.cells.size) (hb : w.heap[b]? = some (.cells cur t (0, 0))) (hl : k + u.cells.size ≤ cur.size) (h1 : ∀ v ∈ u.cells.toList, v.oneCell' = true) :
    (storeVar T ⟨b, k, none⟩ u).run P w = .ok () (w.setRow b (setAt cur.toList k u.cells.toList).toArray) := by
  have := run_storeCells_at (P := P) b k t u.cells.toList 0 cur w hb (by simpa using hl) h1
  simp only [Nat.add_zero] at this
  unfold storeVar
  simp only [Sem.run_bind, run_sizeOf hz, Result.andThen_ok, ne_eq, not_true_eq_false, if_false, setAt]
  simpa using this
theorem OpOK.storeBox {T : TypeId} {x y : Operand} {n : Name} {k : Nat} {cells vs cells' : List AV} {v : AV} (hdst : o.dst = none) (ho : o.op = .store T x y) (hx : evalO rd x = some (.ref n k)) (hy : evalO rd y = some v) (hv : cellsAV v = some vs)
    (hz : sizeT P T = some vs.length) (hl : Nat.ble (k + vs.length) cells.length = true) (hc : setAt cells k vs = cells') : OpOK P o ⟨rd, [(n, .box cells)], .any, [(n, .box cells')], []⟩ :=
  OpOK.wr hdst fun Γ ρ M s a w hs hh => by
    have hr := evalO_R hs hh hx
    simp only [AV.R] at hr
    have hn := hh.hp n _ (by simp : (n, AO.box cells) ∈ _)
    obtain ⟨b, hb, hu⟩ := hr.2 cells hn
    have hobj := hs.objs n _ hn
    obtain ⟨b', t, cs, g1, g2, g3, g4⟩ := hobj
    have e : b' = b := by rw [g1] at hb; simpa using hb
    subst e
    have hvs := cellsAV_R hv (evalO_R hs hh hy)
    have hlen := hvs.length
    have hlen2 := g4.length
    have hl' := Nat.le_of_ble_eq_true hl
    simp only [Array.length_toList] at hlen hlen2
    have hrun := run_storeVar (P := P) (T := T) (b := b') (k := k) (u := a.eval y) (w := w) (by rw [hz, hlen]) g3 (by omega) (Rs_one hvs)
    refine ⟨w.setRow b' (setAt cs.toList k (a.eval y).cells.toList).toArray, (fun m => if m = n then ρ n else ρ m), M, ?_, ?_⟩
    · simp [execOp, ho, hu, Instr.storeAt, Instr.sureAddr, hrun]
    · have hblk : (ρ n).blk = some b' := by rw [g1]; simp [Loc.blk]
      have he : Ext (fun b => b = b') w (w.setRow b' (setAt cs.toList k (a.eval y).cells.toList).toArray) := ⟨by simp [World.setRow], fun b hb hne => setRow_other w b' b _ hne, rfl, rfl⟩
      have hM : M b' := g2
      refine hs.update1 (he.weaken fun b _ hb => ⟨by rw [hblk, hb], by rw [hn]; simp⟩) (fun _ hb => hb) (fun _ hb => .inl hb) (fun b hb => Nat.lt_of_lt_of_le (hs.msize b hb) he.size)
        (fun o' ho' => by rw [hn] at ho'; cases ho'; simp [stays]) (fun h0 => by rw [hn] at h0; simp at h0) ?_ (fun b hb => .inl ⟨_, hn, hb⟩)
      refine ⟨b', t, _, by simp [g1], hM, setRow_heap w b' cs _ t (0, 0) g3, ?_⟩
      rw [← hc]
      have hst : HStep ρ s.heap (fun m => if m = n then ρ n else ρ m) (fun m => if m = n then some (.box (setAt cells k vs)) else s.heap m) := fun m o' hm => by
        by_cases e : m = n
        · subst e; rw [hn] at hm; cases hm; simp [stays]
        · simp only [e, if_false, hm]; exact stays_refl _ _
      have hnn : ∀ m, s.heap m = none → (if m = n then some (AO.box (setAt cells k vs)) else s.heap m) = none := fun m hm => by
        by_cases e : m = n
        · subst e; rw [hn] at hm; simp at hm
        · simp [e, hm]
      have r1 := (g4.take k).step he (fun b hb => by rw [hb]; exact hM) (fun b _ hb => hb) hst (fun m _ => hnn m)
      have r2 := hvs.step he (fun b hb => by rw [hb]; exact hM) (fun b _ hb => hb) hst (fun m _ => hnn m)
      have r3 := (g4.drop (k + vs.length)).step he (fun b hb => by rw [hb]; exact hM) (fun b _ hb => hb) hst (fun m _ => hnn m)
      have := (r1.append r2).append r3
      have hL : (a.eval y).cells.toList.length = vs.length := by simpa using hlen
      simp only [setAt, hL] at this ⊢
      exact this
def pureL : List AV → Option (List PV)
  | [] => some []
  | .p x :: r => match pureL r with
    | some xs => some (x :: xs)
    | none => none
  | _ :: _ => none
theorem pureL_spec : ∀ {l : List AV} {ps : List PV}, pureL l = some ps → l = pcells ps
  | [], ps, h => by simp only [pureL, Option.some.injEq] at h; subst h; rfl
  | x :: r, ps, h => by
    cases x with
    | p x =>
      simp only [pureL] at h
      split at h
      · rename_i xs hxs; cases h; rw [pureL_spec hxs]; rfl
      · simp at h
    | _ => simp [pureL] at h
def putRows (rd : List (Nat × AV)) (es : Nat) : List (Nat × Operand) → List (List PV) → Option (List (List PV))
  | [], rows => some rows
  | (i, x) :: r, rows => match evalO rd x with
    | some y => match cellsAV y with
      | some cs => match pureL cs with
        | some ps => if Nat.beq ps.length es && Nat.blt i rows.length then putRows rd es r (rows.set i ps) else none
        | none => none
      | none => none
    | none => none
theorem fold_set (off : Nat) : ∀ (vs : List Value) (k : Nat) (cs : Array Value), off + k + vs.length ≤ cs.size →
    ((vs.zipIdx k).foldl (fun (acc : Array Value) (p : Value × Nat) => acc.setIfInBounds (off + p.2) p.1) cs).toList = setAt cs.toList (off + k) vs
  | [], k, cs, _ => by simp [setAt]
  | v :: vs, k, cs, h => by
    simp only [List.zipIdx_cons, List.foldl_cons]
    rw [fold_set off vs (k + 1) _ (by simp at h ⊢; omega)]
    simp only [List.length_cons] at h
    have hlt : off + k < cs.size := by omega
    simp only [setAt, Array.toList_setIfInBounds, List.length_cons]
    apply List.ext_getElem?
    intro j
    simp only [List.getElem?_append, List.length_append, List.length_take, List.length_set, Array.length_toList, List.length_cons, List.getElem?_take, List.getElem?_set, List.getElem?_drop]
    have e1 : min (off + k) cs.size = off + k := by omega
    have e2 : min (off + (k + 1)) cs.size = off + k + 1 := by omega
    rw [e1, e2]
    rcases Nat.lt_trichotomy j (off + k) with h1 | h1 | h1
    · have : ¬ (off + k = j) := by omega
      simp [show j < off + k + 1 + vs.length by omega, show j < off + k + 1 by omega, show j < off + (k + 1) by omega, this, h1, show j < off + k + (vs.length + 1) by omega]
    · subst h1
      simp [hlt, show off + k < off + (k + 1) by omega, show off + k < off + k + 1 + vs.length by omega]
    · by_cases h2 : j < off + k + 1 + vs.length
      · have : ¬ j < off + k + 1 := by omega
        have h3 : ¬ j < off + k := by omega
        have e : j - (off + k) = (j - (off + k + 1)) + 1 := by omega
        simp [h2, this, h3, show j < off + k + (vs.length + 1) by omega, e]
      · have h3 : ¬ j < off + k + (vs.length + 1) := by omega
        have e : ¬ (off + k = off + (k + 1) + vs.length + (j - (off + k + 1 + vs.length))) := by omega
        simp [h2, h3, e]
        congr 1
        omega
theorem flat_len {es : Nat} : ∀ {rows : List (List Value)}, (∀ r ∈ rows, r.length = es) → rows.flatten.length = rows.length * es
  | [], _ => by simp
  | r :: rows, h => by
    have := flat_len (es := es) (rows := rows) (fun r hr => h r (by simp [hr]))
    simp only [List.flatten_cons, List.length_append, this, h r (by simp), List.length_cons, Nat.succ_mul]
    omega
theorem flat_take {es : Nat} : ∀ {rows : List (List Value)} (i : Nat), (∀ r ∈ rows, r.length = es) → rows.flatten.take (i * es) = (rows.take i).flatten
  | rows, 0, _ => by simp
  | [], i + 1, _ => by simp
  | r :: rows, i + 1, h => by
    have hr := h r (by simp)
    have := flat_take (es := es) (rows := rows) i (fun r hr => h r (by simp [hr]))
    simp only [List.flatten_cons, List.take_succ_cons, ← this]
    rw [List.take_append, hr, List.take_of_length_le (by rw [hr, Nat.succ_mul]; omega), Nat.succ_mul, Nat.add_sub_cancel]
theorem flat_drop {es : Nat} : ∀ {rows : List (List Value)} (i : Nat), (∀ r ∈ rows, r.length = es) → rows.flatten.drop (i * es) = (rows.drop i).flatten
  | rows, 0, _ => by simp
  | [], i + 1, _ => by simp
  | r :: rows, i + 1, h => by
    have hr := h r (by simp)
    have := flat_drop (es := es) (rows := rows) i (fun r hr => h r (by simp [hr]))
    simp only [List.flatten_cons, List.drop_succ_cons, ← this]
    rw [List.drop_append, hr, List.drop_of_length_le (by rw [hr, Nat.succ_mul]; omega), Nat.succ_mul, Nat.add_sub_cancel]
    simp
theorem flat_set {es : Nat} {rows : List (List Value)} {i : Nat} {r : List Value} (h : ∀ r ∈ rows, r.length = es) (hr : r.length = es) (hi : i < rows.length) : setAt rows.flatten (i * es) r = (rows.set i r).flatten := by
  unfold setAt
  rw [flat_take i h, hr, show i * es + es = (i + 1) * es by rw [Nat.succ_mul], flat_drop (i + 1) h, List.set_eq_take_append_cons_drop, if_pos hi]
  simp
theorem flat_get {es : Nat} {rows : List (List Value)} (h : ∀ r ∈ rows, r.length = es) {i : Nat} {r : List Value} (hi : rows[i]? = some r) {j : Nat} (hj : j < es) : rows.flatten[i * es + j]? = r[j]? := by
  have := flat_drop i h
  have h2 : rows.flatten[i * es + j]? = (rows.flatten.drop (i * es))[j]? := by simp
  have hlt : i < rows.length := by
    rcases Nat.lt_or_ge i rows.length with h' | h'
    · exact h'
    · rw [List.getElem?_eq_none h'] at hi; simp at hi
  have hmem : r ∈ rows := List.mem_of_getElem? hi
  rw [h2, this, List.drop_eq_getElem_cons hlt, List.flatten_cons, List.getElem?_append_left]
  · have : rows[i] = r := by rw [List.getElem?_eq_getElem hlt] at hi; simpa using hi
    rw [this]
  · have : rows[i] = r := by rw [List.getElem?_eq_getElem hlt] at hi; simpa using hi
    rw [this, h r hmem]; exact hj
end
end Go.Proofs.YtfhcigjkfelnfaaGreat.AM
/-
  The abstract machine, part H: literals, append, stores into arrays, calls. No project text.
-/
set_option linter.unusedSimpArgs false
set_option linter.unusedVariables false
namespace Go.Proofs.YtfhcigjkfelnfaaGreat.AM
open Go
section
variable {ρ : Name → Loc} {H : Heap} {M : Nat → Prop} {w : World}
def RR (ρ : Name → Loc) (H : Heap) (M : Nat → Prop) (w : World) : List (List PV) → List (List Value) → Prop
  | [], cr => cr = []
  | r :: rs, cr => ∃ c cr', cr = c :: cr' ∧ AV.Rs ρ H M w (pcells r) c ∧ RR ρ H M w rs cr'
theorem RR.length : ∀ {rows : List (List PV)} {cr : List (List Value)}, RR ρ H M w rows cr → cr.length = rows.length
  | [], cr, h => by simp only [RR] at h; simp [h]
  | r :: rs, cr, h => by simp only [RR] at h; obtain ⟨c, cr', rfl, _, h2⟩ := h; simp [h2.length]
theorem RR.get : ∀ {rows : List (List PV)} {cr : List (List Value)}, RR ρ H M w rows cr → ∀ (i : Nat) (r : List PV), rows[i]? = some r → ∃ c : List Value, cr[i]? = some c ∧ AV.Rs ρ H M w (pcells r) c
  | [], cr, h, i, r, hi => by simp at hi
  | r0 :: rs, cr, h, i, r, hi => by
    simp only [RR] at h
    obtain ⟨c, cr', rfl, h1, h2⟩ := h
    cases i with
    | zero => simp at hi; subst hi; exact ⟨c, by simp, h1⟩
    | succ i => simpa using h2.get i r (by simpa using hi)
theorem RR.set : ∀ {rows : List (List PV)} {cr : List (List Value)}, RR ρ H M w rows cr → ∀ (i : Nat) (ps : List PV) (c : List Value), AV.Rs ρ H M w (pcells ps) c → RR ρ H M w (rows.set i ps) (cr.set i c)
  | [], cr, h, i, ps, c, hc => by simp only [RR] at h; subst h; simp [RR]
  | r0 :: rs, cr, h, i, ps, c, hc => by
    simp only [RR] at h
    obtain ⟨c0, cr', rfl, h1, h2⟩ := h
    cases i with
    | zero => simp only [List.set_cons_zero, RR]; exact ⟨c, cr', rfl, hc, h2⟩
    | succ i => simp only [List.set_cons_succ, RR]; exact ⟨c0, cr'.set i c, rfl, h1, h2.set i ps c hc⟩
theorem RR.append : ∀ {rows : List (List PV)} {cr : List (List Value)}, RR ρ H M w rows cr → ∀ {rows' : List (List PV)} {cr' : List (List Value)}, RR ρ H M w rows' cr' → RR ρ H M w (rows ++ rows') (cr ++ cr')
  | [], cr, h, rows', cr', h' => by simp only [RR] at h; subst h; simpa using h'
  | r :: rs, cr, h, rows', cr', h' => by
    simp only [RR] at h
    obtain ⟨c, cr1, rfl, h1, h2⟩ := h
    simp only [List.cons_append, RR]
    exact ⟨c, cr1 ++ cr', rfl, h1, h2.append h'⟩
theorem RR.replicate {r : List PV} {c : List Value} (h : AV.Rs ρ H M w (pcells r) c) : ∀ n, RR ρ H M w (List.replicate n r) (List.replicate n c)
  | 0 => by simp [RR]
  | n + 1 => by simp only [List.replicate_succ, RR]; exact ⟨c, _, rfl, h, RR.replicate h n⟩
theorem RR.len {es : Nat} : ∀ {rows : List (List PV)} {cr : List (List Value)}, RR ρ H M w rows cr → (∀ r ∈ rows, r.length = es) → ∀ c ∈ cr, c.length = es
  | [], cr, h, _, c, hc => by simp only [RR] at h; subst h; simp at hc
  | r :: rs, cr, h, hl, c, hc => by
    simp only [RR] at h
    obtain ⟨c0, cr', rfl, h1, h2⟩ := h
    rcases List.mem_cons.1 hc with rfl | hc
    · rw [h1.length]; simp [pcells, hl r (by simp)]
    · exact h2.len (fun r hr => hl r (by simp [hr])) c hc
theorem RR.one : ∀ {rows : List (List PV)} {cr : List (List Value)}, RR ρ H M w rows cr → ∀ u ∈ cr.flatten, u.oneCell' = true
  | [], cr, h, u, hu => by simp only [RR] at h; subst h; simp at hu
  | r :: rs, cr, h, u, hu => by
    simp only [RR] at h
    obtain ⟨c0, cr', rfl, h1, h2⟩ := h
    simp only [List.flatten_cons, List.mem_append] at hu
    rcases hu with hu | hu
    · exact Rs_one h1 u hu
    · exact h2.one u hu
theorem RR.of_Rows {b es : Nat} : ∀ {off : Nat} {rows : List (List PV)}, PV.Rows M w b es off rows → ∃ cr : List (List Value), RR ρ H M w rows cr ∧ (∀ r ∈ rows, r.length = es) ∧ ∀ j u, cr.flatten[j]? = some u → w.cell? ⟨b, off + j, none⟩ = some u
  | off, [], h => ⟨[], by simp [RR], by simp, by simp⟩
  | off, r :: rs, h => by
    simp only [PV.Rows] at h
    obtain ⟨h1, h2, h3⟩ := h
    obtain ⟨c, g1, g2⟩ := Rs_of_Cells (ρ := ρ) (H := H) h2
    obtain ⟨cr, k1, k2, k3⟩ := RR.of_Rows h3
    have hcl : c.length = es := by rw [g1.length]; simp [pcells, h1]
    refine ⟨c :: cr, by simp only [RR]; exact ⟨c, cr, rfl, g1, k1⟩, fun r' hr' => ?_, fun j u hj => ?_⟩
    · rcases List.mem_cons.1 hr' with rfl | hr'
      · exact h1
      · exact k2 r' hr'
    · simp only [List.flatten_cons, List.getElem?_append] at hj
      split at hj
      · exact g2 j u hj
      · have := k3 (j - c.length) u hj
        rwa [hcl, show off + es + (j - es) = off + j by omega] at this
theorem Rows_of_RR {b es : Nat} {rows : List (List PV)} {cr : List (List Value)} (h : RR ρ H M w rows cr) (hl : ∀ r ∈ rows, r.length = es) (hc : ∀ j u, cr.flatten[j]? = some u → w.cell? ⟨b, j, none⟩ = some u) : PV.Rows M w b es 0 rows := by
  refine PV.Rows.of_get fun i r hi => ?_
  obtain ⟨c, h1, h2⟩ := h.get i r hi
  have hrl := hl r (List.mem_of_getElem? hi)
  refine ⟨hrl, Cells_of_Rs h2 fun j u hj => ?_⟩
  have hcl : c.length = es := by rw [h2.length]; simp [pcells, hrl]
  have hj' : j < es := by
    rcases Nat.lt_or_ge j c.length with h' | h'
    · omega
    · rw [List.getElem?_eq_none h'] at hj; simp at hj
  have := flat_get (h.len hl) h1 hj'
  rw [hj] at this
  simpa using hc _ _ this
theorem RR.step {ρ' : Name → Loc} {H' : Heap} {M' B : Nat → Prop} {w' : World} (he : Ext B w w') (hB : ∀ b, B b → M b) (hM : ∀ b, b < w.heap.size → M' b → M b) :
    ∀ {rows : List (List PV)} {cr : List (List Value)}, RR ρ H M w rows cr → RR ρ' H' M' w' rows cr
  | [], cr, h => by simpa only [RR] using h
  | r :: rs, cr, h => by
    simp only [RR] at h ⊢
    obtain ⟨c, cr', h0, h1, h2⟩ := h
    refine ⟨c, cr', h0, ?_, RR.step he hB hM h2⟩
    refine AV.Rs.of_get h1.length fun j x u hx hu => ?_
    obtain ⟨u', k1, k2, k3⟩ := h1.get j x hx
    rw [hu] at k1; cases k1
    refine ⟨k2, ?_⟩
    simp only [pcells, List.getElem?_map] at hx
    cases hr : r[j]? with
    | none => simp [hr] at hx
    | some y =>
      simp [hr] at hx
      subst hx
      simp only [AV.R] at k3 ⊢
      exact k3.mono he hB hM
end
section
variable {P : Program} {o : Oper} {rd : List (Nat × AV)}
def bytesT (P : Program) (T : TypeId) : Option Nat := (P.info? T).map (·.bytes)
def elemOK (P : Program) (e : TypeId) (es bytes : Nat) : Bool := match P.info? e with
  | some i => Nat.beq i.size es && Nat.beq i.bytes bytes && (match i.zero with | some z => Nat.beq z.cells.size es | none => false)
  | none => false
theorem elemOK_spec {e : TypeId} {es bytes : Nat} (h : elemOK P e es bytes = true) : ∃ i z, P.info? e = some i ∧ i.zero = some z ∧ i.size = es ∧ i.bytes = bytes ∧ z.cells.size = es := by
  unfold elemOK at h
  split at h
  · rename_i i hi
    simp only [Bool.and_eq_true] at h
    obtain ⟨⟨h1, h2⟩, h3⟩ := h
    split at h3
    · rename_i z hz
      exact ⟨i, z, hi, hz, Nat.eq_of_beq_eq_true h1, Nat.eq_of_beq_eq_true h2, Nat.eq_of_beq_eq_true h3⟩
    · simp at h3
  · simp at h
theorem fill_rows {Γ : Ctx} {ρ : Name → Loc} {M : Nat → Prop} {s : AS} {a : Act} {w : World} {e : Eff} (hs : Sim Γ ρ M s a w) (hh : s.holds e) {es : Nat} :
    ∀ (parts : List (Nat × Operand)) (rows rows' : List (List PV)) (cr : List (List Value)) (cells : Array Value), RR ρ s.heap M w rows cr → (∀ r ∈ rows, r.length = es) → cells.toList = cr.flatten → putRows e.rd es parts rows = some rows' →
    ∃ cr' cells', Instr.fill (fun i => some (i * es, es)) cells (parts.map fun p => (p.1, a.eval p.2)) = some cells' ∧ RR ρ s.heap M w rows' cr' ∧ (∀ r ∈ rows', r.length = es) ∧ cells'.toList = cr'.flatten ∧ rows'.length = rows.length
  | [], rows, rows', cr, cells, h1, h2, h3, h4 => by
    simp only [putRows, Option.some.injEq] at h4; subst h4
    exact ⟨cr, cells, rfl, h1, h2, h3, rfl⟩
  | (i, x) :: r, rows, rows', cr, cells, h1, h2, h3, h4 => by
    simp only [putRows] at h4
    split at h4
    · rename_i y hy
      split at h4
      · rename_i cs hcs
        split at h4
        · rename_i ps hps
          split at h4
          · rename_i hck
            simp only [Bool.and_eq_true] at hck
            have hpl := Nat.eq_of_beq_eq_true hck.1
            have hil : i < rows.length := Nat.le_of_ble_eq_true hck.2
            have hR := cellsAV_R hcs (evalO_R hs hh hy)
            rw [pureL_spec hps] at hR
            have hus : (a.eval x).cells.size = es := by have := hR.length; simp [pcells] at this; rw [this, hpl]
            have hcl := h1.len h2
            have hlen := h1.length
            have hsz : cells.size = cr.length * es := by rw [← flat_len hcl, ← h3]; simp
            have hle : i * es + es ≤ cr.length * es := by rw [← Nat.succ_mul]; exact Nat.mul_le_mul_right es (by omega)
            have hA : ∀ r' ∈ rows.set i ps, r'.length = es := fun r' hr' => by
              rcases List.mem_or_eq_of_mem_set hr' with h | h
              · exact h2 r' h
              · rw [h]; exact hpl
            have hB : ((a.eval x).cells.zipIdx.foldl (fun cs (c, j) => cs.setIfInBounds (i * es + j) c) cells).toList = (cr.set i (a.eval x).cells.toList).flatten := by
              have := fold_set (i * es) (a.eval x).cells.toList 0 cells (by simp [hus]; omega)
              simp only [Nat.add_zero] at this
              rw [← flat_set hcl (by simp [hus]) (by omega), ← h3, ← this, ← Array.foldl_toList]
              simp [Array.toList_zipIdx]
            obtain ⟨cr', cells', g1, g2, g3, g4, g5⟩ := fill_rows hs hh r (rows.set i ps) rows' (cr.set i (a.eval x).cells.toList) _ (h1.set i ps _ hR) hA hB h4
            refine ⟨cr', cells', ?_, g2, g3, g4, by simpa using g5⟩
            simp only [List.map_cons, Instr.fill, hus]
            rw [if_neg (by simp; omega)]
            exact g1
          · simp at h4
        · simp at h4
      · simp at h4
    · simp at h4
theorem zero_rows (z : List Value) (n es : Nat) (hz : z.length = es) (hes : 1 ≤ es) : ((Array.range (n * es)).map (fun i => z.toArray[i % z.toArray.size]!)).toList = (List.replicate n z).flatten := by
  apply List.ext_getElem?
  intro j
  have hl : (List.replicate n z).flatten.length = n * es := by simp [hz]
  by_cases hj : j < n * es
  · have hdiv : j / es < n := (Nat.div_lt_iff_lt_mul (by omega)).2 hj
    have hmod : j % es < es := Nat.mod_lt _ (by omega)
    have h1 := flat_get (rows := List.replicate n z) (es := es) (fun r hr => by rw [List.eq_of_mem_replicate hr]; exact hz) (i := j / es) (r := z) (by simp [hdiv]) hmod
    rw [show j / es * es + j % es = j by rw [Nat.mul_comm]; exact Nat.div_add_mod j es] at h1
    rw [h1]
    simp [hj, hz, hmod]
  · rw [List.getElem?_eq_none (by simp; omega), List.getElem?_eq_none (by omega)]
def zeroRow (P : Program) (e : TypeId) : Option (List PV) := match zeroAV P e with
  | some cs => pureL cs
  | none => none
theorem OpOK.buildSlice {T e : TypeId} {len es : Nat} {parts : Array (Nat × Operand)} {zr : List PV} {rows : List (List PV)} (ho : o.op = .buildSlice T len parts) (hT : elemT P T = some e) (hz : sizeT P e = some es) (hes : Nat.ble 1 es = true)
    (hzr : zeroRow P e = some zr) (hzl : zr.length = es) (hsz : Nat.ble (len * es) 16777216 = true) (hrows : putRows rd es parts.toList (List.replicate len zr) = some rows) : OpOK P o ⟨rd, [], .p (.sl true es rows), [], []⟩ := by
  intro Γ ρ M s a w K Q hs hh hd hK
  unfold zeroRow at hzr
  split at hzr
  · rename_i cs hcs
    obtain ⟨i, z, hi, hz', hall, rfl⟩ := zeroAV_spec hcs
    have hzR : AV.Rs ρ s.heap M w (pcells zr) z.cells.toList := by
      rw [← pureL_spec hzr]; exact constCells_R hall
    have hzlen : z.cells.toList.length = es := by have := hzR.length; rw [this]; simp [pcells, hzl]
    have hes' := Nat.le_of_ble_eq_true hes
    have h0 := zero_rows z.cells.toList len es hzlen hes'
    obtain ⟨cr, cells, g1, g2, g3, g4, g5⟩ := fill_rows hs hh parts.toList (List.replicate len zr) rows (List.replicate len z.cells.toList) ((Array.range (len * es)).map (fun i => z.cells[i % z.cells.size]!))
      (RR.replicate hzR len) (fun r hr => by rw [List.eq_of_mem_replicate hr]; exact hzl) (by simpa using h0) hrows
    have hlen : rows.length = len := by simpa using g5
    have hrun : (execOp a.eval o).run P w = .ok (.value (.slice (some ⟨w.heap.size, 0, none⟩) len len)) (w.alloc (.cells cells e)) := by
      have h2 : ¬ (len * es > 16777216) := by have := Nat.le_of_ble_eq_true hsz; omega
      have hparts : ((parts.map fun (i, x) => (i, a.eval x)) : Array (Nat × Value)).toList = parts.toList.map fun p => (p.1, a.eval p.2) := by simp
      simp only [execOp, ho, Instr.buildSlice, Sem.run_bind, run_underlying (elemT_spec hT), Result.andThen_ok, run_sizeOf hz, h2, if_false]
      simp only [hparts]
      by_cases h5 : len * es = 0
      · have g1' := g1
        rw [h5] at g1'
        simp only [Array.range_zero', Array.map_empty] at g1'
        simp [h5, g1', newRow, Array.range_zero']
      · simp only [h5, if_false, Sem.run_bind, run_zeroValue hi hz', Result.andThen_ok, Sem.run_pure, g1]
        simp [h2, newRow, g1, run_zeroValue hi hz']
    unfold Oper.wp
    rw [hrun, Oper.upon_value]
    have hs' := hs.world (Ext.alloc w (.cells cells e))
    refine hK ρ M _ _ ((hs'.put hd (fun _ => ?_)).congr (fun t => rfl) (fun n => rfl))
    simp only [AV.R, PV.R]
    refine ⟨some ⟨w.heap.size, 0, none⟩, len, by rw [hlen], by omega, fun _ => hlen.symm, by simp, fun ad had _ => ?_⟩
    cases had
    refine ⟨rfl, fun hm => absurd (hs.msize _ hm) (Nat.lt_irrefl _), by simp, ?_⟩
    have g2' := g2.step (ρ' := ρ) (H' := s.heap) (M' := M) (B := fun _ => False) (Ext.alloc w (.cells cells e)) (fun _ hb => hb.elim) (fun b _ hb => hb)
    refine Rows_of_RR g2' g3 fun j u hj => ?_
    rw [← g4] at hj
    simp only [World.cell?, heap_alloc_new]
    simpa using hj
  · simp at hzr
def placesL (P : Program) : List Field → Option (List (Nat × Nat))
  | [] => some []
  | f :: r => match sizeT P f.type, placesL P r with
    | some z, some ps => some ((f.offset, z) :: ps)
    | _, _ => none
theorem run_places {w : World} : ∀ {fs : List Field} {ps : List (Nat × Nat)}, placesL P fs = some ps → (fs.mapM (fun f => do pure (f.offset, ← sizeOf f.type)) : Sem (List (Nat × Nat))).run P w = .ok ps w
  | [], ps, h => by simp only [placesL, Option.some.injEq] at h; subst h; simp
  | f :: r, ps, h => by
    simp only [placesL] at h
    split at h
    · rename_i z ps' h1 h2
      cases h
      have ih := run_places (w := w) h2
      rw [List.mapM_cons]
      simp only [Sem.run_bind, run_sizeOf h1, Result.andThen_ok, Sem.run_pure, ih]
    · simp at h
def putCells (rd : List (Nat × AV)) (places : List (Nat × Nat)) : List (Nat × Operand) → List AV → Option (List AV)
  | [], cells => some cells
  | (i, x) :: r, cells => match places[i]?, evalO rd x with
    | some (off, size), some y => match cellsAV y with
      | some cs => if Nat.beq cs.length size && Nat.ble (off + size) cells.length then putCells rd places r (setAt cells off cs) else none
      | none => none
    | _, _ => none
theorem fill_cells {Γ : Ctx} {ρ : Name → Loc} {M : Nat → Prop} {s : AS} {a : Act} {w : World} {e : Eff} (hs : Sim Γ ρ M s a w) (hh : s.holds e) {places : List (Nat × Nat)} :
    ∀ (parts : List (Nat × Operand)) (cells cells' : List AV) (us : Array Value), AV.Rs ρ s.heap M w cells us.toList → putCells e.rd places parts cells = some cells' →
    ∃ us', Instr.fill (fun i => places[i]?) us (parts.map fun p => (p.1, a.eval p.2)) = some us' ∧ AV.Rs ρ s.heap M w cells' us'.toList
  | [], cells, cells', us, h1, h4 => by
    simp only [putCells, Option.some.injEq] at h4; subst h4
    exact ⟨us, rfl, h1⟩
  | (i, x) :: r, cells, cells', us, h1, h4 => by
    simp only [putCells] at h4
    split at h4
    · rename_i off size y hpl hy
      split at h4
      · rename_i cs hcs
        split at h4
        · rename_i hck
          simp only [Bool.and_eq_true] at hck
          have hpl' := Nat.eq_of_beq_eq_true hck.1
          have hle := Nat.le_of_ble_eq_true hck.2
          have hR := cellsAV_R hcs (evalO_R hs hh hy)
          have hus : (a.eval x).cells.size = size := by have := hR.length; simp at this; rw [this, hpl']
          have hlen : us.size = cells.length := by have := h1.length; simpa using this
          have hB : AV.Rs ρ s.heap M w (setAt cells off cs) ((a.eval x).cells.zipIdx.foldl (fun cs (c, j) => cs.setIfInBounds (off + j) c) us).toList := by
            have := fold_set off (a.eval x).cells.toList 0 us (by simp [hus]; omega)
            simp only [Nat.add_zero] at this
            have e1 : ((a.eval x).cells.zipIdx.foldl (fun cs (c, j) => cs.setIfInBounds (off + j) c) us).toList = setAt us.toList off (a.eval x).cells.toList := by
              rw [← this, ← Array.foldl_toList]; simp [Array.toList_zipIdx]
            rw [e1]
            unfold setAt
            rw [show (a.eval x).cells.toList.length = cs.length by simp [hus, hpl']]
            exact ((h1.take off).append hR).append (h1.drop _)
          obtain ⟨us', g1, g2⟩ := fill_cells hs hh r (setAt cells off cs) cells' _ hB h4
          refine ⟨us', ?_, g2⟩
          simp only [List.map_cons, Instr.fill, hpl, hus]
          rw [if_neg (by simp; omega)]
          exact g1
        · simp at h4
      · simp at h4
    · simp at h4
def structT (P : Program) (T : TypeId) : Option (List (Nat × Nat)) := match P.underlying T with
  | some (.struct fields) => placesL P fields.toList
  | _ => none
theorem OpOK.build {T : TypeId} {parts : Array (Nat × Operand)} {zs cells : List AV} {pl : List (Nat × Nat)} (ho : o.op = .build T parts) (hT : structT P T = some pl) (hz : zeroAV P T = some zs) (hc : putCells rd pl parts.toList zs = some cells) :
    OpOK P o ⟨rd, [], .agg cells, [], []⟩ :=
  OpOK.quiet fun Γ ρ M s a w hs hh => by
    obtain ⟨i, z, hi, hz', hall, rfl⟩ := zeroAV_spec hz
    obtain ⟨us, g1, g2⟩ := fill_cells hs hh parts.toList _ cells z.cells (constCells_R hall) hc
    refine ⟨.agg us, ?_, by simp only [AV.R]; exact ⟨us, rfl, g2⟩⟩
    unfold structT at hT
    cases hu : P.underlying T with
    | none => simp [hu] at hT
    | some d =>
      cases d with
      | struct fields =>
        simp only [hu] at hT
        have hpl := run_places (P := P) (w := w) hT
        have hparts : ((parts.map fun (i, x) => (i, a.eval x)) : Array (Nat × Value)).toList = parts.toList.map fun p => (p.1, a.eval p.2) := by simp
        simp only [execOp, ho, Instr.build, Sem.run_bind, run_zeroValue hi hz', Result.andThen_ok, run_underlying hu]
        rw [Array.mapM_eq_mapM_toList]
        simp only [Sem.run_bind, Sem.run_map, hpl, Result.andThen_ok, hparts, List.getElem?_toArray, g1]
        simp
      | _ => simp [hu] at hT
theorem OpOK.fieldAgg {T : TypeId} {x : Operand} {i off z : Nat} {cells sub : List AV} {T' : TypeId} (ho : o.op = .field T x i) (hx : evalO rd x = some (.agg cells)) {fs : Array Field} {f : Field} (hu : P.underlying T = some (.struct fs)) (hf : fs[i]? = some f) (ht : aggT P f.type = true)
    (hz : sizeT P f.type = some z) (hsub : (cells.drop f.offset).take z = sub) : OpOK P o ⟨rd, [], .agg sub, [], []⟩ :=
  OpOK.quiet fun Γ ρ M s a w hs hh => by
    have hr := evalO_R hs hh hx
    simp only [AV.R] at hr
    obtain ⟨us, hus, h2⟩ := hr
    refine ⟨.agg (us.extract f.offset (f.offset + z)), ?_, ?_⟩
    · simp [execOp, ho, Instr.field, run_underlying hu, hf, hus, asAgg, part, run_isAgg_true ht, run_sizeOf hz]
    · simp only [AV.R]
      refine ⟨_, rfl, ?_⟩
      have := (h2.drop f.offset).take z
      rw [hsub] at this
      simpa [Array.toList_extract, List.extract_eq_take_drop] using this
theorem OpOK.field {T : TypeId} {x : Operand} {i : Nat} {cells : List AV} {c : AV} (ho : o.op = .field T x i) (hx : evalO rd x = some (.agg cells)) {fs : Array Field} {f : Field} (hu : P.underlying T = some (.struct fs)) (hf : fs[i]? = some f) (ht : flatT P f.type = true)
    (hc : cells[f.offset]? = some c) : OpOK P o ⟨rd, [], c, [], []⟩ :=
  OpOK.quiet fun Γ ρ M s a w hs hh => by
    have hr := evalO_R hs hh hx
    simp only [AV.R] at hr
    obtain ⟨us, hus, h2⟩ := hr
    obtain ⟨u, k1, k2, k3⟩ := h2.get f.offset c hc
    refine ⟨u, ?_, k3⟩
    have : us[f.offset]? = some u := by simpa using k1
    simp [execOp, ho, Instr.field, run_underlying hu, hf, hus, asAgg, part, run_isAgg_false ht, this]
end
end Go.Proofs.YtfhcigjkfelnfaaGreat.AM
/-
  The abstract machine, part I: append, stores into arrays, calls. No project text.
-/
set_option linter.unusedSimpArgs false
set_option linter.unusedVariables false
namespace Go.Proofs.YtfhcigjkfelnfaaGreat.AM
open Go
section
variable {P : Program} {o : Oper} {rd : List (Nat × AV)}
theorem OpOK.put {hp : List (Name × AO)} {v : AV} {n : Name} {ob : AO} {nw : List Name}
    (h : ∀ (Γ : Ctx) (ρ : Name → Loc) (M : Nat → Prop) (s : AS) (a : Act) (w : World), Sim Γ ρ M s a w → s.holds ⟨rd, hp, v, [(n, ob)], nw⟩ → ∃ u w' ρ' M', (execOp a.eval o).run P w = .ok (.value u) w' ∧
      Sim Γ ρ' M' ⟨s.slot, fun m => if m = n then some ob else s.heap m⟩ a w' ∧ v.R ρ' (fun m => if m = n then some ob else s.heap m) M' w' u) : OpOK P o ⟨rd, hp, v, [(n, ob)], nw⟩ := by
  intro Γ ρ M s a w K Q hs hh hd hK
  obtain ⟨u, w', ρ', M', h1, h2, h3⟩ := h Γ ρ M s a w hs hh
  unfold Oper.wp
  rw [h1, Oper.upon_value]
  refine hK ρ' M' _ w' ((h2.put hd (fun _ => h3)).congr (fun t => rfl) (fun m => ?_))
  simp only [AS.run, AS.set, look]
  by_cases e : n = m
  · subst e; simp
  · simp [e, Ne.symm e]
theorem src_of {ρ : Name → Loc} {H : Heap} {M : Nat → Prop} {w : World} {f : Bool} {es : Nat} {rows : List (List PV)} {u : Value} {T e : TypeId} (hT : elemT P T = some e) (h : PV.R M w (.sl f es rows) u) :
    ∃ cr : List (List Value), RR ρ H M w rows cr ∧ (∀ r ∈ rows, r.length = es) ∧ Src P es T u rows.length cr.flatten w := by
  simp only [PV.R] at h
  obtain ⟨a, cap, rfl, h2, h3, h4, h5⟩ := h
  cases a with
  | none =>
    have hc := h4 rfl
    have hl : rows = [] := List.eq_nil_of_length_eq_zero (by omega)
    subst hl; subst hc
    exact ⟨[], by simp [RR], by simp, Src.ofNil (w := w) (elemT_spec hT) 0⟩
  | some ad =>
    by_cases hc : cap = 0
    · have hl : rows = [] := List.eq_nil_of_length_eq_zero (by omega)
      subst hl
      exact ⟨[], by simp [RR], by simp, Src.ofSlice (w := w) (elemT_spec hT) ad _ _ [] (by simp) (by simp) (by simp)⟩
    obtain ⟨g1, g2, g3, g4⟩ := h5 ad rfl hc
    obtain ⟨b, off, spot⟩ := ad
    simp only at g1; subst g1
    obtain ⟨cr, k1, k2, k3⟩ := RR.of_Rows (ρ := ρ) (H := H) g4
    have hfl : cr.flatten.length = rows.length * es := by rw [flat_len (k1.len k2), k1.length]
    exact ⟨cr, k1, k2, Src.ofSlice (w := w) (elemT_spec hT) _ _ _ _ hfl (fun j u hj => by rw [addr_add]; exact k3 j u hj) k1.one⟩
theorem size_zeroCells' (z : Array Value) (n : Nat) : (Builtin.zeroCells z n).size = n * z.size := by simp [Builtin.zeroCells]
theorem Sim.grown {Γ : Ctx} {ρ : Name → Loc} {M : Nat → Prop} {s : AS} {a : Act} {w : World} (h : Sim Γ ρ M s a w) {n : Name} {es cap : Nat} {rows : List (List PV)} {cr : List (List Value)} {rest : Array Value} {e : TypeId}
    (hes : 1 ≤ es) (hrr : RR ρ s.heap M w rows cr) (hl : ∀ r ∈ rows, r.length = es) (hcap : rows.length ≤ cap) (hrest : rest.size = (cap - rows.length) * es) (h0 : 0 < rows.length)
    (hst : ∀ o', s.heap n = some o' → ∃ rows0, o' = .arr es rows0 ∧ rows0.length < rows.length) (hfree : s.heap n = none → s.free n) :
    ∃ M', Sim Γ (fun m => if m = n then ⟨some ⟨w.heap.size, 0, none⟩, cap⟩ else ρ m) M' ⟨s.slot, fun m => if m = n then some (.arr es rows) else s.heap m⟩ a (w.drew.alloc (.cells (cr.flatten.toArray ++ rest) e)) := by
  have he : Ext (fun _ => False) w (w.drew.alloc (.cells (cr.flatten.toArray ++ rest) e)) := (Ext.drew w).trans (Ext.alloc w.drew _) (fun _ _ hb => hb.elim)
  refine ⟨fun b => M b ∨ b = w.heap.size, h.update1 (he.weaken fun _ _ hb => hb.elim) (fun b hb => .inl hb) (fun b hb => hb.imp id (fun e => by omega)) (fun b hb => ?_) (fun o' ho' => ?_) hfree ?_ (fun b hb => .inr ?_)⟩
  · rcases hb with hb | hb
    · have := h.msize b hb; simp; omega
    · simp [hb]
  · obtain ⟨rows0, rfl, hlt⟩ := hst o' ho'
    simp only [stays]
    exact ⟨trivial, by omega, fun hc => by omega⟩
  · have hcr := hrr.length
    have hfl : cr.flatten.length = rows.length * es := by rw [flat_len (hrr.len hl), hcr]
    refine ⟨hes, by simpa using hcap, .inr ⟨w.heap.size, e, _, by simp, .inr rfl, by have := heap_alloc_new w.drew (.cells (cr.flatten.toArray ++ rest) e); simpa using this, ?_, ?_⟩⟩
    · simp only [if_true, Array.size_append, List.size_toArray, hfl, hrest]
      rw [← Nat.add_mul]
      congr 1
      omega
    · refine Rows_of_RR (ρ := ρ) (H := s.heap) (hrr.step (B := fun _ => False) he (fun _ hb => hb.elim) (fun b hb hb' => hb'.resolve_right (by omega))) hl fun j u hj => ?_
      have := heap_alloc_new w.drew (.cells (cr.flatten.toArray ++ rest) e)
      simp only [World.size_drew] at this
      simp only [World.cell?, this]
      have hlt : j < cr.flatten.length := by
        rcases Nat.lt_or_ge j cr.flatten.length with h' | h'
        · exact h'
        · rw [List.getElem?_eq_none h'] at hj; simp at hj
      show (if (none : Option Nat).isSome = true then none else (cr.flatten.toArray ++ rest)[j]?) = some u
      rw [if_neg (by simp), Array.getElem?_append_left (by simpa only [List.size_toArray] using hlt), List.getElem?_toArray]
      exact hj
  · simp only [Loc.blk] at hb
    split at hb
    · simp at hb
    · simp at hb; omega
theorem setCells_eq {w : World} {b k : Nat} {cur : Array Value} {t : TypeId} {vs : List Value} (hb : w.heap[b]? = some (.cells cur t (0, 0))) (hl : k + vs.length ≤ cur.size) (h1 : ∀ v ∈ vs, v.oneCell' = true) :
    w.setCells b k vs = w.setRow b (setAt cur.toList k vs).toArray := by
  have r1 := run_storeCells_at (P := default) b k t vs 0 cur w hb (by simpa using hl) h1
  have r2 := run_storeCells_cells (P := default) b k vs 0 w (fun j hj => by
      have : k + j < cur.size := by omega
      simp [World.cell?, hb, this]) (fun j hj => by simp [World.frozen?, hb]) h1
  rw [r1] at r2
  simp only [Nat.add_zero] at r2
  injection r2 with _ r3
  exact r3.symm
theorem OpOK.appendOwn {T e : TypeId} {x y : Operand} {ats : Array TypeId} {n : Name} {len es bytes r : Nat} {f : Bool} {rows rows' rows2 : List (List PV)}
    (ho : o.op = .call { callee := .builtin .append, args := #[x, y], argTypes := ats }) (hat : ats = #[T, T]) (hT : elemT P T = some e) (hok : elemOK P e es bytes = true)
    (hx : evalO rd x = some (.own n len)) (hlen : Nat.beq len rows.length = true) (hy : evalO rd y = some (.p (.sl f es rows'))) (h2 : rows ++ rows' = rows2) (hr : rows2.length = r)
    (hfit : (rows.length + rows'.length) * bytes ≤ 140737488355328) (hfit2 : rows.length + rows'.length ≤ 140737488355328) :
    OpOK P o ⟨rd, [(n, .arr es rows)], .own n r, [(n, .arr es rows2)], []⟩ :=
  OpOK.put fun Γ ρ M s a w hs hh => by
    subst h2; subst hr; subst hat
    have hle := Nat.eq_of_beq_eq_true hlen
    subst hle
    obtain ⟨i, z, hi, hz, hsz, hby, hzs⟩ := elemOK_spec hok
    have hrx := evalO_R hs hh hx
    simp only [AV.R] at hrx
    have hn := hh.hp n _ (by simp : (n, AO.arr es rows) ∈ _)
    have hux := (hrx.2 _ es rows.length hn rfl).2 rfl
    have hry := evalO_R hs hh hy
    simp only [AV.R] at hry
    obtain ⟨cr', k1, k2, hsrc⟩ := src_of (P := P) (ρ := ρ) (H := s.heap) hT hry
    obtain ⟨hes, hcap, hobj⟩ := hs.objs n _ hn
    have hexec : ∀ (u : Value) (w' : World), (Builtin.append_ #[T, T] o.type #[.slice (ρ n).base rows.length (ρ n).cap, a.eval y]).run P w = .ok u w' → (execOp a.eval o).run P w = .ok (.value u) w' := by
      intro u w' hrun
      simp [execOp, ho, resolve, invoke, builtin, hux, hrun]
    rw [← hsz] at hsrc
    by_cases hnil : rows' = []
    · subst hnil
      simp only [List.append_nil]
      simp only [RR] at k1
      subst k1
      have hrun := run_append_nothing w T T o.type e i (elemT_spec hT) hi (ρ n).base rows.length (ρ n).cap hcap (a.eval y) (by simpa using hsrc)
      have hfun : (fun m => if m = n then some (AO.arr es rows) else s.heap m) = s.heap := by
        funext m; by_cases e : m = n
        · subst e; simp [hn]
        · simp [e]
      refine ⟨_, w, ρ, M, hexec _ _ hrun, by rw [hfun]; exact hs, ?_⟩
      rw [hfun, ← hux]
      simp only [AV.R]
      exact hrx
    · have hpos : 0 < rows'.length := List.length_pos_iff.2 hnil
      by_cases hroom : rows.length + rows'.length ≤ (ρ n).cap
      · -- there is room
        rcases hobj with hobj | ⟨b, T', cs, h3, h4, h5, h6, h7⟩
        · omega
        · have hcrl := k1.length
          have hfl : cr'.flatten.length = rows'.length * es := by rw [flat_len (k1.len k2), hcrl]
          have hfits : rows.length * es + cr'.flatten.length ≤ cs.size := by
            rw [hfl, h6, ← Nat.add_mul]; exact Nat.mul_le_mul_right es hroom
          have hle2 : rows.length * es + cr'.flatten.length ≤ cs.size := hfits
          obtain ⟨cr0, m1, m2, m3⟩ := RR.of_Rows (ρ := ρ) (H := s.heap) h7
          have hfl0 : cr0.flatten.length = rows.length * es := by rw [flat_len (m1.len m2), m1.length]
          have hcell : ∀ j, j < cs.size → w.cell? ⟨b, j, none⟩ = cs[j]? := fun j hj => by simp [World.cell?, h5]
          have hrun := run_append_room_src (P := P) w T T o.type e i (elemT_spec hT) hi b 0 rows.length (ρ n).cap (a.eval y) rows'.length cr'.flatten hsrc hroom
            (fun j hj => by rw [hsz, Nat.zero_add, hcell _ (by omega)]; simp; omega) (fun j hj => by simp [World.frozen?, h5])
          rw [hsz, Nat.zero_add, setCells_eq h5 hle2 k1.one, ← h3] at hrun
          have he : Ext (fun b' => b' = b) w (w.setRow b (setAt cs.toList (rows.length * es) cr'.flatten).toArray) := ⟨by simp [World.setRow], fun b' hb hne => setRow_other w b b' _ hne, rfl, rfl⟩
          have hblk : (ρ n).blk = some b := by
            have : (ρ n).cap ≠ 0 := by omega
            simp [Loc.blk, this, h3]
          have hM : M b := h4
          refine ⟨_, _, (fun m => if m = n then ρ n else ρ m), M, hexec _ _ hrun, hs.update1 (he.weaken fun b' _ hb => ⟨by rw [hblk, hb], by rw [hn]; simp⟩) (fun _ hb => hb) (fun _ hb => .inl hb) (fun b' hb => Nat.lt_of_lt_of_le (hs.msize b' hb) he.size)
            (fun o' ho' => by rw [hn] at ho'; cases ho'; simp [stays]) (fun h0 => by rw [hn] at h0; simp at h0) ?_ (fun b' hb => .inl ⟨_, hn, hb⟩), ?_⟩
          · refine ⟨hes, by simpa using hroom, .inr ⟨b, T', _, by simp [h3], hM, setRow_heap w b cs _ T' (0, 0) h5, ?_, ?_⟩⟩
            · simp only [if_true, List.size_toArray, setAt, List.length_append, List.length_take, List.length_drop, Array.length_toList, ← h6]
              omega
            · have st : ∀ {rs : List (List PV)} {c : List (List Value)}, RR ρ s.heap M w rs c → RR ρ s.heap M (w.setRow b (setAt cs.toList (rows.length * es) cr'.flatten).toArray) rs c := fun h => h.step he (fun b' hb => by rw [hb]; exact hM) (fun b' _ hb => hb)
              refine Rows_of_RR (ρ := ρ) (H := s.heap) ((st m1).append (st k1)) (fun r hr => ?_) fun j u hj => ?_
              · rcases List.mem_append.1 hr with hr | hr
                · exact m2 r hr
                · exact k2 r hr
              · rw [cell_setRow_same w b j cs _ T' (0, 0) h5]
                simp only [List.flatten_append] at hj
                simp only [List.getElem?_toArray, setAt]
                rw [List.getElem?_append] at hj
                split at hj
                · rename_i hlt
                  have := m3 j u hj
                  rw [Nat.zero_add, hcell j (by omega)] at this
                  rw [List.append_assoc, List.getElem?_append_left (by simp; omega), List.getElem?_take_of_lt (by omega)]
                  simpa using this
                · rename_i hge
                  have hjl : j - cr0.flatten.length < cr'.flatten.length := by
                    rcases Nat.lt_or_ge (j - cr0.flatten.length) cr'.flatten.length with h' | h'
                    · exact h'
                    · rw [List.getElem?_eq_none h'] at hj; simp at hj
                  have htl : (List.take (rows.length * es) cs.toList).length = rows.length * es := by simp; omega
                  rw [List.append_assoc, List.getElem?_append_right (by omega), List.getElem?_append_left (by omega), htl, ← hfl0]
                  exact hj
          · simp only [AV.R]
            refine ⟨rfl, fun o' es' k' hc hs' => ?_⟩
            simp only [if_true] at hc
            cases hc
            cases hs'
            exact ⟨Nat.le_refl _, fun _ => by simp⟩
      · -- a new row
        have hg : (ρ n).cap < rows.length + rows'.length := by omega
        have hold : ∃ cr0, RR ρ s.heap M w rows cr0 ∧ (∀ r ∈ rows, r.length = es) ∧ (Builtin.firstCells i.size rows.length (.slice (ρ n).base rows.length (ρ n).cap)).run P w.drew = .ok cr0.flatten.toArray w.drew := by
          rcases hobj with hobj | ⟨b, T', cs, h3, h4, h5, h6, h7⟩
          · have hl : rows = [] := List.eq_nil_of_length_eq_zero (by omega)
            subst hl
            refine ⟨[], by simp [RR], by simp, ?_⟩
            cases hb : (ρ n).base with
            | none => simpa using run_firstCells_none (P := P) w.drew i.size 0 0 (ρ n).cap
            | some ad => simpa using run_firstCells_some (P := P) w.drew i.size 0 ad 0 (ρ n).cap [] (by simp) (by simp)
          · obtain ⟨cr0, m1, m2, m3⟩ := RR.of_Rows (ρ := ρ) (H := s.heap) h7
            refine ⟨cr0, m1, m2, ?_⟩
            rw [h3]
            exact run_firstCells_some (P := P) w.drew i.size rows.length _ rows.length (ρ n).cap cr0.flatten (by rw [hsz, flat_len (m1.len m2), m1.length]) (fun j u hj => by
              rw [addr_add, Nat.zero_add, World.cell?_drew]; have := m3 j u hj; rwa [Nat.zero_add] at this)
        obtain ⟨cr0, m1, m2, hold⟩ := hold
        have hrun := run_append_grow_src (P := P) w T T o.type e i z (elemT_spec hT) hi hz (ρ n).base rows.length (ρ n).cap cr0.flatten hold (a.eval y) rows'.length cr'.flatten hsrc hg
          (by omega) (growslice_fits hg (by rw [hby]; exact hfit))
        have hge := grownCap_ge w (rows.length + rows'.length) (ρ n).cap e
        have happ : (cr0.flatten ++ cr'.flatten) = (cr0 ++ cr').flatten := by simp
        rw [happ] at hrun
        obtain ⟨M', hsim⟩ := hs.grown (n := n) (es := es) (cap := grownCap w (rows.length + rows'.length) (ρ n).cap e) (rows := rows ++ rows') (cr := cr0 ++ cr') (rest := Builtin.zeroCells z.cells (grownCap w (rows.length + rows'.length) (ρ n).cap e - (rows.length + rows'.length))) (e := e)
          hes (m1.append k1) (fun r hr => by rcases List.mem_append.1 hr with hr | hr; exact m2 r hr; exact k2 r hr) (by simpa using hge) (by rw [size_zeroCells', hzs]; simp) (by simp; omega)
          (fun o' ho' => by rw [hn] at ho'; cases ho'; exact ⟨rows, rfl, by simp; omega⟩) (fun h0 => by rw [hn] at h0; simp at h0)
        refine ⟨_, _, _, M', hexec _ _ hrun, hsim, ?_⟩
        simp only [AV.R]
        refine ⟨rfl, fun o' es' k' hc hs' => ?_⟩
        simp only [if_true] at hc
        cases hc
        cases hs'
        exact ⟨Nat.le_refl _, fun _ => by simp⟩
end
end Go.Proofs.YtfhcigjkfelnfaaGreat.AM
