/-
  The abstract machine, part E: code, contracts, calls. No project text.
-/
import Derived.Test.YtbcginibldjnaaaGreatAmD
set_option linter.unusedSimpArgs false
set_option linter.unusedVariables false
namespace Go.Proofs.YtbcginibldjnaaaGreat.AM
open Go

section code
variable {P : Program} {Γ : Ctx} {s : AS} {Q : Exit → AS → Prop}

/-- What stands behind a statement. -/
def nextQ (N : AS → Prop) (Q : Exit → AS → Prop) : Exit → AS → Prop
  | .normal, s => N s
  | e, s => Q e s
def blockQ (id : Nat) (Q : Exit → AS → Prop) : Exit → AS → Prop
  | .exit k, s => if k = id then Q .normal s else Q (.exit k) s
  | e, s => Q e s

theorem AWp.mono {c : Code} {Q' : Exit → AS → Prop} (h : AWp P Γ c s Q) (hq : ∀ e s, Q e s → Q' e s) : AWp P Γ c s Q' :=
  fun ρ M a w hs => wp_mono (h ρ M a w hs) fun e a' w' ⟨s', ρ', M', h1, h2⟩ => ⟨s', ρ', M', hq _ _ h1, h2⟩
theorem AWp.skip (h : Q .normal s) : AWp P Γ .skip s Q := fun ρ M a w hs => wp_skip ⟨s, ρ, M, h, hs⟩
theorem AWp.exit {id : Nat} (h : Q (.exit id) s) : AWp P Γ (.exit id) s Q := fun ρ M a w hs => wp_exit ⟨s, ρ, M, h, hs⟩
theorem AWp.ret (h : Q .ret s) : AWp P Γ .ret s Q := fun ρ M a w hs => wp_ret ⟨s, ρ, M, h, hs⟩
theorem AWp.label {l : Nat} (h : Q .normal s) : AWp P Γ (.label l) s Q := fun ρ M a w hs => wp_label ⟨s, ρ, M, h, hs⟩
theorem AWp.seq {x y : Code} (h : AWp P Γ x s (nextQ (fun s' => AWp P Γ y s' Q) Q)) : AWp P Γ (.seq x y) s Q := by
  intro ρ M a w hs
  refine wp_seq (wp_mono (h ρ M a w hs) fun e a' w' ⟨s', ρ', M', h1, h2⟩ => ?_)
  cases e <;> simp only [nextQ] at h1 <;> simp only [Exit.then]
  · exact h1 ρ' M' a' w' h2
  all_goals exact ⟨s', ρ', M', h1, h2⟩
/-- The statement, with what is known behind it. -/
theorem AWp.seqCut {x y : Code} (I : AS → Prop) (h : AWp P Γ x s (nextQ I Q)) (h2 : ∀ s', I s' → AWp P Γ y s' Q) : AWp P Γ (.seq x y) s Q :=
  AWp.seq (h.mono fun e s' h1 => by cases e <;> simp only [nextQ] at h1 ⊢ <;> first | exact h2 s' h1 | exact h1)
theorem AWp.block {id : Nat} {c : Code} (h : AWp P Γ c s (blockQ id Q)) : AWp P Γ (.block id c) s Q := by
  intro ρ M a w hs
  refine wp_block (wp_mono (h ρ M a w hs) fun e a' w' ⟨s', ρ', M', h1, h2⟩ => ?_)
  cases e with
  | exit k =>
    simp only [blockQ] at h1
    simp only [Exit.inBlock]
    split
    · rename_i e; simp only [e, if_true] at h1; exact ⟨s', ρ', M', h1, h2⟩
    · rename_i e; simp only [e, if_false] at h1; exact ⟨s', ρ', M', h1, h2⟩
  | _ => exact ⟨s', ρ', M', h1, h2⟩

theorem eval_bool {ρ : Name → Loc} {M : Nat → Prop} {a : Act} {w : World} {t : Nat} {b : Bool} (hs : Sim Γ ρ M s a w) (h : s.slot t = some (.p (.v (.bool b)))) : a.eval (.tmp t) = .bool b := by
  obtain ⟨u, hu, hr⟩ := hs.slots t _ h
  simp only [AV.R, PV.R] at hr
  simp [Act.eval, Array.getD_eq_getD_getElem?, hu, hr.1]
theorem AWp.cond_true {t : Nat} {x y : Code} (hc : s.slot t = some (.p (.v (.bool true)))) (h : AWp P Γ x s Q) : AWp P Γ (.cond (.tmp t) x y) s Q :=
  fun ρ M a w hs => wp_cond_true (eval_bool hs hc) (h ρ M a w hs)
theorem AWp.cond_false {t : Nat} {x y : Code} (hc : s.slot t = some (.p (.v (.bool false)))) (h : AWp P Γ y s Q) : AWp P Γ (.cond (.tmp t) x y) s Q :=
  fun ρ M a w hs => wp_cond_false (eval_bool hs hc) (h ρ M a w hs)
theorem AWp.cond {t : Nat} {x y : Code} (b : Bool) (hc : s.slot t = some (.p (.v (.bool b)))) (ht : b = true → AWp P Γ x s Q) (hf : b = false → AWp P Γ y s Q) : AWp P Γ (.cond (.tmp t) x y) s Q :=
  fun ρ M a w hs => wp_cond_split (eval_bool hs hc) (fun hb => ht hb ρ M a w hs) (fun hb => hf hb ρ M a w hs)

theorem AWp.loop {c : Code} (I : Nat → AS → Prop) (h0 : ∃ m, I m s) (round : ∀ m s, I m s → AWp P Γ c s (nextQ (fun s' => ∃ m', m' < m ∧ I m' s') Q)) : AWp P Γ (.loop c) s Q := by
  intro ρ M a w hs b k cs
  have key : ∀ m s ρ M a w, I m s → Sim Γ ρ M s a w →
      ∃ e a' w', (∃ s' ρ' M', Q e s' ∧ Sim Γ ρ' M' s' a' w') ∧ Arrives P (lone (b.at a (.code c :: .inLoop c :: k)) cs w) b k cs e a' w' := by
    intro m
    induction m using Nat.strongRecOn with
    | _ m ih =>
      intro s ρ M a w hI hs
      obtain ⟨e, a₁, w₁, ⟨s', ρ', M', h1, h2⟩, harr⟩ := round m s hI ρ M a w hs b (.inLoop c :: k) cs
      cases e with
      | normal =>
        simp only [nextQ] at h1
        obtain ⟨m', hlt, hI'⟩ := h1
        obtain ⟨e₂, a₂, w₂, hq₂, harr₂⟩ := ih m' hlt s' ρ' M' a₁ w₁ hI' h2
        exact ⟨e₂, a₂, w₂, hq₂, .of_steps (Steps.trans harr (.one step_inLoop)) harr₂⟩
      | exit id => exact ⟨_, a₁, w₁, ⟨s', ρ', M', h1, h2⟩, .pass (x := .inLoop c) rfl (fun _ _ => .inl (by simp)) harr⟩
      | goto l => exact ⟨_, a₁, w₁, ⟨s', ρ', M', h1, h2⟩, .pass (x := .inLoop c) rfl (fun _ _ => .inl (by simp)) harr⟩
      | ret => exact ⟨_, a₁, w₁, ⟨s', ρ', M', h1, h2⟩, .pass (x := .inLoop c) rfl (fun _ _ => .inl (by simp)) harr⟩
      | panic ch => exact ⟨_, a₁, w₁, ⟨s', ρ', M', h1, h2⟩, .pass (x := .inLoop c) rfl (fun _ _ => .inl (by simp)) harr⟩
      | outgrown => exact ⟨_, a₁, w₁, ⟨s', ρ', M', h1, h2⟩, .pass (x := .inLoop c) rfl (fun _ _ => .inl (by simp)) harr⟩
  obtain ⟨m, hm⟩ := h0
  obtain ⟨e, a', w', hq, harr⟩ := key m s ρ M a w hm hs
  exact ⟨e, a', w', hq, .of_steps (.one step_loop) harr⟩
end code

/-! ### Operands -/
def constCell : Value → AV
  | .slice none 0 0 => .p (.sl true 0 [])
  | c => .p (.v c)
def constAV : Value → Option AV
  | .agg cs => if cs.toList.all (fun c => c.oneCell') then some (.agg (cs.toList.map constCell)) else none
  | c => if c.oneCell' then some (constCell c) else none

def evalO (rd : List (Nat × AV)) : Operand → Option AV
  | .tmp t => look t rd
  | .const c => constAV c
  | .global g => some (.p (.v (.pointer (some ⟨g, 0, none⟩))))
  | .func f => some (.p (.v (.func (.func f) #[] #[])))

def evalL (rd : List (Nat × AV)) : List Operand → Option (List AV)
  | [] => some []
  | x :: r => match evalO rd x, evalL rd r with
    | some y, some ys => some (y :: ys)
    | _, _ => none

section
variable {ρ : Name → Loc} {H : Heap} {M : Nat → Prop} {w : World}

theorem constCell_R {c : Value} (h : c.oneCell' = true) : (constCell c).R ρ H M w c := by
  unfold constCell
  split
  · simp only [AV.R, PV.R]; exact ⟨none, 0, by simp⟩
  · simp only [AV.R, PV.R]; exact ⟨trivial, h⟩
theorem constCells_R : ∀ {cs : List Value}, (∀ c ∈ cs, c.oneCell' = true) → AV.Rs ρ H M w (cs.map constCell) cs
  | [], _ => by simp [AV.Rs]
  | c :: cs, h => by
    simp only [List.map_cons, AV.Rs]
    exact ⟨c, cs, rfl, h c (by simp), constCell_R (h c (by simp)), constCells_R (fun c hc => h c (by simp [hc]))⟩
theorem constAV_R {c : Value} {x : AV} (h : constAV c = some x) : x.R ρ H M w c := by
  unfold constAV at h
  split at h
  · rename_i cs
    split at h
    · rename_i hall
      cases h
      simp only [AV.R]
      exact ⟨cs, rfl, constCells_R (List.all_eq_true.1 hall)⟩
    · simp at h
  · split at h
    · rename_i hc; cases h; exact constCell_R hc
    · simp at h

theorem evalO_R {Γ : Ctx} {s : AS} {a : Act} {e : Eff} (hs : Sim Γ ρ M s a w) (hh : s.holds e) {x : Operand} {y : AV} (h : evalO e.rd x = some y) : y.R ρ s.heap M w (a.eval x) := by
  cases x with
  | tmp t =>
    obtain ⟨u, hu, hr⟩ := hs.slots t y (hh.rd t y (look_mem h))
    simpa [Act.eval, Array.getD_eq_getD_getElem?, hu] using hr
  | const c => exact constAV_R h
  | global g => simp only [evalO, Option.some.injEq] at h; subst h; simp only [AV.R, PV.R]; exact ⟨rfl, rfl⟩
  | func f => simp only [evalO, Option.some.injEq] at h; subst h; simp only [AV.R, PV.R]; exact ⟨rfl, rfl⟩

theorem evalL_R {Γ : Ctx} {s : AS} {a : Act} {e : Eff} (hs : Sim Γ ρ M s a w) (hh : s.holds e) : ∀ {xs : List Operand} {ys : List AV}, evalL e.rd xs = some ys → AV.Ts ρ s.heap M w ys (xs.map a.eval)
  | [], ys, h => by simp only [evalL, Option.some.injEq] at h; subst h; simp [AV.Ts]
  | x :: r, ys, h => by
    simp only [evalL] at h
    split at h
    · rename_i y ys' h1 h2
      cases h
      simp only [List.map_cons, AV.Ts]
      exact ⟨_, _, rfl, evalO_R hs hh h1, evalL_R hs hh h2⟩
    · simp at h
end

/-! ### Contracts -/
def lookH (l : List (Name × AO)) : Heap := fun n => look n l
def newM (M : Nat → Prop) (ρ : Name → Loc) (h : List (Name × AO)) : Nat → Prop := fun b => M b ∨ ∃ n o, look n h = some o ∧ (ρ n).blk = some b

/-- What a call leaves. -/
structure After (ρ : Name → Loc) (M : Nat → Prop) (w : World) (pre : List (Name × AO)) (u : Value) (v : AV) (h : List (Name × AO)) (ρ' : Name → Loc) (w' : World) : Prop where
  val : v.R ρ' (lookH h) (newM M ρ' h) w' u
  objs : ∀ n o, look n h = some o → ObjAt ρ' (lookH h) (newM M ρ' h) w' n o
  inj : ∀ n m o o' b, look n h = some o → look m h = some o' → (ρ' n).blk = some b → (ρ' m).blk = some b → n = m
  own : ∀ n o b, look n h = some o → (ρ' n).blk = some b → (∃ o', look n pre = some o' ∧ (ρ n).blk = some b) ∨ w.heap.size ≤ b
  ext : Ext (fun b => ∃ n o, look n pre = some o ∧ (ρ n).blk = some b) w w'
  keep : ∀ n o, look n pre = some o → ∃ o', look n h = some o' ∧ stays o (ρ n) (some o') (ρ' n)

/-- The function, called with these arguments where these objects lie, returns a value and leaves objects that 'post' names. -/
def Spec (P : Program) (f : FuncId) (args : List AV) (pre : List (Name × AO)) (post : AV → List (Name × AO) → Prop) : Prop :=
  ∀ (G : World) (ρ : Name → Loc) (M : Nat → Prop) (w : World) (us : List Value), Ground G w (fun b => ∃ n o, look n pre = some o ∧ (ρ n).blk = some b) → (∀ b, M b → b < w.heap.size) → AV.Ts ρ (lookH pre) M w args us →
    (∀ n o, look n pre = some o → ObjAt ρ (lookH pre) M w n o) →
    (∀ n m o o' b, look n pre = some o → look m pre = some o' → (ρ n).blk = some b → (ρ m).blk = some b → n = m) →
    Calls P f us.toArray w fun e w' => ∃ u v h ρ', e = .returned u ∧ post v h ∧ After ρ M w pre u v h ρ' w'

theorem Spec.mono {P : Program} {f : FuncId} {args : List AV} {pre : List (Name × AO)} {post post' : AV → List (Name × AO) → Prop} (h : Spec P f args pre post) (hp : ∀ v h, post v h → post' v h) : Spec P f args pre post' :=
  fun G ρ M w us hG h1 h2 h3 h4 => (h G ρ M w us hG h1 h2 h3 h4).mono fun e w' ⟨u, v, h, ρ', g1, g2, g3⟩ => ⟨u, v, h, ρ', g1, hp _ _ g2, g3⟩

/-- Returns just this value, leaves just these objects. -/
abbrev SpecIs (P : Program) (f : FuncId) (args : List AV) (pre : List (Name × AO)) (v : AV) (h : List (Name × AO)) : Prop := Spec P f args pre fun v' h' => v' = v ∧ h' = h

def argSlots : Nat → List AV → List (Nat × AV)
  | _, [] => []
  | i, x :: r => (i, x) :: argSlots (i + 1) r

theorem argSlots_get : ∀ {i : Nat} {l : List AV} {t : Nat} {x : AV}, look t (argSlots i l) = some x → i ≤ t ∧ l[t - i]? = some x
  | i, [], t, x, h => by simp [argSlots, look] at h
  | i, y :: r, t, x, h => by
    simp only [argSlots, look] at h
    split at h
    · rename_i e; subst e; cases h; exact ⟨Nat.le_refl _, by simp⟩
    · obtain ⟨h1, h2⟩ := argSlots_get h
      refine ⟨by omega, ?_⟩
      rw [show t - i = (t - (i + 1)) + 1 by omega]; simpa using h2

theorem AV.Ts.get {ρ : Name → Loc} {H : Heap} {M : Nat → Prop} {w : World} : ∀ {xs : List AV} {us : List Value}, AV.Ts ρ H M w xs us → us.length = xs.length ∧ ∀ (j : Nat) (x : AV), xs[j]? = some x → ∃ u : Value, us[j]? = some u ∧ x.R ρ H M w u
  | [], us, h => by simp only [AV.Ts] at h; subst h; simp
  | x0 :: xs, us, h => by
    simp only [AV.Ts] at h
    obtain ⟨u, us', rfl, h3, h4⟩ := h
    obtain ⟨g1, g2⟩ := AV.Ts.get h4
    refine ⟨by simp [g1], fun j x hj => ?_⟩
    cases j with
    | zero => simp at hj; subst hj; exact ⟨u, by simp, h3⟩
    | succ j => simpa using g2 j x (by simpa using hj)

def aggT (P : Program) (T : TypeId) : Bool := match P.underlying T with | some (.struct _) => true | some (.array _ _) => true | some _ => false | none => false
def flatT (P : Program) (T : TypeId) : Bool := match P.underlying T with | some (.struct _) => false | some (.array _ _) => false | some _ => true | none => false
def sizeT (P : Program) (T : TypeId) : Option Nat := (P.info? T).map (·.size)

theorem run_isAgg_true {P : Program} {T : TypeId} (h : aggT P T = true) (w : World) : (isAgg T).run P w = .ok true w := by
  unfold aggT at h
  unfold isAgg underlying
  cases hu : P.underlying T with
  | none => simp [hu] at h
  | some d => cases d <;> simp_all
theorem run_isAgg_false {P : Program} {T : TypeId} (h : flatT P T = true) (w : World) : (isAgg T).run P w = .ok false w := by
  unfold flatT at h
  unfold isAgg underlying
  cases hu : P.underlying T with
  | none => simp [hu] at h
  | some d => cases d <;> simp_all
theorem run_sizeOf {P : Program} {T : TypeId} {k : Nat} (h : sizeT P T = some k) (w : World) : (sizeOf T).run P w = .ok k w := by
  unfold sizeT at h
  unfold sizeOf typeInfo
  cases hu : P.info? T with
  | none => simp [hu] at h
  | some i => simp [hu] at h ⊢; simp [h]

theorem run_loadVar_agg {P : Program} {w : World} {T : TypeId} {a : Addr} {us : List Value} (hT : aggT P T = true) (hz : sizeT P T = some us.length) (h : ∀ j v, us[j]? = some v → w.cell? (a.add j) = some v) :
    (loadVar T a).run P w = .ok (.agg us.toArray) w := by
  unfold loadVar
  simp only [Sem.run_bind, run_isAgg_true hT, Result.andThen, if_true, run_sizeOf hz, run_loadCells_list w a us h]
  rfl
theorem run_loadVar_flat {P : Program} {w : World} {T : TypeId} {a : Addr} {u : Value} (hT : flatT P T = true) (h : w.cell? a = some u) :
    (loadVar T a).run P w = .ok u w := by
  unfold loadVar
  simp only [Sem.run_bind, run_isAgg_false hT, Result.andThen, if_false, Bool.false_eq_true, run_load, h]

theorem addr_add (b o j : Nat) : (Addr.add ⟨b, o, none⟩ j) = ⟨b, o + j, none⟩ := by
  unfold Addr.add; split
  · rename_i h; subst h; rfl
  · rfl

/-- A box, read as a whole or in part. -/
theorem box_cells {ρ : Name → Loc} {H : Heap} {M : Nat → Prop} {w : World} {n : Name} {cells : List AV} (h : ObjAt ρ H M w n (.box cells)) :
    ∃ (b : Nat) (us : List Value), ρ n = ⟨some ⟨b, 0, none⟩, 1⟩ ∧ AV.Rs ρ H M w cells us ∧ ∀ j v, us[j]? = some v → w.cell? ⟨b, j, none⟩ = some v := by
  obtain ⟨b, T, cs, h1, h2, h3, h4⟩ := h
  refine ⟨b, cs.toList, h1, h4, fun j v hj => ?_⟩
  simp [World.cell?, h3]
  simpa using hj

/-! ### Results -/
def Res1 (P : Program) (s : AS) : ResultVar → AV → Prop
  | .tmp t, v => s.slot t = some v
  | .cell t T, v => ∃ n cells, s.slot t = some (.ref n 0) ∧ s.heap n = some (.box cells) ∧ ((aggT P T = true ∧ sizeT P T = some cells.length ∧ v = .agg cells) ∨ (flatT P T = true ∧ cells = [v]))
def Res1s (P : Program) (s : AS) : List ResultVar → List AV → Prop
  | [], vs => vs = []
  | r :: rs, vs => ∃ v vs', vs = v :: vs' ∧ Res1 P s r v ∧ Res1s P s rs vs'
def Res (P : Program) (s : AS) (rs : Array ResultVar) (v : AV) : Prop := if rs.size = 1 then Res1s P s rs.toList [v] else ∃ vs, v = .tup vs ∧ Res1s P s rs.toList vs

def resOf (tmps : Array Value) : ResultVar → Sem Value
  | .tmp t => pure (tmps.getD t undef)
  | .cell a t => do loadVar t (← asAddr (tmps.getD a undef))

theorem run_res1 {P : Program} {Γ : Ctx} {ρ : Name → Loc} {M : Nat → Prop} {s : AS} {a : Act} {w : World} (hs : Sim Γ ρ M s a w) {r : ResultVar} {v : AV} (h : Res1 P s r v) :
    ∃ u, (resOf a.tmps r).run P w = .ok u w ∧ v.R ρ s.heap M w u := by
  cases r with
  | tmp t =>
    obtain ⟨u, hu, hr⟩ := hs.slots t v h
    exact ⟨u, by simp [resOf, Array.getD_eq_getD_getElem?, hu], hr⟩
  | cell t T =>
    obtain ⟨n, cells, h1, h2, h3⟩ := h
    obtain ⟨u, hu, hr⟩ := hs.slots t _ h1
    simp only [AV.R] at hr
    obtain ⟨b, hb, rfl⟩ := hr.2 cells h2
    obtain ⟨b', us, g1, g2, g3⟩ := box_cells (hs.objs n _ h2)
    have e : b' = b := by rw [g1] at hb; simpa using hb
    subst e
    rcases h3 with ⟨hT, hz, rfl⟩ | ⟨hT, rfl⟩
    · refine ⟨.agg us.toArray, ?_, by simp only [AV.R]; exact ⟨us.toArray, rfl, by simpa using g2⟩⟩
      simp only [resOf, Array.getD_eq_getD_getElem?, hu, Option.getD_some, asAddr, Sem.run_bind]
      exact run_loadVar_agg hT (by rw [hz, g2.length]) (fun j v hj => by rw [addr_add, Nat.zero_add]; exact g3 j v hj)
    · simp only [AV.Rs] at g2
      obtain ⟨u, us', rfl, _, k3, k4⟩ := g2
      refine ⟨u, ?_, k3⟩
      simp only [resOf, Array.getD_eq_getD_getElem?, hu, Option.getD_some, asAddr, Sem.run_bind]
      exact run_loadVar_flat hT (g3 0 u (by simp))

theorem run_res1s {P : Program} {Γ : Ctx} {ρ : Name → Loc} {M : Nat → Prop} {s : AS} {a : Act} {w : World} (hs : Sim Γ ρ M s a w) : ∀ {rs : List ResultVar} {vs : List AV}, Res1s P s rs vs →
    ∃ us, (rs.mapM (resOf a.tmps)).run P w = .ok us w ∧ AV.Ts ρ s.heap M w vs us
  | [], vs, h => by
    simp only [Res1s] at h; subst h
    exact ⟨[], by simp, by simp [AV.Ts]⟩
  | r :: rs, vs, h => by
    simp only [Res1s] at h
    obtain ⟨v, vs', rfl, h1, h2⟩ := h
    obtain ⟨u, g1, g2⟩ := run_res1 hs h1
    obtain ⟨us, g3, g4⟩ := run_res1s hs h2
    refine ⟨u :: us, ?_, by simp only [AV.Ts]; exact ⟨u, us, rfl, g2, g4⟩⟩
    rw [List.mapM_cons]
    simp [g1, g3, Result.andThen]

theorem results_eq (fn : Func) (tmps : Array Value) : results fn tmps = (do let vs ← fn.results.mapM (resOf tmps); pure (if h : vs.size = 1 then vs[0] else .tuple vs)) := by
  rfl

theorem run_results {P : Program} {Γ : Ctx} {ρ : Name → Loc} {M : Nat → Prop} {s : AS} {a : Act} {w : World} (hs : Sim Γ ρ M s a w) {fn : Func} {v : AV} (h : Res P s fn.results v) :
    ∃ u, (results fn a.tmps).run P w = .ok u w ∧ v.R ρ s.heap M w u := by
  rw [results_eq]
  have key : ∀ vs, Res1s P s fn.results.toList vs → ∃ us, (fn.results.mapM (resOf a.tmps)).run P w = .ok us.toArray w ∧ AV.Ts ρ s.heap M w vs us := fun vs hv => by
    obtain ⟨us, g1, g2⟩ := run_res1s hs hv
    refine ⟨us, ?_, g2⟩
    rw [Array.mapM_eq_mapM_toList]
    simp [g1, Result.andThen]
  unfold Res at h
  split at h
  · rename_i hsz
    obtain ⟨us, g1, g2⟩ := key _ h
    simp only [AV.Ts] at g2
    obtain ⟨u, us', rfl, g3, rfl⟩ := g2
    refine ⟨u, ?_, g3⟩
    simp [g1, Result.andThen]
  · rename_i hsz
    obtain ⟨vs, rfl, h⟩ := h
    have hl : ∀ (rs : List ResultVar) (vs : List AV), Res1s P s rs vs → vs.length = rs.length := by
      intro rs
      induction rs with
      | nil => intro vs h; simp only [Res1s] at h; simp [h]
      | cons r rs ih => intro vs h; simp only [Res1s] at h; obtain ⟨v, vs', rfl, _, h2⟩ := h; simp [ih _ h2]
    obtain ⟨us, g1, g2⟩ := key _ h
    have hlen := g2.get.1
    refine ⟨.tuple us.toArray, ?_, by simp only [AV.R]; exact ⟨us.toArray, rfl, by simpa using g2⟩⟩
    have h1 : ¬ us.length = 1 := by rw [hlen, hl _ _ h]; simpa using hsz
    simp [g1, Result.andThen, h1]

/-- The contract of a function, out of its body. -/
theorem Spec.intro {P : Program} {f : FuncId} {fn : Func} {c : Code} {args : List AV} {pre : List (Name × AO)} {post : AV → List (Name × AO) → Prop}
    (hf : P.funcs[f]? = some fn) (hb : fn.body = some c) (hlen : Nat.ble args.length fn.ntmps = true)
    (h : ∀ Γ : Ctx, Γ.n = fn.ntmps → Γ.names = keys pre → AWp P Γ c (mk (argSlots 0 args) pre) fun e s' => (e = .normal ∨ e = .ret) ∧
      ∃ v h', Res P s' fn.results v ∧ (∀ n o, look n h' = some o → s'.heap n = some o) ∧ (∀ n, n ∈ keys pre → look n h' ≠ none) ∧ post v h') : Spec P f args pre post := by
  intro G ρ M w us hG hM hargs hobjs hinj
  have hlen' := Nat.le_of_ble_eq_true hlen
  obtain ⟨hul, hug⟩ := hargs.get
  let Γ : Ctx := { n := fn.ntmps, names := keys pre, pre := fun n => (look n pre).getD (.box []), ρ0 := ρ, w0 := w, M := M, G := G }
  have hsome : ∀ n, n ∈ keys pre → ∃ o, look n pre = some o := by
    intro n hn
    rcases Classical.em (look n pre = none) with h' | h'
    · exfalso
      have : ∀ (l : List (Name × AO)), n ∈ keys l → look n l ≠ none := by
        intro l
        induction l with
        | nil => intro h; simp [keys] at h
        | cons p r ih =>
          intro h
          obtain ⟨k, y⟩ := p
          simp only [keys, List.map_cons, List.mem_cons] at h
          simp only [look]
          split
          · simp
          · rename_i hne
            rcases h with h | h
            · exact absurd h.symm hne
            · exact ih h
      exact this pre hn h'
    · cases hc : look n pre with
      | none => exact absurd hc h'
      | some o => exact ⟨o, rfl⟩
  have hsim : Sim Γ ρ M (mk (argSlots 0 args) pre) { tmps := us.toArray ++ Array.replicate (fn.ntmps - us.toArray.size) undef, defers := [] } w := by
    refine ⟨by simp [Γ]; omega, rfl, fun t x ht => ?_, hobjs, hinj, fun n o b hn hb => .inl ⟨?_, hb⟩, fun n hn => ?_, Ext.refl _ _, fun b hb => hb, hM, hM, ⟨hG.laid, hG.size, hG.same, fun b ⟨n, hn, hb⟩ => by obtain ⟨o, ho⟩ := hsome n hn; exact hG.out b ⟨n, o, ho, hb⟩⟩⟩
    · obtain ⟨_, h2⟩ := argSlots_get ht
      obtain ⟨u, hu, hr⟩ := hug t x (by simpa using h2)
      refine ⟨u, ?_, hr⟩
      have : t < us.length := by
        rcases Nat.lt_or_ge t us.length with h' | h'
        · exact h'
        · rw [List.getElem?_eq_none h'] at hu; simp at hu
      rw [Array.getElem?_append_left (by simpa using this)]
      simpa using hu
    · exact keys_of_look (by change look n pre = some o at hn; rw [hn]; simp)
    · obtain ⟨o, ho⟩ := hsome n hn
      exact ⟨o, ho, by simp only [Γ, ho, Option.getD_some]; exact stays_refl _ _⟩
  refine calls_of_wp hf hb (wp_mono (h Γ rfl rfl ρ M _ w hsim) fun e a' w' ⟨s', ρ', M', ⟨he, v, h', h1, h2, h3, h4⟩, hs'⟩ => ?_)
  have hfin : ∃ u, (results fn a'.tmps).run P w' = .ok u w' ∧ ∃ u' v h ρ', Ending.returned u = .returned u' ∧ post v h ∧ After ρ M w pre u' v h ρ' w' := by
    obtain ⟨u, hu, hr⟩ := run_results hs' h1
    refine ⟨u, hu, u, v, h', ρ', rfl, h4, ?_⟩
    have hM' : ∀ b, newM M ρ' h' b → M' b := by
      intro b hb
      rcases hb with hb | ⟨n, o, g1, g2⟩
      · exact hs'.mext b hb
      · exact ((hs'.objs n o (h2 n o g1)).blk_lt hs'.msize g2).2
    have hstep : HStep ρ' s'.heap ρ' (lookH h') := by
      intro n o hn
      cases hc : lookH h' n with
      | none => cases o <;> simp [stays]
      | some o' => have := h2 n o' hc; rw [hn] at this; cases this; exact stays_refl _ _
    have hnone : ∀ n, s'.heap n = none → lookH h' n = none := fun n hn => by
      cases hc : lookH h' n with
      | none => rfl
      | some o' => have := h2 n o' hc; rw [hn] at this; simp at this
    refine ⟨hr.step (Ext.refl (fun _ => False) _) (fun _ hb => hb.elim) (fun b _ hb => hM' b hb) hstep (fun n _ => hnone n), fun n o hn => ?_, fun n m o o' b g1 g2 => hs'.inj n m o o' b (h2 _ _ g1) (h2 _ _ g2), fun n o b g1 g2 => ?_, ?_, fun n o hn => ?_⟩
    · -- objects
      have hobj := hs'.objs n o (h2 n o hn)
      cases o with
      | box cells =>
        obtain ⟨b, T, cs, k1, k2, k3, k4⟩ := hobj
        exact ⟨b, T, cs, k1, .inr ⟨n, _, hn, by rw [k1]; simp [Loc.blk]⟩, k3, k4.step (Ext.refl (fun _ => False) _) (fun _ hb => hb.elim) (fun b _ hb => hM' b hb) hstep (fun m _ => hnone m)⟩
      | arr es rows =>
        obtain ⟨k0, k1, k2⟩ := hobj
        refine ⟨k0, k1, ?_⟩
        by_cases hc : (ρ' n).cap = 0
        · exact .inl hc
        · rcases k2 with k2 | ⟨b, T, cs, k3, k4, k5, k6, k7⟩
          · exact .inl k2
          · refine .inr ⟨b, T, cs, k3, .inr ⟨n, _, hn, by simp [Loc.blk, hc, k3]⟩, k5, k6, ?_⟩
            refine PV.Rows.of_get fun i r hi => ?_
            obtain ⟨g1, g2⟩ := k7.get i r hi
            refine ⟨g1, PV.Cells.of_get fun j c hj => ?_⟩
            obtain ⟨u, hu, hr⟩ := g2.get j c hj
            exact ⟨u, hu, hr.mono (Ext.refl (fun _ => False) _) (fun _ hb => hb.elim) (fun b _ hb => hM' b hb)⟩
      | hole es pre row post =>
        obtain ⟨k0, k0', k1, b, T, cs, k3, k4, k5, k6, k7, k8, k9⟩ := hobj
        exact ⟨k0, k0', k1, b, T, cs, k3, .inr ⟨n, _, hn, by unfold Loc.blk; rw [if_neg (by omega), k3]; rfl⟩, k5, k6, k7.stepB (Ext.refl (fun _ => False) _) (fun _ hb => hb.elim) (fun b _ hb => hM' b hb) rfl,
          k8.step (Ext.refl (fun _ => False) _) (fun _ hb => hb.elim) (fun b _ hb => hM' b hb) hstep (fun m _ => hnone m), k9.stepB (Ext.refl (fun _ => False) _) (fun _ hb => hb.elim) (fun b _ hb => hM' b hb) rfl⟩
      | fact a x => exact ⟨hobj.1, hobj.2.step (Ext.refl (fun _ => False) _) (fun _ hb => hb.elim) (fun b _ hb => hM' b hb) hstep (fun m _ => hnone m)⟩
      | obj x =>
        obtain ⟨b, k1, k2, k3⟩ := hobj
        exact ⟨b, k1, .inr ⟨n, _, hn, by rw [k1]; simp [Loc.blk]⟩, k3⟩
    · rcases hs'.own0 n o b (h2 n o g1) g2 with ⟨k1, k2⟩ | k1
      · obtain ⟨o', ho'⟩ := hsome n k1
        exact .inl ⟨o', ho', k2⟩
      · exact .inr k1
    · exact hs'.ext.weaken (fun b _ ⟨n, k1, k2⟩ => by obtain ⟨o', ho'⟩ := hsome n k1; exact ⟨n, o', ho', k2⟩)
    · obtain ⟨o1, k1, k2⟩ := hs'.keep n (keys_of_look (by rw [hn]; simp))
      cases hc : look n h' with
      | none => exact absurd hc (h3 n (keys_of_look (by rw [hn]; simp)))
      | some o2 =>
        have := h2 n o2 hc
        rw [k1] at this; cases this
        refine ⟨o1, rfl, ?_⟩
        simpa [Γ, hn] using k2
  rcases he with rfl | rfl
  · exact ⟨hs'.d, hfin⟩
  · exact ⟨hs'.d, hfin⟩

end Go.Proofs.YtbcginibldjnaaaGreat.AM
