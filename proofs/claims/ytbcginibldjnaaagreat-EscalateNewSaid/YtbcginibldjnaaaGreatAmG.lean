/-
  The abstract machine, part G: operations that make or write memory. No project text.
-/
import Derived.Test.YtbcginibldjnaaaGreatAmF
set_option linter.unusedSimpArgs false
set_option linter.unusedVariables false
namespace Go.Proofs.YtbcginibldjnaaaGreat.AM
open Go

theorem Ext.alloc (w : World) (o : Obj) : Ext (fun _ => False) w (w.alloc o) :=
  ⟨by simp, fun b hb _ => by
    show (w.heap.push o)[b]? = w.heap[b]?
    rw [Array.getElem?_push, if_neg (Nat.ne_of_lt hb)], rfl, rfl⟩
theorem Ext.drew (w : World) : Ext (fun _ => False) w w.drew := ⟨Nat.le_refl _, fun _ _ _ => rfl, rfl, rfl⟩

theorem heap_alloc_new (w : World) (o : Obj) : (w.alloc o).heap[w.heap.size]? = some o := by
  show (w.heap.push o)[w.heap.size]? = some o
  simp

def cellsAV : AV → Option (List AV)
  | .agg cs => some cs
  | .tup _ => none
  | x => some [x]

section
variable {ρ : Name → Loc} {H : Heap} {M : Nat → Prop} {w : World}

theorem flat_cells {u : Value} (h : u.oneCell' = true) : u.cells = #[u] := by cases u <;> first | rfl | (simp [Value.oneCell'] at h)

theorem cellsAV_R {x : AV} {cs : List AV} {u : Value} (h : cellsAV x = some cs) (hr : x.R ρ H M w u) : AV.Rs ρ H M w cs u.cells.toList := by
  have single : ∀ y : AV, y.R ρ H M w u → u.oneCell' = true → AV.Rs ρ H M w [y] u.cells.toList := fun y hy h1 => by
    rw [flat_cells h1]; simp only [AV.Rs]; exact ⟨u, [], rfl, h1, hy, rfl⟩
  cases x with
  | agg cs' => simp only [cellsAV, Option.some.injEq] at h; subst h; simp only [AV.R] at hr; obtain ⟨us, rfl, h2⟩ := hr; exact h2
  | tup vs => simp [cellsAV] at h
  | p y => simp only [cellsAV, Option.some.injEq] at h; subst h; exact single _ hr (by simp only [AV.R] at hr; exact hr.flat)
  | ref n k => simp only [cellsAV, Option.some.injEq] at h; subst h; exact single _ hr (by simp only [AV.R] at hr; exact hr.1)
  | own n k => simp only [cellsAV, Option.some.injEq] at h; subst h; exact single _ hr (by simp only [AV.R] at hr; exact hr.1)
  | aref n a b c => simp only [cellsAV, Option.some.injEq] at h; subst h; exact single _ hr (by simp only [AV.R] at hr; exact hr.1)
  | view n a b c => simp only [cellsAV, Option.some.injEq] at h; subst h; exact single _ hr (by simp only [AV.R] at hr; exact hr.1)
  | eptr cells => simp only [cellsAV, Option.some.injEq] at h; subst h; exact single _ hr (by simp only [AV.R] at hr; obtain ⟨ad, rfl, _⟩ := hr; rfl)
  | clo f a b => simp only [cellsAV, Option.some.injEq] at h; subst h; exact single _ hr (by simp only [AV.R] at hr; obtain ⟨a, c, rfl, _⟩ := hr; rfl)
  | oref b n => simp only [cellsAV, Option.some.injEq] at h; subst h; exact single _ hr (by simp only [AV.R] at hr; exact hr.1)
  | err b => simp only [cellsAV, Option.some.injEq] at h; subst h; exact single _ hr (by simp only [AV.R] at hr; exact hr.1)
  | ub => simp only [cellsAV, Option.some.injEq] at h; subst h; exact single _ hr (by simp only [AV.R] at hr; obtain ⟨q, rfl⟩ := hr; rfl)
  | any => simp only [cellsAV, Option.some.injEq] at h; subst h; exact single _ hr (by simpa only [AV.R] using hr)

theorem hasL_cells {x : AV} {cs : List AV} {n : Name} (h : cellsAV x = some cs) (hn : x.has n = false) : AV.hasL n cs = false := by
  cases x <;> simp only [cellsAV, Option.some.injEq, reduceCtorEq] at h <;> subst h <;> simp_all [AV.has, AV.hasL]
end

theorem has_const {c : Value} {x : AV} (h : constAV c = some x) (n : Name) : x.has n = false := by
  have hc : ∀ c : Value, (constCell c).has n = false := fun c => by unfold constCell; split <;> rfl
  have hcs : ∀ l : List Value, AV.hasL n (l.map constCell) = false := fun l => by
    induction l with
    | nil => rfl
    | cons y l ih => simp [AV.hasL, hc, ih]
  unfold constAV at h
  split at h
  · split at h
    · cases h; simp only [AV.has]; exact hcs _
    · simp at h
  · split at h
    · cases h; exact hc _
    · simp at h

theorem evalO_free {s : AS} {e : Eff} (hh : s.holds e) {x : Operand} {y : AV} (h : evalO e.rd x = some y) {n : Name} (hn : s.free n) : y.has n = false := by
  cases x with
  | tmp t => exact hn.1 t y (hh.rd t y (look_mem h))
  | const c => exact has_const h n
  | global g => simp only [evalO, Option.some.injEq] at h; subst h; rfl
  | func f => simp only [evalO, Option.some.injEq] at h; subst h; rfl

/-- A new box. -/
theorem Sim.mkBox {Γ : Ctx} {ρ : Name → Loc} {M : Nat → Prop} {s : AS} {a : Act} {w : World} (h : Sim Γ ρ M s a w) {n : Name} (hn : s.heap n = none) (hf : s.free n) {cells : List AV} {us : List Value}
    (hr : AV.Rs ρ s.heap M w cells us) (hc : AV.hasL n cells = false) (T : TypeId) :
    Sim Γ (fun m => if m = n then ⟨some ⟨w.heap.size, 0, none⟩, 1⟩ else ρ m) (fun b => M b ∨ b = w.heap.size) ⟨s.slot, fun m => if m = n then some (.box cells) else s.heap m⟩ a (w.alloc (.cells us.toArray T)) := by
  have he := Ext.alloc w (.cells us.toArray T)
  refine h.update1 (he.weaken fun _ _ hb => hb.elim) (fun b hb => .inl hb) (fun b hb => hb.imp id (fun e => by omega)) (fun b hb => ?_) (fun o' ho' => by rw [hn] at ho'; simp at ho') (fun _ => hf) ?_ (fun b hb => .inr ?_)
  · rcases hb with hb | hb
    · have := h.msize b hb; simp; omega
    · simp [hb]
  · refine ⟨w.heap.size, T, us.toArray, by simp, .inr rfl, heap_alloc_new w _, ?_⟩
    refine AV.Rs.step (B := fun _ => False) he (fun _ hb => hb.elim) (fun b hb hb' => hb'.resolve_right (by omega)) (fun m o hm => ?_) (fun m hm hmn => ?_) (by simpa using hr)
    · by_cases e : m = n
      · subst e; rw [hn] at hm; simp at hm
      · simp only [e, if_false, hm]; exact stays_refl _ _
    · by_cases e : m = n
      · subst e; rw [hc] at hm; simp at hm
      · simp [e, hmn]
  · simp [Loc.blk] at hb; omega

section
variable {P : Program} {o : Oper} {rd : List (Nat × AV)}

def zeroAV (P : Program) (T : TypeId) : Option (List AV) := match P.info? T with
  | some i => match i.zero with
    | some z => if z.cells.toList.all (fun c => c.oneCell') then some (z.cells.toList.map constCell) else none
    | none => none
  | none => none
theorem zeroAV_spec {T : TypeId} {cs : List AV} (h : zeroAV P T = some cs) : ∃ i z, P.info? T = some i ∧ i.zero = some z ∧ (∀ c ∈ z.cells.toList, c.oneCell' = true) ∧ cs = z.cells.toList.map constCell := by
  unfold zeroAV at h
  split at h
  · rename_i i hi
    split at h
    · rename_i z hz
      split at h
      · rename_i hall; cases h; exact ⟨i, z, hi, hz, List.all_eq_true.1 hall, rfl⟩
      · simp at h
    · simp at h
  · simp at h
theorem run_zeroValue {T : TypeId} {i : TypeInfo} {z : Value} (hi : P.info? T = some i) (hz : i.zero = some z) (w : World) : (zeroValue T).run P w = .ok z w := by
  simp [zeroValue, typeInfo, hi, hz]

theorem hasL_consts (n : Name) (l : List Value) : AV.hasL n (l.map constCell) = false := by
  have hc : ∀ c : Value, (constCell c).has n = false := fun c => by unfold constCell; split <;> rfl
  induction l with
  | nil => rfl
  | cons y l ih => simp [AV.hasL, hc, ih]

theorem OpOK.mk {hp : List (Name × AO)} {v : AV} {n : Name} {ob : AO}
    (h : ∀ (Γ : Ctx) (ρ : Name → Loc) (M : Nat → Prop) (s : AS) (a : Act) (w : World), Sim Γ ρ M s a w → s.holds ⟨rd, hp, v, [(n, ob)], [n]⟩ → ∃ u w' ρ' M', (execOp a.eval o).run P w = .ok (.value u) w' ∧
      Sim Γ ρ' M' ⟨s.slot, fun m => if m = n then some ob else s.heap m⟩ a w' ∧ v.R ρ' (fun m => if m = n then some ob else s.heap m) M' w' u) : OpOK P o ⟨rd, hp, v, [(n, ob)], [n]⟩ := by
  intro Γ ρ M s a w K Q hs hh hd hK
  obtain ⟨u, w', ρ', M', h1, h2, h3⟩ := h Γ ρ M s a w hs hh
  unfold Oper.wp
  rw [h1, Oper.upon_value]
  refine hK ρ' M' _ w' ((h2.put hd (fun _ => h3)).congr (fun t => rfl) (fun m => ?_))
  simp only [AS.run, AS.set, look]
  by_cases e : n = m
  · subst e; simp
  · simp [e, Ne.symm e]

theorem OpOK.alloc {T : TypeId} {n : Name} {cs : List AV} (ho : o.op = .alloc T) (hz : zeroAV P T = some cs) : OpOK P o ⟨rd, [], .ref n 0, [(n, .box cs)], [n]⟩ :=
  OpOK.mk fun Γ ρ M s a w hs hh => by
    obtain ⟨i, z, hi, hz', hall, rfl⟩ := zeroAV_spec hz
    obtain ⟨hn, hf⟩ := hh.nw n (by simp)
    refine ⟨.pointer (some ⟨w.heap.size, 0, none⟩), w.alloc (.cells z.cells T), _, _, ?_, hs.mkBox hn hf (constCells_R hall) (hasL_consts n _) T, ?_⟩
    · simp [execOp, ho, Instr.alloc, run_zeroValue hi hz', newVar, newRow]
    · simp only [AV.R]; exact ⟨rfl, fun _ _ => ⟨w.heap.size, by simp, rfl⟩⟩
theorem OpOK.box {T : TypeId} {x : Operand} {n : Name} {v : AV} {cs : List AV} (ho : o.op = .box T x) (hx : evalO rd x = some v) (hc : cellsAV v = some cs) : OpOK P o ⟨rd, [], .ref n 0, [(n, .box cs)], [n]⟩ :=
  OpOK.mk fun Γ ρ M s a w hs hh => by
    obtain ⟨hn, hf⟩ := hh.nw n (by simp)
    have hr := cellsAV_R hc (evalO_R hs hh hx)
    refine ⟨.pointer (some ⟨w.heap.size, 0, none⟩), w.alloc (.cells (a.eval x).cells T), _, _, ?_, hs.mkBox hn hf hr (hasL_cells hc (evalO_free hh hx hf)) T, ?_⟩
    · simp [execOp, ho, Instr.box, newVar, newRow]
    · simp only [AV.R]; exact ⟨rfl, fun _ _ => ⟨w.heap.size, by simp, rfl⟩⟩

/-! ### Stores -/
/-- An operation that writes one object and yields nothing. -/
theorem OpOK.wr {hp : List (Name × AO)} {n : Name} {ob : AO} (hdst : o.dst = none)
    (h : ∀ (Γ : Ctx) (ρ : Name → Loc) (M : Nat → Prop) (s : AS) (a : Act) (w : World), Sim Γ ρ M s a w → s.holds ⟨rd, hp, .any, [(n, ob)], []⟩ → ∃ w' ρ' M', (execOp a.eval o).run P w = .ok .skip w' ∧
      Sim Γ ρ' M' ⟨s.slot, fun m => if m = n then some ob else s.heap m⟩ a w') : OpOK P o ⟨rd, hp, .any, [(n, ob)], []⟩ := by
  intro Γ ρ M s a w K Q hs hh hd hK
  obtain ⟨w', ρ', M', h1, h2⟩ := h Γ ρ M s a w hs hh
  unfold Oper.wp
  rw [h1, Oper.upon_skip]
  refine hK ρ' M' _ w' ((h2.put (dst := o.dst) (x := .any) (u := undef) hd (fun hne => absurd hdst hne)).congr (fun t => rfl) (fun m => ?_))
  simp only [AS.run, AS.set, look]
  by_cases e : n = m
  · subst e; simp
  · simp [e, Ne.symm e]

def setAt {α : Type} (cs : List α) (k : Nat) (vs : List α) : List α := cs.take k ++ vs ++ cs.drop (k + vs.length)

theorem Rs_one {ρ : Name → Loc} {H : Heap} {M : Nat → Prop} {w : World} : ∀ {xs : List AV} {us : List Value}, AV.Rs ρ H M w xs us → ∀ u ∈ us, u.oneCell' = true
  | [], us, h, u, hu => by simp only [AV.Rs] at h; subst h; simp at hu
  | x :: xs, us, h, u, hu => by
    simp only [AV.Rs] at h
    obtain ⟨v, us', rfl, h2, h3, h4⟩ := h
    rcases List.mem_cons.1 hu with rfl | hu
    · exact h2
    · exact Rs_one h4 u hu

theorem run_storeVar {T : TypeId} {b k : Nat} {t : TypeId} {cur : Array Value} {u : Value} {w : World} (hz : sizeT P T = some u.cells.size) (hb : w.heap[b]? = some (.cells cur t (0, 0))) (hl : k + u.cells.size ≤ cur.size) (h1 : ∀ v ∈ u.cells.toList, v.oneCell' = true) :
    (storeVar T ⟨b, k, none⟩ u).run P w = .ok () (w.setRow b (setAt cur.toList k u.cells.toList).toArray) := by
  have := run_storeCells_at (P := P) b k t u.cells.toList 0 cur w hb (by simpa using hl) h1
  simp only [Nat.add_zero] at this
  unfold storeVar
  simp only [Sem.run_bind, run_sizeOf hz, Result.andThen_ok, ne_eq, not_true_eq_false, if_false, setAt]
  simpa using this

theorem OpOK.storeBox {T : TypeId} {x y : Operand} {n : Name} {k : Nat} {cells vs cells' : List AV} {v : AV} (hdst : o.dst = none) (ho : o.op = .store T x y) (hx : evalO rd x = some (.ref n k)) (hy : evalO rd y = some v) (hv : cellsAV v = some vs)
    (hz : sizeT P T = some vs.length) (hl : Nat.ble (k + vs.length) cells.length = true) (hc : setAt cells k vs = cells') : OpOK P o ⟨rd, [(n, .box cells)], .any, [(n, .box cells')], []⟩ :=
  OpOK.wr hdst fun Γ ρ M s a w hs hh => by
    have hr := evalO_R hs hh hx
    simp only [AV.R] at hr
    have hn := hh.hp n _ (by simp : (n, AO.box cells) ∈ _)
    obtain ⟨b, hb, hu⟩ := hr.2 cells hn
    have hobj := hs.objs n _ hn
    obtain ⟨b', t, cs, g1, g2, g3, g4⟩ := hobj
    have e : b' = b := by rw [g1] at hb; simpa using hb
    subst e
    have hvs := cellsAV_R hv (evalO_R hs hh hy)
    have hlen := hvs.length
    have hlen2 := g4.length
    have hl' := Nat.le_of_ble_eq_true hl
    simp only [Array.length_toList] at hlen hlen2
    have hrun := run_storeVar (P := P) (T := T) (b := b') (k := k) (u := a.eval y) (w := w) (by rw [hz, hlen]) g3 (by omega) (Rs_one hvs)
    refine ⟨w.setRow b' (setAt cs.toList k (a.eval y).cells.toList).toArray, (fun m => if m = n then ρ n else ρ m), M, ?_, ?_⟩
    · simp [execOp, ho, hu, Instr.storeAt, Instr.sureAddr, hrun]
    · have hblk : (ρ n).blk = some b' := by rw [g1]; simp [Loc.blk]
      have he : Ext (fun b => b = b') w (w.setRow b' (setAt cs.toList k (a.eval y).cells.toList).toArray) := ⟨by simp [World.setRow], fun b hb hne => setRow_other w b' b _ hne, rfl, rfl⟩
      have hM : M b' := g2
      refine hs.update1 (he.weaken fun b _ hb => ⟨by rw [hblk, hb], by rw [hn]; simp⟩) (fun _ hb => hb) (fun _ hb => .inl hb) (fun b hb => Nat.lt_of_lt_of_le (hs.msize b hb) he.size)
        (fun o' ho' => by rw [hn] at ho'; cases ho'; simp [stays]) (fun h0 => by rw [hn] at h0; simp at h0) ?_ (fun b hb => .inl ⟨_, hn, hb⟩)
      refine ⟨b', t, _, by simp [g1], hM, setRow_heap w b' cs _ t (0, 0) g3, ?_⟩
      rw [← hc]
      have hst : HStep ρ s.heap (fun m => if m = n then ρ n else ρ m) (fun m => if m = n then some (.box (setAt cells k vs)) else s.heap m) := fun m o' hm => by
        by_cases e : m = n
        · subst e; rw [hn] at hm; cases hm; simp [stays]
        · simp only [e, if_false, hm]; exact stays_refl _ _
      have hnn : ∀ m, s.heap m = none → (if m = n then some (AO.box (setAt cells k vs)) else s.heap m) = none := fun m hm => by
        by_cases e : m = n
        · subst e; rw [hn] at hm; simp at hm
        · simp [e, hm]
      have r1 := (g4.take k).step he (fun b hb => by rw [hb]; exact hM) (fun b _ hb => hb) hst (fun m _ => hnn m)
      have r2 := hvs.step he (fun b hb => by rw [hb]; exact hM) (fun b _ hb => hb) hst (fun m _ => hnn m)
      have r3 := (g4.drop (k + vs.length)).step he (fun b hb => by rw [hb]; exact hM) (fun b _ hb => hb) hst (fun m _ => hnn m)
      have := (r1.append r2).append r3
      have hL : (a.eval y).cells.toList.length = vs.length := by simpa using hlen
      simp only [setAt, hL] at this ⊢
      exact this

/-! ### Literals -/
/-- The pure cells among abstract ones. -/
def pureL : List AV → Option (List PV)
  | [] => some []
  | .p x :: r => match pureL r with
    | some xs => some (x :: xs)
    | none => none
  | _ :: _ => none
theorem pureL_spec : ∀ {l : List AV} {ps : List PV}, pureL l = some ps → l = pcells ps
  | [], ps, h => by simp only [pureL, Option.some.injEq] at h; subst h; rfl
  | x :: r, ps, h => by
    cases x with
    | p x =>
      simp only [pureL] at h
      split at h
      · rename_i xs hxs; cases h; rw [pureL_spec hxs]; rfl
      · simp at h
    | _ => simp [pureL] at h

/-- Parts put into rows. -/
def putRows (rd : List (Nat × AV)) (es : Nat) : List (Nat × Operand) → List (List PV) → Option (List (List PV))
  | [], rows => some rows
  | (i, x) :: r, rows => match evalO rd x with
    | some y => match cellsAV y with
      | some cs => match pureL cs with
        | some ps => if Nat.beq ps.length es && Nat.blt i rows.length then putRows rd es r (rows.set i ps) else none
        | none => none
      | none => none
    | none => none

theorem fold_set (off : Nat) : ∀ (vs : List Value) (k : Nat) (cs : Array Value), off + k + vs.length ≤ cs.size →
    ((vs.zipIdx k).foldl (fun (acc : Array Value) (p : Value × Nat) => acc.setIfInBounds (off + p.2) p.1) cs).toList = setAt cs.toList (off + k) vs
  | [], k, cs, _ => by simp [setAt]
  | v :: vs, k, cs, h => by
    simp only [List.zipIdx_cons, List.foldl_cons]
    rw [fold_set off vs (k + 1) _ (by simp at h ⊢; omega)]
    simp only [List.length_cons] at h
    have hlt : off + k < cs.size := by omega
    simp only [setAt, Array.toList_setIfInBounds, List.length_cons]
    apply List.ext_getElem?
    intro j
    simp only [List.getElem?_append, List.length_append, List.length_take, List.length_set, Array.length_toList, List.length_cons, List.getElem?_take, List.getElem?_set, List.getElem?_drop]
    have e1 : min (off + k) cs.size = off + k := by omega
    have e2 : min (off + (k + 1)) cs.size = off + k + 1 := by omega
    rw [e1, e2]
    rcases Nat.lt_trichotomy j (off + k) with h1 | h1 | h1
    · have : ¬ (off + k = j) := by omega
      simp [show j < off + k + 1 + vs.length by omega, show j < off + k + 1 by omega, show j < off + (k + 1) by omega, this, h1, show j < off + k + (vs.length + 1) by omega]
    · subst h1
      simp [hlt, show off + k < off + (k + 1) by omega, show off + k < off + k + 1 + vs.length by omega]
    · by_cases h2 : j < off + k + 1 + vs.length
      · have : ¬ j < off + k + 1 := by omega
        have h3 : ¬ j < off + k := by omega
        have e : j - (off + k) = (j - (off + k + 1)) + 1 := by omega
        simp [h2, this, h3, show j < off + k + (vs.length + 1) by omega, e]
      · have h3 : ¬ j < off + k + (vs.length + 1) := by omega
        have e : ¬ (off + k = off + (k + 1) + vs.length + (j - (off + k + 1 + vs.length))) := by omega
        simp [h2, h3, e]
        congr 1
        omega

theorem flat_len {es : Nat} : ∀ {rows : List (List Value)}, (∀ r ∈ rows, r.length = es) → rows.flatten.length = rows.length * es
  | [], _ => by simp
  | r :: rows, h => by
    have := flat_len (es := es) (rows := rows) (fun r hr => h r (by simp [hr]))
    simp only [List.flatten_cons, List.length_append, this, h r (by simp), List.length_cons, Nat.succ_mul]
    omega
theorem flat_take {es : Nat} : ∀ {rows : List (List Value)} (i : Nat), (∀ r ∈ rows, r.length = es) → rows.flatten.take (i * es) = (rows.take i).flatten
  | rows, 0, _ => by simp
  | [], i + 1, _ => by simp
  | r :: rows, i + 1, h => by
    have hr := h r (by simp)
    have := flat_take (es := es) (rows := rows) i (fun r hr => h r (by simp [hr]))
    simp only [List.flatten_cons, List.take_succ_cons, ← this]
    rw [List.take_append, hr, List.take_of_length_le (by rw [hr, Nat.succ_mul]; omega), Nat.succ_mul, Nat.add_sub_cancel]
theorem flat_drop {es : Nat} : ∀ {rows : List (List Value)} (i : Nat), (∀ r ∈ rows, r.length = es) → rows.flatten.drop (i * es) = (rows.drop i).flatten
  | rows, 0, _ => by simp
  | [], i + 1, _ => by simp
  | r :: rows, i + 1, h => by
    have hr := h r (by simp)
    have := flat_drop (es := es) (rows := rows) i (fun r hr => h r (by simp [hr]))
    simp only [List.flatten_cons, List.drop_succ_cons, ← this]
    rw [List.drop_append, hr, List.drop_of_length_le (by rw [hr, Nat.succ_mul]; omega), Nat.succ_mul, Nat.add_sub_cancel]
    simp
theorem flat_set {es : Nat} {rows : List (List Value)} {i : Nat} {r : List Value} (h : ∀ r ∈ rows, r.length = es) (hr : r.length = es) (hi : i < rows.length) : setAt rows.flatten (i * es) r = (rows.set i r).flatten := by
  unfold setAt
  rw [flat_take i h, hr, show i * es + es = (i + 1) * es by rw [Nat.succ_mul], flat_drop (i + 1) h, List.set_eq_take_append_cons_drop, if_pos hi]
  simp
theorem flat_get {es : Nat} {rows : List (List Value)} (h : ∀ r ∈ rows, r.length = es) {i : Nat} {r : List Value} (hi : rows[i]? = some r) {j : Nat} (hj : j < es) : rows.flatten[i * es + j]? = r[j]? := by
  have := flat_drop i h
  have h2 : rows.flatten[i * es + j]? = (rows.flatten.drop (i * es))[j]? := by simp
  have hlt : i < rows.length := by
    rcases Nat.lt_or_ge i rows.length with h' | h'
    · exact h'
    · rw [List.getElem?_eq_none h'] at hi; simp at hi
  have hmem : r ∈ rows := List.mem_of_getElem? hi
  rw [h2, this, List.drop_eq_getElem_cons hlt, List.flatten_cons, List.getElem?_append_left]
  · have : rows[i] = r := by rw [List.getElem?_eq_getElem hlt] at hi; simpa using hi
    rw [this]
  · have : rows[i] = r := by rw [List.getElem?_eq_getElem hlt] at hi; simpa using hi
    rw [this, h r hmem]; exact hj

end
end Go.Proofs.YtbcginibldjnaaaGreat.AM
