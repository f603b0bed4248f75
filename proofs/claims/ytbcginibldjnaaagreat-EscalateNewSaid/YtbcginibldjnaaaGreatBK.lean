/-
  The typed layer, part K: regions. No project text.
-/
import Derived.Test.YtbcginibldjnaaaGreatBJ
set_option linter.unusedVariables false
set_option linter.unusedSimpArgs false
namespace Go.Proofs.YtbcginibldjnaaaGreat.AM
open Go
variable {L L' : Lens} {ts ts' : TS} {hs hs' : HS}
section
variable {R : Type}
def rdB (ts : TS) : List Operand → TS
  | [] => []
  | .tmp t :: r => match look t ts with
    | some v => (t, v) :: rdB ts r
    | none => rdB ts r
  | .const _ :: r => rdB ts r
  | .global _ :: r => rdB ts r
  | .func _ :: r => rdB ts r
theorem rdB_look : ∀ {l : List Operand} {t : Nat} {v : BV}, (t, v) ∈ rdB ts l → look t ts = some v
  | [], t, v, h => by simp [rdB] at h
  | .tmp k :: r, t, v, h => by
    simp only [rdB] at h
    split at h
    · rename_i hk
      rcases List.mem_cons.1 h with h | h
      · cases h; exact hk
      · exact rdB_look h
    · exact rdB_look h
  | .const _ :: r, t, v, h => rdB_look (l := r) (by simpa only [rdB] using h)
  | .global _ :: r, t, v, h => rdB_look (l := r) (by simpa only [rdB] using h)
  | .func _ :: r, t, v, h => rdB_look (l := r) (by simpa only [rdB] using h)
/-- The function that a value is, and what it brings along. -/
def calleeB (rd : TS) (x : Operand) : Option (FuncId × List BV) := match evalB rd x with
  | some (.v (.func (.func f) ⟨[]⟩ ⟨[]⟩)) => some (f, [])
  | some (.clo (.func f) cs) => some (f, cs)
  | _ => none
/-- One operation. -/
def opK (P : Program) (ty : TypeId → Option TC) (E : Env) (sp : Bool) (nn : Nat) (x : TS) (o : Oper) (ts : TS) (hs : HS) (K : BEff → TS → HS → Option R) : Option R :=
  match o.op with
  | .call c => match c.callee with
    | .value (.func f) => match evalBs (x ++ rdB ts o.op.operands.toList) c.args.toList with
      | some vs => callK P E sp nn o.dst f vs ts hs K
      | none => none
    | .value (.tmp t) => match calleeB (x ++ rdB ts o.op.operands.toList) (.tmp t), evalBs (x ++ rdB ts o.op.operands.toList) c.args.toList with
      | some q, some vs => callK P E sp nn o.dst q.1 (vs ++ q.2) ts hs K
      | _, _ => none
    | _ => bop P ty (x ++ rdB ts o.op.operands.toList) hs (goE sp nn o.dst ts hs K) o
  | _ => bop P ty (x ++ rdB ts o.op.operands.toList) hs (goE sp nn o.dst ts hs K) o
variable {r : R} {P : Program} {ty : TypeId → Option TC} {E : Env} {nn : Nat}
theorem opK_some {sp : Bool} {x : TS} {o : Oper} {K : BEff → TS → HS → Option R} (hE : EnvOK P E) (hx : ∀ t v, (t, v) ∈ x → look t ts = some v) (h : opK P ty E sp nn x o ts hs K = some r) (hi : Inv L hs) :
    ∃ e L', Step P o (x ++ rdB ts o.op.operands.toList) L ts hs e L' ∧ dstOK nn o.dst = true ∧ K e (putB o.dst e.v ts) (e.upd ++ hs) = some r := by
  have hrd : ∀ t v, (t, v) ∈ x ++ rdB ts o.op.operands.toList → look t ts = some v := fun t v hm => by
    rcases List.mem_append.1 hm with hm | hm
    · exact hx t v hm
    · exact rdB_look hm
  have hb : bop P ty (x ++ rdB ts o.op.operands.toList) hs (goE sp nn o.dst ts hs K) o = some r → ∃ e L', Step P o (x ++ rdB ts o.op.operands.toList) L ts hs e L' ∧ dstOK nn o.dst = true ∧ K e (putB o.dst e.v ts) (e.upd ++ hs) = some r := fun h => by
    obtain ⟨e, h, hg⟩ := bop_ok h
    obtain ⟨L', h1, h2, h3⟩ := goE_some (rd := x ++ rdB ts o.op.operands.toList) hg hrd h hi
    exact ⟨e, L', h1, h2, h3⟩
  unfold opK at h
  split at h
  · rename_i c ho
    split at h
    · rename_i f hf
      obtain ⟨callee, args, ats⟩ := c
      simp only at hf; subst hf
      split at h
      · rename_i vs hvs
        exact callK_some (rd := x ++ rdB ts o.op.operands.toList) hE (fun hcall L pre h v nw hs hc => OpOK.call ho hcall (evalBs_er L hvs) hs hc) hrd h hi
      · simp at h
    · rename_i t hf
      obtain ⟨callee, args, ats⟩ := c
      simp only at hf; subst hf
      split at h
      · rename_i q vs hq hvs
        unfold calleeB at hq
        split at hq
        · rename_i f hx
          cases hq
          rw [List.append_nil] at h
          exact callK_some (rd := x ++ rdB ts o.op.operands.toList) hE (fun hcall L pre h v nw hs hc => OpOK.callFv ho (by have := evalB_er L hx; simpa only [BV.er] using this) hcall (evalBs_er L hvs) hs hc) hrd h hi
        · rename_i f cs hx
          cases hq
          exact callK_some (rd := x ++ rdB ts o.op.operands.toList) hE (fun hcall L pre h v nw hs hc => OpOK.callClo ho (by have := evalB_er L hx; simpa only [BV.er] using this) hcall (evalBs_er L hvs) (by rw [erL_append] at hs; exact hs) hc) hrd h hi
        · simp at hq
      · simp at h
    · exact hb h
  · exact hb h

/-! ### What must be frozen ahead of an operation -/
mutual
def ownsV : BV → List Name
  | .own m _ => [m]
  | .view m _ _ _ => [m]
  | .agg cs => ownsL cs
  | _ => []
def ownsL : List BV → List Name
  | [] => []
  | x :: r => ownsV x ++ ownsL r
end
def ownsO (ts : TS) (x : Operand) : List Name := match evalB ts x with
  | some v => ownsV v
  | none => []
def viewsO (ts : TS) (x : Operand) : List Name := match evalB ts x with
  | some (.view m _ _ _) => [m]
  | _ => []
def needSh : List Sh → List BV → List Name
  | .lst _ :: r, v :: vs => ownsV v ++ needSh r vs
  | _ :: r, _ :: vs => needSh r vs
  | _, _ => []
def needOb (pre : List (Name × OSh)) (hs : HS) (nm m : Name) : List Name := match look nm pre, look m hs with
  | some (.boxst _), some (.box cs) => ownsL cs
  | some (.box l), some (.box cs) => needSh l cs
  | _, _ => []
def needCaps (pre : List (Name × OSh)) (hs : HS) : List Name → List BV → List Name
  | nm :: q, .ref m _ :: vs => needOb pre hs nm m ++ needCaps pre hs q vs
  | _, _ => []
def needArgs (pre : List (Name × OSh)) (hs : HS) : List SSh → List BV → List Name
  | .one (.lst _) :: r, v :: vs => ownsV v ++ needArgs pre hs r vs
  | .one (.ref nm) :: r, .ref m _ :: vs => needOb pre hs nm m ++ needArgs pre hs r vs
  | .one (.clo _ ns) :: r, .clo _ cs :: vs => needCaps pre hs ns cs ++ needArgs pre hs r vs
  | .st _ :: r, v :: vs => ownsV v ++ needArgs pre hs r vs
  | .agg l :: r, .agg cs :: vs => needSh l cs ++ needArgs pre hs r vs
  | _ :: r, _ :: vs => needArgs pre hs r vs
  | _, _ => []
def needs (E : Env) (ts : TS) (hs : HS) (o : Oper) : List Name := match o.op with
  | .buildSlice _ _ parts => parts.toList.flatMap fun p => ownsO ts p.2
  | .store _ x y => match evalB ts x with
    | some (.aref _ _ _ _) => ownsO ts y
    | _ => []
  | .call c => match c.callee, c.args.toList with
    | .builtin .append, [x, y] => viewsO ts x ++ ownsO ts y
    | .value (.func f), args => match evalBs ts args with
      | some vs => match E o.dst f vs with
        | some g => needArgs g.pre hs g.args vs
        | none => []
      | none => []
    | .value (.tmp t), args => match calleeB ts (.tmp t), evalBs ts args with
      | some q, some vs => match E o.dst q.1 (vs ++ q.2) with
        | some g => needArgs g.pre hs g.args (vs ++ q.2)
        | none => []
      | _, _ => []
    | _, _ => []
  | _ => []
def frzK (gn : List Name) : List Name → TS → HS → (TS → HS → Option R) → Option R
  | [], ts, hs, K => K ts hs
  | n :: r, ts, hs, K => match look n hs with
    | some (.arr t l v) => if !isIn n gn && fzB n ts hs then frzK gn r (fzT n v t l ts) (fzH n v t l hs) K else none
    | _ => frzK gn r ts hs K
theorem frzK_some {gn : List Name} {Γ : Ctx} (hgn : Γ.names = gn) : ∀ {ns : List Name} {ts : TS} {hs : HS} {K : TS → HS → Option R}, frzK gn ns ts hs K = some r → Inv L hs →
    ∃ ts' hs', K ts' hs' = some r ∧ Inv L hs' ∧ ∀ ρ M a w, Sim Γ ρ M (BS L ts hs) a w → ∃ ρ' M', Sim Γ ρ' M' (BS L ts' hs') a w
  | [], ts, hs, K, h, hi => ⟨ts, hs, h, hi, fun ρ M a w hs0 => ⟨ρ, M, hs0⟩⟩
  | n :: ns, ts, hs, K, h, hi => by
    simp only [frzK] at h
    split at h
    · rename_i t l v hl
      split at h
      · rename_i hb
        simp only [Bool.and_eq_true, Bool.not_eq_true'] at hb
        have hn : n ∉ Γ.names := fun hm => by
          rw [hgn] at hm
          have := isIn_iff.2 hm
          rw [this] at hb; simp at hb
        have hi' : Inv L (fzH n v t l hs) := by
          intro k t' l' u hk
          rw [look_fzH] at hk
          split at hk
          · simp at hk
          · cases hx : look k hs with
            | none => rw [hx] at hk; simp at hk
            | some x =>
              rw [hx] at hk
              simp only [Option.map_some, Option.some.injEq] at hk
              cases x with
              | box cs => simp [BO.frz] at hk
              | arr t2 l2 => simp only [BO.frz] at hk; cases hk; exact hi k _ _ _ hx
              | sm es => simp [BO.frz] at hk
        obtain ⟨ts', hs', h1, h2, h3⟩ := frzK_some hgn h hi'
        refine ⟨ts', hs', h1, h2, fun ρ M a w hs0 => ?_⟩
        obtain ⟨⟨ρ1, M1, hs1⟩, _⟩ := hs0.frz hi hn hl hb.2
        exact h3 ρ1 M1 a w hs1
      · simp at h
    · exact frzK_some hgn h hi

/-! ### Regions in the text's order -/
section
variable (P : Program) (ty : TypeId → Option TC) (E : Env) (gn : List Name) (nn : Nat) (ops : Array Oper)
def exK (sp : Bool) (x : TS) (o : Oper) (ts : TS) (hs : HS) (K : TS → HS → Option R) : Option R :=
  frzK gn (needs E ts hs o) ts hs fun ts hs => opK P ty E sp nn x o (x ++ ts) hs fun _ ts hs => K ts hs
def guarded (ops : Array Oper) : Bool := ops.toList.any fun o => o.guard.isSome
def regK (sp : Bool) (K : TS → HS → Option R) : Nat → Nat → TS → HS → Option R
  | 0, i, ts, hs => if Nat.beq ops.size i then K ts hs else none
  | f + 1, i, ts, hs => match ops[i]? with
    | none => none
    | some o => match o.guard with
      | none => exK P ty E gn nn sp [] o ts hs fun ts hs => regK sp K f (i + 1) ts hs
      | some (j, b) => match (ops[j]?).bind (·.dst) with
        | none => none
        | some g => match look g ts with
          | some (.b q) => cnd q
              (match b with
                | true => exK P ty E gn nn sp [(g, .b true)] o ts hs fun ts hs => regK sp K f (i + 1) ts hs
                | false => if dstOK nn o.dst then regK sp K f (i + 1) (putB o.dst (.tup []) ts) hs else none)
              (match b with
                | true => if dstOK nn o.dst then regK sp K f (i + 1) (putB o.dst (.tup []) ts) hs else none
                | false => exK P ty E gn nn sp [(g, .b false)] o ts hs fun ts hs => regK sp K f (i + 1) ts hs)
          | some (.tup []) => if dstOK nn o.dst then regK sp K f (i + 1) (putB o.dst (.tup []) ts) hs else none
          | _ => none
end
theorem wpOp_of {ops : Array Oper} {i : Nat} {o : Oper} {a : Act} {w : World} {K : Act → World → Prop} {Q : Exit → Act → World → Prop} (hi : ops[i]? = some o) (hw : Region.wanted o (yielded ops a.tmps) = true) (h : o.wp P a w K Q) : wpOp P ops Q i K a w := by
  unfold wpOp
  simp only [hi, hw, if_true]
  exact .inl h
theorem exK_ok {sp : Bool} {gn : List Name} {ops : Array Oper} {i : Nat} {x : TS} {o : Oper} {K : TS → HS → Option R} {Γ : Ctx} {KK : Act → World → Prop} {Q : Exit → Act → World → Prop} (hE : EnvOK P E) (hgn : Γ.names = gn) (hn : Γ.n = nn)
    (h : exK P ty E gn nn sp x o ts hs K = some r) (hx : ∀ t v, (t, v) ∈ x → look t ts = some v) (hx1 : ∀ t v, (t, v) ∈ x → ∃ q, v = .b q) (hxl : x.length ≤ 1) (hi : Inv L hs) (hop : ops[i]? = some o)
    (hw : ∀ ρ M a w, Sim Γ ρ M (BS L ts hs) a w → Region.wanted o (yielded ops a.tmps) = true)
    (hK : ∀ ts' hs' L' ρ' M' a' w', K ts' hs' = some r → Inv L' hs' → Sim Γ ρ' M' (BS L' ts' hs') a' w' → KK a' w') :
    ∀ ρ M a w, Sim Γ ρ M (BS L ts hs) a w → wpOp P ops Q i KK a w := by
  intro ρ M a w hs0
  have hw0 := hw ρ M a w hs0
  obtain ⟨ts1, hs1, h, hi1, hfz⟩ := frzK_some hgn h hi
  obtain ⟨ρ1, M1, hs1'⟩ := hfz ρ M a w hs0
  -- the guard's slot lies there still
  have hxx : Sim Γ ρ1 M1 (BS L (x ++ ts1) hs1) a w := by
    refine ⟨hs1'.n, hs1'.d, fun t y hy => ?_, hs1'.objs, hs1'.inj, hs1'.own0, hs1'.keep, hs1'.ext, hs1'.mext, hs1'.msize, hs1'.m0, hs1'.ground⟩
    obtain ⟨v, hv, rfl⟩ := slot_of hy
    rw [look_append] at hv
    cases hl : look t x with
    | none => rw [hl] at hv; simp only at hv; exact hs1'.slots t _ (by rw [BS_slot, hv]; rfl)
    | some v' =>
      rw [hl] at hv; cases hv
      have hm := look_mem hl
      obtain ⟨q, rfl⟩ := hx1 t v hm
      obtain ⟨u, hu, hr⟩ := hs0.slots t ((BV.b q).er L) (by rw [BS_slot, hx t _ hm]; rfl)
      refine ⟨u, hu, ?_⟩
      simp only [BV.er, AV.R, PV.R] at hr ⊢
      exact hr
  obtain ⟨e, L', hst, hd, hK'⟩ := opK_some hE (fun t v hm => by
    rw [look_append]
    match x, hxl, hm with
    | [(t0, v0)], _, hm =>
      simp only [List.mem_singleton, Prod.mk.injEq] at hm
      obtain ⟨rfl, rfl⟩ := hm
      simp only [look, if_true]) h hi1
  exact wpOp_of hop hw0 (hst.go hd hn hxx fun ρ' M' a' w' hs' => hK _ _ L' ρ' M' a' w' hK' hst.inv hs')
theorem yield_b {ops : Array Oper} {Γ : Ctx} {ρ : Name → Loc} {M : Nat → Prop} {a : Act} {w : World} {j g : Nat} {q : Bool} (hj : (ops[j]?).bind (·.dst) = some g) (hl : look g ts = some (.b q)) (hs0 : Sim Γ ρ M (BS L ts hs) a w) : yielded ops a.tmps j = some q := by
  obtain ⟨oj, h1, h2⟩ := bind_some hj
  exact yielded_of hs0 h1 h2 (by rw [BS_slot, hl]; simp only [Option.map_some, BV.er])
theorem skip_ok {ops : Array Oper} {i j g : Nat} {o : Oper} {b : Bool} {v : BV} {Γ : Ctx} {KK : Act → World → Prop} {Q : Exit → Act → World → Prop} (hop : ops[i]? = some o) (hg : o.guard = some (j, b)) (hj : (ops[j]?).bind (·.dst) = some g)
    (hl : look g ts = some v) (hv : v = .b (!b) ∨ v = .tup []) (hd : dstOK nn o.dst = true) (hn : Γ.n = nn)
    (hK : ∀ ρ' M' a' w', Sim Γ ρ' M' (BS L (putB o.dst (.tup []) ts) hs) a' w' → KK a' w') : ∀ ρ M a w, Sim Γ ρ M (BS L ts hs) a w → wpOp P ops Q i KK a w := by
  intro ρ M a w hs0
  obtain ⟨oj, h1, h2⟩ := bind_some hj
  have hd' : ∀ d, o.dst = some d → d < Γ.n := fun d hd' => by rw [hd'] at hd; simp only [dstOK] at hd; rw [hn]; exact Nat.le_of_ble_eq_true hd
  have hrun : ∀ x : AV, (BS L ts hs).run o.dst ⟨[(g, x)], [], .tup [], [], []⟩ = BS L (putB o.dst (.tup []) ts) hs := fun x => by
    unfold BS
    rw [mk_run]
    cases o.dst with
    | none => rfl
    | some d => simp only [putT, putB, erT, List.map_cons, BV.er, erL, List.nil_append]
  rcases hv with rfl | rfl
  · refine StepOK.skipped hop hg h1 h2 Γ ρ M _ a w KK Q hs0 ⟨fun t x hx => ?_, fun n ob hn => by simp at hn, fun n hn => by simp at hn⟩ hd' (fun ρ' M' a' w' hs' => hK ρ' M' a' w' (by rw [hrun] at hs'; exact hs'))
    simp only [List.mem_singleton, Prod.mk.injEq] at hx
    obtain ⟨rfl, rfl⟩ := hx
    rw [BS_slot, hl]; simp only [Option.map_some, BV.er]
  · refine StepOK.skipped2 hop hg h1 h2 Γ ρ M _ a w KK Q hs0 ⟨fun t x hx => ?_, fun n ob hn => by simp at hn, fun n hn => by simp at hn⟩ hd' (fun ρ' M' a' w' hs' => hK ρ' M' a' w' (by rw [hrun] at hs'; exact hs'))
    simp only [List.mem_singleton, Prod.mk.injEq] at hx
    obtain ⟨rfl, rfl⟩ := hx
    rw [BS_slot, hl]; simp only [Option.map_some, BV.er, erL]
theorem regK_ok {sp : Bool} {gn : List Name} {ops : Array Oper} {K : TS → HS → Option R} {Γ : Ctx} {Q : Exit → Act → World → Prop} (hE : EnvOK P E) (hgn : Γ.names = gn) (hn : Γ.n = nn)
    (hQ : ∀ ts' hs' L' ρ' M' a' w', K ts' hs' = some r → Inv L' hs' → Sim Γ ρ' M' (BS L' ts' hs') a' w' → Q .normal a' w') :
    ∀ (f i : Nat) (ts : TS) (hs : HS) (L : Lens), regK P ty E gn nn ops sp K f i ts hs = some r → Inv L hs → ∀ ρ M a w, Sim Γ ρ M (BS L ts hs) a w → wpOps P ops Q (List.range' i (ops.size - i)) a w
  | 0, i, ts, hs, L, h, hi, ρ, M, a, w, hs0 => by
    simp only [regK] at h
    split at h
    · rename_i e
      rw [Nat.eq_of_beq_eq_true e, Nat.sub_self]
      simp only [List.range'_zero, wpOps]
      exact hQ ts hs L ρ M a w h hi hs0
    · simp at h
  | f + 1, i, ts, hs, L, h, hi, ρ, M, a, w, hs0 => by
    simp only [regK] at h
    split at h
    · simp at h
    · rename_i o hop
      have hlt : i < ops.size := (Array.getElem?_eq_some_iff.1 hop).1
      rw [show ops.size - i = (ops.size - (i + 1)) + 1 by omega, List.range'_succ, wpOps_cons]
      have ih := regK_ok (sp := sp) (gn := gn) (ops := ops) (K := K) (Γ := Γ) (Q := Q) hE hgn hn hQ f (i + 1)
      have hskip : ∀ {j : Nat} {b : Bool} {g : Nat} {v : BV}, o.guard = some (j, b) → (ops[j]?).bind (·.dst) = some g → look g ts = some v → (v = .b (!b) ∨ v = .tup []) →
          (if dstOK nn o.dst then regK P ty E gn nn ops sp K f (i + 1) (putB o.dst (.tup []) ts) hs else none) = some r → wpOp P ops Q i (wpOps P ops Q (List.range' (i + 1) (ops.size - (i + 1)))) a w := fun hg hj hl hv h => by
        split at h
        · rename_i hd
          exact skip_ok hop hg hj hl hv hd hn (fun ρ' M' a' w' hs' => ih _ _ L h hi ρ' M' a' w' hs') ρ M a w hs0
        · simp at h
      have hex : ∀ {j : Nat} {b : Bool} {g : Nat}, o.guard = some (j, b) → (ops[j]?).bind (·.dst) = some g → look g ts = some (.b b) →
          exK P ty E gn nn sp [(g, .b b)] o ts hs (fun ts hs => regK P ty E gn nn ops sp K f (i + 1) ts hs) = some r → wpOp P ops Q i (wpOps P ops Q (List.range' (i + 1) (ops.size - (i + 1)))) a w := fun {j b g} hg hj hl h =>
        exK_ok hE hgn hn h (fun t v hm => by simp only [List.mem_singleton, Prod.mk.injEq] at hm; obtain ⟨rfl, rfl⟩ := hm; exact hl) (fun t v hm => by simp only [List.mem_singleton, Prod.mk.injEq] at hm; obtain ⟨rfl, rfl⟩ := hm; exact ⟨b, rfl⟩) (Nat.le_refl _) hi hop
          (fun ρ M a w hs0 => by unfold Region.wanted; simp only [hg, yield_b hj hl hs0, beq_self_eq_true]) (fun ts' hs' L' ρ' M' a' w' hK' hi' hs' => ih _ _ L' hK' hi' ρ' M' a' w' hs') ρ M a w hs0
      split at h
      · rename_i hg
        exact exK_ok hE hgn hn h (fun t v hm => by simp at hm) (fun t v hm => by simp at hm) (by simp) hi hop (fun ρ M a w _ => by unfold Region.wanted; simp only [hg]) (fun ts' hs' L' ρ' M' a' w' hK' hi' hs' => ih _ _ L' hK' hi' ρ' M' a' w' hs') ρ M a w hs0
      · rename_i j b hg
        split at h
        · simp at h
        · rename_i g hj
          split at h
          · rename_i q hl
            rcases cnd_some h with ⟨rfl, h⟩ | ⟨rfl, h⟩
            · cases b with
              | true => exact hex hg hj hl h
              | false => exact hskip hg hj hl (.inl rfl) h
            · cases b with
              | true => exact hskip hg hj hl (.inl rfl) h
              | false => exact hex hg hj hl h
          · rename_i hl
            exact hskip hg hj hl (.inr rfl) h
          · simp at h
end
end Go.Proofs.YtbcginibldjnaaaGreat.AM
