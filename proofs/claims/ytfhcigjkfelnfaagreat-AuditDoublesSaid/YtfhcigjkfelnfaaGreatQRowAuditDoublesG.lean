/-
  The typed layer, part K: regions. No project text.
-/
import Derived.Test.YtfhcigjkfelnfaaGreatQRowAuditDoublesF
set_option linter.unusedVariables false
set_option linter.unusedSimpArgs false
namespace Go.Proofs.YtfhcigjkfelnfaaGreat.AM
open Go
variable {L L' : Lens} {ts ts' : TS} {hs hs' : HS}
section
variable {R : Type}
def rdB (ts : TS) : List Operand → TS
  | [] => []
  | .tmp t :: r => match look t ts with
    | some v => (t, v) :: rdB ts r
    | none => rdB ts r
  | .const _ :: r => rdB ts r
  | .global _ :: r => rdB ts r
  | .func _ :: r => rdB ts r
theorem rdB_look : ∀ {l : List Operand} {t : Nat} {v : BV}, (t, v) ∈ rdB ts l → look t ts = some v
  | [], t, v, h => by simp [rdB] at h
  | .tmp k :: r, t, v, h => by
    simp only [rdB] at h
    split at h
    · rename_i hk
      rcases List.mem_cons.1 h with h | h
      · cases h; exact hk
      · exact rdB_look h
    · exact rdB_look h
  | .const _ :: r, t, v, h => rdB_look (l := r) (by simpa only [rdB] using h)
  | .global _ :: r, t, v, h => rdB_look (l := r) (by simpa only [rdB] using h)
  | .func _ :: r, t, v, h => rdB_look (l := r) (by simpa only [rdB] using h)
def calleeB (rd : TS) (x : Operand) : Option (FuncId × List BV) := match evalB rd x with
  | some (.v (.func (.func f) ⟨[]⟩ ⟨[]⟩)) => some (f, [])
  | some (.clo (.func f) cs) => some (f, cs)
  | _ => none
def opK (P : Program) (ty : TypeId → Option TC) (E : Env) (sp : Bool) (nn : Nat) (x : TS) (o : Oper) (ts : TS) (hs : HS) (K : BEff → TS → HS → Option R) : Option R :=
  match o.op with
  | .call c => match c.callee with
    | .value (.func f) => match evalBs (x ++ rdB ts o.op.operands.toList) c.args.toList with
      | some vs => callK P E sp nn o.dst f vs ts hs K
      | none => none
    | .value (.tmp t) => match calleeB (x ++ rdB ts o.op.operands.toList) (.tmp t), evalBs (x ++ rdB ts o.op.operands.toList) c.args.toList with
      | some q, some vs => callK P E sp nn o.dst q.1 (vs ++ q.2) ts hs K
      | _, _ => none
    | _ => bop P ty (x ++ rdB ts o.op.operands.toList) hs (goE sp nn o.dst ts hs K) o
  | _ => bop P ty (x ++ rdB ts o.op.operands.toList) hs (goE sp nn o.dst ts hs K) o
variable {r : R} {P : Program} {ty : TypeId → Option TC} {E : Env} {nn : Nat}
theorem opK_some {sp : Bool} {x : TS} {o : Oper} {K : BEff → TS → HS → Option R} (hE : EnvOK P E) (hx : ∀ t v, (t, v) ∈ x → look t ts = some v) (h : opK P ty E sp nn x o ts hs K = some r) (hi : Inv L hs) :
    ∃ e L', Step P o (x ++ rdB ts o.op.operands.toList) L ts hs e L' ∧ dstOK nn o.dst = true ∧ K e (putB o.dst e.v ts) (e.upd ++ hs) = some r := by
  have hrd : ∀ t v, (t, v) ∈ x ++ rdB ts o.op.operands.toList → look t ts = some v := fun t v hm => by
    rcases List.mem_append.1 hm with hm | hm
    · exact hx t v hm
    · exact rdB_look hm
  have hb : bop P ty (x ++ rdB ts o.op.operands.toList) hs (goE sp nn o.dst ts hs K) o = some r → ∃ e L', Step P o (x ++ rdB ts o.op.operands.toList) L ts hs e L' ∧ dstOK nn o.dst = true ∧ K e (putB o.dst e.v ts) (e.upd ++ hs) = some r := fun h => by
    obtain ⟨e, h, hg⟩ := bop_ok h
    obtain ⟨L', h1, h2, h3⟩ := goE_some (rd := x ++ rdB ts o.op.operands.toList) hg hrd h hi
    exact ⟨e, L', h1, h2, h3⟩
  unfold opK at h
  split at h
  · rename_i c ho
    split at h
    · rename_i f hf
      obtain ⟨callee, args, ats⟩ := c
      simp only at hf; subst hf
      split at h
      · rename_i vs hvs
        exact callK_some (rd := x ++ rdB ts o.op.operands.toList) hE (fun hcall L pre h v nw hs hc => OpOK.call ho hcall (evalBs_er L hvs) hs hc) hrd h hi
      · simp at h
    · rename_i t hf
      obtain ⟨callee, args, ats⟩ := c
      simp only at hf; subst hf
      split at h
      · rename_i q vs hq hvs
        unfold calleeB at hq
        split at hq
        · rename_i f hx
          cases hq
          rw [List.append_nil] at h
          exact callK_some (rd := x ++ rdB ts o.op.operands.toList) hE (fun hcall L pre h v nw hs hc => OpOK.callFv ho (by have := evalB_er L hx; simpa only [BV.er] using this) hcall (evalBs_er L hvs) hs hc) hrd h hi
        · rename_i f cs hx
          cases hq
          exact callK_some (rd := x ++ rdB ts o.op.operands.toList) hE (fun hcall L pre h v nw hs hc => OpOK.callClo ho (by have := evalB_er L hx; simpa only [BV.er] using this) hcall (evalBs_er L hvs) (by rw [erL_append] at hs; exact hs) hc) hrd h hi
        · simp at hq
      · simp at h
    · exact hb h
  · exact hb h
mutual
def ownsV : BV → List Name
  | .own m _ => [m]
  | .view m _ _ _ => [m]
  | .agg cs => ownsL cs
  | _ => []
def ownsL : List BV → List Name
  | [] => []
  | x :: r => ownsV x ++ ownsL r
end
def ownsO (ts : TS) (x : Operand) : List Name := match evalB ts x with
  | some v => ownsV v
  | none => []
def viewsO (ts : TS) (x : Operand) : List Name := match evalB ts x with
  | some (.view m _ _ _) => [m]
  | _ => []
def needSh : List Sh → List BV → List Name
  | .lst _ :: r, v :: vs => ownsV v ++ needSh r vs
  | _ :: r, _ :: vs => needSh r vs
  | _, _ => []
def needOb (pre : List (Name × OSh)) (hs : HS) (nm m : Name) : List Name := match look nm pre, look m hs with
  | some (.boxst _), some (.box cs) => ownsL cs
  | some (.box l), some (.box cs) => needSh l cs
  | _, _ => []
def needCaps (pre : List (Name × OSh)) (hs : HS) : List Name → List BV → List Name
  | nm :: q, .ref m _ :: vs => needOb pre hs nm m ++ needCaps pre hs q vs
  | _, _ => []
def needArgs (pre : List (Name × OSh)) (hs : HS) : List SSh → List BV → List Name
  | .one (.lst _) :: r, v :: vs => ownsV v ++ needArgs pre hs r vs
  | .one (.ref nm) :: r, .ref m _ :: vs => needOb pre hs nm m ++ needArgs pre hs r vs
  | .one (.clo _ ns) :: r, .clo _ cs :: vs => needCaps pre hs ns cs ++ needArgs pre hs r vs
  | .st _ :: r, v :: vs => ownsV v ++ needArgs pre hs r vs
  | .agg l :: r, .agg cs :: vs => needSh l cs ++ needArgs pre hs r vs
  | _ :: r, _ :: vs => needArgs pre hs r vs
  | _, _ => []
def needs (E : Env) (ts : TS) (hs : HS) (o : Oper) : List Name := match o.op with
  | .buildSlice _ _ parts => parts.toList.flatMap fun p => ownsO ts p.2
  | .store _ x y => match evalB ts x with
    | some (.aref _ _ _ _) => ownsO ts y
    | _ => []
  | .call c => match c.callee, c.args.toList with
    | .builtin .append, [x, y] => viewsO ts x ++ ownsO ts y
    | .value (.func f), args => match evalBs ts args with
      | some vs => match E o.dst f vs with
        | some g => needArgs g.pre hs g.args vs
        | none => []
      | none => []
    | .value (.tmp t), args => match calleeB ts (.tmp t), evalBs ts args with
      | some q, some vs => match E o.dst q.1 (vs ++ q.2) with
        | some g => needArgs g.pre hs g.args (vs ++ q.2)
        | none => []
      | _, _ => []
    | _, _ => []
  | _ => []
def trimL {α : Type} (f : Nat → Bool) : List Nat → List (Nat × α) → List (Nat × α)
  | _, [] => []
  | seen, (k, v) :: r => match f k && !isIn k seen with
    | true => (k, v) :: trimL f (k :: seen) r
    | false => trimL f seen r
def trimC {α R : Type} (f : Nat → Bool) : List Nat → List (Nat × α) → (List (Nat × α) → R) → R
  | _, [], K => K []
  | seen, (k, v) :: r, K => match f k && !isIn k seen with
    | true => trimC f (k :: seen) r fun q => K ((k, v) :: q)
    | false => trimC f seen r K
theorem trimC_eq {α R : Type} {f : Nat → Bool} : ∀ (seen : List Nat) (l : List (Nat × α)) (K : List (Nat × α) → R), trimC f seen l K = K (trimL f seen l)
  | _, [], K => rfl
  | seen, (k, v) :: r, K => by
    simp only [trimC, trimL]
    split
    · rw [trimC_eq (k :: seen) r]
    · rw [trimC_eq seen r]
theorem look_trimL {α : Type} {f : Nat → Bool} (n : Nat) : ∀ (seen : List Nat) (l : List (Nat × α)), look n (trimL f seen l) = if f n && !isIn n seen then look n l else none
  | seen, [] => by simp [trimL, look]
  | seen, (k, v) :: r => by
    have isIn_cons : ∀ m, isIn m (k :: seen) = (Nat.beq k m || isIn m seen) := fun m => by simp [isIn]
    simp only [trimL]
    split
    · rename_i h
      simp only [look]
      rw [look_trimL n (k :: seen) r, isIn_cons]
      by_cases e : k = n
      · subst e; rw [if_pos rfl, if_pos rfl, h]; rfl
      · have : Nat.beq k n = false := Bool.eq_false_iff.2 fun h => e (Nat.eq_of_beq_eq_true h)
        rw [if_neg e, if_neg e, this, Bool.false_or]
    · rename_i h
      rw [look_trimL n seen r]
      simp only [look]
      by_cases e : k = n
      · subst e; rw [h]; rfl
      · rw [if_neg e]
theorem Inv.trim {f : Name → Bool} (hi : Inv L hs) : Inv L (trimL f [] hs) := fun n t l v hn => by
  rw [look_trimL] at hn
  split at hn
  · exact hi n t l v hn
  · simp at hn
theorem Sim.only {f : Nat → Bool} {g : Name → Bool} {ρ : Name → Loc} {M : Nat → Prop} {a : Act} {w : World} {Γ : Ctx} (h : Sim Γ ρ M (BS L ts hs) a w) (hg : ∀ n, n ∈ Γ.names → g n = true) : Sim Γ ρ M (BS L (trimL f [] ts) (trimL g [] hs)) a w := by
  refine h.forget (fun t x hx => ?_) (fun n o hn => ?_) (fun n hn hc => ?_)
  · rw [BS_slot, look_trimL] at hx
    rw [BS_slot]
    split at hx
    · exact hx
    · simp at hx
  · rw [BS_heap, look_trimL] at hn
    rw [BS_heap]
    split at hn
    · exact hn
    · simp at hn
  · rw [BS_heap, look_trimL, if_pos (by rw [hg n hn]; rfl)] at hc
    obtain ⟨o, ho, _⟩ := h.keep n hn
    rw [BS_heap, hc] at ho; simp at ho
def noTup (n : Name) (ts : TS) (t : Nat) : Bool := match look t ts with
  | some (.tup vs) => !BV.hasL n vs
  | _ => true
theorem Sim.onlyT {f : Nat → Bool} {ρ : Name → Loc} {M : Nat → Prop} {a : Act} {w : World} {Γ : Ctx} (h : Sim Γ ρ M (BS L ts hs) a w) : Sim Γ ρ M (BS L (trimL f [] ts) hs) a w := by
  have h2 := h.only (f := f) (g := fun _ => true) fun _ _ => rfl
  refine h2.congr (fun t => rfl) (fun n => ?_)
  show (BS L (trimL f [] ts) hs).heap n = (BS L (trimL f [] ts) (trimL (fun _ => true) [] hs)).heap n
  rw [BS_heap, BS_heap, look_trimL]; rfl
def frzK (gn : List Name) : List Name → TS → HS → (TS → HS → Option R) → Option R
  | [], ts, hs, K => K ts hs
  | n :: r, ts, hs, K => match look n hs with
    | some (.arr t l v) => trimC (noTup n ts) [] ts fun ts => if !isIn n gn && fzB n ts hs then frzK gn r (fzT n v t l ts) (fzH n v t l hs) K else none
    | _ => frzK gn r ts hs K
theorem frzK_some {gn : List Name} {Γ : Ctx} (hgn : Γ.names = gn) : ∀ {ns : List Name} {ts : TS} {hs : HS} {K : TS → HS → Option R}, frzK gn ns ts hs K = some r → Inv L hs →
    ∃ ts' hs', K ts' hs' = some r ∧ Inv L hs' ∧ ∀ ρ M a w, Sim Γ ρ M (BS L ts hs) a w → ∃ ρ' M', Sim Γ ρ' M' (BS L ts' hs') a w
  | [], ts, hs, K, h, hi => ⟨ts, hs, h, hi, fun ρ M a w hs0 => ⟨ρ, M, hs0⟩⟩
  | n :: ns, ts, hs, K, h, hi => by
    simp only [frzK] at h
    split at h
    · rename_i t l v hl
      rw [trimC_eq] at h
      split at h
      · rename_i hb
        simp only [Bool.and_eq_true, Bool.not_eq_true'] at hb
        have hn : n ∉ Γ.names := fun hm => by
          rw [hgn] at hm
          have := isIn_iff.2 hm
          rw [this] at hb; simp at hb
        have hi' : Inv L (fzH n v t l hs) := by
          intro k t' l' u hk
          rw [look_fzH] at hk
          split at hk
          · simp at hk
          · cases hx : look k hs with
            | none => rw [hx] at hk; simp at hk
            | some x =>
              rw [hx] at hk
              simp only [Option.map_some, Option.some.injEq] at hk
              cases x with
              | box cs => simp [BO.frz] at hk
              | arr t2 l2 => simp only [BO.frz] at hk; cases hk; exact hi k _ _ _ hx
              | sm es => simp [BO.frz] at hk
        obtain ⟨ts', hs', h1, h2, h3⟩ := frzK_some hgn h hi'
        refine ⟨ts', hs', h1, h2, fun ρ M a w hs0 => ?_⟩
        obtain ⟨⟨ρ1, M1, hs1⟩, _⟩ := (hs0.onlyT (f := noTup n ts)).frz hi hn hl hb.2
        exact h3 ρ1 M1 a w hs1
      · simp at h
    · exact frzK_some hgn h hi
section
variable (P : Program) (ty : TypeId → Option TC) (E : Env) (gn : List Name) (nn : Nat) (ops : Array Oper)
def exK (sp : Bool) (x : TS) (o : Oper) (ts : TS) (hs : HS) (K : TS → HS → Option R) : Option R :=
  frzK gn (needs E ts hs o) ts hs fun ts hs => opK P ty E sp nn x o (x ++ ts) hs fun _ ts hs => K ts hs
def guarded (ops : Array Oper) : Bool := ops.toList.any fun o => o.guard.isSome
def regK (sp : Bool) (K : TS → HS → Option R) : Nat → Nat → TS → HS → Option R
  | 0, i, ts, hs => if Nat.beq ops.size i then K ts hs else none
  | f + 1, i, ts, hs => match ops[i]? with
    | none => none
    | some o => match o.guard with
      | none => exK P ty E gn nn sp [] o ts hs fun ts hs => regK sp K f (i + 1) ts hs
      | some (j, b) => match (ops[j]?).bind (·.dst) with
        | none => none
        | some g => match look g ts with
          | some (.b q) => cnd q
              (match b with
                | true => exK P ty E gn nn sp [(g, .b true)] o ts hs fun ts hs => regK sp K f (i + 1) ts hs
                | false => if dstOK nn o.dst then regK sp K f (i + 1) (putB o.dst (.tup []) ts) hs else none)
              (match b with
                | true => if dstOK nn o.dst then regK sp K f (i + 1) (putB o.dst (.tup []) ts) hs else none
                | false => exK P ty E gn nn sp [(g, .b false)] o ts hs fun ts hs => regK sp K f (i + 1) ts hs)
          | some (.tup []) => if dstOK nn o.dst then regK sp K f (i + 1) (putB o.dst (.tup []) ts) hs else none
          | _ => none
end
theorem wpOp_of {ops : Array Oper} {i : Nat} {o : Oper} {a : Act} {w : World} {K : Act → World → Prop} {Q : Exit → Act → World → Prop} (hi : ops[i]? = some o) (hw : Region.wanted o (yielded ops a.tmps) = true) (h : o.wp P a w K Q) : wpOp P ops Q i K a w := by
  unfold wpOp
  simp only [hi, hw, if_true]
  exact .inl h
theorem exK_ok {sp : Bool} {gn : List Name} {ops : Array Oper} {i : Nat} {x : TS} {o : Oper} {K : TS → HS → Option R} {Γ : Ctx} {KK : Act → World → Prop} {Q : Exit → Act → World → Prop} (hE : EnvOK P E) (hgn : Γ.names = gn) (hn : Γ.n = nn)
    (h : exK P ty E gn nn sp x o ts hs K = some r) (hx : ∀ t v, (t, v) ∈ x → look t ts = some v) (hx1 : ∀ t v, (t, v) ∈ x → ∃ q, v = .b q) (hxl : x.length ≤ 1) (hi : Inv L hs) (hop : ops[i]? = some o)
    (hw : ∀ ρ M a w, Sim Γ ρ M (BS L ts hs) a w → Region.wanted o (yielded ops a.tmps) = true)
    (hK : ∀ ts' hs' L' ρ' M' a' w', K ts' hs' = some r → Inv L' hs' → Sim Γ ρ' M' (BS L' ts' hs') a' w' → KK a' w') :
    ∀ ρ M a w, Sim Γ ρ M (BS L ts hs) a w → wpOp P ops Q i KK a w := by
  intro ρ M a w hs0
  have hw0 := hw ρ M a w hs0
  obtain ⟨ts1, hs1, h, hi1, hfz⟩ := frzK_some hgn h hi
  obtain ⟨ρ1, M1, hs1'⟩ := hfz ρ M a w hs0
  have hxx : Sim Γ ρ1 M1 (BS L (x ++ ts1) hs1) a w := by
    refine ⟨hs1'.n, hs1'.d, fun t y hy => ?_, hs1'.objs, hs1'.inj, hs1'.own0, hs1'.keep, hs1'.ext, hs1'.mext, hs1'.msize, hs1'.m0, hs1'.ground⟩
    obtain ⟨v, hv, rfl⟩ := slot_of hy
    rw [look_append] at hv
    cases hl : look t x with
    | none => rw [hl] at hv; simp only at hv; exact hs1'.slots t _ (by rw [BS_slot, hv]; rfl)
    | some v' =>
      rw [hl] at hv; cases hv
      have hm := look_mem hl
      obtain ⟨q, rfl⟩ := hx1 t v hm
      obtain ⟨u, hu, hr⟩ := hs0.slots t ((BV.b q).er L) (by rw [BS_slot, hx t _ hm]; rfl)
      refine ⟨u, hu, ?_⟩
      simp only [BV.er, AV.R, PV.R] at hr ⊢
      exact hr
  obtain ⟨e, L', hst, hd, hK'⟩ := opK_some hE (fun t v hm => by
    rw [look_append]
    match x, hxl, hm with
    | [(t0, v0)], _, hm =>
      simp only [List.mem_singleton, Prod.mk.injEq] at hm
      obtain ⟨rfl, rfl⟩ := hm
      simp only [look, if_true]) h hi1
  exact wpOp_of hop hw0 (hst.go hd hn hxx fun ρ' M' a' w' hs' => hK _ _ L' ρ' M' a' w' hK' hst.inv hs')
theorem yield_b {ops : Array Oper} {Γ : Ctx} {ρ : Name → Loc} {M : Nat → Prop} {a : Act} {w : World} {j g : Nat} {q : Bool} (hj : (ops[j]?).bind (·.dst) = some g) (hl : look g ts = some (.b q)) (hs0 : Sim Γ ρ M (BS L ts hs) a w) : yielded ops a.tmps j = some q := by
  obtain ⟨oj, h1, h2⟩ := bind_some hj
  exact yielded_of hs0 h1 h2 (by rw [BS_slot, hl]; simp only [Option.map_some, BV.er])
theorem skip_ok {ops : Array Oper} {i j g : Nat} {o : Oper} {b : Bool} {v : BV} {Γ : Ctx} {KK : Act → World → Prop} {Q : Exit → Act → World → Prop} (hop : ops[i]? = some o) (hg : o.guard = some (j, b)) (hj : (ops[j]?).bind (·.dst) = some g)
    (hl : look g ts = some v) (hv : v = .b (!b) ∨ v = .tup []) (hd : dstOK nn o.dst = true) (hn : Γ.n = nn)
    (hK : ∀ ρ' M' a' w', Sim Γ ρ' M' (BS L (putB o.dst (.tup []) ts) hs) a' w' → KK a' w') : ∀ ρ M a w, Sim Γ ρ M (BS L ts hs) a w → wpOp P ops Q i KK a w := by
  intro ρ M a w hs0
  obtain ⟨oj, h1, h2⟩ := bind_some hj
  have hd' : ∀ d, o.dst = some d → d < Γ.n := fun d hd' => by rw [hd'] at hd; simp only [dstOK] at hd; rw [hn]; exact Nat.le_of_ble_eq_true hd
  have hrun : ∀ x : AV, (BS L ts hs).run o.dst ⟨[(g, x)], [], .tup [], [], []⟩ = BS L (putB o.dst (.tup []) ts) hs := fun x => by
    unfold BS
    rw [mk_run]
    cases o.dst with
    | none => rfl
    | some d => simp only [putT, putB, erT, List.map_cons, BV.er, erL, List.nil_append]
  rcases hv with rfl | rfl
  · refine StepOK.skipped hop hg h1 h2 Γ ρ M _ a w KK Q hs0 ⟨fun t x hx => ?_, fun n ob hn => by simp at hn, fun n hn => by simp at hn⟩ hd' (fun ρ' M' a' w' hs' => hK ρ' M' a' w' (by rw [hrun] at hs'; exact hs'))
    simp only [List.mem_singleton, Prod.mk.injEq] at hx
    obtain ⟨rfl, rfl⟩ := hx
    rw [BS_slot, hl]; simp only [Option.map_some, BV.er]
  · refine StepOK.skipped2 hop hg h1 h2 Γ ρ M _ a w KK Q hs0 ⟨fun t x hx => ?_, fun n ob hn => by simp at hn, fun n hn => by simp at hn⟩ hd' (fun ρ' M' a' w' hs' => hK ρ' M' a' w' (by rw [hrun] at hs'; exact hs'))
    simp only [List.mem_singleton, Prod.mk.injEq] at hx
    obtain ⟨rfl, rfl⟩ := hx
    rw [BS_slot, hl]; simp only [Option.map_some, BV.er, erL]
theorem regK_ok {sp : Bool} {gn : List Name} {ops : Array Oper} {K : TS → HS → Option R} {Γ : Ctx} {Q : Exit → Act → World → Prop} (hE : EnvOK P E) (hgn : Γ.names = gn) (hn : Γ.n = nn)
    (hQ : ∀ ts' hs' L' ρ' M' a' w', K ts' hs' = some r → Inv L' hs' → Sim Γ ρ' M' (BS L' ts' hs') a' w' → Q .normal a' w') :
    ∀ (f i : Nat) (ts : TS) (hs : HS) (L : Lens), regK P ty E gn nn ops sp K f i ts hs = some r → Inv L hs → ∀ ρ M a w, Sim Γ ρ M (BS L ts hs) a w → wpOps P ops Q (List.range' i (ops.size - i)) a w
  | 0, i, ts, hs, L, h, hi, ρ, M, a, w, hs0 => by
    simp only [regK] at h
    split at h
    · rename_i e
      rw [Nat.eq_of_beq_eq_true e, Nat.sub_self]
      simp only [List.range'_zero, wpOps]
      exact hQ ts hs L ρ M a w h hi hs0
    · simp at h
  | f + 1, i, ts, hs, L, h, hi, ρ, M, a, w, hs0 => by
    simp only [regK] at h
    split at h
    · simp at h
    · rename_i o hop
      have hlt : i < ops.size := (Array.getElem?_eq_some_iff.1 hop).1
      rw [show ops.size - i = (ops.size - (i + 1)) + 1 by omega, List.range'_succ, wpOps_cons]
      have ih := regK_ok (sp := sp) (gn := gn) (ops := ops) (K := K) (Γ := Γ) (Q := Q) hE hgn hn hQ f (i + 1)
      have hskip : ∀ {j : Nat} {b : Bool} {g : Nat} {v : BV}, o.guard = some (j, b) → (ops[j]?).bind (·.dst) = some g → look g ts = some v → (v = .b (!b) ∨ v = .tup []) →
          (if dstOK nn o.dst then regK P ty E gn nn ops sp K f (i + 1) (putB o.dst (.tup []) ts) hs else none) = some r → wpOp P ops Q i (wpOps P ops Q (List.range' (i + 1) (ops.size - (i + 1)))) a w := fun hg hj hl hv h => by
        split at h
        · rename_i hd
          exact skip_ok hop hg hj hl hv hd hn (fun ρ' M' a' w' hs' => ih _ _ L h hi ρ' M' a' w' hs') ρ M a w hs0
        · simp at h
      have hex : ∀ {j : Nat} {b : Bool} {g : Nat}, o.guard = some (j, b) → (ops[j]?).bind (·.dst) = some g → look g ts = some (.b b) →
          exK P ty E gn nn sp [(g, .b b)] o ts hs (fun ts hs => regK P ty E gn nn ops sp K f (i + 1) ts hs) = some r → wpOp P ops Q i (wpOps P ops Q (List.range' (i + 1) (ops.size - (i + 1)))) a w := fun {j b g} hg hj hl h =>
        exK_ok hE hgn hn h (fun t v hm => by simp only [List.mem_singleton, Prod.mk.injEq] at hm; obtain ⟨rfl, rfl⟩ := hm; exact hl) (fun t v hm => by simp only [List.mem_singleton, Prod.mk.injEq] at hm; obtain ⟨rfl, rfl⟩ := hm; exact ⟨b, rfl⟩) (Nat.le_refl _) hi hop
          (fun ρ M a w hs0 => by unfold Region.wanted; simp only [hg, yield_b hj hl hs0, beq_self_eq_true]) (fun ts' hs' L' ρ' M' a' w' hK' hi' hs' => ih _ _ L' hK' hi' ρ' M' a' w' hs') ρ M a w hs0
      split at h
      · rename_i hg
        exact exK_ok hE hgn hn h (fun t v hm => by simp at hm) (fun t v hm => by simp at hm) (by simp) hi hop (fun ρ M a w _ => by unfold Region.wanted; simp only [hg]) (fun ts' hs' L' ρ' M' a' w' hK' hi' hs' => ih _ _ L' hK' hi' ρ' M' a' w' hs') ρ M a w hs0
      · rename_i j b hg
        split at h
        · simp at h
        · rename_i g hj
          split at h
          · rename_i q hl
            rcases cnd_some h with ⟨rfl, h⟩ | ⟨rfl, h⟩
            · cases b with
              | true => exact hex hg hj hl h
              | false => exact hskip hg hj hl (.inl rfl) h
            · cases b with
              | true => exact hskip hg hj hl (.inl rfl) h
              | false => exact hex hg hj hl h
          · rename_i hl
            exact hskip hg hj hl (.inr rfl) h
          · simp at h
end
end Go.Proofs.YtfhcigjkfelnfaaGreat.AM
/-
  The typed layer, part L: code. No project text.
-/
set_option linter.unusedVariables false
set_option linter.unusedSimpArgs false
namespace Go.Proofs.YtfhcigjkfelnfaaGreat.AM
open Go
abbrev BRow := Option Nat × TS × BEff
def BRow.row (L : Lens) (b : BRow) : Row := (b.1, ⟨erT L b.2.1, erH L b.2.2.hp, b.2.2.v.er L, erH L b.2.2.upd, b.2.2.nw⟩)
def L0 : Lens := fun _ _ => 0
def indepB (ops : Array Oper) (rows : List BRow) (ts : TS) (hs : HS) : Bool := indep ops (rows.map (BRow.row L0)) (erT L0 ts) (erH L0 hs)
section
variable {L L' : Lens}
theorem keys_erT (a : TS) : keys (erT L a) = keys a := by simp [erT, keys]
theorem effhas_row (n : Name) (b : BRow) : (b.row L).2.has n = (b.row L').2.has n := by
  simp only [BRow.row, Eff.has, has_er]
  congr 1
  simp only [erH, List.any_map]
  congr 1; funext p; simp only [Function.comp, hasO_er]
theorem apart_row (x y : BRow) : apartB (x.row L) (y.row L) = apartB (x.row L') (y.row L') := by
  simp only [apartB, BRow.row, keys_erT, keys_erH]
  have : (fun n => !Eff.has n ⟨erT L y.2.1, erH L y.2.2.hp, y.2.2.v.er L, erH L y.2.2.upd, y.2.2.nw⟩) = fun n => !Eff.has n ⟨erT L' y.2.1, erH L' y.2.2.hp, y.2.2.v.er L', erH L' y.2.2.upd, y.2.2.nw⟩ := by
    funext n; have := effhas_row (L := L) (L' := L') n y; simp only [BRow.row] at this; rw [this]
  rw [this]
theorem inner_row (i : Nat) (x : BRow) : ∀ (j : Nat) (l : List (BRow × Nat)), innerOK i (x.row L) j (l.map fun p => (p.1.row L, p.2)) = innerOK i (x.row L') j (l.map fun p => (p.1.row L', p.2))
  | _, [] => rfl
  | j, (y, m) :: r => by simp only [List.map_cons, innerOK, apart_row (L := L) (L' := L') x y, inner_row i x (j + 1) r]
theorem pairs_row : ∀ (i : Nat) (l : List (BRow × Nat)), pairsOK i (l.map fun p => (p.1.row L, p.2)) = pairsOK i (l.map fun p => (p.1.row L', p.2))
  | _, [] => rfl
  | i, (x, m) :: r => by simp only [List.map_cons, pairsOK, inner_row (L := L) (L' := L') i x (i + 1) r, pairs_row (i + 1) r]
theorem news_row (ts : TS) (hs : HS) : ∀ (l past : List BRow), newsOK (erT L ts) (erH L hs) (l.map (BRow.row L)) (past.map (BRow.row L)) = newsOK (erT L' ts) (erH L' hs) (l.map (BRow.row L')) (past.map (BRow.row L'))
  | [], past => by simp only [List.map_nil, newsOK]
  | y :: r, past => by
    have ih := news_row ts hs r (past ++ [y])
    simp only [List.map_append, List.map_cons, List.map_nil] at ih
    simp only [List.map_cons, newsOK, ih]
    congr 1
    show (y.2.2.nw.all fun n => _) = (y.2.2.nw.all fun n => _)
    congr 1; funext n
    simp only [List.all_map, freeS_er, BRow.row, keys_erH]
    congr 2
    congr 1; funext x
    have := effhas_row (L := L) (L' := L') n x
    simp only [BRow.row] at this
    simp only [Function.comp, BRow.row, this]
theorem indep_row {ops : Array Oper} {rows : List BRow} {ts : TS} {hs : HS} (h : indepB ops rows ts hs = true) (L : Lens) : indep ops (rows.map (BRow.row L)) (erT L ts) (erH L hs) = true := by
  unfold indepB indep at h
  unfold indep
  have e : ∀ (L : Lens) (ms : List Nat), (rows.map (BRow.row L)).zip ms = (rows.zip ms).map fun p => (p.1.row L, p.2) := fun L ms => by
    rw [List.zip_map_left]; rfl
  rw [e, pairs_row (L := L) (L' := AM.L0), ← e]
  have := news_row (L := L) (L' := AM.L0) ts hs rows []
  simp only [List.map_nil] at this
  rw [this]
  exact h
end
section
variable {R : Type} (P : Program) (ty : TypeId → Option TC) (E : Env) (gn : List Name) (nn : Nat) (ops : Array Oper)
def anyB (d : Option Nat) (v : BV) : Bool := match d, v with
  | some _, _ => true
  | none, .any => true
  | none, _ => false
def dregK (sp : Bool) (m : Nat) (K : List BRow → TS → HS → Option R) : Nat → Nat → List BRow → TS → HS → Option R
  | 0, i, acc, ts, hs => if Nat.beq m i then K acc.reverse ts hs else none
  | f + 1, i, acc, ts, hs => match ops[i]? with
    | none => none
    | some o => match o.guard with
      | none => opK P ty E sp nn [] o ts hs fun e ts' hs' => if anyB o.dst e.v then dregK sp m K f (i + 1) ((o.dst, rdB ts o.op.operands.toList, e) :: acc) ts' hs' else none
      | some (j, b) => match (ops[j]?).bind (·.dst) with
        | none => none
        | some g => match look g ts with
          | some (.b q) => cnd q
              (match b with
                | true => opK P ty E sp nn [(g, .b true)] o ts hs fun e ts' hs' => if anyB o.dst e.v then dregK sp m K f (i + 1) ((o.dst, (g, .b true) :: rdB ts o.op.operands.toList, e) :: acc) ts' hs' else none
                | false => if dstOK nn o.dst then dregK sp m K f (i + 1) ((o.dst, [(g, .b true)], ev (.tup [])) :: acc) (putB o.dst (.tup []) ts) hs else none)
              (match b with
                | true => if dstOK nn o.dst then dregK sp m K f (i + 1) ((o.dst, [(g, .b false)], ev (.tup [])) :: acc) (putB o.dst (.tup []) ts) hs else none
                | false => opK P ty E sp nn [(g, .b false)] o ts hs fun e ts' hs' => if anyB o.dst e.v then dregK sp m K f (i + 1) ((o.dst, (g, .b false) :: rdB ts o.op.operands.toList, e) :: acc) ts' hs' else none)
          | some (.tup []) => if dstOK nn o.dst then dregK sp m K f (i + 1) ((o.dst, [(g, .tup [])], ev (.tup [])) :: acc) (putB o.dst (.tup []) ts) hs else none
          | _ => none
end
def noB : BRow := (none, [], ev .any)
def lastB (ops : Array Oper) : Bool := match ops[ops.size - 1]? with
  | some ⟨_, .store _ _ _, _, _, _, none⟩ => (List.range (ops.size - 1)).all fun j => ((masks ops.toList []).getD (ops.size - 1) 0).testBit j
  | _ => false
inductive Ann where
  | go
  | two (a b : Ann)
  | one (a : Ann)
  /-- The states that come out of it normally are said in this shape; what follows is said once. -/
  | join (s : List (Nat × SSh)) (o : List (Name × OSh)) (a : Ann)
  /-- A loop whose rounds begin in this shape. -/
  | loop (s : List (Nat × SSh)) (o : List (Name × OSh)) (a : Ann)
  /-- Arrays that are frozen ahead of it. -/
  | frz (ns : List Name) (a : Ann)
def Ann.l : Ann → Ann
  | .two a _ => a
  | .one a => a
  | .loop _ _ a => a
  | _ => .go
def Ann.r : Ann → Ann
  | .two _ b => b
  | _ => .go
section
variable {R : Type} (P : Program) (ty : TypeId → Option TC) (E : Env) (gn : List Name) (nn fu : Nat)
abbrev Cont (R : Type) := Exit → TS → HS → Option R
def idRen (σ : Ren) : Bool := σ.all fun p => Nat.beq p.1 p.2.1 && lookIs p.1 p.2.1 p.2.2 σ
def verIn (n : Name) (hs : HS) : Nat := match look n hs with
  | some (.arr _ _ v) => v
  | _ => 0
def getS (s : List (Nat × SSh)) (o : List (Name × OSh)) (ts : TS) (hs : HS) (K : STL s × OL o → Option R) : Option R :=
  STL.get s ts [] fun σ x => OL.get o hs (gn.map (fun n => (n, (n, verIn n hs))) ++ σ) fun σ y => if idRen σ && gn.all (fun n => isIn n (keys o)) then K (x, y) else none
def thawA (o : List (Name × OSh)) (t : Nat) : Nat → List Sh → TS → HS → (TS → HS → Option R) → Option R
  | _, [], ts, hs, K => K ts hs
  | j, .own nm :: r, ts, hs, K => match look t ts with
    | some (.agg cells) => match cells[j]?, look nm o with
      | some .nil, some (.arr tc) => if (look nm hs).isNone && freeS nm ts hs && Nat.ble 1 (tz tc) then thawA o t (j + 1) r ((t, .agg (cells.set j (.own nm 0))) :: ts) ((nm, .arr tc [] 0) :: hs) K else none
      | some (.ts true _ []), some (.arr tc) => if (look nm hs).isNone && freeS nm ts hs && Nat.ble 1 (tz tc) then thawA o t (j + 1) r ((t, .agg (cells.set j (.own nm 0))) :: ts) ((nm, .arr tc [] 0) :: hs) K else none
      | _, _ => thawA o t (j + 1) r ts hs K
    | _ => thawA o t (j + 1) r ts hs K
  | j, _ :: r, ts, hs, K => thawA o t (j + 1) r ts hs K
def thawK (o : List (Name × OSh)) : List (Nat × SSh) → TS → HS → (TS → HS → Option R) → Option R
  | (t, .agg l) :: r, ts, hs, K => thawA o t 0 l ts hs fun ts hs => thawK o r ts hs K
  | (t, .one (.own nm)) :: r, ts, hs, K => match look t ts, look nm o with
    | some .nil, some (.arr tc) => if (look nm hs).isNone && freeS nm ts hs && Nat.ble 1 (tz tc) then thawK o r ((t, .own nm 0) :: ts) ((nm, .arr tc [] 0) :: hs) K else none
    | some (.ts true _ []), some (.arr tc) => if (look nm hs).isNone && freeS nm ts hs && Nat.ble 1 (tz tc) then thawK o r ((t, .own nm 0) :: ts) ((nm, .arr tc [] 0) :: hs) K else none
    | _, _ => thawK o r ts hs K
  | _ :: r, ts, hs, K => thawK o r ts hs K
  | [], ts, hs, K => K ts hs
def thawC (o : List (Name × OSh)) (m : Name) (ts : TS) : Nat → List Sh → HS → (HS → Option R) → Option R
  | _, [], hs, K => K hs
  | j, .own nm :: r, hs, K => match look m hs with
    | some (.box cells) => match cells[j]?, look nm o with
      | some .nil, some (.arr tc) => if (look nm hs).isNone && freeS nm ts hs && Nat.ble 1 (tz tc) then thawC o m ts (j + 1) r ((m, .box (cells.set j (.own nm 0))) :: (nm, .arr tc [] 0) :: hs) K else none
      | some (.ts true _ []), some (.arr tc) => if (look nm hs).isNone && freeS nm ts hs && Nat.ble 1 (tz tc) then thawC o m ts (j + 1) r ((m, .box (cells.set j (.own nm 0))) :: (nm, .arr tc [] 0) :: hs) K else none
      | _, _ => thawC o m ts (j + 1) r hs K
    | _ => thawC o m ts (j + 1) r hs K
  | j, _ :: r, hs, K => thawC o m ts (j + 1) r hs K
def thawO (o : List (Name × OSh)) (ts : TS) : List (Name × OSh) → HS → (HS → Option R) → Option R
  | (m, .box l) :: r, hs, K => thawC o m ts 0 l hs fun hs => thawO o ts r hs K
  | _ :: r, hs, K => thawO o ts r hs K
  | [], hs, K => K hs
def keepT (s : List (Nat × SSh)) (t : Nat) : Bool := (look t s).isSome
def keepB (gn : List Name) (o : List (Name × OSh)) (hs : HS) (n : Name) : Bool := match look n hs with
  | some (.box _) => (look n o).isSome || isIn n gn
  | _ => true
def keepA (gn : List Name) (o : List (Name × OSh)) (ts : TS) (hs : HS) (n : Name) : Bool := match look n hs with
  | some (.arr _ _ _) => isIn n gn || (look n o).isNone || !freeS n ts hs
  | _ => true
def shapeK (s : List (Nat × SSh)) (o : List (Name × OSh)) (ts : TS) (hs : HS) (K : STL s × OL o → Option R) : Option R :=
  trimC (keepT s) [] ts fun ts' => trimC (keepB gn o hs) [] hs fun hs' => frzK gn (needArgs o hs (s.map (·.2)) (s.map fun p => (look p.1 ts).getD .any)) ts' hs' fun ts hs => trimC (keepA gn o ts hs) [] hs fun hs => thawK o s ts hs fun ts hs => thawO o ts o hs fun hs => getS gn s o (viewT hs s ts) hs K
def nextC (K : Cont R) (N : TS → HS → Option R) : Cont R := fun e ts hs => match e with
  | .normal => N ts hs
  | e => K e ts hs
def blockC (id : Nat) (K : Cont R) : Cont R := fun e ts hs => match e with
  | .exit k => if Nat.beq k id then K .normal ts hs else K (.exit k) ts hs
  | e => K e ts hs
def around (an : Ann) (ts : TS) (hs : HS) (K : Cont R) (body : Ann → TS → HS → Cont R → Option R) : Option R := match an with
  | .join s o a => join (fun y : STL s × OL o => K .normal (STL.put 0 s y.1) (OL.put 0 o y.2)) fun J => body a ts hs (nextC K fun ts hs => shapeK gn s o ts hs J)
  | .frz ns a => frzK gn ns ts hs fun ts hs => body a ts hs K
  | a => body a ts hs K
def vc [DecidableEq R] : Code → Ann → TS → HS → Cont R → Option R
  | .skip, an, ts, hs, K => K .normal ts hs
  | .label _, an, ts, hs, K => K .normal ts hs
  | .ret, an, ts, hs, K => K .ret ts hs
  | .exit id, an, ts, hs, K => K (.exit id) ts hs
  | .seq a b, an, ts, hs, K => around gn an ts hs K fun an ts hs K => vc a an.l ts hs (nextC K fun ts hs => vc b an.r ts hs K)
  | .cond (.tmp t) a b, an, ts, hs, K => around gn an ts hs K fun an ts hs K => match look t ts with
    | some (.b q) => cnd q (vc a an.l ts hs K) (vc b an.r ts hs K)
    | some .ub => both (vc a an.l ts hs K) (vc b an.r ts hs K)
    | _ => none
  | .cond (.const (.bool q)) a b, an, ts, hs, K => around gn an ts hs K fun an ts hs K => match q with
    | true => vc a an.l ts hs K
    | false => vc b an.r ts hs K
  | .block id a, an, ts, hs, K => around gn an ts hs K fun an ts hs K => vc a an.l ts hs (blockC id K)
  | .loop a, an, ts, hs, K => match an with
    | .loop s o an => shapeK gn s o ts hs fun x => iterF (fun Lp x => vc a an (STL.put 0 s x.1) (OL.put 0 o x.2) (nextC K fun ts hs => shapeK gn s o ts hs Lp)) fu x
    | _ => none
  | .region _ ops dr, an, ts, hs, K => around gn an ts hs K fun an ts hs K => match dr with
    | false => regK P ty E gn nn ops (guarded ops) (fun ts hs => K .normal ts hs) ops.size 0 ts hs
    | true => if P.follows .mixedOrders then (match lastB ops with
      | true => dregK P ty E nn ops (guarded ops) (ops.size - 1) (fun rows ts' hs' => if indepB ops (rows ++ [noB]) ts hs then (match ops[ops.size - 1]? with
        | some o => exK P ty E gn nn (guarded ops) [] o ts' hs' (fun ts hs => K .normal ts hs)
        | none => none) else none) (ops.size - 1) 0 [] ts hs
      | false => dregK P ty E nn ops (guarded ops) ops.size (fun rows ts' hs' => if indepB ops rows ts hs then K .normal ts' hs' else none) ops.size 0 [] ts hs) else none
  | _, _, _, _, _ => none
end
end Go.Proofs.YtfhcigjkfelnfaaGreat.AM
/-
  The typed layer, part M: code does what is reckoned of it. No project text.
-/
set_option linter.unusedVariables false
set_option linter.unusedSimpArgs false
namespace Go.Proofs.YtfhcigjkfelnfaaGreat.AM
open Go
theorem AWp.drawG {P : Program} {Γ : Ctx} {id : Nat} {ops : Array Oper} {ts ts' : List (Nat × AV)} {hs hs' : List (Name × AO)} {Q : Exit → AS → Prop} {n : Nat} (hn : Γ.n = n)
    (hmode : (P.follows .mixedOrders || !Region.departs ops) = true)
    (L : List Row) (hst : StepsOK P ops 0 L) (hg : got n L ts hs = (wantS L, wantH L, true, ts', hs')) (hind : indep ops L ts hs = true) (hQ : Q .normal (mk ts' hs')) : AWp P Γ (.region id ops true) (mk ts hs) Q := by
  intro ρ M a w hsim
  refine wp_region_draw fun t => ?_
  have hsch : Region.schedule (P.follows .mixedOrders) ops t = Region.linearise .any ops t := by
    unfold Region.schedule; rw [hmode]; rfl
  rw [hsch]
  refine wpAny_sound ops.size t _ a _ ?_
  refine any_order hn hst (by rw [hg]) (by rw [hg]) (by rw [hg]) hind (Q := fun e a' w' => ∃ s' ρ' M', Q e s' ∧ Sim Γ ρ' M' s' a' w') (fun ρ' M' a' w' hs => ⟨_, ρ', M', hQ, by rw [hg] at hs; exact hs⟩)
    ops.size (Array.replicate ops.size false) a _ ρ M (by simp) (fun i o hi hl => by simp [Array.getD_eq_getD_getElem?, Array.getElem?_replicate] at hl; split at hl <;> simp at hl) ?_ ?_
  · have : ∀ (f : Nat → Bool) k, cnt f k ≤ k := by
      intro f k
      induction k with
      | zero => exact Nat.le_refl _
      | succ k ih => simp only [cnt]; split <;> omega
    exact this _ _
  · refine hsim.drew.congr (fun t => ?_) (fun m => ?_)
    · have := RD_slot_cut (E := fun i => rowAt L i) (D := fun i => (Array.replicate ops.size false).getD i false) (s := mk ts hs) (t := t) (i := 0) L.length (by omega) (fun j _ _ _ => by
        simp only [Array.getD_eq_getD_getElem?, Array.getElem?_replicate]; split <;> rfl)
      exact this
    · have := RD_heap_cut (E := fun i => rowAt L i) (D := fun i => (Array.replicate ops.size false).getD i false) (s := mk ts hs) (m := m) (i := 0) L.length (by omega) (fun j _ _ _ => by
        simp only [Array.getD_eq_getD_getElem?, Array.getElem?_replicate]; split <;> rfl)
      exact this
theorem AWp.drawX {P : Program} {Γ : Ctx} {id : Nat} {ops : Array Oper} {ts ts' : List (Nat × AV)} {hs hs' : List (Name × AO)} {Q : Exit → AS → Prop} {n : Nat} (hn : Γ.n = n)
    (hmode : (P.follows .mixedOrders || !Region.departs ops) = true) (h0 : 0 < ops.size)
    (L : List Row) (hst : StepsM P ops (ops.size - 1) 0 L) (hg : got n L ts hs = (wantS L, wantH L, true, ts', hs')) (hind : indep ops (L ++ [noRow]) ts hs = true)
    (hm : ∀ j, j < ops.size - 1 → ((masks ops.toList []).getD (ops.size - 1) 0).testBit j = true)
    (hlast : ∀ (K : Act → World → Prop), (∀ s' ρ' M' a' w', Q .normal s' → Sim Γ ρ' M' s' a' w' → K a' w') → ∀ ρ M a w, Sim Γ ρ M (mk ts' hs') a w →
      wpOp P ops (fun e a' w' => ∃ s' ρ' M', Q e s' ∧ Sim Γ ρ' M' s' a' w') (ops.size - 1) K a w) : AWp P Γ (.region id ops true) (mk ts hs) Q := by
  obtain ⟨hsteps, hsize⟩ := stepsM_get hst
  have hlen : (L ++ [noRow]).length = ops.size := by simp; omega
  have hL : L.length = ops.size - 1 := by omega
  intro ρ M a w hsim
  refine wp_region_draw fun t => ?_
  have hsch : Region.schedule (P.follows .mixedOrders) ops t = Region.linearise .any ops t := by
    unfold Region.schedule; rw [hmode]; rfl
  rw [hsch]
  refine wpAny_sound ops.size t _ a _ ?_
  have hgn := got_noRow n L ts hs
  refine any_orderX (L := L ++ [noRow]) true hn (Q := fun e a' w' => ∃ s' ρ' M', Q e s' ∧ Sim Γ ρ' M' s' a' w') (fun i y hi hlt => ?_) hlen.symm (by rw [hgn, hg, wantS_noRow]) (by rw [hgn, hg, wantH_noRow]) (by rw [hgn, hg]) hind
    (fun _ => ?_) (fun h => by simp at h) ops.size (Array.replicate ops.size false) a _ ρ M (by simp) (fun _ => by
      simp only [Array.getD_eq_getD_getElem?, Array.getElem?_replicate]; split <;> rfl) (fun i o hi hl => by simp [Array.getD_eq_getD_getElem?, Array.getElem?_replicate] at hl; split at hl <;> simp at hl) ?_ ?_
  · have hi2 := hlt rfl
    rw [List.getElem?_append_left (by omega)] at hi
    have := hsteps i y hi
    rwa [Nat.zero_add] at this
  · rw [hlen]
    refine ⟨h0, by rw [List.getElem?_append_right (by omega), hL, Nat.sub_self]; rfl, hm, fun ρ M a w K hs hK => ?_⟩
    rw [hgn, hg] at hs
    exact hlast K (fun s' ρ' M' a' w' hq hs' => hK a' w' ⟨s', ρ', M', hq, hs'⟩) ρ M a w hs
  · have : ∀ (f : Nat → Bool) k, cnt f k ≤ k := by
      intro f k
      induction k with
      | zero => exact Nat.le_refl _
      | succ k ih => simp only [cnt]; split <;> omega
    exact this _ _
  · refine hsim.drew.congr (fun t => ?_) (fun m => ?_)
    · have := RD_slot_cut (E := fun i => rowAt (L ++ [noRow]) i) (D := fun i => (Array.replicate ops.size false).getD i false) (s := mk ts hs) (t := t) (i := 0) (L ++ [noRow]).length (by omega) (fun j _ _ _ => by
        simp only [Array.getD_eq_getD_getElem?, Array.getElem?_replicate]; split <;> rfl)
      exact this
    · have := RD_heap_cut (E := fun i => rowAt (L ++ [noRow]) i) (D := fun i => (Array.replicate ops.size false).getD i false) (s := mk ts hs) (m := m) (i := 0) (L ++ [noRow]).length (by omega) (fun j _ _ _ => by
        simp only [Array.getD_eq_getD_getElem?, Array.getElem?_replicate]; split <;> rfl)
      exact this
variable {L L' : Lens} {ts ts' : TS} {hs hs' : HS}
theorem erT_mem {t : Nat} {v : BV} (h : erT L ts = erT L' ts) (hm : (t, v) ∈ ts) : v.er L = v.er L' := by
  unfold erT at h
  have := (List.map_inj_left.1 h) _ hm
  simpa using this
theorem erH_mem {t : Name} {v : BO} (h : erH L hs = erH L' hs) (hm : (t, v) ∈ hs) : v.er L = v.er L' := by
  unfold erH at h
  have := (List.map_inj_left.1 h) _ hm
  simpa using this
theorem erT_sub {rd : TS} (h : erT L ts = erT L' ts) (hs : ∀ t v, (t, v) ∈ rd → look t ts = some v) : erT L rd = erT L' rd := by
  unfold erT
  exact List.map_congr_left fun p hp => by rw [erT_mem h (look_mem (hs p.1 p.2 hp))]
theorem erH_sub {hp : HS} (h : erH L hs = erH L' hs) (hsub : ∀ t v, (t, v) ∈ hp → look t hs = some v) : erH L hp = erH L' hp := by
  unfold erH
  exact List.map_congr_left fun p hp => by rw [erH_mem h (look_mem (hsub p.1 p.2 hp))]
theorem erH_app {a b : HS} (h : erH L (a ++ b) = erH L' (a ++ b)) : erH L a = erH L' a ∧ erH L b = erH L' b := by
  rw [erH_append, erH_append] at h
  exact List.append_inj h (by simp [erH])
theorem erT_put {d : Option Nat} {v : BV} (h : erT L (putB d v ts) = erT L' (putB d v ts)) (ha : anyB d v = true) : erT L ts = erT L' ts ∧ v.er L = v.er L' := by
  cases d with
  | some d =>
    simp only [putB, erT, List.map_cons, List.cons.injEq, Prod.mk.injEq, true_and] at h
    exact ⟨h.2, h.1⟩
  | none =>
    refine ⟨h, ?_⟩
    cases v <;> first | rfl | simp [anyB] at ha
section
variable {R : Type} {r : R} {P : Program} {ty : TypeId → Option TC} {E : Env} {nn : Nat}
theorem got_cons {d : Option Nat} {e : Eff} {rows : List Row} {ts : List (Nat × AV)} {hs : List (Name × AO)} {ts' : List (Nat × AV)} {hs' : List (Name × AO)} (h1 : ∀ t x, (t, x) ∈ e.rd → look t ts = some x) (h2 : ∀ n o, (n, o) ∈ e.hp → look n hs = some o)
    (hd : dstOK nn d = true) (hnw : newOK e ts hs = true) (h : got nn rows (putT ts d e) (e.upd ++ hs) = (wantS rows, wantH rows, true, ts', hs')) : got nn ((d, e) :: rows) ts hs = (wantS ((d, e) :: rows), wantH ((d, e) :: rows), true, ts', hs') := by
  simp only [got, h, wantS, wantH, hd, hnw, Bool.and_self]
  have e1 : e.rd.map (fun p => look p.1 ts) = e.rd.map (fun p => some p.2) := List.map_congr_left fun p hp => h1 p.1 p.2 hp
  have e2 : e.hp.map (fun p => look p.1 hs) = e.hp.map (fun p => some p.2) := List.map_congr_left fun p hp => h2 p.1 p.2 hp
  rw [e1, e2]
theorem dregK_some {sp : Bool} {mm : Nat} {ops : Array Oper} {K : List BRow → TS → HS → Option R} (hE : EnvOK P E) : ∀ (f i : Nat) (acc : List BRow) (ts : TS) (hs : HS) (L : Lens), dregK P ty E nn ops sp mm K f i acc ts hs = some r → Inv L hs →
    ∃ rows ts' hs' L', K (acc.reverse ++ rows) ts' hs' = some r ∧ Inv L' hs' ∧ StepsM P ops mm i (rows.map (BRow.row L')) ∧ erT L ts = erT L' ts ∧ erH L hs = erH L' hs ∧
      got nn (rows.map (BRow.row L')) (erT L' ts) (erH L' hs) = (wantS (rows.map (BRow.row L')), wantH (rows.map (BRow.row L')), true, erT L' ts', erH L' hs')
  | 0, i, acc, ts, hs, L, h, hi => by
    simp only [dregK] at h
    split at h
    · rename_i e
      exact ⟨[], ts, hs, L, by simpa using h, hi, Nat.eq_of_beq_eq_true e, rfl, rfl, by simp only [List.map_nil, got, wantS, wantH]⟩
    · simp at h
  | f + 1, i, acc, ts, hs, L, h, hi => by
    simp only [dregK] at h
    split at h
    · simp at h
    · rename_i o hop
      have hdo : ∀ (x : TS), (∀ t v, (t, v) ∈ x → look t ts = some v) → (∀ e' : Eff, (∀ p, p ∈ x → (p.1, p.2.er L) ∈ e'.rd) → OpOK P o e' → StepOK P ops i o.dst e') →
          opK P ty E sp nn x o ts hs (fun e ts' hs' => if anyB o.dst e.v then dregK P ty E nn ops sp mm K f (i + 1) ((o.dst, x ++ rdB ts o.op.operands.toList, e) :: acc) ts' hs' else none) = some r →
          ∃ rows ts' hs' L', K (acc.reverse ++ rows) ts' hs' = some r ∧ Inv L' hs' ∧ StepsM P ops mm i (rows.map (BRow.row L')) ∧ erT L ts = erT L' ts ∧ erH L hs = erH L' hs ∧
            got nn (rows.map (BRow.row L')) (erT L' ts) (erH L' hs) = (wantS (rows.map (BRow.row L')), wantH (rows.map (BRow.row L')), true, erT L' ts', erH L' hs') := fun x hx hstp h => by
        obtain ⟨e, L1, hst, hd, h⟩ := opK_some hE hx h hi
        split at h
        case isFalse => simp at h
        rename_i hany
        obtain ⟨rows, ts', hs', L', k1, k2, k3, k4, k5, k6⟩ := dregK_some (sp := sp) (mm := mm) (ops := ops) (K := K) hE f (i + 1) _ _ _ L1 h hst.inv
        obtain ⟨p1, p2⟩ := erT_put k4 hany
        obtain ⟨q1, q2⟩ := erH_app k5
        have hts : erT L ts = erT L' ts := hst.ets.trans p1
        have hhs : erH L hs = erH L' hs := hst.ehs.trans q2
        have hrd := erT_sub hts hst.rds
        have hhp := erH_sub hhs hst.hps
        have hok := hst.ok
        rw [p2, q1] at hok
        refine ⟨(o.dst, x ++ rdB ts o.op.operands.toList, e) :: rows, ts', hs', L', by simpa using k1, k2, ⟨?_, k3⟩, hts, hhs, ?_⟩
        · have := hstp _ (fun p hp => List.mem_map.2 ⟨p, List.mem_append_left _ hp, rfl⟩) hok
          simp only [BRow.row, ← hrd, ← hhp]; exact this
        · simp only [List.map_cons]
          refine got_cons (fun t y hy => ?_) (fun n ob hy => ?_) hd ?_ ?_
          · simp only [BRow.row, erT, List.mem_map] at hy
            obtain ⟨⟨t', v⟩, hm, he⟩ := hy
            cases he
            rw [look_erT, hst.rds _ _ hm]; rfl
          · simp only [BRow.row, erH, List.mem_map] at hy
            obtain ⟨⟨t', v⟩, hm, he⟩ := hy
            cases he
            rw [look_erH, hst.hps _ _ hm]; rfl
          · have hnew := hst.new
            unfold newBs at hnew
            simp only [newOK, BRow.row, freeS_er, keys_erH]
            refine List.all_eq_true.2 fun n hn => ?_
            have := List.all_eq_true.1 hnew n hn
            simp only [Bool.and_eq_true] at this ⊢
            refine ⟨⟨?_, this.1.2⟩, this.2⟩
            rw [look_erH]
            cases hl : look n hs with
            | none => rfl
            | some y => rw [hl] at this; simp at this
          · have e3 : ∀ t1 h1, t1 = erT L' (putB o.dst e.v ts) → h1 = erH L' (e.upd ++ hs) → got nn (rows.map (BRow.row L')) t1 h1 = (wantS (rows.map (BRow.row L')), wantH (rows.map (BRow.row L')), true, erT L' ts', erH L' hs') := fun t1 h1 a b => by rw [a, b]; exact k6
            exact e3 _ _ (by show putT (erT L' ts) o.dst _ = _; cases o.dst <;> rfl) (by rw [erH_append])
      have hskip : ∀ {j : Nat} {b : Bool} {g : Nat} {v : BV}, o.guard = some (j, b) → (ops[j]?).bind (·.dst) = some g → look g ts = some v → (v = .b (!b) ∨ v = .tup []) →
          (if dstOK nn o.dst then dregK P ty E nn ops sp mm K f (i + 1) ((o.dst, [(g, v)], ev (.tup [])) :: acc) (putB o.dst (.tup []) ts) hs else none) = some r →
          ∃ rows ts' hs' L', K (acc.reverse ++ rows) ts' hs' = some r ∧ Inv L' hs' ∧ StepsM P ops mm i (rows.map (BRow.row L')) ∧ erT L ts = erT L' ts ∧ erH L hs = erH L' hs ∧
            got nn (rows.map (BRow.row L')) (erT L' ts) (erH L' hs) = (wantS (rows.map (BRow.row L')), wantH (rows.map (BRow.row L')), true, erT L' ts', erH L' hs') := fun {j b g v} hg hj hl hv h => by
        split at h
        case isFalse => simp at h
        rename_i hd
        obtain ⟨rows, ts', hs', L', k1, k2, k3, k4, k5, k6⟩ := dregK_some (sp := sp) (mm := mm) (ops := ops) (K := K) hE f (i + 1) _ _ _ L h hi
        have hts : erT L ts = erT L' ts := by
          cases hdd : o.dst with
          | none => rw [hdd] at k4; exact k4
          | some d => rw [hdd] at k4; simp only [putB, erT, List.map_cons, List.cons.injEq] at k4; exact k4.2
        obtain ⟨oj, h1, h2⟩ := bind_some hj
        refine ⟨(o.dst, [(g, v)], ev (.tup [])) :: rows, ts', hs', L', by simpa using k1, k2, ⟨?_, k3⟩, hts, k5, ?_⟩
        · rcases hv with rfl | rfl
          · exact StepOK.skipped hop hg h1 h2
          · exact StepOK.skipped2 hop hg h1 h2
        · simp only [List.map_cons]
          refine got_cons (fun t y hy => ?_) (fun n ob hy => ?_) hd ?_ ?_
          · simp only [BRow.row, erT, List.map_cons, List.map_nil, List.mem_singleton, Prod.mk.injEq] at hy
            obtain ⟨rfl, rfl⟩ := hy
            rw [look_erT, hl]; rfl
          · simp [BRow.row, ev, erH] at hy
          · simp [newOK, BRow.row, ev]
          · have e3 : ∀ t1 h1, t1 = erT L' (putB o.dst (.tup []) ts) → h1 = erH L' hs → got nn (rows.map (BRow.row L')) t1 h1 = (wantS (rows.map (BRow.row L')), wantH (rows.map (BRow.row L')), true, erT L' ts', erH L' hs') := fun t1 h1 a b => by rw [a, b]; exact k6
            exact e3 _ _ (by show putT (erT L' ts) o.dst _ = _; cases o.dst <;> rfl) rfl
      have hgd : ∀ {j : Nat} {b : Bool} {g : Nat}, o.guard = some (j, b) → (ops[j]?).bind (·.dst) = some g → ∀ e' : Eff, (∀ p : Nat × BV, p ∈ [(g, BV.b b)] → (p.1, p.2.er L) ∈ e'.rd) → OpOK P o e' → StepOK P ops i o.dst e' := fun {j b g} hg hj e' hm hok => by
        obtain ⟨oj, h1, h2⟩ := bind_some hj
        have := hm (g, BV.b b) (by simp)
        simp only [BV.er] at this
        exact StepOK.guarded hop hg h1 h2 this hok
      have hx1 : ∀ {g : Nat} {b : Bool}, look g ts = some (.b b) → ∀ t v, (t, v) ∈ [(g, BV.b b)] → look t ts = some v := fun hl t v hm => by
        simp only [List.mem_singleton, Prod.mk.injEq] at hm; obtain ⟨rfl, rfl⟩ := hm; exact hl
      split at h
      · rename_i hg
        exact hdo [] (fun t v hm => by simp at hm) (fun e' _ hok => StepOK.plain hop hg hok) h
      · rename_i j b hg
        split at h
        · simp at h
        · rename_i g hj
          split at h
          · rename_i q hl
            rcases cnd_some h with ⟨rfl, h⟩ | ⟨rfl, h⟩
            · cases b with
              | true => exact hdo [(g, .b true)] (hx1 hl) (hgd hg hj) h
              | false => exact hskip hg hj hl (.inl rfl) h
            · cases b with
              | true => exact hskip hg hj hl (.inl rfl) h
              | false => exact hdo [(g, .b false)] (hx1 hl) (hgd hg hj) h
          · rename_i hl
            exact hskip hg hj hl (.inr rfl) h
          · simp at h
mutual
theorem ren_id : ∀ x : AV, x.ren (fun n => n) = x
  | .p _ => by simp only [AV.ren]
  | .agg cs => by simp only [AV.ren, renL_id cs]
  | .ref _ _ => by simp only [AV.ren]
  | .own _ _ => by simp only [AV.ren]
  | .aref _ _ _ _ => by simp only [AV.ren]
  | .view _ _ _ _ => by simp only [AV.ren]
  | .eptr _ => by simp only [AV.ren]
  | .tup vs => by simp only [AV.ren, renL_id vs]
  | .clo f a c => by simp only [AV.ren, renL_id a, renL_id c]
  | .oref _ _ => by simp only [AV.ren]
  | .err _ => by simp only [AV.ren]
  | .ub => by simp only [AV.ren]
  | .any => by simp only [AV.ren]
theorem renL_id : ∀ l : List AV, renL (fun n => n) l = l
  | [] => by simp only [renL]
  | x :: r => by simp only [renL, ren_id x, renL_id r]
end
theorem verOf_fit {σ : Ren} (h : idRen σ = true) : Fit (fun n => n) (verOf σ) σ := fun nm m hm => by
  have := List.all_eq_true.1 h _ hm
  simp only [Bool.and_eq_true] at this
  refine ⟨Nat.eq_of_beq_eq_true this.1, ?_⟩
  unfold verOf; rw [lookIs_of this.2]
theorem getS_some {gn : List Name} {s : List (Nat × SSh)} {o : List (Name × OSh)} {K : STL s × OL o → Option R} (h : getS gn s o ts hs K = some r) (hi : Inv L hs) :
    ∃ x L', K x = some r ∧ Inv L' (OL.put 0 o x.2) ∧ SLe L ts hs L' (STL.put 0 s x.1) (OL.put 0 o x.2) ∧ ∀ n, n ∈ gn → look n (OL.put 0 o x.2) ≠ none := by
  obtain ⟨σ1, x, h, hs1, g1⟩ := STL.get_some h
  obtain ⟨σ2, y, h, hs2, g2⟩ := OL.get_some h
  split at h
  case isFalse => simp at h
  rename_i hid
  simp only [Bool.and_eq_true] at hid
  have hf2 := verOf_fit hid.1
  have hf1 : Fit (fun n => n) (verOf σ2) σ1 := hf2.mono fun p hp => hs2 p (List.mem_append_right _ hp)
  refine ⟨(x, y), lensOf L (fun n => n) (verOf σ2), h, fun n t l v hn => ?_, ⟨fun t b hb => ?_, fun n cs' hn => ?_, fun n t l v hn => ?_, fun n es hn => ?_⟩, fun n hn hc => ?_⟩
  · obtain ⟨a, ha, hle⟩ := g2 _ _ L hf2 n _ hn
    rcases hle with ⟨cs, ds, _, h2, _⟩ | ⟨t', l', rfl, h2⟩ | ⟨es, _, h2⟩
    · cases h2
    · cases h2; exact hi n t l _ ha
    · cases h2
  · obtain ⟨a, ha, hle⟩ := g1 _ _ L hf1 t b hb
    rw [ren_id] at hle
    exact ⟨a, ha, hle⟩
  · obtain ⟨a, ha, hle⟩ := g2 _ _ L hf2 n _ hn
    rcases hle with ⟨cs, ds, rfl, h2, h3⟩ | ⟨t', l', rfl, h2⟩ | ⟨es, _, h2⟩
    · cases h2; rw [renL_id] at h3; exact ⟨cs, ha, h3⟩
    · cases h2
    · cases h2
  · obtain ⟨a, ha, hle⟩ := g2 _ _ L hf2 n _ hn
    rcases hle with ⟨cs, ds, _, h2, _⟩ | ⟨t', l', rfl, h2⟩ | ⟨es, _, h2⟩
    · cases h2
    · cases h2; exact ⟨_, ha⟩
    · cases h2
  · obtain ⟨a, ha, hle⟩ := g2 _ _ L hf2 n _ hn
    rcases hle with ⟨cs, ds, _, h2, _⟩ | ⟨t', l', rfl, h2⟩ | ⟨es, rfl, h2⟩
    · cases h2
    · cases h2
    · cases h2; exact ha
  · have := isIn_iff.1 (List.all_eq_true.1 hid.2 n hn)
    obtain ⟨b, hb⟩ := look_put (u := 0) (y := y) this
    rw [hb] at hc; simp at hc
theorem look_map : ∀ (l : List (Nat × AV)), ∃ l', (∀ k, look k l' = look k l) ∧ l'.map (fun p => look p.1 l) = l'.map (fun p => some p.2) := by
    intro l
    induction l with
    | nil => exact ⟨[], fun _ => rfl, rfl⟩
    | cons p l ih =>
      obtain ⟨l', g1, g2⟩ := ih
      refine ⟨p :: (l'.filter fun q => !(q.1 == p.1)), fun k => ?_, ?_⟩
      · simp only [look]
        split
        · rfl
        · rename_i hne
          rw [← g1]
          clear g1 g2
          induction l' with
          | nil => rfl
          | cons q l' ih =>
            by_cases hq : q.1 = p.1
            · rw [List.filter_cons_of_neg (by simp [hq]), ih]
              simp only [look]
              rw [if_neg (by rw [hq]; exact hne)]
            · rw [List.filter_cons_of_pos (by simp [hq])]
              simp only [look]
              split
              · rfl
              · exact ih
      · simp only [List.map_cons, look, if_true]
        congr 1
        refine List.map_congr_left fun q hq => ?_
        have hq' := List.mem_filter.1 hq
        have hne : ¬ p.1 = q.1 := fun e => by have := hq'.2; rw [e] at this; simp at this
        rw [if_neg hne]
        exact (List.map_inj_left.1 g2) q hq'.1
theorem thaw_agg {Γ : Ctx} {t nm : Nat} {j es0 : Nat} {tc : TC} {cells : List BV} {v : BV} (hm : look t ts = some (.agg cells)) (hj : cells[j]? = some v) (hv : ∀ L, v.er L = .p (.sl true es0 [])) (hb : (look nm hs).isNone = true) (hf : freeS nm ts hs = true) (ht : Nat.ble 1 (tz tc) = true) (hi : Inv L hs) :
    ∃ L', Inv L' ((nm, .arr tc [] 0) :: hs) ∧ Weak Γ (BS L ts hs) (BS L' ((t, .agg (cells.set j (.own nm 0))) :: ts) ((nm, .arr tc [] 0) :: hs)) := by
  let L1 : Lens := fun n u => if n = nm then 0 else L n u
  have hnm : look nm hs = none := Option.isNone_iff_eq_none.1 hb
  obtain ⟨e1, e2⟩ := erS_congr (L := L) (L' := L1) (nw := [nm]) (nv := []) (ts := ts) (hs := hs) (fun n hn => by simp only [List.mem_singleton] at hn; subst hn; exact hf) (fun p hp => by simp at hp) (fun n u hn _ => if_neg (by simpa using hn))
  have ec : erL L cells = erL L1 cells := by
    have h1 : look t (erT L ts) = look t (erT L1 ts) := by rw [e1]
    rw [look_erT, look_erT, hm, Option.map_some, Option.map_some] at h1
    simp only [BV.er, Option.some.injEq, AV.agg.injEq] at h1
    exact h1
  have hi1 : Inv L1 ((nm, .arr tc [] 0) :: hs) := fun n t' l u hn => by
    simp only [look] at hn
    split at hn
    · rename_i e; subst e; cases hn; exact if_pos rfl
    · rename_i e; show (if n = nm then 0 else L n u) = _; rw [if_neg (Ne.symm e)]; exact hi n t' l u hn
  refine ⟨L1, hi1, fun ρ M a w hs0 => ?_⟩
  obtain ⟨l', g1, g2⟩ := look_map ((t, AV.agg ((erL L cells).set j (.own nm 0))) :: erT L ts)
  have hw := Weak.thawA (Γ := Γ) (ts := erT L ts) (ts' := l') (hs := erH L hs) (t := t) (j := j) (es0 := es0) (es := tz tc) (n := nm) (cells := erL L cells) ht (by rw [look_erT, hm, Option.map_some]; simp only [BV.er])
    (by rw [erL_get, hj, Option.map_some, hv L]) (by rw [look_erH, hnm]; rfl) (by rw [freeS_er]; exact hf) g2
  obtain ⟨ρ', M', hs1⟩ := hw ρ M a w hs0
  refine ⟨ρ', M', hs1.congr (fun k => ?_) (fun k => ?_)⟩
  · show look k (erT L1 ((t, .agg (cells.set j (.own nm 0))) :: ts)) = look k l'
    rw [g1]
    have : erL L1 (cells.set j (.own nm 0)) = (erL L cells).set j (.own nm 0) := by
      rw [ec, erL_map, erL_map, List.map_set]
      simp only [BV.er, show L1 nm 0 = 0 from if_pos rfl]
    show look k ((t, (BV.agg (cells.set j (.own nm 0))).er L1) :: erT L1 ts) = _
    simp only [BV.er, this, ← e1]
  · show look k (erH L1 ((nm, .arr tc [] 0) :: hs)) = look k ((nm, .arr (tz tc) []) :: erH L hs)
    show look k ((nm, (BO.arr tc [] 0).er L1) :: erH L1 hs) = _
    simp only [BO.er, List.map_nil, ← e2]
theorem thawA_some {o : List (Name × OSh)} {t : Nat} {Γ : Ctx} : ∀ {l : List Sh} {j : Nat} {ts : TS} {hs : HS} {L : Lens} {K : TS → HS → Option R}, thawA o t j l ts hs K = some r → Inv L hs →
    ∃ ts' hs' L', K ts' hs' = some r ∧ Inv L' hs' ∧ Weak Γ (BS L ts hs) (BS L' ts' hs')
  | [], j, ts, hs, L, K, h, hi => ⟨ts, hs, L, h, hi, Weak.refl _ _⟩
  | s :: l, j, ts, hs, L, K, h, hi => by
    have hth : ∀ {nm : Name} {tc : TC} {v : BV} {es0 : Nat} {cells : List BV}, look t ts = some (.agg cells) → cells[j]? = some v → (∀ L, v.er L = .p (.sl true es0 [])) →
        (if (look nm hs).isNone && freeS nm ts hs && Nat.ble 1 (tz tc) then thawA o t (j + 1) l ((t, .agg (cells.set j (.own nm 0))) :: ts) ((nm, .arr tc [] 0) :: hs) K else none) = some r →
        ∃ ts' hs' L', K ts' hs' = some r ∧ Inv L' hs' ∧ Weak Γ (BS L ts hs) (BS L' ts' hs') := fun {nm tc v es0 cells} hm hj hv h => by
      split at h
      case isFalse => simp at h
      rename_i hb
      simp only [Bool.and_eq_true] at hb
      obtain ⟨L1, hi1, hw1⟩ := thaw_agg (Γ := Γ) hm hj hv hb.1.1 hb.1.2 hb.2 hi
      obtain ⟨ts', hs', L', k1, k2, k3⟩ := thawA_some h hi1
      exact ⟨ts', hs', L', k1, k2, Weak.trans hw1 k3⟩
    unfold thawA at h
    split at h
    · rename_i heq; cases heq
    · rename_i nm r0 heq
      cases heq
      split at h
      · rename_i cells hm
        split at h
        · rename_i tc hj ho; exact hth (es0 := 0) hm hj (fun L => by simp only [BV.er]) h
        · rename_i t0 tc hj ho; exact hth (es0 := tz t0) hm hj (fun L => by simp only [BV.er, List.map_nil]) h
        · exact thawA_some h hi
      · exact thawA_some h hi
    · rename_i heq; cases heq; exact thawA_some h hi
theorem thawK_some {o : List (Name × OSh)} {Γ : Ctx} : ∀ {s : List (Nat × SSh)} {ts : TS} {hs : HS} {L : Lens} {K : TS → HS → Option R}, thawK o s ts hs K = some r → Inv L hs →
    ∃ ts' hs' L', K ts' hs' = some r ∧ Inv L' hs' ∧ Weak Γ (BS L ts hs) (BS L' ts' hs')
  | [], ts, hs, L, K, h, hi => ⟨ts, hs, L, h, hi, Weak.refl _ _⟩
  | p :: s, ts, hs, L, K, h, hi => by
    obtain ⟨t, sh⟩ := p
    have hth : ∀ {nm : Name} {tc : TC} {v : BV} {es0 : Nat}, look t ts = some v → (∀ L, v.er L = .p (.sl true es0 [])) →
        (if (look nm hs).isNone && freeS nm ts hs && Nat.ble 1 (tz tc) then thawK o s ((t, .own nm 0) :: ts) ((nm, .arr tc [] 0) :: hs) K else none) = some r →
        ∃ ts' hs' L', K ts' hs' = some r ∧ Inv L' hs' ∧ Weak Γ (BS L ts hs) (BS L' ts' hs') := fun {nm tc v es0} hv hv2 h => by
      split at h
      case isFalse => simp at h
      rename_i hb
      simp only [Bool.and_eq_true, Option.isNone_iff_eq_none] at hb
      let L1 : Lens := fun n u => if n = nm then 0 else L n u
      obtain ⟨e1, e2⟩ := erS_congr (L := L) (L' := L1) (nw := [nm]) (nv := []) (ts := ts) (hs := hs) (fun n hn => by simp only [List.mem_singleton] at hn; subst hn; exact hb.1.2) (fun p hp => by simp at hp) (fun n u hn _ => if_neg (by simpa using hn))
      have hi1 : Inv L1 ((nm, .arr tc [] 0) :: hs) := fun n t' l u hn => by
        simp only [look] at hn
        split at hn
        · rename_i e; subst e; cases hn; exact if_pos rfl
        · rename_i e; show (if n = nm then 0 else L n u) = _; rw [if_neg (Ne.symm e)]; exact hi n t' l u hn
      obtain ⟨ts', hs', L', k1, k2, k3⟩ := thawK_some (Γ := Γ) h hi1
      refine ⟨ts', hs', L', k1, k2, Weak.trans ?_ k3⟩
      obtain ⟨l', g1, g2⟩ := look_map ((t, .own nm 0) :: erT L ts)
      have hw := Weak.thaw (Γ := Γ) (ts := erT L ts) (ts' := l') (hs := erH L hs) (t := t) (es0 := es0) (es := tz tc) (n := nm) hb.2 (by rw [look_erT, hv, Option.map_some, hv2 L]) (by rw [look_erH, hb.1.1]; rfl) (by rw [freeS_er]; exact hb.1.2) g2
      refine fun ρ M a w hs0 => ?_
      obtain ⟨ρ', M', hs1⟩ := hw ρ M a w hs0
      refine ⟨ρ', M', hs1.congr (fun k => ?_) (fun k => ?_)⟩
      · show look k (erT L1 ((t, .own nm 0) :: ts)) = look k l'
        rw [g1]
        show look k ((t, (BV.own nm 0).er L1) :: erT L1 ts) = _
        simp only [BV.er, show L1 nm 0 = 0 from if_pos rfl, ← e1]
      · show look k (erH L1 ((nm, .arr tc [] 0) :: hs)) = look k ((nm, .arr (tz tc) []) :: erH L hs)
        show look k ((nm, (BO.arr tc [] 0).er L1) :: erH L1 hs) = _
        simp only [BO.er, List.map_nil, ← e2]
    unfold thawK at h
    split at h
    · rename_i t1 l1 r0 heq
      cases heq
      obtain ⟨ts1, hs1, L1, h, hi1, hw1⟩ := thawA_some (Γ := Γ) h hi
      obtain ⟨ts2, hs2, L2, h, hi2, hw2⟩ := thawK_some (Γ := Γ) h hi1
      exact ⟨ts2, hs2, L2, h, hi2, Weak.trans hw1 hw2⟩
    · rename_i nm r0 heq
      split at h
      · rename_i tc hv ho
        cases heq
        exact hth (es0 := 0) hv (fun L => by simp only [BV.er]) h
      · rename_i t0 tc hv ho
        cases heq
        exact hth (es0 := tz t0) hv (fun L => by simp only [BV.er, List.map_nil]) h
      · cases heq; exact thawK_some h hi
    · rename_i heq; cases heq; exact thawK_some h hi
    · rename_i heq; cases heq
theorem thaw_cell {Γ : Ctx} {m nm : Name} {j es0 : Nat} {tc : TC} {cells : List BV} {v : BV} (hm : look m hs = some (.box cells)) (hj : cells[j]? = some v) (hv : ∀ L, v.er L = .p (.sl true es0 [])) (hb : (look nm hs).isNone = true) (hf : freeS nm ts hs = true) (ht : Nat.ble 1 (tz tc) = true) (hi : Inv L hs) :
    ∃ L', Inv L' ((m, .box (cells.set j (.own nm 0))) :: (nm, .arr tc [] 0) :: hs) ∧ Weak Γ (BS L ts hs) (BS L' ts ((m, .box (cells.set j (.own nm 0))) :: (nm, .arr tc [] 0) :: hs)) := by
  let L1 : Lens := fun n u => if n = nm then 0 else L n u
  have hnm : look nm hs = none := Option.isNone_iff_eq_none.1 hb
  have hne : m ≠ nm := fun e => by subst e; rw [hnm] at hm; simp at hm
  obtain ⟨e1, e2⟩ := erS_congr (L := L) (L' := L1) (nw := [nm]) (nv := []) (ts := ts) (hs := hs) (fun n hn => by simp only [List.mem_singleton] at hn; subst hn; exact hf) (fun p hp => by simp at hp) (fun n u hn _ => if_neg (by simpa using hn))
  have ec : erL L cells = erL L1 cells := by
    have := erH_mem e2 (look_mem hm)
    simp only [BO.er, AO.box.injEq] at this
    exact this
  refine ⟨L1, fun n t' l u hn => ?_, fun ρ M a w hs0 => ?_⟩
  · simp only [look] at hn
    split at hn
    · cases hn
    · split at hn
      · rename_i e; subst e; cases hn; exact if_pos rfl
      · rename_i e; show (if n = nm then 0 else L n u) = _; rw [if_neg (Ne.symm e)]; exact hi n t' l u hn
  · have hs1 : Sim Γ ρ M (mk (erT L ts) ((m, .box (erL L cells)) :: erH L hs)) a w := hs0.congr (fun k => rfl) (fun k => by
      show look k ((m, AO.box (erL L cells)) :: erH L hs) = look k (erH L hs)
      simp only [look]
      split
      · rename_i e; subst e; rw [look_erH, hm]; rfl
      · rfl)
    have hfree : freeIn nm (erT L ts) ((m, .box (erL L cells)) :: erH L hs) = true := by
      have h1 := hf
      rw [← freeS_er (L := L)] at h1
      simp only [freeIn, Bool.and_eq_true, List.all_cons] at h1 ⊢
      have h2 := List.all_eq_true.1 h1.2 _ (show (m, AO.box (erL L cells)) ∈ erH L hs from look_mem (by rw [look_erH, hm]; rfl))
      exact ⟨h1.1, h2, h1.2⟩
    obtain ⟨ρ', M', hs2⟩ := Weak.thawCell (Γ := Γ) (ts := erT L ts) (hs' := erH L hs) (m := m) (j := j) (es0 := es0) (es := tz tc) (n := nm) (cells := erL L cells) ht rfl (by rw [erL_get, hj, Option.map_some, hv L])
      (by simp only [look, if_neg hne, look_erH, hnm]; rfl) hfree rfl ρ M a w hs1
    refine ⟨ρ', M', hs2.congr (fun k => ?_) (fun k => ?_)⟩
    · show look k (erT L1 ts) = look k (erT L ts)
      rw [e1]
    · show look k (erH L1 ((m, .box (cells.set j (.own nm 0))) :: (nm, .arr tc [] 0) :: hs)) = look k ((m, .box ((erL L cells).set j (.own nm 0))) :: (nm, .arr (tz tc) []) :: erH L hs)
      have : erL L1 (cells.set j (.own nm 0)) = (erL L cells).set j (.own nm 0) := by
        rw [ec, erL_map, erL_map, List.map_set]
        simp only [BV.er, show L1 nm 0 = 0 from if_pos rfl]
      show look k ((m, AO.box (erL L1 (cells.set j (.own nm 0)))) :: (nm, (BO.arr tc [] 0).er L1) :: erH L1 hs) = _
      rw [this, ← e2]
      simp only [BO.er, List.map_nil]
theorem thawC_some {o : List (Name × OSh)} {m : Name} {Γ : Ctx} : ∀ {l : List Sh} {j : Nat} {hs : HS} {L : Lens} {K : HS → Option R}, thawC o m ts j l hs K = some r → Inv L hs →
    ∃ hs' L', K hs' = some r ∧ Inv L' hs' ∧ Weak Γ (BS L ts hs) (BS L' ts hs')
  | [], j, hs, L, K, h, hi => ⟨hs, L, h, hi, Weak.refl _ _⟩
  | s :: l, j, hs, L, K, h, hi => by
    have hth : ∀ {nm : Name} {tc : TC} {v : BV} {es0 : Nat} {cells : List BV}, look m hs = some (.box cells) → cells[j]? = some v → (∀ L, v.er L = .p (.sl true es0 [])) →
        (if (look nm hs).isNone && freeS nm ts hs && Nat.ble 1 (tz tc) then thawC o m ts (j + 1) l ((m, .box (cells.set j (.own nm 0))) :: (nm, .arr tc [] 0) :: hs) K else none) = some r →
        ∃ hs' L', K hs' = some r ∧ Inv L' hs' ∧ Weak Γ (BS L ts hs) (BS L' ts hs') := fun {nm tc v es0 cells} hm hj hv h => by
      split at h
      case isFalse => simp at h
      rename_i hb
      simp only [Bool.and_eq_true] at hb
      obtain ⟨L1, hi1, hw1⟩ := thaw_cell (Γ := Γ) hm hj hv hb.1.1 hb.1.2 hb.2 hi
      obtain ⟨hs', L', k1, k2, k3⟩ := thawC_some h hi1
      exact ⟨hs', L', k1, k2, Weak.trans hw1 k3⟩
    unfold thawC at h
    split at h
    · rename_i heq; cases heq
    · rename_i nm r0 heq
      cases heq
      split at h
      · rename_i cells hm
        split at h
        · rename_i tc hj ho; exact hth (es0 := 0) hm hj (fun L => by simp only [BV.er]) h
        · rename_i t0 tc hj ho; exact hth (es0 := tz t0) hm hj (fun L => by simp only [BV.er, List.map_nil]) h
        · exact thawC_some h hi
      · exact thawC_some h hi
    · rename_i heq; cases heq; exact thawC_some h hi
theorem thawO_some {o : List (Name × OSh)} {Γ : Ctx} : ∀ {l : List (Name × OSh)} {hs : HS} {L : Lens} {K : HS → Option R}, thawO o ts l hs K = some r → Inv L hs →
    ∃ hs' L', K hs' = some r ∧ Inv L' hs' ∧ Weak Γ (BS L ts hs) (BS L' ts hs')
  | [], hs, L, K, h, hi => ⟨hs, L, h, hi, Weak.refl _ _⟩
  | p :: l, hs, L, K, h, hi => by
    unfold thawO at h
    split at h
    · rename_i m l0 r0 heq
      cases heq
      obtain ⟨hs1, L1, h, hi1, hw1⟩ := thawC_some (Γ := Γ) h hi
      obtain ⟨hs2, L2, h, hi2, hw2⟩ := thawO_some h hi1
      exact ⟨hs2, L2, h, hi2, Weak.trans hw1 hw2⟩
    · rename_i heq; cases heq; exact thawO_some h hi
    · rename_i heq; cases heq
end
end Go.Proofs.YtfhcigjkfelnfaaGreat.AM
/-
  The typed layer, part N: the code of a function; its contract. No project text.
-/
set_option linter.unusedVariables false
set_option linter.unusedSimpArgs false
namespace Go.Proofs.YtfhcigjkfelnfaaGreat.AM
open Go
theorem lastB_get {ops : Array Oper} {o : Oper} (h : lastB ops = true) (ho : ops[ops.size - 1]? = some o) : o.guard = none ∧ ∀ j, j < ops.size - 1 → ((masks ops.toList []).getD (ops.size - 1) 0).testBit j = true := by
  unfold lastB at h
  rw [ho] at h
  split at h
  · rename_i e
    cases e
    refine ⟨rfl, fun j hj => ?_⟩
    rw [List.all_eq_true] at h
    exact h j (List.mem_range.2 hj)
  · simp at h
variable {L L' : Lens} {ts ts' : TS} {hs hs' : HS}
section
variable {R : Type} {r : R} {P : Program} {ty : TypeId → Option TC} {E : Env} {gn : List Name} {nn fu : Nat} {Γ : Ctx}
def QK (K : Cont R) (r : R) : Exit → AS → Prop := fun e s' => ∃ ts' hs' L', s' = BS L' ts' hs' ∧ Inv L' hs' ∧ K e ts' hs' = some r
theorem keepB_gn {o : List (Name × OSh)} {n : Name} (hn : n ∈ gn) : keepB gn o hs n = true := by
  unfold keepB
  split
  · rw [isIn_iff.2 hn, Bool.or_true]
  · rfl
theorem keepA_gn {o : List (Name × OSh)} {n : Name} (hn : n ∈ gn) : keepA gn o ts hs n = true := by
  unfold keepA
  split
  · rw [isIn_iff.2 hn, Bool.true_or, Bool.true_or]
  · rfl
theorem shapeK_some {s : List (Nat × SSh)} {o : List (Name × OSh)} {K : STL s × OL o → Option R} (hgn : Γ.names = gn) (h : shapeK gn s o ts hs K = some r) (hi : Inv L hs) :
    ∃ x L', K x = some r ∧ Inv L' (OL.put 0 o x.2) ∧ Weak Γ (BS L ts hs) (BS L' (STL.put 0 s x.1) (OL.put 0 o x.2)) := by
  unfold shapeK at h
  simp only [trimC_eq] at h
  obtain ⟨ts1, hs1, h, hi1, hw1⟩ := frzK_some hgn h (hi.trim (f := keepB gn o hs))
  obtain ⟨ts2, hs2, L2, h, hi2, hw2⟩ := thawK_some (Γ := Γ) h (hi1.trim (f := keepA gn o ts1 hs1))
  obtain ⟨hs2', L2', h, hi2', hw2'⟩ := thawO_some (Γ := Γ) h hi2
  obtain ⟨x, L3, h, hi3, hle, hk⟩ := getS_some h hi2'
  refine ⟨x, L3, h, hi3, fun ρ M a w hs0 => ?_⟩
  obtain ⟨ρ1, M1, h1⟩ := hw1 ρ M a w (hs0.only (f := keepT s) (g := keepB gn o hs) fun n hn => keepB_gn (by rw [← hgn]; exact hn))
  have h1' : Sim Γ ρ1 M1 (BS L ts1 (trimL (keepA gn o ts1 hs1) [] hs1)) a w := by
    have h2 := h1.only (f := fun _ => true) (g := keepA gn o ts1 hs1) fun n hn => keepA_gn (by rw [← hgn]; exact hn)
    refine h2.congr (fun t => ?_) (fun n => rfl)
    show (BS L ts1 (trimL (keepA gn o ts1 hs1) [] hs1)).slot t = (BS L (trimL (fun _ => true) [] ts1) (trimL (keepA gn o ts1 hs1) [] hs1)).slot t
    rw [BS_slot, BS_slot, look_trimL]; rfl
  obtain ⟨ρ2', M2', h2'⟩ := hw2 ρ1 M1 a w h1'
  obtain ⟨ρ2, M2, h2⟩ := hw2' ρ2' M2' a w h2'
  have h3 : Sim Γ ρ2 M2 (BS L2' (viewT hs2' s ts2) hs2') a w := by
    refine h2.leS (fun t y hy => ?_) (fun n => ⟨fun y hy => ⟨y, hy, .refl _⟩, fun x hx => ⟨x, hx, .refl _⟩⟩) (fun n x y hx hy => ?_)
    · obtain ⟨y', hy', rfl⟩ := slot_of hy
      obtain ⟨x', hx', hle'⟩ := viewT_le hi2' hy'
      exact ⟨x'.er L2', by rw [BS_slot, hx']; rfl, hle'⟩
    · rw [BS_heap] at hx hy; rw [hx] at hy; cases hy; exact .inl rfl
  exact ⟨ρ2, M2, h3.sle hle (by rw [hgn]; exact hk)⟩
theorem around_ok {c : Code} {an : Ann} {K : Cont R} {body : Ann → TS → HS → Cont R → Option R} (hgn : Γ.names = gn) (h : around gn an ts hs K body = some r) (hi : Inv L hs)
    (hb : ∀ an ts hs L K, body an ts hs K = some r → Inv L hs → AWp P Γ c (BS L ts hs) (QK K r)) : AWp P Γ c (BS L ts hs) (QK K r) := by
  unfold around at h
  split at h
  · rename_i s o a
    refine AWp.post ((hb _ _ _ L _ h hi).mono fun e s' => ?_)
    rintro ⟨ts', hs', L', rfl, hi', hk⟩
    cases e with
    | normal =>
      obtain ⟨x, L2, h2, hi2, hw⟩ := shapeK_some hgn hk hi'
      exact ⟨_, hw, _, _, L2, rfl, hi2, h2⟩
    | _ => exact ⟨_, Weak.refl _ _, _, _, L', rfl, hi', hk⟩
  · obtain ⟨ts1, hs1, h, hi1, hw1⟩ := frzK_some hgn h hi
    exact AWp.weaken _ (fun ρ M a w hs0 => hw1 ρ M a w hs0) (hb _ _ _ L _ h hi1)
  · exact hb _ _ _ L _ h hi
theorem vc_ok [DecidableEq R] (hE : EnvOK P E) (hgn : Γ.names = gn) (hn : Γ.n = nn) : ∀ (c : Code) (an : Ann) (ts : TS) (hs : HS) (L : Lens) (K : Cont R), vc P ty E gn nn fu c an ts hs K = some r → Inv L hs → AWp P Γ c (BS L ts hs) (QK K r)
  | .skip, an, ts, hs, L, K, h, hi => AWp.skip ⟨_, _, L, rfl, hi, by simpa only [vc] using h⟩
  | .label _, an, ts, hs, L, K, h, hi => AWp.label ⟨_, _, L, rfl, hi, by simpa only [vc] using h⟩
  | .ret, an, ts, hs, L, K, h, hi => AWp.ret ⟨_, _, L, rfl, hi, by simpa only [vc] using h⟩
  | .exit id, an, ts, hs, L, K, h, hi => AWp.exit ⟨_, _, L, rfl, hi, by simpa only [vc] using h⟩
  | .seq a b, an, ts, hs, L, K, h, hi => by
    simp only [vc] at h
    refine around_ok hgn h hi fun an ts hs L K h hi => AWp.seq ((vc_ok hE hgn hn a _ _ _ L _ h hi).mono fun e s' => ?_)
    rintro ⟨ts', hs', L', rfl, hi', hk⟩
    cases e with
    | normal => exact vc_ok hE hgn hn b _ _ _ L' _ hk hi'
    | _ => exact ⟨_, _, L', rfl, hi', hk⟩
  | .cond (.tmp t) a b, an, ts, hs, L, K, h, hi => by
    simp only [vc] at h
    refine around_ok hgn h hi fun an ts hs L K h hi => ?_
    split at h
    · rename_i q hl
      refine AWp.cond q (by rw [BS_slot, hl]; simp only [Option.map_some, BV.er]) (fun hq => ?_) (fun hq => ?_)
      · subst hq; exact vc_ok hE hgn hn a _ _ _ L _ h hi
      · subst hq; exact vc_ok hE hgn hn b _ _ _ L _ h hi
    · rename_i hl
      obtain ⟨h1, h2⟩ := both_some h
      intro ρ M w0 w hs0
      obtain ⟨u, hu, hr⟩ := hs0.slots t _ (show (BS L ts hs).slot t = some .ub by rw [BS_slot, hl]; simp only [Option.map_some, BV.er])
      simp only [AV.R] at hr
      obtain ⟨q, rfl⟩ := hr
      have he : w0.eval (.tmp t) = .bool q := by simp [Act.eval, Array.getD_eq_getD_getElem?, hu]
      cases q with
      | true => exact wp_cond_true he (vc_ok hE hgn hn a _ _ _ L _ h1 hi ρ M w0 w hs0)
      | false => exact wp_cond_false he (vc_ok hE hgn hn b _ _ _ L _ h2 hi ρ M w0 w hs0)
    · simp at h
  | .cond (.const c) a b, an, ts, hs, L, K, h, hi => by
    cases c with
    | bool q =>
      simp only [vc] at h
      refine around_ok hgn h hi fun an ts hs L K h hi => ?_
      cases q with
      | true => exact fun ρ M w0 w hs0 => wp_cond_true rfl (vc_ok hE hgn hn a _ _ _ L _ h hi ρ M w0 w hs0)
      | false => exact fun ρ M w0 w hs0 => wp_cond_false rfl (vc_ok hE hgn hn b _ _ _ L _ h hi ρ M w0 w hs0)
    | _ => simp [vc] at h
  | .cond (.global _) a b, an, ts, hs, L, K, h, hi => by simp [vc] at h
  | .cond (.func _) a b, an, ts, hs, L, K, h, hi => by simp [vc] at h
  | .block id a, an, ts, hs, L, K, h, hi => by
    simp only [vc] at h
    refine around_ok hgn h hi fun an ts hs L K h hi => AWp.block ((vc_ok hE hgn hn a _ _ _ L _ h hi).mono fun e s' => ?_)
    rintro ⟨ts', hs', L', rfl, hi', hk⟩
    cases e with
    | exit k =>
      simp only [blockQ]
      simp only [blockC] at hk
      split at hk
      · rename_i he; rw [if_pos (Nat.eq_of_beq_eq_true he)]; exact ⟨_, _, L', rfl, hi', hk⟩
      · rename_i he; rw [if_neg (fun e => he (by rw [e]; exact Nat.beq_refl _))]; exact ⟨_, _, L', rfl, hi', hk⟩
    | _ => exact ⟨_, _, L', rfl, hi', hk⟩
  | .loop a, an, ts, hs, L, K, h, hi => by
    simp only [vc] at h
    split at h
    · rename_i s o an
      obtain ⟨x, L1, h, hi1, hw⟩ := shapeK_some hgn h hi
      refine AWp.weaken _ hw (AWp.loop (fun m s' => ∃ x L', s' = BS L' (STL.put 0 s x.1) (OL.put 0 o x.2) ∧ Inv L' (OL.put 0 o x.2) ∧ iterF (fun Lp x => vc P ty E gn nn fu a an (STL.put 0 s x.1) (OL.put 0 o x.2) (nextC K fun ts hs => shapeK gn s o ts hs Lp)) m x = some r)
        ⟨fu, x, L1, rfl, hi1, h⟩ ?_)
      rintro m s' ⟨x, L', rfl, hi', hm⟩
      cases m with
      | zero => simp [iterF] at hm
      | succ m =>
        simp only [iterF] at hm
        refine AWp.post ((vc_ok hE hgn hn a _ _ _ L' _ hm hi').mono fun e s' => ?_)
        rintro ⟨ts2, hs2, L2, rfl, hi2, hk⟩
        cases e with
        | normal =>
          obtain ⟨x', L3, h3, hi3, hw3⟩ := shapeK_some hgn hk hi2
          exact ⟨_, hw3, m, Nat.lt_succ_self m, x', L3, rfl, hi3, h3⟩
        | _ => exact ⟨_, Weak.refl _ _, _, _, L2, rfl, hi2, hk⟩
    · simp at h
  | .region id ops dr, an, ts, hs, L, K, h, hi => by
    simp only [vc] at h
    refine around_ok hgn h hi fun an ts hs L K h hi => ?_
    cases dr with
    | false =>
      intro ρ M a w hs0
      refine wp_region ?_
      have := regK_ok (gn := gn) (Γ := Γ) (ops := ops) (Q := fun e a' w' => ∃ s' ρ' M', QK K r e s' ∧ Sim Γ ρ' M' s' a' w') hE hgn hn (fun ts' hs' L' ρ' M' a' w' hk hi' hs' => ⟨_, ρ', M', ⟨_, _, L', rfl, hi', hk⟩, hs'⟩) ops.size 0 ts hs L h hi ρ M a w hs0
      rwa [Nat.sub_zero, ← List.range_eq_range'] at this
    | true =>
      simp only at h
      split at h
      case isFalse => simp at h
      rename_i hm
      split at h
      · rename_i hlb
        obtain ⟨rows, ts', hs', L', hk, hi', hst, hts, hhs, hg⟩ := dregK_some hE (ops.size - 1) 0 [] ts hs L h hi
        change (if indepB ops (rows ++ [noB]) ts hs = true then (match ops[ops.size - 1]? with
          | some o => exK P ty E gn nn (guarded ops) [] o ts' hs' (fun ts hs => K .normal ts hs)
          | none => none) else none) = some r at hk
        by_cases hind : indepB ops (rows ++ [noB]) ts hs = true
        case neg => rw [if_neg hind] at hk; simp at hk
        rw [if_pos hind] at hk
        cases hop : ops[ops.size - 1]? with
        | none => rw [hop] at hk; simp at hk
        | some o =>
        rw [hop] at hk
        replace hk : exK P ty E gn nn (guarded ops) [] o ts' hs' (fun ts hs => K .normal ts hs) = some r := hk
        have h0 : 0 < ops.size := by
          rcases Nat.eq_zero_or_pos ops.size with h0 | h0
          · rw [Array.getElem?_eq_none (by omega)] at hop; simp at hop
          · exact h0
        obtain ⟨hg0, hmask⟩ := lastB_get hlb hop
        show AWp P Γ _ (mk (erT L ts) (erH L hs)) _
        rw [hts, hhs]
        have hrow : (rows ++ [noB]).map (BRow.row L') = rows.map (BRow.row L') ++ [noRow] := by simp [noB, noRow, BRow.row, ev, erT, erH, BV.er]
        have hind' := indep_row hind L'
        rw [hrow] at hind'
        refine AWp.drawX hn (by rw [hm, Bool.true_or]) h0 _ hst hg hind' hmask fun KK hKK => ?_
        exact exK_ok hE hgn hn hk (fun t v h => by simp at h) (fun t v h => by simp at h) (by simp) hi' hop (fun ρ M a w _ => by simp [Region.wanted, hg0]) (fun ts2 hs2 L2 ρ' M' a' w' hk2 hi2 hs2' => hKK _ ρ' M' a' w' ⟨_, _, L2, rfl, hi2, hk2⟩ hs2')
      obtain ⟨rows, ts', hs', L', hk, hi', hst, hts, hhs, hg⟩ := dregK_some hE ops.size 0 [] ts hs L h hi
      change (if indepB ops rows ts hs = true then K .normal ts' hs' else none) = some r at hk
      split at hk
      case isFalse => simp at hk
      rename_i hind
      show AWp P Γ _ (mk (erT L ts) (erH L hs)) _
      rw [hts, hhs]
      exact AWp.drawG hn (by rw [hm, Bool.true_or]) _ hst hg (indep_row hind L') ⟨_, _, L', rfl, hi', hk⟩
  | .rangeFunc .., an, ts, hs, L, K, h, hi => by simp [vc] at h
  | .scope _, an, ts, hs, L, K, h, hi => by simp [vc] at h
  | .goto _, an, ts, hs, L, K, h, hi => by simp [vc] at h
  | .refuse _, an, ts, hs, L, K, h, hi => by simp [vc] at h
end
section
variable {R : Type} (P : Program)
def resV (ts : TS) (hs : HS) : ResultVar → Option BV
  | .tmp t => look t ts
  | .cell t T => match look t ts with
    | some (.ref n 0) => match look n hs with
      | some (.box cells) => if aggT P T then (match sizeT P T with | some z => if Nat.beq z cells.length then some (.agg cells) else none | none => none)
        else if flatT P T then (match cells with | [v] => some v | _ => none) else none
      | _ => none
    | _ => none
def resVs (ts : TS) (hs : HS) : List ResultVar → Option (List BV)
  | [] => some []
  | x :: q => match resV P ts hs x, resVs ts hs q with
    | some v, some vs => some (v :: vs)
    | _, _ => none
def Sh.owns : Sh → List Name
  | .own nm => [nm]
  | .view nm => [nm]
  | _ => []
def SSh.owns : SSh → List Name
  | .one s => s.owns
  | .st _ => []
  | .agg l => l.flatMap Sh.owns
def OSh.owns : OSh → List Name
  | .box l => l.flatMap Sh.owns
  | _ => []
def arrB (l : List (Name × OSh)) (n : Name) : Bool := match look n l with
  | some (.arr _) => true
  | _ => false
def sameC {α : Type} [DecidableEq α] (a b : α) (x : Option R) : Option R := if a = b then x else none
def keepK (hs : HS) : (l : List (Name × OSh)) → List Name → OL l → Option R → Option R
  | [], _, _, x => x
  | (nm, .arr t) :: l, ks, y, x => if isIn nm ks then (match look nm hs with
      | some (.arr t' z _) => if h : t' = t then sameC (castL h z) y.1 (keepK hs l ks y.2 x) else none
      | _ => none) else keepK hs l ks y.2 x
  | (nm, .box _) :: l, ks, y, x => if isIn nm ks then none else keepK hs l ks y.2 x
  | (nm, .arrs _) :: l, ks, y, x => if isIn nm ks then none else keepK hs l ks y.2 x
  | (nm, .sm) :: l, ks, y, x => if isIn nm ks then none else keepK hs l ks y.2 x
  | (nm, .boxst t) :: l, ks, y, x => if isIn nm ks then (match look nm hs with
      | some (.box cs) => tpop t cs fun z rest => match rest with
        | [] => sameC z y.1 (keepK hs l ks y.2 x)
        | _ => none
      | _ => none) else keepK hs l ks y.2 x
def slotsR : List ResultVar → List SSh → List (Nat × SSh)
  | .tmp t :: r, s :: q => (t, s) :: slotsR r q
  | _ :: r, _ :: q => slotsR r q
  | _, _ => []
def endK (gn : List Name) (rs : List ResultVar) (g : Sig) (y : OL g.pre) (K : SL g.res → OL g.post → Option R) (ts : TS) (hs : HS) : Option R :=
  thawK g.post (slotsR rs g.res) ts hs fun ts hs => match resVs P ts hs rs with
  | none => none
  | some vs => frzK gn (needArgs g.post hs g.res vs) ts hs fun ts hs => match resVs P ts hs rs with
    | none => none
    | some vs => SL.get g.res (viewL hs g.res vs) [] fun σ a => OL.get g.post hs ((keys g.post).map (fun n => (n, (n, verIn n hs))) ++ σ) fun σ b =>
        if idRen σ && (keys g.pre).all (fun n => isIn n (keys g.post) || isIn n g.keep) && g.keep.all (fun n => isIn n (keys g.pre)) && (g.res.flatMap SSh.owns).all (arrB g.post) && (g.post.flatMap fun p => p.2.owns).all (arrB g.post) then keepK hs g.pre g.keep y (K a b) else none
end
end Go.Proofs.YtfhcigjkfelnfaaGreat.AM
