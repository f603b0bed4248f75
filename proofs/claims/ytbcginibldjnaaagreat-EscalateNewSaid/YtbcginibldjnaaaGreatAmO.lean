/-
  The abstract machine, part O: a header kept as pure data. No project text.
-/
import Derived.Test.YtbcginibldjnaaaGreatAmN
set_option linter.unusedSimpArgs false
set_option linter.unusedVariables false
namespace Go.Proofs.YtbcginibldjnaaaGreat.AM
open Go

/-- The same world, said in other words. -/
theorem conv_sim {Γ : Ctx} {ρ : Name → Loc} {M : Nat → Prop} {a : Act} {w : World} {s s' : AS} (h : Sim Γ ρ M s a w)
    (hts : ∀ t y, s'.slot t = some y → ∃ x, s.slot t = some x ∧ ∀ u, x.R ρ s.heap M w u → y.R ρ s'.heap M w u)
    (hhs : ∀ n y, s'.heap n = some y → ∃ x, s.heap n = some x ∧ (ObjAt ρ s.heap M w n x → ObjAt ρ s'.heap M w n y))
    (hkeep : ∀ n x, s.heap n = some x → ∃ y, s'.heap n = some y ∧ ∀ o l, stays o l (some x) (ρ n) → stays o l (some y) (ρ n)) : Sim Γ ρ M s' a w := by
  refine ⟨h.n, h.d, fun t y hy => ?_, fun n y hy => ?_, fun n m o o' b g1 g2 => ?_, fun n o b g1 g2 => ?_, fun n hn => ?_, h.ext, h.mext, h.msize, h.m0, h.ground⟩
  · obtain ⟨x, hx, hr⟩ := hts t y hy
    obtain ⟨u, hu, hru⟩ := h.slots t x hx
    exact ⟨u, hu, hr u hru⟩
  · obtain ⟨x, hx, hr⟩ := hhs n y hy
    exact hr (h.objs n x hx)
  · obtain ⟨x, hx, _⟩ := hhs n o g1
    obtain ⟨x', hx', _⟩ := hhs m o' g2
    exact h.inj n m x x' b hx hx'
  · obtain ⟨x, hx, _⟩ := hhs n o g1
    exact h.own0 n x b hx g2
  · obtain ⟨x, hx, hst⟩ := h.keep n hn
    obtain ⟨y, hy, hs⟩ := hkeep n x hx
    exact ⟨y, hy, hs _ _ hst⟩

mutual
inductive Pin (n : Name) (len : Nat) (x : Value) : AV → AV → Prop
  | same (v : AV) : Pin n len x v v
  | pin : Pin n len x (.own n len) (.p (.v x))
  | unpin : Pin n len x (.p (.v x)) (.own n len)
  | agg {xs ys : List AV} (h : PinL n len x xs ys) : Pin n len x (.agg xs) (.agg ys)
inductive PinL (n : Name) (len : Nat) (x : Value) : List AV → List AV → Prop
  | nil : PinL n len x [] []
  | cons {v y : AV} {xs ys : List AV} (h : Pin n len x v y) (h' : PinL n len x xs ys) : PinL n len x (v :: xs) (y :: ys)
end
inductive OPin (n : Name) (len : Nat) (x : Value) : AO → AO → Prop
  | same (o : AO) : OPin n len x o o
  | box {xs ys : List AV} (h : PinL n len x xs ys) : OPin n len x (.box xs) (.box ys)
def TsPin (n : Name) (len : Nat) (x : Value) : List (Nat × AV) → List (Nat × AV) → Prop
  | [], [] => True
  | (k, v) :: r, (j, y) :: q => k = j ∧ Pin n len x v y ∧ TsPin n len x r q
  | _, _ => False
def HsPin (n : Name) (len : Nat) (x : Value) : List (Name × AO) → List (Name × AO) → Prop
  | [], [] => True
  | (k, v) :: r, (j, y) :: q => k = j ∧ OPin n len x v y ∧ HsPin n len x r q
  | _, _ => False
theorem TsPin.look {n : Name} {len : Nat} {x : Value} : ∀ {ts ts' : List (Nat × AV)}, TsPin n len x ts ts' → ∀ t y, AM.look t ts' = some y → ∃ v, AM.look t ts = some v ∧ Pin n len x v y
  | [], [], _, t, y, h => by simp [AM.look] at h
  | (k, v) :: r, (j, y0) :: q, h, t, y, hy => by
    obtain ⟨rfl, h2, h3⟩ := h
    simp only [AM.look] at hy ⊢
    split at hy
    · rename_i e; cases hy; exact ⟨v, by simp [e], h2⟩
    · rename_i e; simp only [e, if_false]; exact TsPin.look h3 t y hy
  | [], _ :: _, h, _, _, _ => h.elim
  | _ :: _, [], h, _, _, _ => h.elim
theorem HsPin.look {n : Name} {len : Nat} {x : Value} : ∀ {ts ts' : List (Name × AO)}, HsPin n len x ts ts' → ∀ t, (∀ y, AM.look t ts' = some y → ∃ v, AM.look t ts = some v ∧ OPin n len x v y) ∧ (∀ v, AM.look t ts = some v → ∃ y, AM.look t ts' = some y ∧ OPin n len x v y)
  | [], [], _, t => by simp [AM.look]
  | (k, v) :: r, (j, y0) :: q, h, t => by
    obtain ⟨rfl, h2, h3⟩ := h
    simp only [AM.look]
    split
    · exact ⟨fun y hy => by cases hy; exact ⟨v, rfl, h2⟩, fun y hy => by cases hy; exact ⟨y0, rfl, h2⟩⟩
    · exact HsPin.look h3 t
  | [], _ :: _, h, _ => h.elim
  | _ :: _, [], h, _ => h.elim
theorem OPin.stays {n : Name} {len : Nat} {x : Value} {v y o : AO} {l l' : Loc} (h : OPin n len x v y) (hs : stays o l (some v) l') : AM.stays o l (some y) l' := by
  cases h with
  | same => exact hs
  | box h => cases o <;> simp only [AM.stays] at hs ⊢ <;> exact hs
theorem OPin.shape {n : Name} {len : Nat} {x : Value} {v y : AO} (h : OPin n len x v y) : y.shape = v.shape := by
  cases h <;> rfl

/-- Where the fact stands, the header and its name may change places. -/
theorem Weak.pin {Γ : Ctx} {n n0 : Name} {len es : Nat} {x : Value} {o : AO} {ts ts' : List (Nat × AV)} {hs hs' : List (Name × AO)} (hf : look n0 hs = some (.fact (.own n len) x)) (ho : look n hs = some o) (hsh : o.shape = some (es, len))
    (h1 : TsPin n len x ts ts') (h2 : HsPin n len x hs hs') : Weak Γ (mk ts hs) (mk ts' hs') := fun ρ M a w h => by
  have hst : HStep ρ (mk ts hs).heap ρ (mk ts' hs').heap := fun m ob hm => by
    obtain ⟨y, hy, hp⟩ := (h2.look m).2 ob hm
    change stays ob (ρ m) (AM.look m hs') (ρ m)
    rw [hy]
    exact hp.stays (stays_refl _ _)
  have hnn : ∀ m, (mk ts hs).heap m = none → (mk ts' hs').heap m = none := fun m hm => by
    cases hc : (mk ts' hs').heap m with
    | none => rfl
    | some y =>
      obtain ⟨v, hv, _⟩ := (h2.look m).1 y hc
      change AM.look m hs = none at hm
      rw [hv] at hm; simp at hm
  have hconv : ∀ {v : AV} {u : Value}, v.R ρ (mk ts hs).heap M w u → v.R ρ (mk ts' hs').heap M w u := fun hr =>
    hr.step (Ext.refl (fun _ => False) _) (fun _ hb => hb.elim) (fun b _ hb => hb) hst (fun m _ => hnn m)
  have hconvs : ∀ {vs : List AV} {us : List Value}, AV.Rs ρ (mk ts hs).heap M w vs us → AV.Rs ρ (mk ts' hs').heap M w vs us := fun hr =>
    hr.step (Ext.refl (fun _ => False) _) (fun _ hb => hb.elim) (fun b _ hb => hb) hst (fun m _ => hnn m)
  have hfact : AV.R ρ (mk ts hs).heap M w (.own n len) x := (h.objs n0 _ hf).2
  have hx := hfact
  simp only [AV.R] at hx
  have hxe := (hx.2 o es len ho hsh).2 rfl
  have hpin : ∀ {v y : AV}, Pin n len x v y → ∀ u, v.R ρ (mk ts hs).heap M w u → y.R ρ (mk ts' hs').heap M w u := by
    intro v y hvy
    refine Pin.rec (motive_1 := fun v y _ => ∀ u, v.R ρ (mk ts hs).heap M w u → y.R ρ (mk ts' hs').heap M w u) (motive_2 := fun vs ys _ => ∀ us, AV.Rs ρ (mk ts hs).heap M w vs us → AV.Rs ρ (mk ts' hs').heap M w ys us) ?_ ?_ ?_ ?_ ?_ ?_ hvy
    · exact fun _ u hr => hconv hr
    · intro u hr
      simp only [AV.R] at hr
      have hu := (hr.2 o es len ho hsh).2 rfl
      simp only [AV.R, PV.R]
      exact ⟨by rw [hu, hxe], hx.1⟩
    · intro u hr
      simp only [AV.R, PV.R] at hr
      rw [hr.1]; exact hconv hfact
    · intro xs ys _ ih u hr
      simp only [AV.R] at hr ⊢
      obtain ⟨us, g1, g2⟩ := hr
      exact ⟨us, g1, ih _ g2⟩
    · intro us hr; simp only [AV.Rs] at hr ⊢; exact hr
    · intro a b as1 bs _ _ ih1 ih2 us hr
      simp only [AV.Rs] at hr ⊢
      obtain ⟨u, us', g1, g2, g3, g4⟩ := hr
      exact ⟨u, us', g1, g2, ih1 _ g3, ih2 _ g4⟩
  refine ⟨ρ, M, conv_sim h (fun t y hy => ?_) (fun m y hy => ?_) (fun m v hv => ?_)⟩
  · obtain ⟨v, hv, hp⟩ := h1.look t y hy
    exact ⟨v, hv, hpin hp⟩
  · obtain ⟨v, hv, hp⟩ := (h2.look m).1 y hy
    refine ⟨v, hv, fun hob => ?_⟩
    cases hp with
    | same =>
      refine ObjAt.step (Ext.refl (fun _ => False) _) (fun _ hb => hb.elim) (fun b _ hb => hb) (fun b hb => hb) hst (fun k _ => hnn k) rfl (fun _ _ => rfl) h.msize hob
    | box hb =>
      obtain ⟨b, T, cs, k1, k2, k3, k4⟩ := hob
      refine ⟨b, T, cs, k1, k2, k3, ?_⟩
      have := hpin (Pin.agg hb) (.agg cs) (by simp only [AV.R]; exact ⟨cs, rfl, k4⟩)
      simp only [AV.R] at this
      obtain ⟨us', g1, g2⟩ := this
      cases g1
      exact g2
  · obtain ⟨y, hy, hp⟩ := (h2.look m).2 v hv
    exact ⟨y, hy, fun o l => hp.stays⟩

/-- A header gets a name. -/
theorem AWp.nameU {P : Program} {Γ : Ctx} {c : Code} {Q : Exit → AS → Prop} {n n0 : Name} {len : Nat} {ts : List (Nat × AV)} {hs : List (Name × AO)} (hn0 : n0 ∉ Γ.names) (h0 : look n0 hs = none) (hfree : (mk ts hs).free n0) (hne : n ≠ n0)
    (hu : ∀ (ρ : Name → Loc) (M : Nat → Prop) (a : Act) (w : World), Sim Γ ρ M (mk ts hs) a w → ∃ u, AV.R ρ (mk ts hs).heap M w (.own n len) u)
    (h : ∀ x, AWp P Γ c (mk ts ((n0, .fact (.own n len) x) :: hs)) Q) : AWp P Γ c (mk ts hs) Q := fun ρ M a w hs0 => by
  obtain ⟨x, hx⟩ := hu ρ M a w hs0
  have h00 : (mk ts hs).heap n0 = none := h0
  have hst : HStep ρ (mk ts hs).heap (fun m => if m = n0 then ⟨none, 0⟩ else ρ m) (fun m => if m = n0 then some (.fact (.own n len) x) else (mk ts hs).heap m) := fun m ob hm => by
    by_cases e : m = n0
    · subst e; rw [h00] at hm; simp at hm
    · simp only [e, if_false, hm]; exact stays_refl _ _
  have hs1 := hs0.update1 (n := n0) (l := ⟨none, 0⟩) (o := .fact (.own n len) x) (M' := M) (w' := w) (Ext.refl _ _) (fun _ hb => hb) (fun _ hb => .inl hb) hs0.msize (fun o' ho' => by rw [h00] at ho'; simp at ho') (fun _ => hfree)
    ⟨by simp, hx.step (Ext.refl (fun _ => False) _) (fun _ hb => hb.elim) (fun b _ hb => hb) hst (fun m hm hmn => by
      simp only [AV.has, beq_iff_eq] at hm
      subst hm
      simp only [hne, if_false]; exact hmn)⟩ (fun b hb => by simp [Loc.blk] at hb)
  refine h x _ M a w (hs1.congr (fun t => rfl) (fun m => ?_))
  simp only [mk, look]
  by_cases e : m = n0
  · subst e; simp
  · simp [e, Ne.symm e]
def freeB (n : Name) (ts : List (Nat × AV)) (hs : List (Name × AO)) : Bool := (ts.all fun p => !p.2.has n) && (hs.all fun p => !p.2.has n)
theorem freeB_of {n : Name} {ts : List (Nat × AV)} {hs : List (Name × AO)} (h : freeB n ts hs = true) : (mk ts hs).free n := by
  simp only [freeB, Bool.and_eq_true, List.all_eq_true, Bool.not_eq_true'] at h
  exact ⟨fun t x hx => h.1 _ (look_mem hx), fun m o ho => h.2 _ (look_mem ho)⟩
/-- .. that stands in a slot. -/
theorem AWp.nameS {P : Program} {Γ : Ctx} {c : Code} {Q : Exit → AS → Prop} {n n0 : Name} {len : Nat} {ts : List (Nat × AV)} {hs : List (Name × AO)} (t : Nat) (hn0 : n0 ∉ Γ.names) (h0 : look n0 hs = none) (hfree : freeB n0 ts hs = true) (hne : n ≠ n0)
    (ht : look t ts = some (.own n len)) (h : ∀ x, AWp P Γ c (mk ts ((n0, .fact (.own n len) x) :: hs)) Q) : AWp P Γ c (mk ts hs) Q :=
  AWp.nameU hn0 h0 (freeB_of hfree) hne (fun ρ M a w hs0 => by obtain ⟨u, _, hr⟩ := hs0.slots t _ ht; exact ⟨u, hr⟩) h
/-- .. that stands in a box. -/
theorem AWp.nameB {P : Program} {Γ : Ctx} {c : Code} {Q : Exit → AS → Prop} {n n0 : Name} {len : Nat} {ts : List (Nat × AV)} {hs : List (Name × AO)} (m : Name) (j : Nat) {cells : List AV} (hn0 : n0 ∉ Γ.names) (h0 : look n0 hs = none) (hfree : freeB n0 ts hs = true) (hne : n ≠ n0)
    (hm : look m hs = some (.box cells)) (hj : cells[j]? = some (.own n len)) (h : ∀ x, AWp P Γ c (mk ts ((n0, .fact (.own n len) x) :: hs)) Q) : AWp P Γ c (mk ts hs) Q :=
  AWp.nameU hn0 h0 (freeB_of hfree) hne (fun ρ M a w hs0 => by
    obtain ⟨b, T, cs, k1, k2, k3, k4⟩ := hs0.objs m _ hm
    obtain ⟨u, _, _, hr⟩ := k4.get j _ hj
    exact ⟨u, hr⟩) h

/-- A load of a pinned header: the header. -/
theorem OpOK.loadElemPin {P : Program} {o : Oper} {rd : List (Nat × AV)} {T : TypeId} {x : Operand} {n m n0 : Name} {len i k es mlen : Nat} {rows : List (List PV)} {row : List PV} {v : Value} (ho : o.op = .load T x) (hx : evalO rd x = some (.aref n len i k)) (hT : flatT P T = true)
    (hlen : Nat.beq len rows.length = true) (hi : rows[i]? = some row) (hc0 : row[k]? = some (.v v)) : OpOK P o ⟨rd, [(n, .arr es rows), (n0, .fact (.own m mlen) v)], .own m mlen, [], []⟩ :=
  OpOK.quiet fun Γ ρ M s a w hs hh => by
    have hr := evalO_R hs hh hx
    simp only [AV.R] at hr
    have hn := hh.hp n _ (by simp : (n, AO.arr es rows) ∈ _)
    have hf := (hs.objs n0 _ (hh.hp n0 _ (by simp : (n0, AO.fact (.own m mlen) v) ∈ _))).2
    obtain ⟨b, hb, hu⟩ := (hr.2 _ es rows.length hn rfl).2 (Nat.eq_of_beq_eq_true hlen)
    obtain ⟨_, hc⟩ := arr_row (hs.objs n _ hn) hb hi
    obtain ⟨u, k1, k2⟩ := hc.get k (.v v) hc0
    simp only [PV.R] at k2
    exact ⟨u, by simp [execOp, ho, hu, Instr.loadAt, Instr.sureAddr, run_loadVar_flat hT k1], by rw [k2.1]; exact hf⟩

theorem AWp.cast {P : Program} {Γ : Ctx} {c : Code} {s s' : AS} {Q : Exit → AS → Prop} (h : s = s') (h' : AWp P Γ c s' Q) : AWp P Γ c s Q := h ▸ h'
/-- A part of a function's code, by the way down to it. -/
def subCode : List Nat → Code → Code
  | [], c => c
  | 0 :: p, .seq a _ => subCode p a
  | _ :: p, .seq _ b => subCode p b
  | 0 :: p, .cond _ a _ => subCode p a
  | _ :: p, .cond _ _ b => subCode p b
  | _ :: p, .block _ a => subCode p a
  | _ :: p, .loop a => subCode p a
  | _ :: _, c => c
/-- What holds at a function's end. -/
def FinQ (P : Program) (fn : Func) (pre : List (Name × AO)) (post : AV → List (Name × AO) → Prop) : Exit → AS → Prop := fun e s' => (e = .normal ∨ e = .ret) ∧
      ∃ v h', Res P s' fn.results v ∧ (∀ n o, look n h' = some o → s'.heap n = some o) ∧ (∀ n, n ∈ keys pre → look n h' ≠ none) ∧ post v h'

end Go.Proofs.YtbcginibldjnaaaGreat.AM
