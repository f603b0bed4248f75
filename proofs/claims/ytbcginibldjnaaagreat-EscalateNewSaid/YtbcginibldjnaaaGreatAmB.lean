/-
  The abstract machine, part B: states, the simulation, how it changes. No project text.
-/
import Derived.Test.YtbcginibldjnaaaGreatAmA
import Derived.Test.YtbcginibldjnaaaGreatLaid
set_option linter.unusedSimpArgs false
set_option linter.unusedVariables false
namespace Go.Proofs.YtbcginibldjnaaaGreat.AM
open Go

structure AS where
  slot : Nat → Option AV
  heap : Heap

/-- What an activation began with: the number of slots, the names of the objects handed over, what they were and where they lay, the world, the blocks that may change. -/
structure Ctx where
  n : Nat
  names : List Name
  pre : Name → AO
  ρ0 : Name → Loc
  w0 : World
  M : Nat → Prop
  G : World

def Ctx.B (Γ : Ctx) (b : Nat) : Prop := ∃ n, n ∈ Γ.names ∧ (Γ.ρ0 n).blk = some b

def ObjAt (ρ : Name → Loc) (H : Heap) (M : Nat → Prop) (w : World) (n : Name) : AO → Prop
  | .box cells => ∃ (b : Nat) (T : TypeId) (cs : Array Value), ρ n = ⟨some ⟨b, 0, none⟩, 1⟩ ∧ M b ∧ w.heap[b]? = some (.cells cs T (0, 0)) ∧ AV.Rs ρ H M w cells cs.toList
  | .arr es rows => 1 ≤ es ∧ rows.length ≤ (ρ n).cap ∧ ((ρ n).cap = 0 ∨ ∃ (b : Nat) (T : TypeId) (cs : Array Value), (ρ n).base = some ⟨b, 0, none⟩ ∧ M b ∧ w.heap[b]? = some (.cells cs T (0, 0)) ∧ cs.size = (ρ n).cap * es ∧ PV.Rows M w b es 0 rows)
  | .hole es pre row post => 1 ≤ es ∧ row.length = es ∧ pre.length + 1 + post.length ≤ (ρ n).cap ∧ ∃ (b : Nat) (T : TypeId) (cs : Array Value), (ρ n).base = some ⟨b, 0, none⟩ ∧ M b ∧ w.heap[b]? = some (.cells cs T (0, 0)) ∧ cs.size = (ρ n).cap * es ∧
      PV.Rows M w b es 0 pre ∧ AV.Rs ρ H M w row ((cs.toList.drop (pre.length * es)).take es) ∧ PV.Rows M w b es ((pre.length + 1) * es) post
  | .fact a x => (ρ n).cap = 0 ∧ AV.R ρ H M w a x
  | .obj x => ∃ b : Nat, ρ n = ⟨some ⟨b, 0, none⟩, 1⟩ ∧ M b ∧ w.heap[b]? = some x

/-- What the package's variables hold in the ground world is there still; what may be written lies above it. -/
structure Ground (G : World) (w : World) (B : Nat → Prop) : Prop where
  laid : Laid G
  size : G.heap.size ≤ w.heap.size
  same : ∀ b, b < G.heap.size → w.heap[b]? = G.heap[b]?
  out : ∀ b, B b → G.heap.size ≤ b

theorem Ground.var {G w : World} {B : Nat → Prop} (h : Ground G w B) {P : Program} {name : String} {cs : Array Value} (hv : G.var? P name = some cs) : w.var? P name = some cs := by
  unfold World.var? at hv ⊢
  cases hg : P.globalNamed name with
  | none => simp [hg] at hv
  | some g =>
    simp only [hg, Option.bind_some] at hv ⊢
    have hlt : g < G.heap.size := by
      rcases Nat.lt_or_ge g G.heap.size with h' | h'
      · exact h'
      · rw [Array.getElem?_eq_none h'] at hv; simp at hv
    rw [h.same g hlt]; exact hv

structure Sim (Γ : Ctx) (ρ : Name → Loc) (M : Nat → Prop) (s : AS) (a : Act) (w : World) : Prop where
  n : a.tmps.size = Γ.n
  d : a.defers = []
  slots : ∀ t x, s.slot t = some x → ∃ u, a.tmps[t]? = some u ∧ x.R ρ s.heap M w u
  objs : ∀ n o, s.heap n = some o → ObjAt ρ s.heap M w n o
  inj : ∀ n m o o' b, s.heap n = some o → s.heap m = some o' → (ρ n).blk = some b → (ρ m).blk = some b → n = m
  own0 : ∀ n o b, s.heap n = some o → (ρ n).blk = some b → (n ∈ Γ.names ∧ (Γ.ρ0 n).blk = some b) ∨ Γ.w0.heap.size ≤ b
  keep : ∀ n, n ∈ Γ.names → ∃ o, s.heap n = some o ∧ stays (Γ.pre n) (Γ.ρ0 n) (some o) (ρ n)
  ext : Ext Γ.B Γ.w0 w
  mext : ∀ b, Γ.M b → M b
  msize : ∀ b, M b → b < w.heap.size
  m0 : ∀ b, Γ.M b → b < Γ.w0.heap.size
  ground : Ground Γ.G Γ.w0 Γ.B

theorem stays_trans {o : AO} {l : Loc} {o' : AO} {l' : Loc} {o'' : AO} {l'' : Loc} (h : stays o l (some o') l') (h' : stays o' l' (some o'') l'') : stays o l (some o'') l'' := by
  cases o <;> cases o' <;> cases o'' <;> simp only [stays] at h h' ⊢
  · rw [h', h]
  all_goals first | rw [h', h] |
    refine ⟨h'.1.trans h.1, Nat.le_trans h.2.1 h'.2.1, fun e => ?_⟩
    have h1 := h.2.1
    have h2 := h'.2.1
    rw [h'.2.2 (by omega), h.2.2 (by omega)]

/-- Nobody bears the name. -/
def AS.free (s : AS) (n : Name) : Prop := (∀ t x, s.slot t = some x → x.has n = false) ∧ ∀ m o, s.heap m = some o → o.has n = false

theorem ObjAt.blk_lt {ρ : Name → Loc} {H : Heap} {M : Nat → Prop} {w : World} {n : Name} {o : AO} (h : ObjAt ρ H M w n o) (hm : ∀ b, M b → b < w.heap.size) {b : Nat} (hb : (ρ n).blk = some b) : b < w.heap.size ∧ M b := by
  cases o with
  | box cells =>
    obtain ⟨b', T, cs, h1, h2, h3, h4⟩ := h
    rw [h1] at hb
    simp [Loc.blk] at hb
    subst hb
    exact ⟨hm _ h2, h2⟩
  | arr es rows =>
    obtain ⟨h0, h1, h2⟩ := h
    rcases h2 with h2 | ⟨b', T, cs, h3, h4, h5, h6⟩
    · simp [Loc.blk, h2] at hb
    · unfold Loc.blk at hb
      split at hb
      · simp at hb
      · rw [h3] at hb; simp at hb; subst hb; exact ⟨hm _ h4, h4⟩
  | hole es pre row post =>
    obtain ⟨_, _, h1, b', T, cs, h3, h4, _⟩ := h
    unfold Loc.blk at hb
    rw [if_neg (by omega), h3] at hb
    simp at hb; subst hb; exact ⟨hm _ h4, h4⟩
  | fact a x => simp [Loc.blk, h.1] at hb
  | obj x =>
    obtain ⟨b', h1, h2, h3⟩ := h
    rw [h1] at hb
    simp [Loc.blk] at hb
    subst hb
    exact ⟨hm _ h2, h2⟩

/-- Rows where nothing was written. -/
theorem PV.Rows.stepB {M M' B : Nat → Prop} {w w' : World} (he : Ext B w w') (hB : ∀ b, B b → M b) (hM : ∀ b, b < w.heap.size → M' b → M b) {b es off : Nat} {rows : List (List PV)} (hbb : w'.heap[b]? = w.heap[b]?)
    (h : PV.Rows M w b es off rows) : PV.Rows M' w' b es off rows :=
  PV.Rows.of_get fun i r hi => by
    obtain ⟨g1, g2⟩ := h.get i r hi
    refine ⟨g1, PV.Cells.of_get fun j c hj => ?_⟩
    obtain ⟨u, hu, hr⟩ := g2.get j c hj
    refine ⟨u, ?_, hr.mono he hB hM⟩
    rw [← hu]; unfold World.cell?; rw [hbb]

/-- An object that nobody touched. -/
theorem ObjAt.step {ρ ρ' : Name → Loc} {H H' : Heap} {M M' B : Nat → Prop} {w w' : World} (he : Ext B w w') (hB : ∀ b, B b → M b)
    (hM : ∀ b, b < w.heap.size → M' b → M b) (hMM : ∀ b, M b → M' b) (hs : HStep ρ H ρ' H') {n : Name} {o : AO}
    (hn : ∀ m, o.has m = true → H m = none → H' m = none) (hρ : ρ' n = ρ n) (hb : ∀ b, (ρ n).blk = some b → w'.heap[b]? = w.heap[b]?)
    (hms : ∀ b, M b → b < w.heap.size)
    (h : ObjAt ρ H M w n o) : ObjAt ρ' H' M' w' n o := by
  cases o with
  | box cells =>
    obtain ⟨b, T, cs, h1, h2, h3, h4⟩ := h
    refine ⟨b, T, cs, by rw [hρ, h1], hMM _ h2, ?_, h4.step he hB hM hs (fun m hm => hn m hm)⟩
    rw [hb b (by rw [h1]; simp [Loc.blk]), h3]
  | arr es rows =>
    obtain ⟨h0, h1, h2⟩ := h
    refine ⟨h0, by rw [hρ]; exact h1, ?_⟩
    rcases h2 with h2 | ⟨b, T, cs, h3, h4, h5, h6, h7⟩
    · exact .inl (by rw [hρ]; exact h2)
    · by_cases hc : (ρ n).cap = 0
      · exact .inl (by rw [hρ]; exact hc)
      · have hbb := hb b (by simp [Loc.blk, hc, h3])
        refine .inr ⟨b, T, cs, by rw [hρ]; exact h3, hMM _ h4, by rw [hbb]; exact h5, by rw [hρ]; exact h6, ?_⟩
        refine PV.Rows.of_get fun i r hi => ?_
        obtain ⟨g1, g2⟩ := h7.get i r hi
        refine ⟨g1, PV.Cells.of_get fun j c hj => ?_⟩
        obtain ⟨u, hu, hr⟩ := g2.get j c hj
        refine ⟨u, ?_, hr.mono he hB hM⟩
        rw [← hu]; unfold World.cell?; rw [hbb]
  | hole es pre row post =>
    obtain ⟨h0, h0', h1, b, T, cs, h3, h4, h5, h6, h7, h8, h9⟩ := h
    have hbb := hb b (by unfold Loc.blk; rw [if_neg (by omega), h3]; rfl)
    exact ⟨h0, h0', by rw [hρ]; exact h1, b, T, cs, by rw [hρ]; exact h3, hMM _ h4, by rw [hbb]; exact h5, by rw [hρ]; exact h6,
      h7.stepB he hB hM hbb, h8.step he hB hM hs (fun m hm => hn m hm), h9.stepB he hB hM hbb⟩
  | fact a x => exact ⟨by rw [hρ]; exact h.1, h.2.step he hB hM hs (fun m hm => hn m hm)⟩
  | obj x =>
    obtain ⟨b, h1, h2, h3⟩ := h
    exact ⟨b, by rw [hρ, h1], hMM _ h2, by rw [hb b (by rw [h1]; simp [Loc.blk]), h3]⟩

theorem Sim.update {Γ : Ctx} {ρ : Name → Loc} {M : Nat → Prop} {s : AS} {a : Act} {w : World} (h : Sim Γ ρ M s a w)
    {ρ' : Name → Loc} {M' : Nat → Prop} {H' : Heap} {w' : World}
    (he : Ext (fun b => ∃ n o, s.heap n = some o ∧ (ρ n).blk = some b) w w')
    (hM : ∀ b, M b → M' b) (hM' : ∀ b, M' b → M b ∨ w.heap.size ≤ b) (hMs : ∀ b, M' b → b < w'.heap.size)
    (hs : HStep ρ s.heap ρ' H')
    (hkeep : ∀ n, n ∈ Γ.names → H' n ≠ none)
    (hnew : ∀ n, s.heap n = none → H' n ≠ none → s.free n)
    (hobj : ∀ n o, H' n = some o → (s.heap n = some o ∧ ρ' n = ρ n ∧ ∀ b, (ρ n).blk = some b → w'.heap[b]? = w.heap[b]?) ∨
      (ObjAt ρ' H' M' w' n o ∧ ∀ b, (ρ' n).blk = some b → (∃ o', s.heap n = some o' ∧ (ρ n).blk = some b) ∨ w.heap.size ≤ b))
    (hinj : ∀ n m o o' b, H' n = some o → H' m = some o' → (ρ' n).blk = some b → (ρ' m).blk = some b → n = m) :
    Sim Γ ρ' M' ⟨s.slot, H'⟩ a w' := by
  have hB : ∀ b, (∃ n o, s.heap n = some o ∧ (ρ n).blk = some b) → M b := fun b ⟨n, o, h1, h2⟩ => ((h.objs n o h1).blk_lt h.msize h2).2
  have hM2 : ∀ b, b < w.heap.size → M' b → M b := fun b hb hm => (hM' b hm).resolve_right (by omega)
  have hfree : ∀ n, s.heap n = none → H' n = none ∨ s.free n := fun n hn => by
    cases hh : H' n with
    | none => exact .inl rfl
    | some o => exact .inr (hnew n hn (by rw [hh]; simp))
  refine ⟨h.n, h.d, fun t x ht => ?_, fun n o hn => ?_, hinj, fun n o b hn hb => ?_, fun n hn => ?_, ?_, fun b hb => hM b (h.mext b hb), hMs, h.m0, h.ground⟩
  · obtain ⟨u, hu, hr⟩ := h.slots t x ht
    refine ⟨u, hu, hr.step he hB hM2 hs (fun n hx hn => ?_)⟩
    rcases hfree n hn with h1 | h1
    · exact h1
    · have := h1.1 t x ht; rw [this] at hx; simp at hx
  · rcases hobj n o hn with ⟨h1, h2, h3⟩ | ⟨h1, _⟩
    · refine (h.objs n o h1).step he hB hM2 hM hs (fun m hm hmn => ?_) h2 h3 h.msize
      rcases hfree m hmn with h4 | h4
      · exact h4
      · have := h4.2 n o h1; rw [this] at hm; simp at hm
    · exact h1
  · have hsz := h.ext.size
    rcases hobj n o hn with ⟨h1, h2, h3⟩ | ⟨_, h2⟩
    · rw [h2] at hb; exact h.own0 n o b h1 hb
    · rcases h2 b hb with ⟨o', h3, h4⟩ | h3
      · exact h.own0 n o' b h3 h4
      · exact .inr (by omega)
  · obtain ⟨o, h1, h2⟩ := h.keep n hn
    cases hc : H' n with
    | none => exact absurd hc (hkeep n hn)
    | some o' =>
      have h3 := hs n o h1
      rw [hc] at h3
      exact ⟨o', hc, stays_trans h2 h3⟩
  · refine h.ext.trans he (fun b hb hbb => ?_)
    obtain ⟨n, o, h1, h2⟩ := hbb
    rcases h.own0 n o b h1 h2 with h3 | h3
    · exact ⟨n, h3⟩
    · omega

/-- One object is written or made. -/
theorem Sim.update1 {Γ : Ctx} {ρ : Name → Loc} {M : Nat → Prop} {s : AS} {a : Act} {w : World} (h : Sim Γ ρ M s a w)
    {n : Name} {l : Loc} {o : AO} {M' : Nat → Prop} {w' : World}
    (he : Ext (fun b => (ρ n).blk = some b ∧ s.heap n ≠ none) w w')
    (hM : ∀ b, M b → M' b) (hM' : ∀ b, M' b → M b ∨ w.heap.size ≤ b) (hMs : ∀ b, M' b → b < w'.heap.size)
    (hs : ∀ o', s.heap n = some o' → stays o' (ρ n) (some o) l)
    (hnew : s.heap n = none → s.free n)
    (hobj : ObjAt (fun m => if m = n then l else ρ m) (fun m => if m = n then some o else s.heap m) M' w' n o)
    (hblk : ∀ b, l.blk = some b → (∃ o', s.heap n = some o' ∧ (ρ n).blk = some b) ∨ w.heap.size ≤ b) :
    Sim Γ (fun m => if m = n then l else ρ m) M' ⟨s.slot, fun m => if m = n then some o else s.heap m⟩ a w' := by
  have hlt : ∀ m o' b, s.heap m = some o' → (ρ m).blk = some b → b < w.heap.size := fun m o' b h1 h2 => ((h.objs m o' h1).blk_lt h.msize h2).1
  refine h.update (he.weaken fun b _ hb => ?_) hM hM' hMs (fun m o' hm => ?_) (fun m hm => ?_) (fun m hm hm' => ?_) (fun m o' hm => ?_) (fun m m' o1 o2 b h1 h2 h3 h4 => ?_)
  · cases hn : s.heap n with
    | none => exact absurd hn hb.2
    | some o' => exact ⟨n, o', hn, hb.1⟩
  · by_cases e : m = n
    · subst e; simp only [if_true]; exact hs o' hm
    · simp only [e, if_false, hm]; exact stays_refl _ _
  · by_cases e : m = n
    · simp [e]
    · obtain ⟨o', h1, _⟩ := h.keep m hm
      simp [e, h1]
  · by_cases e : m = n
    · subst e; exact hnew hm
    · simp [e, hm] at hm'
  · by_cases e : m = n
    · subst e
      simp only [if_true] at hm
      cases hm
      exact .inr ⟨hobj, fun b hb => by simp only [if_true] at hb; exact hblk b hb⟩
    · simp only [e, if_false] at hm
      refine .inl ⟨hm, by simp [e], fun b hb => he.same b (hlt m o' b hm hb) (fun hbb => ?_)⟩
      cases hn : s.heap n with
      | none => exact hbb.2 hn
      | some o2 => exact e (h.inj m n o' o2 b hm hn hb hbb.1)
  · by_cases e : m = n
    · by_cases e' : m' = n
      · rw [e, e']
      · exfalso
        subst e
        simp only [if_true, e', if_false] at h1 h2 h3 h4
        rcases hblk b h3 with ⟨o', g1, g2⟩ | g
        · exact e' (h.inj m' m o2 o' b h2 g1 h4 g2)
        · have := hlt m' o2 b h2 h4; omega
    · by_cases e' : m' = n
      · exfalso
        subst e'
        simp only [if_true, e, if_false] at h1 h2 h3 h4
        rcases hblk b h4 with ⟨o', g1, g2⟩ | g
        · exact e (h.inj m m' o1 o' b h1 g1 h3 g2)
        · have := hlt m o1 b h1 h3; omega
      · simp only [e, e', if_false] at h1 h2 h3 h4
        exact h.inj m m' o1 o2 b h1 h2 h3 h4

/-- The world has moved on where nothing is ours (new blocks, draws). -/
theorem Sim.world {Γ : Ctx} {ρ : Name → Loc} {M : Nat → Prop} {s : AS} {a : Act} {w w' : World} (h : Sim Γ ρ M s a w) (he : Ext (fun _ => False) w w') : Sim Γ ρ M s a w' := by
  have := h.update (ρ' := ρ) (M' := M) (H' := s.heap) (w' := w') (he.weaken (fun _ _ hb => hb.elim)) (fun _ hb => hb) (fun _ hb => .inl hb)
    (fun b hb => Nat.lt_of_lt_of_le (h.msize b hb) he.size) (fun n o hn => by rw [hn]; exact stays_refl _ _) (fun n hn => by obtain ⟨o, h1, _⟩ := h.keep n hn; rw [h1]; simp) (fun n hn hn' => absurd hn hn')
    (fun n o hn => .inl ⟨hn, rfl, fun b hb => he.same b ((h.objs n o hn).blk_lt h.msize hb).1 (fun hf => hf)⟩) h.inj
  exact this

def AS.set (s : AS) (dst : Option Nat) (x : AV) : AS := ⟨fun t => if dst = some t then some x else s.slot t, s.heap⟩

theorem Sim.put {Γ : Ctx} {ρ : Name → Loc} {M : Nat → Prop} {s : AS} {a : Act} {w : World} (h : Sim Γ ρ M s a w) {dst : Option Nat} {x : AV} {u : Value}
    (hd : ∀ d, dst = some d → d < Γ.n) (hr : dst ≠ none → x.R ρ s.heap M w u) : Sim Γ ρ M (s.set dst x) (a.put dst u) w := by
  cases dst with
  | none =>
    refine ⟨h.n, h.d, fun t y ht => ?_, h.objs, h.inj, h.own0, h.keep, h.ext, h.mext, h.msize, h.m0, h.ground⟩
    simp only [AS.set, reduceCtorEq, if_false] at ht
    exact h.slots t y ht
  | some d =>
    have hdn := hd d rfl
    refine ⟨by simp [Act.put, h.n], by simp [Act.put, h.d], fun t y ht => ?_, h.objs, h.inj, h.own0, h.keep, h.ext, h.mext, h.msize, h.m0, h.ground⟩
    simp only [AS.set] at ht
    by_cases e : d = t
    · subst e
      simp only [if_true] at ht
      cases ht
      exact ⟨u, by simp [Act.put, Array.getElem?_setIfInBounds, h.n, hdn], hr (by simp)⟩
    · simp only [Option.some.injEq, e, if_false] at ht
      obtain ⟨v, hv, hr'⟩ := h.slots t y ht
      exact ⟨v, by simp [Act.put, Array.getElem?_setIfInBounds, e, hv], hr'⟩

/-- A state that says less. -/
theorem Sim.forget {Γ : Ctx} {ρ : Name → Loc} {M : Nat → Prop} {s : AS} {a : Act} {w : World} (h : Sim Γ ρ M s a w) {s' : AS}
    (hs : ∀ t x, s'.slot t = some x → s.slot t = some x) (hh : ∀ n o, s'.heap n = some o → s.heap n = some o) (hk : ∀ n, n ∈ Γ.names → s'.heap n ≠ none) : Sim Γ ρ M s' a w := by
  have h1 : HStep ρ s.heap ρ s'.heap := fun n o hn => by
    cases hc : s'.heap n with
    | none => cases o <;> simp [stays]
    | some o' => have := hh n o' hc; rw [hn] at this; cases this; exact stays_refl _ _
  have h2 := h.update (ρ' := ρ) (M' := M) (H' := s'.heap) (w' := w) (Ext.refl _ _) (fun _ hb => hb) (fun _ hb => .inl hb) h.msize h1 hk
    (fun n hn hn' => by
      cases hc : s'.heap n with
      | none => exact absurd hc hn'
      | some o => have := hh n o hc; rw [hn] at this; simp at this)
    (fun n o hn => .inl ⟨hh n o hn, rfl, fun _ _ => rfl⟩) (fun n m o o' b g1 g2 => h.inj n m o o' b (hh _ _ g1) (hh _ _ g2))
  exact ⟨h2.n, h2.d, fun t x ht => h2.slots t x (hs t x ht), h2.objs, h2.inj, h2.own0, h2.keep, h2.ext, h2.mext, h2.msize, h2.m0, h2.ground⟩

/-- The same state, otherwise spelled. -/
theorem Sim.congr {Γ : Ctx} {ρ : Name → Loc} {M : Nat → Prop} {s s' : AS} {a : Act} {w : World} (h : Sim Γ ρ M s a w)
    (hs : ∀ t, s'.slot t = s.slot t) (hh : ∀ n, s'.heap n = s.heap n) : Sim Γ ρ M s' a w :=
  h.forget (fun t x ht => by rw [← hs]; exact ht) (fun n o hn => by rw [← hh]; exact hn) (fun n hn => by obtain ⟨o, h1, _⟩ := h.keep n hn; rw [hh, h1]; simp)

/-! ### What an operation reads, yields, writes -/
structure Eff where
  rd : List (Nat × AV)
  hp : List (Name × AO)
  v : AV
  upd : List (Name × AO)
  nw : List Name := []

def look {α : Type} (k : Nat) : List (Nat × α) → Option α
  | [] => none
  | (j, x) :: r => if j = k then some x else look k r

structure AS.holds (s : AS) (e : Eff) : Prop where
  rd : ∀ t x, (t, x) ∈ e.rd → s.slot t = some x
  hp : ∀ n o, (n, o) ∈ e.hp → s.heap n = some o
  nw : ∀ n, n ∈ e.nw → s.heap n = none ∧ s.free n

def AS.run (s : AS) (dst : Option Nat) (e : Eff) : AS :=
  ⟨fun t => if dst = some t then some e.v else s.slot t, fun n => match look n e.upd with | some o => some o | none => s.heap n⟩

/-- The operation, from any state that holds what it reads, comes to the state with its effect. -/
def OpOK (P : Program) (o : Oper) (e : Eff) : Prop :=
  ∀ (Γ : Ctx) (ρ : Name → Loc) (M : Nat → Prop) (s : AS) (a : Act) (w : World) (K : Act → World → Prop) (Q : Exit → Act → World → Prop),
    Sim Γ ρ M s a w → s.holds e → (∀ d, o.dst = some d → d < Γ.n) →
    (∀ ρ' M' a' w', Sim Γ ρ' M' (s.run o.dst e) a' w' → K a' w') → o.wp P a w K Q

def StepOK (P : Program) (ops : Array Oper) (i : Nat) (dst : Option Nat) (e : Eff) : Prop :=
  ∀ (Γ : Ctx) (ρ : Name → Loc) (M : Nat → Prop) (s : AS) (a : Act) (w : World) (K : Act → World → Prop) (Q : Exit → Act → World → Prop),
    Sim Γ ρ M s a w → s.holds e → (∀ d, dst = some d → d < Γ.n) →
    (∀ ρ' M' a' w', Sim Γ ρ' M' (s.run dst e) a' w' → K a' w') → wpOp P ops Q i K a w

section
variable {P : Program} {ops : Array Oper} {i : Nat}

theorem StepOK.plain {o : Oper} {e : Eff} (hi : ops[i]? = some o) (hg : o.guard = none) (h : OpOK P o e) : StepOK P ops i o.dst e := by
  intro Γ ρ M s a w K Q hsim hh hd hK
  unfold wpOp
  simp only [hi, Region.wanted, hg, if_true]
  exact .inl (h Γ ρ M s a w K Q hsim hh hd hK)

theorem yielded_of {Γ : Ctx} {ρ : Name → Loc} {M : Nat → Prop} {s : AS} {a : Act} {w : World} (hsim : Sim Γ ρ M s a w) {j g : Nat} {oj : Oper} {b : Bool}
    (hj : ops[j]? = some oj) (hg : oj.dst = some g) (hs : s.slot g = some (.p (.v (.bool b)))) : yielded ops a.tmps j = some b := by
  obtain ⟨u, hu, hr⟩ := hsim.slots g _ hs
  simp only [AV.R, PV.R] at hr
  obtain ⟨rfl, _⟩ := hr
  simp [yielded, hj, hg, hu]

theorem StepOK.guarded {o oj : Oper} {e : Eff} {j g : Nat} {b : Bool} (hi : ops[i]? = some o) (hg : o.guard = some (j, b)) (hj : ops[j]? = some oj) (hjd : oj.dst = some g)
    (hrd : (g, AV.p (.v (.bool b))) ∈ e.rd) (h : OpOK P o e) : StepOK P ops i o.dst e := by
  intro Γ ρ M s a w K Q hsim hh hd hK
  unfold wpOp
  have := yielded_of hsim hj hjd (hh.rd _ _ hrd)
  simp only [hi, Region.wanted, hg, this, beq_self_eq_true, if_true]
  exact .inl (h Γ ρ M s a w K Q hsim hh hd hK)

/-- The guard says no: the slot is left without a value. -/
theorem StepOK.skipped {o oj : Oper} {j g : Nat} {b : Bool} (hi : ops[i]? = some o) (hg : o.guard = some (j, b)) (hj : ops[j]? = some oj) (hjd : oj.dst = some g) :
    StepOK P ops i o.dst ⟨[(g, .p (.v (.bool (!b))))], [], .tup [], [], []⟩ := by
  intro Γ ρ M s a w K Q hsim hh hd hK
  unfold wpOp
  have := yielded_of hsim hj hjd (hh.rd g (.p (.v (.bool (!b)))) (by simp))
  have hne : (some (!b) == some b) = false := by cases b <;> rfl
  simp only [hi, Region.wanted, hg, this, hne, if_false, Bool.false_eq_true]
  have h1 := hsim.put (dst := o.dst) (x := .tup []) (u := undef) hd (fun _ => by simp only [AV.R, undef, AV.Ts]; exact ⟨#[], rfl, rfl⟩)
  exact hK ρ M _ w (h1.congr (fun t => rfl) (fun n => by simp [AS.run, AS.set, look]))

/-- The guard itself was left without a value. -/
theorem StepOK.skipped2 {o oj : Oper} {j g : Nat} {b : Bool} (hi : ops[i]? = some o) (hg : o.guard = some (j, b)) (hj : ops[j]? = some oj) (hjd : oj.dst = some g) :
    StepOK P ops i o.dst ⟨[(g, .tup [])], [], .tup [], [], []⟩ := by
  intro Γ ρ M s a w K Q hsim hh hd hK
  unfold wpOp
  have hy : yielded ops a.tmps j = none := by
    obtain ⟨u, hu, hr⟩ := hsim.slots g _ (hh.rd g (.tup []) (by simp))
    simp only [AV.R, AV.Ts] at hr
    obtain ⟨us, rfl, _⟩ := hr
    simp [yielded, hj, hjd, hu]
  have hne : ((none : Option Bool) == some b) = false := rfl
  simp only [hi, Region.wanted, hg, hy, hne, if_false, Bool.false_eq_true]
  have h1 := hsim.put (dst := o.dst) (x := .tup []) (u := undef) hd (fun _ => by simp only [AV.R, undef, AV.Ts]; exact ⟨#[], rfl, rfl⟩)
  exact hK ρ M _ w (h1.congr (fun t => rfl) (fun n => by simp [AS.run, AS.set, look]))
end

end Go.Proofs.YtbcginibldjnaaaGreat.AM
