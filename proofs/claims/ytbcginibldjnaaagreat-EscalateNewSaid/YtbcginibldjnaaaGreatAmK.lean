/-
  The abstract machine, part K: a state said in less or other words; an array that is frozen. No project text.
-/
import Derived.Test.YtbcginibldjnaaaGreatAmJ
set_option linter.unusedSimpArgs false
set_option linter.unusedVariables false
namespace Go.Proofs.YtbcginibldjnaaaGreat.AM
open Go

/-- The second state holds wherever the first does. -/
def Weak (Γ : Ctx) (s s' : AS) : Prop := ∀ (ρ : Name → Loc) (M : Nat → Prop) (a : Act) (w : World), Sim Γ ρ M s a w → ∃ ρ' M', Sim Γ ρ' M' s' a w

theorem AWp.weaken {P : Program} {Γ : Ctx} {c : Code} {s : AS} {Q : Exit → AS → Prop} (s' : AS) (h : Weak Γ s s') (h' : AWp P Γ c s' Q) : AWp P Γ c s Q := fun ρ M a w hs => by
  obtain ⟨ρ', M', hs'⟩ := h ρ M a w hs
  exact h' ρ' M' a w hs'
/-- At the end of a piece the state may be said in other words. -/
theorem AWp.post {P : Program} {Γ : Ctx} {c : Code} {s : AS} {Q : Exit → AS → Prop} (h : AWp P Γ c s fun e s' => ∃ s'', Weak Γ s' s'' ∧ Q e s'') : AWp P Γ c s Q := fun ρ M a w hs =>
  wp_mono (h ρ M a w hs) fun e a' w' ⟨s', ρ', M', ⟨s'', h1, h2⟩, h3⟩ => by
    obtain ⟨ρ2, M2, h4⟩ := h1 ρ' M' a' w' h3
    exact ⟨s'', ρ2, M2, h2, h4⟩
theorem Weak.refl (Γ : Ctx) (s : AS) : Weak Γ s s := fun ρ M a w h => ⟨ρ, M, h⟩
theorem Weak.trans {Γ : Ctx} {s s' s'' : AS} (h : Weak Γ s s') (h' : Weak Γ s' s'') : Weak Γ s s'' := fun ρ M a w hs => by
  obtain ⟨ρ', M', h1⟩ := h ρ M a w hs
  exact h' ρ' M' a w h1

/-- Fewer slots, fewer objects. -/
def subOK (names : List Name) (ts : List (Nat × AV)) (hs : List (Name × AO)) (ts' : List (Nat × AV)) (hs' : List (Name × AO)) : Prop :=
  (ts'.map (fun p => look p.1 ts), hs'.map (fun p => look p.1 hs), names.all fun m => (look m hs').isSome) = (ts'.map (fun p => some p.2), hs'.map (fun p => some p.2), true)
theorem Weak.sub {Γ : Ctx} {names : List Name} {ts ts' : List (Nat × AV)} {hs hs' : List (Name × AO)} (hk : Γ.names = names) (h : subOK names ts hs ts' hs') : Weak Γ (mk ts hs) (mk ts' hs') := fun ρ M a w hsim => by
  unfold subOK at h
  simp only [Prod.mk.injEq, List.all_eq_true] at h
  obtain ⟨h1, h2, h3⟩ := h
  exact ⟨ρ, M, hsim.forget (fun t x hx => map_eq_all h1 _ (look_mem hx)) (fun t x hx => map_eq_all h2 _ (look_mem hx)) (fun m hm hm' => by
    rw [hk] at hm
    have := h3 m hm
    change look m hs' = none at hm'
    rw [hm'] at this; simp at this)⟩

/-! ### Pure data said in less -/
def PVle (x y : PV) : Prop := ∀ (M : Nat → Prop) (w : World) (u : Value), x.R M w u → y.R M w u
theorem PVle.refl (x : PV) : PVle x x := fun _ _ _ h => h
theorem PVle.trans {x y z : PV} (h : PVle x y) (h' : PVle y z) : PVle x z := fun M w u hr => h' M w u (h M w u hr)
def CsLe : List PV → List PV → Prop
  | [], [] => True
  | x :: xs, y :: ys => PVle x y ∧ CsLe xs ys
  | _, _ => False
def RowsLe : List (List PV) → List (List PV) → Prop
  | [], [] => True
  | r :: rs, q :: qs => CsLe r q ∧ RowsLe rs qs
  | _, _ => False
theorem CsLe.refl : ∀ (cs : List PV), CsLe cs cs
  | [] => trivial
  | x :: xs => ⟨PVle.refl x, CsLe.refl xs⟩
theorem RowsLe.refl : ∀ (rs : List (List PV)), RowsLe rs rs
  | [] => trivial
  | x :: xs => ⟨CsLe.refl x, RowsLe.refl xs⟩
theorem RowsLe.append : ∀ {a b c d : List (List PV)}, RowsLe a b → RowsLe c d → RowsLe (a ++ c) (b ++ d)
  | [], [], c, d, _, h => h
  | x :: xs, y :: ys, c, d, h, h' => ⟨h.1, RowsLe.append h.2 h'⟩
  | [], _ :: _, _, _, h, _ => h.elim
  | _ :: _, [], _, _, h, _ => h.elim
theorem CsLe.length : ∀ {cs ds : List PV}, CsLe cs ds → cs.length = ds.length
  | [], [], _ => rfl
  | x :: xs, y :: ys, h => by simp [CsLe.length h.2]
  | [], _ :: _, h => h.elim
  | _ :: _, [], h => h.elim
theorem RowsLe.length : ∀ {cs ds : List (List PV)}, RowsLe cs ds → cs.length = ds.length
  | [], [], _ => rfl
  | x :: xs, y :: ys, h => by simp [RowsLe.length h.2]
  | [], _ :: _, h => h.elim
  | _ :: _, [], h => h.elim
theorem CsLe.cells {M : Nat → Prop} {w : World} {b : Nat} : ∀ {off : Nat} {cs ds : List PV}, CsLe cs ds → PV.Cells M w b off cs → PV.Cells M w b off ds
  | _, [], [], _, h => h
  | off, x :: xs, y :: ys, h, h' => by
    simp only [PV.Cells] at h' ⊢
    obtain ⟨⟨u, hu, hr⟩, h2⟩ := h'
    exact ⟨⟨u, hu, h.1 _ _ _ hr⟩, CsLe.cells h.2 h2⟩
  | _, [], _ :: _, h, _ => h.elim
  | _, _ :: _, [], h, _ => h.elim
theorem RowsLe.rows {M : Nat → Prop} {w : World} {b es : Nat} : ∀ {off : Nat} {cs ds : List (List PV)}, RowsLe cs ds → PV.Rows M w b es off cs → PV.Rows M w b es off ds
  | _, [], [], _, h => h
  | off, x :: xs, y :: ys, h, h' => by
    simp only [PV.Rows] at h' ⊢
    exact ⟨h.1.length ▸ h'.1, CsLe.cells h.1 h'.2.1, RowsLe.rows h.2 h'.2.2⟩
  | _, [], _ :: _, h, _ => h.elim
  | _, _ :: _, [], h, _ => h.elim
theorem PVle.sl {f f' : Bool} {es : Nat} {rs qs : List (List PV)} (hf : f' = true → f = true) (h : RowsLe rs qs) : PVle (.sl f es rs) (.sl f' es qs) := fun M w u hr => by
  simp only [PV.R] at hr ⊢
  obtain ⟨a, cap, h1, h2, h3, h4, h5⟩ := hr
  refine ⟨a, cap, by rw [← h.length]; exact h1, by rw [← h.length]; exact h2, fun hf' => by rw [← h.length]; exact h3 (hf hf'), h4, fun ad had hc => ?_⟩
  obtain ⟨g1, g2, g3, g4⟩ := h5 ad had hc
  exact ⟨g1, g2, g3, h.rows g4⟩
/-- The spare room is forgotten. -/
theorem PVle.full {es : Nat} {rs : List (List PV)} (f : Bool) : PVle (.sl f es rs) (.sl false es rs) := PVle.sl (fun h => by simp at h) (RowsLe.refl rs)
/-- Nothing, whatever its elements. -/
theorem PVle.nil {f f' : Bool} {es es' : Nat} (hf : f' = true → f = true) : PVle (.sl f es []) (.sl f' es' []) := fun M w u hr => by
  simp only [PV.R, PV.Rows] at hr ⊢
  obtain ⟨a, cap, h1, h2, h3, h4, h5⟩ := hr
  exact ⟨a, cap, h1, h2, fun hf' => h3 (hf hf'), h4, h5⟩

mutual
inductive AVle : AV → AV → Prop
  | refl (x : AV) : AVle x x
  | p {x y : PV} (h : PVle x y) : AVle (.p x) (.p y)
  | agg {xs ys : List AV} (h : AVleL xs ys) : AVle (.agg xs) (.agg ys)
  | any {x : AV} (h : (cellsAV x).isSome = true) (h2 : ∀ cs, x ≠ .agg cs) : AVle x .any
  /-- A header of the whole array is a view of it. -/
  | view (n : Name) (len : Nat) : AVle (.own n len) (.view n len 0 len)
inductive AVleL : List AV → List AV → Prop
  | nil : AVleL [] []
  | cons {x y : AV} {xs ys : List AV} (h : AVle x y) (h' : AVleL xs ys) : AVleL (x :: xs) (y :: ys)
end

theorem AVle.sound {ρ : Name → Loc} {H : Heap} {M : Nat → Prop} {w : World} {x y : AV} (h : AVle x y) : ∀ u, x.R ρ H M w u → y.R ρ H M w u := by
  refine AVle.rec (motive_1 := fun x y _ => ∀ u, x.R ρ H M w u → y.R ρ H M w u) (motive_2 := fun xs ys _ => ∀ us, AV.Rs ρ H M w xs us → AV.Rs ρ H M w ys us) ?_ ?_ ?_ ?_ ?_ ?_ ?_ h
  · exact fun x u hr => hr
  · intro x y hxy u hr
    simp only [AV.R] at hr ⊢
    exact hxy _ _ _ hr
  · intro xs ys _ ih u hr
    simp only [AV.R] at hr ⊢
    obtain ⟨us, h1, h2⟩ := hr
    exact ⟨us, h1, ih _ h2⟩
  · intro x hx hne u hr
    have : ∀ cs, cellsAV x = some cs → x.R ρ H M w u → u.oneCell' = true := by
      intro cs hcs hr
      have h1 := cellsAV_R hcs hr
      cases x with
      | agg cs => exact absurd rfl (hne cs)
      | tup vs => simp [cellsAV] at hcs
      | p y => simp only [AV.R] at hr; exact hr.flat
      | oref b n => simp only [AV.R] at hr; exact hr.1
      | ref n k => simp only [AV.R] at hr; exact hr.1
      | own n k => simp only [AV.R] at hr; exact hr.1
      | aref n a b c => simp only [AV.R] at hr; exact hr.1
      | view n a b c => simp only [AV.R] at hr; exact hr.1
      | eptr cells => simp only [AV.R] at hr; obtain ⟨ad, rfl, _⟩ := hr; rfl
      | clo f a b => simp only [AV.R] at hr; obtain ⟨a, c, rfl, _⟩ := hr; rfl
      | err b => simp only [AV.R] at hr; exact hr.1
      | ub => simp only [AV.R] at hr; obtain ⟨q, rfl⟩ := hr; rfl
      | any => simpa only [AV.R] using hr
    obtain ⟨cs, hcs⟩ := Option.isSome_iff_exists.1 hx
    simp only [AV.R]
    exact this cs hcs hr
  · intro n len u hr
    have hz : ∀ x : Addr, x.add 0 = x := fun x => by
      obtain ⟨b0, o0, s0⟩ := x
      cases s0 <;> simp [Addr.add]
    simp only [AV.R] at hr ⊢
    refine ⟨hr.1, Nat.zero_le _, Nat.le_refl _, fun o es k ho hsh => ⟨(hr.2 o es k ho hsh).1, fun e => ?_⟩⟩
    rw [(hr.2 o es k ho hsh).2 e]
    cases hb : (ρ n).base with
    | none => simp [viewV]
    | some x => simp [viewV, hz]
  · exact fun us h => h
  · intro a b as1 bs _ _ ih1 ih2 us hr
    simp only [AV.Rs] at hr ⊢
    obtain ⟨u, us', h1, h2, h3, h4⟩ := hr
    exact ⟨u, us', h1, h2, ih1 _ h3, ih2 _ h4⟩

theorem Rs_le {ρ : Name → Loc} {H : Heap} {M : Nat → Prop} {w : World} {xs ys : List AV} (h : AVleL xs ys) : ∀ us, AV.Rs ρ H M w xs us → AV.Rs ρ H M w ys us := by
  intro us hr
  have : AV.R ρ H M w (.agg ys) (.agg us.toArray) := (AVle.agg h).sound _ (by simp only [AV.R]; exact ⟨us.toArray, rfl, by simpa using hr⟩)
  simp only [AV.R] at this
  obtain ⟨us', h1, h2⟩ := this
  cases h1
  simpa using h2

inductive AOle : AO → AO → Prop
  | refl (x : AO) : AOle x x
  | box {xs ys : List AV} (h : AVleL xs ys) : AOle (.box xs) (.box ys)
  | arr {es : Nat} {rs qs : List (List PV)} (h : RowsLe rs qs) : AOle (.arr es rs) (.arr es qs)
  | hole {es : Nat} {pre post : List (List PV)} {xs ys : List AV} (h : AVleL xs ys) : AOle (.hole es pre xs post) (.hole es pre ys post)
  /-- One row of an array comes to the fore. -/
  | focus {es : Nat} {rows pre post : List (List PV)} {r : List PV} {row : List AV} (hr : rows = pre ++ r :: post) (hrow : row = r.map .p) : AOle (.arr es rows) (.hole es pre row post)
  | unfocus {es : Nat} {rows pre post : List (List PV)} {r : List PV} {row : List AV} (hr : rows = pre ++ r :: post) (hrow : row = r.map .p) : AOle (.hole es pre row post) (.arr es rows)

/-- Slot by slot, object by object. -/
def TsLe : List (Nat × AV) → List (Nat × AV) → Prop
  | [], [] => True
  | (k, x) :: r, (j, y) :: q => k = j ∧ AVle x y ∧ TsLe r q
  | _, _ => False
def HsLe : List (Name × AO) → List (Name × AO) → Prop
  | [], [] => True
  | (k, x) :: r, (j, y) :: q => k = j ∧ AOle x y ∧ HsLe r q
  | _, _ => False
theorem TsLe.look : ∀ {ts ts' : List (Nat × AV)}, TsLe ts ts' → ∀ t y, AM.look t ts' = some y → ∃ x, AM.look t ts = some x ∧ AVle x y
  | [], [], _, t, y, h => by simp [AM.look] at h
  | (k, x) :: r, (j, y0) :: q, h, t, y, hy => by
    obtain ⟨rfl, h2, h3⟩ := h
    simp only [AM.look] at hy ⊢
    split at hy
    · rename_i e; cases hy; exact ⟨x, by simp [e], h2⟩
    · rename_i e; simp only [e, if_false]; exact TsLe.look h3 t y hy
  | [], _ :: _, h, _, _, _ => h.elim
  | _ :: _, [], h, _, _, _ => h.elim
theorem HsLe.look : ∀ {ts ts' : List (Name × AO)}, HsLe ts ts' → ∀ t, (∀ y, AM.look t ts' = some y → ∃ x, AM.look t ts = some x ∧ AOle x y) ∧ (∀ x, AM.look t ts = some x → ∃ y, AM.look t ts' = some y ∧ AOle x y)
  | [], [], _, t => by simp [AM.look]
  | (k, x) :: r, (j, y0) :: q, h, t => by
    obtain ⟨rfl, h2, h3⟩ := h
    simp only [AM.look]
    split
    · exact ⟨fun y hy => by cases hy; exact ⟨x, rfl, h2⟩, fun y hy => by cases hy; exact ⟨y0, rfl, h2⟩⟩
    · exact HsLe.look h3 t
  | [], _ :: _, h, _ => h.elim
  | _ :: _, [], h, _ => h.elim

theorem AVleL.len {xs ys : List AV} (h : AVleL xs ys) : xs.length = ys.length := by
  have := AVleL.rec (motive_1 := fun _ _ _ => True) (motive_2 := fun xs ys _ => xs.length = ys.length) (by intros; trivial) (by intros; trivial) (by intros; trivial) (by intros; trivial) (by intros; trivial) (by rfl) (by intros; simp_all) h
  exact this
theorem stays_of_shape {o o' o2 : AO} {l l' : Loc} {es k : Nat} (h1 : o'.shape = some (es, k)) (h2 : o2.shape = some (es, k)) (hs : stays o l (some o') l') : stays o l (some o2) l' := by
  cases o <;> cases o' <;> cases o2 <;> simp only [stays, AO.shape, reduceCtorEq, Option.some.injEq, Prod.mk.injEq] at h1 h2 hs ⊢
  all_goals (obtain ⟨rfl, e1⟩ := h1; obtain ⟨rfl, e2⟩ := h2; refine ⟨hs.1, by have := hs.2.1; omega, fun e => hs.2.2 (by omega)⟩)
/-- A row at its place among the array's cells. -/
theorem row_cells {ρ : Name → Loc} {H : Heap} {M : Nat → Prop} {w : World} {b k es : Nat} {T : TypeId} {cs : Array Value} {r : List PV} (hb : w.heap[b]? = some (.cells cs T (0, 0))) (hl : r.length = es) (hk : k + es ≤ cs.size) :
    AV.Rs ρ H M w (r.map .p) ((cs.toList.drop k).take es) ↔ PV.Cells M w b k r := by
  constructor
  · intro h
    refine PV.Cells.of_get fun j c hj => ?_
    obtain ⟨u, q1, q2, q3⟩ := h.get j (.p c) (by rw [List.getElem?_map, hj]; rfl)
    refine ⟨u, ?_, by simpa only [AV.R] using q3⟩
    have hjl : j < es := by rw [← hl]; exact (List.getElem?_eq_some_iff.1 hj).1
    rw [List.getElem?_take, if_pos hjl, List.getElem?_drop] at q1
    unfold World.cell?
    simp only [hb]
    simpa using q1
  · intro h
    refine AV.Rs.of_get (by simp; omega) fun j x u hj hu => ?_
    rw [List.getElem?_map] at hj
    cases hr : r[j]? with
    | none => rw [hr] at hj; simp at hj
    | some c =>
      rw [hr] at hj; simp at hj; subst hj
      obtain ⟨u', q1, q2⟩ := h.get j c hr
      have hjl : j < es := by rw [← hl]; exact (List.getElem?_eq_some_iff.1 hr).1
      rw [List.getElem?_take, if_pos hjl, List.getElem?_drop] at hu
      unfold World.cell? at q1
      simp only [hb] at q1
      have : u' = u := by
        have q1' : cs.toList[k + j]? = some u' := by simpa using q1
        rw [q1'] at hu; exact Option.some.inj hu
      subst this
      exact ⟨q2.flat, by simpa only [AV.R] using q2⟩
theorem rows_split {M : Nat → Prop} {w : World} {b es : Nat} {pre post : List (List PV)} {r : List PV} : PV.Rows M w b es 0 (pre ++ r :: post) ↔ PV.Rows M w b es 0 pre ∧ (r.length = es ∧ PV.Cells M w b (pre.length * es) r) ∧ PV.Rows M w b es ((pre.length + 1) * es) post := by
  constructor
  · intro h
    refine ⟨PV.Rows.of_get fun i x hx => ?_, ?_, PV.Rows.of_get fun i x hx => ?_⟩
    · exact h.get i x (by rw [List.getElem?_append_left (List.getElem?_eq_some_iff.1 hx).1]; exact hx)
    · have := h.get pre.length r (by simp)
      simpa using this
    · have := h.get (pre.length + 1 + i) x (by rw [List.getElem?_append_right (by omega), show pre.length + 1 + i - pre.length = i + 1 by omega]; simpa using hx)
      rwa [Nat.zero_add, Nat.add_mul] at this
  · rintro ⟨h1, h2, h3⟩
    refine PV.Rows.of_get fun i x hx => ?_
    rcases Nat.lt_or_ge i pre.length with h | h
    · rw [List.getElem?_append_left h] at hx; exact h1.get i x hx
    · rw [List.getElem?_append_right h] at hx
      cases hd : i - pre.length with
      | zero =>
        rw [hd] at hx; simp at hx; subst hx
        have : i = pre.length := by omega
        subst this; simpa using h2
      | succ m =>
        rw [hd] at hx; simp at hx
        have := h3.get m x hx
        rw [show i = pre.length + 1 + m by omega, Nat.zero_add, Nat.add_mul]; exact this

theorem stays_le {o o' o2 : AO} {l l' : Loc} (h : AOle o' o2) (hs : stays o l (some o') l') : stays o l (some o2) l' := by
  cases h with
  | refl => exact hs
  | box h => cases o <;> simp only [stays] at hs ⊢ <;> exact hs
  | arr h => cases o <;> simp only [stays] at hs ⊢ <;> first | exact hs | (rw [← h.length]; exact hs)
  | hole h => exact stays_of_shape rfl rfl hs
  | focus hr hrow => subst hr; exact stays_of_shape (es := _) (k := _) rfl (by simp [AO.shape]; omega) hs
  | unfocus hr hrow => subst hr; exact stays_of_shape (es := _) (k := _) rfl (by simp [AO.shape]; omega) hs

theorem Weak.le {Γ : Ctx} {ts ts' : List (Nat × AV)} {hs hs' : List (Name × AO)} (h1 : TsLe ts ts') (h2 : HsLe hs hs') : Weak Γ (mk ts hs) (mk ts' hs') := fun ρ M a w h => by
  have hst : HStep ρ (mk ts hs).heap ρ (mk ts' hs').heap := fun n ob hn => by
    obtain ⟨y, hy, hle⟩ := (h2.look n).2 ob hn
    change stays ob (ρ n) (AM.look n hs') (ρ n)
    rw [hy]
    exact stays_le hle (stays_refl _ _)
  have hnn : ∀ n, (mk ts hs).heap n = none → (mk ts' hs').heap n = none := fun n hn => by
    cases hc : (mk ts' hs').heap n with
    | none => rfl
    | some y =>
      obtain ⟨x, hx, _⟩ := (h2.look n).1 y hc
      change AM.look n hs = none at hn
      rw [hx] at hn; simp at hn
  have hconv : ∀ {x : AV} {u : Value}, x.R ρ (mk ts hs).heap M w u → x.R ρ (mk ts' hs').heap M w u := fun hr =>
    hr.step (Ext.refl (fun _ => False) _) (fun _ hb => hb.elim) (fun b _ hb => hb) hst (fun n _ => hnn n)
  have hconvs : ∀ {xs : List AV} {us : List Value}, AV.Rs ρ (mk ts hs).heap M w xs us → AV.Rs ρ (mk ts' hs').heap M w xs us := fun hr =>
    hr.step (Ext.refl (fun _ => False) _) (fun _ hb => hb.elim) (fun b _ hb => hb) hst (fun n _ => hnn n)
  refine ⟨ρ, M, h.n, h.d, fun t y hy => ?_, fun n y hy => ?_, fun n m o o' b g1 g2 => ?_, fun n o b g1 g2 => ?_, fun n hn => ?_, h.ext, h.mext, h.msize, h.m0, h.ground⟩
  · obtain ⟨x, hx, hle⟩ := h1.look t y hy
    obtain ⟨u, hu, hr⟩ := h.slots t x hx
    exact ⟨u, hu, hle.sound u (hconv hr)⟩
  · obtain ⟨x, hx, hle⟩ := (h2.look n).1 y hy
    have hobj := h.objs n x hx
    have hobj' : ObjAt ρ (mk ts' hs').heap M w n x := by
      cases x with
      | box cells => obtain ⟨b, T, cs, k1, k2, k3, k4⟩ := hobj; exact ⟨b, T, cs, k1, k2, k3, hconvs k4⟩
      | arr es rows => exact hobj
      | hole es pre row post => obtain ⟨k0, k0', k1, b, T, cs, k3, k4, k5, k6, k7, k8, k9⟩ := hobj; exact ⟨k0, k0', k1, b, T, cs, k3, k4, k5, k6, k7, hconvs k8, k9⟩
      | fact a x => exact ⟨hobj.1, hconv hobj.2⟩
      | obj x => exact hobj
    cases hle with
    | refl => exact hobj'
    | box hb => obtain ⟨b, T, cs, k1, k2, k3, k4⟩ := hobj'; exact ⟨b, T, cs, k1, k2, k3, Rs_le hb _ k4⟩
    | arr hr =>
      obtain ⟨k0, k1, k2⟩ := hobj'
      refine ⟨k0, by rw [← hr.length]; exact k1, k2.imp id ?_⟩
      rintro ⟨b, T, cs, q1, q2, q3, q4, q5⟩
      exact ⟨b, T, cs, q1, q2, q3, q4, hr.rows q5⟩
    | hole hrow => obtain ⟨k0, k0', k1, b, T, cs, k3, k4, k5, k6, k7, k8, k9⟩ := hobj'; exact ⟨k0, by rw [← hrow.len]; exact k0', k1, b, T, cs, k3, k4, k5, k6, k7, Rs_le hrow _ k8, k9⟩
    | @focus es rows pre post r row hr hrow =>
      subst hr; subst hrow
      obtain ⟨k0, k1, k2⟩ := hobj'
      simp only [List.length_append, List.length_cons] at k1
      rcases k2 with k2 | ⟨b, T, cs, q1, q2, q3, q4, q5⟩
      · omega
      · obtain ⟨w1, w2, w3⟩ := rows_split.1 q5
        have hsz := Nat.mul_le_mul_right es k1
        rw [show ∀ a c : Nat, a + (c + 1) = a + 1 + c by intro a c; omega, Nat.add_mul, Nat.add_mul, Nat.one_mul] at hsz
        exact ⟨k0, by simpa using w2.1, by omega, b, T, cs, q1, q2, q3, q4, w1, (row_cells q3 w2.1 (by omega)).2 w2.2, w3⟩
    | @unfocus es rows pre post r row hr hrow =>
      subst hr; subst hrow
      obtain ⟨k0, k0', k1, b, T, cs, k3, k4, k5, k6, k7, k8, k9⟩ := hobj'
      have hl := k0'
      rw [List.length_map] at hl
      have hsz := Nat.mul_le_mul_right es k1
      rw [Nat.add_mul, Nat.add_mul, Nat.one_mul] at hsz
      exact ⟨k0, by simp only [List.length_append, List.length_cons]; omega, .inr ⟨b, T, cs, k3, k4, k5, k6, rows_split.2 ⟨k7, ⟨hl, (row_cells k5 hl (by omega)).1 k8⟩, k9⟩⟩⟩
  · obtain ⟨x, hx, _⟩ := (h2.look n).1 o g1
    obtain ⟨x', hx', _⟩ := (h2.look m).1 o' g2
    exact h.inj n m x x' b hx hx'
  · obtain ⟨x, hx, _⟩ := (h2.look n).1 o g1
    exact h.own0 n x b hx g2
  · obtain ⟨x, hx, hst'⟩ := h.keep n hn
    obtain ⟨y, hy, hle⟩ := (h2.look n).2 x hx
    exact ⟨y, hy, stays_le hle hst'⟩

/-! ### An array is frozen: from now on it is pure data -/
mutual
inductive Frz (px : Value → Prop) (n : Name) (es : Nat) (rows : List (List PV)) : AV → AV → Prop
  | same {x : AV} (h : x.has n = false) : Frz px n es rows x x
  | own : Frz px n es rows (.own n rows.length) (.p (.sl false es rows))
  | view {lo hi : Nat} : Frz px n es rows (.view n rows.length lo hi) (.p (.sl false es ((rows.take hi).drop lo)))
  | pin {x : Value} (h : px x) : Frz px n es rows (.p (.v x)) (.p (.sl false es rows))
  | agg {xs ys : List AV} (h : FrzL px n es rows xs ys) : Frz px n es rows (.agg xs) (.agg ys)
inductive FrzL (px : Value → Prop) (n : Name) (es : Nat) (rows : List (List PV)) : List AV → List AV → Prop
  | nil : FrzL px n es rows [] []
  | cons {x y : AV} {xs ys : List AV} (h : Frz px n es rows x y) (h' : FrzL px n es rows xs ys) : FrzL px n es rows (x :: xs) (y :: ys)
end

def TsFrz (px : Value → Prop) (n : Name) (es : Nat) (rows : List (List PV)) : List (Nat × AV) → List (Nat × AV) → Prop
  | [], [] => True
  | (k, x) :: r, (j, y) :: q => k = j ∧ Frz px n es rows x y ∧ TsFrz px n es rows r q
  | _, _ => False
/-- Rows whose cells, where they name the array's header, become its data. -/
def RowsPin (px : Value → Prop) (es : Nat) (rows rs qs : List (List PV)) : Prop :=
  rs.length = qs.length ∧ ∀ (i : Nat) (r q : List PV), rs[i]? = some r → qs[i]? = some q → r.length = q.length ∧ ∀ (j : Nat) (c d : PV), r[j]? = some c → q[j]? = some d → c = d ∨ ∃ x, px x ∧ c = .v x ∧ d = .sl false es rows
inductive OFrz (px : Value → Prop) (n : Name) (es : Nat) (rows : List (List PV)) : AO → AO → Prop
  | same {x : AO} (h : x.has n = false) : OFrz px n es rows x x
  | box {xs ys : List AV} (h : FrzL px n es rows xs ys) : OFrz px n es rows (.box xs) (.box ys)
  | hole {es' : Nat} {pre post : List (List PV)} {xs ys : List AV} (h : FrzL px n es rows xs ys) : OFrz px n es rows (.hole es' pre xs post) (.hole es' pre ys post)
  | arr {es' : Nat} {rs qs : List (List PV)} (h : RowsPin px es rows rs qs) : OFrz px n es rows (.arr es' rs) (.arr es' qs)
def HsFrz (px : Value → Prop) (n : Name) (es : Nat) (rows : List (List PV)) : List (Name × AO) → List (Name × AO) → Prop
  | [], [] => True
  | (k, x) :: r, (j, y) :: q => k = j ∧ k ≠ n ∧ OFrz px n es rows x y ∧ HsFrz px n es rows r q
  | _, _ => False
theorem TsFrz.look {px : Value → Prop} {n : Name} {es : Nat} {rows : List (List PV)} : ∀ {ts ts' : List (Nat × AV)}, TsFrz px n es rows ts ts' → ∀ t y, AM.look t ts' = some y → ∃ x, AM.look t ts = some x ∧ Frz px n es rows x y
  | [], [], _, t, y, h => by simp [AM.look] at h
  | (k, x) :: r, (j, y0) :: q, h, t, y, hy => by
    obtain ⟨rfl, h2, h3⟩ := h
    simp only [AM.look] at hy ⊢
    split at hy
    · rename_i e; cases hy; exact ⟨x, by simp [e], h2⟩
    · rename_i e; simp only [e, if_false]; exact TsFrz.look h3 t y hy
  | [], _ :: _, h, _, _, _ => h.elim
  | _ :: _, [], h, _, _, _ => h.elim
theorem HsFrz.look {px : Value → Prop} {n : Name} {es : Nat} {rows : List (List PV)} : ∀ {ts ts' : List (Name × AO)}, HsFrz px n es rows ts ts' → ∀ t, (∀ y, AM.look t ts' = some y → t ≠ n ∧ ∃ x, AM.look t ts = some x ∧ OFrz px n es rows x y) ∧ (∀ x, AM.look t ts = some x → ∃ y, AM.look t ts' = some y ∧ OFrz px n es rows x y)
  | [], [], _, t => by simp [AM.look]
  | (k, x) :: r, (j, y0) :: q, h, t => by
    obtain ⟨rfl, h1, h2, h3⟩ := h
    simp only [AM.look]
    split
    · rename_i e; subst e; exact ⟨fun y hy => by cases hy; exact ⟨h1, x, rfl, h2⟩, fun y hy => by cases hy; exact ⟨y0, rfl, h2⟩⟩
    · exact HsFrz.look h3 t
  | [], _ :: _, h, _ => h.elim
  | _ :: _, [], h, _ => h.elim

theorem OFrz.stays {px : Value → Prop} {n : Name} {es : Nat} {rows : List (List PV)} {o o' o2 : AO} {l l' : Loc} (h : OFrz px n es rows o' o2) (hs : stays o l (some o') l') : AM.stays o l (some o2) l' := by
  cases h with
  | same => exact hs
  | box h => cases o <;> simp only [AM.stays] at hs ⊢ <;> exact hs
  | hole h => exact stays_of_shape rfl rfl hs
  | arr h => exact stays_of_shape rfl (by simp [AO.shape, h.1]) hs
theorem FrzL.len {px : Value → Prop} {n : Name} {es : Nat} {rows : List (List PV)} {xs ys : List AV} (h : FrzL px n es rows xs ys) : xs.length = ys.length := by
  have := FrzL.rec (px := px) (n := n) (es := es) (rows := rows) (motive_1 := fun _ _ _ => True) (motive_2 := fun xs ys _ => xs.length = ys.length) (by intros; trivial) (by trivial) (by intros; trivial) (by intros; trivial) (by intros; trivial) (by rfl) (by intros; simp_all) h
  exact this

/-- The array n is frozen; it goes out of the objects. -/
theorem freeze_sim {Γ : Ctx} {px : Value → Prop} {n : Name} {es : Nat} {rows : List (List PV)} {ts ts' : List (Nat × AV)} {hs hs' : List (Name × AO)} (hn : n ∉ Γ.names) (h1 : TsFrz px n es rows ts ts') (h2 : HsFrz px n es rows hs hs')
    {ρ : Name → Loc} {M : Nat → Prop} {a : Act} {w : World} (h : Sim Γ ρ M (mk ts ((n, .arr es rows) :: hs)) a w)
    (hpx : ∀ x, px x → AV.R ρ (mk ts ((n, .arr es rows) :: hs)).heap M w (.own n rows.length) x) : ∃ ρ' M', Sim Γ ρ' M' (mk ts' hs') a w := by
  have hobj : ObjAt ρ (mk ts ((n, .arr es rows) :: hs)).heap M w n (.arr es rows) := h.objs n _ (by simp [mk, AM.look])
  let M' : Nat → Prop := fun b => M b ∧ (ρ n).blk ≠ some b
  have hup : ∀ t x, AM.look t hs = some x → t ≠ n → (mk ts ((n, .arr es rows) :: hs)).heap t = some x := fun t x hx hne => by
    simp only [mk, AM.look, if_neg (Ne.symm hne), hx]
  have hdown : ∀ t x, (mk ts ((n, .arr es rows) :: hs)).heap t = some x → t ≠ n → AM.look t hs = some x := fun t x hx hne => by
    simpa only [mk, AM.look, if_neg (Ne.symm hne)] using hx
  have hnn' : (mk ts' hs').heap n = none := by
    cases hc : (mk ts' hs').heap n with
    | none => rfl
    | some y => exact absurd rfl ((h2.look n).1 y hc).1
  have hst : HStep ρ (mk ts ((n, .arr es rows) :: hs)).heap ρ (mk ts' hs').heap := fun m ob hm => by
    by_cases e : m = n
    · subst e; rw [hnn']; cases ob <;> simp [AM.stays]
    · obtain ⟨y, hy, hf⟩ := (h2.look m).2 ob (hdown m ob hm e)
      change stays ob (ρ m) (AM.look m hs') (ρ m)
      rw [hy]
      exact hf.stays (stays_refl _ _)
  have hnn : ∀ m, (mk ts ((n, .arr es rows) :: hs)).heap m = none → (mk ts' hs').heap m = none := fun m hm => by
    cases hc : (mk ts' hs').heap m with
    | none => rfl
    | some y =>
      obtain ⟨hne, x, hx, _⟩ := (h2.look m).1 y hc
      rw [hup m x hx hne] at hm; simp at hm
  have hMM : ∀ b, b < w.heap.size → M' b → M b := fun b _ hb => hb.1
  have hconv : ∀ {x : AV} {u : Value}, x.R ρ (mk ts ((n, .arr es rows) :: hs)).heap M w u → x.R ρ (mk ts' hs').heap M' w u := fun hr =>
    hr.step (Ext.refl (fun _ => False) _) (fun _ hb => hb.elim) hMM hst (fun m _ => hnn m)
  have hown : ∀ u, AV.R ρ (mk ts ((n, .arr es rows) :: hs)).heap M w (.own n rows.length) u → AV.R ρ (mk ts' hs').heap M' w (.p (.sl false es rows)) u := fun u hr => by
    simp only [AV.R] at hr ⊢
    have hu := (hr.2 (.arr es rows) es rows.length (by simp [mk, AM.look]) rfl).2 rfl
    obtain ⟨k0, k1, k2⟩ := hobj
    simp only [PV.R]
    refine ⟨(ρ n).base, (ρ n).cap, hu, k1, fun hf => by simp at hf, fun hb => ?_, fun ad had hc => ?_⟩
    · rcases k2 with k2 | ⟨b, T, cs, q1, _⟩
      · exact k2
      · rw [hb] at q1; simp at q1
    · rcases k2 with k2 | ⟨b, T, cs, q1, q2, q3, q4, q5⟩
      · exact absurd k2 hc
      · rw [q1] at had; cases had
        refine ⟨rfl, fun hm => hm.2 (by simp [Loc.blk, hc, q1]), h.msize _ q2, ?_⟩
        exact q5.mono (M' := M') (Ext.refl (fun _ => False) w) (fun _ hb => hb.elim) hMM (fun hb => hb) (h.msize _ q2)
  have hview : ∀ {lo hi : Nat}, ∀ u, AV.R ρ (mk ts ((n, .arr es rows) :: hs)).heap M w (.view n rows.length lo hi) u → AV.R ρ (mk ts' hs').heap M' w (.p (.sl false es ((rows.take hi).drop lo))) u := fun {lo hi} u hr => by
    simp only [AV.R] at hr ⊢
    obtain ⟨_, hl1, hl2, hr2⟩ := hr
    have hu := (hr2 (.arr es rows) es rows.length (by simp [mk, AM.look]) rfl).2 rfl
    obtain ⟨k0, k1, k2⟩ := hobj
    simp only [PV.R, List.length_drop, List.length_take, Nat.min_eq_left hl2]
    simp only [viewV] at hu
    refine ⟨_, _, hu, by omega, fun hf => by simp at hf, fun hb => ?_, fun ad had hc => ?_⟩
    · split at hb
      · omega
      · rcases k2 with k2 | ⟨b, T, cs, q1, _⟩
        · omega
        · rw [q1] at hb; simp at hb
    · rw [if_neg (by omega)] at had
      rcases k2 with k2 | ⟨b, T, cs, q1, q2, q3, q4, q5⟩
      · omega
      · rw [q1] at had
        simp only [Option.map_some, Option.some.injEq] at had
        rw [addr_add] at had
        subst had
        have hcap : (ρ n).cap ≠ 0 := by omega
        refine ⟨rfl, fun hm => hm.2 (by simp [Loc.blk, hcap, q1]), h.msize _ q2, ?_⟩
        exact ((q5.take hi).drop lo).mono (M' := M') (Ext.refl (fun _ => False) w) (fun _ hb => hb.elim) hMM (fun hb => hb) (h.msize _ q2)
  have hfrz : ∀ {x y : AV}, Frz px n es rows x y → ∀ u, x.R ρ (mk ts ((n, .arr es rows) :: hs)).heap M w u → y.R ρ (mk ts' hs').heap M' w u := by
    intro x y hxy
    refine Frz.rec (motive_1 := fun x y _ => ∀ u, x.R ρ (mk ts ((n, .arr es rows) :: hs)).heap M w u → y.R ρ (mk ts' hs').heap M' w u) (motive_2 := fun xs ys _ => ∀ us, AV.Rs ρ (mk ts ((n, .arr es rows) :: hs)).heap M w xs us → AV.Rs ρ (mk ts' hs').heap M' w ys us) ?_ ?_ ?_ ?_ ?_ ?_ ?_ hxy
    · exact fun _ u hr => hconv hr
    · exact hown
    · exact fun u hr => hview u hr
    · intro x hx u hr
      simp only [AV.R, PV.R] at hr
      rw [hr.1]; exact hown x (hpx x hx)
    · intro xs ys _ ih u hr
      simp only [AV.R] at hr ⊢
      obtain ⟨us, g1, g2⟩ := hr
      exact ⟨us, g1, ih _ g2⟩
    · intro us hr; simp only [AV.Rs] at hr ⊢; exact hr
    · intro a b as1 bs _ _ ih1 ih2 us hr
      simp only [AV.Rs] at hr ⊢
      obtain ⟨u, us', g1, g2, g3, g4⟩ := hr
      exact ⟨u, us', g1, g2, ih1 _ g3, ih2 _ g4⟩
  have hfrzs : ∀ {xs ys : List AV}, FrzL px n es rows xs ys → ∀ us, AV.Rs ρ (mk ts ((n, .arr es rows) :: hs)).heap M w xs us → AV.Rs ρ (mk ts' hs').heap M' w ys us := by
    intro xs ys hxy us hr
    have : AV.R ρ (mk ts' hs').heap M' w (.agg ys) (.agg us.toArray) := hfrz (Frz.agg hxy) _ (by simp only [AV.R]; exact ⟨us.toArray, rfl, by simpa using hr⟩)
    simp only [AV.R] at this
    obtain ⟨us', h1, h2⟩ := this
    cases h1
    simpa using h2
  have hblk : ∀ m x, m ≠ n → (mk ts ((n, .arr es rows) :: hs)).heap m = some x → ∀ b, (ρ m).blk = some b → (ρ n).blk ≠ some b := fun m x hne hx b hb hb' =>
    hne (h.inj m n x _ b hx (by simp [mk, AM.look]; rfl) hb hb')
  refine ⟨ρ, M', h.n, h.d, fun t y hy => ?_, fun m y hy => ?_, fun m m' o o' b g1 g2 => ?_, fun m o b g1 g2 => ?_, fun m hm => ?_, h.ext, fun b hb => ⟨h.mext b hb, fun hb' => ?_⟩, fun b hb => h.msize b hb.1, h.m0, h.ground⟩
  · obtain ⟨x, hx, hf⟩ := h1.look t y hy
    obtain ⟨u, hu, hr⟩ := h.slots t x hx
    exact ⟨u, hu, hfrz hf u hr⟩
  · obtain ⟨hne, x, hx, hf⟩ := (h2.look m).1 y hy
    have hx' := hup m x hx hne
    have hob := h.objs m x hx'
    have hob' : ObjAt ρ (mk ts' hs').heap M' w m y := by
      cases hf with
      | same hh =>
        cases y with
        | box cells =>
          obtain ⟨b, T, cs, k1, k2, k3, k4⟩ := hob
          exact ⟨b, T, cs, k1, ⟨k2, hblk m _ hne hx' b (by rw [k1]; simp [Loc.blk])⟩, k3, k4.step (Ext.refl (fun _ => False) _) (fun _ hb => hb.elim) hMM hst (fun m _ => hnn m)⟩
        | arr es' rows' =>
          obtain ⟨k0, k1, k2⟩ := hob
          refine ⟨k0, k1, ?_⟩
          by_cases hc : (ρ m).cap = 0
          · exact .inl hc
          · rcases k2 with k2 | ⟨b, T, cs, q1, q2, q3, q4, q5⟩
            · exact .inl k2
            · exact .inr ⟨b, T, cs, q1, ⟨q2, hblk m _ hne hx' b (by simp [Loc.blk, hc, q1])⟩, q3, q4, q5.mono (M' := M') (Ext.refl (fun _ => False) w) (fun _ hb => hb.elim) hMM (fun hb => hb) (h.msize _ q2)⟩
        | hole es' pre row post =>
          obtain ⟨k0, k0', k1, b, T, cs, k3, k4, k5, k6, k7, k8, k9⟩ := hob
          exact ⟨k0, k0', k1, b, T, cs, k3, ⟨k4, hblk m _ hne hx' b (by unfold Loc.blk; rw [if_neg (by omega), k3]; rfl)⟩, k5, k6, k7.stepB (Ext.refl (fun _ => False) w) (fun _ hb => hb.elim) hMM rfl,
            k8.step (Ext.refl (fun _ => False) _) (fun _ hb => hb.elim) hMM hst (fun m _ => hnn m), k9.stepB (Ext.refl (fun _ => False) w) (fun _ hb => hb.elim) hMM rfl⟩
        | fact a x => exact ⟨hob.1, hconv hob.2⟩
        | obj x =>
          obtain ⟨b, k1, k2, k3⟩ := hob
          exact ⟨b, k1, ⟨k2, hblk m _ hne hx' b (by rw [k1]; simp [Loc.blk])⟩, k3⟩
      | hole hcs =>
        obtain ⟨k0, k0', k1, b, T, cs, k3, k4, k5, k6, k7, k8, k9⟩ := hob
        exact ⟨k0, by rw [← hcs.len]; exact k0', k1, b, T, cs, k3, ⟨k4, hblk m _ hne hx' b (by unfold Loc.blk; rw [if_neg (by omega), k3]; rfl)⟩, k5, k6, k7.stepB (Ext.refl (fun _ => False) w) (fun _ hb => hb.elim) hMM rfl,
          hfrzs hcs _ k8, k9.stepB (Ext.refl (fun _ => False) w) (fun _ hb => hb.elim) hMM rfl⟩
      | arr hq =>
        obtain ⟨k0, k1, k2⟩ := hob
        refine ⟨k0, by rw [← hq.1]; exact k1, ?_⟩
        by_cases hc : (ρ m).cap = 0
        · exact .inl hc
        · rcases k2 with k2 | ⟨b, T, cs, q1, q2, q3, q4, q5⟩
          · exact .inl k2
          · refine .inr ⟨b, T, cs, q1, ⟨q2, hblk m _ hne hx' b (by simp [Loc.blk, hc, q1])⟩, q3, q4, PV.Rows.of_get fun i q hi => ?_⟩
            rename_i rs qs
            have hil : i < rs.length := by rw [hq.1]; exact (List.getElem?_eq_some_iff.1 hi).1
            obtain ⟨g1, g2⟩ := q5.get i rs[i] (by simp [hil])
            obtain ⟨e1, e2⟩ := hq.2 i rs[i] q (by simp [hil]) hi
            refine ⟨by rw [← e1]; exact g1, PV.Cells.of_get fun j d hj => ?_⟩
            have hjl : j < rs[i].length := by rw [e1]; exact (List.getElem?_eq_some_iff.1 hj).1
            obtain ⟨u, hu, hr⟩ := g2.get j rs[i][j] (by simp [hjl])
            refine ⟨u, hu, ?_⟩
            rcases e2 j rs[i][j] d (by simp [hjl]) hj with e | ⟨x, hx, hc1, hd1⟩
            · rw [← e]
              exact hr.mono (M' := M') (Ext.refl (fun _ => False) w) (fun _ hb => hb.elim) hMM
            · rw [hc1] at hr
              simp only [PV.R] at hr
              have := hown x (hpx x hx)
              simp only [AV.R] at this
              rw [hd1, hr.1]; exact this
      | box hcs =>
        obtain ⟨b, T, cs, k1, k2, k3, k4⟩ := hob
        exact ⟨b, T, cs, k1, ⟨k2, hblk m _ hne hx' b (by rw [k1]; simp [Loc.blk])⟩, k3, hfrzs hcs _ k4⟩
    exact hob'
  · obtain ⟨hne, x, hx, _⟩ := (h2.look m).1 o g1
    obtain ⟨hne', x', hx', _⟩ := (h2.look m').1 o' g2
    exact h.inj m m' x x' b (hup m x hx hne) (hup m' x' hx' hne')
  · obtain ⟨hne, x, hx, _⟩ := (h2.look m).1 o g1
    exact h.own0 m x b (hup m x hx hne) g2
  · obtain ⟨x, hx, hst'⟩ := h.keep m hm
    have hne : m ≠ n := fun e => hn (e ▸ hm)
    obtain ⟨y, hy, hf⟩ := (h2.look m).2 x (hdown m x hx hne)
    exact ⟨y, hy, hf.stays hst'⟩
  · rcases h.own0 n _ b (by simp [mk, AM.look]; rfl) hb' with ⟨k1, _⟩ | k1
    · exact hn k1
    · have := h.m0 b hb; omega

theorem Weak.freeze {Γ : Ctx} {n : Name} {es : Nat} {rows : List (List PV)} {ts ts' : List (Nat × AV)} {hs hs' : List (Name × AO)} (hn : n ∉ Γ.names) (h1 : TsFrz (fun _ => False) n es rows ts ts') (h2 : HsFrz (fun _ => False) n es rows hs hs') :
    Weak Γ (mk ts ((n, .arr es rows) :: hs)) (mk ts' hs') := fun ρ M a w h => freeze_sim hn h1 h2 h (fun _ hx => hx.elim)

/-! ### A header that is kept as pure data -/
/-- The array n is frozen; so is what names its header. -/
theorem Weak.freezeP {Γ : Ctx} {n n0 : Name} {x : Value} {es : Nat} {rows : List (List PV)} {ts ts' : List (Nat × AV)} {hs hs' : List (Name × AO)} (hn : n ∉ Γ.names) (hn0 : n0 ∉ Γ.names) (hne : n ≠ n0) (h0 : look n0 hs = none)
    (h1 : TsFrz (fun y => y = x) n es rows ts ts') (h2 : HsFrz (fun y => y = x) n es rows hs hs') :
    Weak Γ (mk ts ((n, .arr es rows) :: (n0, .fact (.own n rows.length) x) :: hs)) (mk ts' hs') := fun ρ M a w h => by
  have hf := h.objs n0 (.fact (.own n rows.length) x) (by simp [mk, look, hne])
  have hs2 : Sim Γ ρ M (mk ts ((n, .arr es rows) :: hs)) a w := h.forget (fun t y ht => ht) (fun m o hm => by
      simp only [mk, look] at hm ⊢
      split at hm
      · rename_i e; simp [e, hm]
      · rename_i e
        by_cases e' : n0 = m
        · subst e'; rw [h0] at hm; simp at hm
        · simp [e, e', hm]) (fun m hm => by
      obtain ⟨o, g1, _⟩ := h.keep m hm
      simp only [mk, look] at g1 ⊢
      split at g1
      · rename_i e; simp [e]
      · rename_i e
        by_cases e' : n0 = m
        · subst e'; exact absurd hm hn0
        · simp [e'] at g1; simp [e, g1])
  refine freeze_sim hn h1 h2 hs2 (fun y hy => ?_)
  subst hy
  have := hf.2
  simp only [AV.R] at this ⊢
  refine ⟨this.1, fun o es' k ho hk => ?_⟩
  have ho' : o = .arr es rows := by simpa [mk, look] using ho.symm
  subst ho'
  exact this.2 _ es' k (by simp [mk, look]) hk

end Go.Proofs.YtbcginibldjnaaaGreat.AM
