/-
  The typed layer, part D: what operations do is what they do. No project text.
-/
import Derived.Test.YtbcginibldjnaaaGreatBC
import Derived.Test.YtbcginibldjnaaaGreatAmV
set_option linter.unusedVariables false
set_option linter.unusedSimpArgs false
namespace Go.Proofs.YtbcginibldjnaaaGreat.AM
open Go
section
variable {R : Type} {P : Program} {ty : TypeId → Option TC} {rd : TS} {hs : HS} {K : BEff → Option R} {r : R} {o : Oper}
/-- Some effect goes on to the result, and the operation has it. -/
def Does (P : Program) (o : Oper) (rd : TS) (hs : HS) (K : BEff → Option R) (r : R) : Prop := ∃ e, K e = some r ∧ Good P o rd hs e
theorem bVal_ok {x : Operand} (ho : o.op = .move x ∨ o.op = .assign x) (h : bVal rd K x = some r) : Does P o rd hs K r := by
  unfold bVal at h
  split at h
  · rename_i v hv
    exact ⟨_, h, .ev fun L _ => ho.elim (fun ho => OpOK.move ho (evalB_er L hv)) (fun ho => OpOK.assign ho (evalB_er L hv))⟩
  · simp at h
theorem evalB_b {x : Operand} {q : Bool} (L : Lens) (h : evalB rd x = some (.b q)) : evalO (erT L rd) x = some (.p (.v (.bool q))) := by have := evalB_er L h; simpa only [BV.er] using this
theorem evalB_n {x : Operand} {k : IntKind} {q : Int} (L : Lens) (h : evalB rd x = some (.n k q)) : evalO (erT L rd) x = some (.p (.v (.int k q))) := by have := evalB_er L h; simpa only [BV.er] using this
theorem evalB_s {x : Operand} {q : ByteArray} (L : Lens) (h : evalB rd x = some (.s q)) : evalO (erT L rd) x = some (.p (.v (.string q))) := by have := evalB_er L h; simpa only [BV.er] using this
theorem bPick_ok {c x y : Operand} (ho : o.op = .pick c x y) (h : bPick rd K c x y = some r) : Does P o rd hs K r := by
  unfold bPick at h
  split at h
  · rename_i q u v hc hx hy
    rcases cnd_some h with ⟨rfl, h⟩ | ⟨rfl, h⟩
    · exact ⟨_, h, .ev fun L _ => OpOK.pickT ho (evalB_b L hc) (evalB_er L hx)⟩
    · exact ⟨_, h, .ev fun L _ => OpOK.pickF ho (evalB_b L hc) (evalB_er L hy)⟩
  · simp at h
theorem zeroB_er {T : TypeId} {cs : List BV} (L : Lens) (h : zeroB P T = some cs) : zeroAV P T = some (erL L cs) := by
  unfold zeroB at h
  unfold zeroAV
  split at h
  · split at h
    · split at h
      · rename_i hi _ z hz hall; cases h; simp only [hi, hz, hall, if_true, erL_cells]
      · simp at h
    · simp at h
  · simp at h
/-- A new object. -/
theorem Good.new {v : BV} {n : Name} {ob : BO} (L' : Lens → Lens) (h1 : ∀ L m u, m ≠ n → L' L m u = L m u) (h2 : ∀ L, Inv L hs → ∀ t l u, ob = .arr t l u → L' L n u = l.length) (h3 : ∀ L, Inv L hs → OpOK P o ⟨erT L rd, [], v.er (L' L), [(n, ob.er (L' L))], [n]⟩) :
    Good P o rd hs ⟨[], v, [(n, ob)], [n], []⟩ :=
  ⟨fun _ _ hm => by simp at hm, fun L hL => ⟨L' L, fun m u hm _ => h1 L m u (by simpa using hm), fun m t l u hm => by
    simp only [List.cons_append, List.nil_append, look] at hm
    split at hm
    · rename_i e; subst e; cases hm; exact h2 L hL t l u rfl
    · rename_i e; rw [h1 L m u (Ne.symm e)]; exact hL m t l u hm, h3 L hL⟩⟩
theorem Good.newBox {v : BV} {n : Name} {cs : List BV} (h3 : ∀ L, Inv L hs → OpOK P o ⟨erT L rd, [], v.er L, [(n, .box (erL L cs))], [n]⟩) : Good P o rd hs ⟨[], v, [(n, .box cs)], [n], []⟩ :=
  Good.new (fun L => L) (fun _ _ _ _ => rfl) (fun _ _ t l u h => by simp at h) h3
theorem bAlloc_ok {T : TypeId} (ho : o.op = .alloc T) (h : bAlloc P K o.dst T = some r) : Does P o rd hs K r := by
  unfold bAlloc at h
  split at h
  · rename_i d cs hd hz
    exact ⟨_, h, .newBox fun L _ => by simp only [BV.er]; exact OpOK.alloc ho (zeroB_er L hz)⟩
  · simp at h
theorem bBox_ok {T : TypeId} {x : Operand} (ho : o.op = .box T x) (h : bBox rd K o.dst x = some r) : Does P o rd hs K r := by
  unfold bBox at h
  split at h
  · rename_i d v hd hv
    split at h
    · rename_i cs hc
      exact ⟨_, h, .newBox fun L _ => by simp only [BV.er]; exact OpOK.box ho (evalB_er L hv) (cellsB_er L hc)⟩
    · simp at h
  · simp at h
theorem putCB_er (L : Lens) {pl : List (Nat × Nat)} : ∀ {ps : List (Nat × Operand)} {cs cs' : List BV}, putCB rd pl ps cs = some cs' → putCells (erT L rd) pl ps (erL L cs) = some (erL L cs')
  | [], cs, cs', h => by simp only [putCB, Option.some.injEq] at h; subst h; simp only [putCells]
  | (i, x) :: ps, cs, cs', h => by
    simp only [putCB] at h
    split at h
    · rename_i off size y hp hy
      split at h
      · rename_i c hc
        split at h
        · rename_i hb
          simp only [putCells, hp, evalB_er L hy, cellsB_er L hc, erL_length, hb, if_true]
          rw [← erL_setAt]
          rw [forceL_eq] at h
          have hb' := hb
          simp only [Bool.and_eq_true] at hb'
          rw [layB_eq _ _ _ (by rw [Nat.eq_of_beq_eq_true hb'.1]; exact Nat.le_of_ble_eq_true hb'.2)] at h
          exact putCB_er L h
        · simp at h
      · simp at h
    · simp at h
theorem bBuild_ok {T : TypeId} {parts : Array (Nat × Operand)} (ho : o.op = .build T parts) (h : bBuild P rd K T parts = some r) : Does P o rd hs K r := by
  unfold bBuild at h
  split at h
  · rename_i pl zs h1 h2
    split at h
    · rename_i cells hc
      refine ⟨_, h, .ev fun L _ => ?_⟩
      simp only [BV.er]
      unfold placesB at h1
      split at h1
      · rename_i n e hT
        split at h1
        · rename_i es hes
          cases h1
          exact OpOK.buildArr ho hT hes (zeroB_er L h2) (putCB_er L hc)
        · simp at h1
      · exact OpOK.build ho h1 (zeroB_er L h2) (putCB_er L hc)
    · simp at h
  · simp at h
theorem pureL_pv (L : Lens) {cs : List BV} (h : cs.all BV.isP = true) : pureL (erL L cs) = some (pvL cs) := by
  rw [erL_isP h]
  have : ∀ ps : List PV, pureL (pcells ps) = some ps := by
    intro ps
    induction ps with
    | nil => rfl
    | cons x r ih => simp only [pcells, List.map_cons, pureL] at ih ⊢; rw [ih]
  exact this _
theorem CsLe_of : ∀ {a b : List PV}, AVleL (pcells a) (pcells b) → CsLe a b
  | [], [], _ => trivial
  | [], _ :: _, h => by simp only [pcells, List.map_nil, List.map_cons] at h; cases h
  | _ :: _, [], h => by simp only [pcells, List.map_nil, List.map_cons] at h; cases h
  | x :: xs, y :: ys, h => by
    simp only [pcells, List.map_cons] at h
    cases h with
    | cons h1 h2 =>
      refine ⟨?_, CsLe_of h2⟩
      cases h1 with
      | refl => exact PVle.refl _
      | p h => exact h
theorem Le_cells {cs : List BV} {t : TC} {y : TT t} (h : Le cs (tb t y ++ [])) (hp : cs.all BV.isP = true) : CsLe (pvL cs) (tcells t y) := by
  have := h (fun _ _ => 0)
  rw [List.append_nil, erL_isP hp, erL_isP (tb_isP t y), tb_pv] at this
  exact CsLe_of this
theorem RowsLe.nth : ∀ {a b : List (List PV)}, a.length = b.length → (∀ (i : Nat) (x y : List PV), a[i]? = some x → b[i]? = some y → CsLe x y) → RowsLe a b
  | [], [], _, _ => trivial
  | [], _ :: _, h, _ => by simp at h
  | _ :: _, [], h, _ => by simp at h
  | x :: xs, y :: ys, h, h2 => ⟨h2 0 x y rfl rfl, RowsLe.nth (by simpa using h) (fun i a b ha hb => h2 (i + 1) a b (by simpa using ha) (by simpa using hb))⟩
theorem rowsC_some {t : TC} : ∀ {ps : List (Nat × Operand)} {i len : Nat} {K : List (TT t) → Option R}, rowsC rd t ps i len K = some r →
    ∃ l : List (TT t), K l = some r ∧ i + l.length = len ∧ ∀ (L : Lens) (pre rest : List (List PV)), pre.length = i → rest.length = l.length →
      ∃ rows, putRows (erT L rd) (tz t) ps (pre ++ rest) = some (pre ++ rows) ∧ RowsLe rows (l.map (tcells t))
  | [], i, len, K, h => by
    simp only [rowsC] at h
    split at h
    · rename_i e
      refine ⟨[], h, by simpa using Nat.eq_of_beq_eq_true e, fun L pre rest hp hr => ⟨[], ?_, trivial⟩⟩
      have : rest = [] := List.eq_nil_of_length_eq_zero (by simpa using hr)
      subst this; simp only [putRows]
    · simp at h
  | (j, x) :: ps, i, len, K, h => by
    simp only [rowsC] at h
    split at h
    · rename_i e
      have := Nat.eq_of_beq_eq_true e; subst this
      split at h
      · rename_i v hv
        split at h
        · rename_i cs hc
          split at h
          · rename_i hb
            simp only [Bool.and_eq_true] at hb
            obtain ⟨y, rest0, hle, h⟩ := tpop_some t h
            split at h
            · obtain ⟨l, g1, g2, g3⟩ := rowsC_some h
              refine ⟨y :: l, g1, by simp only [List.length_cons]; omega, fun L pre rest hp hr => ?_⟩
              cases rest with
              | nil => simp at hr
              | cons z rest =>
                obtain ⟨rows, k1, k2⟩ := g3 L (pre ++ [pvL cs]) rest (by simp [hp]) (by simpa using hr)
                refine ⟨pvL cs :: rows, ?_, Le_cells hle hb.2, k2⟩
                have hset : (pre ++ z :: rest).set j (pvL cs) = pre ++ [pvL cs] ++ rest := by
                  rw [← hp, List.set_append_right _ _ (Nat.le_refl _)]; simp
                have hlt : Nat.blt j (pre ++ z :: rest).length = true := by simp [Nat.blt, hp]
                simp only [putRows, evalB_er L hv, cellsB_er L hc, pureL_pv L hb.2, pvL_length, hb.1, hlt, Bool.and_self, if_true, hset]
                rw [k1]; simp
            · simp at h
          · simp at h
        · simp at h
      · simp at h
    · simp at h
theorem bBuildSlice_ok {T : TypeId} {len : Nat} {parts : Array (Nat × Operand)} (ho : o.op = .buildSlice T len parts) (h : bBuildSlice P ty rd K T len parts = some r) : Does P o rd hs K r := by
  unfold bBuildSlice at h
  split at h
  · rename_i e he
    split at h
    · rename_i t es zr h0 h1 h2
      split at h
      · rename_i hb
        simp only [Bool.and_eq_true] at hb
        obtain ⟨l, g1, g2, g3⟩ := rowsC_some h
        refine ⟨_, g1, .ev fun L _ => ?_⟩
        have hes := Nat.eq_of_beq_eq_true hb.1.1.1
        subst hes
        obtain ⟨rows, k1, k2⟩ := g3 L [] (List.replicate len zr) rfl (by rw [List.length_replicate]; omega)
        simp only [List.nil_append] at k1
        simp only [BV.er]
        exact (OpOK.buildSlice ho he h1 hb.1.1.2 h2 (Nat.eq_of_beq_eq_true hb.1.2) hb.2 k1).vLe (.p (PVle.sl (fun h => h) k2))
      · simp at h
    · simp at h
  · simp at h
theorem look_er {n : Name} {ob : BO} (L : Lens) (h : look n hs = some ob) : look n (erH L hs) = some (ob.er L) := by rw [look_erH, h]; rfl
theorem hp1 {n : Name} {ob : BO} (h : look n hs = some ob) : ∀ m ob', (m, ob') ∈ [(n, ob)] → look m hs = some ob' := fun m ob' hm => by simp only [List.mem_singleton, Prod.mk.injEq] at hm; obtain ⟨rfl, rfl⟩ := hm; exact h
theorem arr_len {L : Lens} {n : Name} {t : TC} {l : List (TT t)} {q u : Nat} (hL : Inv L hs) (h : look n hs = some (.arr t l q)) (hu : Nat.beq u q = true) : Nat.beq (L n u) (l.map (tcells t)).length = true := by rw [Nat.eq_of_beq_eq_true hu, hL n t l q h, List.length_map]; exact Nat.beq_refl _
theorem bLoad_ok {T : TypeId} {x : Operand} (ho : o.op = .load T x) (h : bLoad P rd hs K T x = some r) : Does P o rd hs K r := by
  unfold bLoad at h
  split at h
  · rename_i n k hx
    split at h
    · rename_i cells hc
      split at h
      · rename_i hT
        split at h
        · rename_i z hz
          split at h
          · rename_i hl
            refine ⟨_, h, .val (hp1 hc) fun L _ => ?_⟩
            have := evalB_er L hx
            simp only [BV.er] at this ⊢
            exact OpOK.loadBoxAgg ho this hT hz (by rw [← erL_drop, ← erL_take]) (by rw [erL_length]; exact Nat.eq_of_beq_eq_true hl)
          · simp at h
        · simp at h
      · split at h
        · rename_i hT
          split at h
          · rename_i c hck
            refine ⟨_, h, .val (hp1 hc) fun L _ => ?_⟩
            have := evalB_er L hx
            simp only [BV.er] at this
            exact OpOK.loadBox ho this hT (by rw [erL_get, hck]; rfl)
          · simp at h
        · simp at h
    · simp at h
  · rename_i cells hx
    split at h
    · rename_i hP
      split at h
      · rename_i hT
        split at h
        · rename_i z hz
          split at h
          · rename_i hl
            refine ⟨_, h, .ev fun L _ => ?_⟩
            have := evalB_er L hx
            simp only [BV.er] at this ⊢
            have hP' : (cells.take z).all BV.isP = true := List.all_eq_true.2 fun c hc => List.all_eq_true.1 hP c (List.mem_of_mem_take hc)
            exact OpOK.loadPtrAgg ho this hT hz (by rw [← pvL_take]) (by rw [pvL_length]; exact Nat.eq_of_beq_eq_true hl) (by rw [erL_isP hP'])
          · simp at h
        · simp at h
      · split at h
        · rename_i hT
          split at h
          · rename_i c hck
            refine ⟨_, h, .ev fun L _ => ?_⟩
            have := evalB_er L hx
            simp only [BV.er] at this
            rw [er_isP (List.all_eq_true.1 hP c (List.mem_of_getElem? hck))]
            exact OpOK.loadPtr ho this hT (by rw [pvL_get, hck]; rfl)
          · simp at h
        · simp at h
    · simp at h
  · rename_i n u i k hx
    split at h
    case h_2 => simp at h
    · rename_i t l q hc
      split at h
      case isFalse => simp at h
      rename_i hq
      obtain ⟨y, hy, h⟩ := optc_some h
      have hrow : (l.map (tcells t))[i]? = some (tcells t y) := by rw [List.getElem?_map, hy]; rfl
      split at h
      · rename_i hT
        split at h
        · rename_i z hz
          split at h
          · rename_i hl
            refine ⟨_, h, .val (hp1 hc) fun L hL => ?_⟩
            have := evalB_er L hx
            simp only [BV.er] at this ⊢
            have hP' : (((tb t y).drop k).take z).all BV.isP = true := List.all_eq_true.2 fun c hc => List.all_eq_true.1 (tb_isP t y) c (List.mem_of_mem_drop (List.mem_of_mem_take hc))
            exact OpOK.loadElemAgg ho this hT hz (arr_len hL hc hq) hrow (by rw [← tb_pv, ← pvL_drop, ← pvL_take]) (by rw [pvL_length]; exact Nat.eq_of_beq_eq_true hl) (by rw [erL_isP hP'])
          · simp at h
        · simp at h
      · split at h
        · rename_i hT
          split at h
          · rename_i c hck
            refine ⟨_, h, .val (hp1 hc) fun L hL => ?_⟩
            have := evalB_er L hx
            simp only [BV.er] at this
            rw [er_isP (List.all_eq_true.1 (tb_isP t y) c (List.mem_of_getElem? hck))]
            exact OpOK.loadElem ho this hT (arr_len hL hc hq) hrow (by rw [← tb_pv, pvL_get, hck]; rfl)
          · simp at h
        · simp at h
  · simp at h
/-- An object of ours is written: a box. -/
theorem Good.wrBox {n : Name} {cells cells' : List BV} (hc : look n hs = some (.box cells)) (h : ∀ L, Inv L hs → OpOK P o ⟨erT L rd, [(n, .box (erL L cells))], .any, [(n, .box (erL L cells'))], []⟩) : Good P o rd hs ⟨[(n, .box cells)], .any, [(n, .box cells')], [], []⟩ :=
  ⟨hp1 hc, fun L hL => ⟨L, fun _ _ _ _ => rfl, fun m t l u hm => by
    simp only [List.cons_append, List.nil_append, look] at hm
    split at hm
    · cases hm
    · exact hL m t l u hm, h L hL⟩⟩
theorem Good.wrArr {n : Name} {t : TC} {l l' : List (TT t)} {q : Nat} (hc : look n hs = some (.arr t l q)) (hl : l'.length = l.length) (h : ∀ L, Inv L hs → OpOK P o ⟨erT L rd, [(n, .arr (tz t) (l.map (tcells t)))], .any, [(n, .arr (tz t) (l'.map (tcells t)))], []⟩) : Good P o rd hs ⟨[(n, .arr t l q)], .any, [(n, .arr t l' q)], [], []⟩ :=
  ⟨hp1 hc, fun L hL => ⟨L, fun _ _ _ _ => rfl, fun m t' l2 u hm => by
    simp only [List.cons_append, List.nil_append, look] at hm
    split at hm
    · rename_i e; subst e; cases hm; rw [hl]; exact hL _ t l q hc
    · exact hL m t' l2 u hm, h L hL⟩⟩
theorem OpOK.arrLe {rd : List (Nat × AV)} {hp : List (Name × AO)} {v : AV} {nw : List Name} {n : Name} {es : Nat} {rs qs : List (List PV)} (h : OpOK P o ⟨rd, hp, v, [(n, .arr es rs)], nw⟩) (hr : RowsLe rs qs) : OpOK P o ⟨rd, hp, v, [(n, .arr es qs)], nw⟩ :=
  h.outLe (.refl _) fun m => by
    simp only [look]
    by_cases e : n = m
    · simp only [e, if_true]
      exact ⟨fun y hy => by cases hy; exact ⟨_, rfl, .arr hr, .inr (.inr ⟨_, _, _, rfl, rfl⟩)⟩, fun x hx => ⟨_, rfl⟩⟩
    · simp only [e, if_false]
      exact ⟨fun y hy => by simp at hy, fun x hx => by simp at hx⟩
theorem bStore_ok {T : TypeId} {x y : Operand} (ho : o.op = .store T x y) (h : bStore P rd hs K o.dst T x y = some r) : Does P o rd hs K r := by
  unfold bStore at h
  split at h
  · rename_i n k v hd hx hy
    split at h
    · rename_i cells vs z hc hv hz
      split at h
      · rename_i hb
        simp only [Bool.and_eq_true] at hb
        rw [forceL_eq, layB_eq _ _ _ (Nat.le_of_ble_eq_true hb.2)] at h
        refine ⟨_, h, .wrBox hc fun L _ => ?_⟩
        have h1 := evalB_er L hx
        simp only [BV.er] at h1
        exact OpOK.storeBox hd ho h1 (evalB_er L hy) (cellsB_er L hv) (by rw [erL_length, hz, Nat.eq_of_beq_eq_true hb.1]) (by rw [erL_length, erL_length]; exact hb.2) (by rw [erL_setAt])
      · simp at h
    · simp at h
  · rename_i n u i k v hd hx hy
    split at h
    · rename_i t l q vs z hc hv hz
      split at h
      case isFalse => simp at h
      rename_i hq
      obtain ⟨y0, hy0, h⟩ := optc_some h
      split at h
      · rename_i hb
        simp only [Bool.and_eq_true] at hb
        rw [layB_eq _ _ _ (Nat.le_of_ble_eq_true hb.1.2)] at h
        obtain ⟨y', rest, hle, h⟩ := tpop_some t h
        split at h
        · refine ⟨_, h, .wrArr hc (by simp) fun L hL => ?_⟩
          have h1 := evalB_er L hx
          simp only [BV.er] at h1
          have hrow : (l.map (tcells t))[i]? = some (tcells t y0) := by rw [List.getElem?_map, hy0]; rfl
          have hP : (setAt (tb t y0) k vs).all BV.isP = true := by
            refine List.all_eq_true.2 fun c hc => ?_
            simp only [setAt, List.mem_append] at hc
            rcases hc with (hc | hc) | hc
            · exact List.all_eq_true.1 (tb_isP t y0) c (List.mem_of_mem_take hc)
            · exact List.all_eq_true.1 hb.2 c hc
            · exact List.all_eq_true.1 (tb_isP t y0) c (List.mem_of_mem_drop hc)
          refine OpOK.arrLe (OpOK.storeElem hd ho h1 (evalB_er L hy) (cellsB_er L hv) (pureL_pv L hb.2) (arr_len hL hc hq) hrow (by rw [erL_length, hz, Nat.eq_of_beq_eq_true hb.1.1])
            (by rw [erL_length, ← tb_pv, pvL_length]; exact hb.1.2) (row' := pvL (setAt (tb t y0) k vs)) (by rw [pvL_setAt, tb_pv]) rfl) ?_
          have hcs := Le_cells hle hP
          refine RowsLe.nth (by simp) (fun j a b ha hb => ?_)
          rw [List.getElem?_set] at ha
          rw [List.getElem?_map, List.getElem?_set] at hb
          split at ha
          · rename_i e
            subst e
            simp only [if_true] at hb
            have hlt := (List.getElem?_eq_some_iff.1 hy0).1
            simp only [List.length_map, hlt, if_true, Option.some.injEq] at ha
            simp only [hlt, if_true, Option.map_some, Option.some.injEq] at hb
            subst ha; subst hb; exact hcs
          · rename_i e
            rw [if_neg e] at hb
            rw [List.getElem?_map] at ha
            rw [ha] at hb; cases hb
            exact CsLe.refl _
        · simp at h
      · simp at h
    · simp at h
  · simp at h
theorem bFieldAddr_ok {S : TypeId} {x : Operand} {i : Nat} (ho : o.op = .fieldAddr S x i) (h : bFieldAddr P rd hs K S x i = some r) : Does P o rd hs K r := by
  unfold bFieldAddr at h
  split at h
  · rename_i n k fo hx hf
    split at h
    · rename_i cells hc
      refine ⟨_, h, .val (hp1 hc) fun L _ => ?_⟩
      have := evalB_er L hx
      simp only [BV.er] at this ⊢
      exact OpOK.fieldRef ho this hf rfl
    · simp at h
  · rename_i cells fo hx hf
    refine ⟨_, h, .ev fun L _ => ?_⟩
    have := evalB_er L hx
    simp only [BV.er] at this ⊢
    exact OpOK.fieldPtr ho this hf (by rw [pvL_drop])
  · rename_i n u j k fo hx hf
    split at h
    · rename_i t l q hc
      split at h
      case isFalse => simp at h
      rename_i hq
      refine ⟨_, h, .val (hp1 hc) fun L hL => ?_⟩
      have := evalB_er L hx
      simp only [BV.er] at this ⊢
      exact OpOK.fieldElem ho this hf rfl (arr_len hL hc hq)
    · simp at h
  · simp at h
theorem bNilCheck_ok {x : Operand} (ho : o.op = .nilCheck x) (h : bNilCheck rd hs K x = some r) : Does P o rd hs K r := by
  unfold bNilCheck at h
  split at h
  · rename_i n k hx
    split at h
    · rename_i cells hc
      refine ⟨_, h, .val (hp1 hc) fun L _ => ?_⟩
      have := evalB_er L hx
      simp only [BV.er] at this ⊢
      exact OpOK.nilCheckRef ho this
    · simp at h
  · rename_i cells hx
    refine ⟨_, h, .ev fun L _ => ?_⟩
    have := evalB_er L hx
    simp only [BV.er] at this ⊢
    exact OpOK.nilCheckPtr ho this
  · rename_i n u j k hx
    split at h
    · rename_i t l q hc
      split at h
      case isFalse => simp at h
      rename_i hq
      refine ⟨_, h, .val (hp1 hc) fun L hL => ?_⟩
      have := evalB_er L hx
      simp only [BV.er] at this ⊢
      exact OpOK.nilCheckElem ho this (arr_len hL hc hq)
    · simp at h
  · simp at h
theorem bBin_ok {op : BinOp} {T T' : TypeId} {x y : Operand} (ho : o.op = .binOp op T x y T') (h : bBin P rd K op T x y = some r) : Does P o rd hs K r := by
  unfold bBin at h
  split at h
  · rename_i k a k' b hx hy
    split at h
    · rename_i hk
      have := kEq_of hk; subst this
      cases op <;> simp only [binI, reduceCtorEq] at h
      all_goals first
        | (obtain ⟨hb, h⟩ := nzc_some h; refine ⟨_, h, .ev fun L _ => ?_⟩; simp only [BV.er]; first | exact OpOK.quo ho (evalB_n L hx) (evalB_n L hy) hb rfl | exact OpOK.rem ho (evalB_n L hx) (evalB_n L hy) hb rfl)
        | (refine ⟨_, h, .ev fun L _ => ?_⟩; simp only [BV.er]; first
            | exact OpOK.add ho (evalB_n L hx) (evalB_n L hy) rfl | exact OpOK.sub ho (evalB_n L hx) (evalB_n L hy) rfl | exact OpOK.mul ho (evalB_n L hx) (evalB_n L hy) rfl
            | exact OpOK.lss ho (evalB_n L hx) (evalB_n L hy) rfl | exact OpOK.leq ho (evalB_n L hx) (evalB_n L hy) rfl | exact OpOK.gtr ho (evalB_n L hx) (evalB_n L hy) rfl
            | exact OpOK.geq ho (evalB_n L hx) (evalB_n L hy) rfl | exact OpOK.eqlI ho (evalB_n L hx) (evalB_n L hy) rfl | exact OpOK.neqI ho (evalB_n L hx) (evalB_n L hy) rfl)
    · simp at h
  · rename_i a b hx hy
    cases op <;> simp only [binS, reduceCtorEq] at h
    all_goals first
      | (obtain ⟨hb, h⟩ := lec_some h; refine ⟨_, h, .ev fun L _ => ?_⟩; simp only [BV.er]; exact OpOK.addS ho (evalB_s L hx) (evalB_s L hy) hb rfl)
      | (refine ⟨_, h, .ev fun L _ => ?_⟩; simp only [BV.er]; first | exact OpOK.eqlS ho (evalB_s L hx) (evalB_s L hy) rfl | exact OpOK.neqS ho (evalB_s L hx) (evalB_s L hy) rfl)
  · rename_i a b hx hy
    unfold binB at h
    split at h
    · rename_i hT
      have hT' : P.underlying T = some .bool := by
        unfold boolT at hT
        split at hT
        · assumption
        · simp at hT
      cases op <;> simp only [reduceCtorEq] at h
      all_goals (refine ⟨_, h, .ev fun L _ => ?_⟩; simp only [BV.er]; first | exact OpOK.eqlB ho hT' (evalB_b L hx) (evalB_b L hy) rfl | exact OpOK.neqB ho hT' (evalB_b L hx) (evalB_b L hy) rfl)
    · simp at h
  · simp at h
theorem bUn_ok {op : UnOp} {T : TypeId} {x : Operand} (ho : o.op = .unOp op T x) (h : bUn rd K op x = some r) : Does P o rd hs K r := by
  unfold bUn at h
  split at h
  · rename_i b hx
    refine ⟨_, h, .ev fun L _ => ?_⟩
    simp only [BV.er]; exact OpOK.not ho (evalB_b L hx) rfl
  · rename_i k a hx
    refine ⟨_, h, .ev fun L _ => ?_⟩
    simp only [BV.er]; exact OpOK.neg ho (evalB_n L hx) rfl
  · simp at h
theorem bField_ok {T : TypeId} {x : Operand} {i : Nat} (ho : o.op = .field T x i) (h : bField P rd K T x i = some r) : Does P o rd hs K r := by
  unfold bField at h
  split at h
  · rename_i cells fs hx hu
    split at h
    · rename_i f hf
      split at h
      · rename_i hT
        split at h
        · rename_i z hz
          refine ⟨_, h, .ev fun L _ => ?_⟩
          have := evalB_er L hx
          simp only [BV.er] at this ⊢
          exact OpOK.fieldAgg (off := 0) (T' := 0) ho this hu hf hT hz (by rw [erL_take, erL_drop])
        · simp at h
      · split at h
        · rename_i hT
          split at h
          · rename_i c hck
            refine ⟨_, h, .ev fun L _ => ?_⟩
            have := evalB_er L hx
            simp only [BV.er] at this
            exact OpOK.field ho this hu hf hT (by rw [erL_get, hck]; rfl)
          · simp at h
        · simp at h
    · simp at h
  · simp at h
theorem bExtract_ok {x : Operand} {i : Nat} (ho : o.op = .extract x i) (h : bExtract rd K x i = some r) : Does P o rd hs K r := by
  unfold bExtract at h
  split at h
  · rename_i vs hx
    split at h
    · rename_i v hv
      refine ⟨_, h, .ev fun L _ => ?_⟩
      have := evalB_er L hx
      simp only [BV.er] at this
      exact OpOK.extract ho this (by rw [erL_get, hv]; rfl)
    · simp at h
  · simp at h
theorem bIndexAddr_ok {T : TypeId} {x y : Operand} (ho : o.op = .indexAddr T x y) (h : bIndexAddr P rd hs K T x y = some r) : Does P o rd hs K r := by
  unfold bIndexAddr at h
  split at h
  · rename_i f t l k j e hx hy he
    split at h
    · rename_i es hz
      split at h
      · rename_i hb
        have := Nat.eq_of_beq_eq_true hb; subst this
        obtain ⟨i, z, hj, hi, h⟩ := atc_some h
        refine ⟨_, h, .ev fun L _ => ?_⟩
        have h1 := evalB_er L hx
        simp only [BV.er] at h1 ⊢
        rw [tb_pv]
        exact OpOK.indexP ho he hz h1 (evalB_n L hy) hj (by rw [List.getElem?_map, hi]; rfl)
      · simp at h
    · simp at h
  · rename_i n u k j e hx hy he
    split at h
    · rename_i t l q es hc hz
      split at h
      · rename_i hb
        simp only [Bool.and_eq_true] at hb
        have := Nat.eq_of_beq_eq_true hb.1; subst this
        obtain ⟨i, hj, h⟩ := natc_some h
        obtain ⟨hlt, h⟩ := ltc_some h
        refine ⟨_, h, .val (hp1 hc) fun L hL => ?_⟩
        have h1 := evalB_er L hx
        simp only [BV.er] at h1 ⊢
        exact OpOK.indexOwn ho he hz h1 (arr_len hL hc hb.2) (evalB_n L hy) hj (by rw [List.length_map]; exact hlt)
      · simp at h
    · simp at h
  · rename_i n u lo hi k j e hx hy he
    split at h
    · rename_i t l q es hc hz
      split at h
      · rename_i hb
        simp only [Bool.and_eq_true] at hb
        have := Nat.eq_of_beq_eq_true hb.1; subst this
        obtain ⟨i, hj, h⟩ := natc_some h
        obtain ⟨hlt, h⟩ := ltc_some h
        refine ⟨_, h, .val (hp1 hc) fun L hL => ?_⟩
        have h1 := evalB_er L hx
        simp only [BV.er] at h1 ⊢
        exact OpOK.indexView ho he hz h1 (arr_len hL hc hb.2) (evalB_n L hy) hj hlt
      · simp at h
    · simp at h
  · simp at h
theorem bLen_ok {T : TypeId} {x : Operand} {ats : Array TypeId} (ho : o.op = .call { callee := .builtin .len, args := #[x], argTypes := ats }) (hat : ats[0]? = some T) (h : bLen P rd hs K T x = some r) : Does P o rd hs K r := by
  unfold bLen at h
  split at h
  · rename_i f t l hx
    split at h
    · rename_i e he
      refine ⟨_, h, .ev fun L _ => ?_⟩
      have h1 := evalB_er L hx
      simp only [BV.er] at h1 ⊢
      exact OpOK.lenP ho hat he h1 (by rw [List.length_map])
    · simp at h
  · rename_i hx
    split at h
    · rename_i e he
      refine ⟨_, h, .ev fun L _ => ?_⟩
      have h1 := evalB_er L hx
      simp only [BV.er] at h1 ⊢
      exact OpOK.lenP ho hat he h1 rfl
    · simp at h
  · rename_i n u hx
    split at h
    · rename_i t l q e hc he
      split at h
      case isFalse => simp at h
      rename_i hq
      refine ⟨_, h, .val (hp1 hc) fun L hL => ?_⟩
      have h1 := evalB_er L hx
      simp only [BV.er] at h1 ⊢
      exact OpOK.lenOwn ho hat he h1 (arr_len hL hc hq) (by rw [List.length_map])
    · simp at h
  · rename_i n u lo hi hx
    split at h
    · rename_i t l q e hc he
      split at h
      case isFalse => simp at h
      rename_i hq
      refine ⟨_, h, .val (hp1 hc) fun L hL => ?_⟩
      have h1 := evalB_er L hx
      simp only [BV.er] at h1 ⊢
      exact OpOK.lenView ho hat he h1 (arr_len hL hc hq)
    · simp at h
  · rename_i t hx
    split at h
    · rename_i hT
      refine ⟨_, h, .ev fun L _ => ?_⟩
      simp only [BV.er]
      exact OpOK.lenS ho hat hT (evalB_s L hx)
    · simp at h
  · simp at h
end
end Go.Proofs.YtbcginibldjnaaaGreat.AM
