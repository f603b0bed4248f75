/-
  The typed layer, part D: what operations do is what they do. No project text.
-/
import Derived.Test.YtfhcigjkfelnfaaGreatQEscD
import Derived.Test.YtfhcigjkfelnfaaGreatQEscC
set_option linter.unusedVariables false
set_option linter.unusedSimpArgs false
namespace Go.Proofs.YtfhcigjkfelnfaaGreat.AM
open Go
section
variable {R : Type} {P : Program} {ty : TypeId → Option TC} {rd : TS} {hs : HS} {K : BEff → Option R} {r : R} {o : Oper}
def Does (P : Program) (o : Oper) (rd : TS) (hs : HS) (K : BEff → Option R) (r : R) : Prop := ∃ e, K e = some r ∧ Good P o rd hs e
theorem bVal_ok {x : Operand} (ho : o.op = .move x ∨ o.op = .assign x) (h : bVal rd K x = some r) : Does P o rd hs K r := by
  unfold bVal at h
  split at h
  · rename_i v hv
    exact ⟨_, h, .ev fun L _ => ho.elim (fun ho => OpOK.move ho (evalB_er L hv)) (fun ho => OpOK.assign ho (evalB_er L hv))⟩
  · simp at h
theorem evalB_b {x : Operand} {q : Bool} (L : Lens) (h : evalB rd x = some (.b q)) : evalO (erT L rd) x = some (.p (.v (.bool q))) := by have := evalB_er L h; simpa only [BV.er] using this
theorem evalB_n {x : Operand} {k : IntKind} {q : Int} (L : Lens) (h : evalB rd x = some (.n k q)) : evalO (erT L rd) x = some (.p (.v (.int k q))) := by have := evalB_er L h; simpa only [BV.er] using this
theorem evalB_s {x : Operand} {q : ByteArray} (L : Lens) (h : evalB rd x = some (.s q)) : evalO (erT L rd) x = some (.p (.v (.string q))) := by have := evalB_er L h; simpa only [BV.er] using this
theorem bPick_ok {c x y : Operand} (ho : o.op = .pick c x y) (h : bPick rd K c x y = some r) : Does P o rd hs K r := by
  unfold bPick at h
  split at h
  · rename_i q u v hc hx hy
    rcases cnd_some h with ⟨rfl, h⟩ | ⟨rfl, h⟩
    · exact ⟨_, h, .ev fun L _ => OpOK.pickT ho (evalB_b L hc) (evalB_er L hx)⟩
    · exact ⟨_, h, .ev fun L _ => OpOK.pickF ho (evalB_b L hc) (evalB_er L hy)⟩
  · simp at h
theorem zeroB_er {T : TypeId} {cs : List BV} (L : Lens) (h : zeroB P T = some cs) : zeroAV P T = some (erL L cs) := by
  unfold zeroB at h
  unfold zeroAV
  split at h
  · split at h
    · split at h
      · rename_i hi _ z hz hall; cases h; simp only [hi, hz, hall, if_true, erL_cells]
      · simp at h
    · simp at h
  · simp at h
theorem Good.new {v : BV} {n : Name} {ob : BO} (L' : Lens → Lens) (h1 : ∀ L m u, m ≠ n → L' L m u = L m u) (h2 : ∀ L, Inv L hs → ∀ t l u, ob = .arr t l u → L' L n u = l.length) (h3 : ∀ L, Inv L hs → OpOK P o ⟨erT L rd, [], v.er (L' L), [(n, ob.er (L' L))], [n]⟩) :
    Good P o rd hs ⟨[], v, [(n, ob)], [n], []⟩ :=
  ⟨fun _ _ hm => by simp at hm, fun L hL => ⟨L' L, fun m u hm _ => h1 L m u (by simpa using hm), fun m t l u hm => by
    simp only [List.cons_append, List.nil_append, look] at hm
    split at hm
    · rename_i e; subst e; cases hm; exact h2 L hL t l u rfl
    · rename_i e; rw [h1 L m u (Ne.symm e)]; exact hL m t l u hm, h3 L hL⟩⟩
theorem Good.newBox {v : BV} {n : Name} {cs : List BV} (h3 : ∀ L, Inv L hs → OpOK P o ⟨erT L rd, [], v.er L, [(n, .box (erL L cs))], [n]⟩) : Good P o rd hs ⟨[], v, [(n, .box cs)], [n], []⟩ :=
  Good.new (fun L => L) (fun _ _ _ _ => rfl) (fun _ _ t l u h => by simp at h) h3
theorem bAlloc_ok {T : TypeId} (ho : o.op = .alloc T) (h : bAlloc P K o.dst T = some r) : Does P o rd hs K r := by
  unfold bAlloc at h
  split at h
  · rename_i d cs hd hz
    exact ⟨_, h, .newBox fun L _ => by simp only [BV.er]; exact OpOK.alloc ho (zeroB_er L hz)⟩
  · simp at h
theorem bBox_ok {T : TypeId} {x : Operand} (ho : o.op = .box T x) (h : bBox rd K o.dst x = some r) : Does P o rd hs K r := by
  unfold bBox at h
  split at h
  · rename_i d v hd hv
    split at h
    · rename_i cs hc
      exact ⟨_, h, .newBox fun L _ => by simp only [BV.er]; exact OpOK.box ho (evalB_er L hv) (cellsB_er L hc)⟩
    · simp at h
  · simp at h
theorem putCB_er (L : Lens) {pl : List (Nat × Nat)} : ∀ {ps : List (Nat × Operand)} {cs cs' : List BV}, putCB rd pl ps cs = some cs' → putCells (erT L rd) pl ps (erL L cs) = some (erL L cs')
  | [], cs, cs', h => by simp only [putCB, Option.some.injEq] at h; subst h; simp only [putCells]
  | (i, x) :: ps, cs, cs', h => by
    simp only [putCB] at h
    split at h
    · rename_i off size y hp hy
      split at h
      · rename_i c hc
        split at h
        · rename_i hb
          simp only [putCells, hp, evalB_er L hy, cellsB_er L hc, erL_length, hb, if_true]
          rw [← erL_setAt]
          rw [forceL_eq] at h
          have hb' := hb
          simp only [Bool.and_eq_true] at hb'
          rw [layB_eq _ _ _ (by rw [Nat.eq_of_beq_eq_true hb'.1]; exact Nat.le_of_ble_eq_true hb'.2)] at h
          exact putCB_er L h
        · simp at h
      · simp at h
    · simp at h
theorem bBuild_ok {T : TypeId} {parts : Array (Nat × Operand)} (ho : o.op = .build T parts) (h : bBuild P rd K T parts = some r) : Does P o rd hs K r := by
  unfold bBuild at h
  split at h
  · rename_i pl zs h1 h2
    split at h
    · rename_i cells hc
      refine ⟨_, h, .ev fun L _ => ?_⟩
      simp only [BV.er]
      unfold placesB at h1
      split at h1
      · rename_i n e hT
        split at h1
        · rename_i es hes
          cases h1
          exact OpOK.buildArr ho hT hes (zeroB_er L h2) (putCB_er L hc)
        · simp at h1
      · exact OpOK.build ho h1 (zeroB_er L h2) (putCB_er L hc)
    · simp at h
  · simp at h
theorem pureL_pv (L : Lens) {cs : List BV} (h : cs.all BV.isP = true) : pureL (erL L cs) = some (pvL cs) := by
  rw [erL_isP h]
  have : ∀ ps : List PV, pureL (pcells ps) = some ps := by
    intro ps
    induction ps with
    | nil => rfl
    | cons x r ih => simp only [pcells, List.map_cons, pureL] at ih ⊢; rw [ih]
  exact this _
theorem CsLe_of : ∀ {a b : List PV}, AVleL (pcells a) (pcells b) → CsLe a b
  | [], [], _ => trivial
  | [], _ :: _, h => by simp only [pcells, List.map_nil, List.map_cons] at h; cases h
  | _ :: _, [], h => by simp only [pcells, List.map_nil, List.map_cons] at h; cases h
  | x :: xs, y :: ys, h => by
    simp only [pcells, List.map_cons] at h
    cases h with
    | cons h1 h2 =>
      refine ⟨?_, CsLe_of h2⟩
      cases h1 with
      | refl => exact PVle.refl _
      | p h => exact h
theorem Le_cells {cs : List BV} {t : TC} {y : TT t} (h : Le cs (tb t y ++ [])) (hp : cs.all BV.isP = true) : CsLe (pvL cs) (tcells t y) := by
  have := h (fun _ _ => 0)
  rw [List.append_nil, erL_isP hp, erL_isP (tb_isP t y), tb_pv] at this
  exact CsLe_of this
theorem RowsLe.nth : ∀ {a b : List (List PV)}, a.length = b.length → (∀ (i : Nat) (x y : List PV), a[i]? = some x → b[i]? = some y → CsLe x y) → RowsLe a b
  | [], [], _, _ => trivial
  | [], _ :: _, h, _ => by simp at h
  | _ :: _, [], h, _ => by simp at h
  | x :: xs, y :: ys, h, h2 => ⟨h2 0 x y rfl rfl, RowsLe.nth (by simpa using h) (fun i a b ha hb => h2 (i + 1) a b (by simpa using ha) (by simpa using hb))⟩
theorem rowsC_some {t : TC} : ∀ {ps : List (Nat × Operand)} {i len : Nat} {K : List (TT t) → Option R}, rowsC rd t ps i len K = some r →
    ∃ l : List (TT t), K l = some r ∧ i + l.length = len ∧ ∀ (L : Lens) (pre rest : List (List PV)), pre.length = i → rest.length = l.length →
      ∃ rows, putRows (erT L rd) (tz t) ps (pre ++ rest) = some (pre ++ rows) ∧ RowsLe rows (l.map (tcells t))
  | [], i, len, K, h => by
    simp only [rowsC] at h
    split at h
    · rename_i e
      refine ⟨[], h, by simpa using Nat.eq_of_beq_eq_true e, fun L pre rest hp hr => ⟨[], ?_, trivial⟩⟩
      have : rest = [] := List.eq_nil_of_length_eq_zero (by simpa using hr)
      subst this; simp only [putRows]
    · simp at h
  | (j, x) :: ps, i, len, K, h => by
    simp only [rowsC] at h
    split at h
    · rename_i e
      have := Nat.eq_of_beq_eq_true e; subst this
      split at h
      · rename_i v hv
        split at h
        · rename_i cs hc
          split at h
          · rename_i hb
            simp only [Bool.and_eq_true] at hb
            obtain ⟨y, rest0, hle, h⟩ := tpop_some t h
            split at h
            · obtain ⟨l, g1, g2, g3⟩ := rowsC_some h
              refine ⟨y :: l, g1, by simp only [List.length_cons]; omega, fun L pre rest hp hr => ?_⟩
              cases rest with
              | nil => simp at hr
              | cons z rest =>
                obtain ⟨rows, k1, k2⟩ := g3 L (pre ++ [pvL cs]) rest (by simp [hp]) (by simpa using hr)
                refine ⟨pvL cs :: rows, ?_, Le_cells hle hb.2, k2⟩
                have hset : (pre ++ z :: rest).set j (pvL cs) = pre ++ [pvL cs] ++ rest := by
                  rw [← hp, List.set_append_right _ _ (Nat.le_refl _)]; simp
                have hlt : Nat.blt j (pre ++ z :: rest).length = true := by simp [Nat.blt, hp]
                simp only [putRows, evalB_er L hv, cellsB_er L hc, pureL_pv L hb.2, pvL_length, hb.1, hlt, Bool.and_self, if_true, hset]
                rw [k1]; simp
            · simp at h
          · simp at h
        · simp at h
      · simp at h
    · simp at h
theorem bBuildSlice_ok {T : TypeId} {len : Nat} {parts : Array (Nat × Operand)} (ho : o.op = .buildSlice T len parts) (h : bBuildSlice P ty rd K T len parts = some r) : Does P o rd hs K r := by
  unfold bBuildSlice at h
  split at h
  · rename_i e he
    split at h
    · rename_i t es zr h0 h1 h2
      split at h
      · rename_i hb
        simp only [Bool.and_eq_true] at hb
        obtain ⟨l, g1, g2, g3⟩ := rowsC_some h
        refine ⟨_, g1, .ev fun L _ => ?_⟩
        have hes := Nat.eq_of_beq_eq_true hb.1.1.1
        subst hes
        obtain ⟨rows, k1, k2⟩ := g3 L [] (List.replicate len zr) rfl (by rw [List.length_replicate]; omega)
        simp only [List.nil_append] at k1
        simp only [BV.er]
        exact (OpOK.buildSlice ho he h1 hb.1.1.2 h2 (Nat.eq_of_beq_eq_true hb.1.2) hb.2 k1).vLe (.p (PVle.sl (fun h => h) k2))
      · simp at h
    · simp at h
  · simp at h
theorem hp1 {n : Name} {ob : BO} (h : look n hs = some ob) : ∀ m ob', (m, ob') ∈ [(n, ob)] → look m hs = some ob' := fun m ob' hm => by simp only [List.mem_singleton, Prod.mk.injEq] at hm; obtain ⟨rfl, rfl⟩ := hm; exact h
theorem arr_len {L : Lens} {n : Name} {t : TC} {l : List (TT t)} {q u : Nat} (hL : Inv L hs) (h : look n hs = some (.arr t l q)) (hu : Nat.beq u q = true) : Nat.beq (L n u) (l.map (tcells t)).length = true := by rw [Nat.eq_of_beq_eq_true hu, hL n t l q h, List.length_map]; exact Nat.beq_refl _
theorem bLoad_ok {T : TypeId} {x : Operand} (ho : o.op = .load T x) (h : bLoad P rd hs K T x = some r) : Does P o rd hs K r := by
  unfold bLoad at h
  split at h
  · rename_i n k hx
    split at h
    · rename_i cells hc
      split at h
      · rename_i hT
        split at h
        · rename_i z hz
          split at h
          · rename_i hl
            refine ⟨_, h, .val (hp1 hc) fun L _ => ?_⟩
            have := evalB_er L hx
            simp only [BV.er] at this ⊢
            exact OpOK.loadBoxAgg ho this hT hz (by rw [← erL_drop, ← erL_take]) (by rw [erL_length]; exact Nat.eq_of_beq_eq_true hl)
          · simp at h
        · simp at h
      · split at h
        · rename_i hT
          split at h
          · rename_i c hck
            refine ⟨_, h, .val (hp1 hc) fun L _ => ?_⟩
            have := evalB_er L hx
            simp only [BV.er] at this
            exact OpOK.loadBox ho this hT (by rw [erL_get, hck]; rfl)
          · simp at h
        · simp at h
    · simp at h
  · rename_i cells hx
    split at h
    · rename_i hP
      split at h
      · rename_i hT
        split at h
        · rename_i z hz
          split at h
          · rename_i hl
            refine ⟨_, h, .ev fun L _ => ?_⟩
            have := evalB_er L hx
            simp only [BV.er] at this ⊢
            have hP' : (cells.take z).all BV.isP = true := List.all_eq_true.2 fun c hc => List.all_eq_true.1 hP c (List.mem_of_mem_take hc)
            exact OpOK.loadPtrAgg ho this hT hz (by rw [← pvL_take]) (by rw [pvL_length]; exact Nat.eq_of_beq_eq_true hl) (by rw [erL_isP hP'])
          · simp at h
        · simp at h
      · split at h
        · rename_i hT
          split at h
          · rename_i c hck
            refine ⟨_, h, .ev fun L _ => ?_⟩
            have := evalB_er L hx
            simp only [BV.er] at this
            rw [er_isP (List.all_eq_true.1 hP c (List.mem_of_getElem? hck))]
            exact OpOK.loadPtr ho this hT (by rw [pvL_get, hck]; rfl)
          · simp at h
        · simp at h
    · simp at h
  · rename_i n u i k hx
    split at h
    case h_2 => simp at h
    · rename_i t l q hc
      split at h
      case isFalse => simp at h
      rename_i hq
      obtain ⟨y, hy, h⟩ := optc_some h
      have hrow : (l.map (tcells t))[i]? = some (tcells t y) := by rw [List.getElem?_map, hy]; rfl
      split at h
      · rename_i hT
        split at h
        · rename_i z hz
          split at h
          · rename_i hl
            refine ⟨_, h, .val (hp1 hc) fun L hL => ?_⟩
            have := evalB_er L hx
            simp only [BV.er] at this ⊢
            have hP' : (((tb t y).drop k).take z).all BV.isP = true := List.all_eq_true.2 fun c hc => List.all_eq_true.1 (tb_isP t y) c (List.mem_of_mem_drop (List.mem_of_mem_take hc))
            exact OpOK.loadElemAgg ho this hT hz (arr_len hL hc hq) hrow (by rw [← tb_pv, ← pvL_drop, ← pvL_take]) (by rw [pvL_length]; exact Nat.eq_of_beq_eq_true hl) (by rw [erL_isP hP'])
          · simp at h
        · simp at h
      · split at h
        · rename_i hT
          split at h
          · rename_i c hck
            refine ⟨_, h, .val (hp1 hc) fun L hL => ?_⟩
            have := evalB_er L hx
            simp only [BV.er] at this
            rw [er_isP (List.all_eq_true.1 (tb_isP t y) c (List.mem_of_getElem? hck))]
            exact OpOK.loadElem ho this hT (arr_len hL hc hq) hrow (by rw [← tb_pv, pvL_get, hck]; rfl)
          · simp at h
        · simp at h
  · simp at h
theorem Good.wrBox {n : Name} {cells cells' : List BV} (hc : look n hs = some (.box cells)) (h : ∀ L, Inv L hs → OpOK P o ⟨erT L rd, [(n, .box (erL L cells))], .any, [(n, .box (erL L cells'))], []⟩) : Good P o rd hs ⟨[(n, .box cells)], .any, [(n, .box cells')], [], []⟩ :=
  ⟨hp1 hc, fun L hL => ⟨L, fun _ _ _ _ => rfl, fun m t l u hm => by
    simp only [List.cons_append, List.nil_append, look] at hm
    split at hm
    · cases hm
    · exact hL m t l u hm, h L hL⟩⟩
theorem Good.wrArr {n : Name} {t : TC} {l l' : List (TT t)} {q : Nat} (hc : look n hs = some (.arr t l q)) (hl : l'.length = l.length) (h : ∀ L, Inv L hs → OpOK P o ⟨erT L rd, [(n, .arr (tz t) (l.map (tcells t)))], .any, [(n, .arr (tz t) (l'.map (tcells t)))], []⟩) : Good P o rd hs ⟨[(n, .arr t l q)], .any, [(n, .arr t l' q)], [], []⟩ :=
  ⟨hp1 hc, fun L hL => ⟨L, fun _ _ _ _ => rfl, fun m t' l2 u hm => by
    simp only [List.cons_append, List.nil_append, look] at hm
    split at hm
    · rename_i e; subst e; cases hm; rw [hl]; exact hL _ t l q hc
    · exact hL m t' l2 u hm, h L hL⟩⟩
theorem OpOK.arrLe {rd : List (Nat × AV)} {hp : List (Name × AO)} {v : AV} {nw : List Name} {n : Name} {es : Nat} {rs qs : List (List PV)} (h : OpOK P o ⟨rd, hp, v, [(n, .arr es rs)], nw⟩) (hr : RowsLe rs qs) : OpOK P o ⟨rd, hp, v, [(n, .arr es qs)], nw⟩ :=
  h.outLe (.refl _) fun m => by
    simp only [look]
    by_cases e : n = m
    · simp only [e, if_true]
      exact ⟨fun y hy => by cases hy; exact ⟨_, rfl, .arr hr, .inr (.inr ⟨_, _, _, rfl, rfl⟩)⟩, fun x hx => ⟨_, rfl⟩⟩
    · simp only [e, if_false]
      exact ⟨fun y hy => by simp at hy, fun x hx => by simp at hx⟩
theorem bStore_ok {T : TypeId} {x y : Operand} (ho : o.op = .store T x y) (h : bStore P rd hs K o.dst T x y = some r) : Does P o rd hs K r := by
  unfold bStore at h
  split at h
  · rename_i n k v hd hx hy
    split at h
    · rename_i cells vs z hc hv hz
      split at h
      · rename_i hb
        simp only [Bool.and_eq_true] at hb
        rw [forceL_eq, layB_eq _ _ _ (Nat.le_of_ble_eq_true hb.2)] at h
        refine ⟨_, h, .wrBox hc fun L _ => ?_⟩
        have h1 := evalB_er L hx
        simp only [BV.er] at h1
        exact OpOK.storeBox hd ho h1 (evalB_er L hy) (cellsB_er L hv) (by rw [erL_length, hz, Nat.eq_of_beq_eq_true hb.1]) (by rw [erL_length, erL_length]; exact hb.2) (by rw [erL_setAt])
      · simp at h
    · simp at h
  · rename_i n u i k v hd hx hy
    split at h
    · rename_i t l q vs z hc hv hz
      split at h
      case isFalse => simp at h
      rename_i hq
      obtain ⟨y0, hy0, h⟩ := optc_some h
      split at h
      · rename_i hb
        simp only [Bool.and_eq_true] at hb
        rw [layB_eq _ _ _ (Nat.le_of_ble_eq_true hb.1.2)] at h
        obtain ⟨y', rest, hle, h⟩ := tpop_some t h
        split at h
        · refine ⟨_, h, .wrArr hc (by simp) fun L hL => ?_⟩
          have h1 := evalB_er L hx
          simp only [BV.er] at h1
          have hrow : (l.map (tcells t))[i]? = some (tcells t y0) := by rw [List.getElem?_map, hy0]; rfl
          have hP : (setAt (tb t y0) k vs).all BV.isP = true := by
            refine List.all_eq_true.2 fun c hc => ?_
            simp only [setAt, List.mem_append] at hc
            rcases hc with (hc | hc) | hc
            · exact List.all_eq_true.1 (tb_isP t y0) c (List.mem_of_mem_take hc)
            · exact List.all_eq_true.1 hb.2 c hc
            · exact List.all_eq_true.1 (tb_isP t y0) c (List.mem_of_mem_drop hc)
          refine OpOK.arrLe (OpOK.storeElem hd ho h1 (evalB_er L hy) (cellsB_er L hv) (pureL_pv L hb.2) (arr_len hL hc hq) hrow (by rw [erL_length, hz, Nat.eq_of_beq_eq_true hb.1.1])
            (by rw [erL_length, ← tb_pv, pvL_length]; exact hb.1.2) (row' := pvL (setAt (tb t y0) k vs)) (by rw [pvL_setAt, tb_pv]) rfl) ?_
          have hcs := Le_cells hle hP
          refine RowsLe.nth (by simp) (fun j a b ha hb => ?_)
          rw [List.getElem?_set] at ha
          rw [List.getElem?_map, List.getElem?_set] at hb
          split at ha
          · rename_i e
            subst e
            simp only [if_true] at hb
            have hlt := (List.getElem?_eq_some_iff.1 hy0).1
            simp only [List.length_map, hlt, if_true, Option.some.injEq] at ha
            simp only [hlt, if_true, Option.map_some, Option.some.injEq] at hb
            subst ha; subst hb; exact hcs
          · rename_i e
            rw [if_neg e] at hb
            rw [List.getElem?_map] at ha
            rw [ha] at hb; cases hb
            exact CsLe.refl _
        · simp at h
      · simp at h
    · simp at h
  · simp at h
theorem bFieldAddr_ok {S : TypeId} {x : Operand} {i : Nat} (ho : o.op = .fieldAddr S x i) (h : bFieldAddr P rd hs K S x i = some r) : Does P o rd hs K r := by
  unfold bFieldAddr at h
  split at h
  · rename_i n k fo hx hf
    split at h
    · rename_i cells hc
      refine ⟨_, h, .val (hp1 hc) fun L _ => ?_⟩
      have := evalB_er L hx
      simp only [BV.er] at this ⊢
      exact OpOK.fieldRef ho this hf rfl
    · simp at h
  · rename_i cells fo hx hf
    refine ⟨_, h, .ev fun L _ => ?_⟩
    have := evalB_er L hx
    simp only [BV.er] at this ⊢
    exact OpOK.fieldPtr ho this hf (by rw [pvL_drop])
  · rename_i n u j k fo hx hf
    split at h
    · rename_i t l q hc
      split at h
      case isFalse => simp at h
      rename_i hq
      refine ⟨_, h, .val (hp1 hc) fun L hL => ?_⟩
      have := evalB_er L hx
      simp only [BV.er] at this ⊢
      exact OpOK.fieldElem ho this hf rfl (arr_len hL hc hq)
    · simp at h
  · simp at h
theorem bNilCheck_ok {x : Operand} (ho : o.op = .nilCheck x) (h : bNilCheck rd hs K x = some r) : Does P o rd hs K r := by
  unfold bNilCheck at h
  split at h
  · rename_i n k hx
    split at h
    · rename_i cells hc
      refine ⟨_, h, .val (hp1 hc) fun L _ => ?_⟩
      have := evalB_er L hx
      simp only [BV.er] at this ⊢
      exact OpOK.nilCheckRef ho this
    · simp at h
  · rename_i cells hx
    refine ⟨_, h, .ev fun L _ => ?_⟩
    have := evalB_er L hx
    simp only [BV.er] at this ⊢
    exact OpOK.nilCheckPtr ho this
  · rename_i n u j k hx
    split at h
    · rename_i t l q hc
      split at h
      case isFalse => simp at h
      rename_i hq
      refine ⟨_, h, .val (hp1 hc) fun L hL => ?_⟩
      have := evalB_er L hx
      simp only [BV.er] at this ⊢
      exact OpOK.nilCheckElem ho this (arr_len hL hc hq)
    · simp at h
  · simp at h
theorem bBin_ok {op : BinOp} {T T' : TypeId} {x y : Operand} (ho : o.op = .binOp op T x y T') (h : bBin P rd K op T x y = some r) : Does P o rd hs K r := by
  unfold bBin at h
  split at h
  · rename_i k a k' b hx hy
    split at h
    · rename_i hk
      have := kEq_of hk; subst this
      cases op <;> simp only [binI, reduceCtorEq] at h
      all_goals first
        | (obtain ⟨hb, h⟩ := nzc_some h; refine ⟨_, h, .ev fun L _ => ?_⟩; simp only [BV.er]; first | exact OpOK.quo ho (evalB_n L hx) (evalB_n L hy) hb rfl | exact OpOK.rem ho (evalB_n L hx) (evalB_n L hy) hb rfl)
        | (refine ⟨_, h, .ev fun L _ => ?_⟩; simp only [BV.er]; first
            | exact OpOK.add ho (evalB_n L hx) (evalB_n L hy) rfl | exact OpOK.sub ho (evalB_n L hx) (evalB_n L hy) rfl | exact OpOK.mul ho (evalB_n L hx) (evalB_n L hy) rfl
            | exact OpOK.lss ho (evalB_n L hx) (evalB_n L hy) rfl | exact OpOK.leq ho (evalB_n L hx) (evalB_n L hy) rfl | exact OpOK.gtr ho (evalB_n L hx) (evalB_n L hy) rfl
            | exact OpOK.geq ho (evalB_n L hx) (evalB_n L hy) rfl | exact OpOK.eqlI ho (evalB_n L hx) (evalB_n L hy) rfl | exact OpOK.neqI ho (evalB_n L hx) (evalB_n L hy) rfl)
    · simp at h
  · rename_i a b hx hy
    cases op <;> simp only [binS, reduceCtorEq] at h
    all_goals first
      | (obtain ⟨hb, h⟩ := lec_some h; refine ⟨_, h, .ev fun L _ => ?_⟩; simp only [BV.er]; exact OpOK.addS ho (evalB_s L hx) (evalB_s L hy) hb rfl)
      | (refine ⟨_, h, .ev fun L _ => ?_⟩; simp only [BV.er]; first | exact OpOK.eqlS ho (evalB_s L hx) (evalB_s L hy) rfl | exact OpOK.neqS ho (evalB_s L hx) (evalB_s L hy) rfl)
  · rename_i a b hx hy
    unfold binB at h
    split at h
    · rename_i hT
      have hT' : P.underlying T = some .bool := by
        unfold boolT at hT
        split at hT
        · assumption
        · simp at hT
      cases op <;> simp only [reduceCtorEq] at h
      all_goals (refine ⟨_, h, .ev fun L _ => ?_⟩; simp only [BV.er]; first | exact OpOK.eqlB ho hT' (evalB_b L hx) (evalB_b L hy) rfl | exact OpOK.neqB ho hT' (evalB_b L hx) (evalB_b L hy) rfl)
    · simp at h
  · simp at h
theorem bUn_ok {op : UnOp} {T : TypeId} {x : Operand} (ho : o.op = .unOp op T x) (h : bUn rd K op x = some r) : Does P o rd hs K r := by
  unfold bUn at h
  split at h
  · rename_i b hx
    refine ⟨_, h, .ev fun L _ => ?_⟩
    simp only [BV.er]; exact OpOK.not ho (evalB_b L hx) rfl
  · rename_i k a hx
    refine ⟨_, h, .ev fun L _ => ?_⟩
    simp only [BV.er]; exact OpOK.neg ho (evalB_n L hx) rfl
  · simp at h
theorem bField_ok {T : TypeId} {x : Operand} {i : Nat} (ho : o.op = .field T x i) (h : bField P rd K T x i = some r) : Does P o rd hs K r := by
  unfold bField at h
  split at h
  · rename_i cells fs hx hu
    split at h
    · rename_i f hf
      split at h
      · rename_i hT
        split at h
        · rename_i z hz
          refine ⟨_, h, .ev fun L _ => ?_⟩
          have := evalB_er L hx
          simp only [BV.er] at this ⊢
          exact OpOK.fieldAgg (off := 0) (T' := 0) ho this hu hf hT hz (by rw [erL_take, erL_drop])
        · simp at h
      · split at h
        · rename_i hT
          split at h
          · rename_i c hck
            refine ⟨_, h, .ev fun L _ => ?_⟩
            have := evalB_er L hx
            simp only [BV.er] at this
            exact OpOK.field ho this hu hf hT (by rw [erL_get, hck]; rfl)
          · simp at h
        · simp at h
    · simp at h
  · simp at h
theorem bExtract_ok {x : Operand} {i : Nat} (ho : o.op = .extract x i) (h : bExtract rd K x i = some r) : Does P o rd hs K r := by
  unfold bExtract at h
  split at h
  · rename_i vs hx
    split at h
    · rename_i v hv
      refine ⟨_, h, .ev fun L _ => ?_⟩
      have := evalB_er L hx
      simp only [BV.er] at this
      exact OpOK.extract ho this (by rw [erL_get, hv]; rfl)
    · simp at h
  · simp at h
theorem bIndexAddr_ok {T : TypeId} {x y : Operand} (ho : o.op = .indexAddr T x y) (h : bIndexAddr P rd hs K T x y = some r) : Does P o rd hs K r := by
  unfold bIndexAddr at h
  split at h
  · rename_i f t l k j e hx hy he
    split at h
    · rename_i es hz
      split at h
      · rename_i hb
        have := Nat.eq_of_beq_eq_true hb; subst this
        obtain ⟨i, z, hj, hi, h⟩ := atc_some h
        refine ⟨_, h, .ev fun L _ => ?_⟩
        have h1 := evalB_er L hx
        simp only [BV.er] at h1 ⊢
        rw [tb_pv]
        exact OpOK.indexP ho he hz h1 (evalB_n L hy) hj (by rw [List.getElem?_map, hi]; rfl)
      · simp at h
    · simp at h
  · rename_i n u k j e hx hy he
    split at h
    · rename_i t l q es hc hz
      split at h
      · rename_i hb
        simp only [Bool.and_eq_true] at hb
        have := Nat.eq_of_beq_eq_true hb.1; subst this
        obtain ⟨i, hj, h⟩ := natc_some h
        obtain ⟨hlt, h⟩ := ltc_some h
        refine ⟨_, h, .val (hp1 hc) fun L hL => ?_⟩
        have h1 := evalB_er L hx
        simp only [BV.er] at h1 ⊢
        exact OpOK.indexOwn ho he hz h1 (arr_len hL hc hb.2) (evalB_n L hy) hj (by rw [List.length_map]; exact hlt)
      · simp at h
    · simp at h
  · rename_i n u lo hi k j e hx hy he
    split at h
    · rename_i t l q es hc hz
      split at h
      · rename_i hb
        simp only [Bool.and_eq_true] at hb
        have := Nat.eq_of_beq_eq_true hb.1; subst this
        obtain ⟨i, hj, h⟩ := natc_some h
        obtain ⟨hlt, h⟩ := ltc_some h
        refine ⟨_, h, .val (hp1 hc) fun L hL => ?_⟩
        have h1 := evalB_er L hx
        simp only [BV.er] at h1 ⊢
        exact OpOK.indexView ho he hz h1 (arr_len hL hc hb.2) (evalB_n L hy) hj hlt
      · simp at h
    · simp at h
  · simp at h
theorem bLen_ok {T : TypeId} {x : Operand} {ats : Array TypeId} (ho : o.op = .call { callee := .builtin .len, args := #[x], argTypes := ats }) (hat : ats[0]? = some T) (h : bLen P rd hs K T x = some r) : Does P o rd hs K r := by
  unfold bLen at h
  split at h
  · rename_i f t l hx
    split at h
    · rename_i e he
      refine ⟨_, h, .ev fun L _ => ?_⟩
      have h1 := evalB_er L hx
      simp only [BV.er] at h1 ⊢
      exact OpOK.lenP ho hat he h1 (by rw [List.length_map])
    · simp at h
  · rename_i hx
    split at h
    · rename_i e he
      refine ⟨_, h, .ev fun L _ => ?_⟩
      have h1 := evalB_er L hx
      simp only [BV.er] at h1 ⊢
      exact OpOK.lenP ho hat he h1 rfl
    · simp at h
  · rename_i n u hx
    split at h
    · rename_i t l q e hc he
      split at h
      case isFalse => simp at h
      rename_i hq
      refine ⟨_, h, .val (hp1 hc) fun L hL => ?_⟩
      have h1 := evalB_er L hx
      simp only [BV.er] at h1 ⊢
      exact OpOK.lenOwn ho hat he h1 (arr_len hL hc hq) (by rw [List.length_map])
    · simp at h
  · rename_i n u lo hi hx
    split at h
    · rename_i t l q e hc he
      split at h
      case isFalse => simp at h
      rename_i hq
      refine ⟨_, h, .val (hp1 hc) fun L hL => ?_⟩
      have h1 := evalB_er L hx
      simp only [BV.er] at h1 ⊢
      exact OpOK.lenView ho hat he h1 (arr_len hL hc hq)
    · simp at h
  · rename_i t hx
    split at h
    · rename_i hT
      refine ⟨_, h, .ev fun L _ => ?_⟩
      simp only [BV.er]
      exact OpOK.lenS ho hat hT (evalB_s L hx)
    · simp at h
  · simp at h
end
end Go.Proofs.YtfhcigjkfelnfaaGreat.AM
/-
  The typed layer, part E: a contract with its objects named otherwise. No project text.
-/
set_option linter.unusedVariables false
set_option linter.unusedSimpArgs false
set_option linter.unusedSectionVars false
namespace Go.Proofs.YtfhcigjkfelnfaaGreat.AM
open Go
mutual
def AV.ren (σ : Name → Name) : AV → AV
  | .p x => .p x
  | .agg cs => .agg (renL σ cs)
  | .ref n o => .ref (σ n) o
  | .own n l => .own (σ n) l
  | .aref n l i o => .aref (σ n) l i o
  | .view n l i o => .view (σ n) l i o
  | .eptr c => .eptr c
  | .tup vs => .tup (renL σ vs)
  | .clo f a c => .clo f (renL σ a) (renL σ c)
  | .oref m n => .oref m (σ n)
  | .err b => .err b
  | .ub => .ub
  | .any => .any
def renL (σ : Name → Name) : List AV → List AV
  | [] => []
  | x :: r => x.ren σ :: renL σ r
end
theorem renL_map (σ : Name → Name) : ∀ l : List AV, renL σ l = l.map (AV.ren σ)
  | [] => by simp only [renL, List.map_nil]
  | x :: r => by simp only [renL, List.map_cons, renL_map σ r]
def AO.ren (σ : Name → Name) : AO → AO
  | .box cs => .box (renL σ cs)
  | .arr es rows => .arr es rows
  | .hole es pre row post => .hole es pre (renL σ row) post
  | .fact a x => .fact (a.ren σ) x
  | .obj x => .obj x
def renH (σ : Name → Name) (h : List (Name × AO)) : List (Name × AO) := h.map fun p => (σ p.1, p.2.ren σ)
section
variable {σ : Name → Name} (hσ : ∀ a b, σ a = σ b → a = b)
include hσ
theorem look_renH (n : Name) : ∀ h : List (Name × AO), look (σ n) (renH σ h) = (look n h).map (AO.ren σ)
  | [] => rfl
  | (k, o) :: r => by
    show look (σ n) ((σ k, o.ren σ) :: renH σ r) = (look n ((k, o) :: r)).map (AO.ren σ)
    simp only [look]
    by_cases e : k = n
    · simp [e]
    · rw [if_neg (fun h => e (hσ _ _ h)), if_neg e]; exact look_renH n r
omit hσ in
theorem look_renH_inv {m : Name} {o : AO} : ∀ {h : List (Name × AO)}, look m (renH σ h) = some o → ∃ n, σ n = m
  | [], h => by simp [renH, look] at h
  | (k, x) :: r, h => by
    change look m ((σ k, x.ren σ) :: renH σ r) = some o at h
    simp only [look] at h
    split at h
    · exact ⟨k, by assumption⟩
    · exact look_renH_inv h
omit hσ in
theorem shape_ren (o : AO) : (o.ren σ).shape = o.shape := by cases o <;> rfl
variable {ρ : Name → Loc} {H H' : Heap} {M : Nat → Prop} {w : World}
mutual
theorem ren_R (hH : ∀ n, H' (σ n) = (H n).map (AO.ren σ)) : ∀ (x : AV) (u : Value), (x.ren σ).R ρ H' M w u ↔ x.R (fun n => ρ (σ n)) H M w u
  | .p x, u => by simp only [AV.ren, AV.R]
  | .agg cs, u => by simp only [AV.ren, AV.R, ren_Rs hH cs]
  | .ref n o, u => by
    simp only [AV.ren, AV.R, hH]
    refine and_congr_right fun _ => ⟨fun h cells hc => h (renL σ cells) (by rw [hc]; rfl), fun h cells hc => ?_⟩
    cases hn : H n with
    | none => rw [hn] at hc; simp at hc
    | some ob =>
      cases ob with
      | box cs => exact h cs hn
      | _ => rw [hn] at hc; simp [AO.ren] at hc
  | .own n l, u => by
    simp only [AV.ren, AV.R, hH]
    refine and_congr_right fun _ => ⟨fun h o es k ho hs => h (o.ren σ) es k (by rw [ho]; rfl) (by rw [shape_ren]; exact hs), fun h o es k ho hs => ?_⟩
    cases hn : H n with
    | none => rw [hn] at ho; simp at ho
    | some ob => rw [hn] at ho; simp only [Option.map_some, Option.some.injEq] at ho; subst ho; rw [shape_ren] at hs; exact h ob es k hn hs
  | .aref n l i o, u => by
    simp only [AV.ren, AV.R, hH]
    refine and_congr_right fun _ => ⟨fun h o es k ho hs => h (o.ren σ) es k (by rw [ho]; rfl) (by rw [shape_ren]; exact hs), fun h o es k ho hs => ?_⟩
    cases hn : H n with
    | none => rw [hn] at ho; simp at ho
    | some ob => rw [hn] at ho; simp only [Option.map_some, Option.some.injEq] at ho; subst ho; rw [shape_ren] at hs; exact h ob es k hn hs
  | .view n l i o, u => by
    simp only [AV.ren, AV.R, hH]
    refine and_congr_right fun _ => and_congr_right fun _ => and_congr_right fun _ => ⟨fun h o es k ho hs => h (o.ren σ) es k (by rw [ho]; rfl) (by rw [shape_ren]; exact hs), fun h o es k ho hs => ?_⟩
    cases hn : H n with
    | none => rw [hn] at ho; simp at ho
    | some ob => rw [hn] at ho; simp only [Option.map_some, Option.some.injEq] at ho; subst ho; rw [shape_ren] at hs; exact h ob es k hn hs
  | .eptr c, u => by simp only [AV.ren, AV.R]
  | .tup vs, u => by simp only [AV.ren, AV.R, ren_Ts hH vs]
  | .clo f a c, u => by simp only [AV.ren, AV.R, ren_Rs hH a, ren_Rs hH c]
  | .oref m n, u => by
    simp only [AV.ren, AV.R, hH]
    refine and_congr_right fun _ => ⟨fun h x hx => h x (by rw [hx]; rfl), fun h x hx => ?_⟩
    cases hn : H n with
    | none => rw [hn] at hx; simp at hx
    | some ob =>
      cases ob with
      | obj y => rw [hn] at hx; simp only [Option.map_some, AO.ren, Option.some.injEq, AO.obj.injEq] at hx; subst hx; exact h y hn
      | _ => rw [hn] at hx; simp [AO.ren] at hx
  | .err b, u => by simp only [AV.ren, AV.R]
  | .ub, u => by simp only [AV.ren, AV.R]
  | .any, u => by simp only [AV.ren, AV.R]
theorem ren_Rs (hH : ∀ n, H' (σ n) = (H n).map (AO.ren σ)) : ∀ (xs : List AV) (us : List Value), AV.Rs ρ H' M w (renL σ xs) us ↔ AV.Rs (fun n => ρ (σ n)) H M w xs us
  | [], us => by simp only [renL, AV.Rs]
  | x :: r, us => by simp only [renL, AV.Rs, ren_R hH x, ren_Rs hH r]
theorem ren_Ts (hH : ∀ n, H' (σ n) = (H n).map (AO.ren σ)) : ∀ (xs : List AV) (us : List Value), AV.Ts ρ H' M w (renL σ xs) us ↔ AV.Ts (fun n => ρ (σ n)) H M w xs us
  | [], us => by simp only [renL, AV.Ts]
  | x :: r, us => by simp only [renL, AV.Ts, ren_R hH x, ren_Ts hH r]
end
omit hσ in
theorem renL_length (l : List AV) : (renL σ l).length = l.length := by simp [renL_map]
theorem ren_Obj (hH : ∀ n, H' (σ n) = (H n).map (AO.ren σ)) (n : Name) (o : AO) : ObjAt ρ H' M w (σ n) (o.ren σ) ↔ ObjAt (fun n => ρ (σ n)) H M w n o := by
  cases o with
  | box cs => simp only [AO.ren, ObjAt, ren_Rs hσ hH]
  | arr es rows => simp only [AO.ren, ObjAt]
  | hole es pre row post => simp only [AO.ren, ObjAt, ren_Rs hσ hH, renL_length]
  | fact a x => simp only [AO.ren, ObjAt, ren_R hσ hH]
  | obj x => simp only [AO.ren, ObjAt]
theorem stays_ren {o o' : AO} {l l' : Loc} : stays (o.ren σ) l (some (o'.ren σ)) l' ↔ stays o l (some o') l' := by
  cases o <;> cases o' <;> simp only [AO.ren, stays]
theorem Spec.ren {P : Program} {f : FuncId} {args : List AV} {pre h : List (Name × AO)} {v : AV} (hs : SpecIs P f args pre v h) : SpecIs P f (renL σ args) (renH σ pre) (v.ren σ) (renH σ h) := by
  intro G ρ M w us hG hM hargs hobjs hinj
  have hH : ∀ n, lookH (renH σ pre) (σ n) = (lookH pre n).map (AO.ren σ) := fun n => look_renH hσ n pre
  have hex : ∀ b, (∃ n o, look n pre = some o ∧ (ρ (σ n)).blk = some b) ↔ (∃ n o, look n (renH σ pre) = some o ∧ (ρ n).blk = some b) := fun b => by
    constructor
    · rintro ⟨n, o, h1, h2⟩; exact ⟨σ n, o.ren σ, by rw [look_renH hσ, h1]; rfl, h2⟩
    · rintro ⟨m, o, h1, h2⟩
      obtain ⟨n, rfl⟩ := look_renH_inv h1
      rw [look_renH hσ] at h1
      cases hn : look n pre with
      | none => rw [hn] at h1; simp at h1
      | some ob => exact ⟨n, ob, hn, h2⟩
  have hB : (fun b => ∃ n o, look n pre = some o ∧ (ρ (σ n)).blk = some b) = (fun b => ∃ n o, look n (renH σ pre) = some o ∧ (ρ n).blk = some b) := by funext b; exact propext (hex b)
  refine (hs G (fun n => ρ (σ n)) M w us ?_ hM ((ren_Ts hσ hH args us).1 hargs) (fun n o hn => ?_) (fun n m o o' b h1 h2 h3 h4 => ?_)).mono ?_
  · have : (fun b => ∃ n o, look n pre = some o ∧ ((fun n => ρ (σ n)) n).blk = some b) = (fun b => ∃ n o, look n (renH σ pre) = some o ∧ (ρ n).blk = some b) := hB
    rw [this]; exact hG
  · exact (ren_Obj hσ hH n o).1 (hobjs (σ n) (o.ren σ) (by rw [look_renH hσ, hn]; rfl))
  · exact hσ _ _ (hinj (σ n) (σ m) (o.ren σ) (o'.ren σ) b (by rw [look_renH hσ, h1]; rfl) (by rw [look_renH hσ, h2]; rfl) h3 h4)
  · rintro e w' ⟨u, v', h', ρ', rfl, ⟨rfl, rfl⟩, ha⟩
    classical
    let ρ2 : Name → Loc := fun m => if hm : ∃ n, σ n = m then ρ' (Classical.choose hm) else ρ m
    have h2 : ∀ n, ρ2 (σ n) = ρ' n := fun n => by
      have hm : ∃ k, σ k = σ n := ⟨n, rfl⟩
      show (if hm : ∃ k, σ k = σ n then ρ' (Classical.choose hm) else ρ (σ n)) = ρ' n
      rw [dif_pos hm, hσ _ _ (Classical.choose_spec hm)]
    have h2' : (fun n => ρ2 (σ n)) = ρ' := funext h2
    have hH' : ∀ n, lookH (renH σ h') (σ n) = (lookH h' n).map (AO.ren σ) := fun n => look_renH hσ n h'
    have hM' : newM M ρ2 (renH σ h') = newM M ρ' h' := by
      funext b
      refine propext (or_congr_right ⟨?_, ?_⟩)
      · rintro ⟨m, o, g1, g2⟩
        obtain ⟨n, rfl⟩ := look_renH_inv g1
        rw [look_renH hσ] at g1
        cases hn : look n h' with
        | none => rw [hn] at g1; simp at g1
        | some ob => exact ⟨n, ob, hn, by rw [← h2]; exact g2⟩
      · rintro ⟨n, o, g1, g2⟩; exact ⟨σ n, o.ren σ, by rw [look_renH hσ, g1]; rfl, by rw [h2]; exact g2⟩
    have hback : ∀ {m o} {l : List (Name × AO)}, look m (renH σ l) = some o → ∃ n ob, m = σ n ∧ look n l = some ob ∧ o = ob.ren σ := fun {m o l} g1 => by
      obtain ⟨n, rfl⟩ := look_renH_inv g1
      rw [look_renH hσ] at g1
      cases hn : look n l with
      | none => rw [hn] at g1; simp at g1
      | some ob => rw [hn] at g1; exact ⟨n, ob, rfl, hn, by simpa using g1.symm⟩
    refine ⟨u, v'.ren σ, renH σ h', ρ2, rfl, ⟨rfl, rfl⟩, ?_, ?_, ?_, ?_, ?_, ?_⟩
    · rw [hM', ren_R hσ hH', h2']; exact ha.val
    · intro m o hm
      obtain ⟨n, ob, rfl, hn, rfl⟩ := hback hm
      rw [hM', ren_Obj hσ hH', h2']; exact ha.objs n ob hn
    · intro m m' o o' b g1 g2 g3 g4
      obtain ⟨n, ob, rfl, hn, rfl⟩ := hback g1
      obtain ⟨n', ob', rfl, hn', rfl⟩ := hback g2
      rw [h2] at g3 g4
      rw [ha.inj n n' ob ob' b hn hn' g3 g4]
    · intro m o b g1 g2
      obtain ⟨n, ob, rfl, hn, rfl⟩ := hback g1
      rw [h2] at g2
      rcases ha.own n ob b hn g2 with ⟨o', k1, k2⟩ | k
      · exact .inl ⟨o'.ren σ, by rw [look_renH hσ, k1]; rfl, k2⟩
      · exact .inr k
    · have := ha.ext
      rw [← hB]; exact this
    · intro m o hm
      obtain ⟨n, ob, rfl, hn, rfl⟩ := hback hm
      obtain ⟨o', k1, k2⟩ := ha.keep n ob hn
      exact ⟨o'.ren σ, by rw [look_renH hσ, k1]; rfl, by rw [h2]; exact (stays_ren hσ).2 k2⟩
end
theorem Spec.preLe {P : Program} {f : FuncId} {args : List AV} {pre pre' : List (Name × AO)} {post : AV → List (Name × AO) → Prop} (hs : Spec P f args pre post)
    (h1 : ∀ n o, look n pre = some o → ∃ o', look n pre' = some o' ∧ (o' = o ∨ ∃ cs ds, o' = .box cs ∧ o = .box ds ∧ AVleL cs ds)) (h2 : ∀ n o', look n pre' = some o' → ∃ o, look n pre = some o) : Spec P f args pre' post := by
  intro G ρ M w us hG hM hargs hobjs hinj
  have hB : (fun b => ∃ n o, look n pre = some o ∧ (ρ n).blk = some b) = (fun b => ∃ n o, look n pre' = some o ∧ (ρ n).blk = some b) := by
    funext b
    exact propext ⟨fun ⟨n, o, g1, g2⟩ => by obtain ⟨o', g3, _⟩ := h1 n o g1; exact ⟨n, o', g3, g2⟩, fun ⟨n, o, g1, g2⟩ => by obtain ⟨o', g3⟩ := h2 n o g1; exact ⟨n, o', g3, g2⟩⟩
  have hst : HStep ρ (lookH pre') ρ (lookH pre) := fun n o' hn => by
    obtain ⟨o, ho⟩ := h2 n o' hn
    obtain ⟨o2, ho2, hle⟩ := h1 n o ho
    change look n pre' = some o' at hn
    rw [hn] at ho2; cases ho2
    change stays o' (ρ n) (look n pre) (ρ n)
    rw [ho]
    rcases hle with rfl | ⟨cs, ds, rfl, rfl, _⟩
    · exact stays_refl _ _
    · rfl
  have hnn : ∀ n, lookH pre' n = none → lookH pre n = none := fun n hn => by
    cases hc : lookH pre n with
    | none => rfl
    | some o =>
      obtain ⟨o', ho', _⟩ := h1 n o hc
      change look n pre' = none at hn
      rw [ho'] at hn; simp at hn
  have hconvs : ∀ {xs : List AV} {us : List Value}, AV.Rs ρ (lookH pre') M w xs us → AV.Rs ρ (lookH pre) M w xs us := fun hr =>
    hr.step (Ext.refl (fun _ => False) _) (fun _ hb => hb.elim) (fun b _ hb => hb) hst (fun n _ => hnn n)
  refine (hs G ρ M w us (by rw [hB]; exact hG) hM (hargs.step (Ext.refl (fun _ => False) _) (fun _ hb => hb.elim) (fun b _ hb => hb) hst (fun n _ => hnn n)) (fun n o hn => ?_)
    (fun n m o o' b g1 g2 => by obtain ⟨p, k1, _⟩ := h1 n o g1; obtain ⟨q, k2, _⟩ := h1 m o' g2; exact hinj n m p q b k1 k2)).mono ?_
  · obtain ⟨o', ho', hle⟩ := h1 n o hn
    have hobj := hobjs n o' ho'
    rcases hle with rfl | ⟨cs, ds, rfl, rfl, hle⟩
    · exact hobj.step (Ext.refl (fun _ => False) _) (fun _ hb => hb.elim) (fun b _ hb => hb) (fun b hb => hb) hst (fun m _ => hnn m) rfl (fun _ _ => rfl) hM
    · obtain ⟨b, T, us', k1, k2, k3, k4⟩ := hobj
      exact ⟨b, T, us', k1, k2, k3, Rs_le hle _ (hconvs k4)⟩
  · rintro e w' ⟨u, v, h, ρ', rfl, hp, ha⟩
    refine ⟨u, v, h, ρ', rfl, hp, ha.val, ha.objs, ha.inj, fun n o b g1 g2 => ?_, by rw [← hB]; exact ha.ext, fun n o hn => ?_⟩
    · exact (ha.own n o b g1 g2).imp (fun ⟨o', k1, k2⟩ => by obtain ⟨o2, k3, _⟩ := h1 n o' k1; exact ⟨o2, k3, k2⟩) id
    · obtain ⟨o1, k1⟩ := h2 n o hn
      obtain ⟨o2, k2, k3⟩ := ha.keep n o1 k1
      refine ⟨o2, k2, ?_⟩
      obtain ⟨o3, k4, hle⟩ := h1 n o1 k1
      rw [hn] at k4; cases k4
      rcases hle with rfl | ⟨cs, ds, rfl, rfl, _⟩
      · exact k3
      · cases o2 <;> simp only [stays] at k3 ⊢ <;> exact k3
end Go.Proofs.YtfhcigjkfelnfaaGreat.AM
/-
  The typed layer, part F: shapes: what a value, an object, a state is known to be; typed data off them and back. No project text.
-/
set_option linter.unusedVariables false
set_option linter.unusedSimpArgs false
namespace Go.Proofs.YtfhcigjkfelnfaaGreat.AM
open Go
abbrev Ren := List (Name × (Name × Nat))
inductive Sh where
  | num (k : IntKind)
  | boo
  | str
  | lst (t : TC)
  | nul
  | ref (nm : Name)
  | own (nm : Name)
  | view (nm : Name)
  /-- A closure of that function, with these boxes. -/
  | clo (f : Nat) (caps : List Name)
  | fv (f : Nat)
  | mref (nm : Name)
inductive SSh where
  | one (s : Sh)
  | st (t : TC)
  | agg (l : List Sh)
inductive OSh where
  | box (l : List Sh)
  | boxst (t : TC)
  | arr (t : TC)
  /-- Changed in place: the header stays. -/
  | arrs (t : TC)
  | sm
def Sh.prod : Sh → Type → Type
  | .num _, X => Int × X
  | .boo, X => Bool × X
  | .str, X => ByteArray × X
  | .lst t, X => List (TT t) × X
  | .nul, X => X
  | .ref _, X => X
  | .own _, X => X
  | .view _, X => Nat × Nat × X
  | .clo _ _, X => X
  | .fv _, X => X
  | .mref _, X => X
def TL : List Sh → Type
  | [] => Unit
  | s :: r => s.prod (TL r)
def Sh.put (ver : Nat) : (s : Sh) → (X : Type) → s.prod X → BV × X
  | .num k, _, x => (.n k x.1, x.2)
  | .boo, _, x => (.b x.1, x.2)
  | .str, _, x => (.s x.1, x.2)
  | .lst t, _, x => (.ts false t x.1, x.2)
  | .nul, _, x => (.nil, x)
  | .ref nm, _, x => (.ref nm 0, x)
  | .own nm, _, x => (.own nm ver, x)
  | .view nm, _, x => (.view nm ver x.1 x.2.1, x.2.2)
  | .clo f caps, _, x => (.clo (.func f) (caps.map fun n => .ref n 0), x)
  | .fv f, _, x => (.v (.func (.func f) #[] #[]), x)
  | .mref nm, _, x => (.mref nm, x)
def TL.put (ver : Nat) : (l : List Sh) → TL l → List BV
  | [], _ => []
  | s :: r, x => (s.put ver _ x).1 :: TL.put ver r (s.put ver _ x).2
def SSh.prod : SSh → Type → Type
  | .one s, X => s.prod X
  | .st t, X => TT t × X
  | .agg l, X => TL l × X
def SSh.put (ver : Nat) : (s : SSh) → (X : Type) → s.prod X → BV × X
  | .one s, X, x => s.put ver X x
  | .st t, _, x => (.agg (tb t x.1), x.2)
  | .agg l, _, x => (.agg (TL.put ver l x.1), x.2)
def SL : List SSh → Type
  | [] => Unit
  | s :: r => s.prod (SL r)
def SL.put (ver : Nat) : (l : List SSh) → SL l → List BV
  | [], _ => []
  | s :: r, x => (s.put ver _ x).1 :: SL.put ver r (s.put ver _ x).2
def OSh.T : OSh → Type
  | .box l => TL l
  | .boxst t => TT t
  | .arr t => List (TT t)
  | .arrs t => List (TT t)
  | .sm => List (ByteArray × Bool)
def OSh.put (ver : Nat) : (o : OSh) → o.T → BO
  | .box l, x => .box (TL.put ver l x)
  | .boxst t, x => .box (tb t x)
  | .arr t, x => .arr t x ver
  | .arrs t, x => .arr t x 0
  | .sm, x => .sm x
def OL : List (Name × OSh) → Type
  | [] => Unit
  | p :: r => p.2.T × OL r
def OL.put (ver : Nat) : (l : List (Name × OSh)) → OL l → HS
  | [], _ => []
  | p :: r, x => (p.1, p.2.put ver x.1) :: OL.put ver r x.2
def STL : List (Nat × SSh) → Type
  | [] => Unit
  | p :: r => p.2.prod (STL r)
def STL.put (ver : Nat) : (l : List (Nat × SSh)) → STL l → TS
  | [], _ => []
  | p :: r, x => (p.1, (p.2.put ver _ x).1) :: STL.put ver r (p.2.put ver _ x).2
section
variable {R : Type} {r : R}
def capsGet : List Name → List BV → Ren → (Ren → Option R) → Option R
  | [], [], σ, K => K σ
  | nm :: q, .ref m off :: vs, σ, K => if Nat.beq off 0 then capsGet q vs ((nm, (m, 0)) :: σ) K else none
  | _, _, _, _ => none
def Sh.get : (s : Sh) → BV → Ren → (Ren → ((X : Type) → X → s.prod X) → Option R) → Option R
  | .num k, .n k' x, σ, K => if kEq k k' then K σ (fun _ y => (x, y)) else none
  | .boo, .b x, σ, K => K σ (fun _ y => (x, y))
  | .str, .s x, σ, K => K σ (fun _ y => (x, y))
  | .lst t, .ts _ t' l, σ, K => if h : t' = t then K σ (fun _ y => (castL h l, y)) else none
  | .lst t, .nil, σ, K => K σ (fun _ y => ([], y))
  | .nul, .nil, σ, K => K σ (fun _ y => y)
  | .ref nm, .ref m off, σ, K => if Nat.beq off 0 then K ((nm, (m, 0)) :: σ) (fun _ y => y) else none
  | .own nm, .own m u, σ, K => K ((nm, (m, u)) :: σ) (fun _ y => y)
  | .view nm, .view m u lo hi, σ, K => K ((nm, (m, u)) :: σ) (fun _ y => (lo, hi, y))
  | .clo f caps, .clo (.func f') cs, σ, K => if Nat.beq f f' then capsGet caps cs σ fun σ => K σ (fun _ y => y) else none
  | .fv f, .v (.func (.func f') ⟨[]⟩ ⟨[]⟩), σ, K => if Nat.beq f f' then K σ (fun _ y => y) else none
  | .mref nm, .mref m, σ, K => K ((nm, (m, 0)) :: σ) (fun _ y => y)
  | _, _, _, _ => none
def TL.get : (l : List Sh) → List BV → Ren → (Ren → TL l → Option R) → Option R
  | [], [], σ, K => K σ ()
  | s :: r, v :: vs, σ, K => s.get v σ fun σ f => TL.get r vs σ fun σ x => K σ (f _ x)
  | _, _, _, _ => none
def SSh.get : (s : SSh) → BV → Ren → (Ren → ((X : Type) → X → s.prod X) → Option R) → Option R
  | .one s, v, σ, K => s.get v σ K
  | .st t, .agg cs, σ, K => tpop t cs fun x rest => match rest with
    | [] => K σ (fun _ y => (x, y))
    | _ => none
  | .agg l, .agg cs, σ, K => TL.get l cs σ fun σ x => K σ (fun _ y => (x, y))
  | _, _, _, _ => none
def SL.get : (l : List SSh) → List BV → Ren → (Ren → SL l → Option R) → Option R
  | [], [], σ, K => K σ ()
  | s :: r, v :: vs, σ, K => s.get v σ fun σ f => SL.get r vs σ fun σ x => K σ (f _ x)
  | _, _, _, _ => none
def OSh.get : (o : OSh) → BO → Nat → Ren → (Ren → o.T → Option R) → Option R
  | .box l, .box cs, _, σ, K => TL.get l cs σ K
  | .boxst t, .box cs, _, σ, K => tpop t cs fun x rest => match rest with
    | [] => K σ x
    | _ => none
  | .arr t, .arr t' l q, u, σ, K => if h : t' = t then if Nat.beq q u then K σ (castL h l) else none else none
  | .arrs t, .arr t' l q, u, σ, K => if h : t' = t then if Nat.beq q u then K σ (castL h l) else none else none
  | .sm, .sm es, _, σ, K => K σ es
  | _, _, _, _, _ => none
def OL.get : (l : List (Name × OSh)) → HS → Ren → (Ren → OL l → Option R) → Option R
  | [], _, σ, K => K σ ()
  | p :: r, hs, σ, K => match look p.1 σ with
    | some m => match look m.1 hs with
      | some ob => p.2.get ob m.2 σ fun σ x => OL.get r hs σ fun σ y => K σ (x, y)
      | none => none
    | none => none
def STL.get : (l : List (Nat × SSh)) → TS → Ren → (Ren → STL l → Option R) → Option R
  | [], _, σ, K => K σ ()
  | p :: r, ts, σ, K => match look p.1 ts with
    | some v => p.2.get v σ fun σ f => STL.get r ts σ fun σ x => K σ (f _ x)
    | none => none
def Fit (rr : Name → Name) (δ : Name → Nat) (σ : Ren) : Prop := ∀ nm m, (nm, m) ∈ σ → rr nm = m.1 ∧ δ nm = m.2
def lensOf (L : Lens) (rr : Name → Name) (δ : Name → Nat) : Lens := fun n v => L (rr n) (δ n + v)
theorem Fit.mono {rr : Name → Name} {δ : Name → Nat} {σ σ' : Ren} (h : Fit rr δ σ') (hs : ∀ p, p ∈ σ → p ∈ σ') : Fit rr δ σ := fun nm m hm => h nm m (hs _ hm)
variable {L : Lens}
theorem capsGet_some : ∀ {ns : List Name} {vs : List BV} {σ : Ren} {K : Ren → Option R}, capsGet ns vs σ K = some r →
    ∃ σ', K σ' = some r ∧ (∀ p, p ∈ σ → p ∈ σ') ∧ ∀ (rr : Name → Name) (δ : Name → Nat) (L : Lens), Fit rr δ σ' → erL L vs = renL rr (erL (lensOf L rr δ) (ns.map fun n => .ref n 0))
  | [], [], σ, K, h => ⟨σ, h, fun _ hp => hp, fun rr δ L _ => by simp only [List.map_nil, erL, renL]⟩
  | [], v :: vs, σ, K, h => by simp [capsGet] at h
  | nm :: ns, [], σ, K, h => by simp [capsGet] at h
  | nm :: ns, v :: vs, σ, K, h => by
    cases v with
    | ref m off =>
      simp only [capsGet] at h
      split at h
      · rename_i ho
        have := Nat.eq_of_beq_eq_true ho; subst this
        obtain ⟨σ', h1, h2, h3⟩ := capsGet_some h
        refine ⟨σ', h1, fun p hp => h2 p (List.mem_cons_of_mem _ hp), fun rr δ L hf => ?_⟩
        simp only [List.map_cons, erL, renL, BV.er, AV.ren, (hf nm (m, 0) (h2 _ (List.mem_cons_self ..))).1, h3 rr δ L hf]
      · simp at h
    | _ => simp [capsGet] at h
theorem Sh.get_some {s : Sh} {v : BV} {σ : Ren} {K : Ren → ((X : Type) → X → s.prod X) → Option R} (h : s.get v σ K = some r) :
    ∃ σ' f, K σ' f = some r ∧ (∀ p, p ∈ σ → p ∈ σ') ∧ (∀ X (y : X), (s.put 0 X (f X y)).2 = y) ∧ ∀ X (y : X) (rr : Name → Name) (δ : Name → Nat) (L : Lens), Fit rr δ σ' → AVle (v.er L) (((s.put 0 X (f X y)).1.er (lensOf L rr δ)).ren rr) := by
  unfold Sh.get at h
  split at h
  · split at h
    · rename_i hk; have := kEq_of hk; subst this
      exact ⟨_, _, h, fun _ hp => hp, fun _ _ => rfl, fun X y rr δ L _ => by simp only [Sh.put, BV.er, AV.ren]; exact .refl _⟩
    · simp at h
  · exact ⟨_, _, h, fun _ hp => hp, fun _ _ => rfl, fun X y rr δ L _ => by simp only [Sh.put, BV.er, AV.ren]; exact .refl _⟩
  · exact ⟨_, _, h, fun _ hp => hp, fun _ _ => rfl, fun X y rr δ L _ => by simp only [Sh.put, BV.er, AV.ren]; exact .refl _⟩
  · split at h
    · rename_i he; subst he
      exact ⟨_, _, h, fun _ hp => hp, fun _ _ => rfl, fun X y rr δ L _ => by simp only [Sh.put, BV.er, AV.ren, castL]; exact .p (PVle.full _)⟩
    · simp at h
  · rename_i t K0
    exact ⟨_, _, h, fun _ hp => hp, fun _ _ => rfl, fun X y rr δ L _ => by have := nil_le t L; simp only [BV.er] at this; simp only [Sh.put, BV.er, AV.ren]; exact this⟩
  · exact ⟨_, _, h, fun _ hp => hp, fun _ _ => rfl, fun X y rr δ L _ => by simp only [Sh.put, BV.er, AV.ren]; exact .refl _⟩
  · split at h
    · rename_i nm m off σ0 K0 ho
      have := Nat.eq_of_beq_eq_true ho; subst this
      exact ⟨_, _, h, fun _ hp => List.mem_cons_of_mem _ hp, fun _ _ => rfl, fun X y rr δ L hf => by simp only [Sh.put, BV.er, AV.ren, lensOf, (hf _ _ (List.mem_cons_self ..)).1, (hf _ _ (List.mem_cons_self ..)).2, Nat.add_zero]; exact .refl _⟩
    · simp at h
  · rename_i nm m σ0 K0
    exact ⟨_, _, h, fun _ hp => List.mem_cons_of_mem _ hp, fun _ _ => rfl, fun X y rr δ L hf => by simp only [Sh.put, BV.er, AV.ren, lensOf, (hf _ _ (List.mem_cons_self ..)).1, (hf _ _ (List.mem_cons_self ..)).2, Nat.add_zero]; exact .refl _⟩
  · rename_i nm m u lo hi σ0 K0
    exact ⟨_, _, h, fun _ hp => List.mem_cons_of_mem _ hp, fun _ _ => rfl, fun X y rr δ L hf => by simp only [Sh.put, BV.er, AV.ren, lensOf, (hf _ _ (List.mem_cons_self ..)).1, (hf _ _ (List.mem_cons_self ..)).2, Nat.add_zero]; exact .refl _⟩
  · split at h
    · rename_i hk; have := Nat.eq_of_beq_eq_true hk; subst this
      obtain ⟨σ', h1, h2, h3⟩ := capsGet_some h
      exact ⟨σ', _, h1, h2, fun _ _ => rfl, fun X y rr δ L hf => by simp only [Sh.put, BV.er, AV.ren, h3 rr δ L hf, renL]; exact .refl _⟩
    · simp at h
  · split at h
    · rename_i hk; have := Nat.eq_of_beq_eq_true hk; subst this
      exact ⟨_, _, h, fun _ hp => hp, fun _ _ => rfl, fun X y rr δ L _ => by simp only [Sh.put, BV.er, AV.ren]; exact .refl _⟩
    · simp at h
  · rename_i nm m σ0 K0
    exact ⟨_, _, h, fun _ hp => List.mem_cons_of_mem _ hp, fun _ _ => rfl, fun X y rr δ L hf => by simp only [Sh.put, BV.er, AV.ren, (hf _ _ (List.mem_cons_self ..)).1]; exact .refl _⟩
  · simp at h
theorem TL.get_some : ∀ {l : List Sh} {vs : List BV} {σ : Ren} {K : Ren → TL l → Option R}, TL.get l vs σ K = some r →
    ∃ σ' x, K σ' x = some r ∧ (∀ p, p ∈ σ → p ∈ σ') ∧ ∀ (rr : Name → Name) (δ : Name → Nat) (L : Lens), Fit rr δ σ' → AVleL (erL L vs) (renL rr (erL (lensOf L rr δ) (TL.put 0 l x)))
  | [], vs, σ, K, h => by
    cases vs with
    | nil => exact ⟨_, _, h, fun _ hp => hp, fun rr δ L _ => by simp only [TL.put, erL, renL]; exact .nil⟩
    | cons v vs => simp [TL.get] at h
  | s :: l, vs, σ, K, h => by
    cases vs with
    | nil => simp [TL.get] at h
    | cons v vs =>
      simp only [TL.get] at h
      obtain ⟨σ1, f, h, hs1, hf1, g1⟩ := Sh.get_some h
      obtain ⟨σ2, x, h, hs2, g2⟩ := TL.get_some h
      refine ⟨σ2, f _ x, h, fun p hp => hs2 p (hs1 p hp), fun rr δ L hf => ?_⟩
      simp only [TL.put, erL, renL, hf1]
      exact .cons (g1 _ x rr δ L (hf.mono hs2)) (g2 rr δ L hf)
theorem tb_ren (rr : Name → Name) (L L' : Lens) (t : TC) (x : TT t) : renL rr (erL L (tb t x)) = erL L' (tb t x) := by
  rw [erL_isP (tb_isP t x), erL_isP (tb_isP t x), renL_map]
  simp only [pcells, List.map_map]
  exact List.map_congr_left fun y _ => by simp only [Function.comp, AV.ren]
theorem SSh.get_some {s : SSh} {v : BV} {σ : Ren} {K : Ren → ((X : Type) → X → s.prod X) → Option R} (h : s.get v σ K = some r) :
    ∃ σ' f, K σ' f = some r ∧ (∀ p, p ∈ σ → p ∈ σ') ∧ (∀ X (y : X), (s.put 0 X (f X y)).2 = y) ∧ ∀ X (y : X) (rr : Name → Name) (δ : Name → Nat) (L : Lens), Fit rr δ σ' → AVle (v.er L) (((s.put 0 X (f X y)).1.er (lensOf L rr δ)).ren rr) := by
  cases s with
  | one s => exact Sh.get_some h
  | st t =>
    cases v with
    | agg cs =>
      simp only [SSh.get] at h
      obtain ⟨x, l, hle, h⟩ := tpop_some t h
      split at h
      · refine ⟨_, _, h, fun _ hp => hp, fun _ _ => rfl, fun X y rr δ L _ => ?_⟩
        simp only [SSh.put, BV.er, AV.ren, tb_ren rr _ L]
        have := hle L
        rw [List.append_nil] at this
        exact .agg this
      · simp at h
    | _ => simp [SSh.get] at h
  | agg l =>
    cases v with
    | agg cs =>
      simp only [SSh.get] at h
      obtain ⟨σ', x, h, hs, g⟩ := TL.get_some h
      exact ⟨_, _, h, hs, fun _ _ => rfl, fun X y rr δ L hf => by simp only [SSh.put, BV.er, AV.ren]; exact .agg (g rr δ L hf)⟩
    | _ => simp [SSh.get] at h
theorem SL.get_some : ∀ {l : List SSh} {vs : List BV} {σ : Ren} {K : Ren → SL l → Option R}, SL.get l vs σ K = some r →
    ∃ σ' x, K σ' x = some r ∧ (∀ p, p ∈ σ → p ∈ σ') ∧ ∀ (rr : Name → Name) (δ : Name → Nat) (L : Lens), Fit rr δ σ' → AVleL (erL L vs) (renL rr (erL (lensOf L rr δ) (SL.put 0 l x)))
  | [], vs, σ, K, h => by
    cases vs with
    | nil => exact ⟨_, _, h, fun _ hp => hp, fun rr δ L _ => by simp only [SL.put, erL, renL]; exact .nil⟩
    | cons v vs => simp [SL.get] at h
  | s :: l, vs, σ, K, h => by
    cases vs with
    | nil => simp [SL.get] at h
    | cons v vs =>
      simp only [SL.get] at h
      obtain ⟨σ1, f, h, hs1, hf1, g1⟩ := SSh.get_some h
      obtain ⟨σ2, x, h, hs2, g2⟩ := SL.get_some h
      refine ⟨σ2, f _ x, h, fun p hp => hs2 p (hs1 p hp), fun rr δ L hf => ?_⟩
      simp only [SL.put, erL, renL, hf1]
      exact .cons (g1 _ x rr δ L (hf.mono hs2)) (g2 rr δ L hf)
def OLe (rr : Name → Name) (δ : Name → Nat) (u : Nat) (L : Lens) (a b : BO) : Prop := (∃ cs ds, a = .box cs ∧ b = .box ds ∧ AVleL (erL L cs) (renL rr (erL (lensOf L rr δ) ds))) ∨ (∃ t l, a = .arr t l u ∧ b = .arr t l 0) ∨ ∃ es, a = .sm es ∧ b = .sm es
theorem OSh.get_some {o : OSh} {b : BO} {u : Nat} {σ : Ren} {K : Ren → o.T → Option R} (h : o.get b u σ K = some r) :
    ∃ σ' x, K σ' x = some r ∧ (∀ p, p ∈ σ → p ∈ σ') ∧ ∀ (rr : Name → Name) (δ : Name → Nat) (L : Lens), Fit rr δ σ' → OLe rr δ u L b (o.put 0 x) := by
  cases o with
  | box l =>
    cases b with
    | box cs =>
      obtain ⟨σ', x, h, hs, g⟩ := TL.get_some h
      exact ⟨σ', x, h, hs, fun rr δ L hf => .inl ⟨_, _, rfl, rfl, g rr δ L hf⟩⟩
    | arr t l => simp [OSh.get] at h
    | sm es => simp [OSh.get] at h
  | boxst t =>
    cases b with
    | box cs =>
      simp only [OSh.get] at h
      obtain ⟨x, l, hle, h⟩ := tpop_some t h
      split at h
      · refine ⟨_, _, h, fun _ hp => hp, fun rr δ L _ => .inl ⟨_, _, rfl, rfl, ?_⟩⟩
        rw [tb_ren rr _ L]
        have := hle L
        rwa [List.append_nil] at this
      · simp at h
    | arr t l => simp [OSh.get] at h
    | sm es => simp [OSh.get] at h
  | arr t =>
    cases b with
    | box cs => simp [OSh.get] at h
    | sm es => simp [OSh.get] at h
    | arr t' l =>
      simp only [OSh.get] at h
      split at h
      · rename_i he; subst he
        split at h
        · rename_i hq
          have := Nat.eq_of_beq_eq_true hq; subst this
          exact ⟨_, _, h, fun _ hp => hp, fun rr δ L _ => .inr (.inl ⟨_, _, rfl, rfl⟩)⟩
        · simp at h
      · simp at h
  | arrs t =>
    cases b with
    | box cs => simp [OSh.get] at h
    | sm es => simp [OSh.get] at h
    | arr t' l =>
      simp only [OSh.get] at h
      split at h
      · rename_i he; subst he
        split at h
        · rename_i hq
          have := Nat.eq_of_beq_eq_true hq; subst this
          exact ⟨_, _, h, fun _ hp => hp, fun rr δ L _ => .inr (.inl ⟨_, _, rfl, rfl⟩)⟩
        · simp at h
      · simp at h
  | sm =>
    cases b with
    | sm es => exact ⟨_, _, h, fun _ hp => hp, fun rr δ L _ => .inr (.inr ⟨_, rfl, rfl⟩)⟩
    | box cs => simp [OSh.get] at h
    | arr t l => simp [OSh.get] at h
theorem OL.get_some {hs : HS} : ∀ {l : List (Name × OSh)} {σ : Ren} {K : Ren → OL l → Option R}, OL.get l hs σ K = some r →
    ∃ σ' x, K σ' x = some r ∧ (∀ p, p ∈ σ → p ∈ σ') ∧ ∀ (rr : Name → Name) (δ : Name → Nat) (L : Lens), Fit rr δ σ' → ∀ n b, look n (OL.put 0 l x) = some b → ∃ a, look (rr n) hs = some a ∧ OLe rr δ (δ n) L a b
  | [], σ, K, h => ⟨_, _, h, fun _ hp => hp, fun rr δ L _ n b hn => by change look n [] = some b at hn; simp [look] at hn⟩
  | p :: l, σ, K, h => by
    simp only [OL.get] at h
    split at h
    · rename_i m hm
      split at h
      · rename_i ob hob
        obtain ⟨σ1, x, h, hs1, g1⟩ := OSh.get_some h
        obtain ⟨σ2, y, h, hs2, g2⟩ := OL.get_some h
        refine ⟨σ2, (x, y), h, fun q hq => hs2 q (hs1 q hq), fun rr δ L hf n b hn => ?_⟩
        change look n ((p.1, p.2.put 0 x) :: OL.put 0 l y) = some b at hn
        simp only [look] at hn
        split at hn
        · rename_i e
          cases hn
          have hfm := hf p.1 m (hs2 _ (hs1 _ (look_mem hm)))
          rw [← e, hfm.1, hfm.2]
          exact ⟨ob, hob, g1 rr δ L (hf.mono hs2)⟩
        · exact g2 rr δ L hf n b hn
      · simp at h
    · simp at h
theorem STL.get_some {ts : TS} : ∀ {l : List (Nat × SSh)} {σ : Ren} {K : Ren → STL l → Option R}, STL.get l ts σ K = some r →
    ∃ σ' x, K σ' x = some r ∧ (∀ p, p ∈ σ → p ∈ σ') ∧ ∀ (rr : Name → Name) (δ : Name → Nat) (L : Lens), Fit rr δ σ' → ∀ n b, look n (STL.put 0 l x) = some b → ∃ a, look n ts = some a ∧ AVle (a.er L) ((b.er (lensOf L rr δ)).ren rr)
  | [], σ, K, h => ⟨_, _, h, fun _ hp => hp, fun rr δ L _ n b hn => by change look n [] = some b at hn; simp [look] at hn⟩
  | p :: l, σ, K, h => by
    simp only [STL.get] at h
    split at h
    · rename_i v hv
      obtain ⟨σ1, f, h, hs1, hf1, g1⟩ := SSh.get_some h
      obtain ⟨σ2, y, h, hs2, g2⟩ := STL.get_some h
      refine ⟨σ2, f _ y, h, fun q hq => hs2 q (hs1 q hq), fun rr δ L hf n b hn => ?_⟩
      change look n ((p.1, (p.2.put 0 _ (f _ y)).1) :: STL.put 0 l (p.2.put 0 _ (f _ y)).2) = some b at hn
      simp only [look, hf1] at hn
      split at hn
      · rename_i e
        cases hn
        exact ⟨v, by rw [← e]; exact hv, g1 _ y rr δ L (hf.mono hs2)⟩
      · exact g2 rr δ L hf n b hn
    · simp at h
end
end Go.Proofs.YtfhcigjkfelnfaaGreat.AM
/-
  The typed layer, part G: contracts of functions, calls. No project text.
-/
set_option linter.unusedVariables false
set_option linter.unusedSimpArgs false
namespace Go.Proofs.YtfhcigjkfelnfaaGreat.AM
open Go
mutual
def BV.ren (σ : Name → Name) (δ : Name → Nat) : BV → BV
  | .agg cs => .agg (renBL σ δ cs)
  | .tup vs => .tup (renBL σ δ vs)
  | .clo f cs => .clo f (renBL σ δ cs)
  | .ref m o => .ref (σ m) o
  | .own m u => .own (σ m) (δ m + u)
  | .aref m u i o => .aref (σ m) (δ m + u) i o
  | .view m u i o => .view (σ m) (δ m + u) i o
  | .mref m => .mref (σ m)
  | x => x
def renBL (σ : Name → Name) (δ : Name → Nat) : List BV → List BV
  | [] => []
  | x :: r => x.ren σ δ :: renBL σ δ r
end
mutual
def BV.use (p : Name → Nat → Bool) : BV → Bool
  | .agg cs => BV.useL p cs
  | .tup vs => BV.useL p vs
  | .clo _ cs => BV.useL p cs
  | .own m u => p m u
  | .aref m u _ _ => p m u
  | .view m u _ _ => p m u
  | _ => true
def BV.useL (p : Name → Nat → Bool) : List BV → Bool
  | [] => true
  | x :: r => x.use p && BV.useL p r
end
mutual
theorem ren_er {σ : Name → Name} {δ : Name → Nat} {L L' : Lens} {p : Name → Nat → Bool} (hL : ∀ n u, p n u = true → L' (σ n) (δ n + u) = L n u) : ∀ x : BV, x.use p = true → (x.er L).ren σ = (x.ren σ δ).er L'
  | .agg cs, h => by simp only [BV.use] at h; simp only [BV.er, BV.ren, AV.ren, renL_er hL cs h]
  | .tup cs, h => by simp only [BV.use] at h; simp only [BV.er, BV.ren, AV.ren, renL_er hL cs h]
  | .clo f cs, h => by simp only [BV.use] at h; simp only [BV.er, BV.ren, AV.ren, renL_er hL cs h, renL]
  | .ref _ _, _ => by simp only [BV.er, BV.ren, AV.ren]
  | .own n u, h => by simp only [BV.use] at h; simp only [BV.er, BV.ren, AV.ren, hL n u h]
  | .aref n u _ _, h => by simp only [BV.use] at h; simp only [BV.er, BV.ren, AV.ren, hL n u h]
  | .view n u _ _, h => by simp only [BV.use] at h; simp only [BV.er, BV.ren, AV.ren, hL n u h]
  | .mref _, _ => by simp only [BV.er, BV.ren, AV.ren]
  | .tep _, _ => by simp only [BV.er, BV.ren, AV.ren]
  | .any, _ => by simp only [BV.er, BV.ren, AV.ren]
  | .ub, _ => by simp only [BV.er, BV.ren, AV.ren]
  | .n _ _, _ => by simp only [BV.er, BV.ren, AV.ren]
  | .b _, _ => by simp only [BV.er, BV.ren, AV.ren]
  | .s _, _ => by simp only [BV.er, BV.ren, AV.ren]
  | .ts _ _ _, _ => by simp only [BV.er, BV.ren, AV.ren]
  | .nil, _ => by simp only [BV.er, BV.ren, AV.ren]
  | .v _, _ => by simp only [BV.er, BV.ren, AV.ren]
theorem renL_er {σ : Name → Name} {δ : Name → Nat} {L L' : Lens} {p : Name → Nat → Bool} (hL : ∀ n u, p n u = true → L' (σ n) (δ n + u) = L n u) : ∀ l : List BV, BV.useL p l = true → renL σ (erL L l) = erL L' (renBL σ δ l)
  | [], _ => by simp only [erL, renL, renBL]
  | x :: r, h => by
    simp only [BV.useL, Bool.and_eq_true] at h
    simp only [erL, renL, renBL, ren_er hL x h.1, renL_er hL r h.2]
end
mutual
theorem use_true : ∀ x : BV, x.use (fun _ _ => true) = true
  | .agg cs => by simp only [BV.use, useL_true cs]
  | .tup cs => by simp only [BV.use, useL_true cs]
  | .clo f cs => by simp only [BV.use, useL_true cs]
  | .ref _ _ => by simp only [BV.use]
  | .own n _ => by simp only [BV.use]
  | .aref n _ _ _ => by simp only [BV.use]
  | .view n _ _ _ => by simp only [BV.use]
  | .mref _ => by simp only [BV.use]
  | .tep _ => by simp only [BV.use]
  | .any => by simp only [BV.use]
  | .ub => by simp only [BV.use]
  | .n _ _ => by simp only [BV.use]
  | .b _ => by simp only [BV.use]
  | .s _ => by simp only [BV.use]
  | .ts _ _ _ => by simp only [BV.use]
  | .nil => by simp only [BV.use]
  | .v _ => by simp only [BV.use]
theorem useL_true : ∀ l : List BV, BV.useL (fun _ _ => true) l = true
  | [] => by simp only [BV.useL]
  | x :: r => by simp only [BV.useL, use_true x, useL_true r, Bool.and_self]
end
def BO.ren (σ : Name → Name) (δ : Name → Nat) (k : Nat) : BO → BO
  | .box cs => .box (renBL σ δ cs)
  | .arr t l v => .arr t l (k + v)
  | .sm es => .sm es
def BO.use (p : Name → Nat → Bool) : BO → Bool
  | .box cs => BV.useL p cs
  | .arr _ _ _ => true
  | .sm _ => true
theorem renO_er {σ : Name → Name} {δ : Name → Nat} {L L' : Lens} {p : Name → Nat → Bool} (hL : ∀ n u, p n u = true → L' (σ n) (δ n + u) = L n u) (k : Nat) (o : BO) (h : o.use p = true) : (o.er L).ren σ = (o.ren σ δ k).er L' := by
  cases o with
  | box cs => simp only [BO.er, BO.ren, AO.ren, renL_er hL cs h]
  | arr t l => simp only [BO.er, BO.ren, AO.ren]
  | sm es => simp only [BO.er, BO.ren, AO.ren]
def renHB (σ : Name → Name) (δ : Name → Nat) (hs : HS) : HS := hs.map fun p => (σ p.1, p.2.ren σ δ (δ p.1))
theorem renH_er {σ : Name → Name} {δ : Name → Nat} {L L' : Lens} {p : Name → Nat → Bool} (hL : ∀ n u, p n u = true → L' (σ n) (δ n + u) = L n u) (hs : HS) (h : hs.all (fun q => q.2.use p) = true) : renH σ (erH L hs) = erH L' (renHB σ δ hs) := by
  unfold renH erH renHB
  simp only [List.map_map]
  refine List.map_congr_left fun q hq => ?_
  simp only [Function.comp, renO_er hL (δ q.1) q.2 (List.all_eq_true.1 h q hq)]
theorem look_renHB {σ : Name → Name} {δ : Name → Nat} (hσ : ∀ a b, σ a = σ b → a = b) (n : Name) : ∀ h : HS, look (σ n) (renHB σ δ h) = (look n h).map (BO.ren σ δ (δ n))
  | [] => rfl
  | (k, o) :: r => by
    show look (σ n) ((σ k, o.ren σ δ (δ k)) :: renHB σ δ r) = (look n ((k, o) :: r)).map (BO.ren σ δ (δ n))
    simp only [look]
    by_cases e : k = n
    · simp [e]
    · rw [if_neg (fun h => e (hσ _ _ h)), if_neg e]; exact look_renHB hσ n r
theorem look_renHB_inv {σ : Name → Name} {δ : Name → Nat} {m : Name} {o : BO} : ∀ {h : HS}, look m (renHB σ δ h) = some o → ∃ n, σ n = m
  | [], h => by simp [renHB, look] at h
  | (k, x) :: r, h => by
    change look m ((σ k, x.ren σ δ (δ k)) :: renHB σ δ r) = some o at h
    simp only [look] at h
    split at h
    · exact ⟨k, by assumption⟩
    · exact look_renHB_inv h
mutual
def BV.closed (ks : List Name) : BV → Bool
  | .agg cs => BV.closedL ks cs
  | .tup vs => BV.closedL ks vs
  | .clo _ cs => BV.closedL ks cs
  | .ref m _ => ks.contains m
  | .own m _ => ks.contains m
  | .aref m _ _ _ => ks.contains m
  | .view m _ _ _ => ks.contains m
  | .mref m => ks.contains m
  | _ => true
def BV.closedL (ks : List Name) : List BV → Bool
  | [] => true
  | x :: r => x.closed ks && BV.closedL ks r
end
mutual
theorem closed_er (L : Lens) (ks : List Name) : ∀ x : BV, (x.er L).closed ks = x.closed ks
  | .agg cs => by simp only [BV.er, AV.closed, BV.closed, closedL_er L ks cs]
  | .tup cs => by simp only [BV.er, AV.closed, BV.closed, closedL_er L ks cs]
  | .clo f cs => by simp only [BV.er, AV.closed, BV.closed, closedL_er L ks cs, AV.closedL, Bool.true_and]
  | .ref _ _ => by simp only [BV.er, AV.closed, BV.closed]
  | .own _ _ => by simp only [BV.er, AV.closed, BV.closed]
  | .aref _ _ _ _ => by simp only [BV.er, AV.closed, BV.closed]
  | .view _ _ _ _ => by simp only [BV.er, AV.closed, BV.closed]
  | .mref _ => by simp only [BV.er, AV.closed, BV.closed]
  | .tep _ => by simp only [BV.er, AV.closed, BV.closed]
  | .any => by simp only [BV.er, AV.closed, BV.closed]
  | .ub => by simp only [BV.er, AV.closed, BV.closed]
  | .n _ _ => by simp only [BV.er, AV.closed, BV.closed]
  | .b _ => by simp only [BV.er, AV.closed, BV.closed]
  | .s _ => by simp only [BV.er, AV.closed, BV.closed]
  | .ts _ _ _ => by simp only [BV.er, AV.closed, BV.closed]
  | .nil => by simp only [BV.er, AV.closed, BV.closed]
  | .v _ => by simp only [BV.er, AV.closed, BV.closed]
theorem closedL_er (L : Lens) (ks : List Name) : ∀ l : List BV, AV.closedL ks (erL L l) = BV.closedL ks l
  | [] => by simp only [erL, AV.closedL, BV.closedL]
  | x :: r => by simp only [erL, AV.closedL, BV.closedL, closed_er L ks x, closedL_er L ks r]
end
def BO.closed (ks : List Name) : BO → Bool
  | .box cs => BV.closedL ks cs
  | .arr _ _ _ => true
  | .sm _ => true
theorem closedO_er (L : Lens) (ks : List Name) (o : BO) : (o.er L).closed ks = o.closed ks := by cases o <;> simp only [BO.er, AO.closed, BO.closed, closedL_er]
def callB (pre h : HS) (nw : List Name) (v : BV) : Bool :=
  (keys h).all (fun n => (keys pre).contains n || nw.contains n) && nw.all (fun n => (keys h).contains n && !(keys pre).contains n) && v.closed (keys h) && h.all (fun p => p.2.closed (keys h))
theorem callB_er {L0 L1 : Lens} {pre h : HS} {nw : List Name} {v : BV} (hb : callB pre h nw v = true) : callOK (erH L0 pre) (erH L1 h) nw (v.er L1) = true := by
  unfold callB at hb
  unfold callOK
  rw [keys_erH, keys_erH, closed_er]
  have : (erH L1 h).all (fun p => p.2.closed (keys h)) = h.all (fun p => p.2.closed (keys h)) := by
    unfold erH; rw [List.all_map]; congr 1; funext p; simp only [Function.comp, closedO_er]
  rw [this]; exact hb
structure Sig where
  args : List SSh
  pre : List (Name × OSh)
  res : List SSh
  post : List (Name × OSh)
  keep : List Name
  F : (R : Type) → SL args → OL pre → (SL res → OL post → Option R) → Option R
def resB : List BV → BV
  | [v] => v
  | vs => .tup vs
def Sig.posts (g : Sig) (y : OL g.pre) (b : OL g.post) : HS := OL.put 1 g.post b ++ (OL.put 0 g.pre y).filter (fun p => g.keep.contains p.1)
def samesOf : List (Name × OSh) → List Name
  | [] => []
  | (n, .arrs _) :: r => n :: samesOf r
  | (_, .arr _) :: r => samesOf r
  | (_, .box _) :: r => samesOf r
  | (_, .boxst _) :: r => samesOf r
  | (_, .sm) :: r => samesOf r
structure FnOK (P : Program) (k : FuncId) (g : Sig) : Prop where
  nat : ∀ (R : Type) x y (K : SL g.res → OL g.post → Option R) r, g.F R x y K = some r → ∃ a b, g.F (SL g.res × OL g.post) x y (fun a b => some (a, b)) = some (a, b) ∧ K a b = some r
  spec : ∀ x y a b, g.F (SL g.res × OL g.post) x y (fun a b => some (a, b)) = some (a, b) → ∀ L0, Inv L0 (OL.put 0 g.pre y) → ∃ L1 : Lens, (∀ n, n ∈ g.keep ∨ n ∈ samesOf g.post → L1 n 0 = L0 n 0) ∧ Inv L1 (g.posts y b) ∧
    SpecIs P k (erL L0 (SL.put 0 g.args x)) (erH L0 (OL.put 0 g.pre y)) ((resB (SL.put 1 g.res a)).er L1) (erH L1 (g.posts y b))
def renOf (m : Ren) : Name → Name := fun n => match look n m with | some a => a.1 | none => n + 10000000000
def verOf (m : Ren) : Name → Nat := fun n => match look n m with | some a => a.2 | none => 0
def lookIs (n a u : Nat) : Ren → Bool
  | [] => false
  | (k, b) :: r => if Nat.beq k n then Nat.beq b.1 a && Nat.beq b.2 u else lookIs n a u r
theorem lookIs_of {n a u : Nat} : ∀ {m : Ren}, lookIs n a u m = true → look n m = some (a, u)
  | [], h => by simp [lookIs] at h
  | (k, b) :: r, h => by
    simp only [lookIs] at h
    simp only [look]
    split at h
    · rename_i e
      simp only [Bool.and_eq_true] at h
      rw [if_pos (Nat.eq_of_beq_eq_true e), ← Nat.eq_of_beq_eq_true h.1, ← Nat.eq_of_beq_eq_true h.2]
    · rename_i e; rw [if_neg (fun e' => e (by rw [e']; exact Nat.beq_refl _))]; exact lookIs_of h
def renOK (m : Ren) : Bool := m.all fun p => lookIs p.1 p.2.1 p.2.2 m && Nat.blt p.2.1 10000000000 && m.all fun q => Nat.beq p.1 q.1 || !Nat.beq p.2.1 q.2.1
theorem renOK_fit {m : Ren} (h : renOK m = true) : Fit (renOf m) (verOf m) m := fun nm a hm => by
  have := List.all_eq_true.1 h _ hm
  simp only [Bool.and_eq_true] at this
  unfold renOf verOf; rw [lookIs_of this.1.1]; exact ⟨rfl, rfl⟩
theorem renOK_inj {m : Ren} (h : renOK m = true) : ∀ a b, renOf m a = renOf m b → a = b := fun a b e => by
  unfold renOf at e
  have hb : ∀ {n x}, look n m = some x → x.1 < 10000000000 := fun {n x} hx => by
    have := List.all_eq_true.1 h _ (look_mem hx)
    simp only [Bool.and_eq_true, Nat.blt_eq] at this
    exact this.1.2
  cases ha : look a m with
  | none =>
    cases hb' : look b m with
    | none => rw [ha, hb'] at e; exact Nat.add_right_cancel e
    | some y => rw [ha, hb'] at e; have h1 : (y.1 : Nat) < 10000000000 := hb hb'; have h2 : (a : Nat) + 10000000000 = (y.1 : Nat) := e; exact absurd h1 (by rw [← h2]; exact Nat.not_lt.2 (Nat.le_add_left _ _))
  | some x =>
    cases hb' : look b m with
    | none => rw [ha, hb'] at e; have h1 : (x.1 : Nat) < 10000000000 := hb ha; have h2 : (x.1 : Nat) = (b : Nat) + 10000000000 := e; exact absurd h1 (by rw [h2]; exact Nat.not_lt.2 (Nat.le_add_left _ _))
    | some y =>
      rw [ha, hb'] at e
      simp only at e
      have := List.all_eq_true.1 h _ (look_mem ha)
      simp only [Bool.and_eq_true] at this
      have := List.all_eq_true.1 this.2 _ (look_mem hb')
      simp only [e, Nat.beq_refl, Bool.not_true, Bool.or_false] at this
      exact Nat.eq_of_beq_eq_true this
def freshOf (d : Nat) (g : Sig) : Ren := ((keys g.post).filter fun n => !(keys g.pre).contains n).map fun n => (n, (1000000 + 1000 * d + n, 0))
def arrsOf : List (Name × OSh) → List Name
  | [] => []
  | (n, .arr _) :: r => n :: arrsOf r
  | (_, .box _) :: r => arrsOf r
  | (_, .arrs _) :: r => arrsOf r
  | (_, .boxst _) :: r => arrsOf r
  | (_, .sm) :: r => arrsOf r
def hpOf (rr : Name → Name) (hs : HS) : List Name → HS
  | [] => []
  | n :: r => match look (rr n) hs with
    | some ob => (rr n, ob) :: hpOf rr hs r
    | none => hpOf rr hs r
def callEff (g : Sig) (m : Ren) (d : Nat) (hs : HS) (y : OL g.pre) (a : SL g.res) (b : OL g.post) : BEff :=
  ⟨hpOf (renOf m) hs (keys g.pre), (resB (SL.put 1 g.res a)).ren (renOf m) (verOf m), renHB (renOf m) (verOf m) (g.posts y b), (freshOf d g).map (·.2.1),
    ((arrsOf g.post).filter fun n => (keys g.pre).contains n).map fun n => (renOf m n, verOf m n + 1)⟩
def useOK (g : Sig) (n u : Nat) : Bool := match u with
  | 0 => isIn n g.keep || isIn n (samesOf g.post)
  | 1 => isIn n (arrsOf g.post)
  | _ => false
def callChk (g : Sig) (m : Ren) (d : Nat) (hs : HS) (y : OL g.pre) (a : SL g.res) (b : OL g.post) : Bool :=
  renOK m && callB (callEff g m d hs y a b).hp (callEff g m d hs y a b).upd (callEff g m d hs y a b).nw (callEff g m d hs y a b).v &&
  (resB (SL.put 1 g.res a)).use (useOK g) && (g.posts y b).all (fun q => q.2.use (useOK g)) &&
  g.keep.all (fun n => (keys g.pre).contains n && !(keys g.post).contains n)
end Go.Proofs.YtfhcigjkfelnfaaGreat.AM
/-
  The typed layer, part R: parts of lists and of arrays of ours, clear, copy, closures that are made, arrays that are values. No project text.
-/
set_option linter.unusedVariables false
set_option linter.unusedSimpArgs false
namespace Go.Proofs.YtfhcigjkfelnfaaGreat.AM
open Go
variable {L L' : Lens} {ts ts' : TS} {hs hs' : HS}
section
variable {R : Type} (P : Program) (ty : TypeId → Option TC) (rd : TS) (hs : HS) (K : BEff → Option R)
def bndB (x : Operand) (k : Nat → Option R) : Option R := match evalB rd x with
  | some (.n k' j) => if kEq .i64 k' then natc j k else none
  | _ => none
def bSlice (T : TypeId) (x : Operand) (lo hi mx : Option Operand) : Option R := match evalB rd x, elemT P T, mx with
  | some (.ts f t l), some e, none => match sizeT P e, lo, hi with
    | some es, some lo, none => if Nat.beq es (tz t) then bndB rd lo fun k => lec k l.length (K (ev (.ts f t (l.drop k)))) else none
    | some es, none, some hi => if Nat.beq es (tz t) then bndB rd hi fun m => lec m l.length (K (ev (.ts false t (l.take m)))) else none
    | some es, some lo, some hi => if Nat.beq es (tz t) then bndB rd lo fun k => bndB rd hi fun m => lec k m (lec m l.length (K (ev (.ts false t ((l.take m).drop k))))) else none
    | _, _, _ => none
  | some (.own n u), some e, none => match look n hs, sizeT P e with
    | some (.arr t l q), some es => if Nat.beq es (tz t) && Nat.beq u q then (match lo, hi with
        | some lo, none => bndB rd lo fun k => lec k l.length (K ⟨[(n, .arr t l q)], .view n u k l.length, [], [], []⟩)
        | none, some hi => bndB rd hi fun m => lec m l.length (K ⟨[(n, .arr t l q)], .view n u 0 m, [], [], []⟩)
        | _, _ => none) else none
    | _, _ => none
  | some (.view n u a b), some e, none => match look n hs, sizeT P e with
    | some (.arr t l q), some es => if Nat.beq es (tz t) && Nat.beq u q then (match lo, hi with
        | some lo, none => bndB rd lo fun k => ltc k (b - a) (K ⟨[(n, .arr t l q)], .view n u (a + k) (a + (b - a)), [], [], []⟩)
        | none, some hi => bndB rd hi fun m => lec m (b - a) (K ⟨[(n, .arr t l q)], .view n u (a + 0) (a + m), [], [], []⟩)
        | _, _ => none) else none
    | _, _ => none
  | _, _, _ => none
def bClear (T : TypeId) (x : Operand) : Option R := match evalB rd x, elemT P T with
  | some (.view n u i hi), some e => match look n hs, sizeT P e, zeroB P e with
    | some (.arr t l q), some es, some zs => if Nat.beq es (tz t) && Nat.beq zs.length es && zs.all BV.isP && Nat.beq u q then lec i hi (lec hi l.length (tpop t zs fun z rest => match rest with
        | [] => K ⟨[(n, .arr t l q)], .tup [], [(n, .arr t (l.take i ++ List.replicate (hi - i) z ++ l.drop hi) q)], [], []⟩
        | _ => none)) else none
    | _, _, _ => none
  | _, _ => none
def bCopy (T : TypeId) (x y : Operand) : Option R := match evalB rd x, evalB rd y, elemT P T with
  | some (.view n u i hi), some (.view m v j hj), some e => match look n hs, sizeT P e with
    | some (.arr t l q), some es => if Nat.beq n m && Nat.beq v q && Nat.beq es (tz t) && Nat.beq u q then chk hi l.length (chk hj l.length (lec i l.length (lec j i
        (K ⟨[(n, .arr t l q)], .n .i64 ((l.length - i : Nat) : Int), [(n, .arr t (l.take i ++ (l.drop j).take (l.length - i)) q)], [], []⟩)))) else none
    | _, _ => none
  | _, _, _ => none
def intsB : List BV → Option (List Int)
  | [] => some []
  | .n k x :: r => if kEq .i64 k then (match intsB r with | some l => some (x :: l) | none => none) else none
  | _ => none
def bCmp (op : BinOp) (T : TypeId) (a b : List BV) : Option R := match intsB a, intsB b with
  | some p, some q => if intsT P T p.length && Nat.beq q.length p.length then (match op with
      | .eql => K (ev (.b (decide (p = q))))
      | .neq => K (ev (.b (decide (p ≠ q))))
      | _ => none) else none
  | _, _ => none
def nilO : Operand → Bool
  | .const (.slice none 0 0) => true
  | _ => false
def bNil (op : BinOp) (T : TypeId) (x : BV) : Option R := match eqOp op, elemT P T, x with
  | some q, some _, .ts _ _ l => nilC l (K (ev .ub)) (K (ev (.b (!q))))
  | some q, some _, .nil => K (ev .ub)
  | _, _, _ => none
def bBin2 (op : BinOp) (T : TypeId) (x y : Operand) : Option R := match evalB rd x, evalB rd y with
  | some (.agg a), some (.agg b) => bCmp P K op T a b
  | some x, some .nil => if nilO y then bNil P K op T x else none
  | _, _ => bBin P rd K op T x y
def pickC (c : Int) : List BV → Nat → (Nat → BV → Option R) → Option R
  | [], _, _ => none
  | v :: r, i, k => cnd (decide (c = (i : Int))) (k i v) (pickC c r (i + 1) k)
def bIndexV (T : TypeId) (x y : Operand) : Option R := match evalB rd x, evalB rd y, P.underlying T with
  | some (.agg cs), some (.n k j), some (.array len e) => if kEq .i64 k && flatT P e && Nat.beq len cs.length then (match sizeT P e with
      | some 1 => pickC j cs 0 fun _ v => K (ev v)
      | _ => none) else none
  | _, _, _ => none
def bIndexBox (T : TypeId) (x y : Operand) : Option R := match evalB rd x, evalB rd y, P.underlying T with
  | some (.ref n k), some (.n _ j), some (.array len e) => match look n hs, sizeT P e with
    | some (.box cells), some es => pickC j (List.replicate len .any) 0 fun i _ => K ⟨[(n, .box cells)], .ref n (k + i * es), [], [], []⟩
    | _, _ => none
  | _, _, _ => none
def cntB (k : ByteArray) : List (ByteArray × Bool) → Nat
  | [] => 0
  | p :: r => if k = p.1 then cntB k r + 1 else cntB k r
def memB (k : ByteArray) : List (ByteArray × Bool) → Bool
  | [] => false
  | p :: r => if k = p.1 then p.2 else memB k r
def isK (P : Program) (T : TypeId) : Bool := match P.underlying T with
  | some (.map K E) => (match P.underlying K with | some .string => true | _ => false) && (match zeroV P E with | some (.bool false) => true | _ => false)
  | _ => false
def bMakeMap (d : Option Nat) (T : TypeId) : Option R := match d with
  | some d => if isK P T then K ⟨[], .mref (1000 + d), [(1000 + d, .sm [])], [1000 + d], []⟩ else none
  | none => none
def bLookup (T : TypeId) (x y : Operand) : Option R := match evalB rd x, evalB rd y with
  | some (.mref n), some (.s k) => match look n hs with
    | some (.sm es) => if isK P T then K ⟨[(n, .sm es)], .b (memB k es), [], [], []⟩ else none
    | _ => none
  | _, _ => none
def bPutM (d : Option Nat) (T : TypeId) (x y z : Operand) : Option R := match d, evalB rd x, evalB rd y, evalB rd z with
  | none, some (.mref n), some (.s k), some (.b v) => match look n hs with
    | some (.sm es) => if isK P T then chk (cntB k es) 0 (K ⟨[(n, .sm es)], .any, [(n, .sm (es ++ [(k, v)]))], [], []⟩) else none
    | _ => none
  | _, _, _, _ => none
def flatB : BV → Bool
  | .agg _ => false
  | .tup _ => false
  | _ => true
def bFunc (fn : Fn) (first caps : Array Operand) : Option R := match first.toList, evalBs rd caps.toList with
  | [], some cs => if cs.all flatB then K (ev (.clo fn cs)) else none
  | _, _ => none
end
section
variable {R : Type} {P : Program} {ty : TypeId → Option TC} {rd : TS} {K : BEff → Option R} {r : R} {o : Oper}
theorem bndB_some {x : Operand} {k : Nat → Option R} (h : bndB rd x k = some r) : ∃ i : Nat, evalB rd x = some (.n .i64 (i : Int)) ∧ k i = some r := by
  unfold bndB at h
  split at h
  · rename_i k' j hx
    split at h
    · rename_i hk
      have := kEq_of hk; subst this
      obtain ⟨i, rfl, h⟩ := natc_some h
      exact ⟨i, hx, h⟩
    · simp at h
  · simp at h
theorem optB_of {x : Operand} {i d : Nat} (h : evalB rd x = some (.n .i64 (i : Int))) (L : Lens) : optB (erT L rd) d (some x) = some (i : Int) := by
  have := evalB_er L h
  simp only [BV.er] at this
  simp only [optB, this]
theorem Good.wrArrV {n : Name} {t : TC} {l l' : List (TT t)} {q : Nat} {v : BV} (hc : look n hs = some (.arr t l q)) (hl : l'.length = l.length) (h : ∀ L, Inv L hs → OpOK P o ⟨erT L rd, [(n, .arr (tz t) (l.map (tcells t)))], v.er L, [(n, .arr (tz t) (l'.map (tcells t)))], []⟩) : Good P o rd hs ⟨[(n, .arr t l q)], v, [(n, .arr t l' q)], [], []⟩ :=
  ⟨hp1 hc, fun L hL => ⟨L, fun _ _ _ _ => rfl, fun m t' l2 u hm => by
    simp only [List.cons_append, List.nil_append, look] at hm
    split at hm
    · rename_i e; subst e; cases hm; rw [hl]; exact hL _ t l q hc
    · exact hL m t' l2 u hm, h L hL⟩⟩
theorem bSlice_ok {T : TypeId} {x : Operand} {lo hi mx : Option Operand} (ho : o.op = .slice T x lo hi mx) (h : bSlice P rd hs K T x lo hi mx = some r) : Does P o rd hs K r := by
  unfold bSlice at h
  split at h
  · rename_i f t l e hx he
    split at h
    · rename_i es lo hz
      split at h
      · rename_i hb
        have := Nat.eq_of_beq_eq_true hb; subst this
        obtain ⟨k, hk, h⟩ := bndB_some h
        obtain ⟨hkl, h⟩ := lec_some h
        refine ⟨_, h, .ev fun L _ => ?_⟩
        have h1 := evalB_er L hx
        have h2 := evalB_er L hk
        simp only [BV.er] at h1 h2 ⊢
        exact OpOK.sliceLo ho (elemT_spec he) hz h1 h2 rfl (by rw [List.length_map]; exact hkl) (by rw [List.map_drop])
      · simp at h
    · rename_i es hi hz
      split at h
      · rename_i hb
        have := Nat.eq_of_beq_eq_true hb; subst this
        obtain ⟨m, hm, h⟩ := bndB_some h
        obtain ⟨hml, h⟩ := lec_some h
        refine ⟨_, h, .ev fun L _ => ?_⟩
        have h1 := evalB_er L hx
        simp only [BV.er] at h1 ⊢
        have := OpOK.sliceP (P := P) (o := o) (k := 0) (m := m) ho (elemT_spec he) hz h1 (by simp [optB]) (optB_of hm L) (Nat.zero_le _) (by rw [List.length_map]; exact hml)
        rw [List.drop_zero, ← List.map_take] at this
        exact this
      · simp at h
    · rename_i es lo hi hz
      split at h
      · rename_i hb
        have := Nat.eq_of_beq_eq_true hb; subst this
        obtain ⟨k, hk, h⟩ := bndB_some h
        obtain ⟨m, hm, h⟩ := bndB_some h
        obtain ⟨hkm, h⟩ := lec_some h
        obtain ⟨hml, h⟩ := lec_some h
        refine ⟨_, h, .ev fun L _ => ?_⟩
        have h1 := evalB_er L hx
        simp only [BV.er] at h1 ⊢
        have := OpOK.sliceP (P := P) (o := o) (k := k) (m := m) ho (elemT_spec he) hz h1 (optB_of hk L) (optB_of hm L) hkm (by rw [List.length_map]; exact hml)
        rw [← List.map_take, ← List.map_drop] at this
        exact this
      · simp at h
    · simp at h
  · rename_i n u e hx he
    split at h
    · rename_i t l q es hc hz
      split at h
      · rename_i hb
        simp only [Bool.and_eq_true] at hb
        have := Nat.eq_of_beq_eq_true hb.1; subst this
        have hlen : ∀ {L : Lens}, Inv L hs → L n u = l.length := fun hL => by rw [Nat.eq_of_beq_eq_true hb.2]; exact hL n t l q hc
        split at h
        · rename_i lo
          obtain ⟨k, hk, h⟩ := bndB_some h
          obtain ⟨hkl, h⟩ := lec_some h
          refine ⟨_, h, .val (hp1 hc) fun L hL => ?_⟩
          have h1 := evalB_er L hx
          simp only [BV.er] at h1 ⊢
          exact OpOK.sliceView ho (elemT_spec he) hz h1 (optB_of hk L) (by simp [optB, hlen hL]) (arr_len hL hc hb.2) hkl (by rw [List.length_map]; exact Nat.le_refl _)
        · rename_i hi
          obtain ⟨m, hm, h⟩ := bndB_some h
          obtain ⟨hml, h⟩ := lec_some h
          refine ⟨_, h, .val (hp1 hc) fun L hL => ?_⟩
          have h1 := evalB_er L hx
          simp only [BV.er] at h1 ⊢
          exact OpOK.sliceView ho (elemT_spec he) hz h1 (by simp [optB]) (optB_of hm L) (arr_len hL hc hb.2) (Nat.zero_le _) (by rw [List.length_map]; exact hml)
        · simp at h
      · simp at h
    · simp at h
  · rename_i n u a b e hx he
    split at h
    · rename_i t l q es hc hz
      split at h
      · rename_i hb
        simp only [Bool.and_eq_true] at hb
        have := Nat.eq_of_beq_eq_true hb.1; subst this
        split at h
        · rename_i lo
          obtain ⟨k, hk, h⟩ := bndB_some h
          obtain ⟨hkl, h⟩ := ltc_some h
          refine ⟨_, h, .val (hp1 hc) fun L hL => ?_⟩
          have h1 := evalB_er L hx
          simp only [BV.er] at h1 ⊢
          exact OpOK.sliceView2 ho (elemT_spec he) hz h1 (optB_of hk L) (by simp [optB]) (arr_len hL hc hb.2) (Nat.le_of_lt hkl) (Nat.le_refl _) (.inr (.inr hkl))
        · rename_i hi
          obtain ⟨m, hm, h⟩ := bndB_some h
          obtain ⟨hml, h⟩ := lec_some h
          refine ⟨_, h, .val (hp1 hc) fun L hL => ?_⟩
          have h1 := evalB_er L hx
          simp only [BV.er] at h1 ⊢
          exact OpOK.sliceView2 (k := 0) ho (elemT_spec he) hz h1 (by simp [optB]) (optB_of hm L) (arr_len hL hc hb.2) (Nat.zero_le _) hml (.inr (.inl rfl))
        · simp at h
      · simp at h
    · simp at h
  · simp at h
theorem pureL_of {T : TypeId} {cs : List BV} (h : zeroB P T = some cs) (hp : cs.all BV.isP = true) : zeroRow P T = some (pvL cs) := by
  unfold zeroRow
  rw [zeroB_er (fun _ _ => 0) h]
  simp only
  exact pureL_pv _ hp
theorem bClear_ok {T : TypeId} {x : Operand} {ats : Array TypeId} (ho : o.op = .call { callee := .builtin .clear, args := #[x], argTypes := ats }) (hat : ats[0]? = some T) (h : bClear P rd hs K T x = some r) : Does P o rd hs K r := by
  unfold bClear at h
  split at h
  case h_2 => simp at h
  rename_i n u i hi e hx he
  split at h
  case h_2 => simp at h
  rename_i t l q es zs hc hz hzs
  split at h
  case isFalse => simp at h
  rename_i hb
  simp only [Bool.and_eq_true] at hb
  have := Nat.eq_of_beq_eq_true hb.1.1.1; subst this
  obtain ⟨hih, h⟩ := lec_some h
  obtain ⟨hil, h⟩ := lec_some h
  obtain ⟨z, rest, hle, h⟩ := tpop_some t h
  split at h
  case h_2 => simp at h
  refine ⟨_, h, .wrArrV hc (by simp; omega) fun L hL => ?_⟩
  have h1 := evalB_er L hx
  have hlen : L n u = l.length := by rw [Nat.eq_of_beq_eq_true hb.2]; exact hL n t l q hc
  simp only [BV.er, erL] at h1 ⊢
  have hcs := Le_cells hle hb.1.2
  refine OpOK.arrLe (OpOK.clearView (P := P) (rows := l.map (tcells t)) (i := i) (m := hi) ho hat (elemT_spec he) hz (pureL_of hzs hb.1.2) (by rw [pvL_length]; exact Nat.eq_of_beq_eq_true hb.1.1.2) h1 (arr_len hL hc hb.2) hih (by rw [List.length_map]; exact hil) rfl) ?_
  rw [List.map_append, List.map_append, List.map_take, List.map_drop, List.map_replicate]
  refine RowsLe.append (RowsLe.append (RowsLe.refl _) (RowsLe.nth (by simp) fun j a b ha hb => ?_)) (RowsLe.refl _)
  rw [List.getElem?_replicate] at ha hb
  split at ha
  · rename_i hj
    rw [if_pos hj] at hb
    cases ha; cases hb; exact hcs
  · simp at ha
theorem bCopy_ok {T : TypeId} {x y : Operand} (ho : o.op = .call { callee := .builtin .copy, args := #[x, y], argTypes := #[T, T] }) (h : bCopy P rd hs K T x y = some r) : Does P o rd hs K r := by
  unfold bCopy at h
  split at h
  case h_2 => simp at h
  rename_i n u i hi m v j hj e hx hy he
  split at h
  case h_2 => simp at h
  rename_i t l q es hc hz
  split at h
  case isFalse => simp at h
  rename_i hb
  simp only [Bool.and_eq_true] at hb
  have := Nat.eq_of_beq_eq_true hb.1.1.1; subst this
  have := Nat.eq_of_beq_eq_true hb.1.2; subst this
  replace h := chk_some h
  obtain ⟨e1, h⟩ := h
  subst e1
  replace h := chk_some h
  obtain ⟨e2, h⟩ := h
  subst e2
  obtain ⟨hil, h⟩ := lec_some h
  obtain ⟨hji, h⟩ := lec_some h
  have huv : v = u := by rw [Nat.eq_of_beq_eq_true hb.1.1.2, Nat.eq_of_beq_eq_true hb.2]
  subst huv
  refine ⟨_, h, .wrArrV hc (by simp; omega) fun L hL => ?_⟩
  have h1 := evalB_er L hx
  have h2 := evalB_er L hy
  have hlen : L n v = l.length := by rw [Nat.eq_of_beq_eq_true hb.2]; exact hL n t l q hc
  simp only [BV.er] at h1 h2 ⊢
  exact OpOK.copyView (rows := l.map (tcells t)) ho rfl (elemT_spec he) hz (by rw [h1, hlen]) (by rw [h2, hlen]) (arr_len hL hc hb.2) (by rw [List.length_map]; exact hil) hji (by rw [List.map_append, List.map_take, List.map_take, List.map_drop, List.length_map]) (by rw [List.length_map])
theorem isK_some {T : TypeId} (h : isK P T = true) : ∃ K E, P.underlying T = some (.map K E) ∧ P.underlying K = some .string ∧ zeroV P E = some (.bool false) := by
  unfold isK at h
  split at h
  · rename_i K E hT
    simp only [Bool.and_eq_true] at h
    obtain ⟨h1, h2⟩ := h
    split at h1
    · rename_i hK
      split at h2
      · rename_i hE; exact ⟨K, E, hT, hK, hE⟩
      · simp at h2
    · simp at h1
  · simp at h
theorem memB_look (k : ByteArray) : ∀ es : List (ByteArray × Bool), (lookS k (es.map fun p => (p.1, Value.bool p.2))).getD (.bool false) = .bool (memB k es)
  | [] => rfl
  | p :: r => by
    simp only [List.map_cons, lookS, memB]
    split
    · rfl
    · exact memB_look k r
theorem cntB_look (k : ByteArray) : ∀ es : List (ByteArray × Bool), cntB k es = 0 → lookS k (es.map fun p => (p.1, Value.bool p.2)) = none
  | [], _ => rfl
  | p :: r, h => by
    simp only [cntB] at h
    simp only [List.map_cons, lookS]
    split at h
    · omega
    · rename_i e; rw [if_neg e]; exact cntB_look k r h
theorem Inv.sm {L : Lens} {n : Name} {es : List (ByteArray × Bool)} (hL : Inv L hs) : Inv L ((n, .sm es) :: hs) := fun m t l u hm => by
  simp only [look] at hm
  split at hm
  · cases hm
  · exact hL m t l u hm
theorem bMakeMap_ok {T : TypeId} (ho : o.op = .makeMap T none) (h : bMakeMap P K o.dst T = some r) : Does P o rd hs K r := by
  unfold bMakeMap at h
  split at h
  · rename_i d hd
    split at h
    · refine ⟨_, h, fun _ _ h => by simp at h, fun L hL => ⟨L, fun _ _ _ _ => rfl, Inv.sm hL, ?_⟩⟩
      have := OpOK.makeMap (P := P) (o := o) (rd := erT L rd) (n := 1000 + d) ho
      simpa only [BV.er, erH, List.map_cons, List.map_nil, BO.er] using this
    · simp at h
  · simp at h
theorem bLookup_ok {T : TypeId} {x y : Operand} (ho : o.op = .lookup T x y false) (h : bLookup P rd hs K T x y = some r) : Does P o rd hs K r := by
  unfold bLookup at h
  split at h
  · rename_i n k hx hy
    split at h
    · rename_i es hc
      split at h
      · rename_i hk
        obtain ⟨Kt, E, h1, h2, h3⟩ := isK_some hk
        refine ⟨_, h, .val (hp1 hc) fun L hL => ?_⟩
        have k1 := evalB_er L hx
        have k2 := evalB_er L hy
        simp only [BV.er] at k1 k2 ⊢
        exact OpOK.lookup ho h1 h2 h3 k1 k2 (memB_look k es) rfl
      · simp at h
    · simp at h
  · simp at h
theorem bPutM_ok {T : TypeId} {x y z : Operand} (ho : o.op = .mapUpdate T x y z) (h : bPutM P rd hs K o.dst T x y z = some r) : Does P o rd hs K r := by
  unfold bPutM at h
  split at h
  · rename_i n k v hd hx hy hz
    split at h
    · rename_i es hc
      split at h
      · rename_i hk
        obtain ⟨Kt, E, h1, h2, h3⟩ := isK_some hk
        obtain ⟨h0, h⟩ := chk_some h
        refine ⟨_, h, hp1 hc, fun L hL => ⟨L, fun _ _ _ _ => rfl, Inv.sm hL, ?_⟩⟩
        have k1 := evalB_er L hx
        have k2 := evalB_er L hy
        have k3 := evalB_er L hz
        simp only [BV.er] at k1 k2 k3 ⊢
        have := OpOK.putS (P := P) (o := o) (rd := erT L rd) hd (.inl ho) h1 h2 k1 k2 k3 (cntB_look k es h0) (by rw [show es.map (fun p => (p.1, Value.bool p.2)) ++ [(k, Value.bool v)] = (es ++ [(k, v)]).map fun p => (p.1, Value.bool p.2) from by simp])
        simpa only [erH, List.map_cons, List.map_nil, BO.er] using this
      · simp at h
    · simp at h
  · simp at h
theorem flatB_er {x : BV} (h : flatB x = true) (L : Lens) : flatAV (x.er L) = true := by
  cases x <;> simp only [flatB, BV.er, flatAV, Bool.false_eq_true] at h ⊢
theorem bFunc_ok {fn : Fn} {first caps : Array Operand} (ho : o.op = .makeFunc fn first caps) (h : bFunc rd K fn first caps = some r) : Does P o rd hs K r := by
  unfold bFunc at h
  split at h
  · rename_i cs hf hcs
    split at h
    · rename_i hall
      refine ⟨_, h, .ev fun L _ => ?_⟩
      simp only [BV.er]
      refine OpOK.makeFunc ho (by rw [hf]; rfl) (evalBs_er L hcs) rfl ?_
      rw [erL_map, List.all_map]
      exact List.all_eq_true.2 fun c hc => flatB_er (List.all_eq_true.1 hall c hc) L
    · simp at h
  · simp at h
theorem pickC_some {c : Int} : ∀ {cs : List BV} {i : Nat} {k : Nat → BV → Option R}, pickC c cs i k = some r → ∃ j v, cs[j]? = some v ∧ c = ((i + j : Nat) : Int) ∧ k (i + j) v = some r
  | [], i, k, h => by simp [pickC] at h
  | v :: q, i, k, h => by
    simp only [pickC] at h
    rcases cnd_some h with ⟨e, h⟩ | ⟨e, h⟩
    · exact ⟨0, v, rfl, by simpa using e, h⟩
    · obtain ⟨j, v', h1, h2, h3⟩ := pickC_some h
      exact ⟨j + 1, v', by simpa using h1, by rw [h2]; congr 1; omega, by rw [show i + (j + 1) = i + 1 + j by omega]; exact h3⟩
theorem bIndexV_ok {T : TypeId} {x y : Operand} (ho : o.op = .index T x y) (h : bIndexV P rd K T x y = some r) : Does P o rd hs K r := by
  unfold bIndexV at h
  split at h
  · rename_i cs k j len e hx hy hT
    split at h
    · rename_i hb
      simp only [Bool.and_eq_true] at hb
      have := kEq_of hb.1.1; subst this
      split at h
      · rename_i hz
        obtain ⟨i, v, h1, h2, h⟩ := pickC_some h
        refine ⟨_, h, .ev fun L _ => ?_⟩
        have k1 := evalB_er L hx
        have k2 := evalB_er L hy
        simp only [BV.er, h2, Nat.zero_add] at k1 k2
        have hi := (List.getElem?_eq_some_iff.1 h1).1
        exact OpOK.indexV ho hT hz hb.1.2 k1 k2 (by rw [Nat.eq_of_beq_eq_true hb.2]; exact hi) (by rw [erL_get, h1]; rfl)
      · simp at h
    · simp at h
  · simp at h
theorem bIndexBox_ok {T : TypeId} {x y : Operand} (ho : o.op = .indexAddr T x y) (h : bIndexBox P rd hs K T x y = some r) : Does P o rd hs K r := by
  unfold bIndexBox at h
  split at h
  · rename_i n k k' j len e hx hy hT
    split at h
    · rename_i cells es hc hz
      obtain ⟨i, v, h1, h2, h⟩ := pickC_some h
      refine ⟨_, h, .val (hp1 hc) fun L _ => ?_⟩
      have k1 := evalB_er L hx
      simp only [BV.er] at k1 ⊢
      rw [Nat.zero_add] at h2
      have hi := (List.getElem?_eq_some_iff.1 h1).1
      rw [List.length_replicate] at hi
      exact OpOK.indexArr ho hT hz k1 (evalB_n L hy) h2 hi (by rw [Nat.zero_add])
    · simp at h
  · simp at h
theorem intsB_er (L : Lens) : ∀ {cs : List BV} {l : List Int}, intsB cs = some l → erL L cs = l.map fun a => .p (.v (.int .i64 a))
  | [], l, h => by simp only [intsB, Option.some.injEq] at h; subst h; simp only [erL, List.map_nil]
  | c :: r, l, h => by
    cases c with
    | n k x =>
      simp only [intsB] at h
      split at h
      · rename_i hk
        have := kEq_of hk; subst this
        split at h
        · rename_i l' hl; cases h; simp only [erL, BV.er, List.map_cons, intsB_er L hl]
        · simp at h
      · simp at h
    | _ => simp [intsB] at h
theorem bNil_ok {op : BinOp} {T T' : TypeId} {x : Operand} {v : BV} (ho : o.op = .binOp op T x (.const (.slice none 0 0)) T') (hx : evalB rd x = some v) (h : bNil P K op T v = some r) : Does P o rd hs K r := by
  unfold bNil at h
  split at h
  · rename_i q e f t l hq he
    rcases nilC_some h with ⟨_, h⟩ | ⟨hl, h⟩
    · refine ⟨_, h, .ev fun L _ => ?_⟩
      have h1 := evalB_er L hx
      simp only [BV.er] at h1 ⊢
      exact OpOK.eqNilU ho hq (elemT_spec he) h1
    · refine ⟨_, h, .ev fun L _ => ?_⟩
      have h1 := evalB_er L hx
      simp only [BV.er] at h1 ⊢
      exact OpOK.eqNilN ho hq (elemT_spec he) h1 (by simpa using hl)
  · rename_i q e hq he
    refine ⟨_, h, .ev fun L _ => ?_⟩
    have h1 := evalB_er L hx
    simp only [BV.er] at h1 ⊢
    exact OpOK.eqNilU ho hq (elemT_spec he) h1
  · simp at h
theorem bBin2_ok {op : BinOp} {T T' : TypeId} {x y : Operand} (ho : o.op = .binOp op T x y T') (h : bBin2 P rd K op T x y = some r) : Does P o rd hs K r := by
  unfold bBin2 at h
  split at h
  · rename_i a b hx hy
    unfold bCmp at h
    split at h
    · rename_i p q hp hq
      split at h
      · rename_i hb
        simp only [Bool.and_eq_true] at hb
        have k1 : ∀ L, evalO (erT L rd) x = some (.agg (p.map fun a => .p (.v (.int .i64 a)))) := fun L => by have := evalB_er L hx; rw [this]; simp only [BV.er, intsB_er L hp]
        have k2 : ∀ L, evalO (erT L rd) y = some (.agg (q.map fun a => .p (.v (.int .i64 a)))) := fun L => by have := evalB_er L hy; rw [this]; simp only [BV.er, intsB_er L hq]
        split at h
        · exact ⟨_, h, .ev fun L _ => by simp only [BV.er]; exact OpOK.eqlInts ho hb.1 hb.2 (k1 L) (k2 L) rfl⟩
        · exact ⟨_, h, .ev fun L _ => by simp only [BV.er]; exact OpOK.neqInts ho hb.1 hb.2 (k1 L) (k2 L) rfl⟩
        · simp at h
      · simp at h
    · simp at h
  · rename_i v hx hy
    split at h
    · rename_i hn
      unfold nilO at hn
      split at hn
      · exact bNil_ok ho hx h
      · simp at hn
    · simp at h
  · exact bBin_ok ho h
end
end Go.Proofs.YtfhcigjkfelnfaaGreat.AM
