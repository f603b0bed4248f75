/-
  The abstract machine, part H: literals, append, stores into arrays, calls. No project text.
-/
import Derived.Test.YtbcginibldjnaaaGreatAmG
set_option linter.unusedSimpArgs false
set_option linter.unusedVariables false
namespace Go.Proofs.YtbcginibldjnaaaGreat.AM
open Go

section
variable {ρ : Name → Loc} {H : Heap} {M : Nat → Prop} {w : World}

/-- Rows of values that read as rows of pure data. -/
def RR (ρ : Name → Loc) (H : Heap) (M : Nat → Prop) (w : World) : List (List PV) → List (List Value) → Prop
  | [], cr => cr = []
  | r :: rs, cr => ∃ c cr', cr = c :: cr' ∧ AV.Rs ρ H M w (pcells r) c ∧ RR ρ H M w rs cr'

theorem RR.length : ∀ {rows : List (List PV)} {cr : List (List Value)}, RR ρ H M w rows cr → cr.length = rows.length
  | [], cr, h => by simp only [RR] at h; simp [h]
  | r :: rs, cr, h => by simp only [RR] at h; obtain ⟨c, cr', rfl, _, h2⟩ := h; simp [h2.length]
theorem RR.get : ∀ {rows : List (List PV)} {cr : List (List Value)}, RR ρ H M w rows cr → ∀ (i : Nat) (r : List PV), rows[i]? = some r → ∃ c : List Value, cr[i]? = some c ∧ AV.Rs ρ H M w (pcells r) c
  | [], cr, h, i, r, hi => by simp at hi
  | r0 :: rs, cr, h, i, r, hi => by
    simp only [RR] at h
    obtain ⟨c, cr', rfl, h1, h2⟩ := h
    cases i with
    | zero => simp at hi; subst hi; exact ⟨c, by simp, h1⟩
    | succ i => simpa using h2.get i r (by simpa using hi)
theorem RR.set : ∀ {rows : List (List PV)} {cr : List (List Value)}, RR ρ H M w rows cr → ∀ (i : Nat) (ps : List PV) (c : List Value), AV.Rs ρ H M w (pcells ps) c → RR ρ H M w (rows.set i ps) (cr.set i c)
  | [], cr, h, i, ps, c, hc => by simp only [RR] at h; subst h; simp [RR]
  | r0 :: rs, cr, h, i, ps, c, hc => by
    simp only [RR] at h
    obtain ⟨c0, cr', rfl, h1, h2⟩ := h
    cases i with
    | zero => simp only [List.set_cons_zero, RR]; exact ⟨c, cr', rfl, hc, h2⟩
    | succ i => simp only [List.set_cons_succ, RR]; exact ⟨c0, cr'.set i c, rfl, h1, h2.set i ps c hc⟩
theorem RR.append : ∀ {rows : List (List PV)} {cr : List (List Value)}, RR ρ H M w rows cr → ∀ {rows' : List (List PV)} {cr' : List (List Value)}, RR ρ H M w rows' cr' → RR ρ H M w (rows ++ rows') (cr ++ cr')
  | [], cr, h, rows', cr', h' => by simp only [RR] at h; subst h; simpa using h'
  | r :: rs, cr, h, rows', cr', h' => by
    simp only [RR] at h
    obtain ⟨c, cr1, rfl, h1, h2⟩ := h
    simp only [List.cons_append, RR]
    exact ⟨c, cr1 ++ cr', rfl, h1, h2.append h'⟩
theorem RR.replicate {r : List PV} {c : List Value} (h : AV.Rs ρ H M w (pcells r) c) : ∀ n, RR ρ H M w (List.replicate n r) (List.replicate n c)
  | 0 => by simp [RR]
  | n + 1 => by simp only [List.replicate_succ, RR]; exact ⟨c, _, rfl, h, RR.replicate h n⟩
theorem RR.len {es : Nat} : ∀ {rows : List (List PV)} {cr : List (List Value)}, RR ρ H M w rows cr → (∀ r ∈ rows, r.length = es) → ∀ c ∈ cr, c.length = es
  | [], cr, h, _, c, hc => by simp only [RR] at h; subst h; simp at hc
  | r :: rs, cr, h, hl, c, hc => by
    simp only [RR] at h
    obtain ⟨c0, cr', rfl, h1, h2⟩ := h
    rcases List.mem_cons.1 hc with rfl | hc
    · rw [h1.length]; simp [pcells, hl r (by simp)]
    · exact h2.len (fun r hr => hl r (by simp [hr])) c hc
theorem RR.one : ∀ {rows : List (List PV)} {cr : List (List Value)}, RR ρ H M w rows cr → ∀ u ∈ cr.flatten, u.oneCell' = true
  | [], cr, h, u, hu => by simp only [RR] at h; subst h; simp at hu
  | r :: rs, cr, h, u, hu => by
    simp only [RR] at h
    obtain ⟨c0, cr', rfl, h1, h2⟩ := h
    simp only [List.flatten_cons, List.mem_append] at hu
    rcases hu with hu | hu
    · exact Rs_one h1 u hu
    · exact h2.one u hu

theorem RR.of_Rows {b es : Nat} : ∀ {off : Nat} {rows : List (List PV)}, PV.Rows M w b es off rows → ∃ cr : List (List Value), RR ρ H M w rows cr ∧ (∀ r ∈ rows, r.length = es) ∧ ∀ j u, cr.flatten[j]? = some u → w.cell? ⟨b, off + j, none⟩ = some u
  | off, [], h => ⟨[], by simp [RR], by simp, by simp⟩
  | off, r :: rs, h => by
    simp only [PV.Rows] at h
    obtain ⟨h1, h2, h3⟩ := h
    obtain ⟨c, g1, g2⟩ := Rs_of_Cells (ρ := ρ) (H := H) h2
    obtain ⟨cr, k1, k2, k3⟩ := RR.of_Rows h3
    have hcl : c.length = es := by rw [g1.length]; simp [pcells, h1]
    refine ⟨c :: cr, by simp only [RR]; exact ⟨c, cr, rfl, g1, k1⟩, fun r' hr' => ?_, fun j u hj => ?_⟩
    · rcases List.mem_cons.1 hr' with rfl | hr'
      · exact h1
      · exact k2 r' hr'
    · simp only [List.flatten_cons, List.getElem?_append] at hj
      split at hj
      · exact g2 j u hj
      · have := k3 (j - c.length) u hj
        rwa [hcl, show off + es + (j - es) = off + j by omega] at this
/-- Rows that lie in a block. -/
theorem Rows_of_RR {b es : Nat} {rows : List (List PV)} {cr : List (List Value)} (h : RR ρ H M w rows cr) (hl : ∀ r ∈ rows, r.length = es) (hc : ∀ j u, cr.flatten[j]? = some u → w.cell? ⟨b, j, none⟩ = some u) : PV.Rows M w b es 0 rows := by
  refine PV.Rows.of_get fun i r hi => ?_
  obtain ⟨c, h1, h2⟩ := h.get i r hi
  have hrl := hl r (List.mem_of_getElem? hi)
  refine ⟨hrl, Cells_of_Rs h2 fun j u hj => ?_⟩
  have hcl : c.length = es := by rw [h2.length]; simp [pcells, hrl]
  have hj' : j < es := by
    rcases Nat.lt_or_ge j c.length with h' | h'
    · omega
    · rw [List.getElem?_eq_none h'] at hj; simp at hj
  have := flat_get (h.len hl) h1 hj'
  rw [hj] at this
  simpa using hc _ _ this
theorem RR.step {ρ' : Name → Loc} {H' : Heap} {M' B : Nat → Prop} {w' : World} (he : Ext B w w') (hB : ∀ b, B b → M b) (hM : ∀ b, b < w.heap.size → M' b → M b) :
    ∀ {rows : List (List PV)} {cr : List (List Value)}, RR ρ H M w rows cr → RR ρ' H' M' w' rows cr
  | [], cr, h => by simpa only [RR] using h
  | r :: rs, cr, h => by
    simp only [RR] at h ⊢
    obtain ⟨c, cr', h0, h1, h2⟩ := h
    refine ⟨c, cr', h0, ?_, RR.step he hB hM h2⟩
    refine AV.Rs.of_get h1.length fun j x u hx hu => ?_
    obtain ⟨u', k1, k2, k3⟩ := h1.get j x hx
    rw [hu] at k1; cases k1
    refine ⟨k2, ?_⟩
    simp only [pcells, List.getElem?_map] at hx
    cases hr : r[j]? with
    | none => simp [hr] at hx
    | some y =>
      simp [hr] at hx
      subst hx
      simp only [AV.R] at k3 ⊢
      exact k3.mono he hB hM
end

section
variable {P : Program} {o : Oper} {rd : List (Nat × AV)}

def bytesT (P : Program) (T : TypeId) : Option Nat := (P.info? T).map (·.bytes)

/-- An element type: its size, its bytes, and that it has a zero of as many cells. -/
def elemOK (P : Program) (e : TypeId) (es bytes : Nat) : Bool := match P.info? e with
  | some i => Nat.beq i.size es && Nat.beq i.bytes bytes && (match i.zero with | some z => Nat.beq z.cells.size es | none => false)
  | none => false
theorem elemOK_spec {e : TypeId} {es bytes : Nat} (h : elemOK P e es bytes = true) : ∃ i z, P.info? e = some i ∧ i.zero = some z ∧ i.size = es ∧ i.bytes = bytes ∧ z.cells.size = es := by
  unfold elemOK at h
  split at h
  · rename_i i hi
    simp only [Bool.and_eq_true] at h
    obtain ⟨⟨h1, h2⟩, h3⟩ := h
    split at h3
    · rename_i z hz
      exact ⟨i, z, hi, hz, Nat.eq_of_beq_eq_true h1, Nat.eq_of_beq_eq_true h2, Nat.eq_of_beq_eq_true h3⟩
    · simp at h3
  · simp at h

theorem fill_rows {Γ : Ctx} {ρ : Name → Loc} {M : Nat → Prop} {s : AS} {a : Act} {w : World} {e : Eff} (hs : Sim Γ ρ M s a w) (hh : s.holds e) {es : Nat} :
    ∀ (parts : List (Nat × Operand)) (rows rows' : List (List PV)) (cr : List (List Value)) (cells : Array Value), RR ρ s.heap M w rows cr → (∀ r ∈ rows, r.length = es) → cells.toList = cr.flatten → putRows e.rd es parts rows = some rows' →
    ∃ cr' cells', Instr.fill (fun i => some (i * es, es)) cells (parts.map fun p => (p.1, a.eval p.2)) = some cells' ∧ RR ρ s.heap M w rows' cr' ∧ (∀ r ∈ rows', r.length = es) ∧ cells'.toList = cr'.flatten ∧ rows'.length = rows.length
  | [], rows, rows', cr, cells, h1, h2, h3, h4 => by
    simp only [putRows, Option.some.injEq] at h4; subst h4
    exact ⟨cr, cells, rfl, h1, h2, h3, rfl⟩
  | (i, x) :: r, rows, rows', cr, cells, h1, h2, h3, h4 => by
    simp only [putRows] at h4
    split at h4
    · rename_i y hy
      split at h4
      · rename_i cs hcs
        split at h4
        · rename_i ps hps
          split at h4
          · rename_i hck
            simp only [Bool.and_eq_true] at hck
            have hpl := Nat.eq_of_beq_eq_true hck.1
            have hil : i < rows.length := Nat.le_of_ble_eq_true hck.2
            have hR := cellsAV_R hcs (evalO_R hs hh hy)
            rw [pureL_spec hps] at hR
            have hus : (a.eval x).cells.size = es := by have := hR.length; simp [pcells] at this; rw [this, hpl]
            have hcl := h1.len h2
            have hlen := h1.length
            have hsz : cells.size = cr.length * es := by rw [← flat_len hcl, ← h3]; simp
            have hle : i * es + es ≤ cr.length * es := by rw [← Nat.succ_mul]; exact Nat.mul_le_mul_right es (by omega)
            have hA : ∀ r' ∈ rows.set i ps, r'.length = es := fun r' hr' => by
              rcases List.mem_or_eq_of_mem_set hr' with h | h
              · exact h2 r' h
              · rw [h]; exact hpl
            have hB : ((a.eval x).cells.zipIdx.foldl (fun cs (c, j) => cs.setIfInBounds (i * es + j) c) cells).toList = (cr.set i (a.eval x).cells.toList).flatten := by
              have := fold_set (i * es) (a.eval x).cells.toList 0 cells (by simp [hus]; omega)
              simp only [Nat.add_zero] at this
              rw [← flat_set hcl (by simp [hus]) (by omega), ← h3, ← this, ← Array.foldl_toList]
              simp [Array.toList_zipIdx]
            obtain ⟨cr', cells', g1, g2, g3, g4, g5⟩ := fill_rows hs hh r (rows.set i ps) rows' (cr.set i (a.eval x).cells.toList) _ (h1.set i ps _ hR) hA hB h4
            refine ⟨cr', cells', ?_, g2, g3, g4, by simpa using g5⟩
            simp only [List.map_cons, Instr.fill, hus]
            rw [if_neg (by simp; omega)]
            exact g1
          · simp at h4
        · simp at h4
      · simp at h4
    · simp at h4

theorem zero_rows (z : List Value) (n es : Nat) (hz : z.length = es) (hes : 1 ≤ es) : ((Array.range (n * es)).map (fun i => z.toArray[i % z.toArray.size]!)).toList = (List.replicate n z).flatten := by
  apply List.ext_getElem?
  intro j
  have hl : (List.replicate n z).flatten.length = n * es := by simp [hz]
  by_cases hj : j < n * es
  · have hdiv : j / es < n := (Nat.div_lt_iff_lt_mul (by omega)).2 hj
    have hmod : j % es < es := Nat.mod_lt _ (by omega)
    have h1 := flat_get (rows := List.replicate n z) (es := es) (fun r hr => by rw [List.eq_of_mem_replicate hr]; exact hz) (i := j / es) (r := z) (by simp [hdiv]) hmod
    rw [show j / es * es + j % es = j by rw [Nat.mul_comm]; exact Nat.div_add_mod j es] at h1
    rw [h1]
    simp [hj, hz, hmod]
  · rw [List.getElem?_eq_none (by simp; omega), List.getElem?_eq_none (by omega)]

/-- The zero row. -/
def zeroRow (P : Program) (e : TypeId) : Option (List PV) := match zeroAV P e with
  | some cs => pureL cs
  | none => none

theorem OpOK.buildSlice {T e : TypeId} {len es : Nat} {parts : Array (Nat × Operand)} {zr : List PV} {rows : List (List PV)} (ho : o.op = .buildSlice T len parts) (hT : elemT P T = some e) (hz : sizeT P e = some es) (hes : Nat.ble 1 es = true)
    (hzr : zeroRow P e = some zr) (hzl : zr.length = es) (hsz : Nat.ble (len * es) 16777216 = true) (hrows : putRows rd es parts.toList (List.replicate len zr) = some rows) : OpOK P o ⟨rd, [], .p (.sl true es rows), [], []⟩ := by
  intro Γ ρ M s a w K Q hs hh hd hK
  unfold zeroRow at hzr
  split at hzr
  · rename_i cs hcs
    obtain ⟨i, z, hi, hz', hall, rfl⟩ := zeroAV_spec hcs
    have hzR : AV.Rs ρ s.heap M w (pcells zr) z.cells.toList := by
      rw [← pureL_spec hzr]; exact constCells_R hall
    have hzlen : z.cells.toList.length = es := by have := hzR.length; rw [this]; simp [pcells, hzl]
    have hes' := Nat.le_of_ble_eq_true hes
    have h0 := zero_rows z.cells.toList len es hzlen hes'
    obtain ⟨cr, cells, g1, g2, g3, g4, g5⟩ := fill_rows hs hh parts.toList (List.replicate len zr) rows (List.replicate len z.cells.toList) ((Array.range (len * es)).map (fun i => z.cells[i % z.cells.size]!))
      (RR.replicate hzR len) (fun r hr => by rw [List.eq_of_mem_replicate hr]; exact hzl) (by simpa using h0) hrows
    have hlen : rows.length = len := by simpa using g5
    have hrun : (execOp a.eval o).run P w = .ok (.value (.slice (some ⟨w.heap.size, 0, none⟩) len len)) (w.alloc (.cells cells e)) := by
      have h2 : ¬ (len * es > 16777216) := by have := Nat.le_of_ble_eq_true hsz; omega
      have hparts : ((parts.map fun (i, x) => (i, a.eval x)) : Array (Nat × Value)).toList = parts.toList.map fun p => (p.1, a.eval p.2) := by simp
      simp only [execOp, ho, Instr.buildSlice, Sem.run_bind, run_underlying (elemT_spec hT), Result.andThen_ok, run_sizeOf hz, h2, if_false]
      simp only [hparts]
      by_cases h5 : len * es = 0
      · have g1' := g1
        rw [h5] at g1'
        simp only [Array.range_zero', Array.map_empty] at g1'
        simp [h5, g1', newRow, Array.range_zero']
      · simp only [h5, if_false, Sem.run_bind, run_zeroValue hi hz', Result.andThen_ok, Sem.run_pure, g1]
        simp [h2, newRow, g1, run_zeroValue hi hz']
    unfold Oper.wp
    rw [hrun, Oper.upon_value]
    have hs' := hs.world (Ext.alloc w (.cells cells e))
    refine hK ρ M _ _ ((hs'.put hd (fun _ => ?_)).congr (fun t => rfl) (fun n => rfl))
    simp only [AV.R, PV.R]
    refine ⟨some ⟨w.heap.size, 0, none⟩, len, by rw [hlen], by omega, fun _ => hlen.symm, by simp, fun ad had _ => ?_⟩
    cases had
    refine ⟨rfl, fun hm => absurd (hs.msize _ hm) (Nat.lt_irrefl _), by simp, ?_⟩
    have g2' := g2.step (ρ' := ρ) (H' := s.heap) (M' := M) (B := fun _ => False) (Ext.alloc w (.cells cells e)) (fun _ hb => hb.elim) (fun b _ hb => hb)
    refine Rows_of_RR g2' g3 fun j u hj => ?_
    rw [← g4] at hj
    simp only [World.cell?, heap_alloc_new]
    simpa using hj
  · simp at hzr

/-! ### Structs -/
def placesL (P : Program) : List Field → Option (List (Nat × Nat))
  | [] => some []
  | f :: r => match sizeT P f.type, placesL P r with
    | some z, some ps => some ((f.offset, z) :: ps)
    | _, _ => none
theorem run_places {w : World} : ∀ {fs : List Field} {ps : List (Nat × Nat)}, placesL P fs = some ps → (fs.mapM (fun f => do pure (f.offset, ← sizeOf f.type)) : Sem (List (Nat × Nat))).run P w = .ok ps w
  | [], ps, h => by simp only [placesL, Option.some.injEq] at h; subst h; simp
  | f :: r, ps, h => by
    simp only [placesL] at h
    split at h
    · rename_i z ps' h1 h2
      cases h
      have ih := run_places (w := w) h2
      rw [List.mapM_cons]
      simp only [Sem.run_bind, run_sizeOf h1, Result.andThen_ok, Sem.run_pure, ih]
    · simp at h

def putCells (rd : List (Nat × AV)) (places : List (Nat × Nat)) : List (Nat × Operand) → List AV → Option (List AV)
  | [], cells => some cells
  | (i, x) :: r, cells => match places[i]?, evalO rd x with
    | some (off, size), some y => match cellsAV y with
      | some cs => if Nat.beq cs.length size && Nat.ble (off + size) cells.length then putCells rd places r (setAt cells off cs) else none
      | none => none
    | _, _ => none

theorem fill_cells {Γ : Ctx} {ρ : Name → Loc} {M : Nat → Prop} {s : AS} {a : Act} {w : World} {e : Eff} (hs : Sim Γ ρ M s a w) (hh : s.holds e) {places : List (Nat × Nat)} :
    ∀ (parts : List (Nat × Operand)) (cells cells' : List AV) (us : Array Value), AV.Rs ρ s.heap M w cells us.toList → putCells e.rd places parts cells = some cells' →
    ∃ us', Instr.fill (fun i => places[i]?) us (parts.map fun p => (p.1, a.eval p.2)) = some us' ∧ AV.Rs ρ s.heap M w cells' us'.toList
  | [], cells, cells', us, h1, h4 => by
    simp only [putCells, Option.some.injEq] at h4; subst h4
    exact ⟨us, rfl, h1⟩
  | (i, x) :: r, cells, cells', us, h1, h4 => by
    simp only [putCells] at h4
    split at h4
    · rename_i off size y hpl hy
      split at h4
      · rename_i cs hcs
        split at h4
        · rename_i hck
          simp only [Bool.and_eq_true] at hck
          have hpl' := Nat.eq_of_beq_eq_true hck.1
          have hle := Nat.le_of_ble_eq_true hck.2
          have hR := cellsAV_R hcs (evalO_R hs hh hy)
          have hus : (a.eval x).cells.size = size := by have := hR.length; simp at this; rw [this, hpl']
          have hlen : us.size = cells.length := by have := h1.length; simpa using this
          have hB : AV.Rs ρ s.heap M w (setAt cells off cs) ((a.eval x).cells.zipIdx.foldl (fun cs (c, j) => cs.setIfInBounds (off + j) c) us).toList := by
            have := fold_set off (a.eval x).cells.toList 0 us (by simp [hus]; omega)
            simp only [Nat.add_zero] at this
            have e1 : ((a.eval x).cells.zipIdx.foldl (fun cs (c, j) => cs.setIfInBounds (off + j) c) us).toList = setAt us.toList off (a.eval x).cells.toList := by
              rw [← this, ← Array.foldl_toList]; simp [Array.toList_zipIdx]
            rw [e1]
            unfold setAt
            rw [show (a.eval x).cells.toList.length = cs.length by simp [hus, hpl']]
            exact ((h1.take off).append hR).append (h1.drop _)
          obtain ⟨us', g1, g2⟩ := fill_cells hs hh r (setAt cells off cs) cells' _ hB h4
          refine ⟨us', ?_, g2⟩
          simp only [List.map_cons, Instr.fill, hpl, hus]
          rw [if_neg (by simp; omega)]
          exact g1
        · simp at h4
      · simp at h4
    · simp at h4

def structT (P : Program) (T : TypeId) : Option (List (Nat × Nat)) := match P.underlying T with
  | some (.struct fields) => placesL P fields.toList
  | _ => none

theorem OpOK.build {T : TypeId} {parts : Array (Nat × Operand)} {zs cells : List AV} {pl : List (Nat × Nat)} (ho : o.op = .build T parts) (hT : structT P T = some pl) (hz : zeroAV P T = some zs) (hc : putCells rd pl parts.toList zs = some cells) :
    OpOK P o ⟨rd, [], .agg cells, [], []⟩ :=
  OpOK.quiet fun Γ ρ M s a w hs hh => by
    obtain ⟨i, z, hi, hz', hall, rfl⟩ := zeroAV_spec hz
    obtain ⟨us, g1, g2⟩ := fill_cells hs hh parts.toList _ cells z.cells (constCells_R hall) hc
    refine ⟨.agg us, ?_, by simp only [AV.R]; exact ⟨us, rfl, g2⟩⟩
    unfold structT at hT
    cases hu : P.underlying T with
    | none => simp [hu] at hT
    | some d =>
      cases d with
      | struct fields =>
        simp only [hu] at hT
        have hpl := run_places (P := P) (w := w) hT
        have hparts : ((parts.map fun (i, x) => (i, a.eval x)) : Array (Nat × Value)).toList = parts.toList.map fun p => (p.1, a.eval p.2) := by simp
        simp only [execOp, ho, Instr.build, Sem.run_bind, run_zeroValue hi hz', Result.andThen_ok, run_underlying hu]
        rw [Array.mapM_eq_mapM_toList]
        simp only [Sem.run_bind, Sem.run_map, hpl, Result.andThen_ok, hparts, List.getElem?_toArray, g1]
        simp
      | _ => simp [hu] at hT

theorem OpOK.fieldAgg {T : TypeId} {x : Operand} {i off z : Nat} {cells sub : List AV} {T' : TypeId} (ho : o.op = .field T x i) (hx : evalO rd x = some (.agg cells)) {fs : Array Field} {f : Field} (hu : P.underlying T = some (.struct fs)) (hf : fs[i]? = some f) (ht : aggT P f.type = true)
    (hz : sizeT P f.type = some z) (hsub : (cells.drop f.offset).take z = sub) : OpOK P o ⟨rd, [], .agg sub, [], []⟩ :=
  OpOK.quiet fun Γ ρ M s a w hs hh => by
    have hr := evalO_R hs hh hx
    simp only [AV.R] at hr
    obtain ⟨us, hus, h2⟩ := hr
    refine ⟨.agg (us.extract f.offset (f.offset + z)), ?_, ?_⟩
    · simp [execOp, ho, Instr.field, run_underlying hu, hf, hus, asAgg, part, run_isAgg_true ht, run_sizeOf hz]
    · simp only [AV.R]
      refine ⟨_, rfl, ?_⟩
      have := (h2.drop f.offset).take z
      rw [hsub] at this
      simpa [Array.toList_extract, List.extract_eq_take_drop] using this
theorem OpOK.field {T : TypeId} {x : Operand} {i : Nat} {cells : List AV} {c : AV} (ho : o.op = .field T x i) (hx : evalO rd x = some (.agg cells)) {fs : Array Field} {f : Field} (hu : P.underlying T = some (.struct fs)) (hf : fs[i]? = some f) (ht : flatT P f.type = true)
    (hc : cells[f.offset]? = some c) : OpOK P o ⟨rd, [], c, [], []⟩ :=
  OpOK.quiet fun Γ ρ M s a w hs hh => by
    have hr := evalO_R hs hh hx
    simp only [AV.R] at hr
    obtain ⟨us, hus, h2⟩ := hr
    obtain ⟨u, k1, k2, k3⟩ := h2.get f.offset c hc
    refine ⟨u, ?_, k3⟩
    have : us[f.offset]? = some u := by simpa using k1
    simp [execOp, ho, Instr.field, run_underlying hu, hf, hus, asAgg, part, run_isAgg_false ht, this]

end
end Go.Proofs.YtbcginibldjnaaaGreat.AM
