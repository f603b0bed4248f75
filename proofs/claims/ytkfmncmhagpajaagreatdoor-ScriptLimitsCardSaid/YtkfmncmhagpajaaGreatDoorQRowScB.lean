/-
  The abstract machine, part N: a literal that is an array of ours; nothing as an array of ours. No project text.
-/
import Derived.Test.YtkfmncmhagpajaaGreatDoorQRowScA
import Derived.Laws.StructEq
import Derived.Maps.RangeRun
import Derived.Laws.BytesString
import Derived.Laws.Slices
set_option linter.unusedSimpArgs false
set_option linter.unusedVariables false
namespace Go.Proofs.YtkfmncmhagpajaaGreatDoor.AM
open Go
section
variable {P : Program} {o : Oper} {rd : List (Nat × AV)}
theorem OpOK.buildOwn {T e : TypeId} {len es r : Nat} {parts : Array (Nat × Operand)} {zr : List PV} {rows : List (List PV)} {n : Name} (ho : o.op = .buildSlice T len parts) (hT : elemT P T = some e) (hz : sizeT P e = some es) (hes : Nat.ble 1 es = true)
    (hzr : zeroRow P e = some zr) (hzl : zr.length = es) (hsz : Nat.ble (len * es) 16777216 = true) (hrows : putRows rd es parts.toList (List.replicate len zr) = some rows) (hr : rows.length = r) :
    OpOK P o ⟨rd, [], .own n r, [(n, .arr es rows)], [n]⟩ :=
  OpOK.put fun Γ ρ M s a w hs hh => by
    subst hr
    obtain ⟨hn, hfree⟩ := hh.nw n (by simp)
    unfold zeroRow at hzr
    split at hzr
    · rename_i cs hcs
      obtain ⟨i, z, hi, hz', hall, rfl⟩ := zeroAV_spec hcs
      have hzR : AV.Rs ρ s.heap M w (pcells zr) z.cells.toList := by
        rw [← pureL_spec hzr]; exact constCells_R hall
      have hzlen : z.cells.toList.length = es := by have := hzR.length; rw [this]; simp [pcells, hzl]
      have hes' := Nat.le_of_ble_eq_true hes
      have h0 := zero_rows z.cells.toList len es hzlen hes'
      obtain ⟨cr, cells, g1, g2, g3, g4, g5⟩ := fill_rows hs hh parts.toList (List.replicate len zr) rows (List.replicate len z.cells.toList) ((Array.range (len * es)).map (fun i => z.cells[i % z.cells.size]!))
        (RR.replicate hzR len) (fun r hr => by rw [List.eq_of_mem_replicate hr]; exact hzl) (by simpa using h0) hrows
      have hlen : rows.length = len := by simpa using g5
      have hrun : (execOp a.eval o).run P w = .ok (.value (.slice (some ⟨w.heap.size, 0, none⟩) len len)) (w.alloc (.cells cells e)) := by
        have h2 : ¬ (len * es > 16777216) := by have := Nat.le_of_ble_eq_true hsz; omega
        have hparts : ((parts.map fun (i, x) => (i, a.eval x)) : Array (Nat × Value)).toList = parts.toList.map fun p => (p.1, a.eval p.2) := by simp
        simp only [execOp, ho, Instr.buildSlice, Sem.run_bind, run_underlying (elemT_spec hT), Result.andThen_ok, run_sizeOf hz, h2, if_false]
        simp only [hparts]
        by_cases h5 : len * es = 0
        · have g1' := g1
          rw [h5] at g1'
          simp only [Array.range_zero', Array.map_empty] at g1'
          simp [h5, g1', newRow, Array.range_zero']
        · simp only [h5, if_false, Sem.run_bind, run_zeroValue hi hz', Result.andThen_ok, Sem.run_pure, g1]
          simp [h2, newRow, g1, run_zeroValue hi hz']
      have he := Ext.alloc w (.cells cells e)
      refine ⟨_, _, (fun m => if m = n then ⟨some ⟨w.heap.size, 0, none⟩, len⟩ else ρ m), (fun b => M b ∨ b = w.heap.size), hrun, hs.update1 (he.weaken fun _ _ hb => hb.elim) (fun b hb => .inl hb) (fun b hb => hb.imp id (fun e => by omega)) (fun b hb => ?_) (fun o' ho' => by rw [hn] at ho'; simp at ho') (fun _ => hfree) ?_ (fun b hb => .inr ?_), ?_⟩
      · rcases hb with hb | hb
        · have := hs.msize b hb; simp; omega
        · simp [hb]
      · refine ⟨hes', by simp [hlen], .inr ⟨w.heap.size, e, cells, by simp, .inr rfl, heap_alloc_new w _, ?_, ?_⟩⟩
        · simp only [if_true]
          have : cells.size = cells.toList.length := by simp
          rw [this, g4, flat_len (g2.len g3), g2.length, hlen]; exact Nat.le_refl _
        · have g2' := g2.step (ρ' := ρ) (H' := s.heap) (M' := fun b => M b ∨ b = w.heap.size) (B := fun _ => False) he (fun _ hb => hb.elim) (fun b hb hb' => hb'.resolve_right (by omega))
          refine Rows_of_RR g2' g3 fun j u hj => ?_
          rw [← g4] at hj
          simp only [World.cell?, heap_alloc_new]
          simpa using hj
      · simp [Loc.blk] at hb; omega
      · simp only [AV.R]
        refine ⟨rfl, fun o' es' k' hc hs' => ?_⟩
        simp only [if_true] at hc
        cases hc
        cases hs'
        simp_all
    · simp at hzr
theorem OpOK.makeOwn {T e : TypeId} {x y : Operand} {es b k r : Nat} {j : Int} {zr : List PV} {rows : List (List PV)} {n : Name} (ho : o.op = .makeSlice T x y) (hT : elemT P T = some e) (hz : sizeT P e = some es) (hb : bytesT P e = some b) (hes : Nat.ble 1 es = true)
    (hzr : zeroRow P e = some zr) (hzl : zr.length = es) (hx : evalO rd x = some (.p (.v (.int .i64 j)))) (hy : evalO rd y = some (.p (.v (.int .i64 j)))) (hj : j = (k : Int)) (hk : k ≤ 1048576) (hbl : Nat.ble b 4096 = true) (hrows : rows = List.replicate k zr) (hr : k = r) :
    OpOK P o ⟨rd, [], .own n r, [(n, .arr es rows)], [n]⟩ :=
  OpOK.put fun Γ ρ M s a w hs hh => by
    subst hr hrows hj
    obtain ⟨hn, hfree⟩ := hh.nw n (by simp)
    unfold zeroRow at hzr
    split at hzr
    · rename_i cs hcs
      obtain ⟨i, z, hi, hz', hall, rfl⟩ := zeroAV_spec hcs
      have hzR : AV.Rs ρ s.heap M w (pcells zr) z.cells.toList := by
        rw [← pureL_spec hzr]; exact constCells_R hall
      have hzlen : z.cells.toList.length = es := by have := hzR.length; rw [this]; simp [pcells, hzl]
      have hes' := Nat.le_of_ble_eq_true hes
      have h0 := zero_rows z.cells.toList k es hzlen hes'
      have hsz : i.size = es := by simp only [sizeT, hi, Option.map_some, Option.some.injEq] at hz; exact hz
      have hby : i.bytes = b := by simp only [bytesT, hi, Option.map_some, Option.some.injEq] at hb; exact hb
      have hb' := Nat.le_of_ble_eq_true hbl
      have ex := evalO_R hs hh hx
      have ey := evalO_R hs hh hy
      simp only [AV.R, PV.R] at ex ey
      have g4 : (madeCells z.cells (k * i.size)).toList = (List.replicate k z.cells.toList).flatten := by
        rw [← h0, hsz]; simp [madeCells]
      have hmul : i.bytes * k ≤ 4096 * 1048576 := by rw [hby]; exact Nat.mul_le_mul hb' hk
      have hrun : (execOp a.eval o).run P w = .ok (.value (.slice (some ⟨w.heap.size, 0, none⟩) k k)) (w.alloc (.cells (madeCells z.cells (k * i.size)) e)) := by
        have hm2 : (i.bytes : Int) * (k : Int) ≤ 281474976710656 := by rw [← Int.natCast_mul]; omega
        have := run_make (P := P) w T e i z (elemT_spec hT) hi hz' .i64 .i64 (k : Int) (k : Int) (by omega) (by omega) hm2 (by omega)
        simp only [Int.toNat_natCast] at this
        simp only [execOp, ho, ex.1, ey.1, Sem.run_bind, this, Result.andThen_ok, Sem.run_pure]
      have hR : RR ρ s.heap M w (List.replicate k zr) (List.replicate k z.cells.toList) := RR.replicate hzR k
      have g3 : ∀ r ∈ List.replicate k zr, r.length = es := fun r hr => by rw [List.eq_of_mem_replicate hr]; exact hzl
      have he := Ext.alloc w (.cells (madeCells z.cells (k * i.size)) e)
      refine ⟨_, _, (fun m => if m = n then ⟨some ⟨w.heap.size, 0, none⟩, k⟩ else ρ m), (fun b => M b ∨ b = w.heap.size), hrun, hs.update1 (he.weaken fun _ _ hb => hb.elim) (fun b hb => .inl hb) (fun b hb => hb.imp id (fun e => by omega)) (fun b hb => ?_) (fun o' ho' => by rw [hn] at ho'; simp at ho') (fun _ => hfree) ?_ (fun b hb => .inr ?_), ?_⟩
      · rcases hb with hb | hb
        · have := hs.msize b hb; simp; omega
        · simp [hb]
      · refine ⟨hes', by simp, .inr ⟨w.heap.size, e, madeCells z.cells (k * i.size), by simp, .inr rfl, heap_alloc_new w _, ?_, ?_⟩⟩
        · simp only [if_true]
          have : (madeCells z.cells (k * i.size)).size = (madeCells z.cells (k * i.size)).toList.length := by simp
          rw [this, g4, flat_len (hR.len g3), hR.length]; simp
        · have g2' := hR.step (ρ' := ρ) (H' := s.heap) (M' := fun b => M b ∨ b = w.heap.size) (B := fun _ => False) he (fun _ hb => hb.elim) (fun b hb hb' => hb'.resolve_right (by omega))
          refine Rows_of_RR g2' g3 fun j u hj => ?_
          rw [← g4] at hj
          simp only [World.cell?, heap_alloc_new]
          simpa using hj
      · simp [Loc.blk] at hb; omega
      · simp only [AV.R]
        refine ⟨rfl, fun o' es' k' hc hs' => ?_⟩
        simp only [if_true] at hc
        cases hc
        cases hs'
        simp_all
    · simp at hzr
end
theorem Weak.thaw {Γ : Ctx} {ts ts' : List (Nat × AV)} {hs : List (Name × AO)} {t es0 es : Nat} {n : Name} (hes : Nat.ble 1 es = true) (h1 : look t ts = some (.p (.sl true es0 []))) (h2 : (look n hs).isNone = true) (h3 : freeIn n ts hs = true)
    (h4 : ts'.map (fun p => look p.1 ((t, .own n 0) :: ts)) = ts'.map (fun p => some p.2)) : Weak Γ (mk ts hs) (mk ts' ((n, .arr es []) :: hs)) := fun ρ M a w hsim => by
  have hn : (mk ts hs).heap n = none := Option.isNone_iff_eq_none.1 h2
  have hf := free_of h3
  obtain ⟨u, hu, hr⟩ := hsim.slots t _ h1
  simp only [AV.R, PV.R] at hr
  obtain ⟨ad, cap, hu', _, hcap, _, _⟩ := hr
  have hc := hcap trivial
  simp only [List.length_nil] at hc hu'
  subst hc
  have hs1 := hsim.update1 (n := n) (l := ⟨ad, 0⟩) (o := .arr es []) (M' := M) (w' := w) (Ext.refl _ _) (fun _ hb => hb) (fun _ hb => .inl hb) hsim.msize (fun o' ho' => by rw [hn] at ho'; simp at ho') (fun _ => hf)
    ⟨Nat.le_of_ble_eq_true hes, by simp, .inl (by simp)⟩ (fun b hb => by simp [Loc.blk] at hb)
  have hHeap : (mk ts' ((n, .arr es []) :: hs)).heap = fun m => if m = n then some (.arr es []) else (mk ts hs).heap m := by
    funext m; simp only [mk, look]; by_cases e : n = m
    · subst e; simp
    · simp [e, Ne.symm e]
  have hs2 : Sim Γ (fun m => if m = n then ⟨ad, 0⟩ else ρ m) M ⟨(mk ts hs).slot, (mk ts' ((n, .arr es []) :: hs)).heap⟩ a w := by rw [hHeap]; exact hs1
  refine ⟨(fun m => if m = n then ⟨ad, 0⟩ else ρ m), M, hs2.n, hs2.d, fun k x hk => ?_, hs2.objs, hs2.inj, hs2.own0, hs2.keep, hs2.ext, hs2.mext, hs2.msize, hs2.m0, hs2.ground⟩
  have := map_eq_all h4 _ (look_mem hk)
  simp only [look] at this
  split at this
  · rename_i e
    cases this
    subst e
    refine ⟨u, hu, ?_⟩
    rw [hHeap]
    simp only [AV.R]
    refine ⟨by rw [hu']; rfl, fun o' es' k' hc hs' => ?_⟩
    grind
  · exact hs2.slots k x this
theorem Rs_set {ρ : Name → Loc} {H : Heap} {M : Nat → Prop} {w : World} : ∀ {xs : List AV} {us : List Value} (j : Nat) (y : AV), AV.Rs ρ H M w xs us → (∀ u, us[j]? = some u → y.R ρ H M w u) → AV.Rs ρ H M w (xs.set j y) us
  | [], us, j, y, h, _ => by simpa using h
  | x :: xs, us, j, y, h, hy => by
    simp only [AV.Rs] at h
    obtain ⟨u, us', rfl, h2, h3, h4⟩ := h
    cases j with
    | zero => simp only [List.set_cons_zero, AV.Rs]; exact ⟨u, us', rfl, h2, hy u (by simp), h4⟩
    | succ j => simp only [List.set_cons_succ, AV.Rs]; exact ⟨u, us', rfl, h2, h3, Rs_set j y h4 (fun v hv => hy v (by simpa using hv))⟩
theorem Weak.thawA {Γ : Ctx} {ts ts' : List (Nat × AV)} {hs : List (Name × AO)} {t j es0 es : Nat} {n : Name} {cells : List AV} (hes : Nat.ble 1 es = true) (h0 : look t ts = some (.agg cells)) (h1 : cells[j]? = some (.p (.sl true es0 []))) (h2 : (look n hs).isNone = true) (h3 : freeIn n ts hs = true)
    (h4 : ts'.map (fun p => look p.1 ((t, .agg (cells.set j (.own n 0))) :: ts)) = ts'.map (fun p => some p.2)) : Weak Γ (mk ts hs) (mk ts' ((n, .arr es []) :: hs)) := fun ρ M a w hsim => by
  have hn : (mk ts hs).heap n = none := Option.isNone_iff_eq_none.1 h2
  have hf := free_of h3
  obtain ⟨u, hu, hr⟩ := hsim.slots t _ h0
  simp only [AV.R] at hr
  obtain ⟨us, rfl, hrs⟩ := hr
  obtain ⟨v, hv, _, hvr⟩ := hrs.get j _ h1
  simp only [AV.R, PV.R] at hvr
  obtain ⟨ad, cap, hu', _, hcap, _, _⟩ := hvr
  have hc := hcap trivial
  simp only [List.length_nil] at hc hu'
  subst hc
  have hs1 := hsim.update1 (n := n) (l := ⟨ad, 0⟩) (o := .arr es []) (M' := M) (w' := w) (Ext.refl _ _) (fun _ hb => hb) (fun _ hb => .inl hb) hsim.msize (fun o' ho' => by rw [hn] at ho'; simp at ho') (fun _ => hf)
    ⟨Nat.le_of_ble_eq_true hes, by simp, .inl (by simp)⟩ (fun b hb => by simp [Loc.blk] at hb)
  have hHeap : (mk ts' ((n, .arr es []) :: hs)).heap = fun m => if m = n then some (.arr es []) else (mk ts hs).heap m := by
    funext m; simp only [mk, look]; by_cases e : n = m
    · subst e; simp
    · simp [e, Ne.symm e]
  have hs2 : Sim Γ (fun m => if m = n then ⟨ad, 0⟩ else ρ m) M ⟨(mk ts hs).slot, (mk ts' ((n, .arr es []) :: hs)).heap⟩ a w := by rw [hHeap]; exact hs1
  refine ⟨(fun m => if m = n then ⟨ad, 0⟩ else ρ m), M, hs2.n, hs2.d, fun k x hk => ?_, hs2.objs, hs2.inj, hs2.own0, hs2.keep, hs2.ext, hs2.mext, hs2.msize, hs2.m0, hs2.ground⟩
  have := map_eq_all h4 _ (look_mem hk)
  simp only [look] at this
  split at this
  · rename_i e
    cases this
    subst e
    refine ⟨.agg us, hu, ?_⟩
    simp only [AV.R]
    refine ⟨us, rfl, Rs_set j _ ?_ (fun v' hv' => ?_)⟩
    · obtain ⟨u2, g1, g2⟩ := hs2.slots t _ h0
      rw [hu] at g1
      cases g1
      simp only [AV.R] at g2
      grind
    · rw [hv] at hv'
      cases hv'
      rw [hHeap]
      simp only [AV.R]
      grind
  · exact hs2.slots k x this
theorem Sim.thawBox {Γ : Ctx} {ρ : Name → Loc} {M : Nat → Prop} {s : AS} {a : Act} {w : World} (hsim : Sim Γ ρ M s a w) {m j es0 es : Nat} {n : Name} {cells : List AV} (hes : Nat.ble 1 es = true) (hm : s.heap m = some (.box cells)) (h1 : cells[j]? = some (.p (.sl true es0 []))) (hn : s.heap n = none) (hf : s.free n) :
    ∃ ρ', Sim Γ ρ' M ⟨s.slot, fun k => if k = m then some (.box (cells.set j (.own n 0))) else if k = n then some (.arr es []) else s.heap k⟩ a w := by
  have hmn : m ≠ n := fun e => by subst e; rw [hn] at hm; simp at hm
  obtain ⟨b, T, cs, k1, k2, k3, k4⟩ := hsim.objs m _ hm
  obtain ⟨u, hu, _, hr⟩ := k4.get j _ h1
  simp only [AV.R, PV.R] at hr
  obtain ⟨ad, cap, hu', _, hcap, _, _⟩ := hr
  have hc := hcap trivial
  simp only [List.length_nil] at hc hu'
  subst hc
  have hs1 := hsim.update1 (n := n) (l := ⟨ad, 0⟩) (o := .arr es []) (M' := M) (w' := w) (Ext.refl _ _) (fun _ hb => hb) (fun _ hb => .inl hb) hsim.msize (fun o' ho' => by rw [hn] at ho'; simp at ho') (fun _ => hf)
    ⟨Nat.le_of_ble_eq_true hes, by simp, .inl (by simp)⟩ (fun b hb => by simp [Loc.blk] at hb)
  have hm1 : (if m = n then some (AO.arr es []) else s.heap m) = some (.box cells) := by rw [if_neg hmn]; exact hm
  obtain ⟨b1, T1, cs1, q1, q2, q3, q4⟩ := hs1.objs m _ hm1
  have hbe : b1 = b := by
    have := q1; simp only [if_neg hmn] at this; rw [k1] at this; simpa using this.symm
  subst hbe
  rw [k3] at q3; cases q3
  have hs2 := hs1.update1 (n := m) (l := ρ m) (o := .box (cells.set j (.own n 0))) (M' := M) (w' := w) (Ext.refl _ _) (fun _ hb => hb) (fun _ hb => .inl hb) hsim.msize (fun o' ho' => by
      simp only [hm1] at ho'; cases ho'; simp [stays, hmn]) (fun h => by simp only [hm1] at h; simp at h)
    (by
      refine ⟨b1, T, cs, by simp [k1], k2, k3, ?_⟩
      have hst : HStep (fun k => if k = n then ⟨ad, 0⟩ else ρ k) (fun k => if k = n then some (AO.arr es []) else s.heap k)
          (fun k => if k = m then ρ m else if k = n then ⟨ad, 0⟩ else ρ k) (fun k => if k = m then some (AO.box (cells.set j (.own n 0))) else if k = n then some (AO.arr es []) else s.heap k) := fun k ob hk => by
        by_cases e : k = m
        · subst e; simp only [hm1] at hk; cases hk; simp [stays, hmn]
        · simp only [e, if_false, hk]; exact stays_refl _ _
      refine Rs_set j _ (q4.step (Ext.refl (fun _ => False) _) (fun _ hb => hb.elim) (fun b _ hb => hb) hst (fun k _ hk => ?_)) (fun v hv => ?_)
      · by_cases e : k = m
        · subst e; simp only [hm1] at hk; simp at hk
        · simp only [e, if_false]; exact hk
      · rw [hu] at hv; cases hv
        simp only [AV.R]
        refine ⟨by rw [hu']; rfl, fun o' es' k' hc hs' => ?_⟩
        simp only [if_neg (Ne.symm hmn), if_true] at hc
        cases hc
        cases hs'
        exact ⟨Nat.le_refl _, fun _ => by simp [Ne.symm hmn, hu']⟩)
    (fun b hb => .inl ⟨_, hm1, by simpa [hmn] using hb⟩)
  exact ⟨(fun k => if k = m then ρ m else if k = n then ⟨ad, 0⟩ else ρ k), hs2⟩
theorem Weak.thawCell {Γ : Ctx} {ts : List (Nat × AV)} {hs hs' : List (Name × AO)} {m j es0 es : Nat} {n : Name} {cells cells' : List AV} (hes : Nat.ble 1 es = true) (h0 : hs = (m, .box cells) :: hs') (h1 : cells[j]? = some (.p (.sl true es0 []))) (h2 : (look n hs).isNone = true) (h3 : freeIn n ts hs = true)
    (h4 : cells.set j (.own n 0) = cells') : Weak Γ (mk ts hs) (mk ts ((m, .box cells') :: (n, .arr es []) :: hs')) := fun ρ M a w hsim => by
  subst h4
  obtain ⟨ρ', h⟩ := hsim.thawBox (m := m) hes (by subst h0; simp [mk, look]) h1 (Option.isNone_iff_eq_none.1 h2) (free_of h3)
  refine ⟨ρ', M, h.congr (fun t => rfl) (fun k => ?_)⟩
  subst h0
  simp only [mk, look]
  by_cases e : m = k
  · subst e; simp
  · by_cases e' : n = k
    · subst e'; simp [e, Ne.symm e]
    · simp [e, e', Ne.symm e, Ne.symm e']
theorem OpOK.allocOwn {P : Program} {o : Oper} {rd : List (Nat × AV)} {T : TypeId} {n m : Name} {x : AV} {es0 es : Nat} (hes : Nat.ble 1 es = true) (hnm : n ≠ m) (hx : x.has m = false) (ho : o.op = .alloc T) (hz : zeroAV P T = some [x, .p (.sl true es0 [])]) :
    OpOK P o ⟨rd, [], .ref n 0, [(n, .box [x, .own m 0]), (m, .arr es [])], [n, m]⟩ := by
  intro Γ ρ M s a w K Q hs hh hd hK
  obtain ⟨hmn, hmf⟩ := hh.nw m (by simp)
  refine OpOK.alloc (n := n) (rd := rd) ho hz Γ ρ M s a w K Q hs ⟨hh.rd, hh.hp, fun k hk => hh.nw k (by simp at hk; simp [hk])⟩ hd (fun ρ' M' a' w' hs' => ?_)
  obtain ⟨ρ2, h2⟩ := hs'.thawBox (m := n) (n := m) (j := 1) (cells := [x, .p (.sl true es0 [])]) hes (by simp [AS.run, look]) rfl (by simp [AS.run, look, hnm, hmn]) ⟨fun t v hv => by
      simp only [AS.run] at hv
      split at hv
      · cases hv; simp [AV.has, hnm]
      · exact hmf.1 t v hv, fun k ob hk => by
      simp only [AS.run, look] at hk
      split at hk
      · rename_i e; split at e
        · cases e; cases hk; simp [AO.has, AV.hasL, AV.has, hx]
        · simp at e
      · exact hmf.2 k ob hk⟩
  refine hK ρ2 M' a' w' (h2.congr (fun t => rfl) (fun k => ?_))
  simp only [AS.run, look]
  by_cases e : n = k
  · subst e; simp
  · by_cases e' : m = k
    · subst e'; simp [e, Ne.symm e]
    · simp [e, e', Ne.symm e, Ne.symm e']
theorem Ts_le {ρ : Name → Loc} {H : Heap} {M : Nat → Prop} {w : World} : ∀ (xs : List AV) {ys : List AV} {us : List Value}, AVleL xs ys → AV.Ts ρ H M w xs us → AV.Ts ρ H M w ys us
  | [], ys, us, h, h' => by cases h; exact h'
  | x :: xs, ys, us, h, h' => by
    cases h with
    | cons h1 h2 =>
      simp only [AV.Ts] at h' ⊢
      obtain ⟨u, us', g1, g2, g3⟩ := h'
      exact ⟨u, us', g1, h1.sound _ g2, Ts_le xs h2 g3⟩
theorem Spec.argsLe {P : Program} {f : FuncId} {args args' : List AV} {pre : List (Name × AO)} {post : AV → List (Name × AO) → Prop} (h : Spec P f args' pre post) (hle : AVleL args args') : Spec P f args pre post :=
  fun G ρ M w us hG h1 h2 h3 h4 => h G ρ M w us hG h1 (Ts_le args hle h2) h3 h4
section
variable {P : Program} {o : Oper} {rd : List (Nat × AV)}
end
section
variable {P : Program} {o : Oper} {rd : List (Nat × AV)}
def intT (P : Program) (T : TypeId) : Option IntKind := match P.underlying T with | some (.int k) => some k | _ => none
theorem OpOK.convI {S T : TypeId} {x : Operand} {k k' : IntKind} {a r : Int} (ho : o.op = .convert S T x) (hS : (P.underlying S).isSome = true) (hT : intT P T = some k') (hx : evalO rd x = some (.p (.v (.int k a)))) (hr : k'.wrap a = r) : OpOK P o ⟨rd, [], .p (.v (.int k' r)), [], []⟩ :=
  OpOK.quiet fun Γ ρ M s a' w hs hh => by
    obtain ⟨d, hd⟩ := Option.isSome_iff_exists.1 hS
    have ht : P.underlying T = some (.int k') := by
      unfold intT at hT
      grind
    refine ⟨.int k' r, ?_, by simp only [AV.R, PV.R]; exact ⟨trivial, rfl⟩⟩
    simp only [execOp, ho, eval_v hs hh hx, convert, Sem.run_bind, run_underlying hd, run_underlying ht, Result.andThen_ok, Conv.intToInt, Sem.run_pure, hr]
end
end Go.Proofs.YtkfmncmhagpajaaGreatDoor.AM
namespace Go.Proofs.YtkfmncmhagpajaaGreatDoor.AM
open Go
def flatAV : AV → Bool
  | .agg _ => false
  | .tup _ => false
  | _ => true
theorem flatAV_one {ρ : Name → Loc} {H : Heap} {M : Nat → Prop} {w : World} {x : AV} {u : Value} (h : flatAV x = true) (hr : x.R ρ H M w u) : u.oneCell' = true := by
  cases x with
  | agg cs => simp [flatAV] at h
  | tup cs => simp [flatAV] at h
  | p y => simp only [AV.R] at hr; exact hr.flat
  | ref n k => simp only [AV.R] at hr; exact hr.1
  | sref n => simp only [AV.R] at hr; exact hr.1
  | own n k => simp only [AV.R] at hr; exact hr.1
  | aref n a b c => simp only [AV.R] at hr; exact hr.1
  | view n a b c => simp only [AV.R] at hr; exact hr.1
  | cut n a b => simp only [AV.R] at hr; exact hr.1
  | eptr cells => simp only [AV.R] at hr; obtain ⟨ad, rfl, _⟩ := hr; rfl
  | clo f a b => simp only [AV.R] at hr; obtain ⟨a, c, rfl, _⟩ := hr; rfl
  | oref b n => simp only [AV.R] at hr; exact hr.1
  | err b => simp only [AV.R] at hr; exact hr.1
  | ub => simp only [AV.R] at hr; obtain ⟨q, rfl⟩ := hr; rfl
  | any => simpa only [AV.R] using hr
theorem Rs_of_Ts {ρ : Name → Loc} {H : Heap} {M : Nat → Prop} {w : World} : ∀ {xs : List AV} {us : List Value}, xs.all flatAV = true → AV.Ts ρ H M w xs us → AV.Rs ρ H M w xs us
  | [], us, _, h => by simp only [AV.Ts] at h; subst h; simp [AV.Rs]
  | x :: xs, us, hf, h => by
    simp only [AV.Ts] at h
    obtain ⟨u, us', rfl, h3, h4⟩ := h
    simp only [List.all_cons, Bool.and_eq_true] at hf
    simp only [AV.Rs]
    exact ⟨u, us', rfl, flatAV_one hf.1 h3, h3, Rs_of_Ts hf.2 h4⟩
theorem Ts_of_Rs {ρ : Name → Loc} {H : Heap} {M : Nat → Prop} {w : World} : ∀ {xs : List AV} {us : List Value}, AV.Rs ρ H M w xs us → AV.Ts ρ H M w xs us
  | [], us, h => by simp only [AV.Rs] at h; subst h; simp [AV.Ts]
  | x :: xs, us, h => by
    simp only [AV.Rs] at h
    obtain ⟨u, us', rfl, h2, h3, h4⟩ := h
    simp only [AV.Ts]
    exact ⟨u, us', rfl, h3, Ts_of_Rs h4⟩
theorem AV.Ts.append {ρ : Name → Loc} {H : Heap} {M : Nat → Prop} {w : World} : ∀ {xs ys : List AV} {us vs : List Value}, AV.Ts ρ H M w xs us → AV.Ts ρ H M w ys vs → AV.Ts ρ H M w (xs ++ ys) (us ++ vs)
  | [], ys, us, vs, h, h' => by simp only [AV.Ts] at h; subst h; simpa using h'
  | x :: xs, ys, us, vs, h, h' => by
    simp only [AV.Ts] at h
    obtain ⟨u, us', rfl, h3, h4⟩ := h
    simp only [List.cons_append, AV.Ts]
    exact ⟨u, us' ++ vs, rfl, h3, h4.append h'⟩
section
variable {P : Program} {o : Oper} {rd : List (Nat × AV)}
theorem OpOK.makeFunc {fn : Fn} {first captured : Array Operand} {fs cs : List AV} (ho : o.op = .makeFunc fn first captured) (h1 : evalL rd first.toList = some fs) (h2 : evalL rd captured.toList = some cs)
    (hf1 : fs.all flatAV = true) (hf2 : cs.all flatAV = true) : OpOK P o ⟨rd, [], .clo fn fs cs, [], []⟩ :=
  OpOK.quiet fun Γ ρ M s a w hs hh => ⟨.func fn (first.map a.eval) (captured.map a.eval), by simp [execOp, ho, Instr.makeFunc], by
    simp only [AV.R]
    refine ⟨_, _, rfl, ?_, ?_⟩
    · rw [Array.toList_map]; exact Rs_of_Ts hf1 (evalL_R hs hh h1)
    · rw [Array.toList_map]; exact Rs_of_Ts hf2 (evalL_R hs hh h2)⟩
theorem OpOK.callClo {f : FuncId} {x : Operand} {argOps : Array Operand} {ats : Array TypeId} {fs cs args : List AV} {pre h : List (Name × AO)} {v : AV} {nw : List Name}
    (ho : o.op = .call { callee := .value x, args := argOps, argTypes := ats }) (hx : evalO rd x = some (.clo (.func f) fs cs)) (hf : callable P f = true) (hargs : evalL rd argOps.toList = some args)
    (hspec : SpecIs P f (fs ++ args ++ cs) pre v h) (hok : callOK pre h nw v = true) : OpOK P o ⟨rd, pre, v, h, nw⟩ :=
  call_core (hrd := rd) (fun Γ ρ M s a w hs hh => by
    have hr := evalO_R hs hh hx
    simp only [AV.R] at hr
    obtain ⟨A, C, hu, hA, hC⟩ := hr
    refine ⟨A.toList ++ argOps.toList.map a.eval ++ C.toList, ((Ts_of_Rs hA).append (evalL_R hs hh hargs)).append (Ts_of_Rs hC), ?_⟩
    have e : (A.toList ++ argOps.toList.map a.eval ++ C.toList).toArray = A ++ argOps.map a.eval ++ C := by
      simp_all
    rw [e]
    simp [execOp, ho, resolve, hu, Deferred.ofValue, invoke, run_callFunc hf]) hspec hok
theorem OpOK.callFv {f : FuncId} {x : Operand} {argOps : Array Operand} {ats : Array TypeId} {args : List AV} {pre h : List (Name × AO)} {v : AV} {nw : List Name}
    (ho : o.op = .call { callee := .value x, args := argOps, argTypes := ats }) (hx : evalO rd x = some (.p (.v (.func (.func f) #[] #[])))) (hf : callable P f = true) (hargs : evalL rd argOps.toList = some args)
    (hspec : SpecIs P f args pre v h) (hok : callOK pre h nw v = true) : OpOK P o ⟨rd, pre, v, h, nw⟩ :=
  call_core (hrd := rd) (fun Γ ρ M s a w hs hh => by
    have hr := evalO_R hs hh hx
    simp only [AV.R, PV.R] at hr
    refine ⟨argOps.toList.map a.eval, evalL_R hs hh hargs, ?_⟩
    have e : (argOps.toList.map a.eval).toArray = argOps.map a.eval := by rw [← Array.toList_map]
    rw [e]
    simp [execOp, ho, resolve, hr.1, Deferred.ofValue, invoke, run_callFunc hf]) hspec hok
theorem OpOK.indexArr {T e : TypeId} {x y : Operand} {n : Name} {k k' i es len : Nat} {kd : IntKind} {j : Int} (ho : o.op = .indexAddr T x y) (hT : P.underlying T = some (.array len e)) (hz : sizeT P e = some es)
    (hx : evalO rd x = some (.ref n k)) (hy : evalO rd y = some (.p (.v (.int kd j)))) (hj : j = (i : Int)) (hi : i < len) (hk : k + i * es = k') {cells : List AV} : OpOK P o ⟨rd, [(n, .box cells)], .ref n k', [], []⟩ :=
  OpOK.quiet fun Γ ρ M s a w hs hh => by
    have hr := evalO_R hs hh hx
    simp only [AV.R] at hr
    obtain ⟨b, hb, hu⟩ := hr.2 cells (hh.hp n _ (by simp))
    refine ⟨.pointer (some ⟨b, k', none⟩), ?_, by simp only [AV.R]; exact ⟨rfl, fun _ _ => ⟨b, hb, rfl⟩⟩⟩
    subst hk
    simp [execOp, ho, hu, eval_v hs hh hy, Instr.indexAt, Instr.sureAddr, asIntOf, run_underlying hT, hj, hi, run_sizeOf hz, addr_add]
theorem fill_mono {f g : Nat → Option (Nat × Nat)} (h : ∀ i y, f i = some y → g i = some y) : ∀ (l : List (Nat × Value)) (us us' : Array Value), Instr.fill f us l = some us' → Instr.fill g us l = some us'
  | [], us, us', hf => hf
  | (i, v) :: r, us, us', hf => by
    simp only [Instr.fill] at hf ⊢
    cases hi : f i with
    | none => rw [hi] at hf; simp at hf
    | some y =>
      rw [hi] at hf
      rw [h i y hi]
      simp only at hf ⊢
      split at hf
      · simp at hf
      · rename_i hc
        rw [if_neg hc]
        exact fill_mono h r _ _ hf
def arrPlaces (n es : Nat) : List (Nat × Nat) := (List.range n).map fun i => (i * es, es)
theorem OpOK.buildArr {T e : TypeId} {n es : Nat} {parts : Array (Nat × Operand)} {zs cells : List AV} (ho : o.op = .build T parts) (hT : P.underlying T = some (.array n e)) (hes : sizeT P e = some es) (hz : zeroAV P T = some zs)
    (hc : putCells rd (arrPlaces n es) parts.toList zs = some cells) : OpOK P o ⟨rd, [], .agg cells, [], []⟩ :=
  OpOK.quiet fun Γ ρ M s a w hs hh => by
    obtain ⟨i, z, hi, hz', hall, rfl⟩ := zeroAV_spec hz
    obtain ⟨us, g1, g2⟩ := fill_cells hs hh parts.toList _ cells z.cells (constCells_R hall) hc
    refine ⟨.agg us, ?_, by simp only [AV.R]; exact ⟨us, rfl, g2⟩⟩
    have g3 := fill_mono (g := fun i => some (i * es, es)) (fun i y hy => by
      unfold arrPlaces at hy
      rw [List.getElem?_map] at hy
      cases hr : (List.range n)[i]? with
      | none => rw [hr] at hy; simp at hy
      | some j =>
        rw [hr] at hy
        have hj : j = i := by
          have := List.getElem?_range (show i < n from by
            have := (List.getElem?_eq_some_iff.1 hr).1; simpa using this)
          rw [this] at hr; exact (Option.some.inj hr).symm
        subst hj; exact hy) _ _ _ g1
    have hparts : ((parts.map fun (i, x) => (i, a.eval x)) : Array (Nat × Value)).toList = parts.toList.map fun p => (p.1, a.eval p.2) := by simp
    simp only [execOp, ho, Instr.build, Sem.run_bind, run_zeroValue hi hz', Result.andThen_ok, run_underlying hT, run_sizeOf hes, hparts, g3]
    simp
def setB (w : World) (b : Nat) (x : Obj) : World := { w with heap := w.heap.setIfInBounds b x }
def noCells : Obj → Bool
  | .map _ _ => true
  | .stringIter _ _ => true
  | _ => false
theorem run_getO {w : World} {b : Nat} {x : Obj} (hx : noCells x = true) (h : w.heap[b]? = some x) : (getObj b).run P w = .ok x w := by
  cases x <;> simp [noCells] at hx <;> simp [getObj, Sem.run, h]
theorem run_setO {w : World} {b : Nat} {x y : Obj} (hx : noCells x = true) (h : w.heap[b]? = some x) : (setObj b y).run P w = .ok () (setB w b y) := by
  cases x <;> simp [noCells] at hx <;> simp [setObj, Sem.run, h, setB]
theorem Ext.setB (w : World) (b : Nat) (x : Obj) : Ext (fun c => c = b) w (setB w b x) :=
  ⟨by simp [AM.setB], fun c hc hne => by
    show (w.heap.setIfInBounds b x)[c]? = _
    rw [Array.getElem?_setIfInBounds, if_neg (fun e => hne e.symm)], rfl, rfl⟩
theorem Sim.setObj {Γ : Ctx} {ρ : Name → Loc} {M : Nat → Prop} {s : AS} {a : Act} {w : World} (hs : Sim Γ ρ M s a w) {n : Name} {x y : Obj} (hn : s.heap n = some (.obj x)) {b : Nat} (hb : (ρ n).base = some ⟨b, 0, none⟩) :
    Sim Γ (fun m => if m = n then ρ n else ρ m) M ⟨s.slot, fun m => if m = n then some (.obj y) else s.heap m⟩ a (setB w b y) := by
  obtain ⟨b', g1, g2, g3⟩ := hs.objs n _ hn
  have e : b' = b := by rw [g1] at hb; simpa using hb
  subst e
  have hblk : (ρ n).blk = some b' := by rw [g1]; simp [Loc.blk]
  have he := Ext.setB w b' y
  refine hs.update1 (he.weaken fun c _ hc => ⟨by rw [hblk, hc], by rw [hn]; simp⟩) (fun _ hc => hc) (fun _ hc => .inl hc) (fun c hc => Nat.lt_of_lt_of_le (hs.msize c hc) he.size)
    (fun o' ho' => by rw [hn] at ho'; cases ho'; simp [stays]) (fun h0 => by rw [hn] at h0; simp at h0) ?_ (fun c hc => .inl ⟨_, hn, hc⟩)
  refine ⟨b', by simp [g1], g2, ?_⟩
  show (w.heap.setIfInBounds b' y)[b']? = some y
  grind
theorem Sim.mkObj {Γ : Ctx} {ρ : Name → Loc} {M : Nat → Prop} {s : AS} {a : Act} {w : World} (h : Sim Γ ρ M s a w) {n : Name} (hn : s.heap n = none) (hf : s.free n) (x : Obj) :
    Sim Γ (fun m => if m = n then ⟨some ⟨w.heap.size, 0, none⟩, 1⟩ else ρ m) (fun b => M b ∨ b = w.heap.size) ⟨s.slot, fun m => if m = n then some (.obj x) else s.heap m⟩ a (w.alloc x) := by
  have he := Ext.alloc w x
  refine h.update1 (he.weaken fun _ _ hb => hb.elim) (fun b hb => .inl hb) (fun b hb => hb.imp id (fun e => by omega)) (fun b hb => ?_) (fun o' ho' => by rw [hn] at ho'; simp at ho') (fun _ => hf) ?_ (fun b hb => .inr ?_)
  · rcases hb with hb | hb
    · have := h.msize b hb; simp; omega
    · simp [hb]
  · exact ⟨w.heap.size, by simp, .inr rfl, heap_alloc_new w _⟩
  · simp [Loc.blk] at hb; omega
def mkEs : Nat → List (ByteArray × Value) → List MapEntry
  | _, [] => []
  | i, (k, v) :: r => { key := .string k, val := v, born := i } :: mkEs (i + 1) r
def smap (es : List (ByteArray × Value)) : Obj := .map (mkEs 0 es).toArray es.length
def lookI (k : ByteArray) : List (ByteArray × Value) → Nat → Option (Nat × Value)
  | [], _ => none
  | (k', v) :: r, j => if k = k' then some (j, v) else lookI k r (j + 1)
def lookS (k : ByteArray) : List (ByteArray × Value) → Option Value
  | [] => none
  | (k', v) :: r => if k = k' then some v else lookS k r
theorem lookI_S (k : ByteArray) : ∀ (es : List (ByteArray × Value)) (j : Nat), (lookI k es j).map (·.2) = lookS k es
  | [], _ => rfl
  | (k', v) :: r, j => by
    unfold lookI lookS
    split
    · rfl
    · exact lookI_S k r (j + 1)
theorem beq_bytes (a b : ByteArray) : (a == b) = decide (a = b) := by
  rw [beq_toListBytes]; exact bytes_eq a b
theorem findNow_S (k : ByteArray) : ∀ (es : List (ByteArray × Value)) (i j : Nat), Instr.findNow .string (.string k) (mkEs i es) j = some (lookI k es j)
  | [], _, _ => rfl
  | (k', v) :: r, i, j => by
    unfold mkEs Instr.findNow lookI
    simp only [Instr.sameNow, beq_bytes]
    by_cases h : k = k'
    · simp [h]
    · simp only [h, decide_false, if_false]; exact findNow_S k r (i + 1) (j + 1)
theorem mkEs_append : ∀ (es : List (ByteArray × Value)) (i : Nat) (k : ByteArray) (v : Value), mkEs i (es ++ [(k, v)]) = mkEs i es ++ [{ key := .string k, val := v, born := i + es.length }]
  | [], i, k, v => rfl
  | (k', v') :: r, i, k, v => by
    simp only [List.cons_append, mkEs, mkEs_append r (i + 1) k v, List.length_cons]
    rw [show i + 1 + r.length = i + (r.length + 1) by omega]
theorem run_checkKey_str {w : World} {b : Bool} {K : TypeId} {k : ByteArray} (hK : P.underlying K = some .string) : (Instr.checkKey b 10000 K (.string k)).run P w = .ok () w := by
  rw [show (10000 : Nat) = 9999 + 1 from rfl]
  generalize 9999 = m
  unfold Instr.checkKey
  simp [run_underlying hK]
theorem run_findKey_S {w : World} {K : TypeId} {k : ByteArray} (hK : P.underlying K = some .string) (es : List (ByteArray × Value)) (i : Nat) : (Instr.findKey K (.string k) (mkEs i es)).run P w = .ok (lookI k es 0) w := by
  simp [Instr.findKey, run_underlying hK, findNow_S]
theorem OpOK.makeMap {T : TypeId} {n : Name} (ho : o.op = .makeMap T none) : OpOK P o ⟨rd, [], .oref true n, [(n, .obj (smap []))], [n]⟩ :=
  OpOK.mk fun Γ ρ M s a w hs hh => by
    obtain ⟨hn, hf⟩ := hh.nw n (by simp)
    refine ⟨.map (some w.heap.size), w.alloc (smap []), _, _, ?_, hs.mkObj hn hf (smap []), ?_⟩
    · simp [execOp, ho, Instr.makeMap, smap, mkEs]
    · simp only [AV.R]; exact ⟨rfl, fun _ _ => ⟨w.heap.size, by simp, by simp⟩⟩
theorem OpOK.putS {T K E : TypeId} {x y z : Operand} {n : Name} {es es' : List (ByteArray × Value)} {k : ByteArray} {v : Value} (hdst : o.dst = none) (ho : o.op = .mapUpdate T x y z ∨ o.op = .insert T x y z) (hT : P.underlying T = some (.map K E)) (hK : P.underlying K = some .string)
    (hx : evalO rd x = some (.oref true n)) (hy : evalO rd y = some (.p (.v (.string k)))) (hz : evalO rd z = some (.p (.v v))) (hno : lookS k es = none) (he : es ++ [(k, v)] = es') : OpOK P o ⟨rd, [(n, .obj (smap es))], .any, [(n, .obj (smap es'))], []⟩ :=
  OpOK.wr hdst fun Γ ρ M s a w hs hh => by
    subst he
    have hr := evalO_R hs hh hx
    simp only [AV.R, if_true] at hr
    have hn := hh.hp n _ (by simp : (n, AO.obj (smap es)) ∈ _)
    obtain ⟨b, hb, hu⟩ := hr.2 _ hn
    obtain ⟨b', g1, g2, g3⟩ := hs.objs n _ hn
    have e : b' = b := by rw [g1] at hb; simpa using hb
    subst e
    have hky := evalO_R hs hh hy
    have hvz := evalO_R hs hh hz
    simp only [AV.R, PV.R] at hky hvz
    have hl : lookI k es 0 = none := by
      have := lookI_S k es 0; rw [hno] at this; simpa using this
    have hrun : (Instr.mapUpdate T (a.eval x) (a.eval y) (a.eval z)).run P w = .ok () (setB w b' (smap (es ++ [(k, v)]))) := by
      rw [hu, hky.1, hvz.1]
      have h1 := run_getO (P := P) (x := smap es) rfl g3
      have h2 := run_setO (P := P) (x := smap es) (y := smap (es ++ [(k, v)])) rfl g3
      simp only [smap] at h1 h2
      have h3 : (Array.push (mkEs 0 es).toArray { key := .string k, val := v, born := es.length }) = (mkEs 0 (es ++ [(k, v)])).toArray := by
        rw [mkEs_append]; simp
      simp [Instr.mapUpdate, run_underlying hT, h1, run_checkKey_str hK, run_findKey_S hK, hl, h3]
      simpa [smap] using h2
    refine ⟨_, _, _, ?_, hs.setObj (y := smap (es ++ [(k, v)])) hn hb⟩
    rcases ho with ho | ho <;> simp [execOp, ho, hrun]
def zeroV (P : Program) (T : TypeId) : Option Value := match P.info? T with
  | some i => i.zero
  | none => none
theorem run_zeroV {T : TypeId} {z : Value} (h : zeroV P T = some z) (w : World) : (zeroValue T).run P w = .ok z w := by
  unfold zeroV at h
  split at h
  · rename_i i hi; exact run_zeroValue hi h w
  · simp at h
theorem lookup_run {T K E : TypeId} {w : World} {b : Nat} {es : List (ByteArray × Value)} {k : ByteArray} {z : Value} {ok : Bool} (hT : P.underlying T = some (.map K E)) (hK : P.underlying K = some .string) (hz : zeroV P E = some z)
    (hb : w.heap[b]? = some (smap es)) : (Instr.lookup T (.map (some b)) (.string k) ok).run P w = .ok (if ok then .tuple #[(lookS k es).getD z, .bool (lookS k es).isSome] else (lookS k es).getD z) w := by
  have h1 := run_getO (P := P) (x := smap es) rfl hb
  simp only [smap] at h1
  have h2 := lookI_S k es 0
  cases hl : lookI k es 0 with
  | none =>
    rw [hl] at h2
    simp only [Option.map_none] at h2
    simp [Instr.lookup, run_underlying hT, h1, run_checkKey_str hK, run_findKey_S hK, hl, run_zeroV hz, ← h2]
  | some p =>
    rw [hl] at h2
    simp only [Option.map_some] at h2
    simp [Instr.lookup, run_underlying hT, h1, run_checkKey_str hK, run_findKey_S hK, hl, run_zeroV hz, ← h2]
theorem OpOK.lookup {T K E : TypeId} {x y : Operand} {n : Name} {es : List (ByteArray × Value)} {k : ByteArray} {z r : Value} (ho : o.op = .lookup T x y false) (hT : P.underlying T = some (.map K E)) (hK : P.underlying K = some .string) (hz : zeroV P E = some z)
    (hx : evalO rd x = some (.oref true n)) (hy : evalO rd y = some (.p (.v (.string k)))) (hr : (lookS k es).getD z = r) (h1 : r.oneCell' = true) : OpOK P o ⟨rd, [(n, .obj (smap es))], .p (.v r), [], []⟩ :=
  OpOK.quiet fun Γ ρ M s a w hs hh => by
    have hq := evalO_R hs hh hx
    simp only [AV.R, if_true] at hq
    have hn := hh.hp n _ (by simp : (n, AO.obj (smap es)) ∈ _)
    obtain ⟨b, hb, hu⟩ := hq.2 _ hn
    obtain ⟨b', g1, g2, g3⟩ := hs.objs n _ hn
    have e : b' = b := by rw [g1] at hb; simpa using hb
    subst e
    have hky := evalO_R hs hh hy
    simp only [AV.R, PV.R] at hky
    have := lookup_run (k := k) (ok := false) hT hK hz g3
    exact ⟨r, by simp [execOp, ho, hu, hky.1, this, hr], by simp only [AV.R, PV.R]; exact ⟨trivial, h1⟩⟩
def bAt (t : ByteArray) (i : Nat) : Nat := (t[i]?.getD 0).toNat
theorem OpOK.indexS {T : TypeId} {x y : Operand} {t : ByteArray} {j : Int} {i : Nat} {k : IntKind} (ho : o.op = .index T x y) (hT : P.underlying T = some .string) (hx : evalO rd x = some (.p (.v (.string t)))) (hy : evalO rd y = some (.p (.v (.int k j))))
    (hj : j = ((i : Nat) : Int)) (hi : i < t.size) : OpOK P o ⟨rd, [], .p (.v (.int .u8 ((bAt t i : Nat) : Int))), [], []⟩ :=
  OpOK.quiet fun Γ ρ M s a w hs hh => by
    have h1 := evalO_R hs hh hx
    have h2 := evalO_R hs hh hy
    simp only [AV.R, PV.R] at h1 h2
    refine ⟨.int .u8 ((bAt t i : Nat) : Int), ?_, by simp only [AV.R, PV.R]; exact ⟨trivial, rfl⟩⟩
    subst hj
    have h3 : t[i]? = some t[i] := ByteArray.getElem?_lt' t i hi
    simp [execOp, ho, h1.1, h2.1, Instr.index, run_underlying hT, asIntOf, h3, bAt]
theorem OpOK.lenS {T : TypeId} {x : Operand} {ats : Array TypeId} {t : ByteArray} (ho : o.op = .call { callee := .builtin .len, args := #[x], argTypes := ats }) (hat : ats[0]? = some T) (hT : P.underlying T = some .string)
    (hx : evalO rd x = some (.p (.v (.string t)))) : OpOK P o ⟨rd, [], .p (.v (.int .i64 ((t.size : Nat) : Int))), [], []⟩ :=
  OpOK.quiet fun Γ ρ M s a w hs hh => by
    have hr' := evalO_R hs hh hx
    simp only [AV.R, PV.R] at hr'
    refine ⟨.int .i64 ((t.size : Nat) : Int), ?_, by simp only [AV.R, PV.R]; exact ⟨trivial, rfl⟩⟩
    simp [execOp, ho, resolve, invoke, builtin, Builtin.len_, hat, hr'.1, run_underlying hT, goInt]
theorem OpOK.addS {T T' : TypeId} {x y : Operand} {p q r : ByteArray} (ho : o.op = .binOp .add T x y T') (hx : evalO rd x = some (.p (.v (.string p)))) (hy : evalO rd y = some (.p (.v (.string q)))) (hl : p.size + q.size ≤ 9223372036854775807) (hr : p ++ q = r) :
    OpOK P o ⟨rd, [], .p (.v (.string r)), [], []⟩ :=
  OpOK.bin ho hx hy (eqGuard_at_string ..) (fun w => by
    subst hr
    have : ¬ IntKind.i64.max < ((p.size + q.size : Nat) : Int) := by rw [IntKind.max_i64]; omega
    simp only [binOp, Op.stringOp]
    rw [if_neg this]; rfl) rfl
def optB (rd : List (Nat × AV)) (d : Nat) : Option Operand → Option Int
  | none => some d
  | some x => match evalO rd x with
    | some (.p (.v (.int .i64 j))) => some j
    | _ => none
theorem run_bound {Γ : Ctx} {ρ : Name → Loc} {M : Nat → Prop} {s : AS} {a : Act} {w : World} {e : Eff} (hs : Sim Γ ρ M s a w) (hh : s.holds e) {x : Option Operand} {d i y : Nat} {c : BoundsCode} (hb : optB e.rd d x = some ((i : Nat) : Int)) (hi : i ≤ y) :
    (match x.map a.eval with | some v => Instr.sliceBound v y c | none => pure d).run P w = .ok i w := by
  cases x with
  | none =>
    simp only [optB, Option.some.injEq] at hb
    have : d = i := by omega
    subst this; rfl
  | some x =>
    simp only [optB] at hb
    split at hb
    · rename_i j hx
      have hr := evalO_R hs hh hx
      simp only [AV.R, PV.R] at hr
      simp only [Option.some.injEq] at hb
      subst hb
      simp [Option.map, hr.1, Instr.sliceBound, asIntOf, hi]
    · simp at hb
theorem OpOK.sliceS {T : TypeId} {x : Operand} {lo hi : Option Operand} {t r : ByteArray} {i j : Nat} (ho : o.op = .slice T x lo hi none) (hT : P.underlying T = some .string) (hx : evalO rd x = some (.p (.v (.string t))))
    (hlo : optB rd 0 lo = some ((i : Nat) : Int)) (hhi : optB rd t.size hi = some ((j : Nat) : Int)) (h1 : i ≤ j) (h2 : j ≤ t.size) (hr : t.extract i j = r) : OpOK P o ⟨rd, [], .p (.v (.string r)), [], []⟩ :=
  OpOK.quiet fun Γ ρ M s a w hs hh => by
    have hq := evalO_R hs hh hx
    simp only [AV.R, PV.R] at hq
    refine ⟨.string r, ?_, by simp only [AV.R, PV.R]; exact ⟨trivial, rfl⟩⟩
    have hb1 := run_bound (P := P) (w := w) (c := .sliceAlen) hs hh hhi h2
    have hb2 := run_bound (P := P) (w := w) (c := .sliceB) hs hh hlo h1
    have hb : (Instr.sliceBounds false t.size t.size (lo.map a.eval) (hi.map a.eval) none).run P w = .ok (i, j, t.size) w := by
      unfold Instr.sliceBounds
      cases lo <;> cases hi <;> simp_all
    simp [execOp, ho, hq.1, Instr.sliceAt, Instr.slice, run_underlying hT, hb, hr]
theorem OpOK.upd {hp : List (Name × AO)} {v : AV} {n : Name} {ob : AO}
    (h : ∀ (Γ : Ctx) (ρ : Name → Loc) (M : Nat → Prop) (s : AS) (a : Act) (w : World), Sim Γ ρ M s a w → s.holds ⟨rd, hp, v, [(n, ob)], []⟩ → ∃ u w' ρ' M', (execOp a.eval o).run P w = .ok (.value u) w' ∧
      Sim Γ ρ' M' ⟨s.slot, fun m => if m = n then some ob else s.heap m⟩ a w' ∧ v.R ρ' (fun m => if m = n then some ob else s.heap m) M' w' u) : OpOK P o ⟨rd, hp, v, [(n, ob)], []⟩ := by
  intro Γ ρ M s a w K Q hs hh hd hK
  obtain ⟨u, w', ρ', M', h1, h2, h3⟩ := h Γ ρ M s a w hs hh
  unfold Oper.wp
  rw [h1, Oper.upon_value]
  refine hK ρ' M' _ w' ((h2.put hd (fun _ => h3)).congr (fun t => rfl) (fun m => ?_))
  simp only [AS.run, AS.set, look]
  grind
end
abbrev Out := List (Name × AO) × AV × List (Name × AO) × List Name
section
variable (P : Program) (rd : List (Nat × AV)) (hs : List (Name × AO))
def kEq : IntKind → IntKind → Bool
  | .i64, .i64 => true
  | .i32, .i32 => true
  | .i16, .i16 => true
  | .i8, .i8 => true
  | .u64, .u64 => true
  | .u32, .u32 => true
  | .u16, .u16 => true
  | .u8, .u8 => true
  | _, _ => false
theorem kEq_of {k k' : IntKind} (h : kEq k k' = true) : k' = k := by
  cases k <;> cases k' <;> first | rfl | simp [kEq] at h
end
theorem bind_some {α β : Type} {x : Option α} {f : α → Option β} {y : β} (h : x.bind f = some y) : ∃ v, x = some v ∧ f v = some y := by
  cases x with
  | none => simp at h
  | some v => exact ⟨v, rfl, by simpa using h⟩
section
variable {P : Program} {o : Oper} {rd : List (Nat × AV)} {hs : List (Name × AO)} {e : Out}
end
section
variable {P : Program} {Γ : Ctx} {s : AS} {Q : Exit → AS → Prop}
end
open Go
namespace D
structure Label where
  Key : ByteArray
  Value : ByteArray
  deriving DecidableEq, Inhabited
abbrev Label.cells (x : Label) : List PV := [.v (.string x.Key), .v (.string x.Value)]
structure Alert where
  At : Int
  Labels : List D.Label
  Firing : Bool
  deriving DecidableEq, Inhabited
abbrev Alert.cells (x : Alert) : List PV := [.v (.int .i64 x.At), .sl false 2 (x.Labels.map D.Label.cells), .v (.bool x.Firing)]
structure Answer where
  ID : Int
  Page : Int
  Person : Int
  Kind : Int
  Arg : Int
  At : Int
  deriving DecidableEq, Inhabited
abbrev Answer.cells (x : Answer) : List PV := [.v (.int .i64 x.ID), .v (.int .i64 x.Page), .v (.int .i64 x.Person), .v (.int .i64 x.Kind), .v (.int .i64 x.Arg), .v (.int .i64 x.At)]
structure Edit where
  Kind : Int
  A : Int
  B : Int
  From : Int
  To : Int
  deriving DecidableEq, Inhabited
abbrev Edit.cells (x : Edit) : List PV := [.v (.int .i64 x.Kind), .v (.int .i64 x.A), .v (.int .i64 x.B), .v (.int .i64 x.From), .v (.int .i64 x.To)]
structure Act where
  Kind : Int
  At : Int
  Alert : D.Alert
  Answer : D.Answer
  Schedule : Int
  Edit : D.Edit
  Arg : Int
  K : Int
  Person : Int
  Text : ByteArray
  deriving DecidableEq, Inhabited
abbrev Act.cells (x : Act) : List PV := [.v (.int .i64 x.Kind), .v (.int .i64 x.At), .v (.int .i64 x.Alert.At), .sl false 2 (x.Alert.Labels.map D.Label.cells), .v (.bool x.Alert.Firing), .v (.int .i64 x.Answer.ID), .v (.int .i64 x.Answer.Page), .v (.int .i64 x.Answer.Person), .v (.int .i64 x.Answer.Kind), .v (.int .i64 x.Answer.Arg), .v (.int .i64 x.Answer.At), .v (.int .i64 x.Schedule), .v (.int .i64 x.Edit.Kind), .v (.int .i64 x.Edit.A), .v (.int .i64 x.Edit.B), .v (.int .i64 x.Edit.From), .v (.int .i64 x.Edit.To), .v (.int .i64 x.Arg), .v (.int .i64 x.K), .v (.int .i64 x.Person), .v (.string x.Text)]
end D
inductive TC where
  | int
  | str
  | bool
  | u8
  | Label
  | Alert
  | Answer
  | Edit
  | Act
  deriving DecidableEq
abbrev TT : TC → Type
  | .int => Int
  | .str => ByteArray
  | .bool => Bool
  | .u8 => Int
  | .Label => D.Label
  | .Alert => D.Alert
  | .Answer => D.Answer
  | .Edit => D.Edit
  | .Act => D.Act
instance ttDec (t : TC) : DecidableEq (TT t) := by cases t <;> exact inferInstance
def tz : TC → Nat
  | .int => 1
  | .str => 1
  | .bool => 1
  | .u8 => 1
  | .Label => 2
  | .Alert => 3
  | .Answer => 6
  | .Edit => 5
  | .Act => 21
def tcells : (t : TC) → TT t → List PV
  | .int => D.cInt
  | .str => D.cStr
  | .bool => D.cBool
  | .u8 => (D.cK .u8)
  | .Label => D.Label.cells
  | .Alert => D.Alert.cells
  | .Answer => D.Answer.cells
  | .Edit => D.Edit.cells
  | .Act => D.Act.cells
section
inductive BV where
  | n (k : IntKind) (x : Int)
  | b (x : Bool)
  | s (x : ByteArray)
  | ts (f : Bool) (t : TC) (l : List (TT t))
  | nil
  | agg (cs : List BV)
  | tup (vs : List BV)
  | ref (n : Name) (off : Nat)
  /-- Where the box lies, or nothing. -/
  | sref (n : Name)
  | own (n : Name) (ver : Nat)
  | aref (n : Name) (ver i off : Nat)
  | view (n : Name) (ver lo hi : Nat)
  | cut (n : Name) (ver k : Nat)
  /-- A map. -/
  | mref (n : Name)
  | tep (cs : List BV)
  | clo (f : Fn) (caps : List BV)
  | v (x : Value)
  /-- A truth value that is not known. -/
  | ub
  /-- An error: nil (true), or not. -/
  | err (x : Bool)
  | any
inductive BO where
  | box (cells : List BV)
  | arr (t : TC) (l : List (TT t)) (ver : Nat)
  /-- A map from texts to truth values. -/
  | sm (es : List (ByteArray × Bool))
abbrev TS := List (Nat × BV)
abbrev HS := List (Name × BO)
def BV.pv : BV → PV
  | .n k x => .v (.int k x)
  | .b x => .v (.bool x)
  | .s x => .v (.string x)
  | .ts f t l => .sl f (tz t) (l.map (tcells t))
  | .nil => .sl true 0 []
  | .v x => .v x
  | _ => .v .nilIface
def BV.isP : BV → Bool
  | .n _ _ => true
  | .b _ => true
  | .s _ => true
  | .ts _ _ _ => true
  | .nil => true
  | .v _ => true
  | _ => false
abbrev Lens := Name → Nat → Nat
mutual
def BV.er (L : Lens) : BV → AV
  | .agg cs => .agg (erL L cs)
  | .tup vs => .tup (erL L vs)
  | .ref n o => .ref n o
  | .sref n => .sref n
  | .own n v => .own n (L n v)
  | .aref n v i o => .aref n (L n v) i o
  | .view n v i o => .view n (L n v) i o
  | .cut n v k => .cut n (L n v) k
  | .mref n => .oref true n
  | .tep cs => .eptr (pvL cs)
  | .clo f caps => .clo f [] (erL L caps)
  | .any => .any
  | .ub => .ub
  | .err x => .err x
  | .n k x => .p (.v (.int k x))
  | .b x => .p (.v (.bool x))
  | .s x => .p (.v (.string x))
  | .ts f t l => .p (.sl f (tz t) (l.map (tcells t)))
  | .nil => .p (.sl true 0 [])
  | .v x => .p (.v x)
def erL (L : Lens) : List BV → List AV
  | [] => []
  | x :: r => x.er L :: erL L r
def pvL : List BV → List PV
  | [] => []
  | x :: r => x.pv :: pvL r
end
variable {L L' : Lens}
theorem erL_map : ∀ l : List BV, erL L l = l.map (BV.er L)
  | [] => by simp only [erL, List.map_nil]
  | x :: r => by simp only [erL, List.map_cons, erL_map r]
theorem pvL_map : ∀ l : List BV, pvL l = l.map BV.pv
  | [] => by simp only [pvL, List.map_nil]
  | x :: r => by simp only [pvL, List.map_cons, pvL_map r]
theorem er_isP {x : BV} (h : x.isP = true) : x.er L = .p x.pv := by cases x <;> first | (simp only [BV.er, BV.pv]; done) | simp [BV.isP] at h
theorem erL_isP : ∀ {l : List BV}, l.all BV.isP = true → erL L l = pcells (pvL l)
  | [], _ => by simp only [erL, pvL, pcells, List.map_nil]
  | x :: r, h => by
    simp only [List.all_cons, Bool.and_eq_true] at h
    simp only [erL, pvL, pcells, List.map_cons, er_isP h.1, erL_isP h.2]
theorem erL_append (a b : List BV) : erL L (a ++ b) = erL L a ++ erL L b := by simp [erL_map]
theorem erL_length (a : List BV) : (erL L a).length = a.length := by simp [erL_map]
theorem erL_drop (a : List BV) (k : Nat) : erL L (a.drop k) = (erL L a).drop k := by simp [erL_map]
theorem erL_take (a : List BV) (k : Nat) : erL L (a.take k) = (erL L a).take k := by simp [erL_map]
theorem erL_get (a : List BV) (k : Nat) : (erL L a)[k]? = (a[k]?).map (BV.er L) := by simp [erL_map]
theorem erL_setAt (a b : List BV) (k : Nat) : erL L (setAt a k b) = setAt (erL L a) k (erL L b) := by simp [erL_map, setAt]
theorem pvL_drop (a : List BV) (k : Nat) : pvL (a.drop k) = (pvL a).drop k := by simp [pvL_map]
theorem pvL_take (a : List BV) (k : Nat) : pvL (a.take k) = (pvL a).take k := by simp [pvL_map]
theorem pvL_length (a : List BV) : (pvL a).length = a.length := by simp [pvL_map]
theorem pvL_get (a : List BV) (k : Nat) : (pvL a)[k]? = (a[k]?).map BV.pv := by simp [pvL_map]
theorem pvL_setAt (a b : List BV) (k : Nat) : pvL (setAt a k b) = setAt (pvL a) k (pvL b) := by simp [pvL_map, setAt]
def BO.er (L : Lens) : BO → AO
  | .box cells => .box (erL L cells)
  | .arr t l _ => .arr (tz t) (l.map (tcells t))
  | .sm es => .obj (smap (es.map fun p => (p.1, .bool p.2)))
def erT (L : Lens) (ts : TS) : List (Nat × AV) := ts.map fun p => (p.1, p.2.er L)
def erH (L : Lens) (hs : HS) : List (Name × AO) := hs.map fun p => (p.1, p.2.er L)
theorem look_erT (k : Nat) : ∀ ts : TS, look k (erT L ts) = (look k ts).map (BV.er L)
  | [] => rfl
  | (j, x) :: r => by
    show look k ((j, x.er L) :: erT L r) = (look k ((j, x) :: r)).map (BV.er L)
    simp only [look]; split
    · rfl
    · exact look_erT k r
theorem look_erH (k : Nat) : ∀ hs : HS, look k (erH L hs) = (look k hs).map (BO.er L)
  | [] => rfl
  | (j, x) :: r => by
    show look k ((j, x.er L) :: erH L r) = (look k ((j, x) :: r)).map (BO.er L)
    simp only [look]; split
    · rfl
    · exact look_erH k r
theorem erH_append (a b : HS) : erH L (a ++ b) = erH L a ++ erH L b := by simp [erH]
theorem keys_erH (a : HS) : keys (erH L a) = keys a := by simp [erH, keys]
mutual
def BV.has (n : Name) : BV → Bool
  | .agg cs => BV.hasL n cs
  | .tup vs => BV.hasL n vs
  | .clo _ cs => BV.hasL n cs
  | .ref m _ => m == n
  | .sref m => m == n
  | .own m _ => m == n
  | .aref m _ _ _ => m == n
  | .view m _ _ _ => m == n
  | .cut m _ _ => m == n
  | .mref m => m == n
  | _ => false
def BV.hasL (n : Name) : List BV → Bool
  | [] => false
  | x :: r => BV.has n x || BV.hasL n r
end
mutual
theorem has_er (n : Name) : ∀ x : BV, (x.er L).has n = x.has n
  | .agg cs => by simp only [BV.er, AV.has, BV.has, hasL_er n cs]
  | .tup cs => by simp only [BV.er, AV.has, BV.has, hasL_er n cs]
  | .clo f cs => by simp only [BV.er, AV.has, BV.has, hasL_er n cs, AV.hasL, Bool.false_or]
  | .ref _ _ => by simp only [BV.er, AV.has, BV.has]
  | .sref _ => by simp only [BV.er, AV.has, BV.has]
  | .own _ _ => by simp only [BV.er, AV.has, BV.has]
  | .aref _ _ _ _ => by simp only [BV.er, AV.has, BV.has]
  | .view _ _ _ _ => by simp only [BV.er, AV.has, BV.has]
  | .cut _ _ _ => by simp only [BV.er, AV.has, BV.has]
  | .mref _ => by simp only [BV.er, AV.has, BV.has]
  | .tep _ => by simp only [BV.er, AV.has, BV.has]
  | .any => by simp only [BV.er, AV.has, BV.has]
  | .ub => by simp only [BV.er, AV.has, BV.has]
  | .err _ => by simp only [BV.er, AV.has, BV.has]
  | .n _ _ => by simp only [BV.er, AV.has, BV.has]
  | .b _ => by simp only [BV.er, AV.has, BV.has]
  | .s _ => by simp only [BV.er, AV.has, BV.has]
  | .ts _ _ _ => by simp only [BV.er, AV.has, BV.has]
  | .nil => by simp only [BV.er, AV.has, BV.has]
  | .v _ => by simp only [BV.er, AV.has, BV.has]
theorem hasL_er (n : Name) : ∀ l : List BV, AV.hasL n (erL L l) = BV.hasL n l
  | [] => by simp only [erL, AV.hasL, BV.hasL]
  | x :: r => by simp only [erL, AV.hasL, BV.hasL, has_er n x, hasL_er n r]
end
mutual
def BV.nov (n : Name) (v : Nat) : BV → Bool
  | .agg cs => BV.novL n v cs
  | .tup vs => BV.novL n v vs
  | .clo _ cs => BV.novL n v cs
  | .own m u => !(Nat.beq m n && Nat.beq u v)
  | .aref m u _ _ => !(Nat.beq m n && Nat.beq u v)
  | .view m u _ _ => !(Nat.beq m n && Nat.beq u v)
  | .cut m u _ => !(Nat.beq m n && Nat.beq u v)
  | _ => true
def BV.novL (n : Name) (v : Nat) : List BV → Bool
  | [] => true
  | x :: r => BV.nov n v x && BV.novL n v r
end
mutual
theorem er_congr : ∀ x : BV, (∀ n v, x.nov n v = false → L n v = L' n v) → x.er L = x.er L'
  | .agg cs, h => by simp only [BV.er, erL_congr cs (fun n v hn => h n v (by simpa only [BV.nov] using hn))]
  | .tup cs, h => by simp only [BV.er, erL_congr cs (fun n v hn => h n v (by simpa only [BV.nov] using hn))]
  | .clo f cs, h => by simp only [BV.er, erL_congr cs (fun n v hn => h n v (by simpa only [BV.nov] using hn))]
  | .ref _ _, _ => by simp only [BV.er]
  | .sref _, _ => by simp only [BV.er]
  | .own m u, h => by simp only [BV.er, h m u (by simp [BV.nov])]
  | .aref m u _ _, h => by simp only [BV.er, h m u (by simp [BV.nov])]
  | .view m u _ _, h => by simp only [BV.er, h m u (by simp [BV.nov])]
  | .cut m u _, h => by simp only [BV.er, h m u (by simp [BV.nov])]
  | .mref _, _ => by simp only [BV.er]
  | .tep _, _ => by simp only [BV.er]
  | .any, _ => by simp only [BV.er]
  | .ub, _ => by simp only [BV.er]
  | .err _, _ => by simp only [BV.er]
  | .n _ _, _ => by simp only [BV.er]
  | .b _, _ => by simp only [BV.er]
  | .s _, _ => by simp only [BV.er]
  | .ts _ _ _, _ => by simp only [BV.er]
  | .nil, _ => by simp only [BV.er]
  | .v _, _ => by simp only [BV.er]
theorem erL_congr : ∀ l : List BV, (∀ n v, BV.novL n v l = false → L n v = L' n v) → erL L l = erL L' l
  | [], _ => by simp only [erL]
  | x :: r, h => by
    simp only [erL, er_congr x (fun n v hn => h n v (by simp only [BV.novL, hn, Bool.false_and])), erL_congr r (fun n v hn => h n v (by simp only [BV.novL, hn, Bool.and_false]))]
end
mutual
theorem nov_has {n : Name} {v : Nat} : ∀ x : BV, x.nov n v = false → x.has n = true
  | .agg cs, h => by simp only [BV.nov] at h; simp only [BV.has, novL_has cs h]
  | .tup cs, h => by simp only [BV.nov] at h; simp only [BV.has, novL_has cs h]
  | .clo f cs, h => by simp only [BV.nov] at h; simp only [BV.has, novL_has cs h]
  | .ref _ _, h => by simp [BV.nov] at h
  | .sref _, h => by simp [BV.nov] at h
  | .own m u, h => by simp only [BV.nov, Bool.not_eq_false', Bool.and_eq_true, Nat.beq_eq] at h; simp [BV.has, h.1]
  | .view m u _ _, h => by simp only [BV.nov, Bool.not_eq_false', Bool.and_eq_true, Nat.beq_eq] at h; simp [BV.has, h.1]
  | .cut m u _, h => by simp only [BV.nov, Bool.not_eq_false', Bool.and_eq_true, Nat.beq_eq] at h; simp [BV.has, h.1]
  | .mref _, h => by simp [BV.nov] at h
  | .aref m u _ _, h => by simp only [BV.nov, Bool.not_eq_false', Bool.and_eq_true, Nat.beq_eq] at h; simp [BV.has, h.1]
  | .tep _, h => by simp [BV.nov] at h
  | .any, h => by simp [BV.nov] at h
  | .ub, h => by simp [BV.nov] at h
  | .err _, h => by simp [BV.nov] at h
  | .n _ _, h => by simp [BV.nov] at h
  | .b _, h => by simp [BV.nov] at h
  | .s _, h => by simp [BV.nov] at h
  | .ts _ _ _, h => by simp [BV.nov] at h
  | .nil, h => by simp [BV.nov] at h
  | .v _, h => by simp [BV.nov] at h
theorem novL_has {n : Name} {v : Nat} : ∀ l : List BV, BV.novL n v l = false → BV.hasL n l = true
  | [], h => by simp [BV.novL] at h
  | x :: r, h => by
    simp only [BV.novL, Bool.and_eq_false_iff] at h
    simp only [BV.hasL, Bool.or_eq_true]
    exact h.imp (nov_has x) (novL_has r)
end
def BO.has (n : Name) : BO → Bool
  | .box cells => BV.hasL n cells
  | .arr _ _ _ => false
  | .sm _ => false
def BO.nov (n : Name) (v : Nat) : BO → Bool
  | .box cells => BV.novL n v cells
  | .arr _ _ _ => true
  | .sm _ => true
theorem hasO_er (n : Name) (o : BO) : (o.er L).has n = o.has n := by cases o <;> simp only [BO.er, AO.has, BO.has, hasL_er]
def freeS (n : Name) (ts : TS) (hs : HS) : Bool := ts.all (fun p => !p.2.has n) && hs.all (fun p => !p.2.has n)
theorem freeS_er {n : Name} {ts : TS} {hs : HS} : freeIn n (erT L ts) (erH L hs) = freeS n ts hs := by
  simp only [freeIn, freeS, erT, erH, List.all_map]
  congr 1
  · congr 1; funext p; simp only [Function.comp, has_er]
  · congr 1; funext p; simp only [Function.comp, hasO_er]
def novS (n : Name) (v : Nat) (ts : TS) (hs : HS) : Bool := ts.all (fun p => p.2.nov n v) && hs.all (fun p => p.2.nov n v)
theorem erO_congr (o : BO) (h : ∀ n v, o.nov n v = false → L n v = L' n v) : o.er L = o.er L' := by
  cases o with
  | box cs => simp only [BO.er, erL_congr cs (fun n v hn => h n v (by simpa only [BO.nov] using hn))]
  | arr t l => simp only [BO.er]
  | sm es => simp only [BO.er]
theorem novO_has {n : Name} {v : Nat} (o : BO) (h : o.nov n v = false) : o.has n = true := by
  cases o with
  | box cs => exact novL_has cs h
  | arr t l => simp [BO.nov] at h
  | sm es => simp [BO.nov] at h
theorem erS_congr {nw : List Name} {nv : List (Name × Nat)} {ts : TS} {hs : HS} (h1 : ∀ n, n ∈ nw → freeS n ts hs = true) (h2 : ∀ p, p ∈ nv → novS p.1 p.2 ts hs = true) (h : ∀ n v, n ∉ nw → (n, v) ∉ nv → L' n v = L n v) : erT L ts = erT L' ts ∧ erH L hs = erH L' hs := by
  have key : ∀ n v, ((∃ p ∈ ts, p.2.nov n v = false) ∨ (∃ p ∈ hs, p.2.nov n v = false)) → L n v = L' n v := fun n v hx => by
    refine (h n v (fun hn => ?_) (fun hn => ?_)).symm
    · have := h1 n hn
      simp only [freeS, Bool.and_eq_true, List.all_eq_true] at this
      rcases hx with ⟨p, hp, hq⟩ | ⟨p, hp, hq⟩
      · have := this.1 p hp; rw [nov_has _ hq] at this; simp at this
      · have := this.2 p hp; rw [novO_has _ hq] at this; simp at this
    · have := h2 _ hn
      simp only [novS, Bool.and_eq_true, List.all_eq_true] at this
      grind
  unfold erT erH
  refine ⟨List.map_congr_left fun p hp => ?_, List.map_congr_left fun p hp => ?_⟩
  · rw [er_congr p.2 (fun n v hn => key n v (.inl ⟨p, hp, hn⟩))]
  · rw [erO_congr p.2 (fun n v hn => key n v (.inr ⟨p, hp, hn⟩))]
section
variable {R : Type}
def cnd (c : Bool) (x y : Option R) : Option R := match c with | true => x | false => y
def natc (j : Int) (k : Nat → Option R) : Option R := if 0 ≤ j then k j.toNat else none
def optc {α : Type} (o : Option α) (k : α → Option R) : Option R := match o with | some x => k x | none => none
def atc {α : Type} (l : List α) (j : Int) (k : α → Option R) : Option R := natc j fun i => optc l[i]? k
def chk (a b : Nat) (x : Option R) : Option R := if a = b then x else none
def ltc (a b : Nat) (x : Option R) : Option R := if a < b then x else none
def nilC {α : Type} (l : List α) (x y : Option R) : Option R := match l with | [] => x | _ :: _ => y
def both [DecidableEq R] (x y : Option R) : Option R := if x = y then x else none
def lec (a b : Nat) (x : Option R) : Option R := if a ≤ b then x else none
def nzc (b : Int) (x : Option R) : Option R := if b = 0 then none else x
def iterF {X : Type} (B : (X → Option R) → X → Option R) : Nat → X → Option R
  | 0, _ => none
  | n + 1, x => B (iterF B n) x
def join {Y : Type} (k : Y → Option R) (f : (Y → Option R) → Option R) : Option R := f k
variable {r : R}
theorem cnd_some {c : Bool} {x y : Option R} (h : cnd c x y = some r) : c = true ∧ x = some r ∨ c = false ∧ y = some r := by
  cases c
  · exact .inr ⟨rfl, h⟩
  · exact .inl ⟨rfl, h⟩
theorem nilC_some {α : Type} {l : List α} {x y : Option R} (h : nilC l x y = some r) : l = [] ∧ x = some r ∨ l ≠ [] ∧ y = some r := by
  cases l with
  | nil => exact .inl ⟨rfl, h⟩
  | cons a q => exact .inr ⟨by simp, h⟩
theorem both_some [DecidableEq R] {x y : Option R} (h : both x y = some r) : x = some r ∧ y = some r := by
  unfold both at h
  simp_all
theorem natc_some {j : Int} {k : Nat → Option R} (h : natc j k = some r) : ∃ i : Nat, j = (i : Int) ∧ k i = some r := by
  unfold natc at h
  grind
theorem optc_some {α : Type} {o : Option α} {k : α → Option R} (h : optc o k = some r) : ∃ x, o = some x ∧ k x = some r := by
  cases o with
  | none => simp [optc] at h
  | some x => exact ⟨x, rfl, h⟩
theorem atc_some {α : Type} {l : List α} {j : Int} {k : α → Option R} (h : atc l j k = some r) : ∃ (i : Nat) (x : α), j = (i : Int) ∧ l[i]? = some x ∧ k x = some r := by
  obtain ⟨i, hi, h2⟩ := natc_some h
  obtain ⟨x, hx, h3⟩ := optc_some h2
  grind
theorem chk_some {a b : Nat} {x : Option R} (h : chk a b x = some r) : a = b ∧ x = some r := by
  unfold chk at h; split at h
  · simp_all
  · simp at h
theorem ltc_some {a b : Nat} {x : Option R} (h : ltc a b x = some r) : a < b ∧ x = some r := by
  unfold ltc at h; split at h
  · simp_all
  · simp at h
theorem lec_some {a b : Nat} {x : Option R} (h : lec a b x = some r) : a ≤ b ∧ x = some r := by
  unfold lec at h; split at h
  · simp_all
  · simp at h
theorem nzc_some {b : Int} {x : Option R} (h : nzc b x = some r) : b ≠ 0 ∧ x = some r := by
  unfold nzc at h; split at h
  · simp at h
  · simp_all
end
def BV.isQ : BV → Bool
  | .n _ _ => true
  | .b _ => true
  | .s _ => true
  | .ts false _ _ => true
  | _ => false
theorem isQ_ts {b : Bool} {t : TC} {x : List (TT t)} (h : BV.isQ (.ts b t x) = true) : BV.ts b t x = .ts false t x := by
  cases b
  · rfl
  · simp [BV.isQ] at h
theorem isQ_isP {x : BV} (h : x.isQ = true) : x.isP = true := by
  cases x <;> first | rfl | simp [BV.isQ] at h
def CLe (x y : BV) : Prop := (∀ L, AVle (x.er L) (y.er L)) ∧ (x.isQ = true → x = y)
def Le (a b : List BV) : Prop := (∀ L, AVleL (erL L a) (erL L b)) ∧ (a.all BV.isQ = true → a = b)
theorem AVleL.refl : ∀ l : List AV, AVleL l l
  | [] => .nil
  | x :: r => .cons (.refl x) (AVleL.refl r)
theorem Le.refl (l : List BV) : Le l l := ⟨fun L => AVleL.refl _, fun _ => rfl⟩
theorem Le.cons {x y : BV} {a b : List BV} (h : CLe x y) (h' : Le a b) : Le (x :: a) (y :: b) := ⟨fun L => by simp only [erL]; exact AVleL.cons (h.1 L) (h'.1 L), fun hq => by
  simp only [List.all_cons, Bool.and_eq_true] at hq
  rw [h.2 hq.1, h'.2 hq.2]⟩
theorem Le.cons' {x : BV} {a b : List BV} (h' : Le a b) : Le (x :: a) (x :: b) := ⟨fun L => by simp only [erL]; exact AVleL.cons (.refl _) (h'.1 L), fun hq => by
  simp only [List.all_cons, Bool.and_eq_true] at hq
  rw [h'.2 hq.2]⟩
def castL {t t0 : TC} (h : t = t0) (l : List (TT t)) : List (TT t0) := h ▸ l
section
variable {R : Type} {r : R}
def popN (k0 : IntKind) : List BV → (Int → List BV → Option R) → Option R
  | .n k x :: l, K => if kEq k0 k then K x l else none
  | _, _ => none
def popB : List BV → (Bool → List BV → Option R) → Option R
  | .b x :: l, K => K x l
  | _, _ => none
def popS : List BV → (ByteArray → List BV → Option R) → Option R
  | .s x :: l, K => K x l
  | _, _ => none
def popT (t0 : TC) : List BV → (List (TT t0) → List BV → Option R) → Option R
  | .ts _ t x :: l, K => if h : t = t0 then K (castL h x) l else none
  | .nil :: l, K => K [] l
  | _, _ => none
theorem popN_some {k0 : IntKind} {cs : List BV} {K : Int → List BV → Option R} (h : popN k0 cs K = some r) : ∃ x l, cs = .n k0 x :: l ∧ K x l = some r := by
  unfold popN at h
  split at h
  · split at h
    · rename_i he; have := kEq_of he; subst this; exact ⟨_, _, rfl, h⟩
    · simp at h
  · simp at h
theorem popB_some {cs : List BV} {K : Bool → List BV → Option R} (h : popB cs K = some r) : ∃ x l, cs = .b x :: l ∧ K x l = some r := by
  unfold popB at h
  grind
theorem popS_some {cs : List BV} {K : ByteArray → List BV → Option R} (h : popS cs K = some r) : ∃ x l, cs = .s x :: l ∧ K x l = some r := by
  unfold popS at h
  grind
theorem nil_le (t : TC) (L : Lens) : AVle (BV.nil.er L) ((BV.ts false t []).er L) := by simp only [BV.er]; exact .p (PVle.nil (fun h => by simp at h))
theorem popT_some {t0 : TC} {cs : List BV} {K : List (TT t0) → List BV → Option R} (h : popT t0 cs K = some r) : ∃ x l v, cs = v :: l ∧ CLe v (.ts false t0 x) ∧ K x l = some r := by
  unfold popT at h
  split at h
  · split at h
    · rename_i he; subst he; exact ⟨_, _, _, rfl, ⟨fun L => by simp only [BV.er, castL]; exact .p (PVle.full _), fun hq => isQ_ts hq⟩, h⟩
    · simp at h
  · exact ⟨_, _, _, rfl, ⟨nil_le t0, fun hq => by simp [BV.isQ] at hq⟩, h⟩
  · simp at h
end
end
open Go
def tb : (t : TC) → TT t → List BV
  | .int, x => [.n .i64 x]
  | .str, x => [.s x]
  | .bool, x => [.b x]
  | .u8, x => [.n .u8 x]
  | .Label, x => [.s x.Key, .s x.Value]
  | .Alert, x => [.n .i64 x.At, .ts false .Label x.Labels, .b x.Firing]
  | .Answer, x => [.n .i64 x.ID, .n .i64 x.Page, .n .i64 x.Person, .n .i64 x.Kind, .n .i64 x.Arg, .n .i64 x.At]
  | .Edit, x => [.n .i64 x.Kind, .n .i64 x.A, .n .i64 x.B, .n .i64 x.From, .n .i64 x.To]
  | .Act, x => [.n .i64 x.Kind, .n .i64 x.At, .n .i64 x.Alert.At, .ts false .Label x.Alert.Labels, .b x.Alert.Firing, .n .i64 x.Answer.ID, .n .i64 x.Answer.Page, .n .i64 x.Answer.Person, .n .i64 x.Answer.Kind, .n .i64 x.Answer.Arg, .n .i64 x.Answer.At, .n .i64 x.Schedule, .n .i64 x.Edit.Kind, .n .i64 x.Edit.A, .n .i64 x.Edit.B, .n .i64 x.Edit.From, .n .i64 x.Edit.To, .n .i64 x.Arg, .n .i64 x.K, .n .i64 x.Person, .s x.Text]
theorem tb_isP (t : TC) (x : TT t) : (tb t x).all BV.isP = true := by cases t <;> rfl
theorem tb_pv (t : TC) (x : TT t) : pvL (tb t x) = tcells t x := by cases t <;> rfl
section
variable {R : Type} {r : R}
def tpop : (t : TC) → List BV → (TT t → List BV → Option R) → Option R
  | .int, c, K => popN .i64 c K
  | .str, c, K => popS c K
  | .bool, c, K => popB c K
  | .u8, c, K => popN .u8 c K
  | .Label, c, K => popS c fun a0 c => popS c fun a1 c => K ⟨a0, a1⟩ c
  | .Alert, c, K => popN .i64 c fun a0 c => popT .Label c fun a1 c => popB c fun a2 c => K ⟨a0, a1, a2⟩ c
  | .Answer, c, K => popN .i64 c fun a0 c => popN .i64 c fun a1 c => popN .i64 c fun a2 c => popN .i64 c fun a3 c => popN .i64 c fun a4 c => popN .i64 c fun a5 c => K ⟨a0, a1, a2, a3, a4, a5⟩ c
  | .Edit, c, K => popN .i64 c fun a0 c => popN .i64 c fun a1 c => popN .i64 c fun a2 c => popN .i64 c fun a3 c => popN .i64 c fun a4 c => K ⟨a0, a1, a2, a3, a4⟩ c
  | .Act, c, K => popN .i64 c fun a0 c => popN .i64 c fun a1 c => popN .i64 c fun a2 c => popT .Label c fun a3 c => popB c fun a4 c => popN .i64 c fun a5 c => popN .i64 c fun a6 c => popN .i64 c fun a7 c => popN .i64 c fun a8 c => popN .i64 c fun a9 c => popN .i64 c fun a10 c => popN .i64 c fun a11 c => popN .i64 c fun a12 c => popN .i64 c fun a13 c => popN .i64 c fun a14 c => popN .i64 c fun a15 c => popN .i64 c fun a16 c => popN .i64 c fun a17 c => popN .i64 c fun a18 c => popN .i64 c fun a19 c => popS c fun a20 c => K ⟨a0, a1, ⟨a2, a3, a4⟩, ⟨a5, a6, a7, a8, a9, a10⟩, a11, ⟨a12, a13, a14, a15, a16⟩, a17, a18, a19, a20⟩ c
theorem tpop_some (t : TC) {cs : List BV} {K : TT t → List BV → Option R} (h : tpop t cs K = some r) : ∃ x l, Le cs (tb t x ++ l) ∧ K x l = some r := by
  cases t <;> dsimp only [tpop] at h <;> (repeat' (first | (replace h := popN_some h; obtain ⟨_, _, e, h⟩ := h; subst e) | (replace h := popS_some h; obtain ⟨_, _, e, h⟩ := h; subst e) | (replace h := popB_some h; obtain ⟨_, _, e, h⟩ := h; subst e) | (replace h := popT_some h; obtain ⟨_, _, _, e, _, h⟩ := h; subst e))) <;> (refine ⟨_, _, ?_, h⟩; repeat' (first | exact .refl _ | apply Le.cons' | (apply Le.cons; assumption)))
end
section
theorem Sim.leS {Γ : Ctx} {s s' : AS} {ρ : Name → Loc} {M : Nat → Prop} {a : Act} {w : World} (h : Sim Γ ρ M s a w)
    (h1 : ∀ t y, s'.slot t = some y → ∃ x, s.slot t = some x ∧ AVle x y)
    (h2 : ∀ n, (∀ y, s'.heap n = some y → ∃ x, s.heap n = some x ∧ AOle x y) ∧ (∀ x, s.heap n = some x → ∃ y, s'.heap n = some y ∧ AOle x y)) (hf : ∀ n x y, s.heap n = some x → s'.heap n = some y → x = y ∨ (∃ cs ds, x = .box cs ∧ y = .box ds) ∨ (∃ es rs qs, x = .arr es rs ∧ y = .arr es qs)) : Sim Γ ρ M s' a w := by
  have hst : HStep ρ s.heap ρ s'.heap := fun n ob hn => by
    obtain ⟨y, hy, hle⟩ := (h2 n).2 ob hn
    rw [hy]
    exact stays_le hle (stays_refl _ _)
  have hnn : ∀ n, s.heap n = none → s'.heap n = none := fun n hn => by
    cases hc : s'.heap n with
    | none => rfl
    | some y =>
      grind
  have hconv : ∀ {x : AV} {u : Value}, x.R ρ s.heap M w u → x.R ρ s'.heap M w u := fun hr =>
    hr.step (Ext.refl (fun _ => False) _) (fun _ hb => hb.elim) (fun b _ hb => hb) hst (fun n _ => hnn n)
  have hconvs : ∀ {xs : List AV} {us : List Value}, AV.Rs ρ s.heap M w xs us → AV.Rs ρ s'.heap M w xs us := fun hr =>
    hr.step (Ext.refl (fun _ => False) _) (fun _ hb => hb.elim) (fun b _ hb => hb) hst (fun n _ => hnn n)
  refine ⟨h.n, h.d, fun t y hy => ?_, fun n y hy => ?_, fun n m o o' b g1 g2 => ?_, fun n o b g1 g2 => ?_, fun n hn => ?_, h.ext, h.mext, h.msize, h.m0, h.ground⟩
  · obtain ⟨x, hx, hle⟩ := h1 t y hy
    obtain ⟨u, hu, hr⟩ := h.slots t x hx
    exact ⟨u, hu, hle.sound u (hconv hr)⟩
  · obtain ⟨x, hx, hle⟩ := (h2 n).1 y hy
    have hobj := h.objs n x hx
    rcases hf n x y hx hy with rfl | ⟨cs, ds, rfl, rfl⟩ | ⟨es, rs, qs, rfl, rfl⟩
    · cases x with
      | box cells => obtain ⟨b, T, cs, k1, k2, k3, k4⟩ := hobj; exact ⟨b, T, cs, k1, k2, k3, hconvs k4⟩
      | arr es rows => exact hobj
      | hole es pre row post => obtain ⟨k0, k0', k1, b, T, cs, k3, k4, k5, k6, k7, k8, k9⟩ := hobj; exact ⟨k0, k0', k1, b, T, cs, k3, k4, k5, k6, k7, hconvs k8, k9⟩
      | fact a x => exact ⟨hobj.1, hconv hobj.2⟩
      | obj x => exact hobj
    · obtain ⟨b, T, us, k1, k2, k3, k4⟩ := hobj
      refine ⟨b, T, us, k1, k2, k3, ?_⟩
      cases hle with
      | refl => exact hconvs k4
      | box hb => exact Rs_le hb _ (hconvs k4)
    · cases hle with
      | refl => exact hobj
      | arr hr =>
        obtain ⟨k0, k1, k2⟩ := hobj
        refine ⟨k0, by rw [← hr.length]; exact k1, k2.imp id ?_⟩
        rintro ⟨b, T, cs, q1, q2, q3, q4, q5⟩
        exact ⟨b, T, cs, q1, q2, q3, q4, hr.rows q5⟩
  · obtain ⟨x, hx, _⟩ := (h2 n).1 o g1
    obtain ⟨x', hx', _⟩ := (h2 m).1 o' g2
    exact h.inj n m x x' b hx hx'
  · obtain ⟨x, hx, _⟩ := (h2 n).1 o g1
    exact h.own0 n x b hx g2
  · obtain ⟨x, hx, hst'⟩ := h.keep n hn
    obtain ⟨y, hy, hle⟩ := (h2 n).2 x hx
    exact ⟨y, hy, stays_le hle hst'⟩
def Inv (L : Lens) (hs : HS) : Prop := ∀ n t l v, look n hs = some (.arr t l v) → L n v = l.length
def BS (L : Lens) (ts : TS) (hs : HS) : AS := mk (erT L ts) (erH L hs)
variable {L L' : Lens} {ts ts' : TS} {hs hs' : HS}
theorem BS_slot (t : Nat) : (BS L ts hs).slot t = (look t ts).map (BV.er L) := look_erT t ts
theorem BS_heap (n : Nat) : (BS L ts hs).heap n = (look n hs).map (BO.er L) := look_erH n hs
theorem slot_of {t : Nat} {y : AV} (h : (BS L ts hs).slot t = some y) : ∃ v, look t ts = some v ∧ y = v.er L := by
  rw [BS_slot] at h
  cases hl : look t ts with
  | none => rw [hl] at h; simp at h
  | some v => rw [hl] at h; exact ⟨v, rfl, by simpa using h.symm⟩
theorem heap_of {t : Nat} {y : AO} (h : (BS L ts hs).heap t = some y) : ∃ v, look t hs = some v ∧ y = v.er L := by
  rw [BS_heap] at h
  cases hl : look t hs with
  | none => rw [hl] at h; simp at h
  | some v => rw [hl] at h; exact ⟨v, rfl, by simpa using h.symm⟩
structure SLe (L : Lens) (ts : TS) (hs : HS) (L' : Lens) (ts' : TS) (hs' : HS) : Prop where
  slot : ∀ t y, look t ts' = some y → ∃ x, look t ts = some x ∧ AVle (x.er L) (y.er L')
  box : ∀ n cs', look n hs' = some (.box cs') → ∃ cs, look n hs = some (.box cs) ∧ AVleL (erL L cs) (erL L' cs')
  arr : ∀ n t l v, look n hs' = some (.arr t l v) → ∃ u, look n hs = some (.arr t l u)
  sm : ∀ n es, look n hs' = some (.sm es) → look n hs = some (.sm es)
theorem Sim.sle {Γ : Ctx} {ρ : Name → Loc} {M : Nat → Prop} {a : Act} {w : World} (h : Sim Γ ρ M (BS L ts hs) a w) (h' : SLe L ts hs L' ts' hs') (hk : ∀ n, n ∈ Γ.names → look n hs' ≠ none) : Sim Γ ρ M (BS L' ts' hs') a w := by
  have ho : ∀ n y, look n hs' = some y → ∃ x, look n hs = some x ∧ AOle (x.er L) (y.er L') ∧ (x.er L = y.er L' ∨ (∃ cs ds, x.er L = .box cs ∧ y.er L' = .box ds) ∨ ∃ es rs qs, x.er L = .arr es rs ∧ y.er L' = .arr es qs) := fun n y hy => by
    cases y with
    | box cs' => obtain ⟨cs, g1, g2⟩ := h'.box n cs' hy; exact ⟨_, g1, .box g2, .inr (.inl ⟨_, _, rfl, rfl⟩)⟩
    | arr t l v => obtain ⟨u, hu⟩ := h'.arr n t l v hy; exact ⟨_, hu, .refl _, .inl rfl⟩
    | sm es => exact ⟨_, h'.sm n es hy, .refl _, .inl rfl⟩
  have h0 : Sim Γ ρ M ⟨(BS L ts hs).slot, fun n => if (look n hs').isSome then (BS L ts hs).heap n else none⟩ a w := by
    refine h.forget (fun t x hx => hx) (fun n o hn => ?_) (fun n hn hc => ?_)
    · simp_all
    · cases hl : look n hs' with
      | none => exact hk n hn hl
      | some y =>
        obtain ⟨x, hx, _⟩ := ho n y hl
        simp only [hl, Option.isSome_some, if_true, BS_heap, hx, Option.map_some, reduceCtorEq] at hc
  refine h0.leS (fun t y hy => ?_) (fun n => ⟨fun y hy => ?_, fun x hx => ?_⟩) (fun n x y hx hy => ?_)
  · obtain ⟨v, hv, rfl⟩ := slot_of hy
    obtain ⟨x, hx, hle⟩ := h'.slot t v hv
    exact ⟨x.er L, by show (BS L ts hs).slot t = _; rw [BS_slot, hx]; rfl, hle⟩
  · obtain ⟨v, hv, rfl⟩ := heap_of hy
    obtain ⟨x, hx, hle, _⟩ := ho n v hv
    exact ⟨x.er L, by simp only [hv, Option.isSome_some, if_true, BS_heap, hx, Option.map_some], hle⟩
  · simp only at hx
    split at hx
    · rename_i hs
      obtain ⟨y, hy⟩ := Option.isSome_iff_exists.1 hs
      obtain ⟨v, hv, rfl⟩ := heap_of hx
      obtain ⟨x, hx', hle, _⟩ := ho n y hy
      rw [hv] at hx'; cases hx'
      exact ⟨y.er L', by rw [BS_heap, hy]; rfl, hle⟩
    · simp at hx
  · simp only at hx
    split at hx
    · obtain ⟨v, hv, rfl⟩ := heap_of hx
      obtain ⟨y', hy', rfl⟩ := heap_of hy
      grind
    · simp at hx
theorem look_mapT {f : BV → BV} (k : Nat) : ∀ ts : TS, look k (ts.map fun p => (p.1, f p.2)) = (look k ts).map f
  | [] => rfl
  | (j, x) :: r => by
    show look k ((j, f x) :: r.map fun p => (p.1, f p.2)) = (look k ((j, x) :: r)).map f
    simp only [look]; split
    · rfl
    · exact look_mapT k r
def isIn (m : Name) (ns : List Name) : Bool := ns.any fun n => Nat.beq n m
theorem isIn_iff {m : Name} {ns : List Name} : isIn m ns = true ↔ m ∈ ns := by
  unfold isIn; rw [List.any_eq_true]
  simp_all
mutual
def BV.frz (n : Name) (v : Nat) (t : TC) (l : List (TT t)) : BV → BV
  | .own m u => if Nat.beq m n then (if Nat.beq u v then .ts false t l else .any) else .own m u
  | .aref m u i o => if Nat.beq m n then .any else .aref m u i o
  | .cut m u k => if Nat.beq m n then .any else .cut m u k
  | .view m u i o => if Nat.beq m n then (if Nat.beq u v then .ts false t ((l.take o).drop i) else .any) else .view m u i o
  | .agg cs => .agg (frzL n v t l cs)
  | x => x
def frzL (n : Name) (v : Nat) (t : TC) (l : List (TT t)) : List BV → List BV
  | [] => []
  | x :: r => BV.frz n v t l x :: frzL n v t l r
end
mutual
def BV.sh (n : Name) (v : Nat) : BV → BV
  | .own m u => if Nat.beq m n then (if Nat.beq u v then .own m u else .any) else .own m u
  | .aref m u i o => if Nat.beq m n then .any else .aref m u i o
  | .cut m u k => if Nat.beq m n then .any else .cut m u k
  | .view m u i o => if Nat.beq m n then (if Nat.beq u v then .view m u i o else .any) else .view m u i o
  | .agg cs => .agg (shL n v cs)
  | x => x
def shL (n : Name) (v : Nat) : List BV → List BV
  | [] => []
  | x :: r => BV.sh n v x :: shL n v r
end
def fzCell (n : Name) (c : BV) : Bool := match c with
  | .own _ _ => true
  | .aref _ _ _ _ => true
  | .cut _ _ _ => true
  | .view _ _ _ _ => true
  | .agg _ => false
  | x => !x.has n
def BV.fzOK (n : Name) : BV → Bool
  | .agg cs => cs.all (fzCell n)
  | x => fzCell n x
def BO.frz (n : Name) (v : Nat) (t : TC) (l : List (TT t)) : BO → BO
  | .box cs => .box (frzL n v t l cs)
  | .arr t l v => .arr t l v
  | .sm es => .sm es
def BO.sh (n : Name) (v : Nat) : BO → BO
  | .box cs => .box (shL n v cs)
  | .arr t l v => .arr t l v
  | .sm es => .sm es
def BO.fzOK (n : Name) : BO → Bool
  | .box cs => cs.all (fzCell n)
  | .arr _ _ _ => true
  | .sm _ => true
def fzT (n : Name) (v : Nat) (t : TC) (l : List (TT t)) (ts : TS) : TS := ts.map fun p => (p.1, p.2.frz n v t l)
def fzH (n : Name) (v : Nat) (t : TC) (l : List (TT t)) : HS → HS
  | [] => []
  | (k, o) :: r => if Nat.beq k n then fzH n v t l r else (k, o.frz n v t l) :: fzH n v t l r
def fzB (n : Name) (ts : TS) (hs : HS) : Bool := ts.all (fun p => p.2.fzOK n) && hs.all (fun p => p.2.fzOK n)
section
variable {n : Name} {v : Nat} {t : TC} {l : List (TT t)}
theorem sh_cell {x : BV} : fzCell n x = true → AVle (x.er L) ((x.sh n v).er L) := by
  intro h
  cases x with
  | own m u =>
    simp only [BV.sh]
    split
    · split
      · exact .refl _
      · simp only [BV.er]; exact .any rfl (by simp)
    · exact .refl _
  | aref m u i o =>
    simp only [BV.sh]
    split
    · simp only [BV.er]; exact .any rfl (by simp)
    · exact .refl _
  | cut m u k =>
    simp only [BV.sh]
    split
    · simp only [BV.er]; exact .any rfl (by simp)
    · exact .refl _
  | view m u i o =>
    simp only [BV.sh]
    split
    · split
      · exact .refl _
      · simp only [BV.er]; exact .any rfl (by simp)
    · exact .refl _
  | agg cs => simp [fzCell] at h
  | _ => simp only [BV.sh]; exact .refl _
theorem sh_cells : ∀ {cs : List BV}, cs.all (fzCell n) = true → AVleL (erL L cs) (erL L (shL n v cs))
  | [], _ => by simp only [shL, erL]; exact .nil
  | x :: r, h => by
    simp only [List.all_cons, Bool.and_eq_true] at h
    simp only [shL, erL]
    exact .cons (sh_cell h.1) (sh_cells h.2)
theorem sh_val {x : BV} (h : x.fzOK n = true) : AVle (x.er L) ((x.sh n v).er L) := by
  cases x with
  | agg cs => simp only [BV.sh, BV.er]; exact .agg (sh_cells h)
  | _ => exact sh_cell h
theorem frz_cell {px : Value → Prop} {x : BV} (h : fzCell n x = true) (hL : L n v = (l.map (tcells t)).length) : Frz px n (tz t) (l.map (tcells t)) ((x.sh n v).er L) ((x.frz n v t l).er L) := by
  cases x with
  | own m u =>
    simp only [BV.sh, BV.frz]
    split
    · split
      · rename_i e1 e2
        have := Nat.eq_of_beq_eq_true e1; subst this
        have := Nat.eq_of_beq_eq_true e2; subst this
        simp only [BV.er, hL]; exact .own
      · exact .same (by simp only [BV.er, AV.has])
    · rename_i hne
      have : m ≠ n := fun e => by subst e; simp at hne
      exact .same (by simp only [BV.er, AV.has]; simpa using this)
  | aref m u i o =>
    simp only [BV.sh, BV.frz]
    split
    · exact .same (by simp only [BV.er, AV.has])
    · rename_i hne
      have : m ≠ n := fun e => by subst e; simp at hne
      exact .same (by simp only [BV.er, AV.has]; simpa using this)
  | cut m u k =>
    simp only [BV.sh, BV.frz]
    split
    · exact .same (by simp only [BV.er, AV.has])
    · rename_i hne
      have : m ≠ n := fun e => by subst e; simp at hne
      exact .same (by simp only [BV.er, AV.has]; simpa using this)
  | view m u i o =>
    simp only [BV.sh, BV.frz]
    split
    · split
      · rename_i e1 e2
        have := Nat.eq_of_beq_eq_true e1; subst this
        have := Nat.eq_of_beq_eq_true e2; subst this
        simp only [BV.er, hL, List.map_drop, List.map_take]; exact .view
      · exact .same (by simp only [BV.er, AV.has])
    · rename_i hne
      have : m ≠ n := fun e => by subst e; simp at hne
      exact .same (by simp only [BV.er, AV.has]; simpa using this)
  | agg cs => simp [fzCell] at h
  | _ => simp only [BV.sh, BV.frz]; exact .same (by rw [has_er]; simpa only [fzCell, Bool.not_eq_true'] using h)
theorem frz_cells {px : Value → Prop} (hL : L n v = (l.map (tcells t)).length) : ∀ {cs : List BV}, cs.all (fzCell n) = true → FrzL px n (tz t) (l.map (tcells t)) (erL L (shL n v cs)) (erL L (frzL n v t l cs))
  | [], _ => by simp only [erL, shL, frzL]; exact .nil
  | x :: r, h => by
    simp only [List.all_cons, Bool.and_eq_true] at h
    simp only [erL, shL, frzL]
    exact .cons (frz_cell h.1 hL) (frz_cells hL h.2)
theorem frz_val {px : Value → Prop} {x : BV} (h : x.fzOK n = true) (hL : L n v = (l.map (tcells t)).length) : Frz px n (tz t) (l.map (tcells t)) ((x.sh n v).er L) ((x.frz n v t l).er L) := by
  cases x with
  | agg cs => simp only [BV.sh, BV.frz, BV.er]; exact .agg (frz_cells hL h)
  | _ => exact frz_cell h hL
theorem TsFrz_of {px : Value → Prop} (hL : L n v = (l.map (tcells t)).length) : ∀ {ts : TS}, ts.all (fun p => p.2.fzOK n) = true → TsFrz px n (tz t) (l.map (tcells t)) (erT L (ts.map fun p => (p.1, p.2.sh n v))) (erT L (fzT n v t l ts))
  | [], _ => trivial
  | (k, x) :: r, h => by
    simp only [List.all_cons, Bool.and_eq_true] at h
    exact ⟨rfl, frz_val h.1 hL, TsFrz_of hL h.2⟩
def delH (n : Name) (v : Nat) : HS → HS
  | [] => []
  | (k, o) :: r => if Nat.beq k n then delH n v r else (k, o.sh n v) :: delH n v r
theorem HsFrz_of {px : Value → Prop} (hL : L n v = (l.map (tcells t)).length) : ∀ {hs : HS}, hs.all (fun p => p.2.fzOK n) = true → HsFrz px n (tz t) (l.map (tcells t)) (erH L (delH n v hs)) (erH L (fzH n v t l hs))
  | [], _ => trivial
  | (k, o) :: r, h => by
    simp only [List.all_cons, Bool.and_eq_true] at h
    simp only [delH, fzH]
    split
    · exact HsFrz_of hL h.2
    · rename_i hne
      refine ⟨rfl, fun (e : k = n) => hne (by simp [e]), ?_, HsFrz_of hL h.2⟩
      cases o with
      | box cs => exact .box (frz_cells hL h.1)
      | arr t' l' => exact .same rfl
      | sm es => exact .same rfl
theorem look_delH (n k : Nat) (hs : HS) : look k (delH n v hs) = if k = n then none else (look k hs).map (BO.sh n v) := by
  induction hs with
  | nil => simp [delH, look]
  | cons p r ih =>
    obtain ⟨j, o⟩ := p
    simp only [delH]
    split
    · rename_i e
      have := Nat.eq_of_beq_eq_true e; subst this
      rw [ih]
      simp only [look]
      grind
    · rename_i e
      simp only [look]
      split
      · simp_all
      · exact ih
theorem look_fzH (n k : Nat) (hs : HS) : look k (fzH n v t l hs) = if k = n then none else (look k hs).map (BO.frz n v t l) := by
  induction hs with
  | nil => simp [fzH, look]
  | cons p r ih =>
    obtain ⟨j, o⟩ := p
    simp only [fzH]
    split
    · rename_i e
      have := Nat.eq_of_beq_eq_true e; subst this
      rw [ih]
      simp only [look]
      grind
    · rename_i e
      simp only [look]
      split
      · simp_all
      · exact ih
theorem Sim.frz {Γ : Ctx} {ρ : Name → Loc} {M : Nat → Prop} {a : Act} {w : World} (h : Sim Γ ρ M (BS L ts hs) a w) (hi : Inv L hs) (hn : n ∉ Γ.names) (hl : look n hs = some (.arr t l v)) (hb : fzB n ts hs = true) :
    (∃ ρ' M', Sim Γ ρ' M' (BS L (fzT n v t l ts) (fzH n v t l hs)) a w) ∧ Inv L (fzH n v t l hs) := by
  simp only [fzB, Bool.and_eq_true] at hb
  have hL : L n v = (l.map (tcells t)).length := by rw [hi n t l v hl, List.length_map]
  have h1 : Sim Γ ρ M (AM.mk (erT L (ts.map fun p => (p.1, p.2.sh n v))) ((n, .arr (tz t) (l.map (tcells t))) :: erH L (delH n v hs))) a w := by
    refine h.leS (fun k y hy => ?_) (fun k => ⟨fun y hy => ?_, fun x hx => ?_⟩) (fun k x y hx hy => ?_)
    · obtain ⟨y', hy', rfl⟩ := slot_of (L := L) (hs := hs) hy
      rw [look_mapT] at hy'
      cases hx : look k ts with
      | none => rw [hx] at hy'; simp at hy'
      | some x =>
        rw [hx] at hy'
        simp only [Option.map_some, Option.some.injEq] at hy'
        subst hy'
        exact ⟨x.er L, by rw [BS_slot, hx]; rfl, sh_val (List.all_eq_true.1 hb.1 _ (look_mem hx))⟩
    · simp only [AM.mk, look] at hy
      split at hy
      · rename_i e; subst e; cases hy; exact ⟨_, by rw [BS_heap, hl]; rfl, .refl _⟩
      · rename_i e
        rw [look_erH, look_delH, if_neg (Ne.symm e)] at hy
        cases hx : look k hs with
        | none => rw [hx] at hy; simp at hy
        | some x =>
          rw [hx] at hy
          simp only [Option.map_some, Option.some.injEq] at hy
          subst hy
          refine ⟨x.er L, by rw [BS_heap, hx]; rfl, ?_⟩
          have hx' := List.all_eq_true.1 hb.2 _ (look_mem hx)
          cases x with
          | box cs => exact .box (sh_cells hx')
          | arr t l => exact .refl _
          | sm es => exact .refl _
    · obtain ⟨x', hx', rfl⟩ := heap_of hx
      by_cases e : n = k
      · subst e; rw [hl] at hx'; cases hx'; exact ⟨_, by simp only [AM.mk, look, if_true]; rfl, .refl _⟩
      · refine ⟨(x'.sh n v).er L, by simp only [AM.mk, look, if_neg e, look_erH, look_delH, if_neg (Ne.symm e), hx']; rfl, ?_⟩
        have hx'' := List.all_eq_true.1 hb.2 _ (look_mem hx')
        cases x' with
        | box cs => exact .box (sh_cells hx'')
        | arr t l => exact .refl _
        | sm es => exact .refl _
    · obtain ⟨x', hx', rfl⟩ := heap_of hx
      by_cases e : n = k
      · subst e
        simp only [AM.mk, look, if_true] at hy
        rw [hl] at hx'; cases hx'; cases hy; exact .inl rfl
      · simp only [AM.mk, look, if_neg e, look_erH, look_delH, if_neg (Ne.symm e), hx'] at hy
        cases hy
        cases x' with
        | box cs => exact .inr (.inl ⟨_, _, rfl, rfl⟩)
        | arr t l => exact .inl rfl
        | sm es => exact .inl rfl
  refine ⟨Weak.freeze hn (TsFrz_of hL hb.1) (HsFrz_of hL hb.2) ρ M a w h1, fun k t' l' u hk => ?_⟩
  rw [look_fzH] at hk
  split at hk
  · simp at hk
  · cases hx : look k hs with
    | none => rw [hx] at hk; simp at hk
    | some x =>
      rw [hx] at hk
      simp only [Option.map_some, Option.some.injEq] at hk
      cases x with
      | box cs => simp [BO.frz] at hk
      | arr t2 l2 => simp only [BO.frz] at hk; cases hk; exact hi k _ _ _ hx
      | sm es => simp [BO.frz] at hk
end
end
open Go
def overB : List BV → List BV → List BV
  | l, [] => l
  | [], v :: vs => v :: vs
  | _ :: l, v :: vs => v :: overB l vs
def layB : List BV → Nat → List BV → List BV
  | l, 0, vs => overB l vs
  | x :: l, k + 1, vs => x :: layB l k vs
  | [], _ + 1, vs => vs
def forceL {α R : Type} : List α → (List α → R) → R
  | [], K => K []
  | x :: r, K => forceL r fun r => K (x :: r)
theorem forceL_eq {α R : Type} : ∀ (l : List α) (K : List α → R), forceL l K = K l
  | [], K => rfl
  | x :: r, K => by simp only [forceL, forceL_eq r]
theorem overB_eq : ∀ (l vs : List BV), vs.length ≤ l.length → overB l vs = vs ++ l.drop vs.length
  | l, [], _ => by cases l <;> rfl
  | [], v :: vs, h => by simp at h
  | x :: l, v :: vs, h => by simp only [overB, overB_eq l vs (by simpa using h), List.length_cons, List.drop_succ_cons, List.cons_append]
theorem layB_eq : ∀ (l : List BV) (k : Nat) (vs : List BV), k + vs.length ≤ l.length → layB l k vs = setAt l k vs
  | l, 0, vs, h => by
    have : layB l 0 vs = overB l vs := by cases l <;> rfl
    rw [this, overB_eq l vs (by omega)]
    simp [setAt]
  | [], k + 1, vs, h => by simp at h
  | x :: l, k + 1, vs, h => by
    simp only [layB, layB_eq l k vs (by simp at h; omega), setAt, List.take_succ_cons, List.cons_append]
    rw [show k + 1 + vs.length = (k + vs.length) + 1 by omega, List.drop_succ_cons]
structure BEff where
  hp : HS
  v : BV
  upd : HS
  nw : List Name
  nv : List (Name × Nat)
def ev (v : BV) : BEff := ⟨[], v, [], [], []⟩
def Good (P : Program) (o : Oper) (rd : TS) (hs : HS) (e : BEff) : Prop :=
  (∀ n ob, (n, ob) ∈ e.hp → look n hs = some ob) ∧
  ∀ L, Inv L hs → ∃ L' : Lens, (∀ m u, m ∉ e.nw → (m, u) ∉ e.nv → L' m u = L m u) ∧ Inv L' (e.upd ++ hs) ∧ OpOK P o ⟨erT L rd, erH L e.hp, e.v.er L', erH L' e.upd, e.nw⟩
section
variable {P : Program} {o : Oper} {rd : TS} {hs : HS}
theorem OpOK.outLe {rd : List (Nat × AV)} {hp upd upd' : List (Name × AO)} {v v' : AV} {nw : List Name} (h : OpOK P o ⟨rd, hp, v, upd, nw⟩) (hv : AVle v v')
    (hu : ∀ n, (∀ y, look n upd' = some y → ∃ x, look n upd = some x ∧ AOle x y ∧ (x = y ∨ (∃ cs ds, x = .box cs ∧ y = .box ds) ∨ (∃ es rs qs, x = .arr es rs ∧ y = .arr es qs))) ∧ (∀ x, look n upd = some x → ∃ y, look n upd' = some y)) : OpOK P o ⟨rd, hp, v', upd', nw⟩ := by
  intro Γ ρ M s a w K Q hs hh hd hK
  refine h Γ ρ M s a w K Q hs ⟨hh.rd, hh.hp, hh.nw⟩ hd (fun ρ' M' a' w' hs' => hK ρ' M' a' w' ?_)
  have hheap : ∀ n y, (s.run o.dst ⟨rd, hp, v', upd', nw⟩).heap n = some y → ∃ x, (s.run o.dst ⟨rd, hp, v, upd, nw⟩).heap n = some x ∧ AOle x y ∧ (x = y ∨ (∃ cs ds, x = .box cs ∧ y = .box ds) ∨ (∃ es rs qs, x = .arr es rs ∧ y = .arr es qs)) := fun n y hy => by
    simp only [AS.run] at hy ⊢
    cases hl : look n upd' with
    | some y' =>
      grind
    | none =>
      rw [hl] at hy
      have hn : look n upd = none := by
        cases hl2 : look n upd with
        | none => rfl
        | some x => obtain ⟨y, hy⟩ := (hu n).2 x hl2; rw [hl] at hy; simp at hy
      exact ⟨y, by rw [hn]; exact hy, .refl _, .inl rfl⟩
  refine hs'.leS (fun t y hy => ?_) (fun n => ⟨fun y hy => ?_, fun x hx => ?_⟩) (fun n x y hx hy => ?_)
  · simp only [AS.run] at hy ⊢
    split at hy
    · simp_all
    · rename_i e; exact ⟨y, by rw [if_neg e]; exact hy, .refl _⟩
  · grind
  · have : ∃ y, (s.run o.dst ⟨rd, hp, v', upd', nw⟩).heap n = some y := by
      simp only [AS.run] at hx ⊢
      grind
    grind
  · grind
theorem OpOK.vLe {rd : List (Nat × AV)} {hp upd : List (Name × AO)} {v v' : AV} {nw : List Name} (h : OpOK P o ⟨rd, hp, v, upd, nw⟩) (hv : AVle v v') : OpOK P o ⟨rd, hp, v', upd, nw⟩ :=
  h.outLe hv fun n => ⟨fun y hy => ⟨y, hy, .refl _, .inl rfl⟩, fun x hx => ⟨x, hx⟩⟩
theorem Good.val {hp : HS} {v : BV} (h1 : ∀ n ob, (n, ob) ∈ hp → look n hs = some ob) (h2 : ∀ L, Inv L hs → OpOK P o ⟨erT L rd, erH L hp, v.er L, [], []⟩) : Good P o rd hs ⟨hp, v, [], [], []⟩ :=
  ⟨h1, fun L hL => ⟨L, fun _ _ _ _ => rfl, hL, h2 L hL⟩⟩
theorem Good.ev {v : BV} (h2 : ∀ L, Inv L hs → OpOK P o ⟨erT L rd, [], v.er L, [], []⟩) : Good P o rd hs (ev v) := Good.val (fun _ _ h => by simp at h) h2
def cellB : Value → BV
  | .slice none 0 0 => .nil
  | .int k x => .n k x
  | .bool b => .b b
  | .string s => .s s
  | c => .v c
theorem cellB_er (L : Lens) (c : Value) : (cellB c).er L = constCell c := by
  unfold cellB
  split
  · simp only [BV.er]; rfl
  · simp only [BV.er]; rfl
  · simp only [BV.er]; rfl
  · simp only [BV.er]; rfl
  · rename_i h1 h2 h3 h4
    simp only [BV.er]
    unfold constCell
    simp_all
def constB : Value → Option BV
  | .agg cs => if cs.toList.all (fun c => c.oneCell') then some (.agg (cs.toList.map cellB)) else none
  | c => if c.oneCell' then some (cellB c) else none
theorem erL_cells (L : Lens) (cs : List Value) : erL L (cs.map cellB) = cs.map constCell := by
  simp only [erL_map, List.map_map]; exact List.map_congr_left fun c _ => cellB_er L c
theorem constB_er {c : Value} {x : BV} (L : Lens) (h : constB c = some x) : constAV c = some (x.er L) := by
  unfold constB at h
  split at h
  · rename_i cs
    unfold constAV
    split at h
    · rename_i hall; cases h; simp only [hall, if_true, BV.er, erL_cells]
    · simp at h
  · rename_i hne
    split at h
    · rename_i ho
      cases h
      unfold constAV
      split
      · simp_all
      · simp only [ho, if_true, cellB_er]
    · simp at h
def evalB (rd : TS) : Operand → Option BV
  | .tmp t => look t rd
  | .const c => constB c
  | .global g => some (.v (.pointer (some ⟨g, 0, none⟩)))
  | .func f => some (.v (.func (.func f) #[] #[]))
theorem evalB_er {x : Operand} {v : BV} (L : Lens) (h : evalB rd x = some v) : evalO (erT L rd) x = some (v.er L) := by
  cases x with
  | tmp t => simp only [evalB] at h; simp only [evalO, look_erT, h, Option.map_some]
  | const c => exact constB_er L h
  | global g => simp only [evalB, Option.some.injEq] at h; subst h; simp only [evalO, BV.er]
  | func f => simp only [evalB, Option.some.injEq] at h; subst h; simp only [evalO, BV.er]
def cellsB : BV → Option (List BV)
  | .agg cs => some cs
  | .tup _ => none
  | x => some [x]
theorem cellsB_er {v : BV} {cs : List BV} (L : Lens) (h : cellsB v = some cs) : cellsAV (v.er L) = some (erL L cs) := by
  cases v <;> simp only [cellsB, Option.some.injEq, reduceCtorEq] at h <;> subst h <;> simp only [BV.er, cellsAV, erL]
def evalBs (rd : TS) : List Operand → Option (List BV)
  | [] => some []
  | x :: r => match evalB rd x, evalBs rd r with
    | some v, some vs => some (v :: vs)
    | _, _ => none
theorem evalBs_er (L : Lens) : ∀ {xs : List Operand} {vs : List BV}, evalBs rd xs = some vs → evalL (erT L rd) xs = some (erL L vs)
  | [], vs, h => by simp only [evalBs, Option.some.injEq] at h; subst h; simp only [evalL, erL]
  | x :: r, vs, h => by
    simp only [evalBs] at h
    split at h
    · rename_i v vs' h1 h2
      cases h
      simp only [evalL, evalB_er L h1, evalBs_er L h2, erL]
    · simp at h
end
def ltT (a b : ByteArray) : Bool := Op.bytesLess a.toList b.toList
def leT (a b : ByteArray) : Bool := Op.bytesLess a.toList b.toList || a.toList == b.toList
section
variable {R : Type} (P : Program) (ty : TypeId → Option TC) (rd : TS) (hs : HS) (K : BEff → Option R)
def bVal (x : Operand) : Option R := match evalB rd x with
  | some v => K (ev v)
  | none => none
def bPick (c x y : Operand) : Option R := match evalB rd c, evalB rd x, evalB rd y with
  | some (.b q), some u, some v => cnd q (K (ev u)) (K (ev v))
  | _, _, _ => none
def zeroB (T : TypeId) : Option (List BV) := match P.info? T with
  | some i => match i.zero with
    | some z => if z.cells.toList.all (fun c => c.oneCell') then some (z.cells.toList.map cellB) else none
    | none => none
  | none => none
def bAlloc (d : Option Nat) (T : TypeId) : Option R := match d, zeroB P T with
  | some d, some [.v (.pointer none), .nil] => if Nat.blt d 800000 then K ⟨[], .ref (1000 + d) 0, [(1000 + d, .box [.v (.pointer none), .own (900000 + d) 0]), (900000 + d, .arr .u8 [] 0)], [1000 + d, 900000 + d], []⟩ else none
  | some d, some cs => K ⟨[], .ref (1000 + d) 0, [(1000 + d, .box cs)], [1000 + d], []⟩
  | _, _ => none
def bBox (d : Option Nat) (x : Operand) : Option R := match d, evalB rd x with
  | some d, some v => match cellsB v with
    | some cs => K ⟨[], .ref (1000 + d) 0, [(1000 + d, .box cs)], [1000 + d], []⟩
    | none => none
  | _, _ => none
def putCB (places : List (Nat × Nat)) : List (Nat × Operand) → List BV → Option (List BV)
  | [], cells => some cells
  | (i, x) :: r, cells => match places[i]?, evalB rd x with
    | some (off, size), some y => match cellsB y with
      | some cs => if Nat.beq cs.length size && Nat.ble (off + size) cells.length then forceL (layB cells off cs) fun cells => putCB places r cells else none
      | none => none
    | _, _ => none
def placesB (T : TypeId) : Option (List (Nat × Nat)) := match P.underlying T with
  | some (.array n e) => match sizeT P e with
    | some es => some (arrPlaces n es)
    | none => none
  | _ => structT P T
def bBuild (T : TypeId) (parts : Array (Nat × Operand)) : Option R := match placesB P T, zeroB P T with
  | some pl, some zs => match putCB rd pl parts.toList zs with
    | some cells => K (ev (.agg cells))
    | none => none
  | _, _ => none
def rowsC (t : TC) : List (Nat × Operand) → Nat → Nat → (List (TT t) → Option R) → Option R
  | [], i, len, K => if Nat.beq i len then K [] else none
  | (j, x) :: r, i, len, K => if Nat.beq j i then match evalB rd x with
      | some v => match cellsB v with
        | some cs => if Nat.beq cs.length (tz t) && cs.all BV.isP then tpop t cs fun y rest => match rest with
            | [] => rowsC t r (i + 1) len fun ys => K (y :: ys)
            | _ => none
          else none
        | none => none
      | none => none
    else none
def bBuildSlice (T : TypeId) (len : Nat) (parts : Array (Nat × Operand)) : Option R := match elemT P T with
  | some e => match ty e, sizeT P e, zeroRow P e with
    | some t, some es, some zr => if Nat.beq es (tz t) && Nat.ble 1 es && Nat.beq zr.length es && Nat.ble (len * es) 16777216 then rowsC rd t parts.toList 0 len fun l => K (ev (.ts true t l)) else none
    | _, _, _ => none
  | none => none
def bLoad (T : TypeId) (x : Operand) : Option R := match evalB rd x with
  | some (.ref n k) => match look n hs with
    | some (.box cells) => if aggT P T then
        match sizeT P T with
        | some z => if Nat.beq ((cells.drop k).take z).length z then K ⟨[(n, .box cells)], .agg ((cells.drop k).take z), [], [], []⟩ else none
        | none => none
      else if flatT P T then match cells[k]? with
        | some c => K ⟨[(n, .box cells)], c, [], [], []⟩
        | none => none
      else none
    | _ => none
  | some (.tep cells) => if cells.all BV.isP then if aggT P T then
      match sizeT P T with
      | some z => if Nat.beq (cells.take z).length z then K (ev (.agg (cells.take z))) else none
      | none => none
    else if flatT P T then match cells[0]? with
      | some c => K (ev c)
      | none => none
    else none else none
  | some (.aref n u i k) => match look n hs with
    | some (.arr t l v) => if Nat.beq u v then optc l[i]? fun y => if aggT P T then
        match sizeT P T with
        | some z => if Nat.beq (((tb t y).drop k).take z).length z then K ⟨[(n, .arr t l v)], .agg (((tb t y).drop k).take z), [], [], []⟩ else none
        | none => none
      else if flatT P T then match (tb t y)[k]? with
        | some c => K ⟨[(n, .arr t l v)], c, [], [], []⟩
        | none => none
      else none else none
    | _ => none
  | _ => none
def bStore (d : Option Nat) (T : TypeId) (x y : Operand) : Option R := match d, evalB rd x, evalB rd y with
  | none, some (.ref n k), some v => match look n hs, cellsB v, sizeT P T with
    | some (.box cells), some vs, some z => if Nat.beq z vs.length && Nat.ble (k + vs.length) cells.length then forceL (layB cells k vs) fun cells' => K ⟨[(n, .box cells)], .any, [(n, .box cells')], [], []⟩ else none
    | _, _, _ => none
  | none, some (.aref n u i k), some v => match look n hs, cellsB v, sizeT P T with
    | some (.arr t l q), some vs, some z => if Nat.beq u q then optc l[i]? fun y => if Nat.beq z vs.length && Nat.ble (k + vs.length) (tb t y).length && vs.all BV.isP then tpop t (layB (tb t y) k vs) fun y' rest => match rest with
        | [] => K ⟨[(n, .arr t l q)], .any, [(n, .arr t (l.set i y') q)], [], []⟩
        | _ => none
      else none else none
    | _, _, _ => none
  | _, _, _ => none
def bFieldAddr (S : TypeId) (x : Operand) (i : Nat) : Option R := match evalB rd x, fieldOff P S i with
  | some (.ref n k), some fo => match look n hs with
    | some (.box cells) => K ⟨[(n, .box cells)], .ref n (k + fo), [], [], []⟩
    | _ => none
  | some (.tep cells), some fo => K (ev (.tep (cells.drop fo)))
  | some (.aref n u j k), some fo => match look n hs with
    | some (.arr t l q) => if Nat.beq u q then K ⟨[(n, .arr t l q)], .aref n u j (k + fo), [], [], []⟩ else none
    | _ => none
  | _, _ => none
def bNilCheck (x : Operand) : Option R := match evalB rd x with
  | some (.ref n k) => match look n hs with
    | some (.box cells) => K ⟨[(n, .box cells)], .ref n k, [], [], []⟩
    | _ => none
  | some (.tep cells) => K (ev (.tep cells))
  | some (.aref n u j k) => match look n hs with
    | some (.arr t l q) => if Nat.beq u q then K ⟨[(n, .arr t l q)], .aref n u j k, [], [], []⟩ else none
    | _ => none
  | _ => none
def binI (op : BinOp) (k : IntKind) (a b : Int) : Option R := match op with
  | .add => K (ev (.n k (k.wrap (a + b))))
  | .sub => K (ev (.n k (k.wrap (a - b))))
  | .mul => K (ev (.n k (k.wrap (a * b))))
  | .quo => nzc b (K (ev (.n k (k.wrap (a.tdiv b)))))
  | .rem => nzc b (K (ev (.n k (a.tmod b))))
  | .shr => natc b fun n => K (ev (.n k (a.fdiv (2 ^ (min n k.bits)))))
  | .lss => K (ev (.b (decide (a < b))))
  | .leq => K (ev (.b (decide (a ≤ b))))
  | .gtr => K (ev (.b (decide (b < a))))
  | .geq => K (ev (.b (decide (b ≤ a))))
  | .eql => K (ev (.b (decide (a = b))))
  | .neq => K (ev (.b (decide (a ≠ b))))
  | _ => none
def binS (op : BinOp) (a b : ByteArray) : Option R := match op with
  | .lss => K (ev (.b (ltT a b)))
  | .leq => K (ev (.b (leT a b)))
  | .gtr => K (ev (.b (!(leT a b))))
  | .geq => K (ev (.b (!(ltT a b))))
  | .eql => K (ev (.b (decide (a = b))))
  | .neq => K (ev (.b (decide (a ≠ b))))
  | .add => lec (a.size + b.size) 9223372036854775807 (K (ev (.s (a ++ b))))
  | _ => none
def boolT (T : TypeId) : Bool := match P.underlying T with | some .bool => true | _ => false
def binB (op : BinOp) (T : TypeId) (a b : Bool) : Option R := if boolT P T then match op with
  | .eql => K (ev (.b (decide (a = b))))
  | .neq => K (ev (.b (decide (a ≠ b))))
  | _ => none else none
def bBin (op : BinOp) (T : TypeId) (x y : Operand) : Option R := match evalB rd x, evalB rd y with
  | some (.n k a), some (.n k' b) => if kEq k k' then binI K op k a b else none
  | some (.s a), some (.s b) => binS K op a b
  | some (.b a), some (.b b) => binB P K op T a b
  | _, _ => none
def bUn (op : UnOp) (x : Operand) : Option R := match op, evalB rd x with
  | .not, some (.b b) => K (ev (.b (!b)))
  | .neg, some (.n k a) => K (ev (.n k (k.wrap (0 - a))))
  | _, _ => none
def bField (T : TypeId) (x : Operand) (i : Nat) : Option R := match evalB rd x, P.underlying T with
  | some (.agg cells), some (.struct fs) => match fs[i]? with
    | some f => if aggT P f.type then
        match sizeT P f.type with
        | some z => K (ev (.agg ((cells.drop f.offset).take z)))
        | none => none
      else if flatT P f.type then match cells[f.offset]? with
        | some c => K (ev c)
        | none => none
      else none
    | none => none
  | _, _ => none
def bExtract (x : Operand) (i : Nat) : Option R := match evalB rd x with
  | some (.tup vs) => match vs[i]? with
    | some v => K (ev v)
    | none => none
  | _ => none
def bIndexAddr (T : TypeId) (x y : Operand) : Option R := match evalB rd x, evalB rd y, elemT P T with
  | some (.ts _ t l), some (.n _ j), some e => match sizeT P e with
    | some es => if Nat.beq es (tz t) then atc l j fun z => K (ev (.tep (tb t z))) else none
    | none => none
  | some (.own n u), some (.n _ j), some e => match look n hs, sizeT P e with
    | some (.arr t l q), some es => if Nat.beq es (tz t) && Nat.beq u q then natc j fun i => ltc i l.length (K ⟨[(n, .arr t l q)], .aref n u i 0, [], [], []⟩) else none
    | _, _ => none
  | some (.view n u lo hi), some (.n _ j), some e => match look n hs, sizeT P e with
    | some (.arr t l q), some es => if Nat.beq es (tz t) && Nat.beq u q then natc j fun i => ltc i (hi - lo) (K ⟨[(n, .arr t l q)], .aref n u (lo + i) 0, [], [], []⟩) else none
    | _, _ => none
  | _, _, _ => none
def bLen (T : TypeId) (x : Operand) : Option R := match evalB rd x with
  | some (.ts _ t l) => match elemT P T with
    | some _ => K (ev (.n .i64 (l.length : Int)))
    | none => none
  | some .nil => match elemT P T with
    | some _ => K (ev (.n .i64 0))
    | none => none
  | some (.own n u) => match look n hs, elemT P T with
    | some (.arr t l q), some _ => if Nat.beq u q then K ⟨[(n, .arr t l q)], .n .i64 (l.length : Int), [], [], []⟩ else none
    | _, _ => none
  | some (.view n u lo hi) => match look n hs, elemT P T with
    | some (.arr t l q), some _ => if Nat.beq u q then K ⟨[(n, .arr t l q)], .n .i64 ((hi - lo : Nat) : Int), [], [], []⟩ else none
    | _, _ => none
  | some (.s t) => match P.underlying T with
    | some .string => K (ev (.n .i64 (t.size : Int)))
    | _ => none
  | _ => none
def srcB (t0 : TC) (y : BV) (K : List (TT t0) → Option R) : Option R := match y with
  | .ts _ t x => if h : t = t0 then K (castL h x) else none
  | _ => none
def bAppend (d : Option Nat) (T : TypeId) (x y : Operand) : Option R := match evalB rd x, evalB rd y, elemT P T with
  | some (.own n u), some v, some e => match look n hs, sizeT P e, bytesT P e with
    | some (.arr t l q), some es, some bytes => if Nat.beq es (tz t) && elemOK P e es bytes && Nat.ble bytes 4096 && Nat.beq u q then srcB t v fun l' => lec (l.length + l'.length) 34359738368 (K ⟨[(n, .arr t l q)], .own n (q + 1), [(n, .arr t (l ++ l') (q + 1))], [], [(n, q + 1)]⟩) else none
    | _, _, _ => none
  | some (.cut n u k), some (.view m v a b), some e => match d, look n hs, sizeT P e, bytesT P e with
    | some d, some (.arr t l q), some es, some bytes => if Nat.beq m n && Nat.beq u q && Nat.beq v q && Nat.beq es (tz t) && elemOK P e es bytes && Nat.ble bytes 4096 then
        lec k l.length (lec b l.length (lec a b (nilC ((l.take b).drop a) (K ⟨[(n, .arr t l q)], .cut n u k, [], [], []⟩) (lec (l.take k ++ (l.take b).drop a).length 34359738368 (K ⟨[(n, .arr t l q)], .own (1000 + d) 0, [(1000 + d, .arr t (l.take k ++ (l.take b).drop a) 0)], [1000 + d], []⟩))))) else none
    | _, _, _, _ => none
  | some .nil, some v, some e => match d, ty e, sizeT P e, bytesT P e with
    | some d, some t, some es, some bytes => if Nat.beq es (tz t) && elemOK P e es bytes && Nat.ble bytes 4096 && Nat.ble 1 es then srcB t v fun l' => lec l'.length 34359738368 (K ⟨[], .own (1000 + d) 0, [(1000 + d, .arr t l' 0)], [1000 + d], []⟩) else none
    | _, _, _, _ => none
  | some (.ts true t l), some v, some e => match d, sizeT P e, bytesT P e with
    | some d, some es, some bytes => if Nat.beq es (tz t) && elemOK P e es bytes && Nat.ble bytes 4096 && Nat.ble 1 es then srcB t v fun l' => match l with
        | [] => lec l'.length 34359738368 (K ⟨[], .own (1000 + d) 0, [(1000 + d, .arr t l' 0)], [1000 + d], []⟩)
        | y :: q => match l' with
          | [] => none
          | z :: r => lec ((y :: q).length + (z :: r).length) 34359738368 (K ⟨[], .own (1000 + d) 0, [(1000 + d, .arr t (y :: q ++ z :: r) 0)], [1000 + d], []⟩) else none
    | _, _, _ => none
  | _, _, _ => none
def bConv (S T : TypeId) (x : Operand) : Option R := match evalB rd x, intT P T with
  | some (.n k a), some k' => if (P.underlying S).isSome then K (ev (.n k' (k'.wrap a))) else none
  | _, _ => none
def bIndexS (T : TypeId) (x y : Operand) : Option R := match evalB rd x, evalB rd y, P.underlying T with
  | some (.s t), some (.n _ j), some .string => natc j fun i => ltc i t.size (K (ev (.n .u8 (bAt t i : Int))))
  | _, _, _ => none
end
section
variable {P : Program} {o : Oper} {rd : List (Nat × AV)}
def ifaceT (P : Program) (T : TypeId) : Bool := match P.underlying T with
  | some (.interface _) => true
  | _ => false
theorem run_equal_nil {w : World} {T : TypeId} (h : ifaceT P T = true) : (Op.equal T .nilIface .nilIface).run P w = .ok true w := by
  unfold ifaceT at h
  split at h
  · rename_i ms hu
    unfold Op.equal
    rw [show Op.maxDepth = (Op.maxDepth - 1) + 1 from rfl]
    simp [Op.equalIn, run_underlying hu]
  · simp at h
theorem run_equal_err {w : World} {T : TypeId} {t : TypeId} {p : Value} (h : ifaceT P T = true) : (Op.equal T (.iface t p) .nilIface).run P w = .ok false w := by
  unfold ifaceT at h
  split at h
  · rename_i ms hu
    unfold Op.equal
    rw [show Op.maxDepth = (Op.maxDepth - 1) + 1 from rfl]
    simp [Op.equalIn, run_underlying hu]
  · simp at h
theorem OpOK.eqlE {T T' : TypeId} {x : Operand} {b q : Bool} (ho : o.op = .binOp .eql T x (.const .nilIface) T') (hT : ifaceT P T = true) (hx : evalO rd x = some (.err b)) (hr : b = q) : OpOK P o ⟨rd, [], .p (.v (.bool q)), [], []⟩ := hr ▸
  OpOK.quiet fun Γ ρ M s a w hs hh => by
    have h1 := evalO_R hs hh hx
    simp only [AV.R] at h1
    obtain ⟨_, h2, h3⟩ := h1
    refine ⟨.bool b, ?_, by simp only [AV.R, PV.R]; exact ⟨trivial, rfl⟩⟩
    have e : a.eval (.const .nilIface) = .nilIface := rfl
    cases b with
    | true =>
      have hg : eqGuard .eql T x (.const .nilIface) .nilIface .nilIface = pure () := by cases x <;> rfl
      simp [execOp, ho, h2 rfl, e, hg, binOp, run_equal_nil hT]
    | false =>
      obtain ⟨t, p, hu⟩ := h3 rfl
      simp [execOp, ho, hu, e, binOp, run_equal_err hT, eqGuard_at_iface]
theorem run_equal_slice {T e : TypeId} (hT : P.underlying T = some (.slice e)) (a : Option Addr) (l c : Nat) (w : World) : (Op.equal T (.slice a l c) (.slice none 0 0)).run P w = .ok a.isNone w := by
  unfold Op.equal
  rw [show Op.maxDepth = (Op.maxDepth - 1) + 1 from rfl]
  cases a <;> simp [Op.equalIn, run_underlying hT]
def eqOp (op : BinOp) : Option Bool := match op with
  | .eql => some true
  | .neq => some false
  | _ => none
theorem run_eqNil {op : BinOp} {q : Bool} {T e : TypeId} (hq : eqOp op = some q) (hT : P.underlying T = some (.slice e)) (a : Option Addr) (l c : Nat) (w : World) : (binOp op T (.slice a l c) (.slice none 0 0)).run P w = .ok (.bool (a.isNone == q)) w := by
  cases op <;> simp [eqOp] at hq <;> subst hq <;> cases a <;> simp [binOp, run_equal_slice hT]
theorem OpOK.eqNilU {op : BinOp} {q : Bool} {T T' e : TypeId} {x : Operand} {f : Bool} {es : Nat} {rows : List (List PV)} (ho : o.op = .binOp op T x (.const (.slice none 0 0)) T') (hq : eqOp op = some q) (hT : P.underlying T = some (.slice e)) (hx : evalO rd x = some (.p (.sl f es rows))) :
    OpOK P o ⟨rd, [], .ub, [], []⟩ :=
  OpOK.quiet fun Γ ρ M s a w hs hh => by
    have h1 := evalO_R hs hh hx
    simp only [AV.R, PV.R] at h1
    obtain ⟨ad, cap, hu, _⟩ := h1
    refine ⟨.bool (ad.isNone == q), ?_, by simp only [AV.R]; exact ⟨_, rfl⟩⟩
    have e : a.eval (.const (.slice none 0 0)) = .slice none 0 0 := rfl
    simp [execOp, ho, hu, e, run_eqNil hq hT, eqGuard_at_slice]
theorem OpOK.eqNilN {op : BinOp} {q : Bool} {T T' e : TypeId} {x : Operand} {f : Bool} {es : Nat} {rows : List (List PV)} (ho : o.op = .binOp op T x (.const (.slice none 0 0)) T') (hq : eqOp op = some q) (hT : P.underlying T = some (.slice e)) (hx : evalO rd x = some (.p (.sl f es rows))) (hr : rows ≠ []) :
    OpOK P o ⟨rd, [], .p (.v (.bool (!q))), [], []⟩ :=
  OpOK.quiet fun Γ ρ M s a w hs hh => by
    have h1 := evalO_R hs hh hx
    simp only [AV.R, PV.R] at h1
    obtain ⟨ad, cap, hu, hl, _, hn, _⟩ := h1
    refine ⟨.bool (!q), ?_, by simp only [AV.R, PV.R]; exact ⟨trivial, rfl⟩⟩
    have e : a.eval (.const (.slice none 0 0)) = .slice none 0 0 := rfl
    have had : ad.isNone = false := by
      cases ad with
      | some x => rfl
      | none =>
        simp_all
    have := run_eqNil (P := P) hq hT ad rows.length cap w
    rw [had] at this
    simp [execOp, ho, hu, e, this, eqGuard_at_slice]
theorem OpOK.maxI {x y : Operand} {ats : Array TypeId} {m k r : Int} (ho : o.op = .call { callee := .builtin .max, args := #[x, y], argTypes := ats }) (hx : evalO rd x = some (.p (.v (.int .i64 m)))) (hy : evalO rd y = some (.p (.v (.int .i64 k)))) (hr : max m k = r) :
    OpOK P o ⟨rd, [], .p (.v (.int .i64 r)), [], []⟩ :=
  OpOK.quiet fun Γ ρ M s a w hs hh => by
    have h1 := evalO_R hs hh hx
    have h2 := evalO_R hs hh hy
    simp only [AV.R, PV.R] at h1 h2
    refine ⟨.int .i64 r, ?_, by simp only [AV.R, PV.R]; exact ⟨trivial, rfl⟩⟩
    have e : (if m < k then k else m) = r := by rw [← hr]; split <;> omega
    simp [execOp, ho, h1.1, h2.1, resolve, invoke, builtin, run_max_int2, e]
theorem OpOK.minI {x y : Operand} {ats : Array TypeId} {m k r : Int} (ho : o.op = .call { callee := .builtin .min, args := #[x, y], argTypes := ats }) (hx : evalO rd x = some (.p (.v (.int .i64 m)))) (hy : evalO rd y = some (.p (.v (.int .i64 k)))) (hr : min m k = r) :
    OpOK P o ⟨rd, [], .p (.v (.int .i64 r)), [], []⟩ :=
  OpOK.quiet fun Γ ρ M s a w hs hh => by
    have h1 := evalO_R hs hh hx
    have h2 := evalO_R hs hh hy
    simp only [AV.R, PV.R] at h1 h2
    refine ⟨.int .i64 r, ?_, by simp only [AV.R, PV.R]; exact ⟨trivial, rfl⟩⟩
    have e : (if k < m then k else m) = r := by rw [← hr]; split <;> omega
    simp [execOp, ho, h1.1, h2.1, resolve, invoke, builtin, run_min_int2, e]
def isBase (q : Bool) : TypeDesc → Bool
  | .int .i64 => !q
  | .string => q
  | _ => false
def flatFs (g : TypeId → Option Nat) : List Field → Nat → Option Nat
  | [], i => some i
  | f :: fs, i => if f.name != "_" && Nat.beq f.offset i then (match g f.type with | some n => flatFs g fs (i + n) | none => none) else none
def flatN (P : Program) (q : Bool) : Nat → TypeId → Option Nat
  | 0, _ => none
  | k + 1, T => match P.underlying T with
    | some (.struct fs) => (match flatFs (flatN P q k) fs.toList 0, sizeT P T with
      | some n, some m => if Nat.beq n m && !P.stoodInHeld T then some n else none
      | _, _ => none)
    | some (.array 2 e) => (match P.underlying e, sizeT P e, sizeT P T with
      | some u, some 1, some 2 => if Nat.ble 1 k && isBase q u then some 2 else none
      | _, _, _ => none)
    | some u => if isBase q u then some 1 else none
    | none => none
def intsT (P : Program) (q : Bool) (T : TypeId) (n : Nat) : Bool := aggT P T && (match flatN P q 5 T with | some m => Nat.beq m n | none => false) && !P.eqGuardType P.depth T
theorem run_part_int {w : World} {q : Bool} {T : TypeId} {u : TypeDesc} {cs : Array Value} {i : Nat} {v : Value} (hT : P.underlying T = some u) (hu : isBase q u = true) (h : cs[i]? = some v) : (part T cs i).run P w = .ok v w := by
  have hf : flatT P T = true := by
    unfold isBase at hu
    split at hu <;> simp_all [flatT]
  simp [part, run_isAgg_false hf, h]
theorem flatFs_le {g : TypeId → Option Nat} : ∀ {fs : List Field} {i m : Nat}, flatFs g fs i = some m → i ≤ m
  | [], i, m, h => by simp only [flatFs, Option.some.injEq] at h; omega
  | f :: fs, i, m, h => by
    simp only [flatFs] at h
    split at h
    · split at h
      · have := flatFs_le h; omega
      · simp at h
    · simp at h
structure Base (P : Program) {α : Type} [DecidableEq α] (val : α → Value) (q : Bool) : Prop where
  eq : ∀ (w : World) d T u (a b : α), P.underlying T = some u → isBase q u = true → (Op.equalIn (d + 1) T (val a) (val b)).run P w = .ok (decide (a = b)) w
theorem base_int : Base P (Value.int .i64) false := ⟨fun w d T u a b hT hu => by
  unfold isBase at hu
  split at hu
  · rw [run_equalIn_int w d T .i64 .i64 a b hT]; by_cases h : a = b <;> simp [h]
  · simp at hu
  · simp at hu⟩
theorem base_str : Base P Value.string true := ⟨fun w d T u a b hT hu => by
  unfold isBase at hu
  split at hu
  · simp at hu
  · rw [run_equalIn_string w d T a b hT]
    by_cases h : a = b
    · subst h; simp
    · have : ¬ a.data = b.data := fun e => h (ByteArray.ext e)
      simp [h, ByteArray.toList_eq, this]
  · simp at hu⟩
variable {α : Type} [DecidableEq α] {val : α → Value} {q : Bool}
theorem eqFields_flat {g : TypeId → Option Nat} {d : Nat} {w : World} {xs ys : Array Value}
    (hg : ∀ T n, g T = some n → ∀ off (as1 bs : List α), as1.length = n → bs.length = n → (∀ j (a : α), as1[j]? = some a → xs[off + j]? = some (val a)) → (∀ j (b : α), bs[j]? = some b → ys[off + j]? = some (val b)) →
      ∃ u v, (part T xs off).run P w = .ok u w ∧ (part T ys off).run P w = .ok v w ∧ (Op.equalIn d T u v).run P w = .ok (decide (as1 = bs)) w) :
    ∀ (fs : List Field) (i m : Nat) (as1 bs : List α), flatFs g fs i = some m → i + as1.length = m → bs.length = as1.length → (∀ j (a : α), as1[j]? = some a → xs[i + j]? = some (val a)) → (∀ j (b : α), bs[j]? = some b → ys[i + j]? = some (val b)) →
      (Op.eqFields d xs ys fs).run P w = .ok (decide (as1 = bs)) w
  | [], i, m, as1, bs, h, h1, h2, _, _ => by
    simp only [flatFs, Option.some.injEq] at h
    have e1 : as1 = [] := List.eq_nil_of_length_eq_zero (by omega)
    have e2 : bs = [] := List.eq_nil_of_length_eq_zero (by omega)
    subst e1; subst e2; simp [Op.eqFields]
  | f :: fs, i, m, as1, bs, h, h1, h2, h3, h4 => by
    simp only [flatFs] at h
    split at h
    · rename_i g1
      simp only [Bool.and_eq_true, bne_iff_ne, ne_eq] at g1
      have ho : f.offset = i := Nat.eq_of_beq_eq_true g1.2
      split at h
      · rename_i n hn
        have hle := flatFs_le h
        have ht : ∀ {l : List α} {j : Nat} {a : α}, (l.take n)[j]? = some a → l[j]? = some a := fun {l j a} hj => by
          rw [List.getElem?_take] at hj
          split at hj
          · exact hj
          · simp at hj
        obtain ⟨u, v, p1, p2, p3⟩ := hg _ _ hn i (as1.take n) (bs.take n) (by rw [List.length_take]; omega) (by rw [List.length_take]; omega) (fun j a hj => h3 j a (ht hj)) (fun j a hj => h4 j a (ht hj))
        have ih := eqFields_flat hg fs (i + n) m (as1.drop n) (bs.drop n) h (by rw [List.length_drop]; omega) (by simp [h2]) (fun j a hj => by
          rw [List.getElem?_drop] at hj; have := h3 (n + j) a hj; rwa [← Nat.add_assoc] at this) (fun j a hj => by
          rw [List.getElem?_drop] at hj; have := h4 (n + j) a hj; rwa [← Nat.add_assoc] at this)
        simp only [Op.eqFields, if_pos g1.1, Sem.run_bind, ho, p1, p2, Result.andThen_ok, p3]
        by_cases e : as1.take n = bs.take n
        · have : (as1 = bs) ↔ (as1.drop n = bs.drop n) := ⟨fun h => by rw [h], fun h => by rw [← List.take_append_drop n as1, ← List.take_append_drop n bs, e, h]⟩
          simp [e, ih, this]
        · have : as1 ≠ bs := fun h => e (by rw [h])
          simp [e, this]
      · simp at h
    · simp at h
theorem eqFlat (hB : Base P val q) {w : World} : ∀ (k d : Nat), k ≤ d → ∀ (T : TypeId) (n : Nat), flatN P q k T = some n → ∀ (xs ys : Array Value) (off : Nat) (as1 bs : List α), as1.length = n → bs.length = n →
    (∀ j (a : α), as1[j]? = some a → xs[off + j]? = some (val a)) → (∀ j (b : α), bs[j]? = some b → ys[off + j]? = some (val b)) →
    ∃ u v, (part T xs off).run P w = .ok u w ∧ (part T ys off).run P w = .ok v w ∧ (Op.equalIn d T u v).run P w = .ok (decide (as1 = bs)) w
  | 0, d, _, T, n, h, _, _, _, _, _, _, _, _, _ => by simp [flatN] at h
  | k + 1, d, hd, T, n, h, xs, ys, off, as1, bs, h1, h2, h3, h4 => by
    obtain ⟨d, rfl⟩ : ∃ d', d = d' + 1 := ⟨d - 1, by omega⟩
    simp only [flatN] at h
    split at h
    · rename_i fs hfs
      split at h
      · rename_i z m ha hm
        split at h
        · rename_i hc
          simp only [Bool.and_eq_true, Bool.not_eq_true'] at hc
          have hz := Nat.eq_of_beq_eq_true hc.1
          cases h
          have hp : ∀ zs : Array Value, (part T zs off).run P w = .ok (.agg (zs.extract off (off + m))) w := fun zs => by simp [part, run_isAgg_true (show aggT P T = true by simp [aggT, hfs]), run_sizeOf hm]
          refine ⟨_, _, hp xs, hp ys, ?_⟩
          have hF : P.fieldsOf T = fs := by simp [Program.fieldsOf, hfs]
          rw [run_equalIn_struct w d T _ _ (by rw [hF]; exact hfs) hc.2, hF]
          have key : ∀ {zs : Array Value} {l : List α}, l.length = n → (∀ j (a : α), l[j]? = some a → zs[off + j]? = some (val a)) → ∀ j (a : α), l[j]? = some a → (zs.extract off (off + m))[0 + j]? = some (val a) := fun {zs l} hl hz2 j a hj => by
            have hlt := (Array.getElem?_eq_some_iff.1 (hz2 j a hj)).1
            have hj' := (List.getElem?_eq_some_iff.1 hj).1
            rw [Nat.zero_add, Array.getElem?_extract, if_pos (by omega)]
            exact hz2 j a hj
          exact eqFields_flat (fun T n h off as1 bs a1 a2 a3 a4 => eqFlat hB k d (by omega) T n h _ _ off as1 bs a1 a2 a3 a4) fs.toList 0 n as1 bs ha (by omega) (by omega) (key h1 h3) (key h2 h4)
        · simp at h
      · simp at h
    · rename_i e hfs
      split at h
      · rename_i u1 he hz1 hz2
        split at h
        · rename_i hk
          cases h
          simp only [Bool.and_eq_true] at hk
          have hk1 := Nat.le_of_ble_eq_true hk.1
          obtain ⟨d', rfl⟩ : ∃ d', d = d' + 1 := ⟨d - 1, by omega⟩
          have hp : ∀ zs : Array Value, (part T zs off).run P w = .ok (.agg (zs.extract off (off + 2))) w := fun zs => by simp [part, run_isAgg_true (show aggT P T = true by simp [aggT, hfs]), run_sizeOf hz2]
          have two : ∀ {l : List α}, l.length = 2 → ∃ a b, l = [a, b] := fun {l} hl => by
            match l, hl with
            | [a, b], _ => exact ⟨a, b, rfl⟩
          obtain ⟨a0, a1, rfl⟩ := two h1
          obtain ⟨b0, b1, rfl⟩ := two h2
          have x0 := h3 0 a0 rfl; have x1 := h3 1 a1 rfl; have y0 := h4 0 b0 rfl; have y1 := h4 1 b1 rfl
          have key : ∀ {zs : Array Value} {c0 c1 : Value}, zs[off + 0]? = some c0 → zs[off + 1]? = some c1 → zs.extract off (off + 2) = #[c0, c1] := fun {zs c0 c1} z0 z1 => by
            have hlt := (Array.getElem?_eq_some_iff.1 z1).1
            apply Array.ext_getElem?
            intro j
            rw [Array.getElem?_extract]
            match j with
            | 0 => rw [if_pos (by omega), z0]; rfl
            | 1 => rw [if_pos (by omega), z1]; rfl
            | j + 2 => rw [if_neg (by omega)]; rfl
          refine ⟨_, _, hp xs, hp ys, ?_⟩
          rw [key x0 x1, key y0 y1]
          rw [Op.equalIn]
          simp only [Sem.run_bind, run_underlying hfs, Result.andThen_ok, run_sizeOf hz1]
          simp only [Std.Legacy.Range.forIn_eq_forIn_range', Std.Legacy.Range.size, Nat.sub_zero, Nat.add_one_sub_one, Nat.div_one]
          have r0 : ∀ (u v : Value), (part e #[u, v] 0).run P w = .ok u w := fun u v => run_part_int he hk.2 rfl
          have r1 : ∀ (u v : Value), (part e #[u, v] 1).run P w = .ok v w := fun u v => run_part_int he hk.2 rfl
          simp only [show List.range' 0 2 = [0, 1] from rfl, List.forIn_cons, List.forIn_nil, Sem.run_bind, Nat.mul_one, r0, r1, Result.andThen_ok, hB.eq w d' e _ _ _ he hk.2]
          by_cases e0 : a0 = b0
          · subst e0
            by_cases e1 : a1 = b1
            · subst e1; simp [r1, hB.eq w d' e _ _ _ he hk.2]
            · simp [r1, hB.eq w d' e _ _ _ he hk.2, e1]
          · simp [e0]
        · simp at h
      · simp at h
    · rename_i u1 _ _ hT
      split at h
      · rename_i hu
        cases h
        obtain ⟨a, rfl⟩ := List.length_eq_one_iff.1 h1
        obtain ⟨b, rfl⟩ := List.length_eq_one_iff.1 h2
        refine ⟨_, _, run_part_int hT hu (h3 0 a (by simp)), run_part_int hT hu (h4 0 b (by simp)), ?_⟩
        rw [hB.eq w d T u1 a b hT hu, show decide (a = b) = decide ([a] = [b]) by by_cases h : a = b <;> simp [h]]
      · simp at h
    · simp at h
theorem run_eqInts (hB : Base P val q) {w : World} {T : TypeId} {as1 bs : List α} {us vs : Array Value} (hT : intsT P q T as1.length = true) (hl : Nat.beq bs.length as1.length = true) (k1 : us.toList = as1.map val) (k2 : vs.toList = bs.map val) :
    (Op.equalIn 10000 T (.agg us) (.agg vs)).run P w = .ok (decide (as1 = bs)) w ∧ P.eqGuardType P.depth T = false := by
  have hl' := Nat.eq_of_beq_eq_true hl
  simp only [intsT, Bool.and_eq_true, Bool.not_eq_true'] at hT
  obtain ⟨⟨g1, g2⟩, g3⟩ := hT
  split at g2
  · rename_i m hm
    have hmn := Nat.eq_of_beq_eq_true g2
    have hcell : ∀ {zs : Array Value} {l : List α}, zs.toList = l.map val → ∀ j (a : α), l[j]? = some a → zs[0 + j]? = some (val a) := fun {zs l} hz j a hj => by
      rw [Nat.zero_add, ← Array.getElem?_toList, hz, List.getElem?_map, hj]; rfl
    obtain ⟨u, v, p1, p2, p3⟩ := eqFlat hB (w := w) 5 10000 (by omega) T m hm us vs 0 as1 bs (by omega) (by omega) (hcell k1) (hcell k2)
    have hsz : sizeT P T = some m := by
      simp only [flatN] at hm
      split at hm
      · split at hm
        · rename_i z y hz hy
          split at hm
          · rename_i hc
            simp only [Bool.and_eq_true] at hc
            cases hm
            rw [hy, Nat.eq_of_beq_eq_true hc.1]
          · simp at hm
        · simp at hm
      · split at hm
        · rename_i hy
          split at hm
          · cases hm; exact hy
          · simp at hm
        · simp at hm
      · rename_i u1 _ _ h
        split at hm
        · rename_i hu
          unfold isBase at hu
          split at hu <;> simp_all [aggT]
        · simp at hm
      · simp at hm
    have hp : ∀ {zs : Array Value} {l : List α}, zs.toList = l.map val → l.length = m → (part T zs 0).run P w = .ok (.agg zs) w := fun {zs l} hz hl => by
      have : zs.size = m := by rw [← Array.length_toList, hz, List.length_map, hl]
      simp [part, run_isAgg_true g1, run_sizeOf hsz, ← this]
    grind
  · simp at g2
omit [DecidableEq α] in
theorem Rs_ints {ρ : Name → Loc} {H : Heap} {M : Nat → Prop} {w : World} : ∀ {as1 : List α} {us : List Value}, AV.Rs ρ H M w (as1.map fun a => .p (.v (val a))) us → us = as1.map val
  | [], us, h => by simpa only [List.map_nil, AV.Rs] using h
  | a :: r, us, h => by
    simp only [List.map_cons, AV.Rs, AV.R, PV.R] at h
    obtain ⟨u, us', rfl, _, ⟨rfl, _⟩, h2⟩ := h
    rw [Rs_ints h2]; rfl
theorem OpOK.eqlInts {T T' : TypeId} {x y : Operand} {as1 bs : List α} {q' q : Bool} (hB : Base P val q') (ho : o.op = .binOp .eql T x y T') (hT : intsT P q' T as1.length = true) (hl : Nat.beq bs.length as1.length = true)
    (hx : evalO rd x = some (.agg (as1.map fun a => .p (.v (val a))))) (hy : evalO rd y = some (.agg (bs.map fun a => .p (.v (val a))))) (hr : decide (as1 = bs) = q) : OpOK P o ⟨rd, [], .p (.v (.bool q)), [], []⟩ :=
  OpOK.quiet fun Γ ρ M s a w hs hh => by
    have h1 := evalO_R hs hh hx
    have h2 := evalO_R hs hh hy
    simp only [AV.R] at h1 h2
    obtain ⟨us, hu, k1⟩ := h1
    obtain ⟨vs, hv, k2⟩ := h2
    obtain ⟨e1, g3⟩ := run_eqInts hB (P := P) (w := w) hT hl (Rs_ints k1) (Rs_ints k2)
    refine ⟨.bool q, ?_, by simp only [AV.R, PV.R]; exact ⟨trivial, rfl⟩⟩
    simp [execOp, ho, hu, hv, run_eqGuard_agg w .eql T x y us vs g3, run_eql_struct, e1, hr]
def isBytes (P : Program) (S : TypeId) : Bool := match P.underlying S with
  | some (.slice e) => (match P.underlying e with | some (.int .u8) => true | _ => false)
  | _ => false
theorem OpOK.convB {S T : TypeId} {x : Operand} {full : Bool} {c : Int} {r : ByteArray} (ho : o.op = .convert S T x) (hS : isBytes P S = true) (hT : P.underlying T = some .string)
    (hx : evalO rd x = some (.p (.sl full 1 [[.v (.int .u8 c)]]))) (hr : ByteArray.mk #[UInt8.ofNat c.toNat] = r) : OpOK P o ⟨rd, [], .p (.v (.string r)), [], []⟩ :=
  OpOK.quiet fun Γ ρ M s a w hs hh => by
    have h1 := evalO_R hs hh hx
    simp only [AV.R, PV.R, List.length_cons, List.length_nil] at h1
    obtain ⟨ad, cap, hu, hl, _, hn, hc⟩ := h1
    refine ⟨.string r, ?_, by simp only [AV.R, PV.R]; exact ⟨trivial, rfl⟩⟩
    unfold isBytes at hS
    split at hS
    · rename_i e he
      split at hS
      · rename_i hu8
        cases ad with
        | none => have := hn rfl; omega
        | some ad =>
          obtain ⟨g1, _, _, g2⟩ := hc ad rfl (by omega)
          simp only [PV.Rows, PV.Cells, PV.R] at g2
          obtain ⟨_, ⟨⟨v, hv, rfl, _⟩, _⟩, _⟩ := g2
          have hld := run_loadCells_list (P := P) w ad [.int .u8 c] (fun j v hj => by
            cases j with
            | zero =>
              simp at hj; subst hj
              have e0 : ad.add 0 = ⟨ad.block, ad.off, none⟩ := by cases ad; simp only at g1; subst g1; simp [Addr.add]
              rw [e0]; exact hv
            | succ j => simp at hj)
          simp only [List.length_cons, List.length_nil] at hld
          subst hr
          simp only [execOp, ho, Sem.run_bind, hu, run_convert_bytes_string w S T e (some ad) _ cap he hu8 hT, Conv.bytesToString, hld, Result.andThen]
          simp
          rfl
      · simp at hS
    · simp at hS
end
section
variable {P : Program} {Γ : Ctx} {Q : Exit → AS → Prop}
end
open Go
section
variable {P : Program} {o : Oper} {rd : List (Nat × AV)}
theorem OpOK.neqInts {α : Type} [DecidableEq α] {val : α → Value} {T T' : TypeId} {x y : Operand} {as1 bs : List α} {q' q : Bool} (hB : Base P val q') (ho : o.op = .binOp .neq T x y T') (hT : intsT P q' T as1.length = true) (hl : Nat.beq bs.length as1.length = true)
    (hx : evalO rd x = some (.agg (as1.map fun a => .p (.v (val a))))) (hy : evalO rd y = some (.agg (bs.map fun a => .p (.v (val a))))) (hr : decide (as1 ≠ bs) = q) : OpOK P o ⟨rd, [], .p (.v (.bool q)), [], []⟩ :=
  OpOK.quiet fun Γ ρ M s a w hs hh => by
    have h1 := evalO_R hs hh hx
    have h2 := evalO_R hs hh hy
    simp only [AV.R] at h1 h2
    obtain ⟨us, hu, k1⟩ := h1
    obtain ⟨vs, hv, k2⟩ := h2
    obtain ⟨e1, g3⟩ := run_eqInts hB (P := P) (w := w) hT hl (Rs_ints k1) (Rs_ints k2)
    refine ⟨.bool q, ?_, by simp only [AV.R, PV.R]; exact ⟨trivial, rfl⟩⟩
    have hq : (!decide (as1 = bs)) = q := by rw [← hr]; simp
    simp [execOp, ho, hu, hv, run_eqGuard_agg w .neq T x y us vs g3, run_neq_struct, e1, hq]
theorem OpOK.sliceLo {T e : TypeId} {x lo : Operand} {full : Bool} {es k : Nat} {rows rows' : List (List PV)} {i : Int} (ho : o.op = .slice T x (some lo) none none) (hT : P.underlying T = some (.slice e)) (hz : sizeT P e = some es)
    (hx : evalO rd x = some (.p (.sl full es rows))) (hlo : evalO rd lo = some (.p (.v (.int .i64 i)))) (hi : i = ((k : Nat) : Int)) (hk : k ≤ rows.length) (hr : rows.drop k = rows') : OpOK P o ⟨rd, [], .p (.sl full es rows'), [], []⟩ :=
  OpOK.quiet fun Γ ρ M s a w hs hh => by
    subst hr; subst hi
    have h1 := evalO_R hs hh hx
    have h2 := evalO_R hs hh hlo
    simp only [AV.R, PV.R] at h1 h2
    obtain ⟨ad, cap, hu, hl, hf, hn, hc⟩ := h1
    refine ⟨.slice (if cap = k then ad else ad.map (·.add (k * es))) (rows.length - k) (cap - k), ?_, ?_⟩
    · have hb : (Instr.sliceBounds true rows.length cap (some (.int .i64 ((k : Nat) : Int))) none none).run P w = .ok (k, rows.length, cap) w := by
        unfold Instr.sliceBounds
        simp [run_sliceBound, hk]
      simp [execOp, ho, hu, h2.1, Instr.sliceAt, Instr.slice, run_underlying hT, hb, run_sizeOf hz]
    · simp only [AV.R, PV.R, List.length_drop]
      refine ⟨_, _, rfl, by omega, fun h => by rw [hf h], fun h => ?_, fun ad' had hcap => ?_⟩
      · split at h
        · omega
        · simp_all
      · have hne : ¬ cap = k := by omega
        rw [if_neg hne] at had
        cases ad with
        | none => simp at had
        | some x =>
          obtain ⟨g1, g2, g3, g4⟩ := hc x rfl (by omega)
          obtain ⟨b0, o0, s0⟩ := x
          simp only at g1; subst g1
          simp only [Option.map_some, Option.some.injEq] at had
          rw [addr_add] at had
          subst had
          exact ⟨rfl, g2, g3, g4.drop k⟩
end
section
variable {P : Program} {o : Oper} {rd : List (Nat × AV)}
end
open Go
section
variable {P : Program} {o : Oper} {rd : List (Nat × AV)}
theorem run_bounds {Γ : Ctx} {ρ : Name → Loc} {M : Nat → Prop} {s : AS} {a : Act} {w : World} {e : Eff} (hs : Sim Γ ρ M s a w) (hh : s.holds e) {lo hi : Option Operand} {len cap k m : Nat}
    (hlo : optB e.rd 0 lo = some ((k : Nat) : Int)) (hhi : optB e.rd len hi = some ((m : Nat) : Int)) (h1 : k ≤ m) (h2 : m ≤ len) (h3 : len ≤ cap) :
    (Instr.sliceBounds true len cap (lo.map a.eval) (hi.map a.eval) none).run P w = .ok (k, m, cap) w := by
  have hb1 := run_bound (P := P) (w := w) (y := cap) (c := .sliceAcap) hs hh hhi (Nat.le_trans h2 h3)
  have hb2 := run_bound (P := P) (w := w) (c := .sliceB) hs hh hlo h1
  unfold Instr.sliceBounds
  cases lo <;> cases hi <;> simp_all
theorem OpOK.sliceP {T e : TypeId} {x : Operand} {lo hi : Option Operand} {full : Bool} {es k m : Nat} {rows : List (List PV)} (ho : o.op = .slice T x lo hi none) (hT : P.underlying T = some (.slice e)) (hz : sizeT P e = some es)
    (hx : evalO rd x = some (.p (.sl full es rows))) (hlo : optB rd 0 lo = some ((k : Nat) : Int)) (hhi : optB rd rows.length hi = some ((m : Nat) : Int)) (h1 : k ≤ m) (h2 : m ≤ rows.length) : OpOK P o ⟨rd, [], .p (.sl false es ((rows.take m).drop k)), [], []⟩ :=
  OpOK.quiet fun Γ ρ M s a w hs hh => by
    have hr := evalO_R hs hh hx
    simp only [AV.R, PV.R] at hr
    obtain ⟨ad, cap, hu, hl, hf, hn, hc⟩ := hr
    have hb := run_bounds (P := P) hs hh hlo hhi h1 h2 hl
    refine ⟨.slice (if cap = k then ad else ad.map (·.add (k * es))) (m - k) (cap - k), ?_, ?_⟩
    · simp [execOp, ho, hu, Instr.sliceAt, Instr.slice, run_underlying hT, hb, run_sizeOf hz]
    · simp only [AV.R, PV.R, List.length_drop, List.length_take, Nat.min_eq_left h2]
      refine ⟨_, _, rfl, by omega, fun h => by simp at h, fun h => ?_, fun ad' had hcap => ?_⟩
      · split at h
        · omega
        · cases ad with
          | none => rw [hn rfl]; omega
          | some x => simp at h
      · have hne : ¬ cap = k := by omega
        rw [if_neg hne] at had
        cases ad with
        | none => simp at had
        | some x =>
          obtain ⟨g1, g2, g3, g4⟩ := hc x rfl (by omega)
          obtain ⟨b0, o0, s0⟩ := x
          simp only at g1; subst g1
          simp only [Option.map_some, Option.some.injEq] at had
          rw [addr_add] at had
          subst had
          exact ⟨rfl, g2, g3, (g4.take m).drop k⟩
theorem OpOK.sliceView {T e : TypeId} {x : Operand} {lo hi : Option Operand} {n : Name} {es len k m : Nat} {rows : List (List PV)} (ho : o.op = .slice T x lo hi none) (hT : P.underlying T = some (.slice e)) (hz : sizeT P e = some es)
    (hx : evalO rd x = some (.own n len)) (hlo : optB rd 0 lo = some ((k : Nat) : Int)) (hhi : optB rd len hi = some ((m : Nat) : Int)) (hlen : Nat.beq len rows.length = true) (h1 : k ≤ m) (h2 : m ≤ rows.length) :
    OpOK P o ⟨rd, [(n, .arr es rows)], .view n len k m, [], []⟩ :=
  OpOK.quiet fun Γ ρ M s a w hs hh => by
    have hr := evalO_R hs hh hx
    simp only [AV.R] at hr
    have hn := hh.hp n _ (by simp : (n, AO.arr es rows) ∈ _)
    have hle := Nat.eq_of_beq_eq_true hlen
    have hu := (hr.2 _ es rows.length hn rfl).2 hle
    obtain ⟨hes, hcap, _⟩ := hs.objs n _ hn
    have hb := run_bounds (P := P) (cap := (ρ n).cap) hs hh hlo hhi h1 (by rw [hle]; exact h2) (by rw [hle]; exact hcap)
    refine ⟨viewV (.slice (ρ n).base len (ρ n).cap) k m es, ?_, ?_⟩
    · simp [execOp, ho, hu, Instr.sliceAt, Instr.slice, run_underlying hT, hb, run_sizeOf hz, viewV]
    · simp only [AV.R]
      refine ⟨rfl, h1, by rw [hle]; exact h2, fun ob es' kk hob hsh => ?_⟩
      rw [hn] at hob; cases hob
      simp only [AO.shape, Option.some.injEq, Prod.mk.injEq] at hsh
      obtain ⟨rfl, rfl⟩ := hsh
      exact ⟨by omega, fun _ => rfl⟩
theorem OpOK.sliceCut {T e : TypeId} {x hi mx : Operand} {n : Name} {len es k : Nat} {i : Int} {rows : List (List PV)} (ho : o.op = .slice T x none (some hi) (some mx)) (hT : P.underlying T = some (.slice e)) (hz : sizeT P e = some es)
    (hx : evalO rd x = some (.own n len)) (hhi : evalO rd hi = some (.p (.v (.int .i64 i)))) (hmx : evalO rd mx = some (.p (.v (.int .i64 i)))) (hi : i = ((k : Nat) : Int)) (hlen : Nat.beq len rows.length = true) (hk : k ≤ rows.length) :
    OpOK P o ⟨rd, [(n, .arr es rows)], .cut n len k, [], []⟩ :=
  OpOK.quiet fun Γ ρ M s a w hs hh => by
    subst hi
    have hr := evalO_R hs hh hx
    have h2 := evalO_R hs hh hhi
    have h3 := evalO_R hs hh hmx
    simp only [AV.R, PV.R] at hr h2 h3
    have hn := hh.hp n _ (by simp : (n, AO.arr es rows) ∈ _)
    have hle := Nat.eq_of_beq_eq_true hlen
    have hu := (hr.2 _ es rows.length hn rfl).2 hle
    obtain ⟨hes, hcap, _⟩ := hs.objs n _ hn
    refine ⟨.slice (ρ n).base k k, ?_, ?_⟩
    · have hb : (Instr.sliceBounds true len (ρ n).cap none (some (.int .i64 ((k : Nat) : Int))) (some (.int .i64 ((k : Nat) : Int)))).run P w = .ok (0, k, k) w := by
        unfold Instr.sliceBounds
        simp [run_sliceBound, show k ≤ (ρ n).cap by omega]
      have hz0 : ∀ x : Addr, x.add 0 = x := fun x => by
        obtain ⟨b0, o0, s0⟩ := x
        cases s0 <;> simp [Addr.add]
      cases hb0 : (ρ n).base with
      | none => simp [execOp, ho, hu, hb0, h2.1, h3.1, Instr.sliceAt, Instr.slice, run_underlying hT, hb, run_sizeOf hz]
      | some x => simp [execOp, ho, hu, hb0, h2.1, h3.1, Instr.sliceAt, Instr.slice, run_underlying hT, hb, run_sizeOf hz, hz0]
    · simp only [AV.R]
      refine ⟨rfl, by omega, fun ob es' kk hob hsh => ?_⟩
      rw [hn] at hob; cases hob
      simp only [AO.shape, Option.some.injEq, Prod.mk.injEq] at hsh
      obtain ⟨rfl, rfl⟩ := hsh
      exact ⟨by omega, fun _ => by simp⟩
section
variable {T e : TypeId} {x y : Operand} {n m : Name} {len es bytes k lo hi r : Nat} {rows rows2 : List (List PV)}
theorem cut_src {Γ : Ctx} {ρ : Name → Loc} {M : Nat → Prop} {s : AS} {a : Act} {w : World} {X Y : Value} {i : TypeInfo} (hs : Sim Γ ρ M s a w) (hT : elemT P T = some e) (hsz : i.size = es) (hn : s.heap n = some (.arr es rows)) (hle : len = rows.length) (hk : k ≤ rows.length) (hh : hi ≤ rows.length) (hl : lo ≤ hi)
    (hX : AV.R ρ s.heap M w (.cut n len k) X) (hY : AV.R ρ s.heap M w (.view n len lo hi) Y) : 1 ≤ es ∧ k ≤ (ρ n).cap ∧ X = .slice (ρ n).base k k ∧
      (∃ cr', RR ρ s.heap M w ((rows.take hi).drop lo) cr' ∧ (∀ r ∈ (rows.take hi).drop lo, r.length = es) ∧ Src P i.size T Y ((rows.take hi).drop lo).length cr'.flatten w) ∧
      ∃ cr0, RR ρ s.heap M w (rows.take k) cr0 ∧ (∀ r ∈ rows.take k, r.length = es) ∧ (Builtin.firstCells i.size k (.slice (ρ n).base k k)).run P w.drew = .ok cr0.flatten.toArray w.drew := by
  simp only [AV.R] at hX hY
  have hux := (hX.2.2 _ es rows.length hn rfl).2 hle
  have huy := (hY.2.2.2 _ es rows.length hn rfl).2 hle
  obtain ⟨hes, hcap, hobj⟩ := hs.objs n _ hn
  refine ⟨hes, by omega, hux, ?_⟩
  have hvl : ((rows.take hi).drop lo).length = hi - lo := by simp; omega
  rcases hobj with hobj | ⟨b, T', cs, h3, h4, h5, h6, h7⟩
  · have h0 : rows = [] := List.eq_nil_of_length_eq_zero (by omega)
    subst h0
    simp only [List.length_nil, Nat.le_zero_eq] at hk hh hle
    subst hh; subst hk; subst hle
    have : lo = 0 := by omega
    subst this
    refine ⟨⟨[], by simp [RR], by simp, ?_⟩, [], by simp [RR], by simp, ?_⟩
    · rw [huy, hobj]
      simp only [viewV, if_true]
      cases hb : (ρ n).base with
      | none => simpa using Src.ofNil (w := w) (elemT_spec hT) 0
      | some ad => simpa using Src.ofSlice (w := w) (elemT_spec hT) ad 0 0 [] (by simp) (by simp) (by simp)
    · cases hb : (ρ n).base with
      | none => simpa using run_firstCells_none (P := P) w.drew i.size 0 0 0
      | some ad => simpa using run_firstCells_some (P := P) w.drew i.size 0 ad 0 0 [] (by simp) (by simp)
  · obtain ⟨cr', k1, k2, k3⟩ := RR.of_Rows (ρ := ρ) (H := s.heap) ((h7.take hi).drop lo)
    obtain ⟨cr0, m1, m2, m3⟩ := RR.of_Rows (ρ := ρ) (H := s.heap) (h7.take k)
    refine ⟨⟨cr', k1, k2, ?_⟩, cr0, m1, m2, ?_⟩
    · rw [huy, hvl]
      by_cases hz : hi = lo
      · subst hz
        have : cr' = [] := List.eq_nil_of_length_eq_zero (by have := k1.length; rw [hvl] at this; omega)
        subst this
        simp only [viewV, Nat.sub_self, h3]
        split
        · exact Src.ofSlice (w := w) (elemT_spec hT) _ _ _ [] (by simp) (by simp) (by simp)
        · exact Src.ofSlice (w := w) (elemT_spec hT) _ _ _ [] (by simp) (by simp) (by simp)
      · simp only [viewV, if_neg (show ¬ (ρ n).cap = lo by omega), h3, Option.map_some]
        refine Src.ofSlice (w := w) (elemT_spec hT) _ _ _ _ (by rw [flat_len (k1.len k2), k1.length, hvl, hsz]) (fun j u hj => ?_) k1.one
        rw [addr_add, addr_add]
        exact k3 j u hj
    · rw [h3]
      exact run_firstCells_some (P := P) w.drew i.size k _ k k cr0.flatten (by rw [hsz, flat_len (m1.len m2), m1.length, List.length_take]; congr 1; omega) (fun j u hj => by
        rw [addr_add, Nat.zero_add, World.cell?_drew]; have := m3 j u hj; rwa [Nat.zero_add] at this)
theorem OpOK.appendCut0 (ho : o.op = .call { callee := .builtin .append, args := #[x, y], argTypes := #[T, T] }) (hT : elemT P T = some e) (hok : elemOK P e es bytes = true) (hx : evalO rd x = some (.cut n len k)) (hy : evalO rd y = some (.view n len lo hi)) (hlen : Nat.beq len rows.length = true) (hk : k ≤ rows.length) (hh : hi ≤ rows.length) (hl : lo ≤ hi) (h0 : (rows.take hi).drop lo = []) :
    OpOK P o ⟨rd, [(n, .arr es rows)], .cut n len k, [], []⟩ :=
  OpOK.quiet fun Γ ρ M s a w hs hhd => by
    obtain ⟨i, z, hi', hz, hsz, hby, hzs⟩ := elemOK_spec hok
    have hle := Nat.eq_of_beq_eq_true hlen
    have hn := hhd.hp n _ (by simp : (n, AO.arr es rows) ∈ _)
    have hX := evalO_R hs hhd hx
    obtain ⟨_, _, hux, ⟨cr', k1, k2, hsrc⟩, _⟩ := cut_src hs hT hsz hn hle hk hh hl hX (evalO_R hs hhd hy)
    rw [h0] at hsrc k1
    simp only [RR] at k1
    subst k1
    have hrun := run_append_nothing w T T o.type e i (elemT_spec hT) hi' (ρ n).base k k (Nat.le_refl _) (a.eval y) (by simpa using hsrc)
    refine ⟨_, ?_, hX⟩
    simp [execOp, ho, resolve, invoke, builtin, hux, hrun]
theorem OpOK.appendCut (ho : o.op = .call { callee := .builtin .append, args := #[x, y], argTypes := #[T, T] }) (hT : elemT P T = some e) (hok : elemOK P e es bytes = true) (hx : evalO rd x = some (.cut n len k)) (hy : evalO rd y = some (.view n len lo hi)) (hlen : Nat.beq len rows.length = true) (hk : k ≤ rows.length) (hh : hi ≤ rows.length) (hl : lo ≤ hi) (h0 : (rows.take hi).drop lo ≠ [])
    (h2 : rows.take k ++ (rows.take hi).drop lo = rows2) (hr : rows2.length = r) (hfit : rows2.length * bytes ≤ 140737488355328) (hfit2 : rows2.length ≤ 140737488355328) :
    OpOK P o ⟨rd, [(n, .arr es rows)], .own m r, [(m, .arr es rows2)], [m]⟩ :=
  OpOK.put fun Γ ρ M s a w hs hhd => by
    subst h2; subst hr
    obtain ⟨i, z, hi', hz, hsz, hby, hzs⟩ := elemOK_spec hok
    have hle := Nat.eq_of_beq_eq_true hlen
    have hn := hhd.hp n _ (by simp : (n, AO.arr es rows) ∈ _)
    obtain ⟨hm, hfree⟩ := hhd.nw m (by simp)
    obtain ⟨hes', hkc, hux, ⟨cr', k1, k2, hsrc⟩, cr0, m1, m2, hold⟩ := cut_src hs hT hsz hn hle hk hh hl (evalO_R hs hhd hx) (evalO_R hs hhd hy)
    obtain ⟨R', hR'⟩ : ∃ R', R' = (rows.take hi).drop lo := ⟨_, rfl⟩
    rw [← hR'] at k1 k2 hsrc h0 hfit hfit2 ⊢
    have hpos : 0 < R'.length := List.length_pos_iff.2 h0
    have hlk : (rows.take k).length = k := by rw [List.length_take]; omega
    simp only [List.length_append, hlk] at hfit hfit2
    have hg : k < k + R'.length := by omega
    have hrun := run_append_grow_src (P := P) w T T o.type e i z (elemT_spec hT) hi' hz (ρ n).base k k cr0.flatten hold (a.eval y) R'.length cr'.flatten hsrc hg (by omega) (growslice_fits hg (by rw [hby]; exact hfit))
    have hge := grownCap_ge w (k + R'.length) k e
    have happ : (cr0.flatten ++ cr'.flatten) = (cr0 ++ cr').flatten := by simp
    rw [happ] at hrun
    obtain ⟨M', hsim⟩ := hs.grown (n := m) (es := es) (cap := grownCap w (k + R'.length) k e) (rows := rows.take k ++ R') (cr := cr0 ++ cr') (rest := Builtin.zeroCells z.cells (grownCap w (k + R'.length) k e - (k + R'.length))) (e := e)
      hes' (m1.append k1) (fun r hr => by rcases List.mem_append.1 hr with hr | hr; exact m2 r hr; exact k2 r hr) (by simp only [List.length_append, hlk]; exact hge) (by rw [size_zeroCells', hzs]; simp only [List.length_append, hlk]) (by simp; omega)
      (fun o' ho' => by rw [hm] at ho'; simp at ho') (fun _ => hfree)
    have hexec : ∀ (u : Value) (w' : World), (Builtin.append_ #[T, T] o.type #[.slice (ρ n).base k k, a.eval y]).run P w = .ok u w' → (execOp a.eval o).run P w = .ok (.value u) w' := by
      intro u w' hrun
      simp [execOp, ho, resolve, invoke, builtin, hux, hrun]
    refine ⟨_, _, _, M', hexec _ _ hrun, hsim, ?_⟩
    · simp only [AV.R]
      refine ⟨rfl, fun o' es' k' hc hs' => ?_⟩
      simp only [if_true] at hc
      cases hc
      cases hs'
      exact ⟨Nat.le_refl _, fun _ => by simp [hlk]⟩
end
theorem Sim.adopt {Γ : Ctx} {ρ : Name → Loc} {M : Nat → Prop} {s : AS} {a : Act} {w : World} (h : Sim Γ ρ M s a w) {n m : Name} {es k t : Nat} {rows : List (List PV)} (hg : n ∉ Γ.names) (hn : s.heap n = some (.arr es rows)) (hm : s.heap m = none) (hf : s.free m) (hk : k ≤ rows.length) (ht : s.slot t = some (.cut n rows.length k)) :
    ∃ ρ', Sim Γ ρ' M ⟨fun j => if j = t then some (.own m k) else s.slot j, fun j => if j = m then some (.arr es (rows.take k)) else if j = n then none else s.heap j⟩ a w := by
  have hmn : m ≠ n := fun e => by rw [e, hn] at hm; simp at hm
  obtain ⟨hes, hcap, hobj⟩ := h.objs n _ hn
  obtain ⟨u, hu, hr⟩ := h.slots t _ ht
  simp only [AV.R] at hr
  have hux := (hr.2.2 _ es rows.length hn rfl).2 rfl
  have hst : HStep ρ s.heap (fun j => if j = m then ⟨(ρ n).base, k⟩ else ρ j) (fun j => if j = m then some (.arr es (rows.take k)) else if j = n then none else s.heap j) := fun j ob hj => by
    have e1 : j ≠ m := fun e => by rw [e, hm] at hj; simp at hj
    simp only [e1, if_false]
    by_cases e : j = n
    · simp only [e, if_true]; cases ob <;> simp [stays]
    · simp only [e, if_false, hj]; exact stays_refl _ _
  have h2 := h.update (ρ' := fun j => if j = m then ⟨(ρ n).base, k⟩ else ρ j) (M' := M) (H' := fun j => if j = m then some (.arr es (rows.take k)) else if j = n then none else s.heap j) (w' := w) (Ext.refl _ _) (fun _ hb => hb) (fun _ hb => .inl hb) h.msize hst
    (fun j hj hc => by
      obtain ⟨o, ho, _⟩ := h.keep j hj
      have e1 : j ≠ m := fun e => by rw [e, hm] at ho; simp at ho
      have e2 : j ≠ n := fun e => hg (e ▸ hj)
      simp only [e1, e2, if_false, ho] at hc; simp at hc)
    (fun j hj hc => by
      by_cases e : j = m
      · rw [e]; exact hf
      · by_cases e2 : j = n
        · rw [e2, hn] at hj; simp at hj
        · simp only [e, e2, if_false, hj] at hc; exact absurd rfl hc)
    (fun j ob hj => by
      by_cases e : j = m
      · subst e
        simp only [if_true, Option.some.injEq] at hj
        subst hj
        refine .inr ⟨⟨hes, by simp; omega, ?_⟩, fun b hb => ?_⟩
        · simp only [if_true]
          rcases Nat.eq_zero_or_pos k with hk0 | hk0
          · exact .inl hk0
          · rcases hobj with hobj | ⟨b, T', cs, h3, h4, h5, h6, h7⟩
            · omega
            · exact .inr ⟨b, T', cs, h3, h4, h5, Nat.le_trans (Nat.mul_le_mul_right es (by omega)) h6, h7.take k⟩
        · refine .inr ((h.own0 n _ b hn ?_).resolve_left fun x => hg x.1)
          simp only [if_true, Loc.blk] at hb ⊢
          split at hb
          · simp at hb
          · rw [if_neg (by omega)]; exact hb
      · by_cases e2 : j = n
        · simp only [e2, Ne.symm hmn, if_false, if_true] at hj; simp at hj
        · simp only [e, e2, if_false] at hj
          exact .inl ⟨hj, by simp only [e, if_false], fun _ _ => rfl⟩)
    (fun i j o1 o2 b h1 h2 h3 h4 => by
      have hb : ∀ {b}, (⟨(ρ n).base, k⟩ : Loc).blk = some b → (ρ n).blk = some b := fun {b} hb => by
        simp only [Loc.blk] at hb ⊢
        split at hb
        · simp at hb
        · rw [if_neg (by omega)]; exact hb
      by_cases e : i = m <;> by_cases e2 : j = m
      · rw [e, e2]
      · subst e
        simp only [if_true, e2, if_false] at h2 h3 h4
        by_cases e3 : j = n
        · simp [e3] at h2
        · simp only [e3, if_false] at h2
          exact absurd (h.inj n j _ _ b hn h2 (hb h3) h4).symm e3
      · subst e2
        simp only [if_true, e, if_false] at h1 h3 h4
        by_cases e3 : i = n
        · simp [e3] at h1
        · simp only [e3, if_false] at h1
          exact absurd (h.inj n i _ _ b hn h1 (hb h4) h3).symm e3
      · simp only [e, e2, if_false] at h1 h2 h3 h4
        by_cases e3 : i = n
        · simp [e3] at h1
        · by_cases e4 : j = n
          · simp [e4] at h2
          · simp only [e3, e4, if_false] at h1 h2
            exact h.inj i j _ _ b h1 h2 h3 h4)
  refine ⟨_, h2.n, h2.d, fun j x hj => ?_, h2.objs, h2.inj, h2.own0, h2.keep, h2.ext, h2.mext, h2.msize, h2.m0, h2.ground⟩
  by_cases e : j = t
  · subst e
    simp only [if_true, Option.some.injEq] at hj
    subst hj
    refine ⟨u, hu, ?_⟩
    simp only [AV.R]
    refine ⟨hr.1, fun o' es' k' hc hs' => ?_⟩
    simp only [if_true, Option.some.injEq] at hc
    subst hc
    simp only [AO.shape, Option.some.injEq, Prod.mk.injEq, List.length_take] at hs'
    exact ⟨by omega, fun _ => by simp only [if_true]; exact hux⟩
  · simp only [e, if_false] at hj
    exact h2.slots j x hj
theorem Rs_cell {ρ : Name → Loc} {H : Heap} {M : Nat → Prop} {w : World} : ∀ {ps : List PV} {us : List Value}, AV.Rs ρ H M w (pcells ps) us → ∀ (q : Nat) (p : PV), ps[q]? = some p → ∃ u : Value, us[q]? = some u ∧ p.R M w u
  | [], us, _, q, p, h => by simp at h
  | x :: ps, us, h, q, p, hq => by
    simp only [pcells, List.map_cons, AV.Rs] at h
    obtain ⟨u, us', rfl, _, h3, h4⟩ := h
    cases q with
    | zero => simp only [List.getElem?_cons_zero, Option.some.injEq] at hq; subst hq; exact ⟨u, rfl, by simpa only [AV.R] using h3⟩
    | succ q => simpa using Rs_cell (ps := ps) h4 q p (by simpa using hq)
theorem OpOK.lenView {T e : TypeId} {x : Operand} {ats : Array TypeId} {n : Name} {len lo hi es : Nat} {rows : List (List PV)} (ho : o.op = .call { callee := .builtin .len, args := #[x], argTypes := ats }) (hat : ats[0]? = some T) (hT : elemT P T = some e)
    (hx : evalO rd x = some (.view n len lo hi)) (hlen : Nat.beq len rows.length = true) : OpOK P o ⟨rd, [(n, .arr es rows)], .p (.v (.int .i64 ((hi - lo : Nat) : Int))), [], []⟩ :=
  OpOK.quiet fun Γ ρ M s a w hs hh => by
    have hr' := evalO_R hs hh hx
    simp only [AV.R] at hr'
    have hle := Nat.eq_of_beq_eq_true hlen
    have hu := (hr'.2.2.2 (.arr es rows) es rows.length (hh.hp n _ (by simp)) rfl).2 hle
    simp only [viewV] at hu
    refine ⟨.int .i64 ((hi - lo : Nat) : Int), ?_, by simp only [AV.R, PV.R]; exact ⟨trivial, rfl⟩⟩
    simp [execOp, ho, resolve, invoke, builtin, Builtin.len_, hat, hu, run_underlying (elemT_spec hT), goInt]
theorem OpOK.indexView {T e : TypeId} {x y : Operand} {n : Name} {len lo hi es i : Nat} {rows : List (List PV)} {k : IntKind} {j : Int} (ho : o.op = .indexAddr T x y) (hT : elemT P T = some e) (hz : sizeT P e = some es)
    (hx : evalO rd x = some (.view n len lo hi)) (hlen : Nat.beq len rows.length = true) (hy : evalO rd y = some (.p (.v (.int k j)))) (hj : j = (i : Int)) (hi : i < hi - lo) : OpOK P o ⟨rd, [(n, .arr es rows)], .aref n len (lo + i) 0, [], []⟩ :=
  OpOK.quiet fun Γ ρ M s a w hs hh => by
    have hr := evalO_R hs hh hx
    simp only [AV.R] at hr
    have hn := hh.hp n _ (by simp : (n, AO.arr es rows) ∈ _)
    have hle := Nat.eq_of_beq_eq_true hlen
    have hu := (hr.2.2.2 _ es rows.length hn rfl).2 hle
    have hhi := hr.2.2.1
    obtain ⟨h0, h1, h2⟩ := hs.objs n _ hn
    rcases h2 with h2 | ⟨b, T', cs, h3, h4, h5, h6, h7⟩
    · omega
    · have hc : ¬ (ρ n).cap = lo := by omega
      simp only [viewV, hc, if_false, h3, Option.map_some, addr_add] at hu
      refine ⟨.pointer (some ⟨b, (lo + i) * es, none⟩), ?_, ?_⟩
      · simp [execOp, ho, hu, eval_v hs hh hy, Instr.indexAt, asIntOf, run_underlying (elemT_spec hT), hj, hi, run_sizeOf hz, addr_add, Nat.add_mul]
      · simp only [AV.R]
        refine ⟨rfl, fun o' es' k' hc hs' => ?_⟩
        rw [hn] at hc; cases hc
        cases hs'
        exact ⟨by omega, fun _ => ⟨b, h3, by simp⟩⟩
theorem OpOK.sliceView2 {T e : TypeId} {x : Operand} {lo hi : Option Operand} {n : Name} {es len a b k m : Nat} {rows : List (List PV)} (ho : o.op = .slice T x lo hi none) (hT : P.underlying T = some (.slice e)) (hz : sizeT P e = some es)
    (hx : evalO rd x = some (.view n len a b)) (hlo : optB rd 0 lo = some ((k : Nat) : Int)) (hhi : optB rd (b - a) hi = some ((m : Nat) : Int)) (hlen : Nat.beq len rows.length = true) (h1 : k ≤ m) (h2 : m ≤ b - a) (h3 : a = 0 ∨ k = 0 ∨ k < m) :
    OpOK P o ⟨rd, [(n, .arr es rows)], .view n len (a + k) (a + m), [], []⟩ :=
  OpOK.quiet fun Γ ρ M s w0 w hs hh => by
    have hr := evalO_R hs hh hx
    simp only [AV.R] at hr
    have hn := hh.hp n _ (by simp : (n, AO.arr es rows) ∈ _)
    have hle := Nat.eq_of_beq_eq_true hlen
    have hu := (hr.2.2.2 _ es rows.length hn rfl).2 hle
    have hab := hr.2.1
    have hbl := hr.2.2.1
    obtain ⟨hes, hcap, hobj⟩ := hs.objs n _ hn
    have hb := run_bounds (P := P) (cap := (ρ n).cap - a) hs hh hlo hhi h1 h2 (by omega)
    simp only [viewV] at hu
    obtain ⟨ad, had⟩ : ∃ ad, ad = (if (ρ n).cap = a then (ρ n).base else (ρ n).base.map (·.add (a * es))) := ⟨_, rfl⟩
    rw [← had] at hu
    refine ⟨.slice (if (ρ n).cap - a = k then ad else ad.map (·.add (k * es))) (m - k) ((ρ n).cap - a - k), ?_, ?_⟩
    · simp [execOp, ho, hu, Instr.sliceAt, Instr.slice, run_underlying hT, hb, run_sizeOf hz]
    · simp only [AV.R]
      refine ⟨rfl, by omega, by omega, fun ob es' kk hob hsh => ?_⟩
      rw [hn] at hob; cases hob
      simp only [AO.shape, Option.some.injEq, Prod.mk.injEq] at hsh
      obtain ⟨rfl, rfl⟩ := hsh
      refine ⟨by omega, fun _ => ?_⟩
      simp only [viewV]
      rw [show a + m - (a + k) = m - k by omega, show (ρ n).cap - a - k = (ρ n).cap - (a + k) by omega]
      congr 1
      by_cases hca : (ρ n).cap = a
      · have hk0 : k = 0 := by omega
        subst hk0
        rw [if_pos (by omega), if_pos (by omega), had, if_pos hca]
      · rcases hobj with hobj | ⟨b', t, cs, g3, _⟩
        · exact absurd (show (ρ n).cap = a by omega) hca
        · rw [had, if_neg hca]
          by_cases hck : (ρ n).cap = a + k
          · have h4 : a = 0 := by omega
            subst h4
            rw [if_pos (by omega), if_pos hck, g3]
            simp [addr_add]
          · rw [if_neg (by omega), if_neg hck, g3]
            simp [addr_add, Nat.add_mul]
theorem OpOK.clearView {T e : TypeId} {x : Operand} {ats : Array TypeId} {n : Name} {es len i m : Nat} {zr : List PV} {rows rows' : List (List PV)} (ho : o.op = .call { callee := .builtin .clear, args := #[x], argTypes := ats }) (hat : ats[0]? = some T)
    (hT : P.underlying T = some (.slice e)) (hz : sizeT P e = some es) (hzr : zeroRow P e = some zr) (hzl : zr.length = es) (hx : evalO rd x = some (.view n len i m)) (hlen : Nat.beq len rows.length = true) (hi : i ≤ m) (hm : m ≤ rows.length)
    (hr : rows.take i ++ List.replicate (m - i) zr ++ rows.drop m = rows') : OpOK P o ⟨rd, [(n, .arr es rows)], .tup [], [(n, .arr es rows')], []⟩ :=
  OpOK.upd fun Γ ρ M s a w hs hh => by
    subst hr
    have hn := hh.hp n _ (by simp : (n, AO.arr es rows) ∈ _)
    have hle := Nat.eq_of_beq_eq_true hlen
    have h1 := evalO_R hs hh hx
    simp only [AV.R] at h1
    have hX := (h1.2.2.2 _ es rows.length hn rfl).2 hle
    simp only [viewV] at hX
    obtain ⟨hes, hcap, hobj⟩ := hs.objs n _ hn
    have hres : ∀ ρ' H' M' w', AV.R ρ' H' M' w' (.tup []) (.tuple #[]) := fun _ _ _ _ => by simp only [AV.R, AV.Ts]; exact ⟨#[], rfl, rfl⟩
    unfold zeroRow at hzr
    split at hzr
    case h_2 => simp at hzr
    rename_i zs hcs
    obtain ⟨inf, z, hinf, hz', hall, rfl⟩ := zeroAV_spec hcs
    by_cases hz0 : m - i = 0
    · have hrows : rows.take i ++ List.replicate (m - i) zr ++ rows.drop m = rows := by rw [hz0, List.replicate_zero, List.append_nil, show m = i by omega]; exact List.take_append_drop i rows
      rw [hrows]
      refine ⟨_, w, ρ, M, ?_, hs.congr (fun t => rfl) (fun m => ?_), hres _ _ _ _⟩
      · have hl0 : m - i = 0 := hz0
        have hA : ∀ (d : Option Addr) (c : Nat), (Builtin.clear_ ats o.type #[.slice d 0 c]).run P w = .ok (.tuple #[]) w := fun d c => by
          cases d <;> simp [Builtin.clear_, hat, run_underlying hT]
        rw [hl0] at hX
        simp [execOp, ho, resolve, invoke, builtin, hX, hA]
      · by_cases e : m = n
        · subst e; simp [hn]
        · simp [e]
    · rcases hobj with hobj | ⟨b, t, cs, h3, h4, h5, h6, h7⟩
      · omega
      · have hci : ¬ (ρ n).cap = i := by omega
        have hdst : a.eval x = .slice (some ⟨b, i * es, none⟩) (m - i) ((ρ n).cap - i) := by rw [hX]; simp [hci, h3, addr_add]
        have hzR : AV.Rs ρ s.heap M w (pcells zr) z.cells.toList := by rw [← pureL_spec hzr]; exact constCells_R hall
        have hzlen : z.cells.toList.length = es := by have := hzR.length; rw [this]; simp [pcells, hzl]
        have hN2 : i * es + (m - i) * es ≤ cs.size := by rw [← Nat.add_mul]; exact Nat.le_trans (Nat.mul_le_mul_right es (by omega)) h6
        obtain ⟨vs, hvs⟩ : ∃ vs, vs = (Builtin.zeroCells z.cells (m - i)).toList := ⟨_, rfl⟩
        have hzsz : z.cells.size = es := by simpa using hzlen
        have hvl : vs.length = (m - i) * es := by rw [hvs]; simp [Builtin.zeroCells, hzsz]
        have hget : ∀ q, q < (m - i) * es → vs[q]? = z.cells.toList[q % es]? := fun q hq => by
          have hmod : q % es < es := Nat.mod_lt _ hes
          rw [hvs]
          simp only [Builtin.zeroCells, hzsz, Array.getElem?_toList]
          rw [Array.getElem?_map, Array.getElem?_range]
          simp [hq, hzsz, hmod, getElem!_def]
        have hold : ∀ q, w.cell? ⟨b, q, none⟩ = cs.toList[q]? := fun q => by simp [World.cell?, h5]
        have hone : ∀ v ∈ vs, v.oneCell' = true := by
          intro v hv
          obtain ⟨q, hq, e⟩ := List.getElem_of_mem hv
          grind
        have hstore := run_storeCells_at (P := P) b (i * es) t vs 0 cs w h5 (by rw [hvl]; omega) hone
        have hw : (setAt cs.toList (i * es) vs).toArray = (cs.toList.take (i * es + 0) ++ vs ++ cs.toList.drop (i * es + 0 + vs.length)).toArray := by unfold setAt; rfl
        refine ⟨_, w.setRow b (setAt cs.toList (i * es) vs).toArray, (fun m => if m = n then ρ n else ρ m), M, ?_, ?_, hres _ _ _ _⟩
        · have hne : m - i ≠ 0 := hz0
          have hrun : (Builtin.clear_ ats o.type #[a.eval x]).run P w = .ok (.tuple #[]) (w.setRow b (setAt cs.toList (i * es) vs).toArray) := by
            rw [hdst]
            obtain ⟨nn, hnn⟩ : ∃ nn, m - i = nn + 1 := ⟨m - i - 1, by omega⟩
            rw [hnn] at hvs ⊢
            simp [Builtin.clear_, hat, run_underlying hT, run_zeroValue hinf hz', ← hvs]
            rw [hstore, hw]; rfl
          simp [execOp, ho, resolve, invoke, builtin, hrun]
        · have hblk : (ρ n).blk = some b := by
            have : (ρ n).cap ≠ 0 := by omega
            simp [Loc.blk, this, h3]
          have he : Ext (fun b' => b' = b) w (w.setRow b (setAt cs.toList (i * es) vs).toArray) := ⟨by simp [World.setRow], fun b' hb hne => setRow_other w b b' _ hne, rfl, rfl⟩
          have hM : M b := h4
          have hlen' : (rows.take i ++ List.replicate (m - i) zr ++ rows.drop m).length = rows.length := by simp; omega
          refine hs.update1 (he.weaken fun b' _ hb => ⟨by rw [hblk, hb], by rw [hn]; simp⟩) (fun _ hb => hb) (fun _ hb => .inl hb) (fun b' hb => Nat.lt_of_lt_of_le (hs.msize b' hb) he.size)
            (fun o' ho' => by rw [hn] at ho'; cases ho'; simp only [stays]; exact ⟨trivial, by rw [hlen']; exact Nat.le_refl _, fun _ => trivial⟩) (fun h0 => by rw [hn] at h0; simp at h0) ?_ (fun b' hb => .inl ⟨_, hn, hb⟩)
          refine ⟨hes, by rw [hlen']; simpa using hcap, .inr ⟨b, t, _, by simp [h3], hM, setRow_heap w b cs _ t (0, 0) h5, ?_, ?_⟩⟩
          · grind
          · have hmono : ∀ {x : PV} {u : Value}, x.R M w u → x.R M (w.setRow b (setAt cs.toList (i * es) vs).toArray) u := fun h => h.mono he (fun b' hb => by rw [hb]; exact hM) (fun b' _ hb => hb)
            have hcell : ∀ q, (w.setRow b (setAt cs.toList (i * es) vs).toArray).cell? ⟨b, q, none⟩ = (setAt cs.toList (i * es) vs)[q]? := fun q => by
              rw [cell_setRow_same w b q cs _ t (0, 0) h5, List.getElem?_toArray]
            have hset : ∀ q, (setAt cs.toList (i * es) vs)[q]? = if i * es ≤ q ∧ q < i * es + (m - i) * es then vs[q - i * es]? else cs.toList[q]? := fun q => by
              have htl : (List.take (i * es) cs.toList).length = i * es := by simp; omega
              unfold setAt
              by_cases c1 : q < i * es
              · grind
              · by_cases c2 : q < i * es + (m - i) * es
                · grind
                · rw [if_neg (by omega), List.getElem?_append_right (by simp only [List.length_append, htl, hvl]; omega), List.getElem?_drop]
                  simp_all
            refine PV.Rows.of_get fun i' r' hi' => ?_
            have htk : (rows.take i).length = i := by simp; omega
            rw [List.append_assoc, List.getElem?_append] at hi'
            by_cases c : i' < i
            · rw [if_pos (by omega), List.getElem?_take, if_pos c] at hi'
              obtain ⟨g1, g2⟩ := h7.get i' r' hi'
              refine ⟨g1, PV.Cells.of_get fun q p hq => ?_⟩
              obtain ⟨u, k1, k2⟩ := g2.get q p hq
              have hq' : q < es := by rw [← g1]; exact (List.getElem?_eq_some_iff.1 hq).1
              have hlt : i' * es + q < i * es := by
                have : (i' + 1) * es ≤ i * es := Nat.mul_le_mul_right es c
                grind
              grind
            · rw [if_neg (by omega), htk, List.getElem?_append, List.length_replicate, List.getElem?_replicate] at hi'
              by_cases hlt : i' - i < m - i
              · rw [if_pos hlt, if_pos hlt] at hi'
                cases hi'
                refine ⟨hzl, PV.Cells.of_get fun q p hq => ?_⟩
                have hq' : q < es := by rw [← hzl]; exact (List.getElem?_eq_some_iff.1 hq).1
                obtain ⟨u, k1, k2⟩ := Rs_cell hzR q p hq
                have e1 : i' * es = i * es + (i' - i) * es := by rw [← Nat.add_mul]; congr 1; omega
                have hlt2 : (i' - i) * es + q < (m - i) * es := by
                  have : (i' - i + 1) * es ≤ (m - i) * es := Nat.mul_le_mul_right es hlt
                  grind
                refine ⟨u, ?_, hmono k2⟩
                rw [hcell, hset, if_pos (by omega), show 0 + i' * es + q - i * es = (i' - i) * es + q by omega, hget _ hlt2, ← k1]
                rw [Nat.add_comm, Nat.add_mul_mod_self_right, Nat.mod_eq_of_lt hq']
              · rw [if_neg hlt, List.getElem?_drop, show m + (i' - i - (m - i)) = i' by omega] at hi'
                obtain ⟨g1, g2⟩ := h7.get i' r' hi'
                refine ⟨g1, PV.Cells.of_get fun q p hq => ?_⟩
                obtain ⟨u, k1, k2⟩ := g2.get q p hq
                have hge : i * es + (m - i) * es ≤ i' * es := by
                  rw [← Nat.add_mul]; exact Nat.mul_le_mul_right es (by omega)
                refine ⟨u, ?_, hmono k2⟩
                rw [hcell, hset, if_neg (by omega), ← hold]; exact k1
theorem OpOK.copyView {T e : TypeId} {x y : Operand} {ats : Array TypeId} {n : Name} {es len i j : Nat} {rows rows' : List (List PV)} {r : Int} (ho : o.op = .call { callee := .builtin .copy, args := #[x, y], argTypes := ats }) (hat : ats = #[T, T])
    (hT : P.underlying T = some (.slice e)) (hz : sizeT P e = some es) (hx : evalO rd x = some (.view n len i len)) (hy : evalO rd y = some (.view n len j len)) (hlen : Nat.beq len rows.length = true) (hi : i ≤ rows.length) (hj : j ≤ i)
    (hr : rows.take i ++ (rows.drop j).take (rows.length - i) = rows') (hv : ((rows.length - i : Nat) : Int) = r) :
    OpOK P o ⟨rd, [(n, .arr es rows)], .p (.v (.int .i64 r)), [(n, .arr es rows')], []⟩ :=
  OpOK.upd fun Γ ρ M s a w hs hh => by
    subst hr; subst hv; subst hat
    have hn := hh.hp n _ (by simp : (n, AO.arr es rows) ∈ _)
    have hle := Nat.eq_of_beq_eq_true hlen
    have h1 := evalO_R hs hh hx
    have h2 := evalO_R hs hh hy
    simp only [AV.R] at h1 h2
    have hX := (h1.2.2.2 _ es rows.length hn rfl).2 hle
    have hY := (h2.2.2.2 _ es rows.length hn rfl).2 hle
    simp only [viewV] at hX hY
    obtain ⟨hes, hcap, hobj⟩ := hs.objs n _ hn
    have hsz := run_sizeOf (P := P) (w := w) hz
    have hres : ∀ ρ' H' M' w', AV.R ρ' H' M' w' (.p (.v (.int .i64 ((rows.length - i : Nat) : Int)))) (.int .i64 ((rows.length - i : Nat) : Int)) := fun _ _ _ _ => by simp only [AV.R, PV.R]; exact ⟨trivial, rfl⟩
    have hmin : Nat.min (len - j) (len - i) = rows.length - i := by rw [hle]; exact Nat.min_eq_right (by omega)
    by_cases hz0 : rows.length - i = 0
    · have hrows : rows.take i ++ (rows.drop j).take (rows.length - i) = rows := by rw [hz0, List.take_zero, List.append_nil]; exact List.take_of_length_le (by omega)
      rw [hrows]
      refine ⟨_, w, ρ, M, ?_, hs.congr (fun t => rfl) (fun m => ?_), hres _ _ _ _⟩
      · have hl : ∀ (q : Addr), (loadCells q 0).run P w = .ok #[] w := fun q => by simpa using run_loadCells_list (P := P) w q [] (by simp)
        have hA : ∀ (d q : Option Addr) (dc qc : Nat), (Builtin.copy_ #[T, T] o.type #[.slice d (len - i) dc, .slice q (len - j) qc]).run P w = .ok (goInt ((rows.length - i : Nat) : Int)) w := fun d q dc qc => by
          cases d <;> cases q <;> simp [Builtin.copy_, run_underlying hT, Builtin.lenOf, Builtin.firstCells, hsz, hmin, hz0, storeCells, hl, Result.andThen]
        simp [execOp, ho, resolve, invoke, builtin, hX, hY, hA, goInt]
      · by_cases e : m = n
        · subst e; simp [hn]
        · simp [e]
    · rcases hobj with hobj | ⟨b, t, cs, h3, h4, h5, h6, h7⟩
      · omega
      · have hci : ¬ (ρ n).cap = i := by omega
        have hcj : ¬ (ρ n).cap = j := by omega
        have hdst : a.eval x = .slice (some ⟨b, i * es, none⟩) (len - i) ((ρ n).cap - i) := by rw [hX]; simp [hci, h3, addr_add]
        have hsrc : a.eval y = .slice (some ⟨b, j * es, none⟩) (len - j) ((ρ n).cap - j) := by rw [hY]; simp [hcj, h3, addr_add]
        have hN : (rows.length - i) * es + j * es ≤ cs.size := by rw [← Nat.add_mul]; exact Nat.le_trans (Nat.mul_le_mul_right es (by omega)) h6
        have hN2 : i * es + (rows.length - i) * es ≤ cs.size := by rw [← Nat.add_mul]; exact Nat.le_trans (Nat.mul_le_mul_right es (by omega)) h6
        obtain ⟨vs, hvs⟩ : ∃ vs, vs = (cs.toList.drop (j * es)).take ((rows.length - i) * es) := ⟨_, rfl⟩
        have hvl : vs.length = (rows.length - i) * es := by rw [hvs]; simp; omega
        have hget : ∀ q, q < (rows.length - i) * es → vs[q]? = cs.toList[j * es + q]? := fun q hq => by rw [hvs, List.getElem?_take, if_pos hq, List.getElem?_drop]
        have hold : ∀ q, w.cell? ⟨b, q, none⟩ = cs.toList[q]? := fun q => by simp [World.cell?, h5]
        have hone : ∀ v ∈ vs, v.oneCell' = true := by
          intro v hv
          obtain ⟨q, hq, e⟩ := List.getElem_of_mem hv
          rw [hvl] at hq
          have hdiv : q / es < rows.length - i := Nat.div_lt_of_lt_mul (by rw [Nat.mul_comm]; exact hq)
          have hmod : q % es < es := Nat.mod_lt _ hes
          have hrow : rows[j + q / es]? = some rows[j + q / es] := List.getElem?_eq_getElem (by omega)
          obtain ⟨g1, g2⟩ := h7.get _ _ hrow
          have hc : rows[j + q / es][q % es]? = some rows[j + q / es][q % es] := List.getElem?_eq_getElem (by omega)
          obtain ⟨u, k1, k2⟩ := g2.get _ _ hc
          have hpos : 0 + (j + q / es) * es + q % es = j * es + q := by
            have := Nat.div_add_mod q es
            rw [Nat.add_mul, Nat.mul_comm (q / es)]; omega
          rw [hpos, hold] at k1
          have := hget q hq
          rw [k1, List.getElem?_eq_getElem (by omega), e] at this
          have hvu : v = u := by simpa using this
          rw [hvu]; exact k2.flat
        have hload := run_loadCells_list (P := P) w ⟨b, j * es, none⟩ vs (fun q v hq => by
          rw [addr_add, hold]
          have hq' : q < (rows.length - i) * es := by rw [← hvl]; exact (List.getElem?_eq_some_iff.1 hq).1
          rw [← hget q hq']; exact hq)
        have hstore := run_storeCells_at (P := P) b (i * es) t vs 0 cs w h5 (by rw [hvl]; omega) hone
        rw [hvl] at hload
        have hw : (setAt cs.toList (i * es) vs).toArray = (cs.toList.take (i * es + 0) ++ vs ++ cs.toList.drop (i * es + 0 + vs.length)).toArray := by unfold setAt; rfl
        refine ⟨_, w.setRow b (setAt cs.toList (i * es) vs).toArray, (fun m => if m = n then ρ n else ρ m), M, ?_, ?_, hres _ _ _ _⟩
        · have hrun : (Builtin.copy_ #[T, T] o.type #[a.eval x, a.eval y]).run P w = .ok (goInt ((rows.length - i : Nat) : Int)) (w.setRow b (setAt cs.toList (i * es) vs).toArray) := by
            rw [hdst, hsrc]
            simp [Builtin.copy_, run_underlying hT, Builtin.lenOf, Builtin.firstCells, hsz, hmin, hload, Result.andThen]
            rw [hstore, hw]
          simp [execOp, ho, resolve, invoke, builtin, hrun, goInt]
        · have hblk : (ρ n).blk = some b := by
            have : (ρ n).cap ≠ 0 := by omega
            simp [Loc.blk, this, h3]
          have he : Ext (fun b' => b' = b) w (w.setRow b (setAt cs.toList (i * es) vs).toArray) := ⟨by simp [World.setRow], fun b' hb hne => setRow_other w b b' _ hne, rfl, rfl⟩
          have hM : M b := h4
          have hlen' : (rows.take i ++ (rows.drop j).take (rows.length - i)).length = rows.length := by simp; omega
          refine hs.update1 (he.weaken fun b' _ hb => ⟨by rw [hblk, hb], by rw [hn]; simp⟩) (fun _ hb => hb) (fun _ hb => .inl hb) (fun b' hb => Nat.lt_of_lt_of_le (hs.msize b' hb) he.size)
            (fun o' ho' => by rw [hn] at ho'; cases ho'; simp only [stays]; exact ⟨trivial, by rw [hlen']; exact Nat.le_refl _, fun _ => trivial⟩) (fun h0 => by rw [hn] at h0; simp at h0) ?_ (fun b' hb => .inl ⟨_, hn, hb⟩)
          refine ⟨hes, by rw [hlen']; simpa using hcap, .inr ⟨b, t, _, by simp [h3], hM, setRow_heap w b cs _ t (0, 0) h5, ?_, ?_⟩⟩
          · simp only [if_true, List.size_toArray, setAt, List.length_append, List.length_take, List.length_drop, Array.length_toList, hvl]
            omega
          · have hmono : ∀ {x : PV} {u : Value}, x.R M w u → x.R M (w.setRow b (setAt cs.toList (i * es) vs).toArray) u := fun h => h.mono he (fun b' hb => by rw [hb]; exact hM) (fun b' _ hb => hb)
            have hcell : ∀ q, (w.setRow b (setAt cs.toList (i * es) vs).toArray).cell? ⟨b, q, none⟩ = (setAt cs.toList (i * es) vs)[q]? := fun q => by
              rw [cell_setRow_same w b q cs _ t (0, 0) h5, List.getElem?_toArray]
            have hset : ∀ q, (setAt cs.toList (i * es) vs)[q]? = if i * es ≤ q ∧ q < i * es + (rows.length - i) * es then vs[q - i * es]? else cs.toList[q]? := fun q => by
              have htl : (List.take (i * es) cs.toList).length = i * es := by simp; omega
              unfold setAt
              by_cases c1 : q < i * es
              · rw [if_neg (by omega), List.append_assoc, List.getElem?_append_left (by omega), List.getElem?_take_of_lt c1]
              · by_cases c2 : q < i * es + (rows.length - i) * es
                · rw [if_pos ⟨by omega, c2⟩, List.append_assoc, List.getElem?_append_right (by omega), List.getElem?_append_left (by rw [htl, hvl]; omega), htl]
                · rw [if_neg (by omega), List.getElem?_append_right (by simp only [List.length_append, htl, hvl]; omega), List.getElem?_drop]
                  congr 1
                  simp only [List.length_append, htl, hvl]; omega
            refine PV.Rows.of_get fun i' r' hi' => ?_
            rw [List.getElem?_append] at hi'
            have htk : (rows.take i).length = i := by simp; omega
            by_cases c : i' < i
            · rw [if_pos (by omega), List.getElem?_take, if_pos c] at hi'
              obtain ⟨g1, g2⟩ := h7.get i' r' hi'
              refine ⟨g1, PV.Cells.of_get fun q p hq => ?_⟩
              obtain ⟨u, k1, k2⟩ := g2.get q p hq
              have hq' : q < es := by rw [← g1]; exact (List.getElem?_eq_some_iff.1 hq).1
              have hlt : i' * es + q < i * es := by
                have : (i' + 1) * es ≤ i * es := Nat.mul_le_mul_right es c
                rw [Nat.succ_mul] at this; omega
              refine ⟨u, ?_, hmono k2⟩
              rw [hcell, hset, if_neg (by omega), ← hold]; exact k1
            · rw [if_neg (by omega), htk, List.getElem?_take] at hi'
              split at hi'
              · rename_i hlt
                rw [List.getElem?_drop] at hi'
                obtain ⟨g1, g2⟩ := h7.get (j + (i' - i)) r' hi'
                refine ⟨g1, PV.Cells.of_get fun q p hq => ?_⟩
                obtain ⟨u, k1, k2⟩ := g2.get q p hq
                have hq' : q < es := by rw [← g1]; exact (List.getElem?_eq_some_iff.1 hq).1
                have e1 : i' * es = i * es + (i' - i) * es := by rw [← Nat.add_mul]; congr 1; omega
                have e2 : (j + (i' - i)) * es = j * es + (i' - i) * es := Nat.add_mul _ _ _
                have hlt2 : (i' - i) * es + q < (rows.length - i) * es := by
                  have : (i' - i + 1) * es ≤ (rows.length - i) * es := Nat.mul_le_mul_right es hlt
                  rw [Nat.succ_mul] at this; omega
                refine ⟨u, ?_, hmono k2⟩
                rw [hcell, hset, if_pos (by omega), show 0 + i' * es + q - i * es = (i' - i) * es + q by omega, hget _ hlt2, ← hold, ← k1]
                congr 2; omega
              · simp at hi'
theorem OpOK.indexV {T e : TypeId} {x y : Operand} {len j : Nat} {cells : List AV} {c : AV} (ho : o.op = .index T x y) (hT : P.underlying T = some (.array len e)) (hz : sizeT P e = some 1) (hfl : flatT P e = true)
    (hx : evalO rd x = some (.agg cells)) (hy : evalO rd y = some (.p (.v (.int .i64 ((j : Nat) : Int))))) (hj : j < len) (hc : cells[j]? = some c) : OpOK P o ⟨rd, [], c, [], []⟩ :=
  OpOK.quiet fun Γ ρ M s a w hs hh => by
    have h1 := evalO_R hs hh hx
    have h2 := evalO_R hs hh hy
    simp only [AV.R, PV.R] at h1 h2
    obtain ⟨us, hu, hr⟩ := h1
    obtain ⟨u, hu1, _, hu3⟩ := hr.get j c hc
    refine ⟨u, ?_, hu3⟩
    have hpart : (part e us j).run P w = .ok u w := by
      have : us[j]? = some u := by simpa using hu1
      simp [part, run_isAgg_false hfl, this]
    simp [execOp, ho, hu, h2.1, Instr.index, asIntOf, run_underlying hT, run_sizeOf hz, hj, hpart]
end
section
variable {R : Type} {P : Program} {ty : TypeId → Option TC} {rd : TS} {hs : HS} {K : BEff → Option R} {r : R} {o : Oper}
def Does (P : Program) (o : Oper) (rd : TS) (hs : HS) (K : BEff → Option R) (r : R) : Prop := ∃ e, K e = some r ∧ Good P o rd hs e
theorem bVal_ok {x : Operand} (ho : o.op = .move x ∨ o.op = .assign x) (h : bVal rd K x = some r) : Does P o rd hs K r := by
  unfold bVal at h
  split at h
  · rename_i v hv
    exact ⟨_, h, .ev fun L _ => ho.elim (fun ho => OpOK.move ho (evalB_er L hv)) (fun ho => OpOK.assign ho (evalB_er L hv))⟩
  · simp at h
theorem evalB_b {x : Operand} {q : Bool} (L : Lens) (h : evalB rd x = some (.b q)) : evalO (erT L rd) x = some (.p (.v (.bool q))) := by have := evalB_er L h; simpa only [BV.er] using this
theorem evalB_n {x : Operand} {k : IntKind} {q : Int} (L : Lens) (h : evalB rd x = some (.n k q)) : evalO (erT L rd) x = some (.p (.v (.int k q))) := by have := evalB_er L h; simpa only [BV.er] using this
theorem evalB_s {x : Operand} {q : ByteArray} (L : Lens) (h : evalB rd x = some (.s q)) : evalO (erT L rd) x = some (.p (.v (.string q))) := by have := evalB_er L h; simpa only [BV.er] using this
theorem bPick_ok {c x y : Operand} (ho : o.op = .pick c x y) (h : bPick rd K c x y = some r) : Does P o rd hs K r := by
  unfold bPick at h
  split at h
  · rename_i q u v hc hx hy
    rcases cnd_some h with ⟨rfl, h⟩ | ⟨rfl, h⟩
    · exact ⟨_, h, .ev fun L _ => OpOK.pickT ho (evalB_b L hc) (evalB_er L hx)⟩
    · exact ⟨_, h, .ev fun L _ => OpOK.pickF ho (evalB_b L hc) (evalB_er L hy)⟩
  · simp at h
theorem zeroB_er {T : TypeId} {cs : List BV} (L : Lens) (h : zeroB P T = some cs) : zeroAV P T = some (erL L cs) := by
  unfold zeroB at h
  unfold zeroAV
  split at h
  · split at h
    · split at h
      · rename_i hi _ z hz hall; cases h; simp only [hi, hz, hall, if_true, erL_cells]
      · simp at h
    · simp at h
  · simp at h
theorem Good.new {v : BV} {n : Name} {ob : BO} (L' : Lens → Lens) (h1 : ∀ L m u, m ≠ n → L' L m u = L m u) (h2 : ∀ L, Inv L hs → ∀ t l u, ob = .arr t l u → L' L n u = l.length) (h3 : ∀ L, Inv L hs → OpOK P o ⟨erT L rd, [], v.er (L' L), [(n, ob.er (L' L))], [n]⟩) :
    Good P o rd hs ⟨[], v, [(n, ob)], [n], []⟩ :=
  ⟨fun _ _ hm => by simp at hm, fun L hL => ⟨L' L, fun m u hm _ => h1 L m u (by simpa using hm), fun m t l u hm => by
    simp only [List.cons_append, List.nil_append, look] at hm
    split at hm
    · rename_i e; subst e; cases hm; exact h2 L hL t l u rfl
    · rename_i e; rw [h1 L m u (Ne.symm e)]; exact hL m t l u hm, h3 L hL⟩⟩
theorem Good.newBox {v : BV} {n : Name} {cs : List BV} (h3 : ∀ L, Inv L hs → OpOK P o ⟨erT L rd, [], v.er L, [(n, .box (erL L cs))], [n]⟩) : Good P o rd hs ⟨[], v, [(n, .box cs)], [n], []⟩ :=
  Good.new (fun L => L) (fun _ _ _ _ => rfl) (fun _ _ t l u h => by simp at h) h3
theorem bAlloc_ok {T : TypeId} (ho : o.op = .alloc T) (h : bAlloc P K o.dst T = some r) : Does P o rd hs K r := by
  unfold bAlloc at h
  split at h
  · rename_i d hd hz
    split at h
    · rename_i hb
      have hne : 1000 + d ≠ 900000 + d := by omega
      refine ⟨_, h, fun _ _ hm => by simp at hm, fun L hL => ⟨fun k u => if k = 900000 + d then 0 else L k u, fun k u hk _ => if_neg fun e => hk (by simp [e]), fun k t l u hk => ?_, ?_⟩⟩
      · simp only [List.cons_append, List.nil_append, look] at hk
        split at hk
        · simp at hk
        · split at hk
          · rename_i e; cases hk; simp [e]
          · rename_i e; show (if k = 900000 + d then 0 else L k u) = _; rw [if_neg (Ne.symm e)]; exact hL k t l u hk
      · have := OpOK.allocOwn (P := P) (rd := erT L rd) (n := 1000 + d) (m := 900000 + d) (x := .p (.v (.pointer none))) (es := 1) rfl hne rfl ho (zeroB_er L hz)
        simp only [erH, List.map_cons, List.map_nil, BV.er, BO.er, erL, if_true]
        exact this
    · simp at h
  · rename_i d cs _ _ hz
    exact ⟨_, h, .newBox fun L _ => by simp only [BV.er]; exact OpOK.alloc ho (zeroB_er L hz)⟩
  · simp at h
theorem bBox_ok {T : TypeId} {x : Operand} (ho : o.op = .box T x) (h : bBox rd K o.dst x = some r) : Does P o rd hs K r := by
  unfold bBox at h
  split at h
  · rename_i d v hd hv
    split at h
    · rename_i cs hc
      exact ⟨_, h, .newBox fun L _ => by simp only [BV.er]; exact OpOK.box ho (evalB_er L hv) (cellsB_er L hc)⟩
    · simp at h
  · simp at h
theorem putCB_er (L : Lens) {pl : List (Nat × Nat)} : ∀ {ps : List (Nat × Operand)} {cs cs' : List BV}, putCB rd pl ps cs = some cs' → putCells (erT L rd) pl ps (erL L cs) = some (erL L cs')
  | [], cs, cs', h => by simp only [putCB, Option.some.injEq] at h; subst h; simp only [putCells]
  | (i, x) :: ps, cs, cs', h => by
    simp only [putCB] at h
    split at h
    · rename_i off size y hp hy
      split at h
      · rename_i c hc
        split at h
        · rename_i hb
          simp only [putCells, hp, evalB_er L hy, cellsB_er L hc, erL_length, hb, if_true]
          rw [← erL_setAt]
          rw [forceL_eq] at h
          have hb' := hb
          simp only [Bool.and_eq_true] at hb'
          rw [layB_eq _ _ _ (by rw [Nat.eq_of_beq_eq_true hb'.1]; exact Nat.le_of_ble_eq_true hb'.2)] at h
          exact putCB_er L h
        · simp at h
      · simp at h
    · simp at h
theorem bBuild_ok {T : TypeId} {parts : Array (Nat × Operand)} (ho : o.op = .build T parts) (h : bBuild P rd K T parts = some r) : Does P o rd hs K r := by
  unfold bBuild at h
  split at h
  · rename_i pl zs h1 h2
    split at h
    · rename_i cells hc
      refine ⟨_, h, .ev fun L _ => ?_⟩
      simp only [BV.er]
      unfold placesB at h1
      split at h1
      · rename_i n e hT
        split at h1
        · rename_i es hes
          cases h1
          exact OpOK.buildArr ho hT hes (zeroB_er L h2) (putCB_er L hc)
        · simp at h1
      · exact OpOK.build ho h1 (zeroB_er L h2) (putCB_er L hc)
    · simp at h
  · simp at h
theorem pureL_pv (L : Lens) {cs : List BV} (h : cs.all BV.isP = true) : pureL (erL L cs) = some (pvL cs) := by
  rw [erL_isP h]
  have : ∀ ps : List PV, pureL (pcells ps) = some ps := by
    intro ps
    induction ps with
    | nil => rfl
    | cons x r ih => simp only [pcells, List.map_cons, pureL] at ih ⊢; rw [ih]
  exact this _
theorem CsLe_of : ∀ {a b : List PV}, AVleL (pcells a) (pcells b) → CsLe a b
  | [], [], _ => trivial
  | [], _ :: _, h => by simp only [pcells, List.map_nil, List.map_cons] at h; cases h
  | _ :: _, [], h => by simp only [pcells, List.map_nil, List.map_cons] at h; cases h
  | x :: xs, y :: ys, h => by
    simp only [pcells, List.map_cons] at h
    cases h with
    | cons h1 h2 =>
      refine ⟨?_, CsLe_of h2⟩
      cases h1 with
      | refl => exact PVle.refl _
      | p h => exact h
theorem Le_cells {cs : List BV} {t : TC} {y : TT t} (h : Le cs (tb t y ++ [])) (hp : cs.all BV.isP = true) : CsLe (pvL cs) (tcells t y) := by
  have := h.1 (fun _ _ => 0)
  rw [List.append_nil, erL_isP hp, erL_isP (tb_isP t y), tb_pv] at this
  exact CsLe_of this
theorem RowsLe.nth : ∀ {a b : List (List PV)}, a.length = b.length → (∀ (i : Nat) (x y : List PV), a[i]? = some x → b[i]? = some y → CsLe x y) → RowsLe a b
  | [], [], _, _ => trivial
  | [], _ :: _, h, _ => by simp at h
  | _ :: _, [], h, _ => by simp at h
  | x :: xs, y :: ys, h, h2 => ⟨h2 0 x y rfl rfl, RowsLe.nth (by simpa using h) (fun i a b ha hb => h2 (i + 1) a b (by simpa using ha) (by simpa using hb))⟩
theorem rowsC_some {t : TC} : ∀ {ps : List (Nat × Operand)} {i len : Nat} {K : List (TT t) → Option R}, rowsC rd t ps i len K = some r →
    ∃ l : List (TT t), K l = some r ∧ i + l.length = len ∧ ∀ (L : Lens) (pre rest : List (List PV)), pre.length = i → rest.length = l.length →
      ∃ rows, putRows (erT L rd) (tz t) ps (pre ++ rest) = some (pre ++ rows) ∧ RowsLe rows (l.map (tcells t))
  | [], i, len, K, h => by
    simp only [rowsC] at h
    split at h
    · rename_i e
      refine ⟨[], h, by simpa using Nat.eq_of_beq_eq_true e, fun L pre rest hp hr => ⟨[], ?_, trivial⟩⟩
      have : rest = [] := List.eq_nil_of_length_eq_zero (by simpa using hr)
      subst this; simp only [putRows]
    · simp at h
  | (j, x) :: ps, i, len, K, h => by
    simp only [rowsC] at h
    split at h
    · rename_i e
      have := Nat.eq_of_beq_eq_true e; subst this
      split at h
      · rename_i v hv
        split at h
        · rename_i cs hc
          split at h
          · rename_i hb
            simp only [Bool.and_eq_true] at hb
            obtain ⟨y, rest0, hle, h⟩ := tpop_some t h
            split at h
            · obtain ⟨l, g1, g2, g3⟩ := rowsC_some h
              refine ⟨y :: l, g1, by simp only [List.length_cons]; omega, fun L pre rest hp hr => ?_⟩
              cases rest with
              | nil => simp at hr
              | cons z rest =>
                obtain ⟨rows, k1, k2⟩ := g3 L (pre ++ [pvL cs]) rest (by simp [hp]) (by simpa using hr)
                refine ⟨pvL cs :: rows, ?_, Le_cells hle hb.2, k2⟩
                have hset : (pre ++ z :: rest).set j (pvL cs) = pre ++ [pvL cs] ++ rest := by
                  simp_all
                have hlt : Nat.blt j (pre ++ z :: rest).length = true := by simp [Nat.blt, hp]
                simp only [putRows, evalB_er L hv, cellsB_er L hc, pureL_pv L hb.2, pvL_length, hb.1, hlt, Bool.and_self, if_true, hset]
                rw [k1]; simp
            · simp at h
          · simp at h
        · simp at h
      · simp at h
    · simp at h
theorem bBuildSlice_ok {T : TypeId} {len : Nat} {parts : Array (Nat × Operand)} (ho : o.op = .buildSlice T len parts) (h : bBuildSlice P ty rd K T len parts = some r) : Does P o rd hs K r := by
  unfold bBuildSlice at h
  split at h
  · rename_i e he
    split at h
    · rename_i t es zr h0 h1 h2
      split at h
      · rename_i hb
        simp only [Bool.and_eq_true] at hb
        obtain ⟨l, g1, g2, g3⟩ := rowsC_some h
        refine ⟨_, g1, .ev fun L _ => ?_⟩
        have hes := Nat.eq_of_beq_eq_true hb.1.1.1
        subst hes
        obtain ⟨rows, k1, k2⟩ := g3 L [] (List.replicate len zr) rfl (by rw [List.length_replicate]; omega)
        simp only [List.nil_append] at k1
        simp only [BV.er]
        exact (OpOK.buildSlice ho he h1 hb.1.1.2 h2 (Nat.eq_of_beq_eq_true hb.1.2) hb.2 k1).vLe (.p (PVle.sl (fun h => h) k2))
      · simp at h
    · simp at h
  · simp at h
theorem hp1 {n : Name} {ob : BO} (h : look n hs = some ob) : ∀ m ob', (m, ob') ∈ [(n, ob)] → look m hs = some ob' := fun m ob' hm => by simp only [List.mem_singleton, Prod.mk.injEq] at hm; obtain ⟨rfl, rfl⟩ := hm; exact h
theorem arr_len {L : Lens} {n : Name} {t : TC} {l : List (TT t)} {q u : Nat} (hL : Inv L hs) (h : look n hs = some (.arr t l q)) (hu : Nat.beq u q = true) : Nat.beq (L n u) (l.map (tcells t)).length = true := by rw [Nat.eq_of_beq_eq_true hu, hL n t l q h, List.length_map]; exact Nat.beq_refl _
theorem bLoad_ok {T : TypeId} {x : Operand} (ho : o.op = .load T x) (h : bLoad P rd hs K T x = some r) : Does P o rd hs K r := by
  unfold bLoad at h
  split at h
  · rename_i n k hx
    split at h
    · rename_i cells hc
      split at h
      · rename_i hT
        split at h
        · rename_i z hz
          split at h
          · rename_i hl
            refine ⟨_, h, .val (hp1 hc) fun L _ => ?_⟩
            have := evalB_er L hx
            simp only [BV.er] at this ⊢
            exact OpOK.loadBoxAgg ho this hT hz (by rw [← erL_drop, ← erL_take]) (by rw [erL_length]; exact Nat.eq_of_beq_eq_true hl)
          · simp at h
        · simp at h
      · split at h
        · rename_i hT
          split at h
          · rename_i c hck
            refine ⟨_, h, .val (hp1 hc) fun L _ => ?_⟩
            have := evalB_er L hx
            simp only [BV.er] at this
            exact OpOK.loadBox ho this hT (by rw [erL_get, hck]; rfl)
          · simp at h
        · simp at h
    · simp at h
  · rename_i cells hx
    split at h
    · rename_i hP
      split at h
      · rename_i hT
        split at h
        · rename_i z hz
          split at h
          · rename_i hl
            refine ⟨_, h, .ev fun L _ => ?_⟩
            have := evalB_er L hx
            simp only [BV.er] at this ⊢
            have hP' : (cells.take z).all BV.isP = true := List.all_eq_true.2 fun c hc => List.all_eq_true.1 hP c (List.mem_of_mem_take hc)
            exact OpOK.loadPtrAgg ho this hT hz (by rw [← pvL_take]) (by rw [pvL_length]; exact Nat.eq_of_beq_eq_true hl) (by rw [erL_isP hP'])
          · simp at h
        · simp at h
      · split at h
        · rename_i hT
          split at h
          · rename_i c hck
            refine ⟨_, h, .ev fun L _ => ?_⟩
            have := evalB_er L hx
            simp only [BV.er] at this
            rw [er_isP (List.all_eq_true.1 hP c (List.mem_of_getElem? hck))]
            exact OpOK.loadPtr ho this hT (by rw [pvL_get, hck]; rfl)
          · simp at h
        · simp at h
    · simp at h
  · rename_i n u i k hx
    split at h
    case h_2 => simp at h
    · rename_i t l q hc
      split at h
      case isFalse => simp at h
      rename_i hq
      obtain ⟨y, hy, h⟩ := optc_some h
      have hrow : (l.map (tcells t))[i]? = some (tcells t y) := by rw [List.getElem?_map, hy]; rfl
      split at h
      · rename_i hT
        split at h
        · rename_i z hz
          split at h
          · rename_i hl
            refine ⟨_, h, .val (hp1 hc) fun L hL => ?_⟩
            have := evalB_er L hx
            simp only [BV.er] at this ⊢
            have hP' : (((tb t y).drop k).take z).all BV.isP = true := List.all_eq_true.2 fun c hc => List.all_eq_true.1 (tb_isP t y) c (List.mem_of_mem_drop (List.mem_of_mem_take hc))
            exact OpOK.loadElemAgg ho this hT hz (arr_len hL hc hq) hrow (by rw [← tb_pv, ← pvL_drop, ← pvL_take]) (by rw [pvL_length]; exact Nat.eq_of_beq_eq_true hl) (by rw [erL_isP hP'])
          · simp at h
        · simp at h
      · split at h
        · rename_i hT
          split at h
          · rename_i c hck
            refine ⟨_, h, .val (hp1 hc) fun L hL => ?_⟩
            have := evalB_er L hx
            simp only [BV.er] at this
            rw [er_isP (List.all_eq_true.1 (tb_isP t y) c (List.mem_of_getElem? hck))]
            exact OpOK.loadElem ho this hT (arr_len hL hc hq) hrow (by rw [← tb_pv, pvL_get, hck]; rfl)
          · simp at h
        · simp at h
  · simp at h
theorem Good.wrBox {n : Name} {cells cells' : List BV} (hc : look n hs = some (.box cells)) (h : ∀ L, Inv L hs → OpOK P o ⟨erT L rd, [(n, .box (erL L cells))], .any, [(n, .box (erL L cells'))], []⟩) : Good P o rd hs ⟨[(n, .box cells)], .any, [(n, .box cells')], [], []⟩ :=
  ⟨hp1 hc, fun L hL => ⟨L, fun _ _ _ _ => rfl, fun m t l u hm => by
    simp only [List.cons_append, List.nil_append, look] at hm
    split at hm
    · cases hm
    · exact hL m t l u hm, h L hL⟩⟩
theorem Good.wrArr {n : Name} {t : TC} {l l' : List (TT t)} {q : Nat} (hc : look n hs = some (.arr t l q)) (hl : l'.length = l.length) (h : ∀ L, Inv L hs → OpOK P o ⟨erT L rd, [(n, .arr (tz t) (l.map (tcells t)))], .any, [(n, .arr (tz t) (l'.map (tcells t)))], []⟩) : Good P o rd hs ⟨[(n, .arr t l q)], .any, [(n, .arr t l' q)], [], []⟩ :=
  ⟨hp1 hc, fun L hL => ⟨L, fun _ _ _ _ => rfl, fun m t' l2 u hm => by
    simp only [List.cons_append, List.nil_append, look] at hm
    split at hm
    · rename_i e; subst e; cases hm; rw [hl]; exact hL _ t l q hc
    · exact hL m t' l2 u hm, h L hL⟩⟩
theorem OpOK.arrLe {rd : List (Nat × AV)} {hp : List (Name × AO)} {v : AV} {nw : List Name} {n : Name} {es : Nat} {rs qs : List (List PV)} (h : OpOK P o ⟨rd, hp, v, [(n, .arr es rs)], nw⟩) (hr : RowsLe rs qs) : OpOK P o ⟨rd, hp, v, [(n, .arr es qs)], nw⟩ :=
  h.outLe (.refl _) fun m => by
    simp only [look]
    by_cases e : n = m
    · simp only [e, if_true]
      exact ⟨fun y hy => by cases hy; exact ⟨_, rfl, .arr hr, .inr (.inr ⟨_, _, _, rfl, rfl⟩)⟩, fun x hx => ⟨_, rfl⟩⟩
    · simp only [e, if_false]
      exact ⟨fun y hy => by simp at hy, fun x hx => by simp at hx⟩
theorem bStore_ok {T : TypeId} {x y : Operand} (ho : o.op = .store T x y) (h : bStore P rd hs K o.dst T x y = some r) : Does P o rd hs K r := by
  unfold bStore at h
  split at h
  · rename_i n k v hd hx hy
    split at h
    · rename_i cells vs z hc hv hz
      split at h
      · rename_i hb
        simp only [Bool.and_eq_true] at hb
        rw [forceL_eq, layB_eq _ _ _ (Nat.le_of_ble_eq_true hb.2)] at h
        refine ⟨_, h, .wrBox hc fun L _ => ?_⟩
        have h1 := evalB_er L hx
        simp only [BV.er] at h1
        exact OpOK.storeBox hd ho h1 (evalB_er L hy) (cellsB_er L hv) (by rw [erL_length, hz, Nat.eq_of_beq_eq_true hb.1]) (by rw [erL_length, erL_length]; exact hb.2) (by rw [erL_setAt])
      · simp at h
    · simp at h
  · rename_i n u i k v hd hx hy
    split at h
    · rename_i t l q vs z hc hv hz
      split at h
      case isFalse => simp at h
      rename_i hq
      obtain ⟨y0, hy0, h⟩ := optc_some h
      split at h
      · rename_i hb
        simp only [Bool.and_eq_true] at hb
        rw [layB_eq _ _ _ (Nat.le_of_ble_eq_true hb.1.2)] at h
        obtain ⟨y', rest, hle, h⟩ := tpop_some t h
        split at h
        · refine ⟨_, h, .wrArr hc (by simp) fun L hL => ?_⟩
          have h1 := evalB_er L hx
          simp only [BV.er] at h1
          have hrow : (l.map (tcells t))[i]? = some (tcells t y0) := by rw [List.getElem?_map, hy0]; rfl
          have hP : (setAt (tb t y0) k vs).all BV.isP = true := by
            refine List.all_eq_true.2 fun c hc => ?_
            simp only [setAt, List.mem_append] at hc
            rcases hc with (hc | hc) | hc
            · exact List.all_eq_true.1 (tb_isP t y0) c (List.mem_of_mem_take hc)
            · simp_all
            · exact List.all_eq_true.1 (tb_isP t y0) c (List.mem_of_mem_drop hc)
          refine OpOK.arrLe (OpOK.storeElem hd ho h1 (evalB_er L hy) (cellsB_er L hv) (pureL_pv L hb.2) (arr_len hL hc hq) hrow (by rw [erL_length, hz, Nat.eq_of_beq_eq_true hb.1.1])
            (by rw [erL_length, ← tb_pv, pvL_length]; exact hb.1.2) (row' := pvL (setAt (tb t y0) k vs)) (by rw [pvL_setAt, tb_pv]) rfl) ?_
          have hcs := Le_cells hle hP
          refine RowsLe.nth (by simp) (fun j a b ha hb => ?_)
          rw [List.getElem?_set] at ha
          rw [List.getElem?_map, List.getElem?_set] at hb
          split at ha
          · simp_all
          · rename_i e
            rw [if_neg e] at hb
            rw [List.getElem?_map] at ha
            rw [ha] at hb; cases hb
            exact CsLe.refl _
        · simp at h
      · simp at h
    · simp at h
  · simp at h
theorem bFieldAddr_ok {S : TypeId} {x : Operand} {i : Nat} (ho : o.op = .fieldAddr S x i) (h : bFieldAddr P rd hs K S x i = some r) : Does P o rd hs K r := by
  unfold bFieldAddr at h
  split at h
  · rename_i n k fo hx hf
    split at h
    · rename_i cells hc
      refine ⟨_, h, .val (hp1 hc) fun L _ => ?_⟩
      have := evalB_er L hx
      simp only [BV.er] at this ⊢
      exact OpOK.fieldRef ho this hf rfl
    · simp at h
  · rename_i cells fo hx hf
    refine ⟨_, h, .ev fun L _ => ?_⟩
    have := evalB_er L hx
    simp only [BV.er] at this ⊢
    exact OpOK.fieldPtr ho this hf (by rw [pvL_drop])
  · rename_i n u j k fo hx hf
    split at h
    · rename_i t l q hc
      split at h
      case isFalse => simp at h
      rename_i hq
      refine ⟨_, h, .val (hp1 hc) fun L hL => ?_⟩
      have := evalB_er L hx
      simp only [BV.er] at this ⊢
      exact OpOK.fieldElem ho this hf rfl (arr_len hL hc hq)
    · simp at h
  · simp at h
theorem bNilCheck_ok {x : Operand} (ho : o.op = .nilCheck x) (h : bNilCheck rd hs K x = some r) : Does P o rd hs K r := by
  unfold bNilCheck at h
  split at h
  · rename_i n k hx
    split at h
    · rename_i cells hc
      refine ⟨_, h, .val (hp1 hc) fun L _ => ?_⟩
      have := evalB_er L hx
      simp only [BV.er] at this ⊢
      exact OpOK.nilCheckRef ho this
    · simp at h
  · rename_i cells hx
    refine ⟨_, h, .ev fun L _ => ?_⟩
    have := evalB_er L hx
    simp only [BV.er] at this ⊢
    exact OpOK.nilCheckPtr ho this
  · rename_i n u j k hx
    split at h
    · rename_i t l q hc
      split at h
      case isFalse => simp at h
      rename_i hq
      refine ⟨_, h, .val (hp1 hc) fun L hL => ?_⟩
      have := evalB_er L hx
      simp only [BV.er] at this ⊢
      exact OpOK.nilCheckElem ho this (arr_len hL hc hq)
    · simp at h
  · simp at h
theorem bBin_ok {op : BinOp} {T T' : TypeId} {x y : Operand} (ho : o.op = .binOp op T x y T') (h : bBin P rd K op T x y = some r) : Does P o rd hs K r := by
  unfold bBin at h
  split at h
  · rename_i k a k' b hx hy
    split at h
    · rename_i hk
      have := kEq_of hk; subst this
      cases op <;> simp only [binI, reduceCtorEq] at h
      all_goals first
        | (obtain ⟨hb, h⟩ := nzc_some h; refine ⟨_, h, .ev fun L _ => ?_⟩; simp only [BV.er]; first | exact OpOK.quo ho (evalB_n L hx) (evalB_n L hy) hb rfl | exact OpOK.rem ho (evalB_n L hx) (evalB_n L hy) hb rfl)
        | (obtain ⟨i, hi, h⟩ := natc_some h; refine ⟨_, h, .ev fun L _ => ?_⟩; simp only [BV.er]; exact OpOK.shr ho (evalB_n L hx) (evalB_n L hy) hi)
        | (refine ⟨_, h, .ev fun L _ => ?_⟩; simp only [BV.er]; first
            | exact OpOK.add ho (evalB_n L hx) (evalB_n L hy) rfl | exact OpOK.sub ho (evalB_n L hx) (evalB_n L hy) rfl | exact OpOK.mul ho (evalB_n L hx) (evalB_n L hy) rfl
            | exact OpOK.lss ho (evalB_n L hx) (evalB_n L hy) rfl | exact OpOK.leq ho (evalB_n L hx) (evalB_n L hy) rfl | exact OpOK.gtr ho (evalB_n L hx) (evalB_n L hy) rfl
            | exact OpOK.geq ho (evalB_n L hx) (evalB_n L hy) rfl | exact OpOK.eqlI ho (evalB_n L hx) (evalB_n L hy) rfl | exact OpOK.neqI ho (evalB_n L hx) (evalB_n L hy) rfl)
    · simp at h
  · rename_i a b hx hy
    cases op <;> simp only [binS, reduceCtorEq] at h
    all_goals first
      | (obtain ⟨hb, h⟩ := lec_some h; refine ⟨_, h, .ev fun L _ => ?_⟩; simp only [BV.er]; exact OpOK.addS ho (evalB_s L hx) (evalB_s L hy) hb rfl)
      | (refine ⟨_, h, .ev fun L _ => ?_⟩; simp only [BV.er]; first | exact OpOK.eqlS ho (evalB_s L hx) (evalB_s L hy) rfl | exact OpOK.neqS ho (evalB_s L hx) (evalB_s L hy) rfl | exact OpOK.bin ho (evalB_s L hx) (evalB_s L hy) (eqGuard_at_string ..) (fun w => by simp only [binOp, Op.stringOp]; rfl) rfl)
  · rename_i a b hx hy
    unfold binB at h
    split at h
    · rename_i hT
      have hT' : P.underlying T = some .bool := by
        unfold boolT at hT
        grind
      cases op <;> simp only [reduceCtorEq] at h
      all_goals (refine ⟨_, h, .ev fun L _ => ?_⟩; simp only [BV.er]; first | exact OpOK.eqlB ho hT' (evalB_b L hx) (evalB_b L hy) rfl | exact OpOK.neqB ho hT' (evalB_b L hx) (evalB_b L hy) rfl)
    · simp at h
  · simp at h
theorem bUn_ok {op : UnOp} {T : TypeId} {x : Operand} (ho : o.op = .unOp op T x) (h : bUn rd K op x = some r) : Does P o rd hs K r := by
  unfold bUn at h
  split at h
  · rename_i b hx
    refine ⟨_, h, .ev fun L _ => ?_⟩
    simp only [BV.er]; exact OpOK.not ho (evalB_b L hx) rfl
  · rename_i k a hx
    refine ⟨_, h, .ev fun L _ => ?_⟩
    simp only [BV.er]; exact OpOK.neg ho (evalB_n L hx) rfl
  · simp at h
theorem bField_ok {T : TypeId} {x : Operand} {i : Nat} (ho : o.op = .field T x i) (h : bField P rd K T x i = some r) : Does P o rd hs K r := by
  unfold bField at h
  split at h
  · rename_i cells fs hx hu
    split at h
    · rename_i f hf
      split at h
      · rename_i hT
        split at h
        · rename_i z hz
          refine ⟨_, h, .ev fun L _ => ?_⟩
          have := evalB_er L hx
          simp only [BV.er] at this ⊢
          exact OpOK.fieldAgg (off := 0) (T' := 0) ho this hu hf hT hz (by rw [erL_take, erL_drop])
        · simp at h
      · split at h
        · rename_i hT
          split at h
          · rename_i c hck
            refine ⟨_, h, .ev fun L _ => ?_⟩
            have := evalB_er L hx
            simp only [BV.er] at this
            exact OpOK.field ho this hu hf hT (by rw [erL_get, hck]; rfl)
          · simp at h
        · simp at h
    · simp at h
  · simp at h
theorem bExtract_ok {x : Operand} {i : Nat} (ho : o.op = .extract x i) (h : bExtract rd K x i = some r) : Does P o rd hs K r := by
  unfold bExtract at h
  split at h
  · rename_i vs hx
    split at h
    · rename_i v hv
      refine ⟨_, h, .ev fun L _ => ?_⟩
      have := evalB_er L hx
      simp only [BV.er] at this
      exact OpOK.extract ho this (by rw [erL_get, hv]; rfl)
    · simp at h
  · simp at h
theorem bIndexAddr_ok {T : TypeId} {x y : Operand} (ho : o.op = .indexAddr T x y) (h : bIndexAddr P rd hs K T x y = some r) : Does P o rd hs K r := by
  unfold bIndexAddr at h
  split at h
  · rename_i f t l k j e hx hy he
    split at h
    · rename_i es hz
      split at h
      · rename_i hb
        have := Nat.eq_of_beq_eq_true hb; subst this
        obtain ⟨i, z, hj, hi, h⟩ := atc_some h
        refine ⟨_, h, .ev fun L _ => ?_⟩
        have h1 := evalB_er L hx
        simp only [BV.er] at h1 ⊢
        rw [tb_pv]
        exact OpOK.indexP ho he hz h1 (evalB_n L hy) hj (by rw [List.getElem?_map, hi]; rfl)
      · simp at h
    · simp at h
  · rename_i n u k j e hx hy he
    split at h
    · rename_i t l q es hc hz
      split at h
      · rename_i hb
        simp only [Bool.and_eq_true] at hb
        have := Nat.eq_of_beq_eq_true hb.1; subst this
        obtain ⟨i, hj, h⟩ := natc_some h
        obtain ⟨hlt, h⟩ := ltc_some h
        refine ⟨_, h, .val (hp1 hc) fun L hL => ?_⟩
        have h1 := evalB_er L hx
        simp only [BV.er] at h1 ⊢
        exact OpOK.indexOwn ho he hz h1 (arr_len hL hc hb.2) (evalB_n L hy) hj (by rw [List.length_map]; exact hlt)
      · simp at h
    · simp at h
  · rename_i n u lo hi k j e hx hy he
    split at h
    · rename_i t l q es hc hz
      split at h
      · rename_i hb
        simp only [Bool.and_eq_true] at hb
        have := Nat.eq_of_beq_eq_true hb.1; subst this
        obtain ⟨i, hj, h⟩ := natc_some h
        obtain ⟨hlt, h⟩ := ltc_some h
        refine ⟨_, h, .val (hp1 hc) fun L hL => ?_⟩
        have h1 := evalB_er L hx
        simp only [BV.er] at h1 ⊢
        exact OpOK.indexView ho he hz h1 (arr_len hL hc hb.2) (evalB_n L hy) hj hlt
      · simp at h
    · simp at h
  · simp at h
theorem bLen_ok {T : TypeId} {x : Operand} {ats : Array TypeId} (ho : o.op = .call { callee := .builtin .len, args := #[x], argTypes := ats }) (hat : ats[0]? = some T) (h : bLen P rd hs K T x = some r) : Does P o rd hs K r := by
  unfold bLen at h
  split at h
  · rename_i f t l hx
    split at h
    · rename_i e he
      refine ⟨_, h, .ev fun L _ => ?_⟩
      have h1 := evalB_er L hx
      simp only [BV.er] at h1 ⊢
      exact OpOK.lenP ho hat he h1 (by rw [List.length_map])
    · simp at h
  · rename_i hx
    split at h
    · rename_i e he
      refine ⟨_, h, .ev fun L _ => ?_⟩
      have h1 := evalB_er L hx
      simp only [BV.er] at h1 ⊢
      exact OpOK.lenP ho hat he h1 rfl
    · simp at h
  · rename_i n u hx
    split at h
    · rename_i t l q e hc he
      split at h
      case isFalse => simp at h
      rename_i hq
      refine ⟨_, h, .val (hp1 hc) fun L hL => ?_⟩
      have h1 := evalB_er L hx
      simp only [BV.er] at h1 ⊢
      exact OpOK.lenOwn ho hat he h1 (arr_len hL hc hq) (by rw [List.length_map])
    · simp at h
  · rename_i n u lo hi hx
    split at h
    · rename_i t l q e hc he
      split at h
      case isFalse => simp at h
      rename_i hq
      refine ⟨_, h, .val (hp1 hc) fun L hL => ?_⟩
      have h1 := evalB_er L hx
      simp only [BV.er] at h1 ⊢
      exact OpOK.lenView ho hat he h1 (arr_len hL hc hq)
    · simp at h
  · rename_i t hx
    split at h
    · rename_i hT
      refine ⟨_, h, .ev fun L _ => ?_⟩
      simp only [BV.er]
      exact OpOK.lenS ho hat hT (evalB_s L hx)
    · simp at h
  · simp at h
end
end Go.Proofs.YtkfmncmhagpajaaGreatDoor.AM
set_option linter.unusedSectionVars false
namespace Go.Proofs.YtkfmncmhagpajaaGreatDoor.AM
open Go
mutual
def AV.ren (σ : Name → Name) : AV → AV
  | .p x => .p x
  | .agg cs => .agg (renL σ cs)
  | .ref n o => .ref (σ n) o
  | .sref n => .sref (σ n)
  | .own n l => .own (σ n) l
  | .aref n l i o => .aref (σ n) l i o
  | .view n l i o => .view (σ n) l i o
  | .cut n l k => .cut (σ n) l k
  | .eptr c => .eptr c
  | .tup vs => .tup (renL σ vs)
  | .clo f a c => .clo f (renL σ a) (renL σ c)
  | .oref m n => .oref m (σ n)
  | .err b => .err b
  | .ub => .ub
  | .any => .any
def renL (σ : Name → Name) : List AV → List AV
  | [] => []
  | x :: r => x.ren σ :: renL σ r
end
theorem renL_map (σ : Name → Name) : ∀ l : List AV, renL σ l = l.map (AV.ren σ)
  | [] => by simp only [renL, List.map_nil]
  | x :: r => by simp only [renL, List.map_cons, renL_map σ r]
def AO.ren (σ : Name → Name) : AO → AO
  | .box cs => .box (renL σ cs)
  | .arr es rows => .arr es rows
  | .hole es pre row post => .hole es pre (renL σ row) post
  | .fact a x => .fact (a.ren σ) x
  | .obj x => .obj x
def renH (σ : Name → Name) (h : List (Name × AO)) : List (Name × AO) := h.map fun p => (σ p.1, p.2.ren σ)
section
variable {σ : Name → Name} (hσ : ∀ a b, σ a = σ b → a = b)
include hσ
theorem look_renH (n : Name) : ∀ h : List (Name × AO), look (σ n) (renH σ h) = (look n h).map (AO.ren σ)
  | [] => rfl
  | (k, o) :: r => by
    show look (σ n) ((σ k, o.ren σ) :: renH σ r) = (look n ((k, o) :: r)).map (AO.ren σ)
    simp only [look]
    by_cases e : k = n
    · simp [e]
    · rw [if_neg (fun h => e (hσ _ _ h)), if_neg e]; exact look_renH n r
omit hσ in
theorem look_renH_inv {m : Name} {o : AO} : ∀ {h : List (Name × AO)}, look m (renH σ h) = some o → ∃ n, σ n = m
  | [], h => by simp [renH, look] at h
  | (k, x) :: r, h => by
    change look m ((σ k, x.ren σ) :: renH σ r) = some o at h
    simp only [look] at h
    split at h
    · exact ⟨k, by assumption⟩
    · exact look_renH_inv h
omit hσ in
theorem shape_ren (o : AO) : (o.ren σ).shape = o.shape := by cases o <;> rfl
variable {ρ : Name → Loc} {H H' : Heap} {M : Nat → Prop} {w : World}
mutual
theorem ren_R (hH : ∀ n, H' (σ n) = (H n).map (AO.ren σ)) : ∀ (x : AV) (u : Value), (x.ren σ).R ρ H' M w u ↔ x.R (fun n => ρ (σ n)) H M w u
  | .p x, u => by simp only [AV.ren, AV.R]
  | .agg cs, u => by simp only [AV.ren, AV.R, ren_Rs hH cs]
  | .ref n o, u => by
    simp only [AV.ren, AV.R, hH]
    refine and_congr_right fun _ => ⟨fun h cells hc => h (renL σ cells) (by rw [hc]; rfl), fun h cells hc => ?_⟩
    cases hn : H n with
    | none => rw [hn] at hc; simp at hc
    | some ob =>
      cases ob with
      | box cs => exact h cs hn
      | _ => rw [hn] at hc; simp [AO.ren] at hc
  | .sref n, u => by
    simp only [AV.ren, AV.R, hH]
    refine and_congr_right fun _ => ⟨fun h cells hc => h (renL σ cells) (by rw [hc]; rfl), fun h cells hc => ?_⟩
    cases hn : H n with
    | none => rw [hn] at hc; simp at hc
    | some ob =>
      cases ob with
      | box cs => exact h cs hn
      | _ => rw [hn] at hc; simp [AO.ren] at hc
  | .own n l, u => by
    simp only [AV.ren, AV.R, hH]
    refine and_congr_right fun _ => ⟨fun h o es k ho hs => h (o.ren σ) es k (by rw [ho]; rfl) (by rw [shape_ren]; exact hs), fun h o es k ho hs => ?_⟩
    cases hn : H n with
    | none => rw [hn] at ho; simp at ho
    | some ob => rw [hn] at ho; simp only [Option.map_some, Option.some.injEq] at ho; subst ho; rw [shape_ren] at hs; exact h ob es k hn hs
  | .aref n l i o, u => by
    simp only [AV.ren, AV.R, hH]
    refine and_congr_right fun _ => ⟨fun h o es k ho hs => h (o.ren σ) es k (by rw [ho]; rfl) (by rw [shape_ren]; exact hs), fun h o es k ho hs => ?_⟩
    cases hn : H n with
    | none => rw [hn] at ho; simp at ho
    | some ob => rw [hn] at ho; simp only [Option.map_some, Option.some.injEq] at ho; subst ho; rw [shape_ren] at hs; exact h ob es k hn hs
  | .view n l i o, u => by
    simp only [AV.ren, AV.R, hH]
    refine and_congr_right fun _ => and_congr_right fun _ => and_congr_right fun _ => ⟨fun h o es k ho hs => h (o.ren σ) es k (by rw [ho]; rfl) (by rw [shape_ren]; exact hs), fun h o es k ho hs => ?_⟩
    cases hn : H n with
    | none => rw [hn] at ho; simp at ho
    | some ob => rw [hn] at ho; simp only [Option.map_some, Option.some.injEq] at ho; subst ho; rw [shape_ren] at hs; exact h ob es k hn hs
  | .cut n l i, u => by
    simp only [AV.ren, AV.R, hH]
    refine and_congr_right fun _ => and_congr_right fun _ => ⟨fun h o es k ho hs => h (o.ren σ) es k (by rw [ho]; rfl) (by rw [shape_ren]; exact hs), fun h o es k ho hs => ?_⟩
    cases hn : H n with
    | none => rw [hn] at ho; simp at ho
    | some ob => rw [hn] at ho; simp only [Option.map_some, Option.some.injEq] at ho; subst ho; rw [shape_ren] at hs; exact h ob es k hn hs
  | .eptr c, u => by simp only [AV.ren, AV.R]
  | .tup vs, u => by simp only [AV.ren, AV.R, ren_Ts hH vs]
  | .clo f a c, u => by simp only [AV.ren, AV.R, ren_Rs hH a, ren_Rs hH c]
  | .oref m n, u => by
    simp only [AV.ren, AV.R, hH]
    refine and_congr_right fun _ => ⟨fun h x hx => h x (by rw [hx]; rfl), fun h x hx => ?_⟩
    cases hn : H n with
    | none => rw [hn] at hx; simp at hx
    | some ob =>
      cases ob with
      | obj y => rw [hn] at hx; simp only [Option.map_some, AO.ren, Option.some.injEq, AO.obj.injEq] at hx; subst hx; exact h y hn
      | _ => rw [hn] at hx; simp [AO.ren] at hx
  | .err b, u => by simp only [AV.ren, AV.R]
  | .ub, u => by simp only [AV.ren, AV.R]
  | .any, u => by simp only [AV.ren, AV.R]
theorem ren_Rs (hH : ∀ n, H' (σ n) = (H n).map (AO.ren σ)) : ∀ (xs : List AV) (us : List Value), AV.Rs ρ H' M w (renL σ xs) us ↔ AV.Rs (fun n => ρ (σ n)) H M w xs us
  | [], us => by simp only [renL, AV.Rs]
  | x :: r, us => by simp only [renL, AV.Rs, ren_R hH x, ren_Rs hH r]
theorem ren_Ts (hH : ∀ n, H' (σ n) = (H n).map (AO.ren σ)) : ∀ (xs : List AV) (us : List Value), AV.Ts ρ H' M w (renL σ xs) us ↔ AV.Ts (fun n => ρ (σ n)) H M w xs us
  | [], us => by simp only [renL, AV.Ts]
  | x :: r, us => by simp only [renL, AV.Ts, ren_R hH x, ren_Ts hH r]
end
omit hσ in
theorem renL_length (l : List AV) : (renL σ l).length = l.length := by simp [renL_map]
theorem ren_Obj (hH : ∀ n, H' (σ n) = (H n).map (AO.ren σ)) (n : Name) (o : AO) : ObjAt ρ H' M w (σ n) (o.ren σ) ↔ ObjAt (fun n => ρ (σ n)) H M w n o := by
  cases o with
  | box cs => simp only [AO.ren, ObjAt, ren_Rs hσ hH]
  | arr es rows => simp only [AO.ren, ObjAt]
  | hole es pre row post => simp only [AO.ren, ObjAt, ren_Rs hσ hH, renL_length]
  | fact a x => simp only [AO.ren, ObjAt, ren_R hσ hH]
  | obj x => simp only [AO.ren, ObjAt]
theorem stays_ren {o o' : AO} {l l' : Loc} : stays (o.ren σ) l (some (o'.ren σ)) l' ↔ stays o l (some o') l' := by
  cases o <;> cases o' <;> simp only [AO.ren, stays]
theorem Spec.ren {P : Program} {f : FuncId} {args : List AV} {pre h : List (Name × AO)} {v : AV} (hs : SpecIs P f args pre v h) : SpecIs P f (renL σ args) (renH σ pre) (v.ren σ) (renH σ h) := by
  intro G ρ M w us hG hM hargs hobjs hinj
  have hH : ∀ n, lookH (renH σ pre) (σ n) = (lookH pre n).map (AO.ren σ) := fun n => look_renH hσ n pre
  have hex : ∀ b, (∃ n o, look n pre = some o ∧ (ρ (σ n)).blk = some b) ↔ (∃ n o, look n (renH σ pre) = some o ∧ (ρ n).blk = some b) := fun b => by
    constructor
    · rintro ⟨n, o, h1, h2⟩; exact ⟨σ n, o.ren σ, by rw [look_renH hσ, h1]; rfl, h2⟩
    · rintro ⟨m, o, h1, h2⟩
      obtain ⟨n, rfl⟩ := look_renH_inv h1
      rw [look_renH hσ] at h1
      cases hn : look n pre with
      | none => rw [hn] at h1; simp at h1
      | some ob => exact ⟨n, ob, hn, h2⟩
  have hB : (fun b => ∃ n o, look n pre = some o ∧ (ρ (σ n)).blk = some b) = (fun b => ∃ n o, look n (renH σ pre) = some o ∧ (ρ n).blk = some b) := by funext b; exact propext (hex b)
  refine (hs G (fun n => ρ (σ n)) M w us ?_ hM ((ren_Ts hσ hH args us).1 hargs) (fun n o hn => ?_) (fun n m o o' b h1 h2 h3 h4 => ?_)).mono ?_
  · grind
  · exact (ren_Obj hσ hH n o).1 (hobjs (σ n) (o.ren σ) (by rw [look_renH hσ, hn]; rfl))
  · exact hσ _ _ (hinj (σ n) (σ m) (o.ren σ) (o'.ren σ) b (by rw [look_renH hσ, h1]; rfl) (by rw [look_renH hσ, h2]; rfl) h3 h4)
  · rintro e w' ⟨u, v', h', ρ', rfl, ⟨rfl, rfl⟩, ha⟩
    classical
    let ρ2 : Name → Loc := fun m => if hm : ∃ n, σ n = m then ρ' (Classical.choose hm) else ρ m
    have h2 : ∀ n, ρ2 (σ n) = ρ' n := fun n => by
      have hm : ∃ k, σ k = σ n := ⟨n, rfl⟩
      grind
    have h2' : (fun n => ρ2 (σ n)) = ρ' := funext h2
    have hH' : ∀ n, lookH (renH σ h') (σ n) = (lookH h' n).map (AO.ren σ) := fun n => look_renH hσ n h'
    have hM' : newM M ρ2 (renH σ h') = newM M ρ' h' := by
      funext b
      refine propext (or_congr_right ⟨?_, ?_⟩)
      · rintro ⟨m, o, g1, g2⟩
        obtain ⟨n, rfl⟩ := look_renH_inv g1
        rw [look_renH hσ] at g1
        cases hn : look n h' with
        | none => rw [hn] at g1; simp at g1
        | some ob => exact ⟨n, ob, hn, by rw [← h2]; exact g2⟩
      · rintro ⟨n, o, g1, g2⟩; exact ⟨σ n, o.ren σ, by rw [look_renH hσ, g1]; rfl, by rw [h2]; exact g2⟩
    have hback : ∀ {m o} {l : List (Name × AO)}, look m (renH σ l) = some o → ∃ n ob, m = σ n ∧ look n l = some ob ∧ o = ob.ren σ := fun {m o l} g1 => by
      obtain ⟨n, rfl⟩ := look_renH_inv g1
      rw [look_renH hσ] at g1
      cases hn : look n l with
      | none => rw [hn] at g1; simp at g1
      | some ob => rw [hn] at g1; exact ⟨n, ob, rfl, hn, by simpa using g1.symm⟩
    refine ⟨u, v'.ren σ, renH σ h', ρ2, rfl, ⟨rfl, rfl⟩, ?_, ?_, ?_, ?_, ?_, ?_⟩
    · rw [hM', ren_R hσ hH', h2']; exact ha.val
    · intro m o hm
      obtain ⟨n, ob, rfl, hn, rfl⟩ := hback hm
      rw [hM', ren_Obj hσ hH', h2']; exact ha.objs n ob hn
    · intro m m' o o' b g1 g2 g3 g4
      obtain ⟨n, ob, rfl, hn, rfl⟩ := hback g1
      obtain ⟨n', ob', rfl, hn', rfl⟩ := hback g2
      rw [h2] at g3 g4
      rw [ha.inj n n' ob ob' b hn hn' g3 g4]
    · intro m o b g1 g2
      obtain ⟨n, ob, rfl, hn, rfl⟩ := hback g1
      rw [h2] at g2
      rcases ha.own n ob b hn g2 with ⟨o', k1, k2⟩ | k
      · exact .inl ⟨o'.ren σ, by rw [look_renH hσ, k1]; rfl, k2⟩
      · exact .inr k
    · have := ha.ext
      rw [← hB]; exact this
    · intro m o hm
      obtain ⟨n, ob, rfl, hn, rfl⟩ := hback hm
      obtain ⟨o', k1, k2⟩ := ha.keep n ob hn
      exact ⟨o'.ren σ, by rw [look_renH hσ, k1]; rfl, by rw [h2]; exact (stays_ren hσ).2 k2⟩
end
theorem Spec.preLe {P : Program} {f : FuncId} {args : List AV} {pre pre' : List (Name × AO)} {post : AV → List (Name × AO) → Prop} (hs : Spec P f args pre post)
    (h1 : ∀ n o, look n pre = some o → ∃ o', look n pre' = some o' ∧ (o' = o ∨ ∃ cs ds, o' = .box cs ∧ o = .box ds ∧ AVleL cs ds)) (h2 : ∀ n o', look n pre' = some o' → ∃ o, look n pre = some o) : Spec P f args pre' post := by
  intro G ρ M w us hG hM hargs hobjs hinj
  have hB : (fun b => ∃ n o, look n pre = some o ∧ (ρ n).blk = some b) = (fun b => ∃ n o, look n pre' = some o ∧ (ρ n).blk = some b) := by
    grind
  have hst : HStep ρ (lookH pre') ρ (lookH pre) := fun n o' hn => by
    obtain ⟨o, ho⟩ := h2 n o' hn
    obtain ⟨o2, ho2, hle⟩ := h1 n o ho
    change look n pre' = some o' at hn
    rw [hn] at ho2; cases ho2
    change stays o' (ρ n) (look n pre) (ρ n)
    rw [ho]
    rcases hle with rfl | ⟨cs, ds, rfl, rfl, _⟩
    · exact stays_refl _ _
    · rfl
  have hnn : ∀ n, lookH pre' n = none → lookH pre n = none := fun n hn => by
    cases hc : lookH pre n with
    | none => rfl
    | some o =>
      obtain ⟨o', ho', _⟩ := h1 n o hc
      change look n pre' = none at hn
      simp_all
  have hconvs : ∀ {xs : List AV} {us : List Value}, AV.Rs ρ (lookH pre') M w xs us → AV.Rs ρ (lookH pre) M w xs us := fun hr =>
    hr.step (Ext.refl (fun _ => False) _) (fun _ hb => hb.elim) (fun b _ hb => hb) hst (fun n _ => hnn n)
  refine (hs G ρ M w us (by rw [hB]; exact hG) hM (hargs.step (Ext.refl (fun _ => False) _) (fun _ hb => hb.elim) (fun b _ hb => hb) hst (fun n _ => hnn n)) (fun n o hn => ?_)
    (fun n m o o' b g1 g2 => by obtain ⟨p, k1, _⟩ := h1 n o g1; obtain ⟨q, k2, _⟩ := h1 m o' g2; exact hinj n m p q b k1 k2)).mono ?_
  · obtain ⟨o', ho', hle⟩ := h1 n o hn
    have hobj := hobjs n o' ho'
    rcases hle with rfl | ⟨cs, ds, rfl, rfl, hle⟩
    · exact hobj.step (Ext.refl (fun _ => False) _) (fun _ hb => hb.elim) (fun b _ hb => hb) (fun b hb => hb) hst (fun m _ => hnn m) rfl (fun _ _ => rfl) hM
    · obtain ⟨b, T, us', k1, k2, k3, k4⟩ := hobj
      exact ⟨b, T, us', k1, k2, k3, Rs_le hle _ (hconvs k4)⟩
  · rintro e w' ⟨u, v, h, ρ', rfl, hp, ha⟩
    refine ⟨u, v, h, ρ', rfl, hp, ha.val, ha.objs, ha.inj, fun n o b g1 g2 => ?_, by rw [← hB]; exact ha.ext, fun n o hn => ?_⟩
    · exact (ha.own n o b g1 g2).imp (fun ⟨o', k1, k2⟩ => by obtain ⟨o2, k3, _⟩ := h1 n o' k1; exact ⟨o2, k3, k2⟩) id
    · obtain ⟨o1, k1⟩ := h2 n o hn
      obtain ⟨o2, k2, k3⟩ := ha.keep n o1 k1
      refine ⟨o2, k2, ?_⟩
      obtain ⟨o3, k4, hle⟩ := h1 n o1 k1
      rw [hn] at k4; cases k4
      rcases hle with rfl | ⟨cs, ds, rfl, rfl, _⟩
      · exact k3
      · cases o2 <;> simp only [stays] at k3 ⊢ <;> exact k3
abbrev Ren := List (Name × (Name × Nat))
inductive Sh where
  | num (k : IntKind)
  | boo
  | str
  | err
  | lst (t : TC)
  | nul
  | ref (nm : Name)
  | sref (nm : Name)
  | own (nm : Name)
  | view (nm : Name)
  /-- A closure of that function, with these boxes. -/
  | clo (f : Nat) (caps : List Name)
  | fv (f : Nat)
  | mref (nm : Name)
inductive SSh where
  | one (s : Sh)
  | st (t : TC)
  | agg (l : List Sh)
inductive OSh where
  | box (l : List Sh)
  | boxst (t : TC)
  | arr (t : TC)
  /-- Changed in place: the header stays. -/
  | arrs (t : TC)
  | sm
def Sh.prod : Sh → Type → Type
  | .num _, X => Int × X
  | .boo, X => Bool × X
  | .err, X => Bool × X
  | .str, X => ByteArray × X
  | .lst t, X => List (TT t) × X
  | .nul, X => X
  | .ref _, X => X
  | .sref _, X => X
  | .own _, X => X
  | .view _, X => Nat × Nat × X
  | .clo _ _, X => X
  | .fv _, X => X
  | .mref _, X => X
def TL : List Sh → Type
  | [] => Unit
  | s :: r => s.prod (TL r)
def Sh.put (ver : Nat) : (s : Sh) → (X : Type) → s.prod X → BV × X
  | .num k, _, x => (.n k x.1, x.2)
  | .boo, _, x => (.b x.1, x.2)
  | .err, _, x => (.err x.1, x.2)
  | .str, _, x => (.s x.1, x.2)
  | .lst t, _, x => (.ts false t x.1, x.2)
  | .nul, _, x => (.nil, x)
  | .ref nm, _, x => (.ref nm 0, x)
  | .sref nm, _, x => (.sref nm, x)
  | .own nm, _, x => (.own nm ver, x)
  | .view nm, _, x => (.view nm ver x.1 x.2.1, x.2.2)
  | .clo f caps, _, x => (.clo (.func f) (caps.map fun n => .ref n 0), x)
  | .fv f, _, x => (.v (.func (.func f) #[] #[]), x)
  | .mref nm, _, x => (.mref nm, x)
def TL.put (ver : Nat) : (l : List Sh) → TL l → List BV
  | [], _ => []
  | s :: r, x => (s.put ver _ x).1 :: TL.put ver r (s.put ver _ x).2
def SSh.prod : SSh → Type → Type
  | .one s, X => s.prod X
  | .st t, X => TT t × X
  | .agg l, X => TL l × X
def SSh.put (ver : Nat) : (s : SSh) → (X : Type) → s.prod X → BV × X
  | .one s, X, x => s.put ver X x
  | .st t, _, x => (.agg (tb t x.1), x.2)
  | .agg l, _, x => (.agg (TL.put ver l x.1), x.2)
def SL : List SSh → Type
  | [] => Unit
  | s :: r => s.prod (SL r)
def SL.put (ver : Nat) : (l : List SSh) → SL l → List BV
  | [], _ => []
  | s :: r, x => (s.put ver _ x).1 :: SL.put ver r (s.put ver _ x).2
def OSh.T : OSh → Type
  | .box l => TL l
  | .boxst t => TT t
  | .arr t => List (TT t)
  | .arrs t => List (TT t)
  | .sm => List (ByteArray × Bool)
def OSh.put (ver : Nat) : (o : OSh) → o.T → BO
  | .box l, x => .box (TL.put ver l x)
  | .boxst t, x => .box (tb t x)
  | .arr t, x => .arr t x ver
  | .arrs t, x => .arr t x 0
  | .sm, x => .sm x
def OL : List (Name × OSh) → Type
  | [] => Unit
  | p :: r => p.2.T × OL r
def OL.put (ver : Nat) : (l : List (Name × OSh)) → OL l → HS
  | [], _ => []
  | p :: r, x => (p.1, p.2.put ver x.1) :: OL.put ver r x.2
def STL : List (Nat × SSh) → Type
  | [] => Unit
  | p :: r => p.2.prod (STL r)
def STL.put (ver : Nat) : (l : List (Nat × SSh)) → STL l → TS
  | [], _ => []
  | p :: r, x => (p.1, (p.2.put ver _ x).1) :: STL.put ver r (p.2.put ver _ x).2
section
variable {R : Type} {r : R}
def capsGet : List Name → List BV → Ren → (Ren → Option R) → Option R
  | [], [], σ, K => K σ
  | nm :: q, .ref m off :: vs, σ, K => if Nat.beq off 0 then capsGet q vs ((nm, (m, 0)) :: σ) K else none
  | _, _, _, _ => none
def Sh.get : (s : Sh) → BV → Ren → (Ren → ((X : Type) → X → s.prod X) → Option R) → Option R
  | .num k, .n k' x, σ, K => if kEq k k' then K σ (fun _ y => (x, y)) else none
  | .boo, .b x, σ, K => K σ (fun _ y => (x, y))
  | .str, .s x, σ, K => K σ (fun _ y => (x, y))
  | .err, .err x, σ, K => K σ (fun _ y => (x, y))
  | .lst t, .ts _ t' l, σ, K => if h : t' = t then K σ (fun _ y => (castL h l, y)) else none
  | .lst t, .nil, σ, K => K σ (fun _ y => ([], y))
  | .nul, .nil, σ, K => K σ (fun _ y => y)
  | .ref nm, .ref m off, σ, K => if Nat.beq off 0 then K ((nm, (m, 0)) :: σ) (fun _ y => y) else none
  | .sref nm, .v (.pointer none), σ, K => K σ (fun _ y => y)
  | .sref nm, .sref m, σ, K => K ((nm, (m, 0)) :: σ) (fun _ y => y)
  | .own nm, .own m u, σ, K => K ((nm, (m, u)) :: σ) (fun _ y => y)
  | .view nm, .view m u lo hi, σ, K => K ((nm, (m, u)) :: σ) (fun _ y => (lo, hi, y))
  | .clo f caps, .clo (.func f') cs, σ, K => if Nat.beq f f' then capsGet caps cs σ fun σ => K σ (fun _ y => y) else none
  | .fv f, .v (.func (.func f') ⟨[]⟩ ⟨[]⟩), σ, K => if Nat.beq f f' then K σ (fun _ y => y) else none
  | .mref nm, .mref m, σ, K => K ((nm, (m, 0)) :: σ) (fun _ y => y)
  | _, _, _, _ => none
def TL.get : (l : List Sh) → List BV → Ren → (Ren → TL l → Option R) → Option R
  | [], [], σ, K => K σ ()
  | s :: r, v :: vs, σ, K => s.get v σ fun σ f => TL.get r vs σ fun σ x => K σ (f _ x)
  | _, _, _, _ => none
def SSh.get : (s : SSh) → BV → Ren → (Ren → ((X : Type) → X → s.prod X) → Option R) → Option R
  | .one s, v, σ, K => s.get v σ K
  | .st t, .agg cs, σ, K => tpop t cs fun x rest => match rest with
    | [] => K σ (fun _ y => (x, y))
    | _ => none
  | .agg l, .agg cs, σ, K => TL.get l cs σ fun σ x => K σ (fun _ y => (x, y))
  | _, _, _, _ => none
def SL.get : (l : List SSh) → List BV → Ren → (Ren → SL l → Option R) → Option R
  | [], [], σ, K => K σ ()
  | s :: r, v :: vs, σ, K => s.get v σ fun σ f => SL.get r vs σ fun σ x => K σ (f _ x)
  | _, _, _, _ => none
def OSh.get : (o : OSh) → BO → Nat → Ren → (Ren → o.T → Option R) → Option R
  | .box l, .box cs, _, σ, K => TL.get l cs σ K
  | .boxst t, .box cs, _, σ, K => tpop t cs fun x rest => match rest with
    | [] => K σ x
    | _ => none
  | .arr t, .arr t' l q, u, σ, K => if h : t' = t then if Nat.beq q u then K σ (castL h l) else none else none
  | .arrs t, .arr t' l q, u, σ, K => if h : t' = t then if Nat.beq q u then K σ (castL h l) else none else none
  | .sm, .sm es, _, σ, K => K σ es
  | _, _, _, _, _ => none
def OL.get : (l : List (Name × OSh)) → HS → Ren → (Ren → OL l → Option R) → Option R
  | [], _, σ, K => K σ ()
  | p :: r, hs, σ, K => match look p.1 σ with
    | some m => match look m.1 hs with
      | some ob => p.2.get ob m.2 σ fun σ x => OL.get r hs σ fun σ y => K σ (x, y)
      | none => none
    | none => none
def STL.get : (l : List (Nat × SSh)) → TS → Ren → (Ren → STL l → Option R) → Option R
  | [], _, σ, K => K σ ()
  | p :: r, ts, σ, K => match look p.1 ts with
    | some v => p.2.get v σ fun σ f => STL.get r ts σ fun σ x => K σ (f _ x)
    | none => none
def Fit (rr : Name → Name) (δ : Name → Nat) (σ : Ren) : Prop := ∀ nm m, (nm, m) ∈ σ → rr nm = m.1 ∧ δ nm = m.2
def lensOf (L : Lens) (rr : Name → Name) (δ : Name → Nat) : Lens := fun n v => L (rr n) (δ n + v)
theorem Fit.mono {rr : Name → Name} {δ : Name → Nat} {σ σ' : Ren} (h : Fit rr δ σ') (hs : ∀ p, p ∈ σ → p ∈ σ') : Fit rr δ σ := fun nm m hm => h nm m (hs _ hm)
variable {L : Lens}
theorem capsGet_some : ∀ {ns : List Name} {vs : List BV} {σ : Ren} {K : Ren → Option R}, capsGet ns vs σ K = some r →
    ∃ σ', K σ' = some r ∧ (∀ p, p ∈ σ → p ∈ σ') ∧ ∀ (rr : Name → Name) (δ : Name → Nat) (L : Lens), Fit rr δ σ' → erL L vs = renL rr (erL (lensOf L rr δ) (ns.map fun n => .ref n 0))
  | [], [], σ, K, h => ⟨σ, h, fun _ hp => hp, fun rr δ L _ => by simp only [List.map_nil, erL, renL]⟩
  | [], v :: vs, σ, K, h => by simp [capsGet] at h
  | nm :: ns, [], σ, K, h => by simp [capsGet] at h
  | nm :: ns, v :: vs, σ, K, h => by
    cases v with
    | ref m off =>
      simp only [capsGet] at h
      split at h
      · rename_i ho
        have := Nat.eq_of_beq_eq_true ho; subst this
        obtain ⟨σ', h1, h2, h3⟩ := capsGet_some h
        refine ⟨σ', h1, fun p hp => h2 p (List.mem_cons_of_mem _ hp), fun rr δ L hf => ?_⟩
        simp only [List.map_cons, erL, renL, BV.er, AV.ren, (hf nm (m, 0) (h2 _ (List.mem_cons_self ..))).1, h3 rr δ L hf]
      · simp at h
    | _ => simp [capsGet] at h
theorem Sh.get_some {s : Sh} {v : BV} {σ : Ren} {K : Ren → ((X : Type) → X → s.prod X) → Option R} (h : s.get v σ K = some r) :
    ∃ σ' f, K σ' f = some r ∧ (∀ p, p ∈ σ → p ∈ σ') ∧ (∀ X (y : X), (s.put 0 X (f X y)).2 = y) ∧ (v.isQ = true → ∀ X (y : X), (s.put 0 X (f X y)).1 = v) ∧ ∀ X (y : X) (rr : Name → Name) (δ : Name → Nat) (L : Lens), Fit rr δ σ' → AVle (v.er L) (((s.put 0 X (f X y)).1.er (lensOf L rr δ)).ren rr) := by
  unfold Sh.get at h
  split at h
  · split at h
    · rename_i hk; have := kEq_of hk; subst this
      exact ⟨_, _, h, fun _ hp => hp, fun _ _ => rfl, fun _ _ _ => rfl, fun X y rr δ L _ => by simp only [Sh.put, BV.er, AV.ren]; exact .refl _⟩
    · simp at h
  · exact ⟨_, _, h, fun _ hp => hp, fun _ _ => rfl, fun _ _ _ => rfl, fun X y rr δ L _ => by simp only [Sh.put, BV.er, AV.ren]; exact .refl _⟩
  · exact ⟨_, _, h, fun _ hp => hp, fun _ _ => rfl, fun _ _ _ => rfl, fun X y rr δ L _ => by simp only [Sh.put, BV.er, AV.ren]; exact .refl _⟩
  · exact ⟨_, _, h, fun _ hp => hp, fun _ _ => rfl, fun hq => by simp [BV.isQ] at hq, fun X y rr δ L _ => by simp only [Sh.put, BV.er, AV.ren]; exact .refl _⟩
  · split at h
    · rename_i he; subst he
      exact ⟨_, _, h, fun _ hp => hp, fun _ _ => rfl, fun hq _ _ => (isQ_ts hq).symm, fun X y rr δ L _ => by simp only [Sh.put, BV.er, AV.ren, castL]; exact .p (PVle.full _)⟩
    · simp at h
  · rename_i t K0
    exact ⟨_, _, h, fun _ hp => hp, fun _ _ => rfl, fun hq => by simp [BV.isQ] at hq, fun X y rr δ L _ => by have := nil_le t L; simp only [BV.er] at this; simp only [Sh.put, BV.er, AV.ren]; exact this⟩
  · exact ⟨_, _, h, fun _ hp => hp, fun _ _ => rfl, fun hq => by simp [BV.isQ] at hq, fun X y rr δ L _ => by simp only [Sh.put, BV.er, AV.ren]; exact .refl _⟩
  · split at h
    · rename_i nm m off σ0 K0 ho
      have := Nat.eq_of_beq_eq_true ho; subst this
      exact ⟨_, _, h, fun _ hp => List.mem_cons_of_mem _ hp, fun _ _ => rfl, fun hq => by simp [BV.isQ] at hq, fun X y rr δ L hf => by simp only [Sh.put, BV.er, AV.ren, lensOf, (hf _ _ (List.mem_cons_self ..)).1, (hf _ _ (List.mem_cons_self ..)).2, Nat.add_zero]; exact .refl _⟩
    · simp at h
  · exact ⟨_, _, h, fun _ hp => hp, fun _ _ => rfl, fun hq => by simp [BV.isQ] at hq, fun X y rr δ L _ => by simp only [Sh.put, BV.er, AV.ren]; exact .snil _⟩
  · rename_i nm m σ0 K0
    exact ⟨_, _, h, fun _ hp => List.mem_cons_of_mem _ hp, fun _ _ => rfl, fun hq => by simp [BV.isQ] at hq, fun X y rr δ L hf => by simp only [Sh.put, BV.er, AV.ren, (hf _ _ (List.mem_cons_self ..)).1]; exact .refl _⟩
  · rename_i nm m σ0 K0
    exact ⟨_, _, h, fun _ hp => List.mem_cons_of_mem _ hp, fun _ _ => rfl, fun hq => by simp [BV.isQ] at hq, fun X y rr δ L hf => by simp only [Sh.put, BV.er, AV.ren, lensOf, (hf _ _ (List.mem_cons_self ..)).1, (hf _ _ (List.mem_cons_self ..)).2, Nat.add_zero]; exact .refl _⟩
  · rename_i nm m u lo hi σ0 K0
    exact ⟨_, _, h, fun _ hp => List.mem_cons_of_mem _ hp, fun _ _ => rfl, fun hq => by simp [BV.isQ] at hq, fun X y rr δ L hf => by simp only [Sh.put, BV.er, AV.ren, lensOf, (hf _ _ (List.mem_cons_self ..)).1, (hf _ _ (List.mem_cons_self ..)).2, Nat.add_zero]; exact .refl _⟩
  · split at h
    · rename_i hk; have := Nat.eq_of_beq_eq_true hk; subst this
      obtain ⟨σ', h1, h2, h3⟩ := capsGet_some h
      exact ⟨σ', _, h1, h2, fun _ _ => rfl, fun hq => by simp [BV.isQ] at hq, fun X y rr δ L hf => by simp only [Sh.put, BV.er, AV.ren, h3 rr δ L hf, renL]; exact .refl _⟩
    · simp at h
  · split at h
    · rename_i hk; have := Nat.eq_of_beq_eq_true hk; subst this
      exact ⟨_, _, h, fun _ hp => hp, fun _ _ => rfl, fun hq => by simp [BV.isQ] at hq, fun X y rr δ L _ => by simp only [Sh.put, BV.er, AV.ren]; exact .refl _⟩
    · simp at h
  · rename_i nm m σ0 K0
    exact ⟨_, _, h, fun _ hp => List.mem_cons_of_mem _ hp, fun _ _ => rfl, fun hq => by simp [BV.isQ] at hq, fun X y rr δ L hf => by simp only [Sh.put, BV.er, AV.ren, (hf _ _ (List.mem_cons_self ..)).1]; exact .refl _⟩
  · simp at h
theorem TL.get_some : ∀ {l : List Sh} {vs : List BV} {σ : Ren} {K : Ren → TL l → Option R}, TL.get l vs σ K = some r →
    ∃ σ' x, K σ' x = some r ∧ (∀ p, p ∈ σ → p ∈ σ') ∧ (vs.all BV.isQ = true → TL.put 0 l x = vs) ∧ ∀ (rr : Name → Name) (δ : Name → Nat) (L : Lens), Fit rr δ σ' → AVleL (erL L vs) (renL rr (erL (lensOf L rr δ) (TL.put 0 l x)))
  | [], vs, σ, K, h => by
    cases vs with
    | nil => exact ⟨_, _, h, fun _ hp => hp, fun _ => rfl, fun rr δ L _ => by simp only [TL.put, erL, renL]; exact .nil⟩
    | cons v vs => simp [TL.get] at h
  | s :: l, vs, σ, K, h => by
    cases vs with
    | nil => simp [TL.get] at h
    | cons v vs =>
      simp only [TL.get] at h
      obtain ⟨σ1, f, h, hs1, hf1, q1, g1⟩ := Sh.get_some h
      obtain ⟨σ2, x, h, hs2, q2, g2⟩ := TL.get_some h
      refine ⟨σ2, f _ x, h, fun p hp => hs2 p (hs1 p hp), fun hq => ?_, fun rr δ L hf => ?_⟩
      · simp only [List.all_cons, Bool.and_eq_true] at hq
        simp only [TL.put, hf1]
        rw [q1 hq.1, q2 hq.2]
      simp only [TL.put, erL, renL, hf1]
      exact .cons (g1 _ x rr δ L (hf.mono hs2)) (g2 rr δ L hf)
theorem tb_ren (rr : Name → Name) (L L' : Lens) (t : TC) (x : TT t) : renL rr (erL L (tb t x)) = erL L' (tb t x) := by
  rw [erL_isP (tb_isP t x), erL_isP (tb_isP t x), renL_map]
  simp only [pcells, List.map_map]
  exact List.map_congr_left fun y _ => by simp only [Function.comp, AV.ren]
theorem SSh.get_some {s : SSh} {v : BV} {σ : Ren} {K : Ren → ((X : Type) → X → s.prod X) → Option R} (h : s.get v σ K = some r) :
    ∃ σ' f, K σ' f = some r ∧ (∀ p, p ∈ σ → p ∈ σ') ∧ (∀ X (y : X), (s.put 0 X (f X y)).2 = y) ∧ ∀ X (y : X) (rr : Name → Name) (δ : Name → Nat) (L : Lens), Fit rr δ σ' → AVle (v.er L) (((s.put 0 X (f X y)).1.er (lensOf L rr δ)).ren rr) := by
  cases s with
  | one s =>
    obtain ⟨a, b, c, d, e, _, g⟩ := Sh.get_some h
    exact ⟨a, b, c, d, e, g⟩
  | st t =>
    cases v with
    | agg cs =>
      simp only [SSh.get] at h
      obtain ⟨x, l, hle, h⟩ := tpop_some t h
      split at h
      · refine ⟨_, _, h, fun _ hp => hp, fun _ _ => rfl, fun X y rr δ L _ => ?_⟩
        simp only [SSh.put, BV.er, AV.ren, tb_ren rr _ L]
        have := hle.1 L
        rw [List.append_nil] at this
        exact .agg this
      · simp at h
    | _ => simp [SSh.get] at h
  | agg l =>
    cases v with
    | agg cs =>
      simp only [SSh.get] at h
      obtain ⟨σ', x, h, hs, _, g⟩ := TL.get_some h
      exact ⟨_, _, h, hs, fun _ _ => rfl, fun X y rr δ L hf => by simp only [SSh.put, BV.er, AV.ren]; exact .agg (g rr δ L hf)⟩
    | _ => simp [SSh.get] at h
theorem SL.get_some : ∀ {l : List SSh} {vs : List BV} {σ : Ren} {K : Ren → SL l → Option R}, SL.get l vs σ K = some r →
    ∃ σ' x, K σ' x = some r ∧ (∀ p, p ∈ σ → p ∈ σ') ∧ ∀ (rr : Name → Name) (δ : Name → Nat) (L : Lens), Fit rr δ σ' → AVleL (erL L vs) (renL rr (erL (lensOf L rr δ) (SL.put 0 l x)))
  | [], vs, σ, K, h => by
    cases vs with
    | nil => exact ⟨_, _, h, fun _ hp => hp, fun rr δ L _ => by simp only [SL.put, erL, renL]; exact .nil⟩
    | cons v vs => simp [SL.get] at h
  | s :: l, vs, σ, K, h => by
    cases vs with
    | nil => simp [SL.get] at h
    | cons v vs =>
      simp only [SL.get] at h
      obtain ⟨σ1, f, h, hs1, hf1, g1⟩ := SSh.get_some h
      obtain ⟨σ2, x, h, hs2, g2⟩ := SL.get_some h
      refine ⟨σ2, f _ x, h, fun p hp => hs2 p (hs1 p hp), fun rr δ L hf => ?_⟩
      simp only [SL.put, erL, renL, hf1]
      exact .cons (g1 _ x rr δ L (hf.mono hs2)) (g2 rr δ L hf)
def OLe (rr : Name → Name) (δ : Name → Nat) (u : Nat) (L : Lens) (a b : BO) : Prop := (∃ cs ds, a = .box cs ∧ b = .box ds ∧ AVleL (erL L cs) (renL rr (erL (lensOf L rr δ) ds)) ∧ (cs.all BV.isQ = true → ds = cs)) ∨ (∃ t l, a = .arr t l u ∧ b = .arr t l 0) ∨ ∃ es, a = .sm es ∧ b = .sm es
theorem OSh.get_some {o : OSh} {b : BO} {u : Nat} {σ : Ren} {K : Ren → o.T → Option R} (h : o.get b u σ K = some r) :
    ∃ σ' x, K σ' x = some r ∧ (∀ p, p ∈ σ → p ∈ σ') ∧ ∀ (rr : Name → Name) (δ : Name → Nat) (L : Lens), Fit rr δ σ' → OLe rr δ u L b (o.put 0 x) := by
  cases o with
  | box l =>
    cases b with
    | box cs =>
      obtain ⟨σ', x, h, hs, q, g⟩ := TL.get_some h
      exact ⟨σ', x, h, hs, fun rr δ L hf => .inl ⟨_, _, rfl, rfl, g rr δ L hf, q⟩⟩
    | arr t l => simp [OSh.get] at h
    | sm es => simp [OSh.get] at h
  | boxst t =>
    cases b with
    | box cs =>
      simp only [OSh.get] at h
      obtain ⟨x, l, hle, h⟩ := tpop_some t h
      split at h
      · refine ⟨_, _, h, fun _ hp => hp, fun rr δ L _ => .inl ⟨_, _, rfl, rfl, ?_, fun hq => ?_⟩⟩
        · rw [tb_ren rr _ L]
          have := hle.1 L
          rw [List.append_nil] at this
          exact this
        · have := hle.2 hq
          rw [List.append_nil] at this
          exact this.symm
      · simp at h
    | arr t l => simp [OSh.get] at h
    | sm es => simp [OSh.get] at h
  | arr t =>
    cases b with
    | box cs => simp [OSh.get] at h
    | sm es => simp [OSh.get] at h
    | arr t' l =>
      simp only [OSh.get] at h
      split at h
      · rename_i he; subst he
        split at h
        · rename_i hq
          have := Nat.eq_of_beq_eq_true hq; subst this
          exact ⟨_, _, h, fun _ hp => hp, fun rr δ L _ => .inr (.inl ⟨_, _, rfl, rfl⟩)⟩
        · simp at h
      · simp at h
  | arrs t =>
    cases b with
    | box cs => simp [OSh.get] at h
    | sm es => simp [OSh.get] at h
    | arr t' l =>
      simp only [OSh.get] at h
      split at h
      · rename_i he; subst he
        split at h
        · rename_i hq
          have := Nat.eq_of_beq_eq_true hq; subst this
          exact ⟨_, _, h, fun _ hp => hp, fun rr δ L _ => .inr (.inl ⟨_, _, rfl, rfl⟩)⟩
        · simp at h
      · simp at h
  | sm =>
    cases b with
    | sm es => exact ⟨_, _, h, fun _ hp => hp, fun rr δ L _ => .inr (.inr ⟨_, rfl, rfl⟩)⟩
    | box cs => simp [OSh.get] at h
    | arr t l => simp [OSh.get] at h
theorem OL.get_some {hs : HS} : ∀ {l : List (Name × OSh)} {σ : Ren} {K : Ren → OL l → Option R}, OL.get l hs σ K = some r →
    ∃ σ' x, K σ' x = some r ∧ (∀ p, p ∈ σ → p ∈ σ') ∧ ∀ (rr : Name → Name) (δ : Name → Nat) (L : Lens), Fit rr δ σ' → ∀ n b, look n (OL.put 0 l x) = some b → ∃ a, look (rr n) hs = some a ∧ OLe rr δ (δ n) L a b
  | [], σ, K, h => ⟨_, _, h, fun _ hp => hp, fun rr δ L _ n b hn => by change look n [] = some b at hn; simp [look] at hn⟩
  | p :: l, σ, K, h => by
    simp only [OL.get] at h
    split at h
    · rename_i m hm
      split at h
      · rename_i ob hob
        obtain ⟨σ1, x, h, hs1, g1⟩ := OSh.get_some h
        obtain ⟨σ2, y, h, hs2, g2⟩ := OL.get_some h
        refine ⟨σ2, (x, y), h, fun q hq => hs2 q (hs1 q hq), fun rr δ L hf n b hn => ?_⟩
        change look n ((p.1, p.2.put 0 x) :: OL.put 0 l y) = some b at hn
        simp only [look] at hn
        split at hn
        · rename_i e
          cases hn
          have hfm := hf p.1 m (hs2 _ (hs1 _ (look_mem hm)))
          rw [← e, hfm.1, hfm.2]
          exact ⟨ob, hob, g1 rr δ L (hf.mono hs2)⟩
        · exact g2 rr δ L hf n b hn
      · simp at h
    · simp at h
theorem STL.get_some {ts : TS} : ∀ {l : List (Nat × SSh)} {σ : Ren} {K : Ren → STL l → Option R}, STL.get l ts σ K = some r →
    ∃ σ' x, K σ' x = some r ∧ (∀ p, p ∈ σ → p ∈ σ') ∧ ∀ (rr : Name → Name) (δ : Name → Nat) (L : Lens), Fit rr δ σ' → ∀ n b, look n (STL.put 0 l x) = some b → ∃ a, look n ts = some a ∧ AVle (a.er L) ((b.er (lensOf L rr δ)).ren rr)
  | [], σ, K, h => ⟨_, _, h, fun _ hp => hp, fun rr δ L _ n b hn => by change look n [] = some b at hn; simp [look] at hn⟩
  | p :: l, σ, K, h => by
    simp only [STL.get] at h
    split at h
    · rename_i v hv
      obtain ⟨σ1, f, h, hs1, hf1, g1⟩ := SSh.get_some h
      obtain ⟨σ2, y, h, hs2, g2⟩ := STL.get_some h
      refine ⟨σ2, f _ y, h, fun q hq => hs2 q (hs1 q hq), fun rr δ L hf n b hn => ?_⟩
      change look n ((p.1, (p.2.put 0 _ (f _ y)).1) :: STL.put 0 l (p.2.put 0 _ (f _ y)).2) = some b at hn
      simp only [look, hf1] at hn
      split at hn
      · rename_i e
        cases hn
        exact ⟨v, by rw [← e]; exact hv, g1 _ y rr δ L (hf.mono hs2)⟩
      · exact g2 rr δ L hf n b hn
    · simp at h
end
open Go
mutual
def BV.ren (σ : Name → Name) (δ : Name → Nat) : BV → BV
  | .agg cs => .agg (renBL σ δ cs)
  | .tup vs => .tup (renBL σ δ vs)
  | .clo f cs => .clo f (renBL σ δ cs)
  | .ref m o => .ref (σ m) o
  | .sref m => .sref (σ m)
  | .own m u => .own (σ m) (δ m + u)
  | .aref m u i o => .aref (σ m) (δ m + u) i o
  | .view m u i o => .view (σ m) (δ m + u) i o
  | .cut m u k => .cut (σ m) (δ m + u) k
  | .mref m => .mref (σ m)
  | x => x
def renBL (σ : Name → Name) (δ : Name → Nat) : List BV → List BV
  | [] => []
  | x :: r => x.ren σ δ :: renBL σ δ r
end
mutual
def BV.use (p : Name → Nat → Bool) : BV → Bool
  | .agg cs => BV.useL p cs
  | .tup vs => BV.useL p vs
  | .clo _ cs => BV.useL p cs
  | .own m u => p m u
  | .aref m u _ _ => p m u
  | .view m u _ _ => p m u
  | .cut m u _ => p m u
  | _ => true
def BV.useL (p : Name → Nat → Bool) : List BV → Bool
  | [] => true
  | x :: r => x.use p && BV.useL p r
end
mutual
theorem ren_er {σ : Name → Name} {δ : Name → Nat} {L L' : Lens} {p : Name → Nat → Bool} (hL : ∀ n u, p n u = true → L' (σ n) (δ n + u) = L n u) : ∀ x : BV, x.use p = true → (x.er L).ren σ = (x.ren σ δ).er L'
  | .agg cs, h => by simp only [BV.use] at h; simp only [BV.er, BV.ren, AV.ren, renL_er hL cs h]
  | .tup cs, h => by simp only [BV.use] at h; simp only [BV.er, BV.ren, AV.ren, renL_er hL cs h]
  | .clo f cs, h => by simp only [BV.use] at h; simp only [BV.er, BV.ren, AV.ren, renL_er hL cs h, renL]
  | .ref _ _, _ => by simp only [BV.er, BV.ren, AV.ren]
  | .sref _, _ => by simp only [BV.er, BV.ren, AV.ren]
  | .own n u, h => by simp only [BV.use] at h; simp only [BV.er, BV.ren, AV.ren, hL n u h]
  | .aref n u _ _, h => by simp only [BV.use] at h; simp only [BV.er, BV.ren, AV.ren, hL n u h]
  | .view n u _ _, h => by simp only [BV.use] at h; simp only [BV.er, BV.ren, AV.ren, hL n u h]
  | .cut n u _, h => by simp only [BV.use] at h; simp only [BV.er, BV.ren, AV.ren, hL n u h]
  | .mref _, _ => by simp only [BV.er, BV.ren, AV.ren]
  | .tep _, _ => by simp only [BV.er, BV.ren, AV.ren]
  | .any, _ => by simp only [BV.er, BV.ren, AV.ren]
  | .ub, _ => by simp only [BV.er, BV.ren, AV.ren]
  | .err _, _ => by simp only [BV.er, BV.ren, AV.ren]
  | .n _ _, _ => by simp only [BV.er, BV.ren, AV.ren]
  | .b _, _ => by simp only [BV.er, BV.ren, AV.ren]
  | .s _, _ => by simp only [BV.er, BV.ren, AV.ren]
  | .ts _ _ _, _ => by simp only [BV.er, BV.ren, AV.ren]
  | .nil, _ => by simp only [BV.er, BV.ren, AV.ren]
  | .v _, _ => by simp only [BV.er, BV.ren, AV.ren]
theorem renL_er {σ : Name → Name} {δ : Name → Nat} {L L' : Lens} {p : Name → Nat → Bool} (hL : ∀ n u, p n u = true → L' (σ n) (δ n + u) = L n u) : ∀ l : List BV, BV.useL p l = true → renL σ (erL L l) = erL L' (renBL σ δ l)
  | [], _ => by simp only [erL, renL, renBL]
  | x :: r, h => by
    simp only [BV.useL, Bool.and_eq_true] at h
    simp only [erL, renL, renBL, ren_er hL x h.1, renL_er hL r h.2]
end
def BO.ren (σ : Name → Name) (δ : Name → Nat) (k : Nat) : BO → BO
  | .box cs => .box (renBL σ δ cs)
  | .arr t l v => .arr t l (k + v)
  | .sm es => .sm es
def BO.use (p : Name → Nat → Bool) : BO → Bool
  | .box cs => BV.useL p cs
  | .arr _ _ _ => true
  | .sm _ => true
theorem renO_er {σ : Name → Name} {δ : Name → Nat} {L L' : Lens} {p : Name → Nat → Bool} (hL : ∀ n u, p n u = true → L' (σ n) (δ n + u) = L n u) (k : Nat) (o : BO) (h : o.use p = true) : (o.er L).ren σ = (o.ren σ δ k).er L' := by
  cases o with
  | box cs => simp only [BO.er, BO.ren, AO.ren, renL_er hL cs h]
  | arr t l => simp only [BO.er, BO.ren, AO.ren]
  | sm es => simp only [BO.er, BO.ren, AO.ren]
def renHB (σ : Name → Name) (δ : Name → Nat) (hs : HS) : HS := hs.map fun p => (σ p.1, p.2.ren σ δ (δ p.1))
theorem renH_er {σ : Name → Name} {δ : Name → Nat} {L L' : Lens} {p : Name → Nat → Bool} (hL : ∀ n u, p n u = true → L' (σ n) (δ n + u) = L n u) (hs : HS) (h : hs.all (fun q => q.2.use p) = true) : renH σ (erH L hs) = erH L' (renHB σ δ hs) := by
  unfold renH erH renHB
  simp only [List.map_map]
  refine List.map_congr_left fun q hq => ?_
  simp only [Function.comp, renO_er hL (δ q.1) q.2 (List.all_eq_true.1 h q hq)]
theorem look_renHB {σ : Name → Name} {δ : Name → Nat} (hσ : ∀ a b, σ a = σ b → a = b) (n : Name) : ∀ h : HS, look (σ n) (renHB σ δ h) = (look n h).map (BO.ren σ δ (δ n))
  | [] => rfl
  | (k, o) :: r => by
    show look (σ n) ((σ k, o.ren σ δ (δ k)) :: renHB σ δ r) = (look n ((k, o) :: r)).map (BO.ren σ δ (δ n))
    simp only [look]
    by_cases e : k = n
    · simp [e]
    · rw [if_neg (fun h => e (hσ _ _ h)), if_neg e]; exact look_renHB hσ n r
theorem look_renHB_inv {σ : Name → Name} {δ : Name → Nat} {m : Name} {o : BO} : ∀ {h : HS}, look m (renHB σ δ h) = some o → ∃ n, σ n = m
  | [], h => by simp [renHB, look] at h
  | (k, x) :: r, h => by
    change look m ((σ k, x.ren σ δ (δ k)) :: renHB σ δ r) = some o at h
    simp only [look] at h
    split at h
    · exact ⟨k, by assumption⟩
    · exact look_renHB_inv h
mutual
def BV.closed (ks : List Name) : BV → Bool
  | .agg cs => BV.closedL ks cs
  | .tup vs => BV.closedL ks vs
  | .clo _ cs => BV.closedL ks cs
  | .ref m _ => ks.contains m
  | .sref m => ks.contains m
  | .own m _ => ks.contains m
  | .aref m _ _ _ => ks.contains m
  | .view m _ _ _ => ks.contains m
  | .cut m _ _ => ks.contains m
  | .mref m => ks.contains m
  | _ => true
def BV.closedL (ks : List Name) : List BV → Bool
  | [] => true
  | x :: r => x.closed ks && BV.closedL ks r
end
mutual
theorem closed_er (L : Lens) (ks : List Name) : ∀ x : BV, (x.er L).closed ks = x.closed ks
  | .agg cs => by simp only [BV.er, AV.closed, BV.closed, closedL_er L ks cs]
  | .tup cs => by simp only [BV.er, AV.closed, BV.closed, closedL_er L ks cs]
  | .clo f cs => by simp only [BV.er, AV.closed, BV.closed, closedL_er L ks cs, AV.closedL, Bool.true_and]
  | .ref _ _ => by simp only [BV.er, AV.closed, BV.closed]
  | .sref _ => by simp only [BV.er, AV.closed, BV.closed]
  | .own _ _ => by simp only [BV.er, AV.closed, BV.closed]
  | .aref _ _ _ _ => by simp only [BV.er, AV.closed, BV.closed]
  | .view _ _ _ _ => by simp only [BV.er, AV.closed, BV.closed]
  | .cut _ _ _ => by simp only [BV.er, AV.closed, BV.closed]
  | .mref _ => by simp only [BV.er, AV.closed, BV.closed]
  | .tep _ => by simp only [BV.er, AV.closed, BV.closed]
  | .any => by simp only [BV.er, AV.closed, BV.closed]
  | .ub => by simp only [BV.er, AV.closed, BV.closed]
  | .err _ => by simp only [BV.er, AV.closed, BV.closed]
  | .n _ _ => by simp only [BV.er, AV.closed, BV.closed]
  | .b _ => by simp only [BV.er, AV.closed, BV.closed]
  | .s _ => by simp only [BV.er, AV.closed, BV.closed]
  | .ts _ _ _ => by simp only [BV.er, AV.closed, BV.closed]
  | .nil => by simp only [BV.er, AV.closed, BV.closed]
  | .v _ => by simp only [BV.er, AV.closed, BV.closed]
theorem closedL_er (L : Lens) (ks : List Name) : ∀ l : List BV, AV.closedL ks (erL L l) = BV.closedL ks l
  | [] => by simp only [erL, AV.closedL, BV.closedL]
  | x :: r => by simp only [erL, AV.closedL, BV.closedL, closed_er L ks x, closedL_er L ks r]
end
def BO.closed (ks : List Name) : BO → Bool
  | .box cs => BV.closedL ks cs
  | .arr _ _ _ => true
  | .sm _ => true
theorem closedO_er (L : Lens) (ks : List Name) (o : BO) : (o.er L).closed ks = o.closed ks := by cases o <;> simp only [BO.er, AO.closed, BO.closed, closedL_er]
def callB (pre h : HS) (nw : List Name) (v : BV) : Bool :=
  (keys h).all (fun n => (keys pre).contains n || nw.contains n) && nw.all (fun n => (keys h).contains n && !(keys pre).contains n) && v.closed (keys h) && h.all (fun p => p.2.closed (keys h))
theorem callB_er {L0 L1 : Lens} {pre h : HS} {nw : List Name} {v : BV} (hb : callB pre h nw v = true) : callOK (erH L0 pre) (erH L1 h) nw (v.er L1) = true := by
  unfold callB at hb
  unfold callOK
  rw [keys_erH, keys_erH, closed_er]
  have : (erH L1 h).all (fun p => p.2.closed (keys h)) = h.all (fun p => p.2.closed (keys h)) := by
    unfold erH; rw [List.all_map]; congr 1; funext p; simp only [Function.comp, closedO_er]
  rw [this]; exact hb
structure Sig where
  args : List SSh
  pre : List (Name × OSh)
  res : List SSh
  post : List (Name × OSh)
  keep : List Name
  F : (R : Type) → SL args → OL pre → (SL res → OL post → Option R) → Option R
def resB : List BV → BV
  | [v] => v
  | vs => .tup vs
def Sig.posts (g : Sig) (y : OL g.pre) (b : OL g.post) : HS := OL.put 1 g.post b ++ (OL.put 0 g.pre y).filter (fun p => g.keep.contains p.1)
def samesOf : List (Name × OSh) → List Name
  | [] => []
  | (n, .arrs _) :: r => n :: samesOf r
  | (_, .arr _) :: r => samesOf r
  | (_, .box _) :: r => samesOf r
  | (_, .boxst _) :: r => samesOf r
  | (_, .sm) :: r => samesOf r
structure FnOK (P : Program) (k : FuncId) (g : Sig) : Prop where
  nat : ∀ (R : Type) x y (K : SL g.res → OL g.post → Option R) r, g.F R x y K = some r → ∃ a b, g.F (SL g.res × OL g.post) x y (fun a b => some (a, b)) = some (a, b) ∧ K a b = some r
  spec : ∀ x y a b, g.F (SL g.res × OL g.post) x y (fun a b => some (a, b)) = some (a, b) → ∀ L0, Inv L0 (OL.put 0 g.pre y) → ∃ L1 : Lens, (∀ n, n ∈ g.keep ∨ n ∈ samesOf g.post → L1 n 0 = L0 n 0) ∧ Inv L1 (g.posts y b) ∧
    SpecIs P k (erL L0 (SL.put 0 g.args x)) (erH L0 (OL.put 0 g.pre y)) ((resB (SL.put 1 g.res a)).er L1) (erH L1 (g.posts y b))
def renOf (m : Ren) : Name → Name := fun n => match look n m with | some a => a.1 | none => n + 10000000000
def verOf (m : Ren) : Name → Nat := fun n => match look n m with | some a => a.2 | none => 0
def lookIs (n a u : Nat) : Ren → Bool
  | [] => false
  | (k, b) :: r => if Nat.beq k n then Nat.beq b.1 a && Nat.beq b.2 u else lookIs n a u r
theorem lookIs_of {n a u : Nat} : ∀ {m : Ren}, lookIs n a u m = true → look n m = some (a, u)
  | [], h => by simp [lookIs] at h
  | (k, b) :: r, h => by
    simp only [lookIs] at h
    simp only [look]
    split at h
    · rename_i e
      simp only [Bool.and_eq_true] at h
      rw [if_pos (Nat.eq_of_beq_eq_true e), ← Nat.eq_of_beq_eq_true h.1, ← Nat.eq_of_beq_eq_true h.2]
    · rename_i e; rw [if_neg (fun e' => e (by rw [e']; exact Nat.beq_refl _))]; exact lookIs_of h
def renOK (m : Ren) : Bool := m.all fun p => lookIs p.1 p.2.1 p.2.2 m && Nat.blt p.2.1 10000000000 && m.all fun q => Nat.beq p.1 q.1 || !Nat.beq p.2.1 q.2.1
theorem renOK_fit {m : Ren} (h : renOK m = true) : Fit (renOf m) (verOf m) m := fun nm a hm => by
  have := List.all_eq_true.1 h _ hm
  simp only [Bool.and_eq_true] at this
  unfold renOf verOf; rw [lookIs_of this.1.1]; exact ⟨rfl, rfl⟩
theorem renOK_inj {m : Ren} (h : renOK m = true) : ∀ a b, renOf m a = renOf m b → a = b := fun a b e => by
  unfold renOf at e
  have hb : ∀ {n x}, look n m = some x → x.1 < 10000000000 := fun {n x} hx => by
    have := List.all_eq_true.1 h _ (look_mem hx)
    simp only [Bool.and_eq_true, Nat.blt_eq] at this
    exact this.1.2
  cases ha : look a m with
  | none =>
    cases hb' : look b m with
    | none => rw [ha, hb'] at e; exact Nat.add_right_cancel e
    | some y => rw [ha, hb'] at e; have h1 : (y.1 : Nat) < 10000000000 := hb hb'; have h2 : (a : Nat) + 10000000000 = (y.1 : Nat) := e; exact absurd h1 (by rw [← h2]; exact Nat.not_lt.2 (Nat.le_add_left _ _))
  | some x =>
    cases hb' : look b m with
    | none => rw [ha, hb'] at e; have h1 : (x.1 : Nat) < 10000000000 := hb ha; have h2 : (x.1 : Nat) = (b : Nat) + 10000000000 := e; exact absurd h1 (by rw [h2]; exact Nat.not_lt.2 (Nat.le_add_left _ _))
    | some y =>
      rw [ha, hb'] at e
      simp only at e
      have := List.all_eq_true.1 h _ (look_mem ha)
      simp only [Bool.and_eq_true] at this
      have := List.all_eq_true.1 this.2 _ (look_mem hb')
      simp only [e, Nat.beq_refl, Bool.not_true, Bool.or_false] at this
      exact Nat.eq_of_beq_eq_true this
def freshOf (d : Nat) (g : Sig) : Ren := ((keys g.post).filter fun n => !(keys g.pre).contains n).map fun n => (n, (1000000 + 1000 * d + n, 0))
def arrsOf : List (Name × OSh) → List Name
  | [] => []
  | (n, .arr _) :: r => n :: arrsOf r
  | (_, .box _) :: r => arrsOf r
  | (_, .arrs _) :: r => arrsOf r
  | (_, .boxst _) :: r => arrsOf r
  | (_, .sm) :: r => arrsOf r
def hpOf (rr : Name → Name) (hs : HS) : List Name → HS
  | [] => []
  | n :: r => match look (rr n) hs with
    | some ob => (rr n, ob) :: hpOf rr hs r
    | none => hpOf rr hs r
def callEff (g : Sig) (m : Ren) (d : Nat) (hs : HS) (y : OL g.pre) (a : SL g.res) (b : OL g.post) : BEff :=
  ⟨hpOf (renOf m) hs (keys g.pre), (resB (SL.put 1 g.res a)).ren (renOf m) (verOf m), renHB (renOf m) (verOf m) (g.posts y b), (freshOf d g).map (·.2.1),
    ((arrsOf g.post).filter fun n => (keys g.pre).contains n).map fun n => (renOf m n, verOf m n + 1)⟩
def useOK (g : Sig) (n u : Nat) : Bool := match u with
  | 0 => isIn n g.keep || isIn n (samesOf g.post)
  | 1 => isIn n (arrsOf g.post)
  | _ => false
def callChk (g : Sig) (m : Ren) (d : Nat) (hs : HS) (y : OL g.pre) (a : SL g.res) (b : OL g.post) : Bool :=
  renOK m && callB (callEff g m d hs y a b).hp (callEff g m d hs y a b).upd (callEff g m d hs y a b).nw (callEff g m d hs y a b).v &&
  (resB (SL.put 1 g.res a)).use (useOK g) && (g.posts y b).all (fun q => q.2.use (useOK g)) &&
  g.keep.all (fun n => (keys g.pre).contains n && !(keys g.post).contains n)
end Go.Proofs.YtkfmncmhagpajaaGreatDoor.AM
