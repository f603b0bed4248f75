/-
  The abstract machine, part N: a literal that is an array of ours; nothing as an array of ours. No project text.
-/
import Derived.Test.YtbcginibldjnaaaGreatAmM
set_option linter.unusedSimpArgs false
set_option linter.unusedVariables false
namespace Go.Proofs.YtbcginibldjnaaaGreat.AM
open Go

section
variable {P : Program} {o : Oper} {rd : List (Nat × AV)}
/-- A slice literal, kept as an array of ours. -/
theorem OpOK.buildOwn {T e : TypeId} {len es r : Nat} {parts : Array (Nat × Operand)} {zr : List PV} {rows : List (List PV)} {n : Name} (ho : o.op = .buildSlice T len parts) (hT : elemT P T = some e) (hz : sizeT P e = some es) (hes : Nat.ble 1 es = true)
    (hzr : zeroRow P e = some zr) (hzl : zr.length = es) (hsz : Nat.ble (len * es) 16777216 = true) (hrows : putRows rd es parts.toList (List.replicate len zr) = some rows) (hr : rows.length = r) :
    OpOK P o ⟨rd, [], .own n r, [(n, .arr es rows)], [n]⟩ :=
  OpOK.put fun Γ ρ M s a w hs hh => by
    subst hr
    obtain ⟨hn, hfree⟩ := hh.nw n (by simp)
    unfold zeroRow at hzr
    split at hzr
    · rename_i cs hcs
      obtain ⟨i, z, hi, hz', hall, rfl⟩ := zeroAV_spec hcs
      have hzR : AV.Rs ρ s.heap M w (pcells zr) z.cells.toList := by
        rw [← pureL_spec hzr]; exact constCells_R hall
      have hzlen : z.cells.toList.length = es := by have := hzR.length; rw [this]; simp [pcells, hzl]
      have hes' := Nat.le_of_ble_eq_true hes
      have h0 := zero_rows z.cells.toList len es hzlen hes'
      obtain ⟨cr, cells, g1, g2, g3, g4, g5⟩ := fill_rows hs hh parts.toList (List.replicate len zr) rows (List.replicate len z.cells.toList) ((Array.range (len * es)).map (fun i => z.cells[i % z.cells.size]!))
        (RR.replicate hzR len) (fun r hr => by rw [List.eq_of_mem_replicate hr]; exact hzl) (by simpa using h0) hrows
      have hlen : rows.length = len := by simpa using g5
      have hrun : (execOp a.eval o).run P w = .ok (.value (.slice (some ⟨w.heap.size, 0, none⟩) len len)) (w.alloc (.cells cells e)) := by
        have h2 : ¬ (len * es > 16777216) := by have := Nat.le_of_ble_eq_true hsz; omega
        have hparts : ((parts.map fun (i, x) => (i, a.eval x)) : Array (Nat × Value)).toList = parts.toList.map fun p => (p.1, a.eval p.2) := by simp
        simp only [execOp, ho, Instr.buildSlice, Sem.run_bind, run_underlying (elemT_spec hT), Result.andThen_ok, run_sizeOf hz, h2, if_false]
        simp only [hparts]
        by_cases h5 : len * es = 0
        · have g1' := g1
          rw [h5] at g1'
          simp only [Array.range_zero', Array.map_empty] at g1'
          simp [h5, g1', newRow, Array.range_zero']
        · simp only [h5, if_false, Sem.run_bind, run_zeroValue hi hz', Result.andThen_ok, Sem.run_pure, g1]
          simp [h2, newRow, g1, run_zeroValue hi hz']
      have he := Ext.alloc w (.cells cells e)
      refine ⟨_, _, (fun m => if m = n then ⟨some ⟨w.heap.size, 0, none⟩, len⟩ else ρ m), (fun b => M b ∨ b = w.heap.size), hrun, hs.update1 (he.weaken fun _ _ hb => hb.elim) (fun b hb => .inl hb) (fun b hb => hb.imp id (fun e => by omega)) (fun b hb => ?_) (fun o' ho' => by rw [hn] at ho'; simp at ho') (fun _ => hfree) ?_ (fun b hb => .inr ?_), ?_⟩
      · rcases hb with hb | hb
        · have := hs.msize b hb; simp; omega
        · simp [hb]
      · refine ⟨hes', by simp [hlen], .inr ⟨w.heap.size, e, cells, by simp, .inr rfl, heap_alloc_new w _, ?_, ?_⟩⟩
        · simp only [if_true]
          have : cells.size = cells.toList.length := by simp
          rw [this, g4, flat_len (g2.len g3), g2.length, hlen]
        · have g2' := g2.step (ρ' := ρ) (H' := s.heap) (M' := fun b => M b ∨ b = w.heap.size) (B := fun _ => False) he (fun _ hb => hb.elim) (fun b hb hb' => hb'.resolve_right (by omega))
          refine Rows_of_RR g2' g3 fun j u hj => ?_
          rw [← g4] at hj
          simp only [World.cell?, heap_alloc_new]
          simpa using hj
      · simp [Loc.blk] at hb; omega
      · simp only [AV.R]
        refine ⟨rfl, fun o' es' k' hc hs' => ?_⟩
        simp only [if_true] at hc
        cases hc
        cases hs'
        exact ⟨Nat.le_refl _, fun _ => by simp [hlen]⟩
    · simp at hzr
end

/-- Nothing, in a slot: an array of ours without elements. -/
theorem Weak.thaw {Γ : Ctx} {ts ts' : List (Nat × AV)} {hs : List (Name × AO)} {t es0 es : Nat} {n : Name} (hes : Nat.ble 1 es = true) (h1 : look t ts = some (.p (.sl true es0 []))) (h2 : (look n hs).isNone = true) (h3 : freeIn n ts hs = true)
    (h4 : ts'.map (fun p => look p.1 ((t, .own n 0) :: ts)) = ts'.map (fun p => some p.2)) : Weak Γ (mk ts hs) (mk ts' ((n, .arr es []) :: hs)) := fun ρ M a w hsim => by
  have hn : (mk ts hs).heap n = none := Option.isNone_iff_eq_none.1 h2
  have hf := free_of h3
  obtain ⟨u, hu, hr⟩ := hsim.slots t _ h1
  simp only [AV.R, PV.R] at hr
  obtain ⟨ad, cap, hu', _, hcap, _, _⟩ := hr
  have hc := hcap trivial
  simp only [List.length_nil] at hc hu'
  subst hc
  have hs1 := hsim.update1 (n := n) (l := ⟨ad, 0⟩) (o := .arr es []) (M' := M) (w' := w) (Ext.refl _ _) (fun _ hb => hb) (fun _ hb => .inl hb) hsim.msize (fun o' ho' => by rw [hn] at ho'; simp at ho') (fun _ => hf)
    ⟨Nat.le_of_ble_eq_true hes, by simp, .inl (by simp)⟩ (fun b hb => by simp [Loc.blk] at hb)
  have hHeap : (mk ts' ((n, .arr es []) :: hs)).heap = fun m => if m = n then some (.arr es []) else (mk ts hs).heap m := by
    funext m; simp only [mk, look]; by_cases e : n = m
    · subst e; simp
    · simp [e, Ne.symm e]
  have hs2 : Sim Γ (fun m => if m = n then ⟨ad, 0⟩ else ρ m) M ⟨(mk ts hs).slot, (mk ts' ((n, .arr es []) :: hs)).heap⟩ a w := by rw [hHeap]; exact hs1
  refine ⟨(fun m => if m = n then ⟨ad, 0⟩ else ρ m), M, hs2.n, hs2.d, fun k x hk => ?_, hs2.objs, hs2.inj, hs2.own0, hs2.keep, hs2.ext, hs2.mext, hs2.msize, hs2.m0, hs2.ground⟩
  have := map_eq_all h4 _ (look_mem hk)
  simp only [look] at this
  split at this
  · rename_i e
    cases this
    subst e
    refine ⟨u, hu, ?_⟩
    rw [hHeap]
    simp only [AV.R]
    refine ⟨by rw [hu']; rfl, fun o' es' k' hc hs' => ?_⟩
    simp only [if_true] at hc
    cases hc
    cases hs'
    exact ⟨Nat.le_refl _, fun _ => by simp [hu']⟩
  · exact hs2.slots k x this

theorem Rs_set {ρ : Name → Loc} {H : Heap} {M : Nat → Prop} {w : World} : ∀ {xs : List AV} {us : List Value} (j : Nat) (y : AV), AV.Rs ρ H M w xs us → (∀ u, us[j]? = some u → y.R ρ H M w u) → AV.Rs ρ H M w (xs.set j y) us
  | [], us, j, y, h, _ => by simpa using h
  | x :: xs, us, j, y, h, hy => by
    simp only [AV.Rs] at h
    obtain ⟨u, us', rfl, h2, h3, h4⟩ := h
    cases j with
    | zero => simp only [List.set_cons_zero, AV.Rs]; exact ⟨u, us', rfl, h2, hy u (by simp), h4⟩
    | succ j => simp only [List.set_cons_succ, AV.Rs]; exact ⟨u, us', rfl, h2, h3, Rs_set j y h4 (fun v hv => hy v (by simpa using hv))⟩

/-- Nothing, in a cell of a box: an array of ours without elements. -/
theorem Weak.thawCell {Γ : Ctx} {ts : List (Nat × AV)} {hs hs' : List (Name × AO)} {m j es0 es : Nat} {n : Name} {cells cells' : List AV} (hes : Nat.ble 1 es = true) (h0 : hs = (m, .box cells) :: hs') (h1 : cells[j]? = some (.p (.sl true es0 []))) (h2 : (look n hs).isNone = true) (h3 : freeIn n ts hs = true)
    (h4 : cells.set j (.own n 0) = cells') : Weak Γ (mk ts hs) (mk ts ((m, .box cells') :: (n, .arr es []) :: hs')) := fun ρ M a w hsim => by
  subst h4
  have hn : (mk ts hs).heap n = none := Option.isNone_iff_eq_none.1 h2
  have hf := free_of h3
  have hm : (mk ts hs).heap m = some (.box cells) := by subst h0; simp [mk, look]
  have hmn : m ≠ n := fun e => by subst e; rw [hn] at hm; simp at hm
  obtain ⟨b, T, cs, k1, k2, k3, k4⟩ := hsim.objs m _ hm
  obtain ⟨u, hu, _, hr⟩ := k4.get j _ h1
  simp only [AV.R, PV.R] at hr
  obtain ⟨ad, cap, hu', _, hcap, _, _⟩ := hr
  have hc := hcap trivial
  simp only [List.length_nil] at hc hu'
  subst hc
  have hs1 := hsim.update1 (n := n) (l := ⟨ad, 0⟩) (o := .arr es []) (M' := M) (w' := w) (Ext.refl _ _) (fun _ hb => hb) (fun _ hb => .inl hb) hsim.msize (fun o' ho' => by rw [hn] at ho'; simp at ho') (fun _ => hf)
    ⟨Nat.le_of_ble_eq_true hes, by simp, .inl (by simp)⟩ (fun b hb => by simp [Loc.blk] at hb)
  have hm1 : (if m = n then some (AO.arr es []) else (mk ts hs).heap m) = some (.box cells) := by rw [if_neg hmn]; exact hm
  obtain ⟨b1, T1, cs1, q1, q2, q3, q4⟩ := hs1.objs m _ hm1
  have hbe : b1 = b := by
    have := q1; simp only [if_neg hmn] at this; rw [k1] at this; simpa using this.symm
  subst hbe
  rw [k3] at q3; cases q3
  have hs2 := hs1.update1 (n := m) (l := ρ m) (o := .box (cells.set j (.own n 0))) (M' := M) (w' := w) (Ext.refl _ _) (fun _ hb => hb) (fun _ hb => .inl hb) hsim.msize (fun o' ho' => by
      simp only [hm1] at ho'; cases ho'; simp [stays, hmn]) (fun h => by simp only [hm1] at h; simp at h)
    (by
      refine ⟨b1, T, cs, by simp [k1], k2, k3, ?_⟩
      have hst : HStep (fun k => if k = n then ⟨ad, 0⟩ else ρ k) (fun k => if k = n then some (AO.arr es []) else (mk ts hs).heap k)
          (fun k => if k = m then ρ m else if k = n then ⟨ad, 0⟩ else ρ k) (fun k => if k = m then some (AO.box (cells.set j (.own n 0))) else if k = n then some (AO.arr es []) else (mk ts hs).heap k) := fun k ob hk => by
        by_cases e : k = m
        · subst e; simp only [hm1] at hk; cases hk; simp [stays, hmn]
        · simp only [e, if_false, hk]; exact stays_refl _ _
      refine Rs_set j _ (q4.step (Ext.refl (fun _ => False) _) (fun _ hb => hb.elim) (fun b _ hb => hb) hst (fun k _ hk => ?_)) (fun v hv => ?_)
      · by_cases e : k = m
        · subst e; simp only [hm1] at hk; simp at hk
        · simp only [e, if_false]; exact hk
      · rw [hu] at hv; cases hv
        simp only [AV.R]
        refine ⟨by rw [hu']; rfl, fun o' es' k' hc hs' => ?_⟩
        simp only [if_neg (Ne.symm hmn), if_true] at hc
        cases hc
        cases hs'
        exact ⟨Nat.le_refl _, fun _ => by simp [Ne.symm hmn, hu']⟩)
    (fun b hb => .inl ⟨_, hm1, by simpa [hmn] using hb⟩)
  refine ⟨(fun k => if k = m then ρ m else if k = n then ⟨ad, 0⟩ else ρ k), M, hs2.congr (fun t => rfl) (fun k => ?_)⟩
  subst h0
  simp only [mk, look]
  by_cases e : m = k
  · subst e; simp
  · by_cases e' : n = k
    · subst e'; simp [e, Ne.symm e]
    · simp [e, e', Ne.symm e, Ne.symm e']

theorem Ts_le {ρ : Name → Loc} {H : Heap} {M : Nat → Prop} {w : World} : ∀ (xs : List AV) {ys : List AV} {us : List Value}, AVleL xs ys → AV.Ts ρ H M w xs us → AV.Ts ρ H M w ys us
  | [], ys, us, h, h' => by cases h; exact h'
  | x :: xs, ys, us, h, h' => by
    cases h with
    | cons h1 h2 =>
      simp only [AV.Ts] at h' ⊢
      obtain ⟨u, us', g1, g2, g3⟩ := h'
      exact ⟨u, us', g1, h1.sound _ g2, Ts_le xs h2 g3⟩
/-- A contract for arguments of which less is known. -/
theorem Spec.argsLe {P : Program} {f : FuncId} {args args' : List AV} {pre : List (Name × AO)} {post : AV → List (Name × AO) → Prop} (h : Spec P f args' pre post) (hle : AVleL args args') : Spec P f args pre post :=
  fun G ρ M w us hG h1 h2 h3 h4 => h G ρ M w us hG h1 (Ts_le args hle h2) h3 h4

section
variable {P : Program} {o : Oper} {rd : List (Nat × AV)}
/-- Where a field lies, how many cells it has; is it flat? -/
def fieldFlat (P : Program) (T : TypeId) (i : Nat) : Option Nat := match P.underlying T with
  | some (.struct fs) => match fs[i]? with
    | some f => if flatT P f.type then some f.offset else none
    | none => none
  | _ => none
def fieldAggI (P : Program) (T : TypeId) (i : Nat) : Option (Nat × Nat) := match P.underlying T with
  | some (.struct fs) => match fs[i]? with
    | some f => if aggT P f.type then (match sizeT P f.type with | some z => some (f.offset, z) | none => none) else none
    | none => none
  | _ => none
theorem OpOK.fieldF {T : TypeId} {x : Operand} {i off : Nat} {cells : List AV} {c : AV} (ho : o.op = .field T x i) (hx : evalO rd x = some (.agg cells)) (hf : fieldFlat P T i = some off) (hc : cells[off]? = some c) : OpOK P o ⟨rd, [], c, [], []⟩ := by
  unfold fieldFlat at hf
  split at hf
  · rename_i fs hu
    split at hf
    · rename_i f hff
      split at hf
      · rename_i ht; cases hf; exact OpOK.field ho hx hu hff ht hc
      · simp at hf
    · simp at hf
  · simp at hf
theorem OpOK.fieldA {T : TypeId} {x : Operand} {i off z : Nat} {cells sub : List AV} (ho : o.op = .field T x i) (hx : evalO rd x = some (.agg cells)) (hf : fieldAggI P T i = some (off, z)) (hsub : (cells.drop off).take z = sub) : OpOK P o ⟨rd, [], .agg sub, [], []⟩ := by
  unfold fieldAggI at hf
  split at hf
  · rename_i fs hu
    split at hf
    · rename_i f hff
      split at hf
      · rename_i ht
        split at hf
        · rename_i z' hz; cases hf; exact OpOK.fieldAgg (T' := 0) (off := 0) ho hx hu hff ht hz hsub
        · simp at hf
      · simp at hf
    · simp at hf
  · simp at hf
end
section
variable {P : Program} {o : Oper} {rd : List (Nat × AV)}
def intT (P : Program) (T : TypeId) : Option IntKind := match P.underlying T with | some (.int k) => some k | _ => none
theorem OpOK.convI {S T : TypeId} {x : Operand} {k k' : IntKind} {a r : Int} (ho : o.op = .convert S T x) (hS : (P.underlying S).isSome = true) (hT : intT P T = some k') (hx : evalO rd x = some (.p (.v (.int k a)))) (hr : k'.wrap a = r) : OpOK P o ⟨rd, [], .p (.v (.int k' r)), [], []⟩ :=
  OpOK.quiet fun Γ ρ M s a' w hs hh => by
    obtain ⟨d, hd⟩ := Option.isSome_iff_exists.1 hS
    have ht : P.underlying T = some (.int k') := by
      unfold intT at hT
      split at hT
      · rename_i h; cases hT; exact h
      · simp at hT
    refine ⟨.int k' r, ?_, by simp only [AV.R, PV.R]; exact ⟨trivial, rfl⟩⟩
    simp only [execOp, ho, eval_v hs hh hx, convert, Sem.run_bind, run_underlying hd, run_underlying ht, Result.andThen_ok, Conv.intToInt, Sem.run_pure, hr]
end
theorem map_nth_eq {α : Type} [Inhabited α] {l : List α} {f : α → List PV} {i : Nat} {x : α} (hx : nth l i = x) (h : i < l.length) : (l.map f)[i]? = some (f x) := by
  rw [← hx]; exact map_nth h

end Go.Proofs.YtbcginibldjnaaaGreat.AM
