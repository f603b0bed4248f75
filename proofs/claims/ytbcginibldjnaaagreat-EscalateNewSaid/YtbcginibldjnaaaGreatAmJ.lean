/-
  The abstract machine, part J: append that makes an array of ours, stores into arrays, calls, what is frozen. No project text.
-/
import Derived.Test.YtbcginibldjnaaaGreatAmI
set_option linter.unusedSimpArgs false
set_option linter.unusedVariables false
namespace Go.Proofs.YtbcginibldjnaaaGreat.AM
open Go

section
variable {P : Program} {o : Oper} {rd : List (Nat × AV)}

/-- append to nothing, or to a slice without spare room: a new array of ours. -/
theorem OpOK.appendNew {T e : TypeId} {x y : Operand} {ats : Array TypeId} {n : Name} {es es0 bytes r : Nat} {f : Bool} {rows rows' rows2 : List (List PV)}
    (ho : o.op = .call { callee := .builtin .append, args := #[x, y], argTypes := ats }) (hat : ats = #[T, T]) (hT : elemT P T = some e) (hok : elemOK P e es bytes = true) (hes : Nat.ble 1 es = true)
    (hx : evalO rd x = some (.p (.sl true es0 rows))) (hy : evalO rd y = some (.p (.sl f es rows'))) (h2 : rows ++ rows' = rows2) (hr : rows2.length = r) (hnn : rows = [] ∨ (rows' ≠ [] ∧ es0 = es))
    (hfit : (rows.length + rows'.length) * bytes ≤ 140737488355328) (hfit2 : rows.length + rows'.length ≤ 140737488355328) :
    OpOK P o ⟨rd, [], .own n r, [(n, .arr es rows2)], [n]⟩ :=
  OpOK.put fun Γ ρ M s a w hs hh => by
    subst h2; subst hr; subst hat
    obtain ⟨i, z, hi, hz, hsz, hby, hzs⟩ := elemOK_spec hok
    obtain ⟨hn, hfree⟩ := hh.nw n (by simp)
    have hes' := Nat.le_of_ble_eq_true hes
    have hrx := evalO_R hs hh hx
    simp only [AV.R] at hrx
    have hrx' := hrx
    simp only [PV.R] at hrx'
    obtain ⟨ax, cx, hux, _, hfull, hnone, hsome⟩ := hrx'
    have hcx := hfull trivial
    subst hcx
    have hry := evalO_R hs hh hy
    simp only [AV.R] at hry
    obtain ⟨cr', k1, k2, hsrc⟩ := src_of (P := P) (ρ := ρ) (H := s.heap) hT hry
    rw [← hsz] at hsrc
    have hexec : ∀ (u : Value) (w' : World), (Builtin.append_ #[T, T] o.type #[.slice ax rows.length rows.length, a.eval y]).run P w = .ok u w' → (execOp a.eval o).run P w = .ok (.value u) w' := by
      intro u w' hrun
      simp [execOp, ho, resolve, invoke, builtin, hux, hrun]
    by_cases hnil : rows' = []
    · have hrows : rows = [] := hnn.resolve_right (fun h => h.1 hnil)
      subst hnil; subst hrows
      simp only [RR] at k1
      subst k1
      have hrun := run_append_nothing w T T o.type e i (elemT_spec hT) hi ax 0 0 (Nat.le_refl _) (a.eval y) (by simpa using hsrc)
      refine ⟨_, w, (fun m => if m = n then ⟨ax, 0⟩ else ρ m), M, hexec _ _ hrun, hs.update1 (Ext.refl _ _) (fun _ hb => hb) (fun _ hb => .inl hb) hs.msize (fun o' ho' => by rw [hn] at ho'; simp at ho') (fun _ => hfree) ?_ (fun b hb => by simp [Loc.blk] at hb), ?_⟩
      · exact ⟨hes', by simp, .inl (by simp)⟩
      · simp only [AV.R]
        refine ⟨rfl, fun o' es' k' hc hs' => ?_⟩
        simp only [if_true] at hc
        cases hc
        cases hs'
        exact ⟨Nat.le_refl _, fun _ => by simp⟩
    · have hpos : 0 < rows'.length := List.length_pos_iff.2 hnil
      have hg : rows.length < rows.length + rows'.length := by omega
      have hold : ∃ cr0, RR ρ s.heap M w rows cr0 ∧ (∀ r ∈ rows, r.length = es) ∧ (Builtin.firstCells i.size rows.length (.slice ax rows.length rows.length)).run P w.drew = .ok cr0.flatten.toArray w.drew := by
        by_cases hl : rows = []
        · subst hl
          refine ⟨[], by simp [RR], by simp, ?_⟩
          cases ax with
          | none => simpa using run_firstCells_none (P := P) w.drew i.size 0 0 0
          | some ad => simpa using run_firstCells_some (P := P) w.drew i.size 0 ad 0 0 [] (by simp) (by simp)
        · have he0 := (hnn.resolve_left hl).2
          subst he0
          cases ax with
          | none => exact absurd (List.eq_nil_of_length_eq_zero (hnone rfl)) hl
          | some ad =>
            obtain ⟨q1, q2, q3, q4⟩ := hsome ad rfl (fun h0 => hl (List.eq_nil_of_length_eq_zero h0))
            obtain ⟨b, off, spot⟩ := ad
            simp only at q1; subst q1
            obtain ⟨cr0, m1, m2, m3⟩ := RR.of_Rows (ρ := ρ) (H := s.heap) q4
            exact ⟨cr0, m1, m2, run_firstCells_some (P := P) w.drew i.size rows.length _ rows.length rows.length cr0.flatten (by rw [hsz, flat_len (m1.len m2), m1.length]) (fun j u hj => by
              rw [addr_add, World.cell?_drew]; exact m3 j u hj)⟩
      obtain ⟨cr0, m1, m2, hold⟩ := hold
      have hrun := run_append_grow_src (P := P) w T T o.type e i z (elemT_spec hT) hi hz ax rows.length rows.length cr0.flatten hold (a.eval y) rows'.length cr'.flatten hsrc hg
        (by omega) (growslice_fits hg (by rw [hby]; exact hfit))
      have hge := grownCap_ge w (rows.length + rows'.length) rows.length e
      have happ : (cr0.flatten ++ cr'.flatten) = (cr0 ++ cr').flatten := by simp
      rw [happ] at hrun
      obtain ⟨M', hsim⟩ := hs.grown (n := n) (es := es) (cap := grownCap w (rows.length + rows'.length) rows.length e) (rows := rows ++ rows') (cr := cr0 ++ cr') (rest := Builtin.zeroCells z.cells (grownCap w (rows.length + rows'.length) rows.length e - (rows.length + rows'.length))) (e := e)
        hes' (m1.append k1) (fun r hr => by rcases List.mem_append.1 hr with hr | hr; exact m2 r hr; exact k2 r hr) (by simpa using hge) (by rw [size_zeroCells', hzs]; simp) (by simp; omega)
        (fun o' ho' => by rw [hn] at ho'; simp at ho') (fun _ => hfree)
      refine ⟨_, _, _, M', hexec _ _ hrun, hsim, ?_⟩
      simp only [AV.R]
      refine ⟨rfl, fun o' es' k' hc hs' => ?_⟩
      simp only [if_true] at hc
      cases hc
      cases hs'
      exact ⟨Nat.le_refl _, fun _ => by simp⟩

/-- A store into a row of an array of ours. -/
theorem OpOK.storeElem {T : TypeId} {x y : Operand} {n : Name} {len i k es : Nat} {rows : List (List PV)} {row row' : List PV} {vs : List AV} {ps : List PV} {v : AV} (hdst : o.dst = none) (ho : o.op = .store T x y) (hx : evalO rd x = some (.aref n len i k)) (hy : evalO rd y = some v) (hv : cellsAV v = some vs)
    (hp : pureL vs = some ps) (hlen : Nat.beq len rows.length = true) (hi : rows[i]? = some row) (hz : sizeT P T = some vs.length) (hl : Nat.ble (k + vs.length) row.length = true) (hc : setAt row k ps = row') {rows' : List (List PV)} (hr' : rows.set i row' = rows') :
    OpOK P o ⟨rd, [(n, .arr es rows)], .any, [(n, .arr es rows')], []⟩ :=
  OpOK.wr hdst fun Γ ρ M s a w hs hh => by
    subst hr'; subst hc
    have hr := evalO_R hs hh hx
    simp only [AV.R] at hr
    have hn := hh.hp n _ (by simp : (n, AO.arr es rows) ∈ _)
    have hle := Nat.eq_of_beq_eq_true hlen
    obtain ⟨b, hb, hu⟩ := (hr.2 _ es rows.length hn rfl).2 hle
    obtain ⟨hes, hcap, hobj⟩ := hs.objs n _ hn
    have hil : i < rows.length := by
      rcases Nat.lt_or_ge i rows.length with h' | h'
      · exact h'
      · rw [List.getElem?_eq_none h'] at hi; simp at hi
    rcases hobj with hobj | ⟨b', t, cs, h3, h4, h5, h6, h7⟩
    · omega
    · have e : b' = b := by rw [hb] at h3; simpa using h3.symm
      subst e
      have hvs := cellsAV_R hv (evalO_R hs hh hy)
      rw [pureL_spec hp] at hvs hz hl
      have hlen2 := hvs.length
      simp only [Array.length_toList] at hlen2
      have hpl : (pcells ps).length = ps.length := by simp [pcells]
      rw [hpl] at hlen2 hz hl
      have hl' := Nat.le_of_ble_eq_true hl
      obtain ⟨cr, m1, m2, m3⟩ := RR.of_Rows (ρ := ρ) (H := s.heap) h7
      have hrl := m2 row (List.mem_of_getElem? hi)
      have hbound : i * es + es ≤ cs.size := by
        rw [h6, ← Nat.succ_mul]; exact Nat.mul_le_mul_right es (by omega)
      have hrun := run_storeVar (P := P) (T := T) (b := b') (k := i * es + k) (u := a.eval y) (w := w) (by rw [hz, hlen2]) h5 (by omega) (Rs_one hvs)
      refine ⟨w.setRow b' (setAt cs.toList (i * es + k) (a.eval y).cells.toList).toArray, (fun m => if m = n then ρ n else ρ m), M, ?_, ?_⟩
      · simp [execOp, ho, hu, Instr.storeAt, Instr.sureAddr, hrun]
      · have hblk : (ρ n).blk = some b' := by
          have : (ρ n).cap ≠ 0 := by omega
          simp [Loc.blk, this, h3]
        have he : Ext (fun b => b = b') w (w.setRow b' (setAt cs.toList (i * es + k) (a.eval y).cells.toList).toArray) := ⟨by simp [World.setRow], fun b hb hne => setRow_other w b' b _ hne, rfl, rfl⟩
        have hM : M b' := h4
        refine hs.update1 (he.weaken fun b _ hb => ⟨by rw [hblk, hb], by rw [hn]; simp⟩) (fun _ hb => hb) (fun _ hb => .inl hb) (fun b hb => Nat.lt_of_lt_of_le (hs.msize b hb) he.size)
          (fun o' ho' => by rw [hn] at ho'; cases ho'; simp [stays]) (fun h0 => by rw [hn] at h0; simp at h0) ?_ (fun b hb => .inl ⟨_, hn, hb⟩)
        refine ⟨hes, by simpa using hcap, .inr ⟨b', t, _, by simp [h3], hM, setRow_heap w b' cs _ t (0, 0) h5, ?_, ?_⟩⟩
        · simp only [if_true, List.size_toArray, setAt, List.length_append, List.length_take, List.length_drop, Array.length_toList, ← h6, hlen2]
          omega
        · have stv : ∀ {xs : List PV} {us : List Value}, AV.Rs ρ s.heap M w (pcells xs) us → PV.Rows M (w.setRow b' (setAt cs.toList (i * es + k) (a.eval y).cells.toList).toArray) b' es 0 [] := fun _ => by simp [PV.Rows]
          have hmono : ∀ {x : PV} {u : Value}, x.R M w u → x.R M (w.setRow b' (setAt cs.toList (i * es + k) (a.eval y).cells.toList).toArray) u := fun h => h.mono he (fun b hb => by rw [hb]; exact hM) (fun b _ hb => hb)
          have hcell : ∀ j, (w.setRow b' (setAt cs.toList (i * es + k) (a.eval y).cells.toList).toArray).cell? ⟨b', j, none⟩ = (setAt cs.toList (i * es + k) (a.eval y).cells.toList)[j]? := fun j => by
            rw [cell_setRow_same w b' j cs _ t (0, 0) h5, List.getElem?_toArray]
          have hold : ∀ j, w.cell? ⟨b', j, none⟩ = cs.toList[j]? := fun j => by simp [World.cell?, h5]
          have hset : ∀ j, (setAt cs.toList (i * es + k) (a.eval y).cells.toList)[j]? = if i * es + k ≤ j ∧ j < i * es + k + ps.length then (a.eval y).cells.toList[j - (i * es + k)]? else cs.toList[j]? := fun j => by
            have htl : (List.take (i * es + k) cs.toList).length = i * es + k := by simp; omega
            unfold setAt
            by_cases c1 : j < i * es + k
            · rw [if_neg (by omega), List.append_assoc, List.getElem?_append_left (by omega), List.getElem?_take_of_lt c1]
            · by_cases c2 : j < i * es + k + ps.length
              · rw [if_pos ⟨by omega, c2⟩, List.append_assoc, List.getElem?_append_right (by omega), List.getElem?_append_left (by simp; omega), htl]
              · rw [if_neg (by omega), List.getElem?_append_right (by simp; omega), List.getElem?_drop]
                congr 1
                simp; omega
          refine PV.Rows.of_get fun i' r' hi' => ?_
          rw [List.getElem?_set] at hi'
          by_cases e : i = i'
          · subst e
            simp only [if_true, hil] at hi'
            cases hi'
            have hsl : (setAt row k ps).length = es := by simp [setAt, hrl]; omega
            refine ⟨hsl, PV.Cells.of_get fun j c hj => ?_⟩
            have hj' : j < es := by
              rcases Nat.lt_or_ge j (setAt row k ps).length with h' | h'
              · omega
              · rw [List.getElem?_eq_none h'] at hj; simp at hj
            rw [hcell, hset]
            obtain ⟨_, g2⟩ := h7.get i row hi
            unfold setAt at hj
            have htl : (List.take k row).length = k := by simp; omega
            by_cases c1 : j < k
            · rw [if_neg (by omega)]
              rw [List.append_assoc, List.getElem?_append_left (by omega), List.getElem?_take_of_lt c1] at hj
              obtain ⟨u, hu', hr'⟩ := g2.get j c hj
              rw [hold] at hu'
              exact ⟨u, hu', hmono hr'⟩
            · by_cases c2 : j < k + ps.length
              · rw [if_pos ⟨by omega, by omega⟩]
                rw [List.append_assoc, List.getElem?_append_right (by omega), List.getElem?_append_left (by omega), htl] at hj
                obtain ⟨u, hu', _, hr'⟩ := hvs.get (j - k) (.p c) (by simp [pcells, hj])
                simp only [AV.R] at hr'
                refine ⟨u, ?_, hmono hr'⟩
                rw [← hu']
                congr 1
                omega
              · rw [if_neg (by omega)]
                rw [List.getElem?_append_right (by simp; omega), List.getElem?_drop] at hj
                obtain ⟨u, hu', hr'⟩ := g2.get j c (by rw [← hj]; congr 1; simp; omega)
                rw [hold] at hu'
                exact ⟨u, hu', hmono hr'⟩
          · rw [if_neg e] at hi'
            obtain ⟨g1, g2⟩ := h7.get i' r' hi'
            refine ⟨g1, PV.Cells.of_get fun j c hj => ?_⟩
            have hj' : j < es := by
              rcases Nat.lt_or_ge j r'.length with h' | h'
              · omega
              · rw [List.getElem?_eq_none h'] at hj; simp at hj
            obtain ⟨u, hu', hr'⟩ := g2.get j c hj
            rw [hcell, hset, if_neg ?_]
            · rw [hold] at hu'
              exact ⟨u, hu', hmono hr'⟩
            · intro ⟨c1, c2⟩
              rcases Nat.lt_or_gt_of_ne e with h' | h'
              · have : (i + 1) * es ≤ i' * es := Nat.mul_le_mul_right es h'
                rw [Nat.succ_mul] at this
                omega
              · have : (i' + 1) * es ≤ i * es := Nat.mul_le_mul_right es h'
                rw [Nat.succ_mul] at this
                omega

/-- A store into the row of a hole. -/
theorem OpOK.storeHole {T : TypeId} {x y : Operand} {n : Name} {len i k es : Nat} {pre post : List (List PV)} {row row' vs : List AV} {v : AV} (hdst : o.dst = none) (ho : o.op = .store T x y) (hx : evalO rd x = some (.aref n len i k)) (hy : evalO rd y = some v) (hv : cellsAV v = some vs)
    (hlen : Nat.beq len (pre.length + 1 + post.length) = true) (hi : i = pre.length) (hz : sizeT P T = some vs.length) (hl : Nat.ble (k + vs.length) row.length = true) (hc : setAt row k vs = row') :
    OpOK P o ⟨rd, [(n, .hole es pre row post)], .any, [(n, .hole es pre row' post)], []⟩ :=
  OpOK.wr hdst fun Γ ρ M s a w hs hh => by
    subst hc; subst hi
    have hr := evalO_R hs hh hx
    simp only [AV.R] at hr
    have hn := hh.hp n _ (by simp : (n, AO.hole es pre row post) ∈ _)
    have hle := Nat.eq_of_beq_eq_true hlen
    obtain ⟨b, hb, hu⟩ := (hr.2 _ es _ hn rfl).2 hle
    obtain ⟨hes, hrow, hcap, b', t, cs, h3, h4, h5, h6, h7, h8, h9⟩ := hs.objs n _ hn
    have e : b' = b := by rw [hb] at h3; simpa using h3.symm
    subst e
    have hvs := cellsAV_R hv (evalO_R hs hh hy)
    have hlen2 := hvs.length
    simp only [Array.length_toList] at hlen2
    have hl' := Nat.le_of_ble_eq_true hl
    have hsz := Nat.mul_le_mul_right es hcap
    rw [Nat.add_mul, Nat.add_mul, Nat.one_mul] at hsz
    have hrun := run_storeVar (P := P) (T := T) (b := b') (k := pre.length * es + k) (u := a.eval y) (w := w) (by rw [hz, hlen2]) h5 (by omega) (Rs_one hvs)
    refine ⟨w.setRow b' (setAt cs.toList (pre.length * es + k) (a.eval y).cells.toList).toArray, (fun m => if m = n then ρ n else ρ m), M, ?_, ?_⟩
    · simp [execOp, ho, hu, Instr.storeAt, Instr.sureAddr, hrun]
    · have hblk : (ρ n).blk = some b' := by
        have : (ρ n).cap ≠ 0 := by omega
        simp [Loc.blk, this, h3]
      have he : Ext (fun b => b = b') w (w.setRow b' (setAt cs.toList (pre.length * es + k) (a.eval y).cells.toList).toArray) := ⟨by simp [World.setRow], fun b hb hne => setRow_other w b' b _ hne, rfl, rfl⟩
      have hM : M b' := h4
      have hB : ∀ b, b = b' → M b := fun b hb => by rw [hb]; exact hM
      have hst : HStep ρ s.heap (fun m => if m = n then ρ n else ρ m) (fun m => if m = n then some (.hole es pre (setAt row k vs) post) else s.heap m) := fun m o' hm => by
        by_cases e : m = n
        · subst e; rw [hn] at hm; cases hm; simp [stays]
        · simp only [e, if_false, hm]; exact stays_refl _ _
      have hnn : ∀ m, s.heap m = none → (if m = n then some (AO.hole es pre (setAt row k vs) post) else s.heap m) = none := fun m hm => by
        by_cases e : m = n
        · subst e; rw [hn] at hm; simp at hm
        · simp [e, hm]
      refine hs.update1 (he.weaken fun b _ hb => ⟨by rw [hblk, hb], by rw [hn]; simp⟩) (fun _ hb => hb) (fun _ hb => .inl hb) (fun b hb => Nat.lt_of_lt_of_le (hs.msize b hb) he.size)
        (fun o' ho' => by rw [hn] at ho'; cases ho'; simp [stays]) (fun h0 => by rw [hn] at h0; simp at h0) ?_ (fun b hb => .inl ⟨_, hn, hb⟩)
      have hcell : ∀ j, (w.setRow b' (setAt cs.toList (pre.length * es + k) (a.eval y).cells.toList).toArray).cell? ⟨b', j, none⟩ = (setAt cs.toList (pre.length * es + k) (a.eval y).cells.toList)[j]? := fun j => by
        rw [cell_setRow_same w b' j cs _ t (0, 0) h5, List.getElem?_toArray]
      have hold : ∀ j, w.cell? ⟨b', j, none⟩ = cs.toList[j]? := fun j => by simp [World.cell?, h5]
      have hL : (a.eval y).cells.toList.length = vs.length := by simpa using hlen2
      have hset : ∀ j, (j < pre.length * es ∨ pre.length * es + es ≤ j) → (setAt cs.toList (pre.length * es + k) (a.eval y).cells.toList)[j]? = cs.toList[j]? := fun j hj => by
        unfold setAt
        rcases hj with hj | hj
        · rw [List.append_assoc, List.getElem?_append_left (by simp; omega), List.getElem?_take_of_lt (by omega)]
        · rw [List.getElem?_append_right (by simp; omega), List.getElem?_drop]
          congr 1
          simp; omega
      have hmono : ∀ {x : PV} {u : Value}, x.R M w u → x.R M (w.setRow b' (setAt cs.toList (pre.length * es + k) (a.eval y).cells.toList).toArray) u := fun h => h.mono he hB (fun b _ hb => hb)
      have hrows : ∀ {rs : List (List PV)} {off : Nat}, (off + rs.length * es ≤ pre.length * es ∨ pre.length * es + es ≤ off) → PV.Rows M w b' es off rs → PV.Rows M (w.setRow b' (setAt cs.toList (pre.length * es + k) (a.eval y).cells.toList).toArray) b' es off rs := fun {rs off} hoff h =>
        PV.Rows.of_get fun i r hi => by
          obtain ⟨g1, g2⟩ := h.get i r hi
          refine ⟨g1, PV.Cells.of_get fun j c hj => ?_⟩
          obtain ⟨u, hu', hr'⟩ := g2.get j c hj
          have hj' : j < es := by rw [← g1]; exact (List.getElem?_eq_some_iff.1 hj).1
          have hi' : i + 1 ≤ rs.length := (List.getElem?_eq_some_iff.1 hi).1
          have hm := Nat.mul_le_mul_right es hi'
          rw [Nat.add_mul, Nat.one_mul] at hm
          rw [hcell, hset _ (by omega)]
          rw [hold] at hu'
          exact ⟨u, hu', hmono hr'⟩
      refine ⟨hes, by simp [setAt]; omega, by simpa using hcap, b', t, _, by simp [h3], hM, setRow_heap w b' cs _ t (0, 0) h5, ?_, hrows (by omega) h7, ?_, hrows (by rw [Nat.add_mul, Nat.one_mul]; omega) h9⟩
      · simp only [if_true, List.size_toArray, setAt, List.length_append, List.length_take, List.length_drop, Array.length_toList, ← h6, hlen2]
        omega
      · have r1 := (h8.take k).step he hB (fun b _ hb => hb) hst (fun m _ => hnn m)
        have r2 := hvs.step he hB (fun b _ hb => hb) hst (fun m _ => hnn m)
        have r3 := (h8.drop (k + vs.length)).step he hB (fun b _ hb => hb) hst (fun m _ => hnn m)
        have := (r1.append r2).append r3
        have heq : List.take es (List.drop (pre.length * es) (setAt cs.toList (pre.length * es + k) (a.eval y).cells.toList)) = setAt (List.take es (List.drop (pre.length * es) cs.toList)) k (a.eval y).cells.toList := by
          apply List.ext_getElem?
          intro j
          unfold setAt
          have hcl : cs.toList.length = cs.size := by simp
          have t1 : (List.take (pre.length * es + k) cs.toList).length = pre.length * es + k := by simp; omega
          have t2 : (List.take k (List.take es (List.drop (pre.length * es) cs.toList))).length = k := by simp; omega
          rw [List.getElem?_take]
          split
          · rename_i hj
            rw [List.getElem?_drop]
            by_cases c1 : j < k
            · rw [List.append_assoc, List.append_assoc, List.getElem?_append_left (by omega), List.getElem?_append_left (by omega), List.getElem?_take_of_lt (by omega), List.getElem?_take_of_lt c1, List.getElem?_take_of_lt hj, List.getElem?_drop]
            · by_cases c2 : j < k + vs.length
              · rw [List.append_assoc, List.append_assoc, List.getElem?_append_right (by omega), List.getElem?_append_left (by omega), List.getElem?_append_right (by omega), List.getElem?_append_left (by omega), t1, t2]
                congr 1; omega
              · rw [List.getElem?_append_right (by simp; omega), List.getElem?_append_right (by simp; omega), List.getElem?_drop, List.getElem?_drop, List.getElem?_take, List.getElem?_drop]
                simp only [List.length_append, t1, t2, hL]
                rw [if_pos (by omega)]
                congr 1; omega
          · rename_i hj
            rw [List.getElem?_eq_none]
            simp
            omega
        simp only [setAt, hL] at this heq ⊢
        rw [heq]
        exact this

/-! ### Calls -/
mutual
/-- All names in the value are among these. -/
def AV.closed (ks : List Name) : AV → Bool
  | .p _ => true
  | .agg cs => AV.closedL ks cs
  | .ref m _ => ks.contains m
  | .own m _ => ks.contains m
  | .aref m _ _ _ => ks.contains m
  | .view m _ _ _ => ks.contains m
  | .eptr _ => true
  | .tup vs => AV.closedL ks vs
  | .clo _ fs caps => AV.closedL ks fs && AV.closedL ks caps
  | .oref _ m => ks.contains m
  | .err _ => true
  | .ub => true
  | .any => true
def AV.closedL (ks : List Name) : List AV → Bool
  | [] => true
  | x :: xs => AV.closed ks x && AV.closedL ks xs
end
mutual
theorem AV.closed_has {ks : List Name} {n : Name} : ∀ {x : AV}, x.closed ks = true → x.has n = true → n ∈ ks
  | .p _, _, h => by simp [AV.has] at h
  | .agg cs, h, h' => AV.closedL_has (xs := cs) (by simpa only [AV.closed] using h) (by simpa only [AV.has] using h')
  | .ref m _, h, h' => by simp only [AV.has, beq_iff_eq] at h'; subst h'; simpa [AV.closed] using h
  | .own m _, h, h' => by simp only [AV.has, beq_iff_eq] at h'; subst h'; simpa [AV.closed] using h
  | .view m _ _ _, h, h' => by simp only [AV.has, beq_iff_eq] at h'; subst h'; simpa [AV.closed] using h
  | .aref m _ _ _, h, h' => by simp only [AV.has, beq_iff_eq] at h'; subst h'; simpa [AV.closed] using h
  | .eptr _, _, h => by simp [AV.has] at h
  | .tup vs, h, h' => AV.closedL_has (xs := vs) (by simpa only [AV.closed] using h) (by simpa only [AV.has] using h')
  | .clo _ fs caps, h, h' => by
    simp only [AV.closed, Bool.and_eq_true] at h
    simp only [AV.has, Bool.or_eq_true] at h'
    rcases h' with h' | h'
    · exact AV.closedL_has h.1 h'
    · exact AV.closedL_has h.2 h'
  | .oref _ m, h, h' => by simp only [AV.has, beq_iff_eq] at h'; subst h'; simpa [AV.closed] using h
  | .err _, _, h => by simp [AV.has] at h
  | .ub, _, h => by simp [AV.has] at h
  | .any, _, h => by simp [AV.has] at h
theorem AV.closedL_has {ks : List Name} {n : Name} : ∀ {xs : List AV}, AV.closedL ks xs = true → AV.hasL n xs = true → n ∈ ks
  | [], _, h => by simp [AV.hasL] at h
  | x :: xs, h, h' => by
    simp only [AV.closedL, Bool.and_eq_true] at h
    simp only [AV.hasL, Bool.or_eq_true] at h'
    rcases h' with h' | h'
    · exact AV.closed_has h.1 h'
    · exact AV.closedL_has h.2 h'
end
def AO.closed (ks : List Name) : AO → Bool
  | .box cells => AV.closedL ks cells
  | .arr _ _ => true
  | .hole _ _ row _ => AV.closedL ks row
  | .fact a _ => a.closed ks
  | .obj _ => true
theorem AO.closed_has {ks : List Name} {n : Name} {ob : AO} (h : ob.closed ks = true) (h' : ob.has n = true) : n ∈ ks := by
  cases ob with
  | box cells => exact AV.closedL_has h h'
  | arr es rows => simp [AO.has] at h'
  | hole es pre row post => exact AV.closedL_has h h'
  | fact a x => exact AV.closed_has h h'
  | obj x => simp [AO.has] at h'

/-- What a call may leave: its objects were handed over, or are new; all is closed. -/
def callOK (pre h : List (Name × AO)) (nw : List Name) (v : AV) : Bool :=
  (keys h).all (fun n => (keys pre).contains n || nw.contains n) && nw.all (fun n => (keys h).contains n && !(keys pre).contains n) && v.closed (keys h) && h.all (fun p => p.2.closed (keys h))

theorem ObjAt.blk_size {ρ : Name → Loc} {H : Heap} {M : Nat → Prop} {w : World} {n : Name} {ob : AO} (h : ObjAt ρ H M w n ob) {b : Nat} (hb : (ρ n).blk = some b) : b < w.heap.size := by
  cases ob with
  | box cells =>
    obtain ⟨b', T, cs, h1, h2, h3, h4⟩ := h
    rw [h1] at hb; simp [Loc.blk] at hb; subst hb
    exact (Array.getElem?_eq_some_iff.1 h3).1
  | arr es rows =>
    obtain ⟨h0, h1, h2⟩ := h
    rcases h2 with h2 | ⟨b', T, cs, h3, h4, h5, h6⟩
    · simp [Loc.blk, h2] at hb
    · unfold Loc.blk at hb
      split at hb
      · simp at hb
      · rw [h3] at hb; simp at hb; subst hb; exact (Array.getElem?_eq_some_iff.1 h5).1
  | hole es pre row post =>
    obtain ⟨_, _, h1, b', T, cs, h3, h4, h5, _⟩ := h
    unfold Loc.blk at hb
    rw [if_neg (by omega), h3] at hb
    simp at hb; subst hb; exact (Array.getElem?_eq_some_iff.1 h5).1
  | fact a x => simp [Loc.blk, h.1] at hb
  | obj x =>
    obtain ⟨b', h1, h2, h3⟩ := h
    rw [h1] at hb; simp [Loc.blk] at hb; subst hb
    exact (Array.getElem?_eq_some_iff.1 h3).1

theorem look_keys {α : Type} {n : Nat} : ∀ {l : List (Nat × α)}, n ∈ keys l → ∃ x, look n l = some x
  | [], h => by simp [keys] at h
  | (k, y) :: r, h => by
    simp only [keys, List.map_cons, List.mem_cons] at h
    simp only [look]
    split
    · exact ⟨y, rfl⟩
    · rename_i hne
      rcases h with h | h
      · exact absurd h.symm hne
      · exact look_keys h

theorem Sim.after {Γ : Ctx} {ρ : Name → Loc} {M : Nat → Prop} {s : AS} {a : Act} {w : World} (hs : Sim Γ ρ M s a w) {pre h : List (Name × AO)} {nw : List Name} {v : AV} {u : Value} {ρ' : Name → Loc} {w' : World}
    (hpre : ∀ n ob, look n pre = some ob → s.heap n = some ob) (hnw : ∀ n, n ∈ nw → s.heap n = none ∧ s.free n) (hok : callOK pre h nw v = true) (ha : After ρ M w pre u v h ρ' w') :
    Sim Γ (fun m => if (keys h).contains m then ρ' m else ρ m) (newM M ρ' h) ⟨s.slot, fun m => match look m h with | some ob => some ob | none => s.heap m⟩ a w' ∧
      v.R (fun m => if (keys h).contains m then ρ' m else ρ m) (fun m => match look m h with | some ob => some ob | none => s.heap m) (newM M ρ' h) w' u := by
  simp only [callOK, Bool.and_eq_true, List.all_eq_true, Bool.or_eq_true, List.contains_eq_mem, decide_eq_true_eq, Bool.not_eq_true', decide_eq_false_iff_not] at hok
  obtain ⟨⟨⟨hk1, hk2⟩, hk3⟩, hk4⟩ := hok
  have hin : ∀ n ob, look n h = some ob → n ∈ keys h := fun n ob hn => keys_of_look (by rw [hn]; simp)
  have hstep0 : HStep ρ' (lookH h) (fun m => if (keys h).contains m then ρ' m else ρ m) (fun m => match look m h with | some ob => some ob | none => s.heap m) := fun n ob hn => by
    change look n h = some ob at hn
    simp only [hn, List.contains_eq_mem, decide_eq_true (hin n ob hn), if_true]
    exact stays_refl _ _
  have hclosed : ∀ n, n ∈ keys h → lookH h n = none → (match look n h with | some ob => some ob | none => s.heap n) = none := fun n hn hnone => by
    obtain ⟨x, hx⟩ := look_keys hn
    change look n h = none at hnone
    rw [hx] at hnone; simp at hnone
  have hconvM : ∀ b, newM M ρ' h b → newM M ρ' h b := fun _ hb => hb
  have hval : v.R (fun m => if (keys h).contains m then ρ' m else ρ m) (fun m => match look m h with | some ob => some ob | none => s.heap m) (newM M ρ' h) w' u :=
    ha.val.step (Ext.refl (fun _ => False) _) (fun _ hb => hb.elim) (fun b _ hb => hb) hstep0 (fun n hn hnone => hclosed n (AV.closed_has hk3 hn) hnone)
  refine ⟨?_, hval⟩
  have hlt : ∀ m o' b, s.heap m = some o' → (ρ m).blk = some b → b < w.heap.size ∧ M b := fun m o' b h1 h2 => (hs.objs m o' h1).blk_lt hs.msize h2
  -- a name of the call's objects that the caller had was handed over
  have hhad : ∀ n ob o', look n h = some ob → s.heap n = some o' → look n pre = some o' := fun n ob o' h1 h2 => by
    rcases hk1 n (hin n ob h1) with h3 | h3
    · obtain ⟨x, hx⟩ := look_keys h3
      have := hpre n x hx
      rw [h2] at this; cases this; exact hx
    · have := (hnw n h3).1; rw [h2] at this; simp at this
  refine hs.update (ha.ext.weaken fun b _ ⟨n, ob, h1, h2⟩ => ⟨n, ob, hpre n ob h1, h2⟩) (fun b hb => .inl hb) (fun b hb => ?_) (fun b hb => ?_) (fun n ob hn => ?_) (fun n hn => ?_) (fun n hn hn' => ?_) (fun n ob hn => ?_) (fun n m o1 o2 b h1 h2 h3 h4 => ?_)
  · rcases hb with hb | ⟨n, ob, h1, h2⟩
    · exact .inl hb
    · rcases ha.own n ob b h1 h2 with ⟨o', h3, h4⟩ | h3
      · exact .inl (hlt n o' b (hpre n o' h3) h4).2
      · exact .inr h3
  · rcases hb with hb | ⟨n, ob, h1, h2⟩
    · exact Nat.lt_of_lt_of_le (hs.msize b hb) ha.ext.size
    · exact (ha.objs n ob h1).blk_size h2
  · cases hl : look n h with
    | none =>
      have : n ∉ keys h := fun hk => by obtain ⟨x, hx⟩ := look_keys hk; rw [hl] at hx; simp at hx
      simp only [hn, List.contains_eq_mem, decide_eq_false this]
      exact stays_refl _ _
    | some ob' =>
      have hp := hhad n ob' ob hl hn
      obtain ⟨o2, h1, h2⟩ := ha.keep n ob hp
      rw [hl] at h1; cases h1
      simp only [List.contains_eq_mem, decide_eq_true (hin n ob' hl), if_true]
      exact h2
  · obtain ⟨ob, h1, _⟩ := hs.keep n hn
    cases hl : look n h <;> simp [h1]
  · cases hl : look n h with
    | none => simp [hl, hn] at hn'
    | some ob =>
      rcases hk1 n (hin n ob hl) with h3 | h3
      · obtain ⟨x, hx⟩ := look_keys h3
        have := hpre n x hx
        rw [hn] at this; simp at this
      · exact (hnw n h3).2
  · cases hl : look n h with
    | none =>
      have hk : n ∉ keys h := fun hk => by obtain ⟨x, hx⟩ := look_keys hk; rw [hl] at hx; simp at hx
      simp only [hl] at hn
      refine .inl ⟨hn, by simp [hk], fun b hb => ?_⟩
      refine ha.ext.same b (hlt n ob b hn hb).1 (fun ⟨m, o', g1, g2⟩ => ?_)
      have := hs.inj n m ob o' b hn (hpre m o' g1) hb g2
      subst this
      obtain ⟨o2, h1, _⟩ := ha.keep n o' g1
      rw [hl] at h1; simp at h1
    | some ob' =>
      simp only [hl] at hn
      cases hn
      have hk := hin n ob hl
      refine .inr ⟨?_, fun b hb => ?_⟩
      · have h0 := ha.objs n ob hl
        refine h0.step (Ext.refl (fun _ => False) _) (fun _ hb => hb.elim) (fun b _ hb => hb) (fun b hb => hb) hstep0 (fun m hm hnone => ?_) (by simp [hk]) (fun b _ => rfl) (fun b hb => ?_)
        · exact hclosed m (AO.closed_has (hk4 _ (look_mem hl)) hm) hnone
        · rcases hb with hb | ⟨n, ob, h1, h2⟩
          · exact Nat.lt_of_lt_of_le (hs.msize b hb) ha.ext.size
          · exact (ha.objs n ob h1).blk_size h2
      · simp only [List.contains_eq_mem, decide_eq_true hk, if_true] at hb
        rcases ha.own n ob b hl hb with ⟨o', h3, h4⟩ | h3
        · exact .inl ⟨o', hpre n o' h3, h4⟩
        · exact .inr h3
  · cases hl : look n h with
    | none =>
      have hk : n ∉ keys h := fun hk => by obtain ⟨x, hx⟩ := look_keys hk; rw [hl] at hx; simp at hx
      simp only [hl] at h1
      simp only [List.contains_eq_mem, decide_eq_false hk, Bool.false_eq_true, if_false] at h3
      cases hl' : look m h with
      | none =>
        have hk' : m ∉ keys h := fun hk => by obtain ⟨x, hx⟩ := look_keys hk; rw [hl'] at hx; simp at hx
        simp only [hl'] at h2
        simp only [List.contains_eq_mem, decide_eq_false hk', Bool.false_eq_true, if_false] at h4
        exact hs.inj n m o1 o2 b h1 h2 h3 h4
      | some ob' =>
        have hk' := hin m ob' hl'
        simp only [List.contains_eq_mem, decide_eq_true hk', if_true] at h4
        exfalso
        rcases ha.own m ob' b hl' h4 with ⟨o', g1, g2⟩ | g
        · have := hs.inj n m o1 o' b h1 (hpre m o' g1) h3 g2
          subst this; rw [hl] at hl'; simp at hl'
        · have := (hlt n o1 b h1 h3).1; omega
    | some ob =>
      have hk := hin n ob hl
      simp only [List.contains_eq_mem, decide_eq_true hk, if_true] at h3
      cases hl' : look m h with
      | none =>
        have hk' : m ∉ keys h := fun hk => by obtain ⟨x, hx⟩ := look_keys hk; rw [hl'] at hx; simp at hx
        simp only [hl'] at h2
        simp only [List.contains_eq_mem, decide_eq_false hk', Bool.false_eq_true, if_false] at h4
        exfalso
        rcases ha.own n ob b hl h3 with ⟨o', g1, g2⟩ | g
        · have := hs.inj m n o2 o' b h2 (hpre n o' g1) h4 g2
          subst this; rw [hl'] at hl; simp at hl
        · have := (hlt m o2 b h2 h4).1; omega
      | some ob' =>
        have hk' := hin m ob' hl'
        simp only [List.contains_eq_mem, decide_eq_true hk', if_true] at h4
        exact ha.inj n m ob ob' b hl hl' h3 h4

theorem Sim.grounded {Γ : Ctx} {ρ : Name → Loc} {M : Nat → Prop} {s : AS} {a : Act} {w : World} {pre : List (Name × AO)} (hs : Sim Γ ρ M s a w) (hpre : ∀ n ob, look n pre = some ob → s.heap n = some ob) :
    Ground Γ.G w (fun b => ∃ n o, look n pre = some o ∧ (ρ n).blk = some b) :=
  ⟨hs.ground.laid, Nat.le_trans hs.ground.size hs.ext.size, fun b hb => by
    rw [hs.ext.same b (Nat.lt_of_lt_of_le hb hs.ground.size) (fun hB => by have := hs.ground.out b hB; omega)]; exact hs.ground.same b hb,
   fun b ⟨n, o, hn, hb⟩ => by
    rcases hs.own0 n o b (hpre n o hn) hb with ⟨h1, h2⟩ | h1
    · exact hs.ground.out b ⟨n, h1, h2⟩
    · exact Nat.le_trans hs.ground.size h1⟩

/-- A contract that was proved elsewhere: no objects come in, none go out. -/
theorem Spec.ofCalls {P : Program} {f : FuncId} {args : List AV} {v : AV}
    (h : ∀ (G : World) (ρ : Name → Loc) (M : Nat → Prop) (w : World) (us : List Value), Ground G w (fun _ => False) → (∀ b, M b → b < w.heap.size) → AV.Ts ρ (fun _ => none) M w args us →
      Calls P f us.toArray w fun e w' => ∃ u, e = .returned u ∧ v.R ρ (fun _ => none) M w' u ∧ Ext (fun _ => False) w w') : SpecIs P f args [] v [] := by
  intro G ρ M w us hG hM hargs _ _
  have e0 : lookH [] = fun _ => none := rfl
  have eM : newM M ρ [] = M := by funext b; simp [newM, look]
  rw [e0] at hargs
  refine (h G ρ M w us ⟨hG.laid, hG.size, hG.same, fun b hb => hb.elim⟩ hM hargs).mono fun e w' ⟨u, he, hv, hx⟩ => ⟨u, v, [], ρ, he, ⟨rfl, rfl⟩, ?_, ?_, ?_, ?_, ?_, ?_⟩
  · rw [e0, eM]; exact hv
  · intro n o hn; simp [look] at hn
  · intro n m o o' b hn; simp [look] at hn
  · intro n o b hn; simp [look] at hn
  · exact hx.weaken fun b _ hb => hb.elim
  · intro n o hn; simp [look] at hn

theorem call_core {f : FuncId} {args : List AV} {pre h : List (Name × AO)} {v : AV} {nw : List Name} {hrd : List (Nat × AV)}
    (hrun : ∀ (Γ : Ctx) (ρ : Name → Loc) (M : Nat → Prop) (s : AS) (a : Act) (w : World), Sim Γ ρ M s a w → s.holds ⟨rd, pre, v, h, nw⟩ → ∃ us : List Value, AV.Ts ρ s.heap M w args us ∧ (execOp a.eval o).run P w = .ok (.enter f us.toArray) w)
    (hspec : SpecIs P f args pre v h) (hok : callOK pre h nw v = true) : OpOK P o ⟨rd, pre, v, h, nw⟩ := by
  intro Γ ρ M s a w K Q hs hh hd hK
  obtain ⟨us, h1, h2⟩ := hrun Γ ρ M s a w hs hh
  have hpre : ∀ n ob, look n pre = some ob → s.heap n = some ob := fun n ob hn => hh.hp n ob (look_mem hn)
  have hstep : HStep ρ s.heap ρ (lookH pre) := fun n ob hn => by
    cases hc : lookH pre n with
    | none => cases ob <;> simp [stays]
    | some o' => have := hpre n o' hc; rw [hn] at this; cases this; exact stays_refl _ _
  have hnone : ∀ n, s.heap n = none → lookH pre n = none := fun n hn => by
    cases hc : lookH pre n with
    | none => rfl
    | some o' => have := hpre n o' hc; rw [hn] at this; simp at this
  unfold Oper.wp
  rw [h2, Oper.upon_enter]
  refine (hspec Γ.G ρ M w us (hs.grounded hpre) hs.msize (AV.Ts.step (Ext.refl (fun _ => False) _) (fun _ hb => hb.elim) (fun b _ hb => hb) hstep (fun n _ => hnone n) h1) (fun n ob hn => ?_) (fun n m o1 o2 b g1 g2 => hs.inj n m o1 o2 b (hpre _ _ g1) (hpre _ _ g2))).mono ?_
  · refine (hs.objs n ob (hpre n ob hn)).step (Ext.refl (fun _ => False) _) (fun _ hb => hb.elim) (fun b _ hb => hb) (fun b hb => hb) hstep (fun m _ => hnone m) rfl (fun _ _ => rfl) hs.msize
  · rintro e w' ⟨u, v', h', ρ', rfl, ⟨rfl, rfl⟩, ha⟩
    obtain ⟨k1, k2⟩ := hs.after hpre hh.nw hok ha
    exact hK _ _ _ w' ((k1.put hd (fun _ => k2)).congr (fun t => rfl) (fun m => rfl))

def callable (P : Program) (f : FuncId) : Bool := match P.funcs[f]? with
  | some fn => !(fn.name == "runtime.NumGoroutine") && fn.body.isSome
  | none => false
theorem run_callFunc {f : FuncId} (h : callable P f = true) (args : Array Value) (w : World) : (callFunc f args).run P w = .ok (.enter f args) w := by
  unfold callable at h
  cases hf : P.funcs[f]? with
  | none => simp [hf] at h
  | some fn =>
    simp only [hf, Bool.and_eq_true, Bool.not_eq_true'] at h
    have hb : fn.body.isNone = false := by cases hc : fn.body <;> simp_all
    simp only [callFunc, Sem.run_bind, run_program, Result.andThen_ok, hf, h.1, hb, Bool.false_eq_true, if_false]
    rfl

theorem OpOK.call {f : FuncId} {argOps : Array Operand} {ats : Array TypeId} {args : List AV} {pre h : List (Name × AO)} {v : AV} {nw : List Name}
    (ho : o.op = .call { callee := .value (.func f), args := argOps, argTypes := ats }) (hf : callable P f = true) (hargs : evalL rd argOps.toList = some args)
    (hspec : SpecIs P f args pre v h) (hok : callOK pre h nw v = true) : OpOK P o ⟨rd, pre, v, h, nw⟩ :=
  call_core (hrd := rd) (fun Γ ρ M s a w hs hh => ⟨argOps.toList.map a.eval, evalL_R hs hh hargs, by
    have e : (argOps.toList.map a.eval).toArray = argOps.map a.eval := by rw [← Array.toList_map]
    rw [e]
    simp [execOp, ho, resolve, Deferred.ofValue, Act.eval, invoke, run_callFunc hf]⟩) hspec hok

end
end Go.Proofs.YtbcginibldjnaaaGreat.AM
