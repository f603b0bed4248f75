/-
  The abstract machine, part J: append that makes an array of ours, stores into arrays, calls, what is frozen. No project text.
-/
import Derived.Test.YtfhcigjkfelnfaaGreatQRowAuditDoublesB
import Derived.KernelRfl
import Derived.Below
import Derived.ChangeSame
import Derived.ChangeArms
import Derived.ChangeShapes
import Derived.DataReads
import Derived.OpenShut
import Derived.WideKeyArgs
import Derived.RowKit2
import Derived.JoinedOf
import Derived.JoinedAt
set_option linter.unusedSimpArgs false
set_option linter.unusedVariables false
namespace Go.Proofs.YtfhcigjkfelnfaaGreat.AM
open Go
section
variable {P : Program} {o : Oper} {rd : List (Nat × AV)}
theorem OpOK.appendNew {T e : TypeId} {x y : Operand} {ats : Array TypeId} {n : Name} {es es0 bytes r : Nat} {f : Bool} {rows rows' rows2 : List (List PV)}
    (ho : o.op = .call { callee := .builtin .append, args := #[x, y], argTypes := ats }) (hat : ats = #[T, T]) (hT : elemT P T = some e) (hok : elemOK P e es bytes = true) (hes : Nat.ble 1 es = true)
    (hx : evalO rd x = some (.p (.sl true es0 rows))) (hy : evalO rd y = some (.p (.sl f es rows'))) (h2 : rows ++ rows' = rows2) (hr : rows2.length = r) (hnn : rows = [] ∨ (rows' ≠ [] ∧ es0 = es))
    (hfit : (rows.length + rows'.length) * bytes ≤ 140737488355328) (hfit2 : rows.length + rows'.length ≤ 140737488355328) :
    OpOK P o ⟨rd, [], .own n r, [(n, .arr es rows2)], [n]⟩ :=
  OpOK.put fun Γ ρ M s a w hs hh => by
    subst h2; subst hr; subst hat
    obtain ⟨i, z, hi, hz, hsz, hby, hzs⟩ := elemOK_spec hok
    obtain ⟨hn, hfree⟩ := hh.nw n (by simp)
    have hes' := Nat.le_of_ble_eq_true hes
    have hrx := evalO_R hs hh hx
    simp only [AV.R] at hrx
    have hrx' := hrx
    simp only [PV.R] at hrx'
    obtain ⟨ax, cx, hux, _, hfull, hnone, hsome⟩ := hrx'
    have hcx := hfull trivial
    subst hcx
    have hry := evalO_R hs hh hy
    simp only [AV.R] at hry
    obtain ⟨cr', k1, k2, hsrc⟩ := src_of (P := P) (ρ := ρ) (H := s.heap) hT hry
    rw [← hsz] at hsrc
    have hexec : ∀ (u : Value) (w' : World), (Builtin.append_ #[T, T] o.type #[.slice ax rows.length rows.length, a.eval y]).run P w = .ok u w' → (execOp a.eval o).run P w = .ok (.value u) w' := by
      intro u w' hrun
      simp [execOp, ho, resolve, invoke, builtin, hux, hrun]
    by_cases hnil : rows' = []
    · have hrows : rows = [] := hnn.resolve_right (fun h => h.1 hnil)
      subst hnil; subst hrows
      simp only [RR] at k1
      subst k1
      have hrun := run_append_nothing w T T o.type e i (elemT_spec hT) hi ax 0 0 (Nat.le_refl _) (a.eval y) (by simpa using hsrc)
      refine ⟨_, w, (fun m => if m = n then ⟨ax, 0⟩ else ρ m), M, hexec _ _ hrun, hs.update1 (Ext.refl _ _) (fun _ hb => hb) (fun _ hb => .inl hb) hs.msize (fun o' ho' => by rw [hn] at ho'; simp at ho') (fun _ => hfree) ?_ (fun b hb => by simp [Loc.blk] at hb), ?_⟩
      · exact ⟨hes', by simp, .inl (by simp)⟩
      · simp only [AV.R]
        refine ⟨rfl, fun o' es' k' hc hs' => ?_⟩
        simp only [if_true] at hc
        cases hc
        cases hs'
        exact ⟨Nat.le_refl _, fun _ => by simp⟩
    · have hpos : 0 < rows'.length := List.length_pos_iff.2 hnil
      have hg : rows.length < rows.length + rows'.length := by omega
      have hold : ∃ cr0, RR ρ s.heap M w rows cr0 ∧ (∀ r ∈ rows, r.length = es) ∧ (Builtin.firstCells i.size rows.length (.slice ax rows.length rows.length)).run P w.drew = .ok cr0.flatten.toArray w.drew := by
        by_cases hl : rows = []
        · subst hl
          refine ⟨[], by simp [RR], by simp, ?_⟩
          cases ax with
          | none => simpa using run_firstCells_none (P := P) w.drew i.size 0 0 0
          | some ad => simpa using run_firstCells_some (P := P) w.drew i.size 0 ad 0 0 [] (by simp) (by simp)
        · have he0 := (hnn.resolve_left hl).2
          subst he0
          cases ax with
          | none => exact absurd (List.eq_nil_of_length_eq_zero (hnone rfl)) hl
          | some ad =>
            obtain ⟨q1, q2, q3, q4⟩ := hsome ad rfl (fun h0 => hl (List.eq_nil_of_length_eq_zero h0))
            obtain ⟨b, off, spot⟩ := ad
            simp only at q1; subst q1
            obtain ⟨cr0, m1, m2, m3⟩ := RR.of_Rows (ρ := ρ) (H := s.heap) q4
            exact ⟨cr0, m1, m2, run_firstCells_some (P := P) w.drew i.size rows.length _ rows.length rows.length cr0.flatten (by rw [hsz, flat_len (m1.len m2), m1.length]) (fun j u hj => by
              rw [addr_add, World.cell?_drew]; exact m3 j u hj)⟩
      obtain ⟨cr0, m1, m2, hold⟩ := hold
      have hrun := run_append_grow_src (P := P) w T T o.type e i z (elemT_spec hT) hi hz ax rows.length rows.length cr0.flatten hold (a.eval y) rows'.length cr'.flatten hsrc hg
        (by omega) (growslice_fits hg (by rw [hby]; exact hfit))
      have hge := grownCap_ge w (rows.length + rows'.length) rows.length e
      have happ : (cr0.flatten ++ cr'.flatten) = (cr0 ++ cr').flatten := by simp
      rw [happ] at hrun
      obtain ⟨M', hsim⟩ := hs.grown (n := n) (es := es) (cap := grownCap w (rows.length + rows'.length) rows.length e) (rows := rows ++ rows') (cr := cr0 ++ cr') (rest := Builtin.zeroCells z.cells (grownCap w (rows.length + rows'.length) rows.length e - (rows.length + rows'.length))) (e := e)
        hes' (m1.append k1) (fun r hr => by rcases List.mem_append.1 hr with hr | hr; exact m2 r hr; exact k2 r hr) (by simpa using hge) (by rw [size_zeroCells', hzs]; simp) (by simp; omega)
        (fun o' ho' => by rw [hn] at ho'; simp at ho') (fun _ => hfree)
      refine ⟨_, _, _, M', hexec _ _ hrun, hsim, ?_⟩
      simp only [AV.R]
      refine ⟨rfl, fun o' es' k' hc hs' => ?_⟩
      simp only [if_true] at hc
      cases hc
      cases hs'
      exact ⟨Nat.le_refl _, fun _ => by simp⟩
theorem OpOK.storeElem {T : TypeId} {x y : Operand} {n : Name} {len i k es : Nat} {rows : List (List PV)} {row row' : List PV} {vs : List AV} {ps : List PV} {v : AV} (hdst : o.dst = none) (ho : o.op = .store T x y) (hx : evalO rd x = some (.aref n len i k)) (hy : evalO rd y = some v) (hv : cellsAV v = some vs)
    (hp : pureL vs = some ps) (hlen : Nat.beq len rows.length = true) (hi : rows[i]? = some row) (hz : sizeT P T = some vs.length) (hl : Nat.ble (k + vs.length) row.length = true) (hc : setAt row k ps = row') {rows' : List (List PV)} (hr' : rows.set i row' = rows') :
    OpOK P o ⟨rd, [(n, .arr es rows)], .any, [(n, .arr es rows')], []⟩ :=
  OpOK.wr hdst fun Γ ρ M s a w hs hh => by
    subst hr'; subst hc
    have hr := evalO_R hs hh hx
    simp only [AV.R] at hr
    have hn := hh.hp n _ (by simp : (n, AO.arr es rows) ∈ _)
    have hle := Nat.eq_of_beq_eq_true hlen
    obtain ⟨b, hb, hu⟩ := (hr.2 _ es rows.length hn rfl).2 hle
    obtain ⟨hes, hcap, hobj⟩ := hs.objs n _ hn
    have hil : i < rows.length := by
      rcases Nat.lt_or_ge i rows.length with h' | h'
      · exact h'
      · rw [List.getElem?_eq_none h'] at hi; simp at hi
    rcases hobj with hobj | ⟨b', t, cs, h3, h4, h5, h6, h7⟩
    · omega
    · have e : b' = b := by rw [hb] at h3; simpa using h3.symm
      subst e
      have hvs := cellsAV_R hv (evalO_R hs hh hy)
      rw [pureL_spec hp] at hvs hz hl
      have hlen2 := hvs.length
      simp only [Array.length_toList] at hlen2
      have hpl : (pcells ps).length = ps.length := by simp [pcells]
      rw [hpl] at hlen2 hz hl
      have hl' := Nat.le_of_ble_eq_true hl
      obtain ⟨cr, m1, m2, m3⟩ := RR.of_Rows (ρ := ρ) (H := s.heap) h7
      have hrl := m2 row (List.mem_of_getElem? hi)
      have hbound : i * es + es ≤ cs.size := by
        rw [h6, ← Nat.succ_mul]; exact Nat.mul_le_mul_right es (by omega)
      have hrun := run_storeVar (P := P) (T := T) (b := b') (k := i * es + k) (u := a.eval y) (w := w) (by rw [hz, hlen2]) h5 (by omega) (Rs_one hvs)
      refine ⟨w.setRow b' (setAt cs.toList (i * es + k) (a.eval y).cells.toList).toArray, (fun m => if m = n then ρ n else ρ m), M, ?_, ?_⟩
      · simp [execOp, ho, hu, Instr.storeAt, Instr.sureAddr, hrun]
      · have hblk : (ρ n).blk = some b' := by
          have : (ρ n).cap ≠ 0 := by omega
          simp [Loc.blk, this, h3]
        have he : Ext (fun b => b = b') w (w.setRow b' (setAt cs.toList (i * es + k) (a.eval y).cells.toList).toArray) := ⟨by simp [World.setRow], fun b hb hne => setRow_other w b' b _ hne, rfl, rfl⟩
        have hM : M b' := h4
        refine hs.update1 (he.weaken fun b _ hb => ⟨by rw [hblk, hb], by rw [hn]; simp⟩) (fun _ hb => hb) (fun _ hb => .inl hb) (fun b hb => Nat.lt_of_lt_of_le (hs.msize b hb) he.size)
          (fun o' ho' => by rw [hn] at ho'; cases ho'; simp [stays]) (fun h0 => by rw [hn] at h0; simp at h0) ?_ (fun b hb => .inl ⟨_, hn, hb⟩)
        refine ⟨hes, by simpa using hcap, .inr ⟨b', t, _, by simp [h3], hM, setRow_heap w b' cs _ t (0, 0) h5, ?_, ?_⟩⟩
        · simp only [if_true, List.size_toArray, setAt, List.length_append, List.length_take, List.length_drop, Array.length_toList, ← h6, hlen2]
          omega
        · have stv : ∀ {xs : List PV} {us : List Value}, AV.Rs ρ s.heap M w (pcells xs) us → PV.Rows M (w.setRow b' (setAt cs.toList (i * es + k) (a.eval y).cells.toList).toArray) b' es 0 [] := fun _ => by simp [PV.Rows]
          have hmono : ∀ {x : PV} {u : Value}, x.R M w u → x.R M (w.setRow b' (setAt cs.toList (i * es + k) (a.eval y).cells.toList).toArray) u := fun h => h.mono he (fun b hb => by rw [hb]; exact hM) (fun b _ hb => hb)
          have hcell : ∀ j, (w.setRow b' (setAt cs.toList (i * es + k) (a.eval y).cells.toList).toArray).cell? ⟨b', j, none⟩ = (setAt cs.toList (i * es + k) (a.eval y).cells.toList)[j]? := fun j => by
            rw [cell_setRow_same w b' j cs _ t (0, 0) h5, List.getElem?_toArray]
          have hold : ∀ j, w.cell? ⟨b', j, none⟩ = cs.toList[j]? := fun j => by simp [World.cell?, h5]
          have hset : ∀ j, (setAt cs.toList (i * es + k) (a.eval y).cells.toList)[j]? = if i * es + k ≤ j ∧ j < i * es + k + ps.length then (a.eval y).cells.toList[j - (i * es + k)]? else cs.toList[j]? := fun j => by
            have htl : (List.take (i * es + k) cs.toList).length = i * es + k := by simp; omega
            unfold setAt
            by_cases c1 : j < i * es + k
            · rw [if_neg (by omega), List.append_assoc, List.getElem?_append_left (by omega), List.getElem?_take_of_lt c1]
            · by_cases c2 : j < i * es + k + ps.length
              · rw [if_pos ⟨by omega, c2⟩, List.append_assoc, List.getElem?_append_right (by omega), List.getElem?_append_left (by simp; omega), htl]
              · rw [if_neg (by omega), List.getElem?_append_right (by simp; omega), List.getElem?_drop]
                congr 1
                simp; omega
          refine PV.Rows.of_get fun i' r' hi' => ?_
          rw [List.getElem?_set] at hi'
          by_cases e : i = i'
          · subst e
            simp only [if_true, hil] at hi'
            cases hi'
            have hsl : (setAt row k ps).length = es := by simp [setAt, hrl]; omega
            refine ⟨hsl, PV.Cells.of_get fun j c hj => ?_⟩
            have hj' : j < es := by
              rcases Nat.lt_or_ge j (setAt row k ps).length with h' | h'
              · omega
              · rw [List.getElem?_eq_none h'] at hj; simp at hj
            rw [hcell, hset]
            obtain ⟨_, g2⟩ := h7.get i row hi
            unfold setAt at hj
            have htl : (List.take k row).length = k := by simp; omega
            by_cases c1 : j < k
            · rw [if_neg (by omega)]
              rw [List.append_assoc, List.getElem?_append_left (by omega), List.getElem?_take_of_lt c1] at hj
              obtain ⟨u, hu', hr'⟩ := g2.get j c hj
              rw [hold] at hu'
              exact ⟨u, hu', hmono hr'⟩
            · by_cases c2 : j < k + ps.length
              · rw [if_pos ⟨by omega, by omega⟩]
                rw [List.append_assoc, List.getElem?_append_right (by omega), List.getElem?_append_left (by omega), htl] at hj
                obtain ⟨u, hu', _, hr'⟩ := hvs.get (j - k) (.p c) (by simp [pcells, hj])
                simp only [AV.R] at hr'
                refine ⟨u, ?_, hmono hr'⟩
                rw [← hu']
                congr 1
                omega
              · rw [if_neg (by omega)]
                rw [List.getElem?_append_right (by simp; omega), List.getElem?_drop] at hj
                obtain ⟨u, hu', hr'⟩ := g2.get j c (by rw [← hj]; congr 1; simp; omega)
                rw [hold] at hu'
                exact ⟨u, hu', hmono hr'⟩
          · rw [if_neg e] at hi'
            obtain ⟨g1, g2⟩ := h7.get i' r' hi'
            refine ⟨g1, PV.Cells.of_get fun j c hj => ?_⟩
            have hj' : j < es := by
              rcases Nat.lt_or_ge j r'.length with h' | h'
              · omega
              · rw [List.getElem?_eq_none h'] at hj; simp at hj
            obtain ⟨u, hu', hr'⟩ := g2.get j c hj
            rw [hcell, hset, if_neg ?_]
            · rw [hold] at hu'
              exact ⟨u, hu', hmono hr'⟩
            · intro ⟨c1, c2⟩
              rcases Nat.lt_or_gt_of_ne e with h' | h'
              · have : (i + 1) * es ≤ i' * es := Nat.mul_le_mul_right es h'
                rw [Nat.succ_mul] at this
                omega
              · have : (i' + 1) * es ≤ i * es := Nat.mul_le_mul_right es h'
                rw [Nat.succ_mul] at this
                omega
mutual
def AV.closed (ks : List Name) : AV → Bool
  | .p _ => true
  | .agg cs => AV.closedL ks cs
  | .ref m _ => ks.contains m
  | .own m _ => ks.contains m
  | .aref m _ _ _ => ks.contains m
  | .view m _ _ _ => ks.contains m
  | .eptr _ => true
  | .tup vs => AV.closedL ks vs
  | .clo _ fs caps => AV.closedL ks fs && AV.closedL ks caps
  | .oref _ m => ks.contains m
  | .err _ => true
  | .ub => true
  | .any => true
def AV.closedL (ks : List Name) : List AV → Bool
  | [] => true
  | x :: xs => AV.closed ks x && AV.closedL ks xs
end
mutual
theorem AV.closed_has {ks : List Name} {n : Name} : ∀ {x : AV}, x.closed ks = true → x.has n = true → n ∈ ks
  | .p _, _, h => by simp [AV.has] at h
  | .agg cs, h, h' => AV.closedL_has (xs := cs) (by simpa only [AV.closed] using h) (by simpa only [AV.has] using h')
  | .ref m _, h, h' => by simp only [AV.has, beq_iff_eq] at h'; subst h'; simpa [AV.closed] using h
  | .own m _, h, h' => by simp only [AV.has, beq_iff_eq] at h'; subst h'; simpa [AV.closed] using h
  | .view m _ _ _, h, h' => by simp only [AV.has, beq_iff_eq] at h'; subst h'; simpa [AV.closed] using h
  | .aref m _ _ _, h, h' => by simp only [AV.has, beq_iff_eq] at h'; subst h'; simpa [AV.closed] using h
  | .eptr _, _, h => by simp [AV.has] at h
  | .tup vs, h, h' => AV.closedL_has (xs := vs) (by simpa only [AV.closed] using h) (by simpa only [AV.has] using h')
  | .clo _ fs caps, h, h' => by
    simp only [AV.closed, Bool.and_eq_true] at h
    simp only [AV.has, Bool.or_eq_true] at h'
    rcases h' with h' | h'
    · exact AV.closedL_has h.1 h'
    · exact AV.closedL_has h.2 h'
  | .oref _ m, h, h' => by simp only [AV.has, beq_iff_eq] at h'; subst h'; simpa [AV.closed] using h
  | .err _, _, h => by simp [AV.has] at h
  | .ub, _, h => by simp [AV.has] at h
  | .any, _, h => by simp [AV.has] at h
theorem AV.closedL_has {ks : List Name} {n : Name} : ∀ {xs : List AV}, AV.closedL ks xs = true → AV.hasL n xs = true → n ∈ ks
  | [], _, h => by simp [AV.hasL] at h
  | x :: xs, h, h' => by
    simp only [AV.closedL, Bool.and_eq_true] at h
    simp only [AV.hasL, Bool.or_eq_true] at h'
    rcases h' with h' | h'
    · exact AV.closed_has h.1 h'
    · exact AV.closedL_has h.2 h'
end
def AO.closed (ks : List Name) : AO → Bool
  | .box cells => AV.closedL ks cells
  | .arr _ _ => true
  | .hole _ _ row _ => AV.closedL ks row
  | .fact a _ => a.closed ks
  | .obj _ => true
theorem AO.closed_has {ks : List Name} {n : Name} {ob : AO} (h : ob.closed ks = true) (h' : ob.has n = true) : n ∈ ks := by
  cases ob with
  | box cells => exact AV.closedL_has h h'
  | arr es rows => simp [AO.has] at h'
  | hole es pre row post => exact AV.closedL_has h h'
  | fact a x => exact AV.closed_has h h'
  | obj x => simp [AO.has] at h'
def callOK (pre h : List (Name × AO)) (nw : List Name) (v : AV) : Bool :=
  (keys h).all (fun n => (keys pre).contains n || nw.contains n) && nw.all (fun n => (keys h).contains n && !(keys pre).contains n) && v.closed (keys h) && h.all (fun p => p.2.closed (keys h))
theorem ObjAt.blk_size {ρ : Name → Loc} {H : Heap} {M : Nat → Prop} {w : World} {n : Name} {ob : AO} (h : ObjAt ρ H M w n ob) {b : Nat} (hb : (ρ n).blk = some b) : b < w.heap.size := by
  cases ob with
  | box cells =>
    obtain ⟨b', T, cs, h1, h2, h3, h4⟩ := h
    rw [h1] at hb; simp [Loc.blk] at hb; subst hb
    exact (Array.getElem?_eq_some_iff.1 h3).1
  | arr es rows =>
    obtain ⟨h0, h1, h2⟩ := h
    rcases h2 with h2 | ⟨b', T, cs, h3, h4, h5, h6⟩
    · simp [Loc.blk, h2] at hb
    · unfold Loc.blk at hb
      split at hb
      · simp at hb
      · rw [h3] at hb; simp at hb; subst hb; exact (Array.getElem?_eq_some_iff.1 h5).1
  | hole es pre row post =>
    obtain ⟨_, _, h1, b', T, cs, h3, h4, h5, _⟩ := h
    unfold Loc.blk at hb
    rw [if_neg (by omega), h3] at hb
    simp at hb; subst hb; exact (Array.getElem?_eq_some_iff.1 h5).1
  | fact a x => simp [Loc.blk, h.1] at hb
  | obj x =>
    obtain ⟨b', h1, h2, h3⟩ := h
    rw [h1] at hb; simp [Loc.blk] at hb; subst hb
    exact (Array.getElem?_eq_some_iff.1 h3).1
theorem look_keys {α : Type} {n : Nat} : ∀ {l : List (Nat × α)}, n ∈ keys l → ∃ x, look n l = some x
  | [], h => by simp [keys] at h
  | (k, y) :: r, h => by
    simp only [keys, List.map_cons, List.mem_cons] at h
    simp only [look]
    split
    · exact ⟨y, rfl⟩
    · rename_i hne
      rcases h with h | h
      · exact absurd h.symm hne
      · exact look_keys h
theorem Sim.after {Γ : Ctx} {ρ : Name → Loc} {M : Nat → Prop} {s : AS} {a : Act} {w : World} (hs : Sim Γ ρ M s a w) {pre h : List (Name × AO)} {nw : List Name} {v : AV} {u : Value} {ρ' : Name → Loc} {w' : World}
    (hpre : ∀ n ob, look n pre = some ob → s.heap n = some ob) (hnw : ∀ n, n ∈ nw → s.heap n = none ∧ s.free n) (hok : callOK pre h nw v = true) (ha : After ρ M w pre u v h ρ' w') :
    Sim Γ (fun m => if (keys h).contains m then ρ' m else ρ m) (newM M ρ' h) ⟨s.slot, fun m => match look m h with | some ob => some ob | none => s.heap m⟩ a w' ∧
      v.R (fun m => if (keys h).contains m then ρ' m else ρ m) (fun m => match look m h with | some ob => some ob | none => s.heap m) (newM M ρ' h) w' u := by
  simp only [callOK, Bool.and_eq_true, List.all_eq_true, Bool.or_eq_true, List.contains_eq_mem, decide_eq_true_eq, Bool.not_eq_true', decide_eq_false_iff_not] at hok
  obtain ⟨⟨⟨hk1, hk2⟩, hk3⟩, hk4⟩ := hok
  have hin : ∀ n ob, look n h = some ob → n ∈ keys h := fun n ob hn => keys_of_look (by rw [hn]; simp)
  have hstep0 : HStep ρ' (lookH h) (fun m => if (keys h).contains m then ρ' m else ρ m) (fun m => match look m h with | some ob => some ob | none => s.heap m) := fun n ob hn => by
    change look n h = some ob at hn
    simp only [hn, List.contains_eq_mem, decide_eq_true (hin n ob hn), if_true]
    exact stays_refl _ _
  have hclosed : ∀ n, n ∈ keys h → lookH h n = none → (match look n h with | some ob => some ob | none => s.heap n) = none := fun n hn hnone => by
    obtain ⟨x, hx⟩ := look_keys hn
    change look n h = none at hnone
    rw [hx] at hnone; simp at hnone
  have hconvM : ∀ b, newM M ρ' h b → newM M ρ' h b := fun _ hb => hb
  have hval : v.R (fun m => if (keys h).contains m then ρ' m else ρ m) (fun m => match look m h with | some ob => some ob | none => s.heap m) (newM M ρ' h) w' u :=
    ha.val.step (Ext.refl (fun _ => False) _) (fun _ hb => hb.elim) (fun b _ hb => hb) hstep0 (fun n hn hnone => hclosed n (AV.closed_has hk3 hn) hnone)
  refine ⟨?_, hval⟩
  have hlt : ∀ m o' b, s.heap m = some o' → (ρ m).blk = some b → b < w.heap.size ∧ M b := fun m o' b h1 h2 => (hs.objs m o' h1).blk_lt hs.msize h2
  have hhad : ∀ n ob o', look n h = some ob → s.heap n = some o' → look n pre = some o' := fun n ob o' h1 h2 => by
    rcases hk1 n (hin n ob h1) with h3 | h3
    · obtain ⟨x, hx⟩ := look_keys h3
      have := hpre n x hx
      rw [h2] at this; cases this; exact hx
    · have := (hnw n h3).1; rw [h2] at this; simp at this
  refine hs.update (ha.ext.weaken fun b _ ⟨n, ob, h1, h2⟩ => ⟨n, ob, hpre n ob h1, h2⟩) (fun b hb => .inl hb) (fun b hb => ?_) (fun b hb => ?_) (fun n ob hn => ?_) (fun n hn => ?_) (fun n hn hn' => ?_) (fun n ob hn => ?_) (fun n m o1 o2 b h1 h2 h3 h4 => ?_)
  · rcases hb with hb | ⟨n, ob, h1, h2⟩
    · exact .inl hb
    · rcases ha.own n ob b h1 h2 with ⟨o', h3, h4⟩ | h3
      · exact .inl (hlt n o' b (hpre n o' h3) h4).2
      · exact .inr h3
  · rcases hb with hb | ⟨n, ob, h1, h2⟩
    · exact Nat.lt_of_lt_of_le (hs.msize b hb) ha.ext.size
    · exact (ha.objs n ob h1).blk_size h2
  · cases hl : look n h with
    | none =>
      have : n ∉ keys h := fun hk => by obtain ⟨x, hx⟩ := look_keys hk; rw [hl] at hx; simp at hx
      simp only [hn, List.contains_eq_mem, decide_eq_false this]
      exact stays_refl _ _
    | some ob' =>
      have hp := hhad n ob' ob hl hn
      obtain ⟨o2, h1, h2⟩ := ha.keep n ob hp
      rw [hl] at h1; cases h1
      simp only [List.contains_eq_mem, decide_eq_true (hin n ob' hl), if_true]
      exact h2
  · obtain ⟨ob, h1, _⟩ := hs.keep n hn
    cases hl : look n h <;> simp [h1]
  · cases hl : look n h with
    | none => simp [hl, hn] at hn'
    | some ob =>
      rcases hk1 n (hin n ob hl) with h3 | h3
      · obtain ⟨x, hx⟩ := look_keys h3
        have := hpre n x hx
        rw [hn] at this; simp at this
      · exact (hnw n h3).2
  · cases hl : look n h with
    | none =>
      have hk : n ∉ keys h := fun hk => by obtain ⟨x, hx⟩ := look_keys hk; rw [hl] at hx; simp at hx
      simp only [hl] at hn
      refine .inl ⟨hn, by simp [hk], fun b hb => ?_⟩
      refine ha.ext.same b (hlt n ob b hn hb).1 (fun ⟨m, o', g1, g2⟩ => ?_)
      have := hs.inj n m ob o' b hn (hpre m o' g1) hb g2
      subst this
      obtain ⟨o2, h1, _⟩ := ha.keep n o' g1
      rw [hl] at h1; simp at h1
    | some ob' =>
      simp only [hl] at hn
      cases hn
      have hk := hin n ob hl
      refine .inr ⟨?_, fun b hb => ?_⟩
      · have h0 := ha.objs n ob hl
        refine h0.step (Ext.refl (fun _ => False) _) (fun _ hb => hb.elim) (fun b _ hb => hb) (fun b hb => hb) hstep0 (fun m hm hnone => ?_) (by simp [hk]) (fun b _ => rfl) (fun b hb => ?_)
        · exact hclosed m (AO.closed_has (hk4 _ (look_mem hl)) hm) hnone
        · rcases hb with hb | ⟨n, ob, h1, h2⟩
          · exact Nat.lt_of_lt_of_le (hs.msize b hb) ha.ext.size
          · exact (ha.objs n ob h1).blk_size h2
      · simp only [List.contains_eq_mem, decide_eq_true hk, if_true] at hb
        rcases ha.own n ob b hl hb with ⟨o', h3, h4⟩ | h3
        · exact .inl ⟨o', hpre n o' h3, h4⟩
        · exact .inr h3
  · cases hl : look n h with
    | none =>
      have hk : n ∉ keys h := fun hk => by obtain ⟨x, hx⟩ := look_keys hk; rw [hl] at hx; simp at hx
      simp only [hl] at h1
      simp only [List.contains_eq_mem, decide_eq_false hk, Bool.false_eq_true, if_false] at h3
      cases hl' : look m h with
      | none =>
        have hk' : m ∉ keys h := fun hk => by obtain ⟨x, hx⟩ := look_keys hk; rw [hl'] at hx; simp at hx
        simp only [hl'] at h2
        simp only [List.contains_eq_mem, decide_eq_false hk', Bool.false_eq_true, if_false] at h4
        exact hs.inj n m o1 o2 b h1 h2 h3 h4
      | some ob' =>
        have hk' := hin m ob' hl'
        simp only [List.contains_eq_mem, decide_eq_true hk', if_true] at h4
        exfalso
        rcases ha.own m ob' b hl' h4 with ⟨o', g1, g2⟩ | g
        · have := hs.inj n m o1 o' b h1 (hpre m o' g1) h3 g2
          subst this; rw [hl] at hl'; simp at hl'
        · have := (hlt n o1 b h1 h3).1; omega
    | some ob =>
      have hk := hin n ob hl
      simp only [List.contains_eq_mem, decide_eq_true hk, if_true] at h3
      cases hl' : look m h with
      | none =>
        have hk' : m ∉ keys h := fun hk => by obtain ⟨x, hx⟩ := look_keys hk; rw [hl'] at hx; simp at hx
        simp only [hl'] at h2
        simp only [List.contains_eq_mem, decide_eq_false hk', Bool.false_eq_true, if_false] at h4
        exfalso
        rcases ha.own n ob b hl h3 with ⟨o', g1, g2⟩ | g
        · have := hs.inj m n o2 o' b h2 (hpre n o' g1) h4 g2
          subst this; rw [hl'] at hl; simp at hl
        · have := (hlt m o2 b h2 h4).1; omega
      | some ob' =>
        have hk' := hin m ob' hl'
        simp only [List.contains_eq_mem, decide_eq_true hk', if_true] at h4
        exact ha.inj n m ob ob' b hl hl' h3 h4
theorem Sim.grounded {Γ : Ctx} {ρ : Name → Loc} {M : Nat → Prop} {s : AS} {a : Act} {w : World} {pre : List (Name × AO)} (hs : Sim Γ ρ M s a w) (hpre : ∀ n ob, look n pre = some ob → s.heap n = some ob) :
    Ground Γ.G w (fun b => ∃ n o, look n pre = some o ∧ (ρ n).blk = some b) :=
  ⟨hs.ground.laid, Nat.le_trans hs.ground.size hs.ext.size, fun b hb => by
    rw [hs.ext.same b (Nat.lt_of_lt_of_le hb hs.ground.size) (fun hB => by have := hs.ground.out b hB; omega)]; exact hs.ground.same b hb,
   fun b ⟨n, o, hn, hb⟩ => by
    rcases hs.own0 n o b (hpre n o hn) hb with ⟨h1, h2⟩ | h1
    · exact hs.ground.out b ⟨n, h1, h2⟩
    · exact Nat.le_trans hs.ground.size h1⟩
theorem call_core {f : FuncId} {args : List AV} {pre h : List (Name × AO)} {v : AV} {nw : List Name} {hrd : List (Nat × AV)}
    (hrun : ∀ (Γ : Ctx) (ρ : Name → Loc) (M : Nat → Prop) (s : AS) (a : Act) (w : World), Sim Γ ρ M s a w → s.holds ⟨rd, pre, v, h, nw⟩ → ∃ us : List Value, AV.Ts ρ s.heap M w args us ∧ (execOp a.eval o).run P w = .ok (.enter f us.toArray) w)
    (hspec : SpecIs P f args pre v h) (hok : callOK pre h nw v = true) : OpOK P o ⟨rd, pre, v, h, nw⟩ := by
  intro Γ ρ M s a w K Q hs hh hd hK
  obtain ⟨us, h1, h2⟩ := hrun Γ ρ M s a w hs hh
  have hpre : ∀ n ob, look n pre = some ob → s.heap n = some ob := fun n ob hn => hh.hp n ob (look_mem hn)
  have hstep : HStep ρ s.heap ρ (lookH pre) := fun n ob hn => by
    cases hc : lookH pre n with
    | none => cases ob <;> simp [stays]
    | some o' => have := hpre n o' hc; rw [hn] at this; cases this; exact stays_refl _ _
  have hnone : ∀ n, s.heap n = none → lookH pre n = none := fun n hn => by
    cases hc : lookH pre n with
    | none => rfl
    | some o' => have := hpre n o' hc; rw [hn] at this; simp at this
  unfold Oper.wp
  rw [h2, Oper.upon_enter]
  refine (hspec Γ.G ρ M w us (hs.grounded hpre) hs.msize (AV.Ts.step (Ext.refl (fun _ => False) _) (fun _ hb => hb.elim) (fun b _ hb => hb) hstep (fun n _ => hnone n) h1) (fun n ob hn => ?_) (fun n m o1 o2 b g1 g2 => hs.inj n m o1 o2 b (hpre _ _ g1) (hpre _ _ g2))).mono ?_
  · refine (hs.objs n ob (hpre n ob hn)).step (Ext.refl (fun _ => False) _) (fun _ hb => hb.elim) (fun b _ hb => hb) (fun b hb => hb) hstep (fun m _ => hnone m) rfl (fun _ _ => rfl) hs.msize
  · rintro e w' ⟨u, v', h', ρ', rfl, ⟨rfl, rfl⟩, ha⟩
    obtain ⟨k1, k2⟩ := hs.after hpre hh.nw hok ha
    exact hK _ _ _ w' ((k1.put hd (fun _ => k2)).congr (fun t => rfl) (fun m => rfl))
def callable (P : Program) (f : FuncId) : Bool := match P.funcs[f]? with
  | some fn => !(fn.name == "runtime.NumGoroutine") && fn.body.isSome
  | none => false
theorem run_callFunc {f : FuncId} (h : callable P f = true) (args : Array Value) (w : World) : (callFunc f args).run P w = .ok (.enter f args) w := by
  unfold callable at h
  cases hf : P.funcs[f]? with
  | none => simp [hf] at h
  | some fn =>
    simp only [hf, Bool.and_eq_true, Bool.not_eq_true'] at h
    have hb : fn.body.isNone = false := by cases hc : fn.body <;> simp_all
    simp only [callFunc, Sem.run_bind, run_program, Result.andThen_ok, hf, h.1, hb, Bool.false_eq_true, if_false]
    rfl
theorem OpOK.call {f : FuncId} {argOps : Array Operand} {ats : Array TypeId} {args : List AV} {pre h : List (Name × AO)} {v : AV} {nw : List Name}
    (ho : o.op = .call { callee := .value (.func f), args := argOps, argTypes := ats }) (hf : callable P f = true) (hargs : evalL rd argOps.toList = some args)
    (hspec : SpecIs P f args pre v h) (hok : callOK pre h nw v = true) : OpOK P o ⟨rd, pre, v, h, nw⟩ :=
  call_core (hrd := rd) (fun Γ ρ M s a w hs hh => ⟨argOps.toList.map a.eval, evalL_R hs hh hargs, by
    have e : (argOps.toList.map a.eval).toArray = argOps.map a.eval := by rw [← Array.toList_map]
    rw [e]
    simp [execOp, ho, resolve, Deferred.ofValue, Act.eval, invoke, run_callFunc hf]⟩) hspec hok
end
end Go.Proofs.YtfhcigjkfelnfaaGreat.AM
/-
  The abstract machine, part K: a state said in less or other words; an array that is frozen. No project text.
-/
set_option linter.unusedSimpArgs false
set_option linter.unusedVariables false
namespace Go.Proofs.YtfhcigjkfelnfaaGreat.AM
open Go
def Weak (Γ : Ctx) (s s' : AS) : Prop := ∀ (ρ : Name → Loc) (M : Nat → Prop) (a : Act) (w : World), Sim Γ ρ M s a w → ∃ ρ' M', Sim Γ ρ' M' s' a w
theorem AWp.weaken {P : Program} {Γ : Ctx} {c : Code} {s : AS} {Q : Exit → AS → Prop} (s' : AS) (h : Weak Γ s s') (h' : AWp P Γ c s' Q) : AWp P Γ c s Q := fun ρ M a w hs => by
  obtain ⟨ρ', M', hs'⟩ := h ρ M a w hs
  exact h' ρ' M' a w hs'
theorem AWp.post {P : Program} {Γ : Ctx} {c : Code} {s : AS} {Q : Exit → AS → Prop} (h : AWp P Γ c s fun e s' => ∃ s'', Weak Γ s' s'' ∧ Q e s'') : AWp P Γ c s Q := fun ρ M a w hs =>
  wp_mono (h ρ M a w hs) fun e a' w' ⟨s', ρ', M', ⟨s'', h1, h2⟩, h3⟩ => by
    obtain ⟨ρ2, M2, h4⟩ := h1 ρ' M' a' w' h3
    exact ⟨s'', ρ2, M2, h2, h4⟩
theorem Weak.refl (Γ : Ctx) (s : AS) : Weak Γ s s := fun ρ M a w h => ⟨ρ, M, h⟩
theorem Weak.trans {Γ : Ctx} {s s' s'' : AS} (h : Weak Γ s s') (h' : Weak Γ s' s'') : Weak Γ s s'' := fun ρ M a w hs => by
  obtain ⟨ρ', M', h1⟩ := h ρ M a w hs
  exact h' ρ' M' a w h1
def PVle (x y : PV) : Prop := ∀ (M : Nat → Prop) (w : World) (u : Value), x.R M w u → y.R M w u
theorem PVle.refl (x : PV) : PVle x x := fun _ _ _ h => h
def CsLe : List PV → List PV → Prop
  | [], [] => True
  | x :: xs, y :: ys => PVle x y ∧ CsLe xs ys
  | _, _ => False
def RowsLe : List (List PV) → List (List PV) → Prop
  | [], [] => True
  | r :: rs, q :: qs => CsLe r q ∧ RowsLe rs qs
  | _, _ => False
theorem CsLe.refl : ∀ (cs : List PV), CsLe cs cs
  | [] => trivial
  | x :: xs => ⟨PVle.refl x, CsLe.refl xs⟩
theorem RowsLe.refl : ∀ (rs : List (List PV)), RowsLe rs rs
  | [] => trivial
  | x :: xs => ⟨CsLe.refl x, RowsLe.refl xs⟩
theorem RowsLe.append : ∀ {a b c d : List (List PV)}, RowsLe a b → RowsLe c d → RowsLe (a ++ c) (b ++ d)
  | [], [], c, d, _, h => h
  | x :: xs, y :: ys, c, d, h, h' => ⟨h.1, RowsLe.append h.2 h'⟩
  | [], _ :: _, _, _, h, _ => h.elim
  | _ :: _, [], _, _, h, _ => h.elim
theorem CsLe.length : ∀ {cs ds : List PV}, CsLe cs ds → cs.length = ds.length
  | [], [], _ => rfl
  | x :: xs, y :: ys, h => by simp [CsLe.length h.2]
  | [], _ :: _, h => h.elim
  | _ :: _, [], h => h.elim
theorem RowsLe.length : ∀ {cs ds : List (List PV)}, RowsLe cs ds → cs.length = ds.length
  | [], [], _ => rfl
  | x :: xs, y :: ys, h => by simp [RowsLe.length h.2]
  | [], _ :: _, h => h.elim
  | _ :: _, [], h => h.elim
theorem CsLe.cells {M : Nat → Prop} {w : World} {b : Nat} : ∀ {off : Nat} {cs ds : List PV}, CsLe cs ds → PV.Cells M w b off cs → PV.Cells M w b off ds
  | _, [], [], _, h => h
  | off, x :: xs, y :: ys, h, h' => by
    simp only [PV.Cells] at h' ⊢
    obtain ⟨⟨u, hu, hr⟩, h2⟩ := h'
    exact ⟨⟨u, hu, h.1 _ _ _ hr⟩, CsLe.cells h.2 h2⟩
  | _, [], _ :: _, h, _ => h.elim
  | _, _ :: _, [], h, _ => h.elim
theorem RowsLe.rows {M : Nat → Prop} {w : World} {b es : Nat} : ∀ {off : Nat} {cs ds : List (List PV)}, RowsLe cs ds → PV.Rows M w b es off cs → PV.Rows M w b es off ds
  | _, [], [], _, h => h
  | off, x :: xs, y :: ys, h, h' => by
    simp only [PV.Rows] at h' ⊢
    exact ⟨h.1.length ▸ h'.1, CsLe.cells h.1 h'.2.1, RowsLe.rows h.2 h'.2.2⟩
  | _, [], _ :: _, h, _ => h.elim
  | _, _ :: _, [], h, _ => h.elim
theorem PVle.sl {f f' : Bool} {es : Nat} {rs qs : List (List PV)} (hf : f' = true → f = true) (h : RowsLe rs qs) : PVle (.sl f es rs) (.sl f' es qs) := fun M w u hr => by
  simp only [PV.R] at hr ⊢
  obtain ⟨a, cap, h1, h2, h3, h4, h5⟩ := hr
  refine ⟨a, cap, by rw [← h.length]; exact h1, by rw [← h.length]; exact h2, fun hf' => by rw [← h.length]; exact h3 (hf hf'), h4, fun ad had hc => ?_⟩
  obtain ⟨g1, g2, g3, g4⟩ := h5 ad had hc
  exact ⟨g1, g2, g3, h.rows g4⟩
theorem PVle.full {es : Nat} {rs : List (List PV)} (f : Bool) : PVle (.sl f es rs) (.sl false es rs) := PVle.sl (fun h => by simp at h) (RowsLe.refl rs)
theorem PVle.nil {f f' : Bool} {es es' : Nat} (hf : f' = true → f = true) : PVle (.sl f es []) (.sl f' es' []) := fun M w u hr => by
  simp only [PV.R, PV.Rows] at hr ⊢
  obtain ⟨a, cap, h1, h2, h3, h4, h5⟩ := hr
  exact ⟨a, cap, h1, h2, fun hf' => h3 (hf hf'), h4, h5⟩
mutual
inductive AVle : AV → AV → Prop
  | refl (x : AV) : AVle x x
  | p {x y : PV} (h : PVle x y) : AVle (.p x) (.p y)
  | agg {xs ys : List AV} (h : AVleL xs ys) : AVle (.agg xs) (.agg ys)
  | any {x : AV} (h : (cellsAV x).isSome = true) (h2 : ∀ cs, x ≠ .agg cs) : AVle x .any
  /-- A header of the whole array is a view of it. -/
  | view (n : Name) (len : Nat) : AVle (.own n len) (.view n len 0 len)
inductive AVleL : List AV → List AV → Prop
  | nil : AVleL [] []
  | cons {x y : AV} {xs ys : List AV} (h : AVle x y) (h' : AVleL xs ys) : AVleL (x :: xs) (y :: ys)
end
theorem AVle.sound {ρ : Name → Loc} {H : Heap} {M : Nat → Prop} {w : World} {x y : AV} (h : AVle x y) : ∀ u, x.R ρ H M w u → y.R ρ H M w u := by
  refine AVle.rec (motive_1 := fun x y _ => ∀ u, x.R ρ H M w u → y.R ρ H M w u) (motive_2 := fun xs ys _ => ∀ us, AV.Rs ρ H M w xs us → AV.Rs ρ H M w ys us) ?_ ?_ ?_ ?_ ?_ ?_ ?_ h
  · exact fun x u hr => hr
  · intro x y hxy u hr
    simp only [AV.R] at hr ⊢
    exact hxy _ _ _ hr
  · intro xs ys _ ih u hr
    simp only [AV.R] at hr ⊢
    obtain ⟨us, h1, h2⟩ := hr
    exact ⟨us, h1, ih _ h2⟩
  · intro x hx hne u hr
    have : ∀ cs, cellsAV x = some cs → x.R ρ H M w u → u.oneCell' = true := by
      intro cs hcs hr
      have h1 := cellsAV_R hcs hr
      cases x with
      | agg cs => exact absurd rfl (hne cs)
      | tup vs => simp [cellsAV] at hcs
      | p y => simp only [AV.R] at hr; exact hr.flat
      | oref b n => simp only [AV.R] at hr; exact hr.1
      | ref n k => simp only [AV.R] at hr; exact hr.1
      | own n k => simp only [AV.R] at hr; exact hr.1
      | aref n a b c => simp only [AV.R] at hr; exact hr.1
      | view n a b c => simp only [AV.R] at hr; exact hr.1
      | eptr cells => simp only [AV.R] at hr; obtain ⟨ad, rfl, _⟩ := hr; rfl
      | clo f a b => simp only [AV.R] at hr; obtain ⟨a, c, rfl, _⟩ := hr; rfl
      | err b => simp only [AV.R] at hr; exact hr.1
      | ub => simp only [AV.R] at hr; obtain ⟨q, rfl⟩ := hr; rfl
      | any => simpa only [AV.R] using hr
    obtain ⟨cs, hcs⟩ := Option.isSome_iff_exists.1 hx
    simp only [AV.R]
    exact this cs hcs hr
  · intro n len u hr
    have hz : ∀ x : Addr, x.add 0 = x := fun x => by
      obtain ⟨b0, o0, s0⟩ := x
      cases s0 <;> simp [Addr.add]
    simp only [AV.R] at hr ⊢
    refine ⟨hr.1, Nat.zero_le _, Nat.le_refl _, fun o es k ho hsh => ⟨(hr.2 o es k ho hsh).1, fun e => ?_⟩⟩
    rw [(hr.2 o es k ho hsh).2 e]
    cases hb : (ρ n).base with
    | none => simp [viewV]
    | some x => simp [viewV, hz]
  · exact fun us h => h
  · intro a b as1 bs _ _ ih1 ih2 us hr
    simp only [AV.Rs] at hr ⊢
    obtain ⟨u, us', h1, h2, h3, h4⟩ := hr
    exact ⟨u, us', h1, h2, ih1 _ h3, ih2 _ h4⟩
theorem Rs_le {ρ : Name → Loc} {H : Heap} {M : Nat → Prop} {w : World} {xs ys : List AV} (h : AVleL xs ys) : ∀ us, AV.Rs ρ H M w xs us → AV.Rs ρ H M w ys us := by
  intro us hr
  have : AV.R ρ H M w (.agg ys) (.agg us.toArray) := (AVle.agg h).sound _ (by simp only [AV.R]; exact ⟨us.toArray, rfl, by simpa using hr⟩)
  simp only [AV.R] at this
  obtain ⟨us', h1, h2⟩ := this
  cases h1
  simpa using h2
inductive AOle : AO → AO → Prop
  | refl (x : AO) : AOle x x
  | box {xs ys : List AV} (h : AVleL xs ys) : AOle (.box xs) (.box ys)
  | arr {es : Nat} {rs qs : List (List PV)} (h : RowsLe rs qs) : AOle (.arr es rs) (.arr es qs)
  | hole {es : Nat} {pre post : List (List PV)} {xs ys : List AV} (h : AVleL xs ys) : AOle (.hole es pre xs post) (.hole es pre ys post)
  /-- One row of an array comes to the fore. -/
  | focus {es : Nat} {rows pre post : List (List PV)} {r : List PV} {row : List AV} (hr : rows = pre ++ r :: post) (hrow : row = r.map .p) : AOle (.arr es rows) (.hole es pre row post)
  | unfocus {es : Nat} {rows pre post : List (List PV)} {r : List PV} {row : List AV} (hr : rows = pre ++ r :: post) (hrow : row = r.map .p) : AOle (.hole es pre row post) (.arr es rows)
def TsLe : List (Nat × AV) → List (Nat × AV) → Prop
  | [], [] => True
  | (k, x) :: r, (j, y) :: q => k = j ∧ AVle x y ∧ TsLe r q
  | _, _ => False
def HsLe : List (Name × AO) → List (Name × AO) → Prop
  | [], [] => True
  | (k, x) :: r, (j, y) :: q => k = j ∧ AOle x y ∧ HsLe r q
  | _, _ => False
theorem TsLe.look : ∀ {ts ts' : List (Nat × AV)}, TsLe ts ts' → ∀ t y, AM.look t ts' = some y → ∃ x, AM.look t ts = some x ∧ AVle x y
  | [], [], _, t, y, h => by simp [AM.look] at h
  | (k, x) :: r, (j, y0) :: q, h, t, y, hy => by
    obtain ⟨rfl, h2, h3⟩ := h
    simp only [AM.look] at hy ⊢
    split at hy
    · rename_i e; cases hy; exact ⟨x, by simp [e], h2⟩
    · rename_i e; simp only [e, if_false]; exact TsLe.look h3 t y hy
  | [], _ :: _, h, _, _, _ => h.elim
  | _ :: _, [], h, _, _, _ => h.elim
theorem HsLe.look : ∀ {ts ts' : List (Name × AO)}, HsLe ts ts' → ∀ t, (∀ y, AM.look t ts' = some y → ∃ x, AM.look t ts = some x ∧ AOle x y) ∧ (∀ x, AM.look t ts = some x → ∃ y, AM.look t ts' = some y ∧ AOle x y)
  | [], [], _, t => by simp [AM.look]
  | (k, x) :: r, (j, y0) :: q, h, t => by
    obtain ⟨rfl, h2, h3⟩ := h
    simp only [AM.look]
    split
    · exact ⟨fun y hy => by cases hy; exact ⟨x, rfl, h2⟩, fun y hy => by cases hy; exact ⟨y0, rfl, h2⟩⟩
    · exact HsLe.look h3 t
  | [], _ :: _, h, _ => h.elim
  | _ :: _, [], h, _ => h.elim
theorem AVleL.len {xs ys : List AV} (h : AVleL xs ys) : xs.length = ys.length := by
  have := AVleL.rec (motive_1 := fun _ _ _ => True) (motive_2 := fun xs ys _ => xs.length = ys.length) (by intros; trivial) (by intros; trivial) (by intros; trivial) (by intros; trivial) (by intros; trivial) (by rfl) (by intros; simp_all) h
  exact this
theorem stays_of_shape {o o' o2 : AO} {l l' : Loc} {es k : Nat} (h1 : o'.shape = some (es, k)) (h2 : o2.shape = some (es, k)) (hs : stays o l (some o') l') : stays o l (some o2) l' := by
  cases o <;> cases o' <;> cases o2 <;> simp only [stays, AO.shape, reduceCtorEq, Option.some.injEq, Prod.mk.injEq] at h1 h2 hs ⊢
  all_goals (obtain ⟨rfl, e1⟩ := h1; obtain ⟨rfl, e2⟩ := h2; refine ⟨hs.1, by have := hs.2.1; omega, fun e => hs.2.2 (by omega)⟩)
theorem stays_le {o o' o2 : AO} {l l' : Loc} (h : AOle o' o2) (hs : stays o l (some o') l') : stays o l (some o2) l' := by
  cases h with
  | refl => exact hs
  | box h => cases o <;> simp only [stays] at hs ⊢ <;> exact hs
  | arr h => cases o <;> simp only [stays] at hs ⊢ <;> first | exact hs | (rw [← h.length]; exact hs)
  | hole h => exact stays_of_shape rfl rfl hs
  | focus hr hrow => subst hr; exact stays_of_shape (es := _) (k := _) rfl (by simp [AO.shape]; omega) hs
  | unfocus hr hrow => subst hr; exact stays_of_shape (es := _) (k := _) rfl (by simp [AO.shape]; omega) hs
mutual
inductive Frz (px : Value → Prop) (n : Name) (es : Nat) (rows : List (List PV)) : AV → AV → Prop
  | same {x : AV} (h : x.has n = false) : Frz px n es rows x x
  | own : Frz px n es rows (.own n rows.length) (.p (.sl false es rows))
  | view {lo hi : Nat} : Frz px n es rows (.view n rows.length lo hi) (.p (.sl false es ((rows.take hi).drop lo)))
  | pin {x : Value} (h : px x) : Frz px n es rows (.p (.v x)) (.p (.sl false es rows))
  | agg {xs ys : List AV} (h : FrzL px n es rows xs ys) : Frz px n es rows (.agg xs) (.agg ys)
inductive FrzL (px : Value → Prop) (n : Name) (es : Nat) (rows : List (List PV)) : List AV → List AV → Prop
  | nil : FrzL px n es rows [] []
  | cons {x y : AV} {xs ys : List AV} (h : Frz px n es rows x y) (h' : FrzL px n es rows xs ys) : FrzL px n es rows (x :: xs) (y :: ys)
end
def TsFrz (px : Value → Prop) (n : Name) (es : Nat) (rows : List (List PV)) : List (Nat × AV) → List (Nat × AV) → Prop
  | [], [] => True
  | (k, x) :: r, (j, y) :: q => k = j ∧ Frz px n es rows x y ∧ TsFrz px n es rows r q
  | _, _ => False
def RowsPin (px : Value → Prop) (es : Nat) (rows rs qs : List (List PV)) : Prop :=
  rs.length = qs.length ∧ ∀ (i : Nat) (r q : List PV), rs[i]? = some r → qs[i]? = some q → r.length = q.length ∧ ∀ (j : Nat) (c d : PV), r[j]? = some c → q[j]? = some d → c = d ∨ ∃ x, px x ∧ c = .v x ∧ d = .sl false es rows
inductive OFrz (px : Value → Prop) (n : Name) (es : Nat) (rows : List (List PV)) : AO → AO → Prop
  | same {x : AO} (h : x.has n = false) : OFrz px n es rows x x
  | box {xs ys : List AV} (h : FrzL px n es rows xs ys) : OFrz px n es rows (.box xs) (.box ys)
  | hole {es' : Nat} {pre post : List (List PV)} {xs ys : List AV} (h : FrzL px n es rows xs ys) : OFrz px n es rows (.hole es' pre xs post) (.hole es' pre ys post)
  | arr {es' : Nat} {rs qs : List (List PV)} (h : RowsPin px es rows rs qs) : OFrz px n es rows (.arr es' rs) (.arr es' qs)
def HsFrz (px : Value → Prop) (n : Name) (es : Nat) (rows : List (List PV)) : List (Name × AO) → List (Name × AO) → Prop
  | [], [] => True
  | (k, x) :: r, (j, y) :: q => k = j ∧ k ≠ n ∧ OFrz px n es rows x y ∧ HsFrz px n es rows r q
  | _, _ => False
theorem TsFrz.look {px : Value → Prop} {n : Name} {es : Nat} {rows : List (List PV)} : ∀ {ts ts' : List (Nat × AV)}, TsFrz px n es rows ts ts' → ∀ t y, AM.look t ts' = some y → ∃ x, AM.look t ts = some x ∧ Frz px n es rows x y
  | [], [], _, t, y, h => by simp [AM.look] at h
  | (k, x) :: r, (j, y0) :: q, h, t, y, hy => by
    obtain ⟨rfl, h2, h3⟩ := h
    simp only [AM.look] at hy ⊢
    split at hy
    · rename_i e; cases hy; exact ⟨x, by simp [e], h2⟩
    · rename_i e; simp only [e, if_false]; exact TsFrz.look h3 t y hy
  | [], _ :: _, h, _, _, _ => h.elim
  | _ :: _, [], h, _, _, _ => h.elim
theorem HsFrz.look {px : Value → Prop} {n : Name} {es : Nat} {rows : List (List PV)} : ∀ {ts ts' : List (Name × AO)}, HsFrz px n es rows ts ts' → ∀ t, (∀ y, AM.look t ts' = some y → t ≠ n ∧ ∃ x, AM.look t ts = some x ∧ OFrz px n es rows x y) ∧ (∀ x, AM.look t ts = some x → ∃ y, AM.look t ts' = some y ∧ OFrz px n es rows x y)
  | [], [], _, t => by simp [AM.look]
  | (k, x) :: r, (j, y0) :: q, h, t => by
    obtain ⟨rfl, h1, h2, h3⟩ := h
    simp only [AM.look]
    split
    · rename_i e; subst e; exact ⟨fun y hy => by cases hy; exact ⟨h1, x, rfl, h2⟩, fun y hy => by cases hy; exact ⟨y0, rfl, h2⟩⟩
    · exact HsFrz.look h3 t
  | [], _ :: _, h, _ => h.elim
  | _ :: _, [], h, _ => h.elim
theorem OFrz.stays {px : Value → Prop} {n : Name} {es : Nat} {rows : List (List PV)} {o o' o2 : AO} {l l' : Loc} (h : OFrz px n es rows o' o2) (hs : stays o l (some o') l') : AM.stays o l (some o2) l' := by
  cases h with
  | same => exact hs
  | box h => cases o <;> simp only [AM.stays] at hs ⊢ <;> exact hs
  | hole h => exact stays_of_shape rfl rfl hs
  | arr h => exact stays_of_shape rfl (by simp [AO.shape, h.1]) hs
theorem FrzL.len {px : Value → Prop} {n : Name} {es : Nat} {rows : List (List PV)} {xs ys : List AV} (h : FrzL px n es rows xs ys) : xs.length = ys.length := by
  have := FrzL.rec (px := px) (n := n) (es := es) (rows := rows) (motive_1 := fun _ _ _ => True) (motive_2 := fun xs ys _ => xs.length = ys.length) (by intros; trivial) (by trivial) (by intros; trivial) (by intros; trivial) (by intros; trivial) (by rfl) (by intros; simp_all) h
  exact this
theorem freeze_sim {Γ : Ctx} {px : Value → Prop} {n : Name} {es : Nat} {rows : List (List PV)} {ts ts' : List (Nat × AV)} {hs hs' : List (Name × AO)} (hn : n ∉ Γ.names) (h1 : TsFrz px n es rows ts ts') (h2 : HsFrz px n es rows hs hs')
    {ρ : Name → Loc} {M : Nat → Prop} {a : Act} {w : World} (h : Sim Γ ρ M (mk ts ((n, .arr es rows) :: hs)) a w)
    (hpx : ∀ x, px x → AV.R ρ (mk ts ((n, .arr es rows) :: hs)).heap M w (.own n rows.length) x) : ∃ ρ' M', Sim Γ ρ' M' (mk ts' hs') a w := by
  have hobj : ObjAt ρ (mk ts ((n, .arr es rows) :: hs)).heap M w n (.arr es rows) := h.objs n _ (by simp [mk, AM.look])
  let M' : Nat → Prop := fun b => M b ∧ (ρ n).blk ≠ some b
  have hup : ∀ t x, AM.look t hs = some x → t ≠ n → (mk ts ((n, .arr es rows) :: hs)).heap t = some x := fun t x hx hne => by
    simp only [mk, AM.look, if_neg (Ne.symm hne), hx]
  have hdown : ∀ t x, (mk ts ((n, .arr es rows) :: hs)).heap t = some x → t ≠ n → AM.look t hs = some x := fun t x hx hne => by
    simpa only [mk, AM.look, if_neg (Ne.symm hne)] using hx
  have hnn' : (mk ts' hs').heap n = none := by
    cases hc : (mk ts' hs').heap n with
    | none => rfl
    | some y => exact absurd rfl ((h2.look n).1 y hc).1
  have hst : HStep ρ (mk ts ((n, .arr es rows) :: hs)).heap ρ (mk ts' hs').heap := fun m ob hm => by
    by_cases e : m = n
    · subst e; rw [hnn']; cases ob <;> simp [AM.stays]
    · obtain ⟨y, hy, hf⟩ := (h2.look m).2 ob (hdown m ob hm e)
      change stays ob (ρ m) (AM.look m hs') (ρ m)
      rw [hy]
      exact hf.stays (stays_refl _ _)
  have hnn : ∀ m, (mk ts ((n, .arr es rows) :: hs)).heap m = none → (mk ts' hs').heap m = none := fun m hm => by
    cases hc : (mk ts' hs').heap m with
    | none => rfl
    | some y =>
      obtain ⟨hne, x, hx, _⟩ := (h2.look m).1 y hc
      rw [hup m x hx hne] at hm; simp at hm
  have hMM : ∀ b, b < w.heap.size → M' b → M b := fun b _ hb => hb.1
  have hconv : ∀ {x : AV} {u : Value}, x.R ρ (mk ts ((n, .arr es rows) :: hs)).heap M w u → x.R ρ (mk ts' hs').heap M' w u := fun hr =>
    hr.step (Ext.refl (fun _ => False) _) (fun _ hb => hb.elim) hMM hst (fun m _ => hnn m)
  have hown : ∀ u, AV.R ρ (mk ts ((n, .arr es rows) :: hs)).heap M w (.own n rows.length) u → AV.R ρ (mk ts' hs').heap M' w (.p (.sl false es rows)) u := fun u hr => by
    simp only [AV.R] at hr ⊢
    have hu := (hr.2 (.arr es rows) es rows.length (by simp [mk, AM.look]) rfl).2 rfl
    obtain ⟨k0, k1, k2⟩ := hobj
    simp only [PV.R]
    refine ⟨(ρ n).base, (ρ n).cap, hu, k1, fun hf => by simp at hf, fun hb => ?_, fun ad had hc => ?_⟩
    · rcases k2 with k2 | ⟨b, T, cs, q1, _⟩
      · exact k2
      · rw [hb] at q1; simp at q1
    · rcases k2 with k2 | ⟨b, T, cs, q1, q2, q3, q4, q5⟩
      · exact absurd k2 hc
      · rw [q1] at had; cases had
        refine ⟨rfl, fun hm => hm.2 (by simp [Loc.blk, hc, q1]), h.msize _ q2, ?_⟩
        exact q5.mono (M' := M') (Ext.refl (fun _ => False) w) (fun _ hb => hb.elim) hMM (fun hb => hb) (h.msize _ q2)
  have hview : ∀ {lo hi : Nat}, ∀ u, AV.R ρ (mk ts ((n, .arr es rows) :: hs)).heap M w (.view n rows.length lo hi) u → AV.R ρ (mk ts' hs').heap M' w (.p (.sl false es ((rows.take hi).drop lo))) u := fun {lo hi} u hr => by
    simp only [AV.R] at hr ⊢
    obtain ⟨_, hl1, hl2, hr2⟩ := hr
    have hu := (hr2 (.arr es rows) es rows.length (by simp [mk, AM.look]) rfl).2 rfl
    obtain ⟨k0, k1, k2⟩ := hobj
    simp only [PV.R, List.length_drop, List.length_take, Nat.min_eq_left hl2]
    simp only [viewV] at hu
    refine ⟨_, _, hu, by omega, fun hf => by simp at hf, fun hb => ?_, fun ad had hc => ?_⟩
    · split at hb
      · omega
      · rcases k2 with k2 | ⟨b, T, cs, q1, _⟩
        · omega
        · rw [q1] at hb; simp at hb
    · rw [if_neg (by omega)] at had
      rcases k2 with k2 | ⟨b, T, cs, q1, q2, q3, q4, q5⟩
      · omega
      · rw [q1] at had
        simp only [Option.map_some, Option.some.injEq] at had
        rw [addr_add] at had
        subst had
        have hcap : (ρ n).cap ≠ 0 := by omega
        refine ⟨rfl, fun hm => hm.2 (by simp [Loc.blk, hcap, q1]), h.msize _ q2, ?_⟩
        exact ((q5.take hi).drop lo).mono (M' := M') (Ext.refl (fun _ => False) w) (fun _ hb => hb.elim) hMM (fun hb => hb) (h.msize _ q2)
  have hfrz : ∀ {x y : AV}, Frz px n es rows x y → ∀ u, x.R ρ (mk ts ((n, .arr es rows) :: hs)).heap M w u → y.R ρ (mk ts' hs').heap M' w u := by
    intro x y hxy
    refine Frz.rec (motive_1 := fun x y _ => ∀ u, x.R ρ (mk ts ((n, .arr es rows) :: hs)).heap M w u → y.R ρ (mk ts' hs').heap M' w u) (motive_2 := fun xs ys _ => ∀ us, AV.Rs ρ (mk ts ((n, .arr es rows) :: hs)).heap M w xs us → AV.Rs ρ (mk ts' hs').heap M' w ys us) ?_ ?_ ?_ ?_ ?_ ?_ ?_ hxy
    · exact fun _ u hr => hconv hr
    · exact hown
    · exact fun u hr => hview u hr
    · intro x hx u hr
      simp only [AV.R, PV.R] at hr
      rw [hr.1]; exact hown x (hpx x hx)
    · intro xs ys _ ih u hr
      simp only [AV.R] at hr ⊢
      obtain ⟨us, g1, g2⟩ := hr
      exact ⟨us, g1, ih _ g2⟩
    · intro us hr; simp only [AV.Rs] at hr ⊢; exact hr
    · intro a b as1 bs _ _ ih1 ih2 us hr
      simp only [AV.Rs] at hr ⊢
      obtain ⟨u, us', g1, g2, g3, g4⟩ := hr
      exact ⟨u, us', g1, g2, ih1 _ g3, ih2 _ g4⟩
  have hfrzs : ∀ {xs ys : List AV}, FrzL px n es rows xs ys → ∀ us, AV.Rs ρ (mk ts ((n, .arr es rows) :: hs)).heap M w xs us → AV.Rs ρ (mk ts' hs').heap M' w ys us := by
    intro xs ys hxy us hr
    have : AV.R ρ (mk ts' hs').heap M' w (.agg ys) (.agg us.toArray) := hfrz (Frz.agg hxy) _ (by simp only [AV.R]; exact ⟨us.toArray, rfl, by simpa using hr⟩)
    simp only [AV.R] at this
    obtain ⟨us', h1, h2⟩ := this
    cases h1
    simpa using h2
  have hblk : ∀ m x, m ≠ n → (mk ts ((n, .arr es rows) :: hs)).heap m = some x → ∀ b, (ρ m).blk = some b → (ρ n).blk ≠ some b := fun m x hne hx b hb hb' =>
    hne (h.inj m n x _ b hx (by simp [mk, AM.look]; rfl) hb hb')
  refine ⟨ρ, M', h.n, h.d, fun t y hy => ?_, fun m y hy => ?_, fun m m' o o' b g1 g2 => ?_, fun m o b g1 g2 => ?_, fun m hm => ?_, h.ext, fun b hb => ⟨h.mext b hb, fun hb' => ?_⟩, fun b hb => h.msize b hb.1, h.m0, h.ground⟩
  · obtain ⟨x, hx, hf⟩ := h1.look t y hy
    obtain ⟨u, hu, hr⟩ := h.slots t x hx
    exact ⟨u, hu, hfrz hf u hr⟩
  · obtain ⟨hne, x, hx, hf⟩ := (h2.look m).1 y hy
    have hx' := hup m x hx hne
    have hob := h.objs m x hx'
    have hob' : ObjAt ρ (mk ts' hs').heap M' w m y := by
      cases hf with
      | same hh =>
        cases y with
        | box cells =>
          obtain ⟨b, T, cs, k1, k2, k3, k4⟩ := hob
          exact ⟨b, T, cs, k1, ⟨k2, hblk m _ hne hx' b (by rw [k1]; simp [Loc.blk])⟩, k3, k4.step (Ext.refl (fun _ => False) _) (fun _ hb => hb.elim) hMM hst (fun m _ => hnn m)⟩
        | arr es' rows' =>
          obtain ⟨k0, k1, k2⟩ := hob
          refine ⟨k0, k1, ?_⟩
          by_cases hc : (ρ m).cap = 0
          · exact .inl hc
          · rcases k2 with k2 | ⟨b, T, cs, q1, q2, q3, q4, q5⟩
            · exact .inl k2
            · exact .inr ⟨b, T, cs, q1, ⟨q2, hblk m _ hne hx' b (by simp [Loc.blk, hc, q1])⟩, q3, q4, q5.mono (M' := M') (Ext.refl (fun _ => False) w) (fun _ hb => hb.elim) hMM (fun hb => hb) (h.msize _ q2)⟩
        | hole es' pre row post =>
          obtain ⟨k0, k0', k1, b, T, cs, k3, k4, k5, k6, k7, k8, k9⟩ := hob
          exact ⟨k0, k0', k1, b, T, cs, k3, ⟨k4, hblk m _ hne hx' b (by unfold Loc.blk; rw [if_neg (by omega), k3]; rfl)⟩, k5, k6, k7.stepB (Ext.refl (fun _ => False) w) (fun _ hb => hb.elim) hMM rfl,
            k8.step (Ext.refl (fun _ => False) _) (fun _ hb => hb.elim) hMM hst (fun m _ => hnn m), k9.stepB (Ext.refl (fun _ => False) w) (fun _ hb => hb.elim) hMM rfl⟩
        | fact a x => exact ⟨hob.1, hconv hob.2⟩
        | obj x =>
          obtain ⟨b, k1, k2, k3⟩ := hob
          exact ⟨b, k1, ⟨k2, hblk m _ hne hx' b (by rw [k1]; simp [Loc.blk])⟩, k3⟩
      | hole hcs =>
        obtain ⟨k0, k0', k1, b, T, cs, k3, k4, k5, k6, k7, k8, k9⟩ := hob
        exact ⟨k0, by rw [← hcs.len]; exact k0', k1, b, T, cs, k3, ⟨k4, hblk m _ hne hx' b (by unfold Loc.blk; rw [if_neg (by omega), k3]; rfl)⟩, k5, k6, k7.stepB (Ext.refl (fun _ => False) w) (fun _ hb => hb.elim) hMM rfl,
          hfrzs hcs _ k8, k9.stepB (Ext.refl (fun _ => False) w) (fun _ hb => hb.elim) hMM rfl⟩
      | arr hq =>
        obtain ⟨k0, k1, k2⟩ := hob
        refine ⟨k0, by rw [← hq.1]; exact k1, ?_⟩
        by_cases hc : (ρ m).cap = 0
        · exact .inl hc
        · rcases k2 with k2 | ⟨b, T, cs, q1, q2, q3, q4, q5⟩
          · exact .inl k2
          · refine .inr ⟨b, T, cs, q1, ⟨q2, hblk m _ hne hx' b (by simp [Loc.blk, hc, q1])⟩, q3, q4, PV.Rows.of_get fun i q hi => ?_⟩
            rename_i rs qs
            have hil : i < rs.length := by rw [hq.1]; exact (List.getElem?_eq_some_iff.1 hi).1
            obtain ⟨g1, g2⟩ := q5.get i rs[i] (by simp [hil])
            obtain ⟨e1, e2⟩ := hq.2 i rs[i] q (by simp [hil]) hi
            refine ⟨by rw [← e1]; exact g1, PV.Cells.of_get fun j d hj => ?_⟩
            have hjl : j < rs[i].length := by rw [e1]; exact (List.getElem?_eq_some_iff.1 hj).1
            obtain ⟨u, hu, hr⟩ := g2.get j rs[i][j] (by simp [hjl])
            refine ⟨u, hu, ?_⟩
            rcases e2 j rs[i][j] d (by simp [hjl]) hj with e | ⟨x, hx, hc1, hd1⟩
            · rw [← e]
              exact hr.mono (M' := M') (Ext.refl (fun _ => False) w) (fun _ hb => hb.elim) hMM
            · rw [hc1] at hr
              simp only [PV.R] at hr
              have := hown x (hpx x hx)
              simp only [AV.R] at this
              rw [hd1, hr.1]; exact this
      | box hcs =>
        obtain ⟨b, T, cs, k1, k2, k3, k4⟩ := hob
        exact ⟨b, T, cs, k1, ⟨k2, hblk m _ hne hx' b (by rw [k1]; simp [Loc.blk])⟩, k3, hfrzs hcs _ k4⟩
    exact hob'
  · obtain ⟨hne, x, hx, _⟩ := (h2.look m).1 o g1
    obtain ⟨hne', x', hx', _⟩ := (h2.look m').1 o' g2
    exact h.inj m m' x x' b (hup m x hx hne) (hup m' x' hx' hne')
  · obtain ⟨hne, x, hx, _⟩ := (h2.look m).1 o g1
    exact h.own0 m x b (hup m x hx hne) g2
  · obtain ⟨x, hx, hst'⟩ := h.keep m hm
    have hne : m ≠ n := fun e => hn (e ▸ hm)
    obtain ⟨y, hy, hf⟩ := (h2.look m).2 x (hdown m x hx hne)
    exact ⟨y, hy, hf.stays hst'⟩
  · rcases h.own0 n _ b (by simp [mk, AM.look]; rfl) hb' with ⟨k1, _⟩ | k1
    · exact hn k1
    · have := h.m0 b hb; omega
theorem Weak.freeze {Γ : Ctx} {n : Name} {es : Nat} {rows : List (List PV)} {ts ts' : List (Nat × AV)} {hs hs' : List (Name × AO)} (hn : n ∉ Γ.names) (h1 : TsFrz (fun _ => False) n es rows ts ts') (h2 : HsFrz (fun _ => False) n es rows hs hs') :
    Weak Γ (mk ts ((n, .arr es rows) :: hs)) (mk ts' hs') := fun ρ M a w h => freeze_sim hn h1 h2 h (fun _ hx => hx.elim)
end Go.Proofs.YtfhcigjkfelnfaaGreat.AM
/-
  The abstract machine, part L: the rules as the walker uses them. No project text.
-/
set_option linter.unusedSimpArgs false
set_option linter.unusedVariables false
namespace Go.Proofs.YtfhcigjkfelnfaaGreat.AM
open Go
section
variable {P : Program} {ops : Array Oper} {i : Nat}
theorem StepOK.p {o : Oper} {d : Option Nat} {e : Eff} (hi : ops[i]? = some o) (hd : o.dst = d) (hg : o.guard = none) (h : OpOK P o e) : StepOK P ops i d e := by
  subst hd; exact StepOK.plain hi hg h
end
section
variable {P : Program} {Γ : Ctx} {s : AS} {Q : Exit → AS → Prop}
end
section
variable {P : Program} {s : AS}
end
end Go.Proofs.YtfhcigjkfelnfaaGreat.AM
/-
  The abstract machine, part M: short words for values, small facts that the walker's texts use. No project text.
-/
set_option linter.unusedSimpArgs false
set_option linter.unusedVariables false
namespace Go.Proofs.YtfhcigjkfelnfaaGreat.AM
open Go
abbrev vB (b : Bool) : AV := .p (.v (.bool b))
abbrev pI (n : Int) : PV := .v (.int .i64 n)
abbrev pK (k : IntKind) (n : Int) : PV := .v (.int k n)
abbrev pB (b : Bool) : PV := .v (.bool b)
abbrev pS (s : ByteArray) : PV := .v (.string s)
namespace D
abbrev cInt (n : Int) : List PV := [pI n]
abbrev cK (k : IntKind) (n : Int) : List PV := [pK k n]
abbrev cBool (b : Bool) : List PV := [pB b]
abbrev cStr (s : ByteArray) : List PV := [pS s]
end D
def nth {α : Type} [Inhabited α] (l : List α) (i : Nat) : α := l.getD i default
theorem nth_eq {α : Type} [Inhabited α] {l : List α} {i : Nat} (h : i < l.length) : l[i]? = some (nth l i) := by
  simp [nth, List.getD_eq_getElem?_getD, List.getElem?_eq_getElem h]
theorem nth_mem {α : Type} [Inhabited α] {l : List α} {i : Nat} (h : i < l.length) : nth l i ∈ l := List.mem_of_getElem? (nth_eq h)
theorem bytes_eq (x y : ByteArray) : (x.toList == y.toList) = decide (x = y) := by
  rw [ByteArray.toList_eq, ByteArray.toList_eq]
  by_cases h : x = y
  · subst h; simp
  · have : ¬ x.data.toList = y.data.toList := fun e => h (by
      cases x; cases y
      have e' := Array.toList_inj.1 e
      simp only at e'
      rw [e'])
    rw [decide_eq_false h]
    exact beq_eq_false_iff_ne.2 this
section
variable {P : Program} {o : Oper} {rd : List (Nat × AV)}
theorem OpOK.eqlS {T T' : TypeId} {x y : Operand} {a b : ByteArray} {q : Bool} (ho : o.op = .binOp .eql T x y T') (hx : evalO rd x = some (.p (.v (.string a)))) (hy : evalO rd y = some (.p (.v (.string b)))) (hr : decide (a = b) = q) : OpOK P o ⟨rd, [], .p (.v (.bool q)), [], []⟩ :=
  OpOK.bin ho hx hy (eqGuard_at_string ..) (fun w => by simp only [binOp, Op.stringOp, bytes_eq, hr]; rfl) rfl
theorem OpOK.neqS {T T' : TypeId} {x y : Operand} {a b : ByteArray} {q : Bool} (ho : o.op = .binOp .neq T x y T') (hx : evalO rd x = some (.p (.v (.string a)))) (hy : evalO rd y = some (.p (.v (.string b)))) (hr : decide (a ≠ b) = q) : OpOK P o ⟨rd, [], .p (.v (.bool q)), [], []⟩ :=
  OpOK.bin ho hx hy (eqGuard_at_string ..) (fun w => by rw [← hr]; simp only [binOp, Op.stringOp, bytes_eq, decide_not]; rfl) rfl
theorem run_equal_bool {w : World} {T : TypeId} {a b : Bool} (h : P.underlying T = some .bool) : (Op.equal T (.bool a) (.bool b)).run P w = .ok (a == b) w := by
  unfold Op.equal
  rw [show Op.maxDepth = (Op.maxDepth - 1) + 1 from rfl]
  simp [Op.equalIn, run_underlying h]
theorem OpOK.eqlB {T T' : TypeId} {x y : Operand} {a b : Bool} {q : Bool} (ho : o.op = .binOp .eql T x y T') (hT : P.underlying T = some .bool) (hx : evalO rd x = some (.p (.v (.bool a)))) (hy : evalO rd y = some (.p (.v (.bool b)))) (hr : decide (a = b) = q) : OpOK P o ⟨rd, [], .p (.v (.bool q)), [], []⟩ :=
  OpOK.bin ho hx hy (eqGuard_at_bool ..) (fun w => by rw [← hr]; simp only [binOp, Sem.run_bind, run_equal_bool hT, Result.andThen_ok]; cases a <;> cases b <;> rfl) rfl
theorem OpOK.neqB {T T' : TypeId} {x y : Operand} {a b : Bool} {q : Bool} (ho : o.op = .binOp .neq T x y T') (hT : P.underlying T = some .bool) (hx : evalO rd x = some (.p (.v (.bool a)))) (hy : evalO rd y = some (.p (.v (.bool b)))) (hr : decide (a ≠ b) = q) : OpOK P o ⟨rd, [], .p (.v (.bool q)), [], []⟩ :=
  OpOK.bin ho hx hy (eqGuard_at_bool ..) (fun w => by rw [← hr]; simp only [binOp, Sem.run_bind, run_equal_bool hT, Result.andThen_ok]; cases a <;> cases b <;> rfl) rfl
end
end Go.Proofs.YtfhcigjkfelnfaaGreat.AM
/-
  The abstract machine, part N: a literal that is an array of ours; nothing as an array of ours. No project text.
-/
set_option linter.unusedSimpArgs false
set_option linter.unusedVariables false
namespace Go.Proofs.YtfhcigjkfelnfaaGreat.AM
open Go
section
variable {P : Program} {o : Oper} {rd : List (Nat × AV)}
theorem OpOK.buildOwn {T e : TypeId} {len es r : Nat} {parts : Array (Nat × Operand)} {zr : List PV} {rows : List (List PV)} {n : Name} (ho : o.op = .buildSlice T len parts) (hT : elemT P T = some e) (hz : sizeT P e = some es) (hes : Nat.ble 1 es = true)
    (hzr : zeroRow P e = some zr) (hzl : zr.length = es) (hsz : Nat.ble (len * es) 16777216 = true) (hrows : putRows rd es parts.toList (List.replicate len zr) = some rows) (hr : rows.length = r) :
    OpOK P o ⟨rd, [], .own n r, [(n, .arr es rows)], [n]⟩ :=
  OpOK.put fun Γ ρ M s a w hs hh => by
    subst hr
    obtain ⟨hn, hfree⟩ := hh.nw n (by simp)
    unfold zeroRow at hzr
    split at hzr
    · rename_i cs hcs
      obtain ⟨i, z, hi, hz', hall, rfl⟩ := zeroAV_spec hcs
      have hzR : AV.Rs ρ s.heap M w (pcells zr) z.cells.toList := by
        rw [← pureL_spec hzr]; exact constCells_R hall
      have hzlen : z.cells.toList.length = es := by have := hzR.length; rw [this]; simp [pcells, hzl]
      have hes' := Nat.le_of_ble_eq_true hes
      have h0 := zero_rows z.cells.toList len es hzlen hes'
      obtain ⟨cr, cells, g1, g2, g3, g4, g5⟩ := fill_rows hs hh parts.toList (List.replicate len zr) rows (List.replicate len z.cells.toList) ((Array.range (len * es)).map (fun i => z.cells[i % z.cells.size]!))
        (RR.replicate hzR len) (fun r hr => by rw [List.eq_of_mem_replicate hr]; exact hzl) (by simpa using h0) hrows
      have hlen : rows.length = len := by simpa using g5
      have hrun : (execOp a.eval o).run P w = .ok (.value (.slice (some ⟨w.heap.size, 0, none⟩) len len)) (w.alloc (.cells cells e)) := by
        have h2 : ¬ (len * es > 16777216) := by have := Nat.le_of_ble_eq_true hsz; omega
        have hparts : ((parts.map fun (i, x) => (i, a.eval x)) : Array (Nat × Value)).toList = parts.toList.map fun p => (p.1, a.eval p.2) := by simp
        simp only [execOp, ho, Instr.buildSlice, Sem.run_bind, run_underlying (elemT_spec hT), Result.andThen_ok, run_sizeOf hz, h2, if_false]
        simp only [hparts]
        by_cases h5 : len * es = 0
        · have g1' := g1
          rw [h5] at g1'
          simp only [Array.range_zero', Array.map_empty] at g1'
          simp [h5, g1', newRow, Array.range_zero']
        · simp only [h5, if_false, Sem.run_bind, run_zeroValue hi hz', Result.andThen_ok, Sem.run_pure, g1]
          simp [h2, newRow, g1, run_zeroValue hi hz']
      have he := Ext.alloc w (.cells cells e)
      refine ⟨_, _, (fun m => if m = n then ⟨some ⟨w.heap.size, 0, none⟩, len⟩ else ρ m), (fun b => M b ∨ b = w.heap.size), hrun, hs.update1 (he.weaken fun _ _ hb => hb.elim) (fun b hb => .inl hb) (fun b hb => hb.imp id (fun e => by omega)) (fun b hb => ?_) (fun o' ho' => by rw [hn] at ho'; simp at ho') (fun _ => hfree) ?_ (fun b hb => .inr ?_), ?_⟩
      · rcases hb with hb | hb
        · have := hs.msize b hb; simp; omega
        · simp [hb]
      · refine ⟨hes', by simp [hlen], .inr ⟨w.heap.size, e, cells, by simp, .inr rfl, heap_alloc_new w _, ?_, ?_⟩⟩
        · simp only [if_true]
          have : cells.size = cells.toList.length := by simp
          rw [this, g4, flat_len (g2.len g3), g2.length, hlen]
        · have g2' := g2.step (ρ' := ρ) (H' := s.heap) (M' := fun b => M b ∨ b = w.heap.size) (B := fun _ => False) he (fun _ hb => hb.elim) (fun b hb hb' => hb'.resolve_right (by omega))
          refine Rows_of_RR g2' g3 fun j u hj => ?_
          rw [← g4] at hj
          simp only [World.cell?, heap_alloc_new]
          simpa using hj
      · simp [Loc.blk] at hb; omega
      · simp only [AV.R]
        refine ⟨rfl, fun o' es' k' hc hs' => ?_⟩
        simp only [if_true] at hc
        cases hc
        cases hs'
        exact ⟨Nat.le_refl _, fun _ => by simp [hlen]⟩
    · simp at hzr
end
theorem Weak.thaw {Γ : Ctx} {ts ts' : List (Nat × AV)} {hs : List (Name × AO)} {t es0 es : Nat} {n : Name} (hes : Nat.ble 1 es = true) (h1 : look t ts = some (.p (.sl true es0 []))) (h2 : (look n hs).isNone = true) (h3 : freeIn n ts hs = true)
    (h4 : ts'.map (fun p => look p.1 ((t, .own n 0) :: ts)) = ts'.map (fun p => some p.2)) : Weak Γ (mk ts hs) (mk ts' ((n, .arr es []) :: hs)) := fun ρ M a w hsim => by
  have hn : (mk ts hs).heap n = none := Option.isNone_iff_eq_none.1 h2
  have hf := free_of h3
  obtain ⟨u, hu, hr⟩ := hsim.slots t _ h1
  simp only [AV.R, PV.R] at hr
  obtain ⟨ad, cap, hu', _, hcap, _, _⟩ := hr
  have hc := hcap trivial
  simp only [List.length_nil] at hc hu'
  subst hc
  have hs1 := hsim.update1 (n := n) (l := ⟨ad, 0⟩) (o := .arr es []) (M' := M) (w' := w) (Ext.refl _ _) (fun _ hb => hb) (fun _ hb => .inl hb) hsim.msize (fun o' ho' => by rw [hn] at ho'; simp at ho') (fun _ => hf)
    ⟨Nat.le_of_ble_eq_true hes, by simp, .inl (by simp)⟩ (fun b hb => by simp [Loc.blk] at hb)
  have hHeap : (mk ts' ((n, .arr es []) :: hs)).heap = fun m => if m = n then some (.arr es []) else (mk ts hs).heap m := by
    funext m; simp only [mk, look]; by_cases e : n = m
    · subst e; simp
    · simp [e, Ne.symm e]
  have hs2 : Sim Γ (fun m => if m = n then ⟨ad, 0⟩ else ρ m) M ⟨(mk ts hs).slot, (mk ts' ((n, .arr es []) :: hs)).heap⟩ a w := by rw [hHeap]; exact hs1
  refine ⟨(fun m => if m = n then ⟨ad, 0⟩ else ρ m), M, hs2.n, hs2.d, fun k x hk => ?_, hs2.objs, hs2.inj, hs2.own0, hs2.keep, hs2.ext, hs2.mext, hs2.msize, hs2.m0, hs2.ground⟩
  have := map_eq_all h4 _ (look_mem hk)
  simp only [look] at this
  split at this
  · rename_i e
    cases this
    subst e
    refine ⟨u, hu, ?_⟩
    rw [hHeap]
    simp only [AV.R]
    refine ⟨by rw [hu']; rfl, fun o' es' k' hc hs' => ?_⟩
    simp only [if_true] at hc
    cases hc
    cases hs'
    exact ⟨Nat.le_refl _, fun _ => by simp [hu']⟩
  · exact hs2.slots k x this
theorem Rs_set {ρ : Name → Loc} {H : Heap} {M : Nat → Prop} {w : World} : ∀ {xs : List AV} {us : List Value} (j : Nat) (y : AV), AV.Rs ρ H M w xs us → (∀ u, us[j]? = some u → y.R ρ H M w u) → AV.Rs ρ H M w (xs.set j y) us
  | [], us, j, y, h, _ => by simpa using h
  | x :: xs, us, j, y, h, hy => by
    simp only [AV.Rs] at h
    obtain ⟨u, us', rfl, h2, h3, h4⟩ := h
    cases j with
    | zero => simp only [List.set_cons_zero, AV.Rs]; exact ⟨u, us', rfl, h2, hy u (by simp), h4⟩
    | succ j => simp only [List.set_cons_succ, AV.Rs]; exact ⟨u, us', rfl, h2, h3, Rs_set j y h4 (fun v hv => hy v (by simpa using hv))⟩
theorem Weak.thawA {Γ : Ctx} {ts ts' : List (Nat × AV)} {hs : List (Name × AO)} {t j es0 es : Nat} {n : Name} {cells : List AV} (hes : Nat.ble 1 es = true) (h0 : look t ts = some (.agg cells)) (h1 : cells[j]? = some (.p (.sl true es0 []))) (h2 : (look n hs).isNone = true) (h3 : freeIn n ts hs = true)
    (h4 : ts'.map (fun p => look p.1 ((t, .agg (cells.set j (.own n 0))) :: ts)) = ts'.map (fun p => some p.2)) : Weak Γ (mk ts hs) (mk ts' ((n, .arr es []) :: hs)) := fun ρ M a w hsim => by
  have hn : (mk ts hs).heap n = none := Option.isNone_iff_eq_none.1 h2
  have hf := free_of h3
  obtain ⟨u, hu, hr⟩ := hsim.slots t _ h0
  simp only [AV.R] at hr
  obtain ⟨us, rfl, hrs⟩ := hr
  obtain ⟨v, hv, _, hvr⟩ := hrs.get j _ h1
  simp only [AV.R, PV.R] at hvr
  obtain ⟨ad, cap, hu', _, hcap, _, _⟩ := hvr
  have hc := hcap trivial
  simp only [List.length_nil] at hc hu'
  subst hc
  have hs1 := hsim.update1 (n := n) (l := ⟨ad, 0⟩) (o := .arr es []) (M' := M) (w' := w) (Ext.refl _ _) (fun _ hb => hb) (fun _ hb => .inl hb) hsim.msize (fun o' ho' => by rw [hn] at ho'; simp at ho') (fun _ => hf)
    ⟨Nat.le_of_ble_eq_true hes, by simp, .inl (by simp)⟩ (fun b hb => by simp [Loc.blk] at hb)
  have hHeap : (mk ts' ((n, .arr es []) :: hs)).heap = fun m => if m = n then some (.arr es []) else (mk ts hs).heap m := by
    funext m; simp only [mk, look]; by_cases e : n = m
    · subst e; simp
    · simp [e, Ne.symm e]
  have hs2 : Sim Γ (fun m => if m = n then ⟨ad, 0⟩ else ρ m) M ⟨(mk ts hs).slot, (mk ts' ((n, .arr es []) :: hs)).heap⟩ a w := by rw [hHeap]; exact hs1
  refine ⟨(fun m => if m = n then ⟨ad, 0⟩ else ρ m), M, hs2.n, hs2.d, fun k x hk => ?_, hs2.objs, hs2.inj, hs2.own0, hs2.keep, hs2.ext, hs2.mext, hs2.msize, hs2.m0, hs2.ground⟩
  have := map_eq_all h4 _ (look_mem hk)
  simp only [look] at this
  split at this
  · rename_i e
    cases this
    subst e
    refine ⟨.agg us, hu, ?_⟩
    simp only [AV.R]
    refine ⟨us, rfl, Rs_set j _ ?_ (fun v' hv' => ?_)⟩
    · obtain ⟨u2, g1, g2⟩ := hs2.slots t _ h0
      rw [hu] at g1
      cases g1
      simp only [AV.R] at g2
      obtain ⟨us2, e2, g3⟩ := g2
      cases e2
      exact g3
    · rw [hv] at hv'
      cases hv'
      rw [hHeap]
      simp only [AV.R]
      refine ⟨by rw [hu']; rfl, fun o' es' k' hc hs' => ?_⟩
      simp only [if_true] at hc
      cases hc
      cases hs'
      exact ⟨Nat.le_refl _, fun _ => by simp [hu']⟩
  · exact hs2.slots k x this
theorem Weak.thawCell {Γ : Ctx} {ts : List (Nat × AV)} {hs hs' : List (Name × AO)} {m j es0 es : Nat} {n : Name} {cells cells' : List AV} (hes : Nat.ble 1 es = true) (h0 : hs = (m, .box cells) :: hs') (h1 : cells[j]? = some (.p (.sl true es0 []))) (h2 : (look n hs).isNone = true) (h3 : freeIn n ts hs = true)
    (h4 : cells.set j (.own n 0) = cells') : Weak Γ (mk ts hs) (mk ts ((m, .box cells') :: (n, .arr es []) :: hs')) := fun ρ M a w hsim => by
  subst h4
  have hn : (mk ts hs).heap n = none := Option.isNone_iff_eq_none.1 h2
  have hf := free_of h3
  have hm : (mk ts hs).heap m = some (.box cells) := by subst h0; simp [mk, look]
  have hmn : m ≠ n := fun e => by subst e; rw [hn] at hm; simp at hm
  obtain ⟨b, T, cs, k1, k2, k3, k4⟩ := hsim.objs m _ hm
  obtain ⟨u, hu, _, hr⟩ := k4.get j _ h1
  simp only [AV.R, PV.R] at hr
  obtain ⟨ad, cap, hu', _, hcap, _, _⟩ := hr
  have hc := hcap trivial
  simp only [List.length_nil] at hc hu'
  subst hc
  have hs1 := hsim.update1 (n := n) (l := ⟨ad, 0⟩) (o := .arr es []) (M' := M) (w' := w) (Ext.refl _ _) (fun _ hb => hb) (fun _ hb => .inl hb) hsim.msize (fun o' ho' => by rw [hn] at ho'; simp at ho') (fun _ => hf)
    ⟨Nat.le_of_ble_eq_true hes, by simp, .inl (by simp)⟩ (fun b hb => by simp [Loc.blk] at hb)
  have hm1 : (if m = n then some (AO.arr es []) else (mk ts hs).heap m) = some (.box cells) := by rw [if_neg hmn]; exact hm
  obtain ⟨b1, T1, cs1, q1, q2, q3, q4⟩ := hs1.objs m _ hm1
  have hbe : b1 = b := by
    have := q1; simp only [if_neg hmn] at this; rw [k1] at this; simpa using this.symm
  subst hbe
  rw [k3] at q3; cases q3
  have hs2 := hs1.update1 (n := m) (l := ρ m) (o := .box (cells.set j (.own n 0))) (M' := M) (w' := w) (Ext.refl _ _) (fun _ hb => hb) (fun _ hb => .inl hb) hsim.msize (fun o' ho' => by
      simp only [hm1] at ho'; cases ho'; simp [stays, hmn]) (fun h => by simp only [hm1] at h; simp at h)
    (by
      refine ⟨b1, T, cs, by simp [k1], k2, k3, ?_⟩
      have hst : HStep (fun k => if k = n then ⟨ad, 0⟩ else ρ k) (fun k => if k = n then some (AO.arr es []) else (mk ts hs).heap k)
          (fun k => if k = m then ρ m else if k = n then ⟨ad, 0⟩ else ρ k) (fun k => if k = m then some (AO.box (cells.set j (.own n 0))) else if k = n then some (AO.arr es []) else (mk ts hs).heap k) := fun k ob hk => by
        by_cases e : k = m
        · subst e; simp only [hm1] at hk; cases hk; simp [stays, hmn]
        · simp only [e, if_false, hk]; exact stays_refl _ _
      refine Rs_set j _ (q4.step (Ext.refl (fun _ => False) _) (fun _ hb => hb.elim) (fun b _ hb => hb) hst (fun k _ hk => ?_)) (fun v hv => ?_)
      · by_cases e : k = m
        · subst e; simp only [hm1] at hk; simp at hk
        · simp only [e, if_false]; exact hk
      · rw [hu] at hv; cases hv
        simp only [AV.R]
        refine ⟨by rw [hu']; rfl, fun o' es' k' hc hs' => ?_⟩
        simp only [if_neg (Ne.symm hmn), if_true] at hc
        cases hc
        cases hs'
        exact ⟨Nat.le_refl _, fun _ => by simp [Ne.symm hmn, hu']⟩)
    (fun b hb => .inl ⟨_, hm1, by simpa [hmn] using hb⟩)
  refine ⟨(fun k => if k = m then ρ m else if k = n then ⟨ad, 0⟩ else ρ k), M, hs2.congr (fun t => rfl) (fun k => ?_)⟩
  subst h0
  simp only [mk, look]
  by_cases e : m = k
  · subst e; simp
  · by_cases e' : n = k
    · subst e'; simp [e, Ne.symm e]
    · simp [e, e', Ne.symm e, Ne.symm e']
theorem Ts_le {ρ : Name → Loc} {H : Heap} {M : Nat → Prop} {w : World} : ∀ (xs : List AV) {ys : List AV} {us : List Value}, AVleL xs ys → AV.Ts ρ H M w xs us → AV.Ts ρ H M w ys us
  | [], ys, us, h, h' => by cases h; exact h'
  | x :: xs, ys, us, h, h' => by
    cases h with
    | cons h1 h2 =>
      simp only [AV.Ts] at h' ⊢
      obtain ⟨u, us', g1, g2, g3⟩ := h'
      exact ⟨u, us', g1, h1.sound _ g2, Ts_le xs h2 g3⟩
theorem Spec.argsLe {P : Program} {f : FuncId} {args args' : List AV} {pre : List (Name × AO)} {post : AV → List (Name × AO) → Prop} (h : Spec P f args' pre post) (hle : AVleL args args') : Spec P f args pre post :=
  fun G ρ M w us hG h1 h2 h3 h4 => h G ρ M w us hG h1 (Ts_le args hle h2) h3 h4
section
variable {P : Program} {o : Oper} {rd : List (Nat × AV)}
end
section
variable {P : Program} {o : Oper} {rd : List (Nat × AV)}
def intT (P : Program) (T : TypeId) : Option IntKind := match P.underlying T with | some (.int k) => some k | _ => none
theorem OpOK.convI {S T : TypeId} {x : Operand} {k k' : IntKind} {a r : Int} (ho : o.op = .convert S T x) (hS : (P.underlying S).isSome = true) (hT : intT P T = some k') (hx : evalO rd x = some (.p (.v (.int k a)))) (hr : k'.wrap a = r) : OpOK P o ⟨rd, [], .p (.v (.int k' r)), [], []⟩ :=
  OpOK.quiet fun Γ ρ M s a' w hs hh => by
    obtain ⟨d, hd⟩ := Option.isSome_iff_exists.1 hS
    have ht : P.underlying T = some (.int k') := by
      unfold intT at hT
      split at hT
      · rename_i h; cases hT; exact h
      · simp at hT
    refine ⟨.int k' r, ?_, by simp only [AV.R, PV.R]; exact ⟨trivial, rfl⟩⟩
    simp only [execOp, ho, eval_v hs hh hx, convert, Sem.run_bind, run_underlying hd, run_underlying ht, Result.andThen_ok, Conv.intToInt, Sem.run_pure, hr]
end
end Go.Proofs.YtfhcigjkfelnfaaGreat.AM
/-
  Arguments that read as data, as the abstract machine's pure data; and a law's row out of its walk. No project text.
-/
set_option linter.unusedSimpArgs false
set_option linter.unusedVariables false
namespace Go.Proofs.YtfhcigjkfelnfaaGreat.AM
open Go Go.ChangeShapes Go.WideShapes Go.RowKit
abbrev Fixed : Nat → Prop := fun _ => False
def PVs (w : World) : List PV → List Value → Prop
  | [], us => us = []
  | p :: ps, us => ∃ u us', us = u :: us' ∧ p.R Fixed w u ∧ PVs w ps us'
theorem PVs.get {w : World} : ∀ {ps : List PV} {us : List Value}, PVs w ps us → ∀ (j : Nat) (p : PV), ps[j]? = some p → ∃ u, us[j]? = some u ∧ p.R Fixed w u
  | [], _, _, j, p, hj => by simp at hj
  | q :: ps, us, h, j, p, hj => by
    simp only [PVs] at h
    obtain ⟨u, us', rfl, h1, h2⟩ := h
    cases j with
    | zero => simp at hj; subst hj; exact ⟨u, rfl, h1⟩
    | succ j => simpa using h2.get j p (by simpa using hj)
section reads
variable {H : Type} {enc : TypeId × Value → H} {P : Program} {w : World}
def Reads (enc : TypeId × Value → H) (P : Program) (w : World) (t : TypeId) {α : Type} (dec : α → List PV) (ok : α → Prop) : Prop :=
  ∀ fuel cs x, DataW.trod enc P w 0 (fun _ => true) true fuel t cs = some x → ∃ a, ok a ∧ PVs w (dec a) cs
theorem reads_int {t : TypeId} {k : IntKind} (ht : P.underlying t = some (.int k)) : Reads enc P w t (fun n : Int => [.v (.int k n)]) (fun n => (Lit.int k n).wf = true) := by
  intro fuel cs x h
  obtain ⟨n, rfl, _, hw⟩ := DataW.trod_int ht h
  exact ⟨n, hw, _, _, rfl, by simp only [PV.R]; simp [Value.oneCell'], rfl⟩
theorem choose_list {α : Type} {Q : Nat → α → Prop} : ∀ (n : Nat), (∀ i, i < n → ∃ a, Q i a) → ∃ l : List α, l.length = n ∧ ∀ (i : Nat) (a : α), l[i]? = some a → Q i a
  | 0, _ => ⟨[], rfl, fun i a h => by simp at h⟩
  | n + 1, h => by
    obtain ⟨l, hl, hq⟩ := choose_list n (fun i hi => h i (by omega))
    obtain ⟨a, ha⟩ := h n (by omega)
    refine ⟨l ++ [a], by simp [hl], fun i x hx => ?_⟩
    rw [List.getElem?_append] at hx
    split at hx
    · exact hq i x hx
    · have : i = n := by
        rcases Nat.lt_or_ge (i - l.length) 1 with h1 | h1
        · omega
        · rw [List.getElem?_eq_none (by simpa using h1)] at hx; simp at hx
      subst this
      rw [hl] at hx
      simp at hx
      subst hx; exact ha
theorem reads_slice {t e : TypeId} {n : Nat} {α : Type} {dec : α → List PV} {ok : α → Prop} (ht : P.underlying t = some (.slice e)) (hc : P.cellsOf e = n) (hpos : 0 < n)
    (hd : ∀ a, (dec a).length = n) (h : Reads enc P w e dec ok) :
    Reads enc P w t (fun l : List α => [.sl false n (l.map dec)]) (fun l => (∀ (i : Nat) (a : α), l[i]? = some a → ok a) ∧ l.length ≤ maxLen) := by
  intro fuel cs x hx
  rcases DataW.trod_slice ht hx with ⟨rfl, _⟩ | ⟨a, len, cap, elems, rest, m, _, rfl, _, _, hl, hm, hlen, hel, hsp, _⟩
  · refine ⟨[], ⟨fun i a h => by simp at h, by simp [maxLen]⟩, _, _, rfl, ?_, rfl⟩
    simp only [PV.R]
    exact ⟨none, 0, rfl, by simp, (fun h => by cases h), (fun _ => rfl), (fun ad had => by cases had)⟩
  · rw [hc] at hel hsp
    obtain ⟨hr1, hr2⟩ := hsp rfl
    have spot : cap ≠ 0 → a.spot = none ∧ a.block < w.heap.size := by
      intro hcap
      have : ∃ y, (w.cells? 0 (a.add (0 * n)) n).bind (DataW.trod enc P w 0 (fun _ => true) true m e) = some y := by
        by_cases h0 : 0 < len
        · exact ⟨elems[0], by rw [hel 0 h0]; simp⟩
        · have hl0 : len = 0 := by omega
          subst hl0
          have h1 : 0 < rest.length := by omega
          exact ⟨rest[0], by have := hr2 0 (by omega); simp only [Nat.zero_add] at this ⊢; rw [this]; simp⟩
      obtain ⟨y, hy⟩ := this
      cases hcs : w.cells? 0 (a.add (0 * n)) n with
      | none => rw [hcs] at hy; simp at hy
      | some cs' =>
        obtain ⟨_, k1, k2⟩ := World.cells?_some hcs
        have k3 := k2 0 hpos
        have : 0 < cs'.length := by omega
        rw [List.getElem?_eq_getElem this] at k3
        have hs := World.cell?_spot k3
        refine ⟨by simpa [Addr.add] using hs, ?_⟩
        have := World.block_lt_of_cell? w _ k3
        simpa [Addr.add] using this
    have each : ∀ i, i < len → ∃ b, ok b ∧ PV.Cells Fixed w a.block (a.off + i * n) (dec b) := by
      intro i hi
      have hi' := hel i hi
      rw [List.getElem?_eq_getElem (by omega)] at hi'
      cases hcs : w.cells? 0 (a.add (i * n)) n with
      | none => rw [hcs] at hi'; simp at hi'
      | some cs' =>
        rw [hcs] at hi'
        obtain ⟨b, hb1, hb2⟩ := h _ _ _ hi'
        obtain ⟨_, k1, k2⟩ := World.cells?_some hcs
        obtain ⟨s1, s2⟩ := spot (by omega)
        refine ⟨b, hb1, PV.Cells.of_get fun j c hj => ?_⟩
        obtain ⟨u, hu, hr⟩ := hb2.get j c hj
        have hjn : j < n := by rw [← hd b]; exact (List.getElem?_eq_some_iff.1 hj).1
        refine ⟨u, ?_, hr⟩
        rw [← hu, ← k2 j hjn]
        obtain ⟨b1, o1, s1'⟩ := a
        simp only at s1
        subst s1
        rw [addr_add, addr_add]
    obtain ⟨l, hl1, hl2⟩ := choose_list len each
    refine ⟨l, ⟨fun i a h => (hl2 i a h).1, by omega⟩, _, _, rfl, ?_, rfl⟩
    simp only [PV.R]
    refine ⟨some a, cap, by simp [hl1], by simp [hl1]; omega, (fun h => by cases h), (fun h => by cases h), fun ad had hcap => ?_⟩
    cases had
    obtain ⟨s1, s2⟩ := spot hcap
    refine ⟨s1, fun h => h, s2, PV.Rows.of_get fun i r hi => ?_⟩
    rw [List.getElem?_map] at hi
    cases hli : l[i]? with
    | none => rw [hli] at hi; simp at hi
    | some b =>
      rw [hli] at hi
      simp at hi
      subst hi
      exact ⟨hd b, (hl2 i b hli).2⟩
theorem arg_one {t : TypeId} {v : Value} {d : DataW H} {ps : List MemPlace} {α : Type} {dec : α → PV} {ok : α → Prop} (h : Reads enc P w t (fun a => [dec a]) ok) (hd : DataW.Trod enc P w 0 (fun _ => true) true t v d ps)
    (hv : v.cells.toList = [v]) : ∃ a, ok a ∧ (dec a).R Fixed w v := by
  obtain ⟨fuel, hf⟩ := hd
  obtain ⟨a, ha, u, us, h1, h2, h3⟩ := h _ _ _ hf
  rw [hv] at h1
  simp at h1
  exact ⟨a, ha, h1.1 ▸ h2⟩
theorem cells_slice {t e : TypeId} {v : Value} {r : Reach} {b : Nat} (ht : P.underlying t = some (.slice e)) (h : Value.okWide P w r b t v) : v.cells.toList = [v] := by
  obtain ⟨a, l, c, rfl⟩ := okWide_slice ht h; rfl
theorem trodAll_stays (hl : laidOutB P = true) {W W' : World} {sp : Nat → Bool} : ∀ {ts : List TypeId} {vs : List Value} {ds : List (DataW H)} {ps : List MemPlace}, (∀ t ∈ ts, P.readableRec t = true ∧ t < P.types.size) →
    DataW.TrodAll enc P W 0 (fun _ => true) true ts vs ds ps → (∀ p ∈ ps, W.sameAt W' p) → (∀ p ∈ ps, sp p.block = true) → DataW.TrodAll enc P W' 0 sp true ts vs ds ps
  | [], [], [], _, _, h, _, _ => h
  | _ :: _, _ :: _, _ :: _, _, hT, ⟨p, q, h1, h2, e⟩, hs, hsp =>
    ⟨p, q, WideElems.Trod_stays hl (hT _ (List.mem_cons.2 (Or.inl rfl))).1 (hT _ (List.mem_cons.2 (Or.inl rfl))).2 h1 (fun x hx => hs x (by rw [e]; exact List.mem_append_left _ hx)) (fun x hx => hsp x (by rw [e]; exact List.mem_append_left _ hx)),
      trodAll_stays hl (fun t ht => hT t (List.mem_cons.2 (Or.inr ht))) h2 (fun x hx => hs x (by rw [e]; exact List.mem_append_right _ hx)) (fun x hx => hsp x (by rw [e]; exact List.mem_append_right _ hx)), e⟩
theorem Ext.frame {W W' : World} (h : Ext Fixed W W') (may : MemPlace → Prop) : W.keptBut W' may := by
  refine ⟨h.os, h.out, fun i hi => ?_⟩
  rw [h.same i hi (fun h => h)]
  split <;> simp_all
theorem law_post {fn : Func} {s : ChangeSpec} {apart fresh handsOn again : Bool} {W W' : World} {args : Array Value} {ds gs : List (DataW H)} {before : List MemPlace} {tb : TypeId}
    (hl : laidOutB P = true) (hpar : ∀ t ∈ fn.params.toList, P.readableRec t = true ∧ t < P.types.size) (hrt : fn.resultTypes = #[tb]) (hb : P.underlying tb = some .bool) (hvars : s.vars = [])
    (hres : (s.fn H ds).results = [.lit (.bool true)]) (hargs : (s.fn H ds).args = ds) (hvs : (s.fn H ds).vars = [])
    (hW : DataW.Whole enc P fn.params.toList s.vars apart W args.toList ds gs before) (he : Ext Fixed W W') : s.post enc P fn apart fresh handsOn again W args (.bool true) W' := by
  have hW' := hW
  obtain ⟨p, q, hA, hV, rfl, hz, hn⟩ := hW
  rw [hvars] at hV
  obtain ⟨rfl, rfl⟩ := trodVars_none hV
  have hlt : ∀ x ∈ p ++ [], x.block < W.heap.size := fun x hx => hW'.lt x hx
  have hsame : ∀ x ∈ p, W.sameAt W' x := by
    intro x hx
    have := hlt x (by simpa using hx)
    cases x with
    | cell b o => exact World.cell?_of_block (w := W) (he.same b this (fun h => h))
    | map b => exact he.same b this (fun h => h)
  have hold : ∀ x ∈ p, (fun b => decide (b < W.heap.size)) x.block = true := fun x hx => by simpa using hlt x (by simpa using hx)
  have hrl : (Value.bool true).resultList fn.resultTypes.size = [.bool true] := by rw [hrt]; rfl
  have hR : ∀ (b : Nat) (sp : Nat → Bool) (hd : Bool), DataW.TrodAll enc P W' b sp hd fn.resultTypes.toList ((Value.bool true).resultList fn.resultTypes.size) (s.fn H (ds ++ [])).results [] := by
    intro b sp hd
    rw [hrl, List.append_nil, hres, hrt]
    exact trodAll_mk1 (shut_bool hb true)
  have hAr : ∀ sp : Nat → Bool, (∀ x ∈ p, sp x.block = true) → DataW.TrodAll enc P W' 0 sp true fn.params.toList args.toList (s.fn H (ds ++ [])).args p := by
    intro sp hsp
    rw [List.append_nil, hargs]
    exact trodAll_stays hl hpar hA hsame hsp
  have hVr : ∀ sp : Nat → Bool, DataW.TrodVars enc P W' sp s.vars (s.fn H (ds ++ [])).vars [] := by
    intro sp
    rw [List.append_nil, hvs, hvars]
    rfl
  refine ⟨ds, [], p ++ [], [], p, [], hW', hR _ _ _, hAr _ hold, hVr _, he.frame _, fun _ => ?_⟩
  refine ⟨ok_one hrt rfl (okWide_bool_mk hb true), _, _, ([] ++ p) ++ [], ⟨[] ++ p, [], trodAll_append (hAr _ (fun _ _ => rfl)) (hR _ _ _), hVr _, rfl, ?_, ?_⟩, ?_⟩
  · intro b off hp
    have hin : MemPlace.cell b off ∈ p ++ [] := by simpa using hp
    have hsz := hlt _ hin
    rw [World.frozen?_of_block (w := W) (he.same b hsz (fun h => h))]
    exact hz b off hin
  · intro ha
    have := hn ha
    simpa using this
  · intro x hx _
    simpa using hx
end reads
theorem law_calls {P : Program} {f : FuncId} {avs : List AV} {W : World} {us : List Value} (h : SpecIs P f avs [] (vB true) []) (hL : Laid W) (ha : ∀ (ρ : Name → Loc) (Hp : Heap), AV.Ts ρ Hp Fixed W avs us) :
    Calls P f us.toArray W fun e W' => e = .returned (.bool true) ∧ Ext Fixed W W' := by
  refine (h W (fun _ => ⟨none, 0⟩) Fixed W us ⟨hL, Nat.le_refl _, fun _ _ => rfl, fun b ⟨n, o, hn, _⟩ => by simp [look] at hn⟩ (fun b hb => hb.elim) (ha _ _) (fun n o h => by simp [look] at h) (fun n m o o' b h => by simp [look] at h)).mono fun e W' ⟨u, v, h', ρ', he, ⟨hv, hh⟩, haft⟩ => ?_
  subst hv; subst hh
  have := haft.val
  simp only [AV.R, PV.R] at this
  obtain ⟨rfl, _⟩ := this
  exact ⟨he, haft.ext.weaken fun b _ ⟨n, o, hn, _⟩ => by simp [look] at hn⟩
end Go.Proofs.YtfhcigjkfelnfaaGreat.AM
/-
  The abstract machine, part O: a header kept as pure data. No project text.
-/
set_option linter.unusedSimpArgs false
set_option linter.unusedVariables false
namespace Go.Proofs.YtfhcigjkfelnfaaGreat.AM
open Go
mutual
inductive Pin (n : Name) (len : Nat) (x : Value) : AV → AV → Prop
  | same (v : AV) : Pin n len x v v
  | pin : Pin n len x (.own n len) (.p (.v x))
  | unpin : Pin n len x (.p (.v x)) (.own n len)
  | agg {xs ys : List AV} (h : PinL n len x xs ys) : Pin n len x (.agg xs) (.agg ys)
inductive PinL (n : Name) (len : Nat) (x : Value) : List AV → List AV → Prop
  | nil : PinL n len x [] []
  | cons {v y : AV} {xs ys : List AV} (h : Pin n len x v y) (h' : PinL n len x xs ys) : PinL n len x (v :: xs) (y :: ys)
end
inductive OPin (n : Name) (len : Nat) (x : Value) : AO → AO → Prop
  | same (o : AO) : OPin n len x o o
  | box {xs ys : List AV} (h : PinL n len x xs ys) : OPin n len x (.box xs) (.box ys)
def TsPin (n : Name) (len : Nat) (x : Value) : List (Nat × AV) → List (Nat × AV) → Prop
  | [], [] => True
  | (k, v) :: r, (j, y) :: q => k = j ∧ Pin n len x v y ∧ TsPin n len x r q
  | _, _ => False
def HsPin (n : Name) (len : Nat) (x : Value) : List (Name × AO) → List (Name × AO) → Prop
  | [], [] => True
  | (k, v) :: r, (j, y) :: q => k = j ∧ OPin n len x v y ∧ HsPin n len x r q
  | _, _ => False
theorem TsPin.look {n : Name} {len : Nat} {x : Value} : ∀ {ts ts' : List (Nat × AV)}, TsPin n len x ts ts' → ∀ t y, AM.look t ts' = some y → ∃ v, AM.look t ts = some v ∧ Pin n len x v y
  | [], [], _, t, y, h => by simp [AM.look] at h
  | (k, v) :: r, (j, y0) :: q, h, t, y, hy => by
    obtain ⟨rfl, h2, h3⟩ := h
    simp only [AM.look] at hy ⊢
    split at hy
    · rename_i e; cases hy; exact ⟨v, by simp [e], h2⟩
    · rename_i e; simp only [e, if_false]; exact TsPin.look h3 t y hy
  | [], _ :: _, h, _, _, _ => h.elim
  | _ :: _, [], h, _, _, _ => h.elim
theorem HsPin.look {n : Name} {len : Nat} {x : Value} : ∀ {ts ts' : List (Name × AO)}, HsPin n len x ts ts' → ∀ t, (∀ y, AM.look t ts' = some y → ∃ v, AM.look t ts = some v ∧ OPin n len x v y) ∧ (∀ v, AM.look t ts = some v → ∃ y, AM.look t ts' = some y ∧ OPin n len x v y)
  | [], [], _, t => by simp [AM.look]
  | (k, v) :: r, (j, y0) :: q, h, t => by
    obtain ⟨rfl, h2, h3⟩ := h
    simp only [AM.look]
    split
    · exact ⟨fun y hy => by cases hy; exact ⟨v, rfl, h2⟩, fun y hy => by cases hy; exact ⟨y0, rfl, h2⟩⟩
    · exact HsPin.look h3 t
  | [], _ :: _, h, _ => h.elim
  | _ :: _, [], h, _ => h.elim
end Go.Proofs.YtfhcigjkfelnfaaGreat.AM
