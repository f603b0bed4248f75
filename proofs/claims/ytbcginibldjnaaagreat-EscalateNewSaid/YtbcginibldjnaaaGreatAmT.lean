/-
  The abstract machine, part T: an array of ours is copied within itself. No project text.
-/
import Derived.Test.YtbcginibldjnaaaGreatAmS
set_option linter.unusedSimpArgs false
set_option linter.unusedVariables false
namespace Go.Proofs.YtbcginibldjnaaaGreat.AM
open Go
section
variable {P : Program} {o : Oper} {rd : List (Nat × AV)}
/-- The header X from row k on. -/
def subV (X : Value) (k es : Nat) : Value := match X with
  | .slice a l c => .slice (if c = k then a else a.map (·.add (k * es))) (l - k) (c - k)
  | v => v
theorem OpOK.sliceOwn {T e : TypeId} {x lo : Operand} {n n0 : Name} {es len k : Nat} {rows : List (List PV)} {X : Value} {i : Int} (ho : o.op = .slice T x (some lo) none none) (hT : P.underlying T = some (.slice e)) (hz : sizeT P e = some es)
    (hx : evalO rd x = some (.own n len)) (hlo : evalO rd lo = some (.p (.v (.int .i64 i)))) (hi : i = ((k : Nat) : Int)) (hlen : Nat.beq len rows.length = true) (hk : k ≤ rows.length) :
    OpOK P o ⟨rd, [(n0, .fact (.own n len) X), (n, .arr es rows)], .p (.v (subV X k es)), [], []⟩ :=
  OpOK.quiet fun Γ ρ M s a w hs hh => by
    subst hi
    have h1 := evalO_R hs hh hx
    have h2 := evalO_R hs hh hlo
    simp only [AV.R] at h1
    simp only [AV.R, PV.R] at h2
    have hn := hh.hp n _ (by simp : (n, AO.arr es rows) ∈ _)
    have hf := (hs.objs n0 _ (hh.hp n0 _ (by simp : (n0, AO.fact (.own n len) X) ∈ _))).2
    simp only [AV.R] at hf
    have hle := Nat.eq_of_beq_eq_true hlen
    have hu := (h1.2 _ es rows.length hn rfl).2 hle
    have hX := (hf.2 _ es rows.length hn rfl).2 hle
    obtain ⟨hes, hcap, _⟩ := hs.objs n _ hn
    refine ⟨subV X k es, ?_, by simp only [AV.R, PV.R]; exact ⟨trivial, by rw [hX]; rfl⟩⟩
    have hb : (Instr.sliceBounds true len (ρ n).cap (some (.int .i64 ((k : Nat) : Int))) none none).run P w = .ok (k, len, (ρ n).cap) w := by
      unfold Instr.sliceBounds
      have : k ≤ len := by omega
      simp [run_sliceBound, this]
    simp [execOp, ho, hu, h2.1, Instr.sliceAt, Instr.slice, run_underlying hT, hb, run_sizeOf hz, subV, hX]
theorem OpOK.copyOwn {T e : TypeId} {x y : Operand} {ats : Array TypeId} {n n0 : Name} {es len i j : Nat} {rows rows' : List (List PV)} {X : Value} {r : Int} (ho : o.op = .call { callee := .builtin .copy, args := #[x, y], argTypes := ats }) (hat : ats = #[T, T])
    (hT : P.underlying T = some (.slice e)) (hz : sizeT P e = some es) (hx : evalO rd x = some (.p (.v (subV X i es)))) (hy : evalO rd y = some (.p (.v (subV X j es)))) (hlen : Nat.beq len rows.length = true) (hi : i ≤ rows.length) (hj : j ≤ i)
    (hr : rows.take i ++ (rows.drop j).take (rows.length - i) = rows') (hv : ((rows.length - i : Nat) : Int) = r) :
    OpOK P o ⟨rd, [(n0, .fact (.own n len) X), (n, .arr es rows)], .p (.v (.int .i64 r)), [(n, .arr es rows')], []⟩ :=
  OpOK.upd fun Γ ρ M s a w hs hh => by
    subst hr; subst hv; subst hat
    have hn := hh.hp n _ (by simp : (n, AO.arr es rows) ∈ _)
    have hf := (hs.objs n0 _ (hh.hp n0 _ (by simp : (n0, AO.fact (.own n len) X) ∈ _))).2
    simp only [AV.R] at hf
    have hle := Nat.eq_of_beq_eq_true hlen
    have hX := (hf.2 _ es rows.length hn rfl).2 hle
    have h1 := evalO_R hs hh hx
    have h2 := evalO_R hs hh hy
    simp only [AV.R, PV.R] at h1 h2
    obtain ⟨hes, hcap, hobj⟩ := hs.objs n _ hn
    have hsz := run_sizeOf (P := P) (w := w) hz
    have hres : ∀ ρ' H' M' w', AV.R ρ' H' M' w' (.p (.v (.int .i64 ((rows.length - i : Nat) : Int)))) (.int .i64 ((rows.length - i : Nat) : Int)) := fun _ _ _ _ => by simp only [AV.R, PV.R]; exact ⟨trivial, rfl⟩
    have hmin : Nat.min (len - j) (len - i) = rows.length - i := by rw [hle]; exact Nat.min_eq_right (by omega)
    by_cases hz0 : rows.length - i = 0
    · have hrows : rows.take i ++ (rows.drop j).take (rows.length - i) = rows := by rw [hz0, List.take_zero, List.append_nil]; exact List.take_of_length_le (by omega)
      rw [hrows]
      refine ⟨_, w, ρ, M, ?_, hs.congr (fun t => rfl) (fun m => ?_), hres _ _ _ _⟩
      · have hl : ∀ (q : Addr), (loadCells q 0).run P w = .ok #[] w := fun q => by simpa using run_loadCells_list (P := P) w q [] (by simp)
        have hA : ∀ (d q : Option Addr) (dc qc : Nat), (Builtin.copy_ #[T, T] o.type #[.slice d (len - i) dc, .slice q (len - j) qc]).run P w = .ok (goInt ((rows.length - i : Nat) : Int)) w := fun d q dc qc => by
          cases d <;> cases q <;> simp [Builtin.copy_, run_underlying hT, Builtin.lenOf, Builtin.firstCells, hsz, hmin, hz0, storeCells, hl, Result.andThen]
        simp [execOp, ho, resolve, invoke, builtin, h1.1, h2.1, subV, hX, hA, goInt]
      · by_cases e : m = n
        · subst e; simp [hn]
        · simp [e]
    · rcases hobj with hobj | ⟨b, t, cs, h3, h4, h5, h6, h7⟩
      · omega
      · have hci : ¬ (ρ n).cap = i := by omega
        have hcj : ¬ (ρ n).cap = j := by omega
        have hdst : a.eval x = .slice (some ⟨b, i * es, none⟩) (len - i) ((ρ n).cap - i) := by rw [h1.1, hX]; simp [subV, hci, h3, addr_add]
        have hsrc : a.eval y = .slice (some ⟨b, j * es, none⟩) (len - j) ((ρ n).cap - j) := by rw [h2.1, hX]; simp [subV, hcj, h3, addr_add]
        have hN : (rows.length - i) * es + j * es ≤ cs.size := by rw [h6, ← Nat.add_mul]; exact Nat.mul_le_mul_right es (by omega)
        have hN2 : i * es + (rows.length - i) * es ≤ cs.size := by rw [h6, ← Nat.add_mul]; exact Nat.mul_le_mul_right es (by omega)
        obtain ⟨vs, hvs⟩ : ∃ vs, vs = (cs.toList.drop (j * es)).take ((rows.length - i) * es) := ⟨_, rfl⟩
        have hvl : vs.length = (rows.length - i) * es := by rw [hvs]; simp; omega
        have hget : ∀ q, q < (rows.length - i) * es → vs[q]? = cs.toList[j * es + q]? := fun q hq => by rw [hvs, List.getElem?_take, if_pos hq, List.getElem?_drop]
        have hold : ∀ q, w.cell? ⟨b, q, none⟩ = cs.toList[q]? := fun q => by simp [World.cell?, h5]
        have hone : ∀ v ∈ vs, v.oneCell' = true := by
          intro v hv
          obtain ⟨q, hq, e⟩ := List.getElem_of_mem hv
          rw [hvl] at hq
          have hdiv : q / es < rows.length - i := Nat.div_lt_of_lt_mul (by rw [Nat.mul_comm]; exact hq)
          have hmod : q % es < es := Nat.mod_lt _ hes
          have hrow : rows[j + q / es]? = some rows[j + q / es] := List.getElem?_eq_getElem (by omega)
          obtain ⟨g1, g2⟩ := h7.get _ _ hrow
          have hc : rows[j + q / es][q % es]? = some rows[j + q / es][q % es] := List.getElem?_eq_getElem (by omega)
          obtain ⟨u, k1, k2⟩ := g2.get _ _ hc
          have hpos : 0 + (j + q / es) * es + q % es = j * es + q := by
            have := Nat.div_add_mod q es
            rw [Nat.add_mul, Nat.mul_comm (q / es)]; omega
          rw [hpos, hold] at k1
          have := hget q hq
          rw [k1, List.getElem?_eq_getElem (by omega), e] at this
          have hvu : v = u := by simpa using this
          rw [hvu]; exact k2.flat
        have hload := run_loadCells_list (P := P) w ⟨b, j * es, none⟩ vs (fun q v hq => by
          rw [addr_add, hold]
          have hq' : q < (rows.length - i) * es := by rw [← hvl]; exact (List.getElem?_eq_some_iff.1 hq).1
          rw [← hget q hq']; exact hq)
        have hstore := run_storeCells_at (P := P) b (i * es) t vs 0 cs w h5 (by rw [hvl]; omega) hone
        rw [hvl] at hload
        have hw : (setAt cs.toList (i * es) vs).toArray = (cs.toList.take (i * es + 0) ++ vs ++ cs.toList.drop (i * es + 0 + vs.length)).toArray := by unfold setAt; rfl
        refine ⟨_, w.setRow b (setAt cs.toList (i * es) vs).toArray, (fun m => if m = n then ρ n else ρ m), M, ?_, ?_, hres _ _ _ _⟩
        · have hrun : (Builtin.copy_ #[T, T] o.type #[a.eval x, a.eval y]).run P w = .ok (goInt ((rows.length - i : Nat) : Int)) (w.setRow b (setAt cs.toList (i * es) vs).toArray) := by
            rw [hdst, hsrc]
            simp [Builtin.copy_, run_underlying hT, Builtin.lenOf, Builtin.firstCells, hsz, hmin, hload, Result.andThen]
            rw [hstore, hw]
          simp [execOp, ho, resolve, invoke, builtin, hrun, goInt]
        · have hblk : (ρ n).blk = some b := by
            have : (ρ n).cap ≠ 0 := by omega
            simp [Loc.blk, this, h3]
          have he : Ext (fun b' => b' = b) w (w.setRow b (setAt cs.toList (i * es) vs).toArray) := ⟨by simp [World.setRow], fun b' hb hne => setRow_other w b b' _ hne, rfl, rfl⟩
          have hM : M b := h4
          have hlen' : (rows.take i ++ (rows.drop j).take (rows.length - i)).length = rows.length := by simp; omega
          refine hs.update1 (he.weaken fun b' _ hb => ⟨by rw [hblk, hb], by rw [hn]; simp⟩) (fun _ hb => hb) (fun _ hb => .inl hb) (fun b' hb => Nat.lt_of_lt_of_le (hs.msize b' hb) he.size)
            (fun o' ho' => by rw [hn] at ho'; cases ho'; simp only [stays]; exact ⟨trivial, by rw [hlen']; exact Nat.le_refl _, fun _ => trivial⟩) (fun h0 => by rw [hn] at h0; simp at h0) ?_ (fun b' hb => .inl ⟨_, hn, hb⟩)
          refine ⟨hes, by rw [hlen']; simpa using hcap, .inr ⟨b, t, _, by simp [h3], hM, setRow_heap w b cs _ t (0, 0) h5, ?_, ?_⟩⟩
          · simp only [if_true, List.size_toArray, setAt, List.length_append, List.length_take, List.length_drop, Array.length_toList, ← h6, hvl]
            omega
          · have hmono : ∀ {x : PV} {u : Value}, x.R M w u → x.R M (w.setRow b (setAt cs.toList (i * es) vs).toArray) u := fun h => h.mono he (fun b' hb => by rw [hb]; exact hM) (fun b' _ hb => hb)
            have hcell : ∀ q, (w.setRow b (setAt cs.toList (i * es) vs).toArray).cell? ⟨b, q, none⟩ = (setAt cs.toList (i * es) vs)[q]? := fun q => by
              rw [cell_setRow_same w b q cs _ t (0, 0) h5, List.getElem?_toArray]
            have hset : ∀ q, (setAt cs.toList (i * es) vs)[q]? = if i * es ≤ q ∧ q < i * es + (rows.length - i) * es then vs[q - i * es]? else cs.toList[q]? := fun q => by
              have htl : (List.take (i * es) cs.toList).length = i * es := by simp; omega
              unfold setAt
              by_cases c1 : q < i * es
              · rw [if_neg (by omega), List.append_assoc, List.getElem?_append_left (by omega), List.getElem?_take_of_lt c1]
              · by_cases c2 : q < i * es + (rows.length - i) * es
                · rw [if_pos ⟨by omega, c2⟩, List.append_assoc, List.getElem?_append_right (by omega), List.getElem?_append_left (by rw [htl, hvl]; omega), htl]
                · rw [if_neg (by omega), List.getElem?_append_right (by simp only [List.length_append, htl, hvl]; omega), List.getElem?_drop]
                  congr 1
                  simp only [List.length_append, htl, hvl]; omega
            refine PV.Rows.of_get fun i' r' hi' => ?_
            rw [List.getElem?_append] at hi'
            have htk : (rows.take i).length = i := by simp; omega
            by_cases c : i' < i
            · rw [if_pos (by omega), List.getElem?_take, if_pos c] at hi'
              obtain ⟨g1, g2⟩ := h7.get i' r' hi'
              refine ⟨g1, PV.Cells.of_get fun q p hq => ?_⟩
              obtain ⟨u, k1, k2⟩ := g2.get q p hq
              have hq' : q < es := by rw [← g1]; exact (List.getElem?_eq_some_iff.1 hq).1
              have hlt : i' * es + q < i * es := by
                have : (i' + 1) * es ≤ i * es := Nat.mul_le_mul_right es c
                rw [Nat.succ_mul] at this; omega
              refine ⟨u, ?_, hmono k2⟩
              rw [hcell, hset, if_neg (by omega), ← hold]; exact k1
            · rw [if_neg (by omega), htk, List.getElem?_take] at hi'
              split at hi'
              · rename_i hlt
                rw [List.getElem?_drop] at hi'
                obtain ⟨g1, g2⟩ := h7.get (j + (i' - i)) r' hi'
                refine ⟨g1, PV.Cells.of_get fun q p hq => ?_⟩
                obtain ⟨u, k1, k2⟩ := g2.get q p hq
                have hq' : q < es := by rw [← g1]; exact (List.getElem?_eq_some_iff.1 hq).1
                have e1 : i' * es = i * es + (i' - i) * es := by rw [← Nat.add_mul]; congr 1; omega
                have e2 : (j + (i' - i)) * es = j * es + (i' - i) * es := Nat.add_mul _ _ _
                have hlt2 : (i' - i) * es + q < (rows.length - i) * es := by
                  have : (i' - i + 1) * es ≤ (rows.length - i) * es := Nat.mul_le_mul_right es hlt
                  rw [Nat.succ_mul] at this; omega
                refine ⟨u, ?_, hmono k2⟩
                rw [hcell, hset, if_pos (by omega), show 0 + i' * es + q - i * es = (i' - i) * es + q by omega, hget _ hlt2, ← hold, ← k1]
                congr 2; omega
              · simp at hi'
end
end Go.Proofs.YtbcginibldjnaaaGreat.AM
