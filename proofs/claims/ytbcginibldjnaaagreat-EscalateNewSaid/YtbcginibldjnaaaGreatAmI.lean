/-
  The abstract machine, part I: append, stores into arrays, calls. No project text.
-/
import Derived.Test.YtbcginibldjnaaaGreatAmH
set_option linter.unusedSimpArgs false
set_option linter.unusedVariables false
namespace Go.Proofs.YtbcginibldjnaaaGreat.AM
open Go

section
variable {P : Program} {o : Oper} {rd : List (Nat × AV)}

/-- An operation that writes or makes one object and yields a value. -/
theorem OpOK.put {hp : List (Name × AO)} {v : AV} {n : Name} {ob : AO} {nw : List Name}
    (h : ∀ (Γ : Ctx) (ρ : Name → Loc) (M : Nat → Prop) (s : AS) (a : Act) (w : World), Sim Γ ρ M s a w → s.holds ⟨rd, hp, v, [(n, ob)], nw⟩ → ∃ u w' ρ' M', (execOp a.eval o).run P w = .ok (.value u) w' ∧
      Sim Γ ρ' M' ⟨s.slot, fun m => if m = n then some ob else s.heap m⟩ a w' ∧ v.R ρ' (fun m => if m = n then some ob else s.heap m) M' w' u) : OpOK P o ⟨rd, hp, v, [(n, ob)], nw⟩ := by
  intro Γ ρ M s a w K Q hs hh hd hK
  obtain ⟨u, w', ρ', M', h1, h2, h3⟩ := h Γ ρ M s a w hs hh
  unfold Oper.wp
  rw [h1, Oper.upon_value]
  refine hK ρ' M' _ w' ((h2.put hd (fun _ => h3)).congr (fun t => rfl) (fun m => ?_))
  simp only [AS.run, AS.set, look]
  by_cases e : n = m
  · subst e; simp
  · simp [e, Ne.symm e]

/-- What a slice yields to append. -/
theorem src_of {ρ : Name → Loc} {H : Heap} {M : Nat → Prop} {w : World} {f : Bool} {es : Nat} {rows : List (List PV)} {u : Value} {T e : TypeId} (hT : elemT P T = some e) (h : PV.R M w (.sl f es rows) u) :
    ∃ cr : List (List Value), RR ρ H M w rows cr ∧ (∀ r ∈ rows, r.length = es) ∧ Src P es T u rows.length cr.flatten w := by
  simp only [PV.R] at h
  obtain ⟨a, cap, rfl, h2, h3, h4, h5⟩ := h
  cases a with
  | none =>
    have hc := h4 rfl
    have hl : rows = [] := List.eq_nil_of_length_eq_zero (by omega)
    subst hl; subst hc
    exact ⟨[], by simp [RR], by simp, Src.ofNil (w := w) (elemT_spec hT) 0⟩
  | some ad =>
    by_cases hc : cap = 0
    · have hl : rows = [] := List.eq_nil_of_length_eq_zero (by omega)
      subst hl
      exact ⟨[], by simp [RR], by simp, Src.ofSlice (w := w) (elemT_spec hT) ad _ _ [] (by simp) (by simp) (by simp)⟩
    obtain ⟨g1, g2, g3, g4⟩ := h5 ad rfl hc
    obtain ⟨b, off, spot⟩ := ad
    simp only at g1; subst g1
    obtain ⟨cr, k1, k2, k3⟩ := RR.of_Rows (ρ := ρ) (H := H) g4
    have hfl : cr.flatten.length = rows.length * es := by rw [flat_len (k1.len k2), k1.length]
    exact ⟨cr, k1, k2, Src.ofSlice (w := w) (elemT_spec hT) _ _ _ _ hfl (fun j u hj => by rw [addr_add]; exact k3 j u hj) k1.one⟩

theorem grownCap_le' (w : World) (need old : Nat) (e : TypeId) (h : need ≤ 140737488355328) : need ≤ grownCap w need old e := by
  have := grownCap_ge w need old e
  exact this

theorem size_zeroCells' (z : Array Value) (n : Nat) : (Builtin.zeroCells z n).size = n * z.size := by simp [Builtin.zeroCells]

/-- append, where a new row is made. -/
theorem Sim.grown {Γ : Ctx} {ρ : Name → Loc} {M : Nat → Prop} {s : AS} {a : Act} {w : World} (h : Sim Γ ρ M s a w) {n : Name} {es cap : Nat} {rows : List (List PV)} {cr : List (List Value)} {rest : Array Value} {e : TypeId}
    (hes : 1 ≤ es) (hrr : RR ρ s.heap M w rows cr) (hl : ∀ r ∈ rows, r.length = es) (hcap : rows.length ≤ cap) (hrest : rest.size = (cap - rows.length) * es) (h0 : 0 < rows.length)
    (hst : ∀ o', s.heap n = some o' → ∃ rows0, o' = .arr es rows0 ∧ rows0.length < rows.length) (hfree : s.heap n = none → s.free n) :
    ∃ M', Sim Γ (fun m => if m = n then ⟨some ⟨w.heap.size, 0, none⟩, cap⟩ else ρ m) M' ⟨s.slot, fun m => if m = n then some (.arr es rows) else s.heap m⟩ a (w.drew.alloc (.cells (cr.flatten.toArray ++ rest) e)) := by
  have he : Ext (fun _ => False) w (w.drew.alloc (.cells (cr.flatten.toArray ++ rest) e)) := (Ext.drew w).trans (Ext.alloc w.drew _) (fun _ _ hb => hb.elim)
  refine ⟨fun b => M b ∨ b = w.heap.size, h.update1 (he.weaken fun _ _ hb => hb.elim) (fun b hb => .inl hb) (fun b hb => hb.imp id (fun e => by omega)) (fun b hb => ?_) (fun o' ho' => ?_) hfree ?_ (fun b hb => .inr ?_)⟩
  · rcases hb with hb | hb
    · have := h.msize b hb; simp; omega
    · simp [hb]
  · obtain ⟨rows0, rfl, hlt⟩ := hst o' ho'
    simp only [stays]
    exact ⟨trivial, by omega, fun hc => by omega⟩
  · have hcr := hrr.length
    have hfl : cr.flatten.length = rows.length * es := by rw [flat_len (hrr.len hl), hcr]
    refine ⟨hes, by simpa using hcap, .inr ⟨w.heap.size, e, _, by simp, .inr rfl, by have := heap_alloc_new w.drew (.cells (cr.flatten.toArray ++ rest) e); simpa using this, ?_, ?_⟩⟩
    · simp only [if_true, Array.size_append, List.size_toArray, hfl, hrest]
      rw [← Nat.add_mul]
      congr 1
      omega
    · refine Rows_of_RR (ρ := ρ) (H := s.heap) (hrr.step (B := fun _ => False) he (fun _ hb => hb.elim) (fun b hb hb' => hb'.resolve_right (by omega))) hl fun j u hj => ?_
      have := heap_alloc_new w.drew (.cells (cr.flatten.toArray ++ rest) e)
      simp only [World.size_drew] at this
      simp only [World.cell?, this]
      have hlt : j < cr.flatten.length := by
        rcases Nat.lt_or_ge j cr.flatten.length with h' | h'
        · exact h'
        · rw [List.getElem?_eq_none h'] at hj; simp at hj
      show (if (none : Option Nat).isSome = true then none else (cr.flatten.toArray ++ rest)[j]?) = some u
      rw [if_neg (by simp), Array.getElem?_append_left (by simpa only [List.size_toArray] using hlt), List.getElem?_toArray]
      exact hj
  · simp only [Loc.blk] at hb
    split at hb
    · simp at hb
    · simp at hb; omega

theorem setCells_eq {w : World} {b k : Nat} {cur : Array Value} {t : TypeId} {vs : List Value} (hb : w.heap[b]? = some (.cells cur t (0, 0))) (hl : k + vs.length ≤ cur.size) (h1 : ∀ v ∈ vs, v.oneCell' = true) :
    w.setCells b k vs = w.setRow b (setAt cur.toList k vs).toArray := by
  have r1 := run_storeCells_at (P := default) b k t vs 0 cur w hb (by simpa using hl) h1
  have r2 := run_storeCells_cells (P := default) b k vs 0 w (fun j hj => by
      have : k + j < cur.size := by omega
      simp [World.cell?, hb, this]) (fun j hj => by simp [World.frozen?, hb]) h1
  rw [r1] at r2
  simp only [Nat.add_zero] at r2
  injection r2 with _ r3
  exact r3.symm

/-- append to an array of ours. -/
theorem OpOK.appendOwn {T e : TypeId} {x y : Operand} {ats : Array TypeId} {n : Name} {len es bytes r : Nat} {f : Bool} {rows rows' rows2 : List (List PV)}
    (ho : o.op = .call { callee := .builtin .append, args := #[x, y], argTypes := ats }) (hat : ats = #[T, T]) (hT : elemT P T = some e) (hok : elemOK P e es bytes = true)
    (hx : evalO rd x = some (.own n len)) (hlen : Nat.beq len rows.length = true) (hy : evalO rd y = some (.p (.sl f es rows'))) (h2 : rows ++ rows' = rows2) (hr : rows2.length = r)
    (hfit : (rows.length + rows'.length) * bytes ≤ 140737488355328) (hfit2 : rows.length + rows'.length ≤ 140737488355328) :
    OpOK P o ⟨rd, [(n, .arr es rows)], .own n r, [(n, .arr es rows2)], []⟩ :=
  OpOK.put fun Γ ρ M s a w hs hh => by
    subst h2; subst hr; subst hat
    have hle := Nat.eq_of_beq_eq_true hlen
    subst hle
    obtain ⟨i, z, hi, hz, hsz, hby, hzs⟩ := elemOK_spec hok
    have hrx := evalO_R hs hh hx
    simp only [AV.R] at hrx
    have hn := hh.hp n _ (by simp : (n, AO.arr es rows) ∈ _)
    have hux := (hrx.2 _ es rows.length hn rfl).2 rfl
    have hry := evalO_R hs hh hy
    simp only [AV.R] at hry
    obtain ⟨cr', k1, k2, hsrc⟩ := src_of (P := P) (ρ := ρ) (H := s.heap) hT hry
    obtain ⟨hes, hcap, hobj⟩ := hs.objs n _ hn
    have hexec : ∀ (u : Value) (w' : World), (Builtin.append_ #[T, T] o.type #[.slice (ρ n).base rows.length (ρ n).cap, a.eval y]).run P w = .ok u w' → (execOp a.eval o).run P w = .ok (.value u) w' := by
      intro u w' hrun
      simp [execOp, ho, resolve, invoke, builtin, hux, hrun]
    rw [← hsz] at hsrc
    by_cases hnil : rows' = []
    · subst hnil
      simp only [List.append_nil]
      simp only [RR] at k1
      subst k1
      have hrun := run_append_nothing w T T o.type e i (elemT_spec hT) hi (ρ n).base rows.length (ρ n).cap hcap (a.eval y) (by simpa using hsrc)
      have hfun : (fun m => if m = n then some (AO.arr es rows) else s.heap m) = s.heap := by
        funext m; by_cases e : m = n
        · subst e; simp [hn]
        · simp [e]
      refine ⟨_, w, ρ, M, hexec _ _ hrun, by rw [hfun]; exact hs, ?_⟩
      rw [hfun, ← hux]
      simp only [AV.R]
      exact hrx
    · have hpos : 0 < rows'.length := List.length_pos_iff.2 hnil
      by_cases hroom : rows.length + rows'.length ≤ (ρ n).cap
      · -- there is room
        rcases hobj with hobj | ⟨b, T', cs, h3, h4, h5, h6, h7⟩
        · omega
        · have hcrl := k1.length
          have hfl : cr'.flatten.length = rows'.length * es := by rw [flat_len (k1.len k2), hcrl]
          have hfits : rows.length * es + cr'.flatten.length ≤ cs.size := by
            rw [hfl, h6, ← Nat.add_mul]; exact Nat.mul_le_mul_right es hroom
          have hle2 : rows.length * es + cr'.flatten.length ≤ cs.size := hfits
          obtain ⟨cr0, m1, m2, m3⟩ := RR.of_Rows (ρ := ρ) (H := s.heap) h7
          have hfl0 : cr0.flatten.length = rows.length * es := by rw [flat_len (m1.len m2), m1.length]
          have hcell : ∀ j, j < cs.size → w.cell? ⟨b, j, none⟩ = cs[j]? := fun j hj => by simp [World.cell?, h5]
          have hrun := run_append_room_src (P := P) w T T o.type e i (elemT_spec hT) hi b 0 rows.length (ρ n).cap (a.eval y) rows'.length cr'.flatten hsrc hroom
            (fun j hj => by rw [hsz, Nat.zero_add, hcell _ (by omega)]; simp; omega) (fun j hj => by simp [World.frozen?, h5])
          rw [hsz, Nat.zero_add, setCells_eq h5 hle2 k1.one, ← h3] at hrun
          have he : Ext (fun b' => b' = b) w (w.setRow b (setAt cs.toList (rows.length * es) cr'.flatten).toArray) := ⟨by simp [World.setRow], fun b' hb hne => setRow_other w b b' _ hne, rfl, rfl⟩
          have hblk : (ρ n).blk = some b := by
            have : (ρ n).cap ≠ 0 := by omega
            simp [Loc.blk, this, h3]
          have hM : M b := h4
          refine ⟨_, _, (fun m => if m = n then ρ n else ρ m), M, hexec _ _ hrun, hs.update1 (he.weaken fun b' _ hb => ⟨by rw [hblk, hb], by rw [hn]; simp⟩) (fun _ hb => hb) (fun _ hb => .inl hb) (fun b' hb => Nat.lt_of_lt_of_le (hs.msize b' hb) he.size)
            (fun o' ho' => by rw [hn] at ho'; cases ho'; simp [stays]) (fun h0 => by rw [hn] at h0; simp at h0) ?_ (fun b' hb => .inl ⟨_, hn, hb⟩), ?_⟩
          · refine ⟨hes, by simpa using hroom, .inr ⟨b, T', _, by simp [h3], hM, setRow_heap w b cs _ T' (0, 0) h5, ?_, ?_⟩⟩
            · simp only [if_true, List.size_toArray, setAt, List.length_append, List.length_take, List.length_drop, Array.length_toList, ← h6]
              omega
            · have st : ∀ {rs : List (List PV)} {c : List (List Value)}, RR ρ s.heap M w rs c → RR ρ s.heap M (w.setRow b (setAt cs.toList (rows.length * es) cr'.flatten).toArray) rs c := fun h => h.step he (fun b' hb => by rw [hb]; exact hM) (fun b' _ hb => hb)
              refine Rows_of_RR (ρ := ρ) (H := s.heap) ((st m1).append (st k1)) (fun r hr => ?_) fun j u hj => ?_
              · rcases List.mem_append.1 hr with hr | hr
                · exact m2 r hr
                · exact k2 r hr
              · rw [cell_setRow_same w b j cs _ T' (0, 0) h5]
                simp only [List.flatten_append] at hj
                simp only [List.getElem?_toArray, setAt]
                rw [List.getElem?_append] at hj
                split at hj
                · rename_i hlt
                  have := m3 j u hj
                  rw [Nat.zero_add, hcell j (by omega)] at this
                  rw [List.append_assoc, List.getElem?_append_left (by simp; omega), List.getElem?_take_of_lt (by omega)]
                  simpa using this
                · rename_i hge
                  have hjl : j - cr0.flatten.length < cr'.flatten.length := by
                    rcases Nat.lt_or_ge (j - cr0.flatten.length) cr'.flatten.length with h' | h'
                    · exact h'
                    · rw [List.getElem?_eq_none h'] at hj; simp at hj
                  have htl : (List.take (rows.length * es) cs.toList).length = rows.length * es := by simp; omega
                  rw [List.append_assoc, List.getElem?_append_right (by omega), List.getElem?_append_left (by omega), htl, ← hfl0]
                  exact hj
          · simp only [AV.R]
            refine ⟨rfl, fun o' es' k' hc hs' => ?_⟩
            simp only [if_true] at hc
            cases hc
            cases hs'
            exact ⟨Nat.le_refl _, fun _ => by simp⟩
      · -- a new row
        have hg : (ρ n).cap < rows.length + rows'.length := by omega
        have hold : ∃ cr0, RR ρ s.heap M w rows cr0 ∧ (∀ r ∈ rows, r.length = es) ∧ (Builtin.firstCells i.size rows.length (.slice (ρ n).base rows.length (ρ n).cap)).run P w.drew = .ok cr0.flatten.toArray w.drew := by
          rcases hobj with hobj | ⟨b, T', cs, h3, h4, h5, h6, h7⟩
          · have hl : rows = [] := List.eq_nil_of_length_eq_zero (by omega)
            subst hl
            refine ⟨[], by simp [RR], by simp, ?_⟩
            cases hb : (ρ n).base with
            | none => simpa using run_firstCells_none (P := P) w.drew i.size 0 0 (ρ n).cap
            | some ad => simpa using run_firstCells_some (P := P) w.drew i.size 0 ad 0 (ρ n).cap [] (by simp) (by simp)
          · obtain ⟨cr0, m1, m2, m3⟩ := RR.of_Rows (ρ := ρ) (H := s.heap) h7
            refine ⟨cr0, m1, m2, ?_⟩
            rw [h3]
            exact run_firstCells_some (P := P) w.drew i.size rows.length _ rows.length (ρ n).cap cr0.flatten (by rw [hsz, flat_len (m1.len m2), m1.length]) (fun j u hj => by
              rw [addr_add, Nat.zero_add, World.cell?_drew]; have := m3 j u hj; rwa [Nat.zero_add] at this)
        obtain ⟨cr0, m1, m2, hold⟩ := hold
        have hrun := run_append_grow_src (P := P) w T T o.type e i z (elemT_spec hT) hi hz (ρ n).base rows.length (ρ n).cap cr0.flatten hold (a.eval y) rows'.length cr'.flatten hsrc hg
          (by omega) (growslice_fits hg (by rw [hby]; exact hfit))
        have hge := grownCap_ge w (rows.length + rows'.length) (ρ n).cap e
        have happ : (cr0.flatten ++ cr'.flatten) = (cr0 ++ cr').flatten := by simp
        rw [happ] at hrun
        obtain ⟨M', hsim⟩ := hs.grown (n := n) (es := es) (cap := grownCap w (rows.length + rows'.length) (ρ n).cap e) (rows := rows ++ rows') (cr := cr0 ++ cr') (rest := Builtin.zeroCells z.cells (grownCap w (rows.length + rows'.length) (ρ n).cap e - (rows.length + rows'.length))) (e := e)
          hes (m1.append k1) (fun r hr => by rcases List.mem_append.1 hr with hr | hr; exact m2 r hr; exact k2 r hr) (by simpa using hge) (by rw [size_zeroCells', hzs]; simp) (by simp; omega)
          (fun o' ho' => by rw [hn] at ho'; cases ho'; exact ⟨rows, rfl, by simp; omega⟩) (fun h0 => by rw [hn] at h0; simp at h0)
        refine ⟨_, _, _, M', hexec _ _ hrun, hsim, ?_⟩
        simp only [AV.R]
        refine ⟨rfl, fun o' es' k' hc hs' => ?_⟩
        simp only [if_true] at hc
        cases hc
        cases hs'
        exact ⟨Nat.le_refl _, fun _ => by simp⟩

end
end Go.Proofs.YtbcginibldjnaaaGreat.AM
