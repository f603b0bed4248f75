/-
  The abstract machine, part V: slices of pure data with any bounds; parts of an array of ours (views). No project text.
-/
import Derived.Test.YtbcginibldjnaaaGreatAmT
set_option linter.unusedSimpArgs false
set_option linter.unusedVariables false
namespace Go.Proofs.YtbcginibldjnaaaGreat.AM
open Go
section
variable {P : Program} {o : Oper} {rd : List (Nat × AV)}
theorem add_zero' (x : Addr) : x.add 0 = x := by
  obtain ⟨b0, o0, s0⟩ := x
  cases s0 <;> simp [Addr.add]
theorem run_bounds {Γ : Ctx} {ρ : Name → Loc} {M : Nat → Prop} {s : AS} {a : Act} {w : World} {e : Eff} (hs : Sim Γ ρ M s a w) (hh : s.holds e) {lo hi : Option Operand} {len cap k m : Nat}
    (hlo : optB e.rd 0 lo = some ((k : Nat) : Int)) (hhi : optB e.rd len hi = some ((m : Nat) : Int)) (h1 : k ≤ m) (h2 : m ≤ len) (h3 : len ≤ cap) :
    (Instr.sliceBounds true len cap (lo.map a.eval) (hi.map a.eval) none).run P w = .ok (k, m, cap) w := by
  have hb1 := run_bound (P := P) (w := w) (y := cap) (c := .sliceAcap) hs hh hhi (Nat.le_trans h2 h3)
  have hb2 := run_bound (P := P) (w := w) (c := .sliceB) hs hh hlo h1
  unfold Instr.sliceBounds
  cases lo <;> cases hi <;> simp_all
/-- x[k:m] of pure data. -/
theorem OpOK.sliceP {T e : TypeId} {x : Operand} {lo hi : Option Operand} {full : Bool} {es k m : Nat} {rows : List (List PV)} (ho : o.op = .slice T x lo hi none) (hT : P.underlying T = some (.slice e)) (hz : sizeT P e = some es)
    (hx : evalO rd x = some (.p (.sl full es rows))) (hlo : optB rd 0 lo = some ((k : Nat) : Int)) (hhi : optB rd rows.length hi = some ((m : Nat) : Int)) (h1 : k ≤ m) (h2 : m ≤ rows.length) : OpOK P o ⟨rd, [], .p (.sl false es ((rows.take m).drop k)), [], []⟩ :=
  OpOK.quiet fun Γ ρ M s a w hs hh => by
    have hr := evalO_R hs hh hx
    simp only [AV.R, PV.R] at hr
    obtain ⟨ad, cap, hu, hl, hf, hn, hc⟩ := hr
    have hb := run_bounds (P := P) hs hh hlo hhi h1 h2 hl
    refine ⟨.slice (if cap = k then ad else ad.map (·.add (k * es))) (m - k) (cap - k), ?_, ?_⟩
    · simp [execOp, ho, hu, Instr.sliceAt, Instr.slice, run_underlying hT, hb, run_sizeOf hz]
    · simp only [AV.R, PV.R, List.length_drop, List.length_take, Nat.min_eq_left h2]
      refine ⟨_, _, rfl, by omega, fun h => by simp at h, fun h => ?_, fun ad' had hcap => ?_⟩
      · split at h
        · omega
        · cases ad with
          | none => rw [hn rfl]; omega
          | some x => simp at h
      · have hne : ¬ cap = k := by omega
        rw [if_neg hne] at had
        cases ad with
        | none => simp at had
        | some x =>
          obtain ⟨g1, g2, g3, g4⟩ := hc x rfl (by omega)
          obtain ⟨b0, o0, s0⟩ := x
          simp only at g1; subst g1
          simp only [Option.map_some, Option.some.injEq] at had
          rw [addr_add] at had
          subst had
          exact ⟨rfl, g2, g3, (g4.take m).drop k⟩
/-- x[k:m] of an array of ours. -/
theorem OpOK.sliceView {T e : TypeId} {x : Operand} {lo hi : Option Operand} {n : Name} {es len k m : Nat} {rows : List (List PV)} (ho : o.op = .slice T x lo hi none) (hT : P.underlying T = some (.slice e)) (hz : sizeT P e = some es)
    (hx : evalO rd x = some (.own n len)) (hlo : optB rd 0 lo = some ((k : Nat) : Int)) (hhi : optB rd len hi = some ((m : Nat) : Int)) (hlen : Nat.beq len rows.length = true) (h1 : k ≤ m) (h2 : m ≤ rows.length) :
    OpOK P o ⟨rd, [(n, .arr es rows)], .view n len k m, [], []⟩ :=
  OpOK.quiet fun Γ ρ M s a w hs hh => by
    have hr := evalO_R hs hh hx
    simp only [AV.R] at hr
    have hn := hh.hp n _ (by simp : (n, AO.arr es rows) ∈ _)
    have hle := Nat.eq_of_beq_eq_true hlen
    have hu := (hr.2 _ es rows.length hn rfl).2 hle
    obtain ⟨hes, hcap, _⟩ := hs.objs n _ hn
    have hb := run_bounds (P := P) (cap := (ρ n).cap) hs hh hlo hhi h1 (by rw [hle]; exact h2) (by rw [hle]; exact hcap)
    refine ⟨viewV (.slice (ρ n).base len (ρ n).cap) k m es, ?_, ?_⟩
    · simp [execOp, ho, hu, Instr.sliceAt, Instr.slice, run_underlying hT, hb, run_sizeOf hz, viewV]
    · simp only [AV.R]
      refine ⟨rfl, h1, by rw [hle]; exact h2, fun ob es' kk hob hsh => ?_⟩
      rw [hn] at hob; cases hob
      simp only [AO.shape, Option.some.injEq, Prod.mk.injEq] at hsh
      obtain ⟨rfl, rfl⟩ := hsh
      exact ⟨by omega, fun _ => rfl⟩
theorem Rs_cell {ρ : Name → Loc} {H : Heap} {M : Nat → Prop} {w : World} : ∀ {ps : List PV} {us : List Value}, AV.Rs ρ H M w (pcells ps) us → ∀ (q : Nat) (p : PV), ps[q]? = some p → ∃ u : Value, us[q]? = some u ∧ p.R M w u
  | [], us, _, q, p, h => by simp at h
  | x :: ps, us, h, q, p, hq => by
    simp only [pcells, List.map_cons, AV.Rs] at h
    obtain ⟨u, us', rfl, _, h3, h4⟩ := h
    cases q with
    | zero => simp only [List.getElem?_cons_zero, Option.some.injEq] at hq; subst hq; exact ⟨u, rfl, by simpa only [AV.R] using h3⟩
    | succ q => simpa using Rs_cell (ps := ps) h4 q p (by simpa using hq)
/-- How long a part of an array of ours is. -/
theorem OpOK.lenView {T e : TypeId} {x : Operand} {ats : Array TypeId} {n : Name} {len lo hi es : Nat} {rows : List (List PV)} (ho : o.op = .call { callee := .builtin .len, args := #[x], argTypes := ats }) (hat : ats[0]? = some T) (hT : elemT P T = some e)
    (hx : evalO rd x = some (.view n len lo hi)) (hlen : Nat.beq len rows.length = true) : OpOK P o ⟨rd, [(n, .arr es rows)], .p (.v (.int .i64 ((hi - lo : Nat) : Int))), [], []⟩ :=
  OpOK.quiet fun Γ ρ M s a w hs hh => by
    have hr' := evalO_R hs hh hx
    simp only [AV.R] at hr'
    have hle := Nat.eq_of_beq_eq_true hlen
    have hu := (hr'.2.2.2 (.arr es rows) es rows.length (hh.hp n _ (by simp)) rfl).2 hle
    simp only [viewV] at hu
    refine ⟨.int .i64 ((hi - lo : Nat) : Int), ?_, by simp only [AV.R, PV.R]; exact ⟨trivial, rfl⟩⟩
    simp [execOp, ho, resolve, invoke, builtin, Builtin.len_, hat, hu, run_underlying (elemT_spec hT), goInt]
/-- An element of a part of an array of ours. -/
theorem OpOK.indexView {T e : TypeId} {x y : Operand} {n : Name} {len lo hi es i : Nat} {rows : List (List PV)} {k : IntKind} {j : Int} (ho : o.op = .indexAddr T x y) (hT : elemT P T = some e) (hz : sizeT P e = some es)
    (hx : evalO rd x = some (.view n len lo hi)) (hlen : Nat.beq len rows.length = true) (hy : evalO rd y = some (.p (.v (.int k j)))) (hj : j = (i : Int)) (hi : i < hi - lo) : OpOK P o ⟨rd, [(n, .arr es rows)], .aref n len (lo + i) 0, [], []⟩ :=
  OpOK.quiet fun Γ ρ M s a w hs hh => by
    have hr := evalO_R hs hh hx
    simp only [AV.R] at hr
    have hn := hh.hp n _ (by simp : (n, AO.arr es rows) ∈ _)
    have hle := Nat.eq_of_beq_eq_true hlen
    have hu := (hr.2.2.2 _ es rows.length hn rfl).2 hle
    have hhi := hr.2.2.1
    obtain ⟨h0, h1, h2⟩ := hs.objs n _ hn
    rcases h2 with h2 | ⟨b, T', cs, h3, h4, h5, h6, h7⟩
    · omega
    · have hc : ¬ (ρ n).cap = lo := by omega
      simp only [viewV, hc, if_false, h3, Option.map_some, addr_add] at hu
      refine ⟨.pointer (some ⟨b, (lo + i) * es, none⟩), ?_, ?_⟩
      · simp [execOp, ho, hu, eval_v hs hh hy, Instr.indexAt, asIntOf, run_underlying (elemT_spec hT), hj, hi, run_sizeOf hz, addr_add, Nat.add_mul]
      · simp only [AV.R]
        refine ⟨rfl, fun o' es' k' hc hs' => ?_⟩
        rw [hn] at hc; cases hc
        cases hs'
        exact ⟨by omega, fun _ => ⟨b, h3, by simp⟩⟩
/-- A part of a part: from its beginning, or of one that begins with the array, or not an empty one. -/
theorem OpOK.sliceView2 {T e : TypeId} {x : Operand} {lo hi : Option Operand} {n : Name} {es len a b k m : Nat} {rows : List (List PV)} (ho : o.op = .slice T x lo hi none) (hT : P.underlying T = some (.slice e)) (hz : sizeT P e = some es)
    (hx : evalO rd x = some (.view n len a b)) (hlo : optB rd 0 lo = some ((k : Nat) : Int)) (hhi : optB rd (b - a) hi = some ((m : Nat) : Int)) (hlen : Nat.beq len rows.length = true) (h1 : k ≤ m) (h2 : m ≤ b - a) (h3 : a = 0 ∨ k = 0 ∨ k < m) :
    OpOK P o ⟨rd, [(n, .arr es rows)], .view n len (a + k) (a + m), [], []⟩ :=
  OpOK.quiet fun Γ ρ M s w0 w hs hh => by
    have hr := evalO_R hs hh hx
    simp only [AV.R] at hr
    have hn := hh.hp n _ (by simp : (n, AO.arr es rows) ∈ _)
    have hle := Nat.eq_of_beq_eq_true hlen
    have hu := (hr.2.2.2 _ es rows.length hn rfl).2 hle
    have hab := hr.2.1
    have hbl := hr.2.2.1
    obtain ⟨hes, hcap, hobj⟩ := hs.objs n _ hn
    have hb := run_bounds (P := P) (cap := (ρ n).cap - a) hs hh hlo hhi h1 h2 (by omega)
    simp only [viewV] at hu
    obtain ⟨ad, had⟩ : ∃ ad, ad = (if (ρ n).cap = a then (ρ n).base else (ρ n).base.map (·.add (a * es))) := ⟨_, rfl⟩
    rw [← had] at hu
    refine ⟨.slice (if (ρ n).cap - a = k then ad else ad.map (·.add (k * es))) (m - k) ((ρ n).cap - a - k), ?_, ?_⟩
    · simp [execOp, ho, hu, Instr.sliceAt, Instr.slice, run_underlying hT, hb, run_sizeOf hz]
    · simp only [AV.R]
      refine ⟨rfl, by omega, by omega, fun ob es' kk hob hsh => ?_⟩
      rw [hn] at hob; cases hob
      simp only [AO.shape, Option.some.injEq, Prod.mk.injEq] at hsh
      obtain ⟨rfl, rfl⟩ := hsh
      refine ⟨by omega, fun _ => ?_⟩
      simp only [viewV]
      rw [show a + m - (a + k) = m - k by omega, show (ρ n).cap - a - k = (ρ n).cap - (a + k) by omega]
      congr 1
      by_cases hca : (ρ n).cap = a
      · have hk0 : k = 0 := by omega
        subst hk0
        rw [if_pos (by omega), if_pos (by omega), had, if_pos hca]
      · rcases hobj with hobj | ⟨b', t, cs, g3, _⟩
        · exact absurd (show (ρ n).cap = a by omega) hca
        · rw [had, if_neg hca]
          by_cases hck : (ρ n).cap = a + k
          · have h4 : a = 0 := by omega
            subst h4
            rw [if_pos (by omega), if_pos hck, g3]
            simp [addr_add]
          · rw [if_neg (by omega), if_neg hck, g3]
            simp [addr_add, Nat.add_mul]
/-- clear(x[i:m]) -/
theorem OpOK.clearView {T e : TypeId} {x : Operand} {ats : Array TypeId} {n : Name} {es len i m : Nat} {zr : List PV} {rows rows' : List (List PV)} (ho : o.op = .call { callee := .builtin .clear, args := #[x], argTypes := ats }) (hat : ats[0]? = some T)
    (hT : P.underlying T = some (.slice e)) (hz : sizeT P e = some es) (hzr : zeroRow P e = some zr) (hzl : zr.length = es) (hx : evalO rd x = some (.view n len i m)) (hlen : Nat.beq len rows.length = true) (hi : i ≤ m) (hm : m ≤ rows.length)
    (hr : rows.take i ++ List.replicate (m - i) zr ++ rows.drop m = rows') : OpOK P o ⟨rd, [(n, .arr es rows)], .tup [], [(n, .arr es rows')], []⟩ :=
  OpOK.upd fun Γ ρ M s a w hs hh => by
    subst hr
    have hn := hh.hp n _ (by simp : (n, AO.arr es rows) ∈ _)
    have hle := Nat.eq_of_beq_eq_true hlen
    have h1 := evalO_R hs hh hx
    simp only [AV.R] at h1
    have hX := (h1.2.2.2 _ es rows.length hn rfl).2 hle
    simp only [viewV] at hX
    obtain ⟨hes, hcap, hobj⟩ := hs.objs n _ hn
    have hres : ∀ ρ' H' M' w', AV.R ρ' H' M' w' (.tup []) (.tuple #[]) := fun _ _ _ _ => by simp only [AV.R, AV.Ts]; exact ⟨#[], rfl, rfl⟩
    unfold zeroRow at hzr
    split at hzr
    case h_2 => simp at hzr
    rename_i zs hcs
    obtain ⟨inf, z, hinf, hz', hall, rfl⟩ := zeroAV_spec hcs
    by_cases hz0 : m - i = 0
    · have hrows : rows.take i ++ List.replicate (m - i) zr ++ rows.drop m = rows := by rw [hz0, List.replicate_zero, List.append_nil, show m = i by omega]; exact List.take_append_drop i rows
      rw [hrows]
      refine ⟨_, w, ρ, M, ?_, hs.congr (fun t => rfl) (fun m => ?_), hres _ _ _ _⟩
      · have hl0 : m - i = 0 := hz0
        have hA : ∀ (d : Option Addr) (c : Nat), (Builtin.clear_ ats o.type #[.slice d 0 c]).run P w = .ok (.tuple #[]) w := fun d c => by
          cases d <;> simp [Builtin.clear_, hat, run_underlying hT]
        rw [hl0] at hX
        simp [execOp, ho, resolve, invoke, builtin, hX, hA]
      · by_cases e : m = n
        · subst e; simp [hn]
        · simp [e]
    · rcases hobj with hobj | ⟨b, t, cs, h3, h4, h5, h6, h7⟩
      · omega
      · have hci : ¬ (ρ n).cap = i := by omega
        have hdst : a.eval x = .slice (some ⟨b, i * es, none⟩) (m - i) ((ρ n).cap - i) := by rw [hX]; simp [hci, h3, addr_add]
        have hzR : AV.Rs ρ s.heap M w (pcells zr) z.cells.toList := by rw [← pureL_spec hzr]; exact constCells_R hall
        have hzlen : z.cells.toList.length = es := by have := hzR.length; rw [this]; simp [pcells, hzl]
        have hN2 : i * es + (m - i) * es ≤ cs.size := by rw [h6, ← Nat.add_mul]; exact Nat.mul_le_mul_right es (by omega)
        obtain ⟨vs, hvs⟩ : ∃ vs, vs = (Builtin.zeroCells z.cells (m - i)).toList := ⟨_, rfl⟩
        have hzsz : z.cells.size = es := by simpa using hzlen
        have hvl : vs.length = (m - i) * es := by rw [hvs]; simp [Builtin.zeroCells, hzsz]
        have hget : ∀ q, q < (m - i) * es → vs[q]? = z.cells.toList[q % es]? := fun q hq => by
          have hmod : q % es < es := Nat.mod_lt _ hes
          rw [hvs]
          simp only [Builtin.zeroCells, hzsz, Array.getElem?_toList]
          rw [Array.getElem?_map, Array.getElem?_range]
          simp [hq, hzsz, hmod, getElem!_def]
        have hold : ∀ q, w.cell? ⟨b, q, none⟩ = cs.toList[q]? := fun q => by simp [World.cell?, h5]
        have hone : ∀ v ∈ vs, v.oneCell' = true := by
          intro v hv
          obtain ⟨q, hq, e⟩ := List.getElem_of_mem hv
          rw [hvl] at hq
          have hmod : q % es < es := Nat.mod_lt _ hes
          have h := hget q hq
          rw [List.getElem?_eq_getElem (by omega), e] at h
          obtain ⟨u, k1, k2⟩ := Rs_cell hzR (q % es) zr[q % es] (List.getElem?_eq_getElem (by omega))
          rw [k1] at h
          have : v = u := by simpa using h
          rw [this]; exact k2.flat
        have hstore := run_storeCells_at (P := P) b (i * es) t vs 0 cs w h5 (by rw [hvl]; omega) hone
        have hw : (setAt cs.toList (i * es) vs).toArray = (cs.toList.take (i * es + 0) ++ vs ++ cs.toList.drop (i * es + 0 + vs.length)).toArray := by unfold setAt; rfl
        refine ⟨_, w.setRow b (setAt cs.toList (i * es) vs).toArray, (fun m => if m = n then ρ n else ρ m), M, ?_, ?_, hres _ _ _ _⟩
        · have hne : m - i ≠ 0 := hz0
          have hrun : (Builtin.clear_ ats o.type #[a.eval x]).run P w = .ok (.tuple #[]) (w.setRow b (setAt cs.toList (i * es) vs).toArray) := by
            rw [hdst]
            obtain ⟨nn, hnn⟩ : ∃ nn, m - i = nn + 1 := ⟨m - i - 1, by omega⟩
            rw [hnn] at hvs ⊢
            simp [Builtin.clear_, hat, run_underlying hT, run_zeroValue hinf hz', ← hvs]
            rw [hstore, hw]; rfl
          simp [execOp, ho, resolve, invoke, builtin, hrun]
        · have hblk : (ρ n).blk = some b := by
            have : (ρ n).cap ≠ 0 := by omega
            simp [Loc.blk, this, h3]
          have he : Ext (fun b' => b' = b) w (w.setRow b (setAt cs.toList (i * es) vs).toArray) := ⟨by simp [World.setRow], fun b' hb hne => setRow_other w b b' _ hne, rfl, rfl⟩
          have hM : M b := h4
          have hlen' : (rows.take i ++ List.replicate (m - i) zr ++ rows.drop m).length = rows.length := by simp; omega
          refine hs.update1 (he.weaken fun b' _ hb => ⟨by rw [hblk, hb], by rw [hn]; simp⟩) (fun _ hb => hb) (fun _ hb => .inl hb) (fun b' hb => Nat.lt_of_lt_of_le (hs.msize b' hb) he.size)
            (fun o' ho' => by rw [hn] at ho'; cases ho'; simp only [stays]; exact ⟨trivial, by rw [hlen']; exact Nat.le_refl _, fun _ => trivial⟩) (fun h0 => by rw [hn] at h0; simp at h0) ?_ (fun b' hb => .inl ⟨_, hn, hb⟩)
          refine ⟨hes, by rw [hlen']; simpa using hcap, .inr ⟨b, t, _, by simp [h3], hM, setRow_heap w b cs _ t (0, 0) h5, ?_, ?_⟩⟩
          · simp only [if_true, List.size_toArray, setAt, List.length_append, List.length_take, List.length_drop, Array.length_toList, ← h6, hvl]
            omega
          · have hmono : ∀ {x : PV} {u : Value}, x.R M w u → x.R M (w.setRow b (setAt cs.toList (i * es) vs).toArray) u := fun h => h.mono he (fun b' hb => by rw [hb]; exact hM) (fun b' _ hb => hb)
            have hcell : ∀ q, (w.setRow b (setAt cs.toList (i * es) vs).toArray).cell? ⟨b, q, none⟩ = (setAt cs.toList (i * es) vs)[q]? := fun q => by
              rw [cell_setRow_same w b q cs _ t (0, 0) h5, List.getElem?_toArray]
            have hset : ∀ q, (setAt cs.toList (i * es) vs)[q]? = if i * es ≤ q ∧ q < i * es + (m - i) * es then vs[q - i * es]? else cs.toList[q]? := fun q => by
              have htl : (List.take (i * es) cs.toList).length = i * es := by simp; omega
              unfold setAt
              by_cases c1 : q < i * es
              · rw [if_neg (by omega), List.append_assoc, List.getElem?_append_left (by omega), List.getElem?_take_of_lt c1]
              · by_cases c2 : q < i * es + (m - i) * es
                · rw [if_pos ⟨by omega, c2⟩, List.append_assoc, List.getElem?_append_right (by omega), List.getElem?_append_left (by rw [htl, hvl]; omega), htl]
                · rw [if_neg (by omega), List.getElem?_append_right (by simp only [List.length_append, htl, hvl]; omega), List.getElem?_drop]
                  congr 1
                  simp only [List.length_append, htl, hvl]; omega
            refine PV.Rows.of_get fun i' r' hi' => ?_
            have htk : (rows.take i).length = i := by simp; omega
            rw [List.append_assoc, List.getElem?_append] at hi'
            by_cases c : i' < i
            · rw [if_pos (by omega), List.getElem?_take, if_pos c] at hi'
              obtain ⟨g1, g2⟩ := h7.get i' r' hi'
              refine ⟨g1, PV.Cells.of_get fun q p hq => ?_⟩
              obtain ⟨u, k1, k2⟩ := g2.get q p hq
              have hq' : q < es := by rw [← g1]; exact (List.getElem?_eq_some_iff.1 hq).1
              have hlt : i' * es + q < i * es := by
                have : (i' + 1) * es ≤ i * es := Nat.mul_le_mul_right es c
                rw [Nat.succ_mul] at this; omega
              refine ⟨u, ?_, hmono k2⟩
              rw [hcell, hset, if_neg (by omega), ← hold]; exact k1
            · rw [if_neg (by omega), htk, List.getElem?_append, List.length_replicate, List.getElem?_replicate] at hi'
              by_cases hlt : i' - i < m - i
              · rw [if_pos hlt, if_pos hlt] at hi'
                cases hi'
                refine ⟨hzl, PV.Cells.of_get fun q p hq => ?_⟩
                have hq' : q < es := by rw [← hzl]; exact (List.getElem?_eq_some_iff.1 hq).1
                obtain ⟨u, k1, k2⟩ := Rs_cell hzR q p hq
                have e1 : i' * es = i * es + (i' - i) * es := by rw [← Nat.add_mul]; congr 1; omega
                have hlt2 : (i' - i) * es + q < (m - i) * es := by
                  have : (i' - i + 1) * es ≤ (m - i) * es := Nat.mul_le_mul_right es hlt
                  rw [Nat.succ_mul] at this; omega
                refine ⟨u, ?_, hmono k2⟩
                rw [hcell, hset, if_pos (by omega), show 0 + i' * es + q - i * es = (i' - i) * es + q by omega, hget _ hlt2, ← k1]
                rw [Nat.add_comm, Nat.add_mul_mod_self_right, Nat.mod_eq_of_lt hq']
              · rw [if_neg hlt, List.getElem?_drop, show m + (i' - i - (m - i)) = i' by omega] at hi'
                obtain ⟨g1, g2⟩ := h7.get i' r' hi'
                refine ⟨g1, PV.Cells.of_get fun q p hq => ?_⟩
                obtain ⟨u, k1, k2⟩ := g2.get q p hq
                have hge : i * es + (m - i) * es ≤ i' * es := by
                  rw [← Nat.add_mul]; exact Nat.mul_le_mul_right es (by omega)
                refine ⟨u, ?_, hmono k2⟩
                rw [hcell, hset, if_neg (by omega), ← hold]; exact k1
/-- copy(x[i:], x[j:]) -/
theorem OpOK.copyView {T e : TypeId} {x y : Operand} {ats : Array TypeId} {n : Name} {es len i j : Nat} {rows rows' : List (List PV)} {r : Int} (ho : o.op = .call { callee := .builtin .copy, args := #[x, y], argTypes := ats }) (hat : ats = #[T, T])
    (hT : P.underlying T = some (.slice e)) (hz : sizeT P e = some es) (hx : evalO rd x = some (.view n len i len)) (hy : evalO rd y = some (.view n len j len)) (hlen : Nat.beq len rows.length = true) (hi : i ≤ rows.length) (hj : j ≤ i)
    (hr : rows.take i ++ (rows.drop j).take (rows.length - i) = rows') (hv : ((rows.length - i : Nat) : Int) = r) :
    OpOK P o ⟨rd, [(n, .arr es rows)], .p (.v (.int .i64 r)), [(n, .arr es rows')], []⟩ :=
  OpOK.upd fun Γ ρ M s a w hs hh => by
    subst hr; subst hv; subst hat
    have hn := hh.hp n _ (by simp : (n, AO.arr es rows) ∈ _)
    have hle := Nat.eq_of_beq_eq_true hlen
    have h1 := evalO_R hs hh hx
    have h2 := evalO_R hs hh hy
    simp only [AV.R] at h1 h2
    have hX := (h1.2.2.2 _ es rows.length hn rfl).2 hle
    have hY := (h2.2.2.2 _ es rows.length hn rfl).2 hle
    simp only [viewV] at hX hY
    obtain ⟨hes, hcap, hobj⟩ := hs.objs n _ hn
    have hsz := run_sizeOf (P := P) (w := w) hz
    have hres : ∀ ρ' H' M' w', AV.R ρ' H' M' w' (.p (.v (.int .i64 ((rows.length - i : Nat) : Int)))) (.int .i64 ((rows.length - i : Nat) : Int)) := fun _ _ _ _ => by simp only [AV.R, PV.R]; exact ⟨trivial, rfl⟩
    have hmin : Nat.min (len - j) (len - i) = rows.length - i := by rw [hle]; exact Nat.min_eq_right (by omega)
    by_cases hz0 : rows.length - i = 0
    · have hrows : rows.take i ++ (rows.drop j).take (rows.length - i) = rows := by rw [hz0, List.take_zero, List.append_nil]; exact List.take_of_length_le (by omega)
      rw [hrows]
      refine ⟨_, w, ρ, M, ?_, hs.congr (fun t => rfl) (fun m => ?_), hres _ _ _ _⟩
      · have hl : ∀ (q : Addr), (loadCells q 0).run P w = .ok #[] w := fun q => by simpa using run_loadCells_list (P := P) w q [] (by simp)
        have hA : ∀ (d q : Option Addr) (dc qc : Nat), (Builtin.copy_ #[T, T] o.type #[.slice d (len - i) dc, .slice q (len - j) qc]).run P w = .ok (goInt ((rows.length - i : Nat) : Int)) w := fun d q dc qc => by
          cases d <;> cases q <;> simp [Builtin.copy_, run_underlying hT, Builtin.lenOf, Builtin.firstCells, hsz, hmin, hz0, storeCells, hl, Result.andThen]
        simp [execOp, ho, resolve, invoke, builtin, hX, hY, hA, goInt]
      · by_cases e : m = n
        · subst e; simp [hn]
        · simp [e]
    · rcases hobj with hobj | ⟨b, t, cs, h3, h4, h5, h6, h7⟩
      · omega
      · have hci : ¬ (ρ n).cap = i := by omega
        have hcj : ¬ (ρ n).cap = j := by omega
        have hdst : a.eval x = .slice (some ⟨b, i * es, none⟩) (len - i) ((ρ n).cap - i) := by rw [hX]; simp [hci, h3, addr_add]
        have hsrc : a.eval y = .slice (some ⟨b, j * es, none⟩) (len - j) ((ρ n).cap - j) := by rw [hY]; simp [hcj, h3, addr_add]
        have hN : (rows.length - i) * es + j * es ≤ cs.size := by rw [h6, ← Nat.add_mul]; exact Nat.mul_le_mul_right es (by omega)
        have hN2 : i * es + (rows.length - i) * es ≤ cs.size := by rw [h6, ← Nat.add_mul]; exact Nat.mul_le_mul_right es (by omega)
        obtain ⟨vs, hvs⟩ : ∃ vs, vs = (cs.toList.drop (j * es)).take ((rows.length - i) * es) := ⟨_, rfl⟩
        have hvl : vs.length = (rows.length - i) * es := by rw [hvs]; simp; omega
        have hget : ∀ q, q < (rows.length - i) * es → vs[q]? = cs.toList[j * es + q]? := fun q hq => by rw [hvs, List.getElem?_take, if_pos hq, List.getElem?_drop]
        have hold : ∀ q, w.cell? ⟨b, q, none⟩ = cs.toList[q]? := fun q => by simp [World.cell?, h5]
        have hone : ∀ v ∈ vs, v.oneCell' = true := by
          intro v hv
          obtain ⟨q, hq, e⟩ := List.getElem_of_mem hv
          rw [hvl] at hq
          have hdiv : q / es < rows.length - i := Nat.div_lt_of_lt_mul (by rw [Nat.mul_comm]; exact hq)
          have hmod : q % es < es := Nat.mod_lt _ hes
          have hrow : rows[j + q / es]? = some rows[j + q / es] := List.getElem?_eq_getElem (by omega)
          obtain ⟨g1, g2⟩ := h7.get _ _ hrow
          have hc : rows[j + q / es][q % es]? = some rows[j + q / es][q % es] := List.getElem?_eq_getElem (by omega)
          obtain ⟨u, k1, k2⟩ := g2.get _ _ hc
          have hpos : 0 + (j + q / es) * es + q % es = j * es + q := by
            have := Nat.div_add_mod q es
            rw [Nat.add_mul, Nat.mul_comm (q / es)]; omega
          rw [hpos, hold] at k1
          have := hget q hq
          rw [k1, List.getElem?_eq_getElem (by omega), e] at this
          have hvu : v = u := by simpa using this
          rw [hvu]; exact k2.flat
        have hload := run_loadCells_list (P := P) w ⟨b, j * es, none⟩ vs (fun q v hq => by
          rw [addr_add, hold]
          have hq' : q < (rows.length - i) * es := by rw [← hvl]; exact (List.getElem?_eq_some_iff.1 hq).1
          rw [← hget q hq']; exact hq)
        have hstore := run_storeCells_at (P := P) b (i * es) t vs 0 cs w h5 (by rw [hvl]; omega) hone
        rw [hvl] at hload
        have hw : (setAt cs.toList (i * es) vs).toArray = (cs.toList.take (i * es + 0) ++ vs ++ cs.toList.drop (i * es + 0 + vs.length)).toArray := by unfold setAt; rfl
        refine ⟨_, w.setRow b (setAt cs.toList (i * es) vs).toArray, (fun m => if m = n then ρ n else ρ m), M, ?_, ?_, hres _ _ _ _⟩
        · have hrun : (Builtin.copy_ #[T, T] o.type #[a.eval x, a.eval y]).run P w = .ok (goInt ((rows.length - i : Nat) : Int)) (w.setRow b (setAt cs.toList (i * es) vs).toArray) := by
            rw [hdst, hsrc]
            simp [Builtin.copy_, run_underlying hT, Builtin.lenOf, Builtin.firstCells, hsz, hmin, hload, Result.andThen]
            rw [hstore, hw]
          simp [execOp, ho, resolve, invoke, builtin, hrun, goInt]
        · have hblk : (ρ n).blk = some b := by
            have : (ρ n).cap ≠ 0 := by omega
            simp [Loc.blk, this, h3]
          have he : Ext (fun b' => b' = b) w (w.setRow b (setAt cs.toList (i * es) vs).toArray) := ⟨by simp [World.setRow], fun b' hb hne => setRow_other w b b' _ hne, rfl, rfl⟩
          have hM : M b := h4
          have hlen' : (rows.take i ++ (rows.drop j).take (rows.length - i)).length = rows.length := by simp; omega
          refine hs.update1 (he.weaken fun b' _ hb => ⟨by rw [hblk, hb], by rw [hn]; simp⟩) (fun _ hb => hb) (fun _ hb => .inl hb) (fun b' hb => Nat.lt_of_lt_of_le (hs.msize b' hb) he.size)
            (fun o' ho' => by rw [hn] at ho'; cases ho'; simp only [stays]; exact ⟨trivial, by rw [hlen']; exact Nat.le_refl _, fun _ => trivial⟩) (fun h0 => by rw [hn] at h0; simp at h0) ?_ (fun b' hb => .inl ⟨_, hn, hb⟩)
          refine ⟨hes, by rw [hlen']; simpa using hcap, .inr ⟨b, t, _, by simp [h3], hM, setRow_heap w b cs _ t (0, 0) h5, ?_, ?_⟩⟩
          · simp only [if_true, List.size_toArray, setAt, List.length_append, List.length_take, List.length_drop, Array.length_toList, ← h6, hvl]
            omega
          · have hmono : ∀ {x : PV} {u : Value}, x.R M w u → x.R M (w.setRow b (setAt cs.toList (i * es) vs).toArray) u := fun h => h.mono he (fun b' hb => by rw [hb]; exact hM) (fun b' _ hb => hb)
            have hcell : ∀ q, (w.setRow b (setAt cs.toList (i * es) vs).toArray).cell? ⟨b, q, none⟩ = (setAt cs.toList (i * es) vs)[q]? := fun q => by
              rw [cell_setRow_same w b q cs _ t (0, 0) h5, List.getElem?_toArray]
            have hset : ∀ q, (setAt cs.toList (i * es) vs)[q]? = if i * es ≤ q ∧ q < i * es + (rows.length - i) * es then vs[q - i * es]? else cs.toList[q]? := fun q => by
              have htl : (List.take (i * es) cs.toList).length = i * es := by simp; omega
              unfold setAt
              by_cases c1 : q < i * es
              · rw [if_neg (by omega), List.append_assoc, List.getElem?_append_left (by omega), List.getElem?_take_of_lt c1]
              · by_cases c2 : q < i * es + (rows.length - i) * es
                · rw [if_pos ⟨by omega, c2⟩, List.append_assoc, List.getElem?_append_right (by omega), List.getElem?_append_left (by rw [htl, hvl]; omega), htl]
                · rw [if_neg (by omega), List.getElem?_append_right (by simp only [List.length_append, htl, hvl]; omega), List.getElem?_drop]
                  congr 1
                  simp only [List.length_append, htl, hvl]; omega
            refine PV.Rows.of_get fun i' r' hi' => ?_
            rw [List.getElem?_append] at hi'
            have htk : (rows.take i).length = i := by simp; omega
            by_cases c : i' < i
            · rw [if_pos (by omega), List.getElem?_take, if_pos c] at hi'
              obtain ⟨g1, g2⟩ := h7.get i' r' hi'
              refine ⟨g1, PV.Cells.of_get fun q p hq => ?_⟩
              obtain ⟨u, k1, k2⟩ := g2.get q p hq
              have hq' : q < es := by rw [← g1]; exact (List.getElem?_eq_some_iff.1 hq).1
              have hlt : i' * es + q < i * es := by
                have : (i' + 1) * es ≤ i * es := Nat.mul_le_mul_right es c
                rw [Nat.succ_mul] at this; omega
              refine ⟨u, ?_, hmono k2⟩
              rw [hcell, hset, if_neg (by omega), ← hold]; exact k1
            · rw [if_neg (by omega), htk, List.getElem?_take] at hi'
              split at hi'
              · rename_i hlt
                rw [List.getElem?_drop] at hi'
                obtain ⟨g1, g2⟩ := h7.get (j + (i' - i)) r' hi'
                refine ⟨g1, PV.Cells.of_get fun q p hq => ?_⟩
                obtain ⟨u, k1, k2⟩ := g2.get q p hq
                have hq' : q < es := by rw [← g1]; exact (List.getElem?_eq_some_iff.1 hq).1
                have e1 : i' * es = i * es + (i' - i) * es := by rw [← Nat.add_mul]; congr 1; omega
                have e2 : (j + (i' - i)) * es = j * es + (i' - i) * es := Nat.add_mul _ _ _
                have hlt2 : (i' - i) * es + q < (rows.length - i) * es := by
                  have : (i' - i + 1) * es ≤ (rows.length - i) * es := Nat.mul_le_mul_right es hlt
                  rw [Nat.succ_mul] at this; omega
                refine ⟨u, ?_, hmono k2⟩
                rw [hcell, hset, if_pos (by omega), show 0 + i' * es + q - i * es = (i' - i) * es + q by omega, hget _ hlt2, ← hold, ← k1]
                congr 2; omega
              · simp at hi'
/-- An array that is a value, at a place. -/
theorem OpOK.indexV {T e : TypeId} {x y : Operand} {len j : Nat} {cells : List AV} {c : AV} (ho : o.op = .index T x y) (hT : P.underlying T = some (.array len e)) (hz : sizeT P e = some 1) (hfl : flatT P e = true)
    (hx : evalO rd x = some (.agg cells)) (hy : evalO rd y = some (.p (.v (.int .i64 ((j : Nat) : Int))))) (hj : j < len) (hc : cells[j]? = some c) : OpOK P o ⟨rd, [], c, [], []⟩ :=
  OpOK.quiet fun Γ ρ M s a w hs hh => by
    have h1 := evalO_R hs hh hx
    have h2 := evalO_R hs hh hy
    simp only [AV.R, PV.R] at h1 h2
    obtain ⟨us, hu, hr⟩ := h1
    obtain ⟨u, hu1, _, hu3⟩ := hr.get j c hc
    refine ⟨u, ?_, hu3⟩
    have hpart : (part e us j).run P w = .ok u w := by
      have : us[j]? = some u := by simpa using hu1
      simp [part, run_isAgg_false hfl, this]
    simp [execOp, ho, hu, h2.1, Instr.index, asIntOf, run_underlying hT, run_sizeOf hz, hj, hpart]
end
end Go.Proofs.YtbcginibldjnaaaGreat.AM
