/-
  The typed layer, part M: code does what is reckoned of it. No project text.
-/
import Derived.Test.YtfhcigjkfelnfaaGreatQRowAuditLateF
set_option linter.unusedVariables false
set_option linter.unusedSimpArgs false
namespace Go.Proofs.YtfhcigjkfelnfaaGreat.AM
open Go
theorem AWp.drawG {P : Program} {Γ : Ctx} {id : Nat} {ops : Array Oper} {ts ts' : List (Nat × AV)} {hs hs' : List (Name × AO)} {Q : Exit → AS → Prop} {n : Nat} (hn : Γ.n = n)
    (hmode : (P.follows .mixedOrders || !Region.departs ops) = true)
    (L : List Row) (hst : StepsOK P ops 0 L) (hg : got n L ts hs = (wantS L, wantH L, true, ts', hs')) (hind : indep ops L ts hs = true) (hQ : Q .normal (mk ts' hs')) : AWp P Γ (.region id ops true) (mk ts hs) Q := by
  intro ρ M a w hsim
  refine wp_region_draw fun t => ?_
  have hsch : Region.schedule (P.follows .mixedOrders) ops t = Region.linearise .any ops t := by
    unfold Region.schedule; rw [hmode]; rfl
  rw [hsch]
  refine wpAny_sound ops.size t _ a _ ?_
  refine any_order hn hst (by rw [hg]) (by rw [hg]) (by rw [hg]) hind (Q := fun e a' w' => ∃ s' ρ' M', Q e s' ∧ Sim Γ ρ' M' s' a' w') (fun ρ' M' a' w' hs => ⟨_, ρ', M', hQ, by rw [hg] at hs; exact hs⟩)
    ops.size (Array.replicate ops.size false) a _ ρ M (by simp) (fun i o hi hl => by simp [Array.getD_eq_getD_getElem?, Array.getElem?_replicate] at hl; split at hl <;> simp at hl) ?_ ?_
  · have : ∀ (f : Nat → Bool) k, cnt f k ≤ k := by
      intro f k
      induction k with
      | zero => exact Nat.le_refl _
      | succ k ih => simp only [cnt]; split <;> omega
    exact this _ _
  · refine hsim.drew.congr (fun t => ?_) (fun m => ?_)
    · have := RD_slot_cut (E := fun i => rowAt L i) (D := fun i => (Array.replicate ops.size false).getD i false) (s := mk ts hs) (t := t) (i := 0) L.length (by omega) (fun j _ _ _ => by
        simp only [Array.getD_eq_getD_getElem?, Array.getElem?_replicate]; split <;> rfl)
      exact this
    · have := RD_heap_cut (E := fun i => rowAt L i) (D := fun i => (Array.replicate ops.size false).getD i false) (s := mk ts hs) (m := m) (i := 0) L.length (by omega) (fun j _ _ _ => by
        simp only [Array.getD_eq_getD_getElem?, Array.getElem?_replicate]; split <;> rfl)
      exact this
variable {L L' : Lens} {ts ts' : TS} {hs hs' : HS}
theorem erT_mem {t : Nat} {v : BV} (h : erT L ts = erT L' ts) (hm : (t, v) ∈ ts) : v.er L = v.er L' := by
  unfold erT at h
  have := (List.map_inj_left.1 h) _ hm
  simpa using this
theorem erH_mem {t : Name} {v : BO} (h : erH L hs = erH L' hs) (hm : (t, v) ∈ hs) : v.er L = v.er L' := by
  unfold erH at h
  have := (List.map_inj_left.1 h) _ hm
  simpa using this
theorem erT_sub {rd : TS} (h : erT L ts = erT L' ts) (hs : ∀ t v, (t, v) ∈ rd → look t ts = some v) : erT L rd = erT L' rd := by
  unfold erT
  exact List.map_congr_left fun p hp => by rw [erT_mem h (look_mem (hs p.1 p.2 hp))]
theorem erH_sub {hp : HS} (h : erH L hs = erH L' hs) (hsub : ∀ t v, (t, v) ∈ hp → look t hs = some v) : erH L hp = erH L' hp := by
  unfold erH
  exact List.map_congr_left fun p hp => by rw [erH_mem h (look_mem (hsub p.1 p.2 hp))]
theorem erH_app {a b : HS} (h : erH L (a ++ b) = erH L' (a ++ b)) : erH L a = erH L' a ∧ erH L b = erH L' b := by
  rw [erH_append, erH_append] at h
  exact List.append_inj h (by simp [erH])
theorem erT_put {d : Option Nat} {v : BV} (h : erT L (putB d v ts) = erT L' (putB d v ts)) (ha : anyB d v = true) : erT L ts = erT L' ts ∧ v.er L = v.er L' := by
  cases d with
  | some d =>
    simp only [putB, erT, List.map_cons, List.cons.injEq, Prod.mk.injEq, true_and] at h
    exact ⟨h.2, h.1⟩
  | none =>
    refine ⟨h, ?_⟩
    cases v <;> first | rfl | simp [anyB] at ha
section
variable {R : Type} {r : R} {P : Program} {ty : TypeId → Option TC} {E : Env} {nn : Nat}
theorem got_cons {d : Option Nat} {e : Eff} {rows : List Row} {ts : List (Nat × AV)} {hs : List (Name × AO)} {ts' : List (Nat × AV)} {hs' : List (Name × AO)} (h1 : ∀ t x, (t, x) ∈ e.rd → look t ts = some x) (h2 : ∀ n o, (n, o) ∈ e.hp → look n hs = some o)
    (hd : dstOK nn d = true) (hnw : newOK e ts hs = true) (h : got nn rows (putT ts d e) (e.upd ++ hs) = (wantS rows, wantH rows, true, ts', hs')) : got nn ((d, e) :: rows) ts hs = (wantS ((d, e) :: rows), wantH ((d, e) :: rows), true, ts', hs') := by
  simp only [got, h, wantS, wantH, hd, hnw, Bool.and_self]
  have e1 : e.rd.map (fun p => look p.1 ts) = e.rd.map (fun p => some p.2) := List.map_congr_left fun p hp => h1 p.1 p.2 hp
  have e2 : e.hp.map (fun p => look p.1 hs) = e.hp.map (fun p => some p.2) := List.map_congr_left fun p hp => h2 p.1 p.2 hp
  rw [e1, e2]
theorem dregK_some {sp : Bool} {ops : Array Oper} {K : List BRow → TS → HS → Option R} (hE : EnvOK P E) : ∀ (f i : Nat) (acc : List BRow) (ts : TS) (hs : HS) (L : Lens), dregK P ty E nn ops sp K f i acc ts hs = some r → Inv L hs →
    ∃ rows ts' hs' L', K (acc.reverse ++ rows) ts' hs' = some r ∧ Inv L' hs' ∧ StepsOK P ops i (rows.map (BRow.row L')) ∧ erT L ts = erT L' ts ∧ erH L hs = erH L' hs ∧
      got nn (rows.map (BRow.row L')) (erT L' ts) (erH L' hs) = (wantS (rows.map (BRow.row L')), wantH (rows.map (BRow.row L')), true, erT L' ts', erH L' hs')
  | 0, i, acc, ts, hs, L, h, hi => by
    simp only [dregK] at h
    split at h
    · rename_i e
      exact ⟨[], ts, hs, L, by simpa using h, hi, Nat.eq_of_beq_eq_true e, rfl, rfl, by simp only [List.map_nil, got, wantS, wantH]⟩
    · simp at h
  | f + 1, i, acc, ts, hs, L, h, hi => by
    simp only [dregK] at h
    split at h
    · simp at h
    · rename_i o hop
      have hdo : ∀ (x : TS), (∀ t v, (t, v) ∈ x → look t ts = some v) → (∀ e' : Eff, (∀ p, p ∈ x → (p.1, p.2.er L) ∈ e'.rd) → OpOK P o e' → StepOK P ops i o.dst e') →
          opK P ty E sp nn x o ts hs (fun e ts' hs' => if anyB o.dst e.v then dregK P ty E nn ops sp K f (i + 1) ((o.dst, x ++ rdB ts o.op.operands.toList, e) :: acc) ts' hs' else none) = some r →
          ∃ rows ts' hs' L', K (acc.reverse ++ rows) ts' hs' = some r ∧ Inv L' hs' ∧ StepsOK P ops i (rows.map (BRow.row L')) ∧ erT L ts = erT L' ts ∧ erH L hs = erH L' hs ∧
            got nn (rows.map (BRow.row L')) (erT L' ts) (erH L' hs) = (wantS (rows.map (BRow.row L')), wantH (rows.map (BRow.row L')), true, erT L' ts', erH L' hs') := fun x hx hstp h => by
        obtain ⟨e, L1, hst, hd, h⟩ := opK_some hE hx h hi
        split at h
        case isFalse => simp at h
        rename_i hany
        obtain ⟨rows, ts', hs', L', k1, k2, k3, k4, k5, k6⟩ := dregK_some (sp := sp) (ops := ops) (K := K) hE f (i + 1) _ _ _ L1 h hst.inv
        obtain ⟨p1, p2⟩ := erT_put k4 hany
        obtain ⟨q1, q2⟩ := erH_app k5
        have hts : erT L ts = erT L' ts := hst.ets.trans p1
        have hhs : erH L hs = erH L' hs := hst.ehs.trans q2
        have hrd := erT_sub hts hst.rds
        have hhp := erH_sub hhs hst.hps
        have hok := hst.ok
        rw [p2, q1] at hok
        refine ⟨(o.dst, x ++ rdB ts o.op.operands.toList, e) :: rows, ts', hs', L', by simpa using k1, k2, ⟨?_, k3⟩, hts, hhs, ?_⟩
        · have := hstp _ (fun p hp => List.mem_map.2 ⟨p, List.mem_append_left _ hp, rfl⟩) hok
          simp only [BRow.row, ← hrd, ← hhp]; exact this
        · simp only [List.map_cons]
          refine got_cons (fun t y hy => ?_) (fun n ob hy => ?_) hd ?_ ?_
          · simp only [BRow.row, erT, List.mem_map] at hy
            obtain ⟨⟨t', v⟩, hm, he⟩ := hy
            cases he
            rw [look_erT, hst.rds _ _ hm]; rfl
          · simp only [BRow.row, erH, List.mem_map] at hy
            obtain ⟨⟨t', v⟩, hm, he⟩ := hy
            cases he
            rw [look_erH, hst.hps _ _ hm]; rfl
          · have hnew := hst.new
            unfold newBs at hnew
            simp only [newOK, BRow.row, freeS_er, keys_erH]
            refine List.all_eq_true.2 fun n hn => ?_
            have := List.all_eq_true.1 hnew n hn
            simp only [Bool.and_eq_true] at this ⊢
            refine ⟨⟨?_, this.1.2⟩, this.2⟩
            rw [look_erH]
            cases hl : look n hs with
            | none => rfl
            | some y => rw [hl] at this; simp at this
          · have e3 : ∀ t1 h1, t1 = erT L' (putB o.dst e.v ts) → h1 = erH L' (e.upd ++ hs) → got nn (rows.map (BRow.row L')) t1 h1 = (wantS (rows.map (BRow.row L')), wantH (rows.map (BRow.row L')), true, erT L' ts', erH L' hs') := fun t1 h1 a b => by rw [a, b]; exact k6
            exact e3 _ _ (by show putT (erT L' ts) o.dst _ = _; cases o.dst <;> rfl) (by rw [erH_append])
      have hskip : ∀ {j : Nat} {b : Bool} {g : Nat} {v : BV}, o.guard = some (j, b) → (ops[j]?).bind (·.dst) = some g → look g ts = some v → (v = .b (!b) ∨ v = .tup []) →
          (if dstOK nn o.dst then dregK P ty E nn ops sp K f (i + 1) ((o.dst, [(g, v)], ev (.tup [])) :: acc) (putB o.dst (.tup []) ts) hs else none) = some r →
          ∃ rows ts' hs' L', K (acc.reverse ++ rows) ts' hs' = some r ∧ Inv L' hs' ∧ StepsOK P ops i (rows.map (BRow.row L')) ∧ erT L ts = erT L' ts ∧ erH L hs = erH L' hs ∧
            got nn (rows.map (BRow.row L')) (erT L' ts) (erH L' hs) = (wantS (rows.map (BRow.row L')), wantH (rows.map (BRow.row L')), true, erT L' ts', erH L' hs') := fun {j b g v} hg hj hl hv h => by
        split at h
        case isFalse => simp at h
        rename_i hd
        obtain ⟨rows, ts', hs', L', k1, k2, k3, k4, k5, k6⟩ := dregK_some (sp := sp) (ops := ops) (K := K) hE f (i + 1) _ _ _ L h hi
        have hts : erT L ts = erT L' ts := by
          cases hdd : o.dst with
          | none => rw [hdd] at k4; exact k4
          | some d => rw [hdd] at k4; simp only [putB, erT, List.map_cons, List.cons.injEq] at k4; exact k4.2
        obtain ⟨oj, h1, h2⟩ := bind_some hj
        refine ⟨(o.dst, [(g, v)], ev (.tup [])) :: rows, ts', hs', L', by simpa using k1, k2, ⟨?_, k3⟩, hts, k5, ?_⟩
        · rcases hv with rfl | rfl
          · exact StepOK.skipped hop hg h1 h2
          · exact StepOK.skipped2 hop hg h1 h2
        · simp only [List.map_cons]
          refine got_cons (fun t y hy => ?_) (fun n ob hy => ?_) hd ?_ ?_
          · simp only [BRow.row, erT, List.map_cons, List.map_nil, List.mem_singleton, Prod.mk.injEq] at hy
            obtain ⟨rfl, rfl⟩ := hy
            rw [look_erT, hl]; rfl
          · simp [BRow.row, ev, erH] at hy
          · simp [newOK, BRow.row, ev]
          · have e3 : ∀ t1 h1, t1 = erT L' (putB o.dst (.tup []) ts) → h1 = erH L' hs → got nn (rows.map (BRow.row L')) t1 h1 = (wantS (rows.map (BRow.row L')), wantH (rows.map (BRow.row L')), true, erT L' ts', erH L' hs') := fun t1 h1 a b => by rw [a, b]; exact k6
            exact e3 _ _ (by show putT (erT L' ts) o.dst _ = _; cases o.dst <;> rfl) rfl
      have hgd : ∀ {j : Nat} {b : Bool} {g : Nat}, o.guard = some (j, b) → (ops[j]?).bind (·.dst) = some g → ∀ e' : Eff, (∀ p : Nat × BV, p ∈ [(g, BV.b b)] → (p.1, p.2.er L) ∈ e'.rd) → OpOK P o e' → StepOK P ops i o.dst e' := fun {j b g} hg hj e' hm hok => by
        obtain ⟨oj, h1, h2⟩ := bind_some hj
        have := hm (g, BV.b b) (by simp)
        simp only [BV.er] at this
        exact StepOK.guarded hop hg h1 h2 this hok
      have hx1 : ∀ {g : Nat} {b : Bool}, look g ts = some (.b b) → ∀ t v, (t, v) ∈ [(g, BV.b b)] → look t ts = some v := fun hl t v hm => by
        simp only [List.mem_singleton, Prod.mk.injEq] at hm; obtain ⟨rfl, rfl⟩ := hm; exact hl
      split at h
      · rename_i hg
        exact hdo [] (fun t v hm => by simp at hm) (fun e' _ hok => StepOK.plain hop hg hok) h
      · rename_i j b hg
        split at h
        · simp at h
        · rename_i g hj
          split at h
          · rename_i q hl
            rcases cnd_some h with ⟨rfl, h⟩ | ⟨rfl, h⟩
            · cases b with
              | true => exact hdo [(g, .b true)] (hx1 hl) (hgd hg hj) h
              | false => exact hskip hg hj hl (.inl rfl) h
            · cases b with
              | true => exact hskip hg hj hl (.inl rfl) h
              | false => exact hdo [(g, .b false)] (hx1 hl) (hgd hg hj) h
          · rename_i hl
            exact hskip hg hj hl (.inr rfl) h
          · simp at h
mutual
theorem ren_id : ∀ x : AV, x.ren (fun n => n) = x
  | .p _ => by simp only [AV.ren]
  | .agg cs => by simp only [AV.ren, renL_id cs]
  | .ref _ _ => by simp only [AV.ren]
  | .own _ _ => by simp only [AV.ren]
  | .aref _ _ _ _ => by simp only [AV.ren]
  | .view _ _ _ _ => by simp only [AV.ren]
  | .eptr _ => by simp only [AV.ren]
  | .tup vs => by simp only [AV.ren, renL_id vs]
  | .clo f a c => by simp only [AV.ren, renL_id a, renL_id c]
  | .oref _ _ => by simp only [AV.ren]
  | .err _ => by simp only [AV.ren]
  | .ub => by simp only [AV.ren]
  | .any => by simp only [AV.ren]
theorem renL_id : ∀ l : List AV, renL (fun n => n) l = l
  | [] => by simp only [renL]
  | x :: r => by simp only [renL, ren_id x, renL_id r]
end
theorem verOf_fit {σ : Ren} (h : idRen σ = true) : Fit (fun n => n) (verOf σ) σ := fun nm m hm => by
  have := List.all_eq_true.1 h _ hm
  simp only [Bool.and_eq_true] at this
  refine ⟨Nat.eq_of_beq_eq_true this.1, ?_⟩
  unfold verOf; rw [lookIs_of this.2]
theorem getS_some {gn : List Name} {s : List (Nat × SSh)} {o : List (Name × OSh)} {K : STL s × OL o → Option R} (h : getS gn s o ts hs K = some r) (hi : Inv L hs) :
    ∃ x L', K x = some r ∧ Inv L' (OL.put 0 o x.2) ∧ SLe L ts hs L' (STL.put 0 s x.1) (OL.put 0 o x.2) ∧ ∀ n, n ∈ gn → look n (OL.put 0 o x.2) ≠ none := by
  obtain ⟨σ1, x, h, hs1, g1⟩ := STL.get_some h
  obtain ⟨σ2, y, h, hs2, g2⟩ := OL.get_some h
  split at h
  case isFalse => simp at h
  rename_i hid
  simp only [Bool.and_eq_true] at hid
  have hf2 := verOf_fit hid.1
  have hf1 : Fit (fun n => n) (verOf σ2) σ1 := hf2.mono fun p hp => hs2 p (List.mem_append_right _ hp)
  refine ⟨(x, y), lensOf L (fun n => n) (verOf σ2), h, fun n t l v hn => ?_, ⟨fun t b hb => ?_, fun n cs' hn => ?_, fun n t l v hn => ?_, fun n es hn => ?_⟩, fun n hn hc => ?_⟩
  · obtain ⟨a, ha, hle⟩ := g2 _ _ L hf2 n _ hn
    rcases hle with ⟨cs, ds, _, h2, _⟩ | ⟨t', l', rfl, h2⟩ | ⟨es, _, h2⟩
    · cases h2
    · cases h2; exact hi n t l _ ha
    · cases h2
  · obtain ⟨a, ha, hle⟩ := g1 _ _ L hf1 t b hb
    rw [ren_id] at hle
    exact ⟨a, ha, hle⟩
  · obtain ⟨a, ha, hle⟩ := g2 _ _ L hf2 n _ hn
    rcases hle with ⟨cs, ds, rfl, h2, h3⟩ | ⟨t', l', rfl, h2⟩ | ⟨es, _, h2⟩
    · cases h2; rw [renL_id] at h3; exact ⟨cs, ha, h3⟩
    · cases h2
    · cases h2
  · obtain ⟨a, ha, hle⟩ := g2 _ _ L hf2 n _ hn
    rcases hle with ⟨cs, ds, _, h2, _⟩ | ⟨t', l', rfl, h2⟩ | ⟨es, _, h2⟩
    · cases h2
    · cases h2; exact ⟨_, ha⟩
    · cases h2
  · obtain ⟨a, ha, hle⟩ := g2 _ _ L hf2 n _ hn
    rcases hle with ⟨cs, ds, _, h2, _⟩ | ⟨t', l', rfl, h2⟩ | ⟨es, rfl, h2⟩
    · cases h2
    · cases h2
    · cases h2; exact ha
  · have := isIn_iff.1 (List.all_eq_true.1 hid.2 n hn)
    obtain ⟨b, hb⟩ := look_put (u := 0) (y := y) this
    rw [hb] at hc; simp at hc
theorem look_map : ∀ (l : List (Nat × AV)), ∃ l', (∀ k, look k l' = look k l) ∧ l'.map (fun p => look p.1 l) = l'.map (fun p => some p.2) := by
    intro l
    induction l with
    | nil => exact ⟨[], fun _ => rfl, rfl⟩
    | cons p l ih =>
      obtain ⟨l', g1, g2⟩ := ih
      refine ⟨p :: (l'.filter fun q => !(q.1 == p.1)), fun k => ?_, ?_⟩
      · simp only [look]
        split
        · rfl
        · rename_i hne
          rw [← g1]
          clear g1 g2
          induction l' with
          | nil => rfl
          | cons q l' ih =>
            by_cases hq : q.1 = p.1
            · rw [List.filter_cons_of_neg (by simp [hq]), ih]
              simp only [look]
              rw [if_neg (by rw [hq]; exact hne)]
            · rw [List.filter_cons_of_pos (by simp [hq])]
              simp only [look]
              split
              · rfl
              · exact ih
      · simp only [List.map_cons, look, if_true]
        congr 1
        refine List.map_congr_left fun q hq => ?_
        have hq' := List.mem_filter.1 hq
        have hne : ¬ p.1 = q.1 := fun e => by have := hq'.2; rw [e] at this; simp at this
        rw [if_neg hne]
        exact (List.map_inj_left.1 g2) q hq'.1
theorem thaw_agg {Γ : Ctx} {t nm : Nat} {j es0 : Nat} {tc : TC} {cells : List BV} {v : BV} (hm : look t ts = some (.agg cells)) (hj : cells[j]? = some v) (hv : ∀ L, v.er L = .p (.sl true es0 [])) (hb : (look nm hs).isNone = true) (hf : freeS nm ts hs = true) (ht : Nat.ble 1 (tz tc) = true) (hi : Inv L hs) :
    ∃ L', Inv L' ((nm, .arr tc [] 0) :: hs) ∧ Weak Γ (BS L ts hs) (BS L' ((t, .agg (cells.set j (.own nm 0))) :: ts) ((nm, .arr tc [] 0) :: hs)) := by
  let L1 : Lens := fun n u => if n = nm then 0 else L n u
  have hnm : look nm hs = none := Option.isNone_iff_eq_none.1 hb
  obtain ⟨e1, e2⟩ := erS_congr (L := L) (L' := L1) (nw := [nm]) (nv := []) (ts := ts) (hs := hs) (fun n hn => by simp only [List.mem_singleton] at hn; subst hn; exact hf) (fun p hp => by simp at hp) (fun n u hn _ => if_neg (by simpa using hn))
  have ec : erL L cells = erL L1 cells := by
    have h1 : look t (erT L ts) = look t (erT L1 ts) := by rw [e1]
    rw [look_erT, look_erT, hm, Option.map_some, Option.map_some] at h1
    simp only [BV.er, Option.some.injEq, AV.agg.injEq] at h1
    exact h1
  have hi1 : Inv L1 ((nm, .arr tc [] 0) :: hs) := fun n t' l u hn => by
    simp only [look] at hn
    split at hn
    · rename_i e; subst e; cases hn; exact if_pos rfl
    · rename_i e; show (if n = nm then 0 else L n u) = _; rw [if_neg (Ne.symm e)]; exact hi n t' l u hn
  refine ⟨L1, hi1, fun ρ M a w hs0 => ?_⟩
  obtain ⟨l', g1, g2⟩ := look_map ((t, AV.agg ((erL L cells).set j (.own nm 0))) :: erT L ts)
  have hw := Weak.thawA (Γ := Γ) (ts := erT L ts) (ts' := l') (hs := erH L hs) (t := t) (j := j) (es0 := es0) (es := tz tc) (n := nm) (cells := erL L cells) ht (by rw [look_erT, hm, Option.map_some]; simp only [BV.er])
    (by rw [erL_get, hj, Option.map_some, hv L]) (by rw [look_erH, hnm]; rfl) (by rw [freeS_er]; exact hf) g2
  obtain ⟨ρ', M', hs1⟩ := hw ρ M a w hs0
  refine ⟨ρ', M', hs1.congr (fun k => ?_) (fun k => ?_)⟩
  · show look k (erT L1 ((t, .agg (cells.set j (.own nm 0))) :: ts)) = look k l'
    rw [g1]
    have : erL L1 (cells.set j (.own nm 0)) = (erL L cells).set j (.own nm 0) := by
      rw [ec, erL_map, erL_map, List.map_set]
      simp only [BV.er, show L1 nm 0 = 0 from if_pos rfl]
    show look k ((t, (BV.agg (cells.set j (.own nm 0))).er L1) :: erT L1 ts) = _
    simp only [BV.er, this, ← e1]
  · show look k (erH L1 ((nm, .arr tc [] 0) :: hs)) = look k ((nm, .arr (tz tc) []) :: erH L hs)
    show look k ((nm, (BO.arr tc [] 0).er L1) :: erH L1 hs) = _
    simp only [BO.er, List.map_nil, ← e2]
theorem thawA_some {o : List (Name × OSh)} {t : Nat} {Γ : Ctx} : ∀ {l : List Sh} {j : Nat} {ts : TS} {hs : HS} {L : Lens} {K : TS → HS → Option R}, thawA o t j l ts hs K = some r → Inv L hs →
    ∃ ts' hs' L', K ts' hs' = some r ∧ Inv L' hs' ∧ Weak Γ (BS L ts hs) (BS L' ts' hs')
  | [], j, ts, hs, L, K, h, hi => ⟨ts, hs, L, h, hi, Weak.refl _ _⟩
  | s :: l, j, ts, hs, L, K, h, hi => by
    have hth : ∀ {nm : Name} {tc : TC} {v : BV} {es0 : Nat} {cells : List BV}, look t ts = some (.agg cells) → cells[j]? = some v → (∀ L, v.er L = .p (.sl true es0 [])) →
        (if (look nm hs).isNone && freeS nm ts hs && Nat.ble 1 (tz tc) then thawA o t (j + 1) l ((t, .agg (cells.set j (.own nm 0))) :: ts) ((nm, .arr tc [] 0) :: hs) K else none) = some r →
        ∃ ts' hs' L', K ts' hs' = some r ∧ Inv L' hs' ∧ Weak Γ (BS L ts hs) (BS L' ts' hs') := fun {nm tc v es0 cells} hm hj hv h => by
      split at h
      case isFalse => simp at h
      rename_i hb
      simp only [Bool.and_eq_true] at hb
      obtain ⟨L1, hi1, hw1⟩ := thaw_agg (Γ := Γ) hm hj hv hb.1.1 hb.1.2 hb.2 hi
      obtain ⟨ts', hs', L', k1, k2, k3⟩ := thawA_some h hi1
      exact ⟨ts', hs', L', k1, k2, Weak.trans hw1 k3⟩
    unfold thawA at h
    split at h
    · rename_i heq; cases heq
    · rename_i nm r0 heq
      cases heq
      split at h
      · rename_i cells hm
        split at h
        · rename_i tc hj ho; exact hth (es0 := 0) hm hj (fun L => by simp only [BV.er]) h
        · rename_i t0 tc hj ho; exact hth (es0 := tz t0) hm hj (fun L => by simp only [BV.er, List.map_nil]) h
        · exact thawA_some h hi
      · exact thawA_some h hi
    · rename_i heq; cases heq; exact thawA_some h hi
theorem thawK_some {o : List (Name × OSh)} {Γ : Ctx} : ∀ {s : List (Nat × SSh)} {ts : TS} {hs : HS} {L : Lens} {K : TS → HS → Option R}, thawK o s ts hs K = some r → Inv L hs →
    ∃ ts' hs' L', K ts' hs' = some r ∧ Inv L' hs' ∧ Weak Γ (BS L ts hs) (BS L' ts' hs')
  | [], ts, hs, L, K, h, hi => ⟨ts, hs, L, h, hi, Weak.refl _ _⟩
  | p :: s, ts, hs, L, K, h, hi => by
    obtain ⟨t, sh⟩ := p
    have hth : ∀ {nm : Name} {tc : TC} {v : BV} {es0 : Nat}, look t ts = some v → (∀ L, v.er L = .p (.sl true es0 [])) →
        (if (look nm hs).isNone && freeS nm ts hs && Nat.ble 1 (tz tc) then thawK o s ((t, .own nm 0) :: ts) ((nm, .arr tc [] 0) :: hs) K else none) = some r →
        ∃ ts' hs' L', K ts' hs' = some r ∧ Inv L' hs' ∧ Weak Γ (BS L ts hs) (BS L' ts' hs') := fun {nm tc v es0} hv hv2 h => by
      split at h
      case isFalse => simp at h
      rename_i hb
      simp only [Bool.and_eq_true, Option.isNone_iff_eq_none] at hb
      let L1 : Lens := fun n u => if n = nm then 0 else L n u
      obtain ⟨e1, e2⟩ := erS_congr (L := L) (L' := L1) (nw := [nm]) (nv := []) (ts := ts) (hs := hs) (fun n hn => by simp only [List.mem_singleton] at hn; subst hn; exact hb.1.2) (fun p hp => by simp at hp) (fun n u hn _ => if_neg (by simpa using hn))
      have hi1 : Inv L1 ((nm, .arr tc [] 0) :: hs) := fun n t' l u hn => by
        simp only [look] at hn
        split at hn
        · rename_i e; subst e; cases hn; exact if_pos rfl
        · rename_i e; show (if n = nm then 0 else L n u) = _; rw [if_neg (Ne.symm e)]; exact hi n t' l u hn
      obtain ⟨ts', hs', L', k1, k2, k3⟩ := thawK_some (Γ := Γ) h hi1
      refine ⟨ts', hs', L', k1, k2, Weak.trans ?_ k3⟩
      obtain ⟨l', g1, g2⟩ := look_map ((t, .own nm 0) :: erT L ts)
      have hw := Weak.thaw (Γ := Γ) (ts := erT L ts) (ts' := l') (hs := erH L hs) (t := t) (es0 := es0) (es := tz tc) (n := nm) hb.2 (by rw [look_erT, hv, Option.map_some, hv2 L]) (by rw [look_erH, hb.1.1]; rfl) (by rw [freeS_er]; exact hb.1.2) g2
      refine fun ρ M a w hs0 => ?_
      obtain ⟨ρ', M', hs1⟩ := hw ρ M a w hs0
      refine ⟨ρ', M', hs1.congr (fun k => ?_) (fun k => ?_)⟩
      · show look k (erT L1 ((t, .own nm 0) :: ts)) = look k l'
        rw [g1]
        show look k ((t, (BV.own nm 0).er L1) :: erT L1 ts) = _
        simp only [BV.er, show L1 nm 0 = 0 from if_pos rfl, ← e1]
      · show look k (erH L1 ((nm, .arr tc [] 0) :: hs)) = look k ((nm, .arr (tz tc) []) :: erH L hs)
        show look k ((nm, (BO.arr tc [] 0).er L1) :: erH L1 hs) = _
        simp only [BO.er, List.map_nil, ← e2]
    unfold thawK at h
    split at h
    · rename_i t1 l1 r0 heq
      cases heq
      obtain ⟨ts1, hs1, L1, h, hi1, hw1⟩ := thawA_some (Γ := Γ) h hi
      obtain ⟨ts2, hs2, L2, h, hi2, hw2⟩ := thawK_some (Γ := Γ) h hi1
      exact ⟨ts2, hs2, L2, h, hi2, Weak.trans hw1 hw2⟩
    · rename_i nm r0 heq
      split at h
      · rename_i tc hv ho
        cases heq
        exact hth (es0 := 0) hv (fun L => by simp only [BV.er]) h
      · rename_i t0 tc hv ho
        cases heq
        exact hth (es0 := tz t0) hv (fun L => by simp only [BV.er, List.map_nil]) h
      · cases heq; exact thawK_some h hi
    · rename_i heq; cases heq; exact thawK_some h hi
    · rename_i heq; cases heq
theorem thaw_cell {Γ : Ctx} {m nm : Name} {j es0 : Nat} {tc : TC} {cells : List BV} {v : BV} (hm : look m hs = some (.box cells)) (hj : cells[j]? = some v) (hv : ∀ L, v.er L = .p (.sl true es0 [])) (hb : (look nm hs).isNone = true) (hf : freeS nm ts hs = true) (ht : Nat.ble 1 (tz tc) = true) (hi : Inv L hs) :
    ∃ L', Inv L' ((m, .box (cells.set j (.own nm 0))) :: (nm, .arr tc [] 0) :: hs) ∧ Weak Γ (BS L ts hs) (BS L' ts ((m, .box (cells.set j (.own nm 0))) :: (nm, .arr tc [] 0) :: hs)) := by
  let L1 : Lens := fun n u => if n = nm then 0 else L n u
  have hnm : look nm hs = none := Option.isNone_iff_eq_none.1 hb
  have hne : m ≠ nm := fun e => by subst e; rw [hnm] at hm; simp at hm
  obtain ⟨e1, e2⟩ := erS_congr (L := L) (L' := L1) (nw := [nm]) (nv := []) (ts := ts) (hs := hs) (fun n hn => by simp only [List.mem_singleton] at hn; subst hn; exact hf) (fun p hp => by simp at hp) (fun n u hn _ => if_neg (by simpa using hn))
  have ec : erL L cells = erL L1 cells := by
    have := erH_mem e2 (look_mem hm)
    simp only [BO.er, AO.box.injEq] at this
    exact this
  refine ⟨L1, fun n t' l u hn => ?_, fun ρ M a w hs0 => ?_⟩
  · simp only [look] at hn
    split at hn
    · cases hn
    · split at hn
      · rename_i e; subst e; cases hn; exact if_pos rfl
      · rename_i e; show (if n = nm then 0 else L n u) = _; rw [if_neg (Ne.symm e)]; exact hi n t' l u hn
  · have hs1 : Sim Γ ρ M (mk (erT L ts) ((m, .box (erL L cells)) :: erH L hs)) a w := hs0.congr (fun k => rfl) (fun k => by
      show look k ((m, AO.box (erL L cells)) :: erH L hs) = look k (erH L hs)
      simp only [look]
      split
      · rename_i e; subst e; rw [look_erH, hm]; rfl
      · rfl)
    have hfree : freeIn nm (erT L ts) ((m, .box (erL L cells)) :: erH L hs) = true := by
      have h1 := hf
      rw [← freeS_er (L := L)] at h1
      simp only [freeIn, Bool.and_eq_true, List.all_cons] at h1 ⊢
      have h2 := List.all_eq_true.1 h1.2 _ (show (m, AO.box (erL L cells)) ∈ erH L hs from look_mem (by rw [look_erH, hm]; rfl))
      exact ⟨h1.1, h2, h1.2⟩
    obtain ⟨ρ', M', hs2⟩ := Weak.thawCell (Γ := Γ) (ts := erT L ts) (hs' := erH L hs) (m := m) (j := j) (es0 := es0) (es := tz tc) (n := nm) (cells := erL L cells) ht rfl (by rw [erL_get, hj, Option.map_some, hv L])
      (by simp only [look, if_neg hne, look_erH, hnm]; rfl) hfree rfl ρ M a w hs1
    refine ⟨ρ', M', hs2.congr (fun k => ?_) (fun k => ?_)⟩
    · show look k (erT L1 ts) = look k (erT L ts)
      rw [e1]
    · show look k (erH L1 ((m, .box (cells.set j (.own nm 0))) :: (nm, .arr tc [] 0) :: hs)) = look k ((m, .box ((erL L cells).set j (.own nm 0))) :: (nm, .arr (tz tc) []) :: erH L hs)
      have : erL L1 (cells.set j (.own nm 0)) = (erL L cells).set j (.own nm 0) := by
        rw [ec, erL_map, erL_map, List.map_set]
        simp only [BV.er, show L1 nm 0 = 0 from if_pos rfl]
      show look k ((m, AO.box (erL L1 (cells.set j (.own nm 0)))) :: (nm, (BO.arr tc [] 0).er L1) :: erH L1 hs) = _
      rw [this, ← e2]
      simp only [BO.er, List.map_nil]
theorem thawC_some {o : List (Name × OSh)} {m : Name} {Γ : Ctx} : ∀ {l : List Sh} {j : Nat} {hs : HS} {L : Lens} {K : HS → Option R}, thawC o m ts j l hs K = some r → Inv L hs →
    ∃ hs' L', K hs' = some r ∧ Inv L' hs' ∧ Weak Γ (BS L ts hs) (BS L' ts hs')
  | [], j, hs, L, K, h, hi => ⟨hs, L, h, hi, Weak.refl _ _⟩
  | s :: l, j, hs, L, K, h, hi => by
    have hth : ∀ {nm : Name} {tc : TC} {v : BV} {es0 : Nat} {cells : List BV}, look m hs = some (.box cells) → cells[j]? = some v → (∀ L, v.er L = .p (.sl true es0 [])) →
        (if (look nm hs).isNone && freeS nm ts hs && Nat.ble 1 (tz tc) then thawC o m ts (j + 1) l ((m, .box (cells.set j (.own nm 0))) :: (nm, .arr tc [] 0) :: hs) K else none) = some r →
        ∃ hs' L', K hs' = some r ∧ Inv L' hs' ∧ Weak Γ (BS L ts hs) (BS L' ts hs') := fun {nm tc v es0 cells} hm hj hv h => by
      split at h
      case isFalse => simp at h
      rename_i hb
      simp only [Bool.and_eq_true] at hb
      obtain ⟨L1, hi1, hw1⟩ := thaw_cell (Γ := Γ) hm hj hv hb.1.1 hb.1.2 hb.2 hi
      obtain ⟨hs', L', k1, k2, k3⟩ := thawC_some h hi1
      exact ⟨hs', L', k1, k2, Weak.trans hw1 k3⟩
    unfold thawC at h
    split at h
    · rename_i heq; cases heq
    · rename_i nm r0 heq
      cases heq
      split at h
      · rename_i cells hm
        split at h
        · rename_i tc hj ho; exact hth (es0 := 0) hm hj (fun L => by simp only [BV.er]) h
        · rename_i t0 tc hj ho; exact hth (es0 := tz t0) hm hj (fun L => by simp only [BV.er, List.map_nil]) h
        · exact thawC_some h hi
      · exact thawC_some h hi
    · rename_i heq; cases heq; exact thawC_some h hi
theorem thawO_some {o : List (Name × OSh)} {Γ : Ctx} : ∀ {l : List (Name × OSh)} {hs : HS} {L : Lens} {K : HS → Option R}, thawO o ts l hs K = some r → Inv L hs →
    ∃ hs' L', K hs' = some r ∧ Inv L' hs' ∧ Weak Γ (BS L ts hs) (BS L' ts hs')
  | [], hs, L, K, h, hi => ⟨hs, L, h, hi, Weak.refl _ _⟩
  | p :: l, hs, L, K, h, hi => by
    unfold thawO at h
    split at h
    · rename_i m l0 r0 heq
      cases heq
      obtain ⟨hs1, L1, h, hi1, hw1⟩ := thawC_some (Γ := Γ) h hi
      obtain ⟨hs2, L2, h, hi2, hw2⟩ := thawO_some h hi1
      exact ⟨hs2, L2, h, hi2, Weak.trans hw1 hw2⟩
    · rename_i heq; cases heq; exact thawO_some h hi
    · rename_i heq; cases heq
end
end Go.Proofs.YtfhcigjkfelnfaaGreat.AM
/-
  The typed layer, part N: the code of a function; its contract. No project text.
-/
set_option linter.unusedVariables false
set_option linter.unusedSimpArgs false
namespace Go.Proofs.YtfhcigjkfelnfaaGreat.AM
open Go
variable {L L' : Lens} {ts ts' : TS} {hs hs' : HS}
section
variable {R : Type} {r : R} {P : Program} {ty : TypeId → Option TC} {E : Env} {gn : List Name} {nn fu : Nat} {Γ : Ctx}
def QK (K : Cont R) (r : R) : Exit → AS → Prop := fun e s' => ∃ ts' hs' L', s' = BS L' ts' hs' ∧ Inv L' hs' ∧ K e ts' hs' = some r
theorem keepB_gn {o : List (Name × OSh)} {n : Name} (hn : n ∈ gn) : keepB gn o hs n = true := by
  unfold keepB
  split
  · rw [isIn_iff.2 hn, Bool.or_true]
  · rfl
theorem keepA_gn {o : List (Name × OSh)} {n : Name} (hn : n ∈ gn) : keepA gn o ts hs n = true := by
  unfold keepA
  split
  · rw [isIn_iff.2 hn, Bool.true_or, Bool.true_or]
  · rfl
theorem shapeK_some {s : List (Nat × SSh)} {o : List (Name × OSh)} {K : STL s × OL o → Option R} (hgn : Γ.names = gn) (h : shapeK gn s o ts hs K = some r) (hi : Inv L hs) :
    ∃ x L', K x = some r ∧ Inv L' (OL.put 0 o x.2) ∧ Weak Γ (BS L ts hs) (BS L' (STL.put 0 s x.1) (OL.put 0 o x.2)) := by
  unfold shapeK at h
  simp only [trimC_eq] at h
  obtain ⟨ts1, hs1, h, hi1, hw1⟩ := frzK_some hgn h (hi.trim (f := keepB gn o hs))
  obtain ⟨ts2, hs2, L2, h, hi2, hw2⟩ := thawK_some (Γ := Γ) h (hi1.trim (f := keepA gn o ts1 hs1))
  obtain ⟨hs2', L2', h, hi2', hw2'⟩ := thawO_some (Γ := Γ) h hi2
  obtain ⟨x, L3, h, hi3, hle, hk⟩ := getS_some h hi2'
  refine ⟨x, L3, h, hi3, fun ρ M a w hs0 => ?_⟩
  obtain ⟨ρ1, M1, h1⟩ := hw1 ρ M a w (hs0.only (f := keepT s) (g := keepB gn o hs) fun n hn => keepB_gn (by rw [← hgn]; exact hn))
  have h1' : Sim Γ ρ1 M1 (BS L ts1 (trimL (keepA gn o ts1 hs1) [] hs1)) a w := by
    have h2 := h1.only (f := fun _ => true) (g := keepA gn o ts1 hs1) fun n hn => keepA_gn (by rw [← hgn]; exact hn)
    refine h2.congr (fun t => ?_) (fun n => rfl)
    show (BS L ts1 (trimL (keepA gn o ts1 hs1) [] hs1)).slot t = (BS L (trimL (fun _ => true) [] ts1) (trimL (keepA gn o ts1 hs1) [] hs1)).slot t
    rw [BS_slot, BS_slot, look_trimL]; rfl
  obtain ⟨ρ2', M2', h2'⟩ := hw2 ρ1 M1 a w h1'
  obtain ⟨ρ2, M2, h2⟩ := hw2' ρ2' M2' a w h2'
  have h3 : Sim Γ ρ2 M2 (BS L2' (viewT hs2' s ts2) hs2') a w := by
    refine h2.leS (fun t y hy => ?_) (fun n => ⟨fun y hy => ⟨y, hy, .refl _⟩, fun x hx => ⟨x, hx, .refl _⟩⟩) (fun n x y hx hy => ?_)
    · obtain ⟨y', hy', rfl⟩ := slot_of hy
      obtain ⟨x', hx', hle'⟩ := viewT_le hi2' hy'
      exact ⟨x'.er L2', by rw [BS_slot, hx']; rfl, hle'⟩
    · rw [BS_heap] at hx hy; rw [hx] at hy; cases hy; exact .inl rfl
  exact ⟨ρ2, M2, h3.sle hle (by rw [hgn]; exact hk)⟩
theorem around_ok {c : Code} {an : Ann} {K : Cont R} {body : Ann → TS → HS → Cont R → Option R} (hgn : Γ.names = gn) (h : around gn an ts hs K body = some r) (hi : Inv L hs)
    (hb : ∀ an ts hs L K, body an ts hs K = some r → Inv L hs → AWp P Γ c (BS L ts hs) (QK K r)) : AWp P Γ c (BS L ts hs) (QK K r) := by
  unfold around at h
  split at h
  · rename_i s o a
    refine AWp.post ((hb _ _ _ L _ h hi).mono fun e s' => ?_)
    rintro ⟨ts', hs', L', rfl, hi', hk⟩
    cases e with
    | normal =>
      obtain ⟨x, L2, h2, hi2, hw⟩ := shapeK_some hgn hk hi'
      exact ⟨_, hw, _, _, L2, rfl, hi2, h2⟩
    | _ => exact ⟨_, Weak.refl _ _, _, _, L', rfl, hi', hk⟩
  · obtain ⟨ts1, hs1, h, hi1, hw1⟩ := frzK_some hgn h hi
    exact AWp.weaken _ (fun ρ M a w hs0 => hw1 ρ M a w hs0) (hb _ _ _ L _ h hi1)
  · exact hb _ _ _ L _ h hi
theorem vc_ok [DecidableEq R] (hE : EnvOK P E) (hgn : Γ.names = gn) (hn : Γ.n = nn) : ∀ (c : Code) (an : Ann) (ts : TS) (hs : HS) (L : Lens) (K : Cont R), vc P ty E gn nn fu c an ts hs K = some r → Inv L hs → AWp P Γ c (BS L ts hs) (QK K r)
  | .skip, an, ts, hs, L, K, h, hi => AWp.skip ⟨_, _, L, rfl, hi, by simpa only [vc] using h⟩
  | .label _, an, ts, hs, L, K, h, hi => AWp.label ⟨_, _, L, rfl, hi, by simpa only [vc] using h⟩
  | .ret, an, ts, hs, L, K, h, hi => AWp.ret ⟨_, _, L, rfl, hi, by simpa only [vc] using h⟩
  | .exit id, an, ts, hs, L, K, h, hi => AWp.exit ⟨_, _, L, rfl, hi, by simpa only [vc] using h⟩
  | .seq a b, an, ts, hs, L, K, h, hi => by
    simp only [vc] at h
    refine around_ok hgn h hi fun an ts hs L K h hi => AWp.seq ((vc_ok hE hgn hn a _ _ _ L _ h hi).mono fun e s' => ?_)
    rintro ⟨ts', hs', L', rfl, hi', hk⟩
    cases e with
    | normal => exact vc_ok hE hgn hn b _ _ _ L' _ hk hi'
    | _ => exact ⟨_, _, L', rfl, hi', hk⟩
  | .cond (.tmp t) a b, an, ts, hs, L, K, h, hi => by
    simp only [vc] at h
    refine around_ok hgn h hi fun an ts hs L K h hi => ?_
    split at h
    · rename_i q hl
      refine AWp.cond q (by rw [BS_slot, hl]; simp only [Option.map_some, BV.er]) (fun hq => ?_) (fun hq => ?_)
      · subst hq; exact vc_ok hE hgn hn a _ _ _ L _ h hi
      · subst hq; exact vc_ok hE hgn hn b _ _ _ L _ h hi
    · rename_i hl
      obtain ⟨h1, h2⟩ := both_some h
      intro ρ M w0 w hs0
      obtain ⟨u, hu, hr⟩ := hs0.slots t _ (show (BS L ts hs).slot t = some .ub by rw [BS_slot, hl]; simp only [Option.map_some, BV.er])
      simp only [AV.R] at hr
      obtain ⟨q, rfl⟩ := hr
      have he : w0.eval (.tmp t) = .bool q := by simp [Act.eval, Array.getD_eq_getD_getElem?, hu]
      cases q with
      | true => exact wp_cond_true he (vc_ok hE hgn hn a _ _ _ L _ h1 hi ρ M w0 w hs0)
      | false => exact wp_cond_false he (vc_ok hE hgn hn b _ _ _ L _ h2 hi ρ M w0 w hs0)
    · simp at h
  | .cond (.const c) a b, an, ts, hs, L, K, h, hi => by
    cases c with
    | bool q =>
      simp only [vc] at h
      refine around_ok hgn h hi fun an ts hs L K h hi => ?_
      cases q with
      | true => exact fun ρ M w0 w hs0 => wp_cond_true rfl (vc_ok hE hgn hn a _ _ _ L _ h hi ρ M w0 w hs0)
      | false => exact fun ρ M w0 w hs0 => wp_cond_false rfl (vc_ok hE hgn hn b _ _ _ L _ h hi ρ M w0 w hs0)
    | _ => simp [vc] at h
  | .cond (.global _) a b, an, ts, hs, L, K, h, hi => by simp [vc] at h
  | .cond (.func _) a b, an, ts, hs, L, K, h, hi => by simp [vc] at h
  | .block id a, an, ts, hs, L, K, h, hi => by
    simp only [vc] at h
    refine around_ok hgn h hi fun an ts hs L K h hi => AWp.block ((vc_ok hE hgn hn a _ _ _ L _ h hi).mono fun e s' => ?_)
    rintro ⟨ts', hs', L', rfl, hi', hk⟩
    cases e with
    | exit k =>
      simp only [blockQ]
      simp only [blockC] at hk
      split at hk
      · rename_i he; rw [if_pos (Nat.eq_of_beq_eq_true he)]; exact ⟨_, _, L', rfl, hi', hk⟩
      · rename_i he; rw [if_neg (fun e => he (by rw [e]; exact Nat.beq_refl _))]; exact ⟨_, _, L', rfl, hi', hk⟩
    | _ => exact ⟨_, _, L', rfl, hi', hk⟩
  | .loop a, an, ts, hs, L, K, h, hi => by
    simp only [vc] at h
    split at h
    · rename_i s o an
      obtain ⟨x, L1, h, hi1, hw⟩ := shapeK_some hgn h hi
      refine AWp.weaken _ hw (AWp.loop (fun m s' => ∃ x L', s' = BS L' (STL.put 0 s x.1) (OL.put 0 o x.2) ∧ Inv L' (OL.put 0 o x.2) ∧ iterF (fun Lp x => vc P ty E gn nn fu a an (STL.put 0 s x.1) (OL.put 0 o x.2) (nextC K fun ts hs => shapeK gn s o ts hs Lp)) m x = some r)
        ⟨fu, x, L1, rfl, hi1, h⟩ ?_)
      rintro m s' ⟨x, L', rfl, hi', hm⟩
      cases m with
      | zero => simp [iterF] at hm
      | succ m =>
        simp only [iterF] at hm
        refine AWp.post ((vc_ok hE hgn hn a _ _ _ L' _ hm hi').mono fun e s' => ?_)
        rintro ⟨ts2, hs2, L2, rfl, hi2, hk⟩
        cases e with
        | normal =>
          obtain ⟨x', L3, h3, hi3, hw3⟩ := shapeK_some hgn hk hi2
          exact ⟨_, hw3, m, Nat.lt_succ_self m, x', L3, rfl, hi3, h3⟩
        | _ => exact ⟨_, Weak.refl _ _, _, _, L2, rfl, hi2, hk⟩
    · simp at h
  | .region id ops dr, an, ts, hs, L, K, h, hi => by
    simp only [vc] at h
    refine around_ok hgn h hi fun an ts hs L K h hi => ?_
    cases dr with
    | false =>
      intro ρ M a w hs0
      refine wp_region ?_
      have := regK_ok (gn := gn) (Γ := Γ) (ops := ops) (Q := fun e a' w' => ∃ s' ρ' M', QK K r e s' ∧ Sim Γ ρ' M' s' a' w') hE hgn hn (fun ts' hs' L' ρ' M' a' w' hk hi' hs' => ⟨_, ρ', M', ⟨_, _, L', rfl, hi', hk⟩, hs'⟩) ops.size 0 ts hs L h hi ρ M a w hs0
      rwa [Nat.sub_zero, ← List.range_eq_range'] at this
    | true =>
      simp only at h
      split at h
      case isFalse => simp at h
      rename_i hm
      obtain ⟨rows, ts', hs', L', hk, hi', hst, hts, hhs, hg⟩ := dregK_some hE ops.size 0 [] ts hs L h hi
      change (if indepB ops rows ts hs = true then K .normal ts' hs' else none) = some r at hk
      split at hk
      case isFalse => simp at hk
      rename_i hind
      show AWp P Γ _ (mk (erT L ts) (erH L hs)) _
      rw [hts, hhs]
      exact AWp.drawG hn (by rw [hm, Bool.true_or]) _ hst hg (indep_row hind L') ⟨_, _, L', rfl, hi', hk⟩
  | .rangeFunc .., an, ts, hs, L, K, h, hi => by simp [vc] at h
  | .scope _, an, ts, hs, L, K, h, hi => by simp [vc] at h
  | .goto _, an, ts, hs, L, K, h, hi => by simp [vc] at h
  | .refuse _, an, ts, hs, L, K, h, hi => by simp [vc] at h
end
section
variable {R : Type} (P : Program)
def resV (ts : TS) (hs : HS) : ResultVar → Option BV
  | .tmp t => look t ts
  | .cell t T => match look t ts with
    | some (.ref n 0) => match look n hs with
      | some (.box cells) => if aggT P T then (match sizeT P T with | some z => if Nat.beq z cells.length then some (.agg cells) else none | none => none)
        else if flatT P T then (match cells with | [v] => some v | _ => none) else none
      | _ => none
    | _ => none
def resVs (ts : TS) (hs : HS) : List ResultVar → Option (List BV)
  | [] => some []
  | x :: q => match resV P ts hs x, resVs ts hs q with
    | some v, some vs => some (v :: vs)
    | _, _ => none
def Sh.owns : Sh → List Name
  | .own nm => [nm]
  | .view nm => [nm]
  | _ => []
def SSh.owns : SSh → List Name
  | .one s => s.owns
  | .st _ => []
  | .agg l => l.flatMap Sh.owns
def OSh.owns : OSh → List Name
  | .box l => l.flatMap Sh.owns
  | _ => []
def arrB (l : List (Name × OSh)) (n : Name) : Bool := match look n l with
  | some (.arr _) => true
  | _ => false
def sameC {α : Type} [DecidableEq α] (a b : α) (x : Option R) : Option R := if a = b then x else none
def keepK (hs : HS) : (l : List (Name × OSh)) → List Name → OL l → Option R → Option R
  | [], _, _, x => x
  | (nm, .arr t) :: l, ks, y, x => if isIn nm ks then (match look nm hs with
      | some (.arr t' z _) => if h : t' = t then sameC (castL h z) y.1 (keepK hs l ks y.2 x) else none
      | _ => none) else keepK hs l ks y.2 x
  | (nm, .box _) :: l, ks, y, x => if isIn nm ks then none else keepK hs l ks y.2 x
  | (nm, .arrs _) :: l, ks, y, x => if isIn nm ks then none else keepK hs l ks y.2 x
  | (nm, .sm) :: l, ks, y, x => if isIn nm ks then none else keepK hs l ks y.2 x
  | (nm, .boxst t) :: l, ks, y, x => if isIn nm ks then (match look nm hs with
      | some (.box cs) => tpop t cs fun z rest => match rest with
        | [] => sameC z y.1 (keepK hs l ks y.2 x)
        | _ => none
      | _ => none) else keepK hs l ks y.2 x
def slotsR : List ResultVar → List SSh → List (Nat × SSh)
  | .tmp t :: r, s :: q => (t, s) :: slotsR r q
  | _ :: r, _ :: q => slotsR r q
  | _, _ => []
def endK (gn : List Name) (rs : List ResultVar) (g : Sig) (y : OL g.pre) (K : SL g.res → OL g.post → Option R) (ts : TS) (hs : HS) : Option R :=
  thawK g.post (slotsR rs g.res) ts hs fun ts hs => match resVs P ts hs rs with
  | none => none
  | some vs => frzK gn (needArgs g.post hs g.res vs) ts hs fun ts hs => match resVs P ts hs rs with
    | none => none
    | some vs => SL.get g.res (viewL hs g.res vs) [] fun σ a => OL.get g.post hs ((keys g.post).map (fun n => (n, (n, verIn n hs))) ++ σ) fun σ b =>
        if idRen σ && (keys g.pre).all (fun n => isIn n (keys g.post) || isIn n g.keep) && g.keep.all (fun n => isIn n (keys g.pre)) && (g.res.flatMap SSh.owns).all (arrB g.post) && (g.post.flatMap fun p => p.2.owns).all (arrB g.post) then keepK hs g.pre g.keep y (K a b) else none
end
end Go.Proofs.YtfhcigjkfelnfaaGreat.AM
/-
  The typed layer, part P: the contract of a function, out of what is reckoned of its code. No project text.
-/
set_option linter.unusedVariables false
set_option linter.unusedSimpArgs false
namespace Go.Proofs.YtfhcigjkfelnfaaGreat.AM
open Go
variable {L L' : Lens} {ts ts' : TS} {hs hs' : HS}
theorem newM_keys {M : Nat → Prop} {ρ : Name → Loc} {h h' : List (Name × AO)} (h1 : ∀ n o', look n h' = some o' → ∃ o, look n h = some o) (h2 : ∀ n o, look n h = some o → ∃ o', look n h' = some o') : newM M ρ h = newM M ρ h' := by
  funext b
  exact propext (or_congr_right ⟨fun ⟨n, o, k1, k2⟩ => by obtain ⟨o', k3⟩ := h2 n o k1; exact ⟨n, o', k3, k2⟩, fun ⟨n, o, k1, k2⟩ => by obtain ⟨o', k3⟩ := h1 n o k1; exact ⟨n, o', k3, k2⟩⟩)
theorem After.le {ρ : Name → Loc} {M : Nat → Prop} {w : World} {pre : List (Name × AO)} {u : Value} {v v' : AV} {h h' : List (Name × AO)} {ρ' : Name → Loc} {w' : World} (ha : After ρ M w pre u v h ρ' w')
    (hv : ∀ (ρ : Name → Loc) (H : Heap) (M : Nat → Prop) (w : World) (u : Value), v.R ρ H M w u → v'.R ρ H M w u)
    (h1 : ∀ n o', look n h' = some o' → ∃ o, look n h = some o ∧ (o = o' ∨ ∃ cs ds, o = .box cs ∧ o' = .box ds ∧ AVleL cs ds)) (h2 : ∀ n o, look n h = some o → ∃ o', look n h' = some o') : After ρ M w pre u v' h' ρ' w' := by
  have hM : newM M ρ' h = newM M ρ' h' := newM_keys (fun n o' hn => by obtain ⟨o, k, _⟩ := h1 n o' hn; exact ⟨o, k⟩) h2
  have hst : HStep ρ' (lookH h) ρ' (lookH h') := fun n o hn => by
    obtain ⟨o', ho'⟩ := h2 n o hn
    obtain ⟨o2, ho2, hle⟩ := h1 n o' ho'
    change look n h = some o at hn
    rw [hn] at ho2; cases ho2
    change stays o (ρ' n) (look n h') (ρ' n)
    rw [ho']
    rcases hle with rfl | ⟨cs, ds, rfl, rfl, _⟩
    · exact stays_refl _ _
    · rfl
  have hnn : ∀ n, lookH h n = none → lookH h' n = none := fun n hn => by
    cases hc : lookH h' n with
    | none => rfl
    | some o' =>
      obtain ⟨o, ho, _⟩ := h1 n o' hc
      change look n h = none at hn
      rw [ho] at hn; simp at hn
  have hconvs : ∀ {xs : List AV} {us : List Value}, AV.Rs ρ' (lookH h) (newM M ρ' h) w' xs us → AV.Rs ρ' (lookH h') (newM M ρ' h) w' xs us := fun hr =>
    hr.step (Ext.refl (fun _ => False) _) (fun _ hb => hb.elim) (fun b _ hb => hb) hst (fun n _ => hnn n)
  refine ⟨?_, fun n o' hn => ?_, fun n m o o' b g1 g2 => ?_, fun n o b g1 g2 => ?_, ha.ext, fun n o hn => ?_⟩
  · rw [← hM]
    exact hv _ _ _ _ _ (ha.val.step (Ext.refl (fun _ => False) _) (fun _ hb => hb.elim) (fun b _ hb => hb) hst (fun n _ => hnn n))
  · obtain ⟨o, ho, hle⟩ := h1 n o' hn
    have hobj := ha.objs n o ho
    rw [← hM]
    rcases hle with rfl | ⟨cs, ds, rfl, rfl, hle⟩
    · cases o with
      | box cells => obtain ⟨b, T, cs, k1, k2, k3, k4⟩ := hobj; exact ⟨b, T, cs, k1, k2, k3, hconvs k4⟩
      | arr es rows => exact hobj
      | hole es pre row post => obtain ⟨k0, k0', k1, b, T, cs, k3, k4, k5, k6, k7, k8, k9⟩ := hobj; exact ⟨k0, k0', k1, b, T, cs, k3, k4, k5, k6, k7, hconvs k8, k9⟩
      | fact a x => exact ⟨hobj.1, hobj.2.step (Ext.refl (fun _ => False) _) (fun _ hb => hb.elim) (fun b _ hb => hb) hst (fun n _ => hnn n)⟩
      | obj x => exact hobj
    · obtain ⟨b, T, us', k1, k2, k3, k4⟩ := hobj
      exact ⟨b, T, us', k1, k2, k3, Rs_le hle _ (hconvs k4)⟩
  · obtain ⟨p, k1, _⟩ := h1 n o g1
    obtain ⟨q, k2, _⟩ := h1 m o' g2
    exact ha.inj n m p q b k1 k2
  · obtain ⟨p, k1, _⟩ := h1 n o g1
    exact ha.own n p b k1 g2
  · obtain ⟨o1, k1, k2⟩ := ha.keep n o hn
    obtain ⟨o2, k3⟩ := h2 n o1 k1
    refine ⟨o2, k3, ?_⟩
    obtain ⟨o3, k4, hle⟩ := h1 n o2 k3
    rw [k1] at k4; cases k4
    rcases hle with rfl | ⟨cs, ds, rfl, rfl, _⟩
    · exact k2
    · cases o <;> simp only [stays] at k2 ⊢ <;> exact k2
section
variable {u v : Nat}
theorem Sh.put_ver {s : Sh} {X : Type} {x : s.prod X} (h : ∀ n, n ∈ s.owns → L n u = L' n v) : (s.put u X x).1.er L = (s.put v X x).1.er L' ∧ (s.put u X x).2 = (s.put v X x).2 := by
  cases s with
  | own nm => exact ⟨by simp only [Sh.put, BV.er]; rw [h nm (by simp [Sh.owns])], rfl⟩
  | view nm => exact ⟨by simp only [Sh.put, BV.er]; rw [h nm (by simp [Sh.owns])], rfl⟩
  | clo f caps => exact ⟨by simp only [Sh.put, BV.er]; congr 1; simp only [erL_map, List.map_map]; exact List.map_congr_left fun n _ => by simp only [Function.comp, BV.er], rfl⟩
  | _ => exact ⟨by simp only [Sh.put, BV.er], rfl⟩
theorem TL.put_ver : ∀ {l : List Sh} {x : TL l}, (∀ n, n ∈ l.flatMap Sh.owns → L n u = L' n v) → erL L (TL.put u l x) = erL L' (TL.put v l x)
  | [], x, _ => by simp only [TL.put, erL]
  | s :: r, x, h => by
    have h1 := Sh.put_ver (s := s) (x := x) (L := L) (L' := L') (u := u) (v := v) (fun n hn => h n (by simp [hn]))
    have h2 := TL.put_ver (l := r) (x := (s.put u _ x).2) (fun n hn => h n (by rw [List.flatMap_cons]; exact List.mem_append_right _ hn))
    simp only [TL.put, erL, h1.1, h2]
    rw [h1.2]
theorem SSh.put_ver {s : SSh} {X : Type} {x : s.prod X} (h : ∀ n, n ∈ s.owns → L n u = L' n v) : (s.put u X x).1.er L = (s.put v X x).1.er L' ∧ (s.put u X x).2 = (s.put v X x).2 := by
  cases s with
  | one s => exact Sh.put_ver h
  | st t => simp only [SSh.put, BV.er, and_true]; rw [erL_isP (tb_isP t x.1), erL_isP (tb_isP t x.1)]
  | agg l => simp only [SSh.put, BV.er, and_true]; rw [TL.put_ver h]
theorem SL.put_ver : ∀ {l : List SSh} {x : SL l}, (∀ n, n ∈ l.flatMap SSh.owns → L n u = L' n v) → erL L (SL.put u l x) = erL L' (SL.put v l x)
  | [], x, _ => by simp only [SL.put, erL]
  | s :: r, x, h => by
    have h1 := SSh.put_ver (s := s) (x := x) (L := L) (L' := L') (u := u) (v := v) (fun n hn => h n (by simp [hn]))
    have h2 := SL.put_ver (l := r) (x := (s.put u _ x).2) (fun n hn => h n (by rw [List.flatMap_cons]; exact List.mem_append_right _ hn))
    simp only [SL.put, erL, h1.1, h2]
    rw [h1.2]
theorem OSh.put_ver {s : OSh} {x : s.T} (h : ∀ n, n ∈ s.owns → L n u = L' n v) : (s.put u x).er L = (s.put v x).er L' := by
  cases s with
  | box l => exact congrArg AO.box (TL.put_ver (l := l) (x := x) h)
  | boxst t => simp only [OSh.put, BO.er]; rw [erL_isP (tb_isP t x), erL_isP (tb_isP t x)]
  | arr t => simp only [OSh.put, BO.er]
  | arrs t => simp only [OSh.put, BO.er]
  | sm => simp only [OSh.put, BO.er]
end
theorem look_OL {u : Nat} {n : Name} {b : BO} : ∀ {l : List (Name × OSh)} {y : OL l}, look n (OL.put u l y) = some b → ∃ (p : Name × OSh) (x : p.2.T), p ∈ l ∧ look n l = some p.2 ∧ b = p.2.put u x ∧ ∀ w, look n (OL.put w l y) = some (p.2.put w x)
  | [], y, h => by change look n [] = some b at h; simp [look] at h
  | p :: l, y, h => by
    change look n ((p.1, p.2.put u y.1) :: OL.put u l y.2) = some b at h
    simp only [look] at h
    split at h
    · rename_i e
      cases h
      refine ⟨p, y.1, by simp, by obtain ⟨k, o⟩ := p; simp only [look]; rw [if_pos e], rfl, fun w => ?_⟩
      change look n ((p.1, p.2.put w y.1) :: OL.put w l y.2) = _
      simp only [look]; rw [if_pos e]
    · rename_i e
      obtain ⟨q, x, h1, h2, h3, h4⟩ := look_OL h
      refine ⟨q, x, List.mem_cons_of_mem _ h1, by obtain ⟨k, o⟩ := p; simp only [look]; rw [if_neg e]; exact h2, h3, fun w => ?_⟩
      change look n ((p.1, p.2.put w y.1) :: OL.put w l y.2) = _
      simp only [look]; rw [if_neg e]; exact h4 w
def argSlotsB : Nat → List BV → TS
  | _, [] => []
  | i, x :: r => (i, x) :: argSlotsB (i + 1) r
theorem argSlots_er : ∀ (i : Nat) (l : List BV), argSlots i (erL L l) = erT L (argSlotsB i l)
  | _, [] => by simp only [erL, argSlots, argSlotsB]; rfl
  | i, x :: r => by simp only [erL, argSlots, argSlotsB, argSlots_er (i + 1) r]; rfl
theorem AVleL.Ts {ρ : Name → Loc} {H : Heap} {M : Nat → Prop} {w : World} : ∀ {xs ys : List AV} {us : List Value}, AVleL xs ys → AV.Ts ρ H M w xs us → AV.Ts ρ H M w ys us
  | [], ys, us, h, hr => by cases h; exact hr
  | x :: xs, ys, us, h, hr => by
    cases h with
    | cons h1 h2 =>
      simp only [AV.Ts] at hr ⊢
      obtain ⟨u, us', rfl, h3, h4⟩ := hr
      exact ⟨u, us', rfl, h1.sound u h3, AVleL.Ts h2 h4⟩
theorem resB_le {vs ws : List BV} (h : AVleL (erL L vs) (erL L' ws)) (ρ : Name → Loc) (H : Heap) (M : Nat → Prop) (w : World) (u : Value) (hr : ((resB vs).er L).R ρ H M w u) : ((resB ws).er L').R ρ H M w u := by
  have hl : vs.length = ws.length := by have := h.len; rwa [erL_length, erL_length] at this
  match vs, ws, hl with
  | [], [], _ => exact hr
  | [v], [x], _ =>
    simp only [erL] at h
    cases h with
    | cons h1 _ => exact h1.sound u hr
  | v1 :: v2 :: vs, x1 :: x2 :: ws, _ =>
    simp only [resB, BV.er, AV.R] at hr ⊢
    obtain ⟨us, rfl, h2⟩ := hr
    exact ⟨us, rfl, AVleL.Ts h h2⟩
section
variable {P : Program}
theorem resVs_some : ∀ {rs : List ResultVar} {vs : List BV}, resVs P ts hs rs = some vs → vs.length = rs.length ∧ Res1s P (BS L ts hs) rs (erL L vs)
  | [], vs, h => by simp only [resVs, Option.some.injEq] at h; subst h; exact ⟨rfl, by simp only [erL]; rfl⟩
  | x :: q, vs, h => by
    simp only [resVs] at h
    split at h
    · rename_i v vs' h1 h2
      cases h
      obtain ⟨k1, k2⟩ := resVs_some h2
      refine ⟨by simp [k1], ⟨v.er L, erL L vs', by simp only [erL], ?_, k2⟩⟩
      cases x with
      | tmp t =>
        simp only [resV] at h1
        show (BS L ts hs).slot t = _
        rw [BS_slot, h1]; rfl
      | cell t T =>
        simp only [resV] at h1
        split at h1
        · rename_i n ht
          split at h1
          · rename_i cells hc
            refine ⟨n, erL L cells, by rw [BS_slot, ht]; simp only [Option.map_some, BV.er], by rw [BS_heap, hc]; rfl, ?_⟩
            split at h1
            · rename_i hT
              split at h1
              · rename_i z hz
                split at h1
                · rename_i hb; cases h1; exact .inl ⟨hT, by rw [hz, erL_length, Nat.eq_of_beq_eq_true hb], by simp only [BV.er]⟩
                · simp at h1
              · simp at h1
            · split at h1
              · rename_i hT
                split at h1
                · cases h1; exact .inr ⟨hT, by simp only [erL]⟩
                · simp at h1
              · simp at h1
          · simp at h1
        · simp at h1
    · simp at h
theorem res_of {rs : Array ResultVar} {vs : List BV} (h : resVs P ts hs rs.toList = some vs) : Res P (BS L ts hs) rs ((resB vs).er L) := by
  obtain ⟨h1, h2⟩ := resVs_some (L := L) h
  unfold Res
  match vs, h1 with
  | [], h1 =>
    have : ¬ rs.size = 1 := fun e => by rw [← Array.length_toList, ← h1] at e; simp at e
    rw [if_neg this]; exact ⟨_, by simp only [resB, BV.er], h2⟩
  | [v], h1 =>
    have : rs.size = 1 := by rw [← Array.length_toList, ← h1]; rfl
    rw [if_pos this]; simpa only [resB, erL] using h2
  | v1 :: v2 :: vs, h1 =>
    have : ¬ rs.size = 1 := fun e => by rw [← Array.length_toList, ← h1] at e; simp at e
    rw [if_neg this]; exact ⟨_, by simp only [resB, BV.er], h2⟩
theorem keepK_some {R : Type} {r : R} : ∀ {l : List (Name × OSh)} {ks : List Name} {y : OL l} {x : Option R}, keepK hs l ks y x = some r →
    x = some r ∧ ∀ n b, n ∈ ks → look n (OL.put 0 l y) = some b → (∃ t z v, b = .arr t z 0 ∧ look n hs = some (.arr t z v)) ∨ ∃ t z cs, b = .box (tb t z) ∧ look n hs = some (.box cs) ∧ Le cs (tb t z)
  | [], ks, y, x, h => ⟨h, fun n b _ hn => by change look n [] = some b at hn; simp [look] at hn⟩
  | (nm, o) :: l, ks, y, x, h => by
    have hrest : (x = some r ∧ ∀ n b, n ∈ ks → look n (OL.put 0 l y.2) = some b → (∃ t z v, b = .arr t z 0 ∧ look n hs = some (.arr t z v)) ∨ ∃ t z cs, b = .box (tb t z) ∧ look n hs = some (.box cs) ∧ Le cs (tb t z)) →
        (isIn nm ks = true → (∃ t z v, o.put 0 y.1 = .arr t z 0 ∧ look nm hs = some (.arr t z v)) ∨ ∃ t z cs, o.put 0 y.1 = .box (tb t z) ∧ look nm hs = some (.box cs) ∧ Le cs (tb t z)) →
        x = some r ∧ ∀ n b, n ∈ ks → look n (OL.put 0 ((nm, o) :: l) y) = some b → (∃ t z v, b = .arr t z 0 ∧ look n hs = some (.arr t z v)) ∨ ∃ t z cs, b = .box (tb t z) ∧ look n hs = some (.box cs) ∧ Le cs (tb t z) := fun hr hq => by
      refine ⟨hr.1, fun n b hn hb => ?_⟩
      change look n ((nm, o.put 0 y.1) :: OL.put 0 l y.2) = some b at hb
      simp only [look] at hb
      split at hb
      · rename_i e
        subst e; cases hb
        exact hq (isIn_iff.2 hn)
      · exact hr.2 n b hn hb
    cases o with
    | arr t =>
      simp only [keepK] at h
      split at h
      · split at h
        · rename_i t' z v hl
          split at h
          · rename_i he
            subst he
            unfold sameC at h
            split at h
            · rename_i hz
              exact hrest (keepK_some h) (fun _ => .inl ⟨_, _, v, rfl, by rw [hl, ← hz]; rfl⟩)
            · simp at h
          · simp at h
        · simp at h
      · rename_i hin
        exact hrest (keepK_some h) (fun hi => absurd hi hin)
    | boxst t =>
      simp only [keepK] at h
      split at h
      · split at h
        · rename_i cs hl
          obtain ⟨z, rest, hle, h⟩ := tpop_some t h
          split at h
          · unfold sameC at h
            split at h
            · rename_i hz
              refine hrest (keepK_some h) (fun _ => .inr ⟨t, y.1, cs, rfl, hl, ?_⟩)
              rw [List.append_nil] at hle
              rw [← hz]; exact hle
            · simp at h
          · simp at h
        · simp at h
      · rename_i hin
        exact hrest (keepK_some h) (fun hi => absurd hi hin)
    | box c =>
      simp only [keepK] at h
      split at h
      · simp at h
      · rename_i hin
        exact hrest (keepK_some h) (fun hi => absurd hi hin)
    | arrs c =>
      simp only [keepK] at h
      split at h
      · simp at h
      · rename_i hin
        exact hrest (keepK_some h) (fun hi => absurd hi hin)
    | sm =>
      simp only [keepK] at h
      split at h
      · simp at h
      · rename_i hin
        exact hrest (keepK_some h) (fun hi => absurd hi hin)
theorem SLput_length {u : Nat} : ∀ {l : List SSh} {x : SL l}, (SL.put u l x).length = l.length
  | [], _ => rfl
  | s :: r, x => by simp only [SL.put, List.length_cons, SLput_length (l := r)]
def lenAt : (l : List (Name × OSh)) → OL l → Name → Option Nat
  | [], _, _ => none
  | (k, .arr _) :: r, y, n => if Nat.beq k n then some y.1.length else lenAt r y.2 n
  | (k, .arrs _) :: r, y, n => if Nat.beq k n then none else lenAt r y.2 n
  | (k, .box _) :: r, y, n => if Nat.beq k n then none else lenAt r y.2 n
  | (k, .boxst _) :: r, y, n => if Nat.beq k n then none else lenAt r y.2 n
  | (k, .sm) :: r, y, n => if Nat.beq k n then none else lenAt r y.2 n
def lenB {R : Type} (pre : List (Name × OSh)) (y : OL pre) : (l : List (Name × OSh)) → OL l → Option R → Option R
  | [], _, x => x
  | (n, .arrs _) :: r, b, x => match lenAt pre y n with
    | some m => chk b.1.length m (lenB pre y r b.2 x)
    | none => none
  | (_, .arr _) :: r, b, x => lenB pre y r b.2 x
  | (_, .box _) :: r, b, x => lenB pre y r b.2 x
  | (_, .boxst _) :: r, b, x => lenB pre y r b.2 x
  | (_, .sm) :: r, b, x => lenB pre y r b.2 x
theorem lenAt_some : ∀ {l : List (Name × OSh)} {y : OL l} {n : Name} {m : Nat}, lenAt l y n = some m → ∃ (t : TC) (z : List (TT t)), look n (OL.put 0 l y) = some (.arr t z 0) ∧ z.length = m
  | [], y, n, m, h => by simp [lenAt] at h
  | (k, o) :: r, y, n, m, h => by
    have hrest : lenAt r y.2 n = some m → k ≠ n → ∃ (t : TC) (z : List (TT t)), look n (OL.put 0 ((k, o) :: r) y) = some (.arr t z 0) ∧ z.length = m := fun h e => by
      obtain ⟨t, z, h1, h2⟩ := lenAt_some h
      refine ⟨t, z, ?_, h2⟩
      change look n ((k, o.put 0 y.1) :: OL.put 0 r y.2) = _
      simp only [look]; rw [if_neg e]; exact h1
    cases o <;> simp only [lenAt] at h <;> split at h
    all_goals first
      | (simp at h; done)
      | (rename_i e; exact hrest h (fun h' => e (by rw [h']; exact Nat.beq_refl _)))
      | skip
    rename_i t e
    have := Nat.eq_of_beq_eq_true e; subst this
    refine ⟨t, y.1, ?_, by simpa using h⟩
    change look k ((k, _) :: OL.put 0 r y.2) = _
    simp only [look, if_true]; rfl
theorem lenB_some {R : Type} {r : R} {pre : List (Name × OSh)} {y : OL pre} : ∀ {l : List (Name × OSh)} {b : OL l} {x : Option R}, lenB pre y l b x = some r →
    x = some r ∧ ∀ n (t : TC) (z : List (TT t)), look n (OL.put 1 l b) = some (.arr t z 0) → lenAt pre y n = some z.length
  | [], b, x, h => ⟨h, fun n t z hn => by change look n [] = _ at hn; simp [look] at hn⟩
  | (k, o) :: l, b, x, h => by
    have hrest : lenB pre y l b.2 x = some r → (∀ (t : TC) (z : List (TT t)), o.put 1 b.1 = .arr t z 0 → lenAt pre y k = some z.length) →
        x = some r ∧ ∀ n (t : TC) (z : List (TT t)), look n (OL.put 1 ((k, o) :: l) b) = some (.arr t z 0) → lenAt pre y n = some z.length := fun h hq => by
      obtain ⟨h1, h2⟩ := lenB_some h
      refine ⟨h1, fun n t z hn => ?_⟩
      change look n ((k, o.put 1 b.1) :: OL.put 1 l b.2) = _ at hn
      simp only [look] at hn
      split at hn
      · rename_i e; subst e; exact hq t z (Option.some.inj hn)
      · exact h2 n t z hn
    cases o with
    | arrs t =>
      simp only [lenB] at h
      split at h
      · rename_i m hm
        obtain ⟨e, h⟩ := chk_some h
        refine hrest h fun t' z hz => ?_
        simp only [OSh.put] at hz
        cases hz
        rw [hm, ← e]
      · simp at h
    | arr t => exact hrest h fun t' z hz => by simp only [OSh.put] at hz; injection hz with _ _ h3; simp at h3
    | box t => exact hrest h fun t' z hz => by simp [OSh.put] at hz
    | boxst t => exact hrest h fun t' z hz => by simp [OSh.put] at hz
    | sm => exact hrest h fun t' z hz => by simp [OSh.put] at hz
theorem lenB_any {R R' : Type} {r : R} {r' : R'} {pre : List (Name × OSh)} {y : OL pre} : ∀ {l : List (Name × OSh)} {b : OL l} {x : Option R}, lenB pre y l b x = some r → lenB pre y l b (some r') = some r'
  | [], b, x, h => rfl
  | (k, .arrs t) :: l, b, x, h => by
    simp only [lenB] at h ⊢
    split at h
    · obtain ⟨e, h⟩ := chk_some h
      unfold chk; rw [if_pos e]; exact lenB_any h
    · simp at h
  | (k, .arr t) :: l, b, x, h => lenB_any (l := l) h
  | (k, .box t) :: l, b, x, h => lenB_any (l := l) h
  | (k, .boxst t) :: l, b, x, h => lenB_any (l := l) h
  | (k, .sm) :: l, b, x, h => lenB_any (l := l) h
def mkSig (args : List SSh) (pre : List (Name × OSh)) (res : List SSh) (post : List (Name × OSh)) (keep : List Name) (Ret : Type) (un : Ret → SL res × OL post) (f : SL args → OL pre → Option Ret) : Sig :=
  ⟨args, pre, res, post, keep, fun _ x y K => optc (f x y) fun q => lenB pre y post (un q).2 (K (un q).1 (un q).2)⟩
def finK {R : Type} (P : Program) (gn : List Name) (rs : List ResultVar) (g : Sig) (y : OL g.pre) (K : SL g.res → OL g.post → Option R) : Cont R := fun e ts hs => match e with
  | .normal => endK P gn rs g y K ts hs
  | .ret => endK P gn rs g y K ts hs
  | _ => none
theorem FnOK.intro {ty : TypeId → Option TC} {E : Env} {fu : Nat} {f : FuncId} {fn : Func} {c : Code} {an : Ann} {args : List SSh} {pre : List (Name × OSh)} {res : List SSh} {post : List (Name × OSh)} {keep : List Name} {Ret : Type} [DecidableEq Ret] {un : Ret → SL res × OL post} {F : SL args → OL pre → Option Ret}
    (conv : SL res → OL post → Ret) (hcu : ∀ a b, un (conv a b) = (a, b)) (hE : EnvOK P E) (hf : P.funcs[f]? = some fn) (hb : fn.body = some c) (hlen : Nat.ble args.length fn.ntmps = true)
    (hF : ∀ x y, vc P ty E (keys pre) fn.ntmps fu c an (argSlotsB 0 (SL.put 0 args x)) (OL.put 0 pre y) (finK P (keys pre) fn.results.toList (mkSig args pre res post keep Ret un F) y fun a b => some (conv a b)) = F x y) :
    FnOK P f (mkSig args pre res post keep Ret un F) := by
  refine ⟨fun R x y K r h => ?_, fun x y a b h L0 hL0 => ?_⟩
  · obtain ⟨q, hq, h⟩ := optc_some h
    obtain ⟨h', hle⟩ := lenB_some h
    refine ⟨(un q).1, (un q).2, ?_, h'⟩
    show optc (F x y) _ = _
    rw [hq]
    exact lenB_any h
  · change SL args at x
    change OL pre at y
    change SL res at a
    change OL post at b
    obtain ⟨q, hq, h⟩ := optc_some h
    obtain ⟨h, hlens⟩ := lenB_some h
    simp only [Option.some.injEq] at h
    have hvc := (hF x y).trans hq
    let g : Sig := mkSig args pre res post keep Ret un F
    let L1 : Lens := fun n v => match look n (g.posts y b) with
      | some (.arr t l u) => if v = u then l.length else L0 n v
      | _ => L0 n v
    have hL1 : ∀ n t l v, look n (g.posts y b) = some (.arr t l v) → L1 n v = l.length := fun n t l v hn => by
      show (match look n (g.posts y b) with | some (.arr t l u) => if v = u then l.length else L0 n v | _ => L0 n v) = _
      rw [hn]; simp only [if_true]
    have hpost : ∀ n b0, look n (OL.put 1 post b) = some b0 → look n (g.posts y b) = some b0 := fun n b0 hn => by
      show look n (OL.put 1 post b ++ _) = _
      rw [look_append, hn]
    have hpre : ∀ n b0, look n (OL.put 1 post b) = none → n ∈ keep → look n (OL.put 0 pre y) = some b0 → look n (g.posts y b) = some b0 := fun n b0 h1 h2 h3 => by
      show look n (OL.put 1 post b ++ (OL.put 0 pre y).filter (fun p => keep.contains p.1)) = _
      rw [look_append, h1]
      simp only [look_filter (f := fun n => keep.contains n)]
      rw [if_pos (by simpa using h2), h3]
    refine ⟨L1, fun n hn => ?_, hL1, ?_⟩
    · show (match look n (g.posts y b) with | some (.arr t l u) => if 0 = u then l.length else L0 n 0 | _ => L0 n 0) = _
      split
      · rename_i t l u hl
        split
        · rename_i e
          subst e
          change look n (OL.put 1 post b ++ (OL.put 0 pre y).filter (fun p => keep.contains p.1)) = _ at hl
          rw [look_append] at hl
          cases h1 : look n (OL.put 1 post b) with
          | some b1 =>
            rw [h1] at hl; cases hl
            have hab : (un q).2 = b := congrArg Prod.snd h
            rw [hab] at hlens
            obtain ⟨t', z, k1, k2⟩ := lenAt_some (hlens n t l h1)
            rw [← k2]; exact (hL0 n t' z 0 k1).symm
          | none =>
            rw [h1] at hl
            simp only [look_filter (f := fun n => keep.contains n)] at hl
            split at hl
            · exact (hL0 n t l 0 hl).symm
            · simp at hl
        · rfl
      · rfl
    · have hspec : Spec P f (erL L0 (SL.put 0 args x)) (erH L0 (OL.put 0 pre y)) fun v h' =>
          (∀ (ρ : Name → Loc) (H : Heap) (M : Nat → Prop) (w : World) (u : Value), v.R ρ H M w u → ((resB (SL.put 1 res a)).er L1).R ρ H M w u) ∧
          (∀ n o', look n (erH L1 (g.posts y b)) = some o' → ∃ o, look n h' = some o ∧ (o = o' ∨ ∃ cs ds, o = .box cs ∧ o' = .box ds ∧ AVleL cs ds)) ∧ (∀ n o, look n h' = some o → ∃ o', look n (erH L1 (g.posts y b)) = some o') := by
        refine Spec.intro hf hb (by rw [erL_length, SLput_length]; exact hlen) fun Γ hn hk => ?_
        rw [keys_erH, keys_put] at hk
        rw [argSlots_er]
        refine AWp.post ((vc_ok hE hk hn c an _ _ L0 _ hvc hL0).mono fun e s' => ?_)
        rintro ⟨ts', hs', L', rfl, hi', hk'⟩
        have hend : (e = .normal ∨ e = .ret) ∧ endK P (keys pre) fn.results.toList g y (fun a b => some (conv a b)) ts' hs' = some q := by
          cases e with
          | normal => exact ⟨.inl rfl, hk'⟩
          | ret => exact ⟨.inr rfl, hk'⟩
          | _ => simp [finK] at hk'
        obtain ⟨he, hk'⟩ := hend
        unfold endK at hk'
        obtain ⟨ts2, hs2, L2, hk', hi2, hw0⟩ := thawK_some (Γ := Γ) hk' hi'
        split at hk'
        · simp at hk'
        rename_i vs0 hvs0
        obtain ⟨ts1, hs1, hk', hi1, hw1⟩ := frzK_some hk hk' hi2
        split at hk'
        · simp at hk'
        rename_i vs hvs
        obtain ⟨σ1, a', hk', hs1', g1⟩ := SL.get_some hk'
        obtain ⟨σ2, b', hk', hs2', g2⟩ := OL.get_some hk'
        split at hk'
        case isFalse => simp at hk'
        rename_i hchk
        simp only [Bool.and_eq_true] at hchk
        obtain ⟨⟨⟨⟨hid, hall⟩, hkp⟩, hown1⟩, hown2⟩ := hchk
        obtain ⟨hq', hkept⟩ := keepK_some hk'
        simp only [Option.some.injEq] at hq'
        have hab : (a', b') = (a, b) := (hcu a' b').symm.trans ((congrArg un hq').trans h)
        obtain ⟨hab1, hab2⟩ := Prod.mk.inj hab
        rw [hab1] at g1
        rw [hab2] at g2
        have hf2 := verOf_fit hid
        have hf1 : Fit (fun n => n) (verOf σ2) σ1 := hf2.mono fun p hp => hs2' p (List.mem_append_right _ hp)
        have hlen2 : ∀ n, arrB post n = true → lensOf L2 (fun n => n) (verOf σ2) n 0 = L1 n 1 := fun n hn => by
          have hkn : n ∈ keys post := by
            unfold arrB at hn
            split at hn
            · rename_i hl; exact keys_of_look (by rw [hl]; simp)
            · simp at hn
          obtain ⟨b0, hb0⟩ := look_put (u := 0) (y := b) hkn
          obtain ⟨p, z, hp1, hp2, hp3, hp4⟩ := look_OL hb0
          unfold arrB at hn
          rw [hp2] at hn
          obtain ⟨k, o⟩ := p
          cases o with
          | arr t =>
            have h1 := hL1 n t z 1 (hpost n _ (hp4 1))
            obtain ⟨ob, hob, hle⟩ := g2 _ _ L2 hf2 n _ (hp4 0)
            rcases hle with ⟨cs, ds, _, h2, _⟩ | ⟨t', l', rfl, h2⟩ | ⟨es, _, h2⟩
            · cases h2
            · cases h2
              rw [h1]; exact hi1 n t z _ hob
            · cases h2
          | box l => simp at hn
          | boxst t => simp at hn
          | arrs t => simp at hn
          | sm => simp at hn
        have hle1 : AVleL (erL L2 (viewL hs1 g.res vs)) (erL L1 (SL.put 1 res a)) := by
          have := g1 _ _ L2 hf1
          rw [renL_id] at this
          have e := SL.put_ver (l := res) (x := a) (L := lensOf L2 (fun n => n) (verOf σ2)) (L' := L1) (u := 0) (v := 1) (fun n hn => hlen2 n (List.all_eq_true.1 hown1 n hn))
          exact Eq.mp (congrArg (AVleL (erL L2 (viewL hs1 g.res vs))) e) this
        have hobj : ∀ n b0, look n (g.posts y b) = some b0 → ∃ ob, look n hs1 = some ob ∧ (ob.er L2 = b0.er L1 ∨ ∃ cs ds, ob.er L2 = .box cs ∧ b0.er L1 = .box ds ∧ AVleL cs ds) := fun n b0 hb0 => by
          cases hp0 : look n (OL.put 1 post b) with
          | some b1 =>
            rw [hpost n b1 hp0] at hb0; cases hb0
            obtain ⟨p, z, hp1, hp2, hp3, hp4⟩ := look_OL hp0
            subst hp3
            obtain ⟨ob, hob, hle⟩ := g2 _ _ L2 hf2 n _ (hp4 0)
            refine ⟨ob, hob, ?_⟩
            have hv := OSh.put_ver (s := p.2) (x := z) (L := lensOf L2 (fun n => n) (verOf σ2)) (L' := L1) (u := 0) (v := 1) (fun m hm => hlen2 m (List.all_eq_true.1 hown2 m (List.mem_flatMap.2 ⟨p, hp1, hm⟩)))
            rw [← hv]
            rcases hle with ⟨cs, ds, rfl, h2, h3⟩ | ⟨t', l', rfl, h2⟩ | ⟨es, rfl, h2⟩
            · rw [renL_id] at h3
              exact .inr ⟨_, _, rfl, by rw [h2]; rfl, h3⟩
            · exact .inl (by rw [h2]; rfl)
            · exact .inl (by rw [h2]; rfl)
          | none =>
            change look n (OL.put 1 post b ++ (OL.put 0 pre y).filter (fun p => keep.contains p.1)) = _ at hb0
            rw [look_append, hp0] at hb0
            simp only [look_filter (f := fun n => keep.contains n)] at hb0
            split at hb0
            · rename_i hc
              have hc' : n ∈ keep := by simpa using hc
              rcases hkept n b0 hc' hb0 with ⟨t, z, v, rfl, hz⟩ | ⟨t, z, cs, rfl, hz, hle⟩
              · exact ⟨_, hz, .inl rfl⟩
              · refine ⟨_, hz, .inr ⟨_, _, rfl, rfl, ?_⟩⟩
                rw [show erL L1 (tb t z) = erL L2 (tb t z) from by rw [erL_isP (tb_isP t z), erL_isP (tb_isP t z)]]
                exact hle L2
            · simp at hb0
        refine ⟨BS L2 ts1 hs1, fun ρ M a w hs0 => by obtain ⟨ρ', M', h0⟩ := hw0 ρ M a w hs0; exact hw1 ρ' M' a w h0, he, (resB vs).er L2, erH L2 (hpOf (fun n => n) hs1 (keys (g.posts y b))), res_of hvs, fun n o hn' => ?_, fun n hn' => ?_, fun ρ H M w u hr => resB_le hle1 ρ H M w u (resB_le (viewL_le hi1) ρ H M w u hr), fun n o' hn' => ?_, fun n o hn' => ?_⟩
        · rw [look_erH] at hn'
          cases hl : look n (hpOf (fun n => n) hs1 (keys (g.posts y b))) with
          | none => rw [hl] at hn'; simp at hn'
          | some ob => rw [hl] at hn'; rw [BS_heap, hpOf_mem (look_mem hl)]; exact hn'
        · rw [keys_erH, keys_put] at hn'
          have hkey : ∃ b0, look n (g.posts y b) = some b0 := by
            cases hp0 : look n (OL.put 1 post b) with
            | some b1 => exact ⟨b1, hpost n b1 hp0⟩
            | none =>
              have := List.all_eq_true.1 hall n hn'
              simp only [Bool.or_eq_true] at this
              rcases this with h1 | h1
              · obtain ⟨b1, hb1⟩ := look_put (u := 1) (y := b) (isIn_iff.1 h1)
                change look n (OL.put 1 post b) = _ at hb1
                rw [hb1] at hp0; simp at hp0
              · obtain ⟨b1, hb1⟩ := look_put (u := 0) (y := y) hn'
                exact ⟨b1, hpre n b1 hp0 (isIn_iff.1 h1) hb1⟩
          obtain ⟨b0, hb0⟩ := hkey
          obtain ⟨ob, hob, _⟩ := hobj n b0 hb0
          rw [look_erH, hpOf_look (rr := fun n => n) (fun _ _ h => h) hob (keys_of_look (by rw [hb0]; simp))]; simp
        · rw [look_erH] at hn'
          cases hb0 : look n (g.posts y b) with
          | none => rw [hb0] at hn'; simp at hn'
          | some b0 =>
            rw [hb0] at hn'
            simp only [Option.map_some, Option.some.injEq] at hn'
            obtain ⟨ob, hob, hle⟩ := hobj n b0 hb0
            refine ⟨ob.er L2, by rw [look_erH, hpOf_look (rr := fun n => n) (fun _ _ h => h) hob (keys_of_look (by rw [hb0]; simp))]; rfl, ?_⟩
            rw [← hn']; exact hle
        · rw [look_erH] at hn'
          cases hl : look n (hpOf (fun n => n) hs1 (keys (g.posts y b))) with
          | none => rw [hl] at hn'; simp at hn'
          | some ob =>
            obtain ⟨m, hm, rfl⟩ := hpOf_key (look_mem hl)
            obtain ⟨b0, hb0⟩ := look_keys hm
            exact ⟨_, by rw [look_erH, hb0]; rfl⟩
      intro G ρ M w us hG hM hargs hobjs hinj
      exact (hspec G ρ M w us hG hM hargs hobjs hinj).mono fun e w' ⟨u, v, h', ρ', e1, ⟨c1, c2, c3⟩, ha⟩ => ⟨u, _, _, ρ', e1, ⟨rfl, rfl⟩, ha.le c1 c2 c3⟩
end
def fitC : List Sh → List BV → Bool
  | .own _ :: r, v :: vs => (match v with | .own _ _ => true | _ => false) && fitC r vs
  | _ :: r, _ :: vs => fitC r vs
  | _, _ => true
def fitB : List SSh → List BV → Bool
  | .one (.own _) :: r, v :: vs => (match v with | .own _ _ => true | _ => false) && fitB r vs
  | .one (.clo f _) :: r, v :: vs => (match v with | .clo (.func k) _ => Nat.beq k f | _ => false) && fitB r vs
  | .one (.fv f) :: r, v :: vs => (match v with | .v (.func (.func k) _ _) => Nat.beq k f | _ => false) && fitB r vs
  | .agg l :: r, v :: vs => (match v with | .agg cs => fitC l cs | _ => false) && fitB r vs
  | _ :: r, _ :: vs => fitB r vs
  | _, _ => true
def fitD : Nat → Option Nat → Bool
  | 0, _ => true
  | n + 1, some d => Nat.beq n d
  | _, none => false
def lookE (d : Option Nat) (k : Nat) (vs : List BV) : List (Nat × Nat × Sig) → Option Sig
  | [] => none
  | (j, q, g) :: r => if Nat.beq j k && fitD q d && fitB g.args vs then some g else lookE d k vs r
def envL (l : List (Nat × Nat × Sig)) : Env := fun d k vs => lookE d k vs l
def EnvAll (P : Program) : List (Nat × Nat × Sig) → Prop
  | [] => True
  | p :: r => FnOK P p.1 p.2.2 ∧ EnvAll P r
theorem envL_ok {P : Program} : ∀ {l : List (Nat × Nat × Sig)}, EnvAll P l → EnvOK P (envL l)
  | [], _, d, k, vs, g, h => by simp [envL, lookE] at h
  | (j, q, g0) :: r, hl, d, k, vs, g, h => by
    simp only [envL, lookE] at h
    split at h
    · rename_i e
      simp only [Bool.and_eq_true] at e
      rw [← Nat.eq_of_beq_eq_true e.1.1]; cases h; exact hl.1
    · exact envL_ok hl.2 d k vs g h
end Go.Proofs.YtfhcigjkfelnfaaGreat.AM
/-
  How what is reckoned of code is evaluated: plain laws of its words. No project text.
-/
set_option linter.unusedVariables false
set_option linter.unusedSimpArgs false
namespace Go.Proofs.YtfhcigjkfelnfaaGreat.AM
open Go
section
variable {R α : Type} {r : R}
theorem cnd_p {p : Prop} [Decidable p] {x y : Option R} (h : p) : cnd (decide p) x y = x := by simp only [h, decide_true, cnd]
theorem cnd_n {p : Prop} [Decidable p] {x y : Option R} (h : ¬ p) : cnd (decide p) x y = y := by simp only [h, decide_false, cnd]
theorem natc_p {j : Int} {k : Nat → Option R} (h : 0 ≤ j) : natc j k = k j.toNat := by unfold natc; rw [if_pos h]
theorem natc_n (i : Nat) {k : Nat → Option R} : natc (i : Int) k = k i := by unfold natc; rw [if_pos (Int.natCast_nonneg i)]; rfl
theorem optc_s {x : α} {k : α → Option R} : optc (some x) k = k x := rfl
theorem atc_p [Inhabited α] {l : List α} {j : Int} {k : α → Option R} (h : 0 ≤ j) (h' : j < (l.length : Int)) : atc l j k = k (nth l j.toNat) := by
  unfold atc; rw [natc_p h]
  have : j.toNat < l.length := by omega
  rw [List.getElem?_eq_getElem this]
  simp [optc, nth, List.getD_eq_getElem?_getD, List.getElem?_eq_getElem this]
theorem atc_n [Inhabited α] {l : List α} {i : Nat} {k : α → Option R} (h' : i < l.length) : atc l (i : Int) k = k (nth l i) := by
  rw [atc_p (Int.natCast_nonneg i) (by omega)]; rfl
theorem opt_nth [Inhabited α] {l : List α} {i : Nat} {k : α → Option R} (h' : i < l.length) : optc l[i]? k = k (nth l i) := by
  rw [List.getElem?_eq_getElem h']
  simp [optc, nth, List.getD_eq_getElem?_getD, List.getElem?_eq_getElem h']
theorem chk_p {a b : Nat} {x : Option R} (h : a = b) : chk a b x = x := by unfold chk; rw [if_pos h]
theorem ltc_p {a b : Nat} {x : Option R} (h : a < b) : ltc a b x = x := by unfold ltc; rw [if_pos h]
theorem lec_p {a b : Nat} {x : Option R} (h : a ≤ b) : lec a b x = x := by unfold lec; rw [if_pos h]
theorem nzc_p {b : Int} {x : Option R} (h : b ≠ 0) : nzc b x = x := by unfold nzc; rw [if_neg h]
theorem sameC_p {a : α} [DecidableEq α] {x : Option R} : sameC a a x = x := by unfold sameC; rw [if_pos rfl]
theorem wrap_p {x : Int} (h : -9223372036854775808 ≤ x) (h' : x ≤ 9223372036854775807) : IntKind.i64.wrap x = x := by rw [IntKind.wrap_i64]; omega
theorem iterF_inv {X : Type} {B : (X → Option R) → X → Option R} {Q : Option R → Prop} (I : Nat → X → Prop) (hB : ∀ m x, I m x → ∀ k : X → Option R, (∀ m' x', m' < m → I m' x' → Q (k x')) → Q (B k x)) :
    ∀ (m : Nat) (x : X) {fu : Nat}, m < fu → I m x → Q (iterF B fu x) := by
  intro m
  induction m using Nat.strongRecOn with
  | _ m ih =>
    intro x fu hf hI
    obtain ⟨f, rfl⟩ : ∃ f, fu = f + 1 := ⟨fu - 1, by omega⟩
    show Q (B (iterF B f) x)
    exact hB m x hI _ fun m' x' hm hI' => ih m' hm x' (by omega) hI'
def Ok (o : Option R) (Q : R → Prop) : Prop := ∃ x, o = some x ∧ Q x
variable {Q Q' : R → Prop}
theorem Ok.s {x : R} (h : Q x) : Ok (some x) Q := ⟨x, rfl, h⟩
theorem Ok.mono {o : Option R} (h : Ok o Q) (hq : ∀ x, Q x → Q' x) : Ok o Q' := by obtain ⟨x, h1, h2⟩ := h; exact ⟨x, h1, hq x h2⟩
theorem Ok.cnd {b : Bool} {x y : Option R} (h1 : b = true → Ok x Q) (h2 : b = false → Ok y Q) : Ok (AM.cnd b x y) Q := by
  cases b
  · exact h2 rfl
  · exact h1 rfl
theorem Ok.ite {p : Prop} [Decidable p] {x y : Option R} (h1 : p → Ok x Q) (h2 : ¬ p → Ok y Q) : Ok (AM.cnd (decide p) x y) Q :=
  Ok.cnd (fun h => h1 (of_decide_eq_true h)) (fun h => h2 (of_decide_eq_false h))
theorem Ok.opt {o : Option α} {P : α → Prop} {k : α → Option R} (h : Ok o P) (hk : ∀ x, P x → Ok (k x) Q) : Ok (optc o k) Q := by
  obtain ⟨x, rfl, h2⟩ := h; exact hk x h2
theorem Ok.at [Inhabited α] {l : List α} {j : Int} {k : α → Option R} (h : 0 ≤ j) (h' : j < (l.length : Int)) (hk : Ok (k (nth l j.toNat)) Q) : Ok (atc l j k) Q := by rw [atc_p h h']; exact hk
theorem Ok.lec {a b : Nat} {x : Option R} (h : a ≤ b) (hx : Ok x Q) : Ok (AM.lec a b x) Q := by rw [lec_p h]; exact hx
theorem Ok.nzc {b : Int} {x : Option R} (h : b ≠ 0) (hx : Ok x Q) : Ok (AM.nzc b x) Q := by rw [nzc_p h]; exact hx
theorem Ok.sameC {a : α} [DecidableEq α] {x : Option R} (hx : Ok x Q) : Ok (AM.sameC a a x) Q := by rw [sameC_p]; exact hx
theorem Ok.join {Y : Type} {k : Y → Option R} {f : (Y → Option R) → Option R} (J : Y → Prop) (h1 : ∀ y, J y → Ok (k y) Q) (h2 : ∀ k : Y → Option R, (∀ y, J y → Ok (k y) Q) → Ok (f k) Q) : Ok (AM.join k f) Q := h2 k h1
theorem Ok.loop {X : Type} {B : (X → Option R) → X → Option R} (I : Nat → X → Prop) {m : Nat} {x : X} {fu : Nat} (hm : m < fu) (h0 : I m x) (hB : ∀ m x, I m x → ∀ k : X → Option R, (∀ m' x', m' < m → I m' x' → Ok (k x') Q) → Ok (B k x) Q) : Ok (iterF B fu x) Q :=
  iterF_inv (Q := fun o => Ok o Q) I hB m x hm h0
theorem Ok.eq {o : Option R} {v : R} (h : Ok o (· = v)) : o = some v := by obtain ⟨x, rfl, rfl⟩ := h; rfl
end
end Go.Proofs.YtfhcigjkfelnfaaGreat.AM
/-
  How what is reckoned of code is evaluated, step by step, where its conditions are known. No project text.
-/
set_option linter.unusedVariables false
set_option linter.unusedSimpArgs false
namespace Go.Proofs.YtfhcigjkfelnfaaGreat.AM
open Go
section
variable {R α : Type} {Q : R → Prop}
theorem Ok.p {p : Prop} [Decidable p] {x y : Option R} (h : p) (hx : Ok x Q) : Ok (AM.cnd (decide p) x y) Q := by rw [cnd_p h]; exact hx
theorem Ok.n {p : Prop} [Decidable p] {x y : Option R} (h : ¬ p) (hx : Ok y Q) : Ok (AM.cnd (decide p) x y) Q := by rw [cnd_n h]; exact hx
theorem Ok.np {p : Prop} [Decidable p] {x y : Option R} (h : p) (hx : Ok y Q) : Ok (AM.cnd (!decide p) x y) Q := by simp only [h, decide_true, Bool.not_true]; exact hx
theorem Ok.nn {p : Prop} [Decidable p] {x y : Option R} (h : ¬ p) (hx : Ok x Q) : Ok (AM.cnd (!decide p) x y) Q := by simp only [h, decide_false, Bool.not_false]; exact hx
theorem Ok.t {x y : Option R} (hx : Ok x Q) : Ok (AM.cnd true x y) Q := hx
theorem Ok.f {x y : Option R} (hx : Ok y Q) : Ok (AM.cnd false x y) Q := hx
theorem Ok.bt {b : Bool} {x y : Option R} (h : b = true) (hx : Ok x Q) : Ok (AM.cnd b x y) Q := by rw [h]; exact hx
theorem Ok.bf {b : Bool} {x y : Option R} (h : b = false) (hx : Ok y Q) : Ok (AM.cnd b x y) Q := by rw [h]; exact hx
theorem Ok.nt {b : Bool} {x y : Option R} (h : b = true) (hx : Ok y Q) : Ok (AM.cnd (!b) x y) Q := by rw [h]; exact hx
theorem Ok.nf {b : Bool} {x y : Option R} (h : b = false) (hx : Ok x Q) : Ok (AM.cnd (!b) x y) Q := by rw [h]; exact hx
theorem Ok.ncnd {b : Bool} {x y : Option R} (h1 : b = false → Ok x Q) (h2 : b = true → Ok y Q) : Ok (AM.cnd (!b) x y) Q := by
  cases b
  · exact h1 rfl
  · exact h2 rfl
theorem Ok.j {Y : Type} {k : Y → Option R} {f : (Y → Option R) → Option R} (h : Ok (f k) Q) : Ok (AM.join k f) Q := h
theorem Ok.oe {o : Option α} {v : α} {k : α → Option R} (h : o = some v) (hk : Ok (k v) Q) : Ok (optc o k) Q := by rw [h]; exact hk
theorem Ok.os {v : α} {k : α → Option R} (hk : Ok (k v) Q) : Ok (optc (some v) k) Q := hk
theorem Ok.ck {a b : Nat} {x : Option R} (h : a = b) (hx : Ok x Q) : Ok (AM.chk a b x) Q := by rw [chk_p h]; exact hx
theorem Ok.lt {a b : Nat} {x : Option R} (h : a < b) (hx : Ok x Q) : Ok (AM.ltc a b x) Q := by rw [ltc_p h]; exact hx
theorem Ok.nat {j : Int} {k : Nat → Option R} (h : 0 ≤ j) (hk : Ok (k j.toNat) Q) : Ok (AM.natc j k) Q := by rw [natc_p h]; exact hk
theorem Ok.natn {i : Nat} {k : Nat → Option R} (hk : Ok (k i) Q) : Ok (AM.natc (i : Int) k) Q := by rw [natc_n]; exact hk
theorem Ok.get [Inhabited α] {l : List α} {i : Nat} {k : α → Option R} (h : i < l.length) (hk : Ok (k (nth l i)) Q) : Ok (optc (GetElem?.getElem? l i) k) Q := by rw [opt_nth h]; exact hk
theorem Ok.atn [Inhabited α] {l : List α} {i : Nat} {k : α → Option R} (h : i < l.length) (hk : Ok (k (nth l i)) Q) : Ok (atc l (i : Int) k) Q := by rw [atc_n h]; exact hk
theorem clone_is [DecidableEq α] {l : List α} (h : l.length ≤ 34359738368) : nilC l (AM.both (some []) (AM.lec l.length 34359738368 (some l))) (AM.lec l.length 34359738368 (some l)) = some l := by
  rw [lec_p h]
  cases l with
  | nil => unfold AM.both; rfl
  | cons a l => rfl
theorem wrap_id {x : Int} (h : -9223372036854775808 ≤ x ∧ x ≤ 9223372036854775807) : IntKind.wrap .i64 x = x := wrap_p h.1 h.2
theorem Ok.run {X : Type} {B : (X → Option R) → X → Option R} (n : Nat) (st : Nat → X) {fu : Nat} {x : X} (hx : x = st 0) (hf : n < fu) (hs : ∀ i, i < n → ∀ k, (Ok (k (st (i + 1))) Q → Ok (B k (st i)) Q)) (h : ∀ k, Ok (B k (st n)) Q) : Ok (iterF B fu x) Q := by
  subst hx
  revert st fu
  induction n with
  | zero =>
    intro st fu hf _ h
    obtain ⟨f, rfl⟩ : ∃ f, fu = f + 1 := ⟨fu - 1, by omega⟩
    exact h _
  | succ n ih =>
    intro st fu hf hs h
    obtain ⟨f, rfl⟩ : ∃ f, fu = f + 1 := ⟨fu - 1, by omega⟩
    show Ok (B (iterF B f) (st 0)) Q
    exact hs 0 (by omega) _ (ih (fun i => st (i + 1)) (by omega) (fun i hi k => hs (i + 1) (by omega) k) h)
theorem Ok.scan {X : Type} {B : (X → Option R) → X → Option R} (n : Nat) (st : Nat → X) (q : Nat → Bool) {fu : Nat} {x : X} (hx : x = st 0) (hf : n < fu) (hy : ∀ i, i < n → q i = true → (∀ j, j < i → q j = false) → ∀ k, Ok (B k (st i)) Q)
    (hn : ∀ i, i < n → q i = false → ∀ k, (Ok (k (st (i + 1))) Q → Ok (B k (st i)) Q)) (he : (∀ j, j < n → q j = false) → ∀ k, Ok (B k (st n)) Q) : Ok (iterF B fu x) Q := by
  refine Ok.loop (fun m x => ∃ i, i ≤ n ∧ m = n - i ∧ x = st i ∧ ∀ j, j < i → q j = false) (m := n) hf ⟨0, by omega, rfl, hx, fun j hj => by omega⟩ ?_
  rintro m x ⟨i, h1, h2, rfl, h3⟩ k hk
  by_cases h : i < n
  · cases hq : q i with
    | true => exact hy i h hq h3 k
    | false => exact hn i h hq k (hk (n - (i + 1)) _ (by omega) ⟨i + 1, by omega, rfl, rfl, fun j hj => by
        by_cases e : j = i
        · subst e; exact hq
        · exact h3 j (by omega)⟩)
  · obtain rfl : i = n := by omega
    exact he h3 k
theorem any_yes {l : List α} [Inhabited α] {p : α → Bool} {i : Nat} (hi : i < l.length) (h : p (nth l i) = true) : l.any p = true := List.any_eq_true.2 ⟨_, nth_mem hi, h⟩
theorem any_no {l : List α} [Inhabited α] {p : α → Bool} (h : ∀ j, j < l.length → p (nth l j) = false) : l.any p = false := by
  rw [List.any_eq_false]
  intro x hx
  obtain ⟨j, hj, rfl⟩ := List.getElem_of_mem hx
  have := h j hj
  simp only [nth, List.getD_eq_getElem?_getD, List.getElem?_eq_getElem hj, Option.getD_some] at this
  simp [this]
theorem cnd2 {p q : Prop} [Decidable p] [Decidable q] : AM.cnd (decide p) (AM.cnd (decide q) (some true) (some false)) (some false) = some (decide (p ∧ q)) := by
  by_cases hp : p <;> by_cases hq : q <;> simp [AM.cnd, hp, hq]
end
end Go.Proofs.YtfhcigjkfelnfaaGreat.AM
/-
  Sets of numbers as ascending lists, in plain Lean: With, sorting, leaving out what comes twice.
-/
set_option linter.unusedSimpArgs false
set_option linter.unusedVariables false
namespace Go.Proofs.YtfhcigjkfelnfaaGreat
open Go AM
def Asc (l : List Int) : Prop := l.Pairwise (· < ·)
theorem asc_ext : ∀ {a b : List Int}, Asc a → Asc b → (∀ x, x ∈ a ↔ x ∈ b) → a = b
  | [], [], _, _, _ => rfl
  | [], y :: b, _, _, h => by have := (h y).2 (List.mem_cons_self ..); simp at this
  | x :: a, [], _, _, h => by have := (h x).1 (List.mem_cons_self ..); simp at this
  | x :: a, y :: b, ha, hb, h => by
    have ha' := List.pairwise_cons.1 ha
    have hb' := List.pairwise_cons.1 hb
    have e : x = y := by
      rcases List.mem_cons.1 ((h x).1 (List.mem_cons_self ..)) with e | hx
      · exact e
      · rcases List.mem_cons.1 ((h y).2 (List.mem_cons_self ..)) with e | hy
        · exact e.symm
        · have h1 := hb'.1 x hx
          have h2 := ha'.1 y hy
          omega
    subst e
    congr 1
    refine asc_ext ha'.2 hb'.2 fun z => ⟨fun hz => ?_, fun hz => ?_⟩
    · have h1 := ha'.1 z hz
      rcases List.mem_cons.1 ((h z).1 (List.mem_cons_of_mem _ hz)) with e | h2
      · omega
      · exact h2
    · have h1 := hb'.1 z hz
      rcases List.mem_cons.1 ((h z).2 (List.mem_cons_of_mem _ hz)) with e | h2
      · omega
      · exact h2
def withI (l : List Int) (x : Int) : Nat → List Int × Bool
  | 0 => ([], false)
  | i + 1 => ((withI l x i).1 ++ (if (withI l x i).2 = false ∧ x ≤ nth l i then [x] else []) ++ (if nth l i ≠ x then [nth l i] else []), (withI l x i).2 || decide (x ≤ nth l i))
def withV (l : List Int) (x : Int) : List Int := if (withI l x l.length).2 = true then (withI l x l.length).1 else (withI l x l.length).1 ++ [x]
theorem asc_nth {l : List Int} (h : Asc l) {i j : Nat} (hij : i < j) (hj : j < l.length) : nth l i < nth l j := by
  have := List.pairwise_iff_getElem.1 h i j (by omega) hj hij
  simpa [nth, List.getD_eq_getElem?_getD, List.getElem?_eq_getElem hj, List.getElem?_eq_getElem (show i < l.length by omega)] using this
theorem mem_take_succ {l : List Int} {i : Nat} (h : i < l.length) (z : Int) : z ∈ l.take (i + 1) ↔ z ∈ l.take i ∨ z = nth l i := by
  rw [List.take_succ_eq_append_getElem h, List.mem_append, List.mem_singleton]
  simp [nth, List.getD_eq_getElem?_getD, List.getElem?_eq_getElem h]
theorem withI_is {l : List Int} {x : Int} (h : Asc l) : ∀ i, i ≤ l.length → Asc (withI l x i).1 ∧ (∀ z, z ∈ (withI l x i).1 ↔ z ∈ l.take i ∧ z ≠ x ∨ (withI l x i).2 = true ∧ z = x) ∧
    ((withI l x i).2 = false → ∀ z ∈ l.take i, z < x) ∧ ((withI l x i).2 = true → ∀ j, i ≤ j → j < l.length → x < nth l j)
  | 0, _ => by simp [withI, Asc]
  | i + 1, hi => by
    obtain ⟨h1, h2, h3, h4⟩ := withI_is h i (by omega)
    have hlt : ∀ z ∈ l.take i, z < nth l i := fun z hz => by
      obtain ⟨j, hj, rfl⟩ := List.getElem_of_mem hz
      rw [List.length_take] at hj
      have := asc_nth h (show j < i by omega) (show i < l.length by omega)
      simpa [nth, List.getD_eq_getElem?_getD, List.getElem?_eq_getElem (show j < l.length by omega)] using this
    simp only [withI]
    cases hd : (withI l x i).2 with
    | true =>
      have hx := h4 hd i (Nat.le_refl _) (by omega)
      rw [if_neg (by simp), if_pos (by omega), List.append_nil]
      refine ⟨?_, fun z => ?_, by simp, fun _ j hj hl => h4 hd j (by omega) hl⟩
      · refine List.pairwise_append.2 ⟨h1, List.pairwise_singleton _ _, fun a ha b hb => ?_⟩
        rw [List.mem_singleton.1 hb]
        rcases (h2 a).1 ha with ⟨g, _⟩ | ⟨_, rfl⟩
        · exact hlt a g
        · exact hx
      · rw [List.mem_append, h2, mem_take_succ (by omega), List.mem_singleton, hd]
        simp only [Bool.true_or, true_and]
        constructor
        · rintro ((⟨g, g'⟩ | g) | g)
          · exact .inl ⟨.inl g, g'⟩
          · exact .inr g
          · exact .inl ⟨.inr g, by omega⟩
        · rintro (⟨g | g, g'⟩ | g)
          · exact .inl (.inl ⟨g, g'⟩)
          · exact .inr g
          · exact .inl (.inr g)
    | false =>
      have hb := h3 hd
      by_cases hx : x ≤ nth l i
      · rw [if_pos ⟨rfl, hx⟩]
        have e : (false || decide (x ≤ nth l i)) = true := by simp [hx]
        rw [e]
        have hm : ∀ z, z ∈ (withI l x i).1 ↔ z ∈ l.take i := fun z => by
          rw [h2, hd]
          refine ⟨fun g => ?_, fun g => .inl ⟨g, by have := hb z g; omega⟩⟩
          rcases g with ⟨g, _⟩ | ⟨g, _⟩
          · exact g
          · simp at g
        refine ⟨?_, fun z => ?_, by simp, fun _ j hj hl => ?_⟩
        · refine List.pairwise_append.2 ⟨List.pairwise_append.2 ⟨h1, List.pairwise_singleton _ _, fun a ha b hb' => ?_⟩, ?_, fun a ha b hb' => ?_⟩
          · rw [List.mem_singleton.1 hb']; exact hb a ((hm a).1 ha)
          · split <;> simp
          · split at hb'
            · rename_i hne
              rw [List.mem_singleton.1 hb']
              rcases List.mem_append.1 ha with ha | ha
              · exact hlt a ((hm a).1 ha)
              · rw [List.mem_singleton.1 ha]; omega
            · simp at hb'
        · rw [List.mem_append, List.mem_append, hm, mem_take_succ (by omega), List.mem_singleton]
          by_cases hne : nth l i ≠ x
          · rw [if_pos hne, List.mem_singleton]
            constructor
            · rintro ((g | g) | g)
              · exact .inl ⟨.inl g, by have := hb z g; omega⟩
              · exact .inr ⟨rfl, g⟩
              · exact .inl ⟨.inr g, by omega⟩
            · rintro (⟨g | g, _⟩ | ⟨_, g⟩)
              · exact .inl (.inl g)
              · exact .inr g
              · exact .inl (.inr g)
          · rw [if_neg hne]
            simp only [List.not_mem_nil, or_false]
            constructor
            · rintro (g | g)
              · exact .inl ⟨.inl g, by have := hb z g; omega⟩
              · exact .inr ⟨trivial, g⟩
            · rintro (⟨g | g, g'⟩ | ⟨_, g⟩)
              · exact .inl g
              · omega
              · exact .inr g
        · have := asc_nth h (show i < j by omega) hl
          omega
      · rw [if_neg (by simp [hx]), if_pos (by omega), List.append_nil]
        have e : (false || decide (x ≤ nth l i)) = false := by simp [hx]
        rw [e]
        refine ⟨?_, fun z => ?_, fun _ z hz => ?_, by simp⟩
        · refine List.pairwise_append.2 ⟨h1, List.pairwise_singleton _ _, fun a ha b hb' => ?_⟩
          rw [List.mem_singleton.1 hb']
          rcases (h2 a).1 ha with ⟨g, _⟩ | ⟨g, _⟩
          · exact hlt a g
          · rw [hd] at g; simp at g
        · rw [List.mem_append, h2, mem_take_succ (by omega), List.mem_singleton, hd]
          simp only [Bool.false_eq_true, false_and, or_false]
          constructor
          · rintro (⟨g, g'⟩ | g)
            · exact ⟨.inl g, g'⟩
            · exact ⟨.inr g, by omega⟩
          · rintro ⟨g | g, g'⟩
            · exact .inl ⟨g, g'⟩
            · exact .inr g
        · rcases (mem_take_succ (show i < l.length by omega) z).1 hz with g | g
          · exact hb z g
          · omega
theorem withV_is {l : List Int} {x : Int} (h : Asc l) : Asc (withV l x) ∧ ∀ z, z ∈ withV l x ↔ z ∈ l ∨ z = x := by
  obtain ⟨h1, h2, h3, h4⟩ := withI_is (x := x) h l.length (Nat.le_refl _)
  rw [List.take_length] at h2 h3
  unfold withV
  split
  · rename_i hd
    refine ⟨h1, fun z => ?_⟩
    rw [h2, hd]
    simp only [true_and]
    by_cases hz : z = x
    · simp [hz]
    · simp [hz]
  · rename_i hd
    have hd : (withI l x l.length).2 = false := by cases hb : (withI l x l.length).2 <;> simp_all
    have hm : ∀ z, z ∈ (withI l x l.length).1 ↔ z ∈ l := fun z => by
      rw [h2, hd]
      refine ⟨fun g => ?_, fun g => .inl ⟨g, by have := h3 hd z g; omega⟩⟩
      rcases g with ⟨g, _⟩ | ⟨g, _⟩
      · exact g
      · simp at g
    refine ⟨List.pairwise_append.2 ⟨h1, List.pairwise_singleton _ _, fun a ha b hb => ?_⟩, fun z => ?_⟩
    · rw [List.mem_singleton.1 hb]; exact h3 hd a ((hm a).1 ha)
    · rw [List.mem_append, hm, List.mem_singleton]
def SortedTo (l : List Int) (n : Nat) : Prop := ∀ a b, a < b → b < n → nth l a ≤ nth l b
theorem asc_of {l : List Int} (h : SortedTo l l.length) (hd : ∀ k, 1 ≤ k → k < l.length → nth l (k - 1) ≠ nth l k) : Asc l := by
  refine List.pairwise_iff_getElem.2 fun i j hi hj hij => ?_
  have e : ∀ k (hk : k < l.length), l[k] = nth l k := fun k hk => by simp [nth, List.getD_eq_getElem?_getD, List.getElem?_eq_getElem hk]
  rw [e i hi, e j hj]
  have h1 := hd j (by omega) hj
  have h2 := h (j - 1) j (by omega) hj
  rcases Nat.eq_or_lt_of_le (show i ≤ j - 1 by omega) with g | g
  · rw [g]; omega
  · have := h i (j - 1) g (by omega); omega
end Go.Proofs.YtfhcigjkfelnfaaGreat
/-
  Crews (one zone without rules, schedules of one layer without windows and calendar): who is on call, in plain Lean.
-/
set_option maxRecDepth 100000
set_option linter.unusedSimpArgs false
set_option linter.unusedVariables false
namespace Go.Proofs.YtfhcigjkfelnfaaGreat
open Go AM
structure EditOK (x : D.Edit) : Prop where
  kind : 0 ≤ x.Kind ∧ x.Kind ≤ 2
  a : (0 ≤ x.A ∧ x.A < 4) ∨ (x.Kind = 1 ∧ x.A = -1)
  b : x.Kind = 2 → 0 ≤ x.B ∧ x.B < 4 ∧ x.A ≠ x.B
  b0 : x.Kind ≠ 2 → x.B = 0
  time : 864000 ≤ x.From ∧ x.From < x.To ∧ x.To < 950400
structure LayerOK (l : D.Layer) : Prop where
  name : l.Name = ByteArray.mk #[108]
  zone : l.Zone = 0
  day : l.Start.Day = 1 ∨ l.Start.Day = 9 ∨ l.Start.Day = 10
  second : 0 ≤ l.Start.Second ∧ l.Start.Second ≤ 43200
  unit : l.Unit = 0 ∨ l.Unit = 1
  every : 1 ≤ l.Every ∧ l.Every ≤ 3
  len : 1 ≤ l.Members.length ∧ l.Members.length ≤ 3
  mem : ∀ x ∈ l.Members, 0 ≤ x ∧ x < 4
  win : l.Windows = []
  cal : l.Calendar = 0 ∧ l.Mode = 0
structure PersonOK (p : D.Person) : Prop where
  zone : p.Zone = 0
  max : p.MaxWeek = 0 ∧ p.MinRest = 0
  quiet : p.Quiet = [] ∨ ∃ a b, p.Quiet = [⟨a, b⟩] ∧ (a = 0 ∨ a = 3600) ∧ (b = 7200 ∨ b = 86400 ∨ b = 604800)
structure SchedOK (n : Nat) (s : D.Schedule) : Prop where
  layers : ∃ l, s.Layers = [l] ∧ LayerOK l
  len : s.Edits.length ≤ n
  edit : ∀ x ∈ s.Edits, EditOK x
def bZ : ByteArray := ByteArray.mk #[122]
def crewNames : List ByteArray := [ByteArray.mk #[97, 110, 110], ByteArray.mk #[98, 111, 98], ByteArray.mk #[99, 97, 116], ByteArray.mk #[100, 97, 110]]
def schNames : List ByteArray := [ByteArray.mk #[102, 105, 114, 115, 116], ByteArray.mk #[115, 101, 99, 111, 110, 100]]
structure CfgOK (n : Nat) (c : D.Config) : Prop where
  zone : ∃ off, c.Zones = [⟨bZ, off, []⟩] ∧ (off = 0 ∨ off = 3600 ∨ off = -7200)
  pname : c.People.map (·.Name) = crewNames
  person : ∀ p ∈ c.People, PersonOK p
  cal : c.Calendars = []
  sname : c.Schedules.map (·.Name) = schNames
  sched : ∀ s ∈ c.Schedules, SchedOK n s
theorem CfgOK.plen {n : Nat} {c : D.Config} (h : CfgOK n c) : c.People.length = 4 := by
  have := congrArg List.length h.pname; simpa [crewNames] using this
theorem CfgOK.slen {n : Nat} {c : D.Config} (h : CfgOK n c) : c.Schedules.length = 2 := by
  have := congrArg List.length h.sname; simpa [schNames] using this
theorem CfgOK.mono {n m : Nat} {c : D.Config} (h : CfgOK n c) (hm : n ≤ m) : CfgOK m c :=
  ⟨h.zone, h.pname, h.person, h.cal, h.sname, fun s hs => ⟨(h.sched s hs).layers, Nat.le_trans (h.sched s hs).len hm, (h.sched s hs).edit⟩⟩
def offOf (c : D.Config) : Int := (nth c.Zones 0).Offset
theorem CfgOK.zones {n : Nat} {c : D.Config} (h : CfgOK n c) : c.Zones = [⟨bZ, offOf c, []⟩] ∧ (offOf c = 0 ∨ offOf c = 3600 ∨ offOf c = -7200) := by
  obtain ⟨off, h1, h2⟩ := h.zone
  have : offOf c = off := by unfold offOf; rw [h1]; rfl
  rw [this]; exact ⟨h1, h2⟩
def unitS (l : D.Layer) : Int := if l.Unit = 0 then 3600 else 86400
def spanS (l : D.Layer) : Int := unitS l * l.Every
def firstS (off : Int) (l : D.Layer) : Int := l.Start.Day * 86400 + l.Start.Second - off
def handS (off : Int) (l : D.Layer) (k : Int) : Int := firstS off l + spanS l * k
def shiftV (off : Int) (l : D.Layer) (t : Int) : Int := if t < firstS off l then -1 else (t - firstS off l) / spanS l
theorem spanS_in {l : D.Layer} (h : LayerOK l) : 3600 ≤ spanS l ∧ spanS l ≤ 259200 := by
  have h2 := h.every
  have h1 := h.unit
  unfold spanS unitS
  split <;> omega
theorem firstS_in {off : Int} {l : D.Layer} (h : LayerOK l) (ho : off = 0 ∨ off = 3600 ∨ off = -7200) : 0 < firstS off l ∧ firstS off l ≤ 1000000 := by
  have h1 := h.day
  have h2 := h.second
  unfold firstS; omega
theorem shift_is {off : Int} {l : D.Layer} {t k : Int} (h : LayerOK l) (h0 : 0 ≤ k) (h1 : handS off l k ≤ t) (h2 : t < handS off l (k + 1)) : shiftV off l t = k := by
  have hs := (spanS_in h).1
  unfold handS at h1 h2
  rw [Int.mul_add, Int.mul_one] at h2
  have h3 : 0 ≤ spanS l * k := Int.mul_nonneg (by omega) h0
  unfold shiftV
  rw [if_neg (by omega)]
  have h4 : k ≤ (t - firstS off l) / spanS l := (Int.le_ediv_iff_mul_le (by omega)).2 (by rw [Int.mul_comm]; omega)
  have h5 : (t - firstS off l) / spanS l < k + 1 := (Int.ediv_lt_iff_lt_mul (by omega)).2 (by rw [Int.mul_comm, Int.mul_add, Int.mul_one]; omega)
  omega
theorem shift_no {off : Int} {l : D.Layer} {t : Int} (h : t < handS off l 0) : shiftV off l t = -1 := by
  unfold handS at h; rw [Int.mul_zero, Int.add_zero] at h
  unfold shiftV; rw [if_pos h]
theorem shift_at {off : Int} {l : D.Layer} {t : Int} (h : LayerOK l) (h0 : firstS off l ≤ t) : 0 ≤ shiftV off l t ∧ handS off l (shiftV off l t) ≤ t ∧ t < handS off l (shiftV off l t + 1) := by
  have hs := (spanS_in h).1
  have e : shiftV off l t = (t - firstS off l) / spanS l := by unfold shiftV; rw [if_neg (by omega)]
  have h1 := Int.mul_ediv_add_emod (t - firstS off l) (spanS l)
  have h2 := Int.emod_nonneg (t - firstS off l) (b := spanS l) (by omega)
  have h3 := Int.emod_lt_of_pos (t - firstS off l) (b := spanS l) (by omega)
  have h4 : 0 ≤ (t - firstS off l) / spanS l := Int.ediv_nonneg (by omega) (by omega)
  rw [e]
  unfold handS
  rw [Int.mul_add, Int.mul_one]
  omega
theorem shiftV_le {off : Int} {l : D.Layer} {t : Int} (h : LayerOK l) (ho : off = 0 ∨ off = 3600 ∨ off = -7200) (ht : t ≤ 8589934592) : -1 ≤ shiftV off l t ∧ shiftV off l t ≤ 8589934592 := by
  by_cases h0 : firstS off l ≤ t
  · have h1 := shift_at h h0
    have h2 := (spanS_in h).1
    have h3 := (firstS_in h ho).1
    have h4 : 3600 * shiftV off l t ≤ spanS l * shiftV off l t := Int.mul_le_mul_of_nonneg_right h2 h1.1
    unfold handS at h1
    omega
  · unfold shiftV; rw [if_pos (by omega)]; omega
def dutyV (off : Int) (l : D.Layer) (t : Int) : Int := if shiftV off l t < 0 then -1 else nth l.Members ((shiftV off l t).toNat % l.Members.length)
theorem dutyV_in {off : Int} {l : D.Layer} {t : Int} (h : LayerOK l) : -1 ≤ dutyV off l t ∧ dutyV off l t < 4 := by
  unfold dutyV
  split
  · omega
  · have hl := h.len
    have := h.mem (nth l.Members ((shiftV off l t).toNat % l.Members.length)) (nth_mem (Nat.mod_lt _ (by omega)))
    omega
def awayX (p t : Int) (x : D.Edit) : Bool := decide (x.Kind = 0) && decide (x.A = p) && decide (x.From ≤ t) && decide (t < x.To)
def awayV (es : List D.Edit) (p t : Int) : Bool := es.any (awayX p t)
def foldS (t : Int) (p : Int) (x : D.Edit) : Int :=
  if ¬ (x.From ≤ t ∧ t < x.To) ∨ x.Kind = 0 then p else if x.Kind = 1 then x.A else if x.Kind ≠ 2 then p else if p = x.A then x.B else if p = x.B then x.A else p
def foldV (es : List D.Edit) (p t : Int) : Int := es.foldl (foldS t) p
theorem foldS_in {p t : Int} {x : D.Edit} (h : EditOK x) (hp : -1 ≤ p ∧ p < 4) : -1 ≤ foldS t p x ∧ foldS t p x < 4 := by
  have ha := h.a
  have hb := h.b
  unfold foldS
  repeat' split
  all_goals omega
theorem foldV_in {t : Int} : ∀ {es : List D.Edit} {p : Int}, (∀ x ∈ es, EditOK x) → (-1 ≤ p ∧ p < 4) → -1 ≤ foldV es p t ∧ foldV es p t < 4
  | [], p, _, hp => hp
  | x :: es, p, h, hp => foldV_in (es := es) (fun y hy => h y (List.mem_cons_of_mem _ hy)) (foldS_in (h x (List.mem_cons_self ..)) hp)
theorem foldV_snoc {es : List D.Edit} {p t : Int} {k : Nat} (hk : k < es.length) : foldV (es.take (k + 1)) p t = foldS t (foldV (es.take k) p t) (nth es k) := by
  unfold foldV
  rw [List.take_succ_eq_append_getElem hk, List.foldl_append]
  simp [nth, List.getD_eq_getElem?_getD, List.getElem?_eq_getElem hk]
def layP (off : Int) (s : D.Schedule) (t : Int) : Int := if 0 ≤ dutyV off (nth s.Layers 0) t ∧ awayV s.Edits (dutyV off (nth s.Layers 0) t) t = false then dutyV off (nth s.Layers 0) t else -1
def whoS (off : Int) (s : D.Schedule) (t : Int) : Int := foldV s.Edits (layP off s t) t
def whoV (c : D.Config) (i t : Int) : Int := if 0 ≤ i ∧ i < 2 ∧ 0 ≤ t ∧ t ≤ 8589934592 then whoS (offOf c) (nth c.Schedules i.toNat) t else -1
theorem layP_in {n : Nat} {off : Int} {s : D.Schedule} {t : Int} (h : SchedOK n s) : -1 ≤ layP off s t ∧ layP off s t < 4 := by
  obtain ⟨l, h1, h2⟩ := h.layers
  have := dutyV_in (off := off) (t := t) h2
  unfold layP
  rw [h1, show nth [l] 0 = l from rfl]
  split <;> omega
theorem whoV_in {n : Nat} {c : D.Config} (h : CfgOK n c) {i t : Int} : -1 ≤ whoV c i t ∧ whoV c i t < 4 := by
  unfold whoV
  split
  · have hs := h.sched (nth c.Schedules i.toNat) (nth_mem (by rw [h.slen]; omega))
    exact foldV_in hs.edit (layP_in hs)
  · omega
theorem hand_day {off : Int} {l : D.Layer} {k n : Int} (hs : spanS l = 86400 * n) : (l.Start.Day + k * n) * 86400 + l.Start.Second - off = handS off l k := by
  unfold handS firstS
  rw [hs, Int.mul_assoc, Int.add_mul, Int.mul_comm k n, Int.mul_comm (n * k) 86400]
  omega
theorem span_days {l : D.Layer} (h : l.Unit = 1) : spanS l = 86400 * l.Every := by unfold spanS unitS; rw [if_neg (by omega)]
theorem span_hours {l : D.Layer} (h : l.Unit = 0) : spanS l = 3600 * l.Every := by unfold spanS unitS; rw [if_pos h]
def meantV (c : D.Config) (b : D.Book) (x : D.Target) (t : Int) : List Int :=
  if x.Kind = 0 then [x.Index] else if x.Kind = 1 then (if whoV c x.Index t < 0 then [] else [whoV c x.Index t]) else
    if x.Kind = 2 ∧ 0 ≤ x.Index ∧ x.Index < (b.Teams.length : Int) then (nth b.Teams x.Index.toNat).Members else []
def Means (c : D.Config) (b : D.Book) (l : List D.Target) (t z : Int) : Prop := 0 ≤ z ∧ z < 4 ∧ ∃ x ∈ l, z ∈ meantV c b x t
def secondOf (off t : Int) : Int := ((t + off) / 86400 + 3) % 7 * 86400 + (t + off) % 86400
def quietV (ws : List D.Window) (s : Int) : Bool := ws.any fun w => decide (w.From ≤ s) && decide (s < w.To)
def reachV (c : D.Config) (p t : Int) (urgent : Bool) : Bool :=
  decide (0 ≤ p ∧ p < 4 ∧ 0 ≤ t ∧ t ≤ 8589934592) && (urgent && (nth c.People p.toNat).Consent || !quietV (nth c.People p.toNat).Quiet (secondOf (offOf c) t))
end Go.Proofs.YtfhcigjkfelnfaaGreat
