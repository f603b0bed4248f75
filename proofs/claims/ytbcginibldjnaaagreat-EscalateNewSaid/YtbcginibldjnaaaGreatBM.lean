/-
  The typed layer, part M: code does what is reckoned of it. No project text.
-/
import Derived.Test.YtbcginibldjnaaaGreatBL
set_option linter.unusedVariables false
set_option linter.unusedSimpArgs false
namespace Go.Proofs.YtbcginibldjnaaaGreat.AM
open Go
/-- A region that draws its order; its end is where the text's order ends. -/
theorem AWp.drawG {P : Program} {Γ : Ctx} {id : Nat} {ops : Array Oper} {ts ts' : List (Nat × AV)} {hs hs' : List (Name × AO)} {Q : Exit → AS → Prop} {n : Nat} (hn : Γ.n = n)
    (hmode : (P.follows .mixedOrders || !Region.departs ops) = true)
    (L : List Row) (hst : StepsOK P ops 0 L) (hg : got n L ts hs = (wantS L, wantH L, true, ts', hs')) (hind : indep ops L ts hs = true) (hQ : Q .normal (mk ts' hs')) : AWp P Γ (.region id ops true) (mk ts hs) Q := by
  intro ρ M a w hsim
  refine wp_region_draw fun t => ?_
  have hsch : Region.schedule (P.follows .mixedOrders) ops t = Region.linearise .any ops t := by
    unfold Region.schedule; rw [hmode]; rfl
  rw [hsch]
  refine wpAny_sound ops.size t _ a _ ?_
  refine any_order hn hst (by rw [hg]) (by rw [hg]) (by rw [hg]) hind (Q := fun e a' w' => ∃ s' ρ' M', Q e s' ∧ Sim Γ ρ' M' s' a' w') (fun ρ' M' a' w' hs => ⟨_, ρ', M', hQ, by rw [hg] at hs; exact hs⟩)
    ops.size (Array.replicate ops.size false) a _ ρ M (by simp) (fun i o hi hl => by simp [Array.getD_eq_getD_getElem?, Array.getElem?_replicate] at hl; split at hl <;> simp at hl) ?_ ?_
  · have : ∀ (f : Nat → Bool) k, cnt f k ≤ k := by
      intro f k
      induction k with
      | zero => exact Nat.le_refl _
      | succ k ih => simp only [cnt]; split <;> omega
    exact this _ _
  · refine hsim.drew.congr (fun t => ?_) (fun m => ?_)
    · have := RD_slot_cut (E := fun i => rowAt L i) (D := fun i => (Array.replicate ops.size false).getD i false) (s := mk ts hs) (t := t) (i := 0) L.length (by omega) (fun j _ _ _ => by
        simp only [Array.getD_eq_getD_getElem?, Array.getElem?_replicate]; split <;> rfl)
      exact this
    · have := RD_heap_cut (E := fun i => rowAt L i) (D := fun i => (Array.replicate ops.size false).getD i false) (s := mk ts hs) (m := m) (i := 0) L.length (by omega) (fun j _ _ _ => by
        simp only [Array.getD_eq_getD_getElem?, Array.getElem?_replicate]; split <;> rfl)
      exact this
variable {L L' : Lens} {ts ts' : TS} {hs hs' : HS}
theorem erT_mem {t : Nat} {v : BV} (h : erT L ts = erT L' ts) (hm : (t, v) ∈ ts) : v.er L = v.er L' := by
  unfold erT at h
  have := (List.map_inj_left.1 h) _ hm
  simpa using this
theorem erH_mem {t : Name} {v : BO} (h : erH L hs = erH L' hs) (hm : (t, v) ∈ hs) : v.er L = v.er L' := by
  unfold erH at h
  have := (List.map_inj_left.1 h) _ hm
  simpa using this
theorem erT_sub {rd : TS} (h : erT L ts = erT L' ts) (hs : ∀ t v, (t, v) ∈ rd → look t ts = some v) : erT L rd = erT L' rd := by
  unfold erT
  exact List.map_congr_left fun p hp => by rw [erT_mem h (look_mem (hs p.1 p.2 hp))]
theorem erH_sub {hp : HS} (h : erH L hs = erH L' hs) (hsub : ∀ t v, (t, v) ∈ hp → look t hs = some v) : erH L hp = erH L' hp := by
  unfold erH
  exact List.map_congr_left fun p hp => by rw [erH_mem h (look_mem (hsub p.1 p.2 hp))]
theorem erH_app {a b : HS} (h : erH L (a ++ b) = erH L' (a ++ b)) : erH L a = erH L' a ∧ erH L b = erH L' b := by
  rw [erH_append, erH_append] at h
  exact List.append_inj h (by simp [erH])
theorem erT_put {d : Option Nat} {v : BV} (h : erT L (putB d v ts) = erT L' (putB d v ts)) (ha : anyB d v = true) : erT L ts = erT L' ts ∧ v.er L = v.er L' := by
  cases d with
  | some d =>
    simp only [putB, erT, List.map_cons, List.cons.injEq, Prod.mk.injEq, true_and] at h
    exact ⟨h.2, h.1⟩
  | none =>
    refine ⟨h, ?_⟩
    cases v <;> first | rfl | simp [anyB] at ha
section
variable {R : Type} {r : R} {P : Program} {ty : TypeId → Option TC} {E : Env} {nn : Nat}
theorem got_cons {d : Option Nat} {e : Eff} {rows : List Row} {ts : List (Nat × AV)} {hs : List (Name × AO)} {ts' : List (Nat × AV)} {hs' : List (Name × AO)} (h1 : ∀ t x, (t, x) ∈ e.rd → look t ts = some x) (h2 : ∀ n o, (n, o) ∈ e.hp → look n hs = some o)
    (hd : dstOK nn d = true) (hnw : newOK e ts hs = true) (h : got nn rows (putT ts d e) (e.upd ++ hs) = (wantS rows, wantH rows, true, ts', hs')) : got nn ((d, e) :: rows) ts hs = (wantS ((d, e) :: rows), wantH ((d, e) :: rows), true, ts', hs') := by
  simp only [got, h, wantS, wantH, hd, hnw, Bool.and_self]
  have e1 : e.rd.map (fun p => look p.1 ts) = e.rd.map (fun p => some p.2) := List.map_congr_left fun p hp => h1 p.1 p.2 hp
  have e2 : e.hp.map (fun p => look p.1 hs) = e.hp.map (fun p => some p.2) := List.map_congr_left fun p hp => h2 p.1 p.2 hp
  rw [e1, e2]
theorem dregK_some {sp : Bool} {ops : Array Oper} {K : List BRow → TS → HS → Option R} (hE : EnvOK P E) : ∀ (f i : Nat) (acc : List BRow) (ts : TS) (hs : HS) (L : Lens), dregK P ty E nn ops sp K f i acc ts hs = some r → Inv L hs →
    ∃ rows ts' hs' L', K (acc.reverse ++ rows) ts' hs' = some r ∧ Inv L' hs' ∧ StepsOK P ops i (rows.map (BRow.row L')) ∧ erT L ts = erT L' ts ∧ erH L hs = erH L' hs ∧
      got nn (rows.map (BRow.row L')) (erT L' ts) (erH L' hs) = (wantS (rows.map (BRow.row L')), wantH (rows.map (BRow.row L')), true, erT L' ts', erH L' hs')
  | 0, i, acc, ts, hs, L, h, hi => by
    simp only [dregK] at h
    split at h
    · rename_i e
      exact ⟨[], ts, hs, L, by simpa using h, hi, Nat.eq_of_beq_eq_true e, rfl, rfl, by simp only [List.map_nil, got, wantS, wantH]⟩
    · simp at h
  | f + 1, i, acc, ts, hs, L, h, hi => by
    simp only [dregK] at h
    split at h
    · simp at h
    · rename_i o hop
      -- one operation that is done
      have hdo : ∀ (x : TS), (∀ t v, (t, v) ∈ x → look t ts = some v) → (∀ e' : Eff, (∀ p, p ∈ x → (p.1, p.2.er L) ∈ e'.rd) → OpOK P o e' → StepOK P ops i o.dst e') →
          opK P ty E sp nn x o ts hs (fun e ts' hs' => if anyB o.dst e.v then dregK P ty E nn ops sp K f (i + 1) ((o.dst, x ++ rdB ts o.op.operands.toList, e) :: acc) ts' hs' else none) = some r →
          ∃ rows ts' hs' L', K (acc.reverse ++ rows) ts' hs' = some r ∧ Inv L' hs' ∧ StepsOK P ops i (rows.map (BRow.row L')) ∧ erT L ts = erT L' ts ∧ erH L hs = erH L' hs ∧
            got nn (rows.map (BRow.row L')) (erT L' ts) (erH L' hs) = (wantS (rows.map (BRow.row L')), wantH (rows.map (BRow.row L')), true, erT L' ts', erH L' hs') := fun x hx hstp h => by
        obtain ⟨e, L1, hst, hd, h⟩ := opK_some hE hx h hi
        split at h
        case isFalse => simp at h
        rename_i hany
        obtain ⟨rows, ts', hs', L', k1, k2, k3, k4, k5, k6⟩ := dregK_some (sp := sp) (ops := ops) (K := K) hE f (i + 1) _ _ _ L1 h hst.inv
        obtain ⟨p1, p2⟩ := erT_put k4 hany
        obtain ⟨q1, q2⟩ := erH_app k5
        have hts : erT L ts = erT L' ts := hst.ets.trans p1
        have hhs : erH L hs = erH L' hs := hst.ehs.trans q2
        have hrd := erT_sub hts hst.rds
        have hhp := erH_sub hhs hst.hps
        have hok := hst.ok
        rw [p2, q1] at hok
        refine ⟨(o.dst, x ++ rdB ts o.op.operands.toList, e) :: rows, ts', hs', L', by simpa using k1, k2, ⟨?_, k3⟩, hts, hhs, ?_⟩
        · have := hstp _ (fun p hp => List.mem_map.2 ⟨p, List.mem_append_left _ hp, rfl⟩) hok
          simp only [BRow.row, ← hrd, ← hhp]; exact this
        · simp only [List.map_cons]
          refine got_cons (fun t y hy => ?_) (fun n ob hy => ?_) hd ?_ ?_
          · simp only [BRow.row, erT, List.mem_map] at hy
            obtain ⟨⟨t', v⟩, hm, he⟩ := hy
            cases he
            rw [look_erT, hst.rds _ _ hm]; rfl
          · simp only [BRow.row, erH, List.mem_map] at hy
            obtain ⟨⟨t', v⟩, hm, he⟩ := hy
            cases he
            rw [look_erH, hst.hps _ _ hm]; rfl
          · have hnew := hst.new
            unfold newBs at hnew
            simp only [newOK, BRow.row, freeS_er, keys_erH]
            refine List.all_eq_true.2 fun n hn => ?_
            have := List.all_eq_true.1 hnew n hn
            simp only [Bool.and_eq_true] at this ⊢
            refine ⟨⟨?_, this.1.2⟩, this.2⟩
            rw [look_erH]
            cases hl : look n hs with
            | none => rfl
            | some y => rw [hl] at this; simp at this
          · have e3 : ∀ t1 h1, t1 = erT L' (putB o.dst e.v ts) → h1 = erH L' (e.upd ++ hs) → got nn (rows.map (BRow.row L')) t1 h1 = (wantS (rows.map (BRow.row L')), wantH (rows.map (BRow.row L')), true, erT L' ts', erH L' hs') := fun t1 h1 a b => by rw [a, b]; exact k6
            exact e3 _ _ (by show putT (erT L' ts) o.dst _ = _; cases o.dst <;> rfl) (by rw [erH_append])
      -- one that is left out
      have hskip : ∀ {j : Nat} {b : Bool} {g : Nat} {v : BV}, o.guard = some (j, b) → (ops[j]?).bind (·.dst) = some g → look g ts = some v → (v = .b (!b) ∨ v = .tup []) →
          (if dstOK nn o.dst then dregK P ty E nn ops sp K f (i + 1) ((o.dst, [(g, v)], ev (.tup [])) :: acc) (putB o.dst (.tup []) ts) hs else none) = some r →
          ∃ rows ts' hs' L', K (acc.reverse ++ rows) ts' hs' = some r ∧ Inv L' hs' ∧ StepsOK P ops i (rows.map (BRow.row L')) ∧ erT L ts = erT L' ts ∧ erH L hs = erH L' hs ∧
            got nn (rows.map (BRow.row L')) (erT L' ts) (erH L' hs) = (wantS (rows.map (BRow.row L')), wantH (rows.map (BRow.row L')), true, erT L' ts', erH L' hs') := fun {j b g v} hg hj hl hv h => by
        split at h
        case isFalse => simp at h
        rename_i hd
        obtain ⟨rows, ts', hs', L', k1, k2, k3, k4, k5, k6⟩ := dregK_some (sp := sp) (ops := ops) (K := K) hE f (i + 1) _ _ _ L h hi
        have hts : erT L ts = erT L' ts := by
          cases hdd : o.dst with
          | none => rw [hdd] at k4; exact k4
          | some d => rw [hdd] at k4; simp only [putB, erT, List.map_cons, List.cons.injEq] at k4; exact k4.2
        obtain ⟨oj, h1, h2⟩ := bind_some hj
        refine ⟨(o.dst, [(g, v)], ev (.tup [])) :: rows, ts', hs', L', by simpa using k1, k2, ⟨?_, k3⟩, hts, k5, ?_⟩
        · rcases hv with rfl | rfl
          · exact StepOK.skipped hop hg h1 h2
          · exact StepOK.skipped2 hop hg h1 h2
        · simp only [List.map_cons]
          refine got_cons (fun t y hy => ?_) (fun n ob hy => ?_) hd ?_ ?_
          · simp only [BRow.row, erT, List.map_cons, List.map_nil, List.mem_singleton, Prod.mk.injEq] at hy
            obtain ⟨rfl, rfl⟩ := hy
            rw [look_erT, hl]; rfl
          · simp [BRow.row, ev, erH] at hy
          · simp [newOK, BRow.row, ev]
          · have e3 : ∀ t1 h1, t1 = erT L' (putB o.dst (.tup []) ts) → h1 = erH L' hs → got nn (rows.map (BRow.row L')) t1 h1 = (wantS (rows.map (BRow.row L')), wantH (rows.map (BRow.row L')), true, erT L' ts', erH L' hs') := fun t1 h1 a b => by rw [a, b]; exact k6
            exact e3 _ _ (by show putT (erT L' ts) o.dst _ = _; cases o.dst <;> rfl) rfl
      have hgd : ∀ {j : Nat} {b : Bool} {g : Nat}, o.guard = some (j, b) → (ops[j]?).bind (·.dst) = some g → ∀ e' : Eff, (∀ p : Nat × BV, p ∈ [(g, BV.b b)] → (p.1, p.2.er L) ∈ e'.rd) → OpOK P o e' → StepOK P ops i o.dst e' := fun {j b g} hg hj e' hm hok => by
        obtain ⟨oj, h1, h2⟩ := bind_some hj
        have := hm (g, BV.b b) (by simp)
        simp only [BV.er] at this
        exact StepOK.guarded hop hg h1 h2 this hok
      have hx1 : ∀ {g : Nat} {b : Bool}, look g ts = some (.b b) → ∀ t v, (t, v) ∈ [(g, BV.b b)] → look t ts = some v := fun hl t v hm => by
        simp only [List.mem_singleton, Prod.mk.injEq] at hm; obtain ⟨rfl, rfl⟩ := hm; exact hl
      split at h
      · rename_i hg
        exact hdo [] (fun t v hm => by simp at hm) (fun e' _ hok => StepOK.plain hop hg hok) h
      · rename_i j b hg
        split at h
        · simp at h
        · rename_i g hj
          split at h
          · rename_i q hl
            rcases cnd_some h with ⟨rfl, h⟩ | ⟨rfl, h⟩
            · cases b with
              | true => exact hdo [(g, .b true)] (hx1 hl) (hgd hg hj) h
              | false => exact hskip hg hj hl (.inl rfl) h
            · cases b with
              | true => exact hskip hg hj hl (.inl rfl) h
              | false => exact hdo [(g, .b false)] (hx1 hl) (hgd hg hj) h
          · rename_i hl
            exact hskip hg hj hl (.inr rfl) h
          · simp at h

/-! ### Shapes -/
mutual
theorem ren_id : ∀ x : AV, x.ren (fun n => n) = x
  | .p _ => by simp only [AV.ren]
  | .agg cs => by simp only [AV.ren, renL_id cs]
  | .ref _ _ => by simp only [AV.ren]
  | .own _ _ => by simp only [AV.ren]
  | .aref _ _ _ _ => by simp only [AV.ren]
  | .view _ _ _ _ => by simp only [AV.ren]
  | .eptr _ => by simp only [AV.ren]
  | .tup vs => by simp only [AV.ren, renL_id vs]
  | .clo f a c => by simp only [AV.ren, renL_id a, renL_id c]
  | .oref _ _ => by simp only [AV.ren]
  | .err _ => by simp only [AV.ren]
  | .ub => by simp only [AV.ren]
  | .any => by simp only [AV.ren]
theorem renL_id : ∀ l : List AV, renL (fun n => n) l = l
  | [] => by simp only [renL]
  | x :: r => by simp only [renL, ren_id x, renL_id r]
end
theorem verOf_fit {σ : Ren} (h : idRen σ = true) : Fit (fun n => n) (verOf σ) σ := fun nm m hm => by
  have := List.all_eq_true.1 h _ hm
  simp only [Bool.and_eq_true] at this
  refine ⟨Nat.eq_of_beq_eq_true this.1, ?_⟩
  unfold verOf; rw [lookIs_of this.2]
theorem getS_some {gn : List Name} {s : List (Nat × SSh)} {o : List (Name × OSh)} {K : STL s × OL o → Option R} (h : getS gn s o ts hs K = some r) (hi : Inv L hs) :
    ∃ x L', K x = some r ∧ Inv L' (OL.put 0 o x.2) ∧ SLe L ts hs L' (STL.put 0 s x.1) (OL.put 0 o x.2) ∧ ∀ n, n ∈ gn → look n (OL.put 0 o x.2) ≠ none := by
  obtain ⟨σ1, x, h, hs1, g1⟩ := STL.get_some h
  obtain ⟨σ2, y, h, hs2, g2⟩ := OL.get_some h
  split at h
  case isFalse => simp at h
  rename_i hid
  simp only [Bool.and_eq_true] at hid
  have hf2 := verOf_fit hid.1
  have hf1 : Fit (fun n => n) (verOf σ2) σ1 := hf2.mono fun p hp => hs2 p (List.mem_append_right _ hp)
  refine ⟨(x, y), lensOf L (fun n => n) (verOf σ2), h, fun n t l v hn => ?_, ⟨fun t b hb => ?_, fun n cs' hn => ?_, fun n t l v hn => ?_, fun n es hn => ?_⟩, fun n hn hc => ?_⟩
  · obtain ⟨a, ha, hle⟩ := g2 _ _ L hf2 n _ hn
    rcases hle with ⟨cs, ds, _, h2, _⟩ | ⟨t', l', rfl, h2⟩ | ⟨es, _, h2⟩
    · cases h2
    · cases h2; exact hi n t l _ ha
    · cases h2
  · obtain ⟨a, ha, hle⟩ := g1 _ _ L hf1 t b hb
    rw [ren_id] at hle
    exact ⟨a, ha, hle⟩
  · obtain ⟨a, ha, hle⟩ := g2 _ _ L hf2 n _ hn
    rcases hle with ⟨cs, ds, rfl, h2, h3⟩ | ⟨t', l', rfl, h2⟩ | ⟨es, _, h2⟩
    · cases h2; rw [renL_id] at h3; exact ⟨cs, ha, h3⟩
    · cases h2
    · cases h2
  · obtain ⟨a, ha, hle⟩ := g2 _ _ L hf2 n _ hn
    rcases hle with ⟨cs, ds, _, h2, _⟩ | ⟨t', l', rfl, h2⟩ | ⟨es, _, h2⟩
    · cases h2
    · cases h2; exact ⟨_, ha⟩
    · cases h2
  · obtain ⟨a, ha, hle⟩ := g2 _ _ L hf2 n _ hn
    rcases hle with ⟨cs, ds, _, h2, _⟩ | ⟨t', l', rfl, h2⟩ | ⟨es, rfl, h2⟩
    · cases h2
    · cases h2
    · cases h2; exact ha
  · have := isIn_iff.1 (List.all_eq_true.1 hid.2 n hn)
    obtain ⟨b, hb⟩ := look_put (u := 0) (y := y) this
    rw [hb] at hc; simp at hc
theorem thawK_some {o : List (Name × OSh)} {Γ : Ctx} : ∀ {s : List (Nat × SSh)} {ts : TS} {hs : HS} {L : Lens} {K : TS → HS → Option R}, thawK o s ts hs K = some r → Inv L hs →
    ∃ ts' hs' L', K ts' hs' = some r ∧ Inv L' hs' ∧ Weak Γ (BS L ts hs) (BS L' ts' hs')
  | [], ts, hs, L, K, h, hi => ⟨ts, hs, L, h, hi, Weak.refl _ _⟩
  | p :: s, ts, hs, L, K, h, hi => by
    obtain ⟨t, sh⟩ := p
    have hth : ∀ {nm : Name} {tc : TC} {v : BV} {es0 : Nat}, look t ts = some v → (∀ L, v.er L = .p (.sl true es0 [])) →
        (if (look nm hs).isNone && freeS nm ts hs && Nat.ble 1 (tz tc) then thawK o s ((t, .own nm 0) :: ts) ((nm, .arr tc [] 0) :: hs) K else none) = some r →
        ∃ ts' hs' L', K ts' hs' = some r ∧ Inv L' hs' ∧ Weak Γ (BS L ts hs) (BS L' ts' hs') := fun {nm tc v es0} hv hv2 h => by
      split at h
      case isFalse => simp at h
      rename_i hb
      simp only [Bool.and_eq_true, Option.isNone_iff_eq_none] at hb
      let L1 : Lens := fun n u => if n = nm then 0 else L n u
      obtain ⟨e1, e2⟩ := erS_congr (L := L) (L' := L1) (nw := [nm]) (nv := []) (ts := ts) (hs := hs) (fun n hn => by simp only [List.mem_singleton] at hn; subst hn; exact hb.1.2) (fun p hp => by simp at hp) (fun n u hn _ => if_neg (by simpa using hn))
      have hi1 : Inv L1 ((nm, .arr tc [] 0) :: hs) := fun n t' l u hn => by
        simp only [look] at hn
        split at hn
        · rename_i e; subst e; cases hn; exact if_pos rfl
        · rename_i e; show (if n = nm then 0 else L n u) = _; rw [if_neg (Ne.symm e)]; exact hi n t' l u hn
      obtain ⟨ts', hs', L', k1, k2, k3⟩ := thawK_some (Γ := Γ) h hi1
      refine ⟨ts', hs', L', k1, k2, Weak.trans ?_ k3⟩
      have hmap : ∀ (l : List (Nat × AV)), ∃ l', (∀ k, look k l' = look k l) ∧ l'.map (fun p => look p.1 l) = l'.map (fun p => some p.2) := by
        intro l
        induction l with
        | nil => exact ⟨[], fun _ => rfl, rfl⟩
        | cons p l ih =>
          obtain ⟨l', g1, g2⟩ := ih
          refine ⟨p :: (l'.filter fun q => !(q.1 == p.1)), fun k => ?_, ?_⟩
          · simp only [look]
            split
            · rfl
            · rename_i hne
              rw [← g1]
              clear g1 g2
              induction l' with
              | nil => rfl
              | cons q l' ih =>
                by_cases hq : q.1 = p.1
                · rw [List.filter_cons_of_neg (by simp [hq]), ih]
                  simp only [look]
                  rw [if_neg (by rw [hq]; exact hne)]
                · rw [List.filter_cons_of_pos (by simp [hq])]
                  simp only [look]
                  split
                  · rfl
                  · exact ih
          · simp only [List.map_cons, look, if_true]
            congr 1
            refine List.map_congr_left fun q hq => ?_
            have hq' := List.mem_filter.1 hq
            have hne : ¬ p.1 = q.1 := fun e => by have := hq'.2; rw [e] at this; simp at this
            rw [if_neg hne]
            exact (List.map_inj_left.1 g2) q hq'.1
      obtain ⟨l', g1, g2⟩ := hmap ((t, .own nm 0) :: erT L ts)
      have hw := Weak.thaw (Γ := Γ) (ts := erT L ts) (ts' := l') (hs := erH L hs) (t := t) (es0 := es0) (es := tz tc) (n := nm) hb.2 (by rw [look_erT, hv, Option.map_some, hv2 L]) (by rw [look_erH, hb.1.1]; rfl) (by rw [freeS_er]; exact hb.1.2) g2
      refine fun ρ M a w hs0 => ?_
      obtain ⟨ρ', M', hs1⟩ := hw ρ M a w hs0
      refine ⟨ρ', M', hs1.congr (fun k => ?_) (fun k => ?_)⟩
      · show look k (erT L1 ((t, .own nm 0) :: ts)) = look k l'
        rw [g1]
        show look k ((t, (BV.own nm 0).er L1) :: erT L1 ts) = _
        simp only [BV.er, show L1 nm 0 = 0 from if_pos rfl, ← e1]
      · show look k (erH L1 ((nm, .arr tc [] 0) :: hs)) = look k ((nm, .arr (tz tc) []) :: erH L hs)
        show look k ((nm, (BO.arr tc [] 0).er L1) :: erH L1 hs) = _
        simp only [BO.er, List.map_nil, ← e2]
    unfold thawK at h
    split at h
    · rename_i nm r0 heq
      split at h
      · rename_i tc hv ho
        cases heq
        exact hth (es0 := 0) hv (fun L => by simp only [BV.er]) h
      · rename_i t0 tc hv ho
        cases heq
        exact hth (es0 := tz t0) hv (fun L => by simp only [BV.er, List.map_nil]) h
      · cases heq; exact thawK_some h hi
    · rename_i heq; cases heq; exact thawK_some h hi
    · rename_i heq; cases heq
theorem thaw_cell {Γ : Ctx} {m nm : Name} {j es0 : Nat} {tc : TC} {cells : List BV} {v : BV} (hm : look m hs = some (.box cells)) (hj : cells[j]? = some v) (hv : ∀ L, v.er L = .p (.sl true es0 [])) (hb : (look nm hs).isNone = true) (hf : freeS nm ts hs = true) (ht : Nat.ble 1 (tz tc) = true) (hi : Inv L hs) :
    ∃ L', Inv L' ((m, .box (cells.set j (.own nm 0))) :: (nm, .arr tc [] 0) :: hs) ∧ Weak Γ (BS L ts hs) (BS L' ts ((m, .box (cells.set j (.own nm 0))) :: (nm, .arr tc [] 0) :: hs)) := by
  let L1 : Lens := fun n u => if n = nm then 0 else L n u
  have hnm : look nm hs = none := Option.isNone_iff_eq_none.1 hb
  have hne : m ≠ nm := fun e => by subst e; rw [hnm] at hm; simp at hm
  obtain ⟨e1, e2⟩ := erS_congr (L := L) (L' := L1) (nw := [nm]) (nv := []) (ts := ts) (hs := hs) (fun n hn => by simp only [List.mem_singleton] at hn; subst hn; exact hf) (fun p hp => by simp at hp) (fun n u hn _ => if_neg (by simpa using hn))
  have ec : erL L cells = erL L1 cells := by
    have := erH_mem e2 (look_mem hm)
    simp only [BO.er, AO.box.injEq] at this
    exact this
  refine ⟨L1, fun n t' l u hn => ?_, fun ρ M a w hs0 => ?_⟩
  · simp only [look] at hn
    split at hn
    · cases hn
    · split at hn
      · rename_i e; subst e; cases hn; exact if_pos rfl
      · rename_i e; show (if n = nm then 0 else L n u) = _; rw [if_neg (Ne.symm e)]; exact hi n t' l u hn
  · have hs1 : Sim Γ ρ M (mk (erT L ts) ((m, .box (erL L cells)) :: erH L hs)) a w := hs0.congr (fun k => rfl) (fun k => by
      show look k ((m, AO.box (erL L cells)) :: erH L hs) = look k (erH L hs)
      simp only [look]
      split
      · rename_i e; subst e; rw [look_erH, hm]; rfl
      · rfl)
    have hfree : freeIn nm (erT L ts) ((m, .box (erL L cells)) :: erH L hs) = true := by
      have h1 := hf
      rw [← freeS_er (L := L)] at h1
      simp only [freeIn, Bool.and_eq_true, List.all_cons] at h1 ⊢
      have h2 := List.all_eq_true.1 h1.2 _ (show (m, AO.box (erL L cells)) ∈ erH L hs from look_mem (by rw [look_erH, hm]; rfl))
      exact ⟨h1.1, h2, h1.2⟩
    obtain ⟨ρ', M', hs2⟩ := Weak.thawCell (Γ := Γ) (ts := erT L ts) (hs' := erH L hs) (m := m) (j := j) (es0 := es0) (es := tz tc) (n := nm) (cells := erL L cells) ht rfl (by rw [erL_get, hj, Option.map_some, hv L])
      (by simp only [look, if_neg hne, look_erH, hnm]; rfl) hfree rfl ρ M a w hs1
    refine ⟨ρ', M', hs2.congr (fun k => ?_) (fun k => ?_)⟩
    · show look k (erT L1 ts) = look k (erT L ts)
      rw [e1]
    · show look k (erH L1 ((m, .box (cells.set j (.own nm 0))) :: (nm, .arr tc [] 0) :: hs)) = look k ((m, .box ((erL L cells).set j (.own nm 0))) :: (nm, .arr (tz tc) []) :: erH L hs)
      have : erL L1 (cells.set j (.own nm 0)) = (erL L cells).set j (.own nm 0) := by
        rw [ec, erL_map, erL_map, List.map_set]
        simp only [BV.er, show L1 nm 0 = 0 from if_pos rfl]
      show look k ((m, AO.box (erL L1 (cells.set j (.own nm 0)))) :: (nm, (BO.arr tc [] 0).er L1) :: erH L1 hs) = _
      rw [this, ← e2]
      simp only [BO.er, List.map_nil]
theorem thawC_some {o : List (Name × OSh)} {m : Name} {Γ : Ctx} : ∀ {l : List Sh} {j : Nat} {hs : HS} {L : Lens} {K : HS → Option R}, thawC o m ts j l hs K = some r → Inv L hs →
    ∃ hs' L', K hs' = some r ∧ Inv L' hs' ∧ Weak Γ (BS L ts hs) (BS L' ts hs')
  | [], j, hs, L, K, h, hi => ⟨hs, L, h, hi, Weak.refl _ _⟩
  | s :: l, j, hs, L, K, h, hi => by
    have hth : ∀ {nm : Name} {tc : TC} {v : BV} {es0 : Nat} {cells : List BV}, look m hs = some (.box cells) → cells[j]? = some v → (∀ L, v.er L = .p (.sl true es0 [])) →
        (if (look nm hs).isNone && freeS nm ts hs && Nat.ble 1 (tz tc) then thawC o m ts (j + 1) l ((m, .box (cells.set j (.own nm 0))) :: (nm, .arr tc [] 0) :: hs) K else none) = some r →
        ∃ hs' L', K hs' = some r ∧ Inv L' hs' ∧ Weak Γ (BS L ts hs) (BS L' ts hs') := fun {nm tc v es0 cells} hm hj hv h => by
      split at h
      case isFalse => simp at h
      rename_i hb
      simp only [Bool.and_eq_true] at hb
      obtain ⟨L1, hi1, hw1⟩ := thaw_cell (Γ := Γ) hm hj hv hb.1.1 hb.1.2 hb.2 hi
      obtain ⟨hs', L', k1, k2, k3⟩ := thawC_some h hi1
      exact ⟨hs', L', k1, k2, Weak.trans hw1 k3⟩
    unfold thawC at h
    split at h
    · rename_i heq; cases heq
    · rename_i nm r0 heq
      cases heq
      split at h
      · rename_i cells hm
        split at h
        · rename_i tc hj ho; exact hth (es0 := 0) hm hj (fun L => by simp only [BV.er]) h
        · rename_i t0 tc hj ho; exact hth (es0 := tz t0) hm hj (fun L => by simp only [BV.er, List.map_nil]) h
        · exact thawC_some h hi
      · exact thawC_some h hi
    · rename_i heq; cases heq; exact thawC_some h hi
theorem thawO_some {o : List (Name × OSh)} {Γ : Ctx} : ∀ {l : List (Name × OSh)} {hs : HS} {L : Lens} {K : HS → Option R}, thawO o ts l hs K = some r → Inv L hs →
    ∃ hs' L', K hs' = some r ∧ Inv L' hs' ∧ Weak Γ (BS L ts hs) (BS L' ts hs')
  | [], hs, L, K, h, hi => ⟨hs, L, h, hi, Weak.refl _ _⟩
  | p :: l, hs, L, K, h, hi => by
    unfold thawO at h
    split at h
    · rename_i m l0 r0 heq
      cases heq
      obtain ⟨hs1, L1, h, hi1, hw1⟩ := thawC_some (Γ := Γ) h hi
      obtain ⟨hs2, L2, h, hi2, hw2⟩ := thawO_some h hi1
      exact ⟨hs2, L2, h, hi2, Weak.trans hw1 hw2⟩
    · rename_i heq; cases heq; exact thawO_some h hi
    · rename_i heq; cases heq
end
end Go.Proofs.YtbcginibldjnaaaGreat.AM
