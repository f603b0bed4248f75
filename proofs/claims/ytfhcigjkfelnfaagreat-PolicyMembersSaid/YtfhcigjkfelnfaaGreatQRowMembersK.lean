/-
  Who is on call in a crew: what the reference computes.
-/
import Derived.Test.YtfhcigjkfelnfaaGreatQRowMembersJ
set_option maxRecDepth 100000
set_option linter.unusedVariables false
set_option linter.unusedSimpArgs false
namespace Go.Proofs.YtfhcigjkfelnfaaGreat
open Go AM
variable {off t k : Int} {l : D.Layer}
def zoneV (off : Int) : D.Zone := ⟨bZ, off, []⟩
theorem r4In {fu : Nat} {n lo hi : Int} : r04_in fu n lo hi = some (decide (lo ≤ n ∧ n ≤ hi)) := cnd2
theorem qTrans (ho : OffOK off) : r04_Transitions 1000 (zoneV off) = some ([], 0) := by
  rcases ho with rfl | rfl | rfl <;> kernel_rfl
theorem qOffset : r04_offset 1000 (zoneV off) [] t = some off := by
  refine Ok.eq ?_
  unfold r04_offset
  refine Ok.j (Ok.run 0 (fun _ => (([], (t, (off, (0, ())))), ())) rfl (by omega) (fun i hi => absurd hi (by omega)) (fun k => ?_))
  exact Ok.j (Ok.n (by simp) (Ok.s rfl))
theorem qLocal (ho : OffOK off) (ht : 0 ≤ t ∧ t ≤ 8589934592) : r04_ToLocal 1000 (zoneV off) t = some (⟨(t + off) / 86400, (t + off) % 86400⟩, 0) := by
  have := ho.le
  have h1 : r04_OffsetAt 1000 (zoneV off) t = some (off, 0) := by
    refine Ok.eq ?_
    unfold r04_OffsetAt
    exact Ok.oe (qTrans ho) (Ok.n (by decide) (Ok.oe r4In (Ok.np (by omega) (Ok.oe qOffset (Ok.s rfl)))))
  refine Ok.eq ?_
  unfold r04_ToLocal
  refine Ok.oe h1 (Ok.n (by decide) ?_)
  unfold r04_local
  rw [wrap_id (x := t + off) (by omega), wrap_id (x := t + off + 864000) (by omega), Int.tdiv_eq_ediv_of_nonneg (by omega), Int.tmod_eq_emod_of_nonneg (by omega), wrap_id (x := (t + off + 864000) / 86400) (by omega), wrap_id (by omega), nzc_p (by omega), nzc_p (by omega), optc_s]
  exact Ok.s (by rw [Prod.mk.injEq, D.Local.mk.injEq]; omega)
theorem qFirst {d s : Int} (ho : OffOK off) (hd : 1 ≤ d ∧ d ≤ 1000000) (hs : 0 ≤ s ∧ s ≤ 86399) :
    Ok (r04_First 1000 (zoneV off) ⟨d, s⟩) fun r => decide (r.2 = 0) = decide (d * 86400 + s - off ≤ 8589934592) ∧ (r.2 = 0 → r.1 = d * 86400 + s - off) := by
  have := ho.le
  unfold r04_First
  refine Ok.oe (qTrans ho) (Ok.n (by decide) (Ok.oe r4In (Ok.np (by dsimp only; omega) (Ok.n (by dsimp only; omega) ?_))))
  have hsm : r04_small 1000 d = some (decide (-2 ≤ d ∧ d ≤ 99422)) := by unfold r04_small; rw [r4In, optc_s]
  refine Ok.oe hsm ?_
  by_cases hd2 : d ≤ 99422
  · refine Ok.np (by omega) ?_
    refine Ok.loop (fun m x => x = (([], (-1, ())), (zoneV off, (⟨d, s⟩, ()))) ∧ m = 1 ∨ x = (([], (0, ())), (zoneV off, (⟨d, s⟩, ()))) ∧ m = 0 ∧ ¬ d * 86400 + s - off ≤ 8589934592) (m := 1) (by omega) (.inl ⟨rfl, rfl⟩) ?_
    rintro m x (⟨rfl, rfl⟩ | ⟨rfl, rfl, hno⟩) K hK
    · dsimp only
      refine Ok.p (by simp) (Ok.j (Ok.n (by decide) ?_))
      dsimp only
      refine Ok.j (Ok.n (by rw [wrap_id (by omega)]; simp) ?_)
      have ew : max 0 (IntKind.wrap .i64 (IntKind.wrap .i64 (IntKind.wrap .i64 (d * 86400) + s) - off)) = d * 86400 + s - off := by
        rw [wrap_id (x := d * 86400) (by omega), wrap_id (x := d * 86400 + s) (by omega), wrap_id (x := d * 86400 + s - off) (by omega)]; omega
      by_cases h : d * 86400 + s - off ≤ 8589934592
      · exact Ok.p (show max 0 (IntKind.wrap .i64 (IntKind.wrap .i64 (IntKind.wrap .i64 (d * 86400) + s) - off)) < 8589934593 by rw [ew]; omega) (Ok.s ⟨by simp [h], fun _ => ew⟩)
      · exact Ok.n (show ¬ max 0 (IntKind.wrap .i64 (IntKind.wrap .i64 (IntKind.wrap .i64 (d * 86400) + s) - off)) < 8589934593 by rw [ew]; omega) (hK 0 _ (by omega) (.inr ⟨rfl, rfl, h⟩))
    · dsimp only
      exact Ok.n (by simp) (Ok.s ⟨by simp; omega, fun h => by simp at h⟩)
  · refine Ok.nn (by omega) (Ok.s ⟨by simp; omega, fun h => by simp at h⟩)
theorem qHand (hl : LayerOK l) (ho : OffOK off) (hk : 0 ≤ k ∧ k ≤ 200000) (hu : l.Unit = 1) :
    Ok (r10_handover 1000 (zoneV off) l k) fun r => r.2 = decide (handS off l k ≤ 8589934592) ∧ (r.2 = true → r.1 = handS off l k) := by
  have := ho.le
  have h1 := hl.day; have h2 := hl.second; have h4 := hl.every
  unfold r10_handover
  refine Ok.n (by omega) (Ok.j (Ok.n (by omega) ?_))
  dsimp only
  have hE : l.Every = 1 ∨ l.Every = 2 ∨ l.Every = 3 := by omega
  have hh : handS off l k = (l.Start.Day + k * l.Every) * 86400 + l.Start.Second - off := (hand_day (span_days hu)).symm
  have hb : 0 ≤ k * l.Every ∧ k * l.Every ≤ 600000 := by rcases hE with e | e | e <;> rw [e] <;> omega
  rw [wrap_id (x := k * l.Every) (by omega), wrap_id (x := l.Start.Day + k * l.Every) (by omega)]
  refine Ok.opt (qFirst (d := l.Start.Day + k * l.Every) (s := l.Start.Second) ho (by omega) (by omega)) fun ⟨v, b⟩ ⟨g1, g2⟩ => ?_
  rw [← hh] at g1 g2
  refine Ok.s ⟨g1, fun h => g2 (of_decide_eq_true h)⟩
theorem qShift (hl : LayerOK l) (ho : OffOK off) (ht : 0 ≤ t ∧ t ≤ 8589934592) : r10_shift 1000 (zoneV off) l t = some (shiftV off l t) := by
  have hoo := ho.le
  have h1 := hl.day; have h2 := hl.second; have h4 := hl.every
  have hf := firstS_in (off := off) hl ho
  have h0 : handS off l 0 = firstS off l := by unfold handS; omega
  have hfd : firstS off l = l.Start.Day * 86400 + l.Start.Second - off := rfl
  have e3 := shiftV_le (t := t) hl ho (by omega)
  refine Ok.eq ?_
  unfold r10_shift
  rcases hl.unit with hu | hu
  · refine Ok.p hu (Ok.j ?_)
    refine Ok.opt (qFirst (d := l.Start.Day) (s := l.Start.Second) ho (by omega) (by omega)) fun ⟨v, b⟩ ⟨g1, g2⟩ => ?_
    dsimp only at g1 g2 ⊢
    have hb : b = 0 := by
      have : decide (b = 0) = true := by rw [g1]; simp; omega
      exact of_decide_eq_true this
    rw [g2 hb, ← hfd]
    refine Ok.p hb (Ok.ite (fun hle => ?_) (fun hgt => Ok.s ?_))
    · have e1 : IntKind.wrap .i64 (3600 * l.Every) = 3600 * l.Every := wrap_id (by omega)
      rw [e1]
      refine Ok.nzc (by omega) ?_
      rw [wrap_id (x := t - firstS off l) (by omega), Int.tdiv_eq_ediv_of_nonneg (by omega)]
      have e2 : (t - firstS off l) / (3600 * l.Every) = shiftV off l t := by unfold shiftV; rw [if_neg (by omega), span_hours hu]
      rw [e2, wrap_id (by omega)]
      exact Ok.s rfl
    · exact (shift_no (by rw [h0]; omega)).symm
  · refine Ok.n (by omega) (Ok.oe (qLocal ho ht) (Ok.j (Ok.n (by omega) ?_)))
    dsimp only
    obtain ⟨dy, hD⟩ : ∃ dy, (t + off) / 86400 = dy := ⟨_, rfl⟩
    rw [hD]
    have hDb : -1 ≤ dy ∧ dy ≤ 99422 := by omega
    refine Ok.j (Ok.nzc (by omega) ?_)
    rw [wrap_id (x := dy + 2) (by omega), wrap_id (x := dy + 2 - l.Start.Day) (by omega), Int.tdiv_eq_ediv_of_nonneg (by omega)]
    obtain ⟨k0, hk0⟩ : ∃ k0, max (dy + 2 - l.Start.Day) 0 / l.Every = k0 := ⟨_, rfl⟩
    rw [hk0]
    have hE : l.Every = 1 ∨ l.Every = 2 ∨ l.Every = 3 := by omega
    have hlin : ∀ k, handS off l k = firstS off l + 86400 * l.Every * k := fun k => (hand_lin hl).2 hu
    have hk : 0 ≤ k0 ∧ k0 ≤ 99424 ∧ (∀ k, 0 ≤ k → k ≤ k0 - 3 → handS off l k ≤ t) ∧ t < handS off l (k0 + 1) := by
      refine ⟨?_, ?_, fun k a b => ?_, ?_⟩
      · rcases hE with e | e | e <;> rw [e] at hk0 <;> omega
      · rcases hE with e | e | e <;> rw [e] at hk0 <;> omega
      · rw [hlin, hfd]; rcases hE with e | e | e <;> rw [e] at hk0 ⊢ <;> omega
      · rw [hlin, hfd]; rcases hE with e | e | e <;> rw [e] at hk0 ⊢ <;> omega
    obtain ⟨k1, k2, k3, k4⟩ := hk
    rw [wrap_id (x := k0) (by omega)]
    refine Ok.loop (fun m x => ∃ k, x = ((t, k, ()), zoneV off, l, ()) ∧ -1 ≤ k ∧ k ≤ k0 ∧ (k = -1 ∨ k0 - 3 ≤ k) ∧ t < handS off l (k + 1) ∧ m = (k - (k0 - 4)).toNat) (m := 4) (by omega) ⟨k0, rfl, by omega, by omega, by omega, k4, by omega⟩ ?_
    rintro m x ⟨k, rfl, a1, a2, a3, a4, rfl⟩ K hK
    dsimp only
    refine Ok.ite (fun hpos => ?_) (fun hz => ?_)
    · refine Ok.j (Ok.opt (qHand (k := k) hl ho (by omega) hu) fun ⟨v, b⟩ ⟨g1, g2⟩ => ?_)
      dsimp only at g1 g2 ⊢
      have down : ¬ handS off l k ≤ t → Ok (K ((t, IntKind.wrap .i64 (k - 1), ()), zoneV off, l, ())) (· = shiftV off l t) := fun hgt => by
        rw [wrap_id (x := k - 1) (by omega)]
        have hne : ¬ k ≤ k0 - 3 := fun h => hgt (k3 k hpos h)
        exact hK _ _ (by omega) ⟨k - 1, rfl, by omega, by omega, by omega, by rw [show k - 1 + 1 = k by omega]; omega, rfl⟩
      by_cases hm : handS off l k ≤ 8589934592
      · have hb : b = true := by rw [g1]; simp [hm]
        subst hb
        rw [g2 rfl]
        refine Ok.t (Ok.ite (fun hle => ?_) (fun hgt => down hgt))
        exact Ok.s (shift_is hl hpos hle a4).symm
      · have hb : b = false := by rw [g1]; simp [hm]
        subst hb
        exact Ok.f (down (by omega))
    · obtain rfl : k = -1 := by omega
      exact Ok.s (shift_no (by simpa using a4)).symm
variable {n : Nat} {c : D.Config}
theorem qCheck10 (hl : LayerOK l) (ho : OffOK off) : r10_Check 1000 (zoneV off) l = some 0 := by
  have h1 := hl.day; have h2 := hl.second; have h3 := hl.unit; have h4 := hl.every; have h5 := hl.len
  have hz : r04_Check 1000 (zoneV off) = some 0 := by unfold r04_Check; rw [qTrans ho, optc_s]
  refine Ok.eq ?_
  unfold r10_Check
  (repeat (first | with_reducible refine Ok.j ?_ | with_reducible refine Ok.t ?_ | with_reducible refine Ok.f ?_ | with_reducible refine Ok.nt rfl ?_ | with_reducible refine Ok.nf rfl ?_ | with_reducible refine Ok.oe (hz) ?_ | (with_reducible refine Ok.p ?hh ?_; case hh => (first | omega | decide | assumption | (dsimp only; omega) | (simp; done))) | (with_reducible refine Ok.n ?hh ?_; case hh => (first | omega | decide | assumption | (dsimp only; omega) | (simp; done))) | (with_reducible refine Ok.np ?hh ?_; case hh => (first | omega | decide | assumption | (dsimp only; omega) | (simp; done))) | (with_reducible refine Ok.nn ?hh ?_; case hh => (first | omega | decide | assumption | (dsimp only; omega) | (simp; done))) | (with_reducible refine Ok.nzc ?hh ?_; case hh => first | omega | decide) | with_reducible refine Ok.sameC ?_ | with_reducible refine Ok.os ?_))
  exact Ok.s rfl
theorem qLook (h : CfgOK n c) (hl : LayerOK l) (ht : 0 ≤ t ∧ t ≤ 8589934592) : r11_look 1000 c l t = some (if shiftV (offOf c) l t < 0 then (0, false) else (shiftV (offOf c) l t, true)) := by
  have hS : r10_Shift 1000 (zoneV (offOf c)) l t = some (shiftV (offOf c) l t, 0) := by
    refine Ok.eq ?_
    unfold r10_Shift
    refine Ok.oe (qCheck10 hl h.offs) (Ok.n (by decide) (Ok.j (Ok.n (by omega) (Ok.n (by omega) ?_))))
    exact Ok.oe (qShift hl h.offs ht) (Ok.s rfl)
  refine Ok.eq ?_
  unfold r11_look
  rw [h.zones.1, hl.zone]
  refine Ok.atn (i := 0) (by simp) (Ok.oe (hS : r10_Shift 1000 (nth [(⟨bZ, offOf c, []⟩ : D.Zone)] 0) l t = _) ?_)
  refine Ok.j (Ok.n (by decide) ?_)
  by_cases hs : shiftV (offOf c) l t < 0
  · exact Ok.p hs (Ok.s (by rw [if_pos hs]))
  · refine Ok.n hs ?_
    rw [hl.win]
    refine Ok.n (by simp) ?_
    dsimp only
    exact Ok.p hl.cal.2 (Ok.s (by rw [if_neg hs]))
theorem qRaw (h : CfgOK n c) (hl : LayerOK l) (ht : 0 ≤ t ∧ t ≤ 8589934592) : r11_Raw 1000 c l t = some (dutyV (offOf c) l t) := by
  have hlen := hl.len
  refine Ok.eq ?_
  unfold r11_Raw
  refine Ok.oe (qLook h hl ht) ?_
  by_cases hs : shiftV (offOf c) l t < 0
  · rw [if_pos hs]
    refine Ok.nf rfl (Ok.s ?_)
    unfold dutyV
    rw [if_pos hs]
  · rw [if_neg hs]
    refine Ok.nt rfl (Ok.nzc (by omega) ?_)
    rw [dutyAt hl hs]
    exact Ok.s rfl
theorem qAway {s : D.Schedule} {p : Int} (hs : s.Edits.length < 900) : r12_Away 1000 s p t = some (awayV s.Edits p t) := by
  refine Ok.eq ?_
  unfold r12_Away
  refine Ok.scan s.Edits.length (fun i => ((p, t, (i : Int), ()), s, ())) (fun i => awayX p t (nth s.Edits i)) rfl (by omega) (fun i hi hq _ k => ?_) (fun i hi hq k hk => ?_) (fun hq k => ?_)
  · refine Ok.p (by omega) (Ok.j (Ok.atn hi ?_))
    have hq' := hq
    simp only [awayX, Bool.and_eq_true, decide_eq_true_eq] at hq'
    exact Ok.p hq'.1.1.1 (Ok.p hq'.1.1.2 (Ok.p hq'.1.2 (Ok.p hq'.2 (Ok.s (by unfold awayV; rw [any_yes hi hq])))))
  · refine Ok.p (by omega) (Ok.j (Ok.atn hi ?_))
    dsimp only
    rw [wrap_succ (by omega)]
    have hq' : ¬ ((nth s.Edits i).Kind = 0 ∧ (nth s.Edits i).A = p ∧ (nth s.Edits i).From ≤ t ∧ t < (nth s.Edits i).To) := fun ⟨a, b, c, d⟩ => by
      simp [awayX, a, b, c, d] at hq
    refine Ok.ite (fun g1 => Ok.ite (fun g2 => Ok.ite (fun g3 => Ok.ite (fun g4 => absurd ⟨g1, g2, g3, g4⟩ hq') (fun _ => hk)) (fun _ => hk)) (fun _ => hk)) (fun _ => hk)
  · refine Ok.n (by omega) (Ok.s ?_)
    unfold awayV
    rw [any_no hq]
theorem qFold {es : List D.Edit} {p : Int} (hs : es.length < 900) : r13_Fold 1000 es p t = some (foldV es p t) := by
  refine Ok.eq ?_
  unfold r13_Fold
  refine Ok.run es.length (fun i => ((es, foldV (es.take i) p t, t, (i : Int), ()), ())) (by simp [foldV]) (by omega) (fun i hi k hk => ?_) (fun k => ?_)
  · refine Ok.p (by omega) (Ok.j (Ok.atn hi ?_))
    dsimp only
    rw [wrap_succ (by omega)]
    rw [foldV_snoc hi] at hk
    have hfold : ∀ v, v = foldS t (foldV (es.take i) p t) (nth es i) → Ok (k ((es, v, t, ((i + 1 : Nat) : Int), ()), ())) (· = foldV es p t) := fun v e => by rw [e]; exact hk
    refine Ok.ite (fun h1 => hfold _ ?_) fun h1 => Ok.ite (fun h2 => hfold _ ?_) fun h2 => Ok.ite (fun h3 => hfold _ ?_) fun h3 => Ok.ite (fun h4 => Ok.ite (fun h5 => hfold _ ?_) fun h5 => Ok.p h4 (Ok.ite (fun h6 => hfold _ ?_) fun h6 => hfold _ ?_)) fun h4 => Ok.n h4 (hfold _ ?_)
    all_goals unfold foldS
    · rw [if_pos (by omega)]
    · rw [if_pos (by omega)]
    · rw [if_neg (by omega), if_pos h3]
    · rw [if_neg (by omega), if_neg h3, if_neg (by omega), if_pos h5]
    · rw [if_neg (by omega), if_neg h3, if_neg (by omega), if_neg h5, if_pos h6]
    · rw [if_neg (by omega), if_neg h3, if_neg (by omega), if_neg h5, if_neg h6]
    · by_cases h7 : (nth es i).Kind = 0
      · rw [if_pos (.inr h7)]
      · rw [if_neg (by omega), if_neg h3, if_pos h4]
  · refine Ok.n (by omega) (Ok.s ?_)
    rw [List.take_length]
theorem qTop {i : Int} (h : CfgOK n c) (hn : n ≤ 48) (hi : 0 ≤ i ∧ i < 2) (ht : 0 ≤ t ∧ t ≤ 8589934592) : Ok (r12_Top 1000 c i t) fun r => r.2 = layP (offOf c) (nth c.Schedules i.toNat) t := by
  have hsl := h.slen
  have hs := h.sch (i := i.toNat) (by omega)
  obtain ⟨l, hl1, hl2⟩ := hs.layers
  have hlen := hs.len
  unfold r12_Top layP
  refine Ok.at (by omega) (by omega) ?_
  rw [hl1, show nth [l] 0 = l from rfl, show IntKind.wrap .i64 (((List.length [l] : Nat) : Int) - 1) = 0 from by rw [wrap_id (by simp)]; simp]
  obtain ⟨s, hsd⟩ : ∃ s, nth c.Schedules i.toNat = s := ⟨_, rfl⟩
  rw [hsd] at hl1 hlen ⊢
  refine Ok.loop (fun m x => x = ((t, 0, ()), c, s, ()) ∧ m = 1 ∨ x = ((t, -1, ()), c, s, ()) ∧ m = 0 ∧ ¬ (0 ≤ dutyV (offOf c) l t ∧ awayV s.Edits (dutyV (offOf c) l t) t = false)) (m := 1) (by omega) (.inl ⟨rfl, rfl⟩) ?_
  rintro m x (⟨rfl, rfl⟩ | ⟨rfl, rfl, hno⟩) K hK
  · dsimp only
    rw [hl1]
    refine Ok.p (by omega) (Ok.j (Ok.atn (i := 0) (by simp) (Ok.oe (qRaw h hl2 ht : r11_Raw 1000 c (nth [l] 0) t = _) ?_)))
    have hnx : ¬ (0 ≤ dutyV (offOf c) l t ∧ awayV s.Edits (dutyV (offOf c) l t) t = false) → Ok (K ((t, IntKind.wrap .i64 (0 - 1), ()), c, s, ())) fun r => r.2 = if 0 ≤ dutyV (offOf c) l t ∧ awayV s.Edits (dutyV (offOf c) l t) t = false then dutyV (offOf c) l t else -1 := fun hno => hK 0 _ (by omega) (.inr ⟨rfl, rfl, hno⟩)
    refine Ok.ite (fun h1 => Ok.oe (qAway (by omega)) (Ok.cnd (fun h2 => hnx (fun h => by have := h.2.symm.trans h2; simp at this)) (fun h2 => Ok.s (by rw [if_pos ⟨h1, h2⟩]; rfl)))) (fun h1 => hnx (fun h => h1 h.1))
  · dsimp only
    exact Ok.n (by omega) (Ok.s (by rw [if_neg hno]))
theorem whoR_is {i : Int} (h : CfgOK n c) (hn : n ≤ 48) : r14_Who 1000 c i t = some (whoV c i t) := by
  have hsl := h.slen
  have key : Ok (r13_Who 1000 c i t) (· = whoV c i t) := by
    unfold r13_Who r12_Ok whoV
    by_cases hc : 0 ≤ i ∧ i < 2 ∧ 0 ≤ t ∧ t ≤ 8589934592
    · rw [if_pos hc, cnd_p hc.1, cnd_p (by omega), cnd_p hc.2.2.1, cnd_p hc.2.2.2, check8_ok h hn, optc_s, cnd_p rfl, optc_s]
      refine Ok.nt rfl ?_
      unfold r13_Raw
      have hs := h.sch (i := i.toNat) (by omega)
      have hlen := hs.len
      refine Ok.opt (P := (· = whoS (offOf c) (nth c.Schedules i.toNat) t)) ?_ fun r hr => Ok.s hr
      refine Ok.opt (qTop h hn ⟨hc.1, hc.2.1⟩ hc.2.2) fun ⟨a, p⟩ hp => ?_
      dsimp only at hp ⊢
      refine Ok.at (by omega) (by omega) (Ok.oe (qFold (by omega)) (Ok.s ?_))
      unfold whoS
      rw [hp]
    · rw [if_neg hc]
      have hf : AM.cnd (decide (0 ≤ i)) (AM.cnd (decide (i < ((c.Schedules.length : Nat) : Int))) (AM.cnd (decide (0 ≤ t)) (AM.cnd (decide (t ≤ 8589934592)) (optc (r08_Check 1000 c) fun a0 => AM.cnd (decide (a0 = 0)) (some true) (some false)) (some false)) (some false)) (some false)) (some false) = some false := by
        rw [hsl]
        by_cases h1 : 0 ≤ i
        · rw [cnd_p h1]
          by_cases h2 : i < ((2 : Nat) : Int)
          · rw [cnd_p h2]
            by_cases h3 : 0 ≤ t
            · rw [cnd_p h3, cnd_n (by omega)]
            · rw [cnd_n h3]
          · rw [cnd_n h2]
        · rw [cnd_n h1]
      rw [hf, optc_s]
      exact Ok.nf rfl (Ok.s rfl)
  unfold r14_Who
  rw [Ok.eq key, optc_s]
end Go.Proofs.YtfhcigjkfelnfaaGreat
/-
  Whether a person of a crew may be called: what the program and the reference compute.
-/
set_option maxRecDepth 100000
set_option linter.unusedVariables false
set_option linter.unusedSimpArgs false
namespace Go.Proofs.YtfhcigjkfelnfaaGreat
open Go AM
variable {off t p : Int} {n : Nat} {c : D.Config} {ur : Bool}
end Go.Proofs.YtfhcigjkfelnfaaGreat
/-
  Lists that are changed in place: what filtering, sorting by insertion and leaving out neighbours that are equal keep. Plain.
-/
set_option maxRecDepth 100000
set_option linter.unusedVariables false
set_option linter.unusedSimpArgs false
namespace Go.Proofs.YtfhcigjkfelnfaaGreat
open Go AM
theorem take_succ_nth {l : List Int} {i : Nat} (h : i < l.length) : l.take (i + 1) = l.take i ++ [nth l i] := (take_snoc' h).symm
structure DelInv (p0 : List Int) (q : Int → Bool) (w j : Nat) (a : List Int) : Prop where
  len : a.length = p0.length
  wj : w ≤ j ∧ j ≤ p0.length
  done : a.take w = (p0.take j).filter q
  rest : ∀ k, j ≤ k → nth a k = nth p0 k
theorem filter_all {l : List Int} {q : Int → Bool} {i : Nat} (hi : i ≤ l.length) (h : ∀ j, j < i → q (nth l j) = true) : (l.take i).filter q = l.take i := by
  refine List.filter_eq_self.2 fun x hx => ?_
  obtain ⟨k, hk, rfl⟩ := List.getElem_of_mem hx
  rw [List.length_take] at hk
  have := h k (by omega)
  simpa [nth, List.getD_eq_getElem?_getD, List.getElem?_eq_getElem (show k < l.length by omega)] using this
theorem del_start {p0 : List Int} {q : Int → Bool} {i : Nat} (hi : i < p0.length) (h : ∀ j, j < i → q (nth p0 j) = true) (hx : q (nth p0 i) = false) : DelInv p0 q i (i + 1) p0 := by
  refine ⟨rfl, by omega, ?_, fun k _ => rfl⟩
  rw [take_succ_nth hi, List.filter_append, filter_all (by omega) h]
  simp [hx]
theorem del_keep {p0 a : List Int} {q : Int → Bool} {w j : Nat} (h : DelInv p0 q w j a) (hj : j < p0.length) (hx : q (nth a j) = true) : DelInv p0 q (w + 1) (j + 1) (a.set w (nth a j)) := by
  have h1 := h.wj
  have h2 := h.len
  refine ⟨by simp [h.len], by omega, ?_, fun k hk => ?_⟩
  · rw [h.rest j (Nat.le_refl _)] at hx ⊢
    rw [take_succ_nth hj, List.filter_append, ← h.done, take_succ_nth (by simp; omega), nth_set (by omega), if_pos rfl, List.take_set_of_le (by omega)]
    simp [hx]
  · rw [nth_set (by omega), if_neg (by omega)]; exact h.rest k (by omega)
theorem del_skip {p0 a : List Int} {q : Int → Bool} {w j : Nat} (h : DelInv p0 q w j a) (hj : j < p0.length) (hx : q (nth a j) = false) : DelInv p0 q w (j + 1) a := by
  have h1 := h.wj
  refine ⟨h.len, by omega, ?_, fun k hk => h.rest k (by omega)⟩
  rw [h.rest j (Nat.le_refl _)] at hx
  rw [take_succ_nth hj, List.filter_append, ← h.done]
  simp [hx]
def InTo (l : List Int) (m : Nat) (z : Int) : Prop := ∃ k, k < m ∧ nth l k = z
theorem inTo_mem {l : List Int} {m : Nat} {z : Int} (hm : m ≤ l.length) : InTo l m z ↔ z ∈ l.take m := by
  constructor
  · rintro ⟨k, hk, rfl⟩
    have : nth (l.take m) k = nth l k := by
      simp only [nth, List.getD_eq_getElem?_getD, List.getElem?_take]
      rw [if_pos hk]
    rw [← this]
    exact nth_mem (by simp; omega)
  · intro h
    obtain ⟨k, hk, rfl⟩ := List.getElem_of_mem h
    rw [List.length_take] at hk
    exact ⟨k, by omega, by simp [nth, List.getD_eq_getElem?_getD, List.getElem?_eq_getElem (show k < l.length by omega)]⟩
theorem swap_into {l : List Int} {j m : Nat} {z : Int} (h1 : 1 ≤ j) (hj : j < l.length) (hm : j < m) : InTo (swapL l j) m z ↔ InTo l m z := by
  unfold InTo
  constructor
  · rintro ⟨k, hk, e⟩
    rw [nth_swap h1 hj] at e
    split at e
    · exact ⟨j, hm, e⟩
    · split at e
      · exact ⟨j - 1, by omega, e⟩
      · exact ⟨k, hk, e⟩
  · rintro ⟨k, hk, e⟩
    by_cases g1 : k = j
    · subst g1; exact ⟨k - 1, by omega, by rw [nth_swap h1 hj, if_pos rfl]; exact e⟩
    · by_cases g2 : k = j - 1
      · subst g2; exact ⟨j, hm, by rw [nth_swap h1 hj, if_neg (by omega), if_pos rfl]; exact e⟩
      · exact ⟨k, hk, by rw [nth_swap h1 hj, if_neg g2, if_neg g1]; exact e⟩
def AscTo (l : List Int) (n : Nat) : Prop := ∀ k, 1 ≤ k → k < n → nth l (k - 1) < nth l k
theorem ascTo_take {l : List Int} {n : Nat} (hn : n ≤ l.length) (h : AscTo l n) : Asc (l.take n) := by
  have hnth : ∀ k, k < n → nth (l.take n) k = nth l k := fun k hk => by
    simp only [nth, List.getD_eq_getElem?_getD, List.getElem?_take]
    rw [if_pos hk]
  have hlt : ∀ b, b < n → ∀ a, a < b → nth l a < nth l b := by
    intro b
    induction b with
    | zero => intro _ a ha; omega
    | succ b ih =>
      intro hb a ha
      have h1 := h (b + 1) (by omega) hb
      rw [Nat.add_sub_cancel] at h1
      by_cases e : a = b
      · subst e; exact h1
      · have := ih (by omega) a (by omega); omega
  have hl : (l.take n).length = n := by simp; omega
  refine asc_of (fun a b hab hb => ?_) (fun k h1 h2 => ?_)
  · rw [hl] at hb; rw [hnth a (by omega), hnth b hb]; have := hlt b hb a hab; omega
  · rw [hl] at h2; rw [hnth _ (by omega), hnth k h2]; have := h k h1 h2; omega
structure CmpInv (p0 : List Int) (m o i k : Nat) (a : List Int) : Prop where
  len : a.length = p0.length
  ik : 1 ≤ i ∧ i < o + k ∧ o + k ≤ m ∧ 1 ≤ k
  rest : ∀ j, o + k ≤ j + 1 → nth a j = nth p0 j
  asc : AscTo a i
  last : nth a (i - 1) = nth p0 (o + k - 1)
  mem : ∀ z, InTo a i z ↔ InTo p0 (o + k) z
theorem cmp_start {p0 : List Int} {m o : Nat} (ho : 1 ≤ o) (hm : o < m) (ha : AscTo p0 o) (he : nth p0 o = nth p0 (o - 1)) : CmpInv p0 m o o 1 p0 := by
  refine ⟨rfl, by omega, fun _ _ => rfl, ha, by rw [Nat.add_sub_cancel]; exact he.symm, fun z => ⟨?_, ?_⟩⟩
  · rintro ⟨k, hk, e⟩; exact ⟨k, by omega, e⟩
  · rintro ⟨k, hk, e⟩
    by_cases h : k = o
    · subst h; exact ⟨k - 1, by omega, by rw [← he]; exact e⟩
    · exact ⟨k, by omega, e⟩
theorem cmp_new {p0 a : List Int} {m o i k : Nat} (h : CmpInv p0 m o i k a) (hk : o + k < m) (hml : m ≤ p0.length) (hs : SortedTo p0 m) (hne : nth a (o + k) ≠ nth a (o + k - 1)) : CmpInv p0 m o (i + 1) (k + 1) (a.set i (nth a (o + k))) := by
  have h1 := h.ik
  have h2 := h.len
  have e1 := h.rest (o + k) (by omega)
  have e2 := h.rest (o + k - 1) (by omega)
  have hlt : nth p0 (o + k - 1) < nth p0 (o + k) := by
    have := hs (o + k - 1) (o + k) (by omega) hk
    rw [e1, e2] at hne; omega
  have hset : ∀ j, nth (a.set i (nth a (o + k))) j = if j = i then nth p0 (o + k) else nth a j := fun j => by rw [nth_set (by omega), e1]
  refine ⟨by simp [h.len], by omega, fun j hj => ?_, fun j hj1 hj2 => ?_, ?_, fun z => ⟨?_, ?_⟩⟩
  · rw [hset, if_neg (by omega)]; exact h.rest j (by omega)
  · rw [hset, hset, if_neg (show j - 1 ≠ i by omega)]
    by_cases e : j = i
    · rw [if_pos e, e, h.last]; exact hlt
    · rw [if_neg e]; exact h.asc j hj1 (by omega)
  · rw [hset, Nat.add_sub_cancel, if_pos rfl, show o + (k + 1) - 1 = o + k by omega]
  · rintro ⟨j, hj, e⟩
    rw [hset] at e
    split at e
    · exact ⟨o + k, by omega, e⟩
    · obtain ⟨j', hj', e'⟩ := (h.mem z).1 ⟨j, by omega, e⟩
      exact ⟨j', by omega, e'⟩
  · rintro ⟨j, hj, e⟩
    by_cases g : j = o + k
    · exact ⟨i, by omega, by rw [hset, if_pos rfl, ← g]; exact e⟩
    · obtain ⟨j', hj', e'⟩ := (h.mem z).2 ⟨j, by omega, e⟩
      exact ⟨j', by omega, by rw [hset, if_neg (by omega)]; exact e'⟩
theorem cmp_old {p0 a : List Int} {m o i k : Nat} (h : CmpInv p0 m o i k a) (hk : o + k < m) (he : nth a (o + k) = nth a (o + k - 1)) : CmpInv p0 m o i (k + 1) a := by
  have h1 := h.ik
  have e1 := h.rest (o + k) (by omega)
  have e2 := h.rest (o + k - 1) (by omega)
  have e3 : nth p0 (o + k) = nth p0 (o + k - 1) := by rw [← e1, ← e2]; exact he
  refine ⟨h.len, by omega, fun j hj => h.rest j (by omega), h.asc, by rw [h.last, show o + (k + 1) - 1 = o + k by omega]; exact e3.symm, fun z => ⟨fun hz => ?_, ?_⟩⟩
  · obtain ⟨j', hj', e'⟩ := (h.mem z).1 hz
    exact ⟨j', by omega, e'⟩
  · rintro ⟨j, hj, e⟩
    by_cases g : j = o + k
    · exact (h.mem z).2 ⟨o + k - 1, by omega, by rw [← e3, ← g]; exact e⟩
    · exact (h.mem z).2 ⟨j, by omega, e⟩
end Go.Proofs.YtfhcigjkfelnfaaGreat
/-
  People whom targets mean: what the program and the reference compute.
-/
set_option maxRecDepth 100000
set_option linter.unusedVariables false
set_option linter.unusedSimpArgs false
namespace Go.Proofs.YtfhcigjkfelnfaaGreat
open Go AM
variable {t p : Int} {n : Nat} {c : D.Config} {b : D.Book}
theorem less_is {x y : Int} : cmp_Less_int 1000 x y = some (decide (x < y)) := by
  unfold cmp_Less_int cmp_isNaN_int
  by_cases h : x < y <;> simp [optc, AM.cnd, h]
theorem isort_ok {l0 : List Int} {m : Nat} (hm : m ≤ l0.length) (hs : m ≤ 900) :
    Ok (slices_insertionSortOrdered_int_0v 1000 0 m l0 0 (m : Int)) fun r => r.length = l0.length ∧ SortedTo r m ∧ ∀ z, InTo r m z ↔ InTo l0 m z := by
  unfold slices_insertionSortOrdered_int_0v
  refine Ok.loop (fun q x => ∃ i a, x = ((0, m, 0, (m : Int), ((i : Nat) : Int), ()), a, ()) ∧ 1 ≤ i ∧ a.length = l0.length ∧ SortedTo a (min i m) ∧ (∀ z, InTo a m z ↔ InTo l0 m z) ∧ q = m + 1 - i) (m := m) (by omega)
    ⟨1, l0, by rw [wrap_id (by omega)]; rfl, by omega, rfl, fun a b h1 h2 => by omega, fun z => Iff.rfl, by omega⟩ ?_
  rintro q x ⟨i, a, rfl, h1, h2, h3, h4, rfl⟩ K hK
  dsimp only
  refine Ok.ite (fun hi => ?_) (fun hi => Ok.s ⟨h2, by rw [show min i m = m by omega] at h3; exact h3, h4⟩)
  have hlt : i < m := by omega
  rw [show min i m = i by omega] at h3
  refine Ok.j ?_
  refine Ok.loop (fun q x => ∃ j a', x = ((0, m, 0, (m : Int), ((i : Nat) : Int), ((j : Nat) : Int), ()), a', ()) ∧ j ≤ i ∧ a'.length = l0.length ∧ ButFor a' (i + 1) j ∧ (∀ z, InTo a' m z ↔ InTo l0 m z) ∧ q = j) (m := i) (by omega)
    ⟨i, a, rfl, by omega, h2, butfor_start h3, h4, rfl⟩ ?_
  rintro q x ⟨j, a', rfl, g1, g2, g3, g4, hqj⟩ K2 hK2
  dsimp only
  have fin : (j = 0 ∨ nth a' (j - 1) ≤ nth a' j) → Ok (K ((0, m, 0, (m : Int), IntKind.wrap .i64 ((i : Int) + 1), ()), a', ())) fun r => r.length = l0.length ∧ SortedTo r m ∧ ∀ z, InTo r m z ↔ InTo l0 m z := fun he => by
    rw [wrap_succ (by omega)]
    exact hK (m + 1 - (i + 1)) _ (by omega) ⟨i + 1, a', rfl, by omega, g2, by rw [show min (i + 1) m = i + 1 by omega]; exact butfor_end g3 he, g4, rfl⟩
  refine Ok.j (Ok.ite (fun hj => ?_) (fun hj => fin (.inl (by omega))))
  have hw : IntKind.wrap .i64 ((j : Int) - 1) = ((j - 1 : Nat) : Int) := by rw [wrap_id (by omega)]; omega
  rw [hw]
  refine Ok.natn (Ok.lt (by omega) ?_)
  rw [Nat.zero_add]
  refine Ok.get (by omega) (Ok.natn (Ok.lt (by omega) ?_))
  rw [Nat.zero_add]
  refine Ok.get (by omega) (Ok.oe less_is (Ok.ite (fun hless => ?_) (fun hless => fin (.inr (by omega)))))
  dsimp only
  rw [hw]
  refine Ok.natn (Ok.lt (by omega) ?_)
  rw [Nat.zero_add]
  refine Ok.get (by omega) (Ok.natn (Ok.lt (by omega) ?_))
  refine Ok.get (by omega) (Ok.natn (Ok.lt (by omega) ?_))
  refine Ok.get (by omega) (Ok.natn (Ok.lt (by omega) ?_))
  refine Ok.get (by simp; omega) ?_
  have hsw : (a'.set (0 + j) (nth a' (j - 1))).set (0 + (j - 1)) (nth a' (0 + j)) = swapL a' j := by simp only [Nat.zero_add]; rfl
  rw [hsw]
  exact hK2 (j - 1) _ (by omega) ⟨j - 1, swapL a' j, rfl, by omega, by rw [swap_len]; exact g2, butfor_step g3 (by omega) (by omega) (by omega) hless, fun z => (swap_into (by omega) (by omega) (by omega)).trans (g4 z), rfl⟩
theorem bits_ok : ∀ m : Nat, m < 13 → (math_bits_Len 1000 (IntKind.wrap .u64 ((m : Nat) : Int))).isSome = true := by decide
theorem sort_ok {l0 : List Int} {m : Nat} (hm : m ≤ l0.length) (hs : m ≤ 12) :
    Ok (slices_Sort_int_0v 1000 0 m l0) fun r => r.length = l0.length ∧ SortedTo r m ∧ ∀ z, InTo r m z ↔ InTo l0 m z := by
  unfold slices_Sort_int_0v
  rw [Nat.sub_zero]
  obtain ⟨bv, hb⟩ := Option.isSome_iff_exists.1 (bits_ok m (by omega))
  refine Ok.oe hb (Ok.opt (P := fun r => r.length = l0.length ∧ SortedTo r m ∧ ∀ z, InTo r m z ↔ InTo l0 m z) ?_ fun r hr => Ok.ck hr.1 (Ok.s hr))
  unfold slices_pdqsortOrdered_int_0v
  refine Ok.loop (fun q x => x = ((0, m, 0, (m : Int), bv, true, true, ()), l0, ())) (m := 0) (by omega) rfl ?_
  rintro q x rfl K hK
  dsimp only
  refine Ok.p (by rw [wrap_id (by omega)]; omega) (Ok.opt (isort_ok hm (by omega)) fun r hr => Ok.ck hr.1 (Ok.s hr))
theorem compact_ok {l0 : List Int} {m : Nat} (hm : m ≤ l0.length) (hs : m ≤ 900) (hl : l0.length ≤ 34359738368) (hso : SortedTo l0 m) :
    Ok (slices_Compact_int_0v 1000 0 m l0) fun r => r.1 = 0 ∧ r.2.1 ≤ m ∧ r.2.2.length = l0.length ∧ Asc (r.2.2.take r.2.1) ∧ ∀ z, z ∈ r.2.2.take r.2.1 ↔ InTo l0 m z := by
  have done : ∀ (a : List Int) (i : Nat), a.length = l0.length → i ≤ m → AscTo a i → (∀ z, InTo a i z ↔ InTo l0 m z) → Asc (a.take i) ∧ ∀ z, z ∈ a.take i ↔ InTo l0 m z := fun a i h1 h2 h3 h4 =>
    ⟨ascTo_take (by omega) h3, fun z => by rw [← inTo_mem (by omega)]; exact h4 z⟩
  unfold slices_Compact_int_0v
  rw [Nat.sub_zero]
  refine Ok.ite (fun h => Ok.s ⟨rfl, Nat.le_refl _, rfl, done l0 m rfl (Nat.le_refl _) (fun k h1 h2 => by omega) fun z => Iff.rfl⟩) fun h => ?_
  refine Ok.loop (fun q x => ∃ i : Nat, x = ((0, m, ((i : Nat) : Int), ()), l0, ()) ∧ 1 ≤ i ∧ i ≤ m ∧ AscTo l0 i ∧ q = m - i) (m := m - 1) (by omega) ⟨1, rfl, by omega, by omega, fun k h1 h2 => by omega, rfl⟩ ?_
  rintro q x ⟨i, rfl, h1, h2, h3, rfl⟩ K hK
  dsimp only
  rw [Nat.sub_zero]
  refine Ok.ite (fun hi => ?_) (fun hi => ?_)
  · have hw : IntKind.wrap .i64 ((i : Int) - 1) = ((i - 1 : Nat) : Int) := by rw [wrap_id (by omega)]; omega
    rw [hw]
    refine Ok.natn (Ok.lt (by omega) ?_)
    rw [Nat.zero_add]
    refine Ok.get (by omega) (Ok.natn (Ok.lt (by omega) ?_))
    rw [Nat.zero_add]
    refine Ok.get (by omega) (Ok.ite (fun he => ?_) (fun hne => ?_))
    · refine Ok.natn (Ok.lt (by omega) ?_)
      rw [Nat.zero_add, Nat.zero_add]
      refine Ok.loop (fun q x => ∃ (w k : Nat) (a : List Int), x = ((0, m, ((w : Nat) : Int), i, m, ((k : Nat) : Int), ()), a, ()) ∧ CmpInv l0 m i w k a ∧ q = m - i - k) (m := m - i - 1) (by omega) ⟨i, 1, l0, rfl, cmp_start h1 (by omega) h3 he, rfl⟩ ?_
      rintro q x ⟨w, k, a, rfl, hinv, rfl⟩ K2 hK2
      have hik := hinv.ik
      have hal := hinv.len
      dsimp only
      refine Ok.ite (fun hk => ?_) (fun hk => ?_)
      · have hw2 : IntKind.wrap .i64 ((k : Int) - 1) = ((k - 1 : Nat) : Int) := by rw [wrap_id (by omega)]; omega
        rw [hw2]
        refine Ok.j (Ok.natn (Ok.lt (by omega) (Ok.get (by omega) (Ok.natn (Ok.lt (by omega) (Ok.get (by omega) ?_))))))
        refine Ok.ite (fun hd => ?_) (fun hd => ?_)
        · refine Ok.natn (Ok.lt (by omega) (Ok.get (by omega) (Ok.natn (Ok.lt (by omega) ?_))))
          rw [Nat.zero_add]
          refine Ok.get (by omega) ?_
          dsimp only
          rw [wrap_succ (by omega), wrap_succ (by omega)]
          exact hK2 (m - i - (k + 1)) _ (by omega) ⟨w + 1, k + 1, _, rfl, cmp_new hinv (by omega) hm hso (by rw [show i + k - 1 = i + (k - 1) by omega]; exact hd), rfl⟩
        · dsimp only
          rw [wrap_succ (by omega)]
          exact hK2 (m - i - (k + 1)) _ (by omega) ⟨w, k + 1, a, rfl, cmp_old hinv (by omega) (by rw [show i + k - 1 = i + (k - 1) by omega]; exact Decidable.not_not.1 hd), rfl⟩
      · have ek : i + k = m := by omega
        refine Ok.natn (Ok.lt (by omega) (Ok.lec (by omega) (Ok.lec (by omega) (Ok.natn (Ok.lec (by omega) (Ok.s ?_))))))
        simp only [Nat.zero_add, Nat.sub_zero, Nat.add_zero]
        have hd := done a w hal (by omega) hinv.asc (by rw [← ek]; exact hinv.mem)
        have ht : (List.take w a ++ List.replicate (m - w) 0 ++ List.drop m a).take w = a.take w := by
          rw [List.append_assoc, List.take_append_of_le_length (by simp; omega), List.take_take, Nat.min_self]
        refine ⟨trivial, by omega, by simp; omega, ?_, ?_⟩
        · rw [ht]; exact hd.1
        · rw [ht]; exact hd.2
    · rw [wrap_succ (by omega)]
      have hlt : nth l0 (i - 1) < nth l0 i := by
        have := hso (i - 1) i (by omega) (by omega); omega
      refine hK (m - (i + 1)) _ (by omega) ⟨i + 1, rfl, by omega, by omega, fun k a1 a2 => ?_, rfl⟩
      by_cases e : k = i
      · subst e; exact hlt
      · exact h3 k a1 (by omega)
  · obtain rfl : i = m := by omega
    exact Ok.s ⟨rfl, Nat.le_refl _, rfl, done l0 i rfl (Nat.le_refl _) h3 fun z => Iff.rfl⟩
def inC (x : Int) : Bool := decide (0 ≤ x ∧ x ≤ 3)
theorem pIn {fu : Nat} {n lo hi : Int} : policy_in fu n lo hi = some (decide (lo ≤ n ∧ n ≤ hi)) := cnd2
theorem people1 (h : CfgOK n c) {x : Int} : policy_People_1 1000 x c = some (!inC x) := by
  unfold policy_People_1
  rw [h.plen, show IntKind.wrap .i64 (((4 : Nat) : Int) - 1) = 3 from rfl, pIn, optc_s, sameC_p]
  rfl
theorem delP_ok (h : CfgOK n c) {l0 : List Int} (hl : l0.length ≤ 900) :
    Ok (slices_DeleteFunc_int_1Fpolicy_People_1_0 1000 l0 c) fun r => r.1 = 0 ∧ r.2.1 ≤ l0.length ∧ r.2.2.length = l0.length ∧ r.2.2.take r.2.1 = l0.filter inC := by
  unfold slices_DeleteFunc_int_1Fpolicy_People_1_0
  have hidx : Ok (slices_IndexFunc_int_1Fpolicy_People_1_0 1000 l0 c) fun r => r = -1 ∧ (∀ j, j < l0.length → inC (nth l0 j) = true) ∨ ∃ i : Nat, r = (i : Int) ∧ i < l0.length ∧ inC (nth l0 i) = false ∧ ∀ j, j < i → inC (nth l0 j) = true := by
    unfold slices_IndexFunc_int_1Fpolicy_People_1_0
    refine Ok.scan l0.length (fun i => ((((l0.length : Nat) : Int), (i : Int), ()), c, l0, ())) (fun i => !inC (nth l0 i)) rfl (by omega) (fun i hi hq hj k => ?_) (fun i hi hq k hk => ?_) (fun hq k => ?_)
    · refine Ok.p (by omega) (Ok.natn (Ok.lt hi (Ok.get hi (Ok.oe (people1 h) (Ok.bt hq (Ok.sameC (Ok.sameC (Ok.s (.inr ⟨i, rfl, hi, by simpa using hq, fun j hj' => by simpa using hj j hj'⟩)))))))))
    · refine Ok.p (by omega) (Ok.natn (Ok.lt hi (Ok.get hi (Ok.oe (people1 h) (Ok.bf hq ?_)))))
      rw [wrap_succ (by omega)]; exact hk
    · exact Ok.n (by omega) (Ok.sameC (Ok.sameC (Ok.s (.inl ⟨rfl, fun j hj => by simpa using hq j hj⟩))))
  refine Ok.opt hidx fun r hr => ?_
  rcases hr with ⟨rfl, hall⟩ | ⟨i, rfl, hi, hx, hj⟩
  · refine Ok.p rfl (Ok.sameC (Ok.s ⟨rfl, Nat.le_refl _, rfl, ?_⟩))
    have := filter_all (q := inC) (Nat.le_refl _) hall
    rw [List.take_length] at this ⊢
    exact this.symm
  · refine Ok.n (by omega) ?_
    rw [wrap_succ (by omega)]
    refine Ok.loop (fun q x => ∃ (w j : Nat) (a : List Int), x = ((((w : Nat) : Int), ((j : Nat) : Int), ()), c, a, ()) ∧ DelInv l0 inC w j a ∧ q = l0.length - j) (m := l0.length - (i + 1)) (by omega) ⟨i, i + 1, l0, rfl, del_start hi hj hx, rfl⟩ ?_
    rintro q x ⟨w, j, a, rfl, hinv, rfl⟩ K hK
    have h1 := hinv.wj
    have h2 := hinv.len
    dsimp only
    refine Ok.ite (fun hlt => ?_) (fun hge => ?_)
    · refine Ok.j (Ok.natn (Ok.lt (by omega) (Ok.get (by omega) (Ok.oe (people1 h) ?_))))
      rw [Bool.not_not]
      refine Ok.cnd (fun hq => ?_) (fun hq => ?_)
      · refine Ok.natn (Ok.lt (by omega) (Ok.get (by omega) ?_))
        dsimp only
        rw [wrap_succ (by omega), wrap_succ (by omega)]
        exact hK _ _ (by omega) ⟨w + 1, j + 1, _, rfl, del_keep hinv (by omega) hq, rfl⟩
      · dsimp only
        rw [wrap_succ (by omega)]
        exact hK _ _ (by omega) ⟨w, j + 1, a, rfl, del_skip hinv (by omega) hq, rfl⟩
    · have ej : j = l0.length := by omega
      have hd := hinv.done
      rw [ej, List.take_length] at hd
      refine Ok.natn (Ok.lec (by omega) (Ok.lec (by omega) (Ok.lec (by omega) (Ok.natn (Ok.lec (by simp; omega) (Ok.sameC (Ok.s ?_)))))))
      refine ⟨rfl, by dsimp only; omega, by simp; omega, ?_⟩
      dsimp only
      rw [List.append_assoc, List.take_append_of_le_length (by simp; omega), List.take_take, Nat.min_self]
      exact hd
def meantP (c : D.Config) (b : D.Book) (x : D.Target) (t : Int) : List Int := if x.Kind = 0 then [x.Index] else if x.Kind = 1 then [whoV c x.Index t] else (nth b.Teams x.Index.toNat).Members
theorem meant_ok {x : D.Target} (h : CfgOK n c) (hn : n ≤ 48) (hb : BookOK b) (hx : TargetOK b.Teams.length x) : policy_meant 1000 c b x t = some (meantP c b x t) := by
  have hpl := h.plen; have hsl := h.slen; have htl := hb.tlen
  have h1 := hx.lo; have h2 := hx.person; have h3 := hx.sched; have h4 := hx.team
  have hsz : policy_sizes 1000 c b = some ⟨4, 2, ((b.Teams.length : Nat) : Int)⟩ := by unfold policy_sizes; rw [hpl, hsl]; rfl
  refine Ok.eq ?_
  unfold policy_meant meantP
  refine Ok.j (Ok.oe pIn (Ok.p (by have := hx.kind; omega) (Ok.oe hsz ?_)))
  dsimp only
  rcases hx.kind with hk | hk | hk
  · have := h2 hk
    refine Ok.p (by omega) (Ok.oe pIn (Ok.p (by rw [wrap_id (by omega)]; omega) (Ok.n (by omega) (Ok.n (by omega) (Ok.s ?_)))))
    rw [if_pos hk]
  · have := h3 hk
    refine Ok.n (by omega) (Ok.p (by omega) (Ok.oe pIn (Ok.p (by rw [wrap_id (by omega)]; omega) (Ok.p hk (Ok.oe (who_is h hn) (Ok.s ?_))))))
    rw [if_neg (by omega), if_pos hk]
  · have := h4 hk
    refine Ok.n (by omega) (Ok.n (by omega) (Ok.p (by omega) (Ok.oe pIn (Ok.p (by rw [wrap_id (by omega)]; omega) (Ok.n (by omega) (Ok.p hk (Ok.at h1 (by omega) (Ok.s ?_))))))))
    rw [if_neg (by omega), if_neg (by omega)]
theorem meantP_len {x : D.Target} (hb : BookOK b) (hx : TargetOK b.Teams.length x) : (meantP c b x t).length ≤ 2 := by
  unfold meantP
  split
  · simp
  · split
    · simp
    · have h4 := hx.team (by have := hx.kind; omega)
      have h1 := hx.lo
      exact (hb.team _ (nth_mem (by omega))).len.2
theorem meantP_mem {x : D.Target} {z : Int} (h : CfgOK n c) (hx : TargetOK b.Teams.length x) (hz : 0 ≤ z ∧ z ≤ 3) : z ∈ meantP c b x t ↔ z ∈ meantV c b x t := by
  unfold meantP meantV
  have h1 := hx.lo; have h4 := hx.team
  rcases hx.kind with hk | hk | hk
  · rw [if_pos hk, if_pos hk]
  · rw [if_neg (by omega), if_pos hk, if_neg (by omega), if_pos hk]
    split
    · simp; omega
    · rfl
  · rw [if_neg (by omega), if_neg (by omega), if_neg (by omega), if_neg (by omega), if_pos ⟨hk, h1, h4 hk⟩]
theorem people_ok {l : List D.Target} (h : CfgOK n c) (hn : n ≤ 48) (hb : BookOK b) (hl : ∀ x ∈ l, TargetOK b.Teams.length x) (hlen : l.length ≤ 6) :
    Ok (policy_People 1000 c b l t) fun r => r.1 = 0 ∧ r.2.1 ≤ r.2.2.length ∧ r.2.2.length ≤ 12 ∧ r.2.2.take r.2.1 = peopleV c b l t := by
  unfold policy_People
  refine Ok.run l.length (fun i => ((t, l, ((l.length : Nat) : Int), (i : Int), ()), c, b, (l.take i).flatMap (fun x => meantP c b x t), ())) (by simp) (by omega) (fun i hi k hk => ?_) (fun k => ?_)
  · dsimp only
    have hx := hl _ (nth_mem hi)
    have hle : ((l.take i).flatMap (fun x => meantP c b x t)).length ≤ 2 * i := by
      rw [List.length_flatMap]
      have : ∀ (m : List D.Target), (∀ x ∈ m, TargetOK b.Teams.length x) → (m.map (fun x => (meantP c b x t).length)).sum ≤ 2 * m.length := by
        intro m hm
        induction m with
        | nil => simp
        | cons y m ih =>
          have h1 := meantP_len (c := c) (t := t) hb (hm y (List.mem_cons_self ..))
          have h2 := ih (fun x hx => hm x (List.mem_cons_of_mem _ hx))
          simp only [List.map_cons, List.sum_cons, List.length_cons]; omega
      have h3 := this (l.take i) (fun x hx => hl x (List.mem_of_mem_take hx))
      rw [List.length_take] at h3; omega
    have hm2 := meantP_len (c := c) (t := t) hb hx
    refine Ok.p (by omega) (Ok.atn hi (Ok.oe (meant_ok h hn hb hx) (Ok.lec (by omega) ?_)))
    rw [wrap_succ (by omega)]
    have e : (l.take i).flatMap (fun x => meantP c b x t) ++ meantP c b (nth l i) t = (l.take (i + 1)).flatMap (fun x => meantP c b x t) := by
      rw [← take_snoc' hi, List.flatMap_append]; simp
    rw [e]; exact hk
  · dsimp only
    rw [List.take_length]
    obtain ⟨L0, hL0⟩ : ∃ L0, l.flatMap (fun x => meantP c b x t) = L0 := ⟨_, rfl⟩
    have hle : L0.length ≤ 12 := by
      rw [← hL0, List.length_flatMap]
      have : ∀ (m : List D.Target), (∀ x ∈ m, TargetOK b.Teams.length x) → (m.map (fun x => (meantP c b x t).length)).sum ≤ 2 * m.length := by
        intro m hm
        induction m with
        | nil => simp
        | cons y m ih =>
          have h1 := meantP_len (c := c) (t := t) hb (hm y (List.mem_cons_self ..))
          have h2 := ih (fun x hx => hm x (List.mem_cons_of_mem _ hx))
          simp only [List.map_cons, List.sum_cons, List.length_cons]; omega
      have h3 := this l hl
      omega
    rw [hL0]
    refine Ok.n (by omega) (Ok.opt (delP_ok h (by omega)) fun ⟨a0, a1, a2⟩ ⟨g1, g2, g3, g4⟩ => ?_)
    dsimp only at g1 g2 g3 g4 ⊢
    subst g1
    refine Ok.opt (sort_ok (by omega) (by omega)) fun r ⟨s1, s2, s3⟩ => Ok.ck s1 ?_
    refine Ok.opt (compact_ok (by omega) (by omega) (by omega) s2) fun ⟨b0, b1, b2⟩ ⟨k1, k2, k3, k4, k5⟩ => Ok.s ?_
    dsimp only at k1 k2 k3 k4 k5 ⊢
    refine ⟨k1, by omega, by omega, peopleV_is k4 fun z => ?_⟩
    rw [k5, s3, inTo_mem (by omega), g4, List.mem_filter, ← hL0, List.mem_flatMap]
    unfold Means inC
    rw [decide_eq_true_eq]
    constructor
    · rintro ⟨⟨x, hx1, hx2⟩, hz⟩
      exact ⟨hz.1, by omega, x, hx1, (meantP_mem h (hl x hx1) hz).1 hx2⟩
    · rintro ⟨hz1, hz2, x, hx1, hx2⟩
      exact ⟨⟨x, hx1, (meantP_mem h (hl x hx1) ⟨hz1, by omega⟩).2 hx2⟩, hz1, by omega⟩
end Go.Proofs.YtfhcigjkfelnfaaGreat
/-
  People whom targets mean: what the reference computes; lists compared.
-/
set_option maxRecDepth 100000
set_option linter.unusedVariables false
set_option linter.unusedSimpArgs false
namespace Go.Proofs.YtfhcigjkfelnfaaGreat
open Go AM
variable {t p : Int} {n : Nat} {c : D.Config} {b : D.Book}
theorem withI_len {l : List Int} {x : Int} : ∀ i, (withI l x i).1.length ≤ 2 * i
  | 0 => by simp [withI]
  | i + 1 => by
    have := withI_len (l := l) (x := x) i
    simp only [withI, List.length_append]
    have h1 : (if (withI l x i).2 = false ∧ x ≤ nth l i then [x] else []).length ≤ 1 := by split <;> simp
    have h2 : (if nth l i ≠ x then [nth l i] else []).length ≤ 1 := by split <;> simp
    omega
theorem withR {l : List Int} {x : Int} (hl : l.length ≤ 400) : r25_With 1000 l x = some (withV l x) := by
  refine Ok.eq ?_
  unfold r25_With
  refine Ok.run l.length (fun i => ((l, x, (withI l x i).2, (i : Int), ()), (withI l x i).1, ())) rfl (by omega) (fun i hi k hk => ?_) (fun k => ?_)
  · dsimp only
    have hlen := withI_len (l := l) (x := x) i
    rw [withI] at hk
    refine Ok.p (by omega) (Ok.j (Ok.j ?_))
    have fin : ∀ (d : Bool) (o : List Int), o.length ≤ 2000 → d = ((withI l x i).2 || decide (x ≤ nth l i)) → o = (withI l x i).1 ++ (if (withI l x i).2 = false ∧ x ≤ nth l i then [x] else []) →
        Ok (atc l (i : Int) fun a17 => AM.cnd (decide (a17 ≠ x)) (atc l (i : Int) fun a18 => AM.lec (o.length + [a18].length) 34359738368 (k ((l, x, d, IntKind.wrap .i64 ((i : Int) + 1), ()), o ++ [a18], ()))) (k ((l, x, d, IntKind.wrap .i64 ((i : Int) + 1), ()), o, ()))) (· = withV l x) := fun d o ho hd he => by
      rw [wrap_succ (by omega)]
      rw [hd, he]
      refine Ok.atn hi (Ok.ite (fun h => Ok.atn hi (Ok.lec (by rw [← he]; simp; omega) ?_)) (fun h => ?_))
      · rw [if_pos h] at hk; exact hk
      · rw [if_neg h, List.append_nil] at hk; exact hk
    refine Ok.cnd (fun hd => ?_) (fun hd => Ok.atn hi (Ok.ite (fun hx => Ok.lec (by simp; omega) ?_) (fun hx => ?_)))
    · exact fin (withI l x i).2 (withI l x i).1 (by omega) (by rw [hd]; rfl) (by rw [hd]; simp)
    · exact fin true ((withI l x i).1 ++ [x]) (by simp; omega) (by rw [hd, decide_eq_true hx]; rfl) (by rw [if_pos ⟨hd, hx⟩])
    · exact fin (withI l x i).2 (withI l x i).1 (by omega) (by rw [hd, decide_eq_false hx]; rfl) (by rw [if_neg (fun h => hx h.2), List.append_nil])
  · dsimp only
    have hlen := withI_len (l := l) (x := x) l.length
    refine Ok.n (by omega) (Ok.j (Ok.ncnd (fun hd => Ok.lec (by simp; omega) (Ok.s ?_)) (fun hd => Ok.s ?_)))
    · unfold withV; rw [if_neg (by rw [hd]; simp)]
    · unfold withV; rw [if_pos hd]
theorem means_snoc {l : List D.Target} {i : Nat} {z : Int} (hi : i < l.length) : Means c b (l.take (i + 1)) t z ↔ Means c b (l.take i) t z ∨ (0 ≤ z ∧ z < 4 ∧ z ∈ meantV c b (nth l i) t) := by
  unfold Means
  rw [← take_snoc' hi]
  simp only [List.mem_append, List.mem_singleton]
  constructor
  · rintro ⟨h1, h2, x, hx | rfl, hz⟩
    · exact .inl ⟨h1, h2, x, hx, hz⟩
    · exact .inr ⟨h1, h2, hz⟩
  · rintro (⟨h1, h2, x, hx, hz⟩ | ⟨h1, h2, hz⟩)
    · exact ⟨h1, h2, x, .inl hx, hz⟩
    · exact ⟨h1, h2, _, .inr rfl, hz⟩
theorem asc4_len {o : List Int} (h : Asc o) (hm : ∀ z ∈ o, 0 ≤ z ∧ z < 4) : o.length ≤ 4 := by
  have e : o = ([0, 1, 2, 3] : List Int).filter fun z => o.contains z := asc_ext h (List.Pairwise.filter _ asc4) fun z => by
    simp only [List.mem_filter, List.contains_iff_mem, List.mem_cons, List.not_mem_nil, or_false]
    exact ⟨fun hz => ⟨by have := hm z hz; omega, hz⟩, fun hz => hz.2⟩
  rw [e]
  exact List.length_filter_le _ _
theorem same_is {x y : List Int} (hx : x.length ≤ 900) : r25_Same 1000 x y = some (decide (x = y)) := by
  refine Ok.eq ?_
  unfold r25_Same
  refine Ok.ite (fun h => Ok.s ?_) (fun h => ?_)
  · rw [decide_eq_false]; rintro rfl; exact h rfl
  · have hl : x.length = y.length := by omega
    refine Ok.scan x.length (fun i => ((x, y, (i : Int), ()), ())) (fun i => decide (nth x i ≠ nth y i)) rfl (by omega) (fun i hi hq _ k => ?_) (fun i hi hq k hk => ?_) (fun hq k => ?_)
    · have hq := of_decide_eq_true hq
      refine Ok.p (by omega) (Ok.atn hi (Ok.atn (by omega) (Ok.p hq (Ok.s ?_))))
      rw [decide_eq_false]; rintro rfl; exact hq rfl
    · have hq := of_decide_eq_false hq
      refine Ok.p (by omega) (Ok.atn hi (Ok.atn (by omega) (Ok.n hq ?_)))
      rw [wrap_succ (by omega)]; exact hk
    · refine Ok.n (by omega) (Ok.s ?_)
      rw [decide_eq_true]
      refine List.ext_getElem hl fun i h1 h2 => ?_
      have := of_decide_eq_false (hq i h1)
      simpa [nth, List.getD_eq_getElem?_getD, List.getElem?_eq_getElem h1, List.getElem?_eq_getElem h2] using this
end Go.Proofs.YtfhcigjkfelnfaaGreat
/-
  How the statements begin: light inputs, dice.
-/
set_option linter.unusedVariables false
namespace Go.Proofs.YtfhcigjkfelnfaaGreat
open Go AM
theorem light_is {t : List Int} : made_Light 1000 t = some (decide (((t.length : Nat) : Int) ≤ 500)) := rfl
theorem roll_is {t : List Int} : made_Roll 1000 t = some ⟨t, 0⟩ := rfl
theorem dice0 {t : List Int} : DiceOK t ⟨t, 0⟩ := ⟨rfl, Int.le_refl _, by dsimp only; omega⟩
end Go.Proofs.YtfhcigjkfelnfaaGreat
/-
  The law PolicyMembers, of what is reckoned of its code: it comes to 'true' for all arguments.
-/
set_option maxRecDepth 100000
set_option linter.unusedVariables false
set_option linter.unusedSimpArgs false
namespace Go.Proofs.YtfhcigjkfelnfaaGreat
open Go AM
theorem sane25 : law25_sane 1000 = some true := by kernel_rfl
theorem means_one {c : D.Config} {b : D.Book} {x : D.Target} {t z : Int} : Means c b [x] t z ↔ 0 ≤ z ∧ z < 4 ∧ z ∈ meantV c b x t := by
  unfold Means; simp
theorem policyMembers_true (t : List Int) : law25_PolicyMembers 1000 t = some true := by
  refine Ok.eq ?_
  unfold law25_PolicyMembers
  refine Ok.oe light_is (Ok.ncnd (fun _ => Ok.oe sane25 (Ok.s rfl)) fun hl => Ok.oe roll_is ?_)
  have hL : t.length ≤ 500 := by have := of_decide_eq_true hl; omega
  refine Ok.opt (crew_ok hL dice0 (by omega)) fun ⟨c, d1⟩ ⟨h1, hc⟩ => ?_
  dsimp only at h1 hc ⊢
  refine Ok.opt (book_ok hL h1 (by omega)) fun ⟨b, d2⟩ ⟨h2, hb⟩ => ?_
  dsimp only at h2 hb ⊢
  refine Ok.opt (nx hL h2 (by omega) (by omega)) fun ⟨a7, d3⟩ ⟨h3, l3, u3⟩ => ?_
  dsimp only at h3 l3 u3 ⊢
  refine Ok.opt (nx hL h3 (by omega) (by omega)) fun ⟨a9, d4⟩ ⟨h4, l4, u4⟩ => ?_
  dsimp only at h4 l4 u4 ⊢
  rw [wrap_id (by omega)]
  obtain ⟨ti, hti⟩ : ∃ ti, 864000 + a7 = ti := ⟨_, rfl⟩
  rw [hti]
  have hpl := hc.plen; have hsl := hc.slen
  refine Ok.loop (fun m x => ∃ (i : Int) (d : D.Dice) (l : List D.Target), x = ((ti, peopleV c b l ti, i, ()), d, c, b, l, ()) ∧ 0 ≤ i ∧ i + (l.length : Int) ≤ 4 ∧ DiceOK t d ∧ (∀ x ∈ l, TargetOK b.Teams.length x) ∧ m = i.toNat) (m := a9.toNat) (by omega) ⟨a9, d4, [], rfl, l4, by simp; omega, h4, by simp, rfl⟩ ?_
  rintro m y ⟨i, d, l, rfl, i0, i1, hd, htl, rfl⟩ K hK
  dsimp only
  have hlen : l.length ≤ 4 := by omega
  refine Ok.ite (fun hi => ?_) (fun hi => ?_)
  · refine Ok.j (Ok.opt (target2_ok hL hd (by have := hb.tlen; omega)) fun ⟨x, d5⟩ ⟨h5, hx⟩ => ?_)
    dsimp only at h5 hx ⊢
    have hx1 : ∀ y ∈ [x], TargetOK b.Teams.length y := fun y hy => by rw [List.mem_singleton.1 hy]; exact hx
    refine Ok.lec (by simp; omega) (Ok.opt (people_ok (l := [x]) (t := ti) hc (by omega) hb hx1 (by simp)) fun ⟨v0, v1, v2⟩ ⟨g1, g2, g3, g4⟩ => ?_)
    dsimp only at g1 g2 g3 g4 ⊢
    subst g1
    have hasc := peopleV_asc (c := c) (b := b) (l := l) (t := ti)
    have hasc1 := peopleV_asc (c := c) (b := b) (l := [x]) (t := ti)
    have next : Ok (K ((ti, peopleV c b (l ++ [x]) ti, IntKind.wrap .i64 (i - 1), ()), d5, c, b, l ++ [x], ())) (· = true) := by
      rw [wrap_id (by omega)]
      exact hK (i - 1).toNat _ (by omega) ⟨i - 1, d5, l ++ [x], rfl, by omega, by simp; omega, h5, mem_snoc htl hx, rfl⟩
    refine Ok.loop (fun m y => ∃ (w : List Int) (j : Nat), y = ((ti, w, i, 0, v1, 0, v1, (v1 : Int), (j : Int), ()), d5, c, b, x, l ++ [x], v2, ()) ∧ j ≤ v1 ∧ Asc w ∧ (∀ z, z ∈ w ↔ Means c b l ti z ∨ InTo v2 j z) ∧ m = v1 - j) (m := v1) (by omega)
      ⟨_, 0, by rw [Nat.sub_zero]; rfl, by omega, hasc, fun z => by rw [peopleV_mem]; unfold InTo; simp, by omega⟩ ?_
    rintro m y ⟨w, j, rfl, j1, hw, hwm, rfl⟩ K2 hK2
    dsimp only
    have hin : ∀ z, InTo v2 v1 z → 0 ≤ z ∧ z < 4 := fun z hz => by
      have := peopleV_mem.1 (g4 ▸ (inTo_mem g2).1 hz)
      exact ⟨this.1, this.2.1⟩
    have hwl := asc4_len hw fun z hz => by
      rcases (hwm z).1 hz with g | ⟨k, hk, e⟩
      · exact ⟨g.1, g.2.1⟩
      · exact hin z ⟨k, by omega, e⟩
    refine Ok.ite (fun hj => ?_) (fun hj => ?_)
    · refine Ok.natn (Ok.lt (by omega) ?_)
      rw [Nat.zero_add]
      refine Ok.get (by omega) (Ok.oe (withR (by omega)) ?_)
      rw [wrap_succ (by omega)]
      refine hK2 (v1 - (j + 1)) _ (by omega) ⟨_, j + 1, rfl, by omega, (withV_is hw).1, fun z => ?_, rfl⟩
      rw [(withV_is hw).2, hwm]
      unfold InTo
      constructor
      · rintro ((g | ⟨k, hk, e⟩) | rfl)
        · exact .inl g
        · exact .inr ⟨k, by omega, e⟩
        · exact .inr ⟨j, by omega, rfl⟩
      · rintro (g | ⟨k, hk, e⟩)
        · exact .inl (.inl g)
        · by_cases ek : k = j
          · subst ek; exact .inr e.symm
          · exact .inl (.inr ⟨k, by omega, e⟩)
    · have ej : j = v1 := by omega
      subst ej
      have hw' : w = peopleV c b (l ++ [x]) ti := peopleV_is hw fun z => by
        rw [hwm, inTo_mem g2, g4, peopleV_mem, means_one]
        have := means_snoc (c := c) (b := b) (t := ti) (l := l ++ [x]) (i := l.length) (z := z) (by simp)
        rw [List.take_of_length_le (by simp), List.take_left] at this
        rw [this]
        simp [nth, List.getD_eq_getElem?_getD]
      rw [hw', List.drop_zero, g4]
      have h1' := hx.lo; have h2' := hx.person; have h3' := hx.sched; have h4' := hx.team
      rcases hx.kind with hk | hk | hk
      · have := h2' hk
        have e : peopleV c b [x] ti = [x.Index] := (peopleV_is (by simp [Asc]) fun z => by
          rw [means_one]; unfold meantV; rw [if_pos hk]; simp; omega).symm
        refine Ok.p hk (Ok.oe (same_is (by rw [e]; simp)) (Ok.np e next))
      · have := h3' hk
        refine Ok.n (by omega) (Ok.p hk (Ok.oe (whoR_is hc (by omega)) ?_))
        have hwi := whoV_in hc (i := x.Index) (t := ti)
        refine Ok.ite (fun hge => ?_) (fun hlt => ?_)
        · have e : peopleV c b [x] ti = [whoV c x.Index ti] := (peopleV_is (by simp [Asc]) fun z => by
            rw [means_one]; unfold meantV; rw [if_neg (by omega), if_pos hk, if_neg (by omega)]; simp; omega).symm
          refine Ok.oe (same_is (by rw [e]; simp)) (Ok.p e (Ok.n (by omega) next))
        · have e : peopleV c b [x] ti = [] := (peopleV_is (by simp [Asc]) fun z => by
            rw [means_one]; unfold meantV; rw [if_neg (by omega), if_pos hk, if_pos (by omega)]; simp).symm
          have hv : j = 0 := by
            have := congrArg List.length g4
            have g2' : j ≤ v2.length := g2
            rw [e, List.length_take, Nat.min_eq_left g2'] at this
            exact this
          refine Ok.p (by omega) (Ok.n (by rw [hv]; simp) next)
      · have := h4' hk
        have hteam := hb.team _ (nth_mem (l := b.Teams) (i := x.Index.toNat) (by omega))
        have e : peopleV c b [x] ti = (nth b.Teams x.Index.toNat).Members := (peopleV_is hteam.asc fun z => by
          rw [means_one]; unfold meantV; rw [if_neg (by omega), if_neg (by omega), if_pos ⟨hk, h1', this⟩]
          exact ⟨fun hz => ⟨(hteam.mem z hz).1, (hteam.mem z hz).2, hz⟩, fun hz => hz.2.2⟩).symm
        refine Ok.n (by omega) (Ok.n (by omega) (Ok.p hk (Ok.at h1' (by omega) (Ok.oe (same_is (by rw [e]; have := hteam.len; omega)) (Ok.np e next)))))
  · refine Ok.opt (people_ok (t := ti) hc (by omega) hb htl (by omega)) fun ⟨v0, v1, v2⟩ ⟨g1, g2, g3, g4⟩ => ?_
    dsimp only at g1 g2 g3 g4 ⊢
    subst g1
    rw [List.drop_zero, g4]
    have hlp := peopleV_len (c := c) (b := b) (l := l) (t := ti)
    exact Ok.oe (same_is (by omega)) (Ok.p rfl (Ok.oe sane25 (Ok.t (Ok.s rfl))))
end Go.Proofs.YtfhcigjkfelnfaaGreat
