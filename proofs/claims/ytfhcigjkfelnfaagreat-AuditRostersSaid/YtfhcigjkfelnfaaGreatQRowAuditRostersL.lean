/-
  Crews are right: what the checks of configurations say of them (the program's and the reference's).
-/
import Derived.Test.YtfhcigjkfelnfaaGreatQRowAuditRostersK
set_option maxRecDepth 100000
set_option linter.unusedVariables false
set_option linter.unusedSimpArgs false
namespace Go.Proofs.YtfhcigjkfelnfaaGreat
open Go AM
theorem wrap_succ {i : Nat} (h : i < 1000000000) : IntKind.wrap .i64 ((i : Int) + 1) = ((i + 1 : Nat) : Int) := by rw [wrap_id (by omega)]; omega
theorem forall4 {P : Nat → Prop} (h0 : P 0) (h1 : P 1) (h2 : P 2) (h3 : P 3) : ∀ i, i < 4 → P i := fun i hi => by
  rcases (show i = 0 ∨ i = 1 ∨ i = 2 ∨ i = 3 by omega) with rfl | rfl | rfl | rfl <;> assumption
theorem forall2 {P : Nat → Prop} (h0 : P 0) (h1 : P 1) : ∀ i, i < 2 → P i := fun i hi => by
  rcases (show i = 0 ∨ i = 1 by omega) with rfl | rfl <;> assumption
theorem nth_map' {α β : Type} [Inhabited α] [Inhabited β] {f : α → β} {l : List α} {m : List β} (h : l.map f = m) {i : Nat} (hi : i < l.length) : f (nth l i) = nth m i := by
  subst h
  simp [nth, List.getD_eq_getElem?_getD, List.getElem?_eq_getElem hi]
theorem CfgOK.pnm {n : Nat} {c : D.Config} (h : CfgOK n c) {i : Nat} (hi : i < 4) : (nth c.People i).Name = nth crewNames i := nth_map' h.pname (by rw [h.plen]; exact hi)
theorem CfgOK.snm {n : Nat} {c : D.Config} (h : CfgOK n c) {i : Nat} (hi : i < 2) : (nth c.Schedules i).Name = nth schNames i := nth_map' h.sname (by rw [h.slen]; exact hi)
theorem CfgOK.per {n : Nat} {c : D.Config} (h : CfgOK n c) {i : Nat} (hi : i < 4) : PersonOK (nth c.People i) := h.person _ (nth_mem (by rw [h.plen]; exact hi))
theorem CfgOK.sch {n : Nat} {c : D.Config} (h : CfgOK n c) {i : Nat} (hi : i < 2) : SchedOK n (nth c.Schedules i) := h.sched _ (nth_mem (by rw [h.slen]; exact hi))
theorem rIn {fu : Nat} {n lo hi : Int} : resolve_in fu n lo hi = some (decide (lo ≤ n ∧ n ≤ hi)) := cnd2
theorem rIdx {fu : Nat} {i n : Int} : resolve_index fu i n = some (decide (0 ≤ i ∧ i < n)) := cnd2
theorem r8In {fu : Nat} {n lo hi : Int} : r08_in fu n lo hi = some (decide (lo ≤ n ∧ n ≤ hi)) := cnd2
theorem week_ok {p : D.Person} (h : PersonOK p) : week_Check 1000 p.Quiet = some 0 := by
  rcases h.quiet with h | ⟨a, b, h, ha, hb⟩
  · rw [h]; kernel_rfl
  · rw [h]
    rcases ha with rfl | rfl <;> rcases hb with rfl | rfl | rfl <;> kernel_rfl
theorem week5_ok {p : D.Person} (h : PersonOK p) : r05_Check 1000 p.Quiet = some 0 := by
  rcases h.quiet with h | ⟨a, b, h, ha, hb⟩
  · rw [h]; kernel_rfl
  · rw [h]
    rcases ha with rfl | rfl <;> rcases hb with rfl | rfl | rfl <;> kernel_rfl
theorem hours0 : resolve_hours 1000 0 = some true := by kernel_rfl
theorem hours8 : r08_hours 1000 0 = some true := by kernel_rfl
variable {n : Nat} {c : D.Config}
theorem checkPerson_ok {p : D.Person} (h : CfgOK n c) (hp : PersonOK p) : resolve_checkPerson 1000 c p = some 0 := by
  refine Ok.eq ?_
  unfold resolve_checkPerson
  rw [hp.zone, hp.max.1, hp.max.2, h.zones.1]
  (repeat (first | with_reducible refine Ok.j ?_ | with_reducible refine Ok.t ?_ | with_reducible refine Ok.f ?_ | with_reducible refine Ok.nt rfl ?_ | with_reducible refine Ok.nf rfl ?_ | with_reducible refine Ok.oe (rIdx) ?_ | with_reducible refine Ok.oe (week_ok hp) ?_ | with_reducible refine Ok.oe (hours0) ?_ | (with_reducible refine Ok.p ?hh ?_; case hh => (first | omega | decide | assumption | (dsimp only; omega) | (simp; done))) | (with_reducible refine Ok.n ?hh ?_; case hh => (first | omega | decide | assumption | (dsimp only; omega) | (simp; done))) | (with_reducible refine Ok.np ?hh ?_; case hh => (first | omega | decide | assumption | (dsimp only; omega) | (simp; done))) | (with_reducible refine Ok.nn ?hh ?_; case hh => (first | omega | decide | assumption | (dsimp only; omega) | (simp; done))) | (with_reducible refine Ok.nzc ?hh ?_; case hh => first | omega | decide) | with_reducible refine Ok.sameC ?_ | with_reducible refine Ok.os ?_))
  exact Ok.s rfl
theorem day10 : resolve_day 1000 (IntKind.wrap .i64 10) = some true := by kernel_rfl
theorem maxDay : r01_MaxDay 1000 = some 98980 := by kernel_rfl
theorem EditOK.day {x : D.Edit} (h : EditOK x) : Int.tdiv x.To 86400 = 10 := by
  have := h.time
  rw [Int.tdiv_eq_ediv_of_nonneg (by omega)]; omega
theorem dayE {x : D.Edit} (h : EditOK x) : resolve_day 1000 (IntKind.wrap .i64 (Int.tdiv x.To 86400)) = some true := by rw [h.day]; exact day10
theorem checkEdit_ok {x : D.Edit} (h : CfgOK n c) (hx : EditOK x) : resolve_checkEdit 1000 c x = some 0 := by
  refine Ok.eq ?_
  have h1 := hx.kind; have h2 := hx.a; have h3 := hx.b; have h4 := hx.b0; have h5 := hx.time
  have hpl := h.plen
  unfold resolve_checkEdit
  rcases (show x.Kind = 0 ∨ x.Kind = 1 ∨ x.Kind = 2 by omega) with hk | hk | hk
  · (repeat (first | with_reducible refine Ok.j ?_ | with_reducible refine Ok.t ?_ | with_reducible refine Ok.f ?_ | with_reducible refine Ok.nt rfl ?_ | with_reducible refine Ok.nf rfl ?_ | with_reducible refine Ok.oe (rIn) ?_ | with_reducible refine Ok.oe (rIdx) ?_ | with_reducible refine Ok.oe (dayE hx) ?_ | (with_reducible refine Ok.p ?hh ?_; case hh => (first | omega | decide | assumption | (dsimp only; omega) | (simp; done))) | (with_reducible refine Ok.n ?hh ?_; case hh => (first | omega | decide | assumption | (dsimp only; omega) | (simp; done))) | (with_reducible refine Ok.np ?hh ?_; case hh => (first | omega | decide | assumption | (dsimp only; omega) | (simp; done))) | (with_reducible refine Ok.nn ?hh ?_; case hh => (first | omega | decide | assumption | (dsimp only; omega) | (simp; done))) | (with_reducible refine Ok.nzc ?hh ?_; case hh => first | omega | decide) | with_reducible refine Ok.sameC ?_ | with_reducible refine Ok.os ?_))
    exact Ok.s rfl
  · rcases h2 with h2 | h2
    · (repeat (first | with_reducible refine Ok.j ?_ | with_reducible refine Ok.t ?_ | with_reducible refine Ok.f ?_ | with_reducible refine Ok.nt rfl ?_ | with_reducible refine Ok.nf rfl ?_ | with_reducible refine Ok.oe (rIn) ?_ | with_reducible refine Ok.oe (rIdx) ?_ | with_reducible refine Ok.oe (dayE hx) ?_ | (with_reducible refine Ok.p ?hh ?_; case hh => (first | omega | decide | assumption | (dsimp only; omega) | (simp; done))) | (with_reducible refine Ok.n ?hh ?_; case hh => (first | omega | decide | assumption | (dsimp only; omega) | (simp; done))) | (with_reducible refine Ok.np ?hh ?_; case hh => (first | omega | decide | assumption | (dsimp only; omega) | (simp; done))) | (with_reducible refine Ok.nn ?hh ?_; case hh => (first | omega | decide | assumption | (dsimp only; omega) | (simp; done))) | (with_reducible refine Ok.nzc ?hh ?_; case hh => first | omega | decide) | with_reducible refine Ok.sameC ?_ | with_reducible refine Ok.os ?_))
      exact Ok.s rfl
    · (repeat (first | with_reducible refine Ok.j ?_ | with_reducible refine Ok.t ?_ | with_reducible refine Ok.f ?_ | with_reducible refine Ok.nt rfl ?_ | with_reducible refine Ok.nf rfl ?_ | with_reducible refine Ok.oe (rIn) ?_ | with_reducible refine Ok.oe (rIdx) ?_ | with_reducible refine Ok.oe (dayE hx) ?_ | (with_reducible refine Ok.p ?hh ?_; case hh => (first | omega | decide | assumption | (dsimp only; omega) | (simp; done))) | (with_reducible refine Ok.n ?hh ?_; case hh => (first | omega | decide | assumption | (dsimp only; omega) | (simp; done))) | (with_reducible refine Ok.np ?hh ?_; case hh => (first | omega | decide | assumption | (dsimp only; omega) | (simp; done))) | (with_reducible refine Ok.nn ?hh ?_; case hh => (first | omega | decide | assumption | (dsimp only; omega) | (simp; done))) | (with_reducible refine Ok.nzc ?hh ?_; case hh => first | omega | decide) | with_reducible refine Ok.sameC ?_ | with_reducible refine Ok.os ?_))
      exact Ok.s rfl
  · (repeat (first | with_reducible refine Ok.j ?_ | with_reducible refine Ok.t ?_ | with_reducible refine Ok.f ?_ | with_reducible refine Ok.nt rfl ?_ | with_reducible refine Ok.nf rfl ?_ | with_reducible refine Ok.oe (rIn) ?_ | with_reducible refine Ok.oe (rIdx) ?_ | with_reducible refine Ok.oe (dayE hx) ?_ | (with_reducible refine Ok.p ?hh ?_; case hh => (first | omega | decide | assumption | (dsimp only; omega) | (simp; done))) | (with_reducible refine Ok.n ?hh ?_; case hh => (first | omega | decide | assumption | (dsimp only; omega) | (simp; done))) | (with_reducible refine Ok.np ?hh ?_; case hh => (first | omega | decide | assumption | (dsimp only; omega) | (simp; done))) | (with_reducible refine Ok.nn ?hh ?_; case hh => (first | omega | decide | assumption | (dsimp only; omega) | (simp; done))) | (with_reducible refine Ok.nzc ?hh ?_; case hh => first | omega | decide) | with_reducible refine Ok.sameC ?_ | with_reducible refine Ok.os ?_))
    exact Ok.s rfl
theorem edit8_ok {x : D.Edit} (h : CfgOK n c) (hx : EditOK x) : r08_edit 1000 c x = some 0 := by
  refine Ok.eq ?_
  have h1 := hx.kind; have h2 := hx.a; have h3 := hx.b; have h4 := hx.b0; have h5 := hx.time
  unfold r08_edit
  rw [hx.day, h.plen, wrap_id (x := 10) (by omega), show IntKind.wrap .i64 (((4 : Nat) : Int) - 1) = 3 from rfl]
  rcases (show x.Kind = 0 ∨ x.Kind = 1 ∨ x.Kind = 2 by omega) with hk | hk | hk
  · (repeat (first | with_reducible refine Ok.j ?_ | with_reducible refine Ok.t ?_ | with_reducible refine Ok.f ?_ | with_reducible refine Ok.nt rfl ?_ | with_reducible refine Ok.nf rfl ?_ | with_reducible refine Ok.oe (r8In) ?_ | with_reducible refine Ok.oe (maxDay) ?_ | (with_reducible refine Ok.p ?hh ?_; case hh => (first | omega | decide | assumption | (dsimp only; omega) | (simp; done))) | (with_reducible refine Ok.n ?hh ?_; case hh => (first | omega | decide | assumption | (dsimp only; omega) | (simp; done))) | (with_reducible refine Ok.np ?hh ?_; case hh => (first | omega | decide | assumption | (dsimp only; omega) | (simp; done))) | (with_reducible refine Ok.nn ?hh ?_; case hh => (first | omega | decide | assumption | (dsimp only; omega) | (simp; done))) | (with_reducible refine Ok.nzc ?hh ?_; case hh => first | omega | decide) | with_reducible refine Ok.sameC ?_ | with_reducible refine Ok.os ?_))
    exact Ok.s rfl
  · rcases h2 with h2 | h2
    · (repeat (first | with_reducible refine Ok.j ?_ | with_reducible refine Ok.t ?_ | with_reducible refine Ok.f ?_ | with_reducible refine Ok.nt rfl ?_ | with_reducible refine Ok.nf rfl ?_ | with_reducible refine Ok.oe (r8In) ?_ | with_reducible refine Ok.oe (maxDay) ?_ | (with_reducible refine Ok.p ?hh ?_; case hh => (first | omega | decide | assumption | (dsimp only; omega) | (simp; done))) | (with_reducible refine Ok.n ?hh ?_; case hh => (first | omega | decide | assumption | (dsimp only; omega) | (simp; done))) | (with_reducible refine Ok.np ?hh ?_; case hh => (first | omega | decide | assumption | (dsimp only; omega) | (simp; done))) | (with_reducible refine Ok.nn ?hh ?_; case hh => (first | omega | decide | assumption | (dsimp only; omega) | (simp; done))) | (with_reducible refine Ok.nzc ?hh ?_; case hh => first | omega | decide) | with_reducible refine Ok.sameC ?_ | with_reducible refine Ok.os ?_))
      exact Ok.s rfl
    · (repeat (first | with_reducible refine Ok.j ?_ | with_reducible refine Ok.t ?_ | with_reducible refine Ok.f ?_ | with_reducible refine Ok.nt rfl ?_ | with_reducible refine Ok.nf rfl ?_ | with_reducible refine Ok.oe (r8In) ?_ | with_reducible refine Ok.oe (maxDay) ?_ | (with_reducible refine Ok.p ?hh ?_; case hh => (first | omega | decide | assumption | (dsimp only; omega) | (simp; done))) | (with_reducible refine Ok.n ?hh ?_; case hh => (first | omega | decide | assumption | (dsimp only; omega) | (simp; done))) | (with_reducible refine Ok.np ?hh ?_; case hh => (first | omega | decide | assumption | (dsimp only; omega) | (simp; done))) | (with_reducible refine Ok.nn ?hh ?_; case hh => (first | omega | decide | assumption | (dsimp only; omega) | (simp; done))) | (with_reducible refine Ok.nzc ?hh ?_; case hh => first | omega | decide) | with_reducible refine Ok.sameC ?_ | with_reducible refine Ok.os ?_))
      exact Ok.s rfl
  · (repeat (first | with_reducible refine Ok.j ?_ | with_reducible refine Ok.t ?_ | with_reducible refine Ok.f ?_ | with_reducible refine Ok.nt rfl ?_ | with_reducible refine Ok.nf rfl ?_ | with_reducible refine Ok.oe (r8In) ?_ | with_reducible refine Ok.oe (maxDay) ?_ | (with_reducible refine Ok.p ?hh ?_; case hh => (first | omega | decide | assumption | (dsimp only; omega) | (simp; done))) | (with_reducible refine Ok.n ?hh ?_; case hh => (first | omega | decide | assumption | (dsimp only; omega) | (simp; done))) | (with_reducible refine Ok.np ?hh ?_; case hh => (first | omega | decide | assumption | (dsimp only; omega) | (simp; done))) | (with_reducible refine Ok.nn ?hh ?_; case hh => (first | omega | decide | assumption | (dsimp only; omega) | (simp; done))) | (with_reducible refine Ok.nzc ?hh ?_; case hh => first | omega | decide) | with_reducible refine Ok.sameC ?_ | with_reducible refine Ok.os ?_))
    exact Ok.s rfl
theorem dayL {l : D.Layer} (h : LayerOK l) : resolve_day 1000 l.Start.Day = some true := by
  rcases h.day with h | h | h <;> rw [h] <;> kernel_rfl
theorem member_is {x : Int} : resolve_checkLayer_1 1000 x c = some (!decide (0 ≤ x ∧ x < (c.People.length : Int))) := by
  unfold resolve_checkLayer_1; rw [rIdx, optc_s, sameC_p]
theorem members_ok {l : List Int} (h : CfgOK n c) (hm : ∀ x ∈ l, 0 ≤ x ∧ x < 4) (hl : l.length < 900) : slices_ContainsFunc_int_1Fresolve_checkLayer_1 1000 l c = some false := by
  have key : slices_IndexFunc_int_1Fresolve_checkLayer_1 1000 l c = some (-1) := by
    refine Ok.eq ?_
    unfold slices_IndexFunc_int_1Fresolve_checkLayer_1
    refine Ok.run l.length (fun i => ((l, ((l.length : Nat) : Int), (i : Int), ()), c, ())) rfl (by omega) (fun i hi k hk => ?_) (fun k => ?_)
    · dsimp only
      have hx := hm _ (nth_mem hi)
      refine Ok.p (by omega) (Ok.atn hi (Ok.oe member_is (Ok.bf ?_ ?_)))
      · rw [h.plen]; simp; omega
      · rw [wrap_succ (by omega)]; exact hk
    · dsimp only
      exact Ok.n (by omega) (Ok.sameC (Ok.s rfl))
  unfold slices_ContainsFunc_int_1Fresolve_checkLayer_1
  rw [key, optc_s, sameC_p]; rfl
theorem wins0 : week_Check 1000 [] = some 0 := by kernel_rfl
theorem wins5 : r05_Check 1000 [] = some 0 := by kernel_rfl
theorem checkLayer_ok {l : D.Layer} (h : CfgOK n c) (hl : LayerOK l) : resolve_checkLayer 1000 c l = some 0 := by
  refine Ok.eq ?_
  unfold resolve_checkLayer
  have h1 := hl.day; have h2 := hl.second; have h3 := hl.unit; have h4 := hl.every; have h5 := hl.len
  rw [hl.zone, hl.win, hl.cal.1, hl.cal.2, h.zones.1]
  (repeat (first | with_reducible refine Ok.j ?_ | with_reducible refine Ok.t ?_ | with_reducible refine Ok.f ?_ | with_reducible refine Ok.nt rfl ?_ | with_reducible refine Ok.nf rfl ?_ | with_reducible refine Ok.oe (rIdx) ?_ | with_reducible refine Ok.oe (rIn) ?_ | with_reducible refine Ok.oe (dayL hl) ?_ | with_reducible refine Ok.oe (members_ok h hl.mem (by omega)) ?_ | with_reducible refine Ok.oe (wins0) ?_ | (with_reducible refine Ok.p ?hh ?_; case hh => (first | omega | decide | assumption | (dsimp only; omega) | (simp; done))) | (with_reducible refine Ok.n ?hh ?_; case hh => (first | omega | decide | assumption | (dsimp only; omega) | (simp; done))) | (with_reducible refine Ok.np ?hh ?_; case hh => (first | omega | decide | assumption | (dsimp only; omega) | (simp; done))) | (with_reducible refine Ok.nn ?hh ?_; case hh => (first | omega | decide | assumption | (dsimp only; omega) | (simp; done))) | (with_reducible refine Ok.nzc ?hh ?_; case hh => first | omega | decide) | with_reducible refine Ok.sameC ?_ | with_reducible refine Ok.os ?_))
  exact Ok.s rfl
def ents (l : List ByteArray) (i : Nat) : List (ByteArray × Bool) := (l.take i).map fun s => (s, true)
theorem name_crew : ∀ i, i < 4 → resolve_name 1000 (nth crewNames i) (ents crewNames i) = some (0, ents crewNames (i + 1)) := forall4 (by kernel_rfl) (by kernel_rfl) (by kernel_rfl) (by kernel_rfl)
theorem name_sch : ∀ i, i < 2 → resolve_name 1000 (nth schNames i) (ents schNames i) = some (0, ents schNames (i + 1)) := forall2 (by kernel_rfl) (by kernel_rfl)
theorem name_l : resolve_name 1000 (ByteArray.mk #[108]) [] = some (0, [(ByteArray.mk #[108], true)]) := by kernel_rfl
theorem crew_nobody : ∀ i, i < 4 → ¬ nth crewNames i = ByteArray.mk (List.toArray (110 :: (111 :: (98 :: (111 :: (100 :: (121 :: []))))))) := by decide
theorem layers_ok {l : D.Layer} (h : CfgOK n c) (hl : LayerOK l) : resolve_named_Layer_1Fresolve_checkSchedule_1_2Fresolve_checkSchedule_2 1000 [l] c = some 0 := by
  have hc : resolve_checkSchedule_2 1000 (nth [l] 0) c = some 0 := by show resolve_checkSchedule_2 1000 l c = some 0; unfold resolve_checkSchedule_2; rw [checkLayer_ok h hl, optc_s, sameC_p]
  have hn : resolve_checkSchedule_1 1000 (nth [l] 0) = some (ByteArray.mk #[108]) := by show resolve_checkSchedule_1 1000 l = _; unfold resolve_checkSchedule_1; rw [hl.name]
  refine Ok.eq ?_
  unfold resolve_named_Layer_1Fresolve_checkSchedule_1_2Fresolve_checkSchedule_2
  refine Ok.run 1 (fun i => (([l], 1, (i : Int), ()), c, ents [ByteArray.mk #[108]] i, ())) rfl (by omega) (fun i hi k hk => ?_) (fun k => ?_)
  · obtain rfl : i = 0 := by omega
    dsimp only
    refine Ok.p (by decide) (Ok.atn (by simp) (Ok.oe hn (Ok.oe name_l ?_)))
    (repeat (first | with_reducible refine Ok.j ?_ | with_reducible refine Ok.t ?_ | with_reducible refine Ok.f ?_ | with_reducible refine Ok.nt rfl ?_ | with_reducible refine Ok.nf rfl ?_ | with_reducible refine Ok.oe (hc) ?_ | (with_reducible refine Ok.p ?hh ?_; case hh => (first | omega | decide | assumption | (dsimp only; omega) | (simp; done))) | (with_reducible refine Ok.n ?hh ?_; case hh => (first | omega | decide | assumption | (dsimp only; omega) | (simp; done))) | (with_reducible refine Ok.np ?hh ?_; case hh => (first | omega | decide | assumption | (dsimp only; omega) | (simp; done))) | (with_reducible refine Ok.nn ?hh ?_; case hh => (first | omega | decide | assumption | (dsimp only; omega) | (simp; done))) | (with_reducible refine Ok.nzc ?hh ?_; case hh => first | omega | decide) | with_reducible refine Ok.sameC ?_ | with_reducible refine Ok.os ?_))
    exact hk
  · dsimp only
    exact Ok.n (by decide) (Ok.sameC (Ok.s rfl))
theorem checkSchedule_ok {s : D.Schedule} (h : CfgOK n c) (hn : n ≤ 48) (hs : SchedOK n s) : resolve_checkSchedule 1000 c s = some 0 := by
  obtain ⟨l, hl1, hl2⟩ := hs.layers
  have hlen := hs.len
  refine Ok.eq ?_
  unfold resolve_checkSchedule
  rw [hl1]
  refine Ok.j (Ok.n (by simp) (Ok.n (by omega) ?_))
  dsimp only
  rw [hl1]
  refine Ok.oe (layers_ok h hl2) (Ok.n (by decide) ?_)
  refine Ok.run s.Edits.length (fun i => ((s.Edits, ((s.Edits.length : Nat) : Int), (i : Int), ()), c, ())) rfl (by omega) (fun i hi k hk => ?_) (fun k => ?_)
  · dsimp only
    refine Ok.p (by omega) (Ok.atn hi (Ok.oe (checkEdit_ok h (hs.edit _ (nth_mem hi))) (Ok.n (by decide) ?_)))
    rw [wrap_succ (by omega)]; exact hk
  · dsimp only
    exact Ok.n (by omega) (Ok.s rfl)
theorem scheds_ok (h : CfgOK n c) (hn : n ≤ 48) : resolve_named_Schedule_1Fresolve_Check_4_2Fresolve_Check_5 1000 c.Schedules c = some 0 := by
  refine Ok.eq ?_
  unfold resolve_named_Schedule_1Fresolve_Check_4_2Fresolve_Check_5
  rw [h.slen]
  refine Ok.run 2 (fun i => ((c.Schedules, 2, (i : Int), ()), c, ents schNames i, ())) rfl (by omega) (fun i hi k hk => ?_) (fun k => ?_)
  · dsimp only
    have hc : resolve_Check_5 1000 (nth c.Schedules i) c = some 0 := by unfold resolve_Check_5; rw [checkSchedule_ok h hn (h.sch hi), optc_s, sameC_p]
    have hn : resolve_Check_4 1000 (nth c.Schedules i) = some (nth schNames i) := by unfold resolve_Check_4; rw [h.snm hi]
    refine Ok.p (by omega) (Ok.atn (by rw [h.slen]; exact hi) (Ok.oe hn (Ok.oe (name_sch i hi) ?_)))
    (repeat (first | with_reducible refine Ok.j ?_ | with_reducible refine Ok.t ?_ | with_reducible refine Ok.f ?_ | with_reducible refine Ok.nt rfl ?_ | with_reducible refine Ok.nf rfl ?_ | with_reducible refine Ok.oe (hc) ?_ | (with_reducible refine Ok.p ?hh ?_; case hh => (first | omega | decide | assumption | (dsimp only; omega) | (simp; done))) | (with_reducible refine Ok.n ?hh ?_; case hh => (first | omega | decide | assumption | (dsimp only; omega) | (simp; done))) | (with_reducible refine Ok.np ?hh ?_; case hh => (first | omega | decide | assumption | (dsimp only; omega) | (simp; done))) | (with_reducible refine Ok.nn ?hh ?_; case hh => (first | omega | decide | assumption | (dsimp only; omega) | (simp; done))) | (with_reducible refine Ok.nzc ?hh ?_; case hh => first | omega | decide) | with_reducible refine Ok.sameC ?_ | with_reducible refine Ok.os ?_))
    rw [wrap_succ (by omega)]; exact hk
  · dsimp only
    exact Ok.n (by decide) (Ok.sameC (Ok.s rfl))
theorem zones_ok (h : CfgOK n c) : resolve_named_Zone_1Fresolve_Check_1_2Fresolve_checkZone 1000 c.Zones = some 0 := by
  obtain ⟨h1, h2⟩ := h.zones
  rw [h1]
  rcases h2 with h2 | h2 | h2 <;> rw [h2] <;> kernel_rfl
theorem cals_ok (h : CfgOK n c) : resolve_named_Calendar_1Fresolve_Check_2_2Fresolve_Check_3 1000 c.Calendars c = some 0 := by
  refine Ok.eq ?_
  unfold resolve_named_Calendar_1Fresolve_Check_2_2Fresolve_Check_3
  rw [h.cal]
  refine Ok.run 0 (fun i => (([], 0, 0, ()), c, [], ())) rfl (by omega) (fun i hi => absurd hi (by omega)) (fun k => ?_)
  exact Ok.n (by decide) (Ok.sameC (Ok.s rfl))
theorem check_ok (h : CfgOK n c) (hn : n ≤ 48) : resolve_Check 1000 c = some 0 := by
  refine Ok.eq ?_
  unfold resolve_Check
  have hz := congrArg List.length h.zones.1
  have hp := h.plen
  have hs := h.slen
  have hc := congrArg List.length h.cal
  simp only [List.length_cons, List.length_nil] at hz hc
  refine Ok.j (Ok.n (by omega) (Ok.n (by omega) (Ok.n (by omega) (Ok.n (by omega) ?_))))
  dsimp only
  refine Ok.oe (zones_ok h) (Ok.n (by decide) ?_)
  rw [hp]
  refine Ok.run 4 (fun i => ((c.People, 4, (i : Int), ()), c, ents crewNames i, ())) rfl (by omega) (fun i hi k hk => ?_) (fun k => ?_)
  · dsimp only
    refine Ok.p (by omega) (Ok.atn (by omega) ?_)
    rw [h.pnm hi]
    refine Ok.oe (name_crew i hi) (Ok.j (Ok.n (crew_nobody i hi) ?_))
    (repeat (first | with_reducible refine Ok.j ?_ | with_reducible refine Ok.t ?_ | with_reducible refine Ok.f ?_ | with_reducible refine Ok.nt rfl ?_ | with_reducible refine Ok.nf rfl ?_ | with_reducible refine Ok.oe (checkPerson_ok h (h.per hi)) ?_ | (with_reducible refine Ok.p ?hh ?_; case hh => (first | omega | decide | assumption | (dsimp only; omega) | (simp; done))) | (with_reducible refine Ok.n ?hh ?_; case hh => (first | omega | decide | assumption | (dsimp only; omega) | (simp; done))) | (with_reducible refine Ok.np ?hh ?_; case hh => (first | omega | decide | assumption | (dsimp only; omega) | (simp; done))) | (with_reducible refine Ok.nn ?hh ?_; case hh => (first | omega | decide | assumption | (dsimp only; omega) | (simp; done))) | (with_reducible refine Ok.nzc ?hh ?_; case hh => first | omega | decide) | with_reducible refine Ok.sameC ?_ | with_reducible refine Ok.os ?_))
    rw [wrap_succ (by omega)]; exact hk
  · dsimp only
    refine Ok.n (by decide) ?_
    (repeat (first | with_reducible refine Ok.j ?_ | with_reducible refine Ok.t ?_ | with_reducible refine Ok.f ?_ | with_reducible refine Ok.nt rfl ?_ | with_reducible refine Ok.nf rfl ?_ | with_reducible refine Ok.oe (cals_ok h) ?_ | with_reducible refine Ok.oe (scheds_ok h hn) ?_ | (with_reducible refine Ok.p ?hh ?_; case hh => (first | omega | decide | assumption | (dsimp only; omega) | (simp; done))) | (with_reducible refine Ok.n ?hh ?_; case hh => (first | omega | decide | assumption | (dsimp only; omega) | (simp; done))) | (with_reducible refine Ok.np ?hh ?_; case hh => (first | omega | decide | assumption | (dsimp only; omega) | (simp; done))) | (with_reducible refine Ok.nn ?hh ?_; case hh => (first | omega | decide | assumption | (dsimp only; omega) | (simp; done))) | (with_reducible refine Ok.nzc ?hh ?_; case hh => first | omega | decide) | with_reducible refine Ok.sameC ?_ | with_reducible refine Ok.os ?_))
    exact Ok.s rfl
theorem person8_ok {p : D.Person} (hp : PersonOK p) : r08_in 1000 p.Zone 0 (IntKind.wrap .i64 (((1 : Nat) : Int) - 1)) = some true ∧ r05_Check 1000 p.Quiet = some 0 ∧ r08_hours 1000 p.MaxWeek = some true ∧ r08_hours 1000 p.MinRest = some true := by
  rw [hp.zone, hp.max.1, hp.max.2]
  exact ⟨by kernel_rfl, week5_ok hp, hours8, hours8⟩
theorem name8_crew : ∀ i, i < 4 → r08_name_0 1000 (crewNames.take i ++ [nth crewNames i]) (i : Int) = some 0 := forall4 (by kernel_rfl) (by kernel_rfl) (by kernel_rfl) (by kernel_rfl)
theorem name8_sch : ∀ i, i < 2 → r08_name_0 1000 (schNames.take i ++ [nth schNames i]) (i : Int) = some 0 := forall2 (by kernel_rfl) (by kernel_rfl)
theorem name8_l : r08_name_0 1000 ([] ++ [ByteArray.mk #[108]]) ((0 : Nat) : Int) = some 0 := by kernel_rfl
theorem zones8_ok (h : CfgOK n c) : r08_zones 1000 c = some 0 := by
  obtain ⟨h1, h2⟩ := h.zones
  refine Ok.eq ?_
  unfold r08_zones
  have hz : r04_Check 1000 (⟨bZ, offOf c, []⟩ : D.Zone) = some 0 ∧ r08_minutes 1000 (⟨bZ, offOf c, []⟩ : D.Zone) = some true ∧ r08_name_0 1000 ([] ++ [bZ]) ((0 : Nat) : Int) = some 0 := by
    rcases h2 with h2 | h2 | h2 <;> rw [h2] <;> exact ⟨by kernel_rfl, by kernel_rfl, by kernel_rfl⟩
  refine Ok.run 1 (fun i => (((i : Int), ()), c, [bZ].take i, ())) rfl (by omega) (fun i hi k hk => ?_) (fun k => ?_)
  · obtain rfl : i = 0 := by omega
    dsimp only
    rw [h1]
    refine Ok.p (by simp) (Ok.j (Ok.atn (by simp) (Ok.lec (by simp) ?_)))
    refine Ok.oe hz.2.2 (Ok.n (by decide) (Ok.atn (by simp) (Ok.oe hz.1 (Ok.n (by decide) (Ok.atn (by simp) (Ok.oe hz.2.1 ?_))))))
    exact hk
  · dsimp only
    rw [h1]
    exact Ok.n (by simp) (Ok.s rfl)
theorem people8_ok (h : CfgOK n c) : r08_people 1000 c = some 0 := by
  have hp := h.plen
  refine Ok.eq ?_
  unfold r08_people
  refine Ok.run 4 (fun i => (((i : Int), ()), c, crewNames.take i, ())) rfl (by omega) (fun i hi k hk => ?_) (fun k => ?_)
  · dsimp only
    obtain ⟨g1, g2, g3, g4⟩ := person8_ok (h.per hi)
    refine Ok.p (by omega) (Ok.j (Ok.atn (by omega) (Ok.lec (by simp; omega) ?_)))
    rw [h.pnm hi, h.zones.1]
    refine Ok.n (crew_nobody i hi) (Ok.oe (name8_crew i hi) (Ok.n (by decide) (Ok.oe g1 ?_)))
    refine Ok.nt rfl (Ok.oe g2 (Ok.n (by decide) (Ok.oe g3 (Ok.t (Ok.oe g4 (Ok.t ?_))))))
    dsimp only
    rw [wrap_succ (by omega), take_snoc' (show i < crewNames.length from hi)]; exact hk
  · dsimp only
    exact Ok.n (by omega) (Ok.s rfl)
theorem cals8_ok (h : CfgOK n c) : r08_calendars 1000 c = some 0 := by
  refine Ok.eq ?_
  unfold r08_calendars
  refine Ok.run 0 (fun i => ((0, ()), c, [], ())) rfl (by omega) (fun i hi => absurd hi (by omega)) (fun k => ?_)
  dsimp only
  rw [h.cal]
  exact Ok.n (by decide) (Ok.s rfl)
theorem layer8_ok {l : D.Layer} (h : CfgOK n c) (hl : LayerOK l) : r08_layer 1000 c l = some 0 := by
  refine Ok.eq ?_
  unfold r08_layer
  have h1 := hl.day; have h2 := hl.second; have h3 := hl.unit; have h4 := hl.every; have h5 := hl.len
  have hp := h.plen
  rw [hl.zone, h.zones.1, wrap_id (x := (([(⟨bZ, offOf c, []⟩ : D.Zone)].length : Nat) : Int) - 1) (by simp)]
  refine Ok.j (Ok.oe r8In (Ok.np (by simp) ?_))
  (repeat (first | with_reducible refine Ok.j ?_ | with_reducible refine Ok.t ?_ | with_reducible refine Ok.f ?_ | with_reducible refine Ok.nt rfl ?_ | with_reducible refine Ok.nf rfl ?_ | with_reducible refine Ok.oe (r8In) ?_ | with_reducible refine Ok.oe (maxDay) ?_ | (with_reducible refine Ok.p ?hh ?_; case hh => (first | omega | decide | assumption | (dsimp only; omega) | (simp; done))) | (with_reducible refine Ok.n ?hh ?_; case hh => (first | omega | decide | assumption | (dsimp only; omega) | (simp; done))) | (with_reducible refine Ok.np ?hh ?_; case hh => (first | omega | decide | assumption | (dsimp only; omega) | (simp; done))) | (with_reducible refine Ok.nn ?hh ?_; case hh => (first | omega | decide | assumption | (dsimp only; omega) | (simp; done))) | (with_reducible refine Ok.nzc ?hh ?_; case hh => first | omega | decide) | with_reducible refine Ok.sameC ?_ | with_reducible refine Ok.os ?_))
  refine Ok.run l.Members.length (fun i => (((i : Int), ()), c, l, ())) rfl (by omega) (fun i hi k hk => ?_) (fun k => ?_)
  · dsimp only
    have hx := hl.mem _ (nth_mem hi)
    rw [hp]
    refine Ok.p (by omega) (Ok.atn hi (Ok.oe r8In (Ok.np ?_ ?_)))
    · rw [wrap_id (by omega)]; omega
    · rw [wrap_succ (by omega)]; exact hk
  · dsimp only
    rw [hl.win, hl.cal.1, hl.cal.2]
    refine Ok.n (by omega) ?_
    (repeat (first | with_reducible refine Ok.j ?_ | with_reducible refine Ok.t ?_ | with_reducible refine Ok.f ?_ | with_reducible refine Ok.nt rfl ?_ | with_reducible refine Ok.nf rfl ?_ | with_reducible refine Ok.oe (wins5) ?_ | with_reducible refine Ok.oe (r8In) ?_ | (with_reducible refine Ok.p ?hh ?_; case hh => (first | omega | decide | assumption | (dsimp only; omega) | (simp; done))) | (with_reducible refine Ok.n ?hh ?_; case hh => (first | omega | decide | assumption | (dsimp only; omega) | (simp; done))) | (with_reducible refine Ok.np ?hh ?_; case hh => (first | omega | decide | assumption | (dsimp only; omega) | (simp; done))) | (with_reducible refine Ok.nn ?hh ?_; case hh => (first | omega | decide | assumption | (dsimp only; omega) | (simp; done))) | (with_reducible refine Ok.nzc ?hh ?_; case hh => first | omega | decide) | with_reducible refine Ok.sameC ?_ | with_reducible refine Ok.os ?_))
    exact Ok.s rfl
theorem schedules8_ok (h : CfgOK n c) (hn : n ≤ 48) : r08_schedules 1000 c = some 0 := by
  have hs := h.slen
  refine Ok.eq ?_
  unfold r08_schedules
  refine Ok.run 2 (fun i => (((i : Int), ()), c, schNames.take i, ())) rfl (by omega) (fun i hi k hk => ?_) (fun k => ?_)
  · dsimp only
    have hsc := h.sch hi
    obtain ⟨l, hl1, hl2⟩ := hsc.layers
    have hlen := hsc.len
    refine Ok.p (by omega) (Ok.atn (by omega) (Ok.lec (by simp; omega) ?_))
    rw [h.snm hi]
    refine Ok.oe (name8_sch i hi) (Ok.n (by decide) (Ok.j ?_))
    rw [hl1]
    refine Ok.n (by simp) (Ok.n (by omega) ?_)
    dsimp only
    refine Ok.run 1 (fun j => (((i : Int), (j : Int), ()), c, nth c.Schedules i, schNames.take i ++ [nth schNames i], [ByteArray.mk #[108]].take j, ())) rfl (by omega) (fun j hj k2 hk2 => ?_) (fun k2 => ?_)
    · obtain rfl : j = 0 := by omega
      dsimp only
      rw [hl1]
      refine Ok.p (by simp) (Ok.atn (by simp) (Ok.lec (by simp) ?_))
      rw [show (nth [l] 0).Name = ByteArray.mk #[108] from hl2.name]
      refine Ok.oe name8_l (Ok.n (by decide) (Ok.atn (by simp) (Ok.oe (layer8_ok h hl2 : r08_layer 1000 c (nth [l] 0) = some 0) (Ok.n (by decide) ?_))))
      exact hk2
    · dsimp only
      rw [hl1]
      refine Ok.n (by simp) ?_
      refine Ok.run (nth c.Schedules i).Edits.length (fun j => (((i : Int), (j : Int), ()), c, nth c.Schedules i, schNames.take i ++ [nth schNames i], ())) rfl (by omega) (fun j hj k3 hk3 => ?_) (fun k3 => ?_)
      · dsimp only
        refine Ok.p (by omega) (Ok.atn hj (Ok.oe (edit8_ok h (hsc.edit _ (nth_mem hj))) (Ok.n (by decide) ?_)))
        rw [wrap_succ (by omega)]; exact hk3
      · dsimp only
        refine Ok.n (by omega) ?_
        rw [wrap_succ (by omega), take_snoc' (show i < schNames.length from hi)]; exact hk
  · dsimp only
    exact Ok.n (by omega) (Ok.s rfl)
theorem check8_ok (h : CfgOK n c) (hn : n ≤ 48) : r08_Check 1000 c = some 0 := by
  refine Ok.eq ?_
  unfold r08_Check
  have hz := congrArg List.length h.zones.1
  have hp := h.plen
  have hs := h.slen
  have hc := congrArg List.length h.cal
  simp only [List.length_cons, List.length_nil] at hz hc
  (repeat (first | with_reducible refine Ok.j ?_ | with_reducible refine Ok.t ?_ | with_reducible refine Ok.f ?_ | with_reducible refine Ok.nt rfl ?_ | with_reducible refine Ok.nf rfl ?_ | with_reducible refine Ok.oe (zones8_ok h) ?_ | with_reducible refine Ok.oe (people8_ok h) ?_ | with_reducible refine Ok.oe (cals8_ok h) ?_ | with_reducible refine Ok.oe (schedules8_ok h hn) ?_ | (with_reducible refine Ok.p ?hh ?_; case hh => (first | omega | decide | assumption | (dsimp only; omega) | (simp; done))) | (with_reducible refine Ok.n ?hh ?_; case hh => (first | omega | decide | assumption | (dsimp only; omega) | (simp; done))) | (with_reducible refine Ok.np ?hh ?_; case hh => (first | omega | decide | assumption | (dsimp only; omega) | (simp; done))) | (with_reducible refine Ok.nn ?hh ?_; case hh => (first | omega | decide | assumption | (dsimp only; omega) | (simp; done))) | (with_reducible refine Ok.nzc ?hh ?_; case hh => first | omega | decide) | with_reducible refine Ok.sameC ?_ | with_reducible refine Ok.os ?_))
  exact Ok.s rfl
end Go.Proofs.YtfhcigjkfelnfaaGreat
/-
  Who is on call in a crew: what the program and the reference compute.
-/
set_option maxRecDepth 100000
set_option linter.unusedVariables false
set_option linter.unusedSimpArgs false
namespace Go.Proofs.YtfhcigjkfelnfaaGreat
open Go AM
def OffOK (off : Int) : Prop := off = 0 ∨ off = 3600 ∨ off = -7200
def tabV (off : Int) : D.Table := ⟨off, []⟩
variable {off t k : Int} {l : D.Layer}
theorem tOffset : zone_Table_Offset 1000 (tabV off) t = some off := by
  have h1 : sort_Search_1Fzone_Table_after_1 1000 0 (tabV off) t = some 0 := by
    refine Ok.eq ?_
    unfold sort_Search_1Fzone_Table_after_1
    refine Ok.run 0 (fun _ => ((0, (0, ())), (tabV off, ((t, ()), ())))) rfl (by omega) (fun i hi => absurd hi (by omega)) (fun k => ?_)
    exact Ok.n (by omega) (Ok.sameC (Ok.sameC (Ok.s rfl)))
  have h2 : zone_Table_after 1000 (tabV off) t = some 0 := by unfold zone_Table_after; rw [show (((List.length (D.Table.list (tabV off))) : Nat) : Int) = 0 from rfl, h1, optc_s]
  unfold zone_Table_Offset
  rw [h2, optc_s]
  rfl
theorem local_is {n : Int} (h : -1099511627776 ≤ n ∧ n ≤ 1099511627776) : zone_local 1000 n = some ⟨n / 86400, n % 86400⟩ := by
  refine Ok.eq ?_
  unfold zone_local
  refine Ok.nzc (by omega) (Ok.j (Ok.nzc (by omega) ?_))
  by_cases h0 : 0 ≤ n
  · rw [Int.tmod_eq_emod_of_nonneg h0, Int.tdiv_eq_ediv_of_nonneg h0]
    refine Ok.n (by omega) ?_
    dsimp only
    rw [wrap_id (x := n / 86400) (by omega), wrap_id (x := n / 86400 * 86400) (by omega), wrap_id (by omega)]
    exact Ok.s (by congr 1; omega)
  · have e1 : Int.tmod n 86400 = -((-n) % 86400) := by
      rw [show n = -(-n) by omega, Int.neg_tmod, Int.tmod_eq_emod_of_nonneg (by omega), Int.neg_neg]
    have e2 : Int.tdiv n 86400 = -((-n) / 86400) := by
      rw [show n = -(-n) by omega, Int.neg_tdiv, Int.tdiv_eq_ediv_of_nonneg (by omega), Int.neg_neg]
    rw [e1, e2]
    by_cases h1 : -((-n) % 86400) < 0
    · refine Ok.p h1 ?_
      dsimp only
      rw [wrap_id (x := -((-n) / 86400)) (by omega), wrap_id (x := -((-n) / 86400) - 1) (by omega), wrap_id (x := (-((-n) / 86400) - 1) * 86400) (by omega), wrap_id (by omega)]
      exact Ok.s (by rw [D.Local.mk.injEq]; omega)
    · refine Ok.n h1 ?_
      dsimp only
      rw [wrap_id (x := -((-n) / 86400)) (by omega), wrap_id (x := -((-n) / 86400) * 86400) (by omega), wrap_id (by omega)]
      exact Ok.s (by rw [D.Local.mk.injEq]; omega)
theorem OffOK.le (h : OffOK off) : -7200 ≤ off ∧ off ≤ 3600 := by unfold OffOK at h; omega
theorem tLocal (ho : OffOK off) (ht : 0 ≤ t ∧ t ≤ 8589934592) : zone_Table_Local 1000 (tabV off) t = some ⟨(t + off) / 86400, (t + off) % 86400⟩ := by
  have := ho.le
  unfold zone_Table_Local
  rw [tOffset, optc_s, wrap_id (by omega), local_is (by omega), optc_s]
theorem tPieces (ho : OffOK off) : zone_Table_Pieces 1000 (tabV off) 0 8589934593 = some [⟨0, 8589934593, off⟩] := by
  rcases ho with rfl | rfl | rfl <;> kernel_rfl
theorem tFirst {d s : Int} (ho : OffOK off) (hd : 1 ≤ d ∧ d ≤ 1000000) (hs : 0 ≤ s ∧ s ≤ 86399) :
    Ok (zone_Table_First 1000 (tabV off) ⟨d, s⟩) fun r => r.2 = decide (d * 86400 + s - off ≤ 8589934592) ∧ (r.2 = true → r.1 = d * 86400 + s - off) := by
  have := ho.le
  unfold zone_Table_First zone_seconds
  refine Ok.oe (tPieces ho) ?_
  have e : IntKind.wrap .i64 (IntKind.wrap .i64 (min (max d (-1048576)) 1048576 * 86400) + s) = d * 86400 + s := by rw [wrap_id (x := min (max d (-1048576)) 1048576 * 86400) (by omega), wrap_id (by omega)]; omega
  by_cases h : d * 86400 + s - off ≤ 8589934592
  · refine Ok.scan 1 (fun i => (([⟨0, 8589934593, off⟩], 1, (i : Int), ()), ⟨d, s⟩, ())) (fun _ => true) rfl (by omega) (fun i hi _ _ k => ?_) (fun i hi hq => by simp at hq) (fun hq => by have := hq 0 (by omega); simp at this)
    obtain rfl : i = 0 := by omega
    refine Ok.p (by simp) (Ok.atn (by simp) (Ok.os ?_))
    dsimp only
    rw [e, show (nth [(⟨0, 8589934593, off⟩ : D.Piece)] 0) = ⟨0, 8589934593, off⟩ from rfl]
    dsimp only
    rw [wrap_id (x := d * 86400 + s - off) (by omega), show max 0 (d * 86400 + s - off) = d * 86400 + s - off by omega]
    exact Ok.p (by omega) (Ok.s ⟨by simp [h], fun _ => rfl⟩)
  · refine Ok.run 1 (fun i => (([⟨0, 8589934593, off⟩], 1, (i : Int), ()), ⟨d, s⟩, ())) rfl (by omega) (fun i hi k hk => ?_) (fun k => ?_)
    · obtain rfl : i = 0 := by omega
      refine Ok.p (by simp) (Ok.atn (by simp) (Ok.os ?_))
      dsimp only
      rw [e, show (nth [(⟨0, 8589934593, off⟩ : D.Piece)] 0) = ⟨0, 8589934593, off⟩ from rfl]
      dsimp only
      rw [wrap_id (x := d * 86400 + s - off) (by omega), show max 0 (d * 86400 + s - off) = d * 86400 + s - off by omega]
      exact Ok.n (by omega) hk
    · exact Ok.n (by simp) (Ok.s ⟨by simp [h], fun h => by simp at h⟩)
theorem hand_lin (hl : LayerOK l) : (l.Unit = 0 → handS off l k = firstS off l + 3600 * l.Every * k) ∧ (l.Unit = 1 → handS off l k = firstS off l + 86400 * l.Every * k) := by
  refine ⟨fun h => ?_, fun h => ?_⟩
  · unfold handS; rw [span_hours h]
  · unfold handS; rw [span_days h]
theorem tHand (hl : LayerOK l) (ho : OffOK off) (hk : 0 ≤ k ∧ k ≤ 200000) (hu : l.Unit = 1 ∨ k = 0) :
    Ok (recur_HandoverOf 1000 (tabV off) l k) fun r => r.2 = decide (handS off l k ≤ 8589934592) ∧ (r.2 = true → r.1 = handS off l k) := by
  have := ho.le
  have h1 := hl.day; have h2 := hl.second; have h4 := hl.every
  unfold recur_HandoverOf recur_step
  refine Ok.n (by omega) ?_
  rcases hl.unit with hu0 | hu1
  · obtain rfl : k = 0 := by omega
    refine Ok.n (by omega) ?_
    have hf := firstS_in (off := off) hl ho
    have hh : handS off l 0 = l.Start.Day * 86400 + l.Start.Second - off := by unfold handS firstS; omega
    refine Ok.opt (tFirst (d := l.Start.Day) (s := l.Start.Second) ho (by omega) (by omega)) fun ⟨v, b⟩ ⟨g1, g2⟩ => ?_
    dsimp only at g1 g2 ⊢
    have hb : b = true := by rw [g1]; unfold firstS at hf; simp; omega
    subst hb
    have hv := g2 rfl
    have hw : IntKind.wrap .i64 (v + IntKind.wrap .i64 (IntKind.wrap .i64 (3600 * l.Every) * 0)) = handS off l 0 := by
      rw [Int.mul_zero, wrap_id (x := 0) (by omega), wrap_id (by unfold firstS at hf; omega), hh, hv]; omega
    rw [hw]
    have hm : handS off l 0 ≤ 8589934592 := by rw [hh]; unfold firstS at hf; omega
    exact Ok.t (Ok.p hm (Ok.s ⟨by simp [hm], fun _ => rfl⟩))
  · refine Ok.p (by omega) ?_
    rw [cnd_n (show ¬ l.Unit = 2 by omega), optc_s]
    have hE : l.Every = 1 ∨ l.Every = 2 ∨ l.Every = 3 := by omega
    have hh : handS off l k = (l.Start.Day + k * l.Every) * 86400 + l.Start.Second - off := (hand_day (span_days hu1)).symm
    have hb : 0 ≤ k * l.Every ∧ k * l.Every ≤ 600000 := by rcases hE with e | e | e <;> rw [e] <;> omega
    rw [wrap_id (x := k * l.Every) (by omega), wrap_id (x := l.Start.Day + k * l.Every) (by omega)]
    refine Ok.opt (tFirst (d := l.Start.Day + k * l.Every) (s := l.Start.Second) ho (by omega) (by omega)) fun ⟨v, b⟩ ⟨g1, g2⟩ => ?_
    rw [← hh] at g1 g2
    exact Ok.s ⟨g1, g2⟩
theorem tShift (hl : LayerOK l) (ho : OffOK off) (ht : 0 ≤ t ∧ t ≤ 8589934592) : recur_ShiftOf 1000 (tabV off) l t = some (shiftV off l t) := by
  have hoo := ho.le
  have h1 := hl.day; have h2 := hl.second; have h4 := hl.every
  have hf := firstS_in (off := off) hl ho
  have h0 : handS off l 0 = firstS off l := by unfold handS; omega
  refine Ok.eq ?_
  unfold recur_ShiftOf
  refine Ok.opt (tHand (k := 0) hl ho (by omega) (.inr rfl)) fun ⟨v, b⟩ ⟨g1, g2⟩ => ?_
  dsimp only at g1 g2 ⊢
  have hb : b = true := by rw [g1, h0]; simp; omega
  subst hb
  have hv := g2 rfl
  rw [hv, h0]
  refine Ok.j (Ok.t ?_)
  by_cases hlt : t < firstS off l
  · exact Ok.p hlt (Ok.s (by rw [shift_no (by rw [h0]; exact hlt)]))
  refine Ok.n hlt ?_
  dsimp only
  rcases hl.unit with hu | hu
  · have e1 : IntKind.wrap .i64 (3600 * l.Every) = 3600 * l.Every := wrap_id (by omega)
    rw [e1]
    refine Ok.p hu (Ok.nzc (by omega) ?_)
    rw [wrap_id (x := t - firstS off l) (by omega), Int.tdiv_eq_ediv_of_nonneg (by omega)]
    have e2 : (t - firstS off l) / (3600 * l.Every) = shiftV off l t := by unfold shiftV; rw [if_neg hlt, span_hours hu]
    have e3 := shiftV_le (t := t) hl ho (by omega)
    rw [e2, wrap_id (by omega)]
    exact Ok.s rfl
  · refine Ok.n (by omega) (Ok.oe (tLocal ho ht) ?_)
    unfold recur_step
    rw [cnd_n (show ¬ l.Unit = 2 by omega), optc_s]
    refine Ok.nzc (by omega) (Ok.j ?_)
    dsimp only
    obtain ⟨dy, hD⟩ : ∃ dy, (t + off) / 86400 = dy := ⟨_, rfl⟩
    rw [hD]
    have hDb : -1 ≤ dy ∧ dy ≤ 99422 := by omega
    rw [wrap_id (x := dy - l.Start.Day) (by omega)]
    obtain ⟨k0, hk0⟩ : ∃ k0, max 0 (IntKind.wrap .i64 (Int.tdiv (dy - l.Start.Day) l.Every)) = k0 := ⟨_, rfl⟩
    rw [hk0]
    have hE : l.Every = 1 ∨ l.Every = 2 ∨ l.Every = 3 := by omega
    have hlin : ∀ k, handS off l k = firstS off l + 86400 * l.Every * k := fun k => (hand_lin hl).2 hu
    have hfd : firstS off l = l.Start.Day * 86400 + l.Start.Second - off := rfl
    have hk : 0 ≤ k0 ∧ k0 ≤ 99422 ∧ (1 ≤ k0 → handS off l (k0 - 1) ≤ t) ∧ t < handS off l (k0 + 1) := by
      have hq : Int.tdiv (dy - l.Start.Day) l.Every ≤ 0 ∧ dy - l.Start.Day < l.Every ∨ Int.tdiv (dy - l.Start.Day) l.Every = (dy - l.Start.Day) / l.Every ∧ 0 ≤ dy - l.Start.Day := by
        by_cases hn : 0 ≤ dy - l.Start.Day
        · exact .inr ⟨Int.tdiv_eq_ediv_of_nonneg hn, hn⟩
        · refine .inl ⟨?_, by omega⟩
          rw [show dy - l.Start.Day = -(l.Start.Day - dy) by omega, Int.neg_tdiv, Int.tdiv_eq_ediv_of_nonneg (by omega)]
          have := Int.ediv_nonneg (show 0 ≤ l.Start.Day - dy by omega) (show 0 ≤ l.Every by omega)
          omega
      have hw : IntKind.wrap .i64 (Int.tdiv (dy - l.Start.Day) l.Every) = Int.tdiv (dy - l.Start.Day) l.Every := by
        refine wrap_id ?_
        rcases hq with ⟨q1, _⟩ | ⟨q1, q2⟩
        · by_cases hn : 0 ≤ dy - l.Start.Day
          · rw [Int.tdiv_eq_ediv_of_nonneg hn]; rcases hE with e | e | e <;> rw [e] <;> omega
          · rw [show dy - l.Start.Day = -(l.Start.Day - dy) by omega, Int.neg_tdiv, Int.tdiv_eq_ediv_of_nonneg (by omega)]
            rcases hE with e | e | e <;> rw [e] <;> omega
        · rw [q1]; rcases hE with e | e | e <;> rw [e] <;> omega
      rw [hw] at hk0
      rw [hlin, hlin, hfd]
      rcases hE with e | e | e <;> rw [e] at hq hk0 ⊢ <;> omega
    obtain ⟨k1, k2, k3, k4⟩ := hk
    have hhand : ∀ k, 0 ≤ k → k ≤ k0 + 1 → Ok (recur_HandoverOf 1000 (tabV off) l k) fun r => r.2 = decide (handS off l k ≤ 8589934592) ∧ (r.2 = true → r.1 = handS off l k) := fun k a b => tHand hl ho (by omega) (.inl hu)
    have up : ∀ k, 0 ≤ k → k0 - 1 ≤ k → k ≤ k0 → handS off l k ≤ t → Ok (iterF (X := ((Int × (Int × Unit)) × (D.Table × (D.Layer × Unit)))) (fun L12 ((a13, (a14, _)), (a15, (a16, _))) =>
           (join (Y := ((Int × (Int × Unit)) × (D.Table × (D.Layer × Unit)))) (fun ((a17, (a18, _)), (a19, (a20, _))) =>
             (L12 ((a17, ((IntKind.wrap .i64 (a18 + 1)), ())), (a19, (a20, ()))))) fun J21 =>
            (optc (recur_HandoverOf 1000 a15 a16 (IntKind.wrap .i64 (a14 + 1))) fun (a22, a23) =>
             (cnd a23
              (cnd (decide (a13 < a22))
               (some a14)
               (J21 ((a13, (a14, ())), (a15, (a16, ())))))
              (some a14))))) 1000 ((t, (k, ())), (tabV off, (l, ())))) (· = shiftV off l t) := by
      intro k a1 a2 a3 a4
      refine Ok.loop (fun m x => ∃ k, x = ((t, k, ()), tabV off, l, ()) ∧ 0 ≤ k ∧ k0 - 1 ≤ k ∧ k ≤ k0 ∧ handS off l k ≤ t ∧ (k0 - k).toNat = m) (m := (k0 - k).toNat) (by omega) ⟨k, rfl, a1, a2, a3, a4, rfl⟩ ?_
      rintro m x ⟨k, rfl, a1, a2, a3, a4, rfl⟩ K hK
      dsimp only
      rw [wrap_id (x := k + 1) (by omega)]
      refine Ok.j (Ok.opt (hhand (k + 1) (by omega) (by omega)) fun ⟨v, b⟩ ⟨g1, g2⟩ => ?_)
      dsimp only at g1 g2 ⊢
      by_cases hm : handS off l (k + 1) ≤ 8589934592
      · have hb : b = true := by rw [g1]; simp [hm]
        subst hb
        rw [g2 rfl]
        refine Ok.t (Ok.ite (fun hlt => Ok.s (shift_is hl a1 a4 hlt).symm) (fun hge => ?_))
        have : k ≠ k0 := fun e => by rw [e] at hge; omega
        rw [wrap_id (x := k + 1) (by omega)]
        exact hK _ _ (by omega) ⟨k + 1, rfl, by omega, by omega, by omega, by omega, rfl⟩
      · have hb : b = false := by rw [g1]; simp [hm]
        subst hb
        exact Ok.f (Ok.s (shift_is hl a1 a4 (by omega)).symm)
    have h00 : handS off l 0 ≤ t := by rw [h0]; omega
    refine Ok.loop (fun m x => ∃ k, x = ((t, k, ()), tabV off, l, ()) ∧ 0 ≤ k ∧ (m = 1 ∧ k = k0 ∨ m = 0 ∧ k = k0 - 1)) (m := 1) (by omega) ⟨k0, rfl, k1, .inl ⟨rfl, rfl⟩⟩ ?_
    rintro m x ⟨k, rfl, a1, a2⟩ K hK
    dsimp only
    refine Ok.ite (fun hpos => ?_) (fun hz => ?_)
    · refine Ok.j (Ok.opt (hhand k (by omega) (by omega)) fun ⟨v, b⟩ ⟨g1, g2⟩ => ?_)
      dsimp only at g1 g2 ⊢
      have down : ¬ handS off l k ≤ t → Ok (K ((t, IntKind.wrap .i64 (k - 1), ()), tabV off, l, ())) (· = shiftV off l t) := fun hgt => by
        rw [wrap_id (x := k - 1) (by omega)]
        rcases a2 with ⟨rfl, rfl⟩ | ⟨rfl, rfl⟩
        · exact hK 0 _ (by omega) ⟨k - 1, rfl, by omega, .inr ⟨rfl, rfl⟩⟩
        · exact absurd (k3 (by omega)) hgt
      by_cases hm : handS off l k ≤ 8589934592
      · have hb : b = true := by rw [g1]; simp [hm]
        subst hb
        rw [g2 rfl]
        refine Ok.t (Ok.ite (fun hle => ?_) (fun hgt => down hgt))
        exact up k a1 (by omega) (by omega) hle
      · have hb : b = false := by rw [g1]; simp [hm]
        subst hb
        exact Ok.f (down (by omega))
    · obtain rfl : k = 0 := by omega
      exact up 0 (by omega) (by omega) (by omega) h00
theorem tOn {v : D.View} (hl : LayerOK l) (ho : OffOK off) (hv : v.tables = [tabV off]) (ht : 0 ≤ t ∧ t ≤ 8589934592) : duty_View_On 1000 v l t = some (if shiftV off l t < 0 then (0, false) else (shiftV off l t, true)) := by
  refine Ok.eq ?_
  unfold duty_View_On
  refine Ok.j (Ok.n (by omega) (Ok.n (by omega) ?_))
  dsimp only
  rw [hv, hl.zone]
  refine Ok.atn (i := 0) (by simp) (Ok.oe (tShift hl ho ht : recur_ShiftOf 1000 (nth [tabV off] 0) l t = _) ?_)
  refine Ok.j ?_
  by_cases h : shiftV off l t < 0
  · refine Ok.p h (Ok.s ?_)
    rw [if_pos h]
  · refine Ok.n h ?_
    rw [hl.win]
    refine Ok.n (by simp) ?_
    dsimp only
    exact Ok.p hl.cal.2 (Ok.s (by rw [if_neg h]))
theorem dutyAt (hl : LayerOK l) (h : ¬ shiftV off l t < 0) : atc l.Members (Int.tmod (shiftV off l t) (((List.length l.Members) : Nat) : Int)) (fun a2 => some a2) = some (dutyV off l t) := by
  have hlen := hl.len
  have e : Int.tmod (shiftV off l t) (((List.length l.Members) : Nat) : Int) = (((shiftV off l t).toNat % l.Members.length : Nat) : Int) := by
    rw [Int.tmod_eq_emod_of_nonneg (by omega), Int.natCast_emod, Int.toNat_of_nonneg (by omega)]
  rw [e, atc_n (Nat.mod_lt _ (by omega))]
  unfold dutyV
  rw [if_neg h]
theorem tPerson {v : D.View} (hl : LayerOK l) (ho : OffOK off) (hv : v.tables = [tabV off]) (ht : 0 ≤ t ∧ t ≤ 8589934592) : duty_View_Person 1000 v l t = some (dutyV off l t) := by
  have hlen := hl.len
  refine Ok.eq ?_
  unfold duty_View_Person
  refine Ok.oe (tOn hl ho hv ht) ?_
  by_cases h : shiftV off l t < 0
  · rw [if_pos h]
    refine Ok.nf rfl (Ok.s ?_)
    unfold dutyV
    rw [if_pos h]
  · rw [if_neg h]
    refine Ok.nt rfl (Ok.nzc (by omega) ?_)
    rw [dutyAt hl h]
    exact Ok.s rfl
theorem away1 {x : D.Edit} {p : Int} : stack_Away_1 1000 x p t = some (awayX p t x) := by
  unfold stack_Away_1 awayX
  simp only [sameC_p, cnd_if]
  by_cases h1 : x.Kind = 0 <;> by_cases h2 : x.A = p <;> by_cases h3 : x.From ≤ t <;> by_cases h4 : t < x.To <;> simp [h1, h2, h3, h4]
theorem tAway {s : D.Schedule} {p : Int} (hs : s.Edits.length < 900) : stack_Away 1000 s p t = some (awayV s.Edits p t) := by
  have key : Ok (slices_IndexFunc_Edit_1Fstack_Away_1 1000 s.Edits p t) fun r => decide (0 ≤ r) = awayV s.Edits p t := by
    unfold slices_IndexFunc_Edit_1Fstack_Away_1
    refine Ok.scan s.Edits.length (fun i => ((s.Edits, ((s.Edits.length : Nat) : Int), (i : Int), ()), (p, ()), (t, ()), ())) (fun i => awayX p t (nth s.Edits i)) rfl (by omega) (fun i hi hq _ k => ?_) (fun i hi hq k hk => ?_) (fun hq k => ?_)
    · refine Ok.p (by omega) (Ok.atn hi (Ok.oe away1 (Ok.bt hq (Ok.sameC (Ok.sameC (Ok.s ?_))))))
      unfold awayV
      rw [any_yes hi hq]; simp
    · refine Ok.p (by omega) (Ok.atn hi (Ok.oe away1 (Ok.bf hq ?_)))
      rw [wrap_succ (by omega)]; exact hk
    · refine Ok.n (by omega) (Ok.sameC (Ok.sameC (Ok.s ?_)))
      unfold awayV
      rw [any_no hq]; simp
  obtain ⟨r, h1, h2⟩ := key
  unfold stack_Away slices_ContainsFunc_Edit_1Fstack_Away_1
  rw [h1, optc_s, sameC_p, sameC_p, optc_s, h2]
theorem tFold {es : List D.Edit} {p : Int} (hs : es.length < 900) : edit_Fold 1000 es p t = some (foldV es p t) := by
  refine Ok.eq ?_
  unfold edit_Fold
  refine Ok.run es.length (fun i => ((foldV (es.take i) p t, t, es, ((es.length : Nat) : Int), (i : Int), ()), ())) (by simp [foldV]) (by omega) (fun i hi k hk => ?_) (fun k => ?_)
  · refine Ok.p (by omega) (Ok.j (Ok.atn hi ?_))
    dsimp only
    have ha : edit_active 1000 (nth es i) t = some (decide ((nth es i).From ≤ t ∧ t < (nth es i).To)) := cnd2
    refine Ok.oe ha ?_
    rw [wrap_succ (by omega)]
    rw [foldV_snoc hi] at hk
    unfold foldS at hk
    refine Ok.ite (fun h1 => ?_) (fun h1 => ?_)
    · refine Ok.ite (fun h2 => ?_) (fun h2 => ?_)
      · rw [if_pos (.inr h2)] at hk; exact hk
      · rw [if_neg (by simp [h1, h2])] at hk
        refine Ok.ite (fun h3 => ?_) (fun h3 => ?_)
        · rw [if_pos h3] at hk; exact hk
        · rw [if_neg h3] at hk
          refine Ok.ite (fun h4 => ?_) (fun h4 => ?_)
          · rw [if_pos h4] at hk; exact hk
          · rw [if_neg h4] at hk
            refine Ok.ite (fun h5 => ?_) (fun h5 => ?_)
            · rw [if_pos h5] at hk; exact hk
            · rw [if_neg h5] at hk
              refine Ok.ite (fun h6 => ?_) (fun h6 => ?_)
              · rw [if_pos h6] at hk; exact hk
              · rw [if_neg h6] at hk; exact hk
    · rw [if_pos (.inl h1)] at hk; exact hk
  · refine Ok.n (by omega) (Ok.s ?_)
    rw [List.take_length]
variable {n : Nat} {c : D.Config}
theorem CfgOK.offs (h : CfgOK n c) : OffOK (offOf c) := h.zones.2
theorem tOf (h : CfgOK n c) (hn : n ≤ 48) : duty_Of 1000 c = some (⟨c, [tabV (offOf c)]⟩, true) := by
  have hz : zone_Tables 1000 c.Zones = some [tabV (offOf c)] := by
    obtain ⟨h1, h2⟩ := h.zones
    rw [h1]
    rcases h2 with h2 | h2 | h2 <;> rw [h2] <;> kernel_rfl
  unfold duty_Of duty_view
  rw [check_ok h hn, optc_s, cnd_n (by decide), hz, optc_s, optc_s]
theorem tWhoOf {s : D.Schedule} (h : CfgOK n c) (hn : n ≤ 48) (hs : SchedOK n s) : edit_WhoOf 1000 ⟨c, [tabV (offOf c)]⟩ s t = some (if 0 ≤ t ∧ t ≤ 8589934592 then whoS (offOf c) s t else -1) := by
  obtain ⟨l, hl1, hl2⟩ := hs.layers
  have hlen := hs.len
  refine Ok.eq ?_
  unfold edit_WhoOf
  refine Ok.j (Ok.ite (fun h1 => Ok.s (by rw [if_neg (by omega)])) fun h1 => Ok.ite (fun h2 => Ok.s (by rw [if_neg (by omega)])) fun h2 => ?_)
  dsimp only
  rw [if_pos (by omega)]
  have hlay : Ok (stack_LayerOf 1000 ⟨c, [tabV (offOf c)]⟩ s t) fun r => r.2 = layP (offOf c) s t := by
    unfold stack_LayerOf layP
    rw [hl1, show nth [l] 0 = l from rfl]
    refine Ok.oe (tPerson hl2 h.offs rfl (by omega)) (Ok.ite (fun h3 => Ok.s (by rw [if_neg (by omega)])) fun h3 => ?_)
    refine Ok.oe (tAway (by omega)) (Ok.cnd (fun h4 => Ok.s (by rw [if_neg (by rw [h4]; simp)])) fun h4 => Ok.s (by rw [if_pos ⟨by omega, h4⟩]))
  refine Ok.opt hlay fun ⟨i, p⟩ hp => ?_
  dsimp only at hp ⊢
  refine Ok.oe (tFold (by omega)) (Ok.s ?_)
  unfold whoS
  rw [hp]
theorem who_is {i : Int} (h : CfgOK n c) (hn : n ≤ 48) : roster_Who 1000 c i t = some (whoV c i t) := by
  have hsl := h.slen
  have key : Ok (edit_Who 1000 c i t) (· = whoV c i t) := by
    unfold edit_Who whoV
    refine Ok.oe (tOf h hn) (Ok.j (Ok.t ?_))
    have hi : stack_Index 1000 c i = some (decide (0 ≤ i ∧ i < (c.Schedules.length : Int))) := cnd2
    refine Ok.oe hi (Ok.ite (fun h1 => ?_) (fun h1 => Ok.s (by rw [if_neg (by omega)])))
    dsimp only
    refine Ok.at h1.1 h1.2 (Ok.oe (tWhoOf h hn (h.sch (by omega))) (Ok.s ?_))
    by_cases ht : 0 ≤ t ∧ t ≤ 8589934592
    · rw [if_pos ht, if_pos ⟨h1.1, by omega, ht⟩]
    · rw [if_neg ht, if_neg (by omega)]
  unfold roster_Who
  rw [Ok.eq key, optc_s]
end Go.Proofs.YtfhcigjkfelnfaaGreat
/-
  Who is on call in a crew: what the reference computes.
-/
set_option maxRecDepth 100000
set_option linter.unusedVariables false
set_option linter.unusedSimpArgs false
namespace Go.Proofs.YtfhcigjkfelnfaaGreat
open Go AM
variable {off t k : Int} {l : D.Layer}
def zoneV (off : Int) : D.Zone := ⟨bZ, off, []⟩
theorem r4In {fu : Nat} {n lo hi : Int} : r04_in fu n lo hi = some (decide (lo ≤ n ∧ n ≤ hi)) := cnd2
theorem qTrans (ho : OffOK off) : r04_Transitions 1000 (zoneV off) = some ([], 0) := by
  rcases ho with rfl | rfl | rfl <;> kernel_rfl
theorem qOffset : r04_offset 1000 (zoneV off) [] t = some off := by
  refine Ok.eq ?_
  unfold r04_offset
  refine Ok.j (Ok.run 0 (fun _ => (([], (t, (off, (0, ())))), ())) rfl (by omega) (fun i hi => absurd hi (by omega)) (fun k => ?_))
  exact Ok.j (Ok.n (by simp) (Ok.s rfl))
theorem qLocal (ho : OffOK off) (ht : 0 ≤ t ∧ t ≤ 8589934592) : r04_ToLocal 1000 (zoneV off) t = some (⟨(t + off) / 86400, (t + off) % 86400⟩, 0) := by
  have := ho.le
  have h1 : r04_OffsetAt 1000 (zoneV off) t = some (off, 0) := by
    refine Ok.eq ?_
    unfold r04_OffsetAt
    exact Ok.oe (qTrans ho) (Ok.n (by decide) (Ok.oe r4In (Ok.np (by omega) (Ok.oe qOffset (Ok.s rfl)))))
  refine Ok.eq ?_
  unfold r04_ToLocal
  refine Ok.oe h1 (Ok.n (by decide) ?_)
  unfold r04_local
  rw [wrap_id (x := t + off) (by omega), wrap_id (x := t + off + 864000) (by omega), Int.tdiv_eq_ediv_of_nonneg (by omega), Int.tmod_eq_emod_of_nonneg (by omega), wrap_id (x := (t + off + 864000) / 86400) (by omega), wrap_id (by omega), nzc_p (by omega), nzc_p (by omega), optc_s]
  exact Ok.s (by rw [Prod.mk.injEq, D.Local.mk.injEq]; omega)
theorem qFirst {d s : Int} (ho : OffOK off) (hd : 1 ≤ d ∧ d ≤ 1000000) (hs : 0 ≤ s ∧ s ≤ 86399) :
    Ok (r04_First 1000 (zoneV off) ⟨d, s⟩) fun r => decide (r.2 = 0) = decide (d * 86400 + s - off ≤ 8589934592) ∧ (r.2 = 0 → r.1 = d * 86400 + s - off) := by
  have := ho.le
  unfold r04_First
  refine Ok.oe (qTrans ho) (Ok.n (by decide) (Ok.oe r4In (Ok.np (by dsimp only; omega) (Ok.n (by dsimp only; omega) ?_))))
  have hsm : r04_small 1000 d = some (decide (-2 ≤ d ∧ d ≤ 99422)) := by unfold r04_small; rw [r4In, optc_s]
  refine Ok.oe hsm ?_
  by_cases hd2 : d ≤ 99422
  · refine Ok.np (by omega) ?_
    refine Ok.loop (fun m x => x = (([], (-1, ())), (zoneV off, (⟨d, s⟩, ()))) ∧ m = 1 ∨ x = (([], (0, ())), (zoneV off, (⟨d, s⟩, ()))) ∧ m = 0 ∧ ¬ d * 86400 + s - off ≤ 8589934592) (m := 1) (by omega) (.inl ⟨rfl, rfl⟩) ?_
    rintro m x (⟨rfl, rfl⟩ | ⟨rfl, rfl, hno⟩) K hK
    · dsimp only
      refine Ok.p (by simp) (Ok.j (Ok.n (by decide) ?_))
      dsimp only
      refine Ok.j (Ok.n (by rw [wrap_id (by omega)]; simp) ?_)
      have ew : max 0 (IntKind.wrap .i64 (IntKind.wrap .i64 (IntKind.wrap .i64 (d * 86400) + s) - off)) = d * 86400 + s - off := by
        rw [wrap_id (x := d * 86400) (by omega), wrap_id (x := d * 86400 + s) (by omega), wrap_id (x := d * 86400 + s - off) (by omega)]; omega
      by_cases h : d * 86400 + s - off ≤ 8589934592
      · exact Ok.p (show max 0 (IntKind.wrap .i64 (IntKind.wrap .i64 (IntKind.wrap .i64 (d * 86400) + s) - off)) < 8589934593 by rw [ew]; omega) (Ok.s ⟨by simp [h], fun _ => ew⟩)
      · exact Ok.n (show ¬ max 0 (IntKind.wrap .i64 (IntKind.wrap .i64 (IntKind.wrap .i64 (d * 86400) + s) - off)) < 8589934593 by rw [ew]; omega) (hK 0 _ (by omega) (.inr ⟨rfl, rfl, h⟩))
    · dsimp only
      exact Ok.n (by simp) (Ok.s ⟨by simp; omega, fun h => by simp at h⟩)
  · refine Ok.nn (by omega) (Ok.s ⟨by simp; omega, fun h => by simp at h⟩)
theorem qHand (hl : LayerOK l) (ho : OffOK off) (hk : 0 ≤ k ∧ k ≤ 200000) (hu : l.Unit = 1) :
    Ok (r10_handover 1000 (zoneV off) l k) fun r => r.2 = decide (handS off l k ≤ 8589934592) ∧ (r.2 = true → r.1 = handS off l k) := by
  have := ho.le
  have h1 := hl.day; have h2 := hl.second; have h4 := hl.every
  unfold r10_handover
  refine Ok.n (by omega) (Ok.j (Ok.n (by omega) ?_))
  dsimp only
  have hE : l.Every = 1 ∨ l.Every = 2 ∨ l.Every = 3 := by omega
  have hh : handS off l k = (l.Start.Day + k * l.Every) * 86400 + l.Start.Second - off := (hand_day (span_days hu)).symm
  have hb : 0 ≤ k * l.Every ∧ k * l.Every ≤ 600000 := by rcases hE with e | e | e <;> rw [e] <;> omega
  rw [wrap_id (x := k * l.Every) (by omega), wrap_id (x := l.Start.Day + k * l.Every) (by omega)]
  refine Ok.opt (qFirst (d := l.Start.Day + k * l.Every) (s := l.Start.Second) ho (by omega) (by omega)) fun ⟨v, b⟩ ⟨g1, g2⟩ => ?_
  rw [← hh] at g1 g2
  refine Ok.s ⟨g1, fun h => g2 (of_decide_eq_true h)⟩
theorem qShift (hl : LayerOK l) (ho : OffOK off) (ht : 0 ≤ t ∧ t ≤ 8589934592) : r10_shift 1000 (zoneV off) l t = some (shiftV off l t) := by
  have hoo := ho.le
  have h1 := hl.day; have h2 := hl.second; have h4 := hl.every
  have hf := firstS_in (off := off) hl ho
  have h0 : handS off l 0 = firstS off l := by unfold handS; omega
  have hfd : firstS off l = l.Start.Day * 86400 + l.Start.Second - off := rfl
  have e3 := shiftV_le (t := t) hl ho (by omega)
  refine Ok.eq ?_
  unfold r10_shift
  rcases hl.unit with hu | hu
  · refine Ok.p hu (Ok.j ?_)
    refine Ok.opt (qFirst (d := l.Start.Day) (s := l.Start.Second) ho (by omega) (by omega)) fun ⟨v, b⟩ ⟨g1, g2⟩ => ?_
    dsimp only at g1 g2 ⊢
    have hb : b = 0 := by
      have : decide (b = 0) = true := by rw [g1]; simp; omega
      exact of_decide_eq_true this
    rw [g2 hb, ← hfd]
    refine Ok.p hb (Ok.ite (fun hle => ?_) (fun hgt => Ok.s ?_))
    · have e1 : IntKind.wrap .i64 (3600 * l.Every) = 3600 * l.Every := wrap_id (by omega)
      rw [e1]
      refine Ok.nzc (by omega) ?_
      rw [wrap_id (x := t - firstS off l) (by omega), Int.tdiv_eq_ediv_of_nonneg (by omega)]
      have e2 : (t - firstS off l) / (3600 * l.Every) = shiftV off l t := by unfold shiftV; rw [if_neg (by omega), span_hours hu]
      rw [e2, wrap_id (by omega)]
      exact Ok.s rfl
    · exact (shift_no (by rw [h0]; omega)).symm
  · refine Ok.n (by omega) (Ok.oe (qLocal ho ht) (Ok.j (Ok.n (by omega) ?_)))
    dsimp only
    obtain ⟨dy, hD⟩ : ∃ dy, (t + off) / 86400 = dy := ⟨_, rfl⟩
    rw [hD]
    have hDb : -1 ≤ dy ∧ dy ≤ 99422 := by omega
    refine Ok.j (Ok.nzc (by omega) ?_)
    rw [wrap_id (x := dy + 2) (by omega), wrap_id (x := dy + 2 - l.Start.Day) (by omega), Int.tdiv_eq_ediv_of_nonneg (by omega)]
    obtain ⟨k0, hk0⟩ : ∃ k0, max (dy + 2 - l.Start.Day) 0 / l.Every = k0 := ⟨_, rfl⟩
    rw [hk0]
    have hE : l.Every = 1 ∨ l.Every = 2 ∨ l.Every = 3 := by omega
    have hlin : ∀ k, handS off l k = firstS off l + 86400 * l.Every * k := fun k => (hand_lin hl).2 hu
    have hk : 0 ≤ k0 ∧ k0 ≤ 99424 ∧ (∀ k, 0 ≤ k → k ≤ k0 - 3 → handS off l k ≤ t) ∧ t < handS off l (k0 + 1) := by
      refine ⟨?_, ?_, fun k a b => ?_, ?_⟩
      · rcases hE with e | e | e <;> rw [e] at hk0 <;> omega
      · rcases hE with e | e | e <;> rw [e] at hk0 <;> omega
      · rw [hlin, hfd]; rcases hE with e | e | e <;> rw [e] at hk0 ⊢ <;> omega
      · rw [hlin, hfd]; rcases hE with e | e | e <;> rw [e] at hk0 ⊢ <;> omega
    obtain ⟨k1, k2, k3, k4⟩ := hk
    rw [wrap_id (x := k0) (by omega)]
    refine Ok.loop (fun m x => ∃ k, x = ((t, k, ()), zoneV off, l, ()) ∧ -1 ≤ k ∧ k ≤ k0 ∧ (k = -1 ∨ k0 - 3 ≤ k) ∧ t < handS off l (k + 1) ∧ m = (k - (k0 - 4)).toNat) (m := 4) (by omega) ⟨k0, rfl, by omega, by omega, by omega, k4, by omega⟩ ?_
    rintro m x ⟨k, rfl, a1, a2, a3, a4, rfl⟩ K hK
    dsimp only
    refine Ok.ite (fun hpos => ?_) (fun hz => ?_)
    · refine Ok.j (Ok.opt (qHand (k := k) hl ho (by omega) hu) fun ⟨v, b⟩ ⟨g1, g2⟩ => ?_)
      dsimp only at g1 g2 ⊢
      have down : ¬ handS off l k ≤ t → Ok (K ((t, IntKind.wrap .i64 (k - 1), ()), zoneV off, l, ())) (· = shiftV off l t) := fun hgt => by
        rw [wrap_id (x := k - 1) (by omega)]
        have hne : ¬ k ≤ k0 - 3 := fun h => hgt (k3 k hpos h)
        exact hK _ _ (by omega) ⟨k - 1, rfl, by omega, by omega, by omega, by rw [show k - 1 + 1 = k by omega]; omega, rfl⟩
      by_cases hm : handS off l k ≤ 8589934592
      · have hb : b = true := by rw [g1]; simp [hm]
        subst hb
        rw [g2 rfl]
        refine Ok.t (Ok.ite (fun hle => ?_) (fun hgt => down hgt))
        exact Ok.s (shift_is hl hpos hle a4).symm
      · have hb : b = false := by rw [g1]; simp [hm]
        subst hb
        exact Ok.f (down (by omega))
    · obtain rfl : k = -1 := by omega
      exact Ok.s (shift_no (by simpa using a4)).symm
variable {n : Nat} {c : D.Config}
theorem qCheck10 (hl : LayerOK l) (ho : OffOK off) : r10_Check 1000 (zoneV off) l = some 0 := by
  have h1 := hl.day; have h2 := hl.second; have h3 := hl.unit; have h4 := hl.every; have h5 := hl.len
  have hz : r04_Check 1000 (zoneV off) = some 0 := by unfold r04_Check; rw [qTrans ho, optc_s]
  refine Ok.eq ?_
  unfold r10_Check
  (repeat (first | with_reducible refine Ok.j ?_ | with_reducible refine Ok.t ?_ | with_reducible refine Ok.f ?_ | with_reducible refine Ok.nt rfl ?_ | with_reducible refine Ok.nf rfl ?_ | with_reducible refine Ok.oe (hz) ?_ | (with_reducible refine Ok.p ?hh ?_; case hh => (first | omega | decide | assumption | (dsimp only; omega) | (simp; done))) | (with_reducible refine Ok.n ?hh ?_; case hh => (first | omega | decide | assumption | (dsimp only; omega) | (simp; done))) | (with_reducible refine Ok.np ?hh ?_; case hh => (first | omega | decide | assumption | (dsimp only; omega) | (simp; done))) | (with_reducible refine Ok.nn ?hh ?_; case hh => (first | omega | decide | assumption | (dsimp only; omega) | (simp; done))) | (with_reducible refine Ok.nzc ?hh ?_; case hh => first | omega | decide) | with_reducible refine Ok.sameC ?_ | with_reducible refine Ok.os ?_))
  exact Ok.s rfl
theorem qLook (h : CfgOK n c) (hl : LayerOK l) (ht : 0 ≤ t ∧ t ≤ 8589934592) : r11_look 1000 c l t = some (if shiftV (offOf c) l t < 0 then (0, false) else (shiftV (offOf c) l t, true)) := by
  have hS : r10_Shift 1000 (zoneV (offOf c)) l t = some (shiftV (offOf c) l t, 0) := by
    refine Ok.eq ?_
    unfold r10_Shift
    refine Ok.oe (qCheck10 hl h.offs) (Ok.n (by decide) (Ok.j (Ok.n (by omega) (Ok.n (by omega) ?_))))
    exact Ok.oe (qShift hl h.offs ht) (Ok.s rfl)
  refine Ok.eq ?_
  unfold r11_look
  rw [h.zones.1, hl.zone]
  refine Ok.atn (i := 0) (by simp) (Ok.oe (hS : r10_Shift 1000 (nth [(⟨bZ, offOf c, []⟩ : D.Zone)] 0) l t = _) ?_)
  refine Ok.j (Ok.n (by decide) ?_)
  by_cases hs : shiftV (offOf c) l t < 0
  · exact Ok.p hs (Ok.s (by rw [if_pos hs]))
  · refine Ok.n hs ?_
    rw [hl.win]
    refine Ok.n (by simp) ?_
    dsimp only
    exact Ok.p hl.cal.2 (Ok.s (by rw [if_neg hs]))
theorem qRaw (h : CfgOK n c) (hl : LayerOK l) (ht : 0 ≤ t ∧ t ≤ 8589934592) : r11_Raw 1000 c l t = some (dutyV (offOf c) l t) := by
  have hlen := hl.len
  refine Ok.eq ?_
  unfold r11_Raw
  refine Ok.oe (qLook h hl ht) ?_
  by_cases hs : shiftV (offOf c) l t < 0
  · rw [if_pos hs]
    refine Ok.nf rfl (Ok.s ?_)
    unfold dutyV
    rw [if_pos hs]
  · rw [if_neg hs]
    refine Ok.nt rfl (Ok.nzc (by omega) ?_)
    rw [dutyAt hl hs]
    exact Ok.s rfl
theorem qAway {s : D.Schedule} {p : Int} (hs : s.Edits.length < 900) : r12_Away 1000 s p t = some (awayV s.Edits p t) := by
  refine Ok.eq ?_
  unfold r12_Away
  refine Ok.scan s.Edits.length (fun i => ((p, t, (i : Int), ()), s, ())) (fun i => awayX p t (nth s.Edits i)) rfl (by omega) (fun i hi hq _ k => ?_) (fun i hi hq k hk => ?_) (fun hq k => ?_)
  · refine Ok.p (by omega) (Ok.j (Ok.atn hi ?_))
    have hq' := hq
    simp only [awayX, Bool.and_eq_true, decide_eq_true_eq] at hq'
    exact Ok.p hq'.1.1.1 (Ok.p hq'.1.1.2 (Ok.p hq'.1.2 (Ok.p hq'.2 (Ok.s (by unfold awayV; rw [any_yes hi hq])))))
  · refine Ok.p (by omega) (Ok.j (Ok.atn hi ?_))
    dsimp only
    rw [wrap_succ (by omega)]
    have hq' : ¬ ((nth s.Edits i).Kind = 0 ∧ (nth s.Edits i).A = p ∧ (nth s.Edits i).From ≤ t ∧ t < (nth s.Edits i).To) := fun ⟨a, b, c, d⟩ => by
      simp [awayX, a, b, c, d] at hq
    refine Ok.ite (fun g1 => Ok.ite (fun g2 => Ok.ite (fun g3 => Ok.ite (fun g4 => absurd ⟨g1, g2, g3, g4⟩ hq') (fun _ => hk)) (fun _ => hk)) (fun _ => hk)) (fun _ => hk)
  · refine Ok.n (by omega) (Ok.s ?_)
    unfold awayV
    rw [any_no hq]
theorem qFold {es : List D.Edit} {p : Int} (hs : es.length < 900) : r13_Fold 1000 es p t = some (foldV es p t) := by
  refine Ok.eq ?_
  unfold r13_Fold
  refine Ok.run es.length (fun i => ((es, foldV (es.take i) p t, t, (i : Int), ()), ())) (by simp [foldV]) (by omega) (fun i hi k hk => ?_) (fun k => ?_)
  · refine Ok.p (by omega) (Ok.j (Ok.atn hi ?_))
    dsimp only
    rw [wrap_succ (by omega)]
    rw [foldV_snoc hi] at hk
    have hfold : ∀ v, v = foldS t (foldV (es.take i) p t) (nth es i) → Ok (k ((es, v, t, ((i + 1 : Nat) : Int), ()), ())) (· = foldV es p t) := fun v e => by rw [e]; exact hk
    refine Ok.ite (fun h1 => hfold _ ?_) fun h1 => Ok.ite (fun h2 => hfold _ ?_) fun h2 => Ok.ite (fun h3 => hfold _ ?_) fun h3 => Ok.ite (fun h4 => Ok.ite (fun h5 => hfold _ ?_) fun h5 => Ok.p h4 (Ok.ite (fun h6 => hfold _ ?_) fun h6 => hfold _ ?_)) fun h4 => Ok.n h4 (hfold _ ?_)
    all_goals unfold foldS
    · rw [if_pos (by omega)]
    · rw [if_pos (by omega)]
    · rw [if_neg (by omega), if_pos h3]
    · rw [if_neg (by omega), if_neg h3, if_neg (by omega), if_pos h5]
    · rw [if_neg (by omega), if_neg h3, if_neg (by omega), if_neg h5, if_pos h6]
    · rw [if_neg (by omega), if_neg h3, if_neg (by omega), if_neg h5, if_neg h6]
    · by_cases h7 : (nth es i).Kind = 0
      · rw [if_pos (.inr h7)]
      · rw [if_neg (by omega), if_neg h3, if_pos h4]
  · refine Ok.n (by omega) (Ok.s ?_)
    rw [List.take_length]
theorem qTop {i : Int} (h : CfgOK n c) (hn : n ≤ 48) (hi : 0 ≤ i ∧ i < 2) (ht : 0 ≤ t ∧ t ≤ 8589934592) : Ok (r12_Top 1000 c i t) fun r => r.2 = layP (offOf c) (nth c.Schedules i.toNat) t := by
  have hsl := h.slen
  have hs := h.sch (i := i.toNat) (by omega)
  obtain ⟨l, hl1, hl2⟩ := hs.layers
  have hlen := hs.len
  unfold r12_Top layP
  refine Ok.at (by omega) (by omega) ?_
  rw [hl1, show nth [l] 0 = l from rfl, show IntKind.wrap .i64 (((List.length [l] : Nat) : Int) - 1) = 0 from by rw [wrap_id (by simp)]; simp]
  obtain ⟨s, hsd⟩ : ∃ s, nth c.Schedules i.toNat = s := ⟨_, rfl⟩
  rw [hsd] at hl1 hlen ⊢
  refine Ok.loop (fun m x => x = ((t, 0, ()), c, s, ()) ∧ m = 1 ∨ x = ((t, -1, ()), c, s, ()) ∧ m = 0 ∧ ¬ (0 ≤ dutyV (offOf c) l t ∧ awayV s.Edits (dutyV (offOf c) l t) t = false)) (m := 1) (by omega) (.inl ⟨rfl, rfl⟩) ?_
  rintro m x (⟨rfl, rfl⟩ | ⟨rfl, rfl, hno⟩) K hK
  · dsimp only
    rw [hl1]
    refine Ok.p (by omega) (Ok.j (Ok.atn (i := 0) (by simp) (Ok.oe (qRaw h hl2 ht : r11_Raw 1000 c (nth [l] 0) t = _) ?_)))
    have hnx : ¬ (0 ≤ dutyV (offOf c) l t ∧ awayV s.Edits (dutyV (offOf c) l t) t = false) → Ok (K ((t, IntKind.wrap .i64 (0 - 1), ()), c, s, ())) fun r => r.2 = if 0 ≤ dutyV (offOf c) l t ∧ awayV s.Edits (dutyV (offOf c) l t) t = false then dutyV (offOf c) l t else -1 := fun hno => hK 0 _ (by omega) (.inr ⟨rfl, rfl, hno⟩)
    refine Ok.ite (fun h1 => Ok.oe (qAway (by omega)) (Ok.cnd (fun h2 => hnx (fun h => by have := h.2.symm.trans h2; simp at this)) (fun h2 => Ok.s (by rw [if_pos ⟨h1, h2⟩]; rfl)))) (fun h1 => hnx (fun h => h1 h.1))
  · dsimp only
    exact Ok.n (by omega) (Ok.s (by rw [if_neg hno]))
theorem whoR_is {i : Int} (h : CfgOK n c) (hn : n ≤ 48) : r14_Who 1000 c i t = some (whoV c i t) := by
  have hsl := h.slen
  have key : Ok (r13_Who 1000 c i t) (· = whoV c i t) := by
    unfold r13_Who r12_Ok whoV
    by_cases hc : 0 ≤ i ∧ i < 2 ∧ 0 ≤ t ∧ t ≤ 8589934592
    · rw [if_pos hc, cnd_p hc.1, cnd_p (by omega), cnd_p hc.2.2.1, cnd_p hc.2.2.2, check8_ok h hn, optc_s, cnd_p rfl, optc_s]
      refine Ok.nt rfl ?_
      unfold r13_Raw
      have hs := h.sch (i := i.toNat) (by omega)
      have hlen := hs.len
      refine Ok.opt (P := (· = whoS (offOf c) (nth c.Schedules i.toNat) t)) ?_ fun r hr => Ok.s hr
      refine Ok.opt (qTop h hn ⟨hc.1, hc.2.1⟩ hc.2.2) fun ⟨a, p⟩ hp => ?_
      dsimp only at hp ⊢
      refine Ok.at (by omega) (by omega) (Ok.oe (qFold (by omega)) (Ok.s ?_))
      unfold whoS
      rw [hp]
    · rw [if_neg hc]
      have hf : AM.cnd (decide (0 ≤ i)) (AM.cnd (decide (i < ((c.Schedules.length : Nat) : Int))) (AM.cnd (decide (0 ≤ t)) (AM.cnd (decide (t ≤ 8589934592)) (optc (r08_Check 1000 c) fun a0 => AM.cnd (decide (a0 = 0)) (some true) (some false)) (some false)) (some false)) (some false)) (some false) = some false := by
        rw [hsl]
        by_cases h1 : 0 ≤ i
        · rw [cnd_p h1]
          by_cases h2 : i < ((2 : Nat) : Int)
          · rw [cnd_p h2]
            by_cases h3 : 0 ≤ t
            · rw [cnd_p h3, cnd_n (by omega)]
            · rw [cnd_n h3]
          · rw [cnd_n h2]
        · rw [cnd_n h1]
      rw [hf, optc_s]
      exact Ok.nf rfl (Ok.s rfl)
  unfold r14_Who
  rw [Ok.eq key, optc_s]
end Go.Proofs.YtfhcigjkfelnfaaGreat
/-
  Whether a person of a crew may be called: what the program and the reference compute.
-/
set_option maxRecDepth 100000
set_option linter.unusedVariables false
set_option linter.unusedSimpArgs false
namespace Go.Proofs.YtfhcigjkfelnfaaGreat
open Go AM
variable {off t p : Int} {n : Nat} {c : D.Config} {ur : Bool}
theorem wd_is {d : Int} (hd : -10 ≤ d ∧ d ≤ 100000) : civil_Weekday 1000 d = some ((d + 3) % 7) ∧ r01_Weekday 1000 d = some ((d + 3) % 7) := by
  have key : AM.nzc 7 (AM.nzc 7 (some (Int.tmod (IntKind.wrap .i64 ((Int.tmod d 7) + 10)) 7))) = some ((d + 3) % 7) := by
    have h1 := tmod_within (a := d) (n := 7) (by omega)
    rw [wrap_id (by omega), nzc_p (by omega), nzc_p (by omega), Int.tmod_eq_emod_of_nonneg (by omega)]
    by_cases h0 : 0 ≤ d
    · rw [Int.tmod_eq_emod_of_nonneg h0]; congr 1; omega
    · have e1 : Int.tmod d 7 = -((-d) % 7) := by
        rw [show d = -(-d) by omega, Int.neg_tmod, Int.tmod_eq_emod_of_nonneg (by omega), Int.neg_neg]
      rw [e1]; congr 1; omega
  exact ⟨key, key⟩
theorem second_is (ho : OffOK off) (ht : 0 ≤ t ∧ t ≤ 8589934592) : week_SecondOf 1000 ⟨(t + off) / 86400, (t + off) % 86400⟩ = some (secondOf off t) ∧ r05_second 1000 ⟨(t + off) / 86400, (t + off) % 86400⟩ = some (secondOf off t) := by
  have := ho.le
  have hw := wd_is (d := (t + off) / 86400) (by omega)
  unfold week_SecondOf r05_second secondOf
  dsimp only
  rw [hw.1, hw.2, optc_s, wrap_id (x := ((t + off) / 86400 + 3) % 7 * 86400) (by omega), wrap_id (by omega)]
  exact ⟨rfl, rfl⟩
theorem has_is {ws : List D.Window} {s : Int} (hw : ws.length < 900) : week_Has 1000 ws s = some (quietV ws s) := by
  refine Ok.eq ?_
  unfold week_Has
  refine Ok.scan ws.length (fun i => ((s, ws, ((ws.length : Nat) : Int), (i : Int), ()), ())) (fun i => decide ((nth ws i).From ≤ s) && decide (s < (nth ws i).To)) rfl (by omega) (fun i hi hq _ k => ?_) (fun i hi hq k hk => ?_) (fun hq k => ?_)
  · have hq' := hq
    simp only [Bool.and_eq_true, decide_eq_true_eq] at hq'
    exact Ok.p (by omega) (Ok.j (Ok.atn hi (Ok.p hq'.1 (Ok.p hq'.2 (Ok.s (by unfold quietV; rw [any_yes hi hq]))))))
  · refine Ok.p (by omega) (Ok.j (Ok.atn hi ?_))
    dsimp only
    rw [wrap_succ (by omega)]
    refine Ok.ite (fun h1 => Ok.ite (fun h2 => by simp [h1, h2] at hq) (fun _ => hk)) (fun _ => hk)
  · exact Ok.n (by omega) (Ok.s (by unfold quietV; rw [any_no hq]))
theorem within_is {ws : List D.Window} {s : Int} (hw : ws.length < 900) : r05_Within 1000 ws s = some (quietV ws s) := by
  refine Ok.eq ?_
  unfold r05_Within
  refine Ok.scan ws.length (fun i => ((ws, s, (i : Int), ()), ())) (fun i => decide ((nth ws i).From ≤ s) && decide (s < (nth ws i).To)) rfl (by omega) (fun i hi hq _ k => ?_) (fun i hi hq k hk => ?_) (fun hq k => ?_)
  · have hq' := hq
    simp only [Bool.and_eq_true, decide_eq_true_eq] at hq'
    exact Ok.p (by omega) (Ok.j (Ok.atn hi (Ok.p hq'.1 (Ok.atn hi (Ok.p hq'.2 (Ok.s (by unfold quietV; rw [any_yes hi hq])))))))
  · refine Ok.p (by omega) (Ok.j (Ok.atn hi ?_))
    dsimp only
    rw [wrap_succ (by omega)]
    refine Ok.ite (fun h1 => Ok.atn hi (Ok.ite (fun h2 => by simp [h1, h2] at hq) (fun _ => hk))) (fun _ => hk)
  · exact Ok.n (by omega) (Ok.s (by unfold quietV; rw [any_no hq]))
theorem range_is : duty_Range 1000 t t = some (decide (0 ≤ t ∧ t ≤ 8589934592)) ∧ r05_Range 1000 t t = some (decide (0 ≤ t ∧ t ≤ 8589934592)) := by
  have key : AM.cnd (decide (0 ≤ t)) (AM.cnd (decide (t ≤ 8589934592)) (AM.cnd (decide (t ≤ t)) (AM.cnd (decide (t ≤ 8589934592)) (AM.cnd (decide ((IntKind.wrap .i64 (t - t)) ≤ 34560000)) (some true) (some false)) (some false)) (some false)) (some false)) (some false) = some (decide (0 ≤ t ∧ t ≤ 8589934592)) := by
    rw [wrap_id (x := t - t) (by omega)]
    by_cases h1 : 0 ≤ t
    · by_cases h2 : t ≤ 8589934592
      · rw [cnd_p h1, cnd_p h2, cnd_p (by omega), cnd_p h2, cnd_p (by omega)]; simp [h1, h2]
      · rw [cnd_p h1, cnd_n h2]; simp [h2]
    · rw [cnd_n h1]; simp [h1]
  exact ⟨key, key⟩
theorem PersonOK.qlen {x : D.Person} (h : PersonOK x) : x.Quiet.length ≤ 1 := by
  rcases h.quiet with h | ⟨a, b, h, _⟩ <;> rw [h] <;> simp
theorem reach_is (h : CfgOK n c) (hn : n ≤ 48) : limits_Reachable 1000 c p t ur = some (reachV c p t ur) := by
  have hpl := h.plen
  refine Ok.eq ?_
  unfold limits_Reachable
  have hopen : Ok (limits_open 1000 c p t t) fun r => (r.2 = 0 ↔ 0 ≤ p ∧ p < 4 ∧ 0 ≤ t ∧ t ≤ 8589934592) ∧ (r.2 = 0 → r.1 = ⟨c, [tabV (offOf c)]⟩) := by
    unfold limits_open
    refine Ok.oe (tOf h hn) (Ok.j (Ok.nt rfl ?_))
    refine Ok.ite (fun h1 => Ok.s ⟨by simp; omega, fun h => by simp at h⟩) fun h1 => Ok.ite (fun h2 => Ok.s ⟨by simp; omega, fun h => by simp at h⟩) fun h2 => ?_
    refine Ok.oe range_is.1 (Ok.ncnd (fun h3 => Ok.s ⟨?_, fun h => by simp at h⟩) fun h3 => Ok.s ⟨?_, fun _ => rfl⟩)
    · have h3 := of_decide_eq_false h3
      simp; omega
    · have h3 := of_decide_eq_true h3
      simp; omega
  refine Ok.opt hopen fun ⟨v, e⟩ ⟨g1, g2⟩ => ?_
  dsimp only at g1 g2 ⊢
  by_cases he : e = 0
  · have hr := g1.1 he
    rw [g2 he]
    refine Ok.n (by simp [he]) (Ok.at hr.1 (by omega) ?_)
    obtain ⟨x, hx⟩ : ∃ x, nth c.People p.toNat = x := ⟨_, rfl⟩
    have hper := h.per (i := p.toNat) (by omega)
    rw [hx] at hper ⊢
    have hq := hper.qlen
    have htab : Ok (duty_View_Table 1000 ⟨c, [tabV (offOf c)]⟩ x.Zone) (· = tabV (offOf c)) := by
      unfold duty_View_Table
      rw [hper.zone]
      exact Ok.atn (i := 0) (by simp) (Ok.s rfl)
    have hlast : Ok (optc (duty_View_Table 1000 ⟨c, [tabV (offOf c)]⟩ x.Zone) fun a3 => optc (zone_Table_Local 1000 a3 t) fun a4 => optc (week_SecondOf 1000 a4) fun a5 => optc (week_Has 1000 x.Quiet a5) fun a6 => AM.cnd a6 (some false) (some true)) (· = !quietV x.Quiet (secondOf (offOf c) t)) := by
      refine Ok.opt htab fun tb htb => ?_
      subst htb
      refine Ok.oe (tLocal h.offs hr.2.2) (Ok.oe (second_is h.offs hr.2.2).1 (Ok.oe (has_is (by omega)) (Ok.cnd (fun h1 => Ok.s (by rw [h1]; rfl)) (fun h1 => Ok.s (by rw [h1]; rfl)))))
    have hv : reachV c p t ur = (ur && x.Consent || !quietV x.Quiet (secondOf (offOf c) t)) := by unfold reachV; rw [hx]; simp [hr.1, hr.2.1, hr.2.2.1, hr.2.2.2]
    rw [hv]
    refine Ok.cnd (fun h1 => Ok.cnd (fun h2 => Ok.s (by simp [h1, h2])) (fun h2 => hlast.mono fun r hr => by rw [hr, h1, h2]; simp)) (fun h1 => hlast.mono fun r hr => by rw [hr, h1]; simp)
  · refine Ok.p he (Ok.s ?_)
    have hr : ¬ (0 ≤ p ∧ p < 4 ∧ 0 ≤ t ∧ t ≤ 8589934592) := fun h => he (g1.2 h)
    unfold reachV
    rw [decide_eq_false hr]; rfl
theorem reachR_is (h : CfgOK n c) (hn : n ≤ 48) : r18_Reachable 1000 c p t ur = some (reachV c p t ur) := by
  have hpl := h.plen
  refine Ok.eq ?_
  unfold r18_Reachable
  have hopen : Ok (r18_Wrong 1000 c p t t) fun r => r = 0 ↔ 0 ≤ p ∧ p < 4 ∧ 0 ≤ t ∧ t ≤ 8589934592 := by
    unfold r18_Wrong
    refine Ok.j (Ok.oe (check8_ok h hn) (Ok.n (by decide) ?_))
    refine Ok.ite (fun h1 => Ok.s (by omega)) fun h1 => Ok.ite (fun h2 => Ok.s (by omega)) fun h2 => ?_
    refine Ok.oe range_is.2 (Ok.ncnd (fun h3 => Ok.s ?_) fun h3 => Ok.s ?_)
    · have h3 := of_decide_eq_false h3
      omega
    · have h3 := of_decide_eq_true h3
      omega
  refine Ok.opt hopen fun e g1 => ?_
  by_cases he : e = 0
  · have hr := g1.1 he
    refine Ok.n (by simp [he]) (Ok.at hr.1 (by omega) ?_)
    obtain ⟨x, hx⟩ : ∃ x, nth c.People p.toNat = x := ⟨_, rfl⟩
    have hper := h.per (i := p.toNat) (by omega)
    rw [hx] at hper ⊢
    have hq := hper.qlen
    have hv : reachV c p t ur = (ur && x.Consent || !quietV x.Quiet (secondOf (offOf c) t)) := by unfold reachV; rw [hx]; simp [hr.1, hr.2.1, hr.2.2.1, hr.2.2.2]
    rw [hv, hper.zone, h.zones.1]
    refine Ok.atn (i := 0) (by simp) ?_
    have hin : r05_In 1000 (zoneV (offOf c)) x.Quiet t = some (quietV x.Quiet (secondOf (offOf c) t)) := by
      refine Ok.eq ?_
      unfold r05_In r05_Second
      refine Ok.oe (v := (secondOf (offOf c) t, 0)) ?_ (Ok.p rfl (Ok.oe (week5_ok hper) (Ok.p rfl (Ok.oe (within_is (by omega)) (Ok.cnd (fun h1 => Ok.s (by rw [h1])) (fun h1 => Ok.s (by rw [h1])))))))
      refine Ok.eq (Ok.oe (qLocal h.offs hr.2.2) (Ok.n (by decide) (Ok.oe (second_is h.offs hr.2.2).2 (Ok.s rfl))))
    refine Ok.oe (hin : r05_In 1000 (nth [(⟨bZ, offOf c, []⟩ : D.Zone)] 0) x.Quiet t = _) ?_
    refine Ok.cnd (fun h1 => Ok.cnd (fun h2 => Ok.cnd (fun h3 => Ok.s (by simp [h2, h3])) (fun h3 => Ok.s (by simp [h1, h3]))) (fun h2 => Ok.s (by simp [h1, h2]))) (fun h1 => Ok.s (by simp [h1]))
  · refine Ok.p he (Ok.s ?_)
    have hr : ¬ (0 ≤ p ∧ p < 4 ∧ 0 ≤ t ∧ t ≤ 8589934592) := fun h => he (g1.2 h)
    unfold reachV
    rw [decide_eq_false hr]; rfl
end Go.Proofs.YtfhcigjkfelnfaaGreat
/-
  Lists that are changed in place: what filtering, sorting by insertion and leaving out neighbours that are equal keep. Plain.
-/
set_option maxRecDepth 100000
set_option linter.unusedVariables false
set_option linter.unusedSimpArgs false
namespace Go.Proofs.YtfhcigjkfelnfaaGreat
open Go AM
theorem take_succ_nth {l : List Int} {i : Nat} (h : i < l.length) : l.take (i + 1) = l.take i ++ [nth l i] := (take_snoc' h).symm
structure DelInv (p0 : List Int) (q : Int → Bool) (w j : Nat) (a : List Int) : Prop where
  len : a.length = p0.length
  wj : w ≤ j ∧ j ≤ p0.length
  done : a.take w = (p0.take j).filter q
  rest : ∀ k, j ≤ k → nth a k = nth p0 k
theorem filter_all {l : List Int} {q : Int → Bool} {i : Nat} (hi : i ≤ l.length) (h : ∀ j, j < i → q (nth l j) = true) : (l.take i).filter q = l.take i := by
  refine List.filter_eq_self.2 fun x hx => ?_
  obtain ⟨k, hk, rfl⟩ := List.getElem_of_mem hx
  rw [List.length_take] at hk
  have := h k (by omega)
  simpa [nth, List.getD_eq_getElem?_getD, List.getElem?_eq_getElem (show k < l.length by omega)] using this
theorem del_start {p0 : List Int} {q : Int → Bool} {i : Nat} (hi : i < p0.length) (h : ∀ j, j < i → q (nth p0 j) = true) (hx : q (nth p0 i) = false) : DelInv p0 q i (i + 1) p0 := by
  refine ⟨rfl, by omega, ?_, fun k _ => rfl⟩
  rw [take_succ_nth hi, List.filter_append, filter_all (by omega) h]
  simp [hx]
theorem del_keep {p0 a : List Int} {q : Int → Bool} {w j : Nat} (h : DelInv p0 q w j a) (hj : j < p0.length) (hx : q (nth a j) = true) : DelInv p0 q (w + 1) (j + 1) (a.set w (nth a j)) := by
  have h1 := h.wj
  have h2 := h.len
  refine ⟨by simp [h.len], by omega, ?_, fun k hk => ?_⟩
  · rw [h.rest j (Nat.le_refl _)] at hx ⊢
    rw [take_succ_nth hj, List.filter_append, ← h.done, take_succ_nth (by simp; omega), nth_set (by omega), if_pos rfl, List.take_set_of_le (by omega)]
    simp [hx]
  · rw [nth_set (by omega), if_neg (by omega)]; exact h.rest k (by omega)
theorem del_skip {p0 a : List Int} {q : Int → Bool} {w j : Nat} (h : DelInv p0 q w j a) (hj : j < p0.length) (hx : q (nth a j) = false) : DelInv p0 q w (j + 1) a := by
  have h1 := h.wj
  refine ⟨h.len, by omega, ?_, fun k hk => h.rest k (by omega)⟩
  rw [h.rest j (Nat.le_refl _)] at hx
  rw [take_succ_nth hj, List.filter_append, ← h.done]
  simp [hx]
def InTo (l : List Int) (m : Nat) (z : Int) : Prop := ∃ k, k < m ∧ nth l k = z
theorem inTo_mem {l : List Int} {m : Nat} {z : Int} (hm : m ≤ l.length) : InTo l m z ↔ z ∈ l.take m := by
  constructor
  · rintro ⟨k, hk, rfl⟩
    have : nth (l.take m) k = nth l k := by
      simp only [nth, List.getD_eq_getElem?_getD, List.getElem?_take]
      rw [if_pos hk]
    rw [← this]
    exact nth_mem (by simp; omega)
  · intro h
    obtain ⟨k, hk, rfl⟩ := List.getElem_of_mem h
    rw [List.length_take] at hk
    exact ⟨k, by omega, by simp [nth, List.getD_eq_getElem?_getD, List.getElem?_eq_getElem (show k < l.length by omega)]⟩
theorem swap_into {l : List Int} {j m : Nat} {z : Int} (h1 : 1 ≤ j) (hj : j < l.length) (hm : j < m) : InTo (swapL l j) m z ↔ InTo l m z := by
  unfold InTo
  constructor
  · rintro ⟨k, hk, e⟩
    rw [nth_swap h1 hj] at e
    split at e
    · exact ⟨j, hm, e⟩
    · split at e
      · exact ⟨j - 1, by omega, e⟩
      · exact ⟨k, hk, e⟩
  · rintro ⟨k, hk, e⟩
    by_cases g1 : k = j
    · subst g1; exact ⟨k - 1, by omega, by rw [nth_swap h1 hj, if_pos rfl]; exact e⟩
    · by_cases g2 : k = j - 1
      · subst g2; exact ⟨j, hm, by rw [nth_swap h1 hj, if_neg (by omega), if_pos rfl]; exact e⟩
      · exact ⟨k, hk, by rw [nth_swap h1 hj, if_neg g2, if_neg g1]; exact e⟩
def AscTo (l : List Int) (n : Nat) : Prop := ∀ k, 1 ≤ k → k < n → nth l (k - 1) < nth l k
theorem ascTo_take {l : List Int} {n : Nat} (hn : n ≤ l.length) (h : AscTo l n) : Asc (l.take n) := by
  have hnth : ∀ k, k < n → nth (l.take n) k = nth l k := fun k hk => by
    simp only [nth, List.getD_eq_getElem?_getD, List.getElem?_take]
    rw [if_pos hk]
  have hlt : ∀ b, b < n → ∀ a, a < b → nth l a < nth l b := by
    intro b
    induction b with
    | zero => intro _ a ha; omega
    | succ b ih =>
      intro hb a ha
      have h1 := h (b + 1) (by omega) hb
      rw [Nat.add_sub_cancel] at h1
      by_cases e : a = b
      · subst e; exact h1
      · have := ih (by omega) a (by omega); omega
  have hl : (l.take n).length = n := by simp; omega
  refine asc_of (fun a b hab hb => ?_) (fun k h1 h2 => ?_)
  · rw [hl] at hb; rw [hnth a (by omega), hnth b hb]; have := hlt b hb a hab; omega
  · rw [hl] at h2; rw [hnth _ (by omega), hnth k h2]; have := h k h1 h2; omega
structure CmpInv (p0 : List Int) (m o i k : Nat) (a : List Int) : Prop where
  len : a.length = p0.length
  ik : 1 ≤ i ∧ i < o + k ∧ o + k ≤ m ∧ 1 ≤ k
  rest : ∀ j, o + k ≤ j + 1 → nth a j = nth p0 j
  asc : AscTo a i
  last : nth a (i - 1) = nth p0 (o + k - 1)
  mem : ∀ z, InTo a i z ↔ InTo p0 (o + k) z
theorem cmp_start {p0 : List Int} {m o : Nat} (ho : 1 ≤ o) (hm : o < m) (ha : AscTo p0 o) (he : nth p0 o = nth p0 (o - 1)) : CmpInv p0 m o o 1 p0 := by
  refine ⟨rfl, by omega, fun _ _ => rfl, ha, by rw [Nat.add_sub_cancel]; exact he.symm, fun z => ⟨?_, ?_⟩⟩
  · rintro ⟨k, hk, e⟩; exact ⟨k, by omega, e⟩
  · rintro ⟨k, hk, e⟩
    by_cases h : k = o
    · subst h; exact ⟨k - 1, by omega, by rw [← he]; exact e⟩
    · exact ⟨k, by omega, e⟩
theorem cmp_new {p0 a : List Int} {m o i k : Nat} (h : CmpInv p0 m o i k a) (hk : o + k < m) (hml : m ≤ p0.length) (hs : SortedTo p0 m) (hne : nth a (o + k) ≠ nth a (o + k - 1)) : CmpInv p0 m o (i + 1) (k + 1) (a.set i (nth a (o + k))) := by
  have h1 := h.ik
  have h2 := h.len
  have e1 := h.rest (o + k) (by omega)
  have e2 := h.rest (o + k - 1) (by omega)
  have hlt : nth p0 (o + k - 1) < nth p0 (o + k) := by
    have := hs (o + k - 1) (o + k) (by omega) hk
    rw [e1, e2] at hne; omega
  have hset : ∀ j, nth (a.set i (nth a (o + k))) j = if j = i then nth p0 (o + k) else nth a j := fun j => by rw [nth_set (by omega), e1]
  refine ⟨by simp [h.len], by omega, fun j hj => ?_, fun j hj1 hj2 => ?_, ?_, fun z => ⟨?_, ?_⟩⟩
  · rw [hset, if_neg (by omega)]; exact h.rest j (by omega)
  · rw [hset, hset, if_neg (show j - 1 ≠ i by omega)]
    by_cases e : j = i
    · rw [if_pos e, e, h.last]; exact hlt
    · rw [if_neg e]; exact h.asc j hj1 (by omega)
  · rw [hset, Nat.add_sub_cancel, if_pos rfl, show o + (k + 1) - 1 = o + k by omega]
  · rintro ⟨j, hj, e⟩
    rw [hset] at e
    split at e
    · exact ⟨o + k, by omega, e⟩
    · obtain ⟨j', hj', e'⟩ := (h.mem z).1 ⟨j, by omega, e⟩
      exact ⟨j', by omega, e'⟩
  · rintro ⟨j, hj, e⟩
    by_cases g : j = o + k
    · exact ⟨i, by omega, by rw [hset, if_pos rfl, ← g]; exact e⟩
    · obtain ⟨j', hj', e'⟩ := (h.mem z).2 ⟨j, by omega, e⟩
      exact ⟨j', by omega, by rw [hset, if_neg (by omega)]; exact e'⟩
theorem cmp_old {p0 a : List Int} {m o i k : Nat} (h : CmpInv p0 m o i k a) (hk : o + k < m) (he : nth a (o + k) = nth a (o + k - 1)) : CmpInv p0 m o i (k + 1) a := by
  have h1 := h.ik
  have e1 := h.rest (o + k) (by omega)
  have e2 := h.rest (o + k - 1) (by omega)
  have e3 : nth p0 (o + k) = nth p0 (o + k - 1) := by rw [← e1, ← e2]; exact he
  refine ⟨h.len, by omega, fun j hj => h.rest j (by omega), h.asc, by rw [h.last, show o + (k + 1) - 1 = o + k by omega]; exact e3.symm, fun z => ⟨fun hz => ?_, ?_⟩⟩
  · obtain ⟨j', hj', e'⟩ := (h.mem z).1 hz
    exact ⟨j', by omega, e'⟩
  · rintro ⟨j, hj, e⟩
    by_cases g : j = o + k
    · exact (h.mem z).2 ⟨o + k - 1, by omega, by rw [← e3, ← g]; exact e⟩
    · exact (h.mem z).2 ⟨j, by omega, e⟩
end Go.Proofs.YtfhcigjkfelnfaaGreat
/-
  People whom targets mean: what the program and the reference compute.
-/
set_option maxRecDepth 100000
set_option linter.unusedVariables false
set_option linter.unusedSimpArgs false
namespace Go.Proofs.YtfhcigjkfelnfaaGreat
open Go AM
variable {t p : Int} {n : Nat} {c : D.Config} {b : D.Book}
theorem less_is {x y : Int} : cmp_Less_int 1000 x y = some (decide (x < y)) := by
  unfold cmp_Less_int cmp_isNaN_int
  by_cases h : x < y <;> simp [optc, AM.cnd, h]
theorem isort_ok {l0 : List Int} {m : Nat} (hm : m ≤ l0.length) (hs : m ≤ 900) :
    Ok (slices_insertionSortOrdered_int_0v 1000 0 m l0 0 (m : Int)) fun r => r.length = l0.length ∧ SortedTo r m ∧ ∀ z, InTo r m z ↔ InTo l0 m z := by
  unfold slices_insertionSortOrdered_int_0v
  refine Ok.loop (fun q x => ∃ i a, x = ((0, m, 0, (m : Int), ((i : Nat) : Int), ()), a, ()) ∧ 1 ≤ i ∧ a.length = l0.length ∧ SortedTo a (min i m) ∧ (∀ z, InTo a m z ↔ InTo l0 m z) ∧ q = m + 1 - i) (m := m) (by omega)
    ⟨1, l0, by rw [wrap_id (by omega)]; rfl, by omega, rfl, fun a b h1 h2 => by omega, fun z => Iff.rfl, by omega⟩ ?_
  rintro q x ⟨i, a, rfl, h1, h2, h3, h4, rfl⟩ K hK
  dsimp only
  refine Ok.ite (fun hi => ?_) (fun hi => Ok.s ⟨h2, by rw [show min i m = m by omega] at h3; exact h3, h4⟩)
  have hlt : i < m := by omega
  rw [show min i m = i by omega] at h3
  refine Ok.j ?_
  refine Ok.loop (fun q x => ∃ j a', x = ((0, m, 0, (m : Int), ((i : Nat) : Int), ((j : Nat) : Int), ()), a', ()) ∧ j ≤ i ∧ a'.length = l0.length ∧ ButFor a' (i + 1) j ∧ (∀ z, InTo a' m z ↔ InTo l0 m z) ∧ q = j) (m := i) (by omega)
    ⟨i, a, rfl, by omega, h2, butfor_start h3, h4, rfl⟩ ?_
  rintro q x ⟨j, a', rfl, g1, g2, g3, g4, hqj⟩ K2 hK2
  dsimp only
  have fin : (j = 0 ∨ nth a' (j - 1) ≤ nth a' j) → Ok (K ((0, m, 0, (m : Int), IntKind.wrap .i64 ((i : Int) + 1), ()), a', ())) fun r => r.length = l0.length ∧ SortedTo r m ∧ ∀ z, InTo r m z ↔ InTo l0 m z := fun he => by
    rw [wrap_succ (by omega)]
    exact hK (m + 1 - (i + 1)) _ (by omega) ⟨i + 1, a', rfl, by omega, g2, by rw [show min (i + 1) m = i + 1 by omega]; exact butfor_end g3 he, g4, rfl⟩
  refine Ok.j (Ok.ite (fun hj => ?_) (fun hj => fin (.inl (by omega))))
  have hw : IntKind.wrap .i64 ((j : Int) - 1) = ((j - 1 : Nat) : Int) := by rw [wrap_id (by omega)]; omega
  rw [hw]
  refine Ok.natn (Ok.lt (by omega) ?_)
  rw [Nat.zero_add]
  refine Ok.get (by omega) (Ok.natn (Ok.lt (by omega) ?_))
  rw [Nat.zero_add]
  refine Ok.get (by omega) (Ok.oe less_is (Ok.ite (fun hless => ?_) (fun hless => fin (.inr (by omega)))))
  dsimp only
  rw [hw]
  refine Ok.natn (Ok.lt (by omega) ?_)
  rw [Nat.zero_add]
  refine Ok.get (by omega) (Ok.natn (Ok.lt (by omega) ?_))
  refine Ok.get (by omega) (Ok.natn (Ok.lt (by omega) ?_))
  refine Ok.get (by omega) (Ok.natn (Ok.lt (by omega) ?_))
  refine Ok.get (by simp; omega) ?_
  have hsw : (a'.set (0 + j) (nth a' (j - 1))).set (0 + (j - 1)) (nth a' (0 + j)) = swapL a' j := by simp only [Nat.zero_add]; rfl
  rw [hsw]
  exact hK2 (j - 1) _ (by omega) ⟨j - 1, swapL a' j, rfl, by omega, by rw [swap_len]; exact g2, butfor_step g3 (by omega) (by omega) (by omega) hless, fun z => (swap_into (by omega) (by omega) (by omega)).trans (g4 z), rfl⟩
theorem bits_ok : ∀ m : Nat, m < 13 → (math_bits_Len 1000 (IntKind.wrap .u64 ((m : Nat) : Int))).isSome = true := by decide
theorem sort_ok {l0 : List Int} {m : Nat} (hm : m ≤ l0.length) (hs : m ≤ 12) :
    Ok (slices_Sort_int_0v 1000 0 m l0) fun r => r.length = l0.length ∧ SortedTo r m ∧ ∀ z, InTo r m z ↔ InTo l0 m z := by
  unfold slices_Sort_int_0v
  rw [Nat.sub_zero]
  obtain ⟨bv, hb⟩ := Option.isSome_iff_exists.1 (bits_ok m (by omega))
  refine Ok.oe hb (Ok.opt (P := fun r => r.length = l0.length ∧ SortedTo r m ∧ ∀ z, InTo r m z ↔ InTo l0 m z) ?_ fun r hr => Ok.ck hr.1 (Ok.s hr))
  unfold slices_pdqsortOrdered_int_0v
  refine Ok.loop (fun q x => x = ((0, m, 0, (m : Int), bv, true, true, ()), l0, ())) (m := 0) (by omega) rfl ?_
  rintro q x rfl K hK
  dsimp only
  refine Ok.p (by rw [wrap_id (by omega)]; omega) (Ok.opt (isort_ok hm (by omega)) fun r hr => Ok.ck hr.1 (Ok.s hr))
theorem compact_ok {l0 : List Int} {m : Nat} (hm : m ≤ l0.length) (hs : m ≤ 900) (hl : l0.length ≤ 34359738368) (hso : SortedTo l0 m) :
    Ok (slices_Compact_int_0v 1000 0 m l0) fun r => r.1 = 0 ∧ r.2.1 ≤ m ∧ r.2.2.length = l0.length ∧ Asc (r.2.2.take r.2.1) ∧ ∀ z, z ∈ r.2.2.take r.2.1 ↔ InTo l0 m z := by
  have done : ∀ (a : List Int) (i : Nat), a.length = l0.length → i ≤ m → AscTo a i → (∀ z, InTo a i z ↔ InTo l0 m z) → Asc (a.take i) ∧ ∀ z, z ∈ a.take i ↔ InTo l0 m z := fun a i h1 h2 h3 h4 =>
    ⟨ascTo_take (by omega) h3, fun z => by rw [← inTo_mem (by omega)]; exact h4 z⟩
  unfold slices_Compact_int_0v
  rw [Nat.sub_zero]
  refine Ok.ite (fun h => Ok.s ⟨rfl, Nat.le_refl _, rfl, done l0 m rfl (Nat.le_refl _) (fun k h1 h2 => by omega) fun z => Iff.rfl⟩) fun h => ?_
  refine Ok.loop (fun q x => ∃ i : Nat, x = ((0, m, ((i : Nat) : Int), ()), l0, ()) ∧ 1 ≤ i ∧ i ≤ m ∧ AscTo l0 i ∧ q = m - i) (m := m - 1) (by omega) ⟨1, rfl, by omega, by omega, fun k h1 h2 => by omega, rfl⟩ ?_
  rintro q x ⟨i, rfl, h1, h2, h3, rfl⟩ K hK
  dsimp only
  rw [Nat.sub_zero]
  refine Ok.ite (fun hi => ?_) (fun hi => ?_)
  · have hw : IntKind.wrap .i64 ((i : Int) - 1) = ((i - 1 : Nat) : Int) := by rw [wrap_id (by omega)]; omega
    rw [hw]
    refine Ok.natn (Ok.lt (by omega) ?_)
    rw [Nat.zero_add]
    refine Ok.get (by omega) (Ok.natn (Ok.lt (by omega) ?_))
    rw [Nat.zero_add]
    refine Ok.get (by omega) (Ok.ite (fun he => ?_) (fun hne => ?_))
    · refine Ok.natn (Ok.lt (by omega) ?_)
      rw [Nat.zero_add, Nat.zero_add]
      refine Ok.loop (fun q x => ∃ (w k : Nat) (a : List Int), x = ((0, m, ((w : Nat) : Int), i, m, ((k : Nat) : Int), ()), a, ()) ∧ CmpInv l0 m i w k a ∧ q = m - i - k) (m := m - i - 1) (by omega) ⟨i, 1, l0, rfl, cmp_start h1 (by omega) h3 he, rfl⟩ ?_
      rintro q x ⟨w, k, a, rfl, hinv, rfl⟩ K2 hK2
      have hik := hinv.ik
      have hal := hinv.len
      dsimp only
      refine Ok.ite (fun hk => ?_) (fun hk => ?_)
      · have hw2 : IntKind.wrap .i64 ((k : Int) - 1) = ((k - 1 : Nat) : Int) := by rw [wrap_id (by omega)]; omega
        rw [hw2]
        refine Ok.j (Ok.natn (Ok.lt (by omega) (Ok.get (by omega) (Ok.natn (Ok.lt (by omega) (Ok.get (by omega) ?_))))))
        refine Ok.ite (fun hd => ?_) (fun hd => ?_)
        · refine Ok.natn (Ok.lt (by omega) (Ok.get (by omega) (Ok.natn (Ok.lt (by omega) ?_))))
          rw [Nat.zero_add]
          refine Ok.get (by omega) ?_
          dsimp only
          rw [wrap_succ (by omega), wrap_succ (by omega)]
          exact hK2 (m - i - (k + 1)) _ (by omega) ⟨w + 1, k + 1, _, rfl, cmp_new hinv (by omega) hm hso (by rw [show i + k - 1 = i + (k - 1) by omega]; exact hd), rfl⟩
        · dsimp only
          rw [wrap_succ (by omega)]
          exact hK2 (m - i - (k + 1)) _ (by omega) ⟨w, k + 1, a, rfl, cmp_old hinv (by omega) (by rw [show i + k - 1 = i + (k - 1) by omega]; exact Decidable.not_not.1 hd), rfl⟩
      · have ek : i + k = m := by omega
        refine Ok.natn (Ok.lt (by omega) (Ok.lec (by omega) (Ok.lec (by omega) (Ok.natn (Ok.lec (by omega) (Ok.s ?_))))))
        simp only [Nat.zero_add, Nat.sub_zero, Nat.add_zero]
        have hd := done a w hal (by omega) hinv.asc (by rw [← ek]; exact hinv.mem)
        have ht : (List.take w a ++ List.replicate (m - w) 0 ++ List.drop m a).take w = a.take w := by
          rw [List.append_assoc, List.take_append_of_le_length (by simp; omega), List.take_take, Nat.min_self]
        refine ⟨trivial, by omega, by simp; omega, ?_, ?_⟩
        · rw [ht]; exact hd.1
        · rw [ht]; exact hd.2
    · rw [wrap_succ (by omega)]
      have hlt : nth l0 (i - 1) < nth l0 i := by
        have := hso (i - 1) i (by omega) (by omega); omega
      refine hK (m - (i + 1)) _ (by omega) ⟨i + 1, rfl, by omega, by omega, fun k a1 a2 => ?_, rfl⟩
      by_cases e : k = i
      · subst e; exact hlt
      · exact h3 k a1 (by omega)
  · obtain rfl : i = m := by omega
    exact Ok.s ⟨rfl, Nat.le_refl _, rfl, done l0 i rfl (Nat.le_refl _) h3 fun z => Iff.rfl⟩
def inC (x : Int) : Bool := decide (0 ≤ x ∧ x ≤ 3)
theorem pIn {fu : Nat} {n lo hi : Int} : policy_in fu n lo hi = some (decide (lo ≤ n ∧ n ≤ hi)) := cnd2
theorem people1 (h : CfgOK n c) {x : Int} : policy_People_1 1000 x c = some (!inC x) := by
  unfold policy_People_1
  rw [h.plen, show IntKind.wrap .i64 (((4 : Nat) : Int) - 1) = 3 from rfl, pIn, optc_s, sameC_p]
  rfl
theorem delP_ok (h : CfgOK n c) {l0 : List Int} (hl : l0.length ≤ 900) :
    Ok (slices_DeleteFunc_int_1Fpolicy_People_1_0 1000 l0 c) fun r => r.1 = 0 ∧ r.2.1 ≤ l0.length ∧ r.2.2.length = l0.length ∧ r.2.2.take r.2.1 = l0.filter inC := by
  unfold slices_DeleteFunc_int_1Fpolicy_People_1_0
  have hidx : Ok (slices_IndexFunc_int_1Fpolicy_People_1_0 1000 l0 c) fun r => r = -1 ∧ (∀ j, j < l0.length → inC (nth l0 j) = true) ∨ ∃ i : Nat, r = (i : Int) ∧ i < l0.length ∧ inC (nth l0 i) = false ∧ ∀ j, j < i → inC (nth l0 j) = true := by
    unfold slices_IndexFunc_int_1Fpolicy_People_1_0
    refine Ok.scan l0.length (fun i => ((((l0.length : Nat) : Int), (i : Int), ()), c, l0, ())) (fun i => !inC (nth l0 i)) rfl (by omega) (fun i hi hq hj k => ?_) (fun i hi hq k hk => ?_) (fun hq k => ?_)
    · refine Ok.p (by omega) (Ok.natn (Ok.lt hi (Ok.get hi (Ok.oe (people1 h) (Ok.bt hq (Ok.sameC (Ok.sameC (Ok.s (.inr ⟨i, rfl, hi, by simpa using hq, fun j hj' => by simpa using hj j hj'⟩)))))))))
    · refine Ok.p (by omega) (Ok.natn (Ok.lt hi (Ok.get hi (Ok.oe (people1 h) (Ok.bf hq ?_)))))
      rw [wrap_succ (by omega)]; exact hk
    · exact Ok.n (by omega) (Ok.sameC (Ok.sameC (Ok.s (.inl ⟨rfl, fun j hj => by simpa using hq j hj⟩))))
  refine Ok.opt hidx fun r hr => ?_
  rcases hr with ⟨rfl, hall⟩ | ⟨i, rfl, hi, hx, hj⟩
  · refine Ok.p rfl (Ok.sameC (Ok.s ⟨rfl, Nat.le_refl _, rfl, ?_⟩))
    have := filter_all (q := inC) (Nat.le_refl _) hall
    rw [List.take_length] at this ⊢
    exact this.symm
  · refine Ok.n (by omega) ?_
    rw [wrap_succ (by omega)]
    refine Ok.loop (fun q x => ∃ (w j : Nat) (a : List Int), x = ((((w : Nat) : Int), ((j : Nat) : Int), ()), c, a, ()) ∧ DelInv l0 inC w j a ∧ q = l0.length - j) (m := l0.length - (i + 1)) (by omega) ⟨i, i + 1, l0, rfl, del_start hi hj hx, rfl⟩ ?_
    rintro q x ⟨w, j, a, rfl, hinv, rfl⟩ K hK
    have h1 := hinv.wj
    have h2 := hinv.len
    dsimp only
    refine Ok.ite (fun hlt => ?_) (fun hge => ?_)
    · refine Ok.j (Ok.natn (Ok.lt (by omega) (Ok.get (by omega) (Ok.oe (people1 h) ?_))))
      rw [Bool.not_not]
      refine Ok.cnd (fun hq => ?_) (fun hq => ?_)
      · refine Ok.natn (Ok.lt (by omega) (Ok.get (by omega) ?_))
        dsimp only
        rw [wrap_succ (by omega), wrap_succ (by omega)]
        exact hK _ _ (by omega) ⟨w + 1, j + 1, _, rfl, del_keep hinv (by omega) hq, rfl⟩
      · dsimp only
        rw [wrap_succ (by omega)]
        exact hK _ _ (by omega) ⟨w, j + 1, a, rfl, del_skip hinv (by omega) hq, rfl⟩
    · have ej : j = l0.length := by omega
      have hd := hinv.done
      rw [ej, List.take_length] at hd
      refine Ok.natn (Ok.lec (by omega) (Ok.lec (by omega) (Ok.lec (by omega) (Ok.natn (Ok.lec (by simp; omega) (Ok.sameC (Ok.s ?_)))))))
      refine ⟨rfl, by dsimp only; omega, by simp; omega, ?_⟩
      dsimp only
      rw [List.append_assoc, List.take_append_of_le_length (by simp; omega), List.take_take, Nat.min_self]
      exact hd
def meantP (c : D.Config) (b : D.Book) (x : D.Target) (t : Int) : List Int := if x.Kind = 0 then [x.Index] else if x.Kind = 1 then [whoV c x.Index t] else (nth b.Teams x.Index.toNat).Members
theorem meant_ok {x : D.Target} (h : CfgOK n c) (hn : n ≤ 48) (hb : BookOK b) (hx : TargetOK b.Teams.length x) : policy_meant 1000 c b x t = some (meantP c b x t) := by
  have hpl := h.plen; have hsl := h.slen; have htl := hb.tlen
  have h1 := hx.lo; have h2 := hx.person; have h3 := hx.sched; have h4 := hx.team
  have hsz : policy_sizes 1000 c b = some ⟨4, 2, ((b.Teams.length : Nat) : Int)⟩ := by unfold policy_sizes; rw [hpl, hsl]; rfl
  refine Ok.eq ?_
  unfold policy_meant meantP
  refine Ok.j (Ok.oe pIn (Ok.p (by have := hx.kind; omega) (Ok.oe hsz ?_)))
  dsimp only
  rcases hx.kind with hk | hk | hk
  · have := h2 hk
    refine Ok.p (by omega) (Ok.oe pIn (Ok.p (by rw [wrap_id (by omega)]; omega) (Ok.n (by omega) (Ok.n (by omega) (Ok.s ?_)))))
    rw [if_pos hk]
  · have := h3 hk
    refine Ok.n (by omega) (Ok.p (by omega) (Ok.oe pIn (Ok.p (by rw [wrap_id (by omega)]; omega) (Ok.p hk (Ok.oe (who_is h hn) (Ok.s ?_))))))
    rw [if_neg (by omega), if_pos hk]
  · have := h4 hk
    refine Ok.n (by omega) (Ok.n (by omega) (Ok.p (by omega) (Ok.oe pIn (Ok.p (by rw [wrap_id (by omega)]; omega) (Ok.n (by omega) (Ok.p hk (Ok.at h1 (by omega) (Ok.s ?_))))))))
    rw [if_neg (by omega), if_neg (by omega)]
theorem meantP_len {x : D.Target} (hb : BookOK b) (hx : TargetOK b.Teams.length x) : (meantP c b x t).length ≤ 2 := by
  unfold meantP
  split
  · simp
  · split
    · simp
    · have h4 := hx.team (by have := hx.kind; omega)
      have h1 := hx.lo
      exact (hb.team _ (nth_mem (by omega))).len.2
theorem meantP_mem {x : D.Target} {z : Int} (h : CfgOK n c) (hx : TargetOK b.Teams.length x) (hz : 0 ≤ z ∧ z ≤ 3) : z ∈ meantP c b x t ↔ z ∈ meantV c b x t := by
  unfold meantP meantV
  have h1 := hx.lo; have h4 := hx.team
  rcases hx.kind with hk | hk | hk
  · rw [if_pos hk, if_pos hk]
  · rw [if_neg (by omega), if_pos hk, if_neg (by omega), if_pos hk]
    split
    · simp; omega
    · rfl
  · rw [if_neg (by omega), if_neg (by omega), if_neg (by omega), if_neg (by omega), if_pos ⟨hk, h1, h4 hk⟩]
theorem people_ok {l : List D.Target} (h : CfgOK n c) (hn : n ≤ 48) (hb : BookOK b) (hl : ∀ x ∈ l, TargetOK b.Teams.length x) (hlen : l.length ≤ 6) :
    Ok (policy_People 1000 c b l t) fun r => r.1 = 0 ∧ r.2.1 ≤ r.2.2.length ∧ r.2.2.length ≤ 12 ∧ r.2.2.take r.2.1 = peopleV c b l t := by
  unfold policy_People
  refine Ok.run l.length (fun i => ((t, l, ((l.length : Nat) : Int), (i : Int), ()), c, b, (l.take i).flatMap (fun x => meantP c b x t), ())) (by simp) (by omega) (fun i hi k hk => ?_) (fun k => ?_)
  · dsimp only
    have hx := hl _ (nth_mem hi)
    have hle : ((l.take i).flatMap (fun x => meantP c b x t)).length ≤ 2 * i := by
      rw [List.length_flatMap]
      have : ∀ (m : List D.Target), (∀ x ∈ m, TargetOK b.Teams.length x) → (m.map (fun x => (meantP c b x t).length)).sum ≤ 2 * m.length := by
        intro m hm
        induction m with
        | nil => simp
        | cons y m ih =>
          have h1 := meantP_len (c := c) (t := t) hb (hm y (List.mem_cons_self ..))
          have h2 := ih (fun x hx => hm x (List.mem_cons_of_mem _ hx))
          simp only [List.map_cons, List.sum_cons, List.length_cons]; omega
      have h3 := this (l.take i) (fun x hx => hl x (List.mem_of_mem_take hx))
      rw [List.length_take] at h3; omega
    have hm2 := meantP_len (c := c) (t := t) hb hx
    refine Ok.p (by omega) (Ok.atn hi (Ok.oe (meant_ok h hn hb hx) (Ok.lec (by omega) ?_)))
    rw [wrap_succ (by omega)]
    have e : (l.take i).flatMap (fun x => meantP c b x t) ++ meantP c b (nth l i) t = (l.take (i + 1)).flatMap (fun x => meantP c b x t) := by
      rw [← take_snoc' hi, List.flatMap_append]; simp
    rw [e]; exact hk
  · dsimp only
    rw [List.take_length]
    obtain ⟨L0, hL0⟩ : ∃ L0, l.flatMap (fun x => meantP c b x t) = L0 := ⟨_, rfl⟩
    have hle : L0.length ≤ 12 := by
      rw [← hL0, List.length_flatMap]
      have : ∀ (m : List D.Target), (∀ x ∈ m, TargetOK b.Teams.length x) → (m.map (fun x => (meantP c b x t).length)).sum ≤ 2 * m.length := by
        intro m hm
        induction m with
        | nil => simp
        | cons y m ih =>
          have h1 := meantP_len (c := c) (t := t) hb (hm y (List.mem_cons_self ..))
          have h2 := ih (fun x hx => hm x (List.mem_cons_of_mem _ hx))
          simp only [List.map_cons, List.sum_cons, List.length_cons]; omega
      have h3 := this l hl
      omega
    rw [hL0]
    refine Ok.n (by omega) (Ok.opt (delP_ok h (by omega)) fun ⟨a0, a1, a2⟩ ⟨g1, g2, g3, g4⟩ => ?_)
    dsimp only at g1 g2 g3 g4 ⊢
    subst g1
    refine Ok.opt (sort_ok (by omega) (by omega)) fun r ⟨s1, s2, s3⟩ => Ok.ck s1 ?_
    refine Ok.opt (compact_ok (by omega) (by omega) (by omega) s2) fun ⟨b0, b1, b2⟩ ⟨k1, k2, k3, k4, k5⟩ => Ok.s ?_
    dsimp only at k1 k2 k3 k4 k5 ⊢
    refine ⟨k1, by omega, by omega, peopleV_is k4 fun z => ?_⟩
    rw [k5, s3, inTo_mem (by omega), g4, List.mem_filter, ← hL0, List.mem_flatMap]
    unfold Means inC
    rw [decide_eq_true_eq]
    constructor
    · rintro ⟨⟨x, hx1, hx2⟩, hz⟩
      exact ⟨hz.1, by omega, x, hx1, (meantP_mem h (hl x hx1) hz).1 hx2⟩
    · rintro ⟨hz1, hz2, x, hx1, hx2⟩
      exact ⟨⟨x, hx1, (meantP_mem h (hl x hx1) ⟨hz1, by omega⟩).2 hx2⟩, hz1, by omega⟩
end Go.Proofs.YtfhcigjkfelnfaaGreat
