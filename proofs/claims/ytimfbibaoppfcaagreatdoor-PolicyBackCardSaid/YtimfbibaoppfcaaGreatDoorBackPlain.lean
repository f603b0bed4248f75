/-
  The text of a book, in plain Lean.
-/
import Derived.Test.YtimfbibaoppfcaaGreatDoorAnsLaw
import Derived.Test.YtimfbibaoppfcaaGreatDoorKitB
import Derived.Test.YtimfbibaoppfcaaGreatDoorOddPlain
import Derived.Laws.RangeString
set_option maxRecDepth 100000
set_option linter.unusedSimpArgs false
set_option linter.unusedVariables false
namespace Go.Proofs.YtimfbibaoppfcaaGreatDoor
open Go AM
def wTeam : ByteArray := ByteArray.mk #[116, 101, 97, 109]
def wPolicy : ByteArray := ByteArray.mk #[112, 111, 108, 105, 99, 121]
def wStep : ByteArray := ByteArray.mk #[115, 116, 101, 112]
def wPerson : ByteArray := ByteArray.mk #[112, 101, 114, 115, 111, 110]
def wSched : ByteArray := ByteArray.mk #[115, 99, 104, 101, 100, 117, 108, 101]
def wUrgent : ByteArray := ByteArray.mk #[117, 114, 103, 101, 110, 116]
def wNormal : ByteArray := ByteArray.mk #[110, 111, 114, 109, 97, 108]
structure Wd (w : ByteArray) : Prop where
  pos : 1 ≤ w.size
  size : w.size ≤ 24
  ch : ∀ x ∈ unB w, x ≠ 32 ∧ x ≠ 10
theorem Wd.sp {w : ByteArray} (h : Wd w) : noSp w := fun x hx => (h.ch x hx).1
theorem bAt_mem {w : ByteArray} {x : UInt8} (h : x ∈ unB w) : ∃ i, i < w.size ∧ bAt w i = x.toNat := by
  obtain ⟨i, hi, he⟩ := List.getElem_of_mem h
  rw [unB_len] at hi
  refine ⟨i, hi, ?_⟩
  unfold bAt
  have : w[i]? = some x := by
    rw [getElem?_pos w i hi]
    congr 1
  rw [this]; rfl
theorem Wd.name {w : ByteArray} (h : nameOK w = true) : Wd w := by
  simp only [nameOK, Bool.and_eq_true, decide_eq_true_eq, List.all_eq_true, List.mem_range] at h
  refine ⟨h.1.1.1, h.1.1.2, fun x hx => ?_⟩
  obtain ⟨i, hi, he⟩ := bAt_mem hx
  have := (nameCh_iff _).1 (h.2 i hi)
  rw [he] at this
  refine ⟨fun e => ?_, fun e => ?_⟩ <;> (subst e; revert this; decide)
theorem Wd.itoa {n : Int} (h0 : 0 ≤ n) (h1 : n ≤ 1000000) : Wd (itoaB n) := by
  refine ⟨itoaB_pos n, Nat.le_trans (itoaB_size n (by omega) (by omega)) (by decide), fun x hx => ⟨noSp_itoa h0 x hx, ?_⟩⟩
  obtain ⟨k, rfl⟩ : ∃ k : Nat, n = (k : Int) := ⟨n.toNat, by omega⟩
  rw [itoaB_nat, un_mk] at hx
  have h2 := dec_dig k x hx
  intro e; subst e
  exact absurd h2 (by decide)
theorem wd_lits : Wd wTeam ∧ Wd wPolicy ∧ Wd wStep ∧ Wd wPerson ∧ Wd wSched ∧ Wd wUrgent ∧ Wd wNormal := by
  refine ⟨⟨?_, ?_, ?_⟩, ⟨?_, ?_, ?_⟩, ⟨?_, ?_, ?_⟩, ⟨?_, ?_, ?_⟩, ⟨?_, ?_, ?_⟩, ⟨?_, ?_, ?_⟩, ⟨?_, ?_, ?_⟩⟩ <;> decide
def joinT (l : List ByteArray) : List UInt8 := l.foldr (fun w r => 32 :: (unB w ++ r)) []
theorem joinTail_is : ∀ (r : List ByteArray), Lib.joinTail [32] (r.map (·.data.toList)) = joinT r
  | [] => by simp [Lib.joinTail, joinT]
  | w :: r => by
    have ih := joinTail_is r
    simp only [Lib.joinTail, List.map_cons, List.flatMap_cons, joinT, List.foldr_cons] at ih ⊢
    rw [List.flatten_cons, ih]
    simp [unB]
theorem joinS_cons (w : ByteArray) (r : List ByteArray) : unB (joinS (w :: r)) = unB w ++ joinT r := by
  show Lib.join ((w :: r).map (·.data.toList)) [32] = _
  rw [List.map_cons, Lib.join_cons, joinTail_is]
  rfl
theorem joinT_size : ∀ (r : List ByteArray), (∀ w ∈ r, Wd w) → (joinT r).length ≤ 25 * r.length
  | [], _ => by simp [joinT]
  | w :: r, h => by
    have ih := joinT_size r (fun x hx => h x (List.mem_cons_of_mem _ hx))
    have h1 := (h w (List.mem_cons_self ..)).size
    simp only [joinT, List.foldr_cons, List.length_cons, List.length_append, unB_len] at ih ⊢
    omega
theorem joinS_size {l : List ByteArray} (h : ∀ w ∈ l, Wd w) : (joinS l).size ≤ 25 * l.length := by
  cases l with
  | nil => exact Nat.le_of_eq rfl
  | cons w r =>
    have h1 := joinT_size r (fun x hx => h x (List.mem_cons_of_mem _ hx))
    have h2 := (h w (List.mem_cons_self ..)).size
    rw [← unB_len, joinS_cons, List.length_append, unB_len, List.length_cons]
    omega
def lnOf (ws : List ByteArray) : ByteArray := joinS ws ++ lnB
theorem lnOf_size {l : List ByteArray} (h : ∀ w ∈ l, Wd w) : (lnOf l).size ≤ 25 * l.length + 1 := by
  have := joinS_size h
  unfold lnOf
  rw [ByteArray.size_append]
  have : lnB.size = 1 := rfl
  omega
def tgtW (c : D.Config) (b : D.Book) (t : D.Target) : List ByteArray :=
  if t.Kind = 0 then [wPerson, (nth c.People t.Index.toNat).Name] else if t.Kind = 1 then [wSched, (nth c.Schedules t.Index.toNat).Name] else [wTeam, (nth b.Teams t.Index.toNat).Name]
def namesV (c : D.Config) (b : D.Book) (l : List D.Target) : Nat → List ByteArray
  | 0 => []
  | j + 1 => namesV c b l j ++ tgtW c b (nth l j)
def teamV (c : D.Config) (t : D.Team) : Nat → List ByteArray
  | 0 => [wTeam, t.Name]
  | j + 1 => teamV c t j ++ [(nth c.People (nth t.Members j).toNat).Name]
def polW (p : D.Policy) : List ByteArray := [wPolicy, p.Name, itoaB p.Repeat]
def howW (u : Bool) : ByteArray := if u = true then wUrgent else wNormal
def stepW (c : D.Config) (b : D.Book) (s : D.PolicyStep) : List ByteArray := [wStep, itoaB s.Wait, howW s.Urgent] ++ namesV c b s.Targets s.Targets.length
def teamsX (c : D.Config) (b : D.Book) : Nat → ByteArray
  | 0 => ByteArray.mk #[]
  | i + 1 => teamsX c b i ++ lnOf (teamV c (nth b.Teams i) (nth b.Teams i).Members.length)
def polX (c : D.Config) (b : D.Book) (tx : ByteArray) (p : D.Policy) : Nat → ByteArray
  | 0 => tx ++ lnOf (polW p)
  | k + 1 => polX c b tx p k ++ lnOf (stepW c b (nth p.Steps k))
def polsX (c : D.Config) (b : D.Book) : Nat → ByteArray
  | 0 => teamsX c b b.Teams.length
  | i + 1 => polX c b (polsX c b i) (nth b.Policies i) (nth b.Policies i).Steps.length
def bookX (c : D.Config) (b : D.Book) : ByteArray := polsX c b b.Policies.length
theorem firstN_inv {f : Nat → Int} : ∀ {n : Nat}, firstN f n = 0 → ∀ i, i < n → f i = 0
  | 0, _, i, hi => by omega
  | n + 1, h, i, hi => by
    by_cases h0 : firstN f n = 0
    · have h1 : f n = 0 := by
        have h2 : (if firstN f n = 0 then f n else firstN f n) = 0 := h
        rw [if_pos h0] at h2; exact h2
      rcases Nat.lt_or_ge i n with h2 | h2
      · exact firstN_inv h0 i h2
      · rw [show i = n by omega]; exact h1
    · have h2 : (if firstN f n = 0 then f n else firstN f n) = 0 := h
      rw [if_neg h0] at h2; exact absurd h2 h0
def TgtOK (nT : Nat) (t : D.Target) : Prop := 0 ≤ t.Index ∧ ((t.Kind = 0 ∧ t.Index < 4) ∨ (t.Kind = 1 ∧ t.Index < 2) ∨ (t.Kind = 2 ∧ t.Index < (nT : Int)))
structure StepV (nT : Nat) (s : D.PolicyStep) : Prop where
  wait : 0 ≤ s.Wait ∧ s.Wait ≤ 86400
  tlen : s.Targets.length ≤ 6
  tgt : ∀ j, j < s.Targets.length → TgtOK nT (nth s.Targets j)
structure BookV (b : D.Book) : Prop where
  tlen : b.Teams.length ≤ 8
  tname : ∀ i, i < b.Teams.length → nameOK (nth b.Teams i).Name = true ∧ earlierB (tnames b) i = false
  mlen : ∀ i, i < b.Teams.length → (nth b.Teams i).Members.length ≤ 4
  mem : ∀ i, i < b.Teams.length → ∀ j, j < (nth b.Teams i).Members.length → 0 ≤ nth (nth b.Teams i).Members j ∧ nth (nth b.Teams i).Members j < 4
  plen : b.Policies.length ≤ 12
  pname : ∀ i, i < b.Policies.length → nameOK (nth b.Policies i).Name = true
  slen : ∀ i, i < b.Policies.length → (nth b.Policies i).Steps.length ≤ 8
  spos : ∀ i, i < b.Policies.length → 1 ≤ (nth b.Policies i).Steps.length
  rep : ∀ i, i < b.Policies.length → 0 ≤ (nth b.Policies i).Repeat ∧ (nth b.Policies i).Repeat ≤ 8
  step : ∀ i, i < b.Policies.length → ∀ k, k < (nth b.Policies i).Steps.length → StepV b.Teams.length (nth (nth b.Policies i).Steps k)
theorem asc_room {l : List Int} (h : ascB l = true) (h0 : ∀ j, j < l.length → 0 ≤ nth l j) : ∀ j, j < l.length → (j : Int) ≤ nth l j
  | 0, hj => h0 0 hj
  | j + 1, hj => by
    have h1 := asc_room h h0 j (by omega)
    have h2 := ascB_get h (i := j + 1) (by omega) hj
    rw [Nat.add_sub_cancel] at h2
    omega
theorem setErr_ok {n : Nat} {l : List Int} (h : setErr n l = 0) : l.length ≤ n ∧ ∀ j, j < l.length → 0 ≤ nth l j ∧ nth l j < (n : Int) := by
  unfold setErr at h
  split at h
  · omega
  rename_i hl
  split at h
  · omega
  rename_i ha
  have ha : ascB l = true := by cases hb : ascB l <;> simp_all
  split at h
  · rename_i hb
    have hm : ∀ j, j < l.length → 0 ≤ nth l j ∧ nth l j < (n : Int) := fun j hj => by
      have h1 := ascB_mono ha (i := 0) (j := j) (by omega) hj
      have h2 := ascB_mono ha (i := j) (j := l.length - 1) (by omega) (by omega)
      omega
    refine ⟨?_, hm⟩
    have h1 := asc_room ha (fun j hj => (hm j hj).1) (l.length - 1) (by omega)
    have h2 := (hm (l.length - 1) (by omega)).2
    omega
  · omega
theorem BookV.of {b : D.Book} (h : bookErr 4 2 b = 0) : BookV b := by
  unfold bookErr at h
  split at h
  · omega
  rename_i h0
  split at h
  · rename_i ht
    have hT := fun i hi => firstN_inv ht i hi
    have hP := fun i hi => firstN_inv h i hi
    have ht : ∀ i, i < b.Teams.length → nameOK (nth b.Teams i).Name = true ∧ earlierB (tnames b) i = false ∧ setErr 4 (nth b.Teams i).Members = 0 := fun i hi => by
      have h1 := hT i hi
      unfold teamErr at h1
      split at h1
      · omega
      rename_i h2
      split at h1
      · omega
      rename_i h3
      exact ⟨by cases hb : nameOK (nth b.Teams i).Name <;> simp_all, by cases hb : earlierB (tnames b) i <;> simp_all, h1⟩
    have hp : ∀ i, i < b.Policies.length → nameOK (nth b.Policies i).Name = true ∧ ((nth b.Policies i).Steps.length ≤ 8 ∧ 1 ≤ (nth b.Policies i).Steps.length) ∧ (0 ≤ (nth b.Policies i).Repeat ∧ (nth b.Policies i).Repeat ≤ 8) ∧ ∀ k, k < (nth b.Policies i).Steps.length → stepErr 4 2 b.Teams.length (nth (nth b.Policies i).Steps k) = 0 := fun i hi => by
      have h1 := hP i hi
      unfold policyErr at h1
      split at h1
      · omega
      rename_i h2
      split at h1
      · omega
      split at h1
      · omega
      rename_i h5
      split at h1
      · omega
      rename_i h3
      split at h1
      · omega
      rename_i h4
      exact ⟨by cases hb : nameOK (nth b.Policies i).Name <;> simp_all, ⟨by omega, by omega⟩, inB_spec (by cases hb : inB (nth b.Policies i).Repeat 0 8 <;> simp_all), fun k hk => firstN_inv h1 k hk⟩
    refine ⟨by omega, fun i hi => ⟨(ht i hi).1, (ht i hi).2.1⟩, fun i hi => (setErr_ok (ht i hi).2.2).1, fun i hi j hj => (setErr_ok (ht i hi).2.2).2 j hj, by omega, fun i hi => (hp i hi).1, fun i hi => (hp i hi).2.1.1, fun i hi => (hp i hi).2.1.2, fun i hi => (hp i hi).2.2.1, fun i hi k hk => ?_⟩
    have h1 := (hp i hi).2.2.2 k hk
    unfold stepErr targetsErr at h1
    split at h1
    · omega
    rename_i h2
    split at h1
    · omega
    rename_i h3
    refine ⟨inB_spec (by cases hb : inB (nth (nth b.Policies i).Steps k).Wait 0 86400 <;> simp_all), by omega, fun j hj => ?_⟩
    have h4 := firstN_inv h1 j hj
    rw [target_eq] at h4
    split at h4
    · rename_i h5; exact h5
    · omega
  · rename_i h1; exact absurd h h1
theorem CfgOK.pwd {c : D.Config} (h : CfgOK c) {i : Nat} (hi : i < 4) : Wd (nth c.People i).Name := Wd.name (h.pfacts hi).1
theorem CfgOK.swd {c : D.Config} (h : CfgOK c) {i : Nat} (hi : i < 2) : Wd (nth c.Schedules i).Name := Wd.name (h.sfacts hi).1
theorem tgtW_wd {c : D.Config} {b : D.Book} {t : D.Target} (h : CfgOK c) (hb : BookV b) (ht : TgtOK b.Teams.length t) : (∀ w ∈ tgtW c b t, Wd w) ∧ (tgtW c b t).length = 2 := by
  obtain ⟨h1, h2, h3, h4, h5, h6, h7⟩ := wd_lits
  obtain ⟨h0, ht⟩ := ht
  unfold tgtW
  rcases ht with ⟨hk, hi⟩ | ⟨hk, hi⟩ | ⟨hk, hi⟩
  · rw [if_pos hk]
    refine ⟨?_, rfl⟩
    intro w hw; simp only [List.mem_cons, List.not_mem_nil, or_false] at hw
    rcases hw with rfl | rfl
    · exact h4
    · exact h.pwd (by omega)
  · rw [if_neg (by omega), if_pos hk]
    refine ⟨?_, rfl⟩
    intro w hw; simp only [List.mem_cons, List.not_mem_nil, or_false] at hw
    rcases hw with rfl | rfl
    · exact h5
    · exact h.swd (by omega)
  · rw [if_neg (by omega), if_neg (by omega)]
    refine ⟨?_, rfl⟩
    intro w hw; simp only [List.mem_cons, List.not_mem_nil, or_false] at hw
    rcases hw with rfl | rfl
    · exact h1
    · exact Wd.name (hb.tname _ (by omega)).1
theorem namesV_wd {c : D.Config} {b : D.Book} {l : List D.Target} (h : CfgOK c) (hb : BookV b) (hl : ∀ j, j < l.length → TgtOK b.Teams.length (nth l j)) : ∀ k, k ≤ l.length → (∀ w ∈ namesV c b l k, Wd w) ∧ (namesV c b l k).length = 2 * k
  | 0, _ => ⟨fun w hw => by simp [namesV] at hw, rfl⟩
  | k + 1, hk => by
    have ih := namesV_wd h hb hl k (by omega)
    have h1 := tgtW_wd h hb (hl k (by omega))
    refine ⟨fun w hw => ?_, ?_⟩
    · rcases List.mem_append.1 hw with hw | hw
      · exact ih.1 w hw
      · exact h1.1 w hw
    · simp only [namesV, List.length_append, ih.2, h1.2]; omega
theorem teamV_wd {c : D.Config} {t : D.Team} (h : CfgOK c) (hn : nameOK t.Name = true) (hm : ∀ j, j < t.Members.length → 0 ≤ nth t.Members j ∧ nth t.Members j < 4) : ∀ k, k ≤ t.Members.length → (∀ w ∈ teamV c t k, Wd w) ∧ (teamV c t k).length = k + 2
  | 0, _ => by
    refine ⟨fun w hw => ?_, rfl⟩
    simp only [teamV, List.mem_cons, List.not_mem_nil, or_false] at hw
    rcases hw with rfl | rfl
    · exact wd_lits.1
    · exact Wd.name hn
  | k + 1, hk => by
    have ih := teamV_wd h hn hm k (by omega)
    refine ⟨fun w hw => ?_, by simp only [teamV, List.length_append, ih.2, List.length_singleton]⟩
    rcases List.mem_append.1 hw with hw | hw
    · exact ih.1 w hw
    · rw [List.mem_singleton.1 hw]
      have := hm k (by omega)
      exact h.pwd (by omega)
theorem polW_wd {p : D.Policy} (hn : nameOK p.Name = true) (hr : 0 ≤ p.Repeat ∧ p.Repeat ≤ 8) : ∀ w ∈ polW p, Wd w := fun w hw => by
  simp only [polW, List.mem_cons, List.not_mem_nil, or_false] at hw
  rcases hw with rfl | rfl | rfl
  · exact wd_lits.2.1
  · exact Wd.name hn
  · exact Wd.itoa hr.1 (by omega)
theorem howW_wd (u : Bool) : Wd (howW u) := by
  unfold howW
  split
  · exact wd_lits.2.2.2.2.2.1
  · exact wd_lits.2.2.2.2.2.2
theorem stepW_wd {c : D.Config} {b : D.Book} {s : D.PolicyStep} (h : CfgOK c) (hb : BookV b) (hs : StepV b.Teams.length s) : (∀ w ∈ stepW c b s, Wd w) ∧ (stepW c b s).length = 3 + 2 * s.Targets.length := by
  have h1 := namesV_wd h hb hs.tgt s.Targets.length (Nat.le_refl _)
  refine ⟨fun w hw => ?_, by simp only [stepW, List.length_append, h1.2, List.length_cons, List.length_nil]⟩
  rcases List.mem_append.1 hw with hw | hw
  · simp only [List.mem_cons, List.not_mem_nil, or_false] at hw
    rcases hw with rfl | rfl | rfl
    · exact wd_lits.2.2.1
    · exact Wd.itoa hs.wait.1 (by have := hs.wait.2; omega)
    · exact howW_wd _
  · exact h1.1 w hw
theorem teamL_size {c : D.Config} {b : D.Book} (h : CfgOK c) (hb : BookV b) {i : Nat} (hi : i < b.Teams.length) : (lnOf (teamV c (nth b.Teams i) (nth b.Teams i).Members.length)).size ≤ 400 := by
  have h1 := teamV_wd h (hb.tname i hi).1 (hb.mem i hi) _ (Nat.le_refl _)
  have h2 := lnOf_size h1.1
  have := hb.mlen i hi
  omega
theorem polL_size {p : D.Policy} (hn : nameOK p.Name = true) (hr : 0 ≤ p.Repeat ∧ p.Repeat ≤ 8) : (lnOf (polW p)).size ≤ 400 := Nat.le_trans (lnOf_size (polW_wd hn hr)) (show 25 * 3 + 1 ≤ 400 by decide)
theorem stepL_size {c : D.Config} {b : D.Book} {s : D.PolicyStep} (h : CfgOK c) (hb : BookV b) (hs : StepV b.Teams.length s) : (lnOf (stepW c b s)).size ≤ 400 := by
  have h1 := stepW_wd h hb hs
  have h2 := lnOf_size h1.1
  have := hs.tlen
  omega
theorem teamsX_size {c : D.Config} {b : D.Book} (h : CfgOK c) (hb : BookV b) : ∀ i, i ≤ b.Teams.length → (teamsX c b i).size ≤ 400 * i
  | 0, _ => Nat.le_of_eq rfl
  | i + 1, hi => by
    have ih := teamsX_size h hb i (by omega)
    have := teamL_size h hb (show i < b.Teams.length by omega)
    simp only [teamsX, ByteArray.size_append]; omega
theorem polX_size {c : D.Config} {b : D.Book} {tx : ByteArray} {p : D.Policy} (h : CfgOK c) (hb : BookV b) (hn : nameOK p.Name = true) (hr : 0 ≤ p.Repeat ∧ p.Repeat ≤ 8) (hs : ∀ k, k < p.Steps.length → StepV b.Teams.length (nth p.Steps k)) : ∀ k, k ≤ p.Steps.length → (polX c b tx p k).size ≤ tx.size + 400 * (k + 1)
  | 0, _ => by
    have := polL_size hn hr
    simp only [polX, ByteArray.size_append]; omega
  | k + 1, hk => by
    have ih := polX_size (tx := tx) h hb hn hr hs k (by omega)
    have := stepL_size h hb (hs k (by omega))
    simp only [polX, ByteArray.size_append]; omega
theorem polsX_size {c : D.Config} {b : D.Book} (h : CfgOK c) (hb : BookV b) : ∀ i, i ≤ b.Policies.length → (polsX c b i).size ≤ 3200 + 3600 * i
  | 0, _ => by
    have := teamsX_size h hb b.Teams.length (Nat.le_refl _)
    have := hb.tlen
    simp only [polsX]; omega
  | i + 1, hi => by
    have ih := polsX_size h hb i (by omega)
    have h1 := polX_size (tx := polsX c b i) h hb (hb.pname i (by omega)) (hb.rep i (by omega)) (hb.step i (by omega)) _ (Nat.le_refl _)
    have := hb.slen i (by omega)
    simp only [polsX]; omega
theorem bookX_size {c : D.Config} {b : D.Book} (h : CfgOK c) (hb : BookV b) : (bookX c b).size ≤ 46400 := by
  have := polsX_size h hb b.Policies.length (Nat.le_refl _)
  have := hb.plen
  unfold bookX; omega
theorem tgtW_len (c : D.Config) (b : D.Book) (t : D.Target) : (tgtW c b t).length = 2 := by
  unfold tgtW
  repeat' split
  all_goals rfl
theorem namesV_len (c : D.Config) (b : D.Book) (l : List D.Target) : ∀ k, (namesV c b l k).length = 2 * k
  | 0 => rfl
  | k + 1 => by simp only [namesV, List.length_append, namesV_len c b l k, tgtW_len]; omega
theorem teamV_len (c : D.Config) (t : D.Team) : ∀ k, (teamV c t k).length = k + 2
  | 0 => rfl
  | k + 1 => by simp only [teamV, List.length_append, teamV_len c t k, List.length_singleton]
theorem namesV_0 {c : D.Config} {b : D.Book} {l : List D.Target} {j : Nat} (h : (nth l j).Kind = 0) : namesV c b l (j + 1) = namesV c b l j ++ [ByteArray.mk #[112, 101, 114, 115, 111, 110], (nth c.People (nth l j).Index.toNat).Name] := by
  show namesV c b l j ++ tgtW c b (nth l j) = _
  unfold tgtW; rw [if_pos h]; rfl
theorem namesV_1 {c : D.Config} {b : D.Book} {l : List D.Target} {j : Nat} (h0 : ¬ (nth l j).Kind = 0) (h : (nth l j).Kind = 1) : namesV c b l (j + 1) = namesV c b l j ++ [ByteArray.mk #[115, 99, 104, 101, 100, 117, 108, 101], (nth c.Schedules (nth l j).Index.toNat).Name] := by
  show namesV c b l j ++ tgtW c b (nth l j) = _
  unfold tgtW; rw [if_neg h0, if_pos h]; rfl
theorem namesV_2 {c : D.Config} {b : D.Book} {l : List D.Target} {j : Nat} (h0 : ¬ (nth l j).Kind = 0) (h : ¬ (nth l j).Kind = 1) : namesV c b l (j + 1) = namesV c b l j ++ [ByteArray.mk #[116, 101, 97, 109], (nth b.Teams (nth l j).Index.toNat).Name] := by
  show namesV c b l j ++ tgtW c b (nth l j) = _
  unfold tgtW; rw [if_neg h0, if_neg h]; rfl
theorem stepW_u {c : D.Config} {b : D.Book} {s : D.PolicyStep} (h : s.Urgent = true) : stepW c b s = [ByteArray.mk #[115, 116, 101, 112], itoaB s.Wait, ByteArray.mk #[117, 114, 103, 101, 110, 116]] ++ namesV c b s.Targets s.Targets.length := by
  unfold stepW howW; rw [if_pos h]; rfl
theorem stepW_n {c : D.Config} {b : D.Book} {s : D.PolicyStep} (h : s.Urgent = false) : stepW c b s = [ByteArray.mk #[115, 116, 101, 112], itoaB s.Wait, ByteArray.mk #[110, 111, 114, 109, 97, 108]] ++ namesV c b s.Targets s.Targets.length := by
  unfold stepW howW; rw [if_neg (by rw [h]; simp)]; rfl
theorem joinTeam {c : D.Config} {b : D.Book} (h : CfgOK c) (hb : BookV b) {i : Nat} (hi : i < b.Teams.length) {j : Nat} (hj : j ≤ (nth b.Teams i).Members.length) : (joinS (teamV c (nth b.Teams i) j)).size ≤ 1000 := by
  have h1 := teamV_wd h (hb.tname i hi).1 (hb.mem i hi) j hj
  have h2 := joinS_size h1.1
  have := hb.mlen i hi
  omega
theorem joinPol {p : D.Policy} (hn : nameOK p.Name = true) (hr : 0 ≤ p.Repeat ∧ p.Repeat ≤ 8) : (joinS (polW p)).size ≤ 1000 := Nat.le_trans (joinS_size (polW_wd hn hr)) (show 25 * 3 ≤ 1000 by decide)
theorem joinStep {c : D.Config} {b : D.Book} {s : D.PolicyStep} (h : CfgOK c) (hb : BookV b) (hs : StepV b.Teams.length s) : (joinS (stepW c b s)).size ≤ 1000 := by
  have h1 := stepW_wd h hb hs
  have h2 := joinS_size h1.1
  have := hs.tlen
  omega
theorem stepW_len (c : D.Config) (b : D.Book) (s : D.PolicyStep) : (stepW c b s).length = 3 + 2 * s.Targets.length := by
  simp only [stepW, List.length_append, namesV_len, List.length_cons, List.length_nil]
theorem textTeams {c : D.Config} {b : D.Book} (h : CfgOK c) (hb : BookV b) {i : Nat} (hi : i ≤ b.Teams.length) : (teamsX c b i).size ≤ 100000 := by
  have := teamsX_size h hb i hi
  have := hb.tlen
  omega
theorem textPols {c : D.Config} {b : D.Book} (h : CfgOK c) (hb : BookV b) {i : Nat} (hi : i ≤ b.Policies.length) : (polsX c b i).size ≤ 100000 := by
  have := polsX_size h hb i hi
  have := hb.plen
  omega
theorem textPol {c : D.Config} {b : D.Book} (h : CfgOK c) (hb : BookV b) {i k : Nat} (hi : i < b.Policies.length) (hk : k ≤ (nth b.Policies i).Steps.length) : (polX c b (polsX c b i) (nth b.Policies i) k).size ≤ 100000 := by
  have h1 := polX_size (tx := polsX c b i) h hb (hb.pname i hi) (hb.rep i hi) (hb.step i hi) k hk
  have := polsX_size h hb i (by omega)
  have := hb.plen
  have := hb.slen i hi
  omega
theorem BookV.memle {b : D.Book} (h : BookV b) : ∀ t ∈ b.Teams, t.Members.length ≤ 9223372036854775807 := fun t ht => by
  obtain ⟨i, hi, he⟩ := List.getElem_of_mem ht
  have h1 := h.mlen i hi
  rw [show nth b.Teams i = t from by simp [nth, List.getD_eq_getElem?_getD, List.getElem?_eq_getElem hi, he]] at h1
  omega
theorem bAt_in {s : ByteArray} {i : Nat} (h : i < s.size) : ∃ x, x ∈ unB s ∧ bAt s i = x.toNat := by
  refine ⟨s[i], ?_, ?_⟩
  · show s.data[i] ∈ s.data.toList
    exact Array.mem_toList_iff.2 (Array.getElem_mem _)
  · unfold bAt; rw [getElem?_pos s i h]; rfl
theorem dec_at {t : ByteArray} {i : Nat} (h : i < t.size) (ha : bAt t i < 128) : Utf8.decode t i = (bAt t i, (i + 1) - i) := by
  have e : bAt t i = (t[i]'h).toNat := by unfold bAt; rw [getElem?_pos t i h]; rfl
  rw [e] at ha ⊢
  rw [show i + 1 - i = 1 by omega]
  exact decode_ascii t i h ha
theorem nDig_le : ∀ (m u : Nat), 1 ≤ m → u < 10 ^ m → Lib.nDigits u ≤ m
  | 0, u, h, _ => by omega
  | m + 1, u, _, hu => by
    by_cases h : u < 10
    · rw [Lib.nDigits_small h]; omega
    · rw [Lib.nDigits_big h]
      rcases Nat.eq_zero_or_pos m with h0 | h0
      · subst h0; omega
      · have := nDig_le m (u / 10) h0 (by rw [Nat.pow_succ] at hu; omega)
        omega
structure NumW (s : ByteArray) (n : Int) : Prop where
  size : 1 ≤ s.size ∧ s.size ≤ 9
  dig : ∀ i, i < s.size → 48 ≤ bAt s i ∧ bAt s i ≤ 57
  head : bAt s 0 = 48 → s = ByteArray.mk #[48]
  val : atoiV s = n
theorem NumW.of {n : Int} (h0 : 0 ≤ n) (h1 : n ≤ 100000) : NumW (itoaB n) n := by
  obtain ⟨k, rfl⟩ : ∃ k : Nat, n = (k : Int) := ⟨n.toNat, by omega⟩
  have e : unB (itoaB ((k : Nat) : Int)) = Lib.decDigits k := by rw [itoaB_nat, un_mk]
  refine ⟨⟨itoaB_pos _, ?_⟩, fun i hi => ?_, fun h => ?_, (atoi_of e (by omega)).2⟩
  · rw [← unB_len, e, Lib.decDigits_length]
    exact Nat.le_trans (nDig_le 6 k (by omega) (by omega)) (by omega)
  · obtain ⟨x, hx, hb⟩ := bAt_in hi
    rw [e] at hx
    have := dec_dig k x hx
    rw [hb]; exact this
  · rcases dec_head k with rfl | ⟨c, r, hc, hn⟩
    · rw [itoaB_nat, Lib.decDigits_one (by omega)]; rfl
    · rw [itoaB_nat, hc] at h
      exact absurd h hn
theorem max_nat (q : Nat) : max (0 : Int) ((q : Nat) : Int) = ((q : Nat) : Int) := Int.max_eq_right (by omega)
theorem teams_ne {b : D.Book} (hb : BookV b) {i q : Nat} (hi : i < q) (hq : q < b.Teams.length) : ¬ (nth b.Teams i).Name = (nth b.Teams q).Name := fun e => by
  have h1 := (hb.tname q hq).2
  rw [earlierB_yes (l := tnames b) (i := q) (k := i) hi (by rw [tname_at (by omega), tname_at hq]; exact e)] at h1
  simp at h1
theorem sched_ne {c : D.Config} (h : CfgOK c) {i q : Nat} (hi : i < q) (hq : q < 2) : ¬ (nth c.Schedules i).Name = (nth c.Schedules q).Name := by
  rw [h.snm (by omega), h.snm hq, show i = 0 by omega, show q = 1 by omega]; decide
def kwT (t : D.Target) : ByteArray := if t.Kind = 0 then wPerson else if t.Kind = 1 then wSched else wTeam
def nwT (c : D.Config) (b : D.Book) (t : D.Target) : ByteArray := if t.Kind = 0 then (nth c.People t.Index.toNat).Name else if t.Kind = 1 then (nth c.Schedules t.Index.toNat).Name else (nth b.Teams t.Index.toNat).Name
theorem tgtW_is (c : D.Config) (b : D.Book) (t : D.Target) : tgtW c b t = [kwT t, nwT c b t] := by
  unfold tgtW kwT nwT
  split
  · rfl
  · split <;> rfl
theorem kw0 {t : D.Target} (h : t.Kind = 0) : kwT t = ByteArray.mk #[112, 101, 114, 115, 111, 110] := by unfold kwT; rw [if_pos h]; rfl
theorem kw1 {t : D.Target} (h0 : ¬ t.Kind = 0) (h : t.Kind = 1) : kwT t = ByteArray.mk #[115, 99, 104, 101, 100, 117, 108, 101] := by unfold kwT; rw [if_neg h0, if_pos h]; rfl
theorem kw2 {t : D.Target} (h0 : ¬ t.Kind = 0) (h : ¬ t.Kind = 1) : kwT t = ByteArray.mk #[116, 101, 97, 109] := by unfold kwT; rw [if_neg h0, if_neg h]; rfl
theorem kw_p (t : D.Target) : kwT t = ByteArray.mk #[112, 101, 114, 115, 111, 110] ↔ t.Kind = 0 := by
  refine ⟨fun h => ?_, kw0⟩
  by_cases h0 : t.Kind = 0
  · exact h0
  · by_cases h1 : t.Kind = 1
    · rw [kw1 h0 h1] at h; exact absurd h (by decide)
    · rw [kw2 h0 h1] at h; exact absurd h (by decide)
theorem kw_s (t : D.Target) (h0 : ¬ t.Kind = 0) : kwT t = ByteArray.mk #[115, 99, 104, 101, 100, 117, 108, 101] ↔ t.Kind = 1 := by
  refine ⟨fun h => ?_, kw1 h0⟩
  by_cases h1 : t.Kind = 1
  · exact h1
  · rw [kw2 h0 h1] at h; exact absurd h (by decide)
theorem nw0 {c : D.Config} {b : D.Book} {t : D.Target} (h : t.Kind = 0) : nwT c b t = (nth c.People t.Index.toNat).Name := by unfold nwT; rw [if_pos h]
theorem nw1 {c : D.Config} {b : D.Book} {t : D.Target} (h0 : ¬ t.Kind = 0) (h : t.Kind = 1) : nwT c b t = (nth c.Schedules t.Index.toNat).Name := by unfold nwT; rw [if_neg h0, if_pos h]
theorem nw2 {c : D.Config} {b : D.Book} {t : D.Target} (h0 : ¬ t.Kind = 0) (h : ¬ t.Kind = 1) : nwT c b t = (nth b.Teams t.Index.toNat).Name := by unfold nwT; rw [if_neg h0, if_neg h]
theorem person_in {c : D.Config} (h : CfgOK c) {i : Int} (h0 : 0 ≤ i) (h4 : i < 4) : person c.People (nth c.People i.toNat).Name = (i, true) := by
  rw [person_at h (by omega), show ((i.toNat : Nat) : Int) = i by omega]
theorem spl_words : ∀ (r : List ByteArray) (w : ByteArray), noSp w → (∀ x ∈ r, noSp x) → splL 32 (unB w ++ joinT r) = (w :: r).map unB
  | [], w, h, _ => by simp only [joinT, List.foldr_nil, List.append_nil]; rw [splL_miss 32 _ h]; rfl
  | x :: r, w, h, hr => by
    have ih := spl_words r x (hr x (List.mem_cons_self ..)) (fun y hy => hr y (List.mem_cons_of_mem _ hy))
    show splL 32 (unB w ++ 32 :: (unB x ++ joinT r)) = _
    rw [splL_sep 32 _ _ h, ih]; rfl
theorem split_join {ws : List ByteArray} (hn : 1 ≤ ws.length) (hw : ∀ w ∈ ws, Wd w) : splitS (joinS ws) = ws := by
  cases ws with
  | nil => simp at hn
  | cons w r =>
    rw [splitS_is]
    unfold splB
    rw [joinS_cons, spl_words r w (hw w (List.mem_cons_self ..)).sp (fun x hx => (hw x (List.mem_cons_of_mem _ hx)).sp), List.map_map]
    refine (List.map_congr_left fun x _ => ?_).trans (List.map_id _)
    exact Lib.mk_data x
theorem wd_nth {ws : List ByteArray} (hw : ∀ w ∈ ws, Wd w) {j : Nat} (hj : j < ws.length) : ¬ nth ws j = ByteArray.mk #[] := fun e => by
  have := (hw _ (nth_mem hj)).pos
  rw [e] at this; exact absurd this (by decide)
theorem nth_app1 {α : Type} [Inhabited α] {a b : List α} {i : Nat} (h : i < a.length) : nth (a ++ b) i = nth a i := by
  simp [nth, List.getD_eq_getElem?_getD, List.getElem?_append_left h]
theorem nth_app2 {α : Type} [Inhabited α] {a b : List α} {i : Nat} (h : a.length ≤ i) : nth (a ++ b) i = nth b (i - a.length) := by
  simp [nth, List.getD_eq_getElem?_getD, List.getElem?_append_right h]
theorem teamV_at (c : D.Config) (t : D.Team) : ∀ (k j : Nat), j < k → nth (teamV c t k) (j + 2) = (nth c.People (nth t.Members j).toNat).Name
  | 0, j, h => by omega
  | k + 1, j, h => by
    show nth (teamV c t k ++ [(nth c.People (nth t.Members k).toNat).Name]) (j + 2) = _
    rcases Nat.lt_or_ge j k with h1 | h1
    · rw [nth_app1 (by rw [teamV_len]; omega)]; exact teamV_at c t k j h1
    · rw [nth_app2 (by rw [teamV_len]; omega), teamV_len, show j + 2 - (k + 2) = 0 by omega, show j = k by omega]; rfl
theorem teamV_0 (c : D.Config) (t : D.Team) : ∀ k, nth (teamV c t k) 0 = wTeam ∧ nth (teamV c t k) 1 = t.Name
  | 0 => ⟨rfl, rfl⟩
  | k + 1 => by
    have ih := teamV_0 c t k
    show nth (teamV c t k ++ [_]) 0 = _ ∧ nth (teamV c t k ++ [_]) 1 = _
    rw [nth_app1 (by rw [teamV_len]; omega), nth_app1 (by rw [teamV_len]; omega)]; exact ih
theorem nth_drop {α : Type} [Inhabited α] (l : List α) (k j : Nat) : nth (l.drop k) j = nth l (j + k) := by
  simp [nth, List.getD_eq_getElem?_getD, List.getElem?_drop, Nat.add_comm]
theorem namesV_at (c : D.Config) (b : D.Book) (l : List D.Target) : ∀ (k j : Nat), j < k → nth (namesV c b l k) (2 * j) = kwT (nth l j) ∧ nth (namesV c b l k) (2 * j + 1) = nwT c b (nth l j)
  | 0, j, h => by omega
  | k + 1, j, h => by
    show nth (namesV c b l k ++ tgtW c b (nth l k)) (2 * j) = _ ∧ nth (namesV c b l k ++ tgtW c b (nth l k)) (2 * j + 1) = _
    rcases Nat.lt_or_ge j k with h1 | h1
    · rw [nth_app1 (by rw [namesV_len]; omega), nth_app1 (by rw [namesV_len]; omega)]; exact namesV_at c b l k j h1
    · rw [nth_app2 (by rw [namesV_len]; omega), nth_app2 (by rw [namesV_len]; omega), namesV_len, show 2 * j - 2 * k = 0 by omega, show 2 * j + 1 - 2 * k = 1 by omega, show j = k by omega, tgtW_is]; exact ⟨rfl, rfl⟩
theorem stepW_at (c : D.Config) (b : D.Book) (s : D.PolicyStep) {j : Nat} (hj : j < s.Targets.length) : nth (stepW c b s) (2 * j + 3) = kwT (nth s.Targets j) ∧ nth (stepW c b s) (2 * j + 4) = nwT c b (nth s.Targets j) := by
  unfold stepW
  rw [nth_app2 (by simp), nth_app2 (by simp)]
  have h1 := namesV_at c b s.Targets s.Targets.length j hj
  rw [show 2 * j + 3 - [wStep, itoaB s.Wait, howW s.Urgent].length = 2 * j from by simp, show 2 * j + 4 - [wStep, itoaB s.Wait, howW s.Urgent].length = 2 * j + 1 from by simp]
  exact h1
theorem how_u (u : Bool) : howW u = ByteArray.mk #[117, 114, 103, 101, 110, 116] ↔ u = true := by cases u <;> decide
theorem how_n (u : Bool) : howW u = ByteArray.mk #[110, 111, 114, 109, 97, 108] ↔ u = false := by cases u <;> decide
theorem take_one {α : Type} [Inhabited α] {l : List α} (h : 0 < l.length) : l.take 1 = [nth l 0] := by
  cases l with
  | nil => simp at h
  | cons x r => rfl
theorem cut_list {l r : List UInt8} (h : ∀ x ∈ l, x ≠ 10) : Lib.cut (l ++ 10 :: r) [10] = (l, r, true) := by
  have hat : (l ++ 10 :: r)[l.length]? = some 10 := by rw [List.getElem?_append_right (Nat.le_refl _)]; simp
  have hi : Lib.index (l ++ 10 :: r) [10] = (l.length : Int) := by
    rcases Lib.index_spec (l ++ 10 :: r) [10] with ⟨h1, h2⟩ | ⟨i, h1, h2, h3, h4⟩
    · have := h2 l.length (by rw [List.length_append]; omega)
      rw [occ_one.2 hat] at this; simp at this
    · have h5 := occ_one.1 h3
      rcases Nat.lt_trichotomy i l.length with h6 | h6 | h6
      · rw [List.getElem?_append_left h6] at h5
        exact absurd rfl (h 10 (List.mem_of_getElem? h5))
      · rw [h1, h6]
      · have := h4 l.length h6
        rw [occ_one.2 hat] at this; simp at this
  unfold Lib.cut
  rw [hi, if_pos (by omega)]
  simp
theorem join_ln {ws : List ByteArray} (hw : ∀ w ∈ ws, Wd w) : ∀ x ∈ unB (joinS ws), x ≠ 10 := by
  have hT : ∀ r : List ByteArray, (∀ w ∈ r, Wd w) → ∀ x ∈ joinT r, x ≠ 10 := by
    intro r
    induction r with
    | nil => intro _ x hx; simp [joinT] at hx
    | cons w r ih =>
      intro hr x hx
      have hx2 : x ∈ 32 :: (unB w ++ joinT r) := hx
      rcases List.mem_cons.1 hx2 with rfl | hx2
      · decide
      · rcases List.mem_append.1 hx2 with hx2 | hx2
        · exact ((hr w (List.mem_cons_self ..)).ch x hx2).2
        · exact ih (fun y hy => hr y (List.mem_cons_of_mem _ hy)) x hx2
  cases ws with
  | nil => intro x hx; exact absurd hx (by rw [show unB (joinS []) = [] from rfl]; simp)
  | cons w r =>
    intro x hx
    rw [joinS_cons] at hx
    rcases List.mem_append.1 hx with hx | hx
    · exact ((hw w (List.mem_cons_self ..)).ch x hx).2
    · exact hT r (fun y hy => hw y (List.mem_cons_of_mem _ hy)) x hx
theorem cut_ln {ws : List ByteArray} (hw : ∀ w ∈ ws, Wd w) (r : ByteArray) : cutA (lnOf ws ++ r) = joinS ws ∧ cutR (lnOf ws ++ r) = r ∧ cutK (lnOf ws ++ r) = true := by
  have e : Lib.cut (lnOf ws ++ r).data.toList lnB.data.toList = (unB (joinS ws), unB r, true) := by
    have h1 : (lnOf ws ++ r).data.toList = unB (joinS ws) ++ 10 :: unB r := by
      show unB (lnOf ws ++ r) = _
      unfold lnOf
      rw [unB_app, unB_app, show unB lnB = [10] from rfl, List.append_assoc]; rfl
    rw [h1]; exact cut_list (join_ln hw)
  unfold cutA cutR cutK
  rw [e]
  exact ⟨mk_un _, mk_un _, rfl⟩
def stepsR (c : D.Config) (b : D.Book) : List D.PolicyStep → ByteArray → ByteArray
  | [], r => r
  | s :: l, r => lnOf (stepW c b s) ++ stepsR c b l r
def polsR (c : D.Config) (b : D.Book) : List D.Policy → ByteArray
  | [] => ByteArray.mk #[]
  | p :: l => lnOf (polW p) ++ stepsR c b p.Steps (polsR c b l)
def teamsR (c : D.Config) : List D.Team → ByteArray → ByteArray
  | [], r => r
  | t :: l, r => lnOf (teamV c t t.Members.length) ++ teamsR c l r
def restP (c : D.Config) (b : D.Book) (i : Nat) : ByteArray := polsR c b (b.Policies.drop i)
def restS (c : D.Config) (b : D.Book) (i k : Nat) : ByteArray := stepsR c b ((nth b.Policies i).Steps.drop k) (restP c b (i + 1))
def restT (c : D.Config) (b : D.Book) (i : Nat) : ByteArray := teamsR c (b.Teams.drop i) (restP c b 0)
theorem drop_nth {α : Type} [Inhabited α] {l : List α} {i : Nat} (h : i < l.length) : l.drop i = nth l i :: l.drop (i + 1) := by
  rw [List.drop_eq_getElem_cons h]
  simp [nth, List.getD_eq_getElem?_getD, List.getElem?_eq_getElem h]
theorem restT_step {c : D.Config} {b : D.Book} {i : Nat} (h : i < b.Teams.length) : restT c b i = lnOf (teamV c (nth b.Teams i) (nth b.Teams i).Members.length) ++ restT c b (i + 1) := by
  unfold restT; rw [drop_nth h]; rfl
theorem restT_end {c : D.Config} {b : D.Book} {i : Nat} (h : ¬ i < b.Teams.length) : restT c b i = restP c b 0 := by
  unfold restT; rw [List.drop_eq_nil_of_le (by omega)]; rfl
theorem restP_step {c : D.Config} {b : D.Book} {i : Nat} (h : i < b.Policies.length) : restP c b i = lnOf (polW (nth b.Policies i)) ++ restS c b i 0 := by
  unfold restS restP; rw [drop_nth h]; rfl
theorem restP_end {c : D.Config} {b : D.Book} {i : Nat} (h : ¬ i < b.Policies.length) : restP c b i = ByteArray.mk #[] := by
  unfold restP; rw [List.drop_eq_nil_of_le (by omega)]; rfl
theorem restS_step {c : D.Config} {b : D.Book} {i k : Nat} (h : k < (nth b.Policies i).Steps.length) : restS c b i k = lnOf (stepW c b (nth (nth b.Policies i).Steps k)) ++ restS c b i (k + 1) := by
  unfold restS; rw [drop_nth h]; rfl
theorem restS_end {c : D.Config} {b : D.Book} {i k : Nat} (h : ¬ k < (nth b.Policies i).Steps.length) : restS c b i k = restP c b (i + 1) := by
  unfold restS; rw [List.drop_eq_nil_of_le (by omega)]; rfl
theorem lnOf_pos (ws : List ByteArray) : 1 ≤ (lnOf ws).size := by
  unfold lnOf
  rw [ByteArray.size_append, show lnB.size = 1 from rfl]; omega
theorem ln_ne (ws : List ByteArray) (r : ByteArray) : ¬ lnOf ws ++ r = ByteArray.mk #[] := fun e => by
  have h1 := congrArg ByteArray.size e
  rw [ByteArray.size_append, show (ByteArray.mk #[]).size = 0 from rfl] at h1
  have := lnOf_pos ws
  omega
theorem bookX_is (c : D.Config) (b : D.Book) : bookX c b = restT c b 0 := by
  have hT : ∀ i, i ≤ b.Teams.length → teamsX c b i ++ restT c b i = restT c b 0 := by
    intro i
    induction i with
    | zero => intro _; exact ByteArray.empty_append
    | succ i ih =>
      intro hi
      rw [← ih (by omega), restT_step (c := c) (show i < b.Teams.length by omega)]
      show (teamsX c b i ++ _) ++ _ = _
      rw [ByteArray.append_assoc]
  have hS : ∀ tx i k, k ≤ (nth b.Policies i).Steps.length → polX c b tx (nth b.Policies i) k ++ restS c b i k = (tx ++ lnOf (polW (nth b.Policies i))) ++ restS c b i 0 := by
    intro tx i k
    induction k with
    | zero => intro _; rfl
    | succ k ih =>
      intro hk
      rw [← ih (by omega), restS_step (c := c) (b := b) (show k < (nth b.Policies i).Steps.length by omega)]
      show (polX c b tx (nth b.Policies i) k ++ _) ++ _ = _
      rw [ByteArray.append_assoc]
  have hP : ∀ i, i ≤ b.Policies.length → polsX c b i ++ restP c b i = restT c b 0 := by
    intro i
    induction i with
    | zero =>
      intro _
      have := hT b.Teams.length (Nat.le_refl _)
      rw [restT_end (by omega)] at this
      exact this
    | succ i ih =>
      intro hi
      have h1 := hS (polsX c b i) i _ (Nat.le_refl _)
      rw [restS_end (by omega)] at h1
      show polX c b (polsX c b i) (nth b.Policies i) (nth b.Policies i).Steps.length ++ _ = _
      rw [h1, ← ih (by omega), restP_step (c := c) (b := b) (show i < b.Policies.length by omega), ByteArray.append_assoc]
  have h1 := hP b.Policies.length (Nat.le_refl _)
  rw [restP_end (by omega)] at h1
  rw [← h1]
  exact ByteArray.append_empty.symm
theorem policies_len (L : List Int) (nT : Nat) : ∀ (n : Nat) (ts : List D.Policy) (i : Nat), (policies L nT n ts i).1.length = ts.length + n
  | 0, _, _ => rfl
  | n + 1, ts, i => by
    show (policies L nT n (ts ++ [policyP L nT ts.length i]) (policyI L nT i)).1.length = _
    rw [policies_len L nT n, List.length_append, List.length_singleton]; omega
theorem book_pos (L : List Int) (i : Nat) : 1 ≤ (book L i).Policies.length := by
  show 1 ≤ (bookP L i).1.length
  unfold bookP
  rw [policies_len]; simp
end Go.Proofs.YtimfbibaoppfcaaGreatDoor
