/-
  What package pagewatchmade makes (dice, targets, books, crews, answers), of what is reckoned of its code.
-/
import Derived.Test.YtfhcigjkfelnfaaGreatQRowAuditDoublesH
import Derived.Test.YtfhcigjkfelnfaaGreatQRowAuditDoublesJ
set_option maxRecDepth 100000
set_option linter.unusedVariables false
set_option linter.unusedSimpArgs false
namespace Go.Proofs.YtfhcigjkfelnfaaGreat
open Go AM
theorem tmod_within {a n : Int} (hn : 1 ≤ n) : -n < a.tmod n ∧ a.tmod n < n := by
  rcases (show a < 0 ∨ 0 ≤ a by omega) with h | h
  · have e : a.tmod n = - ((-a).tmod n) := by rw [Int.neg_tmod, Int.neg_neg]
    rw [e, Int.tmod_eq_emod_of_nonneg (by omega)]
    have h1 := Int.emod_lt_of_pos (-a) (b := n) (by omega)
    have h2 := Int.emod_nonneg (-a) (b := n) (by omega)
    omega
  · rw [Int.tmod_eq_emod_of_nonneg h]
    have h1 := Int.emod_lt_of_pos a (b := n) (by omega)
    have h2 := Int.emod_nonneg a (b := n) (by omega)
    omega
structure DiceOK (L : List Int) (d : D.Dice) : Prop where
  l : d.L = L
  lo : 0 ≤ d.At
  hi : d.At ≤ (L.length : Int)
variable {fu : Nat} {L : List Int}
theorem next_ok {d : D.Dice} {n : Int} (hL : L.length ≤ 500) (hd : DiceOK L d) (hn : n ≤ 1000000) :
    Ok (made_Dice_Next fu d n) fun r => DiceOK L r.2 ∧ 0 ≤ r.1 ∧ (1 ≤ n → r.1 < n) ∧ (n < 1 → r.1 = 0) := by
  unfold made_Dice_Next AM.join
  have h0 := hd.lo
  have h1 := hd.hi
  have hl : ((d.L.length : Nat) : Int) = (L.length : Int) := by rw [hd.l]
  refine Ok.ite (fun h => Ok.s ⟨hd, Int.le_refl _, fun h => by show (0 : Int) < n; omega, fun _ => rfl⟩) fun h2 => Ok.ite (fun h => Ok.s ⟨hd, Int.le_refl _, fun h => by show (0 : Int) < n; omega, fun _ => rfl⟩) fun h3 => ?_
  dsimp only
  refine Ok.at hd.lo (by omega) (Ok.nzc (by omega) ?_)
  have ht := tmod_within (a := nth d.L d.At.toNat) (n := n) (by omega)
  rw [wrap_p (x := d.At + 1) (by omega) (by omega)]
  refine Ok.ite (fun h4 => ?_) (fun h4 => ?_)
  · rw [wrap_p (by omega) (by omega)]
    exact Ok.s ⟨⟨hd.l, by show 0 ≤ d.At + 1; omega, by show d.At + 1 ≤ _; omega⟩, by dsimp only; omega, fun _ => by dsimp only; omega, fun h => by omega⟩
  · exact Ok.s ⟨⟨hd.l, by show 0 ≤ d.At + 1; omega, by show d.At + 1 ≤ _; omega⟩, by dsimp only; omega, fun _ => by dsimp only; omega, fun h => by omega⟩
theorem nx {d : D.Dice} {n : Int} (hL : L.length ≤ 500) (hd : DiceOK L d) (h1 : 1 ≤ n) (hn : n ≤ 1000000) :
    Ok (made_Dice_Next fu d n) fun r => DiceOK L r.2 ∧ 0 ≤ r.1 ∧ r.1 < n := (next_ok hL hd hn).mono fun r h => ⟨h.1, h.2.1, h.2.2.1 h1⟩
theorem one_ok {d : D.Dice} {l : List Int} (hL : L.length ≤ 500) (hd : DiceOK L d) (hl : 1 ≤ l.length) (hl2 : l.length ≤ 1000) :
    Ok (made_Dice_One fu d l) fun r => DiceOK L r.2 ∧ r.1 ∈ l := by
  unfold made_Dice_One
  refine Ok.opt (next_ok hL hd (by omega)) fun ⟨v, d1⟩ ⟨h1, h2, h3, _⟩ => ?_
  have h4 := h3 (by omega)
  dsimp only at h2 h4 ⊢
  exact Ok.at h2 h4 (Ok.s ⟨h1, nth_mem (by omega)⟩)
theorem override_ok {d : D.Dice} (hL : L.length ≤ 500) (hd : DiceOK L d) : Ok (made_Dice_Override fu d) fun r => DiceOK L r.2 ∧ EditOK r.1 := by
  unfold made_Dice_Override
  refine Ok.opt (one_ok hL hd (by simp) (by simp)) fun ⟨a0, d1⟩ ⟨h1, m1⟩ => ?_
  dsimp only at h1 m1 ⊢
  refine Ok.opt (nx hL h1 (by omega) (by omega)) fun ⟨a2, d2⟩ ⟨h2, l2, u2⟩ => ?_
  dsimp only at h2 l2 u2 ⊢
  refine Ok.opt (nx hL h2 (by omega) (by omega)) fun ⟨a4, d3⟩ ⟨h3, l3, u3⟩ => ?_
  dsimp only at h3 l3 u3 ⊢
  refine Ok.opt (one_ok hL h3 (by simp) (by simp)) fun ⟨a6, d4⟩ ⟨h4, m4⟩ => ?_
  dsimp only at h4 m4 ⊢
  simp only [List.mem_cons, List.not_mem_nil, or_false] at m1 m4
  rw [wrap_id (x := 864000 + a0) (by omega), wrap_id (x := 864000 + a0 + a6) (by omega)]
  refine Ok.j (Ok.ite (fun h => ?_) (fun h => Ok.ite (fun h' => ?_) (fun h' => ?_)))
  · refine Ok.opt (nx hL h4 (by omega) (by omega)) fun ⟨a7, d5⟩ ⟨h5, l5, u5⟩ => ?_
    dsimp only at h5 l5 u5 ⊢
    rw [wrap_id (x := a4 + 1) (by omega), wrap_id (x := a4 + 1 + a7) (by omega), Int.tmod_eq_emod_of_nonneg (by omega)]
    exact Ok.nzc (by omega) (Ok.s ⟨h5, ⟨by dsimp only; omega, .inl (by dsimp only; omega), fun _ => by dsimp only; omega, fun h => by dsimp only at h; omega, by dsimp only; omega⟩⟩)
  · refine Ok.opt (nx hL h4 (by omega) (by omega)) fun ⟨a7, d5⟩ ⟨h5, l5, u5⟩ => ?_
    dsimp only at h5 l5 u5 ⊢
    rw [wrap_id (x := a7 - 1) (by omega)]
    exact Ok.s ⟨h5, ⟨by dsimp only; omega, by dsimp only; omega, fun h => by dsimp only at h; omega, fun _ => rfl, by dsimp only; omega⟩⟩
  · exact Ok.s ⟨h4, ⟨by dsimp only; omega, .inl (by dsimp only; omega), fun h => by dsimp only at h; omega, fun _ => rfl, by dsimp only; omega⟩⟩
theorem take_snoc' {α : Type} [Inhabited α] {l : List α} {i : Nat} (h : i < l.length) : l.take i ++ [nth l i] = l.take (i + 1) := by
  rw [List.take_succ_eq_append_getElem h]
  simp [nth, List.getD_eq_getElem?_getD, List.getElem?_eq_getElem h]
theorem mem_snoc {α : Type} {P : α → Prop} {l : List α} {x : α} (h : ∀ y ∈ l, P y) (hx : P x) : ∀ y ∈ l ++ [x], P y := fun y hy => by
  rcases List.mem_append.1 hy with hy | hy
  · exact h y hy
  · rw [List.mem_singleton.1 hy]; exact hx
theorem crew_ok {d : D.Dice} (hL : L.length ≤ 500) (hd : DiceOK L d) (hf : 10 ≤ fu) : Ok (made_Dice_Crew fu d) fun r => DiceOK L r.2 ∧ CfgOK 2 r.1 := by
  unfold made_Dice_Crew
  refine Ok.opt (one_ok hL hd (by simp) (by simp)) fun ⟨a0, d1⟩ ⟨h1, m1⟩ => ?_
  dsimp only at h1 m1 ⊢
  simp only [List.mem_cons, List.not_mem_nil, or_false] at m1
  refine Ok.loop (fun m x => x.1.1 = crewNames ∧ 0 ≤ x.1.2.1 ∧ x.1.2.1 ≤ 4 ∧ DiceOK L x.2.1 ∧ x.2.2.2.1.1 = [⟨bZ, a0, []⟩] ∧ x.2.2.2.2.1.map (·.Name) = crewNames.take x.1.2.1.toNat ∧ (∀ p ∈ x.2.2.2.2.1, PersonOK p) ∧ (4 - x.1.2.1).toNat = m) (m := 4) (by omega)
    ⟨rfl, by dsimp only; omega, by dsimp only; omega, h1, rfl, rfl, by simp, rfl⟩ ?_
  rintro m ⟨⟨a3, a4, ⟨⟩⟩, a5, ⟨⟩, ⟨a6, ⟨⟩⟩, a7, ⟨⟩⟩ ⟨i1, i2, i3, i4, i5, i6, i7, i8⟩ k hk
  dsimp only at i1 i2 i3 i4 i5 i6 i7 i8 ⊢
  subst i1; subst i5
  refine Ok.ite (fun h4 => ?_) (fun h4 => ?_)
  · have hlen : crewNames.length = 4 := rfl
    have hal : a7.length = a4.toNat := by have := congrArg List.length i6; rw [List.length_map, List.length_take, hlen] at this; omega
    refine Ok.at (by omega) (by omega) ?_
    refine Ok.opt (nx hL i4 (by omega) (by omega)) fun ⟨a9, d2⟩ ⟨h2, _⟩ => ?_
    dsimp only at h2 ⊢
    refine Ok.join (fun y => y.1.1 = crewNames ∧ y.1.2.1 = a4 ∧ DiceOK L y.2.1 ∧ y.2.2.2.1.1 = [⟨bZ, a0, []⟩] ∧ y.2.2.2.2.1.Name = nth crewNames a4.toNat ∧ PersonOK y.2.2.2.2.1 ∧ y.2.2.2.2.2.1 = a7) (fun y hy => ?_) (fun J hJ => ?_)
    · obtain ⟨⟨a11, a12, ⟨⟩⟩, a13, ⟨⟩, ⟨a14, ⟨⟩⟩, a15, a16, ⟨⟩⟩ := y
      obtain ⟨g1, g2, g3, g4, g5, g6, g7⟩ := hy
      dsimp only at g1 g2 g3 g4 g5 g6 g7 ⊢
      subst g1; subst g2; subst g4; subst g7
      refine Ok.lec (by simp; omega) ?_
      rw [wrap_id (by omega)]
      refine hk (4 - (a12 + 1)).toNat _ (by omega) ⟨rfl, by dsimp only; omega, by dsimp only; omega, g3, rfl, ?_, mem_snoc i7 g6, rfl⟩
      dsimp only
      rw [List.map_append, i6, List.map_cons, List.map_nil, g5, take_snoc' (by rw [hlen]; omega), show (a12 + 1).toNat = a12.toNat + 1 by omega]
    · refine Ok.opt (nx hL h2 (by omega) (by omega)) fun ⟨a18, d3⟩ ⟨h3, _⟩ => ?_
      dsimp only at h3 ⊢
      refine Ok.ite (fun h5 => ?_) (fun h5 => hJ _ ⟨rfl, rfl, h3, rfl, rfl, ⟨rfl, ⟨rfl, rfl⟩, .inl rfl⟩, rfl⟩)
      refine Ok.opt (one_ok hL h3 (by simp) (by simp)) fun ⟨a20, d4⟩ ⟨h6, m6⟩ => ?_
      dsimp only at h6 m6 ⊢
      refine Ok.opt (one_ok hL h6 (by simp) (by simp)) fun ⟨a22, d5⟩ ⟨h7, m7⟩ => ?_
      dsimp only at h7 m7 ⊢
      simp only [List.mem_cons, List.not_mem_nil, or_false] at m6 m7
      exact hJ _ ⟨rfl, rfl, h7, rfl, rfl, ⟨rfl, ⟨rfl, rfl⟩, .inr ⟨a20, a22, rfl, m6, m7⟩⟩, rfl⟩
  · have e4 : a4 = 4 := by omega
    subst e4
    refine Ok.loop (fun m x => 0 ≤ x.1.1 ∧ x.1.1 ≤ 2 ∧ DiceOK L x.2.1 ∧ x.2.2.2.1.1 = [⟨bZ, a0, []⟩] ∧ x.2.2.2.2.1 = a7 ∧ x.2.2.2.2.2.1.map (·.Name) = schNames.take x.1.1.toNat ∧ (∀ s ∈ x.2.2.2.2.2.1, SchedOK 2 s) ∧ (2 - x.1.1).toNat = m) (m := 2) (by omega)
      ⟨by dsimp only; omega, by dsimp only; omega, i4, rfl, rfl, rfl, by simp, rfl⟩ ?_
    rintro m2 ⟨⟨a25, ⟨⟩⟩, a26, ⟨⟩, ⟨a27, ⟨⟩⟩, a28, a29, ⟨⟩⟩ ⟨j1, j2, j3, j4, j5, j6, j7, j8⟩ k2 hk2
    dsimp only at j1 j2 j3 j4 j5 j6 j7 j8 ⊢
    subst j4; subst j5
    refine Ok.ite (fun h5 => ?_) (fun h5 => ?_)
    · have hlen : schNames.length = 2 := rfl
      have hal : a29.length = a25.toNat := by have := congrArg List.length j6; rw [List.length_map, List.length_take, hlen] at this; omega
      refine Ok.opt (one_ok hL j3 (by simp) (by simp)) fun ⟨a30, d2⟩ ⟨h2, m2⟩ => ?_
      dsimp only at h2 m2 ⊢
      refine Ok.opt (one_ok hL h2 (by simp) (by simp)) fun ⟨a32, d3⟩ ⟨h3, m3⟩ => ?_
      dsimp only at h3 m3 ⊢
      refine Ok.opt (one_ok hL h3 (by simp) (by simp)) fun ⟨a34, d4⟩ ⟨h4', m4⟩ => ?_
      dsimp only at h4' m4 ⊢
      refine Ok.opt (nx hL h4' (by omega) (by omega)) fun ⟨a36, d5⟩ ⟨h6, l6, u6⟩ => ?_
      dsimp only at h6 l6 u6 ⊢
      refine Ok.opt (nx hL h6 (by omega) (by omega)) fun ⟨a38, d6⟩ ⟨h7, l7, u7⟩ => ?_
      dsimp only at h7 l7 u7 ⊢
      simp only [List.mem_cons, List.not_mem_nil, or_false] at m2 m3 m4
      rw [wrap_id (x := 1 + a36) (by omega), wrap_id (x := 1 + a38) (by omega)]
      refine Ok.loop (fun m x => x.1.1 = a25 ∧ 0 ≤ x.1.2.1 ∧ DiceOK L x.2.1 ∧ x.2.2.2.1.1 = [⟨bZ, a0, []⟩] ∧ x.2.2.2.2.1 = (ByteArray.mk #[108], 0, a30, a32, a34, 1 + a36, 0, 0, ()) ∧ x.2.2.2.2.2.1 = a28 ∧ x.2.2.2.2.2.2.1 = a29 ∧
        (∀ z ∈ x.2.2.2.2.2.2.2.1, 0 ≤ z ∧ z < 4) ∧ x.1.2.1 + (x.2.2.2.2.2.2.2.1.length : Int) = 1 + a38 ∧ x.1.2.1.toNat = m) (m := (1 + a38).toNat) (by omega) ⟨rfl, by dsimp only; omega, h7, rfl, rfl, rfl, rfl, by simp, by dsimp only; simp, rfl⟩ ?_
      rintro m3' ⟨⟨a41, a42, ⟨⟩⟩, a43, ⟨⟩, ⟨a44, ⟨⟩⟩, ⟨a45, a46, a47, a48, a49, a50, a51, a52, ⟨⟩⟩, a53, a54, a55, ⟨⟩⟩ ⟨n1, n2, n3, n4, n5, n6, n7, n8, n9, n10⟩ k3 hk3
      dsimp only at n1 n2 n3 n4 n5 n6 n7 n8 n9 n10 ⊢
      cases n5; subst n1; subst n4; subst n6; subst n7
      refine Ok.ite (fun h8 => ?_) (fun h8 => ?_)
      · refine Ok.opt (nx hL n3 (by omega) (by omega)) fun ⟨a56, d7⟩ ⟨h9, l9, u9⟩ => ?_
        dsimp only at h9 l9 u9 ⊢
        refine Ok.lec (by simp; omega) ?_
        rw [wrap_id (by omega)]
        exact hk3 (a42 - 1).toNat _ (by omega) ⟨rfl, by dsimp only; omega, h9, rfl, rfl, rfl, rfl, mem_snoc n8 ⟨l9, u9⟩, by dsimp only; rw [List.length_append]; simp only [List.length_cons, List.length_nil]; omega, rfl⟩
      · refine Ok.at (by omega) (by simp only [List.length_cons, List.length_nil]; omega) ?_
        refine Ok.opt (nx hL n3 (by omega) (by omega)) fun ⟨a59, d7⟩ ⟨h9, l9, u9⟩ => ?_
        dsimp only at h9 l9 u9 ⊢
        refine Ok.loop (fun m x => x.1.1 = a41 ∧ 0 ≤ x.1.2.1 ∧ DiceOK L x.2.1 ∧ x.2.2.2.1.1 = [⟨bZ, a0, []⟩] ∧ x.2.2.2.2.1 = (nth schNames a41.toNat, [(⟨ByteArray.mk #[108], 0, ⟨a30, a32⟩, a34, 1 + a36, a55, [], 0, 0⟩ : D.Layer)], ()) ∧ x.2.2.2.2.2.1 = a53 ∧ x.2.2.2.2.2.2.1 = a54 ∧
          (∀ z ∈ x.2.2.2.2.2.2.2.1, EditOK z) ∧ x.1.2.1 + (x.2.2.2.2.2.2.2.1.length : Int) = a59 ∧ x.1.2.1.toNat = m) (m := a59.toNat) (by omega) ⟨rfl, by dsimp only; omega, h9, rfl, rfl, rfl, rfl, by simp, by dsimp only; simp, rfl⟩ ?_
        rintro m4' ⟨⟨a62, a63, ⟨⟩⟩, a64, ⟨⟩, ⟨a65, ⟨⟩⟩, ⟨a66, a67, ⟨⟩⟩, a68, a69, a70, ⟨⟩⟩ ⟨p1, p2, p3, p4, p5, p6, p7, p8, p9, p10⟩ k4 hk4
        dsimp only at p1 p2 p3 p4 p5 p6 p7 p8 p9 p10 ⊢
        cases p5; subst p1; subst p4; subst p6; subst p7
        refine Ok.ite (fun h10 => ?_) (fun h10 => ?_)
        · refine Ok.opt (override_ok hL p3) fun ⟨a71, d8⟩ ⟨h11, e11⟩ => ?_
          dsimp only at h11 e11 ⊢
          refine Ok.lec (by simp; omega) ?_
          rw [wrap_id (by omega)]
          exact hk4 (a63 - 1).toNat _ (by omega) ⟨rfl, by dsimp only; omega, h11, rfl, rfl, rfl, rfl, mem_snoc p8 e11, by dsimp only; rw [List.length_append]; simp only [List.length_cons, List.length_nil]; omega, rfl⟩
        · refine Ok.lec (by simp; omega) ?_
          rw [wrap_id (by omega)]
          refine hk2 (2 - (a62 + 1)).toNat _ (by omega) ⟨by dsimp only; omega, by dsimp only; omega, p3, rfl, rfl, ?_, mem_snoc j7 ⟨⟨_, rfl, ⟨rfl, rfl, m2, by dsimp only; omega, by dsimp only; omega, by dsimp only; omega, by dsimp only; omega, n8, rfl, ⟨rfl, rfl⟩⟩⟩, by dsimp only; omega, p8⟩, rfl⟩
          dsimp only
          rw [List.map_append, j6, List.map_cons, List.map_nil, take_snoc' (by rw [hlen]; omega), show (a62 + 1).toNat = a62.toNat + 1 by omega]
    · have e2 : a25 = 2 := by omega
      subst e2
      exact Ok.s ⟨j3, ⟨⟨a0, rfl, m1⟩, i6, i7, rfl, j6, j7⟩⟩
theorem target_ok {d : D.Dice} {b : D.Book} (hL : L.length ≤ 500) (hd : DiceOK L d) (hb : b.Teams.length ≤ 100) :
    Ok (made_Dice_Target_1c0c1 fu d b) fun r => DiceOK L r.2 ∧ TargetOK b.Teams.length r.1 := by
  unfold made_Dice_Target_1c0c1
  refine Ok.opt (nx hL hd (by omega) (by omega)) fun ⟨v, d1⟩ ⟨h1, h2, h4⟩ => ?_
  dsimp only at h1 h2 h4 ⊢
  refine Ok.join (fun y => 0 ≤ y.1.1 ∧ y.1.1 < 3 ∧ (y.1.1 = 2 → 1 ≤ b.Teams.length) ∧ DiceOK L y.2.1 ∧ y.2.2.2.2.1 = b.Teams ∧ y.2.2.2.2.2.1 = b.Policies) (fun y hy => ?_) (fun J hJ => ?_)
  · obtain ⟨⟨a2, ⟨⟩⟩, d2, ⟨⟩, tg, ts, ps, ⟨⟩⟩ := y
    obtain ⟨g1, g2, g0, g3, g4, g5⟩ := hy
    dsimp only at g1 g2 g0 g3 g4 g5 ⊢
    subst g4; subst g5
    refine Ok.at g1 (by simp; omega) ?_
    have h3 : a2 = 0 ∨ a2 = 1 ∨ a2 = 2 := by omega
    have e : nth [4, 2, ((b.Teams.length : Nat) : Int)] a2.toNat = if a2 = 0 then 4 else if a2 = 1 then 2 else ((b.Teams.length : Nat) : Int) := by rcases h3 with h3 | h3 | h3 <;> subst h3 <;> rfl
    rw [e]
    refine Ok.opt (nx hL g3 (by (repeat' split) <;> omega) (by (repeat' split) <;> omega)) fun ⟨v2, d3⟩ ⟨k1, k2, k3⟩ => ?_
    dsimp only at k1 k2 k3 ⊢
    refine Ok.sameC (Ok.sameC (Ok.s ⟨k1, ⟨h3, k2, fun h => ?_, fun h => ?_, fun h => ?_⟩⟩)) <;> dsimp only at h ⊢ <;> subst h <;> simpa using k3
  · refine Ok.ite (fun h5 => Ok.ite (fun h6 => hJ _ ⟨by dsimp only; omega, by dsimp only; omega, fun h => by dsimp only at h; omega, h1, rfl, rfl⟩) (fun h6 => hJ _ ⟨h2, h4, fun h => by omega, h1, rfl, rfl⟩)) (fun h5 => hJ _ ⟨h2, h4, fun h => absurd h h5, h1, rfl, rfl⟩)
theorem book_ok {d : D.Dice} (hL : L.length ≤ 500) (hd : DiceOK L d) (hf : 10 ≤ fu) :
    Ok (made_Dice_Book fu d) fun r => DiceOK L r.2 ∧ BookOK r.1 := by
  unfold made_Dice_Book
  refine Ok.opt (nx hL hd (by omega) (by omega)) fun ⟨v, d1⟩ ⟨h1, h2, h4⟩ => ?_
  dsimp only at h1 h2 h4 ⊢
  refine Ok.loop (fun m x => DiceOK L x.2.1 ∧ 0 ≤ x.1.1 ∧ x.1.1 + (x.2.2.2.2.1.length : Int) ≤ 2 ∧ x.2.2.2.2.1.map (·.Name) = bTeams.take x.2.2.2.2.1.length ∧ (∀ t ∈ x.2.2.2.2.1, TeamOK t) ∧ x.1.1.toNat = m) (m := v.toNat) (by omega) ⟨h1, h2, by dsimp only; simp; omega, rfl, by simp, rfl⟩ ?_
  rintro m ⟨⟨a3, ⟨⟩⟩, d2, ⟨⟩, ⟨⟩, ts, ⟨⟩⟩ ⟨i1, i2, i3, i5, i6, i4⟩ k hk
  dsimp only at i1 i2 i3 i5 i6 i4 ⊢
  refine Ok.ite (fun h5 => ?_) (fun h5 => ?_)
  · refine Ok.at (by omega) (by simp only [List.length_cons, List.length_nil]; omega) ?_
    refine Ok.opt (nx hL i1 (by omega) (by omega)) fun ⟨v2, d3⟩ ⟨j1, j2, j3⟩ => ?_
    dsimp only at j1 j2 j3 ⊢
    refine Ok.join (fun y => DiceOK L y.2.1 ∧ y.1.1 = a3 ∧ y.2.2.2.2.2.1 = ts ∧ y.2.2.2.2.1.Name = nth bTeams ts.length ∧ TeamOK y.2.2.2.2.1) (fun y hy => ?_) (fun J hJ => ?_)
    · obtain ⟨⟨a9, ⟨⟩⟩, d4, ⟨⟩, ⟨⟩, tm, ts2, ⟨⟩⟩ := y
      obtain ⟨q1, q2, q3, q4, q5⟩ := hy
      dsimp only at q1 q2 q3 q4 q5 ⊢
      subst q2; subst q3
      refine Ok.lec (by simp; omega) ?_
      rw [wrap_p (by omega) (by omega)]
      refine hk (a9 - 1).toNat _ (by omega) ⟨q1, by dsimp only; omega, by dsimp only; rw [List.length_append]; simp only [List.length_cons, List.length_nil]; omega, ?_, mem_snoc i6 q5, rfl⟩
      dsimp only
      rw [List.map_append, i5, List.map_cons, List.map_nil, q4, take_snoc' (by show _ < 2; omega), List.length_append]; rfl
    · refine Ok.opt (nx hL j1 (by omega) (by omega)) fun ⟨v3, d4⟩ ⟨k1, _⟩ => ?_
      dsimp only at k1 ⊢
      refine Ok.ite (fun _ => ?_) (fun _ => hJ _ ⟨k1, rfl, rfl, rfl, ⟨by simp [Asc], by simp, by simp; omega⟩⟩)
      refine Ok.opt (nx hL k1 (by omega) (by omega)) fun ⟨v4, d5⟩ ⟨l1, l2, l3⟩ => ?_
      dsimp only at l1 l2 l3 ⊢
      rw [wrap_id (by omega)]
      exact Ok.lec (by simp) (hJ _ ⟨l1, rfl, rfl, rfl, ⟨by simp [Asc]; omega, by simp, by simp; omega⟩⟩)
  · refine Ok.opt (nx hL i1 (by omega) (by omega)) fun ⟨v2, d3⟩ ⟨j1, j2, j4⟩ => ?_
    dsimp only at j1 j2 j4 ⊢
    rw [wrap_p (by omega) (by omega)]
    refine Ok.loop (fun m x => DiceOK L x.2.1 ∧ 0 ≤ x.1.1 ∧ x.2.2.2.2.1 = ts ∧ x.1.1 + (x.2.2.2.2.2.1.length : Int) = 1 + v2 ∧ x.2.2.2.2.2.1.map (·.Name) = bPols.take x.2.2.2.2.2.1.length ∧ (∀ p ∈ x.2.2.2.2.2.1, PolOK ts.length p) ∧ x.1.1.toNat = m) (m := (1 + v2).toNat) (by omega) ⟨j1, by dsimp only; omega, rfl, by dsimp only; simp, rfl, by simp, rfl⟩ ?_
    rintro m ⟨⟨a21, ⟨⟩⟩, d4, ⟨⟩, ⟨⟩, ts2, ps, ⟨⟩⟩ ⟨n1, n2, n3, n4, n6, n7, n5⟩ k2 hk2
    dsimp only at n1 n2 n3 n4 n5 n6 n7 ⊢
    subst n3
    refine Ok.ite (fun h6 => ?_) (fun h6 => Ok.s ⟨n1, ⟨by dsimp only; omega, i5, i6, by dsimp only; omega, n6, n7⟩⟩)
    refine Ok.at (by omega) (by simp only [List.length_cons, List.length_nil]; omega) ?_
    refine Ok.opt (one_ok hL n1 (by simp) (by simp)) fun ⟨v3, d5⟩ ⟨o1, r1⟩ => ?_
    dsimp only at o1 r1 ⊢
    refine Ok.opt (nx hL o1 (by omega) (by omega)) fun ⟨v4, d6⟩ ⟨o2, o3, o5⟩ => ?_
    dsimp only at o2 o3 o5 ⊢
    simp only [List.mem_cons, List.not_mem_nil, or_false] at r1
    rw [wrap_p (x := 1 + v4) (by omega) (by omega)]
    refine Ok.loop (fun m x => DiceOK L x.2.1 ∧ x.1.1 = a21 ∧ 0 ≤ x.1.2.1 ∧ x.2.2.2.2.1 = (nth bPols ps.length, v3, ()) ∧ x.2.2.2.2.2.1 = ts2 ∧ x.2.2.2.2.2.2.1 = ps ∧ x.1.2.1 + (x.2.2.2.2.2.2.2.1.length : Int) = 1 + v4 ∧ (∀ s ∈ x.2.2.2.2.2.2.2.1, StepOK' ts2.length s) ∧ x.1.2.1.toNat = m) (m := (1 + v4).toNat) (by omega) ⟨o2, rfl, by dsimp only; omega, rfl, rfl, rfl, by dsimp only; simp, by simp, rfl⟩ ?_
    rintro m3 ⟨⟨a31, a32, ⟨⟩⟩, d7, ⟨⟩, ⟨⟩, ⟨nm, rp, ⟨⟩⟩, ts3, ps3, ss, ⟨⟩⟩ ⟨p1, p2, p3, p0, p4, p5, p6, p8, p7⟩ k3 hk3
    dsimp only at p1 p2 p3 p0 p4 p5 p6 p7 p8 ⊢
    cases p0
    subst p2; subst p4; subst p5
    refine Ok.ite (fun h7 => ?_) (fun h7 => ?_)
    · refine Ok.opt (one_ok hL p1 (by simp) (by simp)) fun ⟨v5, d8⟩ ⟨s1, s2⟩ => ?_
      dsimp only at s1 s2 ⊢
      refine Ok.opt (nx hL s1 (by omega) (by omega)) fun ⟨v6, d9⟩ ⟨r2, _⟩ => ?_
      dsimp only at r2 ⊢
      refine Ok.opt (nx hL r2 (by omega) (by omega)) fun ⟨v7, d10⟩ ⟨r3, r4, r6⟩ => ?_
      dsimp only at r3 r4 r6 ⊢
      simp only [List.mem_cons, List.not_mem_nil, or_false] at s2
      refine Ok.loop (fun m x => DiceOK L x.2.1 ∧ x.1.1 = a31 ∧ x.1.2.1 = a32 ∧ 0 ≤ x.1.2.2.1 ∧ x.2.2.2.2.1 = (nth bPols ps3.length, v3, ()) ∧ x.2.2.2.2.2.1 = (v5, decide (v6 = 0), ()) ∧ x.2.2.2.2.2.2.1 = ts3 ∧ x.2.2.2.2.2.2.2.1 = ps3 ∧ x.2.2.2.2.2.2.2.2.1 = ss ∧ x.1.2.2.1 + (x.2.2.2.2.2.2.2.2.2.1.length : Int) ≤ 2 ∧ (∀ t ∈ x.2.2.2.2.2.2.2.2.2.1, TargetOK ts3.length t) ∧ x.1.2.2.1.toNat = m) (m := v7.toNat) (by omega) ⟨r3, rfl, rfl, by dsimp only; omega, rfl, rfl, rfl, rfl, rfl, by dsimp only; simp; omega, by simp, rfl⟩ ?_
      rintro m4 ⟨⟨a46, a47, a48, ⟨⟩⟩, d11, ⟨⟩, ⟨⟩, ⟨nm2, rp2, ⟨⟩⟩, ⟨wt, ur, ⟨⟩⟩, ts4, ps4, ss4, tg, ⟨⟩⟩ ⟨u1, u2, u3, u4, w1, w2, u5, u6, u7, u8, w3, u9⟩ k4 hk4
      dsimp only at u1 u2 u3 u4 u5 u6 u7 u8 u9 w1 w2 w3 ⊢
      cases w1; cases w2
      subst u2; subst u3; subst u5; subst u6; subst u7
      refine Ok.ite (fun h8 => ?_) (fun h8 => ?_)
      · refine Ok.opt (target_ok hL u1 (by dsimp only; omega)) fun ⟨v8, d12⟩ ⟨x1, x2⟩ => ?_
        dsimp only at x1 x2 ⊢
        refine Ok.lec (by simp; omega) ?_
        rw [wrap_p (by omega) (by omega)]
        exact hk4 (a48 - 1).toNat _ (by omega) ⟨x1, rfl, rfl, by dsimp only; omega, rfl, rfl, rfl, rfl, rfl, by dsimp only; rw [List.length_append]; simp only [List.length_cons, List.length_nil]; omega, mem_snoc w3 x2, rfl⟩
      · refine Ok.lec (by simp; omega) ?_
        rw [wrap_p (by omega) (by omega)]
        exact hk3 (a47 - 1).toNat _ (by omega) ⟨u1, rfl, by dsimp only; omega, rfl, rfl, rfl, by dsimp only; rw [List.length_append]; simp only [List.length_cons, List.length_nil]; omega, mem_snoc p8 ⟨by dsimp only; omega, by dsimp only; omega, w3⟩, rfl⟩
    · refine Ok.lec (by simp; omega) ?_
      rw [wrap_p (by omega) (by omega)]
      refine hk2 (a31 - 1).toNat _ (by omega) ⟨p1, by dsimp only; omega, rfl, by dsimp only; rw [List.length_append]; simp only [List.length_cons, List.length_nil]; omega, ?_, mem_snoc n7 ⟨by dsimp only; omega, by dsimp only; omega, p8⟩, rfl⟩
      dsimp only
      rw [List.map_append, n6, List.map_cons, List.map_nil, take_snoc' (by show _ < 3; omega), List.length_append]; rfl
end Go.Proofs.YtfhcigjkfelnfaaGreat
/-
  Crews are right: what the checks of configurations say of them (the program's and the reference's).
-/
set_option maxRecDepth 100000
set_option linter.unusedVariables false
set_option linter.unusedSimpArgs false
namespace Go.Proofs.YtfhcigjkfelnfaaGreat
open Go AM
theorem wrap_succ {i : Nat} (h : i < 1000000000) : IntKind.wrap .i64 ((i : Int) + 1) = ((i + 1 : Nat) : Int) := by rw [wrap_id (by omega)]; omega
theorem forall4 {P : Nat → Prop} (h0 : P 0) (h1 : P 1) (h2 : P 2) (h3 : P 3) : ∀ i, i < 4 → P i := fun i hi => by
  rcases (show i = 0 ∨ i = 1 ∨ i = 2 ∨ i = 3 by omega) with rfl | rfl | rfl | rfl <;> assumption
theorem forall2 {P : Nat → Prop} (h0 : P 0) (h1 : P 1) : ∀ i, i < 2 → P i := fun i hi => by
  rcases (show i = 0 ∨ i = 1 by omega) with rfl | rfl <;> assumption
theorem nth_map' {α β : Type} [Inhabited α] [Inhabited β] {f : α → β} {l : List α} {m : List β} (h : l.map f = m) {i : Nat} (hi : i < l.length) : f (nth l i) = nth m i := by
  subst h
  simp [nth, List.getD_eq_getElem?_getD, List.getElem?_eq_getElem hi]
theorem CfgOK.pnm {n : Nat} {c : D.Config} (h : CfgOK n c) {i : Nat} (hi : i < 4) : (nth c.People i).Name = nth crewNames i := nth_map' h.pname (by rw [h.plen]; exact hi)
theorem CfgOK.snm {n : Nat} {c : D.Config} (h : CfgOK n c) {i : Nat} (hi : i < 2) : (nth c.Schedules i).Name = nth schNames i := nth_map' h.sname (by rw [h.slen]; exact hi)
theorem CfgOK.per {n : Nat} {c : D.Config} (h : CfgOK n c) {i : Nat} (hi : i < 4) : PersonOK (nth c.People i) := h.person _ (nth_mem (by rw [h.plen]; exact hi))
theorem CfgOK.sch {n : Nat} {c : D.Config} (h : CfgOK n c) {i : Nat} (hi : i < 2) : SchedOK n (nth c.Schedules i) := h.sched _ (nth_mem (by rw [h.slen]; exact hi))
theorem r8In {fu : Nat} {n lo hi : Int} : r08_in fu n lo hi = some (decide (lo ≤ n ∧ n ≤ hi)) := cnd2
theorem week5_ok {p : D.Person} (h : PersonOK p) : r05_Check 1000 p.Quiet = some 0 := by
  rcases h.quiet with h | ⟨a, b, h, ha, hb⟩
  · rw [h]; kernel_rfl
  · rw [h]
    rcases ha with rfl | rfl <;> rcases hb with rfl | rfl | rfl <;> kernel_rfl
theorem hours8 : r08_hours 1000 0 = some true := by kernel_rfl
variable {n : Nat} {c : D.Config}
theorem maxDay : r01_MaxDay 1000 = some 98980 := by kernel_rfl
theorem EditOK.day {x : D.Edit} (h : EditOK x) : Int.tdiv x.To 86400 = 10 := by
  have := h.time
  rw [Int.tdiv_eq_ediv_of_nonneg (by omega)]; omega
theorem edit8_ok {x : D.Edit} (h : CfgOK n c) (hx : EditOK x) : r08_edit 1000 c x = some 0 := by
  refine Ok.eq ?_
  have h1 := hx.kind; have h2 := hx.a; have h3 := hx.b; have h4 := hx.b0; have h5 := hx.time
  unfold r08_edit
  rw [hx.day, h.plen, wrap_id (x := 10) (by omega), show IntKind.wrap .i64 (((4 : Nat) : Int) - 1) = 3 from rfl]
  rcases (show x.Kind = 0 ∨ x.Kind = 1 ∨ x.Kind = 2 by omega) with hk | hk | hk
  · (repeat (first | with_reducible refine Ok.j ?_ | with_reducible refine Ok.t ?_ | with_reducible refine Ok.f ?_ | with_reducible refine Ok.nt rfl ?_ | with_reducible refine Ok.nf rfl ?_ | with_reducible refine Ok.oe (r8In) ?_ | with_reducible refine Ok.oe (maxDay) ?_ | (with_reducible refine Ok.p ?hh ?_; case hh => (first | omega | decide | assumption | (dsimp only; omega) | (simp; done))) | (with_reducible refine Ok.n ?hh ?_; case hh => (first | omega | decide | assumption | (dsimp only; omega) | (simp; done))) | (with_reducible refine Ok.np ?hh ?_; case hh => (first | omega | decide | assumption | (dsimp only; omega) | (simp; done))) | (with_reducible refine Ok.nn ?hh ?_; case hh => (first | omega | decide | assumption | (dsimp only; omega) | (simp; done))) | (with_reducible refine Ok.nzc ?hh ?_; case hh => first | omega | decide) | with_reducible refine Ok.sameC ?_ | with_reducible refine Ok.os ?_))
    exact Ok.s rfl
  · rcases h2 with h2 | h2
    · (repeat (first | with_reducible refine Ok.j ?_ | with_reducible refine Ok.t ?_ | with_reducible refine Ok.f ?_ | with_reducible refine Ok.nt rfl ?_ | with_reducible refine Ok.nf rfl ?_ | with_reducible refine Ok.oe (r8In) ?_ | with_reducible refine Ok.oe (maxDay) ?_ | (with_reducible refine Ok.p ?hh ?_; case hh => (first | omega | decide | assumption | (dsimp only; omega) | (simp; done))) | (with_reducible refine Ok.n ?hh ?_; case hh => (first | omega | decide | assumption | (dsimp only; omega) | (simp; done))) | (with_reducible refine Ok.np ?hh ?_; case hh => (first | omega | decide | assumption | (dsimp only; omega) | (simp; done))) | (with_reducible refine Ok.nn ?hh ?_; case hh => (first | omega | decide | assumption | (dsimp only; omega) | (simp; done))) | (with_reducible refine Ok.nzc ?hh ?_; case hh => first | omega | decide) | with_reducible refine Ok.sameC ?_ | with_reducible refine Ok.os ?_))
      exact Ok.s rfl
    · (repeat (first | with_reducible refine Ok.j ?_ | with_reducible refine Ok.t ?_ | with_reducible refine Ok.f ?_ | with_reducible refine Ok.nt rfl ?_ | with_reducible refine Ok.nf rfl ?_ | with_reducible refine Ok.oe (r8In) ?_ | with_reducible refine Ok.oe (maxDay) ?_ | (with_reducible refine Ok.p ?hh ?_; case hh => (first | omega | decide | assumption | (dsimp only; omega) | (simp; done))) | (with_reducible refine Ok.n ?hh ?_; case hh => (first | omega | decide | assumption | (dsimp only; omega) | (simp; done))) | (with_reducible refine Ok.np ?hh ?_; case hh => (first | omega | decide | assumption | (dsimp only; omega) | (simp; done))) | (with_reducible refine Ok.nn ?hh ?_; case hh => (first | omega | decide | assumption | (dsimp only; omega) | (simp; done))) | (with_reducible refine Ok.nzc ?hh ?_; case hh => first | omega | decide) | with_reducible refine Ok.sameC ?_ | with_reducible refine Ok.os ?_))
      exact Ok.s rfl
  · (repeat (first | with_reducible refine Ok.j ?_ | with_reducible refine Ok.t ?_ | with_reducible refine Ok.f ?_ | with_reducible refine Ok.nt rfl ?_ | with_reducible refine Ok.nf rfl ?_ | with_reducible refine Ok.oe (r8In) ?_ | with_reducible refine Ok.oe (maxDay) ?_ | (with_reducible refine Ok.p ?hh ?_; case hh => (first | omega | decide | assumption | (dsimp only; omega) | (simp; done))) | (with_reducible refine Ok.n ?hh ?_; case hh => (first | omega | decide | assumption | (dsimp only; omega) | (simp; done))) | (with_reducible refine Ok.np ?hh ?_; case hh => (first | omega | decide | assumption | (dsimp only; omega) | (simp; done))) | (with_reducible refine Ok.nn ?hh ?_; case hh => (first | omega | decide | assumption | (dsimp only; omega) | (simp; done))) | (with_reducible refine Ok.nzc ?hh ?_; case hh => first | omega | decide) | with_reducible refine Ok.sameC ?_ | with_reducible refine Ok.os ?_))
    exact Ok.s rfl
theorem wins5 : r05_Check 1000 [] = some 0 := by kernel_rfl
theorem crew_nobody : ∀ i, i < 4 → ¬ nth crewNames i = ByteArray.mk (List.toArray (110 :: (111 :: (98 :: (111 :: (100 :: (121 :: []))))))) := by decide
theorem person8_ok {p : D.Person} (hp : PersonOK p) : r08_in 1000 p.Zone 0 (IntKind.wrap .i64 (((1 : Nat) : Int) - 1)) = some true ∧ r05_Check 1000 p.Quiet = some 0 ∧ r08_hours 1000 p.MaxWeek = some true ∧ r08_hours 1000 p.MinRest = some true := by
  rw [hp.zone, hp.max.1, hp.max.2]
  exact ⟨by kernel_rfl, week5_ok hp, hours8, hours8⟩
theorem name8_crew : ∀ i, i < 4 → r08_name_0 1000 (crewNames.take i ++ [nth crewNames i]) (i : Int) = some 0 := forall4 (by kernel_rfl) (by kernel_rfl) (by kernel_rfl) (by kernel_rfl)
theorem name8_sch : ∀ i, i < 2 → r08_name_0 1000 (schNames.take i ++ [nth schNames i]) (i : Int) = some 0 := forall2 (by kernel_rfl) (by kernel_rfl)
theorem name8_l : r08_name_0 1000 ([] ++ [ByteArray.mk #[108]]) ((0 : Nat) : Int) = some 0 := by kernel_rfl
theorem zones8_ok (h : CfgOK n c) : r08_zones 1000 c = some 0 := by
  obtain ⟨h1, h2⟩ := h.zones
  refine Ok.eq ?_
  unfold r08_zones
  have hz : r04_Check 1000 (⟨bZ, offOf c, []⟩ : D.Zone) = some 0 ∧ r08_minutes 1000 (⟨bZ, offOf c, []⟩ : D.Zone) = some true ∧ r08_name_0 1000 ([] ++ [bZ]) ((0 : Nat) : Int) = some 0 := by
    rcases h2 with h2 | h2 | h2 <;> rw [h2] <;> exact ⟨by kernel_rfl, by kernel_rfl, by kernel_rfl⟩
  refine Ok.run 1 (fun i => (((i : Int), ()), c, [bZ].take i, ())) rfl (by omega) (fun i hi k hk => ?_) (fun k => ?_)
  · obtain rfl : i = 0 := by omega
    dsimp only
    rw [h1]
    refine Ok.p (by simp) (Ok.j (Ok.atn (by simp) (Ok.lec (by simp) ?_)))
    refine Ok.oe hz.2.2 (Ok.n (by decide) (Ok.atn (by simp) (Ok.oe hz.1 (Ok.n (by decide) (Ok.atn (by simp) (Ok.oe hz.2.1 ?_))))))
    exact hk
  · dsimp only
    rw [h1]
    exact Ok.n (by simp) (Ok.s rfl)
theorem people8_ok (h : CfgOK n c) : r08_people 1000 c = some 0 := by
  have hp := h.plen
  refine Ok.eq ?_
  unfold r08_people
  refine Ok.run 4 (fun i => (((i : Int), ()), c, crewNames.take i, ())) rfl (by omega) (fun i hi k hk => ?_) (fun k => ?_)
  · dsimp only
    obtain ⟨g1, g2, g3, g4⟩ := person8_ok (h.per hi)
    refine Ok.p (by omega) (Ok.j (Ok.atn (by omega) (Ok.lec (by simp; omega) ?_)))
    rw [h.pnm hi, h.zones.1]
    refine Ok.n (crew_nobody i hi) (Ok.oe (name8_crew i hi) (Ok.n (by decide) (Ok.oe g1 ?_)))
    refine Ok.nt rfl (Ok.oe g2 (Ok.n (by decide) (Ok.oe g3 (Ok.t (Ok.oe g4 (Ok.t ?_))))))
    dsimp only
    rw [wrap_succ (by omega), take_snoc' (show i < crewNames.length from hi)]; exact hk
  · dsimp only
    exact Ok.n (by omega) (Ok.s rfl)
theorem cals8_ok (h : CfgOK n c) : r08_calendars 1000 c = some 0 := by
  refine Ok.eq ?_
  unfold r08_calendars
  refine Ok.run 0 (fun i => ((0, ()), c, [], ())) rfl (by omega) (fun i hi => absurd hi (by omega)) (fun k => ?_)
  dsimp only
  rw [h.cal]
  exact Ok.n (by decide) (Ok.s rfl)
theorem layer8_ok {l : D.Layer} (h : CfgOK n c) (hl : LayerOK l) : r08_layer 1000 c l = some 0 := by
  refine Ok.eq ?_
  unfold r08_layer
  have h1 := hl.day; have h2 := hl.second; have h3 := hl.unit; have h4 := hl.every; have h5 := hl.len
  have hp := h.plen
  rw [hl.zone, h.zones.1, wrap_id (x := (([(⟨bZ, offOf c, []⟩ : D.Zone)].length : Nat) : Int) - 1) (by simp)]
  refine Ok.j (Ok.oe r8In (Ok.np (by simp) ?_))
  (repeat (first | with_reducible refine Ok.j ?_ | with_reducible refine Ok.t ?_ | with_reducible refine Ok.f ?_ | with_reducible refine Ok.nt rfl ?_ | with_reducible refine Ok.nf rfl ?_ | with_reducible refine Ok.oe (r8In) ?_ | with_reducible refine Ok.oe (maxDay) ?_ | (with_reducible refine Ok.p ?hh ?_; case hh => (first | omega | decide | assumption | (dsimp only; omega) | (simp; done))) | (with_reducible refine Ok.n ?hh ?_; case hh => (first | omega | decide | assumption | (dsimp only; omega) | (simp; done))) | (with_reducible refine Ok.np ?hh ?_; case hh => (first | omega | decide | assumption | (dsimp only; omega) | (simp; done))) | (with_reducible refine Ok.nn ?hh ?_; case hh => (first | omega | decide | assumption | (dsimp only; omega) | (simp; done))) | (with_reducible refine Ok.nzc ?hh ?_; case hh => first | omega | decide) | with_reducible refine Ok.sameC ?_ | with_reducible refine Ok.os ?_))
  refine Ok.run l.Members.length (fun i => (((i : Int), ()), c, l, ())) rfl (by omega) (fun i hi k hk => ?_) (fun k => ?_)
  · dsimp only
    have hx := hl.mem _ (nth_mem hi)
    rw [hp]
    refine Ok.p (by omega) (Ok.atn hi (Ok.oe r8In (Ok.np ?_ ?_)))
    · rw [wrap_id (by omega)]; omega
    · rw [wrap_succ (by omega)]; exact hk
  · dsimp only
    rw [hl.win, hl.cal.1, hl.cal.2]
    refine Ok.n (by omega) ?_
    (repeat (first | with_reducible refine Ok.j ?_ | with_reducible refine Ok.t ?_ | with_reducible refine Ok.f ?_ | with_reducible refine Ok.nt rfl ?_ | with_reducible refine Ok.nf rfl ?_ | with_reducible refine Ok.oe (wins5) ?_ | with_reducible refine Ok.oe (r8In) ?_ | (with_reducible refine Ok.p ?hh ?_; case hh => (first | omega | decide | assumption | (dsimp only; omega) | (simp; done))) | (with_reducible refine Ok.n ?hh ?_; case hh => (first | omega | decide | assumption | (dsimp only; omega) | (simp; done))) | (with_reducible refine Ok.np ?hh ?_; case hh => (first | omega | decide | assumption | (dsimp only; omega) | (simp; done))) | (with_reducible refine Ok.nn ?hh ?_; case hh => (first | omega | decide | assumption | (dsimp only; omega) | (simp; done))) | (with_reducible refine Ok.nzc ?hh ?_; case hh => first | omega | decide) | with_reducible refine Ok.sameC ?_ | with_reducible refine Ok.os ?_))
    exact Ok.s rfl
theorem schedules8_ok (h : CfgOK n c) (hn : n ≤ 48) : r08_schedules 1000 c = some 0 := by
  have hs := h.slen
  refine Ok.eq ?_
  unfold r08_schedules
  refine Ok.run 2 (fun i => (((i : Int), ()), c, schNames.take i, ())) rfl (by omega) (fun i hi k hk => ?_) (fun k => ?_)
  · dsimp only
    have hsc := h.sch hi
    obtain ⟨l, hl1, hl2⟩ := hsc.layers
    have hlen := hsc.len
    refine Ok.p (by omega) (Ok.atn (by omega) (Ok.lec (by simp; omega) ?_))
    rw [h.snm hi]
    refine Ok.oe (name8_sch i hi) (Ok.n (by decide) (Ok.j ?_))
    rw [hl1]
    refine Ok.n (by simp) (Ok.n (by omega) ?_)
    dsimp only
    refine Ok.run 1 (fun j => (((i : Int), (j : Int), ()), c, nth c.Schedules i, schNames.take i ++ [nth schNames i], [ByteArray.mk #[108]].take j, ())) rfl (by omega) (fun j hj k2 hk2 => ?_) (fun k2 => ?_)
    · obtain rfl : j = 0 := by omega
      dsimp only
      rw [hl1]
      refine Ok.p (by simp) (Ok.atn (by simp) (Ok.lec (by simp) ?_))
      rw [show (nth [l] 0).Name = ByteArray.mk #[108] from hl2.name]
      refine Ok.oe name8_l (Ok.n (by decide) (Ok.atn (by simp) (Ok.oe (layer8_ok h hl2 : r08_layer 1000 c (nth [l] 0) = some 0) (Ok.n (by decide) ?_))))
      exact hk2
    · dsimp only
      rw [hl1]
      refine Ok.n (by simp) ?_
      refine Ok.run (nth c.Schedules i).Edits.length (fun j => (((i : Int), (j : Int), ()), c, nth c.Schedules i, schNames.take i ++ [nth schNames i], ())) rfl (by omega) (fun j hj k3 hk3 => ?_) (fun k3 => ?_)
      · dsimp only
        refine Ok.p (by omega) (Ok.atn hj (Ok.oe (edit8_ok h (hsc.edit _ (nth_mem hj))) (Ok.n (by decide) ?_)))
        rw [wrap_succ (by omega)]; exact hk3
      · dsimp only
        refine Ok.n (by omega) ?_
        rw [wrap_succ (by omega), take_snoc' (show i < schNames.length from hi)]; exact hk
  · dsimp only
    exact Ok.n (by omega) (Ok.s rfl)
theorem check8_ok (h : CfgOK n c) (hn : n ≤ 48) : r08_Check 1000 c = some 0 := by
  refine Ok.eq ?_
  unfold r08_Check
  have hz := congrArg List.length h.zones.1
  have hp := h.plen
  have hs := h.slen
  have hc := congrArg List.length h.cal
  simp only [List.length_cons, List.length_nil] at hz hc
  (repeat (first | with_reducible refine Ok.j ?_ | with_reducible refine Ok.t ?_ | with_reducible refine Ok.f ?_ | with_reducible refine Ok.nt rfl ?_ | with_reducible refine Ok.nf rfl ?_ | with_reducible refine Ok.oe (zones8_ok h) ?_ | with_reducible refine Ok.oe (people8_ok h) ?_ | with_reducible refine Ok.oe (cals8_ok h) ?_ | with_reducible refine Ok.oe (schedules8_ok h hn) ?_ | (with_reducible refine Ok.p ?hh ?_; case hh => (first | omega | decide | assumption | (dsimp only; omega) | (simp; done))) | (with_reducible refine Ok.n ?hh ?_; case hh => (first | omega | decide | assumption | (dsimp only; omega) | (simp; done))) | (with_reducible refine Ok.np ?hh ?_; case hh => (first | omega | decide | assumption | (dsimp only; omega) | (simp; done))) | (with_reducible refine Ok.nn ?hh ?_; case hh => (first | omega | decide | assumption | (dsimp only; omega) | (simp; done))) | (with_reducible refine Ok.nzc ?hh ?_; case hh => first | omega | decide) | with_reducible refine Ok.sameC ?_ | with_reducible refine Ok.os ?_))
  exact Ok.s rfl
end Go.Proofs.YtfhcigjkfelnfaaGreat
/-
  Who is on call in a crew: what the program and the reference compute.
-/
set_option maxRecDepth 100000
set_option linter.unusedVariables false
set_option linter.unusedSimpArgs false
namespace Go.Proofs.YtfhcigjkfelnfaaGreat
open Go AM
def OffOK (off : Int) : Prop := off = 0 ∨ off = 3600 ∨ off = -7200
variable {off t k : Int} {l : D.Layer}
theorem OffOK.le (h : OffOK off) : -7200 ≤ off ∧ off ≤ 3600 := by unfold OffOK at h; omega
theorem hand_lin (hl : LayerOK l) : (l.Unit = 0 → handS off l k = firstS off l + 3600 * l.Every * k) ∧ (l.Unit = 1 → handS off l k = firstS off l + 86400 * l.Every * k) := by
  refine ⟨fun h => ?_, fun h => ?_⟩
  · unfold handS; rw [span_hours h]
  · unfold handS; rw [span_days h]
theorem dutyAt (hl : LayerOK l) (h : ¬ shiftV off l t < 0) : atc l.Members (Int.tmod (shiftV off l t) (((List.length l.Members) : Nat) : Int)) (fun a2 => some a2) = some (dutyV off l t) := by
  have hlen := hl.len
  have e : Int.tmod (shiftV off l t) (((List.length l.Members) : Nat) : Int) = (((shiftV off l t).toNat % l.Members.length : Nat) : Int) := by
    rw [Int.tmod_eq_emod_of_nonneg (by omega), Int.natCast_emod, Int.toNat_of_nonneg (by omega)]
  rw [e, atc_n (Nat.mod_lt _ (by omega))]
  unfold dutyV
  rw [if_neg h]
variable {n : Nat} {c : D.Config}
theorem CfgOK.offs (h : CfgOK n c) : OffOK (offOf c) := h.zones.2
end Go.Proofs.YtfhcigjkfelnfaaGreat
/-
  Who is on call in a crew: what the reference computes.
-/
set_option maxRecDepth 100000
set_option linter.unusedVariables false
set_option linter.unusedSimpArgs false
namespace Go.Proofs.YtfhcigjkfelnfaaGreat
open Go AM
variable {off t k : Int} {l : D.Layer}
def zoneV (off : Int) : D.Zone := ⟨bZ, off, []⟩
theorem r4In {fu : Nat} {n lo hi : Int} : r04_in fu n lo hi = some (decide (lo ≤ n ∧ n ≤ hi)) := cnd2
theorem qTrans (ho : OffOK off) : r04_Transitions 1000 (zoneV off) = some ([], 0) := by
  rcases ho with rfl | rfl | rfl <;> kernel_rfl
theorem qOffset : r04_offset 1000 (zoneV off) [] t = some off := by
  refine Ok.eq ?_
  unfold r04_offset
  refine Ok.j (Ok.run 0 (fun _ => (([], (t, (off, (0, ())))), ())) rfl (by omega) (fun i hi => absurd hi (by omega)) (fun k => ?_))
  exact Ok.j (Ok.n (by simp) (Ok.s rfl))
theorem qLocal (ho : OffOK off) (ht : 0 ≤ t ∧ t ≤ 8589934592) : r04_ToLocal 1000 (zoneV off) t = some (⟨(t + off) / 86400, (t + off) % 86400⟩, 0) := by
  have := ho.le
  have h1 : r04_OffsetAt 1000 (zoneV off) t = some (off, 0) := by
    refine Ok.eq ?_
    unfold r04_OffsetAt
    exact Ok.oe (qTrans ho) (Ok.n (by decide) (Ok.oe r4In (Ok.np (by omega) (Ok.oe qOffset (Ok.s rfl)))))
  refine Ok.eq ?_
  unfold r04_ToLocal
  refine Ok.oe h1 (Ok.n (by decide) ?_)
  unfold r04_local
  rw [wrap_id (x := t + off) (by omega), wrap_id (x := t + off + 864000) (by omega), Int.tdiv_eq_ediv_of_nonneg (by omega), Int.tmod_eq_emod_of_nonneg (by omega), wrap_id (x := (t + off + 864000) / 86400) (by omega), wrap_id (by omega), nzc_p (by omega), nzc_p (by omega), optc_s]
  exact Ok.s (by rw [Prod.mk.injEq, D.Local.mk.injEq]; omega)
theorem qFirst {d s : Int} (ho : OffOK off) (hd : 1 ≤ d ∧ d ≤ 1000000) (hs : 0 ≤ s ∧ s ≤ 86399) :
    Ok (r04_First 1000 (zoneV off) ⟨d, s⟩) fun r => decide (r.2 = 0) = decide (d * 86400 + s - off ≤ 8589934592) ∧ (r.2 = 0 → r.1 = d * 86400 + s - off) := by
  have := ho.le
  unfold r04_First
  refine Ok.oe (qTrans ho) (Ok.n (by decide) (Ok.oe r4In (Ok.np (by dsimp only; omega) (Ok.n (by dsimp only; omega) ?_))))
  have hsm : r04_small 1000 d = some (decide (-2 ≤ d ∧ d ≤ 99422)) := by unfold r04_small; rw [r4In, optc_s]
  refine Ok.oe hsm ?_
  by_cases hd2 : d ≤ 99422
  · refine Ok.np (by omega) ?_
    refine Ok.loop (fun m x => x = (([], (-1, ())), (zoneV off, (⟨d, s⟩, ()))) ∧ m = 1 ∨ x = (([], (0, ())), (zoneV off, (⟨d, s⟩, ()))) ∧ m = 0 ∧ ¬ d * 86400 + s - off ≤ 8589934592) (m := 1) (by omega) (.inl ⟨rfl, rfl⟩) ?_
    rintro m x (⟨rfl, rfl⟩ | ⟨rfl, rfl, hno⟩) K hK
    · dsimp only
      refine Ok.p (by simp) (Ok.j (Ok.n (by decide) ?_))
      dsimp only
      refine Ok.j (Ok.n (by rw [wrap_id (by omega)]; simp) ?_)
      have ew : max 0 (IntKind.wrap .i64 (IntKind.wrap .i64 (IntKind.wrap .i64 (d * 86400) + s) - off)) = d * 86400 + s - off := by
        rw [wrap_id (x := d * 86400) (by omega), wrap_id (x := d * 86400 + s) (by omega), wrap_id (x := d * 86400 + s - off) (by omega)]; omega
      by_cases h : d * 86400 + s - off ≤ 8589934592
      · exact Ok.p (show max 0 (IntKind.wrap .i64 (IntKind.wrap .i64 (IntKind.wrap .i64 (d * 86400) + s) - off)) < 8589934593 by rw [ew]; omega) (Ok.s ⟨by simp [h], fun _ => ew⟩)
      · exact Ok.n (show ¬ max 0 (IntKind.wrap .i64 (IntKind.wrap .i64 (IntKind.wrap .i64 (d * 86400) + s) - off)) < 8589934593 by rw [ew]; omega) (hK 0 _ (by omega) (.inr ⟨rfl, rfl, h⟩))
    · dsimp only
      exact Ok.n (by simp) (Ok.s ⟨by simp; omega, fun h => by simp at h⟩)
  · refine Ok.nn (by omega) (Ok.s ⟨by simp; omega, fun h => by simp at h⟩)
theorem qHand (hl : LayerOK l) (ho : OffOK off) (hk : 0 ≤ k ∧ k ≤ 200000) (hu : l.Unit = 1) :
    Ok (r10_handover 1000 (zoneV off) l k) fun r => r.2 = decide (handS off l k ≤ 8589934592) ∧ (r.2 = true → r.1 = handS off l k) := by
  have := ho.le
  have h1 := hl.day; have h2 := hl.second; have h4 := hl.every
  unfold r10_handover
  refine Ok.n (by omega) (Ok.j (Ok.n (by omega) ?_))
  dsimp only
  have hE : l.Every = 1 ∨ l.Every = 2 ∨ l.Every = 3 := by omega
  have hh : handS off l k = (l.Start.Day + k * l.Every) * 86400 + l.Start.Second - off := (hand_day (span_days hu)).symm
  have hb : 0 ≤ k * l.Every ∧ k * l.Every ≤ 600000 := by rcases hE with e | e | e <;> rw [e] <;> omega
  rw [wrap_id (x := k * l.Every) (by omega), wrap_id (x := l.Start.Day + k * l.Every) (by omega)]
  refine Ok.opt (qFirst (d := l.Start.Day + k * l.Every) (s := l.Start.Second) ho (by omega) (by omega)) fun ⟨v, b⟩ ⟨g1, g2⟩ => ?_
  rw [← hh] at g1 g2
  refine Ok.s ⟨g1, fun h => g2 (of_decide_eq_true h)⟩
theorem qShift (hl : LayerOK l) (ho : OffOK off) (ht : 0 ≤ t ∧ t ≤ 8589934592) : r10_shift 1000 (zoneV off) l t = some (shiftV off l t) := by
  have hoo := ho.le
  have h1 := hl.day; have h2 := hl.second; have h4 := hl.every
  have hf := firstS_in (off := off) hl ho
  have h0 : handS off l 0 = firstS off l := by unfold handS; omega
  have hfd : firstS off l = l.Start.Day * 86400 + l.Start.Second - off := rfl
  have e3 := shiftV_le (t := t) hl ho (by omega)
  refine Ok.eq ?_
  unfold r10_shift
  rcases hl.unit with hu | hu
  · refine Ok.p hu (Ok.j ?_)
    refine Ok.opt (qFirst (d := l.Start.Day) (s := l.Start.Second) ho (by omega) (by omega)) fun ⟨v, b⟩ ⟨g1, g2⟩ => ?_
    dsimp only at g1 g2 ⊢
    have hb : b = 0 := by
      have : decide (b = 0) = true := by rw [g1]; simp; omega
      exact of_decide_eq_true this
    rw [g2 hb, ← hfd]
    refine Ok.p hb (Ok.ite (fun hle => ?_) (fun hgt => Ok.s ?_))
    · have e1 : IntKind.wrap .i64 (3600 * l.Every) = 3600 * l.Every := wrap_id (by omega)
      rw [e1]
      refine Ok.nzc (by omega) ?_
      rw [wrap_id (x := t - firstS off l) (by omega), Int.tdiv_eq_ediv_of_nonneg (by omega)]
      have e2 : (t - firstS off l) / (3600 * l.Every) = shiftV off l t := by unfold shiftV; rw [if_neg (by omega), span_hours hu]
      rw [e2, wrap_id (by omega)]
      exact Ok.s rfl
    · exact (shift_no (by rw [h0]; omega)).symm
  · refine Ok.n (by omega) (Ok.oe (qLocal ho ht) (Ok.j (Ok.n (by omega) ?_)))
    dsimp only
    obtain ⟨dy, hD⟩ : ∃ dy, (t + off) / 86400 = dy := ⟨_, rfl⟩
    rw [hD]
    have hDb : -1 ≤ dy ∧ dy ≤ 99422 := by omega
    refine Ok.j (Ok.nzc (by omega) ?_)
    rw [wrap_id (x := dy + 2) (by omega), wrap_id (x := dy + 2 - l.Start.Day) (by omega), Int.tdiv_eq_ediv_of_nonneg (by omega)]
    obtain ⟨k0, hk0⟩ : ∃ k0, max (dy + 2 - l.Start.Day) 0 / l.Every = k0 := ⟨_, rfl⟩
    rw [hk0]
    have hE : l.Every = 1 ∨ l.Every = 2 ∨ l.Every = 3 := by omega
    have hlin : ∀ k, handS off l k = firstS off l + 86400 * l.Every * k := fun k => (hand_lin hl).2 hu
    have hk : 0 ≤ k0 ∧ k0 ≤ 99424 ∧ (∀ k, 0 ≤ k → k ≤ k0 - 3 → handS off l k ≤ t) ∧ t < handS off l (k0 + 1) := by
      refine ⟨?_, ?_, fun k a b => ?_, ?_⟩
      · rcases hE with e | e | e <;> rw [e] at hk0 <;> omega
      · rcases hE with e | e | e <;> rw [e] at hk0 <;> omega
      · rw [hlin, hfd]; rcases hE with e | e | e <;> rw [e] at hk0 ⊢ <;> omega
      · rw [hlin, hfd]; rcases hE with e | e | e <;> rw [e] at hk0 ⊢ <;> omega
    obtain ⟨k1, k2, k3, k4⟩ := hk
    rw [wrap_id (x := k0) (by omega)]
    refine Ok.loop (fun m x => ∃ k, x = ((t, k, ()), zoneV off, l, ()) ∧ -1 ≤ k ∧ k ≤ k0 ∧ (k = -1 ∨ k0 - 3 ≤ k) ∧ t < handS off l (k + 1) ∧ m = (k - (k0 - 4)).toNat) (m := 4) (by omega) ⟨k0, rfl, by omega, by omega, by omega, k4, by omega⟩ ?_
    rintro m x ⟨k, rfl, a1, a2, a3, a4, rfl⟩ K hK
    dsimp only
    refine Ok.ite (fun hpos => ?_) (fun hz => ?_)
    · refine Ok.j (Ok.opt (qHand (k := k) hl ho (by omega) hu) fun ⟨v, b⟩ ⟨g1, g2⟩ => ?_)
      dsimp only at g1 g2 ⊢
      have down : ¬ handS off l k ≤ t → Ok (K ((t, IntKind.wrap .i64 (k - 1), ()), zoneV off, l, ())) (· = shiftV off l t) := fun hgt => by
        rw [wrap_id (x := k - 1) (by omega)]
        have hne : ¬ k ≤ k0 - 3 := fun h => hgt (k3 k hpos h)
        exact hK _ _ (by omega) ⟨k - 1, rfl, by omega, by omega, by omega, by rw [show k - 1 + 1 = k by omega]; omega, rfl⟩
      by_cases hm : handS off l k ≤ 8589934592
      · have hb : b = true := by rw [g1]; simp [hm]
        subst hb
        rw [g2 rfl]
        refine Ok.t (Ok.ite (fun hle => ?_) (fun hgt => down hgt))
        exact Ok.s (shift_is hl hpos hle a4).symm
      · have hb : b = false := by rw [g1]; simp [hm]
        subst hb
        exact Ok.f (down (by omega))
    · obtain rfl : k = -1 := by omega
      exact Ok.s (shift_no (by simpa using a4)).symm
variable {n : Nat} {c : D.Config}
theorem qCheck10 (hl : LayerOK l) (ho : OffOK off) : r10_Check 1000 (zoneV off) l = some 0 := by
  have h1 := hl.day; have h2 := hl.second; have h3 := hl.unit; have h4 := hl.every; have h5 := hl.len
  have hz : r04_Check 1000 (zoneV off) = some 0 := by unfold r04_Check; rw [qTrans ho, optc_s]
  refine Ok.eq ?_
  unfold r10_Check
  (repeat (first | with_reducible refine Ok.j ?_ | with_reducible refine Ok.t ?_ | with_reducible refine Ok.f ?_ | with_reducible refine Ok.nt rfl ?_ | with_reducible refine Ok.nf rfl ?_ | with_reducible refine Ok.oe (hz) ?_ | (with_reducible refine Ok.p ?hh ?_; case hh => (first | omega | decide | assumption | (dsimp only; omega) | (simp; done))) | (with_reducible refine Ok.n ?hh ?_; case hh => (first | omega | decide | assumption | (dsimp only; omega) | (simp; done))) | (with_reducible refine Ok.np ?hh ?_; case hh => (first | omega | decide | assumption | (dsimp only; omega) | (simp; done))) | (with_reducible refine Ok.nn ?hh ?_; case hh => (first | omega | decide | assumption | (dsimp only; omega) | (simp; done))) | (with_reducible refine Ok.nzc ?hh ?_; case hh => first | omega | decide) | with_reducible refine Ok.sameC ?_ | with_reducible refine Ok.os ?_))
  exact Ok.s rfl
theorem qLook (h : CfgOK n c) (hl : LayerOK l) (ht : 0 ≤ t ∧ t ≤ 8589934592) : r11_look 1000 c l t = some (if shiftV (offOf c) l t < 0 then (0, false) else (shiftV (offOf c) l t, true)) := by
  have hS : r10_Shift 1000 (zoneV (offOf c)) l t = some (shiftV (offOf c) l t, 0) := by
    refine Ok.eq ?_
    unfold r10_Shift
    refine Ok.oe (qCheck10 hl h.offs) (Ok.n (by decide) (Ok.j (Ok.n (by omega) (Ok.n (by omega) ?_))))
    exact Ok.oe (qShift hl h.offs ht) (Ok.s rfl)
  refine Ok.eq ?_
  unfold r11_look
  rw [h.zones.1, hl.zone]
  refine Ok.atn (i := 0) (by simp) (Ok.oe (hS : r10_Shift 1000 (nth [(⟨bZ, offOf c, []⟩ : D.Zone)] 0) l t = _) ?_)
  refine Ok.j (Ok.n (by decide) ?_)
  by_cases hs : shiftV (offOf c) l t < 0
  · exact Ok.p hs (Ok.s (by rw [if_pos hs]))
  · refine Ok.n hs ?_
    rw [hl.win]
    refine Ok.n (by simp) ?_
    dsimp only
    exact Ok.p hl.cal.2 (Ok.s (by rw [if_neg hs]))
theorem qRaw (h : CfgOK n c) (hl : LayerOK l) (ht : 0 ≤ t ∧ t ≤ 8589934592) : r11_Raw 1000 c l t = some (dutyV (offOf c) l t) := by
  have hlen := hl.len
  refine Ok.eq ?_
  unfold r11_Raw
  refine Ok.oe (qLook h hl ht) ?_
  by_cases hs : shiftV (offOf c) l t < 0
  · rw [if_pos hs]
    refine Ok.nf rfl (Ok.s ?_)
    unfold dutyV
    rw [if_pos hs]
  · rw [if_neg hs]
    refine Ok.nt rfl (Ok.nzc (by omega) ?_)
    rw [dutyAt hl hs]
    exact Ok.s rfl
theorem qAway {s : D.Schedule} {p : Int} (hs : s.Edits.length < 900) : r12_Away 1000 s p t = some (awayV s.Edits p t) := by
  refine Ok.eq ?_
  unfold r12_Away
  refine Ok.scan s.Edits.length (fun i => ((p, t, (i : Int), ()), s, ())) (fun i => awayX p t (nth s.Edits i)) rfl (by omega) (fun i hi hq _ k => ?_) (fun i hi hq k hk => ?_) (fun hq k => ?_)
  · refine Ok.p (by omega) (Ok.j (Ok.atn hi ?_))
    have hq' := hq
    simp only [awayX, Bool.and_eq_true, decide_eq_true_eq] at hq'
    exact Ok.p hq'.1.1.1 (Ok.p hq'.1.1.2 (Ok.p hq'.1.2 (Ok.p hq'.2 (Ok.s (by unfold awayV; rw [any_yes hi hq])))))
  · refine Ok.p (by omega) (Ok.j (Ok.atn hi ?_))
    dsimp only
    rw [wrap_succ (by omega)]
    have hq' : ¬ ((nth s.Edits i).Kind = 0 ∧ (nth s.Edits i).A = p ∧ (nth s.Edits i).From ≤ t ∧ t < (nth s.Edits i).To) := fun ⟨a, b, c, d⟩ => by
      simp [awayX, a, b, c, d] at hq
    refine Ok.ite (fun g1 => Ok.ite (fun g2 => Ok.ite (fun g3 => Ok.ite (fun g4 => absurd ⟨g1, g2, g3, g4⟩ hq') (fun _ => hk)) (fun _ => hk)) (fun _ => hk)) (fun _ => hk)
  · refine Ok.n (by omega) (Ok.s ?_)
    unfold awayV
    rw [any_no hq]
theorem qFold {es : List D.Edit} {p : Int} (hs : es.length < 900) : r13_Fold 1000 es p t = some (foldV es p t) := by
  refine Ok.eq ?_
  unfold r13_Fold
  refine Ok.run es.length (fun i => ((es, foldV (es.take i) p t, t, (i : Int), ()), ())) (by simp [foldV]) (by omega) (fun i hi k hk => ?_) (fun k => ?_)
  · refine Ok.p (by omega) (Ok.j (Ok.atn hi ?_))
    dsimp only
    rw [wrap_succ (by omega)]
    rw [foldV_snoc hi] at hk
    have hfold : ∀ v, v = foldS t (foldV (es.take i) p t) (nth es i) → Ok (k ((es, v, t, ((i + 1 : Nat) : Int), ()), ())) (· = foldV es p t) := fun v e => by rw [e]; exact hk
    refine Ok.ite (fun h1 => hfold _ ?_) fun h1 => Ok.ite (fun h2 => hfold _ ?_) fun h2 => Ok.ite (fun h3 => hfold _ ?_) fun h3 => Ok.ite (fun h4 => Ok.ite (fun h5 => hfold _ ?_) fun h5 => Ok.p h4 (Ok.ite (fun h6 => hfold _ ?_) fun h6 => hfold _ ?_)) fun h4 => Ok.n h4 (hfold _ ?_)
    all_goals unfold foldS
    · rw [if_pos (by omega)]
    · rw [if_pos (by omega)]
    · rw [if_neg (by omega), if_pos h3]
    · rw [if_neg (by omega), if_neg h3, if_neg (by omega), if_pos h5]
    · rw [if_neg (by omega), if_neg h3, if_neg (by omega), if_neg h5, if_pos h6]
    · rw [if_neg (by omega), if_neg h3, if_neg (by omega), if_neg h5, if_neg h6]
    · by_cases h7 : (nth es i).Kind = 0
      · rw [if_pos (.inr h7)]
      · rw [if_neg (by omega), if_neg h3, if_pos h4]
  · refine Ok.n (by omega) (Ok.s ?_)
    rw [List.take_length]
theorem qTop {i : Int} (h : CfgOK n c) (hn : n ≤ 48) (hi : 0 ≤ i ∧ i < 2) (ht : 0 ≤ t ∧ t ≤ 8589934592) : Ok (r12_Top 1000 c i t) fun r => r.2 = layP (offOf c) (nth c.Schedules i.toNat) t := by
  have hsl := h.slen
  have hs := h.sch (i := i.toNat) (by omega)
  obtain ⟨l, hl1, hl2⟩ := hs.layers
  have hlen := hs.len
  unfold r12_Top layP
  refine Ok.at (by omega) (by omega) ?_
  rw [hl1, show nth [l] 0 = l from rfl, show IntKind.wrap .i64 (((List.length [l] : Nat) : Int) - 1) = 0 from by rw [wrap_id (by simp)]; simp]
  obtain ⟨s, hsd⟩ : ∃ s, nth c.Schedules i.toNat = s := ⟨_, rfl⟩
  rw [hsd] at hl1 hlen ⊢
  refine Ok.loop (fun m x => x = ((t, 0, ()), c, s, ()) ∧ m = 1 ∨ x = ((t, -1, ()), c, s, ()) ∧ m = 0 ∧ ¬ (0 ≤ dutyV (offOf c) l t ∧ awayV s.Edits (dutyV (offOf c) l t) t = false)) (m := 1) (by omega) (.inl ⟨rfl, rfl⟩) ?_
  rintro m x (⟨rfl, rfl⟩ | ⟨rfl, rfl, hno⟩) K hK
  · dsimp only
    rw [hl1]
    refine Ok.p (by omega) (Ok.j (Ok.atn (i := 0) (by simp) (Ok.oe (qRaw h hl2 ht : r11_Raw 1000 c (nth [l] 0) t = _) ?_)))
    have hnx : ¬ (0 ≤ dutyV (offOf c) l t ∧ awayV s.Edits (dutyV (offOf c) l t) t = false) → Ok (K ((t, IntKind.wrap .i64 (0 - 1), ()), c, s, ())) fun r => r.2 = if 0 ≤ dutyV (offOf c) l t ∧ awayV s.Edits (dutyV (offOf c) l t) t = false then dutyV (offOf c) l t else -1 := fun hno => hK 0 _ (by omega) (.inr ⟨rfl, rfl, hno⟩)
    refine Ok.ite (fun h1 => Ok.oe (qAway (by omega)) (Ok.cnd (fun h2 => hnx (fun h => by have := h.2.symm.trans h2; simp at this)) (fun h2 => Ok.s (by rw [if_pos ⟨h1, h2⟩]; rfl)))) (fun h1 => hnx (fun h => h1 h.1))
  · dsimp only
    exact Ok.n (by omega) (Ok.s (by rw [if_neg hno]))
theorem whoR_is {i : Int} (h : CfgOK n c) (hn : n ≤ 48) : r14_Who 1000 c i t = some (whoV c i t) := by
  have hsl := h.slen
  have key : Ok (r13_Who 1000 c i t) (· = whoV c i t) := by
    unfold r13_Who r12_Ok whoV
    by_cases hc : 0 ≤ i ∧ i < 2 ∧ 0 ≤ t ∧ t ≤ 8589934592
    · rw [if_pos hc, cnd_p hc.1, cnd_p (by omega), cnd_p hc.2.2.1, cnd_p hc.2.2.2, check8_ok h hn, optc_s, cnd_p rfl, optc_s]
      refine Ok.nt rfl ?_
      unfold r13_Raw
      have hs := h.sch (i := i.toNat) (by omega)
      have hlen := hs.len
      refine Ok.opt (P := (· = whoS (offOf c) (nth c.Schedules i.toNat) t)) ?_ fun r hr => Ok.s hr
      refine Ok.opt (qTop h hn ⟨hc.1, hc.2.1⟩ hc.2.2) fun ⟨a, p⟩ hp => ?_
      dsimp only at hp ⊢
      refine Ok.at (by omega) (by omega) (Ok.oe (qFold (by omega)) (Ok.s ?_))
      unfold whoS
      rw [hp]
    · rw [if_neg hc]
      have hf : AM.cnd (decide (0 ≤ i)) (AM.cnd (decide (i < ((c.Schedules.length : Nat) : Int))) (AM.cnd (decide (0 ≤ t)) (AM.cnd (decide (t ≤ 8589934592)) (optc (r08_Check 1000 c) fun a0 => AM.cnd (decide (a0 = 0)) (some true) (some false)) (some false)) (some false)) (some false)) (some false) = some false := by
        rw [hsl]
        by_cases h1 : 0 ≤ i
        · rw [cnd_p h1]
          by_cases h2 : i < ((2 : Nat) : Int)
          · rw [cnd_p h2]
            by_cases h3 : 0 ≤ t
            · rw [cnd_p h3, cnd_n (by omega)]
            · rw [cnd_n h3]
          · rw [cnd_n h2]
        · rw [cnd_n h1]
      rw [hf, optc_s]
      exact Ok.nf rfl (Ok.s rfl)
  unfold r14_Who
  rw [Ok.eq key, optc_s]
end Go.Proofs.YtfhcigjkfelnfaaGreat
/-
  Whether a person of a crew may be called: what the program and the reference compute.
-/
set_option maxRecDepth 100000
set_option linter.unusedVariables false
set_option linter.unusedSimpArgs false
namespace Go.Proofs.YtfhcigjkfelnfaaGreat
open Go AM
variable {off t p : Int} {n : Nat} {c : D.Config} {ur : Bool}
theorem wd_is {d : Int} (hd : -10 ≤ d ∧ d ≤ 100000) : civil_Weekday 1000 d = some ((d + 3) % 7) ∧ r01_Weekday 1000 d = some ((d + 3) % 7) := by
  have key : AM.nzc 7 (AM.nzc 7 (some (Int.tmod (IntKind.wrap .i64 ((Int.tmod d 7) + 10)) 7))) = some ((d + 3) % 7) := by
    have h1 := tmod_within (a := d) (n := 7) (by omega)
    rw [wrap_id (by omega), nzc_p (by omega), nzc_p (by omega), Int.tmod_eq_emod_of_nonneg (by omega)]
    by_cases h0 : 0 ≤ d
    · rw [Int.tmod_eq_emod_of_nonneg h0]; congr 1; omega
    · have e1 : Int.tmod d 7 = -((-d) % 7) := by
        rw [show d = -(-d) by omega, Int.neg_tmod, Int.tmod_eq_emod_of_nonneg (by omega), Int.neg_neg]
      rw [e1]; congr 1; omega
  exact ⟨key, key⟩
theorem second_is (ho : OffOK off) (ht : 0 ≤ t ∧ t ≤ 8589934592) : week_SecondOf 1000 ⟨(t + off) / 86400, (t + off) % 86400⟩ = some (secondOf off t) ∧ r05_second 1000 ⟨(t + off) / 86400, (t + off) % 86400⟩ = some (secondOf off t) := by
  have := ho.le
  have hw := wd_is (d := (t + off) / 86400) (by omega)
  unfold week_SecondOf r05_second secondOf
  dsimp only
  rw [hw.1, hw.2, optc_s, wrap_id (x := ((t + off) / 86400 + 3) % 7 * 86400) (by omega), wrap_id (by omega)]
  exact ⟨rfl, rfl⟩
theorem within_is {ws : List D.Window} {s : Int} (hw : ws.length < 900) : r05_Within 1000 ws s = some (quietV ws s) := by
  refine Ok.eq ?_
  unfold r05_Within
  refine Ok.scan ws.length (fun i => ((ws, s, (i : Int), ()), ())) (fun i => decide ((nth ws i).From ≤ s) && decide (s < (nth ws i).To)) rfl (by omega) (fun i hi hq _ k => ?_) (fun i hi hq k hk => ?_) (fun hq k => ?_)
  · have hq' := hq
    simp only [Bool.and_eq_true, decide_eq_true_eq] at hq'
    exact Ok.p (by omega) (Ok.j (Ok.atn hi (Ok.p hq'.1 (Ok.atn hi (Ok.p hq'.2 (Ok.s (by unfold quietV; rw [any_yes hi hq])))))))
  · refine Ok.p (by omega) (Ok.j (Ok.atn hi ?_))
    dsimp only
    rw [wrap_succ (by omega)]
    refine Ok.ite (fun h1 => Ok.atn hi (Ok.ite (fun h2 => by simp [h1, h2] at hq) (fun _ => hk))) (fun _ => hk)
  · exact Ok.n (by omega) (Ok.s (by unfold quietV; rw [any_no hq]))
theorem range_is : duty_Range 1000 t t = some (decide (0 ≤ t ∧ t ≤ 8589934592)) ∧ r05_Range 1000 t t = some (decide (0 ≤ t ∧ t ≤ 8589934592)) := by
  have key : AM.cnd (decide (0 ≤ t)) (AM.cnd (decide (t ≤ 8589934592)) (AM.cnd (decide (t ≤ t)) (AM.cnd (decide (t ≤ 8589934592)) (AM.cnd (decide ((IntKind.wrap .i64 (t - t)) ≤ 34560000)) (some true) (some false)) (some false)) (some false)) (some false)) (some false) = some (decide (0 ≤ t ∧ t ≤ 8589934592)) := by
    rw [wrap_id (x := t - t) (by omega)]
    by_cases h1 : 0 ≤ t
    · by_cases h2 : t ≤ 8589934592
      · rw [cnd_p h1, cnd_p h2, cnd_p (by omega), cnd_p h2, cnd_p (by omega)]; simp [h1, h2]
      · rw [cnd_p h1, cnd_n h2]; simp [h2]
    · rw [cnd_n h1]; simp [h1]
  exact ⟨key, key⟩
theorem PersonOK.qlen {x : D.Person} (h : PersonOK x) : x.Quiet.length ≤ 1 := by
  rcases h.quiet with h | ⟨a, b, h, _⟩ <;> rw [h] <;> simp
theorem reachR_is (h : CfgOK n c) (hn : n ≤ 48) : r18_Reachable 1000 c p t ur = some (reachV c p t ur) := by
  have hpl := h.plen
  refine Ok.eq ?_
  unfold r18_Reachable
  have hopen : Ok (r18_Wrong 1000 c p t t) fun r => r = 0 ↔ 0 ≤ p ∧ p < 4 ∧ 0 ≤ t ∧ t ≤ 8589934592 := by
    unfold r18_Wrong
    refine Ok.j (Ok.oe (check8_ok h hn) (Ok.n (by decide) ?_))
    refine Ok.ite (fun h1 => Ok.s (by omega)) fun h1 => Ok.ite (fun h2 => Ok.s (by omega)) fun h2 => ?_
    refine Ok.oe range_is.2 (Ok.ncnd (fun h3 => Ok.s ?_) fun h3 => Ok.s ?_)
    · have h3 := of_decide_eq_false h3
      omega
    · have h3 := of_decide_eq_true h3
      omega
  refine Ok.opt hopen fun e g1 => ?_
  by_cases he : e = 0
  · have hr := g1.1 he
    refine Ok.n (by simp [he]) (Ok.at hr.1 (by omega) ?_)
    obtain ⟨x, hx⟩ : ∃ x, nth c.People p.toNat = x := ⟨_, rfl⟩
    have hper := h.per (i := p.toNat) (by omega)
    rw [hx] at hper ⊢
    have hq := hper.qlen
    have hv : reachV c p t ur = (ur && x.Consent || !quietV x.Quiet (secondOf (offOf c) t)) := by unfold reachV; rw [hx]; simp [hr.1, hr.2.1, hr.2.2.1, hr.2.2.2]
    rw [hv, hper.zone, h.zones.1]
    refine Ok.atn (i := 0) (by simp) ?_
    have hin : r05_In 1000 (zoneV (offOf c)) x.Quiet t = some (quietV x.Quiet (secondOf (offOf c) t)) := by
      refine Ok.eq ?_
      unfold r05_In r05_Second
      refine Ok.oe (v := (secondOf (offOf c) t, 0)) ?_ (Ok.p rfl (Ok.oe (week5_ok hper) (Ok.p rfl (Ok.oe (within_is (by omega)) (Ok.cnd (fun h1 => Ok.s (by rw [h1])) (fun h1 => Ok.s (by rw [h1])))))))
      refine Ok.eq (Ok.oe (qLocal h.offs hr.2.2) (Ok.n (by decide) (Ok.oe (second_is h.offs hr.2.2).2 (Ok.s rfl))))
    refine Ok.oe (hin : r05_In 1000 (nth [(⟨bZ, offOf c, []⟩ : D.Zone)] 0) x.Quiet t = _) ?_
    refine Ok.cnd (fun h1 => Ok.cnd (fun h2 => Ok.cnd (fun h3 => Ok.s (by simp [h2, h3])) (fun h3 => Ok.s (by simp [h1, h3]))) (fun h2 => Ok.s (by simp [h1, h2]))) (fun h1 => Ok.s (by simp [h1]))
  · refine Ok.p he (Ok.s ?_)
    have hr : ¬ (0 ≤ p ∧ p < 4 ∧ 0 ≤ t ∧ t ≤ 8589934592) := fun h => he (g1.2 h)
    unfold reachV
    rw [decide_eq_false hr]; rfl
end Go.Proofs.YtfhcigjkfelnfaaGreat
/-
  Lists that are changed in place: what filtering, sorting by insertion and leaving out neighbours that are equal keep. Plain.
-/
set_option maxRecDepth 100000
set_option linter.unusedVariables false
set_option linter.unusedSimpArgs false
namespace Go.Proofs.YtfhcigjkfelnfaaGreat
open Go AM
theorem take_succ_nth {l : List Int} {i : Nat} (h : i < l.length) : l.take (i + 1) = l.take i ++ [nth l i] := (take_snoc' h).symm
def AscTo (l : List Int) (n : Nat) : Prop := ∀ k, 1 ≤ k → k < n → nth l (k - 1) < nth l k
theorem ascTo_take {l : List Int} {n : Nat} (hn : n ≤ l.length) (h : AscTo l n) : Asc (l.take n) := by
  have hnth : ∀ k, k < n → nth (l.take n) k = nth l k := fun k hk => by
    simp only [nth, List.getD_eq_getElem?_getD, List.getElem?_take]
    rw [if_pos hk]
  have hlt : ∀ b, b < n → ∀ a, a < b → nth l a < nth l b := by
    intro b
    induction b with
    | zero => intro _ a ha; omega
    | succ b ih =>
      intro hb a ha
      have h1 := h (b + 1) (by omega) hb
      rw [Nat.add_sub_cancel] at h1
      by_cases e : a = b
      · subst e; exact h1
      · have := ih (by omega) a (by omega); omega
  have hl : (l.take n).length = n := by simp; omega
  refine asc_of (fun a b hab hb => ?_) (fun k h1 h2 => ?_)
  · rw [hl] at hb; rw [hnth a (by omega), hnth b hb]; have := hlt b hb a hab; omega
  · rw [hl] at h2; rw [hnth _ (by omega), hnth k h2]; have := h k h1 h2; omega
end Go.Proofs.YtfhcigjkfelnfaaGreat
/-
  People whom targets mean: what the program and the reference compute.
-/
set_option maxRecDepth 100000
set_option linter.unusedVariables false
set_option linter.unusedSimpArgs false
namespace Go.Proofs.YtfhcigjkfelnfaaGreat
open Go AM
variable {t p : Int} {n : Nat} {c : D.Config} {b : D.Book}
theorem less_is {x y : Int} : cmp_Less_int 1000 x y = some (decide (x < y)) := by
  unfold cmp_Less_int cmp_isNaN_int
  by_cases h : x < y <;> simp [optc, AM.cnd, h]
theorem bits_ok : ∀ m : Nat, m < 13 → (math_bits_Len 1000 (IntKind.wrap .u64 ((m : Nat) : Int))).isSome = true := by decide
theorem pIn {fu : Nat} {n lo hi : Int} : policy_in fu n lo hi = some (decide (lo ≤ n ∧ n ≤ hi)) := cnd2
end Go.Proofs.YtfhcigjkfelnfaaGreat
/-
  People whom targets mean: what the reference computes; lists compared.
-/
set_option maxRecDepth 100000
set_option linter.unusedVariables false
set_option linter.unusedSimpArgs false
namespace Go.Proofs.YtfhcigjkfelnfaaGreat
open Go AM
variable {t p : Int} {n : Nat} {c : D.Config} {b : D.Book}
theorem withI_len {l : List Int} {x : Int} : ∀ i, (withI l x i).1.length ≤ 2 * i
  | 0 => by simp [withI]
  | i + 1 => by
    have := withI_len (l := l) (x := x) i
    simp only [withI, List.length_append]
    have h1 : (if (withI l x i).2 = false ∧ x ≤ nth l i then [x] else []).length ≤ 1 := by split <;> simp
    have h2 : (if nth l i ≠ x then [nth l i] else []).length ≤ 1 := by split <;> simp
    omega
theorem withR {l : List Int} {x : Int} (hl : l.length ≤ 400) : r25_With 1000 l x = some (withV l x) := by
  refine Ok.eq ?_
  unfold r25_With
  refine Ok.run l.length (fun i => ((l, x, (withI l x i).2, (i : Int), ()), (withI l x i).1, ())) rfl (by omega) (fun i hi k hk => ?_) (fun k => ?_)
  · dsimp only
    have hlen := withI_len (l := l) (x := x) i
    rw [withI] at hk
    refine Ok.p (by omega) (Ok.j (Ok.j ?_))
    have fin : ∀ (d : Bool) (o : List Int), o.length ≤ 2000 → d = ((withI l x i).2 || decide (x ≤ nth l i)) → o = (withI l x i).1 ++ (if (withI l x i).2 = false ∧ x ≤ nth l i then [x] else []) →
        Ok (atc l (i : Int) fun a17 => AM.cnd (decide (a17 ≠ x)) (atc l (i : Int) fun a18 => AM.lec (o.length + [a18].length) 34359738368 (k ((l, x, d, IntKind.wrap .i64 ((i : Int) + 1), ()), o ++ [a18], ()))) (k ((l, x, d, IntKind.wrap .i64 ((i : Int) + 1), ()), o, ()))) (· = withV l x) := fun d o ho hd he => by
      rw [wrap_succ (by omega)]
      rw [hd, he]
      refine Ok.atn hi (Ok.ite (fun h => Ok.atn hi (Ok.lec (by rw [← he]; simp; omega) ?_)) (fun h => ?_))
      · rw [if_pos h] at hk; exact hk
      · rw [if_neg h, List.append_nil] at hk; exact hk
    refine Ok.cnd (fun hd => ?_) (fun hd => Ok.atn hi (Ok.ite (fun hx => Ok.lec (by simp; omega) ?_) (fun hx => ?_)))
    · exact fin (withI l x i).2 (withI l x i).1 (by omega) (by rw [hd]; rfl) (by rw [hd]; simp)
    · exact fin true ((withI l x i).1 ++ [x]) (by simp; omega) (by rw [hd, decide_eq_true hx]; rfl) (by rw [if_pos ⟨hd, hx⟩])
    · exact fin (withI l x i).2 (withI l x i).1 (by omega) (by rw [hd, decide_eq_false hx]; rfl) (by rw [if_neg (fun h => hx h.2), List.append_nil])
  · dsimp only
    have hlen := withI_len (l := l) (x := x) l.length
    refine Ok.n (by omega) (Ok.j (Ok.ncnd (fun hd => Ok.lec (by simp; omega) (Ok.s ?_)) (fun hd => Ok.s ?_)))
    · unfold withV; rw [if_neg (by rw [hd]; simp)]
    · unfold withV; rw [if_pos hd]
theorem q25In {fu : Nat} {n lo hi : Int} : r25_In fu n lo hi = some (decide (lo ≤ n ∧ n ≤ hi)) := cnd2
theorem means_snoc {l : List D.Target} {i : Nat} {z : Int} (hi : i < l.length) : Means c b (l.take (i + 1)) t z ↔ Means c b (l.take i) t z ∨ (0 ≤ z ∧ z < 4 ∧ z ∈ meantV c b (nth l i) t) := by
  unfold Means
  rw [← take_snoc' hi]
  simp only [List.mem_append, List.mem_singleton]
  constructor
  · rintro ⟨h1, h2, x, hx | rfl, hz⟩
    · exact .inl ⟨h1, h2, x, hx, hz⟩
    · exact .inr ⟨h1, h2, hz⟩
  · rintro (⟨h1, h2, x, hx, hz⟩ | ⟨h1, h2, hz⟩)
    · exact ⟨h1, h2, x, .inl hx, hz⟩
    · exact ⟨h1, h2, _, .inr rfl, hz⟩
theorem asc4_len {o : List Int} (h : Asc o) (hm : ∀ z ∈ o, 0 ≤ z ∧ z < 4) : o.length ≤ 4 := by
  have e : o = ([0, 1, 2, 3] : List Int).filter fun z => o.contains z := asc_ext h (List.Pairwise.filter _ asc4) fun z => by
    simp only [List.mem_filter, List.contains_iff_mem, List.mem_cons, List.not_mem_nil, or_false]
    exact ⟨fun hz => ⟨by have := hm z hz; omega, hz⟩, fun hz => hz.2⟩
  rw [e]
  exact List.length_filter_le _ _
theorem peopleR_ok {l : List D.Target} (h : CfgOK n c) (hn : n ≤ 48) (hb : BookOK b) (hl : ∀ x ∈ l, TargetOK b.Teams.length x) (hlen : l.length ≤ 400) : r25_People 1000 c b l t = some (peopleV c b l t) := by
  have hpl := h.plen; have hsl := h.slen; have htl := hb.tlen
  refine Ok.eq ?_
  unfold r25_People
  refine Ok.run l.length (fun i => ((l, t, peopleV c b (l.take i) t, (i : Int), ()), c, b, ())) (by rw [List.take_zero]; rfl) (by omega) (fun i hi k hk => ?_) (fun k => ?_)
  · dsimp only
    have hx := hl _ (nth_mem hi)
    obtain ⟨x, hxx⟩ : ∃ x, nth l i = x := ⟨_, rfl⟩
    have hpe := peopleV_asc (c := c) (b := b) (l := l.take i) (t := t)
    have hple := peopleV_len (c := c) (b := b) (l := l.take i) (t := t)
    have fin : ∀ o : List Int, Asc o → (∀ z, z ∈ o ↔ Means c b (l.take i) t z ∨ (0 ≤ z ∧ z < 4 ∧ z ∈ meantV c b x t)) → Ok (k ((l, t, o, IntKind.wrap .i64 ((i : Int) + 1), ()), c, b, ())) (· = peopleV c b l t) := fun o ho hm => by
      rw [wrap_succ (by omega), peopleV_is ho (fun z => by rw [hm, means_snoc hi, hxx])]
      exact hk
    have one : ∀ v, 0 ≤ v ∧ v < 4 → (∀ z, 0 ≤ z ∧ z < 4 → (z ∈ meantV c b x t ↔ z = v)) → Ok (k ((l, t, withV (peopleV c b (l.take i) t) v, IntKind.wrap .i64 ((i : Int) + 1), ()), c, b, ())) (· = peopleV c b l t) := fun v hv hm =>
      fin _ (withV_is hpe).1 fun z => by
        rw [(withV_is hpe).2, peopleV_mem]
        constructor
        · rintro (hz | rfl)
          · exact .inl hz
          · exact .inr ⟨hv.1, hv.2, (hm _ hv).2 rfl⟩
        · rintro (hz | ⟨h1, h2, hz⟩)
          · exact .inl hz
          · exact .inr ((hm z ⟨h1, h2⟩).1 hz)
    have none_ : (∀ z, 0 ≤ z ∧ z < 4 → ¬ z ∈ meantV c b x t) → Ok (k ((l, t, peopleV c b (l.take i) t, IntKind.wrap .i64 ((i : Int) + 1), ()), c, b, ())) (· = peopleV c b l t) := fun hm =>
      fin _ hpe fun z => by
        rw [peopleV_mem]
        exact ⟨.inl, fun h => h.elim id fun ⟨h1, h2, hz⟩ => absurd hz (hm z ⟨h1, h2⟩)⟩
    rw [hxx] at hx
    rw [hpl, hsl]
    have h1 := hx.lo; have h2 := hx.person; have h3 := hx.sched; have h4 := hx.team
    refine Ok.p (by omega) (Ok.j (Ok.atn hi ?_))
    rw [hxx]
    rcases hx.kind with hkd | hkd | hkd
    · have := h2 hkd
      refine Ok.p hkd (Ok.oe q25In (Ok.p (by rw [wrap_id (by omega)]; omega) (Ok.oe (withR (by omega)) ?_)))
      exact one _ ⟨h1, by omega⟩ fun z hz => by unfold meantV; rw [if_pos hkd]; simp
    · have := h3 hkd
      refine Ok.n (by omega) (Ok.p hkd (Ok.oe q25In (Ok.p (by rw [wrap_id (by omega)]; omega) (Ok.oe (whoR_is h hn) ?_))))
      have hw := whoV_in h (i := x.Index) (t := t)
      refine Ok.ite (fun hge => Ok.oe (withR (by omega)) ?_) (fun hlt => ?_)
      · exact one _ ⟨hge, hw.2⟩ fun z hz => by unfold meantV; rw [if_neg (by omega), if_pos hkd, if_neg (by omega)]; simp
      · exact none_ fun z hz => by unfold meantV; rw [if_neg (by omega), if_pos hkd, if_pos (by omega)]; simp
    · have := h4 hkd
      refine Ok.n (by omega) (Ok.n (by omega) (Ok.p hkd (Ok.oe q25In (Ok.p (by rw [wrap_id (by omega)]; omega) ?_))))
      obtain ⟨tm, htm⟩ : ∃ tm, nth b.Teams x.Index.toNat = tm := ⟨_, rfl⟩
      have hteam := hb.team _ (nth_mem (l := b.Teams) (i := x.Index.toNat) (by omega))
      rw [htm] at hteam
      have hmv : meantV c b x t = tm.Members := by unfold meantV; rw [if_neg (by omega), if_neg (by omega), if_pos ⟨hkd, h1, h4 hkd⟩, htm]
      have hml := hteam.len
      refine Ok.loop (fun q y => ∃ (j : Nat) (o : List Int), y = ((l, t, o, (i : Int), (j : Int), ()), c, b, x, ()) ∧ j ≤ tm.Members.length ∧ Asc o ∧ (∀ z, z ∈ o ↔ Means c b (l.take i) t z ∨ (0 ≤ z ∧ z < 4 ∧ z ∈ tm.Members.take j)) ∧ q = tm.Members.length - j) (m := tm.Members.length) (by omega)
        ⟨0, _, rfl, by omega, hpe, fun z => by rw [peopleV_mem]; simp, by omega⟩ ?_
      rintro q y ⟨j, o, rfl, a1, a2, a4, rfl⟩ K hK
      have a3 := asc4_len a2 (fun z hz => by
        rcases (a4 z).1 hz with g | g
        · exact ⟨g.1, g.2.1⟩
        · exact ⟨g.1, g.2.1⟩)
      dsimp only
      refine Ok.at h1 (by omega) ?_
      rw [htm]
      refine Ok.ite (fun hj => ?_) (fun hj => ?_)
      · have hmem := hteam.mem _ (nth_mem (l := tm.Members) (i := j) (by omega))
        refine Ok.j (Ok.at h1 (by omega) ?_)
        rw [htm]
        refine Ok.atn (by omega) ?_
        rw [hpl]
        refine Ok.oe q25In (Ok.p (by rw [wrap_id (by omega)]; omega) (Ok.at h1 (by omega) ?_))
        rw [htm]
        refine Ok.atn (by omega) (Ok.oe (withR (by omega)) ?_)
        dsimp only
        rw [wrap_succ (by omega)]
        refine hK _ _ (by omega) ⟨j + 1, _, rfl, by omega, (withV_is a2).1, fun z => ?_, rfl⟩
        rw [(withV_is a2).2, a4, mem_take_succ (by omega)]
        constructor
        · rintro ((hz | ⟨z1, z2, z3⟩) | rfl)
          · exact .inl hz
          · exact .inr ⟨z1, z2, .inl z3⟩
          · exact .inr ⟨hmem.1, hmem.2, .inr rfl⟩
        · rintro (hz | ⟨z1, z2, z3 | z3⟩)
          · exact .inl (.inl hz)
          · exact .inl (.inr ⟨z1, z2, z3⟩)
          · exact .inr z3
      · have ej : j = tm.Members.length := by omega
        rw [ej, List.take_length] at a4
        exact fin o a2 fun z => by rw [a4, hmv]
  · dsimp only
    refine Ok.n (by omega) (Ok.s ?_)
    rw [List.take_length]
theorem same_is {x y : List Int} (hx : x.length ≤ 900) : r25_Same 1000 x y = some (decide (x = y)) := by
  refine Ok.eq ?_
  unfold r25_Same
  refine Ok.ite (fun h => Ok.s ?_) (fun h => ?_)
  · rw [decide_eq_false]; rintro rfl; exact h rfl
  · have hl : x.length = y.length := by omega
    refine Ok.scan x.length (fun i => ((x, y, (i : Int), ()), ())) (fun i => decide (nth x i ≠ nth y i)) rfl (by omega) (fun i hi hq _ k => ?_) (fun i hi hq k hk => ?_) (fun hq k => ?_)
    · have hq := of_decide_eq_true hq
      refine Ok.p (by omega) (Ok.atn hi (Ok.atn (by omega) (Ok.p hq (Ok.s ?_))))
      rw [decide_eq_false]; rintro rfl; exact hq rfl
    · have hq := of_decide_eq_false hq
      refine Ok.p (by omega) (Ok.atn hi (Ok.atn (by omega) (Ok.n hq ?_)))
      rw [wrap_succ (by omega)]; exact hk
    · refine Ok.n (by omega) (Ok.s ?_)
      rw [decide_eq_true]
      refine List.ext_getElem hl fun i h1 h2 => ?_
      have := of_decide_eq_false (hq i h1)
      simpa [nth, List.getD_eq_getElem?_getD, List.getElem?_eq_getElem h1, List.getElem?_eq_getElem h2] using this
theorem has25_is {l : List Int} {x : Int} (hl : l.length ≤ 900) : r25_Has 1000 l x = some (l.contains x) := by
  refine Ok.eq ?_
  unfold r25_Has
  refine Ok.scan l.length (fun i => ((l, x, (i : Int), ()), ())) (fun i => decide (nth l i = x)) rfl (by omega) (fun i hi hq _ k => ?_) (fun i hi hq k hk => ?_) (fun hq k => ?_)
  · have hq := of_decide_eq_true hq
    refine Ok.p (by omega) (Ok.atn hi (Ok.p hq (Ok.s ?_)))
    exact (List.contains_iff_mem.2 (hq ▸ nth_mem hi)).symm
  · have hq := of_decide_eq_false hq
    refine Ok.p (by omega) (Ok.atn hi (Ok.n hq ?_))
    rw [wrap_succ (by omega)]; exact hk
  · refine Ok.n (by omega) (Ok.s ?_)
    symm
    rw [Bool.eq_false_iff]
    intro h
    obtain ⟨i, hi, e⟩ := List.getElem_of_mem (List.contains_iff_mem.1 h)
    refine of_decide_eq_false (hq i hi) ?_
    simpa [nth, List.getD_eq_getElem?_getD, List.getElem?_eq_getElem hi] using e
end Go.Proofs.YtfhcigjkfelnfaaGreat
/-
  Pages looked at: what the program's and the reference's checks of pages and answers compute.
-/
set_option maxRecDepth 100000
set_option linter.unusedVariables false
set_option linter.unusedSimpArgs false
namespace Go.Proofs.YtfhcigjkfelnfaaGreat
open Go AM
theorem drop_nth' {α : Type} [Inhabited α] {l : List α} {i : Nat} (h : i < l.length) : l.drop i = nth l i :: l.drop (i + 1) := by
  rw [List.drop_eq_getElem_cons h]
  simp [nth, List.getD_eq_getElem?_getD, List.getElem?_eq_getElem h]
theorem ein {fu : Nat} {x lo hi : Int} : escalate_in fu x lo hi = some (inV x lo hi) := by
  unfold escalate_in inV
  by_cases h1 : lo ≤ x <;> by_cases h2 : x ≤ hi <;> simp [AM.cnd, h1, h2]
theorem contains_nth {l : List Int} {i : Nat} {x : Int} (hi : i < l.length) (h : decide (x = nth l i) = true) : l.contains x = true := by
  rw [of_decide_eq_true h]; exact List.contains_iff_mem.2 (nth_mem hi)
theorem contains_no {l : List Int} {x : Int} (h : ∀ j, j < l.length → decide (x = nth l j) = false) : l.contains x = false := by
  cases hb : l.contains x with
  | false => rfl
  | true =>
    obtain ⟨j, hj, e⟩ := List.getElem_of_mem (List.contains_iff_mem.1 hb)
    have := of_decide_eq_false (h j hj)
    exact absurd (by simp [nth, List.getD_eq_getElem?_getD, List.getElem?_eq_getElem hj, e]) this
theorem contains_is {l : List Int} {x : Int} (hl : l.length < 900) : slices_Contains_int 1000 l x = some (l.contains x) := by
  refine Ok.eq ?_
  unfold slices_Contains_int slices_Index_int
  refine Ok.opt (P := fun r => decide (0 ≤ r) = l.contains x) ?_ fun r hr => Ok.s hr
  refine Ok.scan l.length (fun i => ((l, x, ((l.length : Nat) : Int), (i : Int), ()), ())) (fun i => decide (x = nth l i)) rfl (by omega) (fun i hi hq _ k => ?_) (fun i hi hq k hk => ?_) (fun hq k => ?_)
  · refine Ok.p (by omega) (Ok.atn hi (Ok.bt hq (Ok.s ?_)))
    rw [contains_nth hi hq]; simp
  · refine Ok.p (by omega) (Ok.atn hi (Ok.bf hq ?_))
    rw [wrap_succ (by omega)]; exact hk
  · refine Ok.n (by omega) (Ok.s ?_)
    rw [contains_no hq]; rfl
def badS (l : List Int) (i : Nat) : Bool := !(decide (0 ≤ nth l i) && decide (nth l i ≤ 31) && (decide (i = 0) || decide (nth l (i - 1) < nth l i)))
theorem setV_bad {l : List Int} {i : Nat} (hi : i < l.length) (h : badS l i = true) : setV l = false := by
  cases hb : setV l with
  | false => rfl
  | true =>
    have hs := setV_is.1 hb
    have h1 := hs.2 _ (nth_mem hi)
    have h2 : 0 < i → nth l (i - 1) < nth l i := fun h0 => asc_nth hs.1 (by omega) hi
    unfold badS at h
    by_cases h0 : i = 0
    · subst h0; simp at h; omega
    · have := h2 (by omega)
      simp [h0] at h; omega
theorem setV_good {l : List Int} (h : ∀ j, j < l.length → badS l j = false) : setV l = true := by
  have hk : ∀ j, j < l.length → 0 ≤ nth l j ∧ nth l j ≤ 31 ∧ (j = 0 ∨ nth l (j - 1) < nth l j) := fun j hj => by
    have := h j hj
    unfold badS at this
    obtain ⟨a, b, c⟩ : 0 ≤ nth l j ∧ nth l j ≤ 31 ∧ (¬ j = 0 → nth l (j - 1) < nth l j) := by simpa [and_assoc] using this
    exact ⟨a, b, by by_cases e : j = 0; exact .inl e; exact .inr (c e)⟩
  refine setV_is.2 ⟨?_, fun x hx => ?_⟩
  · have := ascTo_take (l := l) (n := l.length) (Nat.le_refl _) fun k h1 h2 => by have := (hk k h2).2.2; omega
    rwa [List.take_length] at this
  · obtain ⟨j, hj, e⟩ := List.getElem_of_mem hx
    have := hk j hj
    rw [show nth l j = x by simp [nth, List.getD_eq_getElem?_getD, List.getElem?_eq_getElem hj, e]] at this
    omega
theorem set_is {l : List Int} (hl : l.length < 900) : escalate_set 1000 l = some (setV l) := by
  refine Ok.eq ?_
  unfold escalate_set
  refine Ok.scan l.length (fun i => ((l, l, ((l.length : Nat) : Int), (i : Int), ()), ())) (badS l) rfl (by omega) (fun i hi hq _ k => ?_) (fun i hi hq k hk => ?_) (fun hq k => ?_)
  · refine Ok.p (by omega) (Ok.j (Ok.atn hi (Ok.oe ein ?_)))
    rw [setV_bad hi hq]
    refine Ok.cnd (fun h1 => ?_) (fun h1 => Ok.s rfl)
    by_cases h0 : 0 < i
    · refine Ok.p (by omega) ?_
      rw [show IntKind.wrap .i64 ((i : Int) - 1) = ((i - 1 : Nat) : Int) by rw [wrap_id (by omega)]; omega]
      refine Ok.atn (by omega) (Ok.p ?_ (Ok.s rfl))
      unfold badS at hq
      unfold inV at h1
      simp only [Bool.and_eq_true, decide_eq_true_eq] at h1
      simp [h1.1, h1.2, show i ≠ 0 by omega] at hq
      omega
    · unfold badS at hq
      unfold inV at h1
      simp only [Bool.and_eq_true, decide_eq_true_eq] at h1
      obtain rfl : i = 0 := by omega
      simp [h1.1, h1.2] at hq
  · refine Ok.p (by omega) (Ok.j (Ok.atn hi (Ok.oe ein ?_)))
    unfold badS at hq
    simp only [Bool.not_eq_false', Bool.and_eq_true, Bool.or_eq_true, decide_eq_true_eq] at hq
    refine Ok.bt (by unfold inV; simp [hq.1.1, hq.1.2]) ?_
    dsimp only
    rw [wrap_succ (by omega)]
    by_cases h0 : 0 < i
    · refine Ok.p (by omega) ?_
      rw [show IntKind.wrap .i64 ((i : Int) - 1) = ((i - 1 : Nat) : Int) by rw [wrap_id (by omega)]; omega]
      exact Ok.atn (by omega) (Ok.n (by omega) hk)
    · exact Ok.n (by omega) hk
  · exact Ok.n (by omega) (Ok.s (setV_good hq).symm)
theorem seen_bad {l : List Int} {i : Nat} (hi : i < l.length) (h : (l.take i).contains (nth l i) = true) : decide l.Nodup = false := by
  refine decide_eq_false fun hn => ?_
  have hm := List.contains_iff_mem.1 h
  have e : l = l.take i ++ (nth l i :: l.drop (i + 1)) := by rw [← drop_nth' hi, List.take_append_drop]
  rw [e] at hn
  exact (List.nodup_append.1 hn).2.2 _ hm _ (List.mem_cons_self ..) rfl
theorem seen_good {l : List Int} (h : ∀ j, j < l.length → (l.take j).contains (nth l j) = false) : l.Nodup := by
  have : ∀ i, i ≤ l.length → (l.take i).Nodup := by
    intro i
    induction i with
    | zero => intro _; simp
    | succ i ih =>
      intro hi
      rw [take_succ_nth (by omega)]
      refine List.nodup_append.2 ⟨ih (by omega), by simp, fun x hx y hy e => ?_⟩
      rw [List.mem_singleton.1 hy] at e
      subst e
      have := h i (by omega)
      rw [List.contains_iff_mem.2 hx] at this
      simp at this
  have := this l.length (Nat.le_refl _)
  rwa [List.take_length] at this
theorem seen_is {l : List Int} (hl : l.length < 900) : escalate_seen 1000 l = some (seenV l) := by
  refine Ok.eq ?_
  unfold escalate_seen seenV
  refine Ok.scan l.length (fun i => ((l, l, ((l.length : Nat) : Int), (i : Int), ()), ())) (fun i => (l.take i).contains (nth l i)) rfl (by omega) (fun i hi hq _ k => ?_) (fun i hi hq k hk => ?_) (fun hq k => ?_)
  · refine Ok.p (by omega) (Ok.atn hi (Ok.natn (Ok.lec (by omega) (Ok.oe (contains_is (by simp; omega)) (Ok.bt hq (Ok.s ?_))))))
    rw [seen_bad hi hq]; rfl
  · refine Ok.p (by omega) (Ok.atn hi (Ok.natn (Ok.lec (by omega) (Ok.oe (contains_is (by simp; omega)) (Ok.bf hq ?_)))))
    rw [wrap_succ (by omega)]; exact hk
  · refine Ok.n (by omega) (Ok.s ?_)
    rw [decide_eq_true (seen_good hq), Bool.true_and]
    exact decide_eq_decide.2 (by omega)
structure PageLen (p : D.Page) : Prop where
  st : p.Starts.length ≤ 300
  pe : ∀ s ∈ p.Starts, s.People.length ≤ 40 ∧ -1000000 ≤ s.K ∧ s.K ≤ 1000000
  de : p.Declined.length ≤ 40
  se : p.Seen.length ≤ 100
  nx : -1000000 ≤ p.Next ∧ p.Next ≤ 1000000
theorem started_is {p : D.Page} (h : PageLen p) : escalate_started 1000 p = some (startsV p) := by
  have hst := h.st
  have hnx := h.nx
  refine Ok.eq ?_
  unfold escalate_started startsV
  refine Ok.loop (fun m x => ∃ (i : Nat) (k t : Int), x = ((t, k, p.Starts, ((p.Starts.length : Nat) : Int), (i : Int), ()), p, ()) ∧ i ≤ p.Starts.length ∧ -1 ≤ k ∧ k ≤ 1000000 ∧ startsF p.Next k t (p.Starts.drop i) = startsF p.Next (-1) p.Start p.Starts ∧ m = p.Starts.length - i) (m := p.Starts.length) (by omega)
    ⟨0, -1, p.Start, rfl, by omega, by omega, by omega, rfl, rfl⟩ ?_
  rintro m x ⟨i, k, t, rfl, h1, h2, h2', h3, rfl⟩ K hK
  dsimp only
  refine Ok.ite (fun hi => ?_) (fun hi => ?_)
  · have hlt : i < p.Starts.length := by omega
    have hs := h.pe _ (nth_mem hlt)
    refine Ok.atn hlt (Ok.j ?_)
    obtain ⟨s, hse⟩ : ∃ s, nth p.Starts i = s := ⟨_, rfl⟩
    rw [drop_nth' hlt, startsF, hse] at h3
    rw [hse] at hs ⊢
    rw [← h3]
    have next : (decide (t ≤ s.At) && (decide (s.K = -1) || decide (0 ≤ s.K) && decide (k < s.K) && decide (s.K < p.Next)) && setV s.People) = true →
        Ok (K ((s.At, max k s.K, p.Starts, ((p.Starts.length : Nat) : Int), IntKind.wrap .i64 ((i : Int) + 1), ()), p, ())) (· = (decide (t ≤ s.At) && (decide (s.K = -1) || decide (0 ≤ s.K) && decide (k < s.K) && decide (s.K < p.Next)) && setV s.People && startsF p.Next (max k s.K) s.At (p.Starts.drop (i + 1)) && decide (p.Starts.length ≤ 200))) := fun e => by
      rw [wrap_succ (by omega), h3]
      rw [e, Bool.true_and] at h3
      exact hK _ _ (by omega) ⟨i + 1, max k s.K, s.At, rfl, by omega, by omega, by omega, h3, rfl⟩
    refine Ok.ite (fun g1 => Ok.s (by rw [decide_eq_false (show ¬ t ≤ s.At by omega)]; simp)) fun g1 => ?_
    refine Ok.oe (set_is (by omega)) (Ok.cnd (fun g2 => ?_) (fun g2 => Ok.s (by rw [g2]; simp)))
    refine Ok.ite (fun g3 => ?_) (fun g3 => ?_)
    · rw [wrap_id (x := k + 1) (by omega), wrap_id (x := p.Next - 1) (by omega)]
      refine Ok.oe ein (Ok.cnd (fun g4 => ?_) (fun g4 => ?_))
      · unfold inV at g4
        simp only [Bool.and_eq_true, decide_eq_true_eq] at g4
        refine next ?_
        rw [g2]; simp; omega
      · refine Ok.s ?_
        have : (decide (s.K = -1) || decide (0 ≤ s.K) && decide (k < s.K) && decide (s.K < p.Next)) = false := by
          unfold inV at g4
          simp only [Bool.and_eq_false_iff, decide_eq_false_iff_not] at g4
          rw [decide_eq_false g3, Bool.false_or]
          by_cases q1 : 0 ≤ s.K <;> by_cases q2 : k < s.K <;> by_cases q3 : s.K < p.Next <;> simp [q1, q2, q3] <;> omega
        rw [this]; simp
    · refine next ?_
      rw [g2]; simp; omega
  · have e : i = p.Starts.length := by omega
    refine Ok.s ?_
    subst e
    rw [List.drop_length, startsF] at h3
    rw [← h3, Bool.true_and]
    exact decide_eq_decide.2 (by omega)
theorem times_is {p : D.Page} : escalate_times 1000 p = some (inV p.Last p.Start farV && inV p.Due 0 farV && inV p.Until 0 farV && inV p.Snoozes 0 4 && inV p.Hands 0 4) := by
  refine Ok.eq ?_
  unfold escalate_times
  refine Ok.oe ein (Ok.cnd (fun h1 => Ok.oe ein (Ok.cnd (fun h2 => Ok.oe ein (Ok.cnd (fun h3 => Ok.oe ein (Ok.cnd (fun h4 => Ok.oe ein (Ok.cnd (fun h5 => Ok.s ?_) (fun h5 => Ok.s ?_))) (fun h4 => Ok.s ?_))) (fun h3 => Ok.s ?_))) (fun h2 => Ok.s ?_))) (fun h1 => Ok.s ?_))
  all_goals simp_all [farV]
theorem count_is {n : Nat} {q : D.Policy} (h : PolOK n q) : policy_Count 1000 q = some (countV q) := by
  have h1 := h.rep
  have h2 := h.len
  refine Ok.eq ?_
  unfold policy_Count
  refine Ok.j (Ok.oe pIn (Ok.p (by omega) (Ok.n (by omega) (Ok.s ?_))))
  rw [(countV_is h).1, wrap_id (x := q.Repeat + 1) (by omega), wrap_id]
  have h3 : q.Repeat = 0 ∨ q.Repeat = 1 ∨ q.Repeat = 2 := by omega
  rcases h3 with h3 | h3 | h3 <;> rw [h3] <;> omega
theorem waits_true {n : Nat} {q : D.Policy} (h : PolOK n q) : waitsV q = true := by
  unfold waitsV
  rw [List.all_eq_true]
  intro s hs
  have := (h.step s hs).wait
  simp; omega
theorem waitsC_is {n : Nat} {q : D.Policy} (h : PolOK n q) : slices_ContainsFunc_PolicyStep_1Fescalate_Check_1 1000 q.Steps = some false := by
  have h2 := h.len
  refine Ok.eq ?_
  unfold slices_ContainsFunc_PolicyStep_1Fescalate_Check_1 slices_IndexFunc_PolicyStep_1Fescalate_Check_1
  refine Ok.opt (P := fun r => r = -1) ?_ fun r hr => Ok.s (by rw [hr]; rfl)
  refine Ok.run q.Steps.length (fun i => ((q.Steps, ((q.Steps.length : Nat) : Int), (i : Int), ()), ())) rfl (by omega) (fun i hi k hk => ?_) (fun k => ?_)
  · have hw := (h.step _ (nth_mem hi)).wait
    refine Ok.p (by omega) (Ok.atn hi (Ok.oe (v := false) ?_ (Ok.f ?_)))
    · unfold escalate_Check_1
      rw [ein, optc_s]
      unfold inV; simp; omega
    · rw [wrap_succ (by omega)]; exact hk
  · exact Ok.n (by omega) (Ok.s rfl)
theorem check_is {b : D.Book} {p : D.Page} (hb : BookOK b) (h : PageLen p) : escalate_Check 1000 b p = some (checkV b p) := by
  have hpl := hb.plen
  refine Ok.eq ?_
  unfold escalate_Check
  refine Ok.j (Ok.oe ein (Ok.cnd (fun h1 => ?_) (fun h1 => Ok.s (by simp [checkV, h1]))))
  rw [wrap_id (x := ((b.Policies.length : Nat) : Int) - 1) (by omega)]
  refine Ok.oe ein (Ok.cnd (fun h2 => ?_) (fun h2 => Ok.s (by simp [checkV, h2])))
  refine Ok.oe ein (Ok.cnd (fun h3 => ?_) (fun h3 => Ok.s (by simp [checkV, h3])))
  have h2' := h2
  unfold inV at h2'
  simp only [Bool.and_eq_true, decide_eq_true_eq] at h2'
  refine Ok.at h2'.1 (by omega) (Ok.j ?_)
  have hq : PolOK b.Teams.length (polOf b p) := hb.pol _ (nth_mem (by omega))
  have hw := waits_true hq
  show Ok (optc (slices_ContainsFunc_PolicyStep_1Fescalate_Check_1 1000 (polOf b p).Steps) _) _
  refine Ok.oe (waitsC_is hq) (Ok.f (Ok.oe (count_is hq) (Ok.oe ein ?_)))
  refine Ok.cnd (fun h4 => ?_) (fun h4 => Ok.s (by have h4 : inV p.Next 0 (countV (polOf b p)) = false := h4; simp [checkV, h4]))
  have h4 : inV p.Next 0 (countV (polOf b p)) = true := h4
  refine Ok.oe ein (Ok.cnd (fun h5 => ?_) (fun h5 => Ok.s (by simp [checkV, h5])))
  refine Ok.oe ein (Ok.cnd (fun h6 => ?_) (fun h6 => Ok.s (by simp [checkV, h6])))
  refine Ok.oe times_is (Ok.cnd (fun h7 => ?_) (fun h7 => Ok.s ?_))
  · refine Ok.oe (started_is h) (Ok.cnd (fun h8 => ?_) (fun h8 => Ok.s (by simp [checkV, h8])))
    have hde := h.de; have hse := h.se
    refine Ok.oe (set_is (by omega)) (Ok.cnd (fun h9 => ?_) (fun h9 => Ok.s (by simp [checkV, h9])))
    refine Ok.oe (seen_is (by omega)) ?_
    simp only [Bool.and_eq_true] at h7
    exact Ok.cnd (fun h10 => Ok.s (by simp [checkV, h1, h2, h3, hw, h4, h5, h6, h7, h8, h9, h10])) (fun h10 => Ok.s (by simp [checkV, h10]))
  · symm
    unfold checkV
    rw [Bool.eq_false_iff]
    intro hc
    rw [Bool.eq_false_iff] at h7
    apply h7
    simp only [Bool.and_eq_true] at hc ⊢
    obtain ⟨⟨⟨⟨⟨⟨⟨⟨hc, a1⟩, a2⟩, a3⟩, a4⟩, a5⟩, _⟩, _⟩, _⟩ := hc
    exact ⟨⟨⟨⟨a1, a2⟩, a3⟩, a4⟩, a5⟩
end Go.Proofs.YtfhcigjkfelnfaaGreat
/-
  What runs and answers keep of pages, in plain Lean: what the laws about pages ask for.
-/
set_option maxRecDepth 100000
set_option linter.unusedSimpArgs false
set_option linter.unusedVariables false
namespace Go.Proofs.YtfhcigjkfelnfaaGreat
open Go AM
section
variable {Q : Int → D.Start → Prop} {M now : Int} {b : D.Book} {p q : D.Page} {c : D.Config}
theorem runN_ind {R : D.Page → Prop} (hb : BookOK b) (hQ : StepQ Q M c b) (hs : ∀ q, PageInv Q M b q → waitB q now = true → R q → R (stepQ c b q)) : ∀ (n : Nat) {p : D.Page}, PageInv Q M b p → R p → R (runN c b now n p).1
  | 0, p, h, hr => hr
  | n + 1, p, h, hr => by
    rw [runN]
    split
    · rename_i hw
      have hd := waitB_due hw
      rw [h.stepVis hb hd.1, if_neg (by simp)]
      exact runN_ind hb hQ hs n (h.stepQ_inv hb hd.1 (hQ p h)) (hs p h hw hr)
    · exact hr
theorem runV_ind {R : D.Page → Prop} (hb : BookOK b) (hQ : StepQ Q M c b) (hs : ∀ q, PageInv Q M b q → waitB q now = true → R q → R (stepQ c b q)) (h : PageInv Q M b p) (hr : R p) : R (runV c b p now).1 := by
  rw [runV_is (h.check hb)]
  exact runN_ind hb hQ hs 100 h hr
structure Kept (p q : D.Page) : Prop where
  id : q.ID = p.ID
  pol : q.Policy = p.Policy
  start : q.Start = p.Start
  by_ : q.By = p.By
  until_ : q.Until = p.Until
  snoozes : q.Snoozes = p.Snoozes
  hands : q.Hands = p.Hands
  seen : q.Seen = p.Seen
theorem Kept.refl (p : D.Page) : Kept p p := ⟨rfl, rfl, rfl, rfl, rfl, rfl, rfl, rfl⟩
theorem Kept.step (h : Kept p q) : Kept p (stepQ c b q) := by
  obtain ⟨h1, h2, h3, h4, h5, h6, h7, h8⟩ := h
  unfold stepQ
  split
  · exact ⟨h1, h2, h3, h4, h5, h6, h7, h8⟩
  · split <;> exact ⟨h1, h2, h3, h4, h5, h6, h7, h8⟩
theorem runV_kept (hb : BookOK b) (hQ : StepQ Q M c b) (h : PageInv Q M b p) : Kept p (runV c b p now).1 :=
  runV_ind hb hQ (fun q _ _ hr => hr.step) h (Kept.refl p)
theorem step_last (hw : waitB q now = true) (h : q.Last ≤ now) : (stepQ c b q).Last ≤ now := by
  have hd := waitB_due hw
  have hs := due_state hd.1
  have h2 := hd.2
  unfold dueV at h2
  unfold stepQ
  split
  · rename_i e; rw [if_neg (by omega), if_pos e] at h2; dsimp only at h2 ⊢; omega
  · rename_i e; rw [if_pos (by omega)] at h2
    split <;> dsimp only at h2 ⊢ <;> omega
theorem runV_last (hb : BookOK b) (hQ : StepQ Q M c b) (h : PageInv Q M b p) (hl : p.Last ≤ now) : (runV c b p now).1.Last ≤ now :=
  runV_ind (R := fun q => q.Last ≤ now) hb hQ (fun q _ hw hr => step_last hw hr) h hl
theorem dueV_fst0 (h : p.State = 0) : dueV p = (p.Due, true) := by unfold dueV; rw [if_pos h]
theorem dueV_fst2 (h : p.State = 2) : dueV p = (p.Until, true) := by unfold dueV; rw [if_neg (by omega), if_pos h]
theorem refused_none {a : D.Answer} (h : refusedV p a = 0) : p.Last ≤ a.At ∧ waitB p a.At = false ∧ p.State ≠ 4 ∧ (p.State = 3 → a.Kind = 5) ∧ (p.State = 1 → a.Kind ≠ 2) ∧ p.Seen.length ≠ 64 := by
  revert h
  unfold refusedV
  split
  · simp
  · rename_i h1
    split
    · simp
    · rename_i h2
      split
      · simp
      · rename_i h3
        intro _
        have hw : waitB p a.At = false := by cases hb : waitB p a.At <;> simp_all
        exact ⟨by omega, hw, by omega, by omega, by omega, by omega⟩
theorem answerQ_id {a : D.Answer} : (answerQ p a).ID = p.ID ∧ (answerQ p a).Policy = p.Policy ∧ (answerQ p a).Start = p.Start ∧ (answerQ p a).Next = p.Next := by
  unfold answerQ; repeat' split
  all_goals exact ⟨rfl, rfl, rfl, rfl⟩
theorem answerQ_last {a : D.Answer} (h : p.Last ≤ a.At) : (answerQ p a).Last ≤ a.At := by
  unfold answerQ; repeat' split
  all_goals dsimp only
  all_goals omega
theorem answerQ_len {a : D.Answer} : (a.Kind = 4 → (answerQ p a).Starts = p.Starts ++ [⟨-1, a.At, [a.Arg]⟩]) ∧ (a.Kind ≠ 4 → (answerQ p a).Starts = p.Starts) := by
  unfold answerQ
  refine ⟨fun h => ?_, fun h => ?_⟩
  · rw [if_neg (by omega), if_neg (by omega), if_neg (by omega), if_pos h]
  · repeat' split
    all_goals first | rfl | omega
end
def kN (l : List D.Start) (i : Nat) : Int := (((l.take i).filter fun s => decide (0 ≤ s.K)).length : Int)
def tN (st : Int) (l : List D.Start) (i : Nat) : Int := if i = 0 then st else (nth l (i - 1)).At
theorem nth_app_l {α : Type} [Inhabited α] {l m : List α} {i : Nat} (h : i < l.length) : nth (l ++ m) i = nth l i := by
  simp [nth, List.getD_eq_getElem?_getD, List.getElem?_append_left h]
theorem nth_app_r {α : Type} [Inhabited α] {l : List α} {x : α} : nth (l ++ [x]) l.length = x := by
  simp [nth, List.getD_eq_getElem?_getD]
theorem kN_app {l m : List D.Start} {i : Nat} (h : i ≤ l.length) : kN (l ++ m) i = kN l i := by
  unfold kN; rw [List.take_append_of_le_length h]
theorem kN_snoc {l : List D.Start} {x : D.Start} : kN (l ++ [x]) (l.length + 1) = kN l l.length + (if 0 ≤ x.K then 1 else 0) := by
  unfold kN
  rw [List.take_of_length_le (by simp), List.take_of_length_le (Nat.le_refl _), List.filter_append, List.length_append]
  by_cases h : 0 ≤ x.K
  · simp [h]
  · simp [h]
theorem kN_succ {l : List D.Start} {i : Nat} (h : i < l.length) : kN l (i + 1) = kN l i + (if 0 ≤ (nth l i).K then 1 else 0) := by
  unfold kN
  rw [List.take_succ_eq_append_getElem h, List.filter_append, List.length_append]
  have e : nth l i = l[i] := by simp [nth, List.getD_eq_getElem?_getD, List.getElem?_eq_getElem h]
  rw [e]
  by_cases h : 0 ≤ l[i].K
  · simp [h]
  · simp [h]
theorem tN_app {st : Int} {l m : List D.Start} {i : Nat} (h : i ≤ l.length) : tN st (l ++ m) i = tN st l i := by
  unfold tN
  split
  · rfl
  · rw [nth_app_l (by omega)]
theorem tN_succ {st : Int} {l : List D.Start} {i : Nat} : tN st l (i + 1) = (nth l i).At := by unfold tN; rw [if_neg (by omega)]; rfl
theorem Goes.scan {Q : D.Start → Prop} {st k t h : Int} {l : List D.Start} (g : Goes Q st l k t h) : kN l l.length = k ∧ tN st l l.length = t ∧
    ∀ i, i < l.length → tN st l i ≤ (nth l i).At ∧ setV (nth l i).People = true ∧ ((nth l i).K = -1 ∧ 0 < i ∨ (nth l i).K = kN l i ∧ 0 ≤ (nth l i).K ∧ Q (nth l i)) ∧ (i = 0 → (nth l i).At = st) := by
  induction g with
  | nil => exact ⟨rfl, rfl, fun i hi => by simp at hi⟩
  | @step l k t h a P g h1 h2 h3 h4 ih =>
    obtain ⟨i1, i2, i3⟩ := ih
    have hp := g.pos
    refine ⟨by rw [List.length_append, List.length_singleton, kN_snoc, i1, if_pos (by dsimp only; omega)], by rw [List.length_append, List.length_singleton, tN_succ, nth_app_r], fun i hi => ?_⟩
    by_cases e : i = l.length
    · subst e
      rw [nth_app_r, tN_app (Nat.le_refl _), kN_app (Nat.le_refl _), i1, i2]
      exact ⟨h1, h3, .inr ⟨rfl, hp.1, h4⟩, fun e => h2 (List.length_eq_zero_iff.1 e)⟩
    · have hi' : i < l.length := by rw [List.length_append, List.length_singleton] at hi; omega
      rw [nth_app_l hi', tN_app (by omega), kN_app (by omega)]
      exact i3 i hi'
  | @hand l k t h a x g h1 h2 h3 h4 ih =>
    obtain ⟨i1, i2, i3⟩ := ih
    have hne : l.length ≠ 0 := fun e => h2 (List.length_eq_zero_iff.1 e)
    refine ⟨by rw [List.length_append, List.length_singleton, kN_snoc, i1, if_neg (by simp)]; simp, by rw [List.length_append, List.length_singleton, tN_succ, nth_app_r], fun i hi => ?_⟩
    by_cases e : i = l.length
    · subst e
      rw [nth_app_r, tN_app (Nat.le_refl _), kN_app (Nat.le_refl _), i2]
      exact ⟨h1, setV_one h3 h4, .inl ⟨rfl, by omega⟩, fun e => absurd e hne⟩
    · have hi' : i < l.length := by rw [List.length_append, List.length_singleton] at hi; omega
      rw [nth_app_l hi', tN_app (by omega), kN_app (by omega)]
      exact i3 i hi'
end Go.Proofs.YtfhcigjkfelnfaaGreat
/-
  What checks of pages say, and what steps, runs and answers keep of the lengths of pages.
-/
set_option maxRecDepth 100000
set_option linter.unusedVariables false
set_option linter.unusedSimpArgs false
namespace Go.Proofs.YtfhcigjkfelnfaaGreat
open Go AM
section
variable {R X Y : Type} {Q : R → Prop}
theorem AM.Ok.run2 {B : (X × Y → Option R) → X × Y → Option R} (n : Nat) (st : Nat → X) {r : Y} {fu : Nat} {x : X} (hx : x = st 0) (hf : n < fu) (hs : ∀ i, i < n → ∀ k, (Ok (k (st (i + 1), r)) Q → Ok (B k (st i, r)) Q)) (h : ∀ k, Ok (B k (st n, r)) Q) : Ok (iterF B fu (x, r)) Q :=
  Ok.run n (fun i => (st i, r)) (by rw [hx]) hf hs h
theorem AM.Ok.scan2 {B : (X × Y → Option R) → X × Y → Option R} (n : Nat) (st : Nat → X) {r : Y} (q : Nat → Bool) {fu : Nat} {x : X} (hx : x = st 0) (hf : n < fu) (hy : ∀ i, i < n → q i = true → (∀ j, j < i → q j = false) → ∀ k, Ok (B k (st i, r)) Q)
    (hn : ∀ i, i < n → q i = false → ∀ k, (Ok (k (st (i + 1), r)) Q → Ok (B k (st i, r)) Q)) (he : (∀ j, j < n → q j = false) → ∀ k, Ok (B k (st n, r)) Q) : Ok (iterF B fu (x, r)) Q :=
  Ok.scan n (fun i => (st i, r)) q (by rw [hx]) hf hy hn he
end
theorem set_nth {α : Type} [Inhabited α] {l : List α} {i : Nat} (h : i < l.length) : l.set i (nth l i) = l := by
  have e : nth l i = l[i] := by simp [nth, List.getD_eq_getElem?_getD, List.getElem?_eq_getElem h]
  rw [e]; exact List.set_getElem_self h
theorem asc32 : Asc ((List.range 32).map fun (i : Nat) => (i : Int)) := by unfold Asc; decide
structure CkF (b : D.Book) (p : D.Page) : Prop where
  id : 1 ≤ p.ID ∧ p.ID ≤ 999999
  pol : 0 ≤ p.Policy ∧ p.Policy < (b.Policies.length : Int)
  start : 0 ≤ p.Start ∧ p.Start ≤ 8589934592
  next : 0 ≤ p.Next ∧ p.Next ≤ countV (polOf b p)
  state : 0 ≤ p.State ∧ p.State ≤ 4
  by_ : -1 ≤ p.By ∧ p.By ≤ 31
  last : p.Start ≤ p.Last ∧ p.Last ≤ farV
  due : 0 ≤ p.Due ∧ p.Due ≤ farV
  until_ : 0 ≤ p.Until ∧ p.Until ≤ farV
  snoozes : 0 ≤ p.Snoozes ∧ p.Snoozes ≤ 4
  hands : 0 ≤ p.Hands ∧ p.Hands ≤ 4
  starts : p.Starts.length ≤ 200
  declined : setV p.Declined = true
  seen : p.Seen.Nodup ∧ p.Seen.length ≤ 64
section
variable {n : Nat} {c : D.Config} {b : D.Book} {p q : D.Page} {now : Int}
theorem checkV_facts (h : checkV b p = true) : CkF b p := by
  unfold checkV startsV seenV at h
  simp only [Bool.and_eq_true, inV_is, decide_eq_true_eq] at h
  obtain ⟨⟨⟨⟨⟨⟨⟨⟨⟨⟨⟨⟨⟨⟨h1, h2⟩, h3⟩, h4⟩, h5⟩, h6⟩, h7⟩, h8⟩, h9⟩, h10⟩, h11⟩, h12⟩, h13⟩, h14⟩, h15⟩ := h
  exact ⟨h1, by omega, h3, h5, h6, h7, h8, h9, h10, h11, h12, h13.2, h14, h15⟩
theorem CkF.polOK (h : CkF b p) (hb : BookOK b) : PolOK b.Teams.length (polOf b p) := hb.pol _ (nth_mem (by have := h.pol; omega))
theorem PageLen.stepQ (h : PageLen p) (hc : CkF b p) (hb : BookOK b) : PageLen (stepQ c b p) := by
  have h1 := hc.starts; have h2 := hc.next
  have h3 := countV_is (hc.polOK hb)
  unfold Go.Proofs.YtfhcigjkfelnfaaGreat.stepQ
  split
  · exact ⟨h.st, h.pe, h.de, h.se, h.nx⟩
  · split
    · exact ⟨h.st, h.pe, h.de, h.se, h.nx⟩
    · refine ⟨by dsimp only; simp; omega, ?_, by dsimp only; simp, h.se, by dsimp only; omega⟩
      refine mem_snoc h.pe ⟨?_, by dsimp only; omega, by dsimp only; omega⟩
      have := callV_len (c := c) (b := b) (s := stepAt b p) (t := p.Due)
      dsimp only; omega
theorem PageLen.page0 : PageLen page0 := ⟨by simp [Go.Proofs.YtfhcigjkfelnfaaGreat.page0], by simp [Go.Proofs.YtfhcigjkfelnfaaGreat.page0], by simp [Go.Proofs.YtfhcigjkfelnfaaGreat.page0], by simp [Go.Proofs.YtfhcigjkfelnfaaGreat.page0], by simp [Go.Proofs.YtfhcigjkfelnfaaGreat.page0]⟩
theorem PageLen.stepV (h : PageLen p) (hb : BookOK b) : PageLen (stepV c b p).1 := by
  unfold Go.Proofs.YtfhcigjkfelnfaaGreat.stepV
  split
  · exact .page0
  · rename_i hc
    split
    · exact .page0
    · split
      · exact .page0
      · exact h.stepQ (checkV_facts (by simpa using hc)) hb
theorem PageLen.answerV {a : D.Answer} (h : PageLen p) (hb : BookOK b) : PageLen (answerV b p a).1 := by
  unfold Go.Proofs.YtfhcigjkfelnfaaGreat.answerV
  split
  · exact .page0
  · rename_i hc
    have hf : CkF b p := checkV_facts (by cases hk : checkV b p <;> simp_all)
    have hx := hf.starts; have hs := hf.seen
    split
    · exact .page0
    · split
      · exact h
      · split
        · exact .page0
        · have hd : (declQ p a).length ≤ 40 := by
            unfold declQ
            split
            · have hde := setV_is.1 hf.declined
              have h32 : (plusV p.Declined a.Person).length ≤ p.Declined.length + 1 := by
                unfold plusV
                rw [List.length_append, List.length_cons]
                have hsum : ∀ l : List Int, (l.filter (fun z => decide (z < a.Person))).length + (l.filter (fun z => decide (a.Person < z))).length ≤ l.length := by
                  intro l
                  induction l with
                  | nil => simp
                  | cons y l ih =>
                    rw [List.filter_cons, List.filter_cons, List.length_cons]
                    by_cases g1 : y < a.Person
                    · rw [if_pos (by simpa using g1), if_neg (by simp; omega), List.length_cons]; omega
                    · by_cases g2 : a.Person < y
                      · rw [if_neg (by simpa using g1), if_pos (by simpa using g2), List.length_cons]; omega
                      · rw [if_neg (by simpa using g1), if_neg (by simpa using g2)]; omega
                have := hsum p.Declined
                omega
              have hlen : p.Declined.length ≤ 32 := by
                have e : p.Declined = ((List.range 32).map fun (i : Nat) => (i : Int)).filter fun z => p.Declined.contains z := asc_ext hde.1 (List.Pairwise.filter _ asc32) fun z => by
                  simp only [List.mem_filter, List.contains_iff_mem, List.mem_map, List.mem_range]
                  exact ⟨fun hz => ⟨⟨z.toNat, by have := hde.2 z hz; omega, by have := hde.2 z hz; omega⟩, hz⟩, fun hz => hz.2⟩
                rw [e]
                exact Nat.le_trans (List.length_filter_le _ _) (by simp)
              omega
            · exact h.de
          have hse : (p.Seen ++ [a.ID]).length ≤ 100 := by simp; omega
          unfold answerQ
          split
          · split
            · exact ⟨h.st, h.pe, h.de, hse, h.nx⟩
            · exact ⟨h.st, h.pe, h.de, hse, h.nx⟩
          · split
            · exact ⟨h.st, h.pe, hd, hse, h.nx⟩
            · split
              · exact ⟨h.st, h.pe, h.de, hse, h.nx⟩
              · split
                · exact ⟨by dsimp only; simp; omega, mem_snoc h.pe ⟨by simp, by dsimp only; omega, by dsimp only; omega⟩, by dsimp only; simp, hse, h.nx⟩
                · exact ⟨h.st, h.pe, h.de, hse, h.nx⟩
theorem PageInv.plen {Q : Int → D.Start → Prop} {M : Int} (h : PageInv Q M b p) (hb : BookOK b) : PageLen p := by
  obtain ⟨h1, h2, h3⟩ := h.len hb
  have hf := checkV_facts (h.check hb)
  have hc := countV_is (h.polOK hb)
  have hlen : ∀ {l : List Int}, setV l = true → l.length ≤ 40 := by
    intro l hl
    have hde := setV_is.1 hl
    have e : l = ((List.range 32).map fun (i : Nat) => (i : Int)).filter fun z => l.contains z := asc_ext hde.1 (List.Pairwise.filter _ asc32) fun z => by
      simp only [List.mem_filter, List.contains_iff_mem, List.mem_map, List.mem_range]
      exact ⟨fun hz => ⟨⟨z.toNat, by have := hde.2 z hz; omega, by have := hde.2 z hz; omega⟩, hz⟩, fun hz => hz.2⟩
    rw [e]
    exact Nat.le_trans (List.length_filter_le _ _) (by simp)
  refine ⟨by omega, fun s hs => ?_, hlen h.declined, by have := hf.seen; omega, by have := hf.next; omega⟩
  obtain ⟨t, g1, _⟩ := h.goes
  obtain ⟨k1, k2, k3⟩ := g1.scan
  obtain ⟨i, hi, rfl⟩ := List.getElem_of_mem hs
  have := k3 i hi
  have hkk : kN p.Starts i ≤ 300 := by
    unfold kN
    have := List.length_filter_le (fun s : D.Start => decide (0 ≤ s.K)) (p.Starts.take i)
    have := List.length_take_le i p.Starts
    omega
  rw [show nth p.Starts i = p.Starts[i] by simp [nth, List.getD_eq_getElem?_getD, List.getElem?_eq_getElem hi]] at this
  exact ⟨hlen this.2.1, by omega, by omega⟩
end
end Go.Proofs.YtfhcigjkfelnfaaGreat
/-
  Pages on their way: what the program's steps and runs compute.
-/
set_option maxRecDepth 100000
set_option linter.unusedVariables false
set_option linter.unusedSimpArgs false
namespace Go.Proofs.YtfhcigjkfelnfaaGreat
open Go AM
attribute [local irreducible] dueV stepV runV checkV
section
variable {n : Nat} {c : D.Config} {b : D.Book} {p q : D.Page} {now : Int}
theorem due_is : escalate_Due 1000 p = some (dueV p) := by
  unfold escalate_Due dueV
  by_cases h0 : p.State = 0
  · simp [AM.cnd, h0]
  · by_cases h2 : p.State = 2 <;> simp [AM.cnd, h0, h2]
def partV (q : D.Policy) (i : Int) : Int × Int × Bool := if 0 ≤ i ∧ i < countV q then (i % (q.Steps.length : Int), i / (q.Steps.length : Int), true) else (0, 0, false)
theorem mod_in {q : D.Policy} {i : Int} (h : 1 ≤ q.Steps.length) : 0 ≤ i % (q.Steps.length : Int) ∧ i % (q.Steps.length : Int) < (q.Steps.length : Int) :=
  ⟨Int.emod_nonneg _ (by omega), Int.emod_lt_of_pos _ (by omega)⟩
end
end Go.Proofs.YtfhcigjkfelnfaaGreat
