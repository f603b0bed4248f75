/-
  What package pagewatchmade makes (dice, targets, books), of what is reckoned of its code.
-/
import Derived.Test.YtbcginibldjnaaaGreatBLaw
import Derived.Test.YtbcginibldjnaaaGreatFnN
set_option linter.unusedVariables false
set_option linter.unusedSimpArgs false
namespace Go.Proofs.YtbcginibldjnaaaGreat
open Go AM
theorem tmod_within {a n : Int} (hn : 1 ≤ n) : -n < a.tmod n ∧ a.tmod n < n := by
  rcases (show a < 0 ∨ 0 ≤ a by omega) with h | h
  · have e : a.tmod n = - ((-a).tmod n) := by rw [Int.neg_tmod, Int.neg_neg]
    rw [e, Int.tmod_eq_emod_of_nonneg (by omega)]
    have h1 := Int.emod_lt_of_pos (-a) (b := n) (by omega)
    have h2 := Int.emod_nonneg (-a) (b := n) (by omega)
    omega
  · rw [Int.tmod_eq_emod_of_nonneg h]
    have h1 := Int.emod_lt_of_pos a (b := n) (by omega)
    have h2 := Int.emod_nonneg a (b := n) (by omega)
    omega
/-- Dice over a list. -/
structure DiceOK (L : List Int) (d : D.Dice) : Prop where
  l : d.L = L
  lo : 0 ≤ d.At
  hi : d.At ≤ (L.length : Int)
variable {fu : Nat} {L : List Int}
theorem next_ok {d : D.Dice} {n : Int} (hL : L.length ≤ 500) (hd : DiceOK L d) (hn : n ≤ 1000000) :
    Ok (made_Dice_Next fu d n) fun r => DiceOK L r.2 ∧ 0 ≤ r.1 ∧ (1 ≤ n → r.1 < n) ∧ (n < 1 → r.1 = 0) := by
  unfold made_Dice_Next AM.join
  have h0 := hd.lo
  have h1 := hd.hi
  have hl : ((d.L.length : Nat) : Int) = (L.length : Int) := by rw [hd.l]
  refine Ok.ite (fun h => Ok.s ⟨hd, Int.le_refl _, fun h => by show (0 : Int) < n; omega, fun _ => rfl⟩) fun h2 => Ok.ite (fun h => Ok.s ⟨hd, Int.le_refl _, fun h => by show (0 : Int) < n; omega, fun _ => rfl⟩) fun h3 => ?_
  dsimp only
  refine Ok.at hd.lo (by omega) (Ok.nzc (by omega) ?_)
  have ht := tmod_within (a := nth d.L d.At.toNat) (n := n) (by omega)
  rw [wrap_p (x := d.At + 1) (by omega) (by omega)]
  refine Ok.ite (fun h4 => ?_) (fun h4 => ?_)
  · rw [wrap_p (by omega) (by omega)]
    exact Ok.s ⟨⟨hd.l, by show 0 ≤ d.At + 1; omega, by show d.At + 1 ≤ _; omega⟩, by dsimp only; omega, fun _ => by dsimp only; omega, fun h => by omega⟩
  · exact Ok.s ⟨⟨hd.l, by show 0 ≤ d.At + 1; omega, by show d.At + 1 ≤ _; omega⟩, by dsimp only; omega, fun _ => by dsimp only; omega, fun h => by omega⟩
theorem one_ok {d : D.Dice} {l : List Int} (hL : L.length ≤ 500) (hd : DiceOK L d) (hl : 1 ≤ l.length) (hl2 : l.length ≤ 1000) :
    Ok (made_Dice_One fu d l) fun r => DiceOK L r.2 ∧ r.1 ∈ l := by
  unfold made_Dice_One
  refine Ok.opt (next_ok hL hd (by omega)) fun ⟨v, d1⟩ ⟨h1, h2, h3, _⟩ => ?_
  have h4 := h3 (by omega)
  dsimp only at h2 h4 ⊢
  exact Ok.at h2 h4 (Ok.s ⟨h1, nth_mem (by omega)⟩)
theorem target_ok {d : D.Dice} {b : D.Book} (hL : L.length ≤ 500) (hd : DiceOK L d) (hb : b.Teams.length ≤ 100) :
    Ok (made_Dice_Target_1c0c1 fu d b) fun r => DiceOK L r.2 := by
  unfold made_Dice_Target_1c0c1
  refine Ok.opt (next_ok hL hd (by omega)) fun ⟨v, d1⟩ ⟨h1, h2, h3, _⟩ => ?_
  have h4 := h3 (by omega)
  dsimp only at h1 h2 h4 ⊢
  refine Ok.join (fun y => 0 ≤ y.1.1 ∧ y.1.1 < 3 ∧ DiceOK L y.2.1 ∧ y.2.2.2.2.1 = b.Teams ∧ y.2.2.2.2.2.1 = b.Policies) (fun y hy => ?_) (fun J hJ => ?_)
  · obtain ⟨⟨a2, ⟨⟩⟩, d2, ⟨⟩, tg, ts, ps, ⟨⟩⟩ := y
    obtain ⟨g1, g2, g3, g4, g5⟩ := hy
    dsimp only at g1 g2 g3 g4 g5 ⊢
    subst g4; subst g5
    refine Ok.at g1 (by simp; omega) ?_
    have hm : nth [4, 2, ((b.Teams.length : Nat) : Int)] a2.toNat ∈ [4, 2, ((b.Teams.length : Nat) : Int)] := nth_mem (by simp; omega)
    refine Ok.opt (next_ok hL g3 ?_) fun ⟨v2, d3⟩ ⟨k1, _⟩ => ?_
    · simp only [List.mem_cons, List.not_mem_nil, or_false] at hm; omega
    · dsimp only at k1 ⊢
      exact Ok.sameC (Ok.sameC (Ok.s k1))
  · refine Ok.ite (fun h5 => Ok.ite (fun h6 => hJ _ ⟨?_, ?_, h1, rfl, rfl⟩) (fun h6 => hJ _ ⟨h2, h4, h1, rfl, rfl⟩)) (fun h5 => hJ _ ⟨h2, h4, h1, rfl, rfl⟩)
    · show (0 : Int) ≤ 0; omega
    · show (0 : Int) < 3; omega
theorem book_ok {d : D.Dice} (hL : L.length ≤ 500) (hd : DiceOK L d) (hf : 10 ≤ fu) :
    Ok (made_Dice_Book fu d) fun r => DiceOK L r.2 ∧ r.1.Teams.length ≤ 2 ∧ r.1.Policies.length ≤ 3 := by
  unfold made_Dice_Book
  refine Ok.opt (next_ok hL hd (by omega)) fun ⟨v, d1⟩ ⟨h1, h2, h3, _⟩ => ?_
  have h4 := h3 (by omega)
  dsimp only at h1 h2 h4 ⊢
  refine Ok.loop (fun m x => DiceOK L x.2.1 ∧ 0 ≤ x.1.1 ∧ x.1.1 + (x.2.2.2.2.1.length : Int) ≤ 2 ∧ x.1.1.toNat = m) (m := v.toNat) (by omega) ⟨h1, h2, by dsimp only; simp; omega, rfl⟩ ?_
  rintro m ⟨⟨a3, ⟨⟩⟩, d2, ⟨⟩, ⟨⟩, ts, ⟨⟩⟩ ⟨i1, i2, i3, i4⟩ k hk
  dsimp only at i1 i2 i3 i4 ⊢
  refine Ok.ite (fun h5 => ?_) (fun h5 => ?_)
  · refine Ok.at (by omega) (by simp; omega) ?_
    refine Ok.opt (next_ok hL i1 (by omega)) fun ⟨v2, d3⟩ ⟨j1, _⟩ => ?_
    dsimp only at j1 ⊢
    refine Ok.join (fun y => DiceOK L y.2.1 ∧ y.1.1 = a3 ∧ y.2.2.2.2.2.1 = ts) (fun y hy => ?_) (fun J hJ => ?_)
    · obtain ⟨⟨a9, ⟨⟩⟩, d4, ⟨⟩, ⟨⟩, tm, ts2, ⟨⟩⟩ := y
      obtain ⟨q1, q2, q3⟩ := hy
      dsimp only at q1 q2 q3 ⊢
      subst q2; subst q3
      refine Ok.lec (by simp; omega) ?_
      rw [wrap_p (by omega) (by omega)]
      exact hk (a9 - 1).toNat _ (by omega) ⟨q1, by dsimp only; omega, by dsimp only; rw [List.length_append]; simp only [List.length_cons, List.length_nil]; omega, rfl⟩
    · refine Ok.opt (next_ok hL j1 (by omega)) fun ⟨v3, d4⟩ ⟨j2, _⟩ => ?_
      dsimp only at j2 ⊢
      refine Ok.ite (fun _ => ?_) (fun _ => hJ _ ⟨j2, rfl, rfl⟩)
      refine Ok.opt (next_ok hL j2 (by omega)) fun ⟨v4, d5⟩ ⟨j3, _⟩ => ?_
      dsimp only at j3 ⊢
      exact Ok.lec (by simp) (hJ _ ⟨j3, rfl, rfl⟩)
  · refine Ok.opt (next_ok hL i1 (by omega)) fun ⟨v2, d3⟩ ⟨j1, j2, j3, _⟩ => ?_
    have j4 := j3 (by omega)
    dsimp only at j1 j2 j4 ⊢
    rw [wrap_p (by omega) (by omega)]
    refine Ok.loop (fun m x => DiceOK L x.2.1 ∧ 0 ≤ x.1.1 ∧ x.2.2.2.2.1.length ≤ 2 ∧ x.1.1 + (x.2.2.2.2.2.1.length : Int) ≤ 3 ∧ x.1.1.toNat = m) (m := (1 + v2).toNat) (by omega) ⟨j1, by dsimp only; omega, by dsimp only; omega, by dsimp only; simp; omega, rfl⟩ ?_
    rintro m ⟨⟨a21, ⟨⟩⟩, d4, ⟨⟩, ⟨⟩, ts2, ps, ⟨⟩⟩ ⟨n1, n2, n3, n4, n5⟩ k2 hk2
    dsimp only at n1 n2 n3 n4 n5 ⊢
    refine Ok.ite (fun h6 => ?_) (fun h6 => Ok.s ⟨n1, n3, by dsimp only; omega⟩)
    refine Ok.at (by omega) (by simp; omega) ?_
    refine Ok.opt (one_ok hL n1 (by simp) (by simp)) fun ⟨v3, d5⟩ ⟨o1, _⟩ => ?_
    dsimp only at o1 ⊢
    refine Ok.opt (next_ok hL o1 (by omega)) fun ⟨v4, d6⟩ ⟨o2, o3, o4, _⟩ => ?_
    have o5 := o4 (by omega)
    dsimp only at o2 o3 o5 ⊢
    rw [wrap_p (x := 1 + v4) (by omega) (by omega)]
    refine Ok.loop (fun m x => DiceOK L x.2.1 ∧ x.1.1 = a21 ∧ 0 ≤ x.1.2.1 ∧ x.2.2.2.2.2.1 = ts2 ∧ x.2.2.2.2.2.2.1 = ps ∧ x.1.2.1 + (x.2.2.2.2.2.2.2.1.length : Int) ≤ 3 ∧ x.1.2.1.toNat = m) (m := (1 + v4).toNat) (by omega) ⟨o2, rfl, by dsimp only; omega, rfl, rfl, by dsimp only; simp; omega, rfl⟩ ?_
    rintro m3 ⟨⟨a31, a32, ⟨⟩⟩, d7, ⟨⟩, ⟨⟩, ⟨nm, rp, ⟨⟩⟩, ts3, ps3, ss, ⟨⟩⟩ ⟨p1, p2, p3, p4, p5, p6, p7⟩ k3 hk3
    dsimp only at p1 p2 p3 p4 p5 p6 p7 ⊢
    subst p2; subst p4; subst p5
    refine Ok.ite (fun h7 => ?_) (fun h7 => ?_)
    · refine Ok.opt (one_ok hL p1 (by simp) (by simp)) fun ⟨v5, d8⟩ ⟨r1, _⟩ => ?_
      dsimp only at r1 ⊢
      refine Ok.opt (next_ok hL r1 (by omega)) fun ⟨v6, d9⟩ ⟨r2, _⟩ => ?_
      dsimp only at r2 ⊢
      refine Ok.opt (next_ok hL r2 (by omega)) fun ⟨v7, d10⟩ ⟨r3, r4, r5, _⟩ => ?_
      have r6 := r5 (by omega)
      dsimp only at r3 r4 r6 ⊢
      refine Ok.loop (fun m x => DiceOK L x.2.1 ∧ x.1.1 = a31 ∧ x.1.2.1 = a32 ∧ 0 ≤ x.1.2.2.1 ∧ x.2.2.2.2.2.2.1 = ts3 ∧ x.2.2.2.2.2.2.2.1 = ps3 ∧ x.2.2.2.2.2.2.2.2.1 = ss ∧ x.1.2.2.1 + (x.2.2.2.2.2.2.2.2.2.1.length : Int) ≤ 2 ∧ x.1.2.2.1.toNat = m) (m := v7.toNat) (by omega) ⟨r3, rfl, rfl, by dsimp only; omega, rfl, rfl, rfl, by dsimp only; simp; omega, rfl⟩ ?_
      rintro m4 ⟨⟨a46, a47, a48, ⟨⟩⟩, d11, ⟨⟩, ⟨⟩, ⟨nm2, rp2, ⟨⟩⟩, ⟨wt, ur, ⟨⟩⟩, ts4, ps4, ss4, tg, ⟨⟩⟩ ⟨u1, u2, u3, u4, u5, u6, u7, u8, u9⟩ k4 hk4
      dsimp only at u1 u2 u3 u4 u5 u6 u7 u8 u9 ⊢
      subst u2; subst u3; subst u5; subst u6; subst u7
      refine Ok.ite (fun h8 => ?_) (fun h8 => ?_)
      · refine Ok.opt (target_ok hL u1 (by dsimp only; omega)) fun ⟨v8, d12⟩ w1 => ?_
        dsimp only at w1 ⊢
        refine Ok.lec (by simp; omega) ?_
        rw [wrap_p (by omega) (by omega)]
        exact hk4 (a48 - 1).toNat _ (by omega) ⟨w1, rfl, rfl, by dsimp only; omega, rfl, rfl, rfl, by dsimp only; rw [List.length_append]; simp only [List.length_cons, List.length_nil]; omega, rfl⟩
      · refine Ok.lec (by simp; omega) ?_
        rw [wrap_p (by omega) (by omega)]
        exact hk3 (a47 - 1).toNat _ (by omega) ⟨u1, rfl, by dsimp only; omega, rfl, rfl, by dsimp only; rw [List.length_append]; simp only [List.length_cons, List.length_nil]; omega, rfl⟩
    · refine Ok.lec (by simp; omega) ?_
      rw [wrap_p (by omega) (by omega)]
      exact hk2 (a31 - 1).toNat _ (by omega) ⟨p1, by dsimp only; omega, n3, by dsimp only; rw [List.length_append]; simp only [List.length_cons, List.length_nil]; omega, rfl⟩
end Go.Proofs.YtbcginibldjnaaaGreat
