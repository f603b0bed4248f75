/-
  The law EscalateNew, of what is reckoned of its code: it comes to 'true' for all arguments.
-/
import Derived.Test.YtbcginibldjnaaaGreatBMade
set_option linter.unusedVariables false
set_option linter.unusedSimpArgs false
namespace Go.Proofs.YtbcginibldjnaaaGreat
open Go AM
theorem sane_true : law29_sane 1000 = some true := by kernel_rfl
theorem starts_nil : r29_SameStarts 1000 [] [] = some true := by kernel_rfl
theorem same_nil : r25_Same 1000 [] [] = some true := by kernel_rfl
theorem new_eq {b : D.Book} {i p s : Int} : escalate_New 1000 b i p s = r29_New 1000 b i p s := rfl
theorem in_ok {n lo hi : Int} : Ok (r25_In 1000 n lo hi) fun _ => True := by
  unfold r25_In
  exact Ok.ite (fun _ => Ok.ite (fun _ => Ok.s trivial) (fun _ => Ok.s trivial)) (fun _ => Ok.s trivial)
/-- A page without lists is equal to itself. -/
theorem page_same {p : D.Page} (h1 : p.Starts = []) (h2 : p.Declined = []) (h3 : p.Seen = []) : r29_Same 1000 p p = some true := by
  unfold r29_Same
  rw [h1, h2, h3, starts_nil, same_nil]
  simp only [decide_true, AM.cnd, AM.optc]
theorem new_ok {b : D.Book} {i p s : Int} : Ok (r29_New 1000 b i p s) fun r => r29_Same 1000 r.1 r.1 = some true := by
  unfold r29_New
  refine Ok.join (fun _ => True) (fun y _ => ?_) (fun J hJ => ?_)
  · obtain ⟨⟨a0, a1, a2, ⟨⟩⟩, a3, a4, ⟨⟩⟩ := y
    dsimp only
    refine Ok.opt in_ok fun a5 _ => ?_
    exact Ok.cnd (fun _ => Ok.s (page_same rfl rfl rfl)) (fun _ => Ok.s (page_same rfl rfl rfl))
  · refine Ok.opt in_ok fun a7 _ => ?_
    refine Ok.cnd (fun _ => ?_) (fun _ => Ok.s (page_same rfl rfl rfl))
    refine Ok.opt in_ok fun a8 _ => ?_
    exact Ok.cnd (fun _ => hJ _ trivial) (fun _ => Ok.s (page_same rfl rfl rfl))
theorem escalateNew_true (t : List Int) (id pol start : Int) : law29_EscalateNew 1000 t id pol start = some true := by
  refine Ok.eq ?_
  unfold law29_EscalateNew made_Light made_Roll
  simp only [optc_s]
  refine Ok.cnd (fun h => ?_) (fun h => ?_)
  · rw [sane_true]; exact Ok.s rfl
  · have hL : t.length ≤ 500 := by
      have : decide (((t.length : Nat) : Int) ≤ 500) = true := by simpa using h
      have := of_decide_eq_true this
      omega
    refine Ok.opt (book_ok hL ⟨rfl, Int.le_refl _, by dsimp only; omega⟩ (by omega)) fun ⟨b, d1⟩ ⟨h1, _⟩ => ?_
    dsimp only at h1 ⊢
    refine Ok.opt (one_ok hL h1 (by simp) (by simp)) fun ⟨a5, d2⟩ ⟨h2, _⟩ => ?_
    dsimp only at h2 ⊢
    refine Ok.opt (next_ok hL h2 (by omega)) fun ⟨a7, d3⟩ ⟨h3, _⟩ => ?_
    dsimp only at h3 ⊢
    refine Ok.opt (one_ok hL h3 (by simp) (by simp)) fun ⟨a9, d4⟩ ⟨h4, _⟩ => ?_
    dsimp only at h4 ⊢
    obtain ⟨l, hl⟩ : ∃ l : List D.Arr3Int, l = ((D.Arr3Int.mk id pol start) :: ((D.Arr3Int.mk 1 pol start) :: ((D.Arr3Int.mk id 0 864000) :: ((D.Arr3Int.mk a5 (IntKind.wrap .i64 (a7 - 1)) a9) :: [])))) := ⟨_, rfl⟩
    rw [← hl]
    have hlen : l.length = 4 := by rw [hl]; rfl
    refine Ok.loop (fun m x => x.1.1 = l ∧ x.1.2.1 = 4 ∧ 0 ≤ x.1.2.2.1 ∧ (4 - x.1.2.2.1).toNat = m) (m := 4) (by omega) ⟨rfl, by dsimp only; rw [hlen]; rfl, by dsimp only; omega, rfl⟩ ?_
    rintro m ⟨⟨a12, a13, a14, ⟨⟩⟩, a15, ⟨⟩⟩ ⟨g1, g2, g3, g4⟩ k hk
    dsimp only at g1 g2 g3 g4 ⊢
    subst g1; subst g2
    refine Ok.ite (fun h5 => ?_) (fun h5 => ?_)
    · unfold AM.join
      refine Ok.at g3 (by omega) ?_
      obtain ⟨⟨pg, e⟩, hp, hs⟩ := new_ok (b := a15) (i := (nth a12 a14.toNat).a0) (p := (nth a12 a14.toNat).a1) (s := (nth a12 a14.toNat).a2)
      rw [new_eq, hp, optc_s, optc_s]
      dsimp only at hs ⊢
      refine Ok.ite (fun h => absurd rfl h) fun _ => ?_
      rw [hs, optc_s]
      refine Ok.cnd (fun _ => ?_) (fun h => by simp at h)
      rw [wrap_p (by omega) (by omega)]
      exact hk (4 - (a14 + 1)).toNat _ (by omega) ⟨rfl, rfl, by dsimp only; omega, rfl⟩
    · rw [sane_true]; exact Ok.s rfl
end Go.Proofs.YtbcginibldjnaaaGreat
