/-
  The typed layer, part P: the contract of a function, out of what is reckoned of its code. No project text.
-/
import Derived.Test.YtfhcigjkfelnfaaGreatQRowAuditDoublesG
import Derived.Test.YtfhcigjkfelnfaaGreatProg
import Derived.RangeFuncNested
import Derived.RangeFuncBound
import Derived.RangeFuncCalls
import Derived.RangeFuncLeaves
import Derived.Shelf.Abstract
import Derived.Shelf.RegionOpen
import Derived.WalkKit
import Derived.OwnWalkIn
import Derived.TacticsInMore
import Derived.LoopNIn
import Derived.LoopIn
import Derived.Scope
set_option linter.unusedVariables false
set_option linter.unusedSimpArgs false
namespace Go.Proofs.YtfhcigjkfelnfaaGreat.AM
open Go
variable {L L' : Lens} {ts ts' : TS} {hs hs' : HS}
theorem newM_keys {M : Nat → Prop} {ρ : Name → Loc} {h h' : List (Name × AO)} (h1 : ∀ n o', look n h' = some o' → ∃ o, look n h = some o) (h2 : ∀ n o, look n h = some o → ∃ o', look n h' = some o') : newM M ρ h = newM M ρ h' := by
  funext b
  exact propext (or_congr_right ⟨fun ⟨n, o, k1, k2⟩ => by obtain ⟨o', k3⟩ := h2 n o k1; exact ⟨n, o', k3, k2⟩, fun ⟨n, o, k1, k2⟩ => by obtain ⟨o', k3⟩ := h1 n o k1; exact ⟨n, o', k3, k2⟩⟩)
theorem After.le {ρ : Name → Loc} {M : Nat → Prop} {w : World} {pre : List (Name × AO)} {u : Value} {v v' : AV} {h h' : List (Name × AO)} {ρ' : Name → Loc} {w' : World} (ha : After ρ M w pre u v h ρ' w')
    (hv : ∀ (ρ : Name → Loc) (H : Heap) (M : Nat → Prop) (w : World) (u : Value), v.R ρ H M w u → v'.R ρ H M w u)
    (h1 : ∀ n o', look n h' = some o' → ∃ o, look n h = some o ∧ (o = o' ∨ ∃ cs ds, o = .box cs ∧ o' = .box ds ∧ AVleL cs ds)) (h2 : ∀ n o, look n h = some o → ∃ o', look n h' = some o') : After ρ M w pre u v' h' ρ' w' := by
  have hM : newM M ρ' h = newM M ρ' h' := newM_keys (fun n o' hn => by obtain ⟨o, k, _⟩ := h1 n o' hn; exact ⟨o, k⟩) h2
  have hst : HStep ρ' (lookH h) ρ' (lookH h') := fun n o hn => by
    obtain ⟨o', ho'⟩ := h2 n o hn
    obtain ⟨o2, ho2, hle⟩ := h1 n o' ho'
    change look n h = some o at hn
    rw [hn] at ho2; cases ho2
    change stays o (ρ' n) (look n h') (ρ' n)
    rw [ho']
    rcases hle with rfl | ⟨cs, ds, rfl, rfl, _⟩
    · exact stays_refl _ _
    · rfl
  have hnn : ∀ n, lookH h n = none → lookH h' n = none := fun n hn => by
    cases hc : lookH h' n with
    | none => rfl
    | some o' =>
      obtain ⟨o, ho, _⟩ := h1 n o' hc
      change look n h = none at hn
      rw [ho] at hn; simp at hn
  have hconvs : ∀ {xs : List AV} {us : List Value}, AV.Rs ρ' (lookH h) (newM M ρ' h) w' xs us → AV.Rs ρ' (lookH h') (newM M ρ' h) w' xs us := fun hr =>
    hr.step (Ext.refl (fun _ => False) _) (fun _ hb => hb.elim) (fun b _ hb => hb) hst (fun n _ => hnn n)
  refine ⟨?_, fun n o' hn => ?_, fun n m o o' b g1 g2 => ?_, fun n o b g1 g2 => ?_, ha.ext, fun n o hn => ?_⟩
  · rw [← hM]
    exact hv _ _ _ _ _ (ha.val.step (Ext.refl (fun _ => False) _) (fun _ hb => hb.elim) (fun b _ hb => hb) hst (fun n _ => hnn n))
  · obtain ⟨o, ho, hle⟩ := h1 n o' hn
    have hobj := ha.objs n o ho
    rw [← hM]
    rcases hle with rfl | ⟨cs, ds, rfl, rfl, hle⟩
    · cases o with
      | box cells => obtain ⟨b, T, cs, k1, k2, k3, k4⟩ := hobj; exact ⟨b, T, cs, k1, k2, k3, hconvs k4⟩
      | arr es rows => exact hobj
      | hole es pre row post => obtain ⟨k0, k0', k1, b, T, cs, k3, k4, k5, k6, k7, k8, k9⟩ := hobj; exact ⟨k0, k0', k1, b, T, cs, k3, k4, k5, k6, k7, hconvs k8, k9⟩
      | fact a x => exact ⟨hobj.1, hobj.2.step (Ext.refl (fun _ => False) _) (fun _ hb => hb.elim) (fun b _ hb => hb) hst (fun n _ => hnn n)⟩
      | obj x => exact hobj
    · obtain ⟨b, T, us', k1, k2, k3, k4⟩ := hobj
      exact ⟨b, T, us', k1, k2, k3, Rs_le hle _ (hconvs k4)⟩
  · obtain ⟨p, k1, _⟩ := h1 n o g1
    obtain ⟨q, k2, _⟩ := h1 m o' g2
    exact ha.inj n m p q b k1 k2
  · obtain ⟨p, k1, _⟩ := h1 n o g1
    exact ha.own n p b k1 g2
  · obtain ⟨o1, k1, k2⟩ := ha.keep n o hn
    obtain ⟨o2, k3⟩ := h2 n o1 k1
    refine ⟨o2, k3, ?_⟩
    obtain ⟨o3, k4, hle⟩ := h1 n o2 k3
    rw [k1] at k4; cases k4
    rcases hle with rfl | ⟨cs, ds, rfl, rfl, _⟩
    · exact k2
    · cases o <;> simp only [stays] at k2 ⊢ <;> exact k2
section
variable {u v : Nat}
theorem Sh.put_ver {s : Sh} {X : Type} {x : s.prod X} (h : ∀ n, n ∈ s.owns → L n u = L' n v) : (s.put u X x).1.er L = (s.put v X x).1.er L' ∧ (s.put u X x).2 = (s.put v X x).2 := by
  cases s with
  | own nm => exact ⟨by simp only [Sh.put, BV.er]; rw [h nm (by simp [Sh.owns])], rfl⟩
  | view nm => exact ⟨by simp only [Sh.put, BV.er]; rw [h nm (by simp [Sh.owns])], rfl⟩
  | clo f caps => exact ⟨by simp only [Sh.put, BV.er]; congr 1; simp only [erL_map, List.map_map]; exact List.map_congr_left fun n _ => by simp only [Function.comp, BV.er], rfl⟩
  | _ => exact ⟨by simp only [Sh.put, BV.er], rfl⟩
theorem TL.put_ver : ∀ {l : List Sh} {x : TL l}, (∀ n, n ∈ l.flatMap Sh.owns → L n u = L' n v) → erL L (TL.put u l x) = erL L' (TL.put v l x)
  | [], x, _ => by simp only [TL.put, erL]
  | s :: r, x, h => by
    have h1 := Sh.put_ver (s := s) (x := x) (L := L) (L' := L') (u := u) (v := v) (fun n hn => h n (by simp [hn]))
    have h2 := TL.put_ver (l := r) (x := (s.put u _ x).2) (fun n hn => h n (by rw [List.flatMap_cons]; exact List.mem_append_right _ hn))
    simp only [TL.put, erL, h1.1, h2]
    rw [h1.2]
theorem SSh.put_ver {s : SSh} {X : Type} {x : s.prod X} (h : ∀ n, n ∈ s.owns → L n u = L' n v) : (s.put u X x).1.er L = (s.put v X x).1.er L' ∧ (s.put u X x).2 = (s.put v X x).2 := by
  cases s with
  | one s => exact Sh.put_ver h
  | st t => simp only [SSh.put, BV.er, and_true]; rw [erL_isP (tb_isP t x.1), erL_isP (tb_isP t x.1)]
  | agg l => simp only [SSh.put, BV.er, and_true]; rw [TL.put_ver h]
theorem SL.put_ver : ∀ {l : List SSh} {x : SL l}, (∀ n, n ∈ l.flatMap SSh.owns → L n u = L' n v) → erL L (SL.put u l x) = erL L' (SL.put v l x)
  | [], x, _ => by simp only [SL.put, erL]
  | s :: r, x, h => by
    have h1 := SSh.put_ver (s := s) (x := x) (L := L) (L' := L') (u := u) (v := v) (fun n hn => h n (by simp [hn]))
    have h2 := SL.put_ver (l := r) (x := (s.put u _ x).2) (fun n hn => h n (by rw [List.flatMap_cons]; exact List.mem_append_right _ hn))
    simp only [SL.put, erL, h1.1, h2]
    rw [h1.2]
theorem OSh.put_ver {s : OSh} {x : s.T} (h : ∀ n, n ∈ s.owns → L n u = L' n v) : (s.put u x).er L = (s.put v x).er L' := by
  cases s with
  | box l => exact congrArg AO.box (TL.put_ver (l := l) (x := x) h)
  | boxst t => simp only [OSh.put, BO.er]; rw [erL_isP (tb_isP t x), erL_isP (tb_isP t x)]
  | arr t => simp only [OSh.put, BO.er]
  | arrs t => simp only [OSh.put, BO.er]
  | sm => simp only [OSh.put, BO.er]
end
theorem look_OL {u : Nat} {n : Name} {b : BO} : ∀ {l : List (Name × OSh)} {y : OL l}, look n (OL.put u l y) = some b → ∃ (p : Name × OSh) (x : p.2.T), p ∈ l ∧ look n l = some p.2 ∧ b = p.2.put u x ∧ ∀ w, look n (OL.put w l y) = some (p.2.put w x)
  | [], y, h => by change look n [] = some b at h; simp [look] at h
  | p :: l, y, h => by
    change look n ((p.1, p.2.put u y.1) :: OL.put u l y.2) = some b at h
    simp only [look] at h
    split at h
    · rename_i e
      cases h
      refine ⟨p, y.1, by simp, by obtain ⟨k, o⟩ := p; simp only [look]; rw [if_pos e], rfl, fun w => ?_⟩
      change look n ((p.1, p.2.put w y.1) :: OL.put w l y.2) = _
      simp only [look]; rw [if_pos e]
    · rename_i e
      obtain ⟨q, x, h1, h2, h3, h4⟩ := look_OL h
      refine ⟨q, x, List.mem_cons_of_mem _ h1, by obtain ⟨k, o⟩ := p; simp only [look]; rw [if_neg e]; exact h2, h3, fun w => ?_⟩
      change look n ((p.1, p.2.put w y.1) :: OL.put w l y.2) = _
      simp only [look]; rw [if_neg e]; exact h4 w
def argSlotsB : Nat → List BV → TS
  | _, [] => []
  | i, x :: r => (i, x) :: argSlotsB (i + 1) r
theorem argSlots_er : ∀ (i : Nat) (l : List BV), argSlots i (erL L l) = erT L (argSlotsB i l)
  | _, [] => by simp only [erL, argSlots, argSlotsB]; rfl
  | i, x :: r => by simp only [erL, argSlots, argSlotsB, argSlots_er (i + 1) r]; rfl
theorem AVleL.Ts {ρ : Name → Loc} {H : Heap} {M : Nat → Prop} {w : World} : ∀ {xs ys : List AV} {us : List Value}, AVleL xs ys → AV.Ts ρ H M w xs us → AV.Ts ρ H M w ys us
  | [], ys, us, h, hr => by cases h; exact hr
  | x :: xs, ys, us, h, hr => by
    cases h with
    | cons h1 h2 =>
      simp only [AV.Ts] at hr ⊢
      obtain ⟨u, us', rfl, h3, h4⟩ := hr
      exact ⟨u, us', rfl, h1.sound u h3, AVleL.Ts h2 h4⟩
theorem resB_le {vs ws : List BV} (h : AVleL (erL L vs) (erL L' ws)) (ρ : Name → Loc) (H : Heap) (M : Nat → Prop) (w : World) (u : Value) (hr : ((resB vs).er L).R ρ H M w u) : ((resB ws).er L').R ρ H M w u := by
  have hl : vs.length = ws.length := by have := h.len; rwa [erL_length, erL_length] at this
  match vs, ws, hl with
  | [], [], _ => exact hr
  | [v], [x], _ =>
    simp only [erL] at h
    cases h with
    | cons h1 _ => exact h1.sound u hr
  | v1 :: v2 :: vs, x1 :: x2 :: ws, _ =>
    simp only [resB, BV.er, AV.R] at hr ⊢
    obtain ⟨us, rfl, h2⟩ := hr
    exact ⟨us, rfl, AVleL.Ts h h2⟩
section
variable {P : Program}
theorem resVs_some : ∀ {rs : List ResultVar} {vs : List BV}, resVs P ts hs rs = some vs → vs.length = rs.length ∧ Res1s P (BS L ts hs) rs (erL L vs)
  | [], vs, h => by simp only [resVs, Option.some.injEq] at h; subst h; exact ⟨rfl, by simp only [erL]; rfl⟩
  | x :: q, vs, h => by
    simp only [resVs] at h
    split at h
    · rename_i v vs' h1 h2
      cases h
      obtain ⟨k1, k2⟩ := resVs_some h2
      refine ⟨by simp [k1], ⟨v.er L, erL L vs', by simp only [erL], ?_, k2⟩⟩
      cases x with
      | tmp t =>
        simp only [resV] at h1
        show (BS L ts hs).slot t = _
        rw [BS_slot, h1]; rfl
      | cell t T =>
        simp only [resV] at h1
        split at h1
        · rename_i n ht
          split at h1
          · rename_i cells hc
            refine ⟨n, erL L cells, by rw [BS_slot, ht]; simp only [Option.map_some, BV.er], by rw [BS_heap, hc]; rfl, ?_⟩
            split at h1
            · rename_i hT
              split at h1
              · rename_i z hz
                split at h1
                · rename_i hb; cases h1; exact .inl ⟨hT, by rw [hz, erL_length, Nat.eq_of_beq_eq_true hb], by simp only [BV.er]⟩
                · simp at h1
              · simp at h1
            · split at h1
              · rename_i hT
                split at h1
                · cases h1; exact .inr ⟨hT, by simp only [erL]⟩
                · simp at h1
              · simp at h1
          · simp at h1
        · simp at h1
    · simp at h
theorem res_of {rs : Array ResultVar} {vs : List BV} (h : resVs P ts hs rs.toList = some vs) : Res P (BS L ts hs) rs ((resB vs).er L) := by
  obtain ⟨h1, h2⟩ := resVs_some (L := L) h
  unfold Res
  match vs, h1 with
  | [], h1 =>
    have : ¬ rs.size = 1 := fun e => by rw [← Array.length_toList, ← h1] at e; simp at e
    rw [if_neg this]; exact ⟨_, by simp only [resB, BV.er], h2⟩
  | [v], h1 =>
    have : rs.size = 1 := by rw [← Array.length_toList, ← h1]; rfl
    rw [if_pos this]; simpa only [resB, erL] using h2
  | v1 :: v2 :: vs, h1 =>
    have : ¬ rs.size = 1 := fun e => by rw [← Array.length_toList, ← h1] at e; simp at e
    rw [if_neg this]; exact ⟨_, by simp only [resB, BV.er], h2⟩
theorem keepK_some {R : Type} {r : R} : ∀ {l : List (Name × OSh)} {ks : List Name} {y : OL l} {x : Option R}, keepK hs l ks y x = some r →
    x = some r ∧ ∀ n b, n ∈ ks → look n (OL.put 0 l y) = some b → (∃ t z v, b = .arr t z 0 ∧ look n hs = some (.arr t z v)) ∨ ∃ t z cs, b = .box (tb t z) ∧ look n hs = some (.box cs) ∧ Le cs (tb t z)
  | [], ks, y, x, h => ⟨h, fun n b _ hn => by change look n [] = some b at hn; simp [look] at hn⟩
  | (nm, o) :: l, ks, y, x, h => by
    have hrest : (x = some r ∧ ∀ n b, n ∈ ks → look n (OL.put 0 l y.2) = some b → (∃ t z v, b = .arr t z 0 ∧ look n hs = some (.arr t z v)) ∨ ∃ t z cs, b = .box (tb t z) ∧ look n hs = some (.box cs) ∧ Le cs (tb t z)) →
        (isIn nm ks = true → (∃ t z v, o.put 0 y.1 = .arr t z 0 ∧ look nm hs = some (.arr t z v)) ∨ ∃ t z cs, o.put 0 y.1 = .box (tb t z) ∧ look nm hs = some (.box cs) ∧ Le cs (tb t z)) →
        x = some r ∧ ∀ n b, n ∈ ks → look n (OL.put 0 ((nm, o) :: l) y) = some b → (∃ t z v, b = .arr t z 0 ∧ look n hs = some (.arr t z v)) ∨ ∃ t z cs, b = .box (tb t z) ∧ look n hs = some (.box cs) ∧ Le cs (tb t z) := fun hr hq => by
      refine ⟨hr.1, fun n b hn hb => ?_⟩
      change look n ((nm, o.put 0 y.1) :: OL.put 0 l y.2) = some b at hb
      simp only [look] at hb
      split at hb
      · rename_i e
        subst e; cases hb
        exact hq (isIn_iff.2 hn)
      · exact hr.2 n b hn hb
    cases o with
    | arr t =>
      simp only [keepK] at h
      split at h
      · split at h
        · rename_i t' z v hl
          split at h
          · rename_i he
            subst he
            unfold sameC at h
            split at h
            · rename_i hz
              exact hrest (keepK_some h) (fun _ => .inl ⟨_, _, v, rfl, by rw [hl, ← hz]; rfl⟩)
            · simp at h
          · simp at h
        · simp at h
      · rename_i hin
        exact hrest (keepK_some h) (fun hi => absurd hi hin)
    | boxst t =>
      simp only [keepK] at h
      split at h
      · split at h
        · rename_i cs hl
          obtain ⟨z, rest, hle, h⟩ := tpop_some t h
          split at h
          · unfold sameC at h
            split at h
            · rename_i hz
              refine hrest (keepK_some h) (fun _ => .inr ⟨t, y.1, cs, rfl, hl, ?_⟩)
              rw [List.append_nil] at hle
              rw [← hz]; exact hle
            · simp at h
          · simp at h
        · simp at h
      · rename_i hin
        exact hrest (keepK_some h) (fun hi => absurd hi hin)
    | box c =>
      simp only [keepK] at h
      split at h
      · simp at h
      · rename_i hin
        exact hrest (keepK_some h) (fun hi => absurd hi hin)
    | arrs c =>
      simp only [keepK] at h
      split at h
      · simp at h
      · rename_i hin
        exact hrest (keepK_some h) (fun hi => absurd hi hin)
    | sm =>
      simp only [keepK] at h
      split at h
      · simp at h
      · rename_i hin
        exact hrest (keepK_some h) (fun hi => absurd hi hin)
theorem SLput_length {u : Nat} : ∀ {l : List SSh} {x : SL l}, (SL.put u l x).length = l.length
  | [], _ => rfl
  | s :: r, x => by simp only [SL.put, List.length_cons, SLput_length (l := r)]
def lenAt : (l : List (Name × OSh)) → OL l → Name → Option Nat
  | [], _, _ => none
  | (k, .arr _) :: r, y, n => if Nat.beq k n then some y.1.length else lenAt r y.2 n
  | (k, .arrs _) :: r, y, n => if Nat.beq k n then none else lenAt r y.2 n
  | (k, .box _) :: r, y, n => if Nat.beq k n then none else lenAt r y.2 n
  | (k, .boxst _) :: r, y, n => if Nat.beq k n then none else lenAt r y.2 n
  | (k, .sm) :: r, y, n => if Nat.beq k n then none else lenAt r y.2 n
def lenB {R : Type} (pre : List (Name × OSh)) (y : OL pre) : (l : List (Name × OSh)) → OL l → Option R → Option R
  | [], _, x => x
  | (n, .arrs _) :: r, b, x => match lenAt pre y n with
    | some m => chk b.1.length m (lenB pre y r b.2 x)
    | none => none
  | (_, .arr _) :: r, b, x => lenB pre y r b.2 x
  | (_, .box _) :: r, b, x => lenB pre y r b.2 x
  | (_, .boxst _) :: r, b, x => lenB pre y r b.2 x
  | (_, .sm) :: r, b, x => lenB pre y r b.2 x
theorem lenAt_some : ∀ {l : List (Name × OSh)} {y : OL l} {n : Name} {m : Nat}, lenAt l y n = some m → ∃ (t : TC) (z : List (TT t)), look n (OL.put 0 l y) = some (.arr t z 0) ∧ z.length = m
  | [], y, n, m, h => by simp [lenAt] at h
  | (k, o) :: r, y, n, m, h => by
    have hrest : lenAt r y.2 n = some m → k ≠ n → ∃ (t : TC) (z : List (TT t)), look n (OL.put 0 ((k, o) :: r) y) = some (.arr t z 0) ∧ z.length = m := fun h e => by
      obtain ⟨t, z, h1, h2⟩ := lenAt_some h
      refine ⟨t, z, ?_, h2⟩
      change look n ((k, o.put 0 y.1) :: OL.put 0 r y.2) = _
      simp only [look]; rw [if_neg e]; exact h1
    cases o <;> simp only [lenAt] at h <;> split at h
    all_goals first
      | (simp at h; done)
      | (rename_i e; exact hrest h (fun h' => e (by rw [h']; exact Nat.beq_refl _)))
      | skip
    rename_i t e
    have := Nat.eq_of_beq_eq_true e; subst this
    refine ⟨t, y.1, ?_, by simpa using h⟩
    change look k ((k, _) :: OL.put 0 r y.2) = _
    simp only [look, if_true]; rfl
theorem lenB_some {R : Type} {r : R} {pre : List (Name × OSh)} {y : OL pre} : ∀ {l : List (Name × OSh)} {b : OL l} {x : Option R}, lenB pre y l b x = some r →
    x = some r ∧ ∀ n (t : TC) (z : List (TT t)), look n (OL.put 1 l b) = some (.arr t z 0) → lenAt pre y n = some z.length
  | [], b, x, h => ⟨h, fun n t z hn => by change look n [] = _ at hn; simp [look] at hn⟩
  | (k, o) :: l, b, x, h => by
    have hrest : lenB pre y l b.2 x = some r → (∀ (t : TC) (z : List (TT t)), o.put 1 b.1 = .arr t z 0 → lenAt pre y k = some z.length) →
        x = some r ∧ ∀ n (t : TC) (z : List (TT t)), look n (OL.put 1 ((k, o) :: l) b) = some (.arr t z 0) → lenAt pre y n = some z.length := fun h hq => by
      obtain ⟨h1, h2⟩ := lenB_some h
      refine ⟨h1, fun n t z hn => ?_⟩
      change look n ((k, o.put 1 b.1) :: OL.put 1 l b.2) = _ at hn
      simp only [look] at hn
      split at hn
      · rename_i e; subst e; exact hq t z (Option.some.inj hn)
      · exact h2 n t z hn
    cases o with
    | arrs t =>
      simp only [lenB] at h
      split at h
      · rename_i m hm
        obtain ⟨e, h⟩ := chk_some h
        refine hrest h fun t' z hz => ?_
        simp only [OSh.put] at hz
        cases hz
        rw [hm, ← e]
      · simp at h
    | arr t => exact hrest h fun t' z hz => by simp only [OSh.put] at hz; injection hz with _ _ h3; simp at h3
    | box t => exact hrest h fun t' z hz => by simp [OSh.put] at hz
    | boxst t => exact hrest h fun t' z hz => by simp [OSh.put] at hz
    | sm => exact hrest h fun t' z hz => by simp [OSh.put] at hz
theorem lenB_any {R R' : Type} {r : R} {r' : R'} {pre : List (Name × OSh)} {y : OL pre} : ∀ {l : List (Name × OSh)} {b : OL l} {x : Option R}, lenB pre y l b x = some r → lenB pre y l b (some r') = some r'
  | [], b, x, h => rfl
  | (k, .arrs t) :: l, b, x, h => by
    simp only [lenB] at h ⊢
    split at h
    · obtain ⟨e, h⟩ := chk_some h
      unfold chk; rw [if_pos e]; exact lenB_any h
    · simp at h
  | (k, .arr t) :: l, b, x, h => lenB_any (l := l) h
  | (k, .box t) :: l, b, x, h => lenB_any (l := l) h
  | (k, .boxst t) :: l, b, x, h => lenB_any (l := l) h
  | (k, .sm) :: l, b, x, h => lenB_any (l := l) h
def mkSig (args : List SSh) (pre : List (Name × OSh)) (res : List SSh) (post : List (Name × OSh)) (keep : List Name) (Ret : Type) (un : Ret → SL res × OL post) (f : SL args → OL pre → Option Ret) : Sig :=
  ⟨args, pre, res, post, keep, fun _ x y K => optc (f x y) fun q => lenB pre y post (un q).2 (K (un q).1 (un q).2)⟩
def finK {R : Type} (P : Program) (gn : List Name) (rs : List ResultVar) (g : Sig) (y : OL g.pre) (K : SL g.res → OL g.post → Option R) : Cont R := fun e ts hs => match e with
  | .normal => endK P gn rs g y K ts hs
  | .ret => endK P gn rs g y K ts hs
  | _ => none
theorem FnOK.intro {ty : TypeId → Option TC} {E : Env} {fu : Nat} {f : FuncId} {fn : Func} {c : Code} {an : Ann} {args : List SSh} {pre : List (Name × OSh)} {res : List SSh} {post : List (Name × OSh)} {keep : List Name} {Ret : Type} [DecidableEq Ret] {un : Ret → SL res × OL post} {F : SL args → OL pre → Option Ret}
    (conv : SL res → OL post → Ret) (hcu : ∀ a b, un (conv a b) = (a, b)) (hE : EnvOK P E) (hf : P.funcs[f]? = some fn) (hb : fn.body = some c) (hlen : Nat.ble args.length fn.ntmps = true)
    (hF : ∀ x y, vc P ty E (keys pre) fn.ntmps fu c an (argSlotsB 0 (SL.put 0 args x)) (OL.put 0 pre y) (finK P (keys pre) fn.results.toList (mkSig args pre res post keep Ret un F) y fun a b => some (conv a b)) = F x y) :
    FnOK P f (mkSig args pre res post keep Ret un F) := by
  refine ⟨fun R x y K r h => ?_, fun x y a b h L0 hL0 => ?_⟩
  · obtain ⟨q, hq, h⟩ := optc_some h
    obtain ⟨h', hle⟩ := lenB_some h
    refine ⟨(un q).1, (un q).2, ?_, h'⟩
    show optc (F x y) _ = _
    rw [hq]
    exact lenB_any h
  · change SL args at x
    change OL pre at y
    change SL res at a
    change OL post at b
    obtain ⟨q, hq, h⟩ := optc_some h
    obtain ⟨h, hlens⟩ := lenB_some h
    simp only [Option.some.injEq] at h
    have hvc := (hF x y).trans hq
    let g : Sig := mkSig args pre res post keep Ret un F
    let L1 : Lens := fun n v => match look n (g.posts y b) with
      | some (.arr t l u) => if v = u then l.length else L0 n v
      | _ => L0 n v
    have hL1 : ∀ n t l v, look n (g.posts y b) = some (.arr t l v) → L1 n v = l.length := fun n t l v hn => by
      show (match look n (g.posts y b) with | some (.arr t l u) => if v = u then l.length else L0 n v | _ => L0 n v) = _
      rw [hn]; simp only [if_true]
    have hpost : ∀ n b0, look n (OL.put 1 post b) = some b0 → look n (g.posts y b) = some b0 := fun n b0 hn => by
      show look n (OL.put 1 post b ++ _) = _
      rw [look_append, hn]
    have hpre : ∀ n b0, look n (OL.put 1 post b) = none → n ∈ keep → look n (OL.put 0 pre y) = some b0 → look n (g.posts y b) = some b0 := fun n b0 h1 h2 h3 => by
      show look n (OL.put 1 post b ++ (OL.put 0 pre y).filter (fun p => keep.contains p.1)) = _
      rw [look_append, h1]
      simp only [look_filter (f := fun n => keep.contains n)]
      rw [if_pos (by simpa using h2), h3]
    refine ⟨L1, fun n hn => ?_, hL1, ?_⟩
    · show (match look n (g.posts y b) with | some (.arr t l u) => if 0 = u then l.length else L0 n 0 | _ => L0 n 0) = _
      split
      · rename_i t l u hl
        split
        · rename_i e
          subst e
          change look n (OL.put 1 post b ++ (OL.put 0 pre y).filter (fun p => keep.contains p.1)) = _ at hl
          rw [look_append] at hl
          cases h1 : look n (OL.put 1 post b) with
          | some b1 =>
            rw [h1] at hl; cases hl
            have hab : (un q).2 = b := congrArg Prod.snd h
            rw [hab] at hlens
            obtain ⟨t', z, k1, k2⟩ := lenAt_some (hlens n t l h1)
            rw [← k2]; exact (hL0 n t' z 0 k1).symm
          | none =>
            rw [h1] at hl
            simp only [look_filter (f := fun n => keep.contains n)] at hl
            split at hl
            · exact (hL0 n t l 0 hl).symm
            · simp at hl
        · rfl
      · rfl
    · have hspec : Spec P f (erL L0 (SL.put 0 args x)) (erH L0 (OL.put 0 pre y)) fun v h' =>
          (∀ (ρ : Name → Loc) (H : Heap) (M : Nat → Prop) (w : World) (u : Value), v.R ρ H M w u → ((resB (SL.put 1 res a)).er L1).R ρ H M w u) ∧
          (∀ n o', look n (erH L1 (g.posts y b)) = some o' → ∃ o, look n h' = some o ∧ (o = o' ∨ ∃ cs ds, o = .box cs ∧ o' = .box ds ∧ AVleL cs ds)) ∧ (∀ n o, look n h' = some o → ∃ o', look n (erH L1 (g.posts y b)) = some o') := by
        refine Spec.intro hf hb (by rw [erL_length, SLput_length]; exact hlen) fun Γ hn hk => ?_
        rw [keys_erH, keys_put] at hk
        rw [argSlots_er]
        refine AWp.post ((vc_ok hE hk hn c an _ _ L0 _ hvc hL0).mono fun e s' => ?_)
        rintro ⟨ts', hs', L', rfl, hi', hk'⟩
        have hend : (e = .normal ∨ e = .ret) ∧ endK P (keys pre) fn.results.toList g y (fun a b => some (conv a b)) ts' hs' = some q := by
          cases e with
          | normal => exact ⟨.inl rfl, hk'⟩
          | ret => exact ⟨.inr rfl, hk'⟩
          | _ => simp [finK] at hk'
        obtain ⟨he, hk'⟩ := hend
        unfold endK at hk'
        obtain ⟨ts2, hs2, L2, hk', hi2, hw0⟩ := thawK_some (Γ := Γ) hk' hi'
        split at hk'
        · simp at hk'
        rename_i vs0 hvs0
        obtain ⟨ts1, hs1, hk', hi1, hw1⟩ := frzK_some hk hk' hi2
        split at hk'
        · simp at hk'
        rename_i vs hvs
        obtain ⟨σ1, a', hk', hs1', g1⟩ := SL.get_some hk'
        obtain ⟨σ2, b', hk', hs2', g2⟩ := OL.get_some hk'
        split at hk'
        case isFalse => simp at hk'
        rename_i hchk
        simp only [Bool.and_eq_true] at hchk
        obtain ⟨⟨⟨⟨hid, hall⟩, hkp⟩, hown1⟩, hown2⟩ := hchk
        obtain ⟨hq', hkept⟩ := keepK_some hk'
        simp only [Option.some.injEq] at hq'
        have hab : (a', b') = (a, b) := (hcu a' b').symm.trans ((congrArg un hq').trans h)
        obtain ⟨hab1, hab2⟩ := Prod.mk.inj hab
        rw [hab1] at g1
        rw [hab2] at g2
        have hf2 := verOf_fit hid
        have hf1 : Fit (fun n => n) (verOf σ2) σ1 := hf2.mono fun p hp => hs2' p (List.mem_append_right _ hp)
        have hlen2 : ∀ n, arrB post n = true → lensOf L2 (fun n => n) (verOf σ2) n 0 = L1 n 1 := fun n hn => by
          have hkn : n ∈ keys post := by
            unfold arrB at hn
            split at hn
            · rename_i hl; exact keys_of_look (by rw [hl]; simp)
            · simp at hn
          obtain ⟨b0, hb0⟩ := look_put (u := 0) (y := b) hkn
          obtain ⟨p, z, hp1, hp2, hp3, hp4⟩ := look_OL hb0
          unfold arrB at hn
          rw [hp2] at hn
          obtain ⟨k, o⟩ := p
          cases o with
          | arr t =>
            have h1 := hL1 n t z 1 (hpost n _ (hp4 1))
            obtain ⟨ob, hob, hle⟩ := g2 _ _ L2 hf2 n _ (hp4 0)
            rcases hle with ⟨cs, ds, _, h2, _⟩ | ⟨t', l', rfl, h2⟩ | ⟨es, _, h2⟩
            · cases h2
            · cases h2
              rw [h1]; exact hi1 n t z _ hob
            · cases h2
          | box l => simp at hn
          | boxst t => simp at hn
          | arrs t => simp at hn
          | sm => simp at hn
        have hle1 : AVleL (erL L2 (viewL hs1 g.res vs)) (erL L1 (SL.put 1 res a)) := by
          have := g1 _ _ L2 hf1
          rw [renL_id] at this
          have e := SL.put_ver (l := res) (x := a) (L := lensOf L2 (fun n => n) (verOf σ2)) (L' := L1) (u := 0) (v := 1) (fun n hn => hlen2 n (List.all_eq_true.1 hown1 n hn))
          exact Eq.mp (congrArg (AVleL (erL L2 (viewL hs1 g.res vs))) e) this
        have hobj : ∀ n b0, look n (g.posts y b) = some b0 → ∃ ob, look n hs1 = some ob ∧ (ob.er L2 = b0.er L1 ∨ ∃ cs ds, ob.er L2 = .box cs ∧ b0.er L1 = .box ds ∧ AVleL cs ds) := fun n b0 hb0 => by
          cases hp0 : look n (OL.put 1 post b) with
          | some b1 =>
            rw [hpost n b1 hp0] at hb0; cases hb0
            obtain ⟨p, z, hp1, hp2, hp3, hp4⟩ := look_OL hp0
            subst hp3
            obtain ⟨ob, hob, hle⟩ := g2 _ _ L2 hf2 n _ (hp4 0)
            refine ⟨ob, hob, ?_⟩
            have hv := OSh.put_ver (s := p.2) (x := z) (L := lensOf L2 (fun n => n) (verOf σ2)) (L' := L1) (u := 0) (v := 1) (fun m hm => hlen2 m (List.all_eq_true.1 hown2 m (List.mem_flatMap.2 ⟨p, hp1, hm⟩)))
            rw [← hv]
            rcases hle with ⟨cs, ds, rfl, h2, h3⟩ | ⟨t', l', rfl, h2⟩ | ⟨es, rfl, h2⟩
            · rw [renL_id] at h3
              exact .inr ⟨_, _, rfl, by rw [h2]; rfl, h3⟩
            · exact .inl (by rw [h2]; rfl)
            · exact .inl (by rw [h2]; rfl)
          | none =>
            change look n (OL.put 1 post b ++ (OL.put 0 pre y).filter (fun p => keep.contains p.1)) = _ at hb0
            rw [look_append, hp0] at hb0
            simp only [look_filter (f := fun n => keep.contains n)] at hb0
            split at hb0
            · rename_i hc
              have hc' : n ∈ keep := by simpa using hc
              rcases hkept n b0 hc' hb0 with ⟨t, z, v, rfl, hz⟩ | ⟨t, z, cs, rfl, hz, hle⟩
              · exact ⟨_, hz, .inl rfl⟩
              · refine ⟨_, hz, .inr ⟨_, _, rfl, rfl, ?_⟩⟩
                rw [show erL L1 (tb t z) = erL L2 (tb t z) from by rw [erL_isP (tb_isP t z), erL_isP (tb_isP t z)]]
                exact hle L2
            · simp at hb0
        refine ⟨BS L2 ts1 hs1, fun ρ M a w hs0 => by obtain ⟨ρ', M', h0⟩ := hw0 ρ M a w hs0; exact hw1 ρ' M' a w h0, he, (resB vs).er L2, erH L2 (hpOf (fun n => n) hs1 (keys (g.posts y b))), res_of hvs, fun n o hn' => ?_, fun n hn' => ?_, fun ρ H M w u hr => resB_le hle1 ρ H M w u (resB_le (viewL_le hi1) ρ H M w u hr), fun n o' hn' => ?_, fun n o hn' => ?_⟩
        · rw [look_erH] at hn'
          cases hl : look n (hpOf (fun n => n) hs1 (keys (g.posts y b))) with
          | none => rw [hl] at hn'; simp at hn'
          | some ob => rw [hl] at hn'; rw [BS_heap, hpOf_mem (look_mem hl)]; exact hn'
        · rw [keys_erH, keys_put] at hn'
          have hkey : ∃ b0, look n (g.posts y b) = some b0 := by
            cases hp0 : look n (OL.put 1 post b) with
            | some b1 => exact ⟨b1, hpost n b1 hp0⟩
            | none =>
              have := List.all_eq_true.1 hall n hn'
              simp only [Bool.or_eq_true] at this
              rcases this with h1 | h1
              · obtain ⟨b1, hb1⟩ := look_put (u := 1) (y := b) (isIn_iff.1 h1)
                change look n (OL.put 1 post b) = _ at hb1
                rw [hb1] at hp0; simp at hp0
              · obtain ⟨b1, hb1⟩ := look_put (u := 0) (y := y) hn'
                exact ⟨b1, hpre n b1 hp0 (isIn_iff.1 h1) hb1⟩
          obtain ⟨b0, hb0⟩ := hkey
          obtain ⟨ob, hob, _⟩ := hobj n b0 hb0
          rw [look_erH, hpOf_look (rr := fun n => n) (fun _ _ h => h) hob (keys_of_look (by rw [hb0]; simp))]; simp
        · rw [look_erH] at hn'
          cases hb0 : look n (g.posts y b) with
          | none => rw [hb0] at hn'; simp at hn'
          | some b0 =>
            rw [hb0] at hn'
            simp only [Option.map_some, Option.some.injEq] at hn'
            obtain ⟨ob, hob, hle⟩ := hobj n b0 hb0
            refine ⟨ob.er L2, by rw [look_erH, hpOf_look (rr := fun n => n) (fun _ _ h => h) hob (keys_of_look (by rw [hb0]; simp))]; rfl, ?_⟩
            rw [← hn']; exact hle
        · rw [look_erH] at hn'
          cases hl : look n (hpOf (fun n => n) hs1 (keys (g.posts y b))) with
          | none => rw [hl] at hn'; simp at hn'
          | some ob =>
            obtain ⟨m, hm, rfl⟩ := hpOf_key (look_mem hl)
            obtain ⟨b0, hb0⟩ := look_keys hm
            exact ⟨_, by rw [look_erH, hb0]; rfl⟩
      intro G ρ M w us hG hM hargs hobjs hinj
      exact (hspec G ρ M w us hG hM hargs hobjs hinj).mono fun e w' ⟨u, v, h', ρ', e1, ⟨c1, c2, c3⟩, ha⟩ => ⟨u, _, _, ρ', e1, ⟨rfl, rfl⟩, ha.le c1 c2 c3⟩
end
def fitC : List Sh → List BV → Bool
  | .own _ :: r, v :: vs => (match v with | .own _ _ => true | _ => false) && fitC r vs
  | _ :: r, _ :: vs => fitC r vs
  | _, _ => true
def fitB : List SSh → List BV → Bool
  | .one (.own _) :: r, v :: vs => (match v with | .own _ _ => true | _ => false) && fitB r vs
  | .one (.clo f _) :: r, v :: vs => (match v with | .clo (.func k) _ => Nat.beq k f | _ => false) && fitB r vs
  | .one (.fv f) :: r, v :: vs => (match v with | .v (.func (.func k) _ _) => Nat.beq k f | _ => false) && fitB r vs
  | .agg l :: r, v :: vs => (match v with | .agg cs => fitC l cs | _ => false) && fitB r vs
  | _ :: r, _ :: vs => fitB r vs
  | _, _ => true
def fitD : Nat → Option Nat → Bool
  | 0, _ => true
  | n + 1, some d => Nat.beq n d
  | _, none => false
def lookE (d : Option Nat) (k : Nat) (vs : List BV) : List (Nat × Nat × Sig) → Option Sig
  | [] => none
  | (j, q, g) :: r => if Nat.beq j k && fitD q d && fitB g.args vs then some g else lookE d k vs r
def envL (l : List (Nat × Nat × Sig)) : Env := fun d k vs => lookE d k vs l
def EnvAll (P : Program) : List (Nat × Nat × Sig) → Prop
  | [] => True
  | p :: r => FnOK P p.1 p.2.2 ∧ EnvAll P r
theorem envL_ok {P : Program} : ∀ {l : List (Nat × Nat × Sig)}, EnvAll P l → EnvOK P (envL l)
  | [], _, d, k, vs, g, h => by simp [envL, lookE] at h
  | (j, q, g0) :: r, hl, d, k, vs, g, h => by
    simp only [envL, lookE] at h
    split at h
    · rename_i e
      simp only [Bool.and_eq_true] at e
      rw [← Nat.eq_of_beq_eq_true e.1.1]; cases h; exact hl.1
    · exact envL_ok hl.2 d k vs g h
end Go.Proofs.YtfhcigjkfelnfaaGreat.AM
/-
  How what is reckoned of code is evaluated: plain laws of its words. No project text.
-/
set_option linter.unusedVariables false
set_option linter.unusedSimpArgs false
namespace Go.Proofs.YtfhcigjkfelnfaaGreat.AM
open Go
section
variable {R α : Type} {r : R}
theorem cnd_p {p : Prop} [Decidable p] {x y : Option R} (h : p) : cnd (decide p) x y = x := by simp only [h, decide_true, cnd]
theorem cnd_n {p : Prop} [Decidable p] {x y : Option R} (h : ¬ p) : cnd (decide p) x y = y := by simp only [h, decide_false, cnd]
theorem natc_p {j : Int} {k : Nat → Option R} (h : 0 ≤ j) : natc j k = k j.toNat := by unfold natc; rw [if_pos h]
theorem natc_n (i : Nat) {k : Nat → Option R} : natc (i : Int) k = k i := by unfold natc; rw [if_pos (Int.natCast_nonneg i)]; rfl
theorem optc_s {x : α} {k : α → Option R} : optc (some x) k = k x := rfl
theorem atc_p [Inhabited α] {l : List α} {j : Int} {k : α → Option R} (h : 0 ≤ j) (h' : j < (l.length : Int)) : atc l j k = k (nth l j.toNat) := by
  unfold atc; rw [natc_p h]
  have : j.toNat < l.length := by omega
  rw [List.getElem?_eq_getElem this]
  simp [optc, nth, List.getD_eq_getElem?_getD, List.getElem?_eq_getElem this]
theorem atc_n [Inhabited α] {l : List α} {i : Nat} {k : α → Option R} (h' : i < l.length) : atc l (i : Int) k = k (nth l i) := by
  rw [atc_p (Int.natCast_nonneg i) (by omega)]; rfl
theorem opt_nth [Inhabited α] {l : List α} {i : Nat} {k : α → Option R} (h' : i < l.length) : optc l[i]? k = k (nth l i) := by
  rw [List.getElem?_eq_getElem h']
  simp [optc, nth, List.getD_eq_getElem?_getD, List.getElem?_eq_getElem h']
theorem chk_p {a b : Nat} {x : Option R} (h : a = b) : chk a b x = x := by unfold chk; rw [if_pos h]
theorem ltc_p {a b : Nat} {x : Option R} (h : a < b) : ltc a b x = x := by unfold ltc; rw [if_pos h]
theorem lec_p {a b : Nat} {x : Option R} (h : a ≤ b) : lec a b x = x := by unfold lec; rw [if_pos h]
theorem nzc_p {b : Int} {x : Option R} (h : b ≠ 0) : nzc b x = x := by unfold nzc; rw [if_neg h]
theorem sameC_p {a : α} [DecidableEq α] {x : Option R} : sameC a a x = x := by unfold sameC; rw [if_pos rfl]
theorem wrap_p {x : Int} (h : -9223372036854775808 ≤ x) (h' : x ≤ 9223372036854775807) : IntKind.i64.wrap x = x := by rw [IntKind.wrap_i64]; omega
theorem iterF_inv {X : Type} {B : (X → Option R) → X → Option R} {Q : Option R → Prop} (I : Nat → X → Prop) (hB : ∀ m x, I m x → ∀ k : X → Option R, (∀ m' x', m' < m → I m' x' → Q (k x')) → Q (B k x)) :
    ∀ (m : Nat) (x : X) {fu : Nat}, m < fu → I m x → Q (iterF B fu x) := by
  intro m
  induction m using Nat.strongRecOn with
  | _ m ih =>
    intro x fu hf hI
    obtain ⟨f, rfl⟩ : ∃ f, fu = f + 1 := ⟨fu - 1, by omega⟩
    show Q (B (iterF B f) x)
    exact hB m x hI _ fun m' x' hm hI' => ih m' hm x' (by omega) hI'
def Ok (o : Option R) (Q : R → Prop) : Prop := ∃ x, o = some x ∧ Q x
variable {Q Q' : R → Prop}
theorem Ok.s {x : R} (h : Q x) : Ok (some x) Q := ⟨x, rfl, h⟩
theorem Ok.mono {o : Option R} (h : Ok o Q) (hq : ∀ x, Q x → Q' x) : Ok o Q' := by obtain ⟨x, h1, h2⟩ := h; exact ⟨x, h1, hq x h2⟩
theorem Ok.cnd {b : Bool} {x y : Option R} (h1 : b = true → Ok x Q) (h2 : b = false → Ok y Q) : Ok (AM.cnd b x y) Q := by
  cases b
  · exact h2 rfl
  · exact h1 rfl
theorem Ok.ite {p : Prop} [Decidable p] {x y : Option R} (h1 : p → Ok x Q) (h2 : ¬ p → Ok y Q) : Ok (AM.cnd (decide p) x y) Q :=
  Ok.cnd (fun h => h1 (of_decide_eq_true h)) (fun h => h2 (of_decide_eq_false h))
theorem Ok.opt {o : Option α} {P : α → Prop} {k : α → Option R} (h : Ok o P) (hk : ∀ x, P x → Ok (k x) Q) : Ok (optc o k) Q := by
  obtain ⟨x, rfl, h2⟩ := h; exact hk x h2
theorem Ok.at [Inhabited α] {l : List α} {j : Int} {k : α → Option R} (h : 0 ≤ j) (h' : j < (l.length : Int)) (hk : Ok (k (nth l j.toNat)) Q) : Ok (atc l j k) Q := by rw [atc_p h h']; exact hk
theorem Ok.lec {a b : Nat} {x : Option R} (h : a ≤ b) (hx : Ok x Q) : Ok (AM.lec a b x) Q := by rw [lec_p h]; exact hx
theorem Ok.nzc {b : Int} {x : Option R} (h : b ≠ 0) (hx : Ok x Q) : Ok (AM.nzc b x) Q := by rw [nzc_p h]; exact hx
theorem Ok.sameC {a : α} [DecidableEq α] {x : Option R} (hx : Ok x Q) : Ok (AM.sameC a a x) Q := by rw [sameC_p]; exact hx
theorem Ok.join {Y : Type} {k : Y → Option R} {f : (Y → Option R) → Option R} (J : Y → Prop) (h1 : ∀ y, J y → Ok (k y) Q) (h2 : ∀ k : Y → Option R, (∀ y, J y → Ok (k y) Q) → Ok (f k) Q) : Ok (AM.join k f) Q := h2 k h1
theorem Ok.loop {X : Type} {B : (X → Option R) → X → Option R} (I : Nat → X → Prop) {m : Nat} {x : X} {fu : Nat} (hm : m < fu) (h0 : I m x) (hB : ∀ m x, I m x → ∀ k : X → Option R, (∀ m' x', m' < m → I m' x' → Ok (k x') Q) → Ok (B k x) Q) : Ok (iterF B fu x) Q :=
  iterF_inv (Q := fun o => Ok o Q) I hB m x hm h0
theorem Ok.eq {o : Option R} {v : R} (h : Ok o (· = v)) : o = some v := by obtain ⟨x, rfl, rfl⟩ := h; rfl
end
end Go.Proofs.YtfhcigjkfelnfaaGreat.AM
/-
  How what is reckoned of code is evaluated, step by step, where its conditions are known. No project text.
-/
set_option linter.unusedVariables false
set_option linter.unusedSimpArgs false
namespace Go.Proofs.YtfhcigjkfelnfaaGreat.AM
open Go
section
variable {R α : Type} {Q : R → Prop}
theorem Ok.p {p : Prop} [Decidable p] {x y : Option R} (h : p) (hx : Ok x Q) : Ok (AM.cnd (decide p) x y) Q := by rw [cnd_p h]; exact hx
theorem Ok.n {p : Prop} [Decidable p] {x y : Option R} (h : ¬ p) (hx : Ok y Q) : Ok (AM.cnd (decide p) x y) Q := by rw [cnd_n h]; exact hx
theorem Ok.np {p : Prop} [Decidable p] {x y : Option R} (h : p) (hx : Ok y Q) : Ok (AM.cnd (!decide p) x y) Q := by simp only [h, decide_true, Bool.not_true]; exact hx
theorem Ok.nn {p : Prop} [Decidable p] {x y : Option R} (h : ¬ p) (hx : Ok x Q) : Ok (AM.cnd (!decide p) x y) Q := by simp only [h, decide_false, Bool.not_false]; exact hx
theorem Ok.t {x y : Option R} (hx : Ok x Q) : Ok (AM.cnd true x y) Q := hx
theorem Ok.f {x y : Option R} (hx : Ok y Q) : Ok (AM.cnd false x y) Q := hx
theorem Ok.bt {b : Bool} {x y : Option R} (h : b = true) (hx : Ok x Q) : Ok (AM.cnd b x y) Q := by rw [h]; exact hx
theorem Ok.bf {b : Bool} {x y : Option R} (h : b = false) (hx : Ok y Q) : Ok (AM.cnd b x y) Q := by rw [h]; exact hx
theorem Ok.nt {b : Bool} {x y : Option R} (h : b = true) (hx : Ok y Q) : Ok (AM.cnd (!b) x y) Q := by rw [h]; exact hx
theorem Ok.nf {b : Bool} {x y : Option R} (h : b = false) (hx : Ok x Q) : Ok (AM.cnd (!b) x y) Q := by rw [h]; exact hx
theorem Ok.ncnd {b : Bool} {x y : Option R} (h1 : b = false → Ok x Q) (h2 : b = true → Ok y Q) : Ok (AM.cnd (!b) x y) Q := by
  cases b
  · exact h1 rfl
  · exact h2 rfl
theorem Ok.j {Y : Type} {k : Y → Option R} {f : (Y → Option R) → Option R} (h : Ok (f k) Q) : Ok (AM.join k f) Q := h
theorem Ok.oe {o : Option α} {v : α} {k : α → Option R} (h : o = some v) (hk : Ok (k v) Q) : Ok (optc o k) Q := by rw [h]; exact hk
theorem Ok.os {v : α} {k : α → Option R} (hk : Ok (k v) Q) : Ok (optc (some v) k) Q := hk
theorem Ok.ck {a b : Nat} {x : Option R} (h : a = b) (hx : Ok x Q) : Ok (AM.chk a b x) Q := by rw [chk_p h]; exact hx
theorem Ok.lt {a b : Nat} {x : Option R} (h : a < b) (hx : Ok x Q) : Ok (AM.ltc a b x) Q := by rw [ltc_p h]; exact hx
theorem Ok.nat {j : Int} {k : Nat → Option R} (h : 0 ≤ j) (hk : Ok (k j.toNat) Q) : Ok (AM.natc j k) Q := by rw [natc_p h]; exact hk
theorem Ok.natn {i : Nat} {k : Nat → Option R} (hk : Ok (k i) Q) : Ok (AM.natc (i : Int) k) Q := by rw [natc_n]; exact hk
theorem Ok.get [Inhabited α] {l : List α} {i : Nat} {k : α → Option R} (h : i < l.length) (hk : Ok (k (nth l i)) Q) : Ok (optc (GetElem?.getElem? l i) k) Q := by rw [opt_nth h]; exact hk
theorem Ok.atn [Inhabited α] {l : List α} {i : Nat} {k : α → Option R} (h : i < l.length) (hk : Ok (k (nth l i)) Q) : Ok (atc l (i : Int) k) Q := by rw [atc_n h]; exact hk
theorem wrap_id {x : Int} (h : -9223372036854775808 ≤ x ∧ x ≤ 9223372036854775807) : IntKind.wrap .i64 x = x := wrap_p h.1 h.2
theorem Ok.run {X : Type} {B : (X → Option R) → X → Option R} (n : Nat) (st : Nat → X) {fu : Nat} {x : X} (hx : x = st 0) (hf : n < fu) (hs : ∀ i, i < n → ∀ k, (Ok (k (st (i + 1))) Q → Ok (B k (st i)) Q)) (h : ∀ k, Ok (B k (st n)) Q) : Ok (iterF B fu x) Q := by
  subst hx
  revert st fu
  induction n with
  | zero =>
    intro st fu hf _ h
    obtain ⟨f, rfl⟩ : ∃ f, fu = f + 1 := ⟨fu - 1, by omega⟩
    exact h _
  | succ n ih =>
    intro st fu hf hs h
    obtain ⟨f, rfl⟩ : ∃ f, fu = f + 1 := ⟨fu - 1, by omega⟩
    show Ok (B (iterF B f) (st 0)) Q
    exact hs 0 (by omega) _ (ih (fun i => st (i + 1)) (by omega) (fun i hi k => hs (i + 1) (by omega) k) h)
theorem Ok.scan {X : Type} {B : (X → Option R) → X → Option R} (n : Nat) (st : Nat → X) (q : Nat → Bool) {fu : Nat} {x : X} (hx : x = st 0) (hf : n < fu) (hy : ∀ i, i < n → q i = true → (∀ j, j < i → q j = false) → ∀ k, Ok (B k (st i)) Q)
    (hn : ∀ i, i < n → q i = false → ∀ k, (Ok (k (st (i + 1))) Q → Ok (B k (st i)) Q)) (he : (∀ j, j < n → q j = false) → ∀ k, Ok (B k (st n)) Q) : Ok (iterF B fu x) Q := by
  refine Ok.loop (fun m x => ∃ i, i ≤ n ∧ m = n - i ∧ x = st i ∧ ∀ j, j < i → q j = false) (m := n) hf ⟨0, by omega, rfl, hx, fun j hj => by omega⟩ ?_
  rintro m x ⟨i, h1, h2, rfl, h3⟩ k hk
  by_cases h : i < n
  · cases hq : q i with
    | true => exact hy i h hq h3 k
    | false => exact hn i h hq k (hk (n - (i + 1)) _ (by omega) ⟨i + 1, by omega, rfl, rfl, fun j hj => by
        by_cases e : j = i
        · subst e; exact hq
        · exact h3 j (by omega)⟩)
  · obtain rfl : i = n := by omega
    exact he h3 k
theorem any_yes {l : List α} [Inhabited α] {p : α → Bool} {i : Nat} (hi : i < l.length) (h : p (nth l i) = true) : l.any p = true := List.any_eq_true.2 ⟨_, nth_mem hi, h⟩
theorem any_no {l : List α} [Inhabited α] {p : α → Bool} (h : ∀ j, j < l.length → p (nth l j) = false) : l.any p = false := by
  rw [List.any_eq_false]
  intro x hx
  obtain ⟨j, hj, rfl⟩ := List.getElem_of_mem hx
  have := h j hj
  simp only [nth, List.getD_eq_getElem?_getD, List.getElem?_eq_getElem hj, Option.getD_some] at this
  simp [this]
theorem cnd2 {p q : Prop} [Decidable p] [Decidable q] : AM.cnd (decide p) (AM.cnd (decide q) (some true) (some false)) (some false) = some (decide (p ∧ q)) := by
  by_cases hp : p <;> by_cases hq : q <;> simp [AM.cnd, hp, hq]
end
end Go.Proofs.YtfhcigjkfelnfaaGreat.AM
/-
  Sets of numbers as ascending lists, in plain Lean: With, sorting, leaving out what comes twice.
-/
set_option linter.unusedSimpArgs false
set_option linter.unusedVariables false
namespace Go.Proofs.YtfhcigjkfelnfaaGreat
open Go AM
def Asc (l : List Int) : Prop := l.Pairwise (· < ·)
theorem asc_ext : ∀ {a b : List Int}, Asc a → Asc b → (∀ x, x ∈ a ↔ x ∈ b) → a = b
  | [], [], _, _, _ => rfl
  | [], y :: b, _, _, h => by have := (h y).2 (List.mem_cons_self ..); simp at this
  | x :: a, [], _, _, h => by have := (h x).1 (List.mem_cons_self ..); simp at this
  | x :: a, y :: b, ha, hb, h => by
    have ha' := List.pairwise_cons.1 ha
    have hb' := List.pairwise_cons.1 hb
    have e : x = y := by
      rcases List.mem_cons.1 ((h x).1 (List.mem_cons_self ..)) with e | hx
      · exact e
      · rcases List.mem_cons.1 ((h y).2 (List.mem_cons_self ..)) with e | hy
        · exact e.symm
        · have h1 := hb'.1 x hx
          have h2 := ha'.1 y hy
          omega
    subst e
    congr 1
    refine asc_ext ha'.2 hb'.2 fun z => ⟨fun hz => ?_, fun hz => ?_⟩
    · have h1 := ha'.1 z hz
      rcases List.mem_cons.1 ((h z).1 (List.mem_cons_of_mem _ hz)) with e | h2
      · omega
      · exact h2
    · have h1 := hb'.1 z hz
      rcases List.mem_cons.1 ((h z).2 (List.mem_cons_of_mem _ hz)) with e | h2
      · omega
      · exact h2
def withI (l : List Int) (x : Int) : Nat → List Int × Bool
  | 0 => ([], false)
  | i + 1 => ((withI l x i).1 ++ (if (withI l x i).2 = false ∧ x ≤ nth l i then [x] else []) ++ (if nth l i ≠ x then [nth l i] else []), (withI l x i).2 || decide (x ≤ nth l i))
def withV (l : List Int) (x : Int) : List Int := if (withI l x l.length).2 = true then (withI l x l.length).1 else (withI l x l.length).1 ++ [x]
theorem asc_nth {l : List Int} (h : Asc l) {i j : Nat} (hij : i < j) (hj : j < l.length) : nth l i < nth l j := by
  have := List.pairwise_iff_getElem.1 h i j (by omega) hj hij
  simpa [nth, List.getD_eq_getElem?_getD, List.getElem?_eq_getElem hj, List.getElem?_eq_getElem (show i < l.length by omega)] using this
theorem mem_take_succ {l : List Int} {i : Nat} (h : i < l.length) (z : Int) : z ∈ l.take (i + 1) ↔ z ∈ l.take i ∨ z = nth l i := by
  rw [List.take_succ_eq_append_getElem h, List.mem_append, List.mem_singleton]
  simp [nth, List.getD_eq_getElem?_getD, List.getElem?_eq_getElem h]
theorem withI_is {l : List Int} {x : Int} (h : Asc l) : ∀ i, i ≤ l.length → Asc (withI l x i).1 ∧ (∀ z, z ∈ (withI l x i).1 ↔ z ∈ l.take i ∧ z ≠ x ∨ (withI l x i).2 = true ∧ z = x) ∧
    ((withI l x i).2 = false → ∀ z ∈ l.take i, z < x) ∧ ((withI l x i).2 = true → ∀ j, i ≤ j → j < l.length → x < nth l j)
  | 0, _ => by simp [withI, Asc]
  | i + 1, hi => by
    obtain ⟨h1, h2, h3, h4⟩ := withI_is h i (by omega)
    have hlt : ∀ z ∈ l.take i, z < nth l i := fun z hz => by
      obtain ⟨j, hj, rfl⟩ := List.getElem_of_mem hz
      rw [List.length_take] at hj
      have := asc_nth h (show j < i by omega) (show i < l.length by omega)
      simpa [nth, List.getD_eq_getElem?_getD, List.getElem?_eq_getElem (show j < l.length by omega)] using this
    simp only [withI]
    cases hd : (withI l x i).2 with
    | true =>
      have hx := h4 hd i (Nat.le_refl _) (by omega)
      rw [if_neg (by simp), if_pos (by omega), List.append_nil]
      refine ⟨?_, fun z => ?_, by simp, fun _ j hj hl => h4 hd j (by omega) hl⟩
      · refine List.pairwise_append.2 ⟨h1, List.pairwise_singleton _ _, fun a ha b hb => ?_⟩
        rw [List.mem_singleton.1 hb]
        rcases (h2 a).1 ha with ⟨g, _⟩ | ⟨_, rfl⟩
        · exact hlt a g
        · exact hx
      · rw [List.mem_append, h2, mem_take_succ (by omega), List.mem_singleton, hd]
        simp only [Bool.true_or, true_and]
        constructor
        · rintro ((⟨g, g'⟩ | g) | g)
          · exact .inl ⟨.inl g, g'⟩
          · exact .inr g
          · exact .inl ⟨.inr g, by omega⟩
        · rintro (⟨g | g, g'⟩ | g)
          · exact .inl (.inl ⟨g, g'⟩)
          · exact .inr g
          · exact .inl (.inr g)
    | false =>
      have hb := h3 hd
      by_cases hx : x ≤ nth l i
      · rw [if_pos ⟨rfl, hx⟩]
        have e : (false || decide (x ≤ nth l i)) = true := by simp [hx]
        rw [e]
        have hm : ∀ z, z ∈ (withI l x i).1 ↔ z ∈ l.take i := fun z => by
          rw [h2, hd]
          refine ⟨fun g => ?_, fun g => .inl ⟨g, by have := hb z g; omega⟩⟩
          rcases g with ⟨g, _⟩ | ⟨g, _⟩
          · exact g
          · simp at g
        refine ⟨?_, fun z => ?_, by simp, fun _ j hj hl => ?_⟩
        · refine List.pairwise_append.2 ⟨List.pairwise_append.2 ⟨h1, List.pairwise_singleton _ _, fun a ha b hb' => ?_⟩, ?_, fun a ha b hb' => ?_⟩
          · rw [List.mem_singleton.1 hb']; exact hb a ((hm a).1 ha)
          · split <;> simp
          · split at hb'
            · rename_i hne
              rw [List.mem_singleton.1 hb']
              rcases List.mem_append.1 ha with ha | ha
              · exact hlt a ((hm a).1 ha)
              · rw [List.mem_singleton.1 ha]; omega
            · simp at hb'
        · rw [List.mem_append, List.mem_append, hm, mem_take_succ (by omega), List.mem_singleton]
          by_cases hne : nth l i ≠ x
          · rw [if_pos hne, List.mem_singleton]
            constructor
            · rintro ((g | g) | g)
              · exact .inl ⟨.inl g, by have := hb z g; omega⟩
              · exact .inr ⟨rfl, g⟩
              · exact .inl ⟨.inr g, by omega⟩
            · rintro (⟨g | g, _⟩ | ⟨_, g⟩)
              · exact .inl (.inl g)
              · exact .inr g
              · exact .inl (.inr g)
          · rw [if_neg hne]
            simp only [List.not_mem_nil, or_false]
            constructor
            · rintro (g | g)
              · exact .inl ⟨.inl g, by have := hb z g; omega⟩
              · exact .inr ⟨trivial, g⟩
            · rintro (⟨g | g, g'⟩ | ⟨_, g⟩)
              · exact .inl g
              · omega
              · exact .inr g
        · have := asc_nth h (show i < j by omega) hl
          omega
      · rw [if_neg (by simp [hx]), if_pos (by omega), List.append_nil]
        have e : (false || decide (x ≤ nth l i)) = false := by simp [hx]
        rw [e]
        refine ⟨?_, fun z => ?_, fun _ z hz => ?_, by simp⟩
        · refine List.pairwise_append.2 ⟨h1, List.pairwise_singleton _ _, fun a ha b hb' => ?_⟩
          rw [List.mem_singleton.1 hb']
          rcases (h2 a).1 ha with ⟨g, _⟩ | ⟨g, _⟩
          · exact hlt a g
          · rw [hd] at g; simp at g
        · rw [List.mem_append, h2, mem_take_succ (by omega), List.mem_singleton, hd]
          simp only [Bool.false_eq_true, false_and, or_false]
          constructor
          · rintro (⟨g, g'⟩ | g)
            · exact ⟨.inl g, g'⟩
            · exact ⟨.inr g, by omega⟩
          · rintro ⟨g | g, g'⟩
            · exact .inl ⟨g, g'⟩
            · exact .inr g
        · rcases (mem_take_succ (show i < l.length by omega) z).1 hz with g | g
          · exact hb z g
          · omega
theorem withV_is {l : List Int} {x : Int} (h : Asc l) : Asc (withV l x) ∧ ∀ z, z ∈ withV l x ↔ z ∈ l ∨ z = x := by
  obtain ⟨h1, h2, h3, h4⟩ := withI_is (x := x) h l.length (Nat.le_refl _)
  rw [List.take_length] at h2 h3
  unfold withV
  split
  · rename_i hd
    refine ⟨h1, fun z => ?_⟩
    rw [h2, hd]
    simp only [true_and]
    by_cases hz : z = x
    · simp [hz]
    · simp [hz]
  · rename_i hd
    have hd : (withI l x l.length).2 = false := by cases hb : (withI l x l.length).2 <;> simp_all
    have hm : ∀ z, z ∈ (withI l x l.length).1 ↔ z ∈ l := fun z => by
      rw [h2, hd]
      refine ⟨fun g => ?_, fun g => .inl ⟨g, by have := h3 hd z g; omega⟩⟩
      rcases g with ⟨g, _⟩ | ⟨g, _⟩
      · exact g
      · simp at g
    refine ⟨List.pairwise_append.2 ⟨h1, List.pairwise_singleton _ _, fun a ha b hb => ?_⟩, fun z => ?_⟩
    · rw [List.mem_singleton.1 hb]; exact h3 hd a ((hm a).1 ha)
    · rw [List.mem_append, hm, List.mem_singleton]
def swapL (l : List Int) (j : Nat) : List Int := (l.set j (nth l (j - 1))).set (j - 1) (nth l j)
theorem nth_set {l : List Int} {j k : Nat} {x : Int} (hj : j < l.length) : nth (l.set j x) k = if k = j then x else nth l k := by
  by_cases h : k = j
  · subst h; rw [if_pos rfl]; simp [nth, List.getD_eq_getElem?_getD, hj]
  · rw [if_neg h]; simp [nth, List.getD_eq_getElem?_getD, List.getElem?_set_ne (Ne.symm h)]
theorem nth_swap {l : List Int} {j k : Nat} (h1 : 1 ≤ j) (hj : j < l.length) : nth (swapL l j) k = if k = j - 1 then nth l j else if k = j then nth l (j - 1) else nth l k := by
  unfold swapL
  rw [nth_set (by simp; omega)]
  split
  · rfl
  · rw [nth_set hj]
def SortedTo (l : List Int) (n : Nat) : Prop := ∀ a b, a < b → b < n → nth l a ≤ nth l b
def ButFor (l : List Int) (n j : Nat) : Prop := ∀ a b, a < b → b < n → b ≠ j → nth l a ≤ nth l b
theorem butfor_start {l : List Int} {i : Nat} (h : SortedTo l i) : ButFor l (i + 1) i := fun a b h1 h2 h3 => h a b h1 (by omega)
theorem butfor_step {l : List Int} {n j : Nat} (h : ButFor l n j) (h1 : 1 ≤ j) (hj : j < l.length) (hn : j < n) (hlt : nth l j < nth l (j - 1)) : ButFor (swapL l j) n (j - 1) := by
  intro a b hab hb hne
  rw [nth_swap h1 hj, nth_swap h1 hj, if_neg hne]
  by_cases g1 : b = j
  · subst g1
    rw [if_pos rfl]
    by_cases g2 : a = b - 1
    · rw [if_pos g2]; omega
    · rw [if_neg g2, if_neg (by omega)]
      exact h a (b - 1) (by omega) (by omega) (by omega)
  · rw [if_neg g1]
    by_cases g2 : a = j - 1
    · rw [if_pos g2]; exact h j b (by omega) hb g1
    · rw [if_neg g2]
      by_cases g3 : a = j
      · rw [if_pos g3]; exact h (j - 1) b (by omega) hb g1
      · rw [if_neg g3]; exact h a b hab hb g1
theorem butfor_end {l : List Int} {n j : Nat} (h : ButFor l n j) (he : j = 0 ∨ nth l (j - 1) ≤ nth l j) : SortedTo l n := by
  intro a b hab hb
  by_cases g : b = j
  · subst g
    rcases he with he | he
    · omega
    · by_cases g2 : a = b - 1
      · rw [g2]; exact he
      · have := h a (b - 1) (by omega) (by omega) (by omega); omega
  · exact h a b hab hb g
theorem asc_of {l : List Int} (h : SortedTo l l.length) (hd : ∀ k, 1 ≤ k → k < l.length → nth l (k - 1) ≠ nth l k) : Asc l := by
  refine List.pairwise_iff_getElem.2 fun i j hi hj hij => ?_
  have e : ∀ k (hk : k < l.length), l[k] = nth l k := fun k hk => by simp [nth, List.getD_eq_getElem?_getD, List.getElem?_eq_getElem hk]
  rw [e i hi, e j hj]
  have h1 := hd j (by omega) hj
  have h2 := h (j - 1) j (by omega) hj
  rcases Nat.eq_or_lt_of_le (show i ≤ j - 1 by omega) with g | g
  · rw [g]; omega
  · have := h i (j - 1) g (by omega); omega
end Go.Proofs.YtfhcigjkfelnfaaGreat
/-
  Crews (one zone without rules, schedules of one layer without windows and calendar): who is on call, in plain Lean.
-/
set_option maxRecDepth 100000
set_option linter.unusedSimpArgs false
set_option linter.unusedVariables false
namespace Go.Proofs.YtfhcigjkfelnfaaGreat
open Go AM
structure EditOK (x : D.Edit) : Prop where
  kind : 0 ≤ x.Kind ∧ x.Kind ≤ 2
  a : (0 ≤ x.A ∧ x.A < 4) ∨ (x.Kind = 1 ∧ x.A = -1)
  b : x.Kind = 2 → 0 ≤ x.B ∧ x.B < 4 ∧ x.A ≠ x.B
  b0 : x.Kind ≠ 2 → x.B = 0
  time : 864000 ≤ x.From ∧ x.From < x.To ∧ x.To < 950400
structure LayerOK (l : D.Layer) : Prop where
  name : l.Name = ByteArray.mk #[108]
  zone : l.Zone = 0
  day : l.Start.Day = 1 ∨ l.Start.Day = 9 ∨ l.Start.Day = 10
  second : 0 ≤ l.Start.Second ∧ l.Start.Second ≤ 43200
  unit : l.Unit = 0 ∨ l.Unit = 1
  every : 1 ≤ l.Every ∧ l.Every ≤ 3
  len : 1 ≤ l.Members.length ∧ l.Members.length ≤ 3
  mem : ∀ x ∈ l.Members, 0 ≤ x ∧ x < 4
  win : l.Windows = []
  cal : l.Calendar = 0 ∧ l.Mode = 0
structure PersonOK (p : D.Person) : Prop where
  zone : p.Zone = 0
  max : p.MaxWeek = 0 ∧ p.MinRest = 0
  quiet : p.Quiet = [] ∨ ∃ a b, p.Quiet = [⟨a, b⟩] ∧ (a = 0 ∨ a = 3600) ∧ (b = 7200 ∨ b = 86400 ∨ b = 604800)
structure SchedOK (n : Nat) (s : D.Schedule) : Prop where
  layers : ∃ l, s.Layers = [l] ∧ LayerOK l
  len : s.Edits.length ≤ n
  edit : ∀ x ∈ s.Edits, EditOK x
def bZ : ByteArray := ByteArray.mk #[122]
def crewNames : List ByteArray := [ByteArray.mk #[97, 110, 110], ByteArray.mk #[98, 111, 98], ByteArray.mk #[99, 97, 116], ByteArray.mk #[100, 97, 110]]
def schNames : List ByteArray := [ByteArray.mk #[102, 105, 114, 115, 116], ByteArray.mk #[115, 101, 99, 111, 110, 100]]
structure CfgOK (n : Nat) (c : D.Config) : Prop where
  zone : ∃ off, c.Zones = [⟨bZ, off, []⟩] ∧ (off = 0 ∨ off = 3600 ∨ off = -7200)
  pname : c.People.map (·.Name) = crewNames
  person : ∀ p ∈ c.People, PersonOK p
  cal : c.Calendars = []
  sname : c.Schedules.map (·.Name) = schNames
  sched : ∀ s ∈ c.Schedules, SchedOK n s
theorem CfgOK.plen {n : Nat} {c : D.Config} (h : CfgOK n c) : c.People.length = 4 := by
  have := congrArg List.length h.pname; simpa [crewNames] using this
theorem CfgOK.slen {n : Nat} {c : D.Config} (h : CfgOK n c) : c.Schedules.length = 2 := by
  have := congrArg List.length h.sname; simpa [schNames] using this
theorem CfgOK.mono {n m : Nat} {c : D.Config} (h : CfgOK n c) (hm : n ≤ m) : CfgOK m c :=
  ⟨h.zone, h.pname, h.person, h.cal, h.sname, fun s hs => ⟨(h.sched s hs).layers, Nat.le_trans (h.sched s hs).len hm, (h.sched s hs).edit⟩⟩
def offOf (c : D.Config) : Int := (nth c.Zones 0).Offset
theorem CfgOK.zones {n : Nat} {c : D.Config} (h : CfgOK n c) : c.Zones = [⟨bZ, offOf c, []⟩] ∧ (offOf c = 0 ∨ offOf c = 3600 ∨ offOf c = -7200) := by
  obtain ⟨off, h1, h2⟩ := h.zone
  have : offOf c = off := by unfold offOf; rw [h1]; rfl
  rw [this]; exact ⟨h1, h2⟩
def unitS (l : D.Layer) : Int := if l.Unit = 0 then 3600 else 86400
def spanS (l : D.Layer) : Int := unitS l * l.Every
def firstS (off : Int) (l : D.Layer) : Int := l.Start.Day * 86400 + l.Start.Second - off
def handS (off : Int) (l : D.Layer) (k : Int) : Int := firstS off l + spanS l * k
def shiftV (off : Int) (l : D.Layer) (t : Int) : Int := if t < firstS off l then -1 else (t - firstS off l) / spanS l
theorem spanS_in {l : D.Layer} (h : LayerOK l) : 3600 ≤ spanS l ∧ spanS l ≤ 259200 := by
  have h2 := h.every
  have h1 := h.unit
  unfold spanS unitS
  split <;> omega
theorem firstS_in {off : Int} {l : D.Layer} (h : LayerOK l) (ho : off = 0 ∨ off = 3600 ∨ off = -7200) : 0 < firstS off l ∧ firstS off l ≤ 1000000 := by
  have h1 := h.day
  have h2 := h.second
  unfold firstS; omega
theorem shift_is {off : Int} {l : D.Layer} {t k : Int} (h : LayerOK l) (h0 : 0 ≤ k) (h1 : handS off l k ≤ t) (h2 : t < handS off l (k + 1)) : shiftV off l t = k := by
  have hs := (spanS_in h).1
  unfold handS at h1 h2
  rw [Int.mul_add, Int.mul_one] at h2
  have h3 : 0 ≤ spanS l * k := Int.mul_nonneg (by omega) h0
  unfold shiftV
  rw [if_neg (by omega)]
  have h4 : k ≤ (t - firstS off l) / spanS l := (Int.le_ediv_iff_mul_le (by omega)).2 (by rw [Int.mul_comm]; omega)
  have h5 : (t - firstS off l) / spanS l < k + 1 := (Int.ediv_lt_iff_lt_mul (by omega)).2 (by rw [Int.mul_comm, Int.mul_add, Int.mul_one]; omega)
  omega
theorem shift_no {off : Int} {l : D.Layer} {t : Int} (h : t < handS off l 0) : shiftV off l t = -1 := by
  unfold handS at h; rw [Int.mul_zero, Int.add_zero] at h
  unfold shiftV; rw [if_pos h]
theorem shift_at {off : Int} {l : D.Layer} {t : Int} (h : LayerOK l) (h0 : firstS off l ≤ t) : 0 ≤ shiftV off l t ∧ handS off l (shiftV off l t) ≤ t ∧ t < handS off l (shiftV off l t + 1) := by
  have hs := (spanS_in h).1
  have e : shiftV off l t = (t - firstS off l) / spanS l := by unfold shiftV; rw [if_neg (by omega)]
  have h1 := Int.mul_ediv_add_emod (t - firstS off l) (spanS l)
  have h2 := Int.emod_nonneg (t - firstS off l) (b := spanS l) (by omega)
  have h3 := Int.emod_lt_of_pos (t - firstS off l) (b := spanS l) (by omega)
  have h4 : 0 ≤ (t - firstS off l) / spanS l := Int.ediv_nonneg (by omega) (by omega)
  rw [e]
  unfold handS
  rw [Int.mul_add, Int.mul_one]
  omega
theorem shiftV_le {off : Int} {l : D.Layer} {t : Int} (h : LayerOK l) (ho : off = 0 ∨ off = 3600 ∨ off = -7200) (ht : t ≤ 8589934592) : -1 ≤ shiftV off l t ∧ shiftV off l t ≤ 8589934592 := by
  by_cases h0 : firstS off l ≤ t
  · have h1 := shift_at h h0
    have h2 := (spanS_in h).1
    have h3 := (firstS_in h ho).1
    have h4 : 3600 * shiftV off l t ≤ spanS l * shiftV off l t := Int.mul_le_mul_of_nonneg_right h2 h1.1
    unfold handS at h1
    omega
  · unfold shiftV; rw [if_pos (by omega)]; omega
def dutyV (off : Int) (l : D.Layer) (t : Int) : Int := if shiftV off l t < 0 then -1 else nth l.Members ((shiftV off l t).toNat % l.Members.length)
theorem dutyV_in {off : Int} {l : D.Layer} {t : Int} (h : LayerOK l) : -1 ≤ dutyV off l t ∧ dutyV off l t < 4 := by
  unfold dutyV
  split
  · omega
  · have hl := h.len
    have := h.mem (nth l.Members ((shiftV off l t).toNat % l.Members.length)) (nth_mem (Nat.mod_lt _ (by omega)))
    omega
def awayX (p t : Int) (x : D.Edit) : Bool := decide (x.Kind = 0) && decide (x.A = p) && decide (x.From ≤ t) && decide (t < x.To)
def awayV (es : List D.Edit) (p t : Int) : Bool := es.any (awayX p t)
def foldS (t : Int) (p : Int) (x : D.Edit) : Int :=
  if ¬ (x.From ≤ t ∧ t < x.To) ∨ x.Kind = 0 then p else if x.Kind = 1 then x.A else if x.Kind ≠ 2 then p else if p = x.A then x.B else if p = x.B then x.A else p
def foldV (es : List D.Edit) (p t : Int) : Int := es.foldl (foldS t) p
theorem foldS_in {p t : Int} {x : D.Edit} (h : EditOK x) (hp : -1 ≤ p ∧ p < 4) : -1 ≤ foldS t p x ∧ foldS t p x < 4 := by
  have ha := h.a
  have hb := h.b
  unfold foldS
  repeat' split
  all_goals omega
theorem foldV_in {t : Int} : ∀ {es : List D.Edit} {p : Int}, (∀ x ∈ es, EditOK x) → (-1 ≤ p ∧ p < 4) → -1 ≤ foldV es p t ∧ foldV es p t < 4
  | [], p, _, hp => hp
  | x :: es, p, h, hp => foldV_in (es := es) (fun y hy => h y (List.mem_cons_of_mem _ hy)) (foldS_in (h x (List.mem_cons_self ..)) hp)
theorem foldV_snoc {es : List D.Edit} {p t : Int} {k : Nat} (hk : k < es.length) : foldV (es.take (k + 1)) p t = foldS t (foldV (es.take k) p t) (nth es k) := by
  unfold foldV
  rw [List.take_succ_eq_append_getElem hk, List.foldl_append]
  simp [nth, List.getD_eq_getElem?_getD, List.getElem?_eq_getElem hk]
def layP (off : Int) (s : D.Schedule) (t : Int) : Int := if 0 ≤ dutyV off (nth s.Layers 0) t ∧ awayV s.Edits (dutyV off (nth s.Layers 0) t) t = false then dutyV off (nth s.Layers 0) t else -1
def whoS (off : Int) (s : D.Schedule) (t : Int) : Int := foldV s.Edits (layP off s t) t
def whoV (c : D.Config) (i t : Int) : Int := if 0 ≤ i ∧ i < 2 ∧ 0 ≤ t ∧ t ≤ 8589934592 then whoS (offOf c) (nth c.Schedules i.toNat) t else -1
theorem layP_in {n : Nat} {off : Int} {s : D.Schedule} {t : Int} (h : SchedOK n s) : -1 ≤ layP off s t ∧ layP off s t < 4 := by
  obtain ⟨l, h1, h2⟩ := h.layers
  have := dutyV_in (off := off) (t := t) h2
  unfold layP
  rw [h1, show nth [l] 0 = l from rfl]
  split <;> omega
theorem whoV_in {n : Nat} {c : D.Config} (h : CfgOK n c) {i t : Int} : -1 ≤ whoV c i t ∧ whoV c i t < 4 := by
  unfold whoV
  split
  · have hs := h.sched (nth c.Schedules i.toNat) (nth_mem (by rw [h.slen]; omega))
    exact foldV_in hs.edit (layP_in hs)
  · omega
theorem hand_day {off : Int} {l : D.Layer} {k n : Int} (hs : spanS l = 86400 * n) : (l.Start.Day + k * n) * 86400 + l.Start.Second - off = handS off l k := by
  unfold handS firstS
  rw [hs, Int.mul_assoc, Int.add_mul, Int.mul_comm k n, Int.mul_comm (n * k) 86400]
  omega
theorem span_days {l : D.Layer} (h : l.Unit = 1) : spanS l = 86400 * l.Every := by unfold spanS unitS; rw [if_neg (by omega)]
theorem span_hours {l : D.Layer} (h : l.Unit = 0) : spanS l = 3600 * l.Every := by unfold spanS unitS; rw [if_pos h]
def meantV (c : D.Config) (b : D.Book) (x : D.Target) (t : Int) : List Int :=
  if x.Kind = 0 then [x.Index] else if x.Kind = 1 then (if whoV c x.Index t < 0 then [] else [whoV c x.Index t]) else
    if x.Kind = 2 ∧ 0 ≤ x.Index ∧ x.Index < (b.Teams.length : Int) then (nth b.Teams x.Index.toNat).Members else []
def Means (c : D.Config) (b : D.Book) (l : List D.Target) (t z : Int) : Prop := 0 ≤ z ∧ z < 4 ∧ ∃ x ∈ l, z ∈ meantV c b x t
def secondOf (off t : Int) : Int := ((t + off) / 86400 + 3) % 7 * 86400 + (t + off) % 86400
def quietV (ws : List D.Window) (s : Int) : Bool := ws.any fun w => decide (w.From ≤ s) && decide (s < w.To)
def reachV (c : D.Config) (p t : Int) (urgent : Bool) : Bool :=
  decide (0 ≤ p ∧ p < 4 ∧ 0 ≤ t ∧ t ≤ 8589934592) && (urgent && (nth c.People p.toNat).Consent || !quietV (nth c.People p.toNat).Quiet (secondOf (offOf c) t))
end Go.Proofs.YtfhcigjkfelnfaaGreat
/-
  Pages on their way through their policies, in plain Lean: what steps, runs and answers make of them.
-/
set_option maxRecDepth 100000
set_option linter.unusedSimpArgs false
set_option linter.unusedVariables false
namespace Go.Proofs.YtfhcigjkfelnfaaGreat
open Go AM
def bTeams : List ByteArray := [ByteArray.mk #[99, 111, 114, 101], ByteArray.mk #[119, 101, 98]]
def bPols : List ByteArray := [ByteArray.mk #[112], ByteArray.mk #[113], ByteArray.mk #[114]]
structure TeamOK (t : D.Team) : Prop where
  asc : Asc t.Members
  len : 1 ≤ t.Members.length ∧ t.Members.length ≤ 2
  mem : ∀ x ∈ t.Members, 0 ≤ x ∧ x < 4
structure TargetOK (n : Nat) (t : D.Target) : Prop where
  kind : t.Kind = 0 ∨ t.Kind = 1 ∨ t.Kind = 2
  lo : 0 ≤ t.Index
  person : t.Kind = 0 → t.Index < 4
  sched : t.Kind = 1 → t.Index < 2
  team : t.Kind = 2 → t.Index < (n : Int)
structure StepOK' (n : Nat) (s : D.PolicyStep) : Prop where
  wait : 0 ≤ s.Wait ∧ s.Wait ≤ 900
  len : s.Targets.length ≤ 2
  target : ∀ t ∈ s.Targets, TargetOK n t
structure PolOK (n : Nat) (p : D.Policy) : Prop where
  rep : 0 ≤ p.Repeat ∧ p.Repeat ≤ 2
  len : 1 ≤ p.Steps.length ∧ p.Steps.length ≤ 3
  step : ∀ s ∈ p.Steps, StepOK' n s
structure BookOK (b : D.Book) : Prop where
  tlen : b.Teams.length ≤ 2
  tname : b.Teams.map (·.Name) = bTeams.take b.Teams.length
  team : ∀ t ∈ b.Teams, TeamOK t
  plen : 1 ≤ b.Policies.length ∧ b.Policies.length ≤ 3
  pname : b.Policies.map (·.Name) = bPols.take b.Policies.length
  pol : ∀ p ∈ b.Policies, PolOK b.Teams.length p
def countV (p : D.Policy) : Int := if 0 ≤ p.Repeat ∧ p.Repeat ≤ 8 ∧ p.Steps.length ≤ 8 then (p.Steps.length : Int) * (p.Repeat + 1) else 0
theorem countV_is {n : Nat} {p : D.Policy} (h : PolOK n p) : countV p = (p.Steps.length : Int) * (p.Repeat + 1) ∧ 1 ≤ countV p ∧ countV p ≤ 9 := by
  have h1 := h.rep
  have h2 := h.len
  have e : countV p = (p.Steps.length : Int) * (p.Repeat + 1) := by unfold countV; rw [if_pos (by omega)]
  refine ⟨e, ?_⟩
  rw [e]
  have h3 : p.Repeat = 0 ∨ p.Repeat = 1 ∨ p.Repeat = 2 := by omega
  rcases h3 with h3 | h3 | h3 <;> rw [h3] <;> omega
def peopleV (c : D.Config) (b : D.Book) (l : List D.Target) (t : Int) : List Int := ([0, 1, 2, 3] : List Int).filter fun z => l.any fun x => (meantV c b x t).contains z
theorem peopleV_mem {c : D.Config} {b : D.Book} {l : List D.Target} {t z : Int} : z ∈ peopleV c b l t ↔ Means c b l t z := by
  unfold peopleV Means
  simp only [List.mem_filter, List.any_eq_true, List.contains_iff_mem, List.mem_cons, List.not_mem_nil, or_false]
  constructor
  · rintro ⟨h, x, hx⟩; exact ⟨by omega, by omega, x, hx⟩
  · rintro ⟨h1, h2, x, hx⟩; exact ⟨by omega, x, hx⟩
theorem asc4 : Asc [0, 1, 2, 3] := by unfold Asc; decide
theorem peopleV_asc {c : D.Config} {b : D.Book} {l : List D.Target} {t : Int} : Asc (peopleV c b l t) := List.Pairwise.filter _ asc4
theorem peopleV_len {c : D.Config} {b : D.Book} {l : List D.Target} {t : Int} : (peopleV c b l t).length ≤ 4 := List.length_filter_le _ _
theorem peopleV_is {c : D.Config} {b : D.Book} {l : List D.Target} {t : Int} {r : List Int} (h : Asc r) (hm : ∀ z, z ∈ r ↔ Means c b l t z) : r = peopleV c b l t :=
  asc_ext h peopleV_asc fun z => (hm z).trans peopleV_mem.symm
def callV (c : D.Config) (b : D.Book) (s : D.PolicyStep) (t : Int) : List Int := (peopleV c b s.Targets t).filter fun z => reachV c z t s.Urgent
theorem callV_asc {c : D.Config} {b : D.Book} {s : D.PolicyStep} {t : Int} : Asc (callV c b s t) := List.Pairwise.filter _ peopleV_asc
theorem callV_len {c : D.Config} {b : D.Book} {s : D.PolicyStep} {t : Int} : (callV c b s t).length ≤ 4 := Nat.le_trans (List.length_filter_le _ _) peopleV_len
theorem callV_mem {c : D.Config} {b : D.Book} {s : D.PolicyStep} {t z : Int} : z ∈ callV c b s t → 0 ≤ z ∧ z < 4 := fun h => by
  have := peopleV_mem.1 (List.mem_filter.1 h).1
  exact ⟨this.1, this.2.1⟩
def polOf (b : D.Book) (p : D.Page) : D.Policy := nth b.Policies p.Policy.toNat
def dueV (p : D.Page) : Int × Bool := if p.State = 0 then (p.Due, true) else if p.State = 2 then (p.Until, true) else (0, false)
def calledV (p : D.Page) : List Int := if p.Starts = [] then [] else (nth p.Starts (p.Starts.length - 1)).People
def setF (n : Int) : Int → List Int → Bool
  | _, [] => true
  | k, x :: r => decide (0 ≤ x) && decide (x < n) && decide (k < x) && setF n x r
def setV (l : List Int) : Bool := setF 32 (-1) l
def startsF (next : Int) : Int → Int → List D.Start → Bool
  | _, _, [] => true
  | k, t, x :: r => decide (t ≤ x.At) && (decide (x.K = -1) || decide (0 ≤ x.K) && decide (k < x.K) && decide (x.K < next)) && setV x.People && startsF next (max k x.K) x.At r
def startsV (p : D.Page) : Bool := startsF p.Next (-1) p.Start p.Starts && decide (p.Starts.length ≤ 200)
def seenV (l : List Int) : Bool := decide l.Nodup && decide (l.length ≤ 64)
def waitsV (p : D.Policy) : Bool := p.Steps.all fun s => decide (0 ≤ s.Wait) && decide (s.Wait ≤ 86400)
def farV : Int := 17179869184
def inV (n lo hi : Int) : Bool := decide (lo ≤ n) && decide (n ≤ hi)
def checkV (b : D.Book) (p : D.Page) : Bool :=
  inV p.ID 1 999999 && inV p.Policy 0 ((b.Policies.length : Int) - 1) && inV p.Start 0 8589934592 && waitsV (polOf b p) && inV p.Next 0 (countV (polOf b p)) &&
  inV p.State 0 4 && inV p.By (-1) 31 && inV p.Last p.Start farV && inV p.Due 0 farV && inV p.Until 0 farV && inV p.Snoozes 0 4 && inV p.Hands 0 4 && startsV p && setV p.Declined && seenV p.Seen
def page0 : D.Page := D.Page.mk 0 0 0 0 0 0 0 0 0 0 0 [] [] []
def stepAt (b : D.Book) (p : D.Page) : D.PolicyStep := nth (polOf b p).Steps (p.Next % ((polOf b p).Steps.length : Int)).toNat
def stepQ (c : D.Config) (b : D.Book) (p : D.Page) : D.Page :=
  if p.State = 2 then { p with State := 0, Due := p.Until, Last := max p.Until p.Last }
  else if countV (polOf b p) ≤ p.Next then { p with State := 3, Last := max p.Due p.Last }
  else { p with Last := max p.Due p.Last, Starts := p.Starts ++ [⟨p.Next, p.Due, callV c b (stepAt b p) p.Due⟩], Declined := [], Next := p.Next + 1,
                Due := if callV c b (stepAt b p) p.Due = [] then p.Due else p.Due + (stepAt b p).Wait }
def stepV (c : D.Config) (b : D.Book) (p : D.Page) : D.Page × Int :=
  if checkV b p = false then (page0, 8) else if (dueV p).2 = false then (page0, 9) else if p.Starts.length = 200 then (page0, 5) else (stepQ c b p, 0)
def waitB (p : D.Page) (now : Int) : Bool := (dueV p).2 && decide ((dueV p).1 ≤ now)
def runN (c : D.Config) (b : D.Book) (now : Int) : Nat → D.Page → D.Page × Int
  | 0, p => (p, 0)
  | n + 1, p => if waitB p now = true then (if (stepV c b p).2 ≠ 0 then (page0, (stepV c b p).2) else runN c b now n (stepV c b p).1) else (p, 0)
def runV (c : D.Config) (b : D.Book) (p : D.Page) (now : Int) : D.Page × Int := if checkV b p = false then (page0, 8) else runN c b now 100 p
def validV (a : D.Answer) : Bool :=
  inV a.ID 1 999999 && inV a.Page 1 999999 && inV a.Person (-1) 31 && inV a.At 0 8589934592 && inV a.Kind 1 5 && (if a.Kind = 3 then inV a.Arg 1 86400 else if a.Kind = 4 then inV a.Arg 0 31 else decide (a.Arg = 0))
def refusedV (p : D.Page) (a : D.Answer) : Int :=
  if a.At < p.Last ∨ waitB p a.At = true then 6
  else if p.State = 4 ∨ (p.State = 3 ∧ a.Kind ≠ 5) ∨ (p.State = 1 ∧ a.Kind = 2) then 9
  else if p.Seen.length = 64 ∨ (a.Kind = 3 ∧ p.Snoozes = 4) ∨ (a.Kind = 4 ∧ (p.Hands = 4 ∨ p.Starts.length = 200)) then 5 else 0
def plusV (l : List Int) (x : Int) : List Int := l.filter (fun z => decide (z < x)) ++ x :: l.filter (fun z => decide (x < z))
def declQ (p : D.Page) (a : D.Answer) : List Int := if (calledV p).contains a.Person = true then plusV p.Declined a.Person else p.Declined
def allDown (p : D.Page) (a : D.Answer) : Bool := decide (calledV p ≠ []) && (calledV p).all fun z => (declQ p a).contains z
def answerQ (p : D.Page) (a : D.Answer) : D.Page :=
  if a.Kind = 1 then (if p.State = 1 then { p with Seen := p.Seen ++ [a.ID] } else { p with Seen := p.Seen ++ [a.ID], Last := a.At, State := 1, By := a.Person })
  else if a.Kind = 2 then { p with Seen := p.Seen ++ [a.ID], Last := a.At, Declined := declQ p a, Due := if allDown p a = true ∧ p.State = 0 then a.At else p.Due }
  else if a.Kind = 3 then { p with Seen := p.Seen ++ [a.ID], Last := a.At, State := 2, By := a.Person, Until := a.At + a.Arg, Snoozes := p.Snoozes + 1 }
  else if a.Kind = 4 then { p with Seen := p.Seen ++ [a.ID], Last := a.At, State := 0, Due := a.At + 600, Hands := p.Hands + 1, Declined := [], Starts := p.Starts ++ [⟨-1, a.At, [a.Arg]⟩] }
  else { p with Seen := p.Seen ++ [a.ID], Last := a.At, State := 4, By := a.Person }
def answerV (b : D.Book) (p : D.Page) (a : D.Answer) : D.Page × Int :=
  if checkV b p = false ∨ validV a = false then (page0, 8) else if a.Page ≠ p.ID then (page0, 3) else if p.Seen.contains a.ID = true then (p, 0)
  else if refusedV p a ≠ 0 then (page0, refusedV p a) else (answerQ p a, 0)
end Go.Proofs.YtfhcigjkfelnfaaGreat
/-
  What holds of pages on their way, in plain Lean: invariants of steps, runs and answers.
-/
set_option maxRecDepth 100000
set_option linter.unusedSimpArgs false
set_option linter.unusedVariables false
namespace Go.Proofs.YtfhcigjkfelnfaaGreat
open Go AM
inductive Goes (Q : D.Start → Prop) (st : Int) : List D.Start → Int → Int → Int → Prop
  | nil : Goes Q st [] 0 st 0
  | step {l k t h a P} : Goes Q st l k t h → t ≤ a → (l = [] → a = st) → setV P = true → Q ⟨k, a, P⟩ → Goes Q st (l ++ [⟨k, a, P⟩]) (k + 1) a h
  | hand {l k t h a x} : Goes Q st l k t h → t ≤ a → l ≠ [] → 0 ≤ x → x ≤ 31 → Goes Q st (l ++ [⟨-1, a, [x]⟩]) k a (h + 1)
section
variable {Q : D.Start → Prop} {st k t h : Int} {l : List D.Start}
theorem Goes.pos (g : Goes Q st l k t h) : 0 ≤ k ∧ 0 ≤ h ∧ (l.length : Int) = k + h ∧ st ≤ t := by
  induction g with
  | nil => simp
  | step g h1 _ _ _ ih => simp only [List.length_append, List.length_cons, List.length_nil]; omega
  | hand g h1 _ _ _ ih => simp only [List.length_append, List.length_cons, List.length_nil]; omega
def kF : Int → List D.Start → Int
  | k, [] => k
  | k, x :: r => kF (max k x.K) r
def tF : Int → List D.Start → Int
  | t, [] => t
  | t, x :: r => tF x.At r
theorem kF_snoc {x : D.Start} : ∀ {l : List D.Start} {k : Int}, kF k (l ++ [x]) = max (kF k l) x.K
  | [], _ => rfl
  | y :: l, k => kF_snoc (l := l) (k := max k y.K)
theorem tF_snoc {x : D.Start} : ∀ {l : List D.Start} {t : Int}, tF t (l ++ [x]) = x.At
  | [], _ => rfl
  | y :: l, t => tF_snoc (l := l) (t := y.At)
theorem startsF_snoc {nx : Int} {x : D.Start} : ∀ {l : List D.Start} {k t : Int}, startsF nx k t (l ++ [x]) = (startsF nx k t l &&
    (decide (tF t l ≤ x.At) && (decide (x.K = -1) || decide (0 ≤ x.K) && decide (kF k l < x.K) && decide (x.K < nx)) && setV x.People))
  | [], k, t => by
    show (_ && true) = (true && _)
    rw [Bool.and_true, Bool.true_and]; rfl
  | y :: l, k, t => by
    rw [List.cons_append, startsF, startsF_snoc (l := l), startsF, kF, tF]
    simp only [Bool.and_assoc]
theorem setV_one {x : Int} (h0 : 0 ≤ x) (h1 : x ≤ 31) : setV [x] = true := by
  unfold setV setF setF; simp; omega
theorem Goes.fit (g : Goes Q st l k t h) : kF (-1) l = k - 1 ∧ tF st l = t ∧ ∀ nx, k ≤ nx → startsF nx (-1) st l = true := by
  induction g with
  | nil => exact ⟨rfl, rfl, fun _ _ => rfl⟩
  | step g h1 h2 h3 h4 ih =>
    obtain ⟨i1, i2, i3⟩ := ih
    have hp := g.pos
    refine ⟨by rw [kF_snoc, i1]; dsimp only; omega, tF_snoc, fun nx hn => ?_⟩
    rw [startsF_snoc, i3 nx (by omega), i1, i2]
    simp only [h3, Bool.true_and, Bool.and_true, Bool.and_eq_true, Bool.or_eq_true, decide_eq_true_eq]
    omega
  | hand g h1 h2 h3 h4 ih =>
    obtain ⟨i1, i2, i3⟩ := ih
    have hp := g.pos
    refine ⟨by rw [kF_snoc, i1]; dsimp only; omega, tF_snoc, fun nx hn => ?_⟩
    rw [startsF_snoc, i3 nx hn, i1, i2, setV_one h3 h4]
    simp [h1]
end
theorem setF_is {n : Int} : ∀ {l : List Int} {k : Int}, setF n k l = true ↔ Asc l ∧ ∀ x ∈ l, 0 ≤ x ∧ x < n ∧ k < x
  | [], k => by simp [setF, Asc]
  | y :: l, k => by
    rw [setF]
    simp only [Bool.and_eq_true, decide_eq_true_eq, setF_is (l := l), Asc, List.pairwise_cons, List.mem_cons, forall_eq_or_imp]
    constructor
    · rintro ⟨⟨⟨h1, h2⟩, h3⟩, h4, h5⟩
      exact ⟨⟨fun z hz => (h5 z hz).2.2, h4⟩, ⟨h1, h2, h3⟩, fun z hz => ⟨(h5 z hz).1, (h5 z hz).2.1, by have := (h5 z hz).2.2; omega⟩⟩
    · rintro ⟨⟨h1, h2⟩, ⟨h3, h4, h5⟩, h6⟩
      exact ⟨⟨⟨h3, h4⟩, h5⟩, h2, fun z hz => ⟨(h6 z hz).1, (h6 z hz).2.1, h1 z hz⟩⟩
theorem setV_is {l : List Int} : setV l = true ↔ Asc l ∧ ∀ x ∈ l, 0 ≤ x ∧ x < 32 := by
  unfold setV; rw [setF_is]
  constructor
  · rintro ⟨h1, h2⟩; exact ⟨h1, fun x hx => ⟨(h2 x hx).1, (h2 x hx).2.1⟩⟩
  · rintro ⟨h1, h2⟩; exact ⟨h1, fun x hx => ⟨(h2 x hx).1, (h2 x hx).2, by have := h2 x hx; omega⟩⟩
theorem setV_call {c : D.Config} {b : D.Book} {s : D.PolicyStep} {t : Int} : setV (callV c b s t) = true :=
  setV_is.2 ⟨callV_asc, fun x hx => by have := callV_mem hx; omega⟩
theorem plusV_is {l : List Int} {x : Int} (h : Asc l) : Asc (plusV l x) ∧ ∀ z, z ∈ plusV l x ↔ z ∈ l ∨ z = x := by
  unfold plusV
  refine ⟨?_, fun z => ?_⟩
  · refine List.pairwise_append.2 ⟨List.Pairwise.filter _ h, List.pairwise_cons.2 ⟨fun a ha => ?_, List.Pairwise.filter _ h⟩, fun a ha b hb => ?_⟩
    · simpa using (List.mem_filter.1 ha).2
    · have h1 : a < x := by simpa using (List.mem_filter.1 ha).2
      rcases List.mem_cons.1 hb with rfl | hb
      · exact h1
      · have h2 : x < b := by simpa using (List.mem_filter.1 hb).2
        omega
  · simp only [List.mem_append, List.mem_cons, List.mem_filter, decide_eq_true_eq]
    constructor
    · rintro (⟨h1, _⟩ | h1 | ⟨h1, _⟩)
      · exact .inl h1
      · exact .inr h1
      · exact .inl h1
    · rintro (h1 | h1)
      · rcases Int.lt_trichotomy z x with h2 | h2 | h2
        · exact .inl ⟨h1, h2⟩
        · exact .inr (.inl h2)
        · exact .inr (.inr ⟨h1, h2⟩)
      · exact .inr (.inl h1)
theorem due_state {p : D.Page} (hd : (dueV p).2 = true) : p.State = 0 ∨ p.State = 2 := by
  unfold dueV at hd
  split at hd
  · exact .inl ‹_›
  · split at hd
    · exact .inr ‹_›
    · simp at hd
structure PageInv (Q : Int → D.Start → Prop) (M : Int) (b : D.Book) (p : D.Page) : Prop where
  top : M ≤ 8000000000
  id : 1 ≤ p.ID ∧ p.ID ≤ 999999
  pol : 0 ≤ p.Policy ∧ p.Policy < (b.Policies.length : Int)
  start : 0 ≤ p.Start ∧ p.Start ≤ M - 20000
  goes : ∃ t, Goes (Q p.Policy) p.Start p.Starts p.Next t p.Hands ∧ t ≤ p.Last ∧ (p.State = 0 → t ≤ p.Due) ∧ (p.State = 2 → t ≤ p.Until)
  next : p.Next ≤ countV (polOf b p)
  state : 0 ≤ p.State ∧ p.State ≤ 4
  by_ : -1 ≤ p.By ∧ p.By ≤ 31
  last : p.Last ≤ M
  due : 0 ≤ p.Due ∧ p.Due ≤ M
  until_ : 0 ≤ p.Until ∧ p.Until ≤ M
  dueO : p.State = 0 → p.Due + 900 * (countV (polOf b p) - p.Next) ≤ M
  untilS : p.State = 2 → p.Until + 900 * (countV (polOf b p) - p.Next) ≤ M
  snoozes : 0 ≤ p.Snoozes ∧ p.Snoozes ≤ 4
  hands : p.Hands ≤ 4
  first : p.Starts = [] → p.State = 0 ∧ p.Due = p.Start
  ended : p.State = 3 → p.Next = countV (polOf b p)
  declined : setV p.Declined = true
  seen : seenV p.Seen = true
section
variable {Q : Int → D.Start → Prop} {M : Int} {b : D.Book} {p : D.Page}
theorem PageInv.polOK (h : PageInv Q M b p) (hb : BookOK b) : PolOK b.Teams.length (polOf b p) := hb.pol _ (nth_mem (by have := h.pol; omega))
theorem PolOK.waits {n : Nat} {q : D.Policy} (h : PolOK n q) : waitsV q = true := by
  unfold waitsV
  refine List.all_eq_true.2 fun s hs => ?_
  have := (h.step s hs).wait
  simp; omega
theorem inV_is {n lo hi : Int} : inV n lo hi = true ↔ lo ≤ n ∧ n ≤ hi := by simp [inV]
theorem PageInv.len (h : PageInv Q M b p) (hb : BookOK b) : p.Starts.length ≤ 13 ∧ 0 ≤ p.Next ∧ 0 ≤ p.Hands := by
  obtain ⟨t, h1, _⟩ := h.goes
  have h2 := h1.pos
  have h3 := countV_is (h.polOK hb)
  have h4 := h.next
  have h5 := h.hands
  omega
theorem PageInv.check (h : PageInv Q M b p) (hb : BookOK b) : checkV b p = true := by
  obtain ⟨t, h1, h2, _⟩ := h.goes
  have h3 := h1.pos
  have h4 := h1.fit
  have h5 := h.len hb
  have g0 := h.top; have g1 := h.id; have g2 := h.pol; have g3 := h.start; have g4 := h.next; have g5 := h.state; have g6 := h.by_; have g7 := h.last; have g8 := h.due; have g9 := h.until_; have g10 := h.snoozes; have g11 := h.hands
  unfold checkV startsV farV
  rw [h4.2.2 _ (Int.le_refl _), h.declined, h.seen, (h.polOK hb).waits]
  simp only [Bool.and_true, Bool.true_and, Bool.and_eq_true, inV_is, decide_eq_true_eq]
  omega
theorem PageInv.mono {Q' : Int → D.Start → Prop} (h : PageInv Q M b p) (hq : ∀ s, Q p.Policy s → Q' p.Policy s) : PageInv Q' M b p := by
  obtain ⟨t, h1, h2⟩ := h.goes
  refine { h with goes := ⟨t, ?_, h2⟩ }
  generalize p.Hands = hh at h1
  generalize p.Next = nn at h1
  generalize p.Starts = ss at h1
  clear h2
  induction h1 with
  | nil => exact .nil
  | step g a1 a2 a3 a4 ih => exact .step ih a1 a2 a3 (hq _ a4)
  | hand g a1 a2 a3 a4 ih => exact .hand ih a1 a2 a3 a4
theorem step_in {n : Nat} {q : D.Policy} (h : PolOK n q) {k : Int} (hk : 0 ≤ k) : nth q.Steps (k % (q.Steps.length : Int)).toNat ∈ q.Steps := by
  have := h.len
  refine nth_mem ?_
  have h1 := Int.emod_nonneg k (b := (q.Steps.length : Int)) (by omega)
  have h2 := Int.emod_lt_of_pos k (b := (q.Steps.length : Int)) (by omega)
  omega
theorem PageInv.stepQ_inv {c : D.Config} (h : PageInv Q M b p) (hb : BookOK b) (hd : (dueV p).2 = true) (hQ : p.State = 0 → p.Next < countV (polOf b p) → Q p.Policy ⟨p.Next, p.Due, callV c b (stepAt b p) p.Due⟩) : PageInv Q M b (stepQ c b p) := by
  obtain ⟨t, h1, h2, h3, h4⟩ := h.goes
  have hp := h1.pos
  have hs : p.State = 0 ∨ p.State = 2 := due_state hd
  have g0 := h.top; have g3 := h.start; have g7 := h.last; have g8 := h.due; have g9 := h.until_
  have g10 := h.dueO; have g11 := h.untilS; have gn := h.next
  unfold stepQ
  split
  · rename_i e2
    have e3 := h4 e2
    have hne : p.Starts ≠ [] := fun e => by have := (h.first e).1; omega
    exact ⟨h.top, h.id, h.pol, h.start, ⟨t, h1, by dsimp only; omega, fun _ => e3, fun e => by simp at e⟩, h.next, by dsimp only; omega, h.by_, by dsimp only; omega, g9, g9, fun _ => g11 e2, fun e => by simp at e, h.snoozes, h.hands, fun e => absurd e hne, fun e => by simp at e, h.declined, h.seen⟩
  · rename_i e2
    have e0 : p.State = 0 := by omega
    have e3 := h3 e0
    have e4 := g10 e0
    split
    · rename_i e5
      have hc := countV_is (h.polOK hb)
      have hne : p.Starts ≠ [] := fun e => by
        have : (p.Starts.length : Int) = p.Next + p.Hands := hp.2.2.1
        rw [e] at this
        have h0 := hp.1; have h9 := hp.2.1
        simp at this; omega
      exact ⟨h.top, h.id, h.pol, h.start, ⟨t, h1, by dsimp only; omega, fun e => by simp at e, fun e => by simp at e⟩, h.next, by dsimp only; omega, h.by_, by dsimp only; omega, g8, g9, fun e => by simp at e, fun e => by simp at e, h.snoozes, h.hands, fun e => absurd e hne, fun _ => by show p.Next = countV (polOf b p); omega, h.declined, h.seen⟩
    · rename_i e5
      have hw := (h.polOK hb).step _ (step_in (h.polOK hb) hp.1)
      have hw' : 0 ≤ (stepAt b p).Wait ∧ (stepAt b p).Wait ≤ 900 := hw.wait
      have hdue : (if callV c b (stepAt b p) p.Due = [] then p.Due else p.Due + (stepAt b p).Wait) ≤ p.Due + 900 ∧ p.Due ≤ (if callV c b (stepAt b p) p.Due = [] then p.Due else p.Due + (stepAt b p).Wait) := by split <;> omega
      refine ⟨h.top, h.id, h.pol, h.start, ⟨p.Due, .step h1 e3 (fun e => ?_) setV_call (hQ e0 (by omega)), by dsimp only; omega, fun _ => hdue.2, fun e => ?_⟩, ?_, h.state, h.by_, by dsimp only; omega, ?_, g9, fun _ => ?_, fun e => absurd e e2, h.snoozes, h.hands, fun e => by simp at e, fun e => ?_, by dsimp only; decide, h.seen⟩
      · exact (h.first e).2
      · exact absurd e e2
      · show p.Next + 1 ≤ countV (polOf b p); omega
      · dsimp only; omega
      · show (if callV c b (stepAt b p) p.Due = [] then p.Due else p.Due + (stepAt b p).Wait) + 900 * (countV (polOf b p) - (p.Next + 1)) ≤ M
        omega
      · exact absurd e (by dsimp only; omega)
theorem PageInv.answerQ_inv {a : D.Answer} (h : PageInv Q M b p) (hb : BookOK b) (hv : validV a = true) (ha : a.At ≤ M - 20000) (hs : a.Kind = 3 → a.Arg ≤ 5000) (hseen : p.Seen.contains a.ID = false) (hr : refusedV p a = 0) : PageInv Q M b (answerQ p a) := by
  obtain ⟨t, h1, h2, h3, h4⟩ := h.goes
  have hp := h1.pos
  unfold validV at hv
  simp only [Bool.and_eq_true, inV_is] at hv
  obtain ⟨⟨⟨⟨⟨v1, v2⟩, v3⟩, v4⟩, v5⟩, v6⟩ := hv
  unfold refusedV at hr
  split at hr
  · simp at hr
  rename_i r1
  split at hr
  · simp at hr
  rename_i r2
  split at hr
  · simp at hr
  rename_i r3
  have hw : waitB p a.At = false := by cases hb : waitB p a.At <;> simp_all
  have hla : p.Last ≤ a.At := by omega
  have hne : p.Starts ≠ [] := fun e => by
    obtain ⟨e1, e2⟩ := h.first e
    have hst : p.Start ≤ t := hp.2.2.2
    unfold waitB dueV at hw
    rw [if_pos e1] at hw
    simp at hw; omega
  have g0 := h.top; have g3 := h.start; have g7 := h.last; have g8 := h.due; have g9 := h.until_
  have g10 := h.dueO; have g11 := h.untilS; have gn := h.next; have gs := h.snoozes; have gh := h.hands; have gst := h.state
  have hc := countV_is (h.polOK hb)
  have hsn : seenV (p.Seen ++ [a.ID]) = true := by
    have := h.seen
    unfold seenV at this ⊢
    simp only [Bool.and_eq_true, decide_eq_true_eq] at this ⊢
    refine ⟨List.nodup_append.2 ⟨this.1, by simp, fun x hx y hy e => ?_⟩, by simp only [List.length_append, List.length_cons, List.length_nil]; omega⟩
    rw [List.mem_singleton.1 hy] at e
    subst e
    rw [List.contains_iff_mem.2 hx] at hseen; simp at hseen
  have hdec : setV (declQ p a) = true := by
    have hd := setV_is.1 h.declined
    unfold declQ
    split
    · rename_i hcal
      refine setV_is.2 ⟨(plusV_is hd.1).1, fun x hx => ?_⟩
      rcases ((plusV_is hd.1).2 x).1 hx with hx | rfl
      · exact hd.2 x hx
      · have hm := List.contains_iff_mem.1 hcal
        have hst := (h1.fit.2.2 _ (Int.le_refl _))
        have hall : ∀ {nx : Int} {l : List D.Start} {k t : Int}, startsF nx k t l = true → ∀ s ∈ l, setV s.People = true := by
          intro nx l
          induction l with
          | nil => intro k t _ s hs; simp at hs
          | cons y l ih =>
            intro k t hq s hs
            rw [startsF] at hq
            simp only [Bool.and_eq_true] at hq
            rcases List.mem_cons.1 hs with rfl | hs
            · exact hq.1.2
            · exact ih hq.2 s hs
        unfold calledV at hm
        rw [if_neg hne] at hm
        have hlen : 0 < p.Starts.length := List.length_pos_iff.2 hne
        exact (setV_is.1 (hall hst _ (nth_mem (by omega)))).2 _ hm
    · exact h.declined
  unfold answerQ
  split
  · split
    · exact ⟨h.top, h.id, h.pol, h.start, ⟨t, h1, h2, h3, h4⟩, h.next, h.state, h.by_, h.last, h.due, h.until_, h.dueO, h.untilS, h.snoozes, h.hands, fun e => absurd e hne, h.ended, h.declined, hsn⟩
    · exact ⟨h.top, h.id, h.pol, h.start, ⟨t, h1, by dsimp only; omega, fun e => by simp at e, fun e => by simp at e⟩, h.next, by dsimp only; omega, v3, by dsimp only; omega, h.due, h.until_, fun e => by simp at e, fun e => by simp at e, h.snoozes, h.hands, fun e => absurd e hne, fun e => by simp at e, h.declined, hsn⟩
  · split
    · have hdue : (if allDown p a = true ∧ p.State = 0 then a.At else p.Due) = p.Due ∨ ((if allDown p a = true ∧ p.State = 0 then a.At else p.Due) = a.At ∧ p.State = 0) := by
        split
        · rename_i hx; exact .inr ⟨rfl, hx.2⟩
        · exact .inl rfl
      refine ⟨h.top, h.id, h.pol, h.start, ⟨t, h1, by dsimp only; omega, fun e => ?_, h4⟩, h.next, h.state, h.by_, by dsimp only; omega, ?_, h.until_, fun e => ?_, h.untilS, h.snoozes, h.hands, fun e => absurd e hne, h.ended, hdec, hsn⟩
      · have := h3 e; dsimp only; omega
      · dsimp only; omega
      · have := g10 e
        show (if allDown p a = true ∧ p.State = 0 then a.At else p.Due) + 900 * (countV (polOf b p) - p.Next) ≤ M
        omega
    · split
      · rename_i k3
        rw [if_pos k3] at v6
        have v6 := inV_is.1 v6
        have := hs k3
        exact ⟨h.top, h.id, h.pol, h.start, ⟨t, h1, by dsimp only; omega, fun e => by simp at e, fun e => by dsimp only; omega⟩, h.next, by dsimp only; omega, v3, by dsimp only; omega, h.due, by dsimp only; omega, fun e => by simp at e, fun _ => by show a.At + a.Arg + 900 * (countV (polOf b p) - p.Next) ≤ M; omega, by dsimp only; omega, h.hands, fun e => absurd e hne, fun e => by simp at e, h.declined, hsn⟩
      · rename_i k3
        split
        · rename_i k4
          rw [if_neg k3, if_pos k4] at v6
          have v6 := inV_is.1 v6
          exact ⟨h.top, h.id, h.pol, h.start, ⟨a.At, .hand h1 (by omega) hne v6.1 v6.2, by dsimp only; omega, fun e => by dsimp only; omega, fun e => by simp at e⟩, h.next, by dsimp only; omega, h.by_, by dsimp only; omega, by dsimp only; omega, h.until_, fun _ => by show a.At + 600 + 900 * (countV (polOf b p) - p.Next) ≤ M; omega, fun e => by simp at e, h.snoozes, by dsimp only; omega, fun e => by simp at e, fun e => by simp at e, by dsimp only; decide, hsn⟩
        · exact ⟨h.top, h.id, h.pol, h.start, ⟨t, h1, by dsimp only; omega, fun e => by simp at e, fun e => by simp at e⟩, h.next, by dsimp only; omega, v3, by dsimp only; omega, h.due, h.until_, fun e => by simp at e, fun e => by simp at e, h.snoozes, h.hands, fun e => absurd e hne, fun e => by simp at e, h.declined, hsn⟩
def newP (id pol start : Int) : D.Page := D.Page.mk id pol start 0 start 0 (-1) 0 start 0 0 [] [] []
theorem new_inv {id pol start : Int} (hM : M ≤ 8000000000) (hb : BookOK b) (h1 : 1 ≤ id ∧ id ≤ 999999) (h2 : 0 ≤ pol ∧ pol < (b.Policies.length : Int)) (h3 : 0 ≤ start ∧ start ≤ M - 20000) : PageInv Q M b (newP id pol start) := by
  have hp : PolOK b.Teams.length (polOf b (newP id pol start)) := hb.pol _ (nth_mem (by show pol.toNat < _; omega))
  have hc := countV_is hp
  exact ⟨hM, h1, h2, h3, ⟨start, .nil, Int.le_refl _, fun _ => Int.le_refl _, fun e => by simp [newP] at e⟩, by show 0 ≤ _; omega, by simp [newP], by simp [newP], by show start ≤ _; omega, by show 0 ≤ start ∧ start ≤ _; omega, by show (0:Int) ≤ 0 ∧ (0:Int) ≤ M; omega,
    fun _ => by show start + 900 * (_ - 0) ≤ _; omega, fun e => by simp [newP] at e, by simp [newP], by simp [newP], fun _ => ⟨rfl, rfl⟩, fun e => by simp [newP] at e, by dsimp only [newP]; decide, by dsimp only [newP]; decide⟩
def leftV (b : D.Book) (p : D.Page) : Nat := if p.State = 2 then (countV (polOf b p) - p.Next).toNat + 2 else if p.State = 0 then (countV (polOf b p) - p.Next).toNat + 1 else 0
theorem step_polOf {c : D.Config} : polOf b (stepQ c b p) = polOf b p := by
  unfold stepQ polOf
  split
  · rfl
  · split <;> rfl
theorem step_left {c : D.Config} (hd : (dueV p).2 = true) : leftV b (stepQ c b p) < leftV b p := by
  have hs : p.State = 0 ∨ p.State = 2 := due_state hd
  unfold leftV
  rw [step_polOf]
  unfold stepQ
  split
  · dsimp only; rw [if_neg (by omega), if_pos rfl]; omega
  · rename_i e2
    have e0 : p.State = 0 := by omega
    rw [if_pos e0]
    split
    · dsimp only; rw [if_neg (by omega), if_neg (by omega)]; omega
    · dsimp only; omega
theorem waitB_due {now : Int} (h : waitB p now = true) : (dueV p).2 = true ∧ (dueV p).1 ≤ now := by
  unfold waitB at h; simpa using h
theorem waitB_left {now : Int} (h : leftV b p = 0) : waitB p now = false := by
  unfold leftV at h
  unfold waitB dueV
  split at h
  · omega
  · rename_i e2
    split at h
    · omega
    · rename_i e0
      rw [if_neg e0, if_neg e2]; rfl
theorem PageInv.stepVis {c : D.Config} (h : PageInv Q M b p) (hb : BookOK b) (hd : (dueV p).2 = true) : stepV c b p = (stepQ c b p, 0) := by
  unfold stepV
  rw [h.check hb, hd, if_neg (by simp), if_neg (by simp), if_neg (by have := (h.len hb).1; omega)]
def StepQ (Q : Int → D.Start → Prop) (M : Int) (c : D.Config) (b : D.Book) : Prop := ∀ p, PageInv Q M b p → p.State = 0 → p.Next < countV (polOf b p) → Q p.Policy ⟨p.Next, p.Due, callV c b (stepAt b p) p.Due⟩
theorem runN_inv {c : D.Config} {now : Int} (hb : BookOK b) (hQ : StepQ Q M c b) : ∀ (n : Nat) {p : D.Page}, PageInv Q M b p → leftV b p ≤ n → PageInv Q M b (runN c b now n p).1 ∧ (runN c b now n p).2 = 0 ∧ waitB (runN c b now n p).1 now = false
  | 0, p, h, hl => ⟨h, rfl, waitB_left (b := b) (show leftV b p = 0 by omega)⟩
  | n + 1, p, h, hl => by
    rw [runN]
    split
    · rename_i hw
      have hd := waitB_due hw
      rw [h.stepVis hb hd.1, if_neg (by simp)]
      exact runN_inv hb hQ n (h.stepQ_inv hb hd.1 (hQ p h)) (by have := step_left (c := c) (b := b) hd.1; dsimp only; omega)
    · rename_i hw
      exact ⟨h, rfl, by dsimp only; cases hb : waitB p now <;> simp_all⟩
theorem leftV_le (hb : BookOK b) (h : PageInv Q M b p) : leftV b p ≤ 11 := by
  have hc := countV_is (h.polOK hb)
  have := (h.len hb).2
  unfold leftV
  split
  · omega
  · split <;> omega
theorem runV_inv {c : D.Config} {now : Int} (hb : BookOK b) (hQ : StepQ Q M c b) (h : PageInv Q M b p) : PageInv Q M b (runV c b p now).1 ∧ (runV c b p now).2 = 0 ∧ waitB (runV c b p now).1 now = false := by
  unfold runV
  rw [h.check hb, if_neg (by simp)]
  exact runN_inv hb hQ 100 h (by have := leftV_le hb h; omega)
theorem runV_is {c : D.Config} {now : Int} (h : checkV b p = true) : runV c b p now = runN c b now 100 p := by unfold runV; rw [h, if_neg (by simp)]
end
end Go.Proofs.YtfhcigjkfelnfaaGreat
/-
  What functions do, reckoned from their code, and their contracts. Printed by wip/gen/brun.py.
-/
set_option maxRecDepth 100000
set_option linter.unusedVariables false
namespace Go.Proofs.YtfhcigjkfelnfaaGreat
open Go AM
noncomputable section
abbrev nI : SSh := .one (.num .i64)
abbrev kI : Sh := .num .i64
abbrev P3 : Type := Int × (Int × (Int × Unit))
abbrev P4 : Type := Int × (Int × (Int × (Int × Unit)))
abbrev P5 : Type := Int × (Int × (Int × (Int × (Int × Unit))))
abbrev P6 : Type := Int × (Int × (Int × (Int × (Int × (Int × Unit)))))
abbrev P7 : Type := Int × (Int × (Int × (Int × (Int × (Int × (Int × Unit))))))
abbrev P8 : Type := Int × (Int × (Int × (Int × (Int × (Int × (Int × (Int × Unit)))))))
abbrev P9 : Type := Int × (Int × (Int × (Int × (Int × (Int × (Int × (Int × (Int × Unit))))))))
abbrev P10 : Type := Int × (Int × (Int × (Int × (Int × (Int × (Int × (Int × (Int × (Int × Unit)))))))))
abbrev P11 : Type := Int × (Int × (Int × (Int × (Int × (Int × (Int × (Int × (Int × (Int × (Int × Unit))))))))))
abbrev P12 : Type := Int × (Int × (Int × (Int × (Int × (Int × (Int × (Int × (Int × (Int × (Int × (Int × Unit)))))))))))
abbrev P13 : Type := Int × (Int × (Int × (Int × (Int × (Int × (Int × (Int × (Int × (Int × (Int × (Int × (Int × Unit))))))))))))
def tyL : List (Nat × TC) := [(2, .int), (3, .int), (4, .bool), (5, .u8), (6, .u8), (9, .str), (10, .str), (11, .str), (32, .Config), (36, .Book), (40, .Ledger), (47, .Call), (51, .Page), (53, .Start), (59, .Policy), (63, .PolicyStep), (66, .int), (74, .Target), (80, .Team), (88, .Answer), (93, .Arr3Int), (108, .Edit), (110, .Op), (112, .Dice), (122, .Zone), (126, .Person), (128, .Window), (130, .Local), (132, .Layer), (136, .Schedule), (170, .View), (177, .Table), (201, .int), (243, .Calendar), (270, .YearRule), (279, .Transition), (286, .Date), (299, .Occurrence), (304, .occurrence), (334, .Piece), (341, .u8), (342, .u8)]
def ty (t : Nat) : Option TC := AM.look t tyL
def civil_Weekday (fu : Nat) (p0 : Int) : Option (Int) :=
 (nzc 7 (nzc 7 (some (Int.tmod (IntKind.wrap .i64 ((Int.tmod p0 7) + 10)) 7))))
def week_SecondOf (fu : Nat) (p0 : D.Local) : Option (Int) :=
 (optc (civil_Weekday fu (D.Local.Day p0)) fun a0 =>
 (some (IntKind.wrap .i64 ((IntKind.wrap .i64 (a0 * 86400)) + (D.Local.Second p0)))))
def cmp_isNaN_int (fu : Nat) (p0 : Int) : Option (Bool) :=
 (some (decide (p0 ≠ p0)))
def cmp_isNaN_int_g (fu : Nat) : Sig := mkSig [nI] [] [.one (.boo)] [] [] (Bool) (fun q => ((q, ()), ())) (fun x y => cmp_isNaN_int fu x.1)
theorem cmp_isNaN_int_ok (fu : Nat) : FnOK Tryz.prog 200 (cmp_isNaN_int_g fu) :=
 FnOK.intro (ty := ty) (E := envL []) (fu := fu) (an := .go) (fun a b => a.1) (fun _ _ => rfl) (envL_ok (l := []) trivial) Tryz.func200 rfl rfl (fun x y => by kernel_rfl)
def cmp_Less_int (fu : Nat) (p0 : Int) (p1 : Int) : Option (Bool) :=
 (optc (cmp_isNaN_int fu p0) fun a0 =>
 (cnd a0
 (optc (cmp_isNaN_int fu p1) fun a1 =>
 (cnd a1
 (cnd (decide (p0 < p1))
 (some true)
 (some false))
 (some true)))
 (cnd (decide (p0 < p1))
 (some true)
 (some false))))
def cmp_Less_int_g (fu : Nat) : Sig := mkSig [nI, nI] [] [.one (.boo)] [] [] (Bool) (fun q => ((q, ()), ())) (fun x y => cmp_Less_int fu x.1 x.2.1)
theorem cmp_Less_int_ok (fu : Nat) : FnOK Tryz.prog 162 (cmp_Less_int_g fu) :=
 FnOK.intro (ty := ty) (E := envL [(200, 0, cmp_isNaN_int_g fu)]) (fu := fu) (an := .go) (fun a b => a.1) (fun _ _ => rfl) (envL_ok ⟨cmp_isNaN_int_ok fu, trivial⟩) Tryz.func162 rfl rfl (fun x y => by kernel_rfl)
end
end Go.Proofs.YtfhcigjkfelnfaaGreat
/-
  stack.LayerOf: a range over a function (slices.Backward), for schedules of one layer: its contract, by the kit's laws of such ranges.
-/
namespace Go.Proofs.YtfhcigjkfelnfaaGreat
open Go Go.RowKit Go.Shelf Go.Proofs AM
set_option linter.unusedVariables false
set_option linter.unusedSimpArgs false
attribute [local go_sem] Oper.semAt_some
set_option maxRecDepth 100000
set_option maxHeartbeats 400000
structure Oth (b : Nat) (W W' : World) : Prop where
  size : W'.heap.size = W.heap.size
  same : ∀ k, k ≠ b → W'.heap[k]? = W.heap[k]?
  os : W'.os = W.os
  out : W'.output = W.output
noncomputable section
end
end Go.Proofs.YtfhcigjkfelnfaaGreat
