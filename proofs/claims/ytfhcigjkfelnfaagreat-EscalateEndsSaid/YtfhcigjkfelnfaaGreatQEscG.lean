/-
  The typed layer, part P: the contract of a function, out of what is reckoned of its code. No project text.
-/
import Derived.Test.YtfhcigjkfelnfaaGreatQEscF
set_option linter.unusedVariables false
set_option linter.unusedSimpArgs false
namespace Go.Proofs.YtfhcigjkfelnfaaGreat.AM
open Go
variable {L L' : Lens} {ts ts' : TS} {hs hs' : HS}
theorem newM_keys {M : Nat → Prop} {ρ : Name → Loc} {h h' : List (Name × AO)} (h1 : ∀ n o', look n h' = some o' → ∃ o, look n h = some o) (h2 : ∀ n o, look n h = some o → ∃ o', look n h' = some o') : newM M ρ h = newM M ρ h' := by
  funext b
  exact propext (or_congr_right ⟨fun ⟨n, o, k1, k2⟩ => by obtain ⟨o', k3⟩ := h2 n o k1; exact ⟨n, o', k3, k2⟩, fun ⟨n, o, k1, k2⟩ => by obtain ⟨o', k3⟩ := h1 n o k1; exact ⟨n, o', k3, k2⟩⟩)
theorem After.le {ρ : Name → Loc} {M : Nat → Prop} {w : World} {pre : List (Name × AO)} {u : Value} {v v' : AV} {h h' : List (Name × AO)} {ρ' : Name → Loc} {w' : World} (ha : After ρ M w pre u v h ρ' w')
    (hv : ∀ (ρ : Name → Loc) (H : Heap) (M : Nat → Prop) (w : World) (u : Value), v.R ρ H M w u → v'.R ρ H M w u)
    (h1 : ∀ n o', look n h' = some o' → ∃ o, look n h = some o ∧ (o = o' ∨ ∃ cs ds, o = .box cs ∧ o' = .box ds ∧ AVleL cs ds)) (h2 : ∀ n o, look n h = some o → ∃ o', look n h' = some o') : After ρ M w pre u v' h' ρ' w' := by
  have hM : newM M ρ' h = newM M ρ' h' := newM_keys (fun n o' hn => by obtain ⟨o, k, _⟩ := h1 n o' hn; exact ⟨o, k⟩) h2
  have hst : HStep ρ' (lookH h) ρ' (lookH h') := fun n o hn => by
    obtain ⟨o', ho'⟩ := h2 n o hn
    obtain ⟨o2, ho2, hle⟩ := h1 n o' ho'
    change look n h = some o at hn
    rw [hn] at ho2; cases ho2
    change stays o (ρ' n) (look n h') (ρ' n)
    rw [ho']
    rcases hle with rfl | ⟨cs, ds, rfl, rfl, _⟩
    · exact stays_refl _ _
    · rfl
  have hnn : ∀ n, lookH h n = none → lookH h' n = none := fun n hn => by
    cases hc : lookH h' n with
    | none => rfl
    | some o' =>
      obtain ⟨o, ho, _⟩ := h1 n o' hc
      change look n h = none at hn
      rw [ho] at hn; simp at hn
  have hconvs : ∀ {xs : List AV} {us : List Value}, AV.Rs ρ' (lookH h) (newM M ρ' h) w' xs us → AV.Rs ρ' (lookH h') (newM M ρ' h) w' xs us := fun hr =>
    hr.step (Ext.refl (fun _ => False) _) (fun _ hb => hb.elim) (fun b _ hb => hb) hst (fun n _ => hnn n)
  refine ⟨?_, fun n o' hn => ?_, fun n m o o' b g1 g2 => ?_, fun n o b g1 g2 => ?_, ha.ext, fun n o hn => ?_⟩
  · rw [← hM]
    exact hv _ _ _ _ _ (ha.val.step (Ext.refl (fun _ => False) _) (fun _ hb => hb.elim) (fun b _ hb => hb) hst (fun n _ => hnn n))
  · obtain ⟨o, ho, hle⟩ := h1 n o' hn
    have hobj := ha.objs n o ho
    rw [← hM]
    rcases hle with rfl | ⟨cs, ds, rfl, rfl, hle⟩
    · cases o with
      | box cells => obtain ⟨b, T, cs, k1, k2, k3, k4⟩ := hobj; exact ⟨b, T, cs, k1, k2, k3, hconvs k4⟩
      | arr es rows => exact hobj
      | hole es pre row post => obtain ⟨k0, k0', k1, b, T, cs, k3, k4, k5, k6, k7, k8, k9⟩ := hobj; exact ⟨k0, k0', k1, b, T, cs, k3, k4, k5, k6, k7, hconvs k8, k9⟩
      | fact a x => exact ⟨hobj.1, hobj.2.step (Ext.refl (fun _ => False) _) (fun _ hb => hb.elim) (fun b _ hb => hb) hst (fun n _ => hnn n)⟩
      | obj x => exact hobj
    · obtain ⟨b, T, us', k1, k2, k3, k4⟩ := hobj
      exact ⟨b, T, us', k1, k2, k3, Rs_le hle _ (hconvs k4)⟩
  · obtain ⟨p, k1, _⟩ := h1 n o g1
    obtain ⟨q, k2, _⟩ := h1 m o' g2
    exact ha.inj n m p q b k1 k2
  · obtain ⟨p, k1, _⟩ := h1 n o g1
    exact ha.own n p b k1 g2
  · obtain ⟨o1, k1, k2⟩ := ha.keep n o hn
    obtain ⟨o2, k3⟩ := h2 n o1 k1
    refine ⟨o2, k3, ?_⟩
    obtain ⟨o3, k4, hle⟩ := h1 n o2 k3
    rw [k1] at k4; cases k4
    rcases hle with rfl | ⟨cs, ds, rfl, rfl, _⟩
    · exact k2
    · cases o <;> simp only [stays] at k2 ⊢ <;> exact k2
section
variable {u v : Nat}
theorem Sh.put_ver {s : Sh} {X : Type} {x : s.prod X} (h : ∀ n, n ∈ s.owns → L n u = L' n v) : (s.put u X x).1.er L = (s.put v X x).1.er L' ∧ (s.put u X x).2 = (s.put v X x).2 := by
  cases s with
  | own nm => exact ⟨by simp only [Sh.put, BV.er]; rw [h nm (by simp [Sh.owns])], rfl⟩
  | view nm => exact ⟨by simp only [Sh.put, BV.er]; rw [h nm (by simp [Sh.owns])], rfl⟩
  | clo f caps => exact ⟨by simp only [Sh.put, BV.er]; congr 1; simp only [erL_map, List.map_map]; exact List.map_congr_left fun n _ => by simp only [Function.comp, BV.er], rfl⟩
  | _ => exact ⟨by simp only [Sh.put, BV.er], rfl⟩
theorem TL.put_ver : ∀ {l : List Sh} {x : TL l}, (∀ n, n ∈ l.flatMap Sh.owns → L n u = L' n v) → erL L (TL.put u l x) = erL L' (TL.put v l x)
  | [], x, _ => by simp only [TL.put, erL]
  | s :: r, x, h => by
    have h1 := Sh.put_ver (s := s) (x := x) (L := L) (L' := L') (u := u) (v := v) (fun n hn => h n (by simp [hn]))
    have h2 := TL.put_ver (l := r) (x := (s.put u _ x).2) (fun n hn => h n (by rw [List.flatMap_cons]; exact List.mem_append_right _ hn))
    simp only [TL.put, erL, h1.1, h2]
    rw [h1.2]
theorem SSh.put_ver {s : SSh} {X : Type} {x : s.prod X} (h : ∀ n, n ∈ s.owns → L n u = L' n v) : (s.put u X x).1.er L = (s.put v X x).1.er L' ∧ (s.put u X x).2 = (s.put v X x).2 := by
  cases s with
  | one s => exact Sh.put_ver h
  | st t => simp only [SSh.put, BV.er, and_true]; rw [erL_isP (tb_isP t x.1), erL_isP (tb_isP t x.1)]
  | agg l => simp only [SSh.put, BV.er, and_true]; rw [TL.put_ver h]
theorem SL.put_ver : ∀ {l : List SSh} {x : SL l}, (∀ n, n ∈ l.flatMap SSh.owns → L n u = L' n v) → erL L (SL.put u l x) = erL L' (SL.put v l x)
  | [], x, _ => by simp only [SL.put, erL]
  | s :: r, x, h => by
    have h1 := SSh.put_ver (s := s) (x := x) (L := L) (L' := L') (u := u) (v := v) (fun n hn => h n (by simp [hn]))
    have h2 := SL.put_ver (l := r) (x := (s.put u _ x).2) (fun n hn => h n (by rw [List.flatMap_cons]; exact List.mem_append_right _ hn))
    simp only [SL.put, erL, h1.1, h2]
    rw [h1.2]
theorem OSh.put_ver {s : OSh} {x : s.T} (h : ∀ n, n ∈ s.owns → L n u = L' n v) : (s.put u x).er L = (s.put v x).er L' := by
  cases s with
  | box l => exact congrArg AO.box (TL.put_ver (l := l) (x := x) h)
  | boxst t => simp only [OSh.put, BO.er]; rw [erL_isP (tb_isP t x), erL_isP (tb_isP t x)]
  | arr t => simp only [OSh.put, BO.er]
  | arrs t => simp only [OSh.put, BO.er]
  | sm => simp only [OSh.put, BO.er]
end
theorem look_OL {u : Nat} {n : Name} {b : BO} : ∀ {l : List (Name × OSh)} {y : OL l}, look n (OL.put u l y) = some b → ∃ (p : Name × OSh) (x : p.2.T), p ∈ l ∧ look n l = some p.2 ∧ b = p.2.put u x ∧ ∀ w, look n (OL.put w l y) = some (p.2.put w x)
  | [], y, h => by change look n [] = some b at h; simp [look] at h
  | p :: l, y, h => by
    change look n ((p.1, p.2.put u y.1) :: OL.put u l y.2) = some b at h
    simp only [look] at h
    split at h
    · rename_i e
      cases h
      refine ⟨p, y.1, by simp, by obtain ⟨k, o⟩ := p; simp only [look]; rw [if_pos e], rfl, fun w => ?_⟩
      change look n ((p.1, p.2.put w y.1) :: OL.put w l y.2) = _
      simp only [look]; rw [if_pos e]
    · rename_i e
      obtain ⟨q, x, h1, h2, h3, h4⟩ := look_OL h
      refine ⟨q, x, List.mem_cons_of_mem _ h1, by obtain ⟨k, o⟩ := p; simp only [look]; rw [if_neg e]; exact h2, h3, fun w => ?_⟩
      change look n ((p.1, p.2.put w y.1) :: OL.put w l y.2) = _
      simp only [look]; rw [if_neg e]; exact h4 w
def argSlotsB : Nat → List BV → TS
  | _, [] => []
  | i, x :: r => (i, x) :: argSlotsB (i + 1) r
theorem argSlots_er : ∀ (i : Nat) (l : List BV), argSlots i (erL L l) = erT L (argSlotsB i l)
  | _, [] => by simp only [erL, argSlots, argSlotsB]; rfl
  | i, x :: r => by simp only [erL, argSlots, argSlotsB, argSlots_er (i + 1) r]; rfl
theorem AVleL.Ts {ρ : Name → Loc} {H : Heap} {M : Nat → Prop} {w : World} : ∀ {xs ys : List AV} {us : List Value}, AVleL xs ys → AV.Ts ρ H M w xs us → AV.Ts ρ H M w ys us
  | [], ys, us, h, hr => by cases h; exact hr
  | x :: xs, ys, us, h, hr => by
    cases h with
    | cons h1 h2 =>
      simp only [AV.Ts] at hr ⊢
      obtain ⟨u, us', rfl, h3, h4⟩ := hr
      exact ⟨u, us', rfl, h1.sound u h3, AVleL.Ts h2 h4⟩
theorem resB_le {vs ws : List BV} (h : AVleL (erL L vs) (erL L' ws)) (ρ : Name → Loc) (H : Heap) (M : Nat → Prop) (w : World) (u : Value) (hr : ((resB vs).er L).R ρ H M w u) : ((resB ws).er L').R ρ H M w u := by
  have hl : vs.length = ws.length := by have := h.len; rwa [erL_length, erL_length] at this
  match vs, ws, hl with
  | [], [], _ => exact hr
  | [v], [x], _ =>
    simp only [erL] at h
    cases h with
    | cons h1 _ => exact h1.sound u hr
  | v1 :: v2 :: vs, x1 :: x2 :: ws, _ =>
    simp only [resB, BV.er, AV.R] at hr ⊢
    obtain ⟨us, rfl, h2⟩ := hr
    exact ⟨us, rfl, AVleL.Ts h h2⟩
section
variable {P : Program}
theorem resVs_some : ∀ {rs : List ResultVar} {vs : List BV}, resVs P ts hs rs = some vs → vs.length = rs.length ∧ Res1s P (BS L ts hs) rs (erL L vs)
  | [], vs, h => by simp only [resVs, Option.some.injEq] at h; subst h; exact ⟨rfl, by simp only [erL]; rfl⟩
  | x :: q, vs, h => by
    simp only [resVs] at h
    split at h
    · rename_i v vs' h1 h2
      cases h
      obtain ⟨k1, k2⟩ := resVs_some h2
      refine ⟨by simp [k1], ⟨v.er L, erL L vs', by simp only [erL], ?_, k2⟩⟩
      cases x with
      | tmp t =>
        simp only [resV] at h1
        show (BS L ts hs).slot t = _
        rw [BS_slot, h1]; rfl
      | cell t T =>
        simp only [resV] at h1
        split at h1
        · rename_i n ht
          split at h1
          · rename_i cells hc
            refine ⟨n, erL L cells, by rw [BS_slot, ht]; simp only [Option.map_some, BV.er], by rw [BS_heap, hc]; rfl, ?_⟩
            split at h1
            · rename_i hT
              split at h1
              · rename_i z hz
                split at h1
                · rename_i hb; cases h1; exact .inl ⟨hT, by rw [hz, erL_length, Nat.eq_of_beq_eq_true hb], by simp only [BV.er]⟩
                · simp at h1
              · simp at h1
            · split at h1
              · rename_i hT
                split at h1
                · cases h1; exact .inr ⟨hT, by simp only [erL]⟩
                · simp at h1
              · simp at h1
          · simp at h1
        · simp at h1
    · simp at h
theorem res_of {rs : Array ResultVar} {vs : List BV} (h : resVs P ts hs rs.toList = some vs) : Res P (BS L ts hs) rs ((resB vs).er L) := by
  obtain ⟨h1, h2⟩ := resVs_some (L := L) h
  unfold Res
  match vs, h1 with
  | [], h1 =>
    have : ¬ rs.size = 1 := fun e => by rw [← Array.length_toList, ← h1] at e; simp at e
    rw [if_neg this]; exact ⟨_, by simp only [resB, BV.er], h2⟩
  | [v], h1 =>
    have : rs.size = 1 := by rw [← Array.length_toList, ← h1]; rfl
    rw [if_pos this]; simpa only [resB, erL] using h2
  | v1 :: v2 :: vs, h1 =>
    have : ¬ rs.size = 1 := fun e => by rw [← Array.length_toList, ← h1] at e; simp at e
    rw [if_neg this]; exact ⟨_, by simp only [resB, BV.er], h2⟩
theorem keepK_some {R : Type} {r : R} : ∀ {l : List (Name × OSh)} {ks : List Name} {y : OL l} {x : Option R}, keepK hs l ks y x = some r →
    x = some r ∧ ∀ n b, n ∈ ks → look n (OL.put 0 l y) = some b → (∃ t z v, b = .arr t z 0 ∧ look n hs = some (.arr t z v)) ∨ ∃ t z cs, b = .box (tb t z) ∧ look n hs = some (.box cs) ∧ Le cs (tb t z)
  | [], ks, y, x, h => ⟨h, fun n b _ hn => by change look n [] = some b at hn; simp [look] at hn⟩
  | (nm, o) :: l, ks, y, x, h => by
    have hrest : (x = some r ∧ ∀ n b, n ∈ ks → look n (OL.put 0 l y.2) = some b → (∃ t z v, b = .arr t z 0 ∧ look n hs = some (.arr t z v)) ∨ ∃ t z cs, b = .box (tb t z) ∧ look n hs = some (.box cs) ∧ Le cs (tb t z)) →
        (isIn nm ks = true → (∃ t z v, o.put 0 y.1 = .arr t z 0 ∧ look nm hs = some (.arr t z v)) ∨ ∃ t z cs, o.put 0 y.1 = .box (tb t z) ∧ look nm hs = some (.box cs) ∧ Le cs (tb t z)) →
        x = some r ∧ ∀ n b, n ∈ ks → look n (OL.put 0 ((nm, o) :: l) y) = some b → (∃ t z v, b = .arr t z 0 ∧ look n hs = some (.arr t z v)) ∨ ∃ t z cs, b = .box (tb t z) ∧ look n hs = some (.box cs) ∧ Le cs (tb t z) := fun hr hq => by
      refine ⟨hr.1, fun n b hn hb => ?_⟩
      change look n ((nm, o.put 0 y.1) :: OL.put 0 l y.2) = some b at hb
      simp only [look] at hb
      split at hb
      · rename_i e
        subst e; cases hb
        exact hq (isIn_iff.2 hn)
      · exact hr.2 n b hn hb
    cases o with
    | arr t =>
      simp only [keepK] at h
      split at h
      · split at h
        · rename_i t' z v hl
          split at h
          · rename_i he
            subst he
            unfold sameC at h
            split at h
            · rename_i hz
              exact hrest (keepK_some h) (fun _ => .inl ⟨_, _, v, rfl, by rw [hl, ← hz]; rfl⟩)
            · simp at h
          · simp at h
        · simp at h
      · rename_i hin
        exact hrest (keepK_some h) (fun hi => absurd hi hin)
    | boxst t =>
      simp only [keepK] at h
      split at h
      · split at h
        · rename_i cs hl
          obtain ⟨z, rest, hle, h⟩ := tpop_some t h
          split at h
          · unfold sameC at h
            split at h
            · rename_i hz
              refine hrest (keepK_some h) (fun _ => .inr ⟨t, y.1, cs, rfl, hl, ?_⟩)
              rw [List.append_nil] at hle
              rw [← hz]; exact hle
            · simp at h
          · simp at h
        · simp at h
      · rename_i hin
        exact hrest (keepK_some h) (fun hi => absurd hi hin)
    | box c =>
      simp only [keepK] at h
      split at h
      · simp at h
      · rename_i hin
        exact hrest (keepK_some h) (fun hi => absurd hi hin)
    | arrs c =>
      simp only [keepK] at h
      split at h
      · simp at h
      · rename_i hin
        exact hrest (keepK_some h) (fun hi => absurd hi hin)
    | sm =>
      simp only [keepK] at h
      split at h
      · simp at h
      · rename_i hin
        exact hrest (keepK_some h) (fun hi => absurd hi hin)
theorem SLput_length {u : Nat} : ∀ {l : List SSh} {x : SL l}, (SL.put u l x).length = l.length
  | [], _ => rfl
  | s :: r, x => by simp only [SL.put, List.length_cons, SLput_length (l := r)]
def lenAt : (l : List (Name × OSh)) → OL l → Name → Option Nat
  | [], _, _ => none
  | (k, .arr _) :: r, y, n => if Nat.beq k n then some y.1.length else lenAt r y.2 n
  | (k, .arrs _) :: r, y, n => if Nat.beq k n then none else lenAt r y.2 n
  | (k, .box _) :: r, y, n => if Nat.beq k n then none else lenAt r y.2 n
  | (k, .boxst _) :: r, y, n => if Nat.beq k n then none else lenAt r y.2 n
  | (k, .sm) :: r, y, n => if Nat.beq k n then none else lenAt r y.2 n
def lenB {R : Type} (pre : List (Name × OSh)) (y : OL pre) : (l : List (Name × OSh)) → OL l → Option R → Option R
  | [], _, x => x
  | (n, .arrs _) :: r, b, x => match lenAt pre y n with
    | some m => chk b.1.length m (lenB pre y r b.2 x)
    | none => none
  | (_, .arr _) :: r, b, x => lenB pre y r b.2 x
  | (_, .box _) :: r, b, x => lenB pre y r b.2 x
  | (_, .boxst _) :: r, b, x => lenB pre y r b.2 x
  | (_, .sm) :: r, b, x => lenB pre y r b.2 x
theorem lenAt_some : ∀ {l : List (Name × OSh)} {y : OL l} {n : Name} {m : Nat}, lenAt l y n = some m → ∃ (t : TC) (z : List (TT t)), look n (OL.put 0 l y) = some (.arr t z 0) ∧ z.length = m
  | [], y, n, m, h => by simp [lenAt] at h
  | (k, o) :: r, y, n, m, h => by
    have hrest : lenAt r y.2 n = some m → k ≠ n → ∃ (t : TC) (z : List (TT t)), look n (OL.put 0 ((k, o) :: r) y) = some (.arr t z 0) ∧ z.length = m := fun h e => by
      obtain ⟨t, z, h1, h2⟩ := lenAt_some h
      refine ⟨t, z, ?_, h2⟩
      change look n ((k, o.put 0 y.1) :: OL.put 0 r y.2) = _
      simp only [look]; rw [if_neg e]; exact h1
    cases o <;> simp only [lenAt] at h <;> split at h
    all_goals first
      | (simp at h; done)
      | (rename_i e; exact hrest h (fun h' => e (by rw [h']; exact Nat.beq_refl _)))
      | skip
    rename_i t e
    have := Nat.eq_of_beq_eq_true e; subst this
    refine ⟨t, y.1, ?_, by simpa using h⟩
    change look k ((k, _) :: OL.put 0 r y.2) = _
    simp only [look, if_true]; rfl
theorem lenB_some {R : Type} {r : R} {pre : List (Name × OSh)} {y : OL pre} : ∀ {l : List (Name × OSh)} {b : OL l} {x : Option R}, lenB pre y l b x = some r →
    x = some r ∧ ∀ n (t : TC) (z : List (TT t)), look n (OL.put 1 l b) = some (.arr t z 0) → lenAt pre y n = some z.length
  | [], b, x, h => ⟨h, fun n t z hn => by change look n [] = _ at hn; simp [look] at hn⟩
  | (k, o) :: l, b, x, h => by
    have hrest : lenB pre y l b.2 x = some r → (∀ (t : TC) (z : List (TT t)), o.put 1 b.1 = .arr t z 0 → lenAt pre y k = some z.length) →
        x = some r ∧ ∀ n (t : TC) (z : List (TT t)), look n (OL.put 1 ((k, o) :: l) b) = some (.arr t z 0) → lenAt pre y n = some z.length := fun h hq => by
      obtain ⟨h1, h2⟩ := lenB_some h
      refine ⟨h1, fun n t z hn => ?_⟩
      change look n ((k, o.put 1 b.1) :: OL.put 1 l b.2) = _ at hn
      simp only [look] at hn
      split at hn
      · rename_i e; subst e; exact hq t z (Option.some.inj hn)
      · exact h2 n t z hn
    cases o with
    | arrs t =>
      simp only [lenB] at h
      split at h
      · rename_i m hm
        obtain ⟨e, h⟩ := chk_some h
        refine hrest h fun t' z hz => ?_
        simp only [OSh.put] at hz
        cases hz
        rw [hm, ← e]
      · simp at h
    | arr t => exact hrest h fun t' z hz => by simp only [OSh.put] at hz; injection hz with _ _ h3; simp at h3
    | box t => exact hrest h fun t' z hz => by simp [OSh.put] at hz
    | boxst t => exact hrest h fun t' z hz => by simp [OSh.put] at hz
    | sm => exact hrest h fun t' z hz => by simp [OSh.put] at hz
theorem lenB_any {R R' : Type} {r : R} {r' : R'} {pre : List (Name × OSh)} {y : OL pre} : ∀ {l : List (Name × OSh)} {b : OL l} {x : Option R}, lenB pre y l b x = some r → lenB pre y l b (some r') = some r'
  | [], b, x, h => rfl
  | (k, .arrs t) :: l, b, x, h => by
    simp only [lenB] at h ⊢
    split at h
    · obtain ⟨e, h⟩ := chk_some h
      unfold chk; rw [if_pos e]; exact lenB_any h
    · simp at h
  | (k, .arr t) :: l, b, x, h => lenB_any (l := l) h
  | (k, .box t) :: l, b, x, h => lenB_any (l := l) h
  | (k, .boxst t) :: l, b, x, h => lenB_any (l := l) h
  | (k, .sm) :: l, b, x, h => lenB_any (l := l) h
def mkSig (args : List SSh) (pre : List (Name × OSh)) (res : List SSh) (post : List (Name × OSh)) (keep : List Name) (Ret : Type) (un : Ret → SL res × OL post) (f : SL args → OL pre → Option Ret) : Sig :=
  ⟨args, pre, res, post, keep, fun _ x y K => optc (f x y) fun q => lenB pre y post (un q).2 (K (un q).1 (un q).2)⟩
def finK {R : Type} (P : Program) (gn : List Name) (rs : List ResultVar) (g : Sig) (y : OL g.pre) (K : SL g.res → OL g.post → Option R) : Cont R := fun e ts hs => match e with
  | .normal => endK P gn rs g y K ts hs
  | .ret => endK P gn rs g y K ts hs
  | _ => none
theorem FnOK.intro {ty : TypeId → Option TC} {E : Env} {fu : Nat} {f : FuncId} {fn : Func} {c : Code} {an : Ann} {args : List SSh} {pre : List (Name × OSh)} {res : List SSh} {post : List (Name × OSh)} {keep : List Name} {Ret : Type} [DecidableEq Ret] {un : Ret → SL res × OL post} {F : SL args → OL pre → Option Ret}
    (conv : SL res → OL post → Ret) (hcu : ∀ a b, un (conv a b) = (a, b)) (hE : EnvOK P E) (hf : P.funcs[f]? = some fn) (hb : fn.body = some c) (hlen : Nat.ble args.length fn.ntmps = true)
    (hF : ∀ x y, vc P ty E (keys pre) fn.ntmps fu c an (argSlotsB 0 (SL.put 0 args x)) (OL.put 0 pre y) (finK P (keys pre) fn.results.toList (mkSig args pre res post keep Ret un F) y fun a b => some (conv a b)) = F x y) :
    FnOK P f (mkSig args pre res post keep Ret un F) := by
  refine ⟨fun R x y K r h => ?_, fun x y a b h L0 hL0 => ?_⟩
  · obtain ⟨q, hq, h⟩ := optc_some h
    obtain ⟨h', hle⟩ := lenB_some h
    refine ⟨(un q).1, (un q).2, ?_, h'⟩
    show optc (F x y) _ = _
    rw [hq]
    exact lenB_any h
  · change SL args at x
    change OL pre at y
    change SL res at a
    change OL post at b
    obtain ⟨q, hq, h⟩ := optc_some h
    obtain ⟨h, hlens⟩ := lenB_some h
    simp only [Option.some.injEq] at h
    have hvc := (hF x y).trans hq
    let g : Sig := mkSig args pre res post keep Ret un F
    let L1 : Lens := fun n v => match look n (g.posts y b) with
      | some (.arr t l u) => if v = u then l.length else L0 n v
      | _ => L0 n v
    have hL1 : ∀ n t l v, look n (g.posts y b) = some (.arr t l v) → L1 n v = l.length := fun n t l v hn => by
      show (match look n (g.posts y b) with | some (.arr t l u) => if v = u then l.length else L0 n v | _ => L0 n v) = _
      rw [hn]; simp only [if_true]
    have hpost : ∀ n b0, look n (OL.put 1 post b) = some b0 → look n (g.posts y b) = some b0 := fun n b0 hn => by
      show look n (OL.put 1 post b ++ _) = _
      rw [look_append, hn]
    have hpre : ∀ n b0, look n (OL.put 1 post b) = none → n ∈ keep → look n (OL.put 0 pre y) = some b0 → look n (g.posts y b) = some b0 := fun n b0 h1 h2 h3 => by
      show look n (OL.put 1 post b ++ (OL.put 0 pre y).filter (fun p => keep.contains p.1)) = _
      rw [look_append, h1]
      simp only [look_filter (f := fun n => keep.contains n)]
      rw [if_pos (by simpa using h2), h3]
    refine ⟨L1, fun n hn => ?_, hL1, ?_⟩
    · show (match look n (g.posts y b) with | some (.arr t l u) => if 0 = u then l.length else L0 n 0 | _ => L0 n 0) = _
      split
      · rename_i t l u hl
        split
        · rename_i e
          subst e
          change look n (OL.put 1 post b ++ (OL.put 0 pre y).filter (fun p => keep.contains p.1)) = _ at hl
          rw [look_append] at hl
          cases h1 : look n (OL.put 1 post b) with
          | some b1 =>
            rw [h1] at hl; cases hl
            have hab : (un q).2 = b := congrArg Prod.snd h
            rw [hab] at hlens
            obtain ⟨t', z, k1, k2⟩ := lenAt_some (hlens n t l h1)
            rw [← k2]; exact (hL0 n t' z 0 k1).symm
          | none =>
            rw [h1] at hl
            simp only [look_filter (f := fun n => keep.contains n)] at hl
            split at hl
            · exact (hL0 n t l 0 hl).symm
            · simp at hl
        · rfl
      · rfl
    · have hspec : Spec P f (erL L0 (SL.put 0 args x)) (erH L0 (OL.put 0 pre y)) fun v h' =>
          (∀ (ρ : Name → Loc) (H : Heap) (M : Nat → Prop) (w : World) (u : Value), v.R ρ H M w u → ((resB (SL.put 1 res a)).er L1).R ρ H M w u) ∧
          (∀ n o', look n (erH L1 (g.posts y b)) = some o' → ∃ o, look n h' = some o ∧ (o = o' ∨ ∃ cs ds, o = .box cs ∧ o' = .box ds ∧ AVleL cs ds)) ∧ (∀ n o, look n h' = some o → ∃ o', look n (erH L1 (g.posts y b)) = some o') := by
        refine Spec.intro hf hb (by rw [erL_length, SLput_length]; exact hlen) fun Γ hn hk => ?_
        rw [keys_erH, keys_put] at hk
        rw [argSlots_er]
        refine AWp.post ((vc_ok hE hk hn c an _ _ L0 _ hvc hL0).mono fun e s' => ?_)
        rintro ⟨ts', hs', L', rfl, hi', hk'⟩
        have hend : (e = .normal ∨ e = .ret) ∧ endK P (keys pre) fn.results.toList g y (fun a b => some (conv a b)) ts' hs' = some q := by
          cases e with
          | normal => exact ⟨.inl rfl, hk'⟩
          | ret => exact ⟨.inr rfl, hk'⟩
          | _ => simp [finK] at hk'
        obtain ⟨he, hk'⟩ := hend
        unfold endK at hk'
        obtain ⟨ts2, hs2, L2, hk', hi2, hw0⟩ := thawK_some (Γ := Γ) hk' hi'
        split at hk'
        · simp at hk'
        rename_i vs0 hvs0
        obtain ⟨ts1, hs1, hk', hi1, hw1⟩ := frzK_some hk hk' hi2
        split at hk'
        · simp at hk'
        rename_i vs hvs
        obtain ⟨σ1, a', hk', hs1', g1⟩ := SL.get_some hk'
        obtain ⟨σ2, b', hk', hs2', g2⟩ := OL.get_some hk'
        split at hk'
        case isFalse => simp at hk'
        rename_i hchk
        simp only [Bool.and_eq_true] at hchk
        obtain ⟨⟨⟨⟨hid, hall⟩, hkp⟩, hown1⟩, hown2⟩ := hchk
        obtain ⟨hq', hkept⟩ := keepK_some hk'
        simp only [Option.some.injEq] at hq'
        have hab : (a', b') = (a, b) := (hcu a' b').symm.trans ((congrArg un hq').trans h)
        obtain ⟨hab1, hab2⟩ := Prod.mk.inj hab
        rw [hab1] at g1
        rw [hab2] at g2
        have hf2 := verOf_fit hid
        have hf1 : Fit (fun n => n) (verOf σ2) σ1 := hf2.mono fun p hp => hs2' p (List.mem_append_right _ hp)
        have hlen2 : ∀ n, arrB post n = true → lensOf L2 (fun n => n) (verOf σ2) n 0 = L1 n 1 := fun n hn => by
          have hkn : n ∈ keys post := by
            unfold arrB at hn
            split at hn
            · rename_i hl; exact keys_of_look (by rw [hl]; simp)
            · simp at hn
          obtain ⟨b0, hb0⟩ := look_put (u := 0) (y := b) hkn
          obtain ⟨p, z, hp1, hp2, hp3, hp4⟩ := look_OL hb0
          unfold arrB at hn
          rw [hp2] at hn
          obtain ⟨k, o⟩ := p
          cases o with
          | arr t =>
            have h1 := hL1 n t z 1 (hpost n _ (hp4 1))
            obtain ⟨ob, hob, hle⟩ := g2 _ _ L2 hf2 n _ (hp4 0)
            rcases hle with ⟨cs, ds, _, h2, _⟩ | ⟨t', l', rfl, h2⟩ | ⟨es, _, h2⟩
            · cases h2
            · cases h2
              rw [h1]; exact hi1 n t z _ hob
            · cases h2
          | box l => simp at hn
          | boxst t => simp at hn
          | arrs t => simp at hn
          | sm => simp at hn
        have hle1 : AVleL (erL L2 (viewL hs1 g.res vs)) (erL L1 (SL.put 1 res a)) := by
          have := g1 _ _ L2 hf1
          rw [renL_id] at this
          have e := SL.put_ver (l := res) (x := a) (L := lensOf L2 (fun n => n) (verOf σ2)) (L' := L1) (u := 0) (v := 1) (fun n hn => hlen2 n (List.all_eq_true.1 hown1 n hn))
          exact Eq.mp (congrArg (AVleL (erL L2 (viewL hs1 g.res vs))) e) this
        have hobj : ∀ n b0, look n (g.posts y b) = some b0 → ∃ ob, look n hs1 = some ob ∧ (ob.er L2 = b0.er L1 ∨ ∃ cs ds, ob.er L2 = .box cs ∧ b0.er L1 = .box ds ∧ AVleL cs ds) := fun n b0 hb0 => by
          cases hp0 : look n (OL.put 1 post b) with
          | some b1 =>
            rw [hpost n b1 hp0] at hb0; cases hb0
            obtain ⟨p, z, hp1, hp2, hp3, hp4⟩ := look_OL hp0
            subst hp3
            obtain ⟨ob, hob, hle⟩ := g2 _ _ L2 hf2 n _ (hp4 0)
            refine ⟨ob, hob, ?_⟩
            have hv := OSh.put_ver (s := p.2) (x := z) (L := lensOf L2 (fun n => n) (verOf σ2)) (L' := L1) (u := 0) (v := 1) (fun m hm => hlen2 m (List.all_eq_true.1 hown2 m (List.mem_flatMap.2 ⟨p, hp1, hm⟩)))
            rw [← hv]
            rcases hle with ⟨cs, ds, rfl, h2, h3⟩ | ⟨t', l', rfl, h2⟩ | ⟨es, rfl, h2⟩
            · rw [renL_id] at h3
              exact .inr ⟨_, _, rfl, by rw [h2]; rfl, h3⟩
            · exact .inl (by rw [h2]; rfl)
            · exact .inl (by rw [h2]; rfl)
          | none =>
            change look n (OL.put 1 post b ++ (OL.put 0 pre y).filter (fun p => keep.contains p.1)) = _ at hb0
            rw [look_append, hp0] at hb0
            simp only [look_filter (f := fun n => keep.contains n)] at hb0
            split at hb0
            · rename_i hc
              have hc' : n ∈ keep := by simpa using hc
              rcases hkept n b0 hc' hb0 with ⟨t, z, v, rfl, hz⟩ | ⟨t, z, cs, rfl, hz, hle⟩
              · exact ⟨_, hz, .inl rfl⟩
              · refine ⟨_, hz, .inr ⟨_, _, rfl, rfl, ?_⟩⟩
                rw [show erL L1 (tb t z) = erL L2 (tb t z) from by rw [erL_isP (tb_isP t z), erL_isP (tb_isP t z)]]
                exact hle L2
            · simp at hb0
        refine ⟨BS L2 ts1 hs1, fun ρ M a w hs0 => by obtain ⟨ρ', M', h0⟩ := hw0 ρ M a w hs0; exact hw1 ρ' M' a w h0, he, (resB vs).er L2, erH L2 (hpOf (fun n => n) hs1 (keys (g.posts y b))), res_of hvs, fun n o hn' => ?_, fun n hn' => ?_, fun ρ H M w u hr => resB_le hle1 ρ H M w u (resB_le (viewL_le hi1) ρ H M w u hr), fun n o' hn' => ?_, fun n o hn' => ?_⟩
        · rw [look_erH] at hn'
          cases hl : look n (hpOf (fun n => n) hs1 (keys (g.posts y b))) with
          | none => rw [hl] at hn'; simp at hn'
          | some ob => rw [hl] at hn'; rw [BS_heap, hpOf_mem (look_mem hl)]; exact hn'
        · rw [keys_erH, keys_put] at hn'
          have hkey : ∃ b0, look n (g.posts y b) = some b0 := by
            cases hp0 : look n (OL.put 1 post b) with
            | some b1 => exact ⟨b1, hpost n b1 hp0⟩
            | none =>
              have := List.all_eq_true.1 hall n hn'
              simp only [Bool.or_eq_true] at this
              rcases this with h1 | h1
              · obtain ⟨b1, hb1⟩ := look_put (u := 1) (y := b) (isIn_iff.1 h1)
                change look n (OL.put 1 post b) = _ at hb1
                rw [hb1] at hp0; simp at hp0
              · obtain ⟨b1, hb1⟩ := look_put (u := 0) (y := y) hn'
                exact ⟨b1, hpre n b1 hp0 (isIn_iff.1 h1) hb1⟩
          obtain ⟨b0, hb0⟩ := hkey
          obtain ⟨ob, hob, _⟩ := hobj n b0 hb0
          rw [look_erH, hpOf_look (rr := fun n => n) (fun _ _ h => h) hob (keys_of_look (by rw [hb0]; simp))]; simp
        · rw [look_erH] at hn'
          cases hb0 : look n (g.posts y b) with
          | none => rw [hb0] at hn'; simp at hn'
          | some b0 =>
            rw [hb0] at hn'
            simp only [Option.map_some, Option.some.injEq] at hn'
            obtain ⟨ob, hob, hle⟩ := hobj n b0 hb0
            refine ⟨ob.er L2, by rw [look_erH, hpOf_look (rr := fun n => n) (fun _ _ h => h) hob (keys_of_look (by rw [hb0]; simp))]; rfl, ?_⟩
            rw [← hn']; exact hle
        · rw [look_erH] at hn'
          cases hl : look n (hpOf (fun n => n) hs1 (keys (g.posts y b))) with
          | none => rw [hl] at hn'; simp at hn'
          | some ob =>
            obtain ⟨m, hm, rfl⟩ := hpOf_key (look_mem hl)
            obtain ⟨b0, hb0⟩ := look_keys hm
            exact ⟨_, by rw [look_erH, hb0]; rfl⟩
      intro G ρ M w us hG hM hargs hobjs hinj
      exact (hspec G ρ M w us hG hM hargs hobjs hinj).mono fun e w' ⟨u, v, h', ρ', e1, ⟨c1, c2, c3⟩, ha⟩ => ⟨u, _, _, ρ', e1, ⟨rfl, rfl⟩, ha.le c1 c2 c3⟩
end
def fitC : List Sh → List BV → Bool
  | .own _ :: r, v :: vs => (match v with | .own _ _ => true | _ => false) && fitC r vs
  | _ :: r, _ :: vs => fitC r vs
  | _, _ => true
def fitB : List SSh → List BV → Bool
  | .one (.own _) :: r, v :: vs => (match v with | .own _ _ => true | _ => false) && fitB r vs
  | .one (.clo f _) :: r, v :: vs => (match v with | .clo (.func k) _ => Nat.beq k f | _ => false) && fitB r vs
  | .one (.fv f) :: r, v :: vs => (match v with | .v (.func (.func k) _ _) => Nat.beq k f | _ => false) && fitB r vs
  | .agg l :: r, v :: vs => (match v with | .agg cs => fitC l cs | _ => false) && fitB r vs
  | _ :: r, _ :: vs => fitB r vs
  | _, _ => true
def fitD : Nat → Option Nat → Bool
  | 0, _ => true
  | n + 1, some d => Nat.beq n d
  | _, none => false
def lookE (d : Option Nat) (k : Nat) (vs : List BV) : List (Nat × Nat × Sig) → Option Sig
  | [] => none
  | (j, q, g) :: r => if Nat.beq j k && fitD q d && fitB g.args vs then some g else lookE d k vs r
def envL (l : List (Nat × Nat × Sig)) : Env := fun d k vs => lookE d k vs l
def EnvAll (P : Program) : List (Nat × Nat × Sig) → Prop
  | [] => True
  | p :: r => FnOK P p.1 p.2.2 ∧ EnvAll P r
theorem envL_ok {P : Program} : ∀ {l : List (Nat × Nat × Sig)}, EnvAll P l → EnvOK P (envL l)
  | [], _, d, k, vs, g, h => by simp [envL, lookE] at h
  | (j, q, g0) :: r, hl, d, k, vs, g, h => by
    simp only [envL, lookE] at h
    split at h
    · rename_i e
      simp only [Bool.and_eq_true] at e
      rw [← Nat.eq_of_beq_eq_true e.1.1]; cases h; exact hl.1
    · exact envL_ok hl.2 d k vs g h
end Go.Proofs.YtfhcigjkfelnfaaGreat.AM
/-
  How what is reckoned of code is evaluated: plain laws of its words. No project text.
-/
set_option linter.unusedVariables false
set_option linter.unusedSimpArgs false
namespace Go.Proofs.YtfhcigjkfelnfaaGreat.AM
open Go
section
variable {R α : Type} {r : R}
theorem cnd_p {p : Prop} [Decidable p] {x y : Option R} (h : p) : cnd (decide p) x y = x := by simp only [h, decide_true, cnd]
theorem cnd_n {p : Prop} [Decidable p] {x y : Option R} (h : ¬ p) : cnd (decide p) x y = y := by simp only [h, decide_false, cnd]
theorem cnd_if {p : Prop} [Decidable p] {x y : Option R} : cnd (decide p) x y = if p then x else y := by
  by_cases h : p
  · rw [cnd_p h, if_pos h]
  · rw [cnd_n h, if_neg h]
theorem natc_p {j : Int} {k : Nat → Option R} (h : 0 ≤ j) : natc j k = k j.toNat := by unfold natc; rw [if_pos h]
theorem natc_n (i : Nat) {k : Nat → Option R} : natc (i : Int) k = k i := by unfold natc; rw [if_pos (Int.natCast_nonneg i)]; rfl
theorem optc_s {x : α} {k : α → Option R} : optc (some x) k = k x := rfl
theorem atc_p [Inhabited α] {l : List α} {j : Int} {k : α → Option R} (h : 0 ≤ j) (h' : j < (l.length : Int)) : atc l j k = k (nth l j.toNat) := by
  unfold atc; rw [natc_p h]
  have : j.toNat < l.length := by omega
  rw [List.getElem?_eq_getElem this]
  simp [optc, nth, List.getD_eq_getElem?_getD, List.getElem?_eq_getElem this]
theorem atc_n [Inhabited α] {l : List α} {i : Nat} {k : α → Option R} (h' : i < l.length) : atc l (i : Int) k = k (nth l i) := by
  rw [atc_p (Int.natCast_nonneg i) (by omega)]; rfl
theorem opt_nth [Inhabited α] {l : List α} {i : Nat} {k : α → Option R} (h' : i < l.length) : optc l[i]? k = k (nth l i) := by
  rw [List.getElem?_eq_getElem h']
  simp [optc, nth, List.getD_eq_getElem?_getD, List.getElem?_eq_getElem h']
theorem chk_p {a b : Nat} {x : Option R} (h : a = b) : chk a b x = x := by unfold chk; rw [if_pos h]
theorem ltc_p {a b : Nat} {x : Option R} (h : a < b) : ltc a b x = x := by unfold ltc; rw [if_pos h]
theorem lec_p {a b : Nat} {x : Option R} (h : a ≤ b) : lec a b x = x := by unfold lec; rw [if_pos h]
theorem nzc_p {b : Int} {x : Option R} (h : b ≠ 0) : nzc b x = x := by unfold nzc; rw [if_neg h]
theorem sameC_p {a : α} [DecidableEq α] {x : Option R} : sameC a a x = x := by unfold sameC; rw [if_pos rfl]
theorem wrap_p {x : Int} (h : -9223372036854775808 ≤ x) (h' : x ≤ 9223372036854775807) : IntKind.i64.wrap x = x := by rw [IntKind.wrap_i64]; omega
theorem iterF_inv {X : Type} {B : (X → Option R) → X → Option R} {Q : Option R → Prop} (I : Nat → X → Prop) (hB : ∀ m x, I m x → ∀ k : X → Option R, (∀ m' x', m' < m → I m' x' → Q (k x')) → Q (B k x)) :
    ∀ (m : Nat) (x : X) {fu : Nat}, m < fu → I m x → Q (iterF B fu x) := by
  intro m
  induction m using Nat.strongRecOn with
  | _ m ih =>
    intro x fu hf hI
    obtain ⟨f, rfl⟩ : ∃ f, fu = f + 1 := ⟨fu - 1, by omega⟩
    show Q (B (iterF B f) x)
    exact hB m x hI _ fun m' x' hm hI' => ih m' hm x' (by omega) hI'
def Ok (o : Option R) (Q : R → Prop) : Prop := ∃ x, o = some x ∧ Q x
variable {Q Q' : R → Prop}
theorem Ok.s {x : R} (h : Q x) : Ok (some x) Q := ⟨x, rfl, h⟩
theorem Ok.mono {o : Option R} (h : Ok o Q) (hq : ∀ x, Q x → Q' x) : Ok o Q' := by obtain ⟨x, h1, h2⟩ := h; exact ⟨x, h1, hq x h2⟩
theorem Ok.cnd {b : Bool} {x y : Option R} (h1 : b = true → Ok x Q) (h2 : b = false → Ok y Q) : Ok (AM.cnd b x y) Q := by
  cases b
  · exact h2 rfl
  · exact h1 rfl
theorem Ok.ite {p : Prop} [Decidable p] {x y : Option R} (h1 : p → Ok x Q) (h2 : ¬ p → Ok y Q) : Ok (AM.cnd (decide p) x y) Q :=
  Ok.cnd (fun h => h1 (of_decide_eq_true h)) (fun h => h2 (of_decide_eq_false h))
theorem Ok.opt {o : Option α} {P : α → Prop} {k : α → Option R} (h : Ok o P) (hk : ∀ x, P x → Ok (k x) Q) : Ok (optc o k) Q := by
  obtain ⟨x, rfl, h2⟩ := h; exact hk x h2
theorem Ok.at [Inhabited α] {l : List α} {j : Int} {k : α → Option R} (h : 0 ≤ j) (h' : j < (l.length : Int)) (hk : Ok (k (nth l j.toNat)) Q) : Ok (atc l j k) Q := by rw [atc_p h h']; exact hk
theorem Ok.lec {a b : Nat} {x : Option R} (h : a ≤ b) (hx : Ok x Q) : Ok (AM.lec a b x) Q := by rw [lec_p h]; exact hx
theorem Ok.nzc {b : Int} {x : Option R} (h : b ≠ 0) (hx : Ok x Q) : Ok (AM.nzc b x) Q := by rw [nzc_p h]; exact hx
theorem Ok.sameC {a : α} [DecidableEq α] {x : Option R} (hx : Ok x Q) : Ok (AM.sameC a a x) Q := by rw [sameC_p]; exact hx
theorem Ok.join {Y : Type} {k : Y → Option R} {f : (Y → Option R) → Option R} (J : Y → Prop) (h1 : ∀ y, J y → Ok (k y) Q) (h2 : ∀ k : Y → Option R, (∀ y, J y → Ok (k y) Q) → Ok (f k) Q) : Ok (AM.join k f) Q := h2 k h1
theorem Ok.loop {X : Type} {B : (X → Option R) → X → Option R} (I : Nat → X → Prop) {m : Nat} {x : X} {fu : Nat} (hm : m < fu) (h0 : I m x) (hB : ∀ m x, I m x → ∀ k : X → Option R, (∀ m' x', m' < m → I m' x' → Ok (k x') Q) → Ok (B k x) Q) : Ok (iterF B fu x) Q :=
  iterF_inv (Q := fun o => Ok o Q) I hB m x hm h0
theorem Ok.eq {o : Option R} {v : R} (h : Ok o (· = v)) : o = some v := by obtain ⟨x, rfl, rfl⟩ := h; rfl
end
end Go.Proofs.YtfhcigjkfelnfaaGreat.AM
/-
  How what is reckoned of code is evaluated, step by step, where its conditions are known. No project text.
-/
set_option linter.unusedVariables false
set_option linter.unusedSimpArgs false
namespace Go.Proofs.YtfhcigjkfelnfaaGreat.AM
open Go
section
variable {R α : Type} {Q : R → Prop}
theorem Ok.p {p : Prop} [Decidable p] {x y : Option R} (h : p) (hx : Ok x Q) : Ok (AM.cnd (decide p) x y) Q := by rw [cnd_p h]; exact hx
theorem Ok.n {p : Prop} [Decidable p] {x y : Option R} (h : ¬ p) (hx : Ok y Q) : Ok (AM.cnd (decide p) x y) Q := by rw [cnd_n h]; exact hx
theorem Ok.np {p : Prop} [Decidable p] {x y : Option R} (h : p) (hx : Ok y Q) : Ok (AM.cnd (!decide p) x y) Q := by simp only [h, decide_true, Bool.not_true]; exact hx
theorem Ok.nn {p : Prop} [Decidable p] {x y : Option R} (h : ¬ p) (hx : Ok x Q) : Ok (AM.cnd (!decide p) x y) Q := by simp only [h, decide_false, Bool.not_false]; exact hx
theorem Ok.t {x y : Option R} (hx : Ok x Q) : Ok (AM.cnd true x y) Q := hx
theorem Ok.f {x y : Option R} (hx : Ok y Q) : Ok (AM.cnd false x y) Q := hx
theorem Ok.bt {b : Bool} {x y : Option R} (h : b = true) (hx : Ok x Q) : Ok (AM.cnd b x y) Q := by rw [h]; exact hx
theorem Ok.bf {b : Bool} {x y : Option R} (h : b = false) (hx : Ok y Q) : Ok (AM.cnd b x y) Q := by rw [h]; exact hx
theorem Ok.nt {b : Bool} {x y : Option R} (h : b = true) (hx : Ok y Q) : Ok (AM.cnd (!b) x y) Q := by rw [h]; exact hx
theorem Ok.nf {b : Bool} {x y : Option R} (h : b = false) (hx : Ok x Q) : Ok (AM.cnd (!b) x y) Q := by rw [h]; exact hx
theorem Ok.ncnd {b : Bool} {x y : Option R} (h1 : b = false → Ok x Q) (h2 : b = true → Ok y Q) : Ok (AM.cnd (!b) x y) Q := by
  cases b
  · exact h1 rfl
  · exact h2 rfl
theorem Ok.j {Y : Type} {k : Y → Option R} {f : (Y → Option R) → Option R} (h : Ok (f k) Q) : Ok (AM.join k f) Q := h
theorem Ok.oe {o : Option α} {v : α} {k : α → Option R} (h : o = some v) (hk : Ok (k v) Q) : Ok (optc o k) Q := by rw [h]; exact hk
theorem Ok.os {v : α} {k : α → Option R} (hk : Ok (k v) Q) : Ok (optc (some v) k) Q := hk
theorem Ok.ck {a b : Nat} {x : Option R} (h : a = b) (hx : Ok x Q) : Ok (AM.chk a b x) Q := by rw [chk_p h]; exact hx
theorem Ok.lt {a b : Nat} {x : Option R} (h : a < b) (hx : Ok x Q) : Ok (AM.ltc a b x) Q := by rw [ltc_p h]; exact hx
theorem Ok.natn {i : Nat} {k : Nat → Option R} (hk : Ok (k i) Q) : Ok (AM.natc (i : Int) k) Q := by rw [natc_n]; exact hk
theorem Ok.get [Inhabited α] {l : List α} {i : Nat} {k : α → Option R} (h : i < l.length) (hk : Ok (k (nth l i)) Q) : Ok (optc (GetElem?.getElem? l i) k) Q := by rw [opt_nth h]; exact hk
theorem Ok.atn [Inhabited α] {l : List α} {i : Nat} {k : α → Option R} (h : i < l.length) (hk : Ok (k (nth l i)) Q) : Ok (atc l (i : Int) k) Q := by rw [atc_n h]; exact hk
theorem clone_is [DecidableEq α] {l : List α} (h : l.length ≤ 34359738368) : nilC l (AM.both (some []) (AM.lec l.length 34359738368 (some l))) (AM.lec l.length 34359738368 (some l)) = some l := by
  rw [lec_p h]
  cases l with
  | nil => unfold AM.both; rfl
  | cons a l => rfl
theorem wrap_id {x : Int} (h : -9223372036854775808 ≤ x ∧ x ≤ 9223372036854775807) : IntKind.wrap .i64 x = x := wrap_p h.1 h.2
theorem Ok.run {X : Type} {B : (X → Option R) → X → Option R} (n : Nat) (st : Nat → X) {fu : Nat} {x : X} (hx : x = st 0) (hf : n < fu) (hs : ∀ i, i < n → ∀ k, (Ok (k (st (i + 1))) Q → Ok (B k (st i)) Q)) (h : ∀ k, Ok (B k (st n)) Q) : Ok (iterF B fu x) Q := by
  subst hx
  revert st fu
  induction n with
  | zero =>
    intro st fu hf _ h
    obtain ⟨f, rfl⟩ : ∃ f, fu = f + 1 := ⟨fu - 1, by omega⟩
    exact h _
  | succ n ih =>
    intro st fu hf hs h
    obtain ⟨f, rfl⟩ : ∃ f, fu = f + 1 := ⟨fu - 1, by omega⟩
    show Ok (B (iterF B f) (st 0)) Q
    exact hs 0 (by omega) _ (ih (fun i => st (i + 1)) (by omega) (fun i hi k => hs (i + 1) (by omega) k) h)
theorem Ok.scan {X : Type} {B : (X → Option R) → X → Option R} (n : Nat) (st : Nat → X) (q : Nat → Bool) {fu : Nat} {x : X} (hx : x = st 0) (hf : n < fu) (hy : ∀ i, i < n → q i = true → (∀ j, j < i → q j = false) → ∀ k, Ok (B k (st i)) Q)
    (hn : ∀ i, i < n → q i = false → ∀ k, (Ok (k (st (i + 1))) Q → Ok (B k (st i)) Q)) (he : (∀ j, j < n → q j = false) → ∀ k, Ok (B k (st n)) Q) : Ok (iterF B fu x) Q := by
  refine Ok.loop (fun m x => ∃ i, i ≤ n ∧ m = n - i ∧ x = st i ∧ ∀ j, j < i → q j = false) (m := n) hf ⟨0, by omega, rfl, hx, fun j hj => by omega⟩ ?_
  rintro m x ⟨i, h1, h2, rfl, h3⟩ k hk
  by_cases h : i < n
  · cases hq : q i with
    | true => exact hy i h hq h3 k
    | false => exact hn i h hq k (hk (n - (i + 1)) _ (by omega) ⟨i + 1, by omega, rfl, rfl, fun j hj => by
        by_cases e : j = i
        · subst e; exact hq
        · exact h3 j (by omega)⟩)
  · obtain rfl : i = n := by omega
    exact he h3 k
theorem any_yes {l : List α} [Inhabited α] {p : α → Bool} {i : Nat} (hi : i < l.length) (h : p (nth l i) = true) : l.any p = true := List.any_eq_true.2 ⟨_, nth_mem hi, h⟩
theorem any_no {l : List α} [Inhabited α] {p : α → Bool} (h : ∀ j, j < l.length → p (nth l j) = false) : l.any p = false := by
  rw [List.any_eq_false]
  intro x hx
  obtain ⟨j, hj, rfl⟩ := List.getElem_of_mem hx
  have := h j hj
  simp only [nth, List.getD_eq_getElem?_getD, List.getElem?_eq_getElem hj, Option.getD_some] at this
  simp [this]
theorem cnd2 {p q : Prop} [Decidable p] [Decidable q] : AM.cnd (decide p) (AM.cnd (decide q) (some true) (some false)) (some false) = some (decide (p ∧ q)) := by
  by_cases hp : p <;> by_cases hq : q <;> simp [AM.cnd, hp, hq]
end
end Go.Proofs.YtfhcigjkfelnfaaGreat.AM
