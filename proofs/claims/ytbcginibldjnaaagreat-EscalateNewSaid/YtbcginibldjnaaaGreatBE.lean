/-
  The typed layer, part E: a contract with its objects named otherwise. No project text.
-/
import Derived.Test.YtbcginibldjnaaaGreatAmQ
set_option linter.unusedVariables false
set_option linter.unusedSimpArgs false
set_option linter.unusedSectionVars false
namespace Go.Proofs.YtbcginibldjnaaaGreat.AM
open Go
mutual
def AV.ren (σ : Name → Name) : AV → AV
  | .p x => .p x
  | .agg cs => .agg (renL σ cs)
  | .ref n o => .ref (σ n) o
  | .own n l => .own (σ n) l
  | .aref n l i o => .aref (σ n) l i o
  | .view n l i o => .view (σ n) l i o
  | .eptr c => .eptr c
  | .tup vs => .tup (renL σ vs)
  | .clo f a c => .clo f (renL σ a) (renL σ c)
  | .oref m n => .oref m (σ n)
  | .err b => .err b
  | .ub => .ub
  | .any => .any
def renL (σ : Name → Name) : List AV → List AV
  | [] => []
  | x :: r => x.ren σ :: renL σ r
end
theorem renL_map (σ : Name → Name) : ∀ l : List AV, renL σ l = l.map (AV.ren σ)
  | [] => by simp only [renL, List.map_nil]
  | x :: r => by simp only [renL, List.map_cons, renL_map σ r]
def AO.ren (σ : Name → Name) : AO → AO
  | .box cs => .box (renL σ cs)
  | .arr es rows => .arr es rows
  | .hole es pre row post => .hole es pre (renL σ row) post
  | .fact a x => .fact (a.ren σ) x
  | .obj x => .obj x
def renH (σ : Name → Name) (h : List (Name × AO)) : List (Name × AO) := h.map fun p => (σ p.1, p.2.ren σ)
section
variable {σ : Name → Name} (hσ : ∀ a b, σ a = σ b → a = b)
include hσ
theorem look_renH (n : Name) : ∀ h : List (Name × AO), look (σ n) (renH σ h) = (look n h).map (AO.ren σ)
  | [] => rfl
  | (k, o) :: r => by
    show look (σ n) ((σ k, o.ren σ) :: renH σ r) = (look n ((k, o) :: r)).map (AO.ren σ)
    simp only [look]
    by_cases e : k = n
    · simp [e]
    · rw [if_neg (fun h => e (hσ _ _ h)), if_neg e]; exact look_renH n r
omit hσ in
theorem look_renH_inv {m : Name} {o : AO} : ∀ {h : List (Name × AO)}, look m (renH σ h) = some o → ∃ n, σ n = m
  | [], h => by simp [renH, look] at h
  | (k, x) :: r, h => by
    change look m ((σ k, x.ren σ) :: renH σ r) = some o at h
    simp only [look] at h
    split at h
    · exact ⟨k, by assumption⟩
    · exact look_renH_inv h
omit hσ in
theorem shape_ren (o : AO) : (o.ren σ).shape = o.shape := by cases o <;> rfl
variable {ρ : Name → Loc} {H H' : Heap} {M : Nat → Prop} {w : World}
mutual
theorem ren_R (hH : ∀ n, H' (σ n) = (H n).map (AO.ren σ)) : ∀ (x : AV) (u : Value), (x.ren σ).R ρ H' M w u ↔ x.R (fun n => ρ (σ n)) H M w u
  | .p x, u => by simp only [AV.ren, AV.R]
  | .agg cs, u => by simp only [AV.ren, AV.R, ren_Rs hH cs]
  | .ref n o, u => by
    simp only [AV.ren, AV.R, hH]
    refine and_congr_right fun _ => ⟨fun h cells hc => h (renL σ cells) (by rw [hc]; rfl), fun h cells hc => ?_⟩
    cases hn : H n with
    | none => rw [hn] at hc; simp at hc
    | some ob =>
      cases ob with
      | box cs => exact h cs hn
      | _ => rw [hn] at hc; simp [AO.ren] at hc
  | .own n l, u => by
    simp only [AV.ren, AV.R, hH]
    refine and_congr_right fun _ => ⟨fun h o es k ho hs => h (o.ren σ) es k (by rw [ho]; rfl) (by rw [shape_ren]; exact hs), fun h o es k ho hs => ?_⟩
    cases hn : H n with
    | none => rw [hn] at ho; simp at ho
    | some ob => rw [hn] at ho; simp only [Option.map_some, Option.some.injEq] at ho; subst ho; rw [shape_ren] at hs; exact h ob es k hn hs
  | .aref n l i o, u => by
    simp only [AV.ren, AV.R, hH]
    refine and_congr_right fun _ => ⟨fun h o es k ho hs => h (o.ren σ) es k (by rw [ho]; rfl) (by rw [shape_ren]; exact hs), fun h o es k ho hs => ?_⟩
    cases hn : H n with
    | none => rw [hn] at ho; simp at ho
    | some ob => rw [hn] at ho; simp only [Option.map_some, Option.some.injEq] at ho; subst ho; rw [shape_ren] at hs; exact h ob es k hn hs
  | .view n l i o, u => by
    simp only [AV.ren, AV.R, hH]
    refine and_congr_right fun _ => and_congr_right fun _ => and_congr_right fun _ => ⟨fun h o es k ho hs => h (o.ren σ) es k (by rw [ho]; rfl) (by rw [shape_ren]; exact hs), fun h o es k ho hs => ?_⟩
    cases hn : H n with
    | none => rw [hn] at ho; simp at ho
    | some ob => rw [hn] at ho; simp only [Option.map_some, Option.some.injEq] at ho; subst ho; rw [shape_ren] at hs; exact h ob es k hn hs
  | .eptr c, u => by simp only [AV.ren, AV.R]
  | .tup vs, u => by simp only [AV.ren, AV.R, ren_Ts hH vs]
  | .clo f a c, u => by simp only [AV.ren, AV.R, ren_Rs hH a, ren_Rs hH c]
  | .oref m n, u => by
    simp only [AV.ren, AV.R, hH]
    refine and_congr_right fun _ => ⟨fun h x hx => h x (by rw [hx]; rfl), fun h x hx => ?_⟩
    cases hn : H n with
    | none => rw [hn] at hx; simp at hx
    | some ob =>
      cases ob with
      | obj y => rw [hn] at hx; simp only [Option.map_some, AO.ren, Option.some.injEq, AO.obj.injEq] at hx; subst hx; exact h y hn
      | _ => rw [hn] at hx; simp [AO.ren] at hx
  | .err b, u => by simp only [AV.ren, AV.R]
  | .ub, u => by simp only [AV.ren, AV.R]
  | .any, u => by simp only [AV.ren, AV.R]
theorem ren_Rs (hH : ∀ n, H' (σ n) = (H n).map (AO.ren σ)) : ∀ (xs : List AV) (us : List Value), AV.Rs ρ H' M w (renL σ xs) us ↔ AV.Rs (fun n => ρ (σ n)) H M w xs us
  | [], us => by simp only [renL, AV.Rs]
  | x :: r, us => by simp only [renL, AV.Rs, ren_R hH x, ren_Rs hH r]
theorem ren_Ts (hH : ∀ n, H' (σ n) = (H n).map (AO.ren σ)) : ∀ (xs : List AV) (us : List Value), AV.Ts ρ H' M w (renL σ xs) us ↔ AV.Ts (fun n => ρ (σ n)) H M w xs us
  | [], us => by simp only [renL, AV.Ts]
  | x :: r, us => by simp only [renL, AV.Ts, ren_R hH x, ren_Ts hH r]
end
omit hσ in
theorem renL_length (l : List AV) : (renL σ l).length = l.length := by simp [renL_map]
theorem ren_Obj (hH : ∀ n, H' (σ n) = (H n).map (AO.ren σ)) (n : Name) (o : AO) : ObjAt ρ H' M w (σ n) (o.ren σ) ↔ ObjAt (fun n => ρ (σ n)) H M w n o := by
  cases o with
  | box cs => simp only [AO.ren, ObjAt, ren_Rs hσ hH]
  | arr es rows => simp only [AO.ren, ObjAt]
  | hole es pre row post => simp only [AO.ren, ObjAt, ren_Rs hσ hH, renL_length]
  | fact a x => simp only [AO.ren, ObjAt, ren_R hσ hH]
  | obj x => simp only [AO.ren, ObjAt]
theorem stays_ren {o o' : AO} {l l' : Loc} : stays (o.ren σ) l (some (o'.ren σ)) l' ↔ stays o l (some o') l' := by
  cases o <;> cases o' <;> simp only [AO.ren, stays]
/-- The contract holds with other names. -/
theorem Spec.ren {P : Program} {f : FuncId} {args : List AV} {pre h : List (Name × AO)} {v : AV} (hs : SpecIs P f args pre v h) : SpecIs P f (renL σ args) (renH σ pre) (v.ren σ) (renH σ h) := by
  intro G ρ M w us hG hM hargs hobjs hinj
  have hH : ∀ n, lookH (renH σ pre) (σ n) = (lookH pre n).map (AO.ren σ) := fun n => look_renH hσ n pre
  have hex : ∀ b, (∃ n o, look n pre = some o ∧ (ρ (σ n)).blk = some b) ↔ (∃ n o, look n (renH σ pre) = some o ∧ (ρ n).blk = some b) := fun b => by
    constructor
    · rintro ⟨n, o, h1, h2⟩; exact ⟨σ n, o.ren σ, by rw [look_renH hσ, h1]; rfl, h2⟩
    · rintro ⟨m, o, h1, h2⟩
      obtain ⟨n, rfl⟩ := look_renH_inv h1
      rw [look_renH hσ] at h1
      cases hn : look n pre with
      | none => rw [hn] at h1; simp at h1
      | some ob => exact ⟨n, ob, hn, h2⟩
  have hB : (fun b => ∃ n o, look n pre = some o ∧ (ρ (σ n)).blk = some b) = (fun b => ∃ n o, look n (renH σ pre) = some o ∧ (ρ n).blk = some b) := by funext b; exact propext (hex b)
  refine (hs G (fun n => ρ (σ n)) M w us ?_ hM ((ren_Ts hσ hH args us).1 hargs) (fun n o hn => ?_) (fun n m o o' b h1 h2 h3 h4 => ?_)).mono ?_
  · have : (fun b => ∃ n o, look n pre = some o ∧ ((fun n => ρ (σ n)) n).blk = some b) = (fun b => ∃ n o, look n (renH σ pre) = some o ∧ (ρ n).blk = some b) := hB
    rw [this]; exact hG
  · exact (ren_Obj hσ hH n o).1 (hobjs (σ n) (o.ren σ) (by rw [look_renH hσ, hn]; rfl))
  · exact hσ _ _ (hinj (σ n) (σ m) (o.ren σ) (o'.ren σ) b (by rw [look_renH hσ, h1]; rfl) (by rw [look_renH hσ, h2]; rfl) h3 h4)
  · rintro e w' ⟨u, v', h', ρ', rfl, ⟨rfl, rfl⟩, ha⟩
    classical
    let ρ2 : Name → Loc := fun m => if hm : ∃ n, σ n = m then ρ' (Classical.choose hm) else ρ m
    have h2 : ∀ n, ρ2 (σ n) = ρ' n := fun n => by
      have hm : ∃ k, σ k = σ n := ⟨n, rfl⟩
      show (if hm : ∃ k, σ k = σ n then ρ' (Classical.choose hm) else ρ (σ n)) = ρ' n
      rw [dif_pos hm, hσ _ _ (Classical.choose_spec hm)]
    have h2' : (fun n => ρ2 (σ n)) = ρ' := funext h2
    have hH' : ∀ n, lookH (renH σ h') (σ n) = (lookH h' n).map (AO.ren σ) := fun n => look_renH hσ n h'
    have hM' : newM M ρ2 (renH σ h') = newM M ρ' h' := by
      funext b
      refine propext (or_congr_right ⟨?_, ?_⟩)
      · rintro ⟨m, o, g1, g2⟩
        obtain ⟨n, rfl⟩ := look_renH_inv g1
        rw [look_renH hσ] at g1
        cases hn : look n h' with
        | none => rw [hn] at g1; simp at g1
        | some ob => exact ⟨n, ob, hn, by rw [← h2]; exact g2⟩
      · rintro ⟨n, o, g1, g2⟩; exact ⟨σ n, o.ren σ, by rw [look_renH hσ, g1]; rfl, by rw [h2]; exact g2⟩
    have hback : ∀ {m o} {l : List (Name × AO)}, look m (renH σ l) = some o → ∃ n ob, m = σ n ∧ look n l = some ob ∧ o = ob.ren σ := fun {m o l} g1 => by
      obtain ⟨n, rfl⟩ := look_renH_inv g1
      rw [look_renH hσ] at g1
      cases hn : look n l with
      | none => rw [hn] at g1; simp at g1
      | some ob => rw [hn] at g1; exact ⟨n, ob, rfl, hn, by simpa using g1.symm⟩
    refine ⟨u, v'.ren σ, renH σ h', ρ2, rfl, ⟨rfl, rfl⟩, ?_, ?_, ?_, ?_, ?_, ?_⟩
    · rw [hM', ren_R hσ hH', h2']; exact ha.val
    · intro m o hm
      obtain ⟨n, ob, rfl, hn, rfl⟩ := hback hm
      rw [hM', ren_Obj hσ hH', h2']; exact ha.objs n ob hn
    · intro m m' o o' b g1 g2 g3 g4
      obtain ⟨n, ob, rfl, hn, rfl⟩ := hback g1
      obtain ⟨n', ob', rfl, hn', rfl⟩ := hback g2
      rw [h2] at g3 g4
      rw [ha.inj n n' ob ob' b hn hn' g3 g4]
    · intro m o b g1 g2
      obtain ⟨n, ob, rfl, hn, rfl⟩ := hback g1
      rw [h2] at g2
      rcases ha.own n ob b hn g2 with ⟨o', k1, k2⟩ | k
      · exact .inl ⟨o'.ren σ, by rw [look_renH hσ, k1]; rfl, k2⟩
      · exact .inr k
    · have := ha.ext
      rw [← hB]; exact this
    · intro m o hm
      obtain ⟨n, ob, rfl, hn, rfl⟩ := hback hm
      obtain ⟨o', k1, k2⟩ := ha.keep n ob hn
      exact ⟨o'.ren σ, by rw [look_renH hσ, k1]; rfl, by rw [h2]; exact (stays_ren hσ).2 k2⟩
end
/-- A contract, where the objects are known better. -/
theorem Spec.preLe {P : Program} {f : FuncId} {args : List AV} {pre pre' : List (Name × AO)} {post : AV → List (Name × AO) → Prop} (hs : Spec P f args pre post)
    (h1 : ∀ n o, look n pre = some o → ∃ o', look n pre' = some o' ∧ (o' = o ∨ ∃ cs ds, o' = .box cs ∧ o = .box ds ∧ AVleL cs ds)) (h2 : ∀ n o', look n pre' = some o' → ∃ o, look n pre = some o) : Spec P f args pre' post := by
  intro G ρ M w us hG hM hargs hobjs hinj
  have hB : (fun b => ∃ n o, look n pre = some o ∧ (ρ n).blk = some b) = (fun b => ∃ n o, look n pre' = some o ∧ (ρ n).blk = some b) := by
    funext b
    exact propext ⟨fun ⟨n, o, g1, g2⟩ => by obtain ⟨o', g3, _⟩ := h1 n o g1; exact ⟨n, o', g3, g2⟩, fun ⟨n, o, g1, g2⟩ => by obtain ⟨o', g3⟩ := h2 n o g1; exact ⟨n, o', g3, g2⟩⟩
  have hst : HStep ρ (lookH pre') ρ (lookH pre) := fun n o' hn => by
    obtain ⟨o, ho⟩ := h2 n o' hn
    obtain ⟨o2, ho2, hle⟩ := h1 n o ho
    change look n pre' = some o' at hn
    rw [hn] at ho2; cases ho2
    change stays o' (ρ n) (look n pre) (ρ n)
    rw [ho]
    rcases hle with rfl | ⟨cs, ds, rfl, rfl, _⟩
    · exact stays_refl _ _
    · rfl
  have hnn : ∀ n, lookH pre' n = none → lookH pre n = none := fun n hn => by
    cases hc : lookH pre n with
    | none => rfl
    | some o =>
      obtain ⟨o', ho', _⟩ := h1 n o hc
      change look n pre' = none at hn
      rw [ho'] at hn; simp at hn
  have hconvs : ∀ {xs : List AV} {us : List Value}, AV.Rs ρ (lookH pre') M w xs us → AV.Rs ρ (lookH pre) M w xs us := fun hr =>
    hr.step (Ext.refl (fun _ => False) _) (fun _ hb => hb.elim) (fun b _ hb => hb) hst (fun n _ => hnn n)
  refine (hs G ρ M w us (by rw [hB]; exact hG) hM (hargs.step (Ext.refl (fun _ => False) _) (fun _ hb => hb.elim) (fun b _ hb => hb) hst (fun n _ => hnn n)) (fun n o hn => ?_)
    (fun n m o o' b g1 g2 => by obtain ⟨p, k1, _⟩ := h1 n o g1; obtain ⟨q, k2, _⟩ := h1 m o' g2; exact hinj n m p q b k1 k2)).mono ?_
  · obtain ⟨o', ho', hle⟩ := h1 n o hn
    have hobj := hobjs n o' ho'
    rcases hle with rfl | ⟨cs, ds, rfl, rfl, hle⟩
    · exact hobj.step (Ext.refl (fun _ => False) _) (fun _ hb => hb.elim) (fun b _ hb => hb) (fun b hb => hb) hst (fun m _ => hnn m) rfl (fun _ _ => rfl) hM
    · obtain ⟨b, T, us', k1, k2, k3, k4⟩ := hobj
      exact ⟨b, T, us', k1, k2, k3, Rs_le hle _ (hconvs k4)⟩
  · rintro e w' ⟨u, v, h, ρ', rfl, hp, ha⟩
    refine ⟨u, v, h, ρ', rfl, hp, ha.val, ha.objs, ha.inj, fun n o b g1 g2 => ?_, by rw [← hB]; exact ha.ext, fun n o hn => ?_⟩
    · exact (ha.own n o b g1 g2).imp (fun ⟨o', k1, k2⟩ => by obtain ⟨o2, k3, _⟩ := h1 n o' k1; exact ⟨o2, k3, k2⟩) id
    · obtain ⟨o1, k1⟩ := h2 n o hn
      obtain ⟨o2, k2, k3⟩ := ha.keep n o1 k1
      refine ⟨o2, k2, ?_⟩
      obtain ⟨o3, k4, hle⟩ := h1 n o1 k1
      rw [hn] at k4; cases k4
      rcases hle with rfl | ⟨cs, ds, rfl, rfl, _⟩
      · exact k3
      · cases o2 <;> simp only [stays] at k3 ⊢ <;> exact k3
end Go.Proofs.YtbcginibldjnaaaGreat.AM
