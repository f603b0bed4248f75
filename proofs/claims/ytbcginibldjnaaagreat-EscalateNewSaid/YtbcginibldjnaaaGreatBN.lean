/-
  The typed layer, part N: the code of a function; its contract. No project text.
-/
import Derived.Test.YtbcginibldjnaaaGreatBM
set_option linter.unusedVariables false
set_option linter.unusedSimpArgs false
namespace Go.Proofs.YtbcginibldjnaaaGreat.AM
open Go
variable {L L' : Lens} {ts ts' : TS} {hs hs' : HS}
section
variable {R : Type} {r : R} {P : Program} {ty : TypeId → Option TC} {E : Env} {gn : List Name} {nn fu : Nat} {Γ : Ctx}
/-- The states from which the rest comes to the result. -/
def QK (K : Cont R) (r : R) : Exit → AS → Prop := fun e s' => ∃ ts' hs' L', s' = BS L' ts' hs' ∧ Inv L' hs' ∧ K e ts' hs' = some r
theorem Inv.trim {f : Name → Bool} (hi : Inv L hs) : Inv L (trimL f [] hs) := fun n t l v hn => by
  rw [look_trimL] at hn
  split at hn
  · exact hi n t l v hn
  · simp at hn
/-- Slots and objects are forgotten, but for those that are called for. -/
theorem Sim.only {f : Nat → Bool} {g : Name → Bool} {ρ : Name → Loc} {M : Nat → Prop} {a : Act} {w : World} (h : Sim Γ ρ M (BS L ts hs) a w) (hg : ∀ n, n ∈ Γ.names → g n = true) : Sim Γ ρ M (BS L (trimL f [] ts) (trimL g [] hs)) a w := by
  refine h.forget (fun t x hx => ?_) (fun n o hn => ?_) (fun n hn hc => ?_)
  · rw [BS_slot, look_trimL] at hx
    rw [BS_slot]
    split at hx
    · exact hx
    · simp at hx
  · rw [BS_heap, look_trimL] at hn
    rw [BS_heap]
    split at hn
    · exact hn
    · simp at hn
  · rw [BS_heap, look_trimL, if_pos (by rw [hg n hn]; rfl)] at hc
    obtain ⟨o, ho, _⟩ := h.keep n hn
    rw [BS_heap, hc] at ho; simp at ho
theorem keepB_gn {o : List (Name × OSh)} {n : Name} (hn : n ∈ gn) : keepB gn o hs n = true := by
  unfold keepB
  split
  · rw [isIn_iff.2 hn, Bool.or_true]
  · rfl
theorem keepA_gn {o : List (Name × OSh)} {n : Name} (hn : n ∈ gn) : keepA gn o ts hs n = true := by
  unfold keepA
  split
  · rw [isIn_iff.2 hn, Bool.true_or, Bool.true_or]
  · rfl
theorem shapeK_some {s : List (Nat × SSh)} {o : List (Name × OSh)} {K : STL s × OL o → Option R} (hgn : Γ.names = gn) (h : shapeK gn s o ts hs K = some r) (hi : Inv L hs) :
    ∃ x L', K x = some r ∧ Inv L' (OL.put 0 o x.2) ∧ Weak Γ (BS L ts hs) (BS L' (STL.put 0 s x.1) (OL.put 0 o x.2)) := by
  unfold shapeK at h
  simp only [trimC_eq] at h
  obtain ⟨ts1, hs1, h, hi1, hw1⟩ := frzK_some hgn h (hi.trim (f := keepB gn o hs))
  obtain ⟨ts2, hs2, L2, h, hi2, hw2⟩ := thawK_some (Γ := Γ) h (hi1.trim (f := keepA gn o ts1 hs1))
  obtain ⟨hs2', L2', h, hi2', hw2'⟩ := thawO_some (Γ := Γ) h hi2
  obtain ⟨x, L3, h, hi3, hle, hk⟩ := getS_some h hi2'
  refine ⟨x, L3, h, hi3, fun ρ M a w hs0 => ?_⟩
  obtain ⟨ρ1, M1, h1⟩ := hw1 ρ M a w (hs0.only (f := keepT s) (g := keepB gn o hs) fun n hn => keepB_gn (by rw [← hgn]; exact hn))
  have h1' : Sim Γ ρ1 M1 (BS L ts1 (trimL (keepA gn o ts1 hs1) [] hs1)) a w := by
    have h2 := h1.only (f := fun _ => true) (g := keepA gn o ts1 hs1) fun n hn => keepA_gn (by rw [← hgn]; exact hn)
    refine h2.congr (fun t => ?_) (fun n => rfl)
    show (BS L ts1 (trimL (keepA gn o ts1 hs1) [] hs1)).slot t = (BS L (trimL (fun _ => true) [] ts1) (trimL (keepA gn o ts1 hs1) [] hs1)).slot t
    rw [BS_slot, BS_slot, look_trimL]; rfl
  obtain ⟨ρ2', M2', h2'⟩ := hw2 ρ1 M1 a w h1'
  obtain ⟨ρ2, M2, h2⟩ := hw2' ρ2' M2' a w h2'
  have h3 : Sim Γ ρ2 M2 (BS L2' (viewT hs2' s ts2) hs2') a w := by
    refine h2.leS (fun t y hy => ?_) (fun n => ⟨fun y hy => ⟨y, hy, .refl _⟩, fun x hx => ⟨x, hx, .refl _⟩⟩) (fun n x y hx hy => ?_)
    · obtain ⟨y', hy', rfl⟩ := slot_of hy
      obtain ⟨x', hx', hle'⟩ := viewT_le hi2' hy'
      exact ⟨x'.er L2', by rw [BS_slot, hx']; rfl, hle'⟩
    · rw [BS_heap] at hx hy; rw [hx] at hy; cases hy; exact .inl rfl
  exact ⟨ρ2, M2, h3.sle hle (by rw [hgn]; exact hk)⟩
theorem around_ok {c : Code} {an : Ann} {K : Cont R} {body : Ann → TS → HS → Cont R → Option R} (hgn : Γ.names = gn) (h : around gn an ts hs K body = some r) (hi : Inv L hs)
    (hb : ∀ an ts hs L K, body an ts hs K = some r → Inv L hs → AWp P Γ c (BS L ts hs) (QK K r)) : AWp P Γ c (BS L ts hs) (QK K r) := by
  unfold around at h
  split at h
  · rename_i s o a
    refine AWp.post ((hb _ _ _ L _ h hi).mono fun e s' => ?_)
    rintro ⟨ts', hs', L', rfl, hi', hk⟩
    cases e with
    | normal =>
      obtain ⟨x, L2, h2, hi2, hw⟩ := shapeK_some hgn hk hi'
      exact ⟨_, hw, _, _, L2, rfl, hi2, h2⟩
    | _ => exact ⟨_, Weak.refl _ _, _, _, L', rfl, hi', hk⟩
  · obtain ⟨ts1, hs1, h, hi1, hw1⟩ := frzK_some hgn h hi
    exact AWp.weaken _ (fun ρ M a w hs0 => hw1 ρ M a w hs0) (hb _ _ _ L _ h hi1)
  · exact hb _ _ _ L _ h hi
theorem vc_ok [DecidableEq R] (hE : EnvOK P E) (hgn : Γ.names = gn) (hn : Γ.n = nn) : ∀ (c : Code) (an : Ann) (ts : TS) (hs : HS) (L : Lens) (K : Cont R), vc P ty E gn nn fu c an ts hs K = some r → Inv L hs → AWp P Γ c (BS L ts hs) (QK K r)
  | .skip, an, ts, hs, L, K, h, hi => AWp.skip ⟨_, _, L, rfl, hi, by simpa only [vc] using h⟩
  | .label _, an, ts, hs, L, K, h, hi => AWp.label ⟨_, _, L, rfl, hi, by simpa only [vc] using h⟩
  | .ret, an, ts, hs, L, K, h, hi => AWp.ret ⟨_, _, L, rfl, hi, by simpa only [vc] using h⟩
  | .exit id, an, ts, hs, L, K, h, hi => AWp.exit ⟨_, _, L, rfl, hi, by simpa only [vc] using h⟩
  | .seq a b, an, ts, hs, L, K, h, hi => by
    simp only [vc] at h
    refine around_ok hgn h hi fun an ts hs L K h hi => AWp.seq ((vc_ok hE hgn hn a _ _ _ L _ h hi).mono fun e s' => ?_)
    rintro ⟨ts', hs', L', rfl, hi', hk⟩
    cases e with
    | normal => exact vc_ok hE hgn hn b _ _ _ L' _ hk hi'
    | _ => exact ⟨_, _, L', rfl, hi', hk⟩
  | .cond (.tmp t) a b, an, ts, hs, L, K, h, hi => by
    simp only [vc] at h
    refine around_ok hgn h hi fun an ts hs L K h hi => ?_
    split at h
    · rename_i q hl
      refine AWp.cond q (by rw [BS_slot, hl]; simp only [Option.map_some, BV.er]) (fun hq => ?_) (fun hq => ?_)
      · subst hq; exact vc_ok hE hgn hn a _ _ _ L _ h hi
      · subst hq; exact vc_ok hE hgn hn b _ _ _ L _ h hi
    · rename_i hl
      obtain ⟨h1, h2⟩ := both_some h
      intro ρ M w0 w hs0
      obtain ⟨u, hu, hr⟩ := hs0.slots t _ (show (BS L ts hs).slot t = some .ub by rw [BS_slot, hl]; simp only [Option.map_some, BV.er])
      simp only [AV.R] at hr
      obtain ⟨q, rfl⟩ := hr
      have he : w0.eval (.tmp t) = .bool q := by simp [Act.eval, Array.getD_eq_getD_getElem?, hu]
      cases q with
      | true => exact wp_cond_true he (vc_ok hE hgn hn a _ _ _ L _ h1 hi ρ M w0 w hs0)
      | false => exact wp_cond_false he (vc_ok hE hgn hn b _ _ _ L _ h2 hi ρ M w0 w hs0)
    · simp at h
  | .cond (.const c) a b, an, ts, hs, L, K, h, hi => by
    cases c with
    | bool q =>
      simp only [vc] at h
      refine around_ok hgn h hi fun an ts hs L K h hi => ?_
      cases q with
      | true => exact fun ρ M w0 w hs0 => wp_cond_true rfl (vc_ok hE hgn hn a _ _ _ L _ h hi ρ M w0 w hs0)
      | false => exact fun ρ M w0 w hs0 => wp_cond_false rfl (vc_ok hE hgn hn b _ _ _ L _ h hi ρ M w0 w hs0)
    | _ => simp [vc] at h
  | .cond (.global _) a b, an, ts, hs, L, K, h, hi => by simp [vc] at h
  | .cond (.func _) a b, an, ts, hs, L, K, h, hi => by simp [vc] at h
  | .block id a, an, ts, hs, L, K, h, hi => by
    simp only [vc] at h
    refine around_ok hgn h hi fun an ts hs L K h hi => AWp.block ((vc_ok hE hgn hn a _ _ _ L _ h hi).mono fun e s' => ?_)
    rintro ⟨ts', hs', L', rfl, hi', hk⟩
    cases e with
    | exit k =>
      simp only [blockQ]
      simp only [blockC] at hk
      split at hk
      · rename_i he; rw [if_pos (Nat.eq_of_beq_eq_true he)]; exact ⟨_, _, L', rfl, hi', hk⟩
      · rename_i he; rw [if_neg (fun e => he (by rw [e]; exact Nat.beq_refl _))]; exact ⟨_, _, L', rfl, hi', hk⟩
    | _ => exact ⟨_, _, L', rfl, hi', hk⟩
  | .loop a, an, ts, hs, L, K, h, hi => by
    simp only [vc] at h
    split at h
    · rename_i s o an
      obtain ⟨x, L1, h, hi1, hw⟩ := shapeK_some hgn h hi
      refine AWp.weaken _ hw (AWp.loop (fun m s' => ∃ x L', s' = BS L' (STL.put 0 s x.1) (OL.put 0 o x.2) ∧ Inv L' (OL.put 0 o x.2) ∧ iterF (fun Lp x => vc P ty E gn nn fu a an (STL.put 0 s x.1) (OL.put 0 o x.2) (nextC K fun ts hs => shapeK gn s o ts hs Lp)) m x = some r)
        ⟨fu, x, L1, rfl, hi1, h⟩ ?_)
      rintro m s' ⟨x, L', rfl, hi', hm⟩
      cases m with
      | zero => simp [iterF] at hm
      | succ m =>
        simp only [iterF] at hm
        refine AWp.post ((vc_ok hE hgn hn a _ _ _ L' _ hm hi').mono fun e s' => ?_)
        rintro ⟨ts2, hs2, L2, rfl, hi2, hk⟩
        cases e with
        | normal =>
          obtain ⟨x', L3, h3, hi3, hw3⟩ := shapeK_some hgn hk hi2
          exact ⟨_, hw3, m, Nat.lt_succ_self m, x', L3, rfl, hi3, h3⟩
        | _ => exact ⟨_, Weak.refl _ _, _, _, L2, rfl, hi2, hk⟩
    · simp at h
  | .region id ops dr, an, ts, hs, L, K, h, hi => by
    simp only [vc] at h
    refine around_ok hgn h hi fun an ts hs L K h hi => ?_
    cases dr with
    | false =>
      intro ρ M a w hs0
      refine wp_region ?_
      have := regK_ok (gn := gn) (Γ := Γ) (ops := ops) (Q := fun e a' w' => ∃ s' ρ' M', QK K r e s' ∧ Sim Γ ρ' M' s' a' w') hE hgn hn (fun ts' hs' L' ρ' M' a' w' hk hi' hs' => ⟨_, ρ', M', ⟨_, _, L', rfl, hi', hk⟩, hs'⟩) ops.size 0 ts hs L h hi ρ M a w hs0
      rwa [Nat.sub_zero, ← List.range_eq_range'] at this
    | true =>
      simp only at h
      split at h
      case isFalse => simp at h
      rename_i hm
      obtain ⟨rows, ts', hs', L', hk, hi', hst, hts, hhs, hg⟩ := dregK_some hE ops.size 0 [] ts hs L h hi
      change (if indepB ops rows ts hs = true then K .normal ts' hs' else none) = some r at hk
      split at hk
      case isFalse => simp at hk
      rename_i hind
      show AWp P Γ _ (mk (erT L ts) (erH L hs)) _
      rw [hts, hhs]
      exact AWp.drawG hn (by rw [hm, Bool.true_or]) _ hst hg (indep_row hind L') ⟨_, _, L', rfl, hi', hk⟩
  | .rangeFunc .., an, ts, hs, L, K, h, hi => by simp [vc] at h
  | .scope _, an, ts, hs, L, K, h, hi => by simp [vc] at h
  | .goto _, an, ts, hs, L, K, h, hi => by simp [vc] at h
  | .refuse _, an, ts, hs, L, K, h, hi => by simp [vc] at h
end

/-! ### The end of a function -/
section
variable {R : Type} (P : Program)
def resV (ts : TS) (hs : HS) : ResultVar → Option BV
  | .tmp t => look t ts
  | .cell t T => match look t ts with
    | some (.ref n 0) => match look n hs with
      | some (.box cells) => if aggT P T then (match sizeT P T with | some z => if Nat.beq z cells.length then some (.agg cells) else none | none => none)
        else if flatT P T then (match cells with | [v] => some v | _ => none) else none
      | _ => none
    | _ => none
def resVs (ts : TS) (hs : HS) : List ResultVar → Option (List BV)
  | [] => some []
  | x :: q => match resV P ts hs x, resVs ts hs q with
    | some v, some vs => some (v :: vs)
    | _, _ => none
def Sh.owns : Sh → List Name
  | .own nm => [nm]
  | .view nm => [nm]
  | _ => []
def SSh.owns : SSh → List Name
  | .one s => s.owns
  | .st _ => []
  | .agg l => l.flatMap Sh.owns
def OSh.owns : OSh → List Name
  | .box l => l.flatMap Sh.owns
  | _ => []
def arrB (l : List (Name × OSh)) (n : Name) : Bool := match look n l with
  | some (.arr _) => true
  | _ => false
/-- What is to be kept was kept. -/
def sameC {α : Type} [DecidableEq α] (a b : α) (x : Option R) : Option R := if a = b then x else none
def keepK (hs : HS) : (l : List (Name × OSh)) → List Name → OL l → Option R → Option R
  | [], _, _, x => x
  | (nm, .arr t) :: l, ks, y, x => if isIn nm ks then (match look nm hs with
      | some (.arr t' z _) => if h : t' = t then sameC (castL h z) y.1 (keepK hs l ks y.2 x) else none
      | _ => none) else keepK hs l ks y.2 x
  | (nm, .box _) :: l, ks, y, x => if isIn nm ks then none else keepK hs l ks y.2 x
  | (nm, .arrs _) :: l, ks, y, x => if isIn nm ks then none else keepK hs l ks y.2 x
  | (nm, .sm) :: l, ks, y, x => if isIn nm ks then none else keepK hs l ks y.2 x
  | (nm, .boxst t) :: l, ks, y, x => if isIn nm ks then (match look nm hs with
      | some (.box cs) => tpop t cs fun z rest => match rest with
        | [] => sameC z y.1 (keepK hs l ks y.2 x)
        | _ => none
      | _ => none) else keepK hs l ks y.2 x
def slotsR : List ResultVar → List SSh → List (Nat × SSh)
  | .tmp t :: r, s :: q => (t, s) :: slotsR r q
  | _ :: r, _ :: q => slotsR r q
  | _, _ => []
def endK (gn : List Name) (rs : List ResultVar) (g : Sig) (y : OL g.pre) (K : SL g.res → OL g.post → Option R) (ts : TS) (hs : HS) : Option R :=
  thawK g.post (slotsR rs g.res) ts hs fun ts hs => match resVs P ts hs rs with
  | none => none
  | some vs => frzK gn (needArgs g.post hs g.res vs) ts hs fun ts hs => match resVs P ts hs rs with
    | none => none
    | some vs => SL.get g.res (viewL hs g.res vs) [] fun σ a => OL.get g.post hs ((keys g.post).map (fun n => (n, (n, verIn n hs))) ++ σ) fun σ b =>
        if idRen σ && (keys g.pre).all (fun n => isIn n (keys g.post) || isIn n g.keep) && g.keep.all (fun n => isIn n (keys g.pre)) && (g.res.flatMap SSh.owns).all (arrB g.post) && (g.post.flatMap fun p => p.2.owns).all (arrB g.post) then keepK hs g.pre g.keep y (K a b) else none
end
end Go.Proofs.YtbcginibldjnaaaGreat.AM
