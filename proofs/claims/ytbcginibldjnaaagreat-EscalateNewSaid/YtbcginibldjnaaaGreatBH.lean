/-
  The typed layer, part H: one operation, with what goes ahead of it and what follows. No project text.
-/
import Derived.Test.YtbcginibldjnaaaGreatBR
import Derived.Test.YtbcginibldjnaaaGreatAmS
set_option linter.unusedVariables false
set_option linter.unusedSimpArgs false
namespace Go.Proofs.YtbcginibldjnaaaGreat.AM
open Go
variable {L L' : Lens} {ts ts' : TS} {hs hs' : HS}
/-! ### append, and what is left -/
section
variable {R : Type} (P : Program) (ty : TypeId → Option TC) (rd : TS) (hs : HS) (K : BEff → Option R)
def bMax (x y : Operand) : Option R := match evalB rd x, evalB rd y with
  | some (.n k a), some (.n k' b) => if kEq .i64 k && kEq .i64 k' then K (ev (.n .i64 (max a b))) else none
  | _, _ => none
def bMin (x y : Operand) : Option R := match evalB rd x, evalB rd y with
  | some (.n k a), some (.n k' b) => if kEq .i64 k && kEq .i64 k' then K (ev (.n .i64 (min a b))) else none
  | _, _ => none
def bCallB (d : Option Nat) (c : Call) : Option R := match c.callee, c.args.toList, c.argTypes.toList with
  | .builtin .len, [x], [T] => bLen P rd hs K T x
  | .builtin .append, [x, y], [T, T'] => if Nat.beq T T' then bAppend P ty rd hs K d T x y else none
  | .builtin .max, [x, y], _ => bMax rd K x y
  | .builtin .min, [x, y], _ => bMin rd K x y
  | .builtin .clear, [x], [T] => bClear P rd hs K T x
  | .builtin .copy, [x, y], [T, T'] => if Nat.beq T T' then bCopy P rd hs K T x y else none
  | _, _, _ => none
/-- What an operation does that is no call of a function. -/
def bop (o : Oper) : Option R := match o.op with
  | .move x => bVal rd K x
  | .assign x => bVal rd K x
  | .pick c x y => bPick rd K c x y
  | .alloc T => bAlloc P K o.dst T
  | .box _ x => bBox rd K o.dst x
  | .build T parts => bBuild P rd K T parts
  | .buildSlice T len parts => bBuildSlice P ty rd K T len parts
  | .load T x => bLoad P rd hs K T x
  | .store T x y => bStore P rd hs K o.dst T x y
  | .fieldAddr S x i => bFieldAddr P rd hs K S x i
  | .nilCheck x => bNilCheck rd hs K x
  | .binOp op T x y _ => bBin2 P rd K op T x y
  | .unOp op _ x => bUn rd K op x
  | .field T x i => bField P rd K T x i
  | .extract x i => bExtract rd K x i
  | .indexAddr T x y => match P.underlying T with
    | some (.array _ _) => bIndexBox P rd hs K T x y
    | _ => bIndexAddr P rd hs K T x y
  | .index T x y => match P.underlying T with
    | some (.array _ _) => bIndexV P rd K T x y
    | _ => bIndexS P rd K T x y
  | .convert S T x => bConv P rd K S T x
  | .slice T x lo hi mx => bSlice P rd hs K T x lo hi mx
  | .makeFunc fn first caps => bFunc rd K fn first caps
  | .makeMap T none => bMakeMap P K o.dst T
  | .lookup T x y false => bLookup P rd hs K T x y
  | .mapUpdate T x y z => bPutM P rd hs K o.dst T x y z
  | .call c => bCallB P ty rd hs K o.dst c
  | _ => none
end
section
variable {R : Type} {P : Program} {ty : TypeId → Option TC} {rd : TS} {K : BEff → Option R} {r : R} {o : Oper}
theorem srcB_some {t0 : TC} {y : BV} {K : List (TT t0) → Option R} (h : srcB t0 y K = some r) : ∃ f l, y = .ts f t0 l ∧ K l = some r := by
  unfold srcB at h
  split at h
  · split at h
    · rename_i he; subst he; exact ⟨_, _, rfl, h⟩
    · simp at h
  · simp at h
theorem bAppend_ok {T : TypeId} {x y : Operand} (ho : o.op = .call { callee := .builtin .append, args := #[x, y], argTypes := #[T, T] }) (h : bAppend P ty rd hs K o.dst T x y = some r) : Does P o rd hs K r := by
  have hlim : ∀ {a b bytes : Nat}, a + b ≤ 34359738368 → Nat.ble bytes 4096 = true → (a + b) * bytes ≤ 140737488355328 ∧ a + b ≤ 140737488355328 := fun {a b bytes} h1 h2 => by
    have := Nat.mul_le_mul h1 (Nat.le_of_ble_eq_true h2)
    exact ⟨by omega, by omega⟩
  unfold bAppend at h
  split at h
  · rename_i n u v e hx hy he
    split at h
    · rename_i t l q es bytes hc hz hby
      split at h
      · rename_i hb
        simp only [Bool.and_eq_true] at hb
        have := Nat.eq_of_beq_eq_true hb.1.1.1; subst this
        have hq := hb.2
        have hb := hb.1
        obtain ⟨f, l', hv, h0⟩ := srcB_some h
        subst hv; clear h
        obtain ⟨hle, h⟩ := lec_some h0
        refine ⟨_, h, hp1 hc, fun L hL => ?_⟩
        let L' : Lens := fun m u => if m = n ∧ u = q + 1 then (l ++ l').length else L m u
        have hn : L' n (q + 1) = (l ++ l').length := if_pos ⟨rfl, rfl⟩
        refine ⟨L', fun m u _ hm => if_neg (by simpa using hm), fun m t2 l2 u2 hm => ?_, ?_⟩
        · simp only [List.cons_append, List.nil_append, look] at hm
          split at hm
          · rename_i e; subst e; cases hm; exact hn
          · rename_i e; show (if m = n ∧ u2 = q + 1 then _ else L m u2) = _; rw [if_neg (fun h => e h.1.symm)]; exact hL m t2 l2 u2 hm
        · have h1 := evalB_er L hx
          have h2 := evalB_er L hy
          simp only [BV.er] at h1 h2 ⊢
          rw [hn]
          have hlm : (l.map (tcells t)).length + (l'.map (tcells t)).length ≤ 34359738368 := by simpa using hle
          exact OpOK.appendOwn ho rfl he hb.1.2 h1 (arr_len hL hc hq) h2 (by rw [← List.map_append]) (by rw [List.length_map]) (hlim hlm hb.2).1 (hlim hlm hb.2).2
      · simp at h
    · simp at h
  · rename_i v e hx hy he
    split at h
    · rename_i d t es bytes hd hty hz hby
      split at h
      · rename_i hb
        simp only [Bool.and_eq_true] at hb
        have := Nat.eq_of_beq_eq_true hb.1.1.1; subst this
        obtain ⟨f, l', hv, h0⟩ := srcB_some h
        subst hv; clear h
        obtain ⟨hle, h⟩ := lec_some h0
        refine ⟨_, h, .new (fun L m u => if m = 1000 + d then l'.length else L m u) (fun L m u hm => if_neg hm) (fun L _ t' l2 u hl => by cases hl; exact if_pos rfl) fun L hL => ?_⟩
        have h1 := evalB_er L hx
        have h2 := evalB_er L hy
        simp only [BV.er, BO.er, if_true] at h1 h2 ⊢
        have hlm : ([] : List (List PV)).length + (l'.map (tcells t)).length ≤ 34359738368 := by simpa using hle
        exact OpOK.appendNew ho rfl he hb.1.1.2 hb.2 h1 h2 (List.nil_append _) (by rw [List.length_map]) (.inl rfl) (hlim hlm hb.1.2).1 (hlim hlm hb.1.2).2
      · simp at h
    · simp at h
  · rename_i t l v e hx hy he
    split at h
    · rename_i d es bytes hd hz hby
      split at h
      · rename_i hb
        simp only [Bool.and_eq_true] at hb
        have := Nat.eq_of_beq_eq_true hb.1.1.1; subst this
        obtain ⟨f, l', hv, h0⟩ := srcB_some h
        subst hv; clear h
        split at h0
        · obtain ⟨hle, h⟩ := lec_some h0
          refine ⟨_, h, .new (fun L m u => if m = 1000 + d then l'.length else L m u) (fun L m u hm => if_neg hm) (fun L _ t' l2 u hl => by cases hl; exact if_pos rfl) fun L hL => ?_⟩
          have h1 := evalB_er L hx
          have h2 := evalB_er L hy
          simp only [BV.er, BO.er, if_true, List.map_nil] at h1 h2 ⊢
          have hlm : ([] : List (List PV)).length + (l'.map (tcells t)).length ≤ 34359738368 := by simpa using hle
          exact OpOK.appendNew ho rfl he hb.1.1.2 hb.2 h1 h2 (List.nil_append _) (by rw [List.length_map]) (.inl rfl) (hlim hlm hb.1.2).1 (hlim hlm hb.1.2).2
        · rename_i y0 q0
          split at h0
          · simp at h0
          · rename_i z q
            obtain ⟨hle, h⟩ := lec_some h0
            refine ⟨_, h, .new (fun L m u => if m = 1000 + d then (y0 :: q0 ++ z :: q).length else L m u) (fun L m u hm => if_neg hm) (fun L _ t' l2 u hl => by cases hl; exact if_pos rfl) fun L hL => ?_⟩
            have h1 := evalB_er L hx
            have h2 := evalB_er L hy
            simp only [BV.er, BO.er, if_true] at h1 h2 ⊢
            have hlm : ((y0 :: q0).map (tcells t)).length + ((z :: q).map (tcells t)).length ≤ 34359738368 := by simpa using hle
            exact OpOK.appendNew ho rfl he hb.1.1.2 hb.2 h1 h2 (by rw [← List.map_append]) (by rw [List.length_map]) (.inr ⟨by simp, rfl⟩) (hlim hlm hb.1.2).1 (hlim hlm hb.1.2).2
      · simp at h
    · simp at h
  · simp at h
theorem bConv_ok {S T : TypeId} {x : Operand} (ho : o.op = .convert S T x) (h : bConv P rd K S T x = some r) : Does P o rd hs K r := by
  unfold bConv at h
  split at h
  · rename_i k a k' hx hT
    split at h
    · rename_i hS
      refine ⟨_, h, .ev fun L _ => ?_⟩
      simp only [BV.er]; exact OpOK.convI ho hS hT (evalB_n L hx) rfl
    · simp at h
  · simp at h
theorem bIndexS_ok {T : TypeId} {x y : Operand} (ho : o.op = .index T x y) (h : bIndexS P rd K T x y = some r) : Does P o rd hs K r := by
  unfold bIndexS at h
  split at h
  · rename_i t k j hx hy hT
    obtain ⟨i, hj, h⟩ := natc_some h
    obtain ⟨hlt, h⟩ := ltc_some h
    refine ⟨_, h, .ev fun L _ => ?_⟩
    simp only [BV.er]; exact OpOK.indexS ho hT (evalB_s L hx) (evalB_n L hy) hj hlt
  · simp at h
theorem bMax_ok {x y : Operand} {ats : Array TypeId} (ho : o.op = .call { callee := .builtin .max, args := #[x, y], argTypes := ats }) (h : bMax rd K x y = some r) : Does P o rd hs K r := by
  unfold bMax at h
  split at h
  · rename_i k a k' b hx hy
    split at h
    case isFalse => simp at h
    rename_i hk
    simp only [Bool.and_eq_true] at hk
    have h1 := kEq_of hk.1; subst h1
    have h2 := kEq_of hk.2; subst h2
    refine ⟨_, h, .ev fun L _ => ?_⟩
    simp only [BV.er]; exact OpOK.maxI ho (evalB_n L hx) (evalB_n L hy) rfl
  · simp at h
theorem bMin_ok {x y : Operand} {ats : Array TypeId} (ho : o.op = .call { callee := .builtin .min, args := #[x, y], argTypes := ats }) (h : bMin rd K x y = some r) : Does P o rd hs K r := by
  unfold bMin at h
  split at h
  · rename_i k a k' b hx hy
    split at h
    case isFalse => simp at h
    rename_i hk
    simp only [Bool.and_eq_true] at hk
    have h1 := kEq_of hk.1; subst h1
    have h2 := kEq_of hk.2; subst h2
    refine ⟨_, h, .ev fun L _ => ?_⟩
    simp only [BV.er]; exact OpOK.minI ho (evalB_n L hx) (evalB_n L hy) rfl
  · simp at h
theorem bCallB_ok {c : Call} (ho : o.op = .call c) (h : bCallB P ty rd hs K o.dst c = some r) : Does P o rd hs K r := by
  obtain ⟨callee, args, ats⟩ := c
  obtain ⟨args⟩ := args
  obtain ⟨ats⟩ := ats
  unfold bCallB at h
  split at h
  · rename_i x T h1 h2 h3
    simp only at h1 h2 h3
    subst h1; subst h2; subst h3
    exact bLen_ok ho rfl h
  · rename_i x y T T' h1 h2 h3
    simp only at h1 h2 h3
    subst h1; subst h2; subst h3
    split at h
    · rename_i hT
      have := Nat.eq_of_beq_eq_true hT; subst this
      exact bAppend_ok ho h
    · simp at h
  · rename_i x y h1 h2
    simp only at h1 h2
    subst h1; subst h2
    exact bMax_ok ho h
  · rename_i x y h1 h2
    simp only at h1 h2
    subst h1; subst h2
    exact bMin_ok ho h
  · rename_i x T h1 h2 h3
    simp only at h1 h2 h3
    subst h1; subst h2; subst h3
    exact bClear_ok ho rfl h
  · rename_i x y T T' h1 h2 h3
    simp only at h1 h2 h3
    subst h1; subst h2; subst h3
    split at h
    · rename_i hT
      have := Nat.eq_of_beq_eq_true hT; subst this
      exact bCopy_ok ho h
    · simp at h
  · simp at h
theorem bop_ok (h : bop P ty rd hs K o = some r) : Does P o rd hs K r := by
  unfold bop at h
  split at h
  · rename_i ho; exact bVal_ok (.inl ho) h
  · rename_i ho; exact bVal_ok (.inr ho) h
  · rename_i ho; exact bPick_ok ho h
  · rename_i ho; exact bAlloc_ok ho h
  · rename_i ho; exact bBox_ok ho h
  · rename_i ho; exact bBuild_ok ho h
  · rename_i ho; exact bBuildSlice_ok ho h
  · rename_i ho; exact bLoad_ok ho h
  · rename_i ho; exact bStore_ok ho h
  · rename_i ho; exact bFieldAddr_ok ho h
  · rename_i ho; exact bNilCheck_ok ho h
  · rename_i ho; exact bBin2_ok ho h
  · rename_i ho; exact bUn_ok ho h
  · rename_i ho; exact bField_ok ho h
  · rename_i ho; exact bExtract_ok ho h
  · rename_i ho
    split at h
    · exact bIndexBox_ok ho h
    · exact bIndexAddr_ok ho h
  · rename_i ho
    split at h
    · exact bIndexV_ok ho h
    · exact bIndexS_ok ho h
  · rename_i ho; exact bConv_ok ho h
  · rename_i ho; exact bSlice_ok ho h
  · rename_i ho; exact bFunc_ok ho h
  · rename_i ho; exact bMakeMap_ok ho h
  · rename_i ho; exact bLookup_ok ho h
  · rename_i ho; exact bPutM_ok ho h
  · rename_i ho; exact bCallB_ok ho h
  · simp at h
end
end Go.Proofs.YtbcginibldjnaaaGreat.AM
