/-
  The typed layer, part R: parts of lists and of arrays of ours, clear, copy, closures that are made, arrays that are values. No project text.
-/
import Derived.Test.YtbcginibldjnaaaGreatBG
import Derived.Test.YtbcginibldjnaaaGreatAmV
set_option linter.unusedVariables false
set_option linter.unusedSimpArgs false
namespace Go.Proofs.YtbcginibldjnaaaGreat.AM
open Go
variable {L L' : Lens} {ts ts' : TS} {hs hs' : HS}
section
variable {R : Type} (P : Program) (ty : TypeId → Option TC) (rd : TS) (hs : HS) (K : BEff → Option R)
/-- A bound. -/
def bndB (x : Operand) (k : Nat → Option R) : Option R := match evalB rd x with
  | some (.n k' j) => if kEq .i64 k' then natc j k else none
  | _ => none
def bSlice (T : TypeId) (x : Operand) (lo hi mx : Option Operand) : Option R := match evalB rd x, elemT P T, mx with
  | some (.ts f t l), some e, none => match sizeT P e, lo, hi with
    | some es, some lo, none => if Nat.beq es (tz t) then bndB rd lo fun k => lec k l.length (K (ev (.ts f t (l.drop k)))) else none
    | some es, none, some hi => if Nat.beq es (tz t) then bndB rd hi fun m => lec m l.length (K (ev (.ts false t (l.take m)))) else none
    | some es, some lo, some hi => if Nat.beq es (tz t) then bndB rd lo fun k => bndB rd hi fun m => lec k m (lec m l.length (K (ev (.ts false t ((l.take m).drop k))))) else none
    | _, _, _ => none
  | some (.own n u), some e, none => match look n hs, sizeT P e with
    | some (.arr t l q), some es => if Nat.beq es (tz t) && Nat.beq u q then (match lo, hi with
        | some lo, none => bndB rd lo fun k => lec k l.length (K ⟨[(n, .arr t l q)], .view n u k l.length, [], [], []⟩)
        | none, some hi => bndB rd hi fun m => lec m l.length (K ⟨[(n, .arr t l q)], .view n u 0 m, [], [], []⟩)
        | _, _ => none) else none
    | _, _ => none
  | some (.view n u a b), some e, none => match look n hs, sizeT P e with
    | some (.arr t l q), some es => if Nat.beq es (tz t) && Nat.beq u q then (match lo, hi with
        | some lo, none => bndB rd lo fun k => ltc k (b - a) (K ⟨[(n, .arr t l q)], .view n u (a + k) (a + (b - a)), [], [], []⟩)
        | none, some hi => bndB rd hi fun m => lec m (b - a) (K ⟨[(n, .arr t l q)], .view n u (a + 0) (a + m), [], [], []⟩)
        | _, _ => none) else none
    | _, _ => none
  | _, _, _ => none
def bClear (T : TypeId) (x : Operand) : Option R := match evalB rd x, elemT P T with
  | some (.view n u i hi), some e => match look n hs, sizeT P e, zeroB P e with
    | some (.arr t l q), some es, some zs => if Nat.beq es (tz t) && Nat.beq zs.length es && zs.all BV.isP && Nat.beq u q then lec i hi (lec hi l.length (tpop t zs fun z rest => match rest with
        | [] => K ⟨[(n, .arr t l q)], .tup [], [(n, .arr t (l.take i ++ List.replicate (hi - i) z ++ l.drop hi) q)], [], []⟩
        | _ => none)) else none
    | _, _, _ => none
  | _, _ => none
def bCopy (T : TypeId) (x y : Operand) : Option R := match evalB rd x, evalB rd y, elemT P T with
  | some (.view n u i hi), some (.view m v j hj), some e => match look n hs, sizeT P e with
    | some (.arr t l q), some es => if Nat.beq n m && Nat.beq v q && Nat.beq es (tz t) && Nat.beq u q then chk hi l.length (chk hj l.length (lec i l.length (lec j i
        (K ⟨[(n, .arr t l q)], .n .i64 ((l.length - i : Nat) : Int), [(n, .arr t (l.take i ++ (l.drop j).take (l.length - i)) q)], [], []⟩)))) else none
    | _, _ => none
  | _, _, _ => none
/-- Cells that are numbers. -/
def intsB : List BV → Option (List Int)
  | [] => some []
  | .n k x :: r => if kEq .i64 k then (match intsB r with | some l => some (x :: l) | none => none) else none
  | _ => none
/-- Structs of numbers, compared. -/
def bCmp (op : BinOp) (T : TypeId) (a b : List BV) : Option R := match intsB a, intsB b with
  | some p, some q => if intsT P T p.length && Nat.beq q.length p.length then (match op with
      | .eql => K (ev (.b (decide (p = q))))
      | .neq => K (ev (.b (decide (p ≠ q))))
      | _ => none) else none
  | _, _ => none
def nilO : Operand → Bool
  | .const (.slice none 0 0) => true
  | _ => false
/-- Compared with nil. -/
def bNil (op : BinOp) (T : TypeId) (x : BV) : Option R := match eqOp op, elemT P T, x with
  | some q, some _, .ts _ _ l => nilC l (K (ev .ub)) (K (ev (.b (!q))))
  | some q, some _, .nil => K (ev .ub)
  | _, _, _ => none
def bBin2 (op : BinOp) (T : TypeId) (x y : Operand) : Option R := match evalB rd x, evalB rd y with
  | some (.agg a), some (.agg b) => bCmp P K op T a b
  | some x, some .nil => if nilO y then bNil P K op T x else none
  | _, _ => bBin P rd K op T x y
/-- By cases: which place. -/
def pickC (c : Int) : List BV → Nat → (Nat → BV → Option R) → Option R
  | [], _, _ => none
  | v :: r, i, k => cnd (decide (c = (i : Int))) (k i v) (pickC c r (i + 1) k)
def bIndexV (T : TypeId) (x y : Operand) : Option R := match evalB rd x, evalB rd y, P.underlying T with
  | some (.agg cs), some (.n k j), some (.array len e) => if kEq .i64 k && flatT P e && Nat.beq len cs.length then (match sizeT P e with
      | some 1 => pickC j cs 0 fun _ v => K (ev v)
      | _ => none) else none
  | _, _, _ => none
/-- An array in a box, at a place. -/
def bIndexBox (T : TypeId) (x y : Operand) : Option R := match evalB rd x, evalB rd y, P.underlying T with
  | some (.ref n k), some (.n _ j), some (.array len e) => match look n hs, sizeT P e with
    | some (.box cells), some es => pickC j (List.replicate len .any) 0 fun i _ => K ⟨[(n, .box cells)], .ref n (k + i * es), [], [], []⟩
    | _, _ => none
  | _, _, _ => none
/-- How often a text is a key of a map. -/
def cntB (k : ByteArray) : List (ByteArray × Bool) → Nat
  | [] => 0
  | p :: r => if k = p.1 then cntB k r + 1 else cntB k r
/-- What a map has at a key. -/
def memB (k : ByteArray) : List (ByteArray × Bool) → Bool
  | [] => false
  | p :: r => if k = p.1 then p.2 else memB k r
def isK (P : Program) (T : TypeId) : Bool := match P.underlying T with
  | some (.map K E) => (match P.underlying K with | some .string => true | _ => false) && (match zeroV P E with | some (.bool false) => true | _ => false)
  | _ => false
def bMakeMap (d : Option Nat) (T : TypeId) : Option R := match d with
  | some d => if isK P T then K ⟨[], .mref (1000 + d), [(1000 + d, .sm [])], [1000 + d], []⟩ else none
  | none => none
def bLookup (T : TypeId) (x y : Operand) : Option R := match evalB rd x, evalB rd y with
  | some (.mref n), some (.s k) => match look n hs with
    | some (.sm es) => if isK P T then K ⟨[(n, .sm es)], .b (memB k es), [], [], []⟩ else none
    | _ => none
  | _, _ => none
def bPutM (d : Option Nat) (T : TypeId) (x y z : Operand) : Option R := match d, evalB rd x, evalB rd y, evalB rd z with
  | none, some (.mref n), some (.s k), some (.b v) => match look n hs with
    | some (.sm es) => if isK P T then chk (cntB k es) 0 (K ⟨[(n, .sm es)], .any, [(n, .sm (es ++ [(k, v)]))], [], []⟩) else none
    | _ => none
  | _, _, _, _ => none
def flatB : BV → Bool
  | .agg _ => false
  | .tup _ => false
  | _ => true
def bFunc (fn : Fn) (first caps : Array Operand) : Option R := match first.toList, evalBs rd caps.toList with
  | [], some cs => if cs.all flatB then K (ev (.clo fn cs)) else none
  | _, _ => none
end
section
variable {R : Type} {P : Program} {ty : TypeId → Option TC} {rd : TS} {K : BEff → Option R} {r : R} {o : Oper}
theorem bndB_some {x : Operand} {k : Nat → Option R} (h : bndB rd x k = some r) : ∃ i : Nat, evalB rd x = some (.n .i64 (i : Int)) ∧ k i = some r := by
  unfold bndB at h
  split at h
  · rename_i k' j hx
    split at h
    · rename_i hk
      have := kEq_of hk; subst this
      obtain ⟨i, rfl, h⟩ := natc_some h
      exact ⟨i, hx, h⟩
    · simp at h
  · simp at h
theorem optB_of {x : Operand} {i d : Nat} (h : evalB rd x = some (.n .i64 (i : Int))) (L : Lens) : optB (erT L rd) d (some x) = some (i : Int) := by
  have := evalB_er L h
  simp only [BV.er] at this
  simp only [optB, this]
theorem Good.wrArrV {n : Name} {t : TC} {l l' : List (TT t)} {q : Nat} {v : BV} (hc : look n hs = some (.arr t l q)) (hl : l'.length = l.length) (h : ∀ L, Inv L hs → OpOK P o ⟨erT L rd, [(n, .arr (tz t) (l.map (tcells t)))], v.er L, [(n, .arr (tz t) (l'.map (tcells t)))], []⟩) : Good P o rd hs ⟨[(n, .arr t l q)], v, [(n, .arr t l' q)], [], []⟩ :=
  ⟨hp1 hc, fun L hL => ⟨L, fun _ _ _ _ => rfl, fun m t' l2 u hm => by
    simp only [List.cons_append, List.nil_append, look] at hm
    split at hm
    · rename_i e; subst e; cases hm; rw [hl]; exact hL _ t l q hc
    · exact hL m t' l2 u hm, h L hL⟩⟩
theorem bSlice_ok {T : TypeId} {x : Operand} {lo hi mx : Option Operand} (ho : o.op = .slice T x lo hi mx) (h : bSlice P rd hs K T x lo hi mx = some r) : Does P o rd hs K r := by
  unfold bSlice at h
  split at h
  · rename_i f t l e hx he
    split at h
    · rename_i es lo hz
      split at h
      · rename_i hb
        have := Nat.eq_of_beq_eq_true hb; subst this
        obtain ⟨k, hk, h⟩ := bndB_some h
        obtain ⟨hkl, h⟩ := lec_some h
        refine ⟨_, h, .ev fun L _ => ?_⟩
        have h1 := evalB_er L hx
        have h2 := evalB_er L hk
        simp only [BV.er] at h1 h2 ⊢
        exact OpOK.sliceLo ho (elemT_spec he) hz h1 h2 rfl (by rw [List.length_map]; exact hkl) (by rw [List.map_drop])
      · simp at h
    · rename_i es hi hz
      split at h
      · rename_i hb
        have := Nat.eq_of_beq_eq_true hb; subst this
        obtain ⟨m, hm, h⟩ := bndB_some h
        obtain ⟨hml, h⟩ := lec_some h
        refine ⟨_, h, .ev fun L _ => ?_⟩
        have h1 := evalB_er L hx
        simp only [BV.er] at h1 ⊢
        have := OpOK.sliceP (P := P) (o := o) (k := 0) (m := m) ho (elemT_spec he) hz h1 (by simp [optB]) (optB_of hm L) (Nat.zero_le _) (by rw [List.length_map]; exact hml)
        rw [List.drop_zero, ← List.map_take] at this
        exact this
      · simp at h
    · rename_i es lo hi hz
      split at h
      · rename_i hb
        have := Nat.eq_of_beq_eq_true hb; subst this
        obtain ⟨k, hk, h⟩ := bndB_some h
        obtain ⟨m, hm, h⟩ := bndB_some h
        obtain ⟨hkm, h⟩ := lec_some h
        obtain ⟨hml, h⟩ := lec_some h
        refine ⟨_, h, .ev fun L _ => ?_⟩
        have h1 := evalB_er L hx
        simp only [BV.er] at h1 ⊢
        have := OpOK.sliceP (P := P) (o := o) (k := k) (m := m) ho (elemT_spec he) hz h1 (optB_of hk L) (optB_of hm L) hkm (by rw [List.length_map]; exact hml)
        rw [← List.map_take, ← List.map_drop] at this
        exact this
      · simp at h
    · simp at h
  · rename_i n u e hx he
    split at h
    · rename_i t l q es hc hz
      split at h
      · rename_i hb
        simp only [Bool.and_eq_true] at hb
        have := Nat.eq_of_beq_eq_true hb.1; subst this
        have hlen : ∀ {L : Lens}, Inv L hs → L n u = l.length := fun hL => by rw [Nat.eq_of_beq_eq_true hb.2]; exact hL n t l q hc
        split at h
        · rename_i lo
          obtain ⟨k, hk, h⟩ := bndB_some h
          obtain ⟨hkl, h⟩ := lec_some h
          refine ⟨_, h, .val (hp1 hc) fun L hL => ?_⟩
          have h1 := evalB_er L hx
          simp only [BV.er] at h1 ⊢
          exact OpOK.sliceView ho (elemT_spec he) hz h1 (optB_of hk L) (by simp [optB, hlen hL]) (arr_len hL hc hb.2) hkl (by rw [List.length_map]; exact Nat.le_refl _)
        · rename_i hi
          obtain ⟨m, hm, h⟩ := bndB_some h
          obtain ⟨hml, h⟩ := lec_some h
          refine ⟨_, h, .val (hp1 hc) fun L hL => ?_⟩
          have h1 := evalB_er L hx
          simp only [BV.er] at h1 ⊢
          exact OpOK.sliceView ho (elemT_spec he) hz h1 (by simp [optB]) (optB_of hm L) (arr_len hL hc hb.2) (Nat.zero_le _) (by rw [List.length_map]; exact hml)
        · simp at h
      · simp at h
    · simp at h
  · rename_i n u a b e hx he
    split at h
    · rename_i t l q es hc hz
      split at h
      · rename_i hb
        simp only [Bool.and_eq_true] at hb
        have := Nat.eq_of_beq_eq_true hb.1; subst this
        split at h
        · rename_i lo
          obtain ⟨k, hk, h⟩ := bndB_some h
          obtain ⟨hkl, h⟩ := ltc_some h
          refine ⟨_, h, .val (hp1 hc) fun L hL => ?_⟩
          have h1 := evalB_er L hx
          simp only [BV.er] at h1 ⊢
          exact OpOK.sliceView2 ho (elemT_spec he) hz h1 (optB_of hk L) (by simp [optB]) (arr_len hL hc hb.2) (Nat.le_of_lt hkl) (Nat.le_refl _) (.inr (.inr hkl))
        · rename_i hi
          obtain ⟨m, hm, h⟩ := bndB_some h
          obtain ⟨hml, h⟩ := lec_some h
          refine ⟨_, h, .val (hp1 hc) fun L hL => ?_⟩
          have h1 := evalB_er L hx
          simp only [BV.er] at h1 ⊢
          exact OpOK.sliceView2 (k := 0) ho (elemT_spec he) hz h1 (by simp [optB]) (optB_of hm L) (arr_len hL hc hb.2) (Nat.zero_le _) hml (.inr (.inl rfl))
        · simp at h
      · simp at h
    · simp at h
  · simp at h
theorem pureL_of {T : TypeId} {cs : List BV} (h : zeroB P T = some cs) (hp : cs.all BV.isP = true) : zeroRow P T = some (pvL cs) := by
  unfold zeroRow
  rw [zeroB_er (fun _ _ => 0) h]
  simp only
  exact pureL_pv _ hp
theorem bClear_ok {T : TypeId} {x : Operand} {ats : Array TypeId} (ho : o.op = .call { callee := .builtin .clear, args := #[x], argTypes := ats }) (hat : ats[0]? = some T) (h : bClear P rd hs K T x = some r) : Does P o rd hs K r := by
  unfold bClear at h
  split at h
  case h_2 => simp at h
  rename_i n u i hi e hx he
  split at h
  case h_2 => simp at h
  rename_i t l q es zs hc hz hzs
  split at h
  case isFalse => simp at h
  rename_i hb
  simp only [Bool.and_eq_true] at hb
  have := Nat.eq_of_beq_eq_true hb.1.1.1; subst this
  obtain ⟨hih, h⟩ := lec_some h
  obtain ⟨hil, h⟩ := lec_some h
  obtain ⟨z, rest, hle, h⟩ := tpop_some t h
  split at h
  case h_2 => simp at h
  refine ⟨_, h, .wrArrV hc (by simp; omega) fun L hL => ?_⟩
  have h1 := evalB_er L hx
  have hlen : L n u = l.length := by rw [Nat.eq_of_beq_eq_true hb.2]; exact hL n t l q hc
  simp only [BV.er, erL] at h1 ⊢
  have hcs := Le_cells hle hb.1.2
  refine OpOK.arrLe (OpOK.clearView (P := P) (rows := l.map (tcells t)) (i := i) (m := hi) ho hat (elemT_spec he) hz (pureL_of hzs hb.1.2) (by rw [pvL_length]; exact Nat.eq_of_beq_eq_true hb.1.1.2) h1 (arr_len hL hc hb.2) hih (by rw [List.length_map]; exact hil) rfl) ?_
  rw [List.map_append, List.map_append, List.map_take, List.map_drop, List.map_replicate]
  refine RowsLe.append (RowsLe.append (RowsLe.refl _) (RowsLe.nth (by simp) fun j a b ha hb => ?_)) (RowsLe.refl _)
  rw [List.getElem?_replicate] at ha hb
  split at ha
  · rename_i hj
    rw [if_pos hj] at hb
    cases ha; cases hb; exact hcs
  · simp at ha
theorem bCopy_ok {T : TypeId} {x y : Operand} (ho : o.op = .call { callee := .builtin .copy, args := #[x, y], argTypes := #[T, T] }) (h : bCopy P rd hs K T x y = some r) : Does P o rd hs K r := by
  unfold bCopy at h
  split at h
  case h_2 => simp at h
  rename_i n u i hi m v j hj e hx hy he
  split at h
  case h_2 => simp at h
  rename_i t l q es hc hz
  split at h
  case isFalse => simp at h
  rename_i hb
  simp only [Bool.and_eq_true] at hb
  have := Nat.eq_of_beq_eq_true hb.1.1.1; subst this
  have := Nat.eq_of_beq_eq_true hb.1.2; subst this
  replace h := chk_some h
  obtain ⟨e1, h⟩ := h
  subst e1
  replace h := chk_some h
  obtain ⟨e2, h⟩ := h
  subst e2
  obtain ⟨hil, h⟩ := lec_some h
  obtain ⟨hji, h⟩ := lec_some h
  have huv : v = u := by rw [Nat.eq_of_beq_eq_true hb.1.1.2, Nat.eq_of_beq_eq_true hb.2]
  subst huv
  refine ⟨_, h, .wrArrV hc (by simp; omega) fun L hL => ?_⟩
  have h1 := evalB_er L hx
  have h2 := evalB_er L hy
  have hlen : L n v = l.length := by rw [Nat.eq_of_beq_eq_true hb.2]; exact hL n t l q hc
  simp only [BV.er] at h1 h2 ⊢
  exact OpOK.copyView (rows := l.map (tcells t)) ho rfl (elemT_spec he) hz (by rw [h1, hlen]) (by rw [h2, hlen]) (arr_len hL hc hb.2) (by rw [List.length_map]; exact hil) hji (by rw [List.map_append, List.map_take, List.map_take, List.map_drop, List.length_map]) (by rw [List.length_map])
theorem isK_some {T : TypeId} (h : isK P T = true) : ∃ K E, P.underlying T = some (.map K E) ∧ P.underlying K = some .string ∧ zeroV P E = some (.bool false) := by
  unfold isK at h
  split at h
  · rename_i K E hT
    simp only [Bool.and_eq_true] at h
    obtain ⟨h1, h2⟩ := h
    split at h1
    · rename_i hK
      split at h2
      · rename_i hE; exact ⟨K, E, hT, hK, hE⟩
      · simp at h2
    · simp at h1
  · simp at h
theorem memB_look (k : ByteArray) : ∀ es : List (ByteArray × Bool), (lookS k (es.map fun p => (p.1, Value.bool p.2))).getD (.bool false) = .bool (memB k es)
  | [] => rfl
  | p :: r => by
    simp only [List.map_cons, lookS, memB]
    split
    · rfl
    · exact memB_look k r
theorem cntB_look (k : ByteArray) : ∀ es : List (ByteArray × Bool), cntB k es = 0 → lookS k (es.map fun p => (p.1, Value.bool p.2)) = none
  | [], _ => rfl
  | p :: r, h => by
    simp only [cntB] at h
    simp only [List.map_cons, lookS]
    split at h
    · omega
    · rename_i e; rw [if_neg e]; exact cntB_look k r h
theorem Inv.sm {L : Lens} {n : Name} {es : List (ByteArray × Bool)} (hL : Inv L hs) : Inv L ((n, .sm es) :: hs) := fun m t l u hm => by
  simp only [look] at hm
  split at hm
  · cases hm
  · exact hL m t l u hm
theorem bMakeMap_ok {T : TypeId} (ho : o.op = .makeMap T none) (h : bMakeMap P K o.dst T = some r) : Does P o rd hs K r := by
  unfold bMakeMap at h
  split at h
  · rename_i d hd
    split at h
    · refine ⟨_, h, fun _ _ h => by simp at h, fun L hL => ⟨L, fun _ _ _ _ => rfl, Inv.sm hL, ?_⟩⟩
      have := OpOK.makeMap (P := P) (o := o) (rd := erT L rd) (n := 1000 + d) ho
      simpa only [BV.er, erH, List.map_cons, List.map_nil, BO.er] using this
    · simp at h
  · simp at h
theorem bLookup_ok {T : TypeId} {x y : Operand} (ho : o.op = .lookup T x y false) (h : bLookup P rd hs K T x y = some r) : Does P o rd hs K r := by
  unfold bLookup at h
  split at h
  · rename_i n k hx hy
    split at h
    · rename_i es hc
      split at h
      · rename_i hk
        obtain ⟨Kt, E, h1, h2, h3⟩ := isK_some hk
        refine ⟨_, h, .val (hp1 hc) fun L hL => ?_⟩
        have k1 := evalB_er L hx
        have k2 := evalB_er L hy
        simp only [BV.er] at k1 k2 ⊢
        exact OpOK.lookup ho h1 h2 h3 k1 k2 (memB_look k es) rfl
      · simp at h
    · simp at h
  · simp at h
theorem bPutM_ok {T : TypeId} {x y z : Operand} (ho : o.op = .mapUpdate T x y z) (h : bPutM P rd hs K o.dst T x y z = some r) : Does P o rd hs K r := by
  unfold bPutM at h
  split at h
  · rename_i n k v hd hx hy hz
    split at h
    · rename_i es hc
      split at h
      · rename_i hk
        obtain ⟨Kt, E, h1, h2, h3⟩ := isK_some hk
        obtain ⟨h0, h⟩ := chk_some h
        refine ⟨_, h, hp1 hc, fun L hL => ⟨L, fun _ _ _ _ => rfl, Inv.sm hL, ?_⟩⟩
        have k1 := evalB_er L hx
        have k2 := evalB_er L hy
        have k3 := evalB_er L hz
        simp only [BV.er] at k1 k2 k3 ⊢
        have := OpOK.putS (P := P) (o := o) (rd := erT L rd) hd (.inl ho) h1 h2 k1 k2 k3 (cntB_look k es h0) (by rw [show es.map (fun p => (p.1, Value.bool p.2)) ++ [(k, Value.bool v)] = (es ++ [(k, v)]).map fun p => (p.1, Value.bool p.2) from by simp])
        simpa only [erH, List.map_cons, List.map_nil, BO.er] using this
      · simp at h
    · simp at h
  · simp at h
theorem flatB_er {x : BV} (h : flatB x = true) (L : Lens) : flatAV (x.er L) = true := by
  cases x <;> simp only [flatB, BV.er, flatAV, Bool.false_eq_true] at h ⊢
theorem bFunc_ok {fn : Fn} {first caps : Array Operand} (ho : o.op = .makeFunc fn first caps) (h : bFunc rd K fn first caps = some r) : Does P o rd hs K r := by
  unfold bFunc at h
  split at h
  · rename_i cs hf hcs
    split at h
    · rename_i hall
      refine ⟨_, h, .ev fun L _ => ?_⟩
      simp only [BV.er]
      refine OpOK.makeFunc ho (by rw [hf]; rfl) (evalBs_er L hcs) rfl ?_
      rw [erL_map, List.all_map]
      exact List.all_eq_true.2 fun c hc => flatB_er (List.all_eq_true.1 hall c hc) L
    · simp at h
  · simp at h
theorem pickC_some {c : Int} : ∀ {cs : List BV} {i : Nat} {k : Nat → BV → Option R}, pickC c cs i k = some r → ∃ j v, cs[j]? = some v ∧ c = ((i + j : Nat) : Int) ∧ k (i + j) v = some r
  | [], i, k, h => by simp [pickC] at h
  | v :: q, i, k, h => by
    simp only [pickC] at h
    rcases cnd_some h with ⟨e, h⟩ | ⟨e, h⟩
    · exact ⟨0, v, rfl, by simpa using e, h⟩
    · obtain ⟨j, v', h1, h2, h3⟩ := pickC_some h
      exact ⟨j + 1, v', by simpa using h1, by rw [h2]; congr 1; omega, by rw [show i + (j + 1) = i + 1 + j by omega]; exact h3⟩
theorem bIndexV_ok {T : TypeId} {x y : Operand} (ho : o.op = .index T x y) (h : bIndexV P rd K T x y = some r) : Does P o rd hs K r := by
  unfold bIndexV at h
  split at h
  · rename_i cs k j len e hx hy hT
    split at h
    · rename_i hb
      simp only [Bool.and_eq_true] at hb
      have := kEq_of hb.1.1; subst this
      split at h
      · rename_i hz
        obtain ⟨i, v, h1, h2, h⟩ := pickC_some h
        refine ⟨_, h, .ev fun L _ => ?_⟩
        have k1 := evalB_er L hx
        have k2 := evalB_er L hy
        simp only [BV.er, h2, Nat.zero_add] at k1 k2
        have hi := (List.getElem?_eq_some_iff.1 h1).1
        exact OpOK.indexV ho hT hz hb.1.2 k1 k2 (by rw [Nat.eq_of_beq_eq_true hb.2]; exact hi) (by rw [erL_get, h1]; rfl)
      · simp at h
    · simp at h
  · simp at h
theorem bIndexBox_ok {T : TypeId} {x y : Operand} (ho : o.op = .indexAddr T x y) (h : bIndexBox P rd hs K T x y = some r) : Does P o rd hs K r := by
  unfold bIndexBox at h
  split at h
  · rename_i n k k' j len e hx hy hT
    split at h
    · rename_i cells es hc hz
      obtain ⟨i, v, h1, h2, h⟩ := pickC_some h
      refine ⟨_, h, .val (hp1 hc) fun L _ => ?_⟩
      have k1 := evalB_er L hx
      simp only [BV.er] at k1 ⊢
      rw [Nat.zero_add] at h2
      have hi := (List.getElem?_eq_some_iff.1 h1).1
      rw [List.length_replicate] at hi
      exact OpOK.indexArr ho hT hz k1 (evalB_n L hy) h2 hi (by rw [Nat.zero_add])
    · simp at h
  · simp at h
theorem intsB_er (L : Lens) : ∀ {cs : List BV} {l : List Int}, intsB cs = some l → erL L cs = l.map fun a => .p (.v (.int .i64 a))
  | [], l, h => by simp only [intsB, Option.some.injEq] at h; subst h; simp only [erL, List.map_nil]
  | c :: r, l, h => by
    cases c with
    | n k x =>
      simp only [intsB] at h
      split at h
      · rename_i hk
        have := kEq_of hk; subst this
        split at h
        · rename_i l' hl; cases h; simp only [erL, BV.er, List.map_cons, intsB_er L hl]
        · simp at h
      · simp at h
    | _ => simp [intsB] at h
theorem bNil_ok {op : BinOp} {T T' : TypeId} {x : Operand} {v : BV} (ho : o.op = .binOp op T x (.const (.slice none 0 0)) T') (hx : evalB rd x = some v) (h : bNil P K op T v = some r) : Does P o rd hs K r := by
  unfold bNil at h
  split at h
  · rename_i q e f t l hq he
    rcases nilC_some h with ⟨_, h⟩ | ⟨hl, h⟩
    · refine ⟨_, h, .ev fun L _ => ?_⟩
      have h1 := evalB_er L hx
      simp only [BV.er] at h1 ⊢
      exact OpOK.eqNilU ho hq (elemT_spec he) h1
    · refine ⟨_, h, .ev fun L _ => ?_⟩
      have h1 := evalB_er L hx
      simp only [BV.er] at h1 ⊢
      exact OpOK.eqNilN ho hq (elemT_spec he) h1 (by simpa using hl)
  · rename_i q e hq he
    refine ⟨_, h, .ev fun L _ => ?_⟩
    have h1 := evalB_er L hx
    simp only [BV.er] at h1 ⊢
    exact OpOK.eqNilU ho hq (elemT_spec he) h1
  · simp at h
theorem bBin2_ok {op : BinOp} {T T' : TypeId} {x y : Operand} (ho : o.op = .binOp op T x y T') (h : bBin2 P rd K op T x y = some r) : Does P o rd hs K r := by
  unfold bBin2 at h
  split at h
  · rename_i a b hx hy
    unfold bCmp at h
    split at h
    · rename_i p q hp hq
      split at h
      · rename_i hb
        simp only [Bool.and_eq_true] at hb
        have k1 : ∀ L, evalO (erT L rd) x = some (.agg (p.map fun a => .p (.v (.int .i64 a)))) := fun L => by have := evalB_er L hx; rw [this]; simp only [BV.er, intsB_er L hp]
        have k2 : ∀ L, evalO (erT L rd) y = some (.agg (q.map fun a => .p (.v (.int .i64 a)))) := fun L => by have := evalB_er L hy; rw [this]; simp only [BV.er, intsB_er L hq]
        split at h
        · exact ⟨_, h, .ev fun L _ => by simp only [BV.er]; exact OpOK.eqlInts ho hb.1 hb.2 (k1 L) (k2 L) rfl⟩
        · exact ⟨_, h, .ev fun L _ => by simp only [BV.er]; exact OpOK.neqInts ho hb.1 hb.2 (k1 L) (k2 L) rfl⟩
        · simp at h
      · simp at h
    · simp at h
  · rename_i v hx hy
    split at h
    · rename_i hn
      unfold nilO at hn
      split at hn
      · exact bNil_ok ho hx h
      · simp at hn
    · simp at h
  · exact bBin_ok ho h
end
end Go.Proofs.YtbcginibldjnaaaGreat.AM
