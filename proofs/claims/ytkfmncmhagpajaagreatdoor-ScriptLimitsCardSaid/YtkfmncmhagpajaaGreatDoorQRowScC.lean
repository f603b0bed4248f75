/-
  The typed layer, part R: parts of lists and of arrays of ours, clear, copy, closures that are made, arrays that are values. No project text.
-/
import Derived.Test.YtkfmncmhagpajaaGreatDoorQRowScB
import Derived.Test.YtkfmncmhagpajaaGreatDoorQRowScA
import Derived.Deep.RegionWith
import Derived.Deep.WholeRow
set_option linter.unusedVariables false
set_option linter.unusedSimpArgs false
namespace Go.Proofs.YtkfmncmhagpajaaGreatDoor.AM
open Go
section
variable {L L' : Lens} {ts ts' : TS} {hs hs' : HS}
section
variable {R : Type} (P : Program) (ty : TypeId → Option TC) (rd : TS) (hs : HS) (K : BEff → Option R)
def bndB (x : Operand) (k : Nat → Option R) : Option R := match evalB rd x with
  | some (.n k' j) => if kEq .i64 k' then natc j k else none
  | _ => none
def bSlice (T : TypeId) (x : Operand) (lo hi mx : Option Operand) : Option R := match evalB rd x, elemT P T, mx with
  | some (.ts f t l), some e, none => match sizeT P e, lo, hi with
    | some es, some lo, none => if Nat.beq es (tz t) then bndB rd lo fun k => lec k l.length (K (ev (.ts f t (l.drop k)))) else none
    | some es, none, some hi => if Nat.beq es (tz t) then bndB rd hi fun m => lec m l.length (K (ev (.ts false t (l.take m)))) else none
    | some es, some lo, some hi => if Nat.beq es (tz t) then bndB rd lo fun k => bndB rd hi fun m => lec k m (lec m l.length (K (ev (.ts false t ((l.take m).drop k))))) else none
    | _, _, _ => none
  | some (.own n u), some e, none => match look n hs, sizeT P e with
    | some (.arr t l q), some es => if Nat.beq es (tz t) && Nat.beq u q then (match lo, hi with
        | some lo, none => bndB rd lo fun k => lec k l.length (K ⟨[(n, .arr t l q)], .view n u k l.length, [], [], []⟩)
        | none, some hi => bndB rd hi fun m => lec m l.length (K ⟨[(n, .arr t l q)], .view n u 0 m, [], [], []⟩)
        | _, _ => none) else none
    | _, _ => none
  | some (.own n u), some e, some mx => match look n hs, sizeT P e, lo, hi with
    | some (.arr t l q), some es, none, some hi => if Nat.beq es (tz t) && Nat.beq u q then bndB rd hi fun k => bndB rd mx fun m => chk k m (lec k l.length (K ⟨[(n, .arr t l q)], .cut n u k, [], [], []⟩)) else none
    | _, _, _, _ => none
  | some (.view n u a b), some e, none => match look n hs, sizeT P e with
    | some (.arr t l q), some es => if Nat.beq es (tz t) && Nat.beq u q then (match lo, hi with
        | some lo, none => bndB rd lo fun k => ltc k (b - a) (K ⟨[(n, .arr t l q)], .view n u (a + k) (a + (b - a)), [], [], []⟩)
        | none, some hi => bndB rd hi fun m => lec m (b - a) (K ⟨[(n, .arr t l q)], .view n u (a + 0) (a + m), [], [], []⟩)
        | _, _ => none) else none
    | _, _ => none
  | _, _, _ => none
def bClear (T : TypeId) (x : Operand) : Option R := match evalB rd x, elemT P T with
  | some (.view n u i hi), some e => match look n hs, sizeT P e, zeroB P e with
    | some (.arr t l q), some es, some zs => if Nat.beq es (tz t) && Nat.beq zs.length es && zs.all BV.isP && Nat.beq u q then lec i hi (lec hi l.length (tpop t zs fun z rest => match rest with
        | [] => K ⟨[(n, .arr t l q)], .tup [], [(n, .arr t (l.take i ++ List.replicate (hi - i) z ++ l.drop hi) q)], [], []⟩
        | _ => none)) else none
    | _, _, _ => none
  | _, _ => none
def bCopy (T : TypeId) (x y : Operand) : Option R := match evalB rd x, evalB rd y, elemT P T with
  | some (.view n u i hi), some (.view m v j hj), some e => match look n hs, sizeT P e with
    | some (.arr t l q), some es => if Nat.beq n m && Nat.beq v q && Nat.beq es (tz t) && Nat.beq u q then chk hi l.length (chk hj l.length (lec i l.length (lec j i
        (K ⟨[(n, .arr t l q)], .n .i64 ((l.length - i : Nat) : Int), [(n, .arr t (l.take i ++ (l.drop j).take (l.length - i)) q)], [], []⟩)))) else none
    | _, _ => none
  | _, _, _ => none
def intsB : List BV → Option (List Int)
  | [] => some []
  | .n k x :: r => if kEq .i64 k then (match intsB r with | some l => some (x :: l) | none => none) else none
  | _ => none
def textsB : List BV → Option (List ByteArray)
  | [] => some []
  | .s x :: r => (match textsB r with | some l => some (x :: l) | none => none)
  | _ => none
def bCmp (op : BinOp) (T : TypeId) (a b : List BV) : Option R := match intsB a, intsB b with
  | some p, some q => if intsT P false T p.length && Nat.beq q.length p.length then (match op with
      | .eql => K (ev (.b (decide (p = q))))
      | .neq => K (ev (.b (decide (p ≠ q))))
      | _ => none) else none
  | _, _ => match textsB a, textsB b with
    | some p, some q => if intsT P true T p.length && Nat.beq q.length p.length then (match op with
        | .eql => K (ev (.b (decide (p = q))))
        | .neq => K (ev (.b (decide (p ≠ q))))
        | _ => none) else none
    | _, _ => none
def bErr (op : BinOp) (T : TypeId) (q : Bool) (y : Operand) : Option R := match op, y with
  | .eql, .const .nilIface => if ifaceT P T then K (ev (.b q)) else none
  | _, _ => none
def nilO : Operand → Bool
  | .const (.slice none 0 0) => true
  | _ => false
def bNil (op : BinOp) (T : TypeId) (x : BV) : Option R := match eqOp op, elemT P T, x with
  | some q, some _, .ts _ _ l => nilC l (K (ev .ub)) (K (ev (.b (!q))))
  | some q, some _, .nil => K (ev .ub)
  | _, _, _ => none
def bBin2 (op : BinOp) (T : TypeId) (x y : Operand) : Option R := match evalB rd x, evalB rd y with
  | some (.agg a), some (.agg b) => bCmp P K op T a b
  | some x, some .nil => if nilO y then bNil P K op T x else none
  | some (.err q), _ => bErr P K op T q y
  | _, _ => bBin P rd K op T x y
def pickC (c : Int) : List BV → Nat → (Nat → BV → Option R) → Option R
  | [], _, _ => none
  | v :: r, i, k => cnd (decide (c = (i : Int))) (k i v) (pickC c r (i + 1) k)
def bIndexV (T : TypeId) (x y : Operand) : Option R := match evalB rd x, evalB rd y, P.underlying T with
  | some (.agg cs), some (.n k j), some (.array len e) => if kEq .i64 k && flatT P e && Nat.beq len cs.length then (match sizeT P e with
      | some 1 => pickC j cs 0 fun _ v => K (ev v)
      | _ => none) else none
  | _, _, _ => none
def bIndexBox (T : TypeId) (x y : Operand) : Option R := match evalB rd x, evalB rd y, P.underlying T with
  | some (.ref n k), some (.n _ j), some (.array len e) => match look n hs, sizeT P e with
    | some (.box cells), some es => pickC j (List.replicate len .any) 0 fun i _ => K ⟨[(n, .box cells)], .ref n (k + i * es), [], [], []⟩
    | _, _ => none
  | _, _, _ => none
def cntB (k : ByteArray) : List (ByteArray × Bool) → Nat
  | [] => 0
  | p :: r => if k = p.1 then cntB k r + 1 else cntB k r
def memB (k : ByteArray) : List (ByteArray × Bool) → Bool
  | [] => false
  | p :: r => if k = p.1 then p.2 else memB k r
def isK (P : Program) (T : TypeId) : Bool := match P.underlying T with
  | some (.map K E) => (match P.underlying K with | some .string => true | _ => false) && (match zeroV P E with | some (.bool false) => true | _ => false)
  | _ => false
def bMakeMap (d : Option Nat) (T : TypeId) : Option R := match d with
  | some d => if isK P T then K ⟨[], .mref (1000 + d), [(1000 + d, .sm [])], [1000 + d], []⟩ else none
  | none => none
def bLookup (T : TypeId) (x y : Operand) : Option R := match evalB rd x, evalB rd y with
  | some (.mref n), some (.s k) => match look n hs with
    | some (.sm es) => if isK P T then K ⟨[(n, .sm es)], .b (memB k es), [], [], []⟩ else none
    | _ => none
  | _, _ => none
def bPutM (d : Option Nat) (T : TypeId) (x y z : Operand) : Option R := match d, evalB rd x, evalB rd y, evalB rd z with
  | none, some (.mref n), some (.s k), some (.b v) => match look n hs with
    | some (.sm es) => if isK P T then chk (cntB k es) 0 (K ⟨[(n, .sm es)], .any, [(n, .sm (es ++ [(k, v)]))], [], []⟩) else none
    | _ => none
  | _, _, _, _ => none
def flatB : BV → Bool
  | .agg _ => false
  | .tup _ => false
  | _ => true
def bFunc (fn : Fn) (first caps : Array Operand) : Option R := match first.toList, evalBs rd caps.toList with
  | [], some cs => if cs.all flatB then K (ev (.clo fn cs)) else none
  | _, _ => none
end
section
variable {R : Type} {P : Program} {ty : TypeId → Option TC} {rd : TS} {K : BEff → Option R} {r : R} {o : Oper}
theorem bndB_some {x : Operand} {k : Nat → Option R} (h : bndB rd x k = some r) : ∃ i : Nat, evalB rd x = some (.n .i64 (i : Int)) ∧ k i = some r := by
  unfold bndB at h
  split at h
  · rename_i k' j hx
    split at h
    · rename_i hk
      have := kEq_of hk; subst this
      obtain ⟨i, rfl, h⟩ := natc_some h
      exact ⟨i, hx, h⟩
    · simp at h
  · simp at h
theorem optB_of {x : Operand} {i d : Nat} (h : evalB rd x = some (.n .i64 (i : Int))) (L : Lens) : optB (erT L rd) d (some x) = some (i : Int) := by
  have := evalB_er L h
  simp only [BV.er] at this
  simp only [optB, this]
theorem Good.wrArrV {n : Name} {t : TC} {l l' : List (TT t)} {q : Nat} {v : BV} (hc : look n hs = some (.arr t l q)) (hl : l'.length = l.length) (h : ∀ L, Inv L hs → OpOK P o ⟨erT L rd, [(n, .arr (tz t) (l.map (tcells t)))], v.er L, [(n, .arr (tz t) (l'.map (tcells t)))], []⟩) : Good P o rd hs ⟨[(n, .arr t l q)], v, [(n, .arr t l' q)], [], []⟩ :=
  ⟨hp1 hc, fun L hL => ⟨L, fun _ _ _ _ => rfl, fun m t' l2 u hm => by
    simp only [List.cons_append, List.nil_append, look] at hm
    split at hm
    · rename_i e; subst e; cases hm; rw [hl]; exact hL _ t l q hc
    · exact hL m t' l2 u hm, h L hL⟩⟩
theorem bSlice_ok {T : TypeId} {x : Operand} {lo hi mx : Option Operand} (ho : o.op = .slice T x lo hi mx) (h : bSlice P rd hs K T x lo hi mx = some r) : Does P o rd hs K r := by
  unfold bSlice at h
  split at h
  · rename_i f t l e hx he
    split at h
    · rename_i es lo hz
      split at h
      · rename_i hb
        have := Nat.eq_of_beq_eq_true hb; subst this
        obtain ⟨k, hk, h⟩ := bndB_some h
        obtain ⟨hkl, h⟩ := lec_some h
        refine ⟨_, h, .ev fun L _ => ?_⟩
        have h1 := evalB_er L hx
        have h2 := evalB_er L hk
        simp only [BV.er] at h1 h2 ⊢
        exact OpOK.sliceLo ho (elemT_spec he) hz h1 h2 rfl (by rw [List.length_map]; exact hkl) (by rw [List.map_drop])
      · simp at h
    · rename_i es hi hz
      split at h
      · rename_i hb
        have := Nat.eq_of_beq_eq_true hb; subst this
        obtain ⟨m, hm, h⟩ := bndB_some h
        obtain ⟨hml, h⟩ := lec_some h
        refine ⟨_, h, .ev fun L _ => ?_⟩
        have h1 := evalB_er L hx
        simp only [BV.er] at h1 ⊢
        have := OpOK.sliceP (P := P) (o := o) (k := 0) (m := m) ho (elemT_spec he) hz h1 (by simp [optB]) (optB_of hm L) (Nat.zero_le _) (by rw [List.length_map]; exact hml)
        simp_all
      · simp at h
    · rename_i es lo hi hz
      split at h
      · rename_i hb
        have := Nat.eq_of_beq_eq_true hb; subst this
        obtain ⟨k, hk, h⟩ := bndB_some h
        obtain ⟨m, hm, h⟩ := bndB_some h
        obtain ⟨hkm, h⟩ := lec_some h
        obtain ⟨hml, h⟩ := lec_some h
        refine ⟨_, h, .ev fun L _ => ?_⟩
        have h1 := evalB_er L hx
        simp only [BV.er] at h1 ⊢
        have := OpOK.sliceP (P := P) (o := o) (k := k) (m := m) ho (elemT_spec he) hz h1 (optB_of hk L) (optB_of hm L) hkm (by rw [List.length_map]; exact hml)
        simp_all
      · simp at h
    · simp at h
  · rename_i n u e hx he
    split at h
    · rename_i t l q es hc hz
      split at h
      · rename_i hb
        simp only [Bool.and_eq_true] at hb
        have := Nat.eq_of_beq_eq_true hb.1; subst this
        have hlen : ∀ {L : Lens}, Inv L hs → L n u = l.length := fun hL => by rw [Nat.eq_of_beq_eq_true hb.2]; exact hL n t l q hc
        split at h
        · rename_i lo
          obtain ⟨k, hk, h⟩ := bndB_some h
          obtain ⟨hkl, h⟩ := lec_some h
          refine ⟨_, h, .val (hp1 hc) fun L hL => ?_⟩
          have h1 := evalB_er L hx
          simp only [BV.er] at h1 ⊢
          exact OpOK.sliceView ho (elemT_spec he) hz h1 (optB_of hk L) (by simp [optB, hlen hL]) (arr_len hL hc hb.2) hkl (by rw [List.length_map]; exact Nat.le_refl _)
        · rename_i hi
          obtain ⟨m, hm, h⟩ := bndB_some h
          obtain ⟨hml, h⟩ := lec_some h
          refine ⟨_, h, .val (hp1 hc) fun L hL => ?_⟩
          have h1 := evalB_er L hx
          simp only [BV.er] at h1 ⊢
          exact OpOK.sliceView ho (elemT_spec he) hz h1 (by simp [optB]) (optB_of hm L) (arr_len hL hc hb.2) (Nat.zero_le _) (by rw [List.length_map]; exact hml)
        · simp at h
      · simp at h
    · simp at h
  · rename_i n u e mx hx he
    split at h
    · rename_i t l q es hi hc hz
      split at h
      · rename_i hb
        simp only [Bool.and_eq_true] at hb
        have := Nat.eq_of_beq_eq_true hb.1; subst this
        obtain ⟨k, hk, h⟩ := bndB_some h
        obtain ⟨m, hm, h⟩ := bndB_some h
        obtain ⟨hkm, h3⟩ := chk_some h
        subst hkm
        obtain ⟨hkl, h4⟩ := lec_some h3
        refine ⟨_, h4, .val (hp1 hc) fun L hL => ?_⟩
        have h1 := evalB_er L hx
        simp only [BV.er] at h1 ⊢
        exact OpOK.sliceCut ho (elemT_spec he) hz h1 (evalB_n L hk) (evalB_n L hm) rfl (arr_len hL hc hb.2) (by rw [List.length_map]; exact hkl)
      · simp at h
    · simp at h
  · rename_i n u a b e hx he
    split at h
    · rename_i t l q es hc hz
      split at h
      · rename_i hb
        simp only [Bool.and_eq_true] at hb
        have := Nat.eq_of_beq_eq_true hb.1; subst this
        split at h
        · rename_i lo
          obtain ⟨k, hk, h⟩ := bndB_some h
          obtain ⟨hkl, h⟩ := ltc_some h
          refine ⟨_, h, .val (hp1 hc) fun L hL => ?_⟩
          have h1 := evalB_er L hx
          simp only [BV.er] at h1 ⊢
          exact OpOK.sliceView2 ho (elemT_spec he) hz h1 (optB_of hk L) (by simp [optB]) (arr_len hL hc hb.2) (Nat.le_of_lt hkl) (Nat.le_refl _) (.inr (.inr hkl))
        · rename_i hi
          obtain ⟨m, hm, h⟩ := bndB_some h
          obtain ⟨hml, h⟩ := lec_some h
          refine ⟨_, h, .val (hp1 hc) fun L hL => ?_⟩
          have h1 := evalB_er L hx
          simp only [BV.er] at h1 ⊢
          exact OpOK.sliceView2 (k := 0) ho (elemT_spec he) hz h1 (by simp [optB]) (optB_of hm L) (arr_len hL hc hb.2) (Nat.zero_le _) hml (.inr (.inl rfl))
        · simp at h
      · simp at h
    · simp at h
  · simp at h
theorem pureL_of {T : TypeId} {cs : List BV} (h : zeroB P T = some cs) (hp : cs.all BV.isP = true) : zeroRow P T = some (pvL cs) := by
  unfold zeroRow
  rw [zeroB_er (fun _ _ => 0) h]
  simp only
  exact pureL_pv _ hp
theorem bClear_ok {T : TypeId} {x : Operand} {ats : Array TypeId} (ho : o.op = .call { callee := .builtin .clear, args := #[x], argTypes := ats }) (hat : ats[0]? = some T) (h : bClear P rd hs K T x = some r) : Does P o rd hs K r := by
  unfold bClear at h
  split at h
  case h_2 => simp at h
  rename_i n u i hi e hx he
  split at h
  case h_2 => simp at h
  rename_i t l q es zs hc hz hzs
  split at h
  case isFalse => simp at h
  rename_i hb
  simp only [Bool.and_eq_true] at hb
  have := Nat.eq_of_beq_eq_true hb.1.1.1; subst this
  obtain ⟨hih, h⟩ := lec_some h
  obtain ⟨hil, h⟩ := lec_some h
  obtain ⟨z, rest, hle, h⟩ := tpop_some t h
  split at h
  case h_2 => simp at h
  refine ⟨_, h, .wrArrV hc (by simp; omega) fun L hL => ?_⟩
  have h1 := evalB_er L hx
  have hlen : L n u = l.length := by rw [Nat.eq_of_beq_eq_true hb.2]; exact hL n t l q hc
  simp only [BV.er, erL] at h1 ⊢
  have hcs := Le_cells hle hb.1.2
  refine OpOK.arrLe (OpOK.clearView (P := P) (rows := l.map (tcells t)) (i := i) (m := hi) ho hat (elemT_spec he) hz (pureL_of hzs hb.1.2) (by rw [pvL_length]; exact Nat.eq_of_beq_eq_true hb.1.1.2) h1 (arr_len hL hc hb.2) hih (by rw [List.length_map]; exact hil) rfl) ?_
  rw [List.map_append, List.map_append, List.map_take, List.map_drop, List.map_replicate]
  refine RowsLe.append (RowsLe.append (RowsLe.refl _) (RowsLe.nth (by simp) fun j a b ha hb => ?_)) (RowsLe.refl _)
  grind
theorem bCopy_ok {T : TypeId} {x y : Operand} (ho : o.op = .call { callee := .builtin .copy, args := #[x, y], argTypes := #[T, T] }) (h : bCopy P rd hs K T x y = some r) : Does P o rd hs K r := by
  unfold bCopy at h
  split at h
  case h_2 => simp at h
  rename_i n u i hi m v j hj e hx hy he
  split at h
  case h_2 => simp at h
  rename_i t l q es hc hz
  split at h
  case isFalse => simp at h
  rename_i hb
  simp only [Bool.and_eq_true] at hb
  have := Nat.eq_of_beq_eq_true hb.1.1.1; subst this
  have := Nat.eq_of_beq_eq_true hb.1.2; subst this
  replace h := chk_some h
  obtain ⟨e1, h⟩ := h
  subst e1
  replace h := chk_some h
  obtain ⟨e2, h⟩ := h
  subst e2
  obtain ⟨hil, h⟩ := lec_some h
  obtain ⟨hji, h⟩ := lec_some h
  have huv : v = u := by rw [Nat.eq_of_beq_eq_true hb.1.1.2, Nat.eq_of_beq_eq_true hb.2]
  subst huv
  refine ⟨_, h, .wrArrV hc (by simp; omega) fun L hL => ?_⟩
  have h1 := evalB_er L hx
  have h2 := evalB_er L hy
  have hlen : L n v = l.length := by rw [Nat.eq_of_beq_eq_true hb.2]; exact hL n t l q hc
  simp only [BV.er] at h1 h2 ⊢
  exact OpOK.copyView (rows := l.map (tcells t)) ho rfl (elemT_spec he) hz (by rw [h1, hlen]) (by rw [h2, hlen]) (arr_len hL hc hb.2) (by rw [List.length_map]; exact hil) hji (by rw [List.map_append, List.map_take, List.map_take, List.map_drop, List.length_map]) (by rw [List.length_map])
theorem isK_some {T : TypeId} (h : isK P T = true) : ∃ K E, P.underlying T = some (.map K E) ∧ P.underlying K = some .string ∧ zeroV P E = some (.bool false) := by
  unfold isK at h
  grind
theorem memB_look (k : ByteArray) : ∀ es : List (ByteArray × Bool), (lookS k (es.map fun p => (p.1, Value.bool p.2))).getD (.bool false) = .bool (memB k es)
  | [] => rfl
  | p :: r => by
    simp only [List.map_cons, lookS, memB]
    split
    · rfl
    · exact memB_look k r
theorem cntB_look (k : ByteArray) : ∀ es : List (ByteArray × Bool), cntB k es = 0 → lookS k (es.map fun p => (p.1, Value.bool p.2)) = none
  | [], _ => rfl
  | p :: r, h => by
    simp only [cntB] at h
    simp only [List.map_cons, lookS]
    split at h
    · omega
    · rename_i e; rw [if_neg e]; exact cntB_look k r h
theorem Inv.sm {L : Lens} {n : Name} {es : List (ByteArray × Bool)} (hL : Inv L hs) : Inv L ((n, .sm es) :: hs) := fun m t l u hm => by
  simp only [look] at hm
  split at hm
  · cases hm
  · exact hL m t l u hm
theorem bMakeMap_ok {T : TypeId} (ho : o.op = .makeMap T none) (h : bMakeMap P K o.dst T = some r) : Does P o rd hs K r := by
  unfold bMakeMap at h
  split at h
  · rename_i d hd
    split at h
    · refine ⟨_, h, fun _ _ h => by simp at h, fun L hL => ⟨L, fun _ _ _ _ => rfl, Inv.sm hL, ?_⟩⟩
      have := OpOK.makeMap (P := P) (o := o) (rd := erT L rd) (n := 1000 + d) ho
      simpa only [BV.er, erH, List.map_cons, List.map_nil, BO.er] using this
    · simp at h
  · simp at h
theorem bLookup_ok {T : TypeId} {x y : Operand} (ho : o.op = .lookup T x y false) (h : bLookup P rd hs K T x y = some r) : Does P o rd hs K r := by
  unfold bLookup at h
  split at h
  · rename_i n k hx hy
    split at h
    · rename_i es hc
      split at h
      · rename_i hk
        obtain ⟨Kt, E, h1, h2, h3⟩ := isK_some hk
        refine ⟨_, h, .val (hp1 hc) fun L hL => ?_⟩
        have k1 := evalB_er L hx
        have k2 := evalB_er L hy
        simp only [BV.er] at k1 k2 ⊢
        exact OpOK.lookup ho h1 h2 h3 k1 k2 (memB_look k es) rfl
      · simp at h
    · simp at h
  · simp at h
theorem bPutM_ok {T : TypeId} {x y z : Operand} (ho : o.op = .mapUpdate T x y z) (h : bPutM P rd hs K o.dst T x y z = some r) : Does P o rd hs K r := by
  unfold bPutM at h
  split at h
  · rename_i n k v hd hx hy hz
    split at h
    · rename_i es hc
      split at h
      · rename_i hk
        obtain ⟨Kt, E, h1, h2, h3⟩ := isK_some hk
        obtain ⟨h0, h⟩ := chk_some h
        refine ⟨_, h, hp1 hc, fun L hL => ⟨L, fun _ _ _ _ => rfl, Inv.sm hL, ?_⟩⟩
        have k1 := evalB_er L hx
        have k2 := evalB_er L hy
        have k3 := evalB_er L hz
        simp only [BV.er] at k1 k2 k3 ⊢
        have := OpOK.putS (P := P) (o := o) (rd := erT L rd) hd (.inl ho) h1 h2 k1 k2 k3 (cntB_look k es h0) (by rw [show es.map (fun p => (p.1, Value.bool p.2)) ++ [(k, Value.bool v)] = (es ++ [(k, v)]).map fun p => (p.1, Value.bool p.2) from by simp])
        simpa only [erH, List.map_cons, List.map_nil, BO.er] using this
      · simp at h
    · simp at h
  · simp at h
theorem flatB_er {x : BV} (h : flatB x = true) (L : Lens) : flatAV (x.er L) = true := by
  cases x <;> simp only [flatB, BV.er, flatAV, Bool.false_eq_true] at h ⊢
theorem bFunc_ok {fn : Fn} {first caps : Array Operand} (ho : o.op = .makeFunc fn first caps) (h : bFunc rd K fn first caps = some r) : Does P o rd hs K r := by
  unfold bFunc at h
  split at h
  · rename_i cs hf hcs
    split at h
    · rename_i hall
      refine ⟨_, h, .ev fun L _ => ?_⟩
      simp only [BV.er]
      refine OpOK.makeFunc ho (by rw [hf]; rfl) (evalBs_er L hcs) rfl ?_
      rw [erL_map, List.all_map]
      exact List.all_eq_true.2 fun c hc => flatB_er (List.all_eq_true.1 hall c hc) L
    · simp at h
  · simp at h
theorem pickC_some {c : Int} : ∀ {cs : List BV} {i : Nat} {k : Nat → BV → Option R}, pickC c cs i k = some r → ∃ j v, cs[j]? = some v ∧ c = ((i + j : Nat) : Int) ∧ k (i + j) v = some r
  | [], i, k, h => by simp [pickC] at h
  | v :: q, i, k, h => by
    simp only [pickC] at h
    rcases cnd_some h with ⟨e, h⟩ | ⟨e, h⟩
    · exact ⟨0, v, rfl, by simpa using e, h⟩
    · obtain ⟨j, v', h1, h2, h3⟩ := pickC_some h
      exact ⟨j + 1, v', by simpa using h1, by rw [h2]; congr 1; omega, by rw [show i + (j + 1) = i + 1 + j by omega]; exact h3⟩
theorem bIndexV_ok {T : TypeId} {x y : Operand} (ho : o.op = .index T x y) (h : bIndexV P rd K T x y = some r) : Does P o rd hs K r := by
  unfold bIndexV at h
  split at h
  · rename_i cs k j len e hx hy hT
    split at h
    · rename_i hb
      simp only [Bool.and_eq_true] at hb
      have := kEq_of hb.1.1; subst this
      split at h
      · rename_i hz
        obtain ⟨i, v, h1, h2, h⟩ := pickC_some h
        refine ⟨_, h, .ev fun L _ => ?_⟩
        have k1 := evalB_er L hx
        have k2 := evalB_er L hy
        simp only [BV.er, h2, Nat.zero_add] at k1 k2
        have hi := (List.getElem?_eq_some_iff.1 h1).1
        exact OpOK.indexV ho hT hz hb.1.2 k1 k2 (by rw [Nat.eq_of_beq_eq_true hb.2]; exact hi) (by rw [erL_get, h1]; rfl)
      · simp at h
    · simp at h
  · simp at h
theorem bIndexBox_ok {T : TypeId} {x y : Operand} (ho : o.op = .indexAddr T x y) (h : bIndexBox P rd hs K T x y = some r) : Does P o rd hs K r := by
  unfold bIndexBox at h
  split at h
  · rename_i n k k' j len e hx hy hT
    split at h
    · rename_i cells es hc hz
      obtain ⟨i, v, h1, h2, h⟩ := pickC_some h
      refine ⟨_, h, .val (hp1 hc) fun L _ => ?_⟩
      have k1 := evalB_er L hx
      simp only [BV.er] at k1 ⊢
      rw [Nat.zero_add] at h2
      have hi := (List.getElem?_eq_some_iff.1 h1).1
      rw [List.length_replicate] at hi
      exact OpOK.indexArr ho hT hz k1 (evalB_n L hy) h2 hi (by rw [Nat.zero_add])
    · simp at h
  · simp at h
theorem intsB_er (L : Lens) : ∀ {cs : List BV} {l : List Int}, intsB cs = some l → erL L cs = l.map fun a => .p (.v (.int .i64 a))
  | [], l, h => by simp only [intsB, Option.some.injEq] at h; subst h; simp only [erL, List.map_nil]
  | c :: r, l, h => by
    cases c with
    | n k x =>
      simp only [intsB] at h
      split at h
      · rename_i hk
        have := kEq_of hk; subst this
        split at h
        · rename_i l' hl; cases h; simp only [erL, BV.er, List.map_cons, intsB_er L hl]
        · simp at h
      · simp at h
    | _ => simp [intsB] at h
theorem textsB_er (L : Lens) : ∀ {cs : List BV} {l : List ByteArray}, textsB cs = some l → erL L cs = l.map fun a => .p (.v (.string a))
  | [], l, h => by simp only [textsB, Option.some.injEq] at h; subst h; simp only [erL, List.map_nil]
  | x :: r, l, h => by
    cases x with
    | s x =>
      simp only [textsB] at h
      split at h
      · rename_i l' hl; cases h; simp only [erL, BV.er, List.map_cons, textsB_er L hl]
      · simp at h
    | _ => simp [textsB] at h
theorem bNil_ok {op : BinOp} {T T' : TypeId} {x : Operand} {v : BV} (ho : o.op = .binOp op T x (.const (.slice none 0 0)) T') (hx : evalB rd x = some v) (h : bNil P K op T v = some r) : Does P o rd hs K r := by
  unfold bNil at h
  split at h
  · rename_i q e f t l hq he
    rcases nilC_some h with ⟨_, h⟩ | ⟨hl, h⟩
    · refine ⟨_, h, .ev fun L _ => ?_⟩
      have h1 := evalB_er L hx
      simp only [BV.er] at h1 ⊢
      exact OpOK.eqNilU ho hq (elemT_spec he) h1
    · refine ⟨_, h, .ev fun L _ => ?_⟩
      have h1 := evalB_er L hx
      simp only [BV.er] at h1 ⊢
      exact OpOK.eqNilN ho hq (elemT_spec he) h1 (by simpa using hl)
  · rename_i q e hq he
    refine ⟨_, h, .ev fun L _ => ?_⟩
    have h1 := evalB_er L hx
    simp only [BV.er] at h1 ⊢
    exact OpOK.eqNilU ho hq (elemT_spec he) h1
  · simp at h
theorem bBin2_ok {op : BinOp} {T T' : TypeId} {x y : Operand} (ho : o.op = .binOp op T x y T') (h : bBin2 P rd K op T x y = some r) : Does P o rd hs K r := by
  unfold bBin2 at h
  split at h
  · rename_i a b hx hy
    unfold bCmp at h
    split at h
    · rename_i p q hp hq
      split at h
      · rename_i hb
        simp only [Bool.and_eq_true] at hb
        have k1 : ∀ L, evalO (erT L rd) x = some (.agg (p.map fun a => .p (.v (.int .i64 a)))) := fun L => by have := evalB_er L hx; rw [this]; simp only [BV.er, intsB_er L hp]
        have k2 : ∀ L, evalO (erT L rd) y = some (.agg (q.map fun a => .p (.v (.int .i64 a)))) := fun L => by have := evalB_er L hy; rw [this]; simp only [BV.er, intsB_er L hq]
        split at h
        · exact ⟨_, h, .ev fun L _ => by simp only [BV.er]; exact OpOK.eqlInts base_int ho hb.1 hb.2 (k1 L) (k2 L) rfl⟩
        · exact ⟨_, h, .ev fun L _ => by simp only [BV.er]; exact OpOK.neqInts base_int ho hb.1 hb.2 (k1 L) (k2 L) rfl⟩
        · simp at h
      · simp at h
    · split at h
      · rename_i p q hp hq
        split at h
        · rename_i hb
          simp only [Bool.and_eq_true] at hb
          have k1 : ∀ L, evalO (erT L rd) x = some (.agg (p.map fun a => .p (.v (.string a)))) := fun L => by have := evalB_er L hx; rw [this]; simp only [BV.er, textsB_er L hp]
          have k2 : ∀ L, evalO (erT L rd) y = some (.agg (q.map fun a => .p (.v (.string a)))) := fun L => by have := evalB_er L hy; rw [this]; simp only [BV.er, textsB_er L hq]
          split at h
          · exact ⟨_, h, .ev fun L _ => by simp only [BV.er]; exact OpOK.eqlInts base_str ho hb.1 hb.2 (k1 L) (k2 L) rfl⟩
          · exact ⟨_, h, .ev fun L _ => by simp only [BV.er]; exact OpOK.neqInts base_str ho hb.1 hb.2 (k1 L) (k2 L) rfl⟩
          · simp at h
        · simp at h
      · simp at h
  · rename_i v hx hy
    split at h
    · rename_i hn
      unfold nilO at hn
      split at hn
      · exact bNil_ok ho hx h
      · simp at hn
    · simp at h
  · rename_i q hx _
    unfold bErr at h
    split at h
    · split at h
      · rename_i hT
        exact ⟨_, h, .ev fun L _ => by simp only [BV.er]; exact OpOK.eqlE ho hT (by have := evalB_er L hx; simpa only [BV.er] using this) rfl⟩
      · simp at h
    · simp at h
  · exact bBin_ok ho h
end
end
section
variable {L L' : Lens} {ts ts' : TS} {hs hs' : HS}
section
variable {R : Type} (P : Program) (ty : TypeId → Option TC) (rd : TS) (hs : HS) (K : BEff → Option R)
def bMax (x y : Operand) : Option R := match evalB rd x, evalB rd y with
  | some (.n k a), some (.n k' b) => if kEq .i64 k && kEq .i64 k' then K (ev (.n .i64 (max a b))) else none
  | _, _ => none
def bMin (x y : Operand) : Option R := match evalB rd x, evalB rd y with
  | some (.n k a), some (.n k' b) => if kEq .i64 k && kEq .i64 k' then K (ev (.n .i64 (min a b))) else none
  | _, _ => none
def bCallB (d : Option Nat) (c : Call) : Option R := match c.callee, c.args.toList, c.argTypes.toList with
  | .builtin .len, [x], [T] => bLen P rd hs K T x
  | .builtin .append, [x, y], [T, T'] => if Nat.beq T T' then bAppend P ty rd hs K d T x y else none
  | .builtin .max, [x, y], _ => bMax rd K x y
  | .builtin .min, [x, y], _ => bMin rd K x y
  | .builtin .clear, [x], [T] => bClear P rd hs K T x
  | .builtin .copy, [x, y], [T, T'] => if Nat.beq T T' then bCopy P rd hs K T x y else none
  | _, _, _ => none
def growLit : List (Nat × Operand) → Bool
  | [(_, .const (.int .i64 (.ofNat 0)))] => true
  | [(_, .const (.string _))] => true
  | _ => false
def bBuildOwn (d : Option Nat) (T : TypeId) (len : Nat) (parts : Array (Nat × Operand)) : Option R := match d, elemT P T with
  | some d, some e => match ty e, sizeT P e, zeroRow P e with
    | some t, some es, some zr => if Nat.beq es (tz t) && Nat.ble 1 es && Nat.beq zr.length es && Nat.ble (len * es) 16777216 then rowsC rd t parts.toList 0 len fun l => K ⟨[], .own (1000 + d) 0, [(1000 + d, .arr t l 0)], [1000 + d], []⟩ else none
    | _, _, _ => none
  | _, _ => none
def zeroOf : (t : TC) → List PV → Option (TT t)
  | .int, [.v (.int .i64 (.ofNat 0))] => some (0 : Int)
  | .bool, [.v (.bool false)] => some false
  | _, _ => none
def bMake (d : Option Nat) (T : TypeId) (x y : Operand) : Option R := match d, elemT P T, x, y, evalB rd x with
  | some d, some e, .tmp s, .tmp s', some (.n .i64 j) => match ty e, sizeT P e, zeroRow P e, bytesT P e with
    | some t, some es, some zr, some b => match zeroOf t zr with
      | some z => if Nat.beq es (tz t) && Nat.beq s s' && Nat.ble 1 es && Nat.beq zr.length es && Nat.ble b 4096 then natc j fun k => lec k 1048576 (K ⟨[], .own (1000 + d) 0, [(1000 + d, .arr t (List.replicate k z) 0)], [1000 + d], []⟩) else none
      | none => none
    | _, _, _, _ => none
  | _, _, _, _, _ => none
def bConvS (S T : TypeId) : BV → Option R
  | .ts _ .u8 [c] => if isBytes P S then (match P.underlying T with
    | some .string => K (ev (.s (ByteArray.mk #[UInt8.ofNat (Int.toNat c)])))
    | _ => none) else none
  | _ => none
def bSliceS (T : TypeId) (t : ByteArray) (lo hi mx : Option Operand) : Option R := match P.underlying T, mx, lo, hi with
  | some .string, none, some lo, none => bndB rd lo fun k => lec k t.size (K (ev (.s (t.extract k t.size))))
  | some .string, none, none, some hi => bndB rd hi fun m => lec m t.size (K (ev (.s (t.extract 0 m))))
  | some .string, none, some lo, some hi => bndB rd lo fun k => bndB rd hi fun m => lec k m (lec m t.size (K (ev (.s (t.extract k m)))))
  | _, _, _, _ => none
def bop (o : Oper) : Option R := match o.op with
  | .move x => bVal rd K x
  | .assign x => bVal rd K x
  | .pick c x y => bPick rd K c x y
  | .alloc T => bAlloc P K o.dst T
  | .box _ x => bBox rd K o.dst x
  | .build T parts => bBuild P rd K T parts
  | .buildSlice T len parts => if growLit parts.toList then bBuildOwn P ty rd K o.dst T len parts else bBuildSlice P ty rd K T len parts
  | .load T x => bLoad P rd hs K T x
  | .store T x y => bStore P rd hs K o.dst T x y
  | .fieldAddr S x i => bFieldAddr P rd hs K S x i
  | .nilCheck x => bNilCheck rd hs K x
  | .binOp op T x y _ => bBin2 P rd K op T x y
  | .unOp op _ x => bUn rd K op x
  | .field T x i => bField P rd K T x i
  | .extract x i => bExtract rd K x i
  | .indexAddr T x y => match P.underlying T with
    | some (.array _ _) => bIndexBox P rd hs K T x y
    | _ => bIndexAddr P rd hs K T x y
  | .index T x y => match P.underlying T with
    | some (.array _ _) => bIndexV P rd K T x y
    | _ => bIndexS P rd K T x y
  | .convert S T x => match evalB rd x with
    | some (.ts f t l) => bConvS P K S T (.ts f t l)
    | _ => bConv P rd K S T x
  | .slice T x lo hi mx => match evalB rd x with
    | some (.s t) => bSliceS P rd K T t lo hi mx
    | _ => bSlice P rd hs K T x lo hi mx
  | .makeFunc fn first caps => bFunc rd K fn first caps
  | .makeMap T none => bMakeMap P K o.dst T
  | .makeSlice T x y => bMake P ty rd K o.dst T x y
  | .lookup T x y false => bLookup P rd hs K T x y
  | .mapUpdate T x y z => bPutM P rd hs K o.dst T x y z
  | .call c => bCallB P ty rd hs K o.dst c
  | _ => none
end
section
variable {R : Type} {P : Program} {ty : TypeId → Option TC} {rd : TS} {K : BEff → Option R} {r : R} {o : Oper}
theorem srcB_some {t0 : TC} {y : BV} {K : List (TT t0) → Option R} (h : srcB t0 y K = some r) : ∃ f l, y = .ts f t0 l ∧ K l = some r := by
  unfold srcB at h
  split at h
  · split at h
    · rename_i he; subst he; exact ⟨_, _, rfl, h⟩
    · simp at h
  · simp at h
theorem bBuildOwn_ok {T : TypeId} {len : Nat} {parts : Array (Nat × Operand)} (ho : o.op = .buildSlice T len parts) (h : bBuildOwn P ty rd K o.dst T len parts = some r) : Does P o rd hs K r := by
  unfold bBuildOwn at h
  split at h
  · rename_i d e hd he
    split at h
    · rename_i t es zr h0 h1 h2
      split at h
      · rename_i hb
        simp only [Bool.and_eq_true] at hb
        obtain ⟨l, g1, g2, g3⟩ := rowsC_some h
        have hes := Nat.eq_of_beq_eq_true hb.1.1.1
        subst hes
        refine ⟨_, g1, .new (fun L m u => if m = 1000 + d then l.length else L m u) (fun L m u hm => if_neg hm) (fun L _ t' l2 u hl => by cases hl; exact if_pos rfl) fun L hL => ?_⟩
        obtain ⟨rows, k1, k2⟩ := g3 L [] (List.replicate len zr) rfl (by rw [List.length_replicate]; omega)
        simp only [List.nil_append] at k1
        simp only [BV.er, BO.er, if_true]
        have hl : rows.length = l.length := by have := k2.length; rwa [List.length_map] at this
        exact (OpOK.buildOwn ho he h1 hb.1.1.2 h2 (Nat.eq_of_beq_eq_true hb.1.2) hb.2 k1 hl).arrLe k2
      · simp at h
    · simp at h
  · simp at h
theorem zeroOf_is : ∀ {t : TC} {zr : List PV} {z : TT t}, zeroOf t zr = some z → zr = tcells t z := by
  intro t zr z h
  unfold zeroOf at h
  split at h
  · cases h; rfl
  · cases h; rfl
  · simp at h
theorem bMake_ok {T : TypeId} {x y : Operand} (ho : o.op = .makeSlice T x y) (h : bMake P ty rd K o.dst T x y = some r) : Does P o rd hs K r := by
  unfold bMake at h
  split at h
  · rename_i d e s s' j hd he hx
    split at h
    · rename_i t es zr b h0 h1 h2 h3
      split at h
      · rename_i z hz
        split at h
        · rename_i hb
          simp only [Bool.and_eq_true] at hb
          have := Nat.eq_of_beq_eq_true hb.1.1.1.2
          subst this
          have hes := Nat.eq_of_beq_eq_true hb.1.1.1.1
          subst hes
          obtain ⟨k, hk, h⟩ := natc_some h
          obtain ⟨hle, h⟩ := lec_some h
          refine ⟨_, h, .new (fun L m u => if m = 1000 + d then k else L m u) (fun L m u hm => if_neg hm) (fun L _ t' l2 u hl => by cases hl; rw [List.length_replicate]; exact if_pos rfl) fun L hL => ?_⟩
          simp only [BV.er, BO.er, if_true]
          exact OpOK.makeOwn ho he h1 h3 hb.1.1.2 h2 (Nat.eq_of_beq_eq_true hb.1.2) (evalB_n L hx) (evalB_n L hx) hk hle hb.2 (by rw [List.map_replicate, ← zeroOf_is hz]) rfl
        · simp at h
      · simp at h
    · simp at h
  · simp at h
theorem bAppend_ok {T : TypeId} {x y : Operand} (ho : o.op = .call { callee := .builtin .append, args := #[x, y], argTypes := #[T, T] }) (h : bAppend P ty rd hs K o.dst T x y = some r) : Does P o rd hs K r := by
  have hlim : ∀ {a b bytes : Nat}, a + b ≤ 34359738368 → Nat.ble bytes 4096 = true → (a + b) * bytes ≤ 140737488355328 ∧ a + b ≤ 140737488355328 := fun {a b bytes} h1 h2 => by
    have := Nat.mul_le_mul h1 (Nat.le_of_ble_eq_true h2)
    omega
  unfold bAppend at h
  split at h
  · rename_i n u v e hx hy he
    split at h
    · rename_i t l q es bytes hc hz hby
      split at h
      · rename_i hb
        simp only [Bool.and_eq_true] at hb
        have := Nat.eq_of_beq_eq_true hb.1.1.1; subst this
        have hq := hb.2
        have hb := hb.1
        obtain ⟨f, l', hv, h0⟩ := srcB_some h
        subst hv; clear h
        obtain ⟨hle, h⟩ := lec_some h0
        refine ⟨_, h, hp1 hc, fun L hL => ?_⟩
        let L' : Lens := fun m u => if m = n ∧ u = q + 1 then (l ++ l').length else L m u
        have hn : L' n (q + 1) = (l ++ l').length := if_pos ⟨rfl, rfl⟩
        refine ⟨L', fun m u _ hm => if_neg (by simpa using hm), fun m t2 l2 u2 hm => ?_, ?_⟩
        · simp only [List.cons_append, List.nil_append, look] at hm
          split at hm
          · grind
          · rename_i e; show (if m = n ∧ u2 = q + 1 then _ else L m u2) = _; rw [if_neg (fun h => e h.1.symm)]; exact hL m t2 l2 u2 hm
        · have h1 := evalB_er L hx
          have h2 := evalB_er L hy
          simp only [BV.er] at h1 h2 ⊢
          rw [hn]
          have hlm : (l.map (tcells t)).length + (l'.map (tcells t)).length ≤ 34359738368 := by simpa using hle
          exact OpOK.appendOwn ho rfl he hb.1.2 h1 (arr_len hL hc hq) h2 (by rw [← List.map_append]) (by rw [List.length_map]) (hlim hlm hb.2).1 (hlim hlm hb.2).2
      · simp at h
    · simp at h
  · rename_i n u k m v a b e hx hy he
    split at h
    · rename_i d t l q es bytes hd hc hz hby
      split at h
      · rename_i hb
        simp only [Bool.and_eq_true] at hb
        obtain ⟨⟨⟨⟨⟨b1, b2⟩, b3⟩, b4⟩, b5⟩, b6⟩ := hb
        have := Nat.eq_of_beq_eq_true b1; subst this
        have := Nat.eq_of_beq_eq_true b2; subst this
        have := Nat.eq_of_beq_eq_true b3; subst this
        have := Nat.eq_of_beq_eq_true b4; subst this
        obtain ⟨hk, h⟩ := lec_some h
        obtain ⟨hbl, h⟩ := lec_some h
        obtain ⟨hab, h⟩ := lec_some h
        have hm : ∀ {c : Nat}, c ≤ l.length → c ≤ (l.map (tcells t)).length := fun h => by rw [List.length_map]; exact h
        rcases nilC_some h with ⟨h0, h⟩ | ⟨h0, h⟩
        · refine ⟨_, h, .val (hp1 hc) fun L hL => ?_⟩
          have h1 := evalB_er L hx
          have h2 := evalB_er L hy
          simp only [BV.er] at h1 h2 ⊢
          exact OpOK.appendCut0 ho he b5 h1 h2 (arr_len hL hc (Nat.beq_refl _)) (hm hk) (hm hbl) hab (by rw [← List.map_take, ← List.map_drop, h0]; rfl)
        · obtain ⟨hle, h⟩ := lec_some h
          have hle' : (l.take k ++ (l.take b).drop a).length * bytes ≤ 140737488355328 := by
            have := Nat.mul_le_mul hle (Nat.le_of_ble_eq_true b6); omega
          refine ⟨_, h, hp1 hc, fun L hL => ?_⟩
          let L' : Lens := fun m u => if m = 1000 + d then (l.take k ++ (l.take b).drop a).length else L m u
          refine ⟨L', fun m u hm _ => if_neg (by simpa using hm), fun m t2 l2 u2 hm => ?_, ?_⟩
          · simp only [List.cons_append, List.nil_append, look] at hm
            split at hm
            · rename_i e; subst e; cases hm; exact if_pos rfl
            · rename_i e; show (if m = 1000 + d then _ else L m u2) = _; rw [if_neg (Ne.symm e)]; exact hL m t2 l2 u2 hm
          · have h1 := evalB_er L hx
            have h2 := evalB_er L hy
            have hn : L' (1000 + d) 0 = (l.take k ++ (l.take b).drop a).length := if_pos rfl
            simp only [BV.er] at h1 h2 ⊢
            rw [hn]
            exact OpOK.appendCut ho he b5 h1 h2 (arr_len hL hc (Nat.beq_refl _)) (hm hk) (hm hbl) hab (by rw [← List.map_take, ← List.map_drop]; simpa using h0) (by rw [← List.map_take, ← List.map_take, ← List.map_drop, ← List.map_append]) (by rw [List.length_map]) (by rw [List.length_map]; exact hle') (by rw [List.length_map]; omega)
      · simp at h
    · simp at h
  · rename_i v e hx hy he
    split at h
    · rename_i d t es bytes hd hty hz hby
      split at h
      · rename_i hb
        simp only [Bool.and_eq_true] at hb
        have := Nat.eq_of_beq_eq_true hb.1.1.1; subst this
        obtain ⟨f, l', hv, h0⟩ := srcB_some h
        subst hv; clear h
        obtain ⟨hle, h⟩ := lec_some h0
        refine ⟨_, h, .new (fun L m u => if m = 1000 + d then l'.length else L m u) (fun L m u hm => if_neg hm) (fun L _ t' l2 u hl => by cases hl; exact if_pos rfl) fun L hL => ?_⟩
        have h1 := evalB_er L hx
        have h2 := evalB_er L hy
        simp only [BV.er, BO.er, if_true] at h1 h2 ⊢
        have hlm : ([] : List (List PV)).length + (l'.map (tcells t)).length ≤ 34359738368 := by simpa using hle
        exact OpOK.appendNew ho rfl he hb.1.1.2 hb.2 h1 h2 (List.nil_append _) (by rw [List.length_map]) (.inl rfl) (hlim hlm hb.1.2).1 (hlim hlm hb.1.2).2
      · simp at h
    · simp at h
  · rename_i t l v e hx hy he
    split at h
    · rename_i d es bytes hd hz hby
      split at h
      · rename_i hb
        simp only [Bool.and_eq_true] at hb
        have := Nat.eq_of_beq_eq_true hb.1.1.1; subst this
        obtain ⟨f, l', hv, h0⟩ := srcB_some h
        subst hv; clear h
        split at h0
        · obtain ⟨hle, h⟩ := lec_some h0
          refine ⟨_, h, .new (fun L m u => if m = 1000 + d then l'.length else L m u) (fun L m u hm => if_neg hm) (fun L _ t' l2 u hl => by cases hl; exact if_pos rfl) fun L hL => ?_⟩
          have h1 := evalB_er L hx
          have h2 := evalB_er L hy
          simp only [BV.er, BO.er, if_true, List.map_nil] at h1 h2 ⊢
          have hlm : ([] : List (List PV)).length + (l'.map (tcells t)).length ≤ 34359738368 := by simpa using hle
          exact OpOK.appendNew ho rfl he hb.1.1.2 hb.2 h1 h2 (List.nil_append _) (by rw [List.length_map]) (.inl rfl) (hlim hlm hb.1.2).1 (hlim hlm hb.1.2).2
        · rename_i y0 q0
          split at h0
          · simp at h0
          · rename_i z q
            obtain ⟨hle, h⟩ := lec_some h0
            refine ⟨_, h, .new (fun L m u => if m = 1000 + d then (y0 :: q0 ++ z :: q).length else L m u) (fun L m u hm => if_neg hm) (fun L _ t' l2 u hl => by cases hl; exact if_pos rfl) fun L hL => ?_⟩
            have h1 := evalB_er L hx
            have h2 := evalB_er L hy
            simp only [BV.er, BO.er, if_true] at h1 h2 ⊢
            have hlm : ((y0 :: q0).map (tcells t)).length + ((z :: q).map (tcells t)).length ≤ 34359738368 := by simpa using hle
            exact OpOK.appendNew ho rfl he hb.1.1.2 hb.2 h1 h2 (by rw [← List.map_append]) (by rw [List.length_map]) (.inr ⟨by simp, rfl⟩) (hlim hlm hb.1.2).1 (hlim hlm hb.1.2).2
      · simp at h
    · simp at h
  · simp at h
theorem bConv_ok {S T : TypeId} {x : Operand} (ho : o.op = .convert S T x) (h : bConv P rd K S T x = some r) : Does P o rd hs K r := by
  unfold bConv at h
  split at h
  · rename_i k a k' hx hT
    split at h
    · rename_i hS
      refine ⟨_, h, .ev fun L _ => ?_⟩
      simp only [BV.er]; exact OpOK.convI ho hS hT (evalB_n L hx) rfl
    · simp at h
  · simp at h
theorem bIndexS_ok {T : TypeId} {x y : Operand} (ho : o.op = .index T x y) (h : bIndexS P rd K T x y = some r) : Does P o rd hs K r := by
  unfold bIndexS at h
  split at h
  · rename_i t k j hx hy hT
    obtain ⟨i, hj, h⟩ := natc_some h
    obtain ⟨hlt, h⟩ := ltc_some h
    refine ⟨_, h, .ev fun L _ => ?_⟩
    simp only [BV.er]; exact OpOK.indexS ho hT (evalB_s L hx) (evalB_n L hy) hj hlt
  · simp at h
theorem bMax_ok {x y : Operand} {ats : Array TypeId} (ho : o.op = .call { callee := .builtin .max, args := #[x, y], argTypes := ats }) (h : bMax rd K x y = some r) : Does P o rd hs K r := by
  unfold bMax at h
  split at h
  · rename_i k a k' b hx hy
    split at h
    case isFalse => simp at h
    rename_i hk
    simp only [Bool.and_eq_true] at hk
    have h1 := kEq_of hk.1; subst h1
    have h2 := kEq_of hk.2; subst h2
    refine ⟨_, h, .ev fun L _ => ?_⟩
    simp only [BV.er]; exact OpOK.maxI ho (evalB_n L hx) (evalB_n L hy) rfl
  · simp at h
theorem bMin_ok {x y : Operand} {ats : Array TypeId} (ho : o.op = .call { callee := .builtin .min, args := #[x, y], argTypes := ats }) (h : bMin rd K x y = some r) : Does P o rd hs K r := by
  unfold bMin at h
  split at h
  · rename_i k a k' b hx hy
    split at h
    case isFalse => simp at h
    rename_i hk
    simp only [Bool.and_eq_true] at hk
    have h1 := kEq_of hk.1; subst h1
    have h2 := kEq_of hk.2; subst h2
    refine ⟨_, h, .ev fun L _ => ?_⟩
    simp only [BV.er]; exact OpOK.minI ho (evalB_n L hx) (evalB_n L hy) rfl
  · simp at h
theorem bCallB_ok {c : Call} (ho : o.op = .call c) (h : bCallB P ty rd hs K o.dst c = some r) : Does P o rd hs K r := by
  obtain ⟨callee, args, ats⟩ := c
  obtain ⟨args⟩ := args
  obtain ⟨ats⟩ := ats
  unfold bCallB at h
  split at h
  · rename_i x T h1 h2 h3
    simp only at h1 h2 h3
    subst h1; subst h2; subst h3
    exact bLen_ok ho rfl h
  · rename_i x y T T' h1 h2 h3
    simp only at h1 h2 h3
    subst h1; subst h2; subst h3
    split at h
    · rename_i hT
      have := Nat.eq_of_beq_eq_true hT; subst this
      exact bAppend_ok ho h
    · simp at h
  · rename_i x y h1 h2
    simp only at h1 h2
    subst h1; subst h2
    exact bMax_ok ho h
  · rename_i x y h1 h2
    simp only at h1 h2
    subst h1; subst h2
    exact bMin_ok ho h
  · rename_i x T h1 h2 h3
    simp only at h1 h2 h3
    subst h1; subst h2; subst h3
    exact bClear_ok ho rfl h
  · rename_i x y T T' h1 h2 h3
    simp only at h1 h2 h3
    subst h1; subst h2; subst h3
    split at h
    · rename_i hT
      have := Nat.eq_of_beq_eq_true hT; subst this
      exact bCopy_ok ho h
    · simp at h
  · simp at h
theorem bConvS_ok {S T : TypeId} {x : Operand} {v : BV} (ho : o.op = .convert S T x) (hx : evalB rd x = some v) (h : bConvS P K S T v = some r) : Does P o rd hs K r := by
  unfold bConvS at h
  split at h
  · split at h
    · rename_i hS
      split at h
      · rename_i hT
        refine ⟨_, h, .ev fun L _ => ?_⟩
        have h1 := evalB_er L hx
        simp only [BV.er] at h1 ⊢
        exact OpOK.convB ho hS hT h1 rfl
      · simp at h
    · simp at h
  · simp at h
theorem bSliceS_ok {T : TypeId} {x : Operand} {t : ByteArray} {lo hi mx : Option Operand} (ho : o.op = .slice T x lo hi mx) (hx : evalB rd x = some (.s t)) (h : bSliceS P rd K T t lo hi mx = some r) : Does P o rd hs K r := by
  unfold bSliceS at h
  split at h
  · rename_i lo hT
    obtain ⟨k, hk, h⟩ := bndB_some h
    obtain ⟨hkl, h⟩ := lec_some h
    refine ⟨_, h, .ev fun L _ => ?_⟩
    simp only [BV.er]
    exact OpOK.sliceS ho hT (evalB_s L hx) (by simp only [optB, evalB_n L hk]) rfl hkl (Nat.le_refl _) rfl
  · rename_i hi hT
    obtain ⟨k, hk, h⟩ := bndB_some h
    obtain ⟨hkl, h⟩ := lec_some h
    refine ⟨_, h, .ev fun L _ => ?_⟩
    simp only [BV.er]
    exact OpOK.sliceS (i := 0) ho hT (evalB_s L hx) rfl (by simp only [optB, evalB_n L hk]) (Nat.zero_le _) hkl rfl
  · rename_i lo hi hT
    obtain ⟨k, hk, h⟩ := bndB_some h
    obtain ⟨m, hm, h⟩ := bndB_some h
    obtain ⟨hkm, h⟩ := lec_some h
    obtain ⟨hml, h⟩ := lec_some h
    refine ⟨_, h, .ev fun L _ => ?_⟩
    simp only [BV.er]
    exact OpOK.sliceS ho hT (evalB_s L hx) (by simp only [optB, evalB_n L hk]) (by simp only [optB, evalB_n L hm]) hkm hml rfl
  · simp at h
theorem bop_ok (h : bop P ty rd hs K o = some r) : Does P o rd hs K r := by
  unfold bop at h
  split at h
  · rename_i ho; exact bVal_ok (.inl ho) h
  · rename_i ho; exact bVal_ok (.inr ho) h
  · rename_i ho; exact bPick_ok ho h
  · rename_i ho; exact bAlloc_ok ho h
  · rename_i ho; exact bBox_ok ho h
  · rename_i ho; exact bBuild_ok ho h
  · rename_i ho
    split at h
    · exact bBuildOwn_ok ho h
    · exact bBuildSlice_ok ho h
  · rename_i ho; exact bLoad_ok ho h
  · rename_i ho; exact bStore_ok ho h
  · rename_i ho; exact bFieldAddr_ok ho h
  · rename_i ho; exact bNilCheck_ok ho h
  · rename_i ho; exact bBin2_ok ho h
  · rename_i ho; exact bUn_ok ho h
  · rename_i ho; exact bField_ok ho h
  · rename_i ho; exact bExtract_ok ho h
  · rename_i ho
    split at h
    · exact bIndexBox_ok ho h
    · exact bIndexAddr_ok ho h
  · rename_i ho
    split at h
    · exact bIndexV_ok ho h
    · exact bIndexS_ok ho h
  · rename_i ho
    split at h
    · rename_i hx; exact bConvS_ok ho hx h
    · exact bConv_ok ho h
  · rename_i ho
    split at h
    · rename_i hx; exact bSliceS_ok ho hx h
    · exact bSlice_ok ho h
  · rename_i ho; exact bFunc_ok ho h
  · rename_i ho; exact bMakeMap_ok ho h
  · rename_i ho; exact bMake_ok ho h
  · rename_i ho; exact bLookup_ok ho h
  · rename_i ho; exact bPutM_ok ho h
  · rename_i ho; exact bCallB_ok ho h
  · simp at h
end
end
section
open Go
variable {L L' : Lens} {ts ts' : TS} {hs hs' : HS}
section
variable {R : Type}
def newBs (nw : List Name) (upd : HS) (ts : TS) (hs : HS) : Bool := nw.all fun n => (look n hs).isNone && freeS n ts hs && (keys upd).contains n
def novBs (nv : List (Name × Nat)) (ts : TS) (hs : HS) : Bool := nv.all fun p => novS p.1 p.2 ts hs
def putB (d : Option Nat) (v : BV) (ts : TS) : TS := match d with
  | some d => (d, v) :: ts
  | none => ts
def goE1 (nn : Nat) (d : Option Nat) (ts : TS) (hs : HS) (K : BEff → TS → HS → Option R) (e : BEff) : Option R :=
  if newBs e.nw e.upd ts hs && dstOK nn d && novBs e.nv ts hs then K e (putB d e.v ts) (e.upd ++ hs) else none
def goE (sp : Bool) (nn : Nat) (d : Option Nat) (ts : TS) (hs : HS) (K : BEff → TS → HS → Option R) (e : BEff) : Option R := match e with
  | ⟨hp, .b q, upd, nw, nv⟩ => match sp with
    | true => cnd q (goE1 nn d ts hs K ⟨hp, .b true, upd, nw, nv⟩) (goE1 nn d ts hs K ⟨hp, .b false, upd, nw, nv⟩)
    | false => goE1 nn d ts hs K ⟨hp, .b q, upd, nw, nv⟩
  | e => goE1 nn d ts hs K e
variable {r : R} {P : Program} {o : Oper} {rd : TS}
theorem holds_er {e : BEff} {L' : Lens} (hrd : ∀ t v, (t, v) ∈ rd → look t ts = some v) (hhp : ∀ n ob, (n, ob) ∈ e.hp → look n hs = some ob) (hnw : newBs e.nw e.upd ts hs = true) :
    (BS L ts hs).holds ⟨erT L rd, erH L e.hp, e.v.er L', erH L' e.upd, e.nw⟩ := by
  refine ⟨fun t x hx => ?_, fun n ob hn => ?_, fun n hn => ?_⟩
  · simp only [erT, List.mem_map] at hx
    obtain ⟨⟨t', v⟩, hm, he⟩ := hx
    cases he
    rw [BS_slot, hrd _ v hm]; rfl
  · simp only [erH, List.mem_map] at hn
    obtain ⟨⟨t', v⟩, hm, he⟩ := hn
    cases he
    rw [BS_heap, hhp _ v hm]; rfl
  · have := List.all_eq_true.1 hnw n hn
    simp only [Bool.and_eq_true, Option.isNone_iff_eq_none] at this
    refine ⟨by rw [BS_heap, this.1.1]; rfl, free_of ?_⟩
    rw [freeS_er]; exact this.1.2
structure Step (P : Program) (o : Oper) (rd : TS) (L : Lens) (ts : TS) (hs : HS) (e : BEff) (L' : Lens) : Prop where
  rds : ∀ t v, (t, v) ∈ rd → look t ts = some v
  hps : ∀ n ob, (n, ob) ∈ e.hp → look n hs = some ob
  new : newBs e.nw e.upd ts hs = true
  inv : Inv L' (e.upd ++ hs)
  ets : erT L ts = erT L' ts
  ehs : erH L hs = erH L' hs
  ok : OpOK P o ⟨erT L rd, erH L e.hp, e.v.er L', erH L' e.upd, e.nw⟩
theorem goE1_some {nn : Nat} {K : BEff → TS → HS → Option R} {e : BEff} (hg : Good P o rd hs e) (hrd : ∀ t v, (t, v) ∈ rd → look t ts = some v) (h : goE1 nn o.dst ts hs K e = some r) (hi : Inv L hs) :
    ∃ L', Step P o rd L ts hs e L' ∧ dstOK nn o.dst = true ∧ K e (putB o.dst e.v ts) (e.upd ++ hs) = some r := by
  unfold goE1 at h
  split at h
  · rename_i hb
    simp only [Bool.and_eq_true] at hb
    obtain ⟨hhp, hg⟩ := hg
    obtain ⟨L', hL', hi', hop⟩ := hg L hi
    obtain ⟨e1, e2⟩ := erS_congr (L := L) (L' := L') (nw := e.nw) (nv := e.nv) (ts := ts) (hs := hs) (fun n hn => by
      have := List.all_eq_true.1 hb.1.1 n hn
      simp only [Bool.and_eq_true] at this
      exact this.1.2) (fun p hp => List.all_eq_true.1 hb.2 p hp) hL'
    exact ⟨L', ⟨hrd, hhp, hb.1.1, hi', e1, e2, hop⟩, hb.1.2, h⟩
  · simp at h
theorem goE_some {sp : Bool} {nn : Nat} {K : BEff → TS → HS → Option R} {e : BEff} (hg : Good P o rd hs e) (hrd : ∀ t v, (t, v) ∈ rd → look t ts = some v) (h : goE sp nn o.dst ts hs K e = some r) (hi : Inv L hs) :
    ∃ L', Step P o rd L ts hs e L' ∧ dstOK nn o.dst = true ∧ K e (putB o.dst e.v ts) (e.upd ++ hs) = some r := by
  unfold goE at h
  split at h
  · split at h
    · rcases cnd_some h with ⟨rfl, h⟩ | ⟨rfl, h⟩
      · exact goE1_some hg hrd h hi
      · exact goE1_some hg hrd h hi
    · exact goE1_some hg hrd h hi
  · exact goE1_some hg hrd h hi
theorem BS_run {d : Option Nat} {e : BEff} {L0 : Lens} (h1 : erT L ts = erT L' ts) (h2 : erH L hs = erH L' hs) : (BS L ts hs).run d ⟨erT L0 rd, erH L0 e.hp, e.v.er L', erH L' e.upd, e.nw⟩ = BS L' (putB d e.v ts) (e.upd ++ hs) := by
  unfold BS
  rw [mk_run, h1, h2, erH_append]
  cases d <;> rfl
theorem Step.go {e : BEff} {nn : Nat} {Γ : Ctx} {ρ : Name → Loc} {M : Nat → Prop} {a : Act} {w : World} {KK : Act → World → Prop} {Q : Exit → Act → World → Prop}
    (hst : Step P o rd L ts hs e L') (hd : dstOK nn o.dst = true) (hn : Γ.n = nn) (hs0 : Sim Γ ρ M (BS L ts hs) a w)
    (hK : ∀ ρ' M' a' w', Sim Γ ρ' M' (BS L' (putB o.dst e.v ts) (e.upd ++ hs)) a' w' → KK a' w') : o.wp P a w KK Q := by
  refine hst.ok Γ ρ M _ a w KK Q hs0 (holds_er hst.rds hst.hps hst.new) (fun d hd' => ?_) (fun ρ' M' a' w' hs' => hK ρ' M' a' w' ?_)
  · rw [hd'] at hd; simp only [dstOK] at hd; rw [hn]; exact Nat.le_of_ble_eq_true hd
  · rw [BS_run hst.ets hst.ehs] at hs'; exact hs'
end
end
section
variable {L L' : Lens} {ts ts' : TS} {hs hs' : HS}
abbrev Env := Option Nat → FuncId → List BV → Option Sig
def EnvOK (P : Program) (E : Env) : Prop := ∀ d k vs g, E d k vs = some g → FnOK P k g
def asView (hs : HS) : BV → BV
  | .own m u => match look m hs with
    | some (.arr _ l q) => if Nat.beq u q then .view m u 0 l.length else .own m u
    | _ => .own m u
  | x => x
def viewS (hs : HS) : SSh → BV → BV
  | .one (.view _), v => asView hs v
  | _, v => v
def viewL (hs : HS) : List SSh → List BV → List BV
  | s :: r, v :: vs => viewS hs s v :: viewL hs r vs
  | _, vs => vs
def wantsView (t : Nat) (s : List (Nat × SSh)) : Bool := match look t s with
  | some (.one (.view _)) => true
  | _ => false
def viewT (hs : HS) (s : List (Nat × SSh)) (ts : TS) : TS := ts.map fun p => (p.1, match wantsView p.1 s with | true => asView hs p.2 | false => p.2)
theorem look_mapK {g : Nat → BV → BV} (k : Nat) : ∀ ts : TS, look k (ts.map fun p => (p.1, g p.1 p.2)) = (look k ts).map (g k)
  | [] => rfl
  | (j, x) :: r => by
    simp only [List.map_cons, look]
    split
    · rename_i e; subst e; rfl
    · exact look_mapK k r
theorem asView_le {x : BV} (hi : Inv L hs) : AVle (x.er L) ((asView hs x).er L) := by
  cases x with
  | own m u =>
    simp only [asView]
    split
    · rename_i t l q hl
      split
      · rename_i e
        have := Nat.eq_of_beq_eq_true e; subst this
        simp only [BV.er, hi m t l u hl]
        exact .view m l.length
      · exact .refl _
    · exact .refl _
  | _ => exact .refl _
theorem viewS_le {s : SSh} {x : BV} (hi : Inv L hs) : AVle (x.er L) ((viewS hs s x).er L) := by
  unfold viewS; split
  · exact asView_le hi
  · exact .refl _
theorem viewL_le (hi : Inv L hs) : ∀ {ss : List SSh} {vs : List BV}, AVleL (erL L vs) (erL L (viewL hs ss vs))
  | [], vs => by simp only [viewL]; exact AVleL.refl _
  | s :: r, [] => by simp only [viewL]; exact AVleL.refl _
  | s :: r, v :: vs => by simp only [viewL, erL]; exact .cons (viewS_le hi) (viewL_le hi)
theorem viewT_le (hi : Inv L hs) {s : List (Nat × SSh)} {ts : TS} {t : Nat} {y : BV} (h : look t (viewT hs s ts) = some y) : ∃ x, look t ts = some x ∧ AVle (x.er L) (y.er L) := by
  unfold viewT at h
  rw [look_mapK (g := fun t x => match wantsView t s with | true => asView hs x | false => x)] at h
  cases hx : look t ts with
  | none => rw [hx] at h; simp at h
  | some x =>
    rw [hx] at h
    simp only [Option.map_some, Option.some.injEq] at h
    refine ⟨x, rfl, ?_⟩
    rw [← h]
    split
    · exact asView_le hi
    · exact .refl _
def trimF (km : List Name) (hs u : HS) (n : Name) : Bool := match isIn n km with
  | true => match look n hs, look n u with
    | some (.box cs), some (.box _) => !cs.all BV.isQ
    | _, _ => true
  | false => true
def BEff.trim (e : BEff) (km : List Name) (hs : HS) : BEff := { e with upd := e.upd.filter fun p => trimF km hs e.upd p.1 }
theorem renBL_isQ {σ : Name → Name} {δ : Name → Nat} : ∀ {cs : List BV}, cs.all BV.isQ = true → renBL σ δ cs = cs
  | [], _ => by simp only [renBL]
  | x :: r, h => by
    simp only [List.all_cons, Bool.and_eq_true] at h
    simp only [renBL]
    rw [renBL_isQ h.2]
    congr 1
    cases x <;> first | simp only [BV.ren]; done | simp [BV.isQ] at h
section
variable {R : Type}
def callK (P : Program) (E : Env) (sp : Bool) (nn : Nat) (dst : Option Nat) (f : FuncId) (vs : List BV) (ts : TS) (hs : HS) (K : BEff → TS → HS → Option R) : Option R :=
  match dst with
  | some d => if callable P f then match E (some d) f vs with
    | some g => SL.get g.args (viewL hs g.args vs) [] fun σ x => OL.get g.pre hs σ fun σ y => g.F R x y fun a b =>
        if callChk g (σ ++ freshOf d g) d hs y a b then goE sp nn dst ts hs K ((callEff g (σ ++ freshOf d g) d hs y a b).trim (g.keep.map (renOf (σ ++ freshOf d g))) hs) else none
    | none => none
    else none
  | none => none
variable {r : R} {P : Program} {o : Oper} {rd : TS} {E : Env}
theorem look_put {u : Nat} {l : List (Name × OSh)} {y : OL l} {n : Name} : n ∈ keys l → ∃ b, look n (OL.put u l y) = some b := by
  induction l with
  | nil => intro h; simp [keys] at h
  | cons p l ih =>
    intro h
    simp only [keys, List.map_cons, List.mem_cons] at h
    simp only [OL.put, look]
    split
    · exact ⟨_, rfl⟩
    · rename_i hne
      rcases h with h | h
      · exact absurd h.symm hne
      · exact ih h
theorem keys_put {u : Nat} {l : List (Name × OSh)} {y : OL l} : keys (OL.put u l y) = keys l := by
  induction l with
  | nil => rfl
  | cons p l ih => simp only [OL.put, keys, List.map_cons] at ih ⊢; rw [ih]
theorem arrs_of_put {u v : Nat} {l : List (Name × OSh)} {y : OL l} {n : Name} {t : TC} {x : List (TT t)} : look n (OL.put u l y) = some (.arr t x v) → n ∈ arrsOf l ∧ v = u ∨ n ∈ samesOf l ∧ v = 0 := by
  induction l with
  | nil => intro h; simp [OL.put, look] at h
  | cons p l ih =>
    intro h
    obtain ⟨k, o⟩ := p
    simp only [OL.put, look] at h
    split at h
    · rename_i e
      cases o with
      | box l => simp [OSh.put] at h
      | boxst t => simp [OSh.put] at h
      | sm => simp [OSh.put] at h
      | arr t => subst e; simp only [OSh.put, Option.some.injEq] at h; cases h; exact .inl ⟨by simp [arrsOf], rfl⟩
      | arrs t => subst e; simp only [OSh.put, Option.some.injEq] at h; cases h; exact .inr ⟨by simp [samesOf], rfl⟩
    · rcases ih h with ih | ih
      · refine .inl ⟨?_, ih.2⟩
        cases o <;> simp only [arrsOf] <;> first | exact ih.1 | exact List.mem_cons_of_mem _ ih.1
      · refine .inr ⟨?_, ih.2⟩
        cases o <;> simp only [samesOf] <;> first | exact ih.1 | exact List.mem_cons_of_mem _ ih.1
theorem arrs_keys : ∀ {l : List (Name × OSh)} {n : Name}, n ∈ arrsOf l → n ∈ keys l
  | [], n, h => by simp [arrsOf] at h
  | (k, .arr t) :: r, n, h => by
    simp only [arrsOf, List.mem_cons] at h
    simp only [keys, List.map_cons, List.mem_cons]
    exact h.imp id (fun h => arrs_keys h)
  | (k, .arrs t) :: r, n, h => by simp only [arrsOf] at h; simp only [keys, List.map_cons, List.mem_cons]; exact .inr (arrs_keys h)
  | (k, .box t) :: r, n, h => by simp only [arrsOf] at h; simp only [keys, List.map_cons, List.mem_cons]; exact .inr (arrs_keys h)
  | (k, .boxst t) :: r, n, h => by simp only [arrsOf] at h; simp only [keys, List.map_cons, List.mem_cons]; exact .inr (arrs_keys h)
  | (k, .sm) :: r, n, h => by simp only [arrsOf] at h; simp only [keys, List.map_cons, List.mem_cons]; exact .inr (arrs_keys h)
theorem look_filter {f : Name → Bool} {n : Name} : ∀ {h : HS}, look n (h.filter fun p => f p.1) = if f n then look n h else none
  | [] => by simp [look]
  | (k, o) :: q => by
    have ih := look_filter (f := f) (n := n) (h := q)
    by_cases hk : f k = true
    · rw [List.filter_cons_of_pos (by simpa using hk)]
      simp only [look]
      by_cases e : k = n
      · subst e; simp [hk]
      · simp only [e, if_false, ih]
    · rw [List.filter_cons_of_neg (by simpa using hk), ih]
      simp only [look]
      by_cases e : k = n
      · subst e; simp [hk]
      · simp only [e, if_false]
theorem hpOf_mem {rr : Name → Name} {m : Name} {ob : BO} : ∀ {ks : List Name}, (m, ob) ∈ hpOf rr hs ks → look m hs = some ob
  | [], h => by simp [hpOf] at h
  | k :: ks, h => by
    simp only [hpOf] at h
    split at h
    · rename_i hk
      rcases List.mem_cons.1 h with h | h
      · cases h; exact hk
      · exact hpOf_mem h
    · exact hpOf_mem h
theorem hpOf_key {rr : Name → Name} {m : Name} {ob : BO} : ∀ {ks : List Name}, (m, ob) ∈ hpOf rr hs ks → ∃ n, n ∈ ks ∧ m = rr n
  | [], h => by simp [hpOf] at h
  | k :: ks, h => by
    simp only [hpOf] at h
    split at h
    · rcases List.mem_cons.1 h with h | h
      · cases h; exact ⟨k, by simp, rfl⟩
      · obtain ⟨n, h1, h2⟩ := hpOf_key h; exact ⟨n, List.mem_cons_of_mem _ h1, h2⟩
    · obtain ⟨n, h1, h2⟩ := hpOf_key h; exact ⟨n, List.mem_cons_of_mem _ h1, h2⟩
theorem hpOf_look {rr : Name → Name} (hrr : ∀ a b, rr a = rr b → a = b) {n : Name} {ob : BO} (h : look (rr n) hs = some ob) : ∀ {ks : List Name}, n ∈ ks → look (rr n) (hpOf rr hs ks) = some ob
  | [], hn => by simp at hn
  | k :: ks, hn => by
    simp only [hpOf]
    by_cases e : k = n
    · subst e; rw [h]; simp only [look, if_true]
    · have hn' : n ∈ ks := by rcases List.mem_cons.1 hn with h | h; · exact absurd h.symm e
                              · exact h
      split
      · simp only [look]; rw [if_neg (fun h => e (hrr _ _ h))]; exact hpOf_look hrr h hn'
      · exact hpOf_look hrr h hn'
theorem trimF_false {km : List Name} {hs u : HS} {n : Name} (h : trimF km hs u n = false) : n ∈ km ∧ ∃ cs ds, look n hs = some (.box cs) ∧ look n u = some (.box ds) ∧ cs.all BV.isQ = true := by
  unfold trimF at h
  split at h
  · rename_i hk
    split at h
    · rename_i cs ds h1 h2
      exact ⟨isIn_iff.1 hk, cs, ds, h1, h2, by simpa using h⟩
    · simp at h
  · simp at h
theorem Good.trim {P : Program} {o : Oper} {rd : TS} {km : List Name} {e : BEff} (h : Good P o rd hs e)
    (hk : ∀ n cs ds, n ∈ km → look n hs = some (.box cs) → cs.all BV.isQ = true → look n e.upd = some (.box ds) → ds = cs ∧ (n, .box cs) ∈ e.hp) : Good P o rd hs (e.trim km hs) := by
  obtain ⟨h1, h2⟩ := h
  refine ⟨h1, fun L hL => ?_⟩
  obtain ⟨L', a, b, c⟩ := h2 L hL
  have hlf : ∀ m, look m (e.trim km hs).upd = if trimF km hs e.upd m then look m e.upd else none := fun m => look_filter (f := trimF km hs e.upd)
  refine ⟨L', a, fun m t l u hm => b m t l u ?_, ?_⟩
  · rw [← hm, look_append, look_append, hlf]
    by_cases hf : trimF km hs e.upd m = true
    · rw [if_pos hf]
    · obtain ⟨k0, cs, ds, k1, k2, k3⟩ := trimF_false (by simpa using hf)
      rw [if_neg hf, k1, k2, (hk m cs ds k0 k1 k3 k2).1]
  · intro Γ ρ M s w0 w K Q hs' hh hd hK
    refine c Γ ρ M s w0 w K Q hs' ⟨hh.rd, hh.hp, hh.nw⟩ hd fun ρ' M' a' w' hsim => hK ρ' M' a' w' ?_
    have : s.run o.dst ⟨erT L rd, erH L (e.trim km hs).hp, (e.trim km hs).v.er L', erH L' (e.trim km hs).upd, (e.trim km hs).nw⟩ = s.run o.dst ⟨erT L rd, erH L e.hp, e.v.er L', erH L' e.upd, e.nw⟩ := by
      unfold AS.run
      congr 1
      funext n
      simp only [look_erH, hlf]
      by_cases hf : trimF km hs e.upd n = true
      · rw [if_pos hf]
      · obtain ⟨k0, cs, ds, k1, k2, k3⟩ := trimF_false (by simpa using hf)
        obtain ⟨k4, k5⟩ := hk n cs ds k0 k1 k3 k2
        have := hh.hp n _ (List.mem_map.2 ⟨_, k5, rfl⟩)
        have hp : cs.all BV.isP = true := List.all_eq_true.2 fun x hx => isQ_isP (List.all_eq_true.1 k3 x hx)
        rw [if_neg hf, k2, k4]
        simp only [Option.map_none, Option.map_some, this, BO.er, erL_isP hp]
    rw [this]; exact hsim
theorem callK_some {sp : Bool} {nn : Nat} {K : BEff → TS → HS → Option R} {f : FuncId} {vs : List BV}
    (hE : EnvOK P E) (hop : callable P f = true → ∀ (L : Lens) (pre h : List (Name × AO)) (v : AV) (nw : List Name), SpecIs P f (erL L vs) pre v h → callOK pre h nw v = true → OpOK P o ⟨erT L rd, pre, v, h, nw⟩) (hrd : ∀ t v, (t, v) ∈ rd → look t ts = some v)
    (h : callK P E sp nn o.dst f vs ts hs K = some r) (hi : Inv L hs) :
    ∃ e L', Step P o rd L ts hs e L' ∧ dstOK nn o.dst = true ∧ K e (putB o.dst e.v ts) (e.upd ++ hs) = some r := by
  unfold callK at h
  split at h
  case h_2 => simp at h
  rename_i d hd
  split at h
  case isFalse => simp at h
  rename_i hcall
  split at h
  case h_2 => simp at h
  rename_i g hEf
  obtain ⟨σ1, x, h, hs1, g1⟩ := SL.get_some h
  obtain ⟨σ2, y, h, hs2, g2⟩ := OL.get_some h
  obtain ⟨va, vb, hF, h⟩ := (hE (some d) f vs g hEf).nat R x y _ r h
  split at h
  case isFalse => simp at h
  rename_i hchk
  unfold callChk at hchk
  simp only [Bool.and_eq_true] at hchk
  obtain ⟨⟨⟨⟨hm, hcb⟩, hu1⟩, hu2⟩, hkeep⟩ := hchk
  have hfit := renOK_fit hm
  have hinj := renOK_inj hm
  generalize hrr : renOf (σ2 ++ freshOf d g) = rr at hinj hfit h
  generalize hdd : verOf (σ2 ++ freshOf d g) = δ at hfit h
  have hfit2 : Fit rr δ σ2 := hfit.mono fun p hp => List.mem_append_left _ hp
  have hfit1 : Fit rr δ σ1 := hfit2.mono hs2
  have hwant : ∀ n b, look n (OL.put 0 g.pre y) = some b → ∃ a, look (rr n) hs = some a ∧ ((∃ cs ds, a = .box cs ∧ b = .box ds) ∨ (∃ t l, a = .arr t l (δ n) ∧ b = .arr t l 0) ∨ ∃ es, a = .sm es ∧ b = .sm es) ∧ ∀ L, OLe rr δ (δ n) L a b := fun n b hb => by
    obtain ⟨v, hv, hle⟩ := g2 rr δ (fun _ _ => 0) hfit2 n b hb
    refine ⟨v, hv, ?_, fun L => ?_⟩
    · rcases hle with ⟨cs, ds, h1, h2, _⟩ | h2
      · grind
      · exact .inr h2
    · obtain ⟨v', hv', hle'⟩ := g2 rr δ L hfit2 n b hb
      grind
  have heff : callEff g (σ2 ++ freshOf d g) d hs y va vb = ⟨hpOf rr hs (keys g.pre), (resB (SL.put 1 g.res va)).ren rr δ, renHB rr δ (g.posts y vb), (freshOf d g).map (·.2.1),
    ((arrsOf g.post).filter fun n => (keys g.pre).contains n).map fun n => (rr n, δ n + 1)⟩ := by unfold callEff; rw [hrr, hdd]
  rw [heff] at hcb h
  suffices hgood : Good P o rd hs ⟨hpOf rr hs (keys g.pre), (resB (SL.put 1 g.res va)).ren rr δ, renHB rr δ (g.posts y vb), (freshOf d g).map (·.2.1),
    ((arrsOf g.post).filter fun n => (keys g.pre).contains n).map fun n => (rr n, δ n + 1)⟩ by
    obtain ⟨L', hst, hdd', hK⟩ := goE_some (rd := rd) (L := L) (hgood.trim (km := g.keep.map rr) fun n' cs ds hn' hcs hq hds => by
      obtain ⟨n, hn, rfl⟩ := List.mem_map.1 hn'
      have hkn := List.all_eq_true.1 hkeep n hn
      simp only [Bool.and_eq_true, Bool.not_eq_true', List.contains_eq_mem, decide_eq_true_eq, decide_eq_false_iff_not] at hkn
      change look (rr n) (renHB rr δ (g.posts y vb)) = _ at hds
      rw [look_renHB hinj] at hds
      have hno : look n (OL.put 1 g.post vb) = none := by
        cases hx : look n (OL.put 1 g.post vb) with
        | none => rfl
        | some x => exact absurd (by rw [← keys_put (u := 1) (y := vb)]; exact keys_of_look (by rw [hx]; simp)) hkn.2
      unfold Sig.posts at hds
      rw [look_append, hno] at hds
      simp only [look_filter (f := fun n => g.keep.contains n)] at hds
      rw [if_pos (by simpa using hn)] at hds
      cases hb : look n (OL.put 0 g.pre y) with
      | none => rw [hb] at hds; simp at hds
      | some b =>
        rw [hb] at hds
        simp only [Option.map_some, Option.some.injEq] at hds
        obtain ⟨a, ha, _, hle⟩ := hwant n b hb
        rw [hcs] at ha
        cases ha
        rcases hle L with ⟨cs', ds', e1, rfl, _, h3⟩ | ⟨t, l, e1, _⟩ | ⟨es, e1, _⟩
        · cases e1
          rw [h3 hq] at hds
          simp only [BO.ren, renBL_isQ hq, BO.box.injEq] at hds
          exact ⟨hds.symm, look_mem (hpOf_look hinj hcs hkn.1)⟩
        · cases e1
        · cases e1) hrd h hi
    grind
  refine ⟨fun m ob hm' => hpOf_mem hm', fun L0 hL0 => ?_⟩
  · have hinvc : Inv (lensOf L0 rr δ) (OL.put 0 g.pre y) := fun n t l u hnl => by
      obtain ⟨a, ha, hk, _⟩ := hwant n _ hnl
      rcases hk with ⟨cs, ds, _, h2⟩ | ⟨t', l', rfl, h2⟩ | ⟨es, _, h2⟩
      · cases h2
      · cases h2; exact hL0 _ t l _ ha
      · cases h2
    obtain ⟨L1, hk1, hinv1, hspec⟩ := (hE (some d) f vs g hEf).spec x y va vb hF _ hinvc
    classical
    let L' : Lens := fun m v => if h : ∃ n, n ∈ arrsOf g.post ∧ m = rr n ∧ v = δ n + 1 then L1 (Classical.choose h) 1 else L0 m v
    have hA1 : ∀ n, n ∈ arrsOf g.post → L' (rr n) (δ n + 1) = L1 n 1 := fun n hn => by
      have hex : ∃ k, k ∈ arrsOf g.post ∧ rr n = rr k ∧ δ n + 1 = δ k + 1 := ⟨n, hn, rfl, rfl⟩
      grind
    have hA2 : ∀ m v, ¬ (∃ n, n ∈ arrsOf g.post ∧ m = rr n ∧ v = δ n + 1) → L' m v = L0 m v := fun m v h => dif_neg h
    have hkp : ∀ n, n ∈ g.keep ∨ n ∈ samesOf g.post → L' (rr n) (δ n + 0) = L1 n 0 := fun n hn => by
      rw [hA2, hk1 n hn]; · rfl
      grind
    have hLL : ∀ n u, useOK g n u = true → L' (rr n) (δ n + u) = L1 n u := fun n u hn => by
      unfold useOK at hn
      split at hn
      · exact hkp n (by simp only [Bool.or_eq_true] at hn; exact hn.imp isIn_iff.1 isIn_iff.1)
      · exact hA1 n (isIn_iff.1 hn)
      · simp at hn
    refine ⟨L', fun m v h1 h2 => hA2 m v ?_, fun m t l v hml => ?_, ?_⟩
    · rintro ⟨n, hn, rfl, rfl⟩
      by_cases hp : n ∈ keys g.pre
      · grind
      · have hmem : (n, (1000000 + 1000 * d + n, 0)) ∈ freshOf d g := List.mem_map.2 ⟨n, List.mem_filter.2 ⟨arrs_keys hn, by simpa using hp⟩, rfl⟩
        have := (hfit n _ (List.mem_append_right _ hmem)).1
        grind
    · rw [look_append] at hml
      cases hu : look m (renHB rr δ (g.posts y vb)) with
      | some ob =>
        rw [hu] at hml; cases hml
        obtain ⟨n, rfl⟩ := look_renHB_inv hu
        rw [look_renHB hinj] at hu
        cases hb : look n (g.posts y vb) with
        | none => rw [hb] at hu; simp at hu
        | some b =>
          rw [hb] at hu
          simp only [Option.map_some, Option.some.injEq] at hu
          cases b with
          | box cs => simp [BO.ren] at hu
          | sm es => simp [BO.ren] at hu
          | arr t' l' v' =>
            simp only [BO.ren] at hu; cases hu
            rw [hLL n v' ?_]
            · exact hinv1 n t l v' hb
            · unfold Sig.posts at hb
              rw [look_append] at hb
              cases hb1 : look n (OL.put 1 g.post vb) with
              | some b1 =>
                rw [hb1] at hb; cases hb
                rcases arrs_of_put hb1 with ⟨k1, rfl⟩ | ⟨k1, rfl⟩
                · exact isIn_iff.2 k1
                · simp only [useOK, isIn_iff.2 k1, Bool.or_true]
              | none =>
                rw [hb1] at hb
                simp only [look_filter (f := fun n => g.keep.contains n)] at hb
                split at hb
                · rename_i hc
                  have hv0 : v' = 0 := (arrs_of_put hb).elim (·.2) (·.2)
                  subst hv0
                  simp only [useOK, isIn_iff.2 (show n ∈ g.keep by simpa using hc), Bool.true_or]
                · simp at hb
      | none =>
        rw [hu] at hml
        rw [hA2 m v ?_]
        · exact hL0 m t l v hml
        · rintro ⟨n, hn, rfl, _⟩
          rw [look_renHB hinj] at hu
          obtain ⟨b, hb⟩ := look_put (u := 1) (y := vb) (arrs_keys hn)
          have : look n (g.posts y vb) = some b := by unfold Sig.posts; rw [look_append, hb]
          grind
    · have h1 := Spec.ren hinj hspec
      rw [ren_er hLL _ hu1, renH_er hLL _ hu2] at h1
      have h2 : SpecIs P f (renL rr (erL (lensOf L0 rr δ) (SL.put 0 g.args x))) (erH L0 (hpOf rr hs (keys g.pre))) (((resB (SL.put 1 g.res va)).ren rr δ).er L') (erH L' (renHB rr δ (g.posts y vb))) := by
        refine Spec.preLe h1 (fun m ob hm => ?_) (fun m ob hm => ?_)
        · obtain ⟨n, rfl⟩ := look_renH_inv hm
          rw [look_renH hinj, look_erH] at hm
          cases hb : look n (OL.put 0 g.pre y) with
          | none => rw [hb] at hm; simp at hm
          | some b =>
            rw [hb] at hm
            simp only [Option.map_some, Option.some.injEq] at hm
            obtain ⟨a, ha, _, hle⟩ := hwant n b hb
            have hkn : n ∈ keys g.pre := by rw [← keys_put (u := 0) (y := y)]; exact keys_of_look (by rw [hb]; simp)
            refine ⟨a.er L0, by rw [look_erH, hpOf_look hinj ha hkn]; rfl, ?_⟩
            rcases hle L0 with ⟨cs, ds, rfl, rfl, h3⟩ | ⟨t, l, rfl, rfl⟩ | ⟨es, rfl, rfl⟩
            · exact .inr ⟨_, _, rfl, by rw [← hm]; simp only [BO.er, AO.ren], h3.1⟩
            · exact .inl (by rw [← hm]; simp only [BO.er, AO.ren])
            · exact .inl (by rw [← hm]; simp only [BO.er, AO.ren])
        · rw [look_erH] at hm
          cases hb : look m (hpOf rr hs (keys g.pre)) with
          | none => rw [hb] at hm; simp at hm
          | some b =>
            obtain ⟨n, hn, rfl⟩ := hpOf_key (look_mem hb)
            obtain ⟨b', hb'⟩ := look_put (u := 0) (y := y) hn
            exact ⟨_, by rw [look_renH hinj, look_erH, hb']; rfl⟩
      exact hop hcall L0 _ _ _ _ (Spec.argsLe (Spec.argsLe h2 (g1 rr δ L0 hfit1)) (viewL_le hL0)) (callB_er hcb)
end
end
section
open Go
variable {L L' : Lens} {ts ts' : TS} {hs hs' : HS}
section
variable {R : Type}
def rdB (ts : TS) : List Operand → TS
  | [] => []
  | .tmp t :: r => match look t ts with
    | some v => (t, v) :: rdB ts r
    | none => rdB ts r
  | .const _ :: r => rdB ts r
  | .global _ :: r => rdB ts r
  | .func _ :: r => rdB ts r
theorem rdB_look : ∀ {l : List Operand} {t : Nat} {v : BV}, (t, v) ∈ rdB ts l → look t ts = some v
  | [], t, v, h => by simp [rdB] at h
  | .tmp k :: r, t, v, h => by
    simp only [rdB] at h
    split at h
    · rename_i hk
      rcases List.mem_cons.1 h with h | h
      · cases h; exact hk
      · exact rdB_look h
    · exact rdB_look h
  | .const _ :: r, t, v, h => rdB_look (l := r) (by simpa only [rdB] using h)
  | .global _ :: r, t, v, h => rdB_look (l := r) (by simpa only [rdB] using h)
  | .func _ :: r, t, v, h => rdB_look (l := r) (by simpa only [rdB] using h)
def calleeB (rd : TS) (x : Operand) : Option (FuncId × List BV) := match evalB rd x with
  | some (.v (.func (.func f) ⟨[]⟩ ⟨[]⟩)) => some (f, [])
  | some (.clo (.func f) cs) => some (f, cs)
  | _ => none
def opK (P : Program) (ty : TypeId → Option TC) (E : Env) (sp : Bool) (nn : Nat) (x : TS) (o : Oper) (ts : TS) (hs : HS) (K : BEff → TS → HS → Option R) : Option R :=
  match o.op with
  | .call c => match c.callee with
    | .value (.func f) => match evalBs (x ++ rdB ts o.op.operands.toList) c.args.toList with
      | some vs => callK P E sp nn o.dst f vs ts hs K
      | none => none
    | .value (.tmp t) => match calleeB (x ++ rdB ts o.op.operands.toList) (.tmp t), evalBs (x ++ rdB ts o.op.operands.toList) c.args.toList with
      | some q, some vs => callK P E sp nn o.dst q.1 (vs ++ q.2) ts hs K
      | _, _ => none
    | _ => bop P ty (x ++ rdB ts o.op.operands.toList) hs (goE sp nn o.dst ts hs K) o
  | _ => bop P ty (x ++ rdB ts o.op.operands.toList) hs (goE sp nn o.dst ts hs K) o
variable {r : R} {P : Program} {ty : TypeId → Option TC} {E : Env} {nn : Nat}
theorem opK_some {sp : Bool} {x : TS} {o : Oper} {K : BEff → TS → HS → Option R} (hE : EnvOK P E) (hx : ∀ t v, (t, v) ∈ x → look t ts = some v) (h : opK P ty E sp nn x o ts hs K = some r) (hi : Inv L hs) :
    ∃ e L', Step P o (x ++ rdB ts o.op.operands.toList) L ts hs e L' ∧ dstOK nn o.dst = true ∧ K e (putB o.dst e.v ts) (e.upd ++ hs) = some r := by
  have hrd : ∀ t v, (t, v) ∈ x ++ rdB ts o.op.operands.toList → look t ts = some v := fun t v hm => by
    rcases List.mem_append.1 hm with hm | hm
    · exact hx t v hm
    · exact rdB_look hm
  have hb : bop P ty (x ++ rdB ts o.op.operands.toList) hs (goE sp nn o.dst ts hs K) o = some r → ∃ e L', Step P o (x ++ rdB ts o.op.operands.toList) L ts hs e L' ∧ dstOK nn o.dst = true ∧ K e (putB o.dst e.v ts) (e.upd ++ hs) = some r := fun h => by
    obtain ⟨e, h, hg⟩ := bop_ok h
    obtain ⟨L', h1, h2, h3⟩ := goE_some (rd := x ++ rdB ts o.op.operands.toList) hg hrd h hi
    grind
  unfold opK at h
  split at h
  · rename_i c ho
    split at h
    · rename_i f hf
      obtain ⟨callee, args, ats⟩ := c
      simp only at hf; subst hf
      split at h
      · rename_i vs hvs
        exact callK_some (rd := x ++ rdB ts o.op.operands.toList) hE (fun hcall L pre h v nw hs hc => OpOK.call ho hcall (evalBs_er L hvs) hs hc) hrd h hi
      · simp at h
    · rename_i t hf
      obtain ⟨callee, args, ats⟩ := c
      simp only at hf; subst hf
      split at h
      · rename_i q vs hq hvs
        unfold calleeB at hq
        split at hq
        · rename_i f hx
          cases hq
          rw [List.append_nil] at h
          exact callK_some (rd := x ++ rdB ts o.op.operands.toList) hE (fun hcall L pre h v nw hs hc => OpOK.callFv ho (by have := evalB_er L hx; simpa only [BV.er] using this) hcall (evalBs_er L hvs) hs hc) hrd h hi
        · rename_i f cs hx
          cases hq
          exact callK_some (rd := x ++ rdB ts o.op.operands.toList) hE (fun hcall L pre h v nw hs hc => OpOK.callClo ho (by have := evalB_er L hx; simpa only [BV.er] using this) hcall (evalBs_er L hvs) (by rw [erL_append] at hs; exact hs) hc) hrd h hi
        · simp at hq
      · simp at h
    · exact hb h
  · exact hb h
mutual
def ownsV : BV → List Name
  | .own m _ => [m]
  | .view m _ _ _ => [m]
  | .cut m _ _ => [m]
  | .agg cs => ownsL cs
  | _ => []
def ownsL : List BV → List Name
  | [] => []
  | x :: r => ownsV x ++ ownsL r
end
def ownsO (ts : TS) (x : Operand) : List Name := match evalB ts x with
  | some v => ownsV v
  | none => []
def viewsO (ts : TS) (x : Operand) : List Name := match evalB ts x with
  | some (.view m _ _ _) => [m]
  | _ => []
def cutO (ts : TS) (x : Operand) : Option Name := match evalB ts x with
  | some (.cut n _ _) => some n
  | _ => none
def needSh : List Sh → List BV → List Name
  | .lst _ :: r, v :: vs => ownsV v ++ needSh r vs
  | _ :: r, _ :: vs => needSh r vs
  | _, _ => []
def needOb (pre : List (Name × OSh)) (hs : HS) (nm m : Name) : List Name := match look nm pre, look m hs with
  | some (.boxst _), some (.box cs) => ownsL cs
  | some (.box l), some (.box cs) => needSh l cs
  | _, _ => []
def needCaps (pre : List (Name × OSh)) (hs : HS) : List Name → List BV → List Name
  | nm :: q, .ref m _ :: vs => needOb pre hs nm m ++ needCaps pre hs q vs
  | _, _ => []
def needArgs (pre : List (Name × OSh)) (hs : HS) : List SSh → List BV → List Name
  | .one (.lst _) :: r, v :: vs => ownsV v ++ needArgs pre hs r vs
  | .one (.ref nm) :: r, .ref m _ :: vs => needOb pre hs nm m ++ needArgs pre hs r vs
  | .one (.clo _ ns) :: r, .clo _ cs :: vs => needCaps pre hs ns cs ++ needArgs pre hs r vs
  | .st _ :: r, v :: vs => ownsV v ++ needArgs pre hs r vs
  | .agg l :: r, .agg cs :: vs => needSh l cs ++ needArgs pre hs r vs
  | _ :: r, _ :: vs => needArgs pre hs r vs
  | _, _ => []
def needs (E : Env) (ts : TS) (hs : HS) (o : Oper) : List Name := match o.op with
  | .buildSlice _ _ parts => parts.toList.flatMap fun p => ownsO ts p.2
  | .store _ x y => match evalB ts x with
    | some (.aref _ _ _ _) => ownsO ts y
    | _ => []
  | .call c => match c.callee, c.args.toList with
    | .builtin .append, [x, y] => match cutO ts x with
      | some n => (ownsO ts y).filter fun m => !Nat.beq m n
      | none => viewsO ts x ++ ownsO ts y
    | .value (.func f), args => match evalBs ts args with
      | some vs => match E o.dst f vs with
        | some g => needArgs g.pre hs g.args vs
        | none => []
      | none => []
    | .value (.tmp t), args => match calleeB ts (.tmp t), evalBs ts args with
      | some q, some vs => match E o.dst q.1 (vs ++ q.2) with
        | some g => needArgs g.pre hs g.args (vs ++ q.2)
        | none => []
      | _, _ => []
    | _, _ => []
  | _ => []
def trimL {α : Type} (f : Nat → Bool) : List Nat → List (Nat × α) → List (Nat × α)
  | _, [] => []
  | seen, (k, v) :: r => match f k && !isIn k seen with
    | true => (k, v) :: trimL f (k :: seen) r
    | false => trimL f seen r
def trimC {α R : Type} (f : Nat → Bool) : List Nat → List (Nat × α) → (List (Nat × α) → R) → R
  | _, [], K => K []
  | seen, (k, v) :: r, K => match f k && !isIn k seen with
    | true => trimC f (k :: seen) r fun q => K ((k, v) :: q)
    | false => trimC f seen r K
theorem trimC_eq {α R : Type} {f : Nat → Bool} : ∀ (seen : List Nat) (l : List (Nat × α)) (K : List (Nat × α) → R), trimC f seen l K = K (trimL f seen l)
  | _, [], K => rfl
  | seen, (k, v) :: r, K => by
    simp only [trimC, trimL]
    split
    · rw [trimC_eq (k :: seen) r]
    · rw [trimC_eq seen r]
theorem look_trimL {α : Type} {f : Nat → Bool} (n : Nat) : ∀ (seen : List Nat) (l : List (Nat × α)), look n (trimL f seen l) = if f n && !isIn n seen then look n l else none
  | seen, [] => by simp [trimL, look]
  | seen, (k, v) :: r => by
    have isIn_cons : ∀ m, isIn m (k :: seen) = (Nat.beq k m || isIn m seen) := fun m => by simp [isIn]
    simp only [trimL]
    split
    · rename_i h
      simp only [look]
      rw [look_trimL n (k :: seen) r, isIn_cons]
      by_cases e : k = n
      · subst e; rw [if_pos rfl, if_pos rfl, h]; rfl
      · have : Nat.beq k n = false := Bool.eq_false_iff.2 fun h => e (Nat.eq_of_beq_eq_true h)
        rw [if_neg e, if_neg e, this, Bool.false_or]
    · rename_i h
      rw [look_trimL n seen r]
      simp only [look]
      by_cases e : k = n
      · subst e; rw [h]; rfl
      · rw [if_neg e]
theorem Inv.trim {f : Name → Bool} (hi : Inv L hs) : Inv L (trimL f [] hs) := fun n t l v hn => by
  rw [look_trimL] at hn
  split at hn
  · exact hi n t l v hn
  · simp at hn
theorem Sim.only {f : Nat → Bool} {g : Name → Bool} {ρ : Name → Loc} {M : Nat → Prop} {a : Act} {w : World} {Γ : Ctx} (h : Sim Γ ρ M (BS L ts hs) a w) (hg : ∀ n, n ∈ Γ.names → g n = true) : Sim Γ ρ M (BS L (trimL f [] ts) (trimL g [] hs)) a w := by
  refine h.forget (fun t x hx => ?_) (fun n o hn => ?_) (fun n hn hc => ?_)
  · rw [BS_slot, look_trimL] at hx
    rw [BS_slot]
    grind
  · rw [BS_heap, look_trimL] at hn
    rw [BS_heap]
    grind
  · rw [BS_heap, look_trimL, if_pos (by rw [hg n hn]; rfl)] at hc
    obtain ⟨o, ho, _⟩ := h.keep n hn
    rw [BS_heap, hc] at ho; simp at ho
def noTup (n : Name) (ts : TS) (t : Nat) : Bool := match look t ts with
  | some (.tup vs) => !BV.hasL n vs
  | _ => true
theorem Sim.onlyT {f : Nat → Bool} {ρ : Name → Loc} {M : Nat → Prop} {a : Act} {w : World} {Γ : Ctx} (h : Sim Γ ρ M (BS L ts hs) a w) : Sim Γ ρ M (BS L (trimL f [] ts) hs) a w := by
  have h2 := h.only (f := f) (g := fun _ => true) fun _ _ => rfl
  refine h2.congr (fun t => rfl) (fun n => ?_)
  show (BS L (trimL f [] ts) hs).heap n = (BS L (trimL f [] ts) (trimL (fun _ => true) [] hs)).heap n
  rw [BS_heap, BS_heap, look_trimL]; rfl
def frzK (gn : List Name) : List Name → TS → HS → (TS → HS → Option R) → Option R
  | [], ts, hs, K => K ts hs
  | n :: r, ts, hs, K => match look n hs with
    | some (.arr t l v) => trimC (noTup n ts) [] ts fun ts => if !isIn n gn && fzB n ts hs then frzK gn r (fzT n v t l ts) (fzH n v t l hs) K else none
    | _ => frzK gn r ts hs K
theorem frzK_some {gn : List Name} {Γ : Ctx} (hgn : Γ.names = gn) : ∀ {ns : List Name} {ts : TS} {hs : HS} {K : TS → HS → Option R}, frzK gn ns ts hs K = some r → Inv L hs →
    ∃ ts' hs', K ts' hs' = some r ∧ Inv L hs' ∧ ∀ ρ M a w, Sim Γ ρ M (BS L ts hs) a w → ∃ ρ' M', Sim Γ ρ' M' (BS L ts' hs') a w
  | [], ts, hs, K, h, hi => ⟨ts, hs, h, hi, fun ρ M a w hs0 => ⟨ρ, M, hs0⟩⟩
  | n :: ns, ts, hs, K, h, hi => by
    simp only [frzK] at h
    split at h
    · rename_i t l v hl
      rw [trimC_eq] at h
      split at h
      · rename_i hb
        simp only [Bool.and_eq_true, Bool.not_eq_true'] at hb
        have hn : n ∉ Γ.names := fun hm => by
          rw [hgn] at hm
          have := isIn_iff.2 hm
          rw [this] at hb; simp at hb
        have hi' : Inv L (fzH n v t l hs) := by
          intro k t' l' u hk
          rw [look_fzH] at hk
          split at hk
          · simp at hk
          · cases hx : look k hs with
            | none => rw [hx] at hk; simp at hk
            | some x =>
              rw [hx] at hk
              simp only [Option.map_some, Option.some.injEq] at hk
              cases x with
              | box cs => simp [BO.frz] at hk
              | arr t2 l2 => simp only [BO.frz] at hk; cases hk; exact hi k _ _ _ hx
              | sm es => simp [BO.frz] at hk
        obtain ⟨ts', hs', h1, h2, h3⟩ := frzK_some hgn h hi'
        refine ⟨ts', hs', h1, h2, fun ρ M a w hs0 => ?_⟩
        obtain ⟨⟨ρ1, M1, hs1⟩, _⟩ := (hs0.onlyT (f := noTup n ts)).frz hi hn hl hb.2
        exact h3 ρ1 M1 a w hs1
      · simp at h
    · exact frzK_some hgn h hi
def storeT (o : Oper) : Option Nat := match o.op with
  | .store _ _ (.tmp d) => some d
  | _ => none
def delN (n : Name) : HS → HS
  | [] => []
  | p :: r => if Nat.beq p.1 n then delN n r else p :: delN n r
def adoptK (gn : List Name) (o : Oper) (ts : TS) (hs : HS) (K : TS → HS → Option R) : Option R := match storeT o with
  | some d => match look d ts with
    | some (.cut n u k) => match look n hs with
      | some (.arr t l q) => if Nat.beq u q && !isIn n gn && (look (1000 + d) hs).isNone && freeS (1000 + d) ts hs then lec k l.length (K ((d, .own (1000 + d) 0) :: ts) ((1000 + d, .arr t (l.take k) 0) :: delN n hs)) else none
      | _ => none
    | _ => K ts hs
  | _ => K ts hs
theorem look_delN {n m : Name} : ∀ {hs : HS}, look m (delN n hs) = if m = n then none else look m hs
  | [] => by simp [delN, look]
  | (k, x) :: r => by
    simp only [delN]
    split
    · rename_i h
      have := Nat.eq_of_beq_eq_true h
      subst this
      rw [look_delN]
      simp only [look]
      split
      · rfl
      · rename_i h; rw [if_neg (Ne.symm h)]
    · rename_i h
      simp only [look, look_delN]
      split
      · rename_i e; subst e
        rw [if_neg]
        intro e; subst e; simp at h
      · rfl
theorem adoptK_some {gn : List Name} {Γ : Ctx} {o : Oper} {K : TS → HS → Option R} {r : R} (hgn : Γ.names = gn) (h : adoptK gn o ts hs K = some r) (hi : Inv L hs) :
    ∃ ts' hs' L', K ts' hs' = some r ∧ Inv L' hs' ∧ ∀ ρ M a w, Sim Γ ρ M (BS L ts hs) a w → ∃ ρ' M', Sim Γ ρ' M' (BS L' ts' hs') a w := by
  have same : K ts hs = some r → ∃ ts' hs' L', K ts' hs' = some r ∧ Inv L' hs' ∧ ∀ ρ M a w, Sim Γ ρ M (BS L ts hs) a w → ∃ ρ' M', Sim Γ ρ' M' (BS L' ts' hs') a w := fun h => ⟨ts, hs, L, h, hi, fun ρ M a w hs0 => ⟨ρ, M, hs0⟩⟩
  unfold adoptK at h
  split at h
  · rename_i d _
    split at h
    · rename_i n u k hd
      split at h
      · rename_i t l q hn
        split at h
        · rename_i hb
          simp only [Bool.and_eq_true, Bool.not_eq_true'] at hb
          obtain ⟨⟨⟨b1, b2⟩, b3⟩, b4⟩ := hb
          have := Nat.eq_of_beq_eq_true b1; subst this
          have hg : n ∉ Γ.names := fun hm => by
            rw [hgn] at hm
            have := isIn_iff.2 hm
            rw [this] at b2; simp at b2
          have hm0 : look (1000 + d) hs = none := Option.isNone_iff_eq_none.1 b3
          obtain ⟨hle, h⟩ := lec_some h
          let L1 : Lens := fun m v => if m = 1000 + d then k else L m v
          obtain ⟨e1, e2⟩ := erS_congr (L := L) (L' := L1) (nw := [1000 + d]) (nv := []) (ts := ts) (hs := hs) (fun n hn => by simp only [List.mem_singleton] at hn; subst hn; exact b4) (fun p hp => by simp at hp) (fun n v hn _ => if_neg (by simpa using hn))
          refine ⟨_, _, L1, h, fun m t' l' v hm => ?_, fun ρ M a w hs0 => ?_⟩
          · simp only [look] at hm
            split at hm
            · rename_i e; cases hm; subst e
              show (if _ = _ then k else _) = _
              rw [if_pos rfl, List.length_take]; omega
            · rename_i e
              rw [look_delN] at hm
              split at hm
              · simp at hm
              · show (if m = 1000 + d then k else L m v) = _
                rw [if_neg (Ne.symm e)]; exact hi m t' l' v hm
          · have hLn : L n u = l.length := hi n t l u hn
            obtain ⟨ρ', hs1⟩ := hs0.adopt (n := n) (m := 1000 + d) (es := tz t) (k := k) (t := d) (rows := l.map (tcells t)) hg (by rw [BS_heap, hn]; rfl) (by rw [BS_heap, hm0]; rfl) (free_of (by rw [freeS_er]; exact b4)) (by rw [List.length_map]; exact hle) (by rw [BS_slot, hd]; simp only [Option.map_some, BV.er, hLn, List.length_map])
            refine ⟨ρ', M, hs1.congr (fun j => ?_) (fun j => ?_)⟩
            · rw [BS_slot]
              simp only [look]
              by_cases e : d = j
              · subst e; simp only [if_true, Option.map_some, BV.er]; show some (AV.own _ (if _ = _ then k else _)) = _; rw [if_pos rfl]
              · simp only [e, Ne.symm e, if_false]
                rw [BS_slot, ← look_erT, ← look_erT, e1]
            · rw [BS_heap]
              simp only [look]
              by_cases e : 1000 + d = j
              · subst e; simp only [if_true, Option.map_some, BO.er, List.map_take]
              · simp only [e, Ne.symm e, if_false, look_delN]
                by_cases e3 : j = n
                · simp [e3]
                · simp only [e3, if_false]
                  rw [BS_heap, ← look_erH, ← look_erH, e2]
        · simp at h
      · simp at h
    · exact same h
  · exact same h
section
variable (P : Program) (ty : TypeId → Option TC) (E : Env) (gn : List Name) (nn : Nat) (ops : Array Oper)
def exK (sp : Bool) (x : TS) (o : Oper) (ts : TS) (hs : HS) (K : TS → HS → Option R) : Option R :=
  frzK gn (needs E ts hs o) ts hs fun ts hs => adoptK gn o ts hs fun ts hs => opK P ty E sp nn x o (x ++ ts) hs fun _ ts hs => K ts hs
def guarded (ops : Array Oper) : Bool := ops.toList.any fun o => o.guard.isSome
def regK (sp : Bool) (K : TS → HS → Option R) : Nat → Nat → TS → HS → Option R
  | 0, i, ts, hs => if Nat.beq ops.size i then K ts hs else none
  | f + 1, i, ts, hs => match ops[i]? with
    | none => none
    | some o => match o.guard with
      | none => exK P ty E gn nn sp [] o ts hs fun ts hs => regK sp K f (i + 1) ts hs
      | some (j, b) => match (ops[j]?).bind (·.dst) with
        | none => none
        | some g => match look g ts with
          | some (.b q) => cnd q
              (match b with
                | true => exK P ty E gn nn sp [(g, .b true)] o ts hs fun ts hs => regK sp K f (i + 1) ts hs
                | false => if dstOK nn o.dst then regK sp K f (i + 1) (putB o.dst (.tup []) ts) hs else none)
              (match b with
                | true => if dstOK nn o.dst then regK sp K f (i + 1) (putB o.dst (.tup []) ts) hs else none
                | false => exK P ty E gn nn sp [(g, .b false)] o ts hs fun ts hs => regK sp K f (i + 1) ts hs)
          | some (.tup []) => if dstOK nn o.dst then regK sp K f (i + 1) (putB o.dst (.tup []) ts) hs else none
          | _ => none
end
theorem wpOp_of {ops : Array Oper} {i : Nat} {o : Oper} {a : Act} {w : World} {K : Act → World → Prop} {Q : Exit → Act → World → Prop} (hi : ops[i]? = some o) (hw : Region.wanted o (yielded ops a.tmps) = true) (h : o.wp P a w K Q) : wpOp P ops Q i K a w := by
  unfold wpOp
  simp_all
theorem exK_ok {sp : Bool} {gn : List Name} {ops : Array Oper} {i : Nat} {x : TS} {o : Oper} {K : TS → HS → Option R} {Γ : Ctx} {KK : Act → World → Prop} {Q : Exit → Act → World → Prop} (hE : EnvOK P E) (hgn : Γ.names = gn) (hn : Γ.n = nn)
    (h : exK P ty E gn nn sp x o ts hs K = some r) (hx : ∀ t v, (t, v) ∈ x → look t ts = some v) (hx1 : ∀ t v, (t, v) ∈ x → ∃ q, v = .b q) (hxl : x.length ≤ 1) (hi : Inv L hs) (hop : ops[i]? = some o)
    (hw : ∀ ρ M a w, Sim Γ ρ M (BS L ts hs) a w → Region.wanted o (yielded ops a.tmps) = true)
    (hK : ∀ ts' hs' L' ρ' M' a' w', K ts' hs' = some r → Inv L' hs' → Sim Γ ρ' M' (BS L' ts' hs') a' w' → KK a' w') :
    ∀ ρ M a w, Sim Γ ρ M (BS L ts hs) a w → wpOp P ops Q i KK a w := by
  intro ρ M a w hs0
  have hw0 := hw ρ M a w hs0
  obtain ⟨ts0, hs00, h, hi0, hfz⟩ := frzK_some hgn h hi
  obtain ⟨ts1, hs1, L, h, hi1, had⟩ := adoptK_some hgn h hi0
  obtain ⟨ρ0, M0, hs0'⟩ := hfz ρ M a w hs0
  obtain ⟨ρ1, M1, hs1'⟩ := had ρ0 M0 a w hs0'
  have hxx : Sim Γ ρ1 M1 (BS L (x ++ ts1) hs1) a w := by
    refine ⟨hs1'.n, hs1'.d, fun t y hy => ?_, hs1'.objs, hs1'.inj, hs1'.own0, hs1'.keep, hs1'.ext, hs1'.mext, hs1'.msize, hs1'.m0, hs1'.ground⟩
    obtain ⟨v, hv, rfl⟩ := slot_of hy
    rw [look_append] at hv
    cases hl : look t x with
    | none => rw [hl] at hv; simp only at hv; exact hs1'.slots t _ (by rw [BS_slot, hv]; rfl)
    | some v' =>
      rw [hl] at hv; cases hv
      have hm := look_mem hl
      obtain ⟨q, rfl⟩ := hx1 t v hm
      obtain ⟨u, hu, hr⟩ := hs0.slots t ((BV.b q).er L) (by rw [BS_slot, hx t _ hm]; rfl)
      refine ⟨u, hu, ?_⟩
      simp only [BV.er, AV.R, PV.R] at hr ⊢
      exact hr
  obtain ⟨e, L', hst, hd, hK'⟩ := opK_some hE (fun t v hm => by
    rw [look_append]
    match x, hxl, hm with
    | [(t0, v0)], _, hm =>
      simp only [List.mem_singleton, Prod.mk.injEq] at hm
      obtain ⟨rfl, rfl⟩ := hm
      simp only [look, if_true]) h hi1
  exact wpOp_of hop hw0 (hst.go hd hn hxx fun ρ' M' a' w' hs' => hK _ _ L' ρ' M' a' w' hK' hst.inv hs')
theorem yield_b {ops : Array Oper} {Γ : Ctx} {ρ : Name → Loc} {M : Nat → Prop} {a : Act} {w : World} {j g : Nat} {q : Bool} (hj : (ops[j]?).bind (·.dst) = some g) (hl : look g ts = some (.b q)) (hs0 : Sim Γ ρ M (BS L ts hs) a w) : yielded ops a.tmps j = some q := by
  obtain ⟨oj, h1, h2⟩ := bind_some hj
  exact yielded_of hs0 h1 h2 (by rw [BS_slot, hl]; simp only [Option.map_some, BV.er])
theorem skip_ok {ops : Array Oper} {i j g : Nat} {o : Oper} {b : Bool} {v : BV} {Γ : Ctx} {KK : Act → World → Prop} {Q : Exit → Act → World → Prop} (hop : ops[i]? = some o) (hg : o.guard = some (j, b)) (hj : (ops[j]?).bind (·.dst) = some g)
    (hl : look g ts = some v) (hv : v = .b (!b) ∨ v = .tup []) (hd : dstOK nn o.dst = true) (hn : Γ.n = nn)
    (hK : ∀ ρ' M' a' w', Sim Γ ρ' M' (BS L (putB o.dst (.tup []) ts) hs) a' w' → KK a' w') : ∀ ρ M a w, Sim Γ ρ M (BS L ts hs) a w → wpOp P ops Q i KK a w := by
  intro ρ M a w hs0
  obtain ⟨oj, h1, h2⟩ := bind_some hj
  have hd' : ∀ d, o.dst = some d → d < Γ.n := fun d hd' => by rw [hd'] at hd; simp only [dstOK] at hd; rw [hn]; exact Nat.le_of_ble_eq_true hd
  have hrun : ∀ x : AV, (BS L ts hs).run o.dst ⟨[(g, x)], [], .tup [], [], []⟩ = BS L (putB o.dst (.tup []) ts) hs := fun x => by
    unfold BS
    rw [mk_run]
    cases o.dst with
    | none => rfl
    | some d => simp only [putT, putB, erT, List.map_cons, BV.er, erL, List.nil_append]
  rcases hv with rfl | rfl
  · refine StepOK.skipped hop hg h1 h2 Γ ρ M _ a w KK Q hs0 ⟨fun t x hx => ?_, fun n ob hn => by simp at hn, fun n hn => by simp at hn⟩ hd' (fun ρ' M' a' w' hs' => hK ρ' M' a' w' (by rw [hrun] at hs'; exact hs'))
    simp only [List.mem_singleton, Prod.mk.injEq] at hx
    obtain ⟨rfl, rfl⟩ := hx
    rw [BS_slot, hl]; simp only [Option.map_some, BV.er]
  · refine StepOK.skipped2 hop hg h1 h2 Γ ρ M _ a w KK Q hs0 ⟨fun t x hx => ?_, fun n ob hn => by simp at hn, fun n hn => by simp at hn⟩ hd' (fun ρ' M' a' w' hs' => hK ρ' M' a' w' (by rw [hrun] at hs'; exact hs'))
    simp only [List.mem_singleton, Prod.mk.injEq] at hx
    obtain ⟨rfl, rfl⟩ := hx
    rw [BS_slot, hl]; simp only [Option.map_some, BV.er, erL]
theorem regK_ok {sp : Bool} {gn : List Name} {ops : Array Oper} {K : TS → HS → Option R} {Γ : Ctx} {Q : Exit → Act → World → Prop} (hE : EnvOK P E) (hgn : Γ.names = gn) (hn : Γ.n = nn)
    (hQ : ∀ ts' hs' L' ρ' M' a' w', K ts' hs' = some r → Inv L' hs' → Sim Γ ρ' M' (BS L' ts' hs') a' w' → Q .normal a' w') :
    ∀ (f i : Nat) (ts : TS) (hs : HS) (L : Lens), regK P ty E gn nn ops sp K f i ts hs = some r → Inv L hs → ∀ ρ M a w, Sim Γ ρ M (BS L ts hs) a w → wpOps P ops Q (List.range' i (ops.size - i)) a w
  | 0, i, ts, hs, L, h, hi, ρ, M, a, w, hs0 => by
    simp only [regK] at h
    split at h
    · rename_i e
      rw [Nat.eq_of_beq_eq_true e, Nat.sub_self]
      simp only [List.range'_zero, wpOps]
      exact hQ ts hs L ρ M a w h hi hs0
    · simp at h
  | f + 1, i, ts, hs, L, h, hi, ρ, M, a, w, hs0 => by
    simp only [regK] at h
    split at h
    · simp at h
    · rename_i o hop
      have hlt : i < ops.size := (Array.getElem?_eq_some_iff.1 hop).1
      rw [show ops.size - i = (ops.size - (i + 1)) + 1 by omega, List.range'_succ, wpOps_cons]
      have ih := regK_ok (sp := sp) (gn := gn) (ops := ops) (K := K) (Γ := Γ) (Q := Q) hE hgn hn hQ f (i + 1)
      have hskip : ∀ {j : Nat} {b : Bool} {g : Nat} {v : BV}, o.guard = some (j, b) → (ops[j]?).bind (·.dst) = some g → look g ts = some v → (v = .b (!b) ∨ v = .tup []) →
          (if dstOK nn o.dst then regK P ty E gn nn ops sp K f (i + 1) (putB o.dst (.tup []) ts) hs else none) = some r → wpOp P ops Q i (wpOps P ops Q (List.range' (i + 1) (ops.size - (i + 1)))) a w := fun hg hj hl hv h => by
        split at h
        · rename_i hd
          exact skip_ok hop hg hj hl hv hd hn (fun ρ' M' a' w' hs' => ih _ _ L h hi ρ' M' a' w' hs') ρ M a w hs0
        · simp at h
      have hex : ∀ {j : Nat} {b : Bool} {g : Nat}, o.guard = some (j, b) → (ops[j]?).bind (·.dst) = some g → look g ts = some (.b b) →
          exK P ty E gn nn sp [(g, .b b)] o ts hs (fun ts hs => regK P ty E gn nn ops sp K f (i + 1) ts hs) = some r → wpOp P ops Q i (wpOps P ops Q (List.range' (i + 1) (ops.size - (i + 1)))) a w := fun {j b g} hg hj hl h =>
        exK_ok hE hgn hn h (fun t v hm => by simp only [List.mem_singleton, Prod.mk.injEq] at hm; obtain ⟨rfl, rfl⟩ := hm; exact hl) (fun t v hm => by simp only [List.mem_singleton, Prod.mk.injEq] at hm; obtain ⟨rfl, rfl⟩ := hm; exact ⟨b, rfl⟩) (Nat.le_refl _) hi hop
          (fun ρ M a w hs0 => by unfold Region.wanted; simp only [hg, yield_b hj hl hs0, beq_self_eq_true]) (fun ts' hs' L' ρ' M' a' w' hK' hi' hs' => ih _ _ L' hK' hi' ρ' M' a' w' hs') ρ M a w hs0
      split at h
      · rename_i hg
        exact exK_ok hE hgn hn h (fun t v hm => by simp at hm) (fun t v hm => by simp at hm) (by simp) hi hop (fun ρ M a w _ => by unfold Region.wanted; simp only [hg]) (fun ts' hs' L' ρ' M' a' w' hK' hi' hs' => ih _ _ L' hK' hi' ρ' M' a' w' hs') ρ M a w hs0
      · rename_i j b hg
        split at h
        · simp at h
        · rename_i g hj
          split at h
          · rename_i q hl
            rcases cnd_some h with ⟨rfl, h⟩ | ⟨rfl, h⟩
            · cases b with
              | true => exact hex hg hj hl h
              | false => exact hskip hg hj hl (.inl rfl) h
            · cases b with
              | true => exact hskip hg hj hl (.inl rfl) h
              | false => exact hex hg hj hl h
          · rename_i hl
            exact hskip hg hj hl (.inr rfl) h
          · simp at h
end
end
abbrev BRow := Option Nat × TS × BEff
def BRow.row (L : Lens) (b : BRow) : Row := (b.1, ⟨erT L b.2.1, erH L b.2.2.hp, b.2.2.v.er L, erH L b.2.2.upd, b.2.2.nw⟩)
def L0 : Lens := fun _ _ => 0
def indepB (ops : Array Oper) (rows : List BRow) (ts : TS) (hs : HS) : Bool := indep ops (rows.map (BRow.row L0)) (erT L0 ts) (erH L0 hs)
section
variable {L L' : Lens}
theorem keys_erT (a : TS) : keys (erT L a) = keys a := by simp [erT, keys]
theorem effhas_row (n : Name) (b : BRow) : (b.row L).2.has n = (b.row L').2.has n := by
  simp only [BRow.row, Eff.has, has_er]
  congr 1
  simp only [erH, List.any_map]
  congr 1; funext p; simp only [Function.comp, hasO_er]
theorem apart_row (x y : BRow) : apartB (x.row L) (y.row L) = apartB (x.row L') (y.row L') := by
  simp only [apartB, BRow.row, keys_erT, keys_erH]
  have : (fun n => !Eff.has n ⟨erT L y.2.1, erH L y.2.2.hp, y.2.2.v.er L, erH L y.2.2.upd, y.2.2.nw⟩) = fun n => !Eff.has n ⟨erT L' y.2.1, erH L' y.2.2.hp, y.2.2.v.er L', erH L' y.2.2.upd, y.2.2.nw⟩ := by
    funext n; have := effhas_row (L := L) (L' := L') n y; simp only [BRow.row] at this; rw [this]
  rw [this]
theorem inner_row (i : Nat) (x : BRow) : ∀ (j : Nat) (l : List (BRow × Nat)), innerOK i (x.row L) j (l.map fun p => (p.1.row L, p.2)) = innerOK i (x.row L') j (l.map fun p => (p.1.row L', p.2))
  | _, [] => rfl
  | j, (y, m) :: r => by simp only [List.map_cons, innerOK, apart_row (L := L) (L' := L') x y, inner_row i x (j + 1) r]
theorem pairs_row : ∀ (i : Nat) (l : List (BRow × Nat)), pairsOK i (l.map fun p => (p.1.row L, p.2)) = pairsOK i (l.map fun p => (p.1.row L', p.2))
  | _, [] => rfl
  | i, (x, m) :: r => by simp only [List.map_cons, pairsOK, inner_row (L := L) (L' := L') i x (i + 1) r, pairs_row (i + 1) r]
theorem news_row (ts : TS) (hs : HS) : ∀ (l past : List BRow), newsOK (erT L ts) (erH L hs) (l.map (BRow.row L)) (past.map (BRow.row L)) = newsOK (erT L' ts) (erH L' hs) (l.map (BRow.row L')) (past.map (BRow.row L'))
  | [], past => by simp only [List.map_nil, newsOK]
  | y :: r, past => by
    have ih := news_row ts hs r (past ++ [y])
    simp only [List.map_append, List.map_cons, List.map_nil] at ih
    simp only [List.map_cons, newsOK, ih]
    congr 1
    show (y.2.2.nw.all fun n => _) = (y.2.2.nw.all fun n => _)
    congr 1; funext n
    simp only [List.all_map, freeS_er, BRow.row, keys_erH]
    congr 2
    congr 1; funext x
    have := effhas_row (L := L) (L' := L') n x
    simp only [BRow.row] at this
    simp only [Function.comp, BRow.row, this]
theorem indep_row {ops : Array Oper} {rows : List BRow} {ts : TS} {hs : HS} (h : indepB ops rows ts hs = true) (L : Lens) : indep ops (rows.map (BRow.row L)) (erT L ts) (erH L hs) = true := by
  unfold indepB indep at h
  unfold indep
  have e : ∀ (L : Lens) (ms : List Nat), (rows.map (BRow.row L)).zip ms = (rows.zip ms).map fun p => (p.1.row L, p.2) := fun L ms => by
    rw [List.zip_map_left]; rfl
  rw [e, pairs_row (L := L) (L' := AM.L0), ← e]
  have := news_row (L := L) (L' := AM.L0) ts hs rows []
  simp_all
end
section
variable {R : Type} (P : Program) (ty : TypeId → Option TC) (E : Env) (gn : List Name) (nn : Nat) (ops : Array Oper)
def anyB (d : Option Nat) (v : BV) : Bool := match d, v with
  | some _, _ => true
  | none, .any => true
  | none, _ => false
def dregK (sp : Bool) (m : Nat) (K : List BRow → TS → HS → Option R) : Nat → Nat → List BRow → TS → HS → Option R
  | 0, i, acc, ts, hs => if Nat.beq m i then K acc.reverse ts hs else none
  | f + 1, i, acc, ts, hs => match ops[i]? with
    | none => none
    | some o => match o.guard with
      | none => opK P ty E sp nn [] o ts hs fun e ts' hs' => if anyB o.dst e.v then dregK sp m K f (i + 1) ((o.dst, rdB ts o.op.operands.toList, e) :: acc) ts' hs' else none
      | some (j, b) => match (ops[j]?).bind (·.dst) with
        | none => none
        | some g => match look g ts with
          | some (.b q) => cnd q
              (match b with
                | true => opK P ty E sp nn [(g, .b true)] o ts hs fun e ts' hs' => if anyB o.dst e.v then dregK sp m K f (i + 1) ((o.dst, (g, .b true) :: rdB ts o.op.operands.toList, e) :: acc) ts' hs' else none
                | false => if dstOK nn o.dst then dregK sp m K f (i + 1) ((o.dst, [(g, .b true)], ev (.tup [])) :: acc) (putB o.dst (.tup []) ts) hs else none)
              (match b with
                | true => if dstOK nn o.dst then dregK sp m K f (i + 1) ((o.dst, [(g, .b false)], ev (.tup [])) :: acc) (putB o.dst (.tup []) ts) hs else none
                | false => opK P ty E sp nn [(g, .b false)] o ts hs fun e ts' hs' => if anyB o.dst e.v then dregK sp m K f (i + 1) ((o.dst, (g, .b false) :: rdB ts o.op.operands.toList, e) :: acc) ts' hs' else none)
          | some (.tup []) => if dstOK nn o.dst then dregK sp m K f (i + 1) ((o.dst, [(g, .tup [])], ev (.tup [])) :: acc) (putB o.dst (.tup []) ts) hs else none
          | _ => none
end
def noB : BRow := (none, [], ev .any)
def lastB (ops : Array Oper) : Bool := match ops[ops.size - 1]? with
  | some ⟨_, .store _ _ _, _, _, _, none⟩ => (List.range (ops.size - 1)).all fun j => ((masks ops.toList []).getD (ops.size - 1) 0).testBit j
  | _ => false
inductive Ann where
  | go
  | two (a b : Ann)
  | one (a : Ann)
  /-- The states that come out of it normally are said in this shape; what follows is said once. -/
  | join (s : List (Nat × SSh)) (o : List (Name × OSh)) (a : Ann)
  /-- A loop whose rounds begin in this shape. -/
  | loop (s : List (Nat × SSh)) (o : List (Name × OSh)) (a : Ann)
  /-- Arrays that are frozen ahead of it. -/
  | frz (ns : List Name) (a : Ann)
  /-- A branch that is not reckoned. -/
  | cut
def Ann.l : Ann → Ann
  | .two a _ => a
  | .one a => a
  | .loop _ _ a => a
  | _ => .go
def Ann.r : Ann → Ann
  | .two _ b => b
  | _ => .go
section
variable {R : Type} (P : Program) (ty : TypeId → Option TC) (E : Env) (gn : List Name) (nn fu : Nat)
abbrev Cont (R : Type) := Exit → TS → HS → Option R
def idRen (σ : Ren) : Bool := σ.all fun p => Nat.beq p.1 p.2.1 && lookIs p.1 p.2.1 p.2.2 σ
def verIn (n : Name) (hs : HS) : Nat := match look n hs with
  | some (.arr _ _ v) => v
  | _ => 0
def getS (s : List (Nat × SSh)) (o : List (Name × OSh)) (ts : TS) (hs : HS) (K : STL s × OL o → Option R) : Option R :=
  STL.get s ts [] fun σ x => OL.get o hs (gn.map (fun n => (n, (n, verIn n hs))) ++ σ) fun σ y => if idRen σ && gn.all (fun n => isIn n (keys o)) then K (x, y) else none
def thawA (o : List (Name × OSh)) (t : Nat) : Nat → List Sh → TS → HS → (TS → HS → Option R) → Option R
  | _, [], ts, hs, K => K ts hs
  | j, .own nm :: r, ts, hs, K => match look t ts with
    | some (.agg cells) => match cells[j]?, look nm o with
      | some .nil, some (.arr tc) => if (look nm hs).isNone && freeS nm ts hs && Nat.ble 1 (tz tc) then thawA o t (j + 1) r ((t, .agg (cells.set j (.own nm 0))) :: ts) ((nm, .arr tc [] 0) :: hs) K else none
      | some (.ts true _ []), some (.arr tc) => if (look nm hs).isNone && freeS nm ts hs && Nat.ble 1 (tz tc) then thawA o t (j + 1) r ((t, .agg (cells.set j (.own nm 0))) :: ts) ((nm, .arr tc [] 0) :: hs) K else none
      | _, _ => thawA o t (j + 1) r ts hs K
    | _ => thawA o t (j + 1) r ts hs K
  | j, _ :: r, ts, hs, K => thawA o t (j + 1) r ts hs K
def thawK (o : List (Name × OSh)) : List (Nat × SSh) → TS → HS → (TS → HS → Option R) → Option R
  | (t, .agg l) :: r, ts, hs, K => thawA o t 0 l ts hs fun ts hs => thawK o r ts hs K
  | (t, .one (.own nm)) :: r, ts, hs, K => match look t ts, look nm o with
    | some .nil, some (.arr tc) => if (look nm hs).isNone && freeS nm ts hs && Nat.ble 1 (tz tc) then thawK o r ((t, .own nm 0) :: ts) ((nm, .arr tc [] 0) :: hs) K else none
    | some (.ts true _ []), some (.arr tc) => if (look nm hs).isNone && freeS nm ts hs && Nat.ble 1 (tz tc) then thawK o r ((t, .own nm 0) :: ts) ((nm, .arr tc [] 0) :: hs) K else none
    | _, _ => thawK o r ts hs K
  | _ :: r, ts, hs, K => thawK o r ts hs K
  | [], ts, hs, K => K ts hs
def thawC (o : List (Name × OSh)) (m : Name) (ts : TS) : Nat → List Sh → HS → (HS → Option R) → Option R
  | _, [], hs, K => K hs
  | j, .own nm :: r, hs, K => match look m hs with
    | some (.box cells) => match cells[j]?, look nm o with
      | some .nil, some (.arr tc) => if (look nm hs).isNone && freeS nm ts hs && Nat.ble 1 (tz tc) then thawC o m ts (j + 1) r ((m, .box (cells.set j (.own nm 0))) :: (nm, .arr tc [] 0) :: hs) K else none
      | some (.ts true _ []), some (.arr tc) => if (look nm hs).isNone && freeS nm ts hs && Nat.ble 1 (tz tc) then thawC o m ts (j + 1) r ((m, .box (cells.set j (.own nm 0))) :: (nm, .arr tc [] 0) :: hs) K else none
      | _, _ => thawC o m ts (j + 1) r hs K
    | _ => thawC o m ts (j + 1) r hs K
  | j, _ :: r, hs, K => thawC o m ts (j + 1) r hs K
def thawO (o : List (Name × OSh)) (ts : TS) : List (Name × OSh) → HS → (HS → Option R) → Option R
  | (m, .box l) :: r, hs, K => thawC o m ts 0 l hs fun hs => thawO o ts r hs K
  | _ :: r, hs, K => thawO o ts r hs K
  | [], hs, K => K hs
def keepT (s : List (Nat × SSh)) (t : Nat) : Bool := (look t s).isSome
def keepB (gn : List Name) (o : List (Name × OSh)) (hs : HS) (n : Name) : Bool := match look n hs with
  | some (.box _) => (look n o).isSome || isIn n gn
  | _ => true
def keepA (gn : List Name) (o : List (Name × OSh)) (ts : TS) (hs : HS) (n : Name) : Bool := match look n hs with
  | some (.arr _ _ _) => isIn n gn || (look n o).isNone || !freeS n ts hs
  | _ => true
def shapeK (s : List (Nat × SSh)) (o : List (Name × OSh)) (ts : TS) (hs : HS) (K : STL s × OL o → Option R) : Option R :=
  trimC (keepT s) [] ts fun ts' => trimC (keepB gn o hs) [] hs fun hs' => frzK gn (needArgs o hs (s.map (·.2)) (s.map fun p => (look p.1 ts).getD .any)) ts' hs' fun ts hs => trimC (keepA gn o ts hs) [] hs fun hs => thawK o s ts hs fun ts hs => thawO o ts o hs fun hs => getS gn s o (viewT hs s ts) hs K
def nextC (K : Cont R) (N : TS → HS → Option R) : Cont R := fun e ts hs => match e with
  | .normal => N ts hs
  | e => K e ts hs
def blockC (id : Nat) (K : Cont R) : Cont R := fun e ts hs => match e with
  | .exit k => if Nat.beq k id then K .normal ts hs else K (.exit k) ts hs
  | e => K e ts hs
def around (an : Ann) (ts : TS) (hs : HS) (K : Cont R) (body : Ann → TS → HS → Cont R → Option R) : Option R := match an with
  | .join s o a => join (fun y : STL s × OL o => K .normal (STL.put 0 s y.1) (OL.put 0 o y.2)) fun J => body a ts hs (nextC K fun ts hs => shapeK gn s o ts hs J)
  | .frz ns a => frzK gn ns ts hs fun ts hs => body a ts hs K
  | .cut => none
  | a => body a ts hs K
def vc [DecidableEq R] : Code → Ann → TS → HS → Cont R → Option R
  | .skip, an, ts, hs, K => K .normal ts hs
  | .label _, an, ts, hs, K => K .normal ts hs
  | .ret, an, ts, hs, K => K .ret ts hs
  | .exit id, an, ts, hs, K => K (.exit id) ts hs
  | .seq a b, an, ts, hs, K => around gn an ts hs K fun an ts hs K => vc a an.l ts hs (nextC K fun ts hs => vc b an.r ts hs K)
  | .cond (.tmp t) a b, an, ts, hs, K => around gn an ts hs K fun an ts hs K => match look t ts with
    | some (.b q) => cnd q (vc a an.l ts hs K) (vc b an.r ts hs K)
    | some .ub => both (vc a an.l ts hs K) (vc b an.r ts hs K)
    | _ => none
  | .cond (.const (.bool q)) a b, an, ts, hs, K => around gn an ts hs K fun an ts hs K => match q with
    | true => vc a an.l ts hs K
    | false => vc b an.r ts hs K
  | .block id a, an, ts, hs, K => around gn an ts hs K fun an ts hs K => vc a an.l ts hs (blockC id K)
  | .loop a, an, ts, hs, K => match an with
    | .loop s o an => shapeK gn s o ts hs fun x => iterF (fun Lp x => vc a an (STL.put 0 s x.1) (OL.put 0 o x.2) (nextC K fun ts hs => shapeK gn s o ts hs Lp)) fu x
    | _ => none
  | .region _ ops dr, an, ts, hs, K => around gn an ts hs K fun an ts hs K => match dr with
    | false => regK P ty E gn nn ops (guarded ops) (fun ts hs => K .normal ts hs) ops.size 0 ts hs
    | true => if P.follows .mixedOrders then (match lastB ops with
      | true => dregK P ty E nn ops (guarded ops) (ops.size - 1) (fun rows ts' hs' => if indepB ops (rows ++ [noB]) ts hs then (match ops[ops.size - 1]? with
        | some o => exK P ty E gn nn (guarded ops) [] o ts' hs' (fun ts hs => K .normal ts hs)
        | none => none) else none) (ops.size - 1) 0 [] ts hs
      | false => dregK P ty E nn ops (guarded ops) ops.size (fun rows ts' hs' => if indepB ops rows ts hs then K .normal ts' hs' else none) ops.size 0 [] ts hs) else none
  | _, _, _, _, _ => none
end
section
open Go
theorem AWp.drawG {P : Program} {Γ : Ctx} {id : Nat} {ops : Array Oper} {ts ts' : List (Nat × AV)} {hs hs' : List (Name × AO)} {Q : Exit → AS → Prop} {n : Nat} (hn : Γ.n = n)
    (hmode : (P.follows .mixedOrders || !Region.departs ops) = true)
    (L : List Row) (hst : StepsOK P ops 0 L) (hg : got n L ts hs = (wantS L, wantH L, true, ts', hs')) (hind : indep ops L ts hs = true) (hQ : Q .normal (mk ts' hs')) : AWp P Γ (.region id ops true) (mk ts hs) Q := by
  intro ρ M a w hsim
  refine wp_region_draw fun t => ?_
  have hsch : Region.schedule (P.follows .mixedOrders) ops t = Region.linearise .any ops t := by
    unfold Region.schedule; rw [hmode]; rfl
  rw [hsch]
  refine wpAny_sound ops.size t _ a _ ?_
  refine any_order hn hst (by rw [hg]) (by rw [hg]) (by rw [hg]) hind (Q := fun e a' w' => ∃ s' ρ' M', Q e s' ∧ Sim Γ ρ' M' s' a' w') (fun ρ' M' a' w' hs => ⟨_, ρ', M', hQ, by rw [hg] at hs; exact hs⟩)
    ops.size (Array.replicate ops.size false) a _ ρ M (by simp) (fun i o hi hl => by simp [Array.getD_eq_getD_getElem?, Array.getElem?_replicate] at hl; split at hl <;> simp at hl) ?_ ?_
  · have : ∀ (f : Nat → Bool) k, cnt f k ≤ k := by
      intro f k
      induction k with
      | zero => exact Nat.le_refl _
      | succ k ih => simp only [cnt]; split <;> omega
    exact this _ _
  · refine hsim.drew.congr (fun t => ?_) (fun m => ?_)
    · have := RD_slot_cut (E := fun i => rowAt L i) (D := fun i => (Array.replicate ops.size false).getD i false) (s := mk ts hs) (t := t) (i := 0) L.length (by omega) (fun j _ _ _ => by
        simp only [Array.getD_eq_getD_getElem?, Array.getElem?_replicate]; split <;> rfl)
      exact this
    · have := RD_heap_cut (E := fun i => rowAt L i) (D := fun i => (Array.replicate ops.size false).getD i false) (s := mk ts hs) (m := m) (i := 0) L.length (by omega) (fun j _ _ _ => by
        simp only [Array.getD_eq_getD_getElem?, Array.getElem?_replicate]; split <;> rfl)
      exact this
theorem AWp.drawX {P : Program} {Γ : Ctx} {id : Nat} {ops : Array Oper} {ts ts' : List (Nat × AV)} {hs hs' : List (Name × AO)} {Q : Exit → AS → Prop} {n : Nat} (hn : Γ.n = n)
    (hmode : (P.follows .mixedOrders || !Region.departs ops) = true) (h0 : 0 < ops.size)
    (L : List Row) (hst : StepsM P ops (ops.size - 1) 0 L) (hg : got n L ts hs = (wantS L, wantH L, true, ts', hs')) (hind : indep ops (L ++ [noRow]) ts hs = true)
    (hm : ∀ j, j < ops.size - 1 → ((masks ops.toList []).getD (ops.size - 1) 0).testBit j = true)
    (hlast : ∀ (K : Act → World → Prop), (∀ s' ρ' M' a' w', Q .normal s' → Sim Γ ρ' M' s' a' w' → K a' w') → ∀ ρ M a w, Sim Γ ρ M (mk ts' hs') a w →
      wpOp P ops (fun e a' w' => ∃ s' ρ' M', Q e s' ∧ Sim Γ ρ' M' s' a' w') (ops.size - 1) K a w) : AWp P Γ (.region id ops true) (mk ts hs) Q := by
  obtain ⟨hsteps, hsize⟩ := stepsM_get hst
  have hlen : (L ++ [noRow]).length = ops.size := by simp; omega
  have hL : L.length = ops.size - 1 := by omega
  intro ρ M a w hsim
  refine wp_region_draw fun t => ?_
  have hsch : Region.schedule (P.follows .mixedOrders) ops t = Region.linearise .any ops t := by
    unfold Region.schedule; rw [hmode]; rfl
  rw [hsch]
  refine wpAny_sound ops.size t _ a _ ?_
  have hgn := got_noRow n L ts hs
  refine any_orderX (L := L ++ [noRow]) true hn (Q := fun e a' w' => ∃ s' ρ' M', Q e s' ∧ Sim Γ ρ' M' s' a' w') (fun i y hi hlt => ?_) hlen.symm (by rw [hgn, hg, wantS_noRow]) (by rw [hgn, hg, wantH_noRow]) (by rw [hgn, hg]) hind
    (fun _ => ?_) (fun h => by simp at h) ops.size (Array.replicate ops.size false) a _ ρ M (by simp) (fun _ => by
      simp only [Array.getD_eq_getD_getElem?, Array.getElem?_replicate]; split <;> rfl) (fun i o hi hl => by simp [Array.getD_eq_getD_getElem?, Array.getElem?_replicate] at hl; split at hl <;> simp at hl) ?_ ?_
  · grind
  · grind
  · have : ∀ (f : Nat → Bool) k, cnt f k ≤ k := by
      intro f k
      induction k with
      | zero => exact Nat.le_refl _
      | succ k ih => simp only [cnt]; split <;> omega
    exact this _ _
  · refine hsim.drew.congr (fun t => ?_) (fun m => ?_)
    · have := RD_slot_cut (E := fun i => rowAt (L ++ [noRow]) i) (D := fun i => (Array.replicate ops.size false).getD i false) (s := mk ts hs) (t := t) (i := 0) (L ++ [noRow]).length (by omega) (fun j _ _ _ => by
        simp only [Array.getD_eq_getD_getElem?, Array.getElem?_replicate]; split <;> rfl)
      exact this
    · have := RD_heap_cut (E := fun i => rowAt (L ++ [noRow]) i) (D := fun i => (Array.replicate ops.size false).getD i false) (s := mk ts hs) (m := m) (i := 0) (L ++ [noRow]).length (by omega) (fun j _ _ _ => by
        simp only [Array.getD_eq_getD_getElem?, Array.getElem?_replicate]; split <;> rfl)
      exact this
variable {L L' : Lens} {ts ts' : TS} {hs hs' : HS}
theorem erT_mem {t : Nat} {v : BV} (h : erT L ts = erT L' ts) (hm : (t, v) ∈ ts) : v.er L = v.er L' := by
  unfold erT at h
  have := (List.map_inj_left.1 h) _ hm
  simpa using this
theorem erH_mem {t : Name} {v : BO} (h : erH L hs = erH L' hs) (hm : (t, v) ∈ hs) : v.er L = v.er L' := by
  unfold erH at h
  have := (List.map_inj_left.1 h) _ hm
  simpa using this
theorem erT_sub {rd : TS} (h : erT L ts = erT L' ts) (hs : ∀ t v, (t, v) ∈ rd → look t ts = some v) : erT L rd = erT L' rd := by
  unfold erT
  exact List.map_congr_left fun p hp => by rw [erT_mem h (look_mem (hs p.1 p.2 hp))]
theorem erH_sub {hp : HS} (h : erH L hs = erH L' hs) (hsub : ∀ t v, (t, v) ∈ hp → look t hs = some v) : erH L hp = erH L' hp := by
  unfold erH
  exact List.map_congr_left fun p hp => by rw [erH_mem h (look_mem (hsub p.1 p.2 hp))]
theorem erH_app {a b : HS} (h : erH L (a ++ b) = erH L' (a ++ b)) : erH L a = erH L' a ∧ erH L b = erH L' b := by
  rw [erH_append, erH_append] at h
  exact List.append_inj h (by simp [erH])
theorem erT_put {d : Option Nat} {v : BV} (h : erT L (putB d v ts) = erT L' (putB d v ts)) (ha : anyB d v = true) : erT L ts = erT L' ts ∧ v.er L = v.er L' := by
  cases d with
  | some d =>
    simp only [putB, erT, List.map_cons, List.cons.injEq, Prod.mk.injEq, true_and] at h
    exact ⟨h.2, h.1⟩
  | none =>
    refine ⟨h, ?_⟩
    cases v <;> first | rfl | simp [anyB] at ha
section
variable {R : Type} {r : R} {P : Program} {ty : TypeId → Option TC} {E : Env} {nn : Nat}
theorem got_cons {d : Option Nat} {e : Eff} {rows : List Row} {ts : List (Nat × AV)} {hs : List (Name × AO)} {ts' : List (Nat × AV)} {hs' : List (Name × AO)} (h1 : ∀ t x, (t, x) ∈ e.rd → look t ts = some x) (h2 : ∀ n o, (n, o) ∈ e.hp → look n hs = some o)
    (hd : dstOK nn d = true) (hnw : newOK e ts hs = true) (h : got nn rows (putT ts d e) (e.upd ++ hs) = (wantS rows, wantH rows, true, ts', hs')) : got nn ((d, e) :: rows) ts hs = (wantS ((d, e) :: rows), wantH ((d, e) :: rows), true, ts', hs') := by
  simp only [got, h, wantS, wantH, hd, hnw, Bool.and_self]
  have e1 : e.rd.map (fun p => look p.1 ts) = e.rd.map (fun p => some p.2) := List.map_congr_left fun p hp => h1 p.1 p.2 hp
  have e2 : e.hp.map (fun p => look p.1 hs) = e.hp.map (fun p => some p.2) := List.map_congr_left fun p hp => h2 p.1 p.2 hp
  rw [e1, e2]
theorem dregK_some {sp : Bool} {mm : Nat} {ops : Array Oper} {K : List BRow → TS → HS → Option R} (hE : EnvOK P E) : ∀ (f i : Nat) (acc : List BRow) (ts : TS) (hs : HS) (L : Lens), dregK P ty E nn ops sp mm K f i acc ts hs = some r → Inv L hs →
    ∃ rows ts' hs' L', K (acc.reverse ++ rows) ts' hs' = some r ∧ Inv L' hs' ∧ StepsM P ops mm i (rows.map (BRow.row L')) ∧ erT L ts = erT L' ts ∧ erH L hs = erH L' hs ∧
      got nn (rows.map (BRow.row L')) (erT L' ts) (erH L' hs) = (wantS (rows.map (BRow.row L')), wantH (rows.map (BRow.row L')), true, erT L' ts', erH L' hs')
  | 0, i, acc, ts, hs, L, h, hi => by
    simp only [dregK] at h
    split at h
    · rename_i e
      exact ⟨[], ts, hs, L, by simpa using h, hi, Nat.eq_of_beq_eq_true e, rfl, rfl, by simp only [List.map_nil, got, wantS, wantH]⟩
    · simp at h
  | f + 1, i, acc, ts, hs, L, h, hi => by
    simp only [dregK] at h
    split at h
    · simp at h
    · rename_i o hop
      have hdo : ∀ (x : TS), (∀ t v, (t, v) ∈ x → look t ts = some v) → (∀ e' : Eff, (∀ p, p ∈ x → (p.1, p.2.er L) ∈ e'.rd) → OpOK P o e' → StepOK P ops i o.dst e') →
          opK P ty E sp nn x o ts hs (fun e ts' hs' => if anyB o.dst e.v then dregK P ty E nn ops sp mm K f (i + 1) ((o.dst, x ++ rdB ts o.op.operands.toList, e) :: acc) ts' hs' else none) = some r →
          ∃ rows ts' hs' L', K (acc.reverse ++ rows) ts' hs' = some r ∧ Inv L' hs' ∧ StepsM P ops mm i (rows.map (BRow.row L')) ∧ erT L ts = erT L' ts ∧ erH L hs = erH L' hs ∧
            got nn (rows.map (BRow.row L')) (erT L' ts) (erH L' hs) = (wantS (rows.map (BRow.row L')), wantH (rows.map (BRow.row L')), true, erT L' ts', erH L' hs') := fun x hx hstp h => by
        obtain ⟨e, L1, hst, hd, h⟩ := opK_some hE hx h hi
        split at h
        case isFalse => simp at h
        rename_i hany
        obtain ⟨rows, ts', hs', L', k1, k2, k3, k4, k5, k6⟩ := dregK_some (sp := sp) (mm := mm) (ops := ops) (K := K) hE f (i + 1) _ _ _ L1 h hst.inv
        obtain ⟨p1, p2⟩ := erT_put k4 hany
        obtain ⟨q1, q2⟩ := erH_app k5
        have hts : erT L ts = erT L' ts := hst.ets.trans p1
        have hhs : erH L hs = erH L' hs := hst.ehs.trans q2
        have hrd := erT_sub hts hst.rds
        have hhp := erH_sub hhs hst.hps
        have hok := hst.ok
        rw [p2, q1] at hok
        refine ⟨(o.dst, x ++ rdB ts o.op.operands.toList, e) :: rows, ts', hs', L', by simpa using k1, k2, ⟨?_, k3⟩, hts, hhs, ?_⟩
        · have := hstp _ (fun p hp => List.mem_map.2 ⟨p, List.mem_append_left _ hp, rfl⟩) hok
          simp only [BRow.row, ← hrd, ← hhp]; exact this
        · simp only [List.map_cons]
          refine got_cons (fun t y hy => ?_) (fun n ob hy => ?_) hd ?_ ?_
          · simp only [BRow.row, erT, List.mem_map] at hy
            obtain ⟨⟨t', v⟩, hm, he⟩ := hy
            cases he
            rw [look_erT, hst.rds _ _ hm]; rfl
          · simp only [BRow.row, erH, List.mem_map] at hy
            obtain ⟨⟨t', v⟩, hm, he⟩ := hy
            cases he
            rw [look_erH, hst.hps _ _ hm]; rfl
          · have hnew := hst.new
            unfold newBs at hnew
            simp only [newOK, BRow.row, freeS_er, keys_erH]
            refine List.all_eq_true.2 fun n hn => ?_
            have := List.all_eq_true.1 hnew n hn
            simp only [Bool.and_eq_true] at this ⊢
            refine ⟨⟨?_, this.1.2⟩, this.2⟩
            rw [look_erH]
            cases hl : look n hs with
            | none => rfl
            | some y => rw [hl] at this; simp at this
          · have e3 : ∀ t1 h1, t1 = erT L' (putB o.dst e.v ts) → h1 = erH L' (e.upd ++ hs) → got nn (rows.map (BRow.row L')) t1 h1 = (wantS (rows.map (BRow.row L')), wantH (rows.map (BRow.row L')), true, erT L' ts', erH L' hs') := fun t1 h1 a b => by rw [a, b]; exact k6
            exact e3 _ _ (by show putT (erT L' ts) o.dst _ = _; cases o.dst <;> rfl) (by rw [erH_append])
      have hskip : ∀ {j : Nat} {b : Bool} {g : Nat} {v : BV}, o.guard = some (j, b) → (ops[j]?).bind (·.dst) = some g → look g ts = some v → (v = .b (!b) ∨ v = .tup []) →
          (if dstOK nn o.dst then dregK P ty E nn ops sp mm K f (i + 1) ((o.dst, [(g, v)], ev (.tup [])) :: acc) (putB o.dst (.tup []) ts) hs else none) = some r →
          ∃ rows ts' hs' L', K (acc.reverse ++ rows) ts' hs' = some r ∧ Inv L' hs' ∧ StepsM P ops mm i (rows.map (BRow.row L')) ∧ erT L ts = erT L' ts ∧ erH L hs = erH L' hs ∧
            got nn (rows.map (BRow.row L')) (erT L' ts) (erH L' hs) = (wantS (rows.map (BRow.row L')), wantH (rows.map (BRow.row L')), true, erT L' ts', erH L' hs') := fun {j b g v} hg hj hl hv h => by
        split at h
        case isFalse => simp at h
        rename_i hd
        obtain ⟨rows, ts', hs', L', k1, k2, k3, k4, k5, k6⟩ := dregK_some (sp := sp) (mm := mm) (ops := ops) (K := K) hE f (i + 1) _ _ _ L h hi
        have hts : erT L ts = erT L' ts := by
          cases hdd : o.dst with
          | none => rw [hdd] at k4; exact k4
          | some d => rw [hdd] at k4; simp only [putB, erT, List.map_cons, List.cons.injEq] at k4; exact k4.2
        obtain ⟨oj, h1, h2⟩ := bind_some hj
        refine ⟨(o.dst, [(g, v)], ev (.tup [])) :: rows, ts', hs', L', by simpa using k1, k2, ⟨?_, k3⟩, hts, k5, ?_⟩
        · rcases hv with rfl | rfl
          · exact StepOK.skipped hop hg h1 h2
          · exact StepOK.skipped2 hop hg h1 h2
        · simp only [List.map_cons]
          refine got_cons (fun t y hy => ?_) (fun n ob hy => ?_) hd ?_ ?_
          · simp only [BRow.row, erT, List.map_cons, List.map_nil, List.mem_singleton, Prod.mk.injEq] at hy
            obtain ⟨rfl, rfl⟩ := hy
            rw [look_erT, hl]; rfl
          · simp [BRow.row, ev, erH] at hy
          · simp [newOK, BRow.row, ev]
          · have e3 : ∀ t1 h1, t1 = erT L' (putB o.dst (.tup []) ts) → h1 = erH L' hs → got nn (rows.map (BRow.row L')) t1 h1 = (wantS (rows.map (BRow.row L')), wantH (rows.map (BRow.row L')), true, erT L' ts', erH L' hs') := fun t1 h1 a b => by rw [a, b]; exact k6
            exact e3 _ _ (by show putT (erT L' ts) o.dst _ = _; cases o.dst <;> rfl) rfl
      have hgd : ∀ {j : Nat} {b : Bool} {g : Nat}, o.guard = some (j, b) → (ops[j]?).bind (·.dst) = some g → ∀ e' : Eff, (∀ p : Nat × BV, p ∈ [(g, BV.b b)] → (p.1, p.2.er L) ∈ e'.rd) → OpOK P o e' → StepOK P ops i o.dst e' := fun {j b g} hg hj e' hm hok => by
        obtain ⟨oj, h1, h2⟩ := bind_some hj
        have := hm (g, BV.b b) (by simp)
        simp only [BV.er] at this
        exact StepOK.guarded hop hg h1 h2 this hok
      have hx1 : ∀ {g : Nat} {b : Bool}, look g ts = some (.b b) → ∀ t v, (t, v) ∈ [(g, BV.b b)] → look t ts = some v := fun hl t v hm => by
        grind
      split at h
      · rename_i hg
        exact hdo [] (fun t v hm => by simp at hm) (fun e' _ hok => StepOK.plain hop hg hok) h
      · rename_i j b hg
        split at h
        · simp at h
        · rename_i g hj
          split at h
          · rename_i q hl
            rcases cnd_some h with ⟨rfl, h⟩ | ⟨rfl, h⟩
            · grind
            · grind
          · grind
          · simp at h
mutual
theorem ren_id : ∀ x : AV, x.ren (fun n => n) = x
  | .p _ => by simp only [AV.ren]
  | .agg cs => by simp only [AV.ren, renL_id cs]
  | .ref _ _ => by simp only [AV.ren]
  | .sref _ => by simp only [AV.ren]
  | .own _ _ => by simp only [AV.ren]
  | .aref _ _ _ _ => by simp only [AV.ren]
  | .view _ _ _ _ => by simp only [AV.ren]
  | .cut _ _ _ => by simp only [AV.ren]
  | .eptr _ => by simp only [AV.ren]
  | .tup vs => by simp only [AV.ren, renL_id vs]
  | .clo f a c => by simp only [AV.ren, renL_id a, renL_id c]
  | .oref _ _ => by simp only [AV.ren]
  | .err _ => by simp only [AV.ren]
  | .ub => by simp only [AV.ren]
  | .any => by simp only [AV.ren]
theorem renL_id : ∀ l : List AV, renL (fun n => n) l = l
  | [] => by simp only [renL]
  | x :: r => by simp only [renL, ren_id x, renL_id r]
end
theorem verOf_fit {σ : Ren} (h : idRen σ = true) : Fit (fun n => n) (verOf σ) σ := fun nm m hm => by
  have := List.all_eq_true.1 h _ hm
  simp only [Bool.and_eq_true] at this
  refine ⟨Nat.eq_of_beq_eq_true this.1, ?_⟩
  unfold verOf; rw [lookIs_of this.2]
theorem getS_some {gn : List Name} {s : List (Nat × SSh)} {o : List (Name × OSh)} {K : STL s × OL o → Option R} (h : getS gn s o ts hs K = some r) (hi : Inv L hs) :
    ∃ x L', K x = some r ∧ Inv L' (OL.put 0 o x.2) ∧ SLe L ts hs L' (STL.put 0 s x.1) (OL.put 0 o x.2) ∧ ∀ n, n ∈ gn → look n (OL.put 0 o x.2) ≠ none := by
  obtain ⟨σ1, x, h, hs1, g1⟩ := STL.get_some h
  obtain ⟨σ2, y, h, hs2, g2⟩ := OL.get_some h
  split at h
  case isFalse => simp at h
  rename_i hid
  simp only [Bool.and_eq_true] at hid
  have hf2 := verOf_fit hid.1
  have hf1 : Fit (fun n => n) (verOf σ2) σ1 := hf2.mono fun p hp => hs2 p (List.mem_append_right _ hp)
  refine ⟨(x, y), lensOf L (fun n => n) (verOf σ2), h, fun n t l v hn => ?_, ⟨fun t b hb => ?_, fun n cs' hn => ?_, fun n t l v hn => ?_, fun n es hn => ?_⟩, fun n hn hc => ?_⟩
  · obtain ⟨a, ha, hle⟩ := g2 _ _ L hf2 n _ hn
    rcases hle with ⟨cs, ds, _, h2, _⟩ | ⟨t', l', rfl, h2⟩ | ⟨es, _, h2⟩
    · cases h2
    · cases h2; exact hi n t l _ ha
    · cases h2
  · obtain ⟨a, ha, hle⟩ := g1 _ _ L hf1 t b hb
    rw [ren_id] at hle
    exact ⟨a, ha, hle⟩
  · obtain ⟨a, ha, hle⟩ := g2 _ _ L hf2 n _ hn
    rcases hle with ⟨cs, ds, rfl, h2, h3⟩ | ⟨t', l', rfl, h2⟩ | ⟨es, _, h2⟩
    · cases h2; rw [renL_id] at h3; exact ⟨cs, ha, h3.1⟩
    · cases h2
    · cases h2
  · obtain ⟨a, ha, hle⟩ := g2 _ _ L hf2 n _ hn
    rcases hle with ⟨cs, ds, _, h2, _⟩ | ⟨t', l', rfl, h2⟩ | ⟨es, _, h2⟩
    · cases h2
    · cases h2; exact ⟨_, ha⟩
    · cases h2
  · obtain ⟨a, ha, hle⟩ := g2 _ _ L hf2 n _ hn
    rcases hle with ⟨cs, ds, _, h2, _⟩ | ⟨t', l', rfl, h2⟩ | ⟨es, rfl, h2⟩
    · cases h2
    · cases h2
    · cases h2; exact ha
  · have := isIn_iff.1 (List.all_eq_true.1 hid.2 n hn)
    obtain ⟨b, hb⟩ := look_put (u := 0) (y := y) this
    simp_all
theorem look_map : ∀ (l : List (Nat × AV)), ∃ l', (∀ k, look k l' = look k l) ∧ l'.map (fun p => look p.1 l) = l'.map (fun p => some p.2) := by
    intro l
    induction l with
    | nil => exact ⟨[], fun _ => rfl, rfl⟩
    | cons p l ih =>
      obtain ⟨l', g1, g2⟩ := ih
      refine ⟨p :: (l'.filter fun q => !(q.1 == p.1)), fun k => ?_, ?_⟩
      · simp only [look]
        split
        · rfl
        · rename_i hne
          rw [← g1]
          clear g1 g2
          induction l' with
          | nil => rfl
          | cons q l' ih =>
            by_cases hq : q.1 = p.1
            · rw [List.filter_cons_of_neg (by simp [hq]), ih]
              simp only [look]
              simp_all
            · rw [List.filter_cons_of_pos (by simp [hq])]
              simp only [look]
              simp_all
      · simp only [List.map_cons, look, if_true]
        congr 1
        refine List.map_congr_left fun q hq => ?_
        have hq' := List.mem_filter.1 hq
        have hne : ¬ p.1 = q.1 := fun e => by have := hq'.2; rw [e] at this; simp at this
        rw [if_neg hne]
        exact (List.map_inj_left.1 g2) q hq'.1
theorem thaw_agg {Γ : Ctx} {t nm : Nat} {j es0 : Nat} {tc : TC} {cells : List BV} {v : BV} (hm : look t ts = some (.agg cells)) (hj : cells[j]? = some v) (hv : ∀ L, v.er L = .p (.sl true es0 [])) (hb : (look nm hs).isNone = true) (hf : freeS nm ts hs = true) (ht : Nat.ble 1 (tz tc) = true) (hi : Inv L hs) :
    ∃ L', Inv L' ((nm, .arr tc [] 0) :: hs) ∧ Weak Γ (BS L ts hs) (BS L' ((t, .agg (cells.set j (.own nm 0))) :: ts) ((nm, .arr tc [] 0) :: hs)) := by
  let L1 : Lens := fun n u => if n = nm then 0 else L n u
  have hnm : look nm hs = none := Option.isNone_iff_eq_none.1 hb
  obtain ⟨e1, e2⟩ := erS_congr (L := L) (L' := L1) (nw := [nm]) (nv := []) (ts := ts) (hs := hs) (fun n hn => by simp only [List.mem_singleton] at hn; subst hn; exact hf) (fun p hp => by simp at hp) (fun n u hn _ => if_neg (by simpa using hn))
  have ec : erL L cells = erL L1 cells := by
    have h1 : look t (erT L ts) = look t (erT L1 ts) := by rw [e1]
    rw [look_erT, look_erT, hm, Option.map_some, Option.map_some] at h1
    simp only [BV.er, Option.some.injEq, AV.agg.injEq] at h1
    exact h1
  have hi1 : Inv L1 ((nm, .arr tc [] 0) :: hs) := fun n t' l u hn => by
    simp only [look] at hn
    split at hn
    · grind
    · rename_i e; show (if n = nm then 0 else L n u) = _; rw [if_neg (Ne.symm e)]; exact hi n t' l u hn
  refine ⟨L1, hi1, fun ρ M a w hs0 => ?_⟩
  obtain ⟨l', g1, g2⟩ := look_map ((t, AV.agg ((erL L cells).set j (.own nm 0))) :: erT L ts)
  have hw := Weak.thawA (Γ := Γ) (ts := erT L ts) (ts' := l') (hs := erH L hs) (t := t) (j := j) (es0 := es0) (es := tz tc) (n := nm) (cells := erL L cells) ht (by rw [look_erT, hm, Option.map_some]; simp only [BV.er])
    (by rw [erL_get, hj, Option.map_some, hv L]) (by rw [look_erH, hnm]; rfl) (by rw [freeS_er]; exact hf) g2
  obtain ⟨ρ', M', hs1⟩ := hw ρ M a w hs0
  refine ⟨ρ', M', hs1.congr (fun k => ?_) (fun k => ?_)⟩
  · show look k (erT L1 ((t, .agg (cells.set j (.own nm 0))) :: ts)) = look k l'
    rw [g1]
    have : erL L1 (cells.set j (.own nm 0)) = (erL L cells).set j (.own nm 0) := by
      rw [ec, erL_map, erL_map, List.map_set]
      simp only [BV.er, show L1 nm 0 = 0 from if_pos rfl]
    show look k ((t, (BV.agg (cells.set j (.own nm 0))).er L1) :: erT L1 ts) = _
    simp only [BV.er, this, ← e1]
  · show look k (erH L1 ((nm, .arr tc [] 0) :: hs)) = look k ((nm, .arr (tz tc) []) :: erH L hs)
    show look k ((nm, (BO.arr tc [] 0).er L1) :: erH L1 hs) = _
    simp only [BO.er, List.map_nil, ← e2]
theorem thawA_some {o : List (Name × OSh)} {t : Nat} {Γ : Ctx} : ∀ {l : List Sh} {j : Nat} {ts : TS} {hs : HS} {L : Lens} {K : TS → HS → Option R}, thawA o t j l ts hs K = some r → Inv L hs →
    ∃ ts' hs' L', K ts' hs' = some r ∧ Inv L' hs' ∧ Weak Γ (BS L ts hs) (BS L' ts' hs')
  | [], j, ts, hs, L, K, h, hi => ⟨ts, hs, L, h, hi, Weak.refl _ _⟩
  | s :: l, j, ts, hs, L, K, h, hi => by
    have hth : ∀ {nm : Name} {tc : TC} {v : BV} {es0 : Nat} {cells : List BV}, look t ts = some (.agg cells) → cells[j]? = some v → (∀ L, v.er L = .p (.sl true es0 [])) →
        (if (look nm hs).isNone && freeS nm ts hs && Nat.ble 1 (tz tc) then thawA o t (j + 1) l ((t, .agg (cells.set j (.own nm 0))) :: ts) ((nm, .arr tc [] 0) :: hs) K else none) = some r →
        ∃ ts' hs' L', K ts' hs' = some r ∧ Inv L' hs' ∧ Weak Γ (BS L ts hs) (BS L' ts' hs') := fun {nm tc v es0 cells} hm hj hv h => by
      split at h
      case isFalse => simp at h
      rename_i hb
      simp only [Bool.and_eq_true] at hb
      obtain ⟨L1, hi1, hw1⟩ := thaw_agg (Γ := Γ) hm hj hv hb.1.1 hb.1.2 hb.2 hi
      obtain ⟨ts', hs', L', k1, k2, k3⟩ := thawA_some h hi1
      exact ⟨ts', hs', L', k1, k2, Weak.trans hw1 k3⟩
    unfold thawA at h
    split at h
    · rename_i heq; cases heq
    · rename_i nm r0 heq
      cases heq
      split at h
      · rename_i cells hm
        split at h
        · rename_i tc hj ho; exact hth (es0 := 0) hm hj (fun L => by simp only [BV.er]) h
        · rename_i t0 tc hj ho; exact hth (es0 := tz t0) hm hj (fun L => by simp only [BV.er, List.map_nil]) h
        · exact thawA_some h hi
      · exact thawA_some h hi
    · rename_i heq; cases heq; exact thawA_some h hi
theorem thawK_some {o : List (Name × OSh)} {Γ : Ctx} : ∀ {s : List (Nat × SSh)} {ts : TS} {hs : HS} {L : Lens} {K : TS → HS → Option R}, thawK o s ts hs K = some r → Inv L hs →
    ∃ ts' hs' L', K ts' hs' = some r ∧ Inv L' hs' ∧ Weak Γ (BS L ts hs) (BS L' ts' hs')
  | [], ts, hs, L, K, h, hi => ⟨ts, hs, L, h, hi, Weak.refl _ _⟩
  | p :: s, ts, hs, L, K, h, hi => by
    obtain ⟨t, sh⟩ := p
    have hth : ∀ {nm : Name} {tc : TC} {v : BV} {es0 : Nat}, look t ts = some v → (∀ L, v.er L = .p (.sl true es0 [])) →
        (if (look nm hs).isNone && freeS nm ts hs && Nat.ble 1 (tz tc) then thawK o s ((t, .own nm 0) :: ts) ((nm, .arr tc [] 0) :: hs) K else none) = some r →
        ∃ ts' hs' L', K ts' hs' = some r ∧ Inv L' hs' ∧ Weak Γ (BS L ts hs) (BS L' ts' hs') := fun {nm tc v es0} hv hv2 h => by
      split at h
      case isFalse => simp at h
      rename_i hb
      simp only [Bool.and_eq_true, Option.isNone_iff_eq_none] at hb
      let L1 : Lens := fun n u => if n = nm then 0 else L n u
      obtain ⟨e1, e2⟩ := erS_congr (L := L) (L' := L1) (nw := [nm]) (nv := []) (ts := ts) (hs := hs) (fun n hn => by simp only [List.mem_singleton] at hn; subst hn; exact hb.1.2) (fun p hp => by simp at hp) (fun n u hn _ => if_neg (by simpa using hn))
      have hi1 : Inv L1 ((nm, .arr tc [] 0) :: hs) := fun n t' l u hn => by
        simp only [look] at hn
        split at hn
        · rename_i e; subst e; cases hn; exact if_pos rfl
        · rename_i e; show (if n = nm then 0 else L n u) = _; rw [if_neg (Ne.symm e)]; exact hi n t' l u hn
      obtain ⟨ts', hs', L', k1, k2, k3⟩ := thawK_some (Γ := Γ) h hi1
      refine ⟨ts', hs', L', k1, k2, Weak.trans ?_ k3⟩
      obtain ⟨l', g1, g2⟩ := look_map ((t, .own nm 0) :: erT L ts)
      have hw := Weak.thaw (Γ := Γ) (ts := erT L ts) (ts' := l') (hs := erH L hs) (t := t) (es0 := es0) (es := tz tc) (n := nm) hb.2 (by rw [look_erT, hv, Option.map_some, hv2 L]) (by rw [look_erH, hb.1.1]; rfl) (by rw [freeS_er]; exact hb.1.2) g2
      refine fun ρ M a w hs0 => ?_
      obtain ⟨ρ', M', hs1⟩ := hw ρ M a w hs0
      refine ⟨ρ', M', hs1.congr (fun k => ?_) (fun k => ?_)⟩
      · show look k (erT L1 ((t, .own nm 0) :: ts)) = look k l'
        rw [g1]
        show look k ((t, (BV.own nm 0).er L1) :: erT L1 ts) = _
        simp only [BV.er, show L1 nm 0 = 0 from if_pos rfl, ← e1]
      · show look k (erH L1 ((nm, .arr tc [] 0) :: hs)) = look k ((nm, .arr (tz tc) []) :: erH L hs)
        show look k ((nm, (BO.arr tc [] 0).er L1) :: erH L1 hs) = _
        simp only [BO.er, List.map_nil, ← e2]
    unfold thawK at h
    split at h
    · rename_i t1 l1 r0 heq
      cases heq
      obtain ⟨ts1, hs1, L1, h, hi1, hw1⟩ := thawA_some (Γ := Γ) h hi
      obtain ⟨ts2, hs2, L2, h, hi2, hw2⟩ := thawK_some (Γ := Γ) h hi1
      exact ⟨ts2, hs2, L2, h, hi2, Weak.trans hw1 hw2⟩
    · rename_i nm r0 heq
      split at h
      · rename_i tc hv ho
        cases heq
        exact hth (es0 := 0) hv (fun L => by simp only [BV.er]) h
      · rename_i t0 tc hv ho
        cases heq
        exact hth (es0 := tz t0) hv (fun L => by simp only [BV.er, List.map_nil]) h
      · cases heq; exact thawK_some h hi
    · rename_i heq; cases heq; exact thawK_some h hi
    · rename_i heq; cases heq
theorem thaw_cell {Γ : Ctx} {m nm : Name} {j es0 : Nat} {tc : TC} {cells : List BV} {v : BV} (hm : look m hs = some (.box cells)) (hj : cells[j]? = some v) (hv : ∀ L, v.er L = .p (.sl true es0 [])) (hb : (look nm hs).isNone = true) (hf : freeS nm ts hs = true) (ht : Nat.ble 1 (tz tc) = true) (hi : Inv L hs) :
    ∃ L', Inv L' ((m, .box (cells.set j (.own nm 0))) :: (nm, .arr tc [] 0) :: hs) ∧ Weak Γ (BS L ts hs) (BS L' ts ((m, .box (cells.set j (.own nm 0))) :: (nm, .arr tc [] 0) :: hs)) := by
  let L1 : Lens := fun n u => if n = nm then 0 else L n u
  have hnm : look nm hs = none := Option.isNone_iff_eq_none.1 hb
  have hne : m ≠ nm := fun e => by subst e; rw [hnm] at hm; simp at hm
  obtain ⟨e1, e2⟩ := erS_congr (L := L) (L' := L1) (nw := [nm]) (nv := []) (ts := ts) (hs := hs) (fun n hn => by simp only [List.mem_singleton] at hn; subst hn; exact hf) (fun p hp => by simp at hp) (fun n u hn _ => if_neg (by simpa using hn))
  have ec : erL L cells = erL L1 cells := by
    have := erH_mem e2 (look_mem hm)
    simp only [BO.er, AO.box.injEq] at this
    exact this
  refine ⟨L1, fun n t' l u hn => ?_, fun ρ M a w hs0 => ?_⟩
  · simp only [look] at hn
    split at hn
    · cases hn
    · split at hn
      · grind
      · rename_i e; show (if n = nm then 0 else L n u) = _; rw [if_neg (Ne.symm e)]; exact hi n t' l u hn
  · have hs1 : Sim Γ ρ M (mk (erT L ts) ((m, .box (erL L cells)) :: erH L hs)) a w := hs0.congr (fun k => rfl) (fun k => by
      show look k ((m, AO.box (erL L cells)) :: erH L hs) = look k (erH L hs)
      simp only [look]
      split
      · rename_i e; subst e; rw [look_erH, hm]; rfl
      · rfl)
    have hfree : freeIn nm (erT L ts) ((m, .box (erL L cells)) :: erH L hs) = true := by
      have h1 := hf
      rw [← freeS_er (L := L)] at h1
      simp only [freeIn, Bool.and_eq_true, List.all_cons] at h1 ⊢
      have h2 := List.all_eq_true.1 h1.2 _ (show (m, AO.box (erL L cells)) ∈ erH L hs from look_mem (by rw [look_erH, hm]; rfl))
      exact ⟨h1.1, h2, h1.2⟩
    obtain ⟨ρ', M', hs2⟩ := Weak.thawCell (Γ := Γ) (ts := erT L ts) (hs' := erH L hs) (m := m) (j := j) (es0 := es0) (es := tz tc) (n := nm) (cells := erL L cells) ht rfl (by rw [erL_get, hj, Option.map_some, hv L])
      (by simp only [look, if_neg hne, look_erH, hnm]; rfl) hfree rfl ρ M a w hs1
    refine ⟨ρ', M', hs2.congr (fun k => ?_) (fun k => ?_)⟩
    · show look k (erT L1 ts) = look k (erT L ts)
      rw [e1]
    · show look k (erH L1 ((m, .box (cells.set j (.own nm 0))) :: (nm, .arr tc [] 0) :: hs)) = look k ((m, .box ((erL L cells).set j (.own nm 0))) :: (nm, .arr (tz tc) []) :: erH L hs)
      have : erL L1 (cells.set j (.own nm 0)) = (erL L cells).set j (.own nm 0) := by
        rw [ec, erL_map, erL_map, List.map_set]
        simp only [BV.er, show L1 nm 0 = 0 from if_pos rfl]
      show look k ((m, AO.box (erL L1 (cells.set j (.own nm 0)))) :: (nm, (BO.arr tc [] 0).er L1) :: erH L1 hs) = _
      rw [this, ← e2]
      simp only [BO.er, List.map_nil]
theorem thawC_some {o : List (Name × OSh)} {m : Name} {Γ : Ctx} : ∀ {l : List Sh} {j : Nat} {hs : HS} {L : Lens} {K : HS → Option R}, thawC o m ts j l hs K = some r → Inv L hs →
    ∃ hs' L', K hs' = some r ∧ Inv L' hs' ∧ Weak Γ (BS L ts hs) (BS L' ts hs')
  | [], j, hs, L, K, h, hi => ⟨hs, L, h, hi, Weak.refl _ _⟩
  | s :: l, j, hs, L, K, h, hi => by
    have hth : ∀ {nm : Name} {tc : TC} {v : BV} {es0 : Nat} {cells : List BV}, look m hs = some (.box cells) → cells[j]? = some v → (∀ L, v.er L = .p (.sl true es0 [])) →
        (if (look nm hs).isNone && freeS nm ts hs && Nat.ble 1 (tz tc) then thawC o m ts (j + 1) l ((m, .box (cells.set j (.own nm 0))) :: (nm, .arr tc [] 0) :: hs) K else none) = some r →
        ∃ hs' L', K hs' = some r ∧ Inv L' hs' ∧ Weak Γ (BS L ts hs) (BS L' ts hs') := fun {nm tc v es0 cells} hm hj hv h => by
      split at h
      case isFalse => simp at h
      rename_i hb
      simp only [Bool.and_eq_true] at hb
      obtain ⟨L1, hi1, hw1⟩ := thaw_cell (Γ := Γ) hm hj hv hb.1.1 hb.1.2 hb.2 hi
      obtain ⟨hs', L', k1, k2, k3⟩ := thawC_some h hi1
      exact ⟨hs', L', k1, k2, Weak.trans hw1 k3⟩
    unfold thawC at h
    split at h
    · rename_i heq; cases heq
    · rename_i nm r0 heq
      cases heq
      split at h
      · rename_i cells hm
        split at h
        · rename_i tc hj ho; exact hth (es0 := 0) hm hj (fun L => by simp only [BV.er]) h
        · rename_i t0 tc hj ho; exact hth (es0 := tz t0) hm hj (fun L => by simp only [BV.er, List.map_nil]) h
        · exact thawC_some h hi
      · exact thawC_some h hi
    · rename_i heq; cases heq; exact thawC_some h hi
theorem thawO_some {o : List (Name × OSh)} {Γ : Ctx} : ∀ {l : List (Name × OSh)} {hs : HS} {L : Lens} {K : HS → Option R}, thawO o ts l hs K = some r → Inv L hs →
    ∃ hs' L', K hs' = some r ∧ Inv L' hs' ∧ Weak Γ (BS L ts hs) (BS L' ts hs')
  | [], hs, L, K, h, hi => ⟨hs, L, h, hi, Weak.refl _ _⟩
  | p :: l, hs, L, K, h, hi => by
    unfold thawO at h
    split at h
    · rename_i m l0 r0 heq
      cases heq
      obtain ⟨hs1, L1, h, hi1, hw1⟩ := thawC_some (Γ := Γ) h hi
      obtain ⟨hs2, L2, h, hi2, hw2⟩ := thawO_some h hi1
      exact ⟨hs2, L2, h, hi2, Weak.trans hw1 hw2⟩
    · rename_i heq; cases heq; exact thawO_some h hi
    · rename_i heq; cases heq
end
end
section
theorem lastB_get {ops : Array Oper} {o : Oper} (h : lastB ops = true) (ho : ops[ops.size - 1]? = some o) : o.guard = none ∧ ∀ j, j < ops.size - 1 → ((masks ops.toList []).getD (ops.size - 1) 0).testBit j = true := by
  unfold lastB at h
  grind
variable {L L' : Lens} {ts ts' : TS} {hs hs' : HS}
section
variable {R : Type} {r : R} {P : Program} {ty : TypeId → Option TC} {E : Env} {gn : List Name} {nn fu : Nat} {Γ : Ctx}
def QK (K : Cont R) (r : R) : Exit → AS → Prop := fun e s' => ∃ ts' hs' L', s' = BS L' ts' hs' ∧ Inv L' hs' ∧ K e ts' hs' = some r
theorem keepB_gn {o : List (Name × OSh)} {n : Name} (hn : n ∈ gn) : keepB gn o hs n = true := by
  unfold keepB
  split
  · rw [isIn_iff.2 hn, Bool.or_true]
  · rfl
theorem keepA_gn {o : List (Name × OSh)} {n : Name} (hn : n ∈ gn) : keepA gn o ts hs n = true := by
  unfold keepA
  split
  · rw [isIn_iff.2 hn, Bool.true_or, Bool.true_or]
  · rfl
theorem shapeK_some {s : List (Nat × SSh)} {o : List (Name × OSh)} {K : STL s × OL o → Option R} (hgn : Γ.names = gn) (h : shapeK gn s o ts hs K = some r) (hi : Inv L hs) :
    ∃ x L', K x = some r ∧ Inv L' (OL.put 0 o x.2) ∧ Weak Γ (BS L ts hs) (BS L' (STL.put 0 s x.1) (OL.put 0 o x.2)) := by
  unfold shapeK at h
  simp only [trimC_eq] at h
  obtain ⟨ts1, hs1, h, hi1, hw1⟩ := frzK_some hgn h (hi.trim (f := keepB gn o hs))
  obtain ⟨ts2, hs2, L2, h, hi2, hw2⟩ := thawK_some (Γ := Γ) h (hi1.trim (f := keepA gn o ts1 hs1))
  obtain ⟨hs2', L2', h, hi2', hw2'⟩ := thawO_some (Γ := Γ) h hi2
  obtain ⟨x, L3, h, hi3, hle, hk⟩ := getS_some h hi2'
  refine ⟨x, L3, h, hi3, fun ρ M a w hs0 => ?_⟩
  obtain ⟨ρ1, M1, h1⟩ := hw1 ρ M a w (hs0.only (f := keepT s) (g := keepB gn o hs) fun n hn => keepB_gn (by rw [← hgn]; exact hn))
  have h1' : Sim Γ ρ1 M1 (BS L ts1 (trimL (keepA gn o ts1 hs1) [] hs1)) a w := by
    have h2 := h1.only (f := fun _ => true) (g := keepA gn o ts1 hs1) fun n hn => keepA_gn (by rw [← hgn]; exact hn)
    refine h2.congr (fun t => ?_) (fun n => rfl)
    show (BS L ts1 (trimL (keepA gn o ts1 hs1) [] hs1)).slot t = (BS L (trimL (fun _ => true) [] ts1) (trimL (keepA gn o ts1 hs1) [] hs1)).slot t
    rw [BS_slot, BS_slot, look_trimL]; rfl
  obtain ⟨ρ2', M2', h2'⟩ := hw2 ρ1 M1 a w h1'
  obtain ⟨ρ2, M2, h2⟩ := hw2' ρ2' M2' a w h2'
  have h3 : Sim Γ ρ2 M2 (BS L2' (viewT hs2' s ts2) hs2') a w := by
    refine h2.leS (fun t y hy => ?_) (fun n => ⟨fun y hy => ⟨y, hy, .refl _⟩, fun x hx => ⟨x, hx, .refl _⟩⟩) (fun n x y hx hy => ?_)
    · obtain ⟨y', hy', rfl⟩ := slot_of hy
      obtain ⟨x', hx', hle'⟩ := viewT_le hi2' hy'
      exact ⟨x'.er L2', by rw [BS_slot, hx']; rfl, hle'⟩
    · rw [BS_heap] at hx hy; rw [hx] at hy; cases hy; exact .inl rfl
  exact ⟨ρ2, M2, h3.sle hle (by rw [hgn]; exact hk)⟩
theorem around_ok {c : Code} {an : Ann} {K : Cont R} {body : Ann → TS → HS → Cont R → Option R} (hgn : Γ.names = gn) (h : around gn an ts hs K body = some r) (hi : Inv L hs)
    (hb : ∀ an ts hs L K, body an ts hs K = some r → Inv L hs → AWp P Γ c (BS L ts hs) (QK K r)) : AWp P Γ c (BS L ts hs) (QK K r) := by
  unfold around at h
  split at h
  · rename_i s o a
    refine AWp.post ((hb _ _ _ L _ h hi).mono fun e s' => ?_)
    rintro ⟨ts', hs', L', rfl, hi', hk⟩
    cases e with
    | normal =>
      obtain ⟨x, L2, h2, hi2, hw⟩ := shapeK_some hgn hk hi'
      exact ⟨_, hw, _, _, L2, rfl, hi2, h2⟩
    | _ => exact ⟨_, Weak.refl _ _, _, _, L', rfl, hi', hk⟩
  · obtain ⟨ts1, hs1, h, hi1, hw1⟩ := frzK_some hgn h hi
    exact AWp.weaken _ (fun ρ M a w hs0 => hw1 ρ M a w hs0) (hb _ _ _ L _ h hi1)
  · simp at h
  · exact hb _ _ _ L _ h hi
theorem vc_ok [DecidableEq R] (hE : EnvOK P E) (hgn : Γ.names = gn) (hn : Γ.n = nn) : ∀ (c : Code) (an : Ann) (ts : TS) (hs : HS) (L : Lens) (K : Cont R), vc P ty E gn nn fu c an ts hs K = some r → Inv L hs → AWp P Γ c (BS L ts hs) (QK K r)
  | .skip, an, ts, hs, L, K, h, hi => AWp.skip ⟨_, _, L, rfl, hi, by simpa only [vc] using h⟩
  | .label _, an, ts, hs, L, K, h, hi => AWp.label ⟨_, _, L, rfl, hi, by simpa only [vc] using h⟩
  | .ret, an, ts, hs, L, K, h, hi => AWp.ret ⟨_, _, L, rfl, hi, by simpa only [vc] using h⟩
  | .exit id, an, ts, hs, L, K, h, hi => AWp.exit ⟨_, _, L, rfl, hi, by simpa only [vc] using h⟩
  | .seq a b, an, ts, hs, L, K, h, hi => by
    simp only [vc] at h
    refine around_ok hgn h hi fun an ts hs L K h hi => AWp.seq ((vc_ok hE hgn hn a _ _ _ L _ h hi).mono fun e s' => ?_)
    rintro ⟨ts', hs', L', rfl, hi', hk⟩
    cases e with
    | normal => exact vc_ok hE hgn hn b _ _ _ L' _ hk hi'
    | _ => exact ⟨_, _, L', rfl, hi', hk⟩
  | .cond (.tmp t) a b, an, ts, hs, L, K, h, hi => by
    simp only [vc] at h
    refine around_ok hgn h hi fun an ts hs L K h hi => ?_
    split at h
    · rename_i q hl
      refine AWp.cond q (by rw [BS_slot, hl]; simp only [Option.map_some, BV.er]) (fun hq => ?_) (fun hq => ?_)
      · subst hq; exact vc_ok hE hgn hn a _ _ _ L _ h hi
      · subst hq; exact vc_ok hE hgn hn b _ _ _ L _ h hi
    · rename_i hl
      obtain ⟨h1, h2⟩ := both_some h
      intro ρ M w0 w hs0
      obtain ⟨u, hu, hr⟩ := hs0.slots t _ (show (BS L ts hs).slot t = some .ub by rw [BS_slot, hl]; simp only [Option.map_some, BV.er])
      simp only [AV.R] at hr
      obtain ⟨q, rfl⟩ := hr
      have he : w0.eval (.tmp t) = .bool q := by simp [Act.eval, Array.getD_eq_getD_getElem?, hu]
      cases q with
      | true => exact wp_cond_true he (vc_ok hE hgn hn a _ _ _ L _ h1 hi ρ M w0 w hs0)
      | false => exact wp_cond_false he (vc_ok hE hgn hn b _ _ _ L _ h2 hi ρ M w0 w hs0)
    · simp at h
  | .cond (.const c) a b, an, ts, hs, L, K, h, hi => by
    cases c with
    | bool q =>
      simp only [vc] at h
      refine around_ok hgn h hi fun an ts hs L K h hi => ?_
      cases q with
      | true => exact fun ρ M w0 w hs0 => wp_cond_true rfl (vc_ok hE hgn hn a _ _ _ L _ h hi ρ M w0 w hs0)
      | false => exact fun ρ M w0 w hs0 => wp_cond_false rfl (vc_ok hE hgn hn b _ _ _ L _ h hi ρ M w0 w hs0)
    | _ => simp [vc] at h
  | .cond (.global _) a b, an, ts, hs, L, K, h, hi => by simp [vc] at h
  | .cond (.func _) a b, an, ts, hs, L, K, h, hi => by simp [vc] at h
  | .block id a, an, ts, hs, L, K, h, hi => by
    simp only [vc] at h
    refine around_ok hgn h hi fun an ts hs L K h hi => AWp.block ((vc_ok hE hgn hn a _ _ _ L _ h hi).mono fun e s' => ?_)
    rintro ⟨ts', hs', L', rfl, hi', hk⟩
    cases e with
    | exit k =>
      simp only [blockQ]
      simp only [blockC] at hk
      split at hk
      · rename_i he; rw [if_pos (Nat.eq_of_beq_eq_true he)]; exact ⟨_, _, L', rfl, hi', hk⟩
      · rename_i he; rw [if_neg (fun e => he (by rw [e]; exact Nat.beq_refl _))]; exact ⟨_, _, L', rfl, hi', hk⟩
    | _ => exact ⟨_, _, L', rfl, hi', hk⟩
  | .loop a, an, ts, hs, L, K, h, hi => by
    simp only [vc] at h
    split at h
    · rename_i s o an
      obtain ⟨x, L1, h, hi1, hw⟩ := shapeK_some hgn h hi
      refine AWp.weaken _ hw (AWp.loop (fun m s' => ∃ x L', s' = BS L' (STL.put 0 s x.1) (OL.put 0 o x.2) ∧ Inv L' (OL.put 0 o x.2) ∧ iterF (fun Lp x => vc P ty E gn nn fu a an (STL.put 0 s x.1) (OL.put 0 o x.2) (nextC K fun ts hs => shapeK gn s o ts hs Lp)) m x = some r)
        ⟨fu, x, L1, rfl, hi1, h⟩ ?_)
      rintro m s' ⟨x, L', rfl, hi', hm⟩
      cases m with
      | zero => simp [iterF] at hm
      | succ m =>
        simp only [iterF] at hm
        refine AWp.post ((vc_ok hE hgn hn a _ _ _ L' _ hm hi').mono fun e s' => ?_)
        rintro ⟨ts2, hs2, L2, rfl, hi2, hk⟩
        cases e with
        | normal =>
          obtain ⟨x', L3, h3, hi3, hw3⟩ := shapeK_some hgn hk hi2
          exact ⟨_, hw3, m, Nat.lt_succ_self m, x', L3, rfl, hi3, h3⟩
        | _ => exact ⟨_, Weak.refl _ _, _, _, L2, rfl, hi2, hk⟩
    · simp at h
  | .region id ops dr, an, ts, hs, L, K, h, hi => by
    simp only [vc] at h
    refine around_ok hgn h hi fun an ts hs L K h hi => ?_
    cases dr with
    | false =>
      intro ρ M a w hs0
      refine wp_region ?_
      have := regK_ok (gn := gn) (Γ := Γ) (ops := ops) (Q := fun e a' w' => ∃ s' ρ' M', QK K r e s' ∧ Sim Γ ρ' M' s' a' w') hE hgn hn (fun ts' hs' L' ρ' M' a' w' hk hi' hs' => ⟨_, ρ', M', ⟨_, _, L', rfl, hi', hk⟩, hs'⟩) ops.size 0 ts hs L h hi ρ M a w hs0
      rwa [Nat.sub_zero, ← List.range_eq_range'] at this
    | true =>
      simp only at h
      split at h
      case isFalse => simp at h
      rename_i hm
      split at h
      · rename_i hlb
        obtain ⟨rows, ts', hs', L', hk, hi', hst, hts, hhs, hg⟩ := dregK_some hE (ops.size - 1) 0 [] ts hs L h hi
        change (if indepB ops (rows ++ [noB]) ts hs = true then (match ops[ops.size - 1]? with
          | some o => exK P ty E gn nn (guarded ops) [] o ts' hs' (fun ts hs => K .normal ts hs)
          | none => none) else none) = some r at hk
        by_cases hind : indepB ops (rows ++ [noB]) ts hs = true
        case neg => rw [if_neg hind] at hk; simp at hk
        rw [if_pos hind] at hk
        cases hop : ops[ops.size - 1]? with
        | none => rw [hop] at hk; simp at hk
        | some o =>
        rw [hop] at hk
        replace hk : exK P ty E gn nn (guarded ops) [] o ts' hs' (fun ts hs => K .normal ts hs) = some r := hk
        have h0 : 0 < ops.size := by
          grind
        obtain ⟨hg0, hmask⟩ := lastB_get hlb hop
        show AWp P Γ _ (mk (erT L ts) (erH L hs)) _
        rw [hts, hhs]
        have hrow : (rows ++ [noB]).map (BRow.row L') = rows.map (BRow.row L') ++ [noRow] := by simp [noB, noRow, BRow.row, ev, erT, erH, BV.er]
        have hind' := indep_row hind L'
        rw [hrow] at hind'
        refine AWp.drawX hn (by rw [hm, Bool.true_or]) h0 _ hst hg hind' hmask fun KK hKK => ?_
        exact exK_ok hE hgn hn hk (fun t v h => by simp at h) (fun t v h => by simp at h) (by simp) hi' hop (fun ρ M a w _ => by simp [Region.wanted, hg0]) (fun ts2 hs2 L2 ρ' M' a' w' hk2 hi2 hs2' => hKK _ ρ' M' a' w' ⟨_, _, L2, rfl, hi2, hk2⟩ hs2')
      obtain ⟨rows, ts', hs', L', hk, hi', hst, hts, hhs, hg⟩ := dregK_some hE ops.size 0 [] ts hs L h hi
      change (if indepB ops rows ts hs = true then K .normal ts' hs' else none) = some r at hk
      split at hk
      case isFalse => simp at hk
      rename_i hind
      show AWp P Γ _ (mk (erT L ts) (erH L hs)) _
      rw [hts, hhs]
      exact AWp.drawG hn (by rw [hm, Bool.true_or]) _ hst hg (indep_row hind L') ⟨_, _, L', rfl, hi', hk⟩
  | .rangeFunc .., an, ts, hs, L, K, h, hi => by simp [vc] at h
  | .scope _, an, ts, hs, L, K, h, hi => by simp [vc] at h
  | .goto _, an, ts, hs, L, K, h, hi => by simp [vc] at h
  | .refuse _, an, ts, hs, L, K, h, hi => by simp [vc] at h
end
section
variable {R : Type} (P : Program)
def resV (ts : TS) (hs : HS) : ResultVar → Option BV
  | .tmp t => look t ts
  | .cell t T => match look t ts with
    | some (.ref n 0) => match look n hs with
      | some (.box cells) => if aggT P T then (match sizeT P T with | some z => if Nat.beq z cells.length then some (.agg cells) else none | none => none)
        else if flatT P T then (match cells with | [v] => some v | _ => none) else none
      | _ => none
    | _ => none
def resVs (ts : TS) (hs : HS) : List ResultVar → Option (List BV)
  | [] => some []
  | x :: q => match resV P ts hs x, resVs ts hs q with
    | some v, some vs => some (v :: vs)
    | _, _ => none
def Sh.owns : Sh → List Name
  | .own nm => [nm]
  | .view nm => [nm]
  | _ => []
def SSh.owns : SSh → List Name
  | .one s => s.owns
  | .st _ => []
  | .agg l => l.flatMap Sh.owns
def OSh.owns : OSh → List Name
  | .box l => l.flatMap Sh.owns
  | _ => []
def arrB (l : List (Name × OSh)) (n : Name) : Bool := match look n l with
  | some (.arr _) => true
  | _ => false
def sameC {α : Type} [DecidableEq α] (a b : α) (x : Option R) : Option R := if a = b then x else none
def keepK (hs : HS) : (l : List (Name × OSh)) → List Name → OL l → Option R → Option R
  | [], _, _, x => x
  | (nm, .arr t) :: l, ks, y, x => if isIn nm ks then (match look nm hs with
      | some (.arr t' z _) => if h : t' = t then sameC (castL h z) y.1 (keepK hs l ks y.2 x) else none
      | _ => none) else keepK hs l ks y.2 x
  | (nm, .box _) :: l, ks, y, x => if isIn nm ks then none else keepK hs l ks y.2 x
  | (nm, .arrs _) :: l, ks, y, x => if isIn nm ks then none else keepK hs l ks y.2 x
  | (nm, .sm) :: l, ks, y, x => if isIn nm ks then none else keepK hs l ks y.2 x
  | (nm, .boxst t) :: l, ks, y, x => if isIn nm ks then (match look nm hs with
      | some (.box cs) => tpop t cs fun z rest => match rest with
        | [] => sameC z y.1 (keepK hs l ks y.2 x)
        | _ => none
      | _ => none) else keepK hs l ks y.2 x
def slotsR : List ResultVar → List SSh → List (Nat × SSh)
  | .tmp t :: r, s :: q => (t, s) :: slotsR r q
  | _ :: r, _ :: q => slotsR r q
  | _, _ => []
def boxesR (ts : TS) : List ResultVar → List SSh → List (Name × OSh)
  | .cell t _ :: r, .agg l :: q => (match look t ts with
    | some (.ref m 0) => (m, .box l) :: boxesR ts r q
    | _ => boxesR ts r q)
  | _ :: r, _ :: q => boxesR ts r q
  | _, _ => []
def endK (gn : List Name) (rs : List ResultVar) (g : Sig) (y : OL g.pre) (K : SL g.res → OL g.post → Option R) (ts : TS) (hs : HS) : Option R :=
  thawK g.post (slotsR rs g.res) ts hs fun ts hs => thawO g.post ts (boxesR ts rs g.res) hs fun hs => match resVs P ts hs rs with
  | none => none
  | some vs => frzK gn (needArgs g.post hs g.res vs) ts hs fun ts hs => match resVs P ts hs rs with
    | none => none
    | some vs => SL.get g.res (viewL hs g.res vs) [] fun σ a => OL.get g.post hs ((keys g.post).map (fun n => (n, (n, verIn n hs))) ++ σ) fun σ b =>
        if idRen σ && (keys g.pre).all (fun n => isIn n (keys g.post) || isIn n g.keep) && g.keep.all (fun n => isIn n (keys g.pre)) && (g.res.flatMap SSh.owns).all (arrB g.post) && (g.post.flatMap fun p => p.2.owns).all (arrB g.post) then keepK hs g.pre g.keep y (K a b) else none
end
end
open Go
variable {L L' : Lens} {ts ts' : TS} {hs hs' : HS}
theorem newM_keys {M : Nat → Prop} {ρ : Name → Loc} {h h' : List (Name × AO)} (h1 : ∀ n o', look n h' = some o' → ∃ o, look n h = some o) (h2 : ∀ n o, look n h = some o → ∃ o', look n h' = some o') : newM M ρ h = newM M ρ h' := by
  funext b
  exact propext (or_congr_right ⟨fun ⟨n, o, k1, k2⟩ => by obtain ⟨o', k3⟩ := h2 n o k1; exact ⟨n, o', k3, k2⟩, fun ⟨n, o, k1, k2⟩ => by obtain ⟨o', k3⟩ := h1 n o k1; exact ⟨n, o', k3, k2⟩⟩)
theorem After.le {ρ : Name → Loc} {M : Nat → Prop} {w : World} {pre : List (Name × AO)} {u : Value} {v v' : AV} {h h' : List (Name × AO)} {ρ' : Name → Loc} {w' : World} (ha : After ρ M w pre u v h ρ' w')
    (hv : ∀ (ρ : Name → Loc) (H : Heap) (M : Nat → Prop) (w : World) (u : Value), v.R ρ H M w u → v'.R ρ H M w u)
    (h1 : ∀ n o', look n h' = some o' → ∃ o, look n h = some o ∧ (o = o' ∨ ∃ cs ds, o = .box cs ∧ o' = .box ds ∧ AVleL cs ds)) (h2 : ∀ n o, look n h = some o → ∃ o', look n h' = some o') : After ρ M w pre u v' h' ρ' w' := by
  have hM : newM M ρ' h = newM M ρ' h' := newM_keys (fun n o' hn => by obtain ⟨o, k, _⟩ := h1 n o' hn; exact ⟨o, k⟩) h2
  have hst : HStep ρ' (lookH h) ρ' (lookH h') := fun n o hn => by
    obtain ⟨o', ho'⟩ := h2 n o hn
    obtain ⟨o2, ho2, hle⟩ := h1 n o' ho'
    change look n h = some o at hn
    rw [hn] at ho2; cases ho2
    change stays o (ρ' n) (look n h') (ρ' n)
    rw [ho']
    rcases hle with rfl | ⟨cs, ds, rfl, rfl, _⟩
    · exact stays_refl _ _
    · rfl
  have hnn : ∀ n, lookH h n = none → lookH h' n = none := fun n hn => by
    cases hc : lookH h' n with
    | none => rfl
    | some o' =>
      obtain ⟨o, ho, _⟩ := h1 n o' hc
      change look n h = none at hn
      simp_all
  have hconvs : ∀ {xs : List AV} {us : List Value}, AV.Rs ρ' (lookH h) (newM M ρ' h) w' xs us → AV.Rs ρ' (lookH h') (newM M ρ' h) w' xs us := fun hr =>
    hr.step (Ext.refl (fun _ => False) _) (fun _ hb => hb.elim) (fun b _ hb => hb) hst (fun n _ => hnn n)
  refine ⟨?_, fun n o' hn => ?_, fun n m o o' b g1 g2 => ?_, fun n o b g1 g2 => ?_, ha.ext, fun n o hn => ?_⟩
  · rw [← hM]
    exact hv _ _ _ _ _ (ha.val.step (Ext.refl (fun _ => False) _) (fun _ hb => hb.elim) (fun b _ hb => hb) hst (fun n _ => hnn n))
  · obtain ⟨o, ho, hle⟩ := h1 n o' hn
    have hobj := ha.objs n o ho
    rw [← hM]
    rcases hle with rfl | ⟨cs, ds, rfl, rfl, hle⟩
    · cases o with
      | box cells => obtain ⟨b, T, cs, k1, k2, k3, k4⟩ := hobj; exact ⟨b, T, cs, k1, k2, k3, hconvs k4⟩
      | arr es rows => exact hobj
      | hole es pre row post => obtain ⟨k0, k0', k1, b, T, cs, k3, k4, k5, k6, k7, k8, k9⟩ := hobj; exact ⟨k0, k0', k1, b, T, cs, k3, k4, k5, k6, k7, hconvs k8, k9⟩
      | fact a x => exact ⟨hobj.1, hobj.2.step (Ext.refl (fun _ => False) _) (fun _ hb => hb.elim) (fun b _ hb => hb) hst (fun n _ => hnn n)⟩
      | obj x => exact hobj
    · obtain ⟨b, T, us', k1, k2, k3, k4⟩ := hobj
      exact ⟨b, T, us', k1, k2, k3, Rs_le hle _ (hconvs k4)⟩
  · obtain ⟨p, k1, _⟩ := h1 n o g1
    obtain ⟨q, k2, _⟩ := h1 m o' g2
    exact ha.inj n m p q b k1 k2
  · obtain ⟨p, k1, _⟩ := h1 n o g1
    exact ha.own n p b k1 g2
  · obtain ⟨o1, k1, k2⟩ := ha.keep n o hn
    obtain ⟨o2, k3⟩ := h2 n o1 k1
    refine ⟨o2, k3, ?_⟩
    obtain ⟨o3, k4, hle⟩ := h1 n o2 k3
    rw [k1] at k4; cases k4
    rcases hle with rfl | ⟨cs, ds, rfl, rfl, _⟩
    · exact k2
    · cases o <;> simp only [stays] at k2 ⊢ <;> exact k2
section
variable {u v : Nat}
theorem Sh.put_ver {s : Sh} {X : Type} {x : s.prod X} (h : ∀ n, n ∈ s.owns → L n u = L' n v) : (s.put u X x).1.er L = (s.put v X x).1.er L' ∧ (s.put u X x).2 = (s.put v X x).2 := by
  cases s with
  | own nm => exact ⟨by simp only [Sh.put, BV.er]; rw [h nm (by simp [Sh.owns])], rfl⟩
  | view nm => exact ⟨by simp only [Sh.put, BV.er]; rw [h nm (by simp [Sh.owns])], rfl⟩
  | clo f caps => exact ⟨by simp only [Sh.put, BV.er]; congr 1; simp only [erL_map, List.map_map]; exact List.map_congr_left fun n _ => by simp only [Function.comp, BV.er], rfl⟩
  | _ => exact ⟨by simp only [Sh.put, BV.er], rfl⟩
theorem TL.put_ver : ∀ {l : List Sh} {x : TL l}, (∀ n, n ∈ l.flatMap Sh.owns → L n u = L' n v) → erL L (TL.put u l x) = erL L' (TL.put v l x)
  | [], x, _ => by simp only [TL.put, erL]
  | s :: r, x, h => by
    have h1 := Sh.put_ver (s := s) (x := x) (L := L) (L' := L') (u := u) (v := v) (fun n hn => h n (by simp [hn]))
    have h2 := TL.put_ver (l := r) (x := (s.put u _ x).2) (fun n hn => h n (by rw [List.flatMap_cons]; exact List.mem_append_right _ hn))
    simp only [TL.put, erL, h1.1, h2]
    rw [h1.2]
theorem SSh.put_ver {s : SSh} {X : Type} {x : s.prod X} (h : ∀ n, n ∈ s.owns → L n u = L' n v) : (s.put u X x).1.er L = (s.put v X x).1.er L' ∧ (s.put u X x).2 = (s.put v X x).2 := by
  cases s with
  | one s => exact Sh.put_ver h
  | st t => simp only [SSh.put, BV.er, and_true]; rw [erL_isP (tb_isP t x.1), erL_isP (tb_isP t x.1)]
  | agg l => simp only [SSh.put, BV.er, and_true]; rw [TL.put_ver h]
theorem SL.put_ver : ∀ {l : List SSh} {x : SL l}, (∀ n, n ∈ l.flatMap SSh.owns → L n u = L' n v) → erL L (SL.put u l x) = erL L' (SL.put v l x)
  | [], x, _ => by simp only [SL.put, erL]
  | s :: r, x, h => by
    have h1 := SSh.put_ver (s := s) (x := x) (L := L) (L' := L') (u := u) (v := v) (fun n hn => h n (by simp [hn]))
    have h2 := SL.put_ver (l := r) (x := (s.put u _ x).2) (fun n hn => h n (by rw [List.flatMap_cons]; exact List.mem_append_right _ hn))
    simp only [SL.put, erL, h1.1, h2]
    rw [h1.2]
theorem OSh.put_ver {s : OSh} {x : s.T} (h : ∀ n, n ∈ s.owns → L n u = L' n v) : (s.put u x).er L = (s.put v x).er L' := by
  cases s with
  | box l => exact congrArg AO.box (TL.put_ver (l := l) (x := x) h)
  | boxst t => simp only [OSh.put, BO.er]; rw [erL_isP (tb_isP t x), erL_isP (tb_isP t x)]
  | arr t => simp only [OSh.put, BO.er]
  | arrs t => simp only [OSh.put, BO.er]
  | sm => simp only [OSh.put, BO.er]
end
theorem look_OL {u : Nat} {n : Name} {b : BO} : ∀ {l : List (Name × OSh)} {y : OL l}, look n (OL.put u l y) = some b → ∃ (p : Name × OSh) (x : p.2.T), p ∈ l ∧ look n l = some p.2 ∧ b = p.2.put u x ∧ ∀ w, look n (OL.put w l y) = some (p.2.put w x)
  | [], y, h => by change look n [] = some b at h; simp [look] at h
  | p :: l, y, h => by
    change look n ((p.1, p.2.put u y.1) :: OL.put u l y.2) = some b at h
    simp only [look] at h
    split at h
    · rename_i e
      cases h
      refine ⟨p, y.1, by simp, by obtain ⟨k, o⟩ := p; simp only [look]; rw [if_pos e], rfl, fun w => ?_⟩
      change look n ((p.1, p.2.put w y.1) :: OL.put w l y.2) = _
      simp only [look]; rw [if_pos e]
    · rename_i e
      obtain ⟨q, x, h1, h2, h3, h4⟩ := look_OL h
      refine ⟨q, x, List.mem_cons_of_mem _ h1, by obtain ⟨k, o⟩ := p; simp only [look]; rw [if_neg e]; exact h2, h3, fun w => ?_⟩
      change look n ((p.1, p.2.put w y.1) :: OL.put w l y.2) = _
      simp only [look]; rw [if_neg e]; exact h4 w
def argSlotsB : Nat → List BV → TS
  | _, [] => []
  | i, x :: r => (i, x) :: argSlotsB (i + 1) r
theorem argSlots_er : ∀ (i : Nat) (l : List BV), argSlots i (erL L l) = erT L (argSlotsB i l)
  | _, [] => by simp only [erL, argSlots, argSlotsB]; rfl
  | i, x :: r => by simp only [erL, argSlots, argSlotsB, argSlots_er (i + 1) r]; rfl
theorem AVleL.Ts {ρ : Name → Loc} {H : Heap} {M : Nat → Prop} {w : World} : ∀ {xs ys : List AV} {us : List Value}, AVleL xs ys → AV.Ts ρ H M w xs us → AV.Ts ρ H M w ys us
  | [], ys, us, h, hr => by cases h; exact hr
  | x :: xs, ys, us, h, hr => by
    cases h with
    | cons h1 h2 =>
      simp only [AV.Ts] at hr ⊢
      obtain ⟨u, us', rfl, h3, h4⟩ := hr
      exact ⟨u, us', rfl, h1.sound u h3, AVleL.Ts h2 h4⟩
theorem resB_le {vs ws : List BV} (h : AVleL (erL L vs) (erL L' ws)) (ρ : Name → Loc) (H : Heap) (M : Nat → Prop) (w : World) (u : Value) (hr : ((resB vs).er L).R ρ H M w u) : ((resB ws).er L').R ρ H M w u := by
  have hl : vs.length = ws.length := by have := h.len; rwa [erL_length, erL_length] at this
  match vs, ws, hl with
  | [], [], _ => exact hr
  | [v], [x], _ =>
    simp only [erL] at h
    cases h with
    | cons h1 _ => exact h1.sound u hr
  | v1 :: v2 :: vs, x1 :: x2 :: ws, _ =>
    simp only [resB, BV.er, AV.R] at hr ⊢
    obtain ⟨us, rfl, h2⟩ := hr
    exact ⟨us, rfl, AVleL.Ts h h2⟩
section
variable {P : Program}
theorem resVs_some : ∀ {rs : List ResultVar} {vs : List BV}, resVs P ts hs rs = some vs → vs.length = rs.length ∧ Res1s P (BS L ts hs) rs (erL L vs)
  | [], vs, h => by simp only [resVs, Option.some.injEq] at h; subst h; exact ⟨rfl, by simp only [erL]; rfl⟩
  | x :: q, vs, h => by
    simp only [resVs] at h
    split at h
    · rename_i v vs' h1 h2
      cases h
      obtain ⟨k1, k2⟩ := resVs_some h2
      refine ⟨by simp [k1], ⟨v.er L, erL L vs', by simp only [erL], ?_, k2⟩⟩
      cases x with
      | tmp t =>
        simp only [resV] at h1
        show (BS L ts hs).slot t = _
        rw [BS_slot, h1]; rfl
      | cell t T =>
        simp only [resV] at h1
        split at h1
        · rename_i n ht
          split at h1
          · rename_i cells hc
            refine ⟨n, erL L cells, by rw [BS_slot, ht]; simp only [Option.map_some, BV.er], by rw [BS_heap, hc]; rfl, ?_⟩
            split at h1
            · rename_i hT
              split at h1
              · rename_i z hz
                split at h1
                · rename_i hb; cases h1; exact .inl ⟨hT, by rw [hz, erL_length, Nat.eq_of_beq_eq_true hb], by simp only [BV.er]⟩
                · simp at h1
              · simp at h1
            · split at h1
              · rename_i hT
                split at h1
                · cases h1; exact .inr ⟨hT, by simp only [erL]⟩
                · simp at h1
              · simp at h1
          · simp at h1
        · simp at h1
    · simp at h
theorem res_of {rs : Array ResultVar} {vs : List BV} (h : resVs P ts hs rs.toList = some vs) : Res P (BS L ts hs) rs ((resB vs).er L) := by
  obtain ⟨h1, h2⟩ := resVs_some (L := L) h
  unfold Res
  match vs, h1 with
  | [], h1 =>
    have : ¬ rs.size = 1 := fun e => by rw [← Array.length_toList, ← h1] at e; simp at e
    rw [if_neg this]; exact ⟨_, by simp only [resB, BV.er], h2⟩
  | [v], h1 =>
    have : rs.size = 1 := by rw [← Array.length_toList, ← h1]; rfl
    rw [if_pos this]; simpa only [resB, erL] using h2
  | v1 :: v2 :: vs, h1 =>
    have : ¬ rs.size = 1 := fun e => by rw [← Array.length_toList, ← h1] at e; simp at e
    rw [if_neg this]; exact ⟨_, by simp only [resB, BV.er], h2⟩
theorem keepK_some {R : Type} {r : R} : ∀ {l : List (Name × OSh)} {ks : List Name} {y : OL l} {x : Option R}, keepK hs l ks y x = some r →
    x = some r ∧ ∀ n b, n ∈ ks → look n (OL.put 0 l y) = some b → (∃ t z v, b = .arr t z 0 ∧ look n hs = some (.arr t z v)) ∨ ∃ t z cs, b = .box (tb t z) ∧ look n hs = some (.box cs) ∧ Le cs (tb t z)
  | [], ks, y, x, h => ⟨h, fun n b _ hn => by change look n [] = some b at hn; simp [look] at hn⟩
  | (nm, o) :: l, ks, y, x, h => by
    have hrest : (x = some r ∧ ∀ n b, n ∈ ks → look n (OL.put 0 l y.2) = some b → (∃ t z v, b = .arr t z 0 ∧ look n hs = some (.arr t z v)) ∨ ∃ t z cs, b = .box (tb t z) ∧ look n hs = some (.box cs) ∧ Le cs (tb t z)) →
        (isIn nm ks = true → (∃ t z v, o.put 0 y.1 = .arr t z 0 ∧ look nm hs = some (.arr t z v)) ∨ ∃ t z cs, o.put 0 y.1 = .box (tb t z) ∧ look nm hs = some (.box cs) ∧ Le cs (tb t z)) →
        x = some r ∧ ∀ n b, n ∈ ks → look n (OL.put 0 ((nm, o) :: l) y) = some b → (∃ t z v, b = .arr t z 0 ∧ look n hs = some (.arr t z v)) ∨ ∃ t z cs, b = .box (tb t z) ∧ look n hs = some (.box cs) ∧ Le cs (tb t z) := fun hr hq => by
      refine ⟨hr.1, fun n b hn hb => ?_⟩
      change look n ((nm, o.put 0 y.1) :: OL.put 0 l y.2) = some b at hb
      simp only [look] at hb
      split at hb
      · rename_i e
        subst e; cases hb
        exact hq (isIn_iff.2 hn)
      · exact hr.2 n b hn hb
    cases o with
    | arr t =>
      simp only [keepK] at h
      split at h
      · split at h
        · rename_i t' z v hl
          split at h
          · rename_i he
            subst he
            unfold sameC at h
            split at h
            · rename_i hz
              exact hrest (keepK_some h) (fun _ => .inl ⟨_, _, v, rfl, by rw [hl, ← hz]; rfl⟩)
            · simp at h
          · simp at h
        · simp at h
      · rename_i hin
        exact hrest (keepK_some h) (fun hi => absurd hi hin)
    | boxst t =>
      simp only [keepK] at h
      split at h
      · split at h
        · rename_i cs hl
          obtain ⟨z, rest, hle, h⟩ := tpop_some t h
          split at h
          · unfold sameC at h
            split at h
            · rename_i hz
              refine hrest (keepK_some h) (fun _ => .inr ⟨t, y.1, cs, rfl, hl, ?_⟩)
              rw [List.append_nil] at hle
              rw [← hz]; exact hle
            · simp at h
          · simp at h
        · simp at h
      · rename_i hin
        exact hrest (keepK_some h) (fun hi => absurd hi hin)
    | box c =>
      simp only [keepK] at h
      split at h
      · simp at h
      · rename_i hin
        exact hrest (keepK_some h) (fun hi => absurd hi hin)
    | arrs c =>
      simp only [keepK] at h
      split at h
      · simp at h
      · rename_i hin
        exact hrest (keepK_some h) (fun hi => absurd hi hin)
    | sm =>
      simp only [keepK] at h
      split at h
      · simp at h
      · rename_i hin
        exact hrest (keepK_some h) (fun hi => absurd hi hin)
theorem SLput_length {u : Nat} : ∀ {l : List SSh} {x : SL l}, (SL.put u l x).length = l.length
  | [], _ => rfl
  | s :: r, x => by simp only [SL.put, List.length_cons, SLput_length (l := r)]
def lenAt : (l : List (Name × OSh)) → OL l → Name → Option Nat
  | [], _, _ => none
  | (k, .arr _) :: r, y, n => if Nat.beq k n then some y.1.length else lenAt r y.2 n
  | (k, .arrs _) :: r, y, n => if Nat.beq k n then none else lenAt r y.2 n
  | (k, .box _) :: r, y, n => if Nat.beq k n then none else lenAt r y.2 n
  | (k, .boxst _) :: r, y, n => if Nat.beq k n then none else lenAt r y.2 n
  | (k, .sm) :: r, y, n => if Nat.beq k n then none else lenAt r y.2 n
def lenB {R : Type} (pre : List (Name × OSh)) (y : OL pre) : (l : List (Name × OSh)) → OL l → Option R → Option R
  | [], _, x => x
  | (n, .arrs _) :: r, b, x => match lenAt pre y n with
    | some m => chk b.1.length m (lenB pre y r b.2 x)
    | none => none
  | (_, .arr _) :: r, b, x => lenB pre y r b.2 x
  | (_, .box _) :: r, b, x => lenB pre y r b.2 x
  | (_, .boxst _) :: r, b, x => lenB pre y r b.2 x
  | (_, .sm) :: r, b, x => lenB pre y r b.2 x
theorem lenAt_some : ∀ {l : List (Name × OSh)} {y : OL l} {n : Name} {m : Nat}, lenAt l y n = some m → ∃ (t : TC) (z : List (TT t)), look n (OL.put 0 l y) = some (.arr t z 0) ∧ z.length = m
  | [], y, n, m, h => by simp [lenAt] at h
  | (k, o) :: r, y, n, m, h => by
    have hrest : lenAt r y.2 n = some m → k ≠ n → ∃ (t : TC) (z : List (TT t)), look n (OL.put 0 ((k, o) :: r) y) = some (.arr t z 0) ∧ z.length = m := fun h e => by
      obtain ⟨t, z, h1, h2⟩ := lenAt_some h
      refine ⟨t, z, ?_, h2⟩
      change look n ((k, o.put 0 y.1) :: OL.put 0 r y.2) = _
      simp only [look]; rw [if_neg e]; exact h1
    cases o <;> simp only [lenAt] at h <;> split at h
    all_goals first
      | (simp at h; done)
      | (rename_i e; exact hrest h (fun h' => e (by rw [h']; exact Nat.beq_refl _)))
      | skip
    rename_i t e
    have := Nat.eq_of_beq_eq_true e; subst this
    refine ⟨t, y.1, ?_, by simpa using h⟩
    change look k ((k, _) :: OL.put 0 r y.2) = _
    simp only [look, if_true]; rfl
theorem lenB_some {R : Type} {r : R} {pre : List (Name × OSh)} {y : OL pre} : ∀ {l : List (Name × OSh)} {b : OL l} {x : Option R}, lenB pre y l b x = some r →
    x = some r ∧ ∀ n (t : TC) (z : List (TT t)), look n (OL.put 1 l b) = some (.arr t z 0) → lenAt pre y n = some z.length
  | [], b, x, h => ⟨h, fun n t z hn => by change look n [] = _ at hn; simp [look] at hn⟩
  | (k, o) :: l, b, x, h => by
    have hrest : lenB pre y l b.2 x = some r → (∀ (t : TC) (z : List (TT t)), o.put 1 b.1 = .arr t z 0 → lenAt pre y k = some z.length) →
        x = some r ∧ ∀ n (t : TC) (z : List (TT t)), look n (OL.put 1 ((k, o) :: l) b) = some (.arr t z 0) → lenAt pre y n = some z.length := fun h hq => by
      obtain ⟨h1, h2⟩ := lenB_some h
      refine ⟨h1, fun n t z hn => ?_⟩
      change look n ((k, o.put 1 b.1) :: OL.put 1 l b.2) = _ at hn
      simp only [look] at hn
      split at hn
      · rename_i e; subst e; exact hq t z (Option.some.inj hn)
      · exact h2 n t z hn
    cases o with
    | arrs t =>
      simp only [lenB] at h
      split at h
      · rename_i m hm
        obtain ⟨e, h⟩ := chk_some h
        refine hrest h fun t' z hz => ?_
        simp only [OSh.put] at hz
        cases hz
        rw [hm, ← e]
      · simp at h
    | arr t => exact hrest h fun t' z hz => by simp only [OSh.put] at hz; injection hz with _ _ h3; simp at h3
    | box t => exact hrest h fun t' z hz => by simp [OSh.put] at hz
    | boxst t => exact hrest h fun t' z hz => by simp [OSh.put] at hz
    | sm => exact hrest h fun t' z hz => by simp [OSh.put] at hz
theorem lenB_any {R R' : Type} {r : R} {r' : R'} {pre : List (Name × OSh)} {y : OL pre} : ∀ {l : List (Name × OSh)} {b : OL l} {x : Option R}, lenB pre y l b x = some r → lenB pre y l b (some r') = some r'
  | [], b, x, h => rfl
  | (k, .arrs t) :: l, b, x, h => by
    simp only [lenB] at h ⊢
    split at h
    · obtain ⟨e, h⟩ := chk_some h
      unfold chk; rw [if_pos e]; exact lenB_any h
    · simp at h
  | (k, .arr t) :: l, b, x, h => lenB_any (l := l) h
  | (k, .box t) :: l, b, x, h => lenB_any (l := l) h
  | (k, .boxst t) :: l, b, x, h => lenB_any (l := l) h
  | (k, .sm) :: l, b, x, h => lenB_any (l := l) h
def mkSig (args : List SSh) (pre : List (Name × OSh)) (res : List SSh) (post : List (Name × OSh)) (keep : List Name) (Ret : Type) (un : Ret → SL res × OL post) (f : SL args → OL pre → Option Ret) : Sig :=
  ⟨args, pre, res, post, keep, fun _ x y K => optc (f x y) fun q => lenB pre y post (un q).2 (K (un q).1 (un q).2)⟩
def finK {R : Type} (P : Program) (gn : List Name) (rs : List ResultVar) (g : Sig) (y : OL g.pre) (K : SL g.res → OL g.post → Option R) : Cont R := fun e ts hs => match e with
  | .normal => endK P gn rs g y K ts hs
  | .ret => endK P gn rs g y K ts hs
  | _ => none
theorem FnOK.introW {f : FuncId} {fn : Func} {c : Code} {args : List SSh} {pre : List (Name × OSh)} {res : List SSh} {post : List (Name × OSh)} {keep : List Name} {Ret : Type} {un : Ret → SL res × OL post} {F : SL args → OL pre → Option Ret}
    (conv : SL res → OL post → Ret) (hcu : ∀ a b, un (conv a b) = (a, b)) (hf : P.funcs[f]? = some fn) (hb : fn.body = some c) (hlen : Nat.ble args.length fn.ntmps = true)
    (hW : ∀ x y q, F x y = some q → ∀ (L0 : Lens), Inv L0 (OL.put 0 pre y) → ∀ Γ : Ctx, Γ.n = fn.ntmps → Γ.names = keys pre → AWp P Γ c (BS L0 (argSlotsB 0 (SL.put 0 args x)) (OL.put 0 pre y)) (QK (finK P (keys pre) fn.results.toList (mkSig args pre res post keep Ret un F) y fun a b => some (conv a b)) q)) :
    FnOK P f (mkSig args pre res post keep Ret un F) := by
  refine ⟨fun R x y K r h => ?_, fun x y a b h L0 hL0 => ?_⟩
  · obtain ⟨q, hq, h⟩ := optc_some h
    obtain ⟨h', hle⟩ := lenB_some h
    refine ⟨(un q).1, (un q).2, ?_, h'⟩
    show optc (F x y) _ = _
    rw [hq]
    exact lenB_any h
  · change SL args at x
    change OL pre at y
    change SL res at a
    change OL post at b
    obtain ⟨q, hq, h⟩ := optc_some h
    obtain ⟨h, hlens⟩ := lenB_some h
    simp only [Option.some.injEq] at h
    let g : Sig := mkSig args pre res post keep Ret un F
    let L1 : Lens := fun n v => match look n (g.posts y b) with
      | some (.arr t l u) => if v = u then l.length else L0 n v
      | _ => L0 n v
    have hL1 : ∀ n t l v, look n (g.posts y b) = some (.arr t l v) → L1 n v = l.length := fun n t l v hn => by
      grind
    have hpost : ∀ n b0, look n (OL.put 1 post b) = some b0 → look n (g.posts y b) = some b0 := fun n b0 hn => by
      show look n (OL.put 1 post b ++ _) = _
      rw [look_append, hn]
    have hpre : ∀ n b0, look n (OL.put 1 post b) = none → n ∈ keep → look n (OL.put 0 pre y) = some b0 → look n (g.posts y b) = some b0 := fun n b0 h1 h2 h3 => by
      show look n (OL.put 1 post b ++ (OL.put 0 pre y).filter (fun p => keep.contains p.1)) = _
      rw [look_append, h1]
      simp only [look_filter (f := fun n => keep.contains n)]
      simp_all
    refine ⟨L1, fun n hn => ?_, hL1, ?_⟩
    · show (match look n (g.posts y b) with | some (.arr t l u) => if 0 = u then l.length else L0 n 0 | _ => L0 n 0) = _
      split
      · rename_i t l u hl
        split
        · rename_i e
          subst e
          change look n (OL.put 1 post b ++ (OL.put 0 pre y).filter (fun p => keep.contains p.1)) = _ at hl
          rw [look_append] at hl
          cases h1 : look n (OL.put 1 post b) with
          | some b1 =>
            rw [h1] at hl; cases hl
            have hab : (un q).2 = b := congrArg Prod.snd h
            rw [hab] at hlens
            obtain ⟨t', z, k1, k2⟩ := lenAt_some (hlens n t l h1)
            rw [← k2]; exact (hL0 n t' z 0 k1).symm
          | none =>
            rw [h1] at hl
            simp only [look_filter (f := fun n => keep.contains n)] at hl
            split at hl
            · exact (hL0 n t l 0 hl).symm
            · simp at hl
        · rfl
      · rfl
    · have hspec : Spec P f (erL L0 (SL.put 0 args x)) (erH L0 (OL.put 0 pre y)) fun v h' =>
          (∀ (ρ : Name → Loc) (H : Heap) (M : Nat → Prop) (w : World) (u : Value), v.R ρ H M w u → ((resB (SL.put 1 res a)).er L1).R ρ H M w u) ∧
          (∀ n o', look n (erH L1 (g.posts y b)) = some o' → ∃ o, look n h' = some o ∧ (o = o' ∨ ∃ cs ds, o = .box cs ∧ o' = .box ds ∧ AVleL cs ds)) ∧ (∀ n o, look n h' = some o → ∃ o', look n (erH L1 (g.posts y b)) = some o') := by
        refine Spec.intro hf hb (by rw [erL_length, SLput_length]; exact hlen) fun Γ hn hk => ?_
        rw [keys_erH, keys_put] at hk
        rw [argSlots_er]
        refine AWp.post ((hW x y q hq L0 hL0 Γ hn hk).mono fun e s' => ?_)
        rintro ⟨ts', hs', L', rfl, hi', hk'⟩
        have hend : (e = .normal ∨ e = .ret) ∧ endK P (keys pre) fn.results.toList g y (fun a b => some (conv a b)) ts' hs' = some q := by
          cases e with
          | normal => exact ⟨.inl rfl, hk'⟩
          | ret => exact ⟨.inr rfl, hk'⟩
          | _ => simp [finK] at hk'
        obtain ⟨he, hk'⟩ := hend
        unfold endK at hk'
        obtain ⟨ts2, hs2', L2', hk', hi2', hw0'⟩ := thawK_some (Γ := Γ) hk' hi'
        obtain ⟨hs2, L2, hk', hi2, hw0''⟩ := thawO_some (Γ := Γ) hk' hi2'
        have hw0 := hw0'.trans hw0''
        split at hk'
        · simp at hk'
        rename_i vs0 hvs0
        obtain ⟨ts1, hs1, hk', hi1, hw1⟩ := frzK_some hk hk' hi2
        split at hk'
        · simp at hk'
        rename_i vs hvs
        obtain ⟨σ1, a', hk', hs1', g1⟩ := SL.get_some hk'
        obtain ⟨σ2, b', hk', hs2', g2⟩ := OL.get_some hk'
        split at hk'
        case isFalse => simp at hk'
        rename_i hchk
        simp only [Bool.and_eq_true] at hchk
        obtain ⟨⟨⟨⟨hid, hall⟩, hkp⟩, hown1⟩, hown2⟩ := hchk
        obtain ⟨hq', hkept⟩ := keepK_some hk'
        simp only [Option.some.injEq] at hq'
        have hab : (a', b') = (a, b) := (hcu a' b').symm.trans ((congrArg un hq').trans h)
        obtain ⟨hab1, hab2⟩ := Prod.mk.inj hab
        rw [hab1] at g1
        rw [hab2] at g2
        have hf2 := verOf_fit hid
        have hf1 : Fit (fun n => n) (verOf σ2) σ1 := hf2.mono fun p hp => hs2' p (List.mem_append_right _ hp)
        have hlen2 : ∀ n, arrB post n = true → lensOf L2 (fun n => n) (verOf σ2) n 0 = L1 n 1 := fun n hn => by
          have hkn : n ∈ keys post := by
            unfold arrB at hn
            split at hn
            · rename_i hl; exact keys_of_look (by rw [hl]; simp)
            · simp at hn
          obtain ⟨b0, hb0⟩ := look_put (u := 0) (y := b) hkn
          obtain ⟨p, z, hp1, hp2, hp3, hp4⟩ := look_OL hb0
          unfold arrB at hn
          rw [hp2] at hn
          obtain ⟨k, o⟩ := p
          cases o with
          | arr t =>
            have h1 := hL1 n t z 1 (hpost n _ (hp4 1))
            obtain ⟨ob, hob, hle⟩ := g2 _ _ L2 hf2 n _ (hp4 0)
            rcases hle with ⟨cs, ds, _, h2, _⟩ | ⟨t', l', rfl, h2⟩ | ⟨es, _, h2⟩
            · cases h2
            · cases h2
              rw [h1]; exact hi1 n t z _ hob
            · cases h2
          | box l => simp at hn
          | boxst t => simp at hn
          | arrs t => simp at hn
          | sm => simp at hn
        have hle1 : AVleL (erL L2 (viewL hs1 g.res vs)) (erL L1 (SL.put 1 res a)) := by
          have := g1 _ _ L2 hf1
          rw [renL_id] at this
          have e := SL.put_ver (l := res) (x := a) (L := lensOf L2 (fun n => n) (verOf σ2)) (L' := L1) (u := 0) (v := 1) (fun n hn => hlen2 n (List.all_eq_true.1 hown1 n hn))
          exact Eq.mp (congrArg (AVleL (erL L2 (viewL hs1 g.res vs))) e) this
        have hobj : ∀ n b0, look n (g.posts y b) = some b0 → ∃ ob, look n hs1 = some ob ∧ (ob.er L2 = b0.er L1 ∨ ∃ cs ds, ob.er L2 = .box cs ∧ b0.er L1 = .box ds ∧ AVleL cs ds) := fun n b0 hb0 => by
          cases hp0 : look n (OL.put 1 post b) with
          | some b1 =>
            rw [hpost n b1 hp0] at hb0; cases hb0
            obtain ⟨p, z, hp1, hp2, hp3, hp4⟩ := look_OL hp0
            subst hp3
            obtain ⟨ob, hob, hle⟩ := g2 _ _ L2 hf2 n _ (hp4 0)
            refine ⟨ob, hob, ?_⟩
            have hv := OSh.put_ver (s := p.2) (x := z) (L := lensOf L2 (fun n => n) (verOf σ2)) (L' := L1) (u := 0) (v := 1) (fun m hm => hlen2 m (List.all_eq_true.1 hown2 m (List.mem_flatMap.2 ⟨p, hp1, hm⟩)))
            rw [← hv]
            rcases hle with ⟨cs, ds, rfl, h2, h3⟩ | ⟨t', l', rfl, h2⟩ | ⟨es, rfl, h2⟩
            · rw [renL_id] at h3
              exact .inr ⟨_, _, rfl, by rw [h2]; rfl, h3.1⟩
            · exact .inl (by rw [h2]; rfl)
            · exact .inl (by rw [h2]; rfl)
          | none =>
            change look n (OL.put 1 post b ++ (OL.put 0 pre y).filter (fun p => keep.contains p.1)) = _ at hb0
            rw [look_append, hp0] at hb0
            simp only [look_filter (f := fun n => keep.contains n)] at hb0
            split at hb0
            · rename_i hc
              have hc' : n ∈ keep := by simpa using hc
              rcases hkept n b0 hc' hb0 with ⟨t, z, v, rfl, hz⟩ | ⟨t, z, cs, rfl, hz, hle⟩
              · exact ⟨_, hz, .inl rfl⟩
              · refine ⟨_, hz, .inr ⟨_, _, rfl, rfl, ?_⟩⟩
                rw [show erL L1 (tb t z) = erL L2 (tb t z) from by rw [erL_isP (tb_isP t z), erL_isP (tb_isP t z)]]
                exact hle.1 L2
            · simp at hb0
        refine ⟨BS L2 ts1 hs1, fun ρ M a w hs0 => by obtain ⟨ρ', M', h0⟩ := hw0 ρ M a w hs0; exact hw1 ρ' M' a w h0, he, (resB vs).er L2, erH L2 (hpOf (fun n => n) hs1 (keys (g.posts y b))), res_of hvs, fun n o hn' => ?_, fun n hn' => ?_, fun ρ H M w u hr => resB_le hle1 ρ H M w u (resB_le (viewL_le hi1) ρ H M w u hr), fun n o' hn' => ?_, fun n o hn' => ?_⟩
        · rw [look_erH] at hn'
          cases hl : look n (hpOf (fun n => n) hs1 (keys (g.posts y b))) with
          | none => rw [hl] at hn'; simp at hn'
          | some ob => rw [hl] at hn'; rw [BS_heap, hpOf_mem (look_mem hl)]; exact hn'
        · rw [keys_erH, keys_put] at hn'
          have hkey : ∃ b0, look n (g.posts y b) = some b0 := by
            cases hp0 : look n (OL.put 1 post b) with
            | some b1 => exact ⟨b1, hpost n b1 hp0⟩
            | none =>
              have := List.all_eq_true.1 hall n hn'
              simp only [Bool.or_eq_true] at this
              rcases this with h1 | h1
              · obtain ⟨b1, hb1⟩ := look_put (u := 1) (y := b) (isIn_iff.1 h1)
                simp_all
              · obtain ⟨b1, hb1⟩ := look_put (u := 0) (y := y) hn'
                exact ⟨b1, hpre n b1 hp0 (isIn_iff.1 h1) hb1⟩
          obtain ⟨b0, hb0⟩ := hkey
          obtain ⟨ob, hob, _⟩ := hobj n b0 hb0
          rw [look_erH, hpOf_look (rr := fun n => n) (fun _ _ h => h) hob (keys_of_look (by rw [hb0]; simp))]; simp
        · rw [look_erH] at hn'
          cases hb0 : look n (g.posts y b) with
          | none => rw [hb0] at hn'; simp at hn'
          | some b0 =>
            rw [hb0] at hn'
            simp only [Option.map_some, Option.some.injEq] at hn'
            obtain ⟨ob, hob, hle⟩ := hobj n b0 hb0
            refine ⟨ob.er L2, by rw [look_erH, hpOf_look (rr := fun n => n) (fun _ _ h => h) hob (keys_of_look (by rw [hb0]; simp))]; rfl, ?_⟩
            rw [← hn']; exact hle
        · rw [look_erH] at hn'
          cases hl : look n (hpOf (fun n => n) hs1 (keys (g.posts y b))) with
          | none => rw [hl] at hn'; simp at hn'
          | some ob =>
            obtain ⟨m, hm, rfl⟩ := hpOf_key (look_mem hl)
            obtain ⟨b0, hb0⟩ := look_keys hm
            exact ⟨_, by rw [look_erH, hb0]; rfl⟩
      intro G ρ M w us hG hM hargs hobjs hinj
      exact (hspec G ρ M w us hG hM hargs hobjs hinj).mono fun e w' ⟨u, v, h', ρ', e1, ⟨c1, c2, c3⟩, ha⟩ => ⟨u, _, _, ρ', e1, ⟨rfl, rfl⟩, ha.le c1 c2 c3⟩
theorem FnOK.intro {ty : TypeId → Option TC} {E : Env} {fu : Nat} {f : FuncId} {fn : Func} {c : Code} {an : Ann} {args : List SSh} {pre : List (Name × OSh)} {res : List SSh} {post : List (Name × OSh)} {keep : List Name} {Ret : Type} [DecidableEq Ret] {un : Ret → SL res × OL post} {F : SL args → OL pre → Option Ret}
    (conv : SL res → OL post → Ret) (hcu : ∀ a b, un (conv a b) = (a, b)) (hE : EnvOK P E) (hf : P.funcs[f]? = some fn) (hb : fn.body = some c) (hlen : Nat.ble args.length fn.ntmps = true)
    (hF : ∀ x y, vc P ty E (keys pre) fn.ntmps fu c an (argSlotsB 0 (SL.put 0 args x)) (OL.put 0 pre y) (finK P (keys pre) fn.results.toList (mkSig args pre res post keep Ret un F) y fun a b => some (conv a b)) = F x y) :
    FnOK P f (mkSig args pre res post keep Ret un F) :=
  FnOK.introW conv hcu hf hb hlen fun x y q hq L0 hL0 Γ hn hk => vc_ok hE hk hn c an _ _ L0 _ ((hF x y).trans hq) hL0
end
def fitC : List Sh → List BV → Bool
  | .own _ :: r, v :: vs => (match v with | .own _ _ => true | _ => false) && fitC r vs
  | _ :: r, _ :: vs => fitC r vs
  | _, _ => true
def fitB : List SSh → List BV → Bool
  | .one (.own _) :: r, v :: vs => (match v with | .own _ _ => true | _ => false) && fitB r vs
  | .one (.clo f _) :: r, v :: vs => (match v with | .clo (.func k) _ => Nat.beq k f | _ => false) && fitB r vs
  | .one (.fv f) :: r, v :: vs => (match v with | .v (.func (.func k) _ _) => Nat.beq k f | _ => false) && fitB r vs
  | .agg l :: r, v :: vs => (match v with | .agg cs => fitC l cs | _ => false) && fitB r vs
  | _ :: r, _ :: vs => fitB r vs
  | _, _ => true
def fitD : Nat → Option Nat → Bool
  | 0, _ => true
  | n + 1, some d => Nat.beq n d
  | _, none => false
def lookE (d : Option Nat) (k : Nat) (vs : List BV) : List (Nat × Nat × Sig) → Option Sig
  | [] => none
  | (j, q, g) :: r => if Nat.beq j k && fitD q d && fitB g.args vs then some g else lookE d k vs r
def envL (l : List (Nat × Nat × Sig)) : Env := fun d k vs => lookE d k vs l
def EnvAll (P : Program) : List (Nat × Nat × Sig) → Prop
  | [] => True
  | p :: r => FnOK P p.1 p.2.2 ∧ EnvAll P r
theorem envL_ok {P : Program} : ∀ {l : List (Nat × Nat × Sig)}, EnvAll P l → EnvOK P (envL l)
  | [], _, d, k, vs, g, h => by simp [envL, lookE] at h
  | (j, q, g0) :: r, hl, d, k, vs, g, h => by
    simp only [envL, lookE] at h
    split at h
    · rename_i e
      simp only [Bool.and_eq_true] at e
      rw [← Nat.eq_of_beq_eq_true e.1.1]; cases h; exact hl.1
    · exact envL_ok hl.2 d k vs g h
end Go.Proofs.YtkfmncmhagpajaaGreatDoor.AM
set_option maxRecDepth 100000
namespace Go.Proofs.YtkfmncmhagpajaaGreatDoor
open Go AM
section
theorem FnOK.pure {P : Program} {f : FuncId} {args res : List SSh} {Ret : Type} {un : Ret → SL res × OL []} {F : SL args → Option Ret}
    (h : ∀ x q, F x = some q → ∀ L0 L1 : Lens, SpecIs P f (erL L0 (SL.put 0 args x)) [] ((resB (SL.put 1 res (un q).1)).er L1) []) : FnOK P f (mkSig args [] res [] [] Ret un fun x _ => F x) := by
  refine ⟨fun R x y K r hK => ?_, fun x y a b hK L0 hL0 => ?_⟩
  · obtain ⟨q, hq, hK⟩ := optc_some hK
    refine ⟨(un q).1, (un q).2, ?_, hK⟩
    change SL args at x
    replace hq : F x = some q := hq
    show optc (F x) _ = _
    rw [hq]; rfl
  · obtain ⟨q, hq, hK⟩ := optc_some hK
    have e : (un q).1 = a := by
      have := Option.some.inj hK
      exact congrArg Prod.fst this
    subst e
    exact ⟨L0, fun _ _ => rfl, fun n t l v hn => by change AM.look n [] = _ at hn; simp [AM.look] at hn, h x q hq L0 L0⟩
theorem ext_grow (w : World) (k : Nat) (os : Array Obj) : Ext (fun _ => False) w (Sort.grow (w.drewN k) os) := by
  have hh : (w.drewN k).heap = w.heap := by simp
  refine ⟨by simp [Sort.grow], fun b hb _ => ?_, rfl, rfl⟩
  simp only [Sort.grow, hh]
  exact Array.getElem?_append_left hb
theorem ext_drew (w : World) (k : Nat) : Ext (fun _ => False) w (w.drewN k) := by
  have hh : (w.drewN k).heap = w.heap := by simp
  exact ⟨by rw [hh]; exact Nat.le_refl _, fun b hb _ => by rw [hh], rfl, rfl⟩
theorem ext_below {w w' : World} (h : RowKit.Below w.heap.size w w') : Ext (fun _ => False) w w' := ⟨h.size, fun b hb _ => h.block b hb, h.os, h.output⟩
def toB (l : List UInt8) : ByteArray := ⟨l.toArray⟩
def itoaB (n : Int) : ByteArray := toB (Lib.itoa n)
def atoiK (s : ByteArray) : Bool := match Lib.atoiAll s.data.toList with | .ok _ => true | _ => false
def atoiV (s : ByteArray) : Int := match Lib.atoiAll s.data.toList with | .ok v => v | .range => Lib.atoiSat s.data.toList | _ => 0
theorem rows_strings (M : Nat → Prop) (w : World) (b : Nat) (t : TypeId) (fr : Nat × Nat) (l pre : List ByteArray) (post : List Value) (h : w.heap[b]? = some (.cells ((pre ++ l).map Value.string ++ post).toArray t fr)) : PV.Rows M w b 1 pre.length (l.map D.cStr) := by
  induction l generalizing pre with
  | nil => simp [PV.Rows]
  | cons x r ih =>
    simp only [List.map_cons, PV.Rows, D.cStr, List.length_cons, List.length_nil, PV.Cells, PV.R, true_and]
    refine ⟨⟨⟨.string x, ?_, rfl, rfl⟩, trivial⟩, ?_⟩
    · simp [World.cell?, h]
    · have := ih (pre ++ [x]) (by simpa using h)
      simpa using this
theorem cell_strings {M : Nat → Prop} {w : World} {b o : Nat} {l : List ByteArray} (h : PV.Rows M w b 1 o (l.map D.cStr)) (j : Nat) (x : ByteArray) (hj : l[j]? = some x) : w.cell? ⟨b, o + j, none⟩ = some (.string x) := by
  have h1 := (h.get j (D.cStr x) (by rw [List.getElem?_map, hj]; rfl)).2
  simp only [D.cStr, PV.Cells, PV.R, Nat.mul_one] at h1
  obtain ⟨⟨v, hv, rfl, _⟩, _⟩ := h1
  exact hv
noncomputable section
def strconv_Itoa (fu : Nat) (p0 : Int) : Option ByteArray := if -9223372036854775808 ≤ p0 ∧ p0 ≤ 9223372036854775807 then some (itoaB p0) else none
def strconv_Itoa_g (fu : Nat) : Sig := mkSig [.one (.num .i64)] [] [.one .str] [] [] ByteArray (fun q => ((q, ()), ())) (fun x y => strconv_Itoa fu x.1)
theorem strconv_Itoa_ok (fu : Nat) : FnOK Tryz.prog 45 (strconv_Itoa_g fu) := FnOK.pure fun ⟨n, _⟩ q hq L0 L1 => Spec.ofCalls fun G ρ M w us hG hMs ha => by
  unfold strconv_Itoa at hq
  split at hq
  · rename_i hb
    cases hq
    simp only [SL.put, SSh.put, Sh.put, erL, BV.er, AV.Ts, AV.R, PV.R] at ha
    obtain ⟨u, us', rfl, ⟨rfl, _⟩, rfl⟩ := ha
    refine (Go.Proofs.Any.strconv_Itoa lays171 n hb.1 hb.2 w (hG.var hG.laid.pow)).mono ?_
    rintro e w' ⟨rfl, k, os, rfl⟩
    exact ⟨_, rfl, by simp only [SL.put, SSh.put, Sh.put, resB, BV.er, AV.R, PV.R]; exact ⟨rfl, rfl⟩, ext_grow _ _ _⟩
  · simp at hq
def strconv_Atoi (fu : Nat) (p0 : ByteArray) : Option (Int × Bool) := lec p0.size 281474976710656 (some (atoiV p0, atoiK p0))
def strconv_Atoi_g (fu : Nat) : Sig := mkSig [.one .str] [] [.one (.num .i64), .one .err] [] [] (Int × Bool) (fun q => ((q.1, (q.2, ())), ())) (fun x y => strconv_Atoi fu x.1)
theorem strconv_Atoi_ok (fu : Nat) : FnOK Tryz.prog 75 (strconv_Atoi_g fu) := FnOK.pure fun ⟨s, _⟩ q hq L0 L1 => Spec.ofCalls fun G ρ M w us hG hMs ha => by
  obtain ⟨hmax, hq⟩ := lec_some hq
  cases hq
  simp only [SL.put, SSh.put, Sh.put, erL, BV.er, AV.Ts, AV.R, PV.R] at ha
  obtain ⟨u, us', rfl, ⟨rfl, _⟩, rfl⟩ := ha
  simp only [SL.put, SSh.put, Sh.put, resB, erL, BV.er, AV.R, AV.Ts, PV.R]
  change s.size ≤ _ at hmax
  cases h : Lib.atoiAll s.data.toList
  case ok v =>
    have e1 : atoiV s = v := by simp [atoiV, h]
    have e2 : atoiK s = true := by simp [atoiK, h]
    rw [e1, e2]
    refine (Go.Proofs.Any.strconv_Atoi_ok lays172 s (by omega) v h w).mono ?_
    rintro e w' ⟨rfl, hw⟩
    refine ⟨_, rfl, ⟨_, rfl, _, _, rfl, ⟨rfl, rfl⟩, _, _, rfl, ⟨rfl, fun _ => rfl, fun h => by simp at h⟩, rfl⟩, ?_⟩
    rcases hw with rfl | ⟨t, rfl⟩
    · exact Ext.refl _ _
    · exact ext_below (Lib.bytesWorld_below _ _ _)
  case range =>
    have e1 : atoiV s = Lib.atoiSat s.data.toList := by simp [atoiV, h]
    have e2 : atoiK s = false := by simp [atoiK, h]
    rw [e1, e2]
    obtain ⟨tp, p, hv⟩ := hG.laid.eran
    refine (Go.Proofs.Any.strconv_Atoi_range_var lays172 s hmax h tp p w (hG.var hv)).mono ?_
    rintro e w' ⟨N, rfl, _, _, hb⟩
    exact ⟨_, rfl, ⟨_, rfl, _, _, rfl, ⟨rfl, rfl⟩, _, _, rfl, ⟨rfl, fun h => by simp at h, fun _ => ⟨_, _, rfl⟩⟩, rfl⟩, ext_below hb⟩
  · skip
    have e1 : atoiV s = 0 := by simp [atoiV, h]
    have e2 : atoiK s = false := by simp [atoiK, h]
    rw [e1, e2]
    obtain ⟨tp, p, hv⟩ := hG.laid.esyn
    refine (Go.Proofs.Any.strconv_Atoi_syntax_var lays172 s hmax h tp p w (hG.var hv)).mono ?_
    rintro e w' ⟨N, rfl, _, _, hb⟩
    exact ⟨_, rfl, ⟨_, rfl, _, _, rfl, ⟨rfl, rfl⟩, _, _, rfl, ⟨rfl, fun h => by simp at h, fun _ => ⟨_, _, rfl⟩⟩, rfl⟩, ext_below hb⟩
theorem maxlen {G w : World} (hG : AM.Ground G w (fun _ => False)) : ∃ m, w.cell? ⟨lays145_ren.g 1, 0, none⟩ = some (.int .i64 m) := by
  obtain ⟨m, hm⟩ := hG.laid.mlen
  have h0 := World.var?_cell (P := Tryz.prog) (n := "internal/bytealg.MaxLen") (show Tryz.prog.globalNamed "internal/bytealg.MaxLen" = some (lays145_ren.g 1) by kernel_rfl) (hG.var hm) 0
  exact ⟨m, by simpa using h0⟩
def strings_Cut (fu : Nat) (p0 p1 : ByteArray) : Option (ByteArray × ByteArray × Bool) := lec p0.size 4294967280 (some (match Lib.cut p0.data.toList p1.data.toList with | (a, b, c) => (toB a, toB b, c)))
def strings_Cut_g (fu : Nat) : Sig := mkSig [.one .str, .one .str] [] [.one .str, .one .str, .one .boo] [] [] (ByteArray × ByteArray × Bool) (fun q => ((q.1, (q.2.1, (q.2.2, ()))), ())) (fun x y => strings_Cut fu x.1 x.2.1)
theorem strings_Cut_ok (fu : Nat) : FnOK Tryz.prog 14 (strings_Cut_g fu) := FnOK.pure fun ⟨s, t, _⟩ q hq L0 L1 => Spec.ofCalls fun G ρ M w us hG hMs ha => by
  obtain ⟨hmax, hq⟩ := lec_some hq
  cases hq
  simp only [SL.put, SSh.put, Sh.put, erL, BV.er, AV.Ts, AV.R, PV.R] at ha
  obtain ⟨u, us', rfl, ⟨rfl, _⟩, u2, us2, rfl, ⟨rfl, _⟩, rfl⟩ := ha
  simp only [SL.put, SSh.put, Sh.put, resB, erL, BV.er, AV.R, AV.Ts, PV.R]
  change s.size ≤ _ at hmax
  obtain ⟨m, hc⟩ := maxlen hG
  refine (Go.Proofs.Any.strings_Cut { lays145 with } s t m w (by omega) hc).mono ?_
  rintro e w' ⟨rfl, k, rfl⟩
  exact ⟨_, rfl, ⟨_, rfl, _, _, rfl, ⟨rfl, rfl⟩, _, _, rfl, ⟨rfl, rfl⟩, _, _, rfl, ⟨rfl, rfl⟩, rfl⟩, ext_drew _ _⟩
def strings_CutPrefix (fu : Nat) (p0 p1 : ByteArray) : Option (ByteArray × Bool) := some (toB (Lib.trimPrefix p0.data.toList p1.data.toList), Lib.hasPrefix p0.data.toList p1.data.toList)
def strings_CutPrefix_g (fu : Nat) : Sig := mkSig [.one .str, .one .str] [] [.one .str, .one .boo] [] [] (ByteArray × Bool) (fun q => ((q.1, (q.2, ())), ())) (fun x y => strings_CutPrefix fu x.1 x.2.1)
theorem strings_CutPrefix_ok (fu : Nat) : FnOK Tryz.prog 76 (strings_CutPrefix_g fu) := FnOK.pure fun ⟨s, t, _⟩ q hq L0 L1 => Spec.ofCalls fun G ρ M w us hG hMs ha => by
  cases hq
  simp only [SL.put, SSh.put, Sh.put, erL, BV.er, AV.Ts, AV.R, PV.R] at ha
  obtain ⟨u, us', rfl, ⟨rfl, _⟩, u2, us2, rfl, ⟨rfl, _⟩, rfl⟩ := ha
  simp only [SL.put, SSh.put, Sh.put, resB, erL, BV.er, AV.R, AV.Ts, PV.R]
  refine (Go.Proofs.Any.strings_CutPrefix lays103 s t w).mono ?_
  rintro e w' ⟨rfl, rfl⟩
  exact ⟨_, rfl, ⟨_, rfl, _, _, rfl, ⟨rfl, rfl⟩, _, _, rfl, ⟨rfl, rfl⟩, rfl⟩, Ext.refl _ _⟩
def strings_TrimPrefix (fu : Nat) (p0 p1 : ByteArray) : Option ByteArray := some (toB (Lib.trimPrefix p0.data.toList p1.data.toList))
def strings_TrimPrefix_g (fu : Nat) : Sig := mkSig [.one .str, .one .str] [] [.one .str] [] [] ByteArray (fun q => ((q, ()), ())) (fun x y => strings_TrimPrefix fu x.1 x.2.1)
theorem strings_TrimPrefix_ok (fu : Nat) : FnOK Tryz.prog 77 (strings_TrimPrefix_g fu) := FnOK.pure fun ⟨s, t, _⟩ q hq L0 L1 => Spec.ofCalls fun G ρ M w us hG hMs ha => by
  cases hq
  simp only [SL.put, SSh.put, Sh.put, erL, BV.er, AV.Ts, AV.R, PV.R] at ha
  obtain ⟨u, us', rfl, ⟨rfl, _⟩, u2, us2, rfl, ⟨rfl, _⟩, rfl⟩ := ha
  simp only [SL.put, SSh.put, Sh.put, resB, erL, BV.er, AV.R, AV.Ts, PV.R]
  refine (Go.Proofs.Any.strings_TrimPrefix lays101 s t w).mono ?_
  rintro e w' ⟨rfl, rfl⟩
  exact ⟨_, rfl, ⟨rfl, rfl⟩, Ext.refl _ _⟩
theorem alloc_strings {M : Nat → Prop} {w : World} (hMs : ∀ b, M b → b < w.heap.size) (l : List ByteArray) (cs : Array Value) (t : TypeId) (post : List Value) (hcs : cs = (l.map Value.string ++ post).toArray) (cap : Nat) (hl : l.length ≤ cap) (h0 : 1 ≤ cap) :
    ∃ (a : Option Addr) (cap' : Nat), Value.slice (some ⟨w.heap.size, 0, none⟩) l.length cap = .slice a (l.map D.cStr).length cap' ∧ (l.map D.cStr).length ≤ cap' ∧ (false = true → cap' = (l.map D.cStr).length) ∧ (a = none → cap' = 0) ∧
      ∀ ad, a = some ad → cap' ≠ 0 → ad.spot = none ∧ ¬ M ad.block ∧ ad.block < (w.alloc (.cells cs t)).heap.size ∧ PV.Rows M (w.alloc (.cells cs t)) ad.block 1 ad.off (l.map D.cStr) := by
  refine ⟨_, cap, by rw [List.length_map], by rw [List.length_map]; exact hl, fun h => by simp at h, fun h => by simp at h, fun ad had _ => ?_⟩
  cases had
  refine ⟨rfl, fun hM => absurd (hMs _ hM) (Nat.lt_irrefl _), by simp, ?_⟩
  exact rows_strings M (w.alloc (.cells cs t)) w.heap.size t (0, 0) l [] post (by rw [hcs, List.nil_append]; exact heap_alloc_new w _)
def strings_Split (fu : Nat) (p0 p1 : ByteArray) : Option (List ByteArray) := lec p0.size 4294967280 (lec 1 p1.size (some (Lib.splitB p1 0 (Lib.countB p0 p1) p0)))
def strings_Split_g (fu : Nat) : Sig := mkSig [.one .str, .one .str] [] [.one (.lst .str)] [] [] (List ByteArray) (fun q => ((q, ()), ())) (fun x y => strings_Split fu x.1 x.2.1)
theorem strings_Split_ok (fu : Nat) : FnOK Tryz.prog 66 (strings_Split_g fu) := FnOK.pure fun ⟨s, t, _⟩ q hq L0 L1 => Spec.ofCalls fun G ρ M w us hG hMs ha => by
  obtain ⟨hmax, hq⟩ := lec_some hq
  obtain ⟨h1, hq⟩ := lec_some hq
  cases hq
  simp only [SL.put, SSh.put, Sh.put, erL, BV.er, AV.Ts, AV.R, PV.R] at ha
  obtain ⟨u, us', rfl, ⟨rfl, _⟩, u2, us2, rfl, ⟨rfl, _⟩, rfl⟩ := ha
  simp only [SL.put, SSh.put, Sh.put, resB, erL, BV.er, AV.R, PV.R]
  change s.size ≤ _ at hmax
  change 1 ≤ t.size at h1
  obtain ⟨m, hc⟩ := maxlen hG
  refine (Go.Proofs.Any.strings_Split { lays146 with } lays146.i9 s t m w (by omega) hc h1).mono ?_
  rintro e w' ⟨rfl, rfl⟩
  have hlen : (Lib.splitB t 0 (Lib.countB s t) s).length = Lib.countB s t + 1 := Lib.splitB_all t h1 0 _ s rfl
  refine ⟨_, rfl, ?_, (Ext.alloc w _).weaken (fun _ _ h => h.elim)⟩
  have := alloc_strings hMs (Lib.splitB t 0 (Lib.countB s t) s) _ (lays146_ren.t 9) [] (by rw [List.append_nil]) (Lib.countB s t + 1) (by omega) (by omega)
  rw [hlen] at this
  exact this
def strings_SplitN (fu : Nat) (p0 p1 : ByteArray) (p2 : Int) : Option (List ByteArray) := lec p0.size 4294967280 (lec 1 p1.size (if 1 ≤ p2 ∧ p2 ≤ 9223372036854775807 then some (Lib.splitB p1 0 (min p2.toNat (p0.size + 1) - 1) p0) else none))
def strings_SplitN_g (fu : Nat) : Sig := mkSig [.one .str, .one .str, .one (.num .i64)] [] [.one (.lst .str)] [] [] (List ByteArray) (fun q => ((q, ()), ())) (fun x y => strings_SplitN fu x.1 x.2.1 x.2.2.1)
theorem strings_SplitN_ok (fu : Nat) : FnOK Tryz.prog 68 (strings_SplitN_g fu) := FnOK.pure fun ⟨s, t, n, _⟩ q hq L0 L1 => Spec.ofCalls fun G ρ M w us hG hMs ha => by
  obtain ⟨hmax, hq⟩ := lec_some hq
  obtain ⟨h1, hq⟩ := lec_some hq
  change s.size ≤ _ at hmax
  change 1 ≤ t.size at h1
  split at hq
  · rename_i hn
    change 1 ≤ n ∧ n ≤ _ at hn
    cases hq
    simp only [SL.put, SSh.put, Sh.put, erL, BV.er, AV.Ts, AV.R, PV.R] at ha
    obtain ⟨u, us', rfl, ⟨rfl, _⟩, u2, us2, rfl, ⟨rfl, _⟩, u3, us3, rfl, ⟨rfl, _⟩, rfl⟩ := ha
    simp only [SL.put, SSh.put, Sh.put, resB, erL, BV.er, AV.R, PV.R]
    obtain ⟨m, hc⟩ := maxlen hG
    obtain ⟨k, rfl⟩ : ∃ k : Nat, n = k := ⟨n.toNat, by omega⟩
    refine (Go.Proofs.Any.strings_SplitN { lays147 with } lays147.i9 s t k m w (by omega) hc h1 (by omega) (by omega)).mono ?_
    rintro e w' ⟨rfl, rfl⟩
    refine ⟨_, rfl, ?_, (Ext.alloc w _).weaken (fun _ _ h => h.elim)⟩
    have hle := Lib.splitB_length_le t 0 (min k (s.size + 1) - 1) s
    exact alloc_strings hMs (Lib.splitB t 0 (min k (s.size + 1) - 1) s) _ (lays147_ren.t 9) _ (by unfold Lib.cellsOf; rfl) (min k (s.size + 1)) (by omega) (by omega)
  · simp at hq
def joinS (l : List ByteArray) (sep : ByteArray) : ByteArray := toB (Lib.join (l.map (·.data.toList)) sep.data.toList)
theorem extraJoin : Go.Proofs.Builder.Extra Tryz.prog lays156_ren where
  sizeBuilder := by kernel_rfl
  liesBuilder := by kernel_rfl
  t5 := Tryz.underlying5
  a5 := Tryz.isAgg5
  z5 := Tryz.sizeOf5
  v5 := Tryz.zeroValue5
  infoByte := by kernel_rfl
  cellsByte := by kernel_rfl
  sizeByte := by kernel_rfl
  neB5 := by decide
def strings_Join (fu : Nat) (p0 : List ByteArray) (p1 : ByteArray) : Option ByteArray := lec p0.length 1000000 (lec (joinS p0 p1).size 1000000 (some (joinS p0 p1)))
def strings_Join_g (fu : Nat) : Sig := mkSig [.one (.lst .str), .one .str] [] [.one .str] [] [] ByteArray (fun q => ((q, ()), ())) (fun x y => strings_Join fu x.1 x.2.1)
theorem strings_Join_ok (fu : Nat) : FnOK Tryz.prog 33 (strings_Join_g fu) := FnOK.pure fun ⟨l, t, _⟩ q hq L0 L1 => Spec.ofCalls fun G ρ M w us hG hMs ha => by
  obtain ⟨hl, hq⟩ := lec_some hq
  obtain ⟨hj, hq⟩ := lec_some hq
  cases hq
  change List ByteArray at l
  change l.length ≤ _ at hl
  change (joinS l t).size ≤ _ at hj
  simp only [SL.put, SSh.put, Sh.put, erL, BV.er, AV.Ts, AV.R, PV.R] at ha
  obtain ⟨u, us', rfl, ⟨a, cap, rfl, hcap, -, hn, hc⟩, u2, us2, rfl, ⟨rfl, _⟩, rfl⟩ := ha
  rw [List.length_map] at hcap ⊢
  simp only [SL.put, SSh.put, Sh.put, resB, erL, BV.er, AV.R, PV.R]
  have h1 : (Lib.join (l.map (·.data.toList)) t.data.toList).length ≤ 140737488355328 := Nat.le_trans hj (by decide)
  by_cases h0 : l = []
  · subst h0
    exact (Go.Proofs.Any.strings_Join_none lays156 extraJoin a cap t w).mono fun e w' ⟨he, hw⟩ => ⟨_, he, ⟨rfl, rfl⟩, hw ▸ Ext.refl _ _⟩
  · have hpos : 0 < l.length := List.length_pos_iff.2 h0
    obtain ⟨ad, rfl⟩ : ∃ ad, a = some ad := by
      cases a with
      | none => have := hn rfl; omega
      | some ad => exact ⟨ad, rfl⟩
    obtain ⟨hs, -, hb, hrows⟩ := hc ad rfl (by omega)
    obtain ⟨bk, o, sp⟩ := ad
    change sp = none at hs
    subst hs
    refine (Go.Proofs.Any.strings_Join lays156 extraJoin bk o cap l t w (fun j x hj => cell_strings hrows j x hj) hb (by omega) hcap h1).mono fun e w' ⟨he, hw⟩ => ⟨_, he, ⟨rfl, rfl⟩, ext_below hw⟩
end
end
open Go Go.RowKit Go.Shelf Go.Proofs AM
theorem extra166 : Builder.Extra Tryz.prog lays166_ren where
  sizeBuilder := by kernel_rfl
  liesBuilder := by kernel_rfl
  t5 := Tryz.underlying5
  a5 := Tryz.isAgg5
  z5 := Tryz.sizeOf5
  v5 := Tryz.zeroValue5
  infoByte := by kernel_rfl
  cellsByte := by kernel_rfl
  sizeByte := by kernel_rfl
  neB5 := by decide
theorem extra167 : Builder.Extra Tryz.prog lays167_ren where
  sizeBuilder := by kernel_rfl
  liesBuilder := by kernel_rfl
  t5 := Tryz.underlying5
  a5 := Tryz.isAgg5
  z5 := Tryz.sizeOf5
  v5 := Tryz.zeroValue5
  infoByte := by kernel_rfl
  cellsByte := by kernel_rfl
  sizeByte := by kernel_rfl
  neB5 := by decide
theorem extra169 : Builder.Extra Tryz.prog lays169_ren where
  sizeBuilder := by kernel_rfl
  liesBuilder := by kernel_rfl
  t5 := Tryz.underlying5
  a5 := Tryz.isAgg5
  z5 := Tryz.sizeOf5
  v5 := Tryz.zeroValue5
  infoByte := by kernel_rfl
  cellsByte := by kernel_rfl
  sizeByte := by kernel_rfl
  neB5 := by decide
abbrev IsB (B b : Nat) (l : List UInt8) (w : World) : Prop := Lib.IsBuilder 45 5 B b (Lib.byteCells l) w
theorem bld_new (w : World) : IsB w.heap.size w.heap.size [] (w.alloc (.cells #[.pointer none, .slice none 0 0] 45)) := Lib.fresh_isBuilder _ _ w
theorem bld_Byte (B b : Nat) (l : List UInt8) (c : UInt8) (w : World) (h : IsB B b l w) (hlen : l.length + 1 ≤ 100000000) (hBw : B ≤ w.heap.size) :
    Calls Tryz.prog 60 #[.pointer (some ⟨b, 0, none⟩), .int .u8 c.toNat] w fun e w' => e = .returned .nilIface ∧ IsB B b (l ++ [c]) w' ∧ Below B w w' := by
  refine (Any.Builder_WriteByte lays167 extra167 B b _ c.toNat w h (by rw [Lib.byteCells_length]; omega) hBw).mono ?_
  rintro e w' ⟨rfl, h1, h2⟩
  exact ⟨rfl, Or.inr (by rw [Lib.byteCells_append]; exact h1), h2⟩
theorem bld_Str (B b : Nat) (l : List UInt8) (s : ByteArray) (w : World) (h : IsB B b l w) (hlen : l.length + s.size ≤ 100000000) (hBw : B ≤ w.heap.size) :
    Calls Tryz.prog 10 #[.pointer (some ⟨b, 0, none⟩), .string s] w fun e w' => e = .returned (.tuple #[.int .i64 s.size, .nilIface]) ∧ IsB B b (l ++ s.data.toList) w' ∧ Below B w w' := by
  refine (Any.Builder_WriteString lays166 extra166 B b _ s w h (by rw [Lib.byteCells_length]; omega) hBw).mono ?_
  rintro e w' ⟨rfl, h1, h2⟩
  exact ⟨rfl, Or.inr (by rw [Lib.byteCells_append, ← Lib.strCells_eq]; exact h1), h2⟩
theorem bld_String (B b : Nat) (l : List UInt8) (w : World) (h : IsB B b l w) (hBw : B ≤ w.heap.size) :
    Calls Tryz.prog 13 #[.pointer (some ⟨b, 0, none⟩)] w fun e w' => e = .returned (.string (toB l)) ∧ Below B w w' := Any.Builder_String_any lays169 extra169 B b l w h hBw
theorem bld_Len (B b : Nat) (l : List UInt8) (w : World) (h : IsB B b l w) :
    Calls Tryz.prog 12 #[.pointer (some ⟨b, 0, none⟩)] w fun e w' => e = .returned (.int .i64 l.length) ∧ w' = w := by
  have := Any.Builder_Len lays170 B b _ w h
  rwa [Lib.byteCells_length] at this
def quoteL : List UInt8 → List UInt8
  | [] => []
  | c :: r => (if c = 34 ∨ c = 92 then [92, c] else [c]) ++ quoteL r
theorem quoteL_append : ∀ a b : List UInt8, quoteL (a ++ b) = quoteL a ++ quoteL b
  | [], b => rfl
  | c :: r, b => by simp only [List.cons_append, quoteL, quoteL_append r b, List.append_assoc]
theorem quoteL_length : ∀ a : List UInt8, (quoteL a).length ≤ 2 * a.length
  | [] => by simp [quoteL]
  | c :: r => by
    have := quoteL_length r
    simp only [quoteL, List.length_append, List.length_cons]
    split <;> simp <;> omega
theorem take_next {l : List UInt8} {k : Nat} {c : UInt8} (h : l[k]? = some c) : l.take (k + 1) = l.take k ++ [c] := by
  rw [List.take_add_one, h]; rfl
theorem quote_34 {c : UInt8} (h : (c.toNat : Int) = 34) : quoteL [c] = [92, 34] := by
  have : c = 34 := UInt8.toNat_inj.1 (by simpa using Int.ofNat.inj h)
  simp [quoteL, this]
theorem quote_92 {c : UInt8} (h : (c.toNat : Int) = 92) : quoteL [c] = [92, 92] := by
  have : c = 92 := UInt8.toNat_inj.1 (by simpa using Int.ofNat.inj h)
  simp [quoteL, this]
theorem quote_else {c : UInt8} (h1 : ¬ (c.toNat : Int) = 34) (h2 : ¬ (c.toNat : Int) = 92) : quoteL [c] = [c] := by
  have e1 : ¬ c = 34 := fun e => h1 (by rw [e]; rfl)
  have e2 : ¬ c = 92 := fun e => h2 (by rw [e]; rfl)
  simp [quoteL, e1, e2]
set_option maxHeartbeats 600000 in
theorem quoted_calls (s : ByteArray) (w : World) (hs : s.size ≤ 1000000) :
    Calls Tryz.prog 46 #[.string s] w fun e w' => e = .returned (.string (toB (34 :: quoteL s.data.toList ++ [34]))) ∧ Below w.heap.size w w' := by
  go_enter Tryz.func46, Tryz.ntmps46
  go_wp2_with (go_at_call 60; refine (bld_Byte w.heap.size w.heap.size [] 34 _ (bld_new w) (by simp) (by simp)).mono ?_)
  rintro e w1 ⟨rfl, h1, hb1⟩
  have H1 := Any.hidU h1
  have Hb1 := Any.hidU (((Below.refl w.heap.size w).alloc (Nat.le_refl _) _).trans hb1)
  clear h1 hb1
  go_wp2_with fail
  go_loopw [8] (fun i wr => ∃ k : Nat, k ≤ s.size ∧ i = .int .i64 k ∧ Hid (IsB w.heap.size w.heap.size (34 :: quoteL (s.data.toList.take k)) wr) ∧ Hid (Below w.heap.size w wr)) (fun i _ => s.size - (Lib.intOf i).toNat)
  case atStart => exact ⟨0, Nat.zero_le _, rfl, H1, Hb1⟩
  case round =>
    obtain ⟨k, hk, rfl, HB, HW⟩ := hrel
    have hsz : s.data.toList.length = s.size := by rw [Array.length_toList]; rfl
    have hql : (34 :: quoteL (s.data.toList.take k)).length ≤ 2 * s.size + 1 := by
      have := quoteL_length (s.data.toList.take k)
      rw [List.length_take] at this
      simp only [List.length_cons]
      omega
    have hBw : w.heap.size ≤ wr.heap.size := HW.out.size
    by_cases hlt : k < s.size
    · have hb : s.data.toList[k]? = some (s[k]'hlt) := by
        rw [Array.getElem?_toList]
        exact Array.getElem?_eq_getElem hlt
      obtain ⟨c, hc⟩ : ∃ c, s[k]'hlt = c := ⟨_, rfl⟩
      rw [hc] at hb
      have Hq := Any.hidU (show 34 :: quoteL (s.data.toList.take (k + 1)) = 34 :: quoteL (s.data.toList.take k) ++ quoteL [c] by rw [take_next hb, quoteL_append]; rfl)
      by_cases c34 : (c.toNat : Int) = 34
      · have hq := Any.hidU (quote_34 c34)
        go_wp2_with fail
        refine (bld_Byte w.heap.size w.heap.size _ 92 wr HB.out (by omega) hBw).mono ?_
        rintro e w2 ⟨rfl, h2, hb2⟩
        have H2 := Any.hidU h2
        have Hb2 := Any.hidU (HW.out.trans hb2)
        have hBw2 : w.heap.size ≤ w2.heap.size := Hb2.out.size
        clear h2 hb2
        go_wp2_with fail
        refine (bld_Byte w.heap.size w.heap.size _ 34 w2 H2.out (by rw [List.length_append]; simp only [List.length_singleton]; omega) hBw2).mono ?_
        rintro e w3 ⟨rfl, h3, hb3⟩
        rw [List.append_assoc, List.singleton_append, ← hq.out, ← Hq.out] at h3
        have H3 := Any.hidU h3
        have Hb3 := Any.hidU (Hb2.out.trans hb3)
        clear h3 hb3
        go_wp2
        exact ⟨⟨k + 1, by omega, rfl, H3, Hb3⟩, by simp [Lib.intOf]; omega⟩
      by_cases c92 : (c.toNat : Int) = 92
      · have hq := Any.hidU (quote_92 c92)
        go_wp2_with fail
        refine (bld_Byte w.heap.size w.heap.size _ 92 wr HB.out (by omega) hBw).mono ?_
        rintro e w2 ⟨rfl, h2, hb2⟩
        have H2 := Any.hidU h2
        have Hb2 := Any.hidU (HW.out.trans hb2)
        have hBw2 : w.heap.size ≤ w2.heap.size := Hb2.out.size
        clear h2 hb2
        go_wp2_with fail
        refine (bld_Byte w.heap.size w.heap.size _ 92 w2 H2.out (by rw [List.length_append]; simp only [List.length_singleton]; omega) hBw2).mono ?_
        rintro e w3 ⟨rfl, h3, hb3⟩
        rw [List.append_assoc, List.singleton_append, ← hq.out, ← Hq.out] at h3
        have H3 := Any.hidU h3
        have Hb3 := Any.hidU (Hb2.out.trans hb3)
        clear h3 hb3
        go_wp2
        exact ⟨⟨k + 1, by omega, rfl, H3, Hb3⟩, by simp [Lib.intOf]; omega⟩
      · have hq := Any.hidU (quote_else c34 c92)
        go_wp2_with fail
        · exfalso
          have hx : ((c.toNat : Int) == 34) = true ∨ ((c.toNat : Int) == 92) = true := by assumption
          simp [c34, c92] at hx
        refine (bld_Byte w.heap.size w.heap.size _ c wr HB.out (by omega) hBw).mono ?_
        rintro e w3 ⟨rfl, h3, hb3⟩
        rw [← hq.out, ← Hq.out] at h3
        have H3 := Any.hidU h3
        have Hb3 := Any.hidU (HW.out.trans hb3)
        clear h3 hb3
        go_wp2
        exact ⟨⟨k + 1, by omega, rfl, H3, Hb3⟩, by simp [Lib.intOf]; omega⟩
    · have hke : k = s.size := by omega
      subst hke
      go_wp2_with fail
      refine (bld_Byte w.heap.size w.heap.size _ 34 wr HB.out (by omega) hBw).mono ?_
      rintro e w2 ⟨rfl, h2, hb2⟩
      rw [← hsz, List.take_length] at h2
      have H2 := Any.hidU h2
      have Hb2 := Any.hidU (HW.out.trans hb2)
      have hBw2 : w.heap.size ≤ w2.heap.size := Hb2.out.size
      clear h2 hb2
      go_wp2_with fail
      refine (bld_String w.heap.size w.heap.size _ w2 H2.out hBw2).mono ?_
      rintro e w3 ⟨rfl, hb3⟩
      have Hb3 := Any.hidU (Hb2.out.trans hb3)
      clear hb3
      go_wp2
      go_ret
      exact ⟨rfl, Hb3.out⟩
def unqL (acc : List UInt8) : List UInt8 → Option (List UInt8 × List UInt8)
  | [] => none
  | [c] => if c = 34 then some (acc, []) else none
  | c :: d :: r => if c = 34 then some (acc, d :: r) else if c = 92 then unqL (acc ++ [d]) r else unqL (acc ++ [c]) (d :: r)
def unqR : List UInt8 → List UInt8 × List UInt8 × Bool
  | [] => ([], [], false)
  | c :: r => if c = 34 then (match unqL [] r with | some (a, b) => (a, b, true) | none => ([], [], false)) else ([], [], false)
theorem unq_end (acc : List UInt8) : ∀ r, unqL acc (34 :: r) = some (acc, r)
  | [] => by simp [unqL]
  | _ :: _ => by simp [unqL]
theorem unq_esc (acc : List UInt8) (d : UInt8) (r : List UInt8) : unqL acc (92 :: d :: r) = unqL (acc ++ [d]) r := by simp [unqL]
theorem unq_one (acc : List UInt8) {c : UInt8} (h1 : ¬ (c.toNat : Int) = 34) : ∀ r, (¬ (c.toNat : Int) = 92 ∨ r = []) → unqL acc (c :: r) = unqL (acc ++ [c]) r
  | [], _ => by
    have e1 : ¬ c = 34 := fun e => h1 (by rw [e]; rfl)
    simp [unqL, e1]
  | d :: r, h => by
    have e1 : ¬ c = 34 := fun e => h1 (by rw [e]; rfl)
    have e2 : ¬ c = 92 := fun e => (h.resolve_right (by simp)) (by rw [e]; rfl)
    simp [unqL, e1, e2]
theorem byte_34 {c : UInt8} (h : (c.toNat : Int) = 34) : c = 34 := UInt8.toNat_inj.1 (by simpa using Int.ofNat.inj h)
theorem byte_92 {c : UInt8} (h : (c.toNat : Int) = 92) : c = 92 := UInt8.toNat_inj.1 (by simpa using Int.ofNat.inj h)
theorem unq_data (s : ByteArray) (k : Nat) : toB (s.data.toList.drop k) = s.extract k s.size := by
  apply ByteArray.ext
  apply Array.ext'
  rw [Lib.extract_data]
  have : s.data.toList.length = s.size := by rw [Array.length_toList]; rfl
  rw [List.take_of_length_le (by rw [List.length_drop]; omega)]
  rfl
set_option maxHeartbeats 1000000 in
theorem unquoted_calls (s : ByteArray) (w : World) (hs : s.size ≤ 1000000) :
    Calls Tryz.prog 78 #[.string s] w fun e w' => e = .returned (.tuple #[.string (toB (unqR s.data.toList).1), .string (toB (unqR s.data.toList).2.1), .bool (unqR s.data.toList).2.2]) ∧ Below w.heap.size w w' := by
  have hsz : s.data.toList.length = s.size := by rw [Array.length_toList]; rfl
  cases hl : s.data.toList with
  | nil =>
    have h0 : s = ByteArray.empty := by
      apply ByteArray.ext
      apply Array.ext'
      rw [hl]; rfl
    subst h0
    go_enter Tryz.func78, Tryz.ntmps78
    go_wp2
    go_ret3
    exact ⟨rfl, Below.refl _ _⟩
  | cons c0 r0 =>
    have hpos : 0 < s.size := by rw [← hsz, hl]; simp
    have hne : ¬ s = ByteArray.empty := fun e => by rw [e] at hpos; simp at hpos
    have hE : ¬ s.toList = [] := fun e => by
      rw [ByteArray.toList_eq] at e
      rw [hl] at e; simp at e
    have hI : s.toList.isEmpty = false := by
      cases h : s.toList with
      | nil => exact absurd h hE
      | cons => rfl
    have hb0 : s[0]'hpos = c0 := by
      have : s.data.toList[0]? = some c0 := by rw [hl]; rfl
      rw [Array.getElem?_toList, Array.getElem?_eq_getElem hpos] at this
      exact Option.some.inj this
    by_cases c34 : (c0.toNat : Int) = 34
    · have hc0 : c0 = 34 := byte_34 c34
      have hd1 : s.data.toList.drop 1 = r0 := by rw [hl]; rfl
      have hR : unqR (c0 :: r0) = (match unqL [] (s.data.toList.drop 1) with | some (a, b) => (a, b, true) | none => ([], [], false)) := by rw [hd1]; simp [unqR, hc0]
      obtain ⟨X, hX⟩ : ∃ X, unqR (c0 :: r0) = X := ⟨_, rfl⟩
      rw [hX] at hR ⊢
      have HR := Any.hidU hR
      clear hR hX
      go_enter Tryz.func78, Tryz.ntmps78
      go_wp2_with fail
      go_loopw [6] (fun i wr => ∃ (k : Nat) (acc : List UInt8), 1 ≤ k ∧ k ≤ s.size ∧ i = .int .i64 k ∧ acc.length ≤ k ∧ Hid (unqL [] (s.data.toList.drop 1) = unqL acc (s.data.toList.drop k)) ∧ Hid (IsB w.heap.size w.heap.size acc wr) ∧ Hid (Below w.heap.size w wr)) (fun i _ => s.size - (Lib.intOf i).toNat)
      case atStart => exact ⟨1, [], Nat.le_refl _, hpos, rfl, by simp, rfl, Any.hidU (bld_new w), Any.hidU ((Below.refl w.heap.size w).alloc (Nat.le_refl _) _)⟩
      case round =>
        obtain ⟨k, acc, hk1, hk, rfl, hacc, HU, HB, HW⟩ := hrel
        have hBw : w.heap.size ≤ wr.heap.size := HW.out.size
        by_cases hlt : k < s.size
        · obtain ⟨c, hc⟩ : ∃ c, s[k]'hlt = c := ⟨_, rfl⟩
          have hb : s.data.toList[k]? = some c := by
            rw [Array.getElem?_toList, ← hc]
            exact Array.getElem?_eq_getElem hlt
          have hdr : s.data.toList.drop k = c :: s.data.toList.drop (k + 1) := by
            rw [List.drop_eq_getElem_cons (by omega)]
            congr 1
          by_cases c34 : (c.toNat : Int) = 34
          · have hfin : unqL [] (s.data.toList.drop 1) = some (acc, s.data.toList.drop (k + 1)) := by rw [HU.out, hdr, byte_34 c34, unq_end]
            have hX : X = (acc, s.data.toList.drop (k + 1), true) := by rw [HR.out, hfin]
            subst hX
            have HB2 := Any.hidU (show IsB w.heap.size w.heap.size acc wr.drew from HB.out)
            have hBw2 : w.heap.size ≤ wr.drew.heap.size := hBw
            have hw1 : IntKind.i64.wrap ((k : Int) + 1) = (k : Int) + 1 := by rw [IntKind.wrap_i64]; omega
            have hb1 : (0 : Int) ≤ (k : Int) + 1 := by omega
            have hb2 : (k : Int) + 1 ≤ s.size := by omega
            have hb3 : k + 1 ≤ s.size := by omega
            have htn : ((k : Int) + 1).toNat = k + 1 := by omega
            go_wp2_with fail
            go_region_with (go_at_call 13; refine (bld_String w.heap.size w.heap.size acc wr.drew HB2.out hBw2).mono ?_; rintro e w2 ⟨rfl, hb2⟩)
            go_wp2
            go_ret3
            refine ⟨?_, HW.out.drew.trans hb2⟩
            rw [← unq_data, hl]
            rfl
          · by_cases c92 : (c.toNat : Int) = 92 ∧ k + 1 < s.size
            · obtain ⟨c92, hk2⟩ := c92
              obtain ⟨d, hd⟩ : ∃ d, s[k + 1]'hk2 = d := ⟨_, rfl⟩
              have hb2 : s.data.toList[k + 1]? = some d := by
                rw [Array.getElem?_toList, ← hd]
                exact Array.getElem?_eq_getElem hk2
              have hdr2 : s.data.toList.drop (k + 1) = d :: s.data.toList.drop (k + 2) := by
                rw [List.drop_eq_getElem_cons (by omega)]
                congr 1
              have HU2 := Any.hidU (show unqL [] (s.data.toList.drop 1) = unqL (acc ++ [d]) (s.data.toList.drop (k + 2)) by rw [HU.out, hdr, hdr2, byte_92 c92, unq_esc])
              go_wp2_with fail
              refine (bld_Byte w.heap.size w.heap.size acc d wr HB.out (by omega) hBw).mono ?_
              rintro e w3 ⟨rfl, h3, hb3⟩
              have H3 := Any.hidU h3
              have Hb3 := Any.hidU (HW.out.trans hb3)
              clear h3 hb3
              go_wp2
              exact ⟨⟨k + 2, acc ++ [d], by omega, by omega, by go_num, by rw [List.length_append]; simp only [List.length_singleton]; omega, HU2, H3, Hb3⟩, by simp [Lib.intOf]; omega⟩
            · have HU2 := Any.hidU (show unqL [] (s.data.toList.drop 1) = unqL (acc ++ [c]) (s.data.toList.drop (k + 1)) by
                rw [HU.out, hdr]
                exact unq_one acc c34 _ (by
                  by_cases h : (c.toNat : Int) = 92
                  · right
                    have : ¬ k + 1 < s.size := fun h2 => c92 ⟨h, h2⟩
                    exact List.drop_eq_nil_of_le (by omega)
                  · exact .inl h))
              by_cases e92 : (c.toNat : Int) = 92
              · have hc92 := byte_92 e92
                subst hc92
                go_wp2_with fail
                refine (bld_Byte w.heap.size w.heap.size acc 92 wr HB.out (by omega) hBw).mono ?_
                rintro e w3 ⟨rfl, h3, hb3⟩
                have H3 := Any.hidU h3
                have Hb3 := Any.hidU (HW.out.trans hb3)
                clear h3 hb3
                go_wp2
                exact ⟨⟨k + 1, acc ++ [92], by omega, by omega, by go_num, by rw [List.length_append]; simp only [List.length_singleton]; omega, HU2, H3, Hb3⟩, by simp [Lib.intOf]; omega⟩
              · go_wp2_with fail
                refine (bld_Byte w.heap.size w.heap.size acc c wr HB.out (by omega) hBw).mono ?_
                rintro e w3 ⟨rfl, h3, hb3⟩
                have H3 := Any.hidU h3
                have Hb3 := Any.hidU (HW.out.trans hb3)
                clear h3 hb3
                go_wp2
                exact ⟨⟨k + 1, acc ++ [c], by omega, by omega, by go_num, by rw [List.length_append]; simp only [List.length_singleton]; omega, HU2, H3, Hb3⟩, by simp [Lib.intOf]; omega⟩
        · have hke : k = s.size := by omega
          subst hke
          have hfin : unqL [] (s.data.toList.drop 1) = none := by rw [HU.out, List.drop_eq_nil_of_le (by omega)]; rfl
          have hX : X = ([], [], false) := by rw [HR.out, hfin]
          subst hX
          go_wp2_with fail
          go_ret3
          exact ⟨rfl, HW.out⟩
    · have hc0 : ¬ c0 = 34 := fun e => c34 (by rw [e]; rfl)
      have hR : unqR (c0 :: r0) = ([], [], false) := by simp [unqR, hc0]
      rw [hR]
      go_enter Tryz.func78, Tryz.ntmps78
      go_wp2_with fail
      go_ret3
      exact ⟨rfl, Below.refl _ _⟩
noncomputable section
def label_quoted (fu : Nat) (p0 : ByteArray) : Option ByteArray := lec p0.size 1000000 (some (toB (34 :: quoteL p0.data.toList ++ [34])))
def label_quoted_g (fu : Nat) : Sig := mkSig [.one .str] [] [.one .str] [] [] ByteArray (fun q => ((q, ()), ())) (fun x y => label_quoted fu x.1)
theorem label_quoted_ok (fu : Nat) : FnOK Tryz.prog 46 (label_quoted_g fu) := FnOK.pure fun ⟨s, _⟩ q hq L0 L1 => Spec.ofCalls fun G ρ M w us hG hMs ha => by
  obtain ⟨hmax, hq⟩ := lec_some hq
  cases hq
  simp only [SL.put, SSh.put, Sh.put, erL, BV.er, AV.Ts, AV.R, PV.R] at ha
  obtain ⟨u, us', rfl, ⟨rfl, _⟩, rfl⟩ := ha
  simp only [SL.put, SSh.put, Sh.put, resB, erL, BV.er, AV.R, PV.R]
  refine (quoted_calls s w hmax).mono ?_
  rintro e w' ⟨rfl, hw⟩
  exact ⟨_, rfl, ⟨rfl, rfl⟩, ext_below hw⟩
def label_unquoted (fu : Nat) (p0 : ByteArray) : Option (ByteArray × ByteArray × Bool) := lec p0.size 1000000 (some (match unqR p0.data.toList with | (a, b, c) => (toB a, toB b, c)))
def label_unquoted_g (fu : Nat) : Sig := mkSig [.one .str] [] [.one .str, .one .str, .one .boo] [] [] (ByteArray × ByteArray × Bool) (fun q => ((q.1, (q.2.1, (q.2.2, ()))), ())) (fun x y => label_unquoted fu x.1)
theorem label_unquoted_ok (fu : Nat) : FnOK Tryz.prog 78 (label_unquoted_g fu) := FnOK.pure fun ⟨s, _⟩ q hq L0 L1 => Spec.ofCalls fun G ρ M w us hG hMs ha => by
  obtain ⟨hmax, hq⟩ := lec_some hq
  cases hq
  simp only [SL.put, SSh.put, Sh.put, erL, BV.er, AV.Ts, AV.R, PV.R] at ha
  obtain ⟨u, us', rfl, ⟨rfl, _⟩, rfl⟩ := ha
  simp only [SL.put, SSh.put, Sh.put, resB, erL, BV.er, AV.R, AV.Ts, PV.R]
  refine (unquoted_calls s w hmax).mono ?_
  rintro e w' ⟨rfl, hw⟩
  exact ⟨_, rfl, ⟨_, rfl, _, _, rfl, ⟨rfl, rfl⟩, _, _, rfl, ⟨rfl, rfl⟩, _, _, rfl, ⟨rfl, rfl⟩, rfl⟩, ext_below hw⟩
end
open Go AM
noncomputable section
def tyL : List (Nat × TC) := [(2, .int), (3, .int), (4, .bool), (5, .u8), (6, .u8), (9, .str), (10, .str), (11, .str), (26, .Alert), (28, .Answer), (30, .Edit), (32, .Act), (33, .int), (75, .Label), (121, .int), (149, .u8), (150, .u8)]
def ty (t : Nat) : Option TC := AM.look t tyL
def script_in (fu : Nat) (p0 : Int) (p1 : Int) (p2 : Int) : Option (Bool) :=
  (cnd (decide (p1 ≤ p0))
   (cnd (decide (p0 ≤ p2))
    (some true)
    (some false))
   (some false))
def script_in_g (fu : Nat) : Sig := mkSig [.one (.num .i64), .one (.num .i64), .one (.num .i64)] [] [.one (.boo)] [] [] (Bool) (fun q => ((q, ()), ())) (fun x y => script_in fu x.1 x.2.1 x.2.2.1)
theorem script_in_ok (fu : Nat) : FnOK Tryz.prog 24 (script_in_g fu) :=
  FnOK.intro (ty := ty) (E := envL []) (fu := fu) (an := .go) (fun a b => a.1) (fun _ _ => rfl) (envL_ok (l := []) trivial) Tryz.func24 rfl rfl (fun x y => by kernel_rfl)
def slices_Equal_Label (fu : Nat) (p0 : List D.Label) (p1 : List D.Label) : Option (Bool) :=
  (cnd (decide ((((List.length p0) : Nat) : Int) ≠ (((List.length p1) : Nat) : Int)))
   (some false)
   (iterF (X := ((List D.Label × (List D.Label × (Int × (Int × Unit)))) × Unit)) (fun L0 ((a1, (a2, (a3, (a4, _)))), _) =>
    (cnd (decide (a4 < a3))
     (atc a1 a4 fun a5 =>
      (atc a2 a4 fun a6 =>
       (cnd (decide (((D.Label.Key a5) :: ((D.Label.Value a5) :: [])) ≠ ((D.Label.Key a6) :: ((D.Label.Value a6) :: []))))
        (some false)
        (L0 ((a1, (a2, (a3, ((IntKind.wrap .i64 (a4 + 1)), ())))), ())))))
     (some true))) fu ((p0, (p1, ((((List.length p0) : Nat) : Int), (0, ())))), ())))
def slices_Equal_Label_g (fu : Nat) : Sig := mkSig [.one (.lst .Label), .one (.lst .Label)] [] [.one (.boo)] [] [] (Bool) (fun q => ((q, ()), ())) (fun x y => slices_Equal_Label fu x.1 x.2.1)
theorem slices_Equal_Label_ok (fu : Nat) : FnOK Tryz.prog 41 (slices_Equal_Label_g fu) :=
  FnOK.intro (ty := ty) (E := envL []) (fu := fu) (an := .two (.go) (.two (.go) (.two (.two (.go) (.one (.loop [(0, .one (.lst .Label)), (1, .one (.lst .Label)), (12, .one (.num .i64)), (13, .one (.num .i64))] [] (.go)))) (.go)))) (fun a b => a.1) (fun _ _ => rfl) (envL_ok (l := []) trivial) Tryz.func41 rfl rfl (fun x y => by kernel_rfl)
def script_same (fu : Nat) (p0 : D.Act) (p1 : D.Act) : Option (Bool) :=
  (cnd (decide ((D.Act.Kind p0) = (D.Act.Kind p1)))
   (cnd (decide ((D.Act.At p0) = (D.Act.At p1)))
    (cnd (decide ((D.Alert.At (D.Act.Alert p0)) = (D.Alert.At (D.Act.Alert p1))))
     (optc (slices_Equal_Label fu (D.Alert.Labels (D.Act.Alert p0)) (D.Alert.Labels (D.Act.Alert p1))) fun a0 =>
      (cnd a0
       (cnd (D.Alert.Firing (D.Act.Alert p0))
        (cnd (D.Alert.Firing (D.Act.Alert p1))
         (cnd (decide (((D.Answer.ID (D.Act.Answer p0)) :: ((D.Answer.Page (D.Act.Answer p0)) :: ((D.Answer.Person (D.Act.Answer p0)) :: ((D.Answer.Kind (D.Act.Answer p0)) :: ((D.Answer.Arg (D.Act.Answer p0)) :: ((D.Answer.At (D.Act.Answer p0)) :: [])))))) = ((D.Answer.ID (D.Act.Answer p1)) :: ((D.Answer.Page (D.Act.Answer p1)) :: ((D.Answer.Person (D.Act.Answer p1)) :: ((D.Answer.Kind (D.Act.Answer p1)) :: ((D.Answer.Arg (D.Act.Answer p1)) :: ((D.Answer.At (D.Act.Answer p1)) :: []))))))))
          (cnd (decide ((D.Act.Schedule p0) = (D.Act.Schedule p1)))
           (cnd (decide (((D.Edit.Kind (D.Act.Edit p0)) :: ((D.Edit.A (D.Act.Edit p0)) :: ((D.Edit.B (D.Act.Edit p0)) :: ((D.Edit.From (D.Act.Edit p0)) :: ((D.Edit.To (D.Act.Edit p0)) :: []))))) = ((D.Edit.Kind (D.Act.Edit p1)) :: ((D.Edit.A (D.Act.Edit p1)) :: ((D.Edit.B (D.Act.Edit p1)) :: ((D.Edit.From (D.Act.Edit p1)) :: ((D.Edit.To (D.Act.Edit p1)) :: [])))))))
            (cnd (decide ((D.Act.Arg p0) = (D.Act.Arg p1)))
             (cnd (decide ((D.Act.K p0) = (D.Act.K p1)))
              (cnd (decide ((D.Act.Person p0) = (D.Act.Person p1)))
               (cnd (decide ((D.Act.Text p0) = (D.Act.Text p1)))
                (some true)
                (some false))
               (some false))
              (some false))
             (some false))
            (some false))
           (some false))
          (some false))
         (some false))
        (cnd (D.Alert.Firing (D.Act.Alert p1))
         (some false)
         (cnd (decide (((D.Answer.ID (D.Act.Answer p0)) :: ((D.Answer.Page (D.Act.Answer p0)) :: ((D.Answer.Person (D.Act.Answer p0)) :: ((D.Answer.Kind (D.Act.Answer p0)) :: ((D.Answer.Arg (D.Act.Answer p0)) :: ((D.Answer.At (D.Act.Answer p0)) :: [])))))) = ((D.Answer.ID (D.Act.Answer p1)) :: ((D.Answer.Page (D.Act.Answer p1)) :: ((D.Answer.Person (D.Act.Answer p1)) :: ((D.Answer.Kind (D.Act.Answer p1)) :: ((D.Answer.Arg (D.Act.Answer p1)) :: ((D.Answer.At (D.Act.Answer p1)) :: []))))))))
          (cnd (decide ((D.Act.Schedule p0) = (D.Act.Schedule p1)))
           (cnd (decide (((D.Edit.Kind (D.Act.Edit p0)) :: ((D.Edit.A (D.Act.Edit p0)) :: ((D.Edit.B (D.Act.Edit p0)) :: ((D.Edit.From (D.Act.Edit p0)) :: ((D.Edit.To (D.Act.Edit p0)) :: []))))) = ((D.Edit.Kind (D.Act.Edit p1)) :: ((D.Edit.A (D.Act.Edit p1)) :: ((D.Edit.B (D.Act.Edit p1)) :: ((D.Edit.From (D.Act.Edit p1)) :: ((D.Edit.To (D.Act.Edit p1)) :: [])))))))
            (cnd (decide ((D.Act.Arg p0) = (D.Act.Arg p1)))
             (cnd (decide ((D.Act.K p0) = (D.Act.K p1)))
              (cnd (decide ((D.Act.Person p0) = (D.Act.Person p1)))
               (cnd (decide ((D.Act.Text p0) = (D.Act.Text p1)))
                (some true)
                (some false))
               (some false))
              (some false))
             (some false))
            (some false))
           (some false))
          (some false))))
       (some false)))
     (some false))
    (some false))
   (some false))
def script_same_g (fu : Nat) : Sig := mkSig [.st .Act, .st .Act] [] [.one (.boo)] [] [] (Bool) (fun q => ((q, ()), ())) (fun x y => script_same fu x.1 x.2.1)
theorem script_same_ok (fu : Nat) : FnOK Tryz.prog 25 (script_same_g fu) :=
  FnOK.intro (ty := ty) (E := envL [(41, 0, slices_Equal_Label_g fu)]) (fu := fu) (an := .go) (fun a b => a.1) (fun _ _ => rfl) (envL_ok (l := [(41, 0, slices_Equal_Label_g fu)]) ⟨slices_Equal_Label_ok fu, trivial⟩) Tryz.func25 rfl rfl (fun x y => by kernel_rfl)
def script_named (fu : Nat) (p0 : D.Act) : Option (D.Act) :=
  (join (Y := (Unit × (D.Act × (D.Act × Unit)))) (fun (_, (a0, (a1, _))) =>
    (some a1)) fun J2 =>
   (cnd (decide ((D.Act.Kind p0) = 1))
    (J2 ((), ((D.Act.mk 0 0 (D.Alert.mk 0 [] false) (D.Answer.mk 0 0 0 0 0 0) 0 (D.Edit.mk 0 0 0 0 0) 0 0 0 (ByteArray.mk (List.toArray []))), ((D.Act.mk (D.Act.Kind p0) (D.Act.At p0) (D.Alert.mk (D.Act.At p0) (D.Alert.Labels (D.Act.Alert p0)) (D.Alert.Firing (D.Act.Alert p0))) (D.Answer.mk 0 0 0 0 0 0) 0 (D.Edit.mk 0 0 0 0 0) 0 0 0 (ByteArray.mk (List.toArray []))), ()))))
    (cnd (decide ((D.Act.Kind p0) = 3))
     (J2 ((), ((D.Act.mk 0 0 (D.Alert.mk 0 [] false) (D.Answer.mk 0 0 0 0 0 0) 0 (D.Edit.mk 0 0 0 0 0) 0 0 0 (ByteArray.mk (List.toArray []))), ((D.Act.mk (D.Act.Kind p0) (D.Act.At p0) (D.Alert.mk 0 [] false) (D.Answer.mk 0 0 0 0 0 0) 0 (D.Edit.mk 0 0 0 0 0) 0 0 (D.Act.Person p0) (D.Act.Text p0)), ()))))
     (cnd (decide ((D.Act.Kind p0) = 4))
      (J2 ((), ((D.Act.mk 0 0 (D.Alert.mk 0 [] false) (D.Answer.mk 0 0 0 0 0 0) 0 (D.Edit.mk 0 0 0 0 0) 0 0 0 (ByteArray.mk (List.toArray []))), ((D.Act.mk (D.Act.Kind p0) (D.Act.At p0) (D.Alert.mk 0 [] false) (D.Answer.mk 0 0 0 0 0 0) (D.Act.Schedule p0) (D.Act.Edit p0) 0 0 0 (ByteArray.mk (List.toArray []))), ()))))
      (cnd (decide ((D.Act.Kind p0) = 5))
       (J2 ((), ((D.Act.mk 0 0 (D.Alert.mk 0 [] false) (D.Answer.mk 0 0 0 0 0 0) 0 (D.Edit.mk 0 0 0 0 0) 0 0 0 (ByteArray.mk (List.toArray []))), ((D.Act.mk (D.Act.Kind p0) (D.Act.At p0) (D.Alert.mk 0 [] false) (D.Answer.mk 0 0 0 0 0 0) 0 (D.Edit.mk 0 0 0 0 0) (D.Act.Arg p0) (D.Act.K p0) 0 (ByteArray.mk (List.toArray []))), ()))))
       (cnd (decide ((D.Act.Kind p0) = 6))
        (J2 ((), ((D.Act.mk 0 0 (D.Alert.mk 0 [] false) (D.Answer.mk 0 0 0 0 0 0) 0 (D.Edit.mk 0 0 0 0 0) 0 0 0 (ByteArray.mk (List.toArray []))), ((D.Act.mk (D.Act.Kind p0) (D.Act.At p0) (D.Alert.mk 0 [] false) (D.Answer.mk 0 0 0 0 0 0) 0 (D.Edit.mk 0 0 0 0 0) (D.Act.Arg p0) (D.Act.K p0) (D.Act.Person p0) (ByteArray.mk (List.toArray []))), ()))))
        (cnd (decide ((D.Act.Kind p0) = 7))
         (J2 ((), ((D.Act.mk 0 0 (D.Alert.mk 0 [] false) (D.Answer.mk 0 0 0 0 0 0) 0 (D.Edit.mk 0 0 0 0 0) 0 0 0 (ByteArray.mk (List.toArray []))), ((D.Act.mk (D.Act.Kind p0) (D.Act.At p0) (D.Alert.mk 0 [] false) (D.Answer.mk 0 0 0 0 0 0) 0 (D.Edit.mk 0 0 0 0 0) (D.Act.Arg p0) 0 0 (ByteArray.mk (List.toArray []))), ()))))
         (J2 ((), ((D.Act.mk 0 0 (D.Alert.mk 0 [] false) (D.Answer.mk 0 0 0 0 0 0) 0 (D.Edit.mk 0 0 0 0 0) 0 0 0 (ByteArray.mk (List.toArray []))), ((D.Act.mk (D.Act.Kind p0) (D.Act.At p0) (D.Alert.mk 0 [] false) (D.Answer.mk 0 0 0 0 0 0) 0 (D.Edit.mk 0 0 0 0 0) 0 0 0 (ByteArray.mk (List.toArray []))), ())))))))))))
def script_named_g (fu : Nat) : Sig := mkSig [.st .Act] [] [.st .Act] [] [] (D.Act) (fun q => ((q, ()), ())) (fun x y => script_named fu x.1)
theorem script_named_ok (fu : Nat) : FnOK Tryz.prog 26 (script_named_g fu) :=
  FnOK.intro (ty := ty) (E := envL []) (fu := fu) (an := .two (.go) (.two (.go) (.two (.join [(2, .one (.ref 1002)), (3, .one (.ref 1003))] [(1002, .boxst .Act), (1003, .boxst .Act)] (.go)) (.go)))) (fun a b => a.1) (fun _ _ => rfl) (envL_ok (l := []) trivial) Tryz.func26 rfl rfl (fun x y => by kernel_rfl)
def label_key (fu : Nat) (p0 : ByteArray) : Option (Bool) :=
  (join (Y := ((ByteArray × Unit) × Unit)) (fun ((a0, _), _) =>
    (iterF (X := ((ByteArray × (Int × (Int × Unit))) × Unit)) (fun L1 ((a2, (a3, (a4, _))), _) =>
     (cnd (decide (a4 < a3))
      (join (Y := ((ByteArray × (Int × (Int × Unit))) × Unit)) (fun ((a5, (a6, (a7, _))), _) =>
        (L1 ((a5, (a6, ((IntKind.wrap .i64 (a7 + 1)), ()))), ()))) fun J8 =>
       (natc a4 fun a9 =>
        (ltc a9 (ByteArray.size a2) (cnd (decide ((((bAt a2 a9) : Nat) : Int) < 97))
         (cnd (decide ((((bAt a2 a9) : Nat) : Int) < 48))
          (cnd (decide ((((bAt a2 a9) : Nat) : Int) ≠ 95))
           (some false)
           (J8 ((a2, (a3, (a4, ()))), ())))
          (cnd (decide (57 < (((bAt a2 a9) : Nat) : Int)))
           (cnd (decide ((((bAt a2 a9) : Nat) : Int) ≠ 95))
            (some false)
            (J8 ((a2, (a3, (a4, ()))), ())))
           (J8 ((a2, (a3, (a4, ()))), ()))))
         (cnd (decide (122 < (((bAt a2 a9) : Nat) : Int)))
          (cnd (decide ((((bAt a2 a9) : Nat) : Int) < 48))
           (cnd (decide ((((bAt a2 a9) : Nat) : Int) ≠ 95))
            (some false)
            (J8 ((a2, (a3, (a4, ()))), ())))
           (cnd (decide (57 < (((bAt a2 a9) : Nat) : Int)))
            (cnd (decide ((((bAt a2 a9) : Nat) : Int) ≠ 95))
             (some false)
             (J8 ((a2, (a3, (a4, ()))), ())))
            (J8 ((a2, (a3, (a4, ()))), ()))))
          (J8 ((a2, (a3, (a4, ()))), ())))))))
      (some true))) fu ((a0, ((((ByteArray.size a0) : Nat) : Int), (0, ()))), ()))) fun J10 =>
   (cnd (decide (p0 = (ByteArray.mk (List.toArray []))))
    (some false)
    (cnd (decide (24 < (((ByteArray.size p0) : Nat) : Int)))
     (some false)
     (natc 0 fun a11 =>
      (ltc a11 (ByteArray.size p0) (cnd (decide ((((bAt p0 a11) : Nat) : Int) < 97))
       (some false)
       (natc 0 fun a12 =>
        (ltc a12 (ByteArray.size p0) (cnd (decide (122 < (((bAt p0 a12) : Nat) : Int)))
         (some false)
         (J10 ((p0, ()), ())))))))))))
def label_key_g (fu : Nat) : Sig := mkSig [.one (.str)] [] [.one (.boo)] [] [] (Bool) (fun q => ((q, ()), ())) (fun x y => label_key fu x.1)
theorem label_key_ok (fu : Nat) : FnOK Tryz.prog 42 (label_key_g fu) :=
  FnOK.intro (ty := ty) (E := envL []) (fu := fu) (an := .two (.go) (.two (.join [(0, .one (.str))] [] (.go)) (.two (.two (.go) (.one (.loop [(0, .one (.str)), (23, .one (.num .i64)), (24, .one (.num .i64))] [] (.two (.go) (.two (.go) (.two (.join [(0, .one (.str)), (23, .one (.num .i64)), (24, .one (.num .i64))] [] (.go)) (.go))))))) (.go)))) (fun a b => a.1) (fun _ _ => rfl) (envL_ok (l := []) trivial) Tryz.func42 rfl rfl (fun x y => by kernel_rfl)
def label_value (fu : Nat) (p0 : ByteArray) : Option (Bool) :=
  (iterF (X := ((ByteArray × (Int × (Int × Unit))) × Unit)) (fun L0 ((a1, (a2, (a3, _))), _) =>
   (cnd (decide (a3 < a2))
    (join (Y := ((ByteArray × (Int × (Int × Unit))) × Unit)) (fun ((a4, (a5, (a6, _))), _) =>
      (L0 ((a4, (a5, ((IntKind.wrap .i64 (a6 + 1)), ()))), ()))) fun J7 =>
     (natc a3 fun a8 =>
      (ltc a8 (ByteArray.size a1) (cnd (decide ((((bAt a1 a8) : Nat) : Int) < 32))
       (some false)
       (natc a3 fun a9 =>
        (ltc a9 (ByteArray.size a1) (cnd (decide (126 < (((bAt a1 a9) : Nat) : Int)))
         (some false)
         (J7 ((a1, (a2, (a3, ()))), ())))))))))
    (some (decide ((((ByteArray.size a1) : Nat) : Int) ≤ 64))))) fu ((p0, ((((ByteArray.size p0) : Nat) : Int), (0, ()))), ()))
def label_value_g (fu : Nat) : Sig := mkSig [.one (.str)] [] [.one (.boo)] [] [] (Bool) (fun q => ((q, ()), ())) (fun x y => label_value fu x.1)
theorem label_value_ok (fu : Nat) : FnOK Tryz.prog 43 (label_value_g fu) :=
  FnOK.intro (ty := ty) (E := envL []) (fu := fu) (an := .two (.go) (.two (.two (.go) (.one (.loop [(0, .one (.str)), (5, .one (.num .i64)), (6, .one (.num .i64))] [] (.two (.go) (.two (.go) (.two (.join [(0, .one (.str)), (5, .one (.num .i64)), (6, .one (.num .i64))] [] (.go)) (.go))))))) (.go))) (fun a b => a.1) (fun _ _ => rfl) (envL_ok (l := []) trivial) Tryz.func43 rfl rfl (fun x y => by kernel_rfl)
def label_Valid (fu : Nat) (p0 : List D.Label) : Option (Bool) :=
  (cnd (decide (12 < (((List.length p0) : Nat) : Int)))
   (some false)
   (iterF (X := ((List D.Label × (List D.Label × (Int × (Int × Unit)))) × Unit)) (fun L0 ((a1, (a2, (a3, (a4, _)))), _) =>
    (cnd (decide (a4 < a3))
     (join (Y := ((List D.Label × (List D.Label × (Int × (Int × Unit)))) × Unit)) (fun ((a5, (a6, (a7, (a8, _)))), _) =>
       (L0 ((a5, (a6, (a7, ((IntKind.wrap .i64 (a8 + 1)), ())))), ()))) fun J9 =>
      (atc a2 a4 fun a10 =>
       (optc (label_key fu (D.Label.Key a10)) fun a11 =>
        (cnd a11
         (optc (label_value fu (D.Label.Value a10)) fun a12 =>
          (cnd a12
           (cnd (decide ((D.Label.Value a10) = (ByteArray.mk (List.toArray []))))
            (some false)
            (cnd (decide (0 < a4))
             (atc a1 (IntKind.wrap .i64 (a4 - 1)) fun a13 =>
              (cnd (leT (D.Label.Key a10) (D.Label.Key a13))
               (some false)
               (J9 ((a1, (a2, (a3, (a4, ())))), ()))))
             (J9 ((a1, (a2, (a3, (a4, ())))), ()))))
           (some false)))
         (some false)))))
     (some true))) fu ((p0, (p0, ((((List.length p0) : Nat) : Int), (0, ())))), ())))
def label_Valid_g (fu : Nat) : Sig := mkSig [.one (.lst .Label)] [] [.one (.boo)] [] [] (Bool) (fun q => ((q, ()), ())) (fun x y => label_Valid fu x.1)
theorem label_Valid_ok (fu : Nat) : FnOK Tryz.prog 27 (label_Valid_g fu) :=
  FnOK.intro (ty := ty) (E := envL [(42, 0, label_key_g fu), (43, 0, label_value_g fu)]) (fu := fu) (an := .two (.go) (.two (.go) (.two (.two (.go) (.one (.loop [(0, .one (.lst .Label)), (8, .one (.lst .Label)), (9, .one (.num .i64)), (10, .one (.num .i64))] [] (.two (.go) (.two (.go) (.two (.join [(0, .one (.lst .Label)), (8, .one (.lst .Label)), (9, .one (.num .i64)), (10, .one (.num .i64))] [] (.go)) (.go))))))) (.go)))) (fun a b => a.1) (fun _ _ => rfl) (envL_ok (l := [(42, 0, label_key_g fu), (43, 0, label_value_g fu)]) ⟨label_key_ok fu, label_value_ok fu, trivial⟩) Tryz.func27 rfl rfl (fun x y => by kernel_rfl)
def script_text (fu : Nat) (p0 : ByteArray) : Option (Bool) :=
  (iterF (X := ((ByteArray × (Int × (Int × Unit))) × Unit)) (fun L0 ((a1, (a2, (a3, _))), _) =>
   (cnd (decide (a3 < a2))
    (natc a3 fun a4 =>
     (ltc a4 (ByteArray.size a1) (optc (script_in fu (IntKind.wrap .i64 (((bAt a1 a4) : Nat) : Int)) 32 126) fun a5 =>
      (cnd (!a5)
       (some false)
       (L0 ((a1, (a2, ((IntKind.wrap .i64 (a3 + 1)), ()))), ()))))))
    (some (decide (a1 ≠ (ByteArray.mk (List.toArray []))))))) fu ((p0, ((((ByteArray.size p0) : Nat) : Int), (0, ()))), ()))
def script_text_g (fu : Nat) : Sig := mkSig [.one (.str)] [] [.one (.boo)] [] [] (Bool) (fun q => ((q, ()), ())) (fun x y => script_text fu x.1)
theorem script_text_ok (fu : Nat) : FnOK Tryz.prog 28 (script_text_g fu) :=
  FnOK.intro (ty := ty) (E := envL [(24, 0, script_in_g fu)]) (fu := fu) (an := .two (.go) (.two (.two (.go) (.one (.loop [(0, .one (.str)), (5, .one (.num .i64)), (6, .one (.num .i64))] [] (.go)))) (.go))) (fun a b => a.1) (fun _ _ => rfl) (envL_ok (l := [(24, 0, script_in_g fu)]) ⟨script_in_ok fu, trivial⟩) Tryz.func28 rfl rfl (fun x y => by kernel_rfl)
def script_Valid (fu : Nat) (p0 : D.Act) : Option (Bool) :=
  (join (Y := ((Int × Unit) × (D.Act × Unit))) (fun ((a0, _), (a1, _)) =>
    (join (Y := ((Bool × Unit) × (D.Act × Unit))) (fun ((a2, _), (a3, _)) =>
      (optc (script_in fu (D.Act.Kind a3) 1 7) fun a4 =>
       (cnd a4
        (cnd a2
         (optc (script_named fu a3) fun a5 =>
          (optc (script_same fu a3 a5) fun a6 =>
           (cnd a6
            (optc (label_Valid fu (D.Alert.Labels (D.Act.Alert a3))) fun a7 =>
             (cnd a7
              (cnd (decide ((D.Act.Kind a3) ≠ 3))
               (some true)
               (optc (script_text fu (D.Act.Text a3)) fun a8 =>
                (cnd a8
                 (some true)
                 (some false))))
              (some false)))
            (some false))))
         (some false))
        (some false)))) fun J9 =>
     (optc (script_in fu (D.Act.At a1) 0 9999999999) fun a10 =>
      (cnd a10
       (optc (script_in fu (D.Act.Schedule a1) 0 9999999999) fun a11 =>
        (cnd a11
         (optc (script_in fu (D.Edit.Kind (D.Act.Edit a1)) 0 9999999999) fun a12 =>
          (cnd a12
           (optc (script_in fu (D.Edit.A (D.Act.Edit a1)) (-1) 9999999999) fun a13 =>
            (cnd a13
             (optc (script_in fu (D.Edit.B (D.Act.Edit a1)) 0 9999999999) fun a14 =>
              (cnd a14
               (optc (script_in fu (D.Edit.From (D.Act.Edit a1)) 0 9999999999) fun a15 =>
                (cnd a15
                 (optc (script_in fu (D.Edit.To (D.Act.Edit a1)) 0 9999999999) fun a16 =>
                  (cnd a16
                   (optc (script_in fu (D.Act.Arg a1) 0 9999999999) fun a17 =>
                    (cnd a17
                     (optc (script_in fu (D.Act.K a1) 0 9999999999) fun a18 =>
                      (cnd a18
                       (optc (script_in fu (D.Act.Person a1) a0 9999999999) fun a19 =>
                        (cnd a19
                         (J9 ((true, ()), (a1, ())))
                         (J9 ((false, ()), (a1, ())))))
                       (J9 ((false, ()), (a1, ())))))
                     (J9 ((false, ()), (a1, ())))))
                   (J9 ((false, ()), (a1, ())))))
                 (J9 ((false, ()), (a1, ())))))
               (J9 ((false, ()), (a1, ())))))
             (J9 ((false, ()), (a1, ())))))
           (J9 ((false, ()), (a1, ())))))
         (J9 ((false, ()), (a1, ())))))
       (J9 ((false, ()), (a1, ()))))))) fun J20 =>
   (cnd (decide ((D.Act.Kind p0) = 6))
    (J20 (((-1), ()), (p0, ())))
    (J20 ((0, ()), (p0, ())))))
def script_Valid_g (fu : Nat) : Sig := mkSig [.st .Act] [] [.one (.boo)] [] [] (Bool) (fun q => ((q, ()), ())) (fun x y => script_Valid fu x.1)
theorem script_Valid_ok (fu : Nat) : FnOK Tryz.prog 9 (script_Valid_g fu) :=
  FnOK.intro (ty := ty) (E := envL [(24, 0, script_in_g fu), (25, 0, script_same_g fu), (26, 0, script_named_g fu), (27, 0, label_Valid_g fu), (28, 0, script_text_g fu)]) (fu := fu) (an := .two (.go) (.two (.go) (.two (.join [(1, .one (.ref 1001)), (3, .one (.num .i64))] [(1001, .boxst .Act)] (.go)) (.two (.join [(1, .one (.ref 1001)), (4, .one (.boo))] [(1001, .boxst .Act)] (.go)) (.go))))) (fun a b => a.1) (fun _ _ => rfl) (envL_ok (l := [(24, 0, script_in_g fu), (25, 0, script_same_g fu), (26, 0, script_named_g fu), (27, 0, label_Valid_g fu), (28, 0, script_text_g fu)]) ⟨script_in_ok fu, script_same_ok fu, script_named_ok fu, label_Valid_ok fu, script_text_ok fu, trivial⟩) Tryz.func9 rfl rfl (fun x y => by kernel_rfl)
def script_number (fu : Nat) (p0 : Int) : Option (ByteArray) :=
  (cnd (decide (p0 = (-1)))
   (some (ByteArray.mk (List.toArray (45 :: []))))
   (optc (strconv_Itoa fu p0) fun a0 =>
    (some a0)))
def script_number_g (fu : Nat) : Sig := mkSig [.one (.num .i64)] [] [.one (.str)] [] [] (ByteArray) (fun q => ((q, ()), ())) (fun x y => script_number fu x.1)
theorem script_number_ok (fu : Nat) : FnOK Tryz.prog 30 (script_number_g fu) :=
  FnOK.intro (ty := ty) (E := envL [(45, 0, strconv_Itoa_g fu)]) (fu := fu) (an := .go) (fun a b => a.1) (fun _ _ => rfl) (envL_ok (l := [(45, 0, strconv_Itoa_g fu)]) ⟨strconv_Itoa_ok fu, trivial⟩) Tryz.func30 rfl rfl (fun x y => by kernel_rfl)
def label_Text (fu : Nat) (p0 : List D.Label) : Option (ByteArray) :=
  (optc (label_Valid fu p0) fun a0 =>
   (cnd (!a0)
    (some (ByteArray.mk (List.toArray [])))
    (iterF (X := ((List D.Label × (Int × (Int × Unit))) × (List ByteArray × Unit))) (fun L1 ((a2, (a3, (a4, _))), (a5, _)) =>
     (cnd (decide (a4 < a3))
      (atc a2 a4 fun a6 =>
       (lec ((ByteArray.size (D.Label.Key a6)) + (ByteArray.size (ByteArray.mk (List.toArray (61 :: []))))) 9223372036854775807 (optc (label_quoted fu (D.Label.Value a6)) fun a7 =>
        (lec ((ByteArray.size ((D.Label.Key a6) ++ (ByteArray.mk (List.toArray (61 :: []))))) + (ByteArray.size a7)) 9223372036854775807 (lec ((List.length a5) + (List.length ((((D.Label.Key a6) ++ (ByteArray.mk (List.toArray (61 :: [])))) ++ a7) :: []))) 34359738368 (L1 ((a2, (a3, ((IntKind.wrap .i64 (a4 + 1)), ()))), ((a5 ++ ((((D.Label.Key a6) ++ (ByteArray.mk (List.toArray (61 :: [])))) ++ a7) :: [])), ()))))))))
      (optc (strings_Join fu a5 (ByteArray.mk (List.toArray (44 :: [])))) fun a8 =>
       (lec ((ByteArray.size (ByteArray.mk (List.toArray (123 :: [])))) + (ByteArray.size a8)) 9223372036854775807 (lec ((ByteArray.size ((ByteArray.mk (List.toArray (123 :: []))) ++ a8)) + (ByteArray.size (ByteArray.mk (List.toArray (125 :: []))))) 9223372036854775807 (some (((ByteArray.mk (List.toArray (123 :: []))) ++ a8) ++ (ByteArray.mk (List.toArray (125 :: [])))))))))) fu ((p0, ((((List.length p0) : Nat) : Int), (0, ()))), ([], ())))))
def label_Text_g (fu : Nat) : Sig := mkSig [.one (.lst .Label)] [] [.one (.str)] [] [] (ByteArray) (fun q => ((q, ()), ())) (fun x y => label_Text fu x.1)
theorem label_Text_ok (fu : Nat) : FnOK Tryz.prog 31 (label_Text_g fu) :=
  FnOK.intro (ty := ty) (E := envL [(27, 0, label_Valid_g fu), (33, 0, strings_Join_g fu), (46, 0, label_quoted_g fu)]) (fu := fu) (an := .two (.go) (.two (.go) (.two (.go) (.two (.two (.go) (.one (.loop [(3, .one (.own 1024)), (9, .one (.lst .Label)), (10, .one (.num .i64)), (11, .one (.num .i64))] [(1024, .arr .str)] (.go)))) (.go))))) (fun a b => a.1) (fun _ _ => rfl) (envL_ok (l := [(27, 0, label_Valid_g fu), (33, 0, strings_Join_g fu), (46, 0, label_quoted_g fu)]) ⟨label_Valid_ok fu, strings_Join_ok fu, label_quoted_ok fu, trivial⟩) Tryz.func31 rfl rfl (fun x y => by kernel_rfl)
def script_numbers (fu : Nat) (p0 : List Int) : Option (List (ByteArray)) :=
  (iterF (X := ((List Int × (Int × (Int × Unit))) × (List ByteArray × Unit))) (fun L0 ((a1, (a2, (a3, _))), (a4, _)) =>
   (cnd (decide (a3 < a2))
    (atc a1 a3 fun a5 =>
     (optc (script_number fu a5) fun a6 =>
      (lec ((List.length a4) + (List.length (a6 :: []))) 34359738368 (L0 ((a1, (a2, ((IntKind.wrap .i64 (a3 + 1)), ()))), ((a4 ++ (a6 :: [])), ()))))))
    (some a4))) fu ((p0, ((((List.length p0) : Nat) : Int), (0, ()))), ([], ())))
def script_numbers_g (fu : Nat) : Sig := mkSig [.one (.lst .int)] [] [.one (.own 1016)] [(1016, .arr .str)] [] (List (ByteArray)) (fun q => ((), (q, ()))) (fun x y => script_numbers fu x.1)
theorem script_numbers_ok (fu : Nat) : FnOK Tryz.prog 32 (script_numbers_g fu) :=
  FnOK.intro (ty := ty) (E := envL [(30, 0, script_number_g fu)]) (fu := fu) (an := .two (.go) (.two (.go) (.two (.two (.go) (.one (.loop [(3, .one (.own 1016)), (6, .one (.lst .int)), (7, .one (.num .i64)), (8, .one (.num .i64))] [(1016, .arr .str)] (.go)))) (.go)))) (fun a b => b.1) (fun _ _ => rfl) (envL_ok (l := [(30, 0, script_number_g fu)]) ⟨script_number_ok fu, trivial⟩) Tryz.func32 rfl rfl (fun x y => by kernel_rfl)
def script_line (fu : Nat) (p0 : D.Act) : Option (ByteArray) :=
  (join (Y := ((List ByteArray × Unit) × Unit)) (fun ((a0, _), _) =>
    (optc (strings_Join fu a0 (ByteArray.mk (List.toArray (32 :: [])))) fun a1 =>
     (lec ((ByteArray.size a1) + (ByteArray.size (ByteArray.mk (List.toArray (10 :: []))))) 9223372036854775807 (some (a1 ++ (ByteArray.mk (List.toArray (10 :: [])))))))) fun J2 =>
   (cnd (decide ((D.Act.Kind p0) = 1))
    (join (Y := ((ByteArray × Unit) × (D.Act × Unit))) (fun ((a3, _), (a4, _)) =>
      (optc (script_number fu (D.Act.At a4)) fun a5 =>
       (optc (label_Text fu (D.Alert.Labels (D.Act.Alert a4))) fun a6 =>
        (lec ((List.length ((ByteArray.mk (List.toArray (97 :: (108 :: (101 :: (114 :: (116 :: []))))))) :: [])) + (List.length (a5 :: (a3 :: (a6 :: []))))) 34359738368 (J2 (((((ByteArray.mk (List.toArray (97 :: (108 :: (101 :: (114 :: (116 :: []))))))) :: []) ++ (a5 :: (a3 :: (a6 :: [])))), ()), ())))))) fun J7 =>
     (cnd (D.Alert.Firing (D.Act.Alert p0))
      (J7 (((ByteArray.mk (List.toArray (102 :: (105 :: (114 :: (105 :: (110 :: (103 :: [])))))))), ()), (p0, ())))
      (J7 (((ByteArray.mk (List.toArray (114 :: (101 :: (115 :: (111 :: (108 :: (118 :: (101 :: (100 :: [])))))))))), ()), (p0, ())))))
    (cnd (decide ((D.Act.Kind p0) = 2))
     (optc (script_numbers fu ((D.Act.At p0) :: [])) fun a8 =>
      (lec ((List.length ((ByteArray.mk (List.toArray (116 :: (105 :: (99 :: (107 :: [])))))) :: [])) + (List.length a8)) 34359738368 (J2 (((((ByteArray.mk (List.toArray (116 :: (105 :: (99 :: (107 :: [])))))) :: []) ++ a8), ()), ()))))
     (cnd (decide ((D.Act.Kind p0) = 3))
      (optc (script_numbers fu ((D.Act.At p0) :: ((D.Act.Person p0) :: []))) fun a9 =>
       (lec ((List.length a9) + (List.length ((D.Act.Text p0) :: []))) 34359738368 none))
      (cnd (decide ((D.Act.Kind p0) = 4))
       (optc (script_numbers fu ((D.Act.At p0) :: ((D.Act.Schedule p0) :: ((D.Edit.Kind (D.Act.Edit p0)) :: ((D.Edit.A (D.Act.Edit p0)) :: ((D.Edit.B (D.Act.Edit p0)) :: ((D.Edit.From (D.Act.Edit p0)) :: ((D.Edit.To (D.Act.Edit p0)) :: [])))))))) fun a10 =>
        (lec ((List.length ((ByteArray.mk (List.toArray (101 :: (100 :: (105 :: (116 :: [])))))) :: [])) + (List.length a10)) 34359738368 (J2 (((((ByteArray.mk (List.toArray (101 :: (100 :: (105 :: (116 :: [])))))) :: []) ++ a10), ()), ()))))
       (cnd (decide ((D.Act.Kind p0) = 5))
        (optc (script_numbers fu ((D.Act.At p0) :: ((D.Act.Arg p0) :: ((D.Act.K p0) :: [])))) fun a11 =>
         (lec ((List.length ((ByteArray.mk (List.toArray (114 :: (101 :: (99 :: (101 :: (105 :: (112 :: (116 :: []))))))))) :: [])) + (List.length a11)) 34359738368 (J2 (((((ByteArray.mk (List.toArray (114 :: (101 :: (99 :: (101 :: (105 :: (112 :: (116 :: []))))))))) :: []) ++ a11), ()), ()))))
        (cnd (decide ((D.Act.Kind p0) = 6))
         (optc (script_numbers fu ((D.Act.At p0) :: ((D.Act.Arg p0) :: ((D.Act.K p0) :: ((D.Act.Person p0) :: []))))) fun a12 =>
          (lec ((List.length ((ByteArray.mk (List.toArray (115 :: (116 :: (97 :: (116 :: (101 :: []))))))) :: [])) + (List.length a12)) 34359738368 (J2 (((((ByteArray.mk (List.toArray (115 :: (116 :: (97 :: (116 :: (101 :: []))))))) :: []) ++ a12), ()), ()))))
         (optc (script_numbers fu ((D.Act.At p0) :: ((D.Act.Arg p0) :: []))) fun a13 =>
          (lec ((List.length ((ByteArray.mk (List.toArray (111 :: (119 :: (110 :: []))))) :: [])) + (List.length a13)) 34359738368 (J2 (((((ByteArray.mk (List.toArray (111 :: (119 :: (110 :: []))))) :: []) ++ a13), ()), ())))))))))))
def script_line_g (fu : Nat) : Sig := mkSig [.st .Act] [] [.one (.str)] [] [] (ByteArray) (fun q => ((q, ()), ())) (fun x y => script_line fu x.1)
theorem script_line_ok (fu : Nat) : FnOK Tryz.prog 11 (script_line_g fu) :=
  FnOK.intro (ty := ty) (E := envL [(30, 0, script_number_g fu), (31, 0, label_Text_g fu), (32, 0, script_numbers_g fu), (33, 0, strings_Join_g fu)]) (fu := fu) (an := .two (.go) (.two (.go) (.two (.join [(3, .one (.lst .str))] [] (.two (.go) (.one (.two (.go) (.two (.two (.go) (.two (.join [(1, .one (.ref 1001)), (4, .one (.str))] [(1001, .boxst .Act)] (.go)) (.go))) (.go)))))) (.go)))) (fun a b => a.1) (fun _ _ => rfl) (envL_ok (l := [(30, 0, script_number_g fu), (31, 0, label_Text_g fu), (32, 0, script_numbers_g fu), (33, 0, strings_Join_g fu)]) ⟨script_number_ok fu, label_Text_ok fu, script_numbers_ok fu, strings_Join_ok fu, trivial⟩) Tryz.func11 rfl rfl (fun x y => by kernel_rfl)
end
open Go Go.RowKit Go.Shelf Go.Proofs AM
theorem FnOK.callsP {P : Program} {f : FuncId} {args res : List SSh} {Ret : Type} {un : Ret → SL res × OL []} {F : SL args → Option Ret} (hf : FnOK P f (mkSig args [] res [] [] Ret un fun x _ => F x)) {x : SL args} {q : Ret} (hq : F x = some q)
    {G w : World} {ρ : Name → AM.Loc} {M : Nat → Prop} {us : List Value} (hG : AM.Ground G w (fun _ => False)) (hM : ∀ b, M b → b < w.heap.size) (ha : ∀ L : Lens, AV.Ts ρ (fun _ => none) M w (erL L (SL.put 0 args x)) us) :
    Calls P f us.toArray w fun e w' => ∃ u, e = .returned u ∧ (∃ (ρ' : Name → AM.Loc) (L : Lens), ((resB (SL.put 1 res (un q).1)).er L).R ρ' (fun _ => none) M w' u) ∧ Ext (fun _ => False) w w' := by
  have hin : AM.Inv (fun _ _ => 0) ([] : HS) := fun n t l v hn => by simp [AM.look] at hn
  obtain ⟨L1, -, -, hs⟩ := hf.spec x () (un q).1 () (by show optc (F x) _ = _; rw [hq]; rfl) _ hin
  refine (hs G ρ M w us ?_ hM (ha _) (fun n o hn => by change AM.look n [] = _ at hn; simp [AM.look] at hn) (fun n m o o' b hn => by change AM.look n [] = _ at hn; simp [AM.look] at hn)).mono ?_
  · exact ⟨hG.laid, hG.size, hG.same, fun b hb => by obtain ⟨n, o, hn, _⟩ := hb; change AM.look n [] = _ at hn; simp [AM.look] at hn⟩
  · rintro e w' ⟨u, v, h, ρ', rfl, ⟨rfl, rfl⟩, hafter⟩
    have eM : newM M ρ' [] = M := by funext b; simp [newM, AM.look]
    have h1 := hafter.val
    change AV.R ρ' (fun _ => none) (newM M ρ' []) w' _ u at h1
    rw [eM] at h1
    exact ⟨u, rfl, ⟨ρ', L1, h1⟩, hafter.ext.weaken fun b _ hb => by obtain ⟨n, o, hn, _⟩ := hb; change AM.look n [] = _ at hn; simp [AM.look] at hn⟩
noncomputable section
def fmtV (fu : Nat) : List D.Act → Option Bool
  | [] => some true
  | a :: r => optc (script_Valid fu a) fun v => match v with
    | true => fmtV fu r
    | false => some false
def fmtL (fu : Nat) : List D.Act → Option (List UInt8)
  | [] => some []
  | a :: r => optc (script_line fu a) fun s => optc (fmtL fu r) fun t => some (s.data.toList ++ t)
def script_Format (fu : Nat) (p0 : List D.Act) : Option (ByteArray × Int) :=
  if 200 < p0.length then some (toB [], 5) else optc (fmtV fu p0) fun v => match v with
    | false => some (toB [], 8)
    | true => optc (fmtL fu p0) fun t => lec t.length 50000000 (if 65536 < t.length then some (toB [], 5) else some (toB t, 0))
end
theorem ext_of_below {w wr w' : World} (h0 : Ext (fun _ => False) w wr) (h : Below w.heap.size wr w') : Ext (fun _ => False) w w' :=
  ⟨Nat.le_trans h0.size h.size, fun b hb hn => (h.block b hb).trans (h0.same b hb hn), h.os.trans h0.os, h.output.trans h0.out⟩
theorem ext_trans {w w1 w2 : World} (h : Ext (fun _ => False) w w1) (h' : Ext (fun _ => False) w1 w2) : Ext (fun _ => False) w w2 := h.trans h' fun _ _ hf => hf
theorem IsB.ext {B b : Nat} {l : List UInt8} {w w' : World} (h : IsB B b l w) (he : Ext (fun _ => False) w w') : IsB B b l w' := by
  have key : ∀ p, Lib.BuilderAt 45 5 B b p (Lib.byteCells l) w → Lib.BuilderAt 45 5 B b p (Lib.byteCells l) w' := by
    rintro p ⟨hB, v, hb, hown, hne⟩
    have hsame : ∀ (k : Nat) (ob : Obj), w.heap[k]? = some ob → w'.heap[k]? = some ob := fun k ob hk => by
      rw [he.same k (Array.getElem?_eq_some_iff.1 hk).1 (fun h => h)]; exact hk
    refine ⟨hB, v, hsame _ _ hb, ⟨hown.1, ?_⟩, hne⟩
    rcases hown.2 with h | ⟨g, cap, cur, h1, h2, h3, h4⟩
    · exact .inl h
    · exact .inr ⟨g, cap, cur, h1, h2, hsame _ _ h3, h4⟩
  exact h.imp (key _) (key _)
theorem ground_ext {G w w' : World} (hG : AM.Ground G w (fun _ => False)) (he : Ext (fun _ => False) w w') : AM.Ground G w' (fun _ => False) :=
  ⟨hG.laid, Nat.le_trans hG.size he.size, fun b hb => (he.same b (Nat.lt_of_lt_of_le hb hG.size) (fun h => h)).trans (hG.same b hb), fun _ hb => hb.elim⟩
theorem act_args {ρ : Name → AM.Loc} {M : Nat → Prop} {W : World} {x : D.Act} {us : List Value} (h : AV.Rs ρ (fun _ => none) M W (pcells (D.Act.cells x)) us) (L : Lens) : AV.Ts ρ (fun _ => none) M W (erL L (SL.put 0 [.st .Act] (x, ()))) [.agg us.toArray] := by
  have e : erL L (SL.put 0 [.st .Act] (x, ())) = [.agg (pcells (D.Act.cells x))] := by
    have h1 := erL_isP (L := L) (tb_isP .Act x)
    rw [tb_pv] at h1
    show [AV.agg (erL L (tb .Act x))] = _
    rw [h1]; rfl
  rw [e]
  simp only [AV.Ts, AV.R]
  exact ⟨_, _, rfl, ⟨_, rfl, by simpa using h⟩, rfl⟩
attribute [-simp] Tryz.isAgg32 Tryz.sizeOf32
set_option maxHeartbeats 1000000 in
theorem format_calls (fu : Nat) (l : List D.Act) (G w : World) (ρ : Name → AM.Loc) (M : Nat → Prop) (hG : AM.Ground G w (fun _ => False)) (hM : ∀ b, M b → b < w.heap.size) (a : Option Addr) (cap : Nat) (hcap : l.length ≤ cap) (hn : a = none → cap = 0)
    (hc : ∀ ad, a = some ad → cap ≠ 0 → ad.spot = none ∧ ¬ M ad.block ∧ ad.block < w.heap.size ∧ PV.Rows M w ad.block 21 ad.off (l.map D.Act.cells)) (q : ByteArray × Int) (hq : script_Format fu l = some q) :
    Calls Tryz.prog 5 #[.slice a l.length cap] w fun e w' => e = .returned (.tuple #[.string q.1, .int .i64 q.2]) ∧ Ext (fun _ => False) w w' := by
  unfold script_Format at hq
  split at hq
  · rename_i h200
    cases hq
    go_enter Tryz.func5, Tryz.ntmps5
    go_wp2
    go_ret2
    exact ⟨rfl, Ext.refl _ _⟩
  · rename_i h200
    obtain ⟨v, hv, hq⟩ := optc_some hq
    have Hq := Any.hidU hq
    have Hv := Any.hidU hv
    clear hq hv
    go_enter Tryz.func5, Tryz.ntmps5
    go_wp2
    go_loopw [14] (fun i wr => ∃ k : Nat, k ≤ l.length ∧ i = .int .i64 k ∧ Hid (fmtV fu (l.drop k) = some v) ∧ Hid (IsB w.heap.size w.heap.size [] wr) ∧ Hid (Ext (fun _ => False) w wr)) (fun i _ => l.length - (Lib.intOf i).toNat)
    case atStart => exact ⟨0, Nat.zero_le _, rfl, by rw [List.drop_zero]; exact Hv, Any.hidU (bld_new w), Any.hidU ((Ext.alloc w _).weaken (fun _ _ h => h.elim))⟩
    case round =>
      obtain ⟨k, hk, rfl, HV, HB, HE⟩ := hrel
      have hBw : w.heap.size ≤ wr.heap.size := HE.out.size
      by_cases hlt : k < l.length
      · obtain ⟨x, hx⟩ : ∃ x, l[k]? = some x := ⟨l[k], List.getElem?_eq_getElem hlt⟩
        have hcap0 : cap ≠ 0 := by omega
        obtain ⟨ad, rfl⟩ : ∃ ad, a = some ad := by
          cases a with
          | none => exact absurd (hn rfl) hcap0
          | some ad => exact ⟨ad, rfl⟩
        obtain ⟨bk, o, sp⟩ := ad
        obtain ⟨hsp, hMb, hbk, hrows⟩ := hc _ rfl hcap0
        change sp = none at hsp
        subst hsp
        have hrows' : PV.Rows M wr bk 21 o (l.map D.Act.cells) := hrows.mono (B := fun _ => False) HE.out (fun _ h => h.elim) (fun _ _ h => h) (fun h => h) hbk
        obtain ⟨hxl, hxc⟩ := hrows'.get k (D.Act.cells x) (by rw [List.getElem?_map, hx]; rfl)
        obtain ⟨us, hus, hcell⟩ := Rs_of_Cells (ρ := ρ) (H := fun _ => none) hxc
        have hul : us.length = 21 := by have := hus.length; rw [this]; rfl
        have hone : us.toArray.all (·.oneCell') = true := by
          rw [← Array.all_toList, List.all_eq_true]
          intro u hu
          obtain ⟨j, hj⟩ := List.getElem?_of_mem hu
          have hj2 : j < (pcells (D.Act.cells x)).length := by have := (List.getElem?_eq_some_iff.1 hj).1; rw [← hus.length]; simpa using this
          obtain ⟨u', h1, h2, _⟩ := hus.get j _ (List.getElem?_eq_getElem hj2)
          rw [show us[j]? = some u by simpa using hj] at h1
          cases h1; exact h2
        have hlc : (loadCellsFrom ⟨bk, o + k * 21, none⟩ 0 21 #[]).run Tryz.prog wr = .ok us.toArray wr := by
          have := run_loadCells_list (P := Tryz.prog) wr ⟨bk, o + k * 21, none⟩ us (fun j v hj => by rw [addr_add]; exact hcell j v hj)
          rw [hul] at this
          simpa [loadCells] using this
        have hsc : ∀ zs : Array Value, zs.size = 21 → (storeCells ⟨wr.heap.size, 0, none⟩ us 0).run Tryz.prog (wr.alloc (.cells zs 32)) = .ok () (wr.alloc (.cells us.toArray 32)) := fun zs hzs => by
          have := run_storeCells_new (P := Tryz.prog) wr 32 zs us.toArray (by rw [show us.toArray.size = 21 by simpa using hul]; kernel_rfl) (by rw [hzs]; simp [hul]) hone
          simpa using this
        have hlc2 := run_loadCellsFrom_new (P := Tryz.prog) wr 32 us.toArray 21 (by simpa using hul)
        have hz : ∀ W : World, (sizeOf 32).run Tryz.prog W = .ok 21 W := Tryz.sizeOf32
        have hg : ∀ W : World, (isAgg 32).run Tryz.prog W = .ok true W := Tryz.isAgg32
        have Hz := Any.hidU hz
        have Hg := Any.hidU hg
        clear hz hg
        obtain ⟨W1, hW1⟩ : ∃ W1, wr.alloc (.cells us.toArray 32) = W1 := ⟨_, rfl⟩
        rw [hW1] at hlc2
        simp only [hW1] at hsc
        have hx1 : Ext (fun _ => False) wr W1 := by rw [← hW1]; exact (Ext.alloc wr _).weaken (fun _ _ h => h.elim)
        have hE1 := ext_trans HE.out hx1
        have hM1 : ∀ b, M b → b < W1.heap.size := fun b hb => Nat.lt_of_lt_of_le (hM b hb) hE1.size
        have hus1 : AV.Rs ρ (fun _ => none) M W1 (pcells (D.Act.cells x)) us := hus.step (B := fun _ => False) hx1 (fun _ h => h.elim) (fun _ _ h => h) (fun n o hn => by simp at hn) (fun _ _ h => h)
        have hdrop : l.drop k = x :: l.drop (k + 1) := by
          rw [List.drop_eq_getElem_cons hlt]
          congr 1
          rw [List.getElem?_eq_getElem hlt] at hx
          exact Option.some.inj hx
        have hVx := HV.out
        rw [hdrop] at hVx
        obtain ⟨vx, hvx, hVr⟩ := optc_some hVx
        go_wp2_with fail
        simp only [Hz.out, Result.andThen]
        rw [Oper.upon_value]
        go_wp2_with fail
        simp only [Hz.out, Hg.out, Result.andThen, if_true, hlc]
        rw [Oper.upon_value]
        go_wp2_with fail
        simp only [Hz.out, Result.andThen, ↓reduceIte]
        rw [hsc]
        rotate_left
        · rfl
        dsimp only
        rw [Oper.upon_skip]
        go_wp2_with fail
        simp only [Hz.out, Hg.out, Result.andThen, if_true, hlc2]
        rw [Oper.upon_value]
        go_wp2_with fail
        refine (FnOK.callsP (F := fun y : SL [.st .Act] => script_Valid fu y.1) (script_Valid_ok fu) (x := (x, ())) (q := vx) hvx (ground_ext hG hE1) hM1 (act_args hus1)).mono ?_
        rintro e W2 ⟨u, rfl, ⟨ρ', L, hu⟩, hx2⟩
        have huv : u = .bool vx := hu.1
        subst huv
        have hE2 := ext_trans hE1 hx2
        have hB2 := (HB.out.ext hx1).ext hx2
        cases vx with
        | false =>
          cases hVr
          cases Hq.out
          go_wp2
          go_ret2
          exact ⟨rfl, hE2⟩
        | true =>
          go_wp2
          exact ⟨⟨k + 1, by omega, by go_num, hVr, hB2, hE2⟩, by simp [Lib.intOf]; omega⟩
      · have hke : k = l.length := by omega
        subst hke
        have hVx := HV.out
        rw [List.drop_length] at hVx
        cases hVx
        have hq1 := Hq.out
        change (optc (fmtL fu l) fun t => lec t.length 50000000 (if 65536 < t.length then some (toB [], 5) else some (toB t, 0))) = some q at hq1
        obtain ⟨T, hT, hq1⟩ := optc_some hq1
        obtain ⟨hTl, hq1⟩ := lec_some hq1
        have HQ := Any.hidU hq1
        have HT := Any.hidU hT
        clear hq1 hT HV
        go_wp2_with fail
        go_loopw [24] (fun i wr => ∃ (k : Nat) (acc t : List UInt8), k ≤ l.length ∧ i = .int .i64 k ∧ Hid (fmtL fu (l.drop k) = some t) ∧ Hid (acc ++ t = T) ∧ Hid (IsB w.heap.size w.heap.size acc wr) ∧ Hid (Ext (fun _ => False) w wr)) (fun i _ => l.length - (Lib.intOf i).toNat)
        case atStart => exact ⟨0, [], T, Nat.zero_le _, rfl, by rw [List.drop_zero]; exact HT, rfl, HB, HE⟩
        case round =>
          clear HB HE
          obtain ⟨k, acc, t, hk, rfl, HV, HA, HB, HE⟩ := hrel
          have hBw : w.heap.size ≤ wr.heap.size := HE.out.size
          have hal : acc.length + t.length ≤ 50000000 := by rw [← List.length_append, HA.out]; exact hTl
          by_cases hlt : k < l.length
          ·
            obtain ⟨x, hx⟩ : ∃ x, l[k]? = some x := ⟨l[k], List.getElem?_eq_getElem hlt⟩
            have hcap0 : cap ≠ 0 := by omega
            obtain ⟨ad, rfl⟩ : ∃ ad, a = some ad := by
              cases a with
              | none => exact absurd (hn rfl) hcap0
              | some ad => exact ⟨ad, rfl⟩
            obtain ⟨bk, o, sp⟩ := ad
            obtain ⟨hsp, hMb, hbk, hrows⟩ := hc _ rfl hcap0
            change sp = none at hsp
            subst hsp
            have hrows' : PV.Rows M wr bk 21 o (l.map D.Act.cells) := hrows.mono (B := fun _ => False) HE.out (fun _ h => h.elim) (fun _ _ h => h) (fun h => h) hbk
            obtain ⟨hxl, hxc⟩ := hrows'.get k (D.Act.cells x) (by rw [List.getElem?_map, hx]; rfl)
            obtain ⟨us, hus, hcell⟩ := Rs_of_Cells (ρ := ρ) (H := fun _ => none) hxc
            have hul : us.length = 21 := by have := hus.length; rw [this]; rfl
            have hone : us.toArray.all (·.oneCell') = true := by
              rw [← Array.all_toList, List.all_eq_true]
              intro u hu
              obtain ⟨j, hj⟩ := List.getElem?_of_mem hu
              have hj2 : j < (pcells (D.Act.cells x)).length := by have := (List.getElem?_eq_some_iff.1 hj).1; rw [← hus.length]; simpa using this
              obtain ⟨u', h1, h2, _⟩ := hus.get j _ (List.getElem?_eq_getElem hj2)
              rw [show us[j]? = some u by simpa using hj] at h1
              cases h1; exact h2
            have hlc : (loadCellsFrom ⟨bk, o + k * 21, none⟩ 0 21 #[]).run Tryz.prog wr = .ok us.toArray wr := by
              have := run_loadCells_list (P := Tryz.prog) wr ⟨bk, o + k * 21, none⟩ us (fun j v hj => by rw [addr_add]; exact hcell j v hj)
              rw [hul] at this
              simpa [loadCells] using this
            have hsc : ∀ zs : Array Value, zs.size = 21 → (storeCells ⟨wr.heap.size, 0, none⟩ us 0).run Tryz.prog (wr.alloc (.cells zs 32)) = .ok () (wr.alloc (.cells us.toArray 32)) := fun zs hzs => by
              have := run_storeCells_new (P := Tryz.prog) wr 32 zs us.toArray (by rw [show us.toArray.size = 21 by simpa using hul]; kernel_rfl) (by rw [hzs]; simp [hul]) hone
              simpa using this
            have hlc2 := run_loadCellsFrom_new (P := Tryz.prog) wr 32 us.toArray 21 (by simpa using hul)
            have hz : ∀ W : World, (sizeOf 32).run Tryz.prog W = .ok 21 W := Tryz.sizeOf32
            have hg : ∀ W : World, (isAgg 32).run Tryz.prog W = .ok true W := Tryz.isAgg32
            have Hz := Any.hidU hz
            have Hg := Any.hidU hg
            clear hz hg
            obtain ⟨W1, hW1⟩ : ∃ W1, wr.alloc (.cells us.toArray 32) = W1 := ⟨_, rfl⟩
            rw [hW1] at hlc2
            simp only [hW1] at hsc
            have hx1 : Ext (fun _ => False) wr W1 := by rw [← hW1]; exact (Ext.alloc wr _).weaken (fun _ _ h => h.elim)
            have hE1 := ext_trans HE.out hx1
            have hM1 : ∀ b, M b → b < W1.heap.size := fun b hb => Nat.lt_of_lt_of_le (hM b hb) hE1.size
            have hus1 : AV.Rs ρ (fun _ => none) M W1 (pcells (D.Act.cells x)) us := hus.step (B := fun _ => False) hx1 (fun _ h => h.elim) (fun _ _ h => h) (fun n o hn => by simp at hn) (fun _ _ h => h)
            have hdrop : l.drop k = x :: l.drop (k + 1) := by
              rw [List.drop_eq_getElem_cons hlt]
              congr 1
              rw [List.getElem?_eq_getElem hlt] at hx
              exact Option.some.inj hx
            have hVx := HV.out
            rw [hdrop] at hVx
            obtain ⟨ln, hln, hVx⟩ := optc_some hVx
            obtain ⟨t', ht', hVx⟩ := optc_some hVx
            have htt : ln.data.toList ++ t' = t := Option.some.inj hVx
            have hls : ln.data.toList.length = ln.size := by rw [Array.length_toList]; rfl
            have hlen : acc.length + ln.size ≤ 50000000 := by rw [← htt, List.length_append] at hal; omega
            go_wp2_with fail
            simp only [Hz.out, Result.andThen]
            rw [Oper.upon_value]
            go_wp2_with fail
            simp only [Hz.out, Hg.out, Result.andThen, if_true, hlc]
            rw [Oper.upon_value]
            go_wp2_with fail
            simp only [Hz.out, Result.andThen, ↓reduceIte]
            rw [hsc]
            rotate_left
            · rfl
            dsimp only
            rw [Oper.upon_skip]
            go_wp2_with fail
            simp only [Hz.out, Hg.out, Result.andThen, if_true, hlc2]
            rw [Oper.upon_value]
            go_wp2_with fail
            refine (FnOK.callsP (F := fun y : SL [.st .Act] => script_line fu y.1) (script_line_ok fu) (x := (x, ())) (q := ln) hln (ground_ext hG hE1) hM1 (act_args hus1)).mono ?_
            rintro e W2 ⟨u, rfl, ⟨ρ', L, hu⟩, hx2⟩
            have huv : u = .string ln := hu.1
            subst huv
            have hE2 := ext_trans hE1 hx2
            have hB2 := (HB.out.ext hx1).ext hx2
            go_wp2_with fail
            refine (bld_Str w.heap.size w.heap.size acc ln W2 hB2 (by omega) hE2.size).mono ?_
            rintro e W3 ⟨rfl, hB3, hb3⟩
            have hE3 := ext_of_below hE2 hb3
            go_wp2
            exact ⟨⟨k + 1, acc ++ ln.data.toList, t', by omega, by go_num, ht', by rw [List.append_assoc, htt]; exact HA.out, hB3, hE3⟩, by simp [Lib.intOf]; omega⟩
          · have hke : k = l.length := by omega
            subst hke
            have hVx := HV.out
            rw [List.drop_length] at hVx
            cases hVx
            have haT : acc = T := by rw [← HA.out, List.append_nil]
            subst haT
            go_wp2_with fail
            refine (bld_Len w.heap.size w.heap.size acc wr HB.out).mono ?_
            rintro e W2 ⟨rfl, rfl⟩
            by_cases h6 : 65536 < acc.length
            · have hq2 := HQ.out
              rw [if_pos h6] at hq2
              cases hq2
              go_wp2
              go_ret2
              exact ⟨rfl, HE.out⟩
            · have hq2 := HQ.out
              rw [if_neg h6] at hq2
              cases hq2
              go_wp2_with fail
              refine (bld_String w.heap.size w.heap.size acc _ HB.out hBw).mono ?_
              rintro e W3 ⟨rfl, hb3⟩
              have hE3 := ext_of_below HE.out hb3
              go_wp2
              go_ret2
              exact ⟨rfl, hE3⟩
noncomputable section
def script_Format_g (fu : Nat) : Sig := mkSig [.one (.lst .Act)] [] [.one .str, .one (.num .i64)] [] [] (ByteArray × Int) (fun q => ((q.1, (q.2, ())), ())) (fun x y => script_Format fu x.1)
theorem script_Format_ok (fu : Nat) : FnOK Tryz.prog 5 (script_Format_g fu) := FnOK.pure fun ⟨l, _⟩ q hq L0 L1 => Spec.ofCalls fun G ρ M w us hG hMs ha => by
  change List D.Act at l
  simp only [SL.put, SSh.put, Sh.put, erL, BV.er, AV.Ts, AV.R, PV.R] at ha
  obtain ⟨u, us', rfl, ⟨a, cap, rfl, hcap, -, hn, hc⟩, rfl⟩ := ha
  rw [List.length_map] at hcap ⊢
  simp only [SL.put, SSh.put, Sh.put, resB, erL, BV.er, AV.R, AV.Ts, PV.R]
  refine (format_calls fu l G w ρ M hG hMs a cap hcap hn hc q hq).mono ?_
  rintro e w' ⟨rfl, hx⟩
  exact ⟨_, rfl, ⟨_, rfl, _, _, rfl, ⟨rfl, rfl⟩, _, _, rfl, ⟨rfl, rfl⟩, rfl⟩, hx⟩
end
end Go.Proofs.YtkfmncmhagpajaaGreatDoor
