/-
  The typed layer, part R: parts of lists and of arrays of ours, clear, copy, closures that are made, arrays that are values. No project text.
-/
import Derived.Test.YtfhcigjkfelnfaaGreatQRowAuditLateE
import Derived.Test.YtfhcigjkfelnfaaGreatQRowAuditLateD
set_option linter.unusedVariables false
set_option linter.unusedSimpArgs false
namespace Go.Proofs.YtfhcigjkfelnfaaGreat.AM
open Go
variable {L L' : Lens} {ts ts' : TS} {hs hs' : HS}
section
variable {R : Type} (P : Program) (ty : TypeId → Option TC) (rd : TS) (hs : HS) (K : BEff → Option R)
def bndB (x : Operand) (k : Nat → Option R) : Option R := match evalB rd x with
  | some (.n k' j) => if kEq .i64 k' then natc j k else none
  | _ => none
def bSlice (T : TypeId) (x : Operand) (lo hi mx : Option Operand) : Option R := match evalB rd x, elemT P T, mx with
  | some (.ts f t l), some e, none => match sizeT P e, lo, hi with
    | some es, some lo, none => if Nat.beq es (tz t) then bndB rd lo fun k => lec k l.length (K (ev (.ts f t (l.drop k)))) else none
    | some es, none, some hi => if Nat.beq es (tz t) then bndB rd hi fun m => lec m l.length (K (ev (.ts false t (l.take m)))) else none
    | some es, some lo, some hi => if Nat.beq es (tz t) then bndB rd lo fun k => bndB rd hi fun m => lec k m (lec m l.length (K (ev (.ts false t ((l.take m).drop k))))) else none
    | _, _, _ => none
  | some (.own n u), some e, none => match look n hs, sizeT P e with
    | some (.arr t l q), some es => if Nat.beq es (tz t) && Nat.beq u q then (match lo, hi with
        | some lo, none => bndB rd lo fun k => lec k l.length (K ⟨[(n, .arr t l q)], .view n u k l.length, [], [], []⟩)
        | none, some hi => bndB rd hi fun m => lec m l.length (K ⟨[(n, .arr t l q)], .view n u 0 m, [], [], []⟩)
        | _, _ => none) else none
    | _, _ => none
  | some (.view n u a b), some e, none => match look n hs, sizeT P e with
    | some (.arr t l q), some es => if Nat.beq es (tz t) && Nat.beq u q then (match lo, hi with
        | some lo, none => bndB rd lo fun k => ltc k (b - a) (K ⟨[(n, .arr t l q)], .view n u (a + k) (a + (b - a)), [], [], []⟩)
        | none, some hi => bndB rd hi fun m => lec m (b - a) (K ⟨[(n, .arr t l q)], .view n u (a + 0) (a + m), [], [], []⟩)
        | _, _ => none) else none
    | _, _ => none
  | _, _, _ => none
def bClear (T : TypeId) (x : Operand) : Option R := match evalB rd x, elemT P T with
  | some (.view n u i hi), some e => match look n hs, sizeT P e, zeroB P e with
    | some (.arr t l q), some es, some zs => if Nat.beq es (tz t) && Nat.beq zs.length es && zs.all BV.isP && Nat.beq u q then lec i hi (lec hi l.length (tpop t zs fun z rest => match rest with
        | [] => K ⟨[(n, .arr t l q)], .tup [], [(n, .arr t (l.take i ++ List.replicate (hi - i) z ++ l.drop hi) q)], [], []⟩
        | _ => none)) else none
    | _, _, _ => none
  | _, _ => none
def bCopy (T : TypeId) (x y : Operand) : Option R := match evalB rd x, evalB rd y, elemT P T with
  | some (.view n u i hi), some (.view m v j hj), some e => match look n hs, sizeT P e with
    | some (.arr t l q), some es => if Nat.beq n m && Nat.beq v q && Nat.beq es (tz t) && Nat.beq u q then chk hi l.length (chk hj l.length (lec i l.length (lec j i
        (K ⟨[(n, .arr t l q)], .n .i64 ((l.length - i : Nat) : Int), [(n, .arr t (l.take i ++ (l.drop j).take (l.length - i)) q)], [], []⟩)))) else none
    | _, _ => none
  | _, _, _ => none
def intsB : List BV → Option (List Int)
  | [] => some []
  | .n k x :: r => if kEq .i64 k then (match intsB r with | some l => some (x :: l) | none => none) else none
  | _ => none
def bCmp (op : BinOp) (T : TypeId) (a b : List BV) : Option R := match intsB a, intsB b with
  | some p, some q => if intsT P T p.length && Nat.beq q.length p.length then (match op with
      | .eql => K (ev (.b (decide (p = q))))
      | .neq => K (ev (.b (decide (p ≠ q))))
      | _ => none) else none
  | _, _ => none
def nilO : Operand → Bool
  | .const (.slice none 0 0) => true
  | _ => false
def bNil (op : BinOp) (T : TypeId) (x : BV) : Option R := match eqOp op, elemT P T, x with
  | some q, some _, .ts _ _ l => nilC l (K (ev .ub)) (K (ev (.b (!q))))
  | some q, some _, .nil => K (ev .ub)
  | _, _, _ => none
def bBin2 (op : BinOp) (T : TypeId) (x y : Operand) : Option R := match evalB rd x, evalB rd y with
  | some (.agg a), some (.agg b) => bCmp P K op T a b
  | some x, some .nil => if nilO y then bNil P K op T x else none
  | _, _ => bBin P rd K op T x y
def pickC (c : Int) : List BV → Nat → (Nat → BV → Option R) → Option R
  | [], _, _ => none
  | v :: r, i, k => cnd (decide (c = (i : Int))) (k i v) (pickC c r (i + 1) k)
def bIndexV (T : TypeId) (x y : Operand) : Option R := match evalB rd x, evalB rd y, P.underlying T with
  | some (.agg cs), some (.n k j), some (.array len e) => if kEq .i64 k && flatT P e && Nat.beq len cs.length then (match sizeT P e with
      | some 1 => pickC j cs 0 fun _ v => K (ev v)
      | _ => none) else none
  | _, _, _ => none
def bIndexBox (T : TypeId) (x y : Operand) : Option R := match evalB rd x, evalB rd y, P.underlying T with
  | some (.ref n k), some (.n _ j), some (.array len e) => match look n hs, sizeT P e with
    | some (.box cells), some es => pickC j (List.replicate len .any) 0 fun i _ => K ⟨[(n, .box cells)], .ref n (k + i * es), [], [], []⟩
    | _, _ => none
  | _, _, _ => none
def cntB (k : ByteArray) : List (ByteArray × Bool) → Nat
  | [] => 0
  | p :: r => if k = p.1 then cntB k r + 1 else cntB k r
def memB (k : ByteArray) : List (ByteArray × Bool) → Bool
  | [] => false
  | p :: r => if k = p.1 then p.2 else memB k r
def isK (P : Program) (T : TypeId) : Bool := match P.underlying T with
  | some (.map K E) => (match P.underlying K with | some .string => true | _ => false) && (match zeroV P E with | some (.bool false) => true | _ => false)
  | _ => false
def bMakeMap (d : Option Nat) (T : TypeId) : Option R := match d with
  | some d => if isK P T then K ⟨[], .mref (1000 + d), [(1000 + d, .sm [])], [1000 + d], []⟩ else none
  | none => none
def bLookup (T : TypeId) (x y : Operand) : Option R := match evalB rd x, evalB rd y with
  | some (.mref n), some (.s k) => match look n hs with
    | some (.sm es) => if isK P T then K ⟨[(n, .sm es)], .b (memB k es), [], [], []⟩ else none
    | _ => none
  | _, _ => none
def bPutM (d : Option Nat) (T : TypeId) (x y z : Operand) : Option R := match d, evalB rd x, evalB rd y, evalB rd z with
  | none, some (.mref n), some (.s k), some (.b v) => match look n hs with
    | some (.sm es) => if isK P T then chk (cntB k es) 0 (K ⟨[(n, .sm es)], .any, [(n, .sm (es ++ [(k, v)]))], [], []⟩) else none
    | _ => none
  | _, _, _, _ => none
def flatB : BV → Bool
  | .agg _ => false
  | .tup _ => false
  | _ => true
def bFunc (fn : Fn) (first caps : Array Operand) : Option R := match first.toList, evalBs rd caps.toList with
  | [], some cs => if cs.all flatB then K (ev (.clo fn cs)) else none
  | _, _ => none
end
section
variable {R : Type} {P : Program} {ty : TypeId → Option TC} {rd : TS} {K : BEff → Option R} {r : R} {o : Oper}
theorem bndB_some {x : Operand} {k : Nat → Option R} (h : bndB rd x k = some r) : ∃ i : Nat, evalB rd x = some (.n .i64 (i : Int)) ∧ k i = some r := by
  unfold bndB at h
  split at h
  · rename_i k' j hx
    split at h
    · rename_i hk
      have := kEq_of hk; subst this
      obtain ⟨i, rfl, h⟩ := natc_some h
      exact ⟨i, hx, h⟩
    · simp at h
  · simp at h
theorem optB_of {x : Operand} {i d : Nat} (h : evalB rd x = some (.n .i64 (i : Int))) (L : Lens) : optB (erT L rd) d (some x) = some (i : Int) := by
  have := evalB_er L h
  simp only [BV.er] at this
  simp only [optB, this]
theorem Good.wrArrV {n : Name} {t : TC} {l l' : List (TT t)} {q : Nat} {v : BV} (hc : look n hs = some (.arr t l q)) (hl : l'.length = l.length) (h : ∀ L, Inv L hs → OpOK P o ⟨erT L rd, [(n, .arr (tz t) (l.map (tcells t)))], v.er L, [(n, .arr (tz t) (l'.map (tcells t)))], []⟩) : Good P o rd hs ⟨[(n, .arr t l q)], v, [(n, .arr t l' q)], [], []⟩ :=
  ⟨hp1 hc, fun L hL => ⟨L, fun _ _ _ _ => rfl, fun m t' l2 u hm => by
    simp only [List.cons_append, List.nil_append, look] at hm
    split at hm
    · rename_i e; subst e; cases hm; rw [hl]; exact hL _ t l q hc
    · exact hL m t' l2 u hm, h L hL⟩⟩
theorem bSlice_ok {T : TypeId} {x : Operand} {lo hi mx : Option Operand} (ho : o.op = .slice T x lo hi mx) (h : bSlice P rd hs K T x lo hi mx = some r) : Does P o rd hs K r := by
  unfold bSlice at h
  split at h
  · rename_i f t l e hx he
    split at h
    · rename_i es lo hz
      split at h
      · rename_i hb
        have := Nat.eq_of_beq_eq_true hb; subst this
        obtain ⟨k, hk, h⟩ := bndB_some h
        obtain ⟨hkl, h⟩ := lec_some h
        refine ⟨_, h, .ev fun L _ => ?_⟩
        have h1 := evalB_er L hx
        have h2 := evalB_er L hk
        simp only [BV.er] at h1 h2 ⊢
        exact OpOK.sliceLo ho (elemT_spec he) hz h1 h2 rfl (by rw [List.length_map]; exact hkl) (by rw [List.map_drop])
      · simp at h
    · rename_i es hi hz
      split at h
      · rename_i hb
        have := Nat.eq_of_beq_eq_true hb; subst this
        obtain ⟨m, hm, h⟩ := bndB_some h
        obtain ⟨hml, h⟩ := lec_some h
        refine ⟨_, h, .ev fun L _ => ?_⟩
        have h1 := evalB_er L hx
        simp only [BV.er] at h1 ⊢
        have := OpOK.sliceP (P := P) (o := o) (k := 0) (m := m) ho (elemT_spec he) hz h1 (by simp [optB]) (optB_of hm L) (Nat.zero_le _) (by rw [List.length_map]; exact hml)
        rw [List.drop_zero, ← List.map_take] at this
        exact this
      · simp at h
    · rename_i es lo hi hz
      split at h
      · rename_i hb
        have := Nat.eq_of_beq_eq_true hb; subst this
        obtain ⟨k, hk, h⟩ := bndB_some h
        obtain ⟨m, hm, h⟩ := bndB_some h
        obtain ⟨hkm, h⟩ := lec_some h
        obtain ⟨hml, h⟩ := lec_some h
        refine ⟨_, h, .ev fun L _ => ?_⟩
        have h1 := evalB_er L hx
        simp only [BV.er] at h1 ⊢
        have := OpOK.sliceP (P := P) (o := o) (k := k) (m := m) ho (elemT_spec he) hz h1 (optB_of hk L) (optB_of hm L) hkm (by rw [List.length_map]; exact hml)
        rw [← List.map_take, ← List.map_drop] at this
        exact this
      · simp at h
    · simp at h
  · rename_i n u e hx he
    split at h
    · rename_i t l q es hc hz
      split at h
      · rename_i hb
        simp only [Bool.and_eq_true] at hb
        have := Nat.eq_of_beq_eq_true hb.1; subst this
        have hlen : ∀ {L : Lens}, Inv L hs → L n u = l.length := fun hL => by rw [Nat.eq_of_beq_eq_true hb.2]; exact hL n t l q hc
        split at h
        · rename_i lo
          obtain ⟨k, hk, h⟩ := bndB_some h
          obtain ⟨hkl, h⟩ := lec_some h
          refine ⟨_, h, .val (hp1 hc) fun L hL => ?_⟩
          have h1 := evalB_er L hx
          simp only [BV.er] at h1 ⊢
          exact OpOK.sliceView ho (elemT_spec he) hz h1 (optB_of hk L) (by simp [optB, hlen hL]) (arr_len hL hc hb.2) hkl (by rw [List.length_map]; exact Nat.le_refl _)
        · rename_i hi
          obtain ⟨m, hm, h⟩ := bndB_some h
          obtain ⟨hml, h⟩ := lec_some h
          refine ⟨_, h, .val (hp1 hc) fun L hL => ?_⟩
          have h1 := evalB_er L hx
          simp only [BV.er] at h1 ⊢
          exact OpOK.sliceView ho (elemT_spec he) hz h1 (by simp [optB]) (optB_of hm L) (arr_len hL hc hb.2) (Nat.zero_le _) (by rw [List.length_map]; exact hml)
        · simp at h
      · simp at h
    · simp at h
  · rename_i n u a b e hx he
    split at h
    · rename_i t l q es hc hz
      split at h
      · rename_i hb
        simp only [Bool.and_eq_true] at hb
        have := Nat.eq_of_beq_eq_true hb.1; subst this
        split at h
        · rename_i lo
          obtain ⟨k, hk, h⟩ := bndB_some h
          obtain ⟨hkl, h⟩ := ltc_some h
          refine ⟨_, h, .val (hp1 hc) fun L hL => ?_⟩
          have h1 := evalB_er L hx
          simp only [BV.er] at h1 ⊢
          exact OpOK.sliceView2 ho (elemT_spec he) hz h1 (optB_of hk L) (by simp [optB]) (arr_len hL hc hb.2) (Nat.le_of_lt hkl) (Nat.le_refl _) (.inr (.inr hkl))
        · rename_i hi
          obtain ⟨m, hm, h⟩ := bndB_some h
          obtain ⟨hml, h⟩ := lec_some h
          refine ⟨_, h, .val (hp1 hc) fun L hL => ?_⟩
          have h1 := evalB_er L hx
          simp only [BV.er] at h1 ⊢
          exact OpOK.sliceView2 (k := 0) ho (elemT_spec he) hz h1 (by simp [optB]) (optB_of hm L) (arr_len hL hc hb.2) (Nat.zero_le _) hml (.inr (.inl rfl))
        · simp at h
      · simp at h
    · simp at h
  · simp at h
theorem pureL_of {T : TypeId} {cs : List BV} (h : zeroB P T = some cs) (hp : cs.all BV.isP = true) : zeroRow P T = some (pvL cs) := by
  unfold zeroRow
  rw [zeroB_er (fun _ _ => 0) h]
  simp only
  exact pureL_pv _ hp
theorem bClear_ok {T : TypeId} {x : Operand} {ats : Array TypeId} (ho : o.op = .call { callee := .builtin .clear, args := #[x], argTypes := ats }) (hat : ats[0]? = some T) (h : bClear P rd hs K T x = some r) : Does P o rd hs K r := by
  unfold bClear at h
  split at h
  case h_2 => simp at h
  rename_i n u i hi e hx he
  split at h
  case h_2 => simp at h
  rename_i t l q es zs hc hz hzs
  split at h
  case isFalse => simp at h
  rename_i hb
  simp only [Bool.and_eq_true] at hb
  have := Nat.eq_of_beq_eq_true hb.1.1.1; subst this
  obtain ⟨hih, h⟩ := lec_some h
  obtain ⟨hil, h⟩ := lec_some h
  obtain ⟨z, rest, hle, h⟩ := tpop_some t h
  split at h
  case h_2 => simp at h
  refine ⟨_, h, .wrArrV hc (by simp; omega) fun L hL => ?_⟩
  have h1 := evalB_er L hx
  have hlen : L n u = l.length := by rw [Nat.eq_of_beq_eq_true hb.2]; exact hL n t l q hc
  simp only [BV.er, erL] at h1 ⊢
  have hcs := Le_cells hle hb.1.2
  refine OpOK.arrLe (OpOK.clearView (P := P) (rows := l.map (tcells t)) (i := i) (m := hi) ho hat (elemT_spec he) hz (pureL_of hzs hb.1.2) (by rw [pvL_length]; exact Nat.eq_of_beq_eq_true hb.1.1.2) h1 (arr_len hL hc hb.2) hih (by rw [List.length_map]; exact hil) rfl) ?_
  rw [List.map_append, List.map_append, List.map_take, List.map_drop, List.map_replicate]
  refine RowsLe.append (RowsLe.append (RowsLe.refl _) (RowsLe.nth (by simp) fun j a b ha hb => ?_)) (RowsLe.refl _)
  rw [List.getElem?_replicate] at ha hb
  split at ha
  · rename_i hj
    rw [if_pos hj] at hb
    cases ha; cases hb; exact hcs
  · simp at ha
theorem bCopy_ok {T : TypeId} {x y : Operand} (ho : o.op = .call { callee := .builtin .copy, args := #[x, y], argTypes := #[T, T] }) (h : bCopy P rd hs K T x y = some r) : Does P o rd hs K r := by
  unfold bCopy at h
  split at h
  case h_2 => simp at h
  rename_i n u i hi m v j hj e hx hy he
  split at h
  case h_2 => simp at h
  rename_i t l q es hc hz
  split at h
  case isFalse => simp at h
  rename_i hb
  simp only [Bool.and_eq_true] at hb
  have := Nat.eq_of_beq_eq_true hb.1.1.1; subst this
  have := Nat.eq_of_beq_eq_true hb.1.2; subst this
  replace h := chk_some h
  obtain ⟨e1, h⟩ := h
  subst e1
  replace h := chk_some h
  obtain ⟨e2, h⟩ := h
  subst e2
  obtain ⟨hil, h⟩ := lec_some h
  obtain ⟨hji, h⟩ := lec_some h
  have huv : v = u := by rw [Nat.eq_of_beq_eq_true hb.1.1.2, Nat.eq_of_beq_eq_true hb.2]
  subst huv
  refine ⟨_, h, .wrArrV hc (by simp; omega) fun L hL => ?_⟩
  have h1 := evalB_er L hx
  have h2 := evalB_er L hy
  have hlen : L n v = l.length := by rw [Nat.eq_of_beq_eq_true hb.2]; exact hL n t l q hc
  simp only [BV.er] at h1 h2 ⊢
  exact OpOK.copyView (rows := l.map (tcells t)) ho rfl (elemT_spec he) hz (by rw [h1, hlen]) (by rw [h2, hlen]) (arr_len hL hc hb.2) (by rw [List.length_map]; exact hil) hji (by rw [List.map_append, List.map_take, List.map_take, List.map_drop, List.length_map]) (by rw [List.length_map])
theorem isK_some {T : TypeId} (h : isK P T = true) : ∃ K E, P.underlying T = some (.map K E) ∧ P.underlying K = some .string ∧ zeroV P E = some (.bool false) := by
  unfold isK at h
  split at h
  · rename_i K E hT
    simp only [Bool.and_eq_true] at h
    obtain ⟨h1, h2⟩ := h
    split at h1
    · rename_i hK
      split at h2
      · rename_i hE; exact ⟨K, E, hT, hK, hE⟩
      · simp at h2
    · simp at h1
  · simp at h
theorem memB_look (k : ByteArray) : ∀ es : List (ByteArray × Bool), (lookS k (es.map fun p => (p.1, Value.bool p.2))).getD (.bool false) = .bool (memB k es)
  | [] => rfl
  | p :: r => by
    simp only [List.map_cons, lookS, memB]
    split
    · rfl
    · exact memB_look k r
theorem cntB_look (k : ByteArray) : ∀ es : List (ByteArray × Bool), cntB k es = 0 → lookS k (es.map fun p => (p.1, Value.bool p.2)) = none
  | [], _ => rfl
  | p :: r, h => by
    simp only [cntB] at h
    simp only [List.map_cons, lookS]
    split at h
    · omega
    · rename_i e; rw [if_neg e]; exact cntB_look k r h
theorem Inv.sm {L : Lens} {n : Name} {es : List (ByteArray × Bool)} (hL : Inv L hs) : Inv L ((n, .sm es) :: hs) := fun m t l u hm => by
  simp only [look] at hm
  split at hm
  · cases hm
  · exact hL m t l u hm
theorem bMakeMap_ok {T : TypeId} (ho : o.op = .makeMap T none) (h : bMakeMap P K o.dst T = some r) : Does P o rd hs K r := by
  unfold bMakeMap at h
  split at h
  · rename_i d hd
    split at h
    · refine ⟨_, h, fun _ _ h => by simp at h, fun L hL => ⟨L, fun _ _ _ _ => rfl, Inv.sm hL, ?_⟩⟩
      have := OpOK.makeMap (P := P) (o := o) (rd := erT L rd) (n := 1000 + d) ho
      simpa only [BV.er, erH, List.map_cons, List.map_nil, BO.er] using this
    · simp at h
  · simp at h
theorem bLookup_ok {T : TypeId} {x y : Operand} (ho : o.op = .lookup T x y false) (h : bLookup P rd hs K T x y = some r) : Does P o rd hs K r := by
  unfold bLookup at h
  split at h
  · rename_i n k hx hy
    split at h
    · rename_i es hc
      split at h
      · rename_i hk
        obtain ⟨Kt, E, h1, h2, h3⟩ := isK_some hk
        refine ⟨_, h, .val (hp1 hc) fun L hL => ?_⟩
        have k1 := evalB_er L hx
        have k2 := evalB_er L hy
        simp only [BV.er] at k1 k2 ⊢
        exact OpOK.lookup ho h1 h2 h3 k1 k2 (memB_look k es) rfl
      · simp at h
    · simp at h
  · simp at h
theorem bPutM_ok {T : TypeId} {x y z : Operand} (ho : o.op = .mapUpdate T x y z) (h : bPutM P rd hs K o.dst T x y z = some r) : Does P o rd hs K r := by
  unfold bPutM at h
  split at h
  · rename_i n k v hd hx hy hz
    split at h
    · rename_i es hc
      split at h
      · rename_i hk
        obtain ⟨Kt, E, h1, h2, h3⟩ := isK_some hk
        obtain ⟨h0, h⟩ := chk_some h
        refine ⟨_, h, hp1 hc, fun L hL => ⟨L, fun _ _ _ _ => rfl, Inv.sm hL, ?_⟩⟩
        have k1 := evalB_er L hx
        have k2 := evalB_er L hy
        have k3 := evalB_er L hz
        simp only [BV.er] at k1 k2 k3 ⊢
        have := OpOK.putS (P := P) (o := o) (rd := erT L rd) hd (.inl ho) h1 h2 k1 k2 k3 (cntB_look k es h0) (by rw [show es.map (fun p => (p.1, Value.bool p.2)) ++ [(k, Value.bool v)] = (es ++ [(k, v)]).map fun p => (p.1, Value.bool p.2) from by simp])
        simpa only [erH, List.map_cons, List.map_nil, BO.er] using this
      · simp at h
    · simp at h
  · simp at h
theorem flatB_er {x : BV} (h : flatB x = true) (L : Lens) : flatAV (x.er L) = true := by
  cases x <;> simp only [flatB, BV.er, flatAV, Bool.false_eq_true] at h ⊢
theorem bFunc_ok {fn : Fn} {first caps : Array Operand} (ho : o.op = .makeFunc fn first caps) (h : bFunc rd K fn first caps = some r) : Does P o rd hs K r := by
  unfold bFunc at h
  split at h
  · rename_i cs hf hcs
    split at h
    · rename_i hall
      refine ⟨_, h, .ev fun L _ => ?_⟩
      simp only [BV.er]
      refine OpOK.makeFunc ho (by rw [hf]; rfl) (evalBs_er L hcs) rfl ?_
      rw [erL_map, List.all_map]
      exact List.all_eq_true.2 fun c hc => flatB_er (List.all_eq_true.1 hall c hc) L
    · simp at h
  · simp at h
theorem pickC_some {c : Int} : ∀ {cs : List BV} {i : Nat} {k : Nat → BV → Option R}, pickC c cs i k = some r → ∃ j v, cs[j]? = some v ∧ c = ((i + j : Nat) : Int) ∧ k (i + j) v = some r
  | [], i, k, h => by simp [pickC] at h
  | v :: q, i, k, h => by
    simp only [pickC] at h
    rcases cnd_some h with ⟨e, h⟩ | ⟨e, h⟩
    · exact ⟨0, v, rfl, by simpa using e, h⟩
    · obtain ⟨j, v', h1, h2, h3⟩ := pickC_some h
      exact ⟨j + 1, v', by simpa using h1, by rw [h2]; congr 1; omega, by rw [show i + (j + 1) = i + 1 + j by omega]; exact h3⟩
theorem bIndexV_ok {T : TypeId} {x y : Operand} (ho : o.op = .index T x y) (h : bIndexV P rd K T x y = some r) : Does P o rd hs K r := by
  unfold bIndexV at h
  split at h
  · rename_i cs k j len e hx hy hT
    split at h
    · rename_i hb
      simp only [Bool.and_eq_true] at hb
      have := kEq_of hb.1.1; subst this
      split at h
      · rename_i hz
        obtain ⟨i, v, h1, h2, h⟩ := pickC_some h
        refine ⟨_, h, .ev fun L _ => ?_⟩
        have k1 := evalB_er L hx
        have k2 := evalB_er L hy
        simp only [BV.er, h2, Nat.zero_add] at k1 k2
        have hi := (List.getElem?_eq_some_iff.1 h1).1
        exact OpOK.indexV ho hT hz hb.1.2 k1 k2 (by rw [Nat.eq_of_beq_eq_true hb.2]; exact hi) (by rw [erL_get, h1]; rfl)
      · simp at h
    · simp at h
  · simp at h
theorem bIndexBox_ok {T : TypeId} {x y : Operand} (ho : o.op = .indexAddr T x y) (h : bIndexBox P rd hs K T x y = some r) : Does P o rd hs K r := by
  unfold bIndexBox at h
  split at h
  · rename_i n k k' j len e hx hy hT
    split at h
    · rename_i cells es hc hz
      obtain ⟨i, v, h1, h2, h⟩ := pickC_some h
      refine ⟨_, h, .val (hp1 hc) fun L _ => ?_⟩
      have k1 := evalB_er L hx
      simp only [BV.er] at k1 ⊢
      rw [Nat.zero_add] at h2
      have hi := (List.getElem?_eq_some_iff.1 h1).1
      rw [List.length_replicate] at hi
      exact OpOK.indexArr ho hT hz k1 (evalB_n L hy) h2 hi (by rw [Nat.zero_add])
    · simp at h
  · simp at h
theorem intsB_er (L : Lens) : ∀ {cs : List BV} {l : List Int}, intsB cs = some l → erL L cs = l.map fun a => .p (.v (.int .i64 a))
  | [], l, h => by simp only [intsB, Option.some.injEq] at h; subst h; simp only [erL, List.map_nil]
  | c :: r, l, h => by
    cases c with
    | n k x =>
      simp only [intsB] at h
      split at h
      · rename_i hk
        have := kEq_of hk; subst this
        split at h
        · rename_i l' hl; cases h; simp only [erL, BV.er, List.map_cons, intsB_er L hl]
        · simp at h
      · simp at h
    | _ => simp [intsB] at h
theorem bNil_ok {op : BinOp} {T T' : TypeId} {x : Operand} {v : BV} (ho : o.op = .binOp op T x (.const (.slice none 0 0)) T') (hx : evalB rd x = some v) (h : bNil P K op T v = some r) : Does P o rd hs K r := by
  unfold bNil at h
  split at h
  · rename_i q e f t l hq he
    rcases nilC_some h with ⟨_, h⟩ | ⟨hl, h⟩
    · refine ⟨_, h, .ev fun L _ => ?_⟩
      have h1 := evalB_er L hx
      simp only [BV.er] at h1 ⊢
      exact OpOK.eqNilU ho hq (elemT_spec he) h1
    · refine ⟨_, h, .ev fun L _ => ?_⟩
      have h1 := evalB_er L hx
      simp only [BV.er] at h1 ⊢
      exact OpOK.eqNilN ho hq (elemT_spec he) h1 (by simpa using hl)
  · rename_i q e hq he
    refine ⟨_, h, .ev fun L _ => ?_⟩
    have h1 := evalB_er L hx
    simp only [BV.er] at h1 ⊢
    exact OpOK.eqNilU ho hq (elemT_spec he) h1
  · simp at h
theorem bBin2_ok {op : BinOp} {T T' : TypeId} {x y : Operand} (ho : o.op = .binOp op T x y T') (h : bBin2 P rd K op T x y = some r) : Does P o rd hs K r := by
  unfold bBin2 at h
  split at h
  · rename_i a b hx hy
    unfold bCmp at h
    split at h
    · rename_i p q hp hq
      split at h
      · rename_i hb
        simp only [Bool.and_eq_true] at hb
        have k1 : ∀ L, evalO (erT L rd) x = some (.agg (p.map fun a => .p (.v (.int .i64 a)))) := fun L => by have := evalB_er L hx; rw [this]; simp only [BV.er, intsB_er L hp]
        have k2 : ∀ L, evalO (erT L rd) y = some (.agg (q.map fun a => .p (.v (.int .i64 a)))) := fun L => by have := evalB_er L hy; rw [this]; simp only [BV.er, intsB_er L hq]
        split at h
        · exact ⟨_, h, .ev fun L _ => by simp only [BV.er]; exact OpOK.eqlInts ho hb.1 hb.2 (k1 L) (k2 L) rfl⟩
        · exact ⟨_, h, .ev fun L _ => by simp only [BV.er]; exact OpOK.neqInts ho hb.1 hb.2 (k1 L) (k2 L) rfl⟩
        · simp at h
      · simp at h
    · simp at h
  · rename_i v hx hy
    split at h
    · rename_i hn
      unfold nilO at hn
      split at hn
      · exact bNil_ok ho hx h
      · simp at hn
    · simp at h
  · exact bBin_ok ho h
end
end Go.Proofs.YtfhcigjkfelnfaaGreat.AM
/-
  The typed layer, part H: one operation, with what goes ahead of it and what follows. No project text.
-/
set_option linter.unusedVariables false
set_option linter.unusedSimpArgs false
namespace Go.Proofs.YtfhcigjkfelnfaaGreat.AM
open Go
variable {L L' : Lens} {ts ts' : TS} {hs hs' : HS}
section
variable {R : Type} (P : Program) (ty : TypeId → Option TC) (rd : TS) (hs : HS) (K : BEff → Option R)
def bMax (x y : Operand) : Option R := match evalB rd x, evalB rd y with
  | some (.n k a), some (.n k' b) => if kEq .i64 k && kEq .i64 k' then K (ev (.n .i64 (max a b))) else none
  | _, _ => none
def bMin (x y : Operand) : Option R := match evalB rd x, evalB rd y with
  | some (.n k a), some (.n k' b) => if kEq .i64 k && kEq .i64 k' then K (ev (.n .i64 (min a b))) else none
  | _, _ => none
def bCallB (d : Option Nat) (c : Call) : Option R := match c.callee, c.args.toList, c.argTypes.toList with
  | .builtin .len, [x], [T] => bLen P rd hs K T x
  | .builtin .append, [x, y], [T, T'] => if Nat.beq T T' then bAppend P ty rd hs K d T x y else none
  | .builtin .max, [x, y], _ => bMax rd K x y
  | .builtin .min, [x, y], _ => bMin rd K x y
  | .builtin .clear, [x], [T] => bClear P rd hs K T x
  | .builtin .copy, [x, y], [T, T'] => if Nat.beq T T' then bCopy P rd hs K T x y else none
  | _, _, _ => none
def growLit : List (Nat × Operand) → Bool
  | [(_, .const (.int .i64 (.ofNat 0)))] => true
  | _ => false
def bBuildOwn (d : Option Nat) (T : TypeId) (len : Nat) (parts : Array (Nat × Operand)) : Option R := match d, elemT P T with
  | some d, some e => match ty e, sizeT P e, zeroRow P e with
    | some t, some es, some zr => if Nat.beq es (tz t) && Nat.ble 1 es && Nat.beq zr.length es && Nat.ble (len * es) 16777216 then rowsC rd t parts.toList 0 len fun l => K ⟨[], .own (1000 + d) 0, [(1000 + d, .arr t l 0)], [1000 + d], []⟩ else none
    | _, _, _ => none
  | _, _ => none
def bop (o : Oper) : Option R := match o.op with
  | .move x => bVal rd K x
  | .assign x => bVal rd K x
  | .pick c x y => bPick rd K c x y
  | .alloc T => bAlloc P K o.dst T
  | .box _ x => bBox rd K o.dst x
  | .build T parts => bBuild P rd K T parts
  | .buildSlice T len parts => if growLit parts.toList then bBuildOwn P ty rd K o.dst T len parts else bBuildSlice P ty rd K T len parts
  | .load T x => bLoad P rd hs K T x
  | .store T x y => bStore P rd hs K o.dst T x y
  | .fieldAddr S x i => bFieldAddr P rd hs K S x i
  | .nilCheck x => bNilCheck rd hs K x
  | .binOp op T x y _ => bBin2 P rd K op T x y
  | .unOp op _ x => bUn rd K op x
  | .field T x i => bField P rd K T x i
  | .extract x i => bExtract rd K x i
  | .indexAddr T x y => match P.underlying T with
    | some (.array _ _) => bIndexBox P rd hs K T x y
    | _ => bIndexAddr P rd hs K T x y
  | .index T x y => match P.underlying T with
    | some (.array _ _) => bIndexV P rd K T x y
    | _ => bIndexS P rd K T x y
  | .convert S T x => bConv P rd K S T x
  | .slice T x lo hi mx => bSlice P rd hs K T x lo hi mx
  | .makeFunc fn first caps => bFunc rd K fn first caps
  | .makeMap T none => bMakeMap P K o.dst T
  | .lookup T x y false => bLookup P rd hs K T x y
  | .mapUpdate T x y z => bPutM P rd hs K o.dst T x y z
  | .call c => bCallB P ty rd hs K o.dst c
  | _ => none
end
section
variable {R : Type} {P : Program} {ty : TypeId → Option TC} {rd : TS} {K : BEff → Option R} {r : R} {o : Oper}
theorem srcB_some {t0 : TC} {y : BV} {K : List (TT t0) → Option R} (h : srcB t0 y K = some r) : ∃ f l, y = .ts f t0 l ∧ K l = some r := by
  unfold srcB at h
  split at h
  · split at h
    · rename_i he; subst he; exact ⟨_, _, rfl, h⟩
    · simp at h
  · simp at h
theorem bBuildOwn_ok {T : TypeId} {len : Nat} {parts : Array (Nat × Operand)} (ho : o.op = .buildSlice T len parts) (h : bBuildOwn P ty rd K o.dst T len parts = some r) : Does P o rd hs K r := by
  unfold bBuildOwn at h
  split at h
  · rename_i d e hd he
    split at h
    · rename_i t es zr h0 h1 h2
      split at h
      · rename_i hb
        simp only [Bool.and_eq_true] at hb
        obtain ⟨l, g1, g2, g3⟩ := rowsC_some h
        have hes := Nat.eq_of_beq_eq_true hb.1.1.1
        subst hes
        refine ⟨_, g1, .new (fun L m u => if m = 1000 + d then l.length else L m u) (fun L m u hm => if_neg hm) (fun L _ t' l2 u hl => by cases hl; exact if_pos rfl) fun L hL => ?_⟩
        obtain ⟨rows, k1, k2⟩ := g3 L [] (List.replicate len zr) rfl (by rw [List.length_replicate]; omega)
        simp only [List.nil_append] at k1
        simp only [BV.er, BO.er, if_true]
        have hl : rows.length = l.length := by have := k2.length; rwa [List.length_map] at this
        exact (OpOK.buildOwn ho he h1 hb.1.1.2 h2 (Nat.eq_of_beq_eq_true hb.1.2) hb.2 k1 hl).arrLe k2
      · simp at h
    · simp at h
  · simp at h
theorem bAppend_ok {T : TypeId} {x y : Operand} (ho : o.op = .call { callee := .builtin .append, args := #[x, y], argTypes := #[T, T] }) (h : bAppend P ty rd hs K o.dst T x y = some r) : Does P o rd hs K r := by
  have hlim : ∀ {a b bytes : Nat}, a + b ≤ 34359738368 → Nat.ble bytes 4096 = true → (a + b) * bytes ≤ 140737488355328 ∧ a + b ≤ 140737488355328 := fun {a b bytes} h1 h2 => by
    have := Nat.mul_le_mul h1 (Nat.le_of_ble_eq_true h2)
    exact ⟨by omega, by omega⟩
  unfold bAppend at h
  split at h
  · rename_i n u v e hx hy he
    split at h
    · rename_i t l q es bytes hc hz hby
      split at h
      · rename_i hb
        simp only [Bool.and_eq_true] at hb
        have := Nat.eq_of_beq_eq_true hb.1.1.1; subst this
        have hq := hb.2
        have hb := hb.1
        obtain ⟨f, l', hv, h0⟩ := srcB_some h
        subst hv; clear h
        obtain ⟨hle, h⟩ := lec_some h0
        refine ⟨_, h, hp1 hc, fun L hL => ?_⟩
        let L' : Lens := fun m u => if m = n ∧ u = q + 1 then (l ++ l').length else L m u
        have hn : L' n (q + 1) = (l ++ l').length := if_pos ⟨rfl, rfl⟩
        refine ⟨L', fun m u _ hm => if_neg (by simpa using hm), fun m t2 l2 u2 hm => ?_, ?_⟩
        · simp only [List.cons_append, List.nil_append, look] at hm
          split at hm
          · rename_i e; subst e; cases hm; exact hn
          · rename_i e; show (if m = n ∧ u2 = q + 1 then _ else L m u2) = _; rw [if_neg (fun h => e h.1.symm)]; exact hL m t2 l2 u2 hm
        · have h1 := evalB_er L hx
          have h2 := evalB_er L hy
          simp only [BV.er] at h1 h2 ⊢
          rw [hn]
          have hlm : (l.map (tcells t)).length + (l'.map (tcells t)).length ≤ 34359738368 := by simpa using hle
          exact OpOK.appendOwn ho rfl he hb.1.2 h1 (arr_len hL hc hq) h2 (by rw [← List.map_append]) (by rw [List.length_map]) (hlim hlm hb.2).1 (hlim hlm hb.2).2
      · simp at h
    · simp at h
  · rename_i v e hx hy he
    split at h
    · rename_i d t es bytes hd hty hz hby
      split at h
      · rename_i hb
        simp only [Bool.and_eq_true] at hb
        have := Nat.eq_of_beq_eq_true hb.1.1.1; subst this
        obtain ⟨f, l', hv, h0⟩ := srcB_some h
        subst hv; clear h
        obtain ⟨hle, h⟩ := lec_some h0
        refine ⟨_, h, .new (fun L m u => if m = 1000 + d then l'.length else L m u) (fun L m u hm => if_neg hm) (fun L _ t' l2 u hl => by cases hl; exact if_pos rfl) fun L hL => ?_⟩
        have h1 := evalB_er L hx
        have h2 := evalB_er L hy
        simp only [BV.er, BO.er, if_true] at h1 h2 ⊢
        have hlm : ([] : List (List PV)).length + (l'.map (tcells t)).length ≤ 34359738368 := by simpa using hle
        exact OpOK.appendNew ho rfl he hb.1.1.2 hb.2 h1 h2 (List.nil_append _) (by rw [List.length_map]) (.inl rfl) (hlim hlm hb.1.2).1 (hlim hlm hb.1.2).2
      · simp at h
    · simp at h
  · rename_i t l v e hx hy he
    split at h
    · rename_i d es bytes hd hz hby
      split at h
      · rename_i hb
        simp only [Bool.and_eq_true] at hb
        have := Nat.eq_of_beq_eq_true hb.1.1.1; subst this
        obtain ⟨f, l', hv, h0⟩ := srcB_some h
        subst hv; clear h
        split at h0
        · obtain ⟨hle, h⟩ := lec_some h0
          refine ⟨_, h, .new (fun L m u => if m = 1000 + d then l'.length else L m u) (fun L m u hm => if_neg hm) (fun L _ t' l2 u hl => by cases hl; exact if_pos rfl) fun L hL => ?_⟩
          have h1 := evalB_er L hx
          have h2 := evalB_er L hy
          simp only [BV.er, BO.er, if_true, List.map_nil] at h1 h2 ⊢
          have hlm : ([] : List (List PV)).length + (l'.map (tcells t)).length ≤ 34359738368 := by simpa using hle
          exact OpOK.appendNew ho rfl he hb.1.1.2 hb.2 h1 h2 (List.nil_append _) (by rw [List.length_map]) (.inl rfl) (hlim hlm hb.1.2).1 (hlim hlm hb.1.2).2
        · rename_i y0 q0
          split at h0
          · simp at h0
          · rename_i z q
            obtain ⟨hle, h⟩ := lec_some h0
            refine ⟨_, h, .new (fun L m u => if m = 1000 + d then (y0 :: q0 ++ z :: q).length else L m u) (fun L m u hm => if_neg hm) (fun L _ t' l2 u hl => by cases hl; exact if_pos rfl) fun L hL => ?_⟩
            have h1 := evalB_er L hx
            have h2 := evalB_er L hy
            simp only [BV.er, BO.er, if_true] at h1 h2 ⊢
            have hlm : ((y0 :: q0).map (tcells t)).length + ((z :: q).map (tcells t)).length ≤ 34359738368 := by simpa using hle
            exact OpOK.appendNew ho rfl he hb.1.1.2 hb.2 h1 h2 (by rw [← List.map_append]) (by rw [List.length_map]) (.inr ⟨by simp, rfl⟩) (hlim hlm hb.1.2).1 (hlim hlm hb.1.2).2
      · simp at h
    · simp at h
  · simp at h
theorem bConv_ok {S T : TypeId} {x : Operand} (ho : o.op = .convert S T x) (h : bConv P rd K S T x = some r) : Does P o rd hs K r := by
  unfold bConv at h
  split at h
  · rename_i k a k' hx hT
    split at h
    · rename_i hS
      refine ⟨_, h, .ev fun L _ => ?_⟩
      simp only [BV.er]; exact OpOK.convI ho hS hT (evalB_n L hx) rfl
    · simp at h
  · simp at h
theorem bIndexS_ok {T : TypeId} {x y : Operand} (ho : o.op = .index T x y) (h : bIndexS P rd K T x y = some r) : Does P o rd hs K r := by
  unfold bIndexS at h
  split at h
  · rename_i t k j hx hy hT
    obtain ⟨i, hj, h⟩ := natc_some h
    obtain ⟨hlt, h⟩ := ltc_some h
    refine ⟨_, h, .ev fun L _ => ?_⟩
    simp only [BV.er]; exact OpOK.indexS ho hT (evalB_s L hx) (evalB_n L hy) hj hlt
  · simp at h
theorem bMax_ok {x y : Operand} {ats : Array TypeId} (ho : o.op = .call { callee := .builtin .max, args := #[x, y], argTypes := ats }) (h : bMax rd K x y = some r) : Does P o rd hs K r := by
  unfold bMax at h
  split at h
  · rename_i k a k' b hx hy
    split at h
    case isFalse => simp at h
    rename_i hk
    simp only [Bool.and_eq_true] at hk
    have h1 := kEq_of hk.1; subst h1
    have h2 := kEq_of hk.2; subst h2
    refine ⟨_, h, .ev fun L _ => ?_⟩
    simp only [BV.er]; exact OpOK.maxI ho (evalB_n L hx) (evalB_n L hy) rfl
  · simp at h
theorem bMin_ok {x y : Operand} {ats : Array TypeId} (ho : o.op = .call { callee := .builtin .min, args := #[x, y], argTypes := ats }) (h : bMin rd K x y = some r) : Does P o rd hs K r := by
  unfold bMin at h
  split at h
  · rename_i k a k' b hx hy
    split at h
    case isFalse => simp at h
    rename_i hk
    simp only [Bool.and_eq_true] at hk
    have h1 := kEq_of hk.1; subst h1
    have h2 := kEq_of hk.2; subst h2
    refine ⟨_, h, .ev fun L _ => ?_⟩
    simp only [BV.er]; exact OpOK.minI ho (evalB_n L hx) (evalB_n L hy) rfl
  · simp at h
theorem bCallB_ok {c : Call} (ho : o.op = .call c) (h : bCallB P ty rd hs K o.dst c = some r) : Does P o rd hs K r := by
  obtain ⟨callee, args, ats⟩ := c
  obtain ⟨args⟩ := args
  obtain ⟨ats⟩ := ats
  unfold bCallB at h
  split at h
  · rename_i x T h1 h2 h3
    simp only at h1 h2 h3
    subst h1; subst h2; subst h3
    exact bLen_ok ho rfl h
  · rename_i x y T T' h1 h2 h3
    simp only at h1 h2 h3
    subst h1; subst h2; subst h3
    split at h
    · rename_i hT
      have := Nat.eq_of_beq_eq_true hT; subst this
      exact bAppend_ok ho h
    · simp at h
  · rename_i x y h1 h2
    simp only at h1 h2
    subst h1; subst h2
    exact bMax_ok ho h
  · rename_i x y h1 h2
    simp only at h1 h2
    subst h1; subst h2
    exact bMin_ok ho h
  · rename_i x T h1 h2 h3
    simp only at h1 h2 h3
    subst h1; subst h2; subst h3
    exact bClear_ok ho rfl h
  · rename_i x y T T' h1 h2 h3
    simp only at h1 h2 h3
    subst h1; subst h2; subst h3
    split at h
    · rename_i hT
      have := Nat.eq_of_beq_eq_true hT; subst this
      exact bCopy_ok ho h
    · simp at h
  · simp at h
theorem bop_ok (h : bop P ty rd hs K o = some r) : Does P o rd hs K r := by
  unfold bop at h
  split at h
  · rename_i ho; exact bVal_ok (.inl ho) h
  · rename_i ho; exact bVal_ok (.inr ho) h
  · rename_i ho; exact bPick_ok ho h
  · rename_i ho; exact bAlloc_ok ho h
  · rename_i ho; exact bBox_ok ho h
  · rename_i ho; exact bBuild_ok ho h
  · rename_i ho
    split at h
    · exact bBuildOwn_ok ho h
    · exact bBuildSlice_ok ho h
  · rename_i ho; exact bLoad_ok ho h
  · rename_i ho; exact bStore_ok ho h
  · rename_i ho; exact bFieldAddr_ok ho h
  · rename_i ho; exact bNilCheck_ok ho h
  · rename_i ho; exact bBin2_ok ho h
  · rename_i ho; exact bUn_ok ho h
  · rename_i ho; exact bField_ok ho h
  · rename_i ho; exact bExtract_ok ho h
  · rename_i ho
    split at h
    · exact bIndexBox_ok ho h
    · exact bIndexAddr_ok ho h
  · rename_i ho
    split at h
    · exact bIndexV_ok ho h
    · exact bIndexS_ok ho h
  · rename_i ho; exact bConv_ok ho h
  · rename_i ho; exact bSlice_ok ho h
  · rename_i ho; exact bFunc_ok ho h
  · rename_i ho; exact bMakeMap_ok ho h
  · rename_i ho; exact bLookup_ok ho h
  · rename_i ho; exact bPutM_ok ho h
  · rename_i ho; exact bCallB_ok ho h
  · simp at h
end
end Go.Proofs.YtfhcigjkfelnfaaGreat.AM
/-
  The typed layer, part I: the state behind an operation. No project text.
-/
set_option linter.unusedVariables false
set_option linter.unusedSimpArgs false
namespace Go.Proofs.YtfhcigjkfelnfaaGreat.AM
open Go
variable {L L' : Lens} {ts ts' : TS} {hs hs' : HS}
section
variable {R : Type}
def newBs (nw : List Name) (upd : HS) (ts : TS) (hs : HS) : Bool := nw.all fun n => (look n hs).isNone && freeS n ts hs && (keys upd).contains n
def novBs (nv : List (Name × Nat)) (ts : TS) (hs : HS) : Bool := nv.all fun p => novS p.1 p.2 ts hs
def putB (d : Option Nat) (v : BV) (ts : TS) : TS := match d with
  | some d => (d, v) :: ts
  | none => ts
def goE1 (nn : Nat) (d : Option Nat) (ts : TS) (hs : HS) (K : BEff → TS → HS → Option R) (e : BEff) : Option R :=
  if newBs e.nw e.upd ts hs && dstOK nn d && novBs e.nv ts hs then K e (putB d e.v ts) (e.upd ++ hs) else none
def goE (sp : Bool) (nn : Nat) (d : Option Nat) (ts : TS) (hs : HS) (K : BEff → TS → HS → Option R) (e : BEff) : Option R := match e with
  | ⟨hp, .b q, upd, nw, nv⟩ => match sp with
    | true => cnd q (goE1 nn d ts hs K ⟨hp, .b true, upd, nw, nv⟩) (goE1 nn d ts hs K ⟨hp, .b false, upd, nw, nv⟩)
    | false => goE1 nn d ts hs K ⟨hp, .b q, upd, nw, nv⟩
  | e => goE1 nn d ts hs K e
variable {r : R} {P : Program} {o : Oper} {rd : TS}
theorem holds_er {e : BEff} {L' : Lens} (hrd : ∀ t v, (t, v) ∈ rd → look t ts = some v) (hhp : ∀ n ob, (n, ob) ∈ e.hp → look n hs = some ob) (hnw : newBs e.nw e.upd ts hs = true) :
    (BS L ts hs).holds ⟨erT L rd, erH L e.hp, e.v.er L', erH L' e.upd, e.nw⟩ := by
  refine ⟨fun t x hx => ?_, fun n ob hn => ?_, fun n hn => ?_⟩
  · simp only [erT, List.mem_map] at hx
    obtain ⟨⟨t', v⟩, hm, he⟩ := hx
    cases he
    rw [BS_slot, hrd _ v hm]; rfl
  · simp only [erH, List.mem_map] at hn
    obtain ⟨⟨t', v⟩, hm, he⟩ := hn
    cases he
    rw [BS_heap, hhp _ v hm]; rfl
  · have := List.all_eq_true.1 hnw n hn
    simp only [Bool.and_eq_true, Option.isNone_iff_eq_none] at this
    refine ⟨by rw [BS_heap, this.1.1]; rfl, free_of ?_⟩
    rw [freeS_er]; exact this.1.2
structure Step (P : Program) (o : Oper) (rd : TS) (L : Lens) (ts : TS) (hs : HS) (e : BEff) (L' : Lens) : Prop where
  rds : ∀ t v, (t, v) ∈ rd → look t ts = some v
  hps : ∀ n ob, (n, ob) ∈ e.hp → look n hs = some ob
  new : newBs e.nw e.upd ts hs = true
  inv : Inv L' (e.upd ++ hs)
  ets : erT L ts = erT L' ts
  ehs : erH L hs = erH L' hs
  ok : OpOK P o ⟨erT L rd, erH L e.hp, e.v.er L', erH L' e.upd, e.nw⟩
theorem goE1_some {nn : Nat} {K : BEff → TS → HS → Option R} {e : BEff} (hg : Good P o rd hs e) (hrd : ∀ t v, (t, v) ∈ rd → look t ts = some v) (h : goE1 nn o.dst ts hs K e = some r) (hi : Inv L hs) :
    ∃ L', Step P o rd L ts hs e L' ∧ dstOK nn o.dst = true ∧ K e (putB o.dst e.v ts) (e.upd ++ hs) = some r := by
  unfold goE1 at h
  split at h
  · rename_i hb
    simp only [Bool.and_eq_true] at hb
    obtain ⟨hhp, hg⟩ := hg
    obtain ⟨L', hL', hi', hop⟩ := hg L hi
    obtain ⟨e1, e2⟩ := erS_congr (L := L) (L' := L') (nw := e.nw) (nv := e.nv) (ts := ts) (hs := hs) (fun n hn => by
      have := List.all_eq_true.1 hb.1.1 n hn
      simp only [Bool.and_eq_true] at this
      exact this.1.2) (fun p hp => List.all_eq_true.1 hb.2 p hp) hL'
    exact ⟨L', ⟨hrd, hhp, hb.1.1, hi', e1, e2, hop⟩, hb.1.2, h⟩
  · simp at h
theorem goE_some {sp : Bool} {nn : Nat} {K : BEff → TS → HS → Option R} {e : BEff} (hg : Good P o rd hs e) (hrd : ∀ t v, (t, v) ∈ rd → look t ts = some v) (h : goE sp nn o.dst ts hs K e = some r) (hi : Inv L hs) :
    ∃ L', Step P o rd L ts hs e L' ∧ dstOK nn o.dst = true ∧ K e (putB o.dst e.v ts) (e.upd ++ hs) = some r := by
  unfold goE at h
  split at h
  · split at h
    · rcases cnd_some h with ⟨rfl, h⟩ | ⟨rfl, h⟩
      · exact goE1_some hg hrd h hi
      · exact goE1_some hg hrd h hi
    · exact goE1_some hg hrd h hi
  · exact goE1_some hg hrd h hi
theorem BS_run {d : Option Nat} {e : BEff} {L0 : Lens} (h1 : erT L ts = erT L' ts) (h2 : erH L hs = erH L' hs) : (BS L ts hs).run d ⟨erT L0 rd, erH L0 e.hp, e.v.er L', erH L' e.upd, e.nw⟩ = BS L' (putB d e.v ts) (e.upd ++ hs) := by
  unfold BS
  rw [mk_run, h1, h2, erH_append]
  cases d <;> rfl
theorem Step.go {e : BEff} {nn : Nat} {Γ : Ctx} {ρ : Name → Loc} {M : Nat → Prop} {a : Act} {w : World} {KK : Act → World → Prop} {Q : Exit → Act → World → Prop}
    (hst : Step P o rd L ts hs e L') (hd : dstOK nn o.dst = true) (hn : Γ.n = nn) (hs0 : Sim Γ ρ M (BS L ts hs) a w)
    (hK : ∀ ρ' M' a' w', Sim Γ ρ' M' (BS L' (putB o.dst e.v ts) (e.upd ++ hs)) a' w' → KK a' w') : o.wp P a w KK Q := by
  refine hst.ok Γ ρ M _ a w KK Q hs0 (holds_er hst.rds hst.hps hst.new) (fun d hd' => ?_) (fun ρ' M' a' w' hs' => hK ρ' M' a' w' ?_)
  · rw [hd'] at hd; simp only [dstOK] at hd; rw [hn]; exact Nat.le_of_ble_eq_true hd
  · rw [BS_run hst.ets hst.ehs] at hs'; exact hs'
end
end Go.Proofs.YtfhcigjkfelnfaaGreat.AM
/-
  The typed layer, part J: calls of functions, regions. No project text.
-/
set_option linter.unusedVariables false
set_option linter.unusedSimpArgs false
namespace Go.Proofs.YtfhcigjkfelnfaaGreat.AM
open Go
variable {L L' : Lens} {ts ts' : TS} {hs hs' : HS}
abbrev Env := Option Nat → FuncId → List BV → Option Sig
def EnvOK (P : Program) (E : Env) : Prop := ∀ d k vs g, E d k vs = some g → FnOK P k g
def asView (hs : HS) : BV → BV
  | .own m u => match look m hs with
    | some (.arr _ l q) => if Nat.beq u q then .view m u 0 l.length else .own m u
    | _ => .own m u
  | x => x
def viewS (hs : HS) : SSh → BV → BV
  | .one (.view _), v => asView hs v
  | _, v => v
def viewL (hs : HS) : List SSh → List BV → List BV
  | s :: r, v :: vs => viewS hs s v :: viewL hs r vs
  | _, vs => vs
def wantsView (t : Nat) (s : List (Nat × SSh)) : Bool := match look t s with
  | some (.one (.view _)) => true
  | _ => false
def viewT (hs : HS) (s : List (Nat × SSh)) (ts : TS) : TS := ts.map fun p => (p.1, match wantsView p.1 s with | true => asView hs p.2 | false => p.2)
theorem look_mapK {g : Nat → BV → BV} (k : Nat) : ∀ ts : TS, look k (ts.map fun p => (p.1, g p.1 p.2)) = (look k ts).map (g k)
  | [] => rfl
  | (j, x) :: r => by
    simp only [List.map_cons, look]
    split
    · rename_i e; subst e; rfl
    · exact look_mapK k r
theorem asView_le {x : BV} (hi : Inv L hs) : AVle (x.er L) ((asView hs x).er L) := by
  cases x with
  | own m u =>
    simp only [asView]
    split
    · rename_i t l q hl
      split
      · rename_i e
        have := Nat.eq_of_beq_eq_true e; subst this
        simp only [BV.er, hi m t l u hl]
        exact .view m l.length
      · exact .refl _
    · exact .refl _
  | _ => exact .refl _
theorem viewS_le {s : SSh} {x : BV} (hi : Inv L hs) : AVle (x.er L) ((viewS hs s x).er L) := by
  unfold viewS; split
  · exact asView_le hi
  · exact .refl _
theorem viewL_le (hi : Inv L hs) : ∀ {ss : List SSh} {vs : List BV}, AVleL (erL L vs) (erL L (viewL hs ss vs))
  | [], vs => by simp only [viewL]; exact AVleL.refl _
  | s :: r, [] => by simp only [viewL]; exact AVleL.refl _
  | s :: r, v :: vs => by simp only [viewL, erL]; exact .cons (viewS_le hi) (viewL_le hi)
theorem viewT_le (hi : Inv L hs) {s : List (Nat × SSh)} {ts : TS} {t : Nat} {y : BV} (h : look t (viewT hs s ts) = some y) : ∃ x, look t ts = some x ∧ AVle (x.er L) (y.er L) := by
  unfold viewT at h
  rw [look_mapK (g := fun t x => match wantsView t s with | true => asView hs x | false => x)] at h
  cases hx : look t ts with
  | none => rw [hx] at h; simp at h
  | some x =>
    rw [hx] at h
    simp only [Option.map_some, Option.some.injEq] at h
    refine ⟨x, rfl, ?_⟩
    rw [← h]
    split
    · exact asView_le hi
    · exact .refl _
section
variable {R : Type}
def callK (P : Program) (E : Env) (sp : Bool) (nn : Nat) (dst : Option Nat) (f : FuncId) (vs : List BV) (ts : TS) (hs : HS) (K : BEff → TS → HS → Option R) : Option R :=
  match dst with
  | some d => if callable P f then match E (some d) f vs with
    | some g => SL.get g.args (viewL hs g.args vs) [] fun σ x => OL.get g.pre hs σ fun σ y => g.F R x y fun a b =>
        if callChk g (σ ++ freshOf d g) d hs y a b then goE sp nn dst ts hs K (callEff g (σ ++ freshOf d g) d hs y a b) else none
    | none => none
    else none
  | none => none
variable {r : R} {P : Program} {o : Oper} {rd : TS} {E : Env}
theorem look_put {u : Nat} {l : List (Name × OSh)} {y : OL l} {n : Name} : n ∈ keys l → ∃ b, look n (OL.put u l y) = some b := by
  induction l with
  | nil => intro h; simp [keys] at h
  | cons p l ih =>
    intro h
    simp only [keys, List.map_cons, List.mem_cons] at h
    simp only [OL.put, look]
    split
    · exact ⟨_, rfl⟩
    · rename_i hne
      rcases h with h | h
      · exact absurd h.symm hne
      · exact ih h
theorem keys_put {u : Nat} {l : List (Name × OSh)} {y : OL l} : keys (OL.put u l y) = keys l := by
  induction l with
  | nil => rfl
  | cons p l ih => simp only [OL.put, keys, List.map_cons] at ih ⊢; rw [ih]
theorem arrs_of_put {u v : Nat} {l : List (Name × OSh)} {y : OL l} {n : Name} {t : TC} {x : List (TT t)} : look n (OL.put u l y) = some (.arr t x v) → n ∈ arrsOf l ∧ v = u ∨ n ∈ samesOf l ∧ v = 0 := by
  induction l with
  | nil => intro h; simp [OL.put, look] at h
  | cons p l ih =>
    intro h
    obtain ⟨k, o⟩ := p
    simp only [OL.put, look] at h
    split at h
    · rename_i e
      cases o with
      | box l => simp [OSh.put] at h
      | boxst t => simp [OSh.put] at h
      | sm => simp [OSh.put] at h
      | arr t => subst e; simp only [OSh.put, Option.some.injEq] at h; cases h; exact .inl ⟨by simp [arrsOf], rfl⟩
      | arrs t => subst e; simp only [OSh.put, Option.some.injEq] at h; cases h; exact .inr ⟨by simp [samesOf], rfl⟩
    · rcases ih h with ih | ih
      · refine .inl ⟨?_, ih.2⟩
        cases o <;> simp only [arrsOf] <;> first | exact ih.1 | exact List.mem_cons_of_mem _ ih.1
      · refine .inr ⟨?_, ih.2⟩
        cases o <;> simp only [samesOf] <;> first | exact ih.1 | exact List.mem_cons_of_mem _ ih.1
theorem arrs_keys : ∀ {l : List (Name × OSh)} {n : Name}, n ∈ arrsOf l → n ∈ keys l
  | [], n, h => by simp [arrsOf] at h
  | (k, .arr t) :: r, n, h => by
    simp only [arrsOf, List.mem_cons] at h
    simp only [keys, List.map_cons, List.mem_cons]
    exact h.imp id (fun h => arrs_keys h)
  | (k, .arrs t) :: r, n, h => by simp only [arrsOf] at h; simp only [keys, List.map_cons, List.mem_cons]; exact .inr (arrs_keys h)
  | (k, .box t) :: r, n, h => by simp only [arrsOf] at h; simp only [keys, List.map_cons, List.mem_cons]; exact .inr (arrs_keys h)
  | (k, .boxst t) :: r, n, h => by simp only [arrsOf] at h; simp only [keys, List.map_cons, List.mem_cons]; exact .inr (arrs_keys h)
  | (k, .sm) :: r, n, h => by simp only [arrsOf] at h; simp only [keys, List.map_cons, List.mem_cons]; exact .inr (arrs_keys h)
theorem look_filter {f : Name → Bool} {n : Name} : ∀ {h : HS}, look n (h.filter fun p => f p.1) = if f n then look n h else none
  | [] => by simp [look]
  | (k, o) :: q => by
    have ih := look_filter (f := f) (n := n) (h := q)
    by_cases hk : f k = true
    · rw [List.filter_cons_of_pos (by simpa using hk)]
      simp only [look]
      by_cases e : k = n
      · subst e; simp [hk]
      · simp only [e, if_false, ih]
    · rw [List.filter_cons_of_neg (by simpa using hk), ih]
      simp only [look]
      by_cases e : k = n
      · subst e; simp [hk]
      · simp only [e, if_false]
theorem hpOf_mem {rr : Name → Name} {m : Name} {ob : BO} : ∀ {ks : List Name}, (m, ob) ∈ hpOf rr hs ks → look m hs = some ob
  | [], h => by simp [hpOf] at h
  | k :: ks, h => by
    simp only [hpOf] at h
    split at h
    · rename_i hk
      rcases List.mem_cons.1 h with h | h
      · cases h; exact hk
      · exact hpOf_mem h
    · exact hpOf_mem h
theorem hpOf_key {rr : Name → Name} {m : Name} {ob : BO} : ∀ {ks : List Name}, (m, ob) ∈ hpOf rr hs ks → ∃ n, n ∈ ks ∧ m = rr n
  | [], h => by simp [hpOf] at h
  | k :: ks, h => by
    simp only [hpOf] at h
    split at h
    · rcases List.mem_cons.1 h with h | h
      · cases h; exact ⟨k, by simp, rfl⟩
      · obtain ⟨n, h1, h2⟩ := hpOf_key h; exact ⟨n, List.mem_cons_of_mem _ h1, h2⟩
    · obtain ⟨n, h1, h2⟩ := hpOf_key h; exact ⟨n, List.mem_cons_of_mem _ h1, h2⟩
theorem hpOf_look {rr : Name → Name} (hrr : ∀ a b, rr a = rr b → a = b) {n : Name} {ob : BO} (h : look (rr n) hs = some ob) : ∀ {ks : List Name}, n ∈ ks → look (rr n) (hpOf rr hs ks) = some ob
  | [], hn => by simp at hn
  | k :: ks, hn => by
    simp only [hpOf]
    by_cases e : k = n
    · subst e; rw [h]; simp only [look, if_true]
    · have hn' : n ∈ ks := by rcases List.mem_cons.1 hn with h | h; · exact absurd h.symm e
                              · exact h
      split
      · simp only [look]; rw [if_neg (fun h => e (hrr _ _ h))]; exact hpOf_look hrr h hn'
      · exact hpOf_look hrr h hn'
theorem callK_some {sp : Bool} {nn : Nat} {K : BEff → TS → HS → Option R} {f : FuncId} {vs : List BV}
    (hE : EnvOK P E) (hop : callable P f = true → ∀ (L : Lens) (pre h : List (Name × AO)) (v : AV) (nw : List Name), SpecIs P f (erL L vs) pre v h → callOK pre h nw v = true → OpOK P o ⟨erT L rd, pre, v, h, nw⟩) (hrd : ∀ t v, (t, v) ∈ rd → look t ts = some v)
    (h : callK P E sp nn o.dst f vs ts hs K = some r) (hi : Inv L hs) :
    ∃ e L', Step P o rd L ts hs e L' ∧ dstOK nn o.dst = true ∧ K e (putB o.dst e.v ts) (e.upd ++ hs) = some r := by
  unfold callK at h
  split at h
  case h_2 => simp at h
  rename_i d hd
  split at h
  case isFalse => simp at h
  rename_i hcall
  split at h
  case h_2 => simp at h
  rename_i g hEf
  obtain ⟨σ1, x, h, hs1, g1⟩ := SL.get_some h
  obtain ⟨σ2, y, h, hs2, g2⟩ := OL.get_some h
  obtain ⟨va, vb, hF, h⟩ := (hE (some d) f vs g hEf).nat R x y _ r h
  split at h
  case isFalse => simp at h
  rename_i hchk
  unfold callChk at hchk
  simp only [Bool.and_eq_true] at hchk
  obtain ⟨⟨⟨⟨hm, hcb⟩, hu1⟩, hu2⟩, hkeep⟩ := hchk
  have hfit := renOK_fit hm
  have hinj := renOK_inj hm
  generalize hrr : renOf (σ2 ++ freshOf d g) = rr at hinj hfit h
  generalize hdd : verOf (σ2 ++ freshOf d g) = δ at hfit h
  have hfit2 : Fit rr δ σ2 := hfit.mono fun p hp => List.mem_append_left _ hp
  have hfit1 : Fit rr δ σ1 := hfit2.mono hs2
  have hwant : ∀ n b, look n (OL.put 0 g.pre y) = some b → ∃ a, look (rr n) hs = some a ∧ ((∃ cs ds, a = .box cs ∧ b = .box ds) ∨ (∃ t l, a = .arr t l (δ n) ∧ b = .arr t l 0) ∨ ∃ es, a = .sm es ∧ b = .sm es) ∧ ∀ L, OLe rr δ (δ n) L a b := fun n b hb => by
    obtain ⟨v, hv, hle⟩ := g2 rr δ (fun _ _ => 0) hfit2 n b hb
    refine ⟨v, hv, ?_, fun L => ?_⟩
    · rcases hle with ⟨cs, ds, h1, h2, _⟩ | h2
      · exact .inl ⟨cs, ds, h1, h2⟩
      · exact .inr h2
    · obtain ⟨v', hv', hle'⟩ := g2 rr δ L hfit2 n b hb
      rw [hv] at hv'; cases hv'; exact hle'
  have heff : callEff g (σ2 ++ freshOf d g) d hs y va vb = ⟨hpOf rr hs (keys g.pre), (resB (SL.put 1 g.res va)).ren rr δ, renHB rr δ (g.posts y vb), (freshOf d g).map (·.2.1),
    ((arrsOf g.post).filter fun n => (keys g.pre).contains n).map fun n => (rr n, δ n + 1)⟩ := by unfold callEff; rw [hrr, hdd]
  rw [heff] at hcb h
  suffices hgood : Good P o rd hs ⟨hpOf rr hs (keys g.pre), (resB (SL.put 1 g.res va)).ren rr δ, renHB rr δ (g.posts y vb), (freshOf d g).map (·.2.1),
    ((arrsOf g.post).filter fun n => (keys g.pre).contains n).map fun n => (rr n, δ n + 1)⟩ by
    obtain ⟨L', hst, hdd', hK⟩ := goE_some (rd := rd) (L := L) hgood hrd h hi
    exact ⟨_, L', hst, hdd', hK⟩
  refine ⟨fun m ob hm' => hpOf_mem hm', fun L0 hL0 => ?_⟩
  · have hinvc : Inv (lensOf L0 rr δ) (OL.put 0 g.pre y) := fun n t l u hnl => by
      obtain ⟨a, ha, hk, _⟩ := hwant n _ hnl
      rcases hk with ⟨cs, ds, _, h2⟩ | ⟨t', l', rfl, h2⟩ | ⟨es, _, h2⟩
      · cases h2
      · cases h2; exact hL0 _ t l _ ha
      · cases h2
    obtain ⟨L1, hk1, hinv1, hspec⟩ := (hE (some d) f vs g hEf).spec x y va vb hF _ hinvc
    classical
    let L' : Lens := fun m v => if h : ∃ n, n ∈ arrsOf g.post ∧ m = rr n ∧ v = δ n + 1 then L1 (Classical.choose h) 1 else L0 m v
    have hA1 : ∀ n, n ∈ arrsOf g.post → L' (rr n) (δ n + 1) = L1 n 1 := fun n hn => by
      have hex : ∃ k, k ∈ arrsOf g.post ∧ rr n = rr k ∧ δ n + 1 = δ k + 1 := ⟨n, hn, rfl, rfl⟩
      show (if h : ∃ k, k ∈ arrsOf g.post ∧ rr n = rr k ∧ δ n + 1 = δ k + 1 then L1 (Classical.choose h) 1 else _) = L1 n 1
      rw [dif_pos hex, ← hinj _ _ (Classical.choose_spec hex).2.1]
    have hA2 : ∀ m v, ¬ (∃ n, n ∈ arrsOf g.post ∧ m = rr n ∧ v = δ n + 1) → L' m v = L0 m v := fun m v h => dif_neg h
    have hkp : ∀ n, n ∈ g.keep ∨ n ∈ samesOf g.post → L' (rr n) (δ n + 0) = L1 n 0 := fun n hn => by
      rw [hA2, hk1 n hn]; · rfl
      rintro ⟨n', hn', he, he2⟩
      have := hinj _ _ he; subst this
      exact absurd he2 (by omega)
    have hLL : ∀ n u, useOK g n u = true → L' (rr n) (δ n + u) = L1 n u := fun n u hn => by
      unfold useOK at hn
      split at hn
      · exact hkp n (by simp only [Bool.or_eq_true] at hn; exact hn.imp isIn_iff.1 isIn_iff.1)
      · exact hA1 n (isIn_iff.1 hn)
      · simp at hn
    refine ⟨L', fun m v h1 h2 => hA2 m v ?_, fun m t l v hml => ?_, ?_⟩
    · rintro ⟨n, hn, rfl, rfl⟩
      by_cases hp : n ∈ keys g.pre
      · exact h2 (List.mem_map.2 ⟨n, List.mem_filter.2 ⟨hn, by simpa using hp⟩, rfl⟩)
      · have hmem : (n, (1000000 + 1000 * d + n, 0)) ∈ freshOf d g := List.mem_map.2 ⟨n, List.mem_filter.2 ⟨arrs_keys hn, by simpa using hp⟩, rfl⟩
        have := (hfit n _ (List.mem_append_right _ hmem)).1
        exact h1 (List.mem_map.2 ⟨_, hmem, this.symm⟩)
    · rw [look_append] at hml
      cases hu : look m (renHB rr δ (g.posts y vb)) with
      | some ob =>
        rw [hu] at hml; cases hml
        obtain ⟨n, rfl⟩ := look_renHB_inv hu
        rw [look_renHB hinj] at hu
        cases hb : look n (g.posts y vb) with
        | none => rw [hb] at hu; simp at hu
        | some b =>
          rw [hb] at hu
          simp only [Option.map_some, Option.some.injEq] at hu
          cases b with
          | box cs => simp [BO.ren] at hu
          | sm es => simp [BO.ren] at hu
          | arr t' l' v' =>
            simp only [BO.ren] at hu; cases hu
            rw [hLL n v' ?_]
            · exact hinv1 n t l v' hb
            · unfold Sig.posts at hb
              rw [look_append] at hb
              cases hb1 : look n (OL.put 1 g.post vb) with
              | some b1 =>
                rw [hb1] at hb; cases hb
                rcases arrs_of_put hb1 with ⟨k1, rfl⟩ | ⟨k1, rfl⟩
                · exact isIn_iff.2 k1
                · simp only [useOK, isIn_iff.2 k1, Bool.or_true]
              | none =>
                rw [hb1] at hb
                simp only [look_filter (f := fun n => g.keep.contains n)] at hb
                split at hb
                · rename_i hc
                  have hv0 : v' = 0 := (arrs_of_put hb).elim (·.2) (·.2)
                  subst hv0
                  simp only [useOK, isIn_iff.2 (show n ∈ g.keep by simpa using hc), Bool.true_or]
                · simp at hb
      | none =>
        rw [hu] at hml
        rw [hA2 m v ?_]
        · exact hL0 m t l v hml
        · rintro ⟨n, hn, rfl, _⟩
          rw [look_renHB hinj] at hu
          obtain ⟨b, hb⟩ := look_put (u := 1) (y := vb) (arrs_keys hn)
          have : look n (g.posts y vb) = some b := by unfold Sig.posts; rw [look_append, hb]
          rw [this] at hu; simp at hu
    · have h1 := Spec.ren hinj hspec
      rw [ren_er hLL _ hu1, renH_er hLL _ hu2] at h1
      have h2 : SpecIs P f (renL rr (erL (lensOf L0 rr δ) (SL.put 0 g.args x))) (erH L0 (hpOf rr hs (keys g.pre))) (((resB (SL.put 1 g.res va)).ren rr δ).er L') (erH L' (renHB rr δ (g.posts y vb))) := by
        refine Spec.preLe h1 (fun m ob hm => ?_) (fun m ob hm => ?_)
        · obtain ⟨n, rfl⟩ := look_renH_inv hm
          rw [look_renH hinj, look_erH] at hm
          cases hb : look n (OL.put 0 g.pre y) with
          | none => rw [hb] at hm; simp at hm
          | some b =>
            rw [hb] at hm
            simp only [Option.map_some, Option.some.injEq] at hm
            obtain ⟨a, ha, _, hle⟩ := hwant n b hb
            have hkn : n ∈ keys g.pre := by rw [← keys_put (u := 0) (y := y)]; exact keys_of_look (by rw [hb]; simp)
            refine ⟨a.er L0, by rw [look_erH, hpOf_look hinj ha hkn]; rfl, ?_⟩
            rcases hle L0 with ⟨cs, ds, rfl, rfl, h3⟩ | ⟨t, l, rfl, rfl⟩ | ⟨es, rfl, rfl⟩
            · exact .inr ⟨_, _, rfl, by rw [← hm]; simp only [BO.er, AO.ren], h3⟩
            · exact .inl (by rw [← hm]; simp only [BO.er, AO.ren])
            · exact .inl (by rw [← hm]; simp only [BO.er, AO.ren])
        · rw [look_erH] at hm
          cases hb : look m (hpOf rr hs (keys g.pre)) with
          | none => rw [hb] at hm; simp at hm
          | some b =>
            obtain ⟨n, hn, rfl⟩ := hpOf_key (look_mem hb)
            obtain ⟨b', hb'⟩ := look_put (u := 0) (y := y) hn
            exact ⟨_, by rw [look_renH hinj, look_erH, hb']; rfl⟩
      exact hop hcall L0 _ _ _ _ (Spec.argsLe (Spec.argsLe h2 (g1 rr δ L0 hfit1)) (viewL_le hL0)) (callB_er hcb)
end
end Go.Proofs.YtfhcigjkfelnfaaGreat.AM
/-
  The typed layer, part K: regions. No project text.
-/
set_option linter.unusedVariables false
set_option linter.unusedSimpArgs false
namespace Go.Proofs.YtfhcigjkfelnfaaGreat.AM
open Go
variable {L L' : Lens} {ts ts' : TS} {hs hs' : HS}
section
variable {R : Type}
def rdB (ts : TS) : List Operand → TS
  | [] => []
  | .tmp t :: r => match look t ts with
    | some v => (t, v) :: rdB ts r
    | none => rdB ts r
  | .const _ :: r => rdB ts r
  | .global _ :: r => rdB ts r
  | .func _ :: r => rdB ts r
theorem rdB_look : ∀ {l : List Operand} {t : Nat} {v : BV}, (t, v) ∈ rdB ts l → look t ts = some v
  | [], t, v, h => by simp [rdB] at h
  | .tmp k :: r, t, v, h => by
    simp only [rdB] at h
    split at h
    · rename_i hk
      rcases List.mem_cons.1 h with h | h
      · cases h; exact hk
      · exact rdB_look h
    · exact rdB_look h
  | .const _ :: r, t, v, h => rdB_look (l := r) (by simpa only [rdB] using h)
  | .global _ :: r, t, v, h => rdB_look (l := r) (by simpa only [rdB] using h)
  | .func _ :: r, t, v, h => rdB_look (l := r) (by simpa only [rdB] using h)
def calleeB (rd : TS) (x : Operand) : Option (FuncId × List BV) := match evalB rd x with
  | some (.v (.func (.func f) ⟨[]⟩ ⟨[]⟩)) => some (f, [])
  | some (.clo (.func f) cs) => some (f, cs)
  | _ => none
def opK (P : Program) (ty : TypeId → Option TC) (E : Env) (sp : Bool) (nn : Nat) (x : TS) (o : Oper) (ts : TS) (hs : HS) (K : BEff → TS → HS → Option R) : Option R :=
  match o.op with
  | .call c => match c.callee with
    | .value (.func f) => match evalBs (x ++ rdB ts o.op.operands.toList) c.args.toList with
      | some vs => callK P E sp nn o.dst f vs ts hs K
      | none => none
    | .value (.tmp t) => match calleeB (x ++ rdB ts o.op.operands.toList) (.tmp t), evalBs (x ++ rdB ts o.op.operands.toList) c.args.toList with
      | some q, some vs => callK P E sp nn o.dst q.1 (vs ++ q.2) ts hs K
      | _, _ => none
    | _ => bop P ty (x ++ rdB ts o.op.operands.toList) hs (goE sp nn o.dst ts hs K) o
  | _ => bop P ty (x ++ rdB ts o.op.operands.toList) hs (goE sp nn o.dst ts hs K) o
variable {r : R} {P : Program} {ty : TypeId → Option TC} {E : Env} {nn : Nat}
theorem opK_some {sp : Bool} {x : TS} {o : Oper} {K : BEff → TS → HS → Option R} (hE : EnvOK P E) (hx : ∀ t v, (t, v) ∈ x → look t ts = some v) (h : opK P ty E sp nn x o ts hs K = some r) (hi : Inv L hs) :
    ∃ e L', Step P o (x ++ rdB ts o.op.operands.toList) L ts hs e L' ∧ dstOK nn o.dst = true ∧ K e (putB o.dst e.v ts) (e.upd ++ hs) = some r := by
  have hrd : ∀ t v, (t, v) ∈ x ++ rdB ts o.op.operands.toList → look t ts = some v := fun t v hm => by
    rcases List.mem_append.1 hm with hm | hm
    · exact hx t v hm
    · exact rdB_look hm
  have hb : bop P ty (x ++ rdB ts o.op.operands.toList) hs (goE sp nn o.dst ts hs K) o = some r → ∃ e L', Step P o (x ++ rdB ts o.op.operands.toList) L ts hs e L' ∧ dstOK nn o.dst = true ∧ K e (putB o.dst e.v ts) (e.upd ++ hs) = some r := fun h => by
    obtain ⟨e, h, hg⟩ := bop_ok h
    obtain ⟨L', h1, h2, h3⟩ := goE_some (rd := x ++ rdB ts o.op.operands.toList) hg hrd h hi
    exact ⟨e, L', h1, h2, h3⟩
  unfold opK at h
  split at h
  · rename_i c ho
    split at h
    · rename_i f hf
      obtain ⟨callee, args, ats⟩ := c
      simp only at hf; subst hf
      split at h
      · rename_i vs hvs
        exact callK_some (rd := x ++ rdB ts o.op.operands.toList) hE (fun hcall L pre h v nw hs hc => OpOK.call ho hcall (evalBs_er L hvs) hs hc) hrd h hi
      · simp at h
    · rename_i t hf
      obtain ⟨callee, args, ats⟩ := c
      simp only at hf; subst hf
      split at h
      · rename_i q vs hq hvs
        unfold calleeB at hq
        split at hq
        · rename_i f hx
          cases hq
          rw [List.append_nil] at h
          exact callK_some (rd := x ++ rdB ts o.op.operands.toList) hE (fun hcall L pre h v nw hs hc => OpOK.callFv ho (by have := evalB_er L hx; simpa only [BV.er] using this) hcall (evalBs_er L hvs) hs hc) hrd h hi
        · rename_i f cs hx
          cases hq
          exact callK_some (rd := x ++ rdB ts o.op.operands.toList) hE (fun hcall L pre h v nw hs hc => OpOK.callClo ho (by have := evalB_er L hx; simpa only [BV.er] using this) hcall (evalBs_er L hvs) (by rw [erL_append] at hs; exact hs) hc) hrd h hi
        · simp at hq
      · simp at h
    · exact hb h
  · exact hb h
mutual
def ownsV : BV → List Name
  | .own m _ => [m]
  | .view m _ _ _ => [m]
  | .agg cs => ownsL cs
  | _ => []
def ownsL : List BV → List Name
  | [] => []
  | x :: r => ownsV x ++ ownsL r
end
def ownsO (ts : TS) (x : Operand) : List Name := match evalB ts x with
  | some v => ownsV v
  | none => []
def viewsO (ts : TS) (x : Operand) : List Name := match evalB ts x with
  | some (.view m _ _ _) => [m]
  | _ => []
def needSh : List Sh → List BV → List Name
  | .lst _ :: r, v :: vs => ownsV v ++ needSh r vs
  | _ :: r, _ :: vs => needSh r vs
  | _, _ => []
def needOb (pre : List (Name × OSh)) (hs : HS) (nm m : Name) : List Name := match look nm pre, look m hs with
  | some (.boxst _), some (.box cs) => ownsL cs
  | some (.box l), some (.box cs) => needSh l cs
  | _, _ => []
def needCaps (pre : List (Name × OSh)) (hs : HS) : List Name → List BV → List Name
  | nm :: q, .ref m _ :: vs => needOb pre hs nm m ++ needCaps pre hs q vs
  | _, _ => []
def needArgs (pre : List (Name × OSh)) (hs : HS) : List SSh → List BV → List Name
  | .one (.lst _) :: r, v :: vs => ownsV v ++ needArgs pre hs r vs
  | .one (.ref nm) :: r, .ref m _ :: vs => needOb pre hs nm m ++ needArgs pre hs r vs
  | .one (.clo _ ns) :: r, .clo _ cs :: vs => needCaps pre hs ns cs ++ needArgs pre hs r vs
  | .st _ :: r, v :: vs => ownsV v ++ needArgs pre hs r vs
  | .agg l :: r, .agg cs :: vs => needSh l cs ++ needArgs pre hs r vs
  | _ :: r, _ :: vs => needArgs pre hs r vs
  | _, _ => []
def needs (E : Env) (ts : TS) (hs : HS) (o : Oper) : List Name := match o.op with
  | .buildSlice _ _ parts => parts.toList.flatMap fun p => ownsO ts p.2
  | .store _ x y => match evalB ts x with
    | some (.aref _ _ _ _) => ownsO ts y
    | _ => []
  | .call c => match c.callee, c.args.toList with
    | .builtin .append, [x, y] => viewsO ts x ++ ownsO ts y
    | .value (.func f), args => match evalBs ts args with
      | some vs => match E o.dst f vs with
        | some g => needArgs g.pre hs g.args vs
        | none => []
      | none => []
    | .value (.tmp t), args => match calleeB ts (.tmp t), evalBs ts args with
      | some q, some vs => match E o.dst q.1 (vs ++ q.2) with
        | some g => needArgs g.pre hs g.args (vs ++ q.2)
        | none => []
      | _, _ => []
    | _, _ => []
  | _ => []
def trimL {α : Type} (f : Nat → Bool) : List Nat → List (Nat × α) → List (Nat × α)
  | _, [] => []
  | seen, (k, v) :: r => match f k && !isIn k seen with
    | true => (k, v) :: trimL f (k :: seen) r
    | false => trimL f seen r
def trimC {α R : Type} (f : Nat → Bool) : List Nat → List (Nat × α) → (List (Nat × α) → R) → R
  | _, [], K => K []
  | seen, (k, v) :: r, K => match f k && !isIn k seen with
    | true => trimC f (k :: seen) r fun q => K ((k, v) :: q)
    | false => trimC f seen r K
theorem trimC_eq {α R : Type} {f : Nat → Bool} : ∀ (seen : List Nat) (l : List (Nat × α)) (K : List (Nat × α) → R), trimC f seen l K = K (trimL f seen l)
  | _, [], K => rfl
  | seen, (k, v) :: r, K => by
    simp only [trimC, trimL]
    split
    · rw [trimC_eq (k :: seen) r]
    · rw [trimC_eq seen r]
theorem look_trimL {α : Type} {f : Nat → Bool} (n : Nat) : ∀ (seen : List Nat) (l : List (Nat × α)), look n (trimL f seen l) = if f n && !isIn n seen then look n l else none
  | seen, [] => by simp [trimL, look]
  | seen, (k, v) :: r => by
    have isIn_cons : ∀ m, isIn m (k :: seen) = (Nat.beq k m || isIn m seen) := fun m => by simp [isIn]
    simp only [trimL]
    split
    · rename_i h
      simp only [look]
      rw [look_trimL n (k :: seen) r, isIn_cons]
      by_cases e : k = n
      · subst e; rw [if_pos rfl, if_pos rfl, h]; rfl
      · have : Nat.beq k n = false := Bool.eq_false_iff.2 fun h => e (Nat.eq_of_beq_eq_true h)
        rw [if_neg e, if_neg e, this, Bool.false_or]
    · rename_i h
      rw [look_trimL n seen r]
      simp only [look]
      by_cases e : k = n
      · subst e; rw [h]; rfl
      · rw [if_neg e]
theorem Inv.trim {f : Name → Bool} (hi : Inv L hs) : Inv L (trimL f [] hs) := fun n t l v hn => by
  rw [look_trimL] at hn
  split at hn
  · exact hi n t l v hn
  · simp at hn
theorem Sim.only {f : Nat → Bool} {g : Name → Bool} {ρ : Name → Loc} {M : Nat → Prop} {a : Act} {w : World} {Γ : Ctx} (h : Sim Γ ρ M (BS L ts hs) a w) (hg : ∀ n, n ∈ Γ.names → g n = true) : Sim Γ ρ M (BS L (trimL f [] ts) (trimL g [] hs)) a w := by
  refine h.forget (fun t x hx => ?_) (fun n o hn => ?_) (fun n hn hc => ?_)
  · rw [BS_slot, look_trimL] at hx
    rw [BS_slot]
    split at hx
    · exact hx
    · simp at hx
  · rw [BS_heap, look_trimL] at hn
    rw [BS_heap]
    split at hn
    · exact hn
    · simp at hn
  · rw [BS_heap, look_trimL, if_pos (by rw [hg n hn]; rfl)] at hc
    obtain ⟨o, ho, _⟩ := h.keep n hn
    rw [BS_heap, hc] at ho; simp at ho
def noTup (n : Name) (ts : TS) (t : Nat) : Bool := match look t ts with
  | some (.tup vs) => !BV.hasL n vs
  | _ => true
theorem Sim.onlyT {f : Nat → Bool} {ρ : Name → Loc} {M : Nat → Prop} {a : Act} {w : World} {Γ : Ctx} (h : Sim Γ ρ M (BS L ts hs) a w) : Sim Γ ρ M (BS L (trimL f [] ts) hs) a w := by
  have h2 := h.only (f := f) (g := fun _ => true) fun _ _ => rfl
  refine h2.congr (fun t => rfl) (fun n => ?_)
  show (BS L (trimL f [] ts) hs).heap n = (BS L (trimL f [] ts) (trimL (fun _ => true) [] hs)).heap n
  rw [BS_heap, BS_heap, look_trimL]; rfl
def frzK (gn : List Name) : List Name → TS → HS → (TS → HS → Option R) → Option R
  | [], ts, hs, K => K ts hs
  | n :: r, ts, hs, K => match look n hs with
    | some (.arr t l v) => trimC (noTup n ts) [] ts fun ts => if !isIn n gn && fzB n ts hs then frzK gn r (fzT n v t l ts) (fzH n v t l hs) K else none
    | _ => frzK gn r ts hs K
theorem frzK_some {gn : List Name} {Γ : Ctx} (hgn : Γ.names = gn) : ∀ {ns : List Name} {ts : TS} {hs : HS} {K : TS → HS → Option R}, frzK gn ns ts hs K = some r → Inv L hs →
    ∃ ts' hs', K ts' hs' = some r ∧ Inv L hs' ∧ ∀ ρ M a w, Sim Γ ρ M (BS L ts hs) a w → ∃ ρ' M', Sim Γ ρ' M' (BS L ts' hs') a w
  | [], ts, hs, K, h, hi => ⟨ts, hs, h, hi, fun ρ M a w hs0 => ⟨ρ, M, hs0⟩⟩
  | n :: ns, ts, hs, K, h, hi => by
    simp only [frzK] at h
    split at h
    · rename_i t l v hl
      rw [trimC_eq] at h
      split at h
      · rename_i hb
        simp only [Bool.and_eq_true, Bool.not_eq_true'] at hb
        have hn : n ∉ Γ.names := fun hm => by
          rw [hgn] at hm
          have := isIn_iff.2 hm
          rw [this] at hb; simp at hb
        have hi' : Inv L (fzH n v t l hs) := by
          intro k t' l' u hk
          rw [look_fzH] at hk
          split at hk
          · simp at hk
          · cases hx : look k hs with
            | none => rw [hx] at hk; simp at hk
            | some x =>
              rw [hx] at hk
              simp only [Option.map_some, Option.some.injEq] at hk
              cases x with
              | box cs => simp [BO.frz] at hk
              | arr t2 l2 => simp only [BO.frz] at hk; cases hk; exact hi k _ _ _ hx
              | sm es => simp [BO.frz] at hk
        obtain ⟨ts', hs', h1, h2, h3⟩ := frzK_some hgn h hi'
        refine ⟨ts', hs', h1, h2, fun ρ M a w hs0 => ?_⟩
        obtain ⟨⟨ρ1, M1, hs1⟩, _⟩ := (hs0.onlyT (f := noTup n ts)).frz hi hn hl hb.2
        exact h3 ρ1 M1 a w hs1
      · simp at h
    · exact frzK_some hgn h hi
section
variable (P : Program) (ty : TypeId → Option TC) (E : Env) (gn : List Name) (nn : Nat) (ops : Array Oper)
def exK (sp : Bool) (x : TS) (o : Oper) (ts : TS) (hs : HS) (K : TS → HS → Option R) : Option R :=
  frzK gn (needs E ts hs o) ts hs fun ts hs => opK P ty E sp nn x o (x ++ ts) hs fun _ ts hs => K ts hs
def guarded (ops : Array Oper) : Bool := ops.toList.any fun o => o.guard.isSome
def regK (sp : Bool) (K : TS → HS → Option R) : Nat → Nat → TS → HS → Option R
  | 0, i, ts, hs => if Nat.beq ops.size i then K ts hs else none
  | f + 1, i, ts, hs => match ops[i]? with
    | none => none
    | some o => match o.guard with
      | none => exK P ty E gn nn sp [] o ts hs fun ts hs => regK sp K f (i + 1) ts hs
      | some (j, b) => match (ops[j]?).bind (·.dst) with
        | none => none
        | some g => match look g ts with
          | some (.b q) => cnd q
              (match b with
                | true => exK P ty E gn nn sp [(g, .b true)] o ts hs fun ts hs => regK sp K f (i + 1) ts hs
                | false => if dstOK nn o.dst then regK sp K f (i + 1) (putB o.dst (.tup []) ts) hs else none)
              (match b with
                | true => if dstOK nn o.dst then regK sp K f (i + 1) (putB o.dst (.tup []) ts) hs else none
                | false => exK P ty E gn nn sp [(g, .b false)] o ts hs fun ts hs => regK sp K f (i + 1) ts hs)
          | some (.tup []) => if dstOK nn o.dst then regK sp K f (i + 1) (putB o.dst (.tup []) ts) hs else none
          | _ => none
end
theorem wpOp_of {ops : Array Oper} {i : Nat} {o : Oper} {a : Act} {w : World} {K : Act → World → Prop} {Q : Exit → Act → World → Prop} (hi : ops[i]? = some o) (hw : Region.wanted o (yielded ops a.tmps) = true) (h : o.wp P a w K Q) : wpOp P ops Q i K a w := by
  unfold wpOp
  simp only [hi, hw, if_true]
  exact .inl h
theorem exK_ok {sp : Bool} {gn : List Name} {ops : Array Oper} {i : Nat} {x : TS} {o : Oper} {K : TS → HS → Option R} {Γ : Ctx} {KK : Act → World → Prop} {Q : Exit → Act → World → Prop} (hE : EnvOK P E) (hgn : Γ.names = gn) (hn : Γ.n = nn)
    (h : exK P ty E gn nn sp x o ts hs K = some r) (hx : ∀ t v, (t, v) ∈ x → look t ts = some v) (hx1 : ∀ t v, (t, v) ∈ x → ∃ q, v = .b q) (hxl : x.length ≤ 1) (hi : Inv L hs) (hop : ops[i]? = some o)
    (hw : ∀ ρ M a w, Sim Γ ρ M (BS L ts hs) a w → Region.wanted o (yielded ops a.tmps) = true)
    (hK : ∀ ts' hs' L' ρ' M' a' w', K ts' hs' = some r → Inv L' hs' → Sim Γ ρ' M' (BS L' ts' hs') a' w' → KK a' w') :
    ∀ ρ M a w, Sim Γ ρ M (BS L ts hs) a w → wpOp P ops Q i KK a w := by
  intro ρ M a w hs0
  have hw0 := hw ρ M a w hs0
  obtain ⟨ts1, hs1, h, hi1, hfz⟩ := frzK_some hgn h hi
  obtain ⟨ρ1, M1, hs1'⟩ := hfz ρ M a w hs0
  have hxx : Sim Γ ρ1 M1 (BS L (x ++ ts1) hs1) a w := by
    refine ⟨hs1'.n, hs1'.d, fun t y hy => ?_, hs1'.objs, hs1'.inj, hs1'.own0, hs1'.keep, hs1'.ext, hs1'.mext, hs1'.msize, hs1'.m0, hs1'.ground⟩
    obtain ⟨v, hv, rfl⟩ := slot_of hy
    rw [look_append] at hv
    cases hl : look t x with
    | none => rw [hl] at hv; simp only at hv; exact hs1'.slots t _ (by rw [BS_slot, hv]; rfl)
    | some v' =>
      rw [hl] at hv; cases hv
      have hm := look_mem hl
      obtain ⟨q, rfl⟩ := hx1 t v hm
      obtain ⟨u, hu, hr⟩ := hs0.slots t ((BV.b q).er L) (by rw [BS_slot, hx t _ hm]; rfl)
      refine ⟨u, hu, ?_⟩
      simp only [BV.er, AV.R, PV.R] at hr ⊢
      exact hr
  obtain ⟨e, L', hst, hd, hK'⟩ := opK_some hE (fun t v hm => by
    rw [look_append]
    match x, hxl, hm with
    | [(t0, v0)], _, hm =>
      simp only [List.mem_singleton, Prod.mk.injEq] at hm
      obtain ⟨rfl, rfl⟩ := hm
      simp only [look, if_true]) h hi1
  exact wpOp_of hop hw0 (hst.go hd hn hxx fun ρ' M' a' w' hs' => hK _ _ L' ρ' M' a' w' hK' hst.inv hs')
theorem yield_b {ops : Array Oper} {Γ : Ctx} {ρ : Name → Loc} {M : Nat → Prop} {a : Act} {w : World} {j g : Nat} {q : Bool} (hj : (ops[j]?).bind (·.dst) = some g) (hl : look g ts = some (.b q)) (hs0 : Sim Γ ρ M (BS L ts hs) a w) : yielded ops a.tmps j = some q := by
  obtain ⟨oj, h1, h2⟩ := bind_some hj
  exact yielded_of hs0 h1 h2 (by rw [BS_slot, hl]; simp only [Option.map_some, BV.er])
theorem skip_ok {ops : Array Oper} {i j g : Nat} {o : Oper} {b : Bool} {v : BV} {Γ : Ctx} {KK : Act → World → Prop} {Q : Exit → Act → World → Prop} (hop : ops[i]? = some o) (hg : o.guard = some (j, b)) (hj : (ops[j]?).bind (·.dst) = some g)
    (hl : look g ts = some v) (hv : v = .b (!b) ∨ v = .tup []) (hd : dstOK nn o.dst = true) (hn : Γ.n = nn)
    (hK : ∀ ρ' M' a' w', Sim Γ ρ' M' (BS L (putB o.dst (.tup []) ts) hs) a' w' → KK a' w') : ∀ ρ M a w, Sim Γ ρ M (BS L ts hs) a w → wpOp P ops Q i KK a w := by
  intro ρ M a w hs0
  obtain ⟨oj, h1, h2⟩ := bind_some hj
  have hd' : ∀ d, o.dst = some d → d < Γ.n := fun d hd' => by rw [hd'] at hd; simp only [dstOK] at hd; rw [hn]; exact Nat.le_of_ble_eq_true hd
  have hrun : ∀ x : AV, (BS L ts hs).run o.dst ⟨[(g, x)], [], .tup [], [], []⟩ = BS L (putB o.dst (.tup []) ts) hs := fun x => by
    unfold BS
    rw [mk_run]
    cases o.dst with
    | none => rfl
    | some d => simp only [putT, putB, erT, List.map_cons, BV.er, erL, List.nil_append]
  rcases hv with rfl | rfl
  · refine StepOK.skipped hop hg h1 h2 Γ ρ M _ a w KK Q hs0 ⟨fun t x hx => ?_, fun n ob hn => by simp at hn, fun n hn => by simp at hn⟩ hd' (fun ρ' M' a' w' hs' => hK ρ' M' a' w' (by rw [hrun] at hs'; exact hs'))
    simp only [List.mem_singleton, Prod.mk.injEq] at hx
    obtain ⟨rfl, rfl⟩ := hx
    rw [BS_slot, hl]; simp only [Option.map_some, BV.er]
  · refine StepOK.skipped2 hop hg h1 h2 Γ ρ M _ a w KK Q hs0 ⟨fun t x hx => ?_, fun n ob hn => by simp at hn, fun n hn => by simp at hn⟩ hd' (fun ρ' M' a' w' hs' => hK ρ' M' a' w' (by rw [hrun] at hs'; exact hs'))
    simp only [List.mem_singleton, Prod.mk.injEq] at hx
    obtain ⟨rfl, rfl⟩ := hx
    rw [BS_slot, hl]; simp only [Option.map_some, BV.er, erL]
theorem regK_ok {sp : Bool} {gn : List Name} {ops : Array Oper} {K : TS → HS → Option R} {Γ : Ctx} {Q : Exit → Act → World → Prop} (hE : EnvOK P E) (hgn : Γ.names = gn) (hn : Γ.n = nn)
    (hQ : ∀ ts' hs' L' ρ' M' a' w', K ts' hs' = some r → Inv L' hs' → Sim Γ ρ' M' (BS L' ts' hs') a' w' → Q .normal a' w') :
    ∀ (f i : Nat) (ts : TS) (hs : HS) (L : Lens), regK P ty E gn nn ops sp K f i ts hs = some r → Inv L hs → ∀ ρ M a w, Sim Γ ρ M (BS L ts hs) a w → wpOps P ops Q (List.range' i (ops.size - i)) a w
  | 0, i, ts, hs, L, h, hi, ρ, M, a, w, hs0 => by
    simp only [regK] at h
    split at h
    · rename_i e
      rw [Nat.eq_of_beq_eq_true e, Nat.sub_self]
      simp only [List.range'_zero, wpOps]
      exact hQ ts hs L ρ M a w h hi hs0
    · simp at h
  | f + 1, i, ts, hs, L, h, hi, ρ, M, a, w, hs0 => by
    simp only [regK] at h
    split at h
    · simp at h
    · rename_i o hop
      have hlt : i < ops.size := (Array.getElem?_eq_some_iff.1 hop).1
      rw [show ops.size - i = (ops.size - (i + 1)) + 1 by omega, List.range'_succ, wpOps_cons]
      have ih := regK_ok (sp := sp) (gn := gn) (ops := ops) (K := K) (Γ := Γ) (Q := Q) hE hgn hn hQ f (i + 1)
      have hskip : ∀ {j : Nat} {b : Bool} {g : Nat} {v : BV}, o.guard = some (j, b) → (ops[j]?).bind (·.dst) = some g → look g ts = some v → (v = .b (!b) ∨ v = .tup []) →
          (if dstOK nn o.dst then regK P ty E gn nn ops sp K f (i + 1) (putB o.dst (.tup []) ts) hs else none) = some r → wpOp P ops Q i (wpOps P ops Q (List.range' (i + 1) (ops.size - (i + 1)))) a w := fun hg hj hl hv h => by
        split at h
        · rename_i hd
          exact skip_ok hop hg hj hl hv hd hn (fun ρ' M' a' w' hs' => ih _ _ L h hi ρ' M' a' w' hs') ρ M a w hs0
        · simp at h
      have hex : ∀ {j : Nat} {b : Bool} {g : Nat}, o.guard = some (j, b) → (ops[j]?).bind (·.dst) = some g → look g ts = some (.b b) →
          exK P ty E gn nn sp [(g, .b b)] o ts hs (fun ts hs => regK P ty E gn nn ops sp K f (i + 1) ts hs) = some r → wpOp P ops Q i (wpOps P ops Q (List.range' (i + 1) (ops.size - (i + 1)))) a w := fun {j b g} hg hj hl h =>
        exK_ok hE hgn hn h (fun t v hm => by simp only [List.mem_singleton, Prod.mk.injEq] at hm; obtain ⟨rfl, rfl⟩ := hm; exact hl) (fun t v hm => by simp only [List.mem_singleton, Prod.mk.injEq] at hm; obtain ⟨rfl, rfl⟩ := hm; exact ⟨b, rfl⟩) (Nat.le_refl _) hi hop
          (fun ρ M a w hs0 => by unfold Region.wanted; simp only [hg, yield_b hj hl hs0, beq_self_eq_true]) (fun ts' hs' L' ρ' M' a' w' hK' hi' hs' => ih _ _ L' hK' hi' ρ' M' a' w' hs') ρ M a w hs0
      split at h
      · rename_i hg
        exact exK_ok hE hgn hn h (fun t v hm => by simp at hm) (fun t v hm => by simp at hm) (by simp) hi hop (fun ρ M a w _ => by unfold Region.wanted; simp only [hg]) (fun ts' hs' L' ρ' M' a' w' hK' hi' hs' => ih _ _ L' hK' hi' ρ' M' a' w' hs') ρ M a w hs0
      · rename_i j b hg
        split at h
        · simp at h
        · rename_i g hj
          split at h
          · rename_i q hl
            rcases cnd_some h with ⟨rfl, h⟩ | ⟨rfl, h⟩
            · cases b with
              | true => exact hex hg hj hl h
              | false => exact hskip hg hj hl (.inl rfl) h
            · cases b with
              | true => exact hskip hg hj hl (.inl rfl) h
              | false => exact hex hg hj hl h
          · rename_i hl
            exact hskip hg hj hl (.inr rfl) h
          · simp at h
end
end Go.Proofs.YtfhcigjkfelnfaaGreat.AM
/-
  The typed layer, part L: code. No project text.
-/
set_option linter.unusedVariables false
set_option linter.unusedSimpArgs false
namespace Go.Proofs.YtfhcigjkfelnfaaGreat.AM
open Go
abbrev BRow := Option Nat × TS × BEff
def BRow.row (L : Lens) (b : BRow) : Row := (b.1, ⟨erT L b.2.1, erH L b.2.2.hp, b.2.2.v.er L, erH L b.2.2.upd, b.2.2.nw⟩)
def L0 : Lens := fun _ _ => 0
def indepB (ops : Array Oper) (rows : List BRow) (ts : TS) (hs : HS) : Bool := indep ops (rows.map (BRow.row L0)) (erT L0 ts) (erH L0 hs)
section
variable {L L' : Lens}
theorem keys_erT (a : TS) : keys (erT L a) = keys a := by simp [erT, keys]
theorem effhas_row (n : Name) (b : BRow) : (b.row L).2.has n = (b.row L').2.has n := by
  simp only [BRow.row, Eff.has, has_er]
  congr 1
  simp only [erH, List.any_map]
  congr 1; funext p; simp only [Function.comp, hasO_er]
theorem apart_row (x y : BRow) : apartB (x.row L) (y.row L) = apartB (x.row L') (y.row L') := by
  simp only [apartB, BRow.row, keys_erT, keys_erH]
  have : (fun n => !Eff.has n ⟨erT L y.2.1, erH L y.2.2.hp, y.2.2.v.er L, erH L y.2.2.upd, y.2.2.nw⟩) = fun n => !Eff.has n ⟨erT L' y.2.1, erH L' y.2.2.hp, y.2.2.v.er L', erH L' y.2.2.upd, y.2.2.nw⟩ := by
    funext n; have := effhas_row (L := L) (L' := L') n y; simp only [BRow.row] at this; rw [this]
  rw [this]
theorem inner_row (i : Nat) (x : BRow) : ∀ (j : Nat) (l : List (BRow × Nat)), innerOK i (x.row L) j (l.map fun p => (p.1.row L, p.2)) = innerOK i (x.row L') j (l.map fun p => (p.1.row L', p.2))
  | _, [] => rfl
  | j, (y, m) :: r => by simp only [List.map_cons, innerOK, apart_row (L := L) (L' := L') x y, inner_row i x (j + 1) r]
theorem pairs_row : ∀ (i : Nat) (l : List (BRow × Nat)), pairsOK i (l.map fun p => (p.1.row L, p.2)) = pairsOK i (l.map fun p => (p.1.row L', p.2))
  | _, [] => rfl
  | i, (x, m) :: r => by simp only [List.map_cons, pairsOK, inner_row (L := L) (L' := L') i x (i + 1) r, pairs_row (i + 1) r]
theorem news_row (ts : TS) (hs : HS) : ∀ (l past : List BRow), newsOK (erT L ts) (erH L hs) (l.map (BRow.row L)) (past.map (BRow.row L)) = newsOK (erT L' ts) (erH L' hs) (l.map (BRow.row L')) (past.map (BRow.row L'))
  | [], past => by simp only [List.map_nil, newsOK]
  | y :: r, past => by
    have ih := news_row ts hs r (past ++ [y])
    simp only [List.map_append, List.map_cons, List.map_nil] at ih
    simp only [List.map_cons, newsOK, ih]
    congr 1
    show (y.2.2.nw.all fun n => _) = (y.2.2.nw.all fun n => _)
    congr 1; funext n
    simp only [List.all_map, freeS_er, BRow.row, keys_erH]
    congr 2
    congr 1; funext x
    have := effhas_row (L := L) (L' := L') n x
    simp only [BRow.row] at this
    simp only [Function.comp, BRow.row, this]
theorem indep_row {ops : Array Oper} {rows : List BRow} {ts : TS} {hs : HS} (h : indepB ops rows ts hs = true) (L : Lens) : indep ops (rows.map (BRow.row L)) (erT L ts) (erH L hs) = true := by
  unfold indepB indep at h
  unfold indep
  have e : ∀ (L : Lens) (ms : List Nat), (rows.map (BRow.row L)).zip ms = (rows.zip ms).map fun p => (p.1.row L, p.2) := fun L ms => by
    rw [List.zip_map_left]; rfl
  rw [e, pairs_row (L := L) (L' := AM.L0), ← e]
  have := news_row (L := L) (L' := AM.L0) ts hs rows []
  simp only [List.map_nil] at this
  rw [this]
  exact h
end
section
variable {R : Type} (P : Program) (ty : TypeId → Option TC) (E : Env) (gn : List Name) (nn : Nat) (ops : Array Oper)
def anyB (d : Option Nat) (v : BV) : Bool := match d, v with
  | some _, _ => true
  | none, .any => true
  | none, _ => false
def dregK (sp : Bool) (K : List BRow → TS → HS → Option R) : Nat → Nat → List BRow → TS → HS → Option R
  | 0, i, acc, ts, hs => if Nat.beq ops.size i then K acc.reverse ts hs else none
  | f + 1, i, acc, ts, hs => match ops[i]? with
    | none => none
    | some o => match o.guard with
      | none => opK P ty E sp nn [] o ts hs fun e ts' hs' => if anyB o.dst e.v then dregK sp K f (i + 1) ((o.dst, rdB ts o.op.operands.toList, e) :: acc) ts' hs' else none
      | some (j, b) => match (ops[j]?).bind (·.dst) with
        | none => none
        | some g => match look g ts with
          | some (.b q) => cnd q
              (match b with
                | true => opK P ty E sp nn [(g, .b true)] o ts hs fun e ts' hs' => if anyB o.dst e.v then dregK sp K f (i + 1) ((o.dst, (g, .b true) :: rdB ts o.op.operands.toList, e) :: acc) ts' hs' else none
                | false => if dstOK nn o.dst then dregK sp K f (i + 1) ((o.dst, [(g, .b true)], ev (.tup [])) :: acc) (putB o.dst (.tup []) ts) hs else none)
              (match b with
                | true => if dstOK nn o.dst then dregK sp K f (i + 1) ((o.dst, [(g, .b false)], ev (.tup [])) :: acc) (putB o.dst (.tup []) ts) hs else none
                | false => opK P ty E sp nn [(g, .b false)] o ts hs fun e ts' hs' => if anyB o.dst e.v then dregK sp K f (i + 1) ((o.dst, (g, .b false) :: rdB ts o.op.operands.toList, e) :: acc) ts' hs' else none)
          | some (.tup []) => if dstOK nn o.dst then dregK sp K f (i + 1) ((o.dst, [(g, .tup [])], ev (.tup [])) :: acc) (putB o.dst (.tup []) ts) hs else none
          | _ => none
end
inductive Ann where
  | go
  | two (a b : Ann)
  | one (a : Ann)
  /-- The states that come out of it normally are said in this shape; what follows is said once. -/
  | join (s : List (Nat × SSh)) (o : List (Name × OSh)) (a : Ann)
  /-- A loop whose rounds begin in this shape. -/
  | loop (s : List (Nat × SSh)) (o : List (Name × OSh)) (a : Ann)
  /-- Arrays that are frozen ahead of it. -/
  | frz (ns : List Name) (a : Ann)
def Ann.l : Ann → Ann
  | .two a _ => a
  | .one a => a
  | .loop _ _ a => a
  | _ => .go
def Ann.r : Ann → Ann
  | .two _ b => b
  | _ => .go
section
variable {R : Type} (P : Program) (ty : TypeId → Option TC) (E : Env) (gn : List Name) (nn fu : Nat)
abbrev Cont (R : Type) := Exit → TS → HS → Option R
def idRen (σ : Ren) : Bool := σ.all fun p => Nat.beq p.1 p.2.1 && lookIs p.1 p.2.1 p.2.2 σ
def verIn (n : Name) (hs : HS) : Nat := match look n hs with
  | some (.arr _ _ v) => v
  | _ => 0
def getS (s : List (Nat × SSh)) (o : List (Name × OSh)) (ts : TS) (hs : HS) (K : STL s × OL o → Option R) : Option R :=
  STL.get s ts [] fun σ x => OL.get o hs (gn.map (fun n => (n, (n, verIn n hs))) ++ σ) fun σ y => if idRen σ && gn.all (fun n => isIn n (keys o)) then K (x, y) else none
def thawA (o : List (Name × OSh)) (t : Nat) : Nat → List Sh → TS → HS → (TS → HS → Option R) → Option R
  | _, [], ts, hs, K => K ts hs
  | j, .own nm :: r, ts, hs, K => match look t ts with
    | some (.agg cells) => match cells[j]?, look nm o with
      | some .nil, some (.arr tc) => if (look nm hs).isNone && freeS nm ts hs && Nat.ble 1 (tz tc) then thawA o t (j + 1) r ((t, .agg (cells.set j (.own nm 0))) :: ts) ((nm, .arr tc [] 0) :: hs) K else none
      | some (.ts true _ []), some (.arr tc) => if (look nm hs).isNone && freeS nm ts hs && Nat.ble 1 (tz tc) then thawA o t (j + 1) r ((t, .agg (cells.set j (.own nm 0))) :: ts) ((nm, .arr tc [] 0) :: hs) K else none
      | _, _ => thawA o t (j + 1) r ts hs K
    | _ => thawA o t (j + 1) r ts hs K
  | j, _ :: r, ts, hs, K => thawA o t (j + 1) r ts hs K
def thawK (o : List (Name × OSh)) : List (Nat × SSh) → TS → HS → (TS → HS → Option R) → Option R
  | (t, .agg l) :: r, ts, hs, K => thawA o t 0 l ts hs fun ts hs => thawK o r ts hs K
  | (t, .one (.own nm)) :: r, ts, hs, K => match look t ts, look nm o with
    | some .nil, some (.arr tc) => if (look nm hs).isNone && freeS nm ts hs && Nat.ble 1 (tz tc) then thawK o r ((t, .own nm 0) :: ts) ((nm, .arr tc [] 0) :: hs) K else none
    | some (.ts true _ []), some (.arr tc) => if (look nm hs).isNone && freeS nm ts hs && Nat.ble 1 (tz tc) then thawK o r ((t, .own nm 0) :: ts) ((nm, .arr tc [] 0) :: hs) K else none
    | _, _ => thawK o r ts hs K
  | _ :: r, ts, hs, K => thawK o r ts hs K
  | [], ts, hs, K => K ts hs
def thawC (o : List (Name × OSh)) (m : Name) (ts : TS) : Nat → List Sh → HS → (HS → Option R) → Option R
  | _, [], hs, K => K hs
  | j, .own nm :: r, hs, K => match look m hs with
    | some (.box cells) => match cells[j]?, look nm o with
      | some .nil, some (.arr tc) => if (look nm hs).isNone && freeS nm ts hs && Nat.ble 1 (tz tc) then thawC o m ts (j + 1) r ((m, .box (cells.set j (.own nm 0))) :: (nm, .arr tc [] 0) :: hs) K else none
      | some (.ts true _ []), some (.arr tc) => if (look nm hs).isNone && freeS nm ts hs && Nat.ble 1 (tz tc) then thawC o m ts (j + 1) r ((m, .box (cells.set j (.own nm 0))) :: (nm, .arr tc [] 0) :: hs) K else none
      | _, _ => thawC o m ts (j + 1) r hs K
    | _ => thawC o m ts (j + 1) r hs K
  | j, _ :: r, hs, K => thawC o m ts (j + 1) r hs K
def thawO (o : List (Name × OSh)) (ts : TS) : List (Name × OSh) → HS → (HS → Option R) → Option R
  | (m, .box l) :: r, hs, K => thawC o m ts 0 l hs fun hs => thawO o ts r hs K
  | _ :: r, hs, K => thawO o ts r hs K
  | [], hs, K => K hs
def keepT (s : List (Nat × SSh)) (t : Nat) : Bool := (look t s).isSome
def keepB (gn : List Name) (o : List (Name × OSh)) (hs : HS) (n : Name) : Bool := match look n hs with
  | some (.box _) => (look n o).isSome || isIn n gn
  | _ => true
def keepA (gn : List Name) (o : List (Name × OSh)) (ts : TS) (hs : HS) (n : Name) : Bool := match look n hs with
  | some (.arr _ _ _) => isIn n gn || (look n o).isNone || !freeS n ts hs
  | _ => true
def shapeK (s : List (Nat × SSh)) (o : List (Name × OSh)) (ts : TS) (hs : HS) (K : STL s × OL o → Option R) : Option R :=
  trimC (keepT s) [] ts fun ts' => trimC (keepB gn o hs) [] hs fun hs' => frzK gn (needArgs o hs (s.map (·.2)) (s.map fun p => (look p.1 ts).getD .any)) ts' hs' fun ts hs => trimC (keepA gn o ts hs) [] hs fun hs => thawK o s ts hs fun ts hs => thawO o ts o hs fun hs => getS gn s o (viewT hs s ts) hs K
def nextC (K : Cont R) (N : TS → HS → Option R) : Cont R := fun e ts hs => match e with
  | .normal => N ts hs
  | e => K e ts hs
def blockC (id : Nat) (K : Cont R) : Cont R := fun e ts hs => match e with
  | .exit k => if Nat.beq k id then K .normal ts hs else K (.exit k) ts hs
  | e => K e ts hs
def around (an : Ann) (ts : TS) (hs : HS) (K : Cont R) (body : Ann → TS → HS → Cont R → Option R) : Option R := match an with
  | .join s o a => join (fun y : STL s × OL o => K .normal (STL.put 0 s y.1) (OL.put 0 o y.2)) fun J => body a ts hs (nextC K fun ts hs => shapeK gn s o ts hs J)
  | .frz ns a => frzK gn ns ts hs fun ts hs => body a ts hs K
  | a => body a ts hs K
def vc [DecidableEq R] : Code → Ann → TS → HS → Cont R → Option R
  | .skip, an, ts, hs, K => K .normal ts hs
  | .label _, an, ts, hs, K => K .normal ts hs
  | .ret, an, ts, hs, K => K .ret ts hs
  | .exit id, an, ts, hs, K => K (.exit id) ts hs
  | .seq a b, an, ts, hs, K => around gn an ts hs K fun an ts hs K => vc a an.l ts hs (nextC K fun ts hs => vc b an.r ts hs K)
  | .cond (.tmp t) a b, an, ts, hs, K => around gn an ts hs K fun an ts hs K => match look t ts with
    | some (.b q) => cnd q (vc a an.l ts hs K) (vc b an.r ts hs K)
    | some .ub => both (vc a an.l ts hs K) (vc b an.r ts hs K)
    | _ => none
  | .cond (.const (.bool q)) a b, an, ts, hs, K => around gn an ts hs K fun an ts hs K => match q with
    | true => vc a an.l ts hs K
    | false => vc b an.r ts hs K
  | .block id a, an, ts, hs, K => around gn an ts hs K fun an ts hs K => vc a an.l ts hs (blockC id K)
  | .loop a, an, ts, hs, K => match an with
    | .loop s o an => shapeK gn s o ts hs fun x => iterF (fun Lp x => vc a an (STL.put 0 s x.1) (OL.put 0 o x.2) (nextC K fun ts hs => shapeK gn s o ts hs Lp)) fu x
    | _ => none
  | .region _ ops dr, an, ts, hs, K => around gn an ts hs K fun an ts hs K => match dr with
    | false => regK P ty E gn nn ops (guarded ops) (fun ts hs => K .normal ts hs) ops.size 0 ts hs
    | true => if P.follows .mixedOrders then dregK P ty E nn ops (guarded ops) (fun rows ts' hs' => if indepB ops rows ts hs then K .normal ts' hs' else none) ops.size 0 [] ts hs else none
  | _, _, _, _, _ => none
end
end Go.Proofs.YtfhcigjkfelnfaaGreat.AM
