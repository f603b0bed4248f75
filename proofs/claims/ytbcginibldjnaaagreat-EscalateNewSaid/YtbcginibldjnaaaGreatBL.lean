/-
  The typed layer, part L: code. No project text.
-/
import Derived.Test.YtbcginibldjnaaaGreatBK
set_option linter.unusedVariables false
set_option linter.unusedSimpArgs false
namespace Go.Proofs.YtbcginibldjnaaaGreat.AM
open Go
/-! ### Regions that draw their order -/
abbrev BRow := Option Nat × TS × BEff
def BRow.row (L : Lens) (b : BRow) : Row := (b.1, ⟨erT L b.2.1, erH L b.2.2.hp, b.2.2.v.er L, erH L b.2.2.upd, b.2.2.nw⟩)
def L0 : Lens := fun _ _ => 0
def indepB (ops : Array Oper) (rows : List BRow) (ts : TS) (hs : HS) : Bool := indep ops (rows.map (BRow.row L0)) (erT L0 ts) (erH L0 hs)
section
variable {L L' : Lens}
theorem keys_erT (a : TS) : keys (erT L a) = keys a := by simp [erT, keys]
theorem effhas_row (n : Name) (b : BRow) : (b.row L).2.has n = (b.row L').2.has n := by
  simp only [BRow.row, Eff.has, has_er]
  congr 1
  simp only [erH, List.any_map]
  congr 1; funext p; simp only [Function.comp, hasO_er]
theorem apart_row (x y : BRow) : apartB (x.row L) (y.row L) = apartB (x.row L') (y.row L') := by
  simp only [apartB, BRow.row, keys_erT, keys_erH]
  have : (fun n => !Eff.has n ⟨erT L y.2.1, erH L y.2.2.hp, y.2.2.v.er L, erH L y.2.2.upd, y.2.2.nw⟩) = fun n => !Eff.has n ⟨erT L' y.2.1, erH L' y.2.2.hp, y.2.2.v.er L', erH L' y.2.2.upd, y.2.2.nw⟩ := by
    funext n; have := effhas_row (L := L) (L' := L') n y; simp only [BRow.row] at this; rw [this]
  rw [this]
theorem inner_row (i : Nat) (x : BRow) : ∀ (j : Nat) (l : List (BRow × Nat)), innerOK i (x.row L) j (l.map fun p => (p.1.row L, p.2)) = innerOK i (x.row L') j (l.map fun p => (p.1.row L', p.2))
  | _, [] => rfl
  | j, (y, m) :: r => by simp only [List.map_cons, innerOK, apart_row (L := L) (L' := L') x y, inner_row i x (j + 1) r]
theorem pairs_row : ∀ (i : Nat) (l : List (BRow × Nat)), pairsOK i (l.map fun p => (p.1.row L, p.2)) = pairsOK i (l.map fun p => (p.1.row L', p.2))
  | _, [] => rfl
  | i, (x, m) :: r => by simp only [List.map_cons, pairsOK, inner_row (L := L) (L' := L') i x (i + 1) r, pairs_row (i + 1) r]
theorem news_row (ts : TS) (hs : HS) : ∀ (l past : List BRow), newsOK (erT L ts) (erH L hs) (l.map (BRow.row L)) (past.map (BRow.row L)) = newsOK (erT L' ts) (erH L' hs) (l.map (BRow.row L')) (past.map (BRow.row L'))
  | [], past => by simp only [List.map_nil, newsOK]
  | y :: r, past => by
    have ih := news_row ts hs r (past ++ [y])
    simp only [List.map_append, List.map_cons, List.map_nil] at ih
    simp only [List.map_cons, newsOK, ih]
    congr 1
    show (y.2.2.nw.all fun n => _) = (y.2.2.nw.all fun n => _)
    congr 1; funext n
    simp only [List.all_map, freeS_er, BRow.row, keys_erH]
    congr 2
    congr 1; funext x
    have := effhas_row (L := L) (L' := L') n x
    simp only [BRow.row] at this
    simp only [Function.comp, BRow.row, this]
theorem indep_row {ops : Array Oper} {rows : List BRow} {ts : TS} {hs : HS} (h : indepB ops rows ts hs = true) (L : Lens) : indep ops (rows.map (BRow.row L)) (erT L ts) (erH L hs) = true := by
  unfold indepB indep at h
  unfold indep
  have e : ∀ (L : Lens) (ms : List Nat), (rows.map (BRow.row L)).zip ms = (rows.zip ms).map fun p => (p.1.row L, p.2) := fun L ms => by
    rw [List.zip_map_left]; rfl
  rw [e, pairs_row (L := L) (L' := AM.L0), ← e]
  have := news_row (L := L) (L' := AM.L0) ts hs rows []
  simp only [List.map_nil] at this
  rw [this]
  exact h
end

section
variable {R : Type} (P : Program) (ty : TypeId → Option TC) (E : Env) (gn : List Name) (nn : Nat) (ops : Array Oper)
/-- Without a slot, no value. -/
def anyB (d : Option Nat) (v : BV) : Bool := match d, v with
  | some _, _ => true
  | none, .any => true
  | none, _ => false
def dregK (sp : Bool) (K : List BRow → TS → HS → Option R) : Nat → Nat → List BRow → TS → HS → Option R
  | 0, i, acc, ts, hs => if Nat.beq ops.size i then K acc.reverse ts hs else none
  | f + 1, i, acc, ts, hs => match ops[i]? with
    | none => none
    | some o => match o.guard with
      | none => opK P ty E sp nn [] o ts hs fun e ts' hs' => if anyB o.dst e.v then dregK sp K f (i + 1) ((o.dst, rdB ts o.op.operands.toList, e) :: acc) ts' hs' else none
      | some (j, b) => match (ops[j]?).bind (·.dst) with
        | none => none
        | some g => match look g ts with
          | some (.b q) => cnd q
              (match b with
                | true => opK P ty E sp nn [(g, .b true)] o ts hs fun e ts' hs' => if anyB o.dst e.v then dregK sp K f (i + 1) ((o.dst, (g, .b true) :: rdB ts o.op.operands.toList, e) :: acc) ts' hs' else none
                | false => if dstOK nn o.dst then dregK sp K f (i + 1) ((o.dst, [(g, .b true)], ev (.tup [])) :: acc) (putB o.dst (.tup []) ts) hs else none)
              (match b with
                | true => if dstOK nn o.dst then dregK sp K f (i + 1) ((o.dst, [(g, .b false)], ev (.tup [])) :: acc) (putB o.dst (.tup []) ts) hs else none
                | false => opK P ty E sp nn [(g, .b false)] o ts hs fun e ts' hs' => if anyB o.dst e.v then dregK sp K f (i + 1) ((o.dst, (g, .b false) :: rdB ts o.op.operands.toList, e) :: acc) ts' hs' else none)
          | some (.tup []) => if dstOK nn o.dst then dregK sp K f (i + 1) ((o.dst, [(g, .tup [])], ev (.tup [])) :: acc) (putB o.dst (.tup []) ts) hs else none
          | _ => none
end

/-! ### Code -/
inductive Ann where
  | go
  | two (a b : Ann)
  | one (a : Ann)
  /-- The states that come out of it normally are said in this shape; what follows is said once. -/
  | join (s : List (Nat × SSh)) (o : List (Name × OSh)) (a : Ann)
  /-- A loop whose rounds begin in this shape. -/
  | loop (s : List (Nat × SSh)) (o : List (Name × OSh)) (a : Ann)
  /-- Arrays that are frozen ahead of it. -/
  | frz (ns : List Name) (a : Ann)
def Ann.l : Ann → Ann
  | .two a _ => a
  | .one a => a
  | .loop _ _ a => a
  | _ => .go
def Ann.r : Ann → Ann
  | .two _ b => b
  | _ => .go
section
variable {R : Type} (P : Program) (ty : TypeId → Option TC) (E : Env) (gn : List Name) (nn fu : Nat)
abbrev Cont (R : Type) := Exit → TS → HS → Option R
def idRen (σ : Ren) : Bool := σ.all fun p => Nat.beq p.1 p.2.1 && lookIs p.1 p.2.1 p.2.2 σ
def verIn (n : Name) (hs : HS) : Nat := match look n hs with
  | some (.arr _ _ v) => v
  | _ => 0
/-- The arrays' versions begin anew. -/
def getS (s : List (Nat × SSh)) (o : List (Name × OSh)) (ts : TS) (hs : HS) (K : STL s × OL o → Option R) : Option R :=
  STL.get s ts [] fun σ x => OL.get o hs (gn.map (fun n => (n, (n, verIn n hs))) ++ σ) fun σ y => if idRen σ && gn.all (fun n => isIn n (keys o)) then K (x, y) else none
def thawK (o : List (Name × OSh)) : List (Nat × SSh) → TS → HS → (TS → HS → Option R) → Option R
  | (t, .one (.own nm)) :: r, ts, hs, K => match look t ts, look nm o with
    | some .nil, some (.arr tc) => if (look nm hs).isNone && freeS nm ts hs && Nat.ble 1 (tz tc) then thawK o r ((t, .own nm 0) :: ts) ((nm, .arr tc [] 0) :: hs) K else none
    | some (.ts true _ []), some (.arr tc) => if (look nm hs).isNone && freeS nm ts hs && Nat.ble 1 (tz tc) then thawK o r ((t, .own nm 0) :: ts) ((nm, .arr tc [] 0) :: hs) K else none
    | _, _ => thawK o r ts hs K
  | _ :: r, ts, hs, K => thawK o r ts hs K
  | [], ts, hs, K => K ts hs
/-- Nothing, in cells of a box: arrays of ours without elements. -/
def thawC (o : List (Name × OSh)) (m : Name) (ts : TS) : Nat → List Sh → HS → (HS → Option R) → Option R
  | _, [], hs, K => K hs
  | j, .own nm :: r, hs, K => match look m hs with
    | some (.box cells) => match cells[j]?, look nm o with
      | some .nil, some (.arr tc) => if (look nm hs).isNone && freeS nm ts hs && Nat.ble 1 (tz tc) then thawC o m ts (j + 1) r ((m, .box (cells.set j (.own nm 0))) :: (nm, .arr tc [] 0) :: hs) K else none
      | some (.ts true _ []), some (.arr tc) => if (look nm hs).isNone && freeS nm ts hs && Nat.ble 1 (tz tc) then thawC o m ts (j + 1) r ((m, .box (cells.set j (.own nm 0))) :: (nm, .arr tc [] 0) :: hs) K else none
      | _, _ => thawC o m ts (j + 1) r hs K
    | _ => thawC o m ts (j + 1) r hs K
  | j, _ :: r, hs, K => thawC o m ts (j + 1) r hs K
def thawO (o : List (Name × OSh)) (ts : TS) : List (Name × OSh) → HS → (HS → Option R) → Option R
  | (m, .box l) :: r, hs, K => thawC o m ts 0 l hs fun hs => thawO o ts r hs K
  | _ :: r, hs, K => thawO o ts r hs K
  | [], hs, K => K hs
/-- Of each name that is asked for the first entry. -/
def trimL {α : Type} (f : Nat → Bool) : List Nat → List (Nat × α) → List (Nat × α)
  | _, [] => []
  | seen, (k, v) :: r => match f k && !isIn k seen with
    | true => (k, v) :: trimL f (k :: seen) r
    | false => trimL f seen r
def trimC {α R : Type} (f : Nat → Bool) : List Nat → List (Nat × α) → (List (Nat × α) → R) → R
  | _, [], K => K []
  | seen, (k, v) :: r, K => match f k && !isIn k seen with
    | true => trimC f (k :: seen) r fun q => K ((k, v) :: q)
    | false => trimC f seen r K
theorem trimC_eq {α R : Type} {f : Nat → Bool} : ∀ (seen : List Nat) (l : List (Nat × α)) (K : List (Nat × α) → R), trimC f seen l K = K (trimL f seen l)
  | _, [], K => rfl
  | seen, (k, v) :: r, K => by
    simp only [trimC, trimL]
    split
    · rw [trimC_eq (k :: seen) r]
    · rw [trimC_eq seen r]
theorem look_trimL {α : Type} {f : Nat → Bool} (n : Nat) : ∀ (seen : List Nat) (l : List (Nat × α)), look n (trimL f seen l) = if f n && !isIn n seen then look n l else none
  | seen, [] => by simp [trimL, look]
  | seen, (k, v) :: r => by
    have isIn_cons : ∀ m, isIn m (k :: seen) = (Nat.beq k m || isIn m seen) := fun m => by simp [isIn]
    simp only [trimL]
    split
    · rename_i h
      simp only [look]
      rw [look_trimL n (k :: seen) r, isIn_cons]
      by_cases e : k = n
      · subst e; rw [if_pos rfl, if_pos rfl, h]; rfl
      · have : Nat.beq k n = false := Bool.eq_false_iff.2 fun h => e (Nat.eq_of_beq_eq_true h)
        rw [if_neg e, if_neg e, this, Bool.false_or]
    · rename_i h
      rw [look_trimL n seen r]
      simp only [look]
      by_cases e : k = n
      · subst e; rw [h]; rfl
      · rw [if_neg e]
/-- Slots and boxes that are not asked for are forgotten. -/
def keepT (s : List (Nat × SSh)) (t : Nat) : Bool := (look t s).isSome
def keepB (gn : List Name) (o : List (Name × OSh)) (hs : HS) (n : Name) : Bool := match look n hs with
  | some (.box _) => (look n o).isSome || isIn n gn
  | _ => true
/-- Arrays that nothing names, where a new one of that name is asked for. -/
def keepA (gn : List Name) (o : List (Name × OSh)) (ts : TS) (hs : HS) (n : Name) : Bool := match look n hs with
  | some (.arr _ _ _) => isIn n gn || (look n o).isNone || !freeS n ts hs
  | _ => true
/-- Into a shape: frozen and thawed as it wants. -/
def shapeK (s : List (Nat × SSh)) (o : List (Name × OSh)) (ts : TS) (hs : HS) (K : STL s × OL o → Option R) : Option R :=
  trimC (keepT s) [] ts fun ts' => trimC (keepB gn o hs) [] hs fun hs' => frzK gn (needArgs o hs (s.map (·.2)) (s.map fun p => (look p.1 ts).getD .any)) ts' hs' fun ts hs => trimC (keepA gn o ts hs) [] hs fun hs => thawK o s ts hs fun ts hs => thawO o ts o hs fun hs => getS gn s o (viewT hs s ts) hs K
def nextC (K : Cont R) (N : TS → HS → Option R) : Cont R := fun e ts hs => match e with
  | .normal => N ts hs
  | e => K e ts hs
def blockC (id : Nat) (K : Cont R) : Cont R := fun e ts hs => match e with
  | .exit k => if Nat.beq k id then K .normal ts hs else K (.exit k) ts hs
  | e => K e ts hs
/-- What stands around a piece of code. -/
def around (an : Ann) (ts : TS) (hs : HS) (K : Cont R) (body : Ann → TS → HS → Cont R → Option R) : Option R := match an with
  | .join s o a => join (fun y : STL s × OL o => K .normal (STL.put 0 s y.1) (OL.put 0 o y.2)) fun J => body a ts hs (nextC K fun ts hs => shapeK gn s o ts hs J)
  | .frz ns a => frzK gn ns ts hs fun ts hs => body a ts hs K
  | a => body a ts hs K
def vc [DecidableEq R] : Code → Ann → TS → HS → Cont R → Option R
  | .skip, an, ts, hs, K => K .normal ts hs
  | .label _, an, ts, hs, K => K .normal ts hs
  | .ret, an, ts, hs, K => K .ret ts hs
  | .exit id, an, ts, hs, K => K (.exit id) ts hs
  | .seq a b, an, ts, hs, K => around gn an ts hs K fun an ts hs K => vc a an.l ts hs (nextC K fun ts hs => vc b an.r ts hs K)
  | .cond (.tmp t) a b, an, ts, hs, K => around gn an ts hs K fun an ts hs K => match look t ts with
    | some (.b q) => cnd q (vc a an.l ts hs K) (vc b an.r ts hs K)
    | some .ub => both (vc a an.l ts hs K) (vc b an.r ts hs K)
    | _ => none
  | .cond (.const (.bool q)) a b, an, ts, hs, K => around gn an ts hs K fun an ts hs K => match q with
    | true => vc a an.l ts hs K
    | false => vc b an.r ts hs K
  | .block id a, an, ts, hs, K => around gn an ts hs K fun an ts hs K => vc a an.l ts hs (blockC id K)
  | .loop a, an, ts, hs, K => match an with
    | .loop s o an => shapeK gn s o ts hs fun x => iterF (fun Lp x => vc a an (STL.put 0 s x.1) (OL.put 0 o x.2) (nextC K fun ts hs => shapeK gn s o ts hs Lp)) fu x
    | _ => none
  | .region _ ops dr, an, ts, hs, K => around gn an ts hs K fun an ts hs K => match dr with
    | false => regK P ty E gn nn ops (guarded ops) (fun ts hs => K .normal ts hs) ops.size 0 ts hs
    | true => if P.follows .mixedOrders then dregK P ty E nn ops (guarded ops) (fun rows ts' hs' => if indepB ops rows ts hs then K .normal ts' hs' else none) ops.size 0 [] ts hs else none
  | _, _, _, _, _ => none
end
end Go.Proofs.YtbcginibldjnaaaGreat.AM
