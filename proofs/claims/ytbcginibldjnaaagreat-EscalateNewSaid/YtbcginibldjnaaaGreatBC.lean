/-
  The typed layer, part C: what operations do. No project text.
-/
import Derived.Test.YtbcginibldjnaaaGreatBB
set_option linter.unusedVariables false
set_option linter.unusedSimpArgs false
namespace Go.Proofs.YtbcginibldjnaaaGreat.AM
open Go

/-- Cells are put in, one walk along the list. -/
def overB : List BV → List BV → List BV
  | l, [] => l
  | [], v :: vs => v :: vs
  | _ :: l, v :: vs => v :: overB l vs
def layB : List BV → Nat → List BV → List BV
  | l, 0, vs => overB l vs
  | x :: l, k + 1, vs => x :: layB l k vs
  | [], _ + 1, vs => vs
/-- A list, its spine laid bare. -/
def forceL {α R : Type} : List α → (List α → R) → R
  | [], K => K []
  | x :: r, K => forceL r fun r => K (x :: r)
theorem forceL_eq {α R : Type} : ∀ (l : List α) (K : List α → R), forceL l K = K l
  | [], K => rfl
  | x :: r, K => by simp only [forceL, forceL_eq r]
theorem overB_eq : ∀ (l vs : List BV), vs.length ≤ l.length → overB l vs = vs ++ l.drop vs.length
  | l, [], _ => by cases l <;> rfl
  | [], v :: vs, h => by simp at h
  | x :: l, v :: vs, h => by simp only [overB, overB_eq l vs (by simpa using h), List.length_cons, List.drop_succ_cons, List.cons_append]
theorem layB_eq : ∀ (l : List BV) (k : Nat) (vs : List BV), k + vs.length ≤ l.length → layB l k vs = setAt l k vs
  | l, 0, vs, h => by
    have : layB l 0 vs = overB l vs := by cases l <;> rfl
    rw [this, overB_eq l vs (by omega)]
    simp [setAt]
  | [], k + 1, vs, h => by simp at h
  | x :: l, k + 1, vs, h => by
    simp only [layB, layB_eq l k vs (by simp at h; omega), setAt, List.take_succ_cons, List.cons_append]
    rw [show k + 1 + vs.length = (k + vs.length) + 1 by omega, List.drop_succ_cons]
structure BEff where
  hp : HS
  v : BV
  upd : HS
  nw : List Name
  nv : List (Name × Nat)
def ev (v : BV) : BEff := ⟨[], v, [], [], []⟩

/-- What is read lies there; for all lengths that fit, the operation does this. -/
def Good (P : Program) (o : Oper) (rd : TS) (hs : HS) (e : BEff) : Prop :=
  (∀ n ob, (n, ob) ∈ e.hp → look n hs = some ob) ∧
  ∀ L, Inv L hs → ∃ L' : Lens, (∀ m u, m ∉ e.nw → (m, u) ∉ e.nv → L' m u = L m u) ∧ Inv L' (e.upd ++ hs) ∧ OpOK P o ⟨erT L rd, erH L e.hp, e.v.er L', erH L' e.upd, e.nw⟩

section
variable {P : Program} {o : Oper} {rd : TS} {hs : HS}
theorem OpOK.outLe {rd : List (Nat × AV)} {hp upd upd' : List (Name × AO)} {v v' : AV} {nw : List Name} (h : OpOK P o ⟨rd, hp, v, upd, nw⟩) (hv : AVle v v')
    (hu : ∀ n, (∀ y, look n upd' = some y → ∃ x, look n upd = some x ∧ AOle x y ∧ (x = y ∨ (∃ cs ds, x = .box cs ∧ y = .box ds) ∨ (∃ es rs qs, x = .arr es rs ∧ y = .arr es qs))) ∧ (∀ x, look n upd = some x → ∃ y, look n upd' = some y)) : OpOK P o ⟨rd, hp, v', upd', nw⟩ := by
  intro Γ ρ M s a w K Q hs hh hd hK
  refine h Γ ρ M s a w K Q hs ⟨hh.rd, hh.hp, hh.nw⟩ hd (fun ρ' M' a' w' hs' => hK ρ' M' a' w' ?_)
  have hheap : ∀ n y, (s.run o.dst ⟨rd, hp, v', upd', nw⟩).heap n = some y → ∃ x, (s.run o.dst ⟨rd, hp, v, upd, nw⟩).heap n = some x ∧ AOle x y ∧ (x = y ∨ (∃ cs ds, x = .box cs ∧ y = .box ds) ∨ (∃ es rs qs, x = .arr es rs ∧ y = .arr es qs)) := fun n y hy => by
    simp only [AS.run] at hy ⊢
    cases hl : look n upd' with
    | some y' =>
      rw [hl] at hy; cases hy
      obtain ⟨x, hx, h1, h2⟩ := (hu n).1 _ hl
      exact ⟨x, by rw [hx], h1, h2⟩
    | none =>
      rw [hl] at hy
      have hn : look n upd = none := by
        cases hl2 : look n upd with
        | none => rfl
        | some x => obtain ⟨y, hy⟩ := (hu n).2 x hl2; rw [hl] at hy; simp at hy
      exact ⟨y, by rw [hn]; exact hy, .refl _, .inl rfl⟩
  refine hs'.leS (fun t y hy => ?_) (fun n => ⟨fun y hy => ?_, fun x hx => ?_⟩) (fun n x y hx hy => ?_)
  · simp only [AS.run] at hy ⊢
    split at hy
    · rename_i e; cases hy; exact ⟨v, by rw [if_pos e], hv⟩
    · rename_i e; exact ⟨y, by rw [if_neg e]; exact hy, .refl _⟩
  · obtain ⟨x, h1, h2, _⟩ := hheap n y hy; exact ⟨x, h1, h2⟩
  · have : ∃ y, (s.run o.dst ⟨rd, hp, v', upd', nw⟩).heap n = some y := by
      simp only [AS.run] at hx ⊢
      cases hl : look n upd with
      | some x' => obtain ⟨y, hy⟩ := (hu n).2 x' hl; exact ⟨y, by rw [hy]⟩
      | none =>
        rw [hl] at hx
        cases hl2 : look n upd' with
        | some y => exact ⟨y, rfl⟩
        | none => exact ⟨x, hx⟩
    obtain ⟨y, hy⟩ := this
    obtain ⟨x', h1, h2, _⟩ := hheap n y hy
    rw [hx] at h1; cases h1
    exact ⟨y, hy, h2⟩
  · obtain ⟨x', h1, _, h3⟩ := hheap n y hy
    rw [hx] at h1; cases h1
    exact h3
theorem OpOK.vLe {rd : List (Nat × AV)} {hp upd : List (Name × AO)} {v v' : AV} {nw : List Name} (h : OpOK P o ⟨rd, hp, v, upd, nw⟩) (hv : AVle v v') : OpOK P o ⟨rd, hp, v', upd, nw⟩ :=
  h.outLe hv fun n => ⟨fun y hy => ⟨y, hy, .refl _, .inl rfl⟩, fun x hx => ⟨x, hx⟩⟩

/-- An operation that yields a value alone. -/
theorem Good.val {hp : HS} {v : BV} (h1 : ∀ n ob, (n, ob) ∈ hp → look n hs = some ob) (h2 : ∀ L, Inv L hs → OpOK P o ⟨erT L rd, erH L hp, v.er L, [], []⟩) : Good P o rd hs ⟨hp, v, [], [], []⟩ :=
  ⟨h1, fun L hL => ⟨L, fun _ _ _ _ => rfl, hL, h2 L hL⟩⟩
theorem Good.ev {v : BV} (h2 : ∀ L, Inv L hs → OpOK P o ⟨erT L rd, [], v.er L, [], []⟩) : Good P o rd hs (ev v) := Good.val (fun _ _ h => by simp at h) h2

/-! ### Operands -/
def cellB : Value → BV
  | .slice none 0 0 => .nil
  | .int k x => .n k x
  | .bool b => .b b
  | .string s => .s s
  | c => .v c
theorem cellB_er (L : Lens) (c : Value) : (cellB c).er L = constCell c := by
  unfold cellB
  split
  · simp only [BV.er]; rfl
  · simp only [BV.er]; rfl
  · simp only [BV.er]; rfl
  · simp only [BV.er]; rfl
  · rename_i h1 h2 h3 h4
    simp only [BV.er]
    unfold constCell
    split
    · exact absurd rfl h1
    · rfl
def constB : Value → Option BV
  | .agg cs => if cs.toList.all (fun c => c.oneCell') then some (.agg (cs.toList.map cellB)) else none
  | c => if c.oneCell' then some (cellB c) else none
theorem erL_cells (L : Lens) (cs : List Value) : erL L (cs.map cellB) = cs.map constCell := by
  simp only [erL_map, List.map_map]; exact List.map_congr_left fun c _ => cellB_er L c
theorem constB_er {c : Value} {x : BV} (L : Lens) (h : constB c = some x) : constAV c = some (x.er L) := by
  unfold constB at h
  split at h
  · rename_i cs
    unfold constAV
    split at h
    · rename_i hall; cases h; simp only [hall, if_true, BV.er, erL_cells]
    · simp at h
  · rename_i hne
    split at h
    · rename_i ho
      cases h
      unfold constAV
      split
      · exact absurd rfl (hne _)
      · simp only [ho, if_true, cellB_er]
    · simp at h
def evalB (rd : TS) : Operand → Option BV
  | .tmp t => look t rd
  | .const c => constB c
  | .global g => some (.v (.pointer (some ⟨g, 0, none⟩)))
  | .func f => some (.v (.func (.func f) #[] #[]))
theorem evalB_er {x : Operand} {v : BV} (L : Lens) (h : evalB rd x = some v) : evalO (erT L rd) x = some (v.er L) := by
  cases x with
  | tmp t => simp only [evalB] at h; simp only [evalO, look_erT, h, Option.map_some]
  | const c => exact constB_er L h
  | global g => simp only [evalB, Option.some.injEq] at h; subst h; simp only [evalO, BV.er]
  | func f => simp only [evalB, Option.some.injEq] at h; subst h; simp only [evalO, BV.er]
def cellsB : BV → Option (List BV)
  | .agg cs => some cs
  | .tup _ => none
  | x => some [x]
theorem cellsB_er {v : BV} {cs : List BV} (L : Lens) (h : cellsB v = some cs) : cellsAV (v.er L) = some (erL L cs) := by
  cases v <;> simp only [cellsB, Option.some.injEq, reduceCtorEq] at h <;> subst h <;> simp only [BV.er, cellsAV, erL]
def evalBs (rd : TS) : List Operand → Option (List BV)
  | [] => some []
  | x :: r => match evalB rd x, evalBs rd r with
    | some v, some vs => some (v :: vs)
    | _, _ => none
theorem evalBs_er (L : Lens) : ∀ {xs : List Operand} {vs : List BV}, evalBs rd xs = some vs → evalL (erT L rd) xs = some (erL L vs)
  | [], vs, h => by simp only [evalBs, Option.some.injEq] at h; subst h; simp only [evalL, erL]
  | x :: r, vs, h => by
    simp only [evalBs] at h
    split at h
    · rename_i v vs' h1 h2
      cases h
      simp only [evalL, evalB_er L h1, evalBs_er L h2, erL]
    · simp at h
end

/-! ### The operations -/
section
variable {R : Type} (P : Program) (ty : TypeId → Option TC) (rd : TS) (hs : HS) (K : BEff → Option R)
def bVal (x : Operand) : Option R := match evalB rd x with
  | some v => K (ev v)
  | none => none
def bPick (c x y : Operand) : Option R := match evalB rd c, evalB rd x, evalB rd y with
  | some (.b q), some u, some v => cnd q (K (ev u)) (K (ev v))
  | _, _, _ => none
def zeroB (T : TypeId) : Option (List BV) := match P.info? T with
  | some i => match i.zero with
    | some z => if z.cells.toList.all (fun c => c.oneCell') then some (z.cells.toList.map cellB) else none
    | none => none
  | none => none
def bAlloc (d : Option Nat) (T : TypeId) : Option R := match d, zeroB P T with
  | some d, some cs => K ⟨[], .ref (1000 + d) 0, [(1000 + d, .box cs)], [1000 + d], []⟩
  | _, _ => none
def bBox (d : Option Nat) (x : Operand) : Option R := match d, evalB rd x with
  | some d, some v => match cellsB v with
    | some cs => K ⟨[], .ref (1000 + d) 0, [(1000 + d, .box cs)], [1000 + d], []⟩
    | none => none
  | _, _ => none
def putCB (places : List (Nat × Nat)) : List (Nat × Operand) → List BV → Option (List BV)
  | [], cells => some cells
  | (i, x) :: r, cells => match places[i]?, evalB rd x with
    | some (off, size), some y => match cellsB y with
      | some cs => if Nat.beq cs.length size && Nat.ble (off + size) cells.length then forceL (layB cells off cs) fun cells => putCB places r cells else none
      | none => none
    | _, _ => none
/-- Where the parts of a struct or of an array lie. -/
def placesB (T : TypeId) : Option (List (Nat × Nat)) := match P.underlying T with
  | some (.array n e) => match sizeT P e with
    | some es => some (arrPlaces n es)
    | none => none
  | _ => structT P T
def bBuild (T : TypeId) (parts : Array (Nat × Operand)) : Option R := match placesB P T, zeroB P T with
  | some pl, some zs => match putCB rd pl parts.toList zs with
    | some cells => K (ev (.agg cells))
    | none => none
  | _, _ => none
/-- The elements of a literal, in their order. -/
def rowsC (t : TC) : List (Nat × Operand) → Nat → Nat → (List (TT t) → Option R) → Option R
  | [], i, len, K => if Nat.beq i len then K [] else none
  | (j, x) :: r, i, len, K => if Nat.beq j i then match evalB rd x with
      | some v => match cellsB v with
        | some cs => if Nat.beq cs.length (tz t) && cs.all BV.isP then tpop t cs fun y rest => match rest with
            | [] => rowsC t r (i + 1) len fun ys => K (y :: ys)
            | _ => none
          else none
        | none => none
      | none => none
    else none
def bBuildSlice (T : TypeId) (len : Nat) (parts : Array (Nat × Operand)) : Option R := match elemT P T with
  | some e => match ty e, sizeT P e, zeroRow P e with
    | some t, some es, some zr => if Nat.beq es (tz t) && Nat.ble 1 es && Nat.beq zr.length es && Nat.ble (len * es) 16777216 then rowsC rd t parts.toList 0 len fun l => K (ev (.ts true t l)) else none
    | _, _, _ => none
  | none => none
def bLoad (T : TypeId) (x : Operand) : Option R := match evalB rd x with
  | some (.ref n k) => match look n hs with
    | some (.box cells) => if aggT P T then
        match sizeT P T with
        | some z => if Nat.beq ((cells.drop k).take z).length z then K ⟨[(n, .box cells)], .agg ((cells.drop k).take z), [], [], []⟩ else none
        | none => none
      else if flatT P T then match cells[k]? with
        | some c => K ⟨[(n, .box cells)], c, [], [], []⟩
        | none => none
      else none
    | _ => none
  | some (.tep cells) => if cells.all BV.isP then if aggT P T then
      match sizeT P T with
      | some z => if Nat.beq (cells.take z).length z then K (ev (.agg (cells.take z))) else none
      | none => none
    else if flatT P T then match cells[0]? with
      | some c => K (ev c)
      | none => none
    else none else none
  | some (.aref n u i k) => match look n hs with
    | some (.arr t l v) => if Nat.beq u v then optc l[i]? fun y => if aggT P T then
        match sizeT P T with
        | some z => if Nat.beq (((tb t y).drop k).take z).length z then K ⟨[(n, .arr t l v)], .agg (((tb t y).drop k).take z), [], [], []⟩ else none
        | none => none
      else if flatT P T then match (tb t y)[k]? with
        | some c => K ⟨[(n, .arr t l v)], c, [], [], []⟩
        | none => none
      else none else none
    | _ => none
  | _ => none
def bStore (d : Option Nat) (T : TypeId) (x y : Operand) : Option R := match d, evalB rd x, evalB rd y with
  | none, some (.ref n k), some v => match look n hs, cellsB v, sizeT P T with
    | some (.box cells), some vs, some z => if Nat.beq z vs.length && Nat.ble (k + vs.length) cells.length then forceL (layB cells k vs) fun cells' => K ⟨[(n, .box cells)], .any, [(n, .box cells')], [], []⟩ else none
    | _, _, _ => none
  | none, some (.aref n u i k), some v => match look n hs, cellsB v, sizeT P T with
    | some (.arr t l q), some vs, some z => if Nat.beq u q then optc l[i]? fun y => if Nat.beq z vs.length && Nat.ble (k + vs.length) (tb t y).length && vs.all BV.isP then tpop t (layB (tb t y) k vs) fun y' rest => match rest with
        | [] => K ⟨[(n, .arr t l q)], .any, [(n, .arr t (l.set i y') q)], [], []⟩
        | _ => none
      else none else none
    | _, _, _ => none
  | _, _, _ => none
def bFieldAddr (S : TypeId) (x : Operand) (i : Nat) : Option R := match evalB rd x, fieldOff P S i with
  | some (.ref n k), some fo => match look n hs with
    | some (.box cells) => K ⟨[(n, .box cells)], .ref n (k + fo), [], [], []⟩
    | _ => none
  | some (.tep cells), some fo => K (ev (.tep (cells.drop fo)))
  | some (.aref n u j k), some fo => match look n hs with
    | some (.arr t l q) => if Nat.beq u q then K ⟨[(n, .arr t l q)], .aref n u j (k + fo), [], [], []⟩ else none
    | _ => none
  | _, _ => none
def bNilCheck (x : Operand) : Option R := match evalB rd x with
  | some (.ref n k) => match look n hs with
    | some (.box cells) => K ⟨[(n, .box cells)], .ref n k, [], [], []⟩
    | _ => none
  | some (.tep cells) => K (ev (.tep cells))
  | some (.aref n u j k) => match look n hs with
    | some (.arr t l q) => if Nat.beq u q then K ⟨[(n, .arr t l q)], .aref n u j k, [], [], []⟩ else none
    | _ => none
  | _ => none
def binI (op : BinOp) (k : IntKind) (a b : Int) : Option R := match op with
  | .add => K (ev (.n k (k.wrap (a + b))))
  | .sub => K (ev (.n k (k.wrap (a - b))))
  | .mul => K (ev (.n k (k.wrap (a * b))))
  | .quo => nzc b (K (ev (.n k (k.wrap (a.tdiv b)))))
  | .rem => nzc b (K (ev (.n k (a.tmod b))))
  | .lss => K (ev (.b (decide (a < b))))
  | .leq => K (ev (.b (decide (a ≤ b))))
  | .gtr => K (ev (.b (decide (b < a))))
  | .geq => K (ev (.b (decide (b ≤ a))))
  | .eql => K (ev (.b (decide (a = b))))
  | .neq => K (ev (.b (decide (a ≠ b))))
  | _ => none
def binS (op : BinOp) (a b : ByteArray) : Option R := match op with
  | .eql => K (ev (.b (decide (a = b))))
  | .neq => K (ev (.b (decide (a ≠ b))))
  | .add => lec (a.size + b.size) 9223372036854775807 (K (ev (.s (a ++ b))))
  | _ => none
def boolT (T : TypeId) : Bool := match P.underlying T with | some .bool => true | _ => false
def binB (op : BinOp) (T : TypeId) (a b : Bool) : Option R := if boolT P T then match op with
  | .eql => K (ev (.b (decide (a = b))))
  | .neq => K (ev (.b (decide (a ≠ b))))
  | _ => none else none
def bBin (op : BinOp) (T : TypeId) (x y : Operand) : Option R := match evalB rd x, evalB rd y with
  | some (.n k a), some (.n k' b) => if kEq k k' then binI K op k a b else none
  | some (.s a), some (.s b) => binS K op a b
  | some (.b a), some (.b b) => binB P K op T a b
  | _, _ => none
def bUn (op : UnOp) (x : Operand) : Option R := match op, evalB rd x with
  | .not, some (.b b) => K (ev (.b (!b)))
  | .neg, some (.n k a) => K (ev (.n k (k.wrap (0 - a))))
  | _, _ => none
def bField (T : TypeId) (x : Operand) (i : Nat) : Option R := match evalB rd x, P.underlying T with
  | some (.agg cells), some (.struct fs) => match fs[i]? with
    | some f => if aggT P f.type then
        match sizeT P f.type with
        | some z => K (ev (.agg ((cells.drop f.offset).take z)))
        | none => none
      else if flatT P f.type then match cells[f.offset]? with
        | some c => K (ev c)
        | none => none
      else none
    | none => none
  | _, _ => none
def bExtract (x : Operand) (i : Nat) : Option R := match evalB rd x with
  | some (.tup vs) => match vs[i]? with
    | some v => K (ev v)
    | none => none
  | _ => none
def bIndexAddr (T : TypeId) (x y : Operand) : Option R := match evalB rd x, evalB rd y, elemT P T with
  | some (.ts _ t l), some (.n _ j), some e => match sizeT P e with
    | some es => if Nat.beq es (tz t) then atc l j fun z => K (ev (.tep (tb t z))) else none
    | none => none
  | some (.own n u), some (.n _ j), some e => match look n hs, sizeT P e with
    | some (.arr t l q), some es => if Nat.beq es (tz t) && Nat.beq u q then natc j fun i => ltc i l.length (K ⟨[(n, .arr t l q)], .aref n u i 0, [], [], []⟩) else none
    | _, _ => none
  | some (.view n u lo hi), some (.n _ j), some e => match look n hs, sizeT P e with
    | some (.arr t l q), some es => if Nat.beq es (tz t) && Nat.beq u q then natc j fun i => ltc i (hi - lo) (K ⟨[(n, .arr t l q)], .aref n u (lo + i) 0, [], [], []⟩) else none
    | _, _ => none
  | _, _, _ => none
def bLen (T : TypeId) (x : Operand) : Option R := match evalB rd x with
  | some (.ts _ t l) => match elemT P T with
    | some _ => K (ev (.n .i64 (l.length : Int)))
    | none => none
  | some .nil => match elemT P T with
    | some _ => K (ev (.n .i64 0))
    | none => none
  | some (.own n u) => match look n hs, elemT P T with
    | some (.arr t l q), some _ => if Nat.beq u q then K ⟨[(n, .arr t l q)], .n .i64 (l.length : Int), [], [], []⟩ else none
    | _, _ => none
  | some (.view n u lo hi) => match look n hs, elemT P T with
    | some (.arr t l q), some _ => if Nat.beq u q then K ⟨[(n, .arr t l q)], .n .i64 ((hi - lo : Nat) : Int), [], [], []⟩ else none
    | _, _ => none
  | some (.s t) => match P.underlying T with
    | some .string => K (ev (.n .i64 (t.size : Int)))
    | _ => none
  | _ => none
/-- The second argument of append: typed data. -/
def srcB (t0 : TC) (y : BV) (K : List (TT t0) → Option R) : Option R := match y with
  | .ts _ t x => if h : t = t0 then K (castL h x) else none
  | _ => none
def bAppend (d : Option Nat) (T : TypeId) (x y : Operand) : Option R := match evalB rd x, evalB rd y, elemT P T with
  | some (.own n u), some v, some e => match look n hs, sizeT P e, bytesT P e with
    | some (.arr t l q), some es, some bytes => if Nat.beq es (tz t) && elemOK P e es bytes && Nat.ble bytes 4096 && Nat.beq u q then srcB t v fun l' => lec (l.length + l'.length) 34359738368 (K ⟨[(n, .arr t l q)], .own n (q + 1), [(n, .arr t (l ++ l') (q + 1))], [], [(n, q + 1)]⟩) else none
    | _, _, _ => none
  | some .nil, some v, some e => match d, ty e, sizeT P e, bytesT P e with
    | some d, some t, some es, some bytes => if Nat.beq es (tz t) && elemOK P e es bytes && Nat.ble bytes 4096 && Nat.ble 1 es then srcB t v fun l' => lec l'.length 34359738368 (K ⟨[], .own (1000 + d) 0, [(1000 + d, .arr t l' 0)], [1000 + d], []⟩) else none
    | _, _, _, _ => none
  | some (.ts true t l), some v, some e => match d, sizeT P e, bytesT P e with
    | some d, some es, some bytes => if Nat.beq es (tz t) && elemOK P e es bytes && Nat.ble bytes 4096 && Nat.ble 1 es then srcB t v fun l' => match l with
        | [] => lec l'.length 34359738368 (K ⟨[], .own (1000 + d) 0, [(1000 + d, .arr t l' 0)], [1000 + d], []⟩)
        | y :: q => match l' with
          | [] => none
          | z :: r => lec ((y :: q).length + (z :: r).length) 34359738368 (K ⟨[], .own (1000 + d) 0, [(1000 + d, .arr t (y :: q ++ z :: r) 0)], [1000 + d], []⟩) else none
    | _, _, _ => none
  | _, _, _ => none
def bConv (S T : TypeId) (x : Operand) : Option R := match evalB rd x, intT P T with
  | some (.n k a), some k' => if (P.underlying S).isSome then K (ev (.n k' (k'.wrap a))) else none
  | _, _ => none
def bIndexS (T : TypeId) (x y : Operand) : Option R := match evalB rd x, evalB rd y, P.underlying T with
  | some (.s t), some (.n _ j), some .string => natc j fun i => ltc i t.size (K (ev (.n .u8 (bAt t i : Int))))
  | _, _, _ => none
end
end Go.Proofs.YtbcginibldjnaaaGreat.AM
