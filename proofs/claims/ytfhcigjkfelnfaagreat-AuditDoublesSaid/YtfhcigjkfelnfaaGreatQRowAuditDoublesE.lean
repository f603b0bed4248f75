/-
  The typed layer, part C: what operations do. No project text.
-/
import Derived.Test.YtfhcigjkfelnfaaGreatQRowAuditDoublesD
import Derived.Maps.RangeRun
import Derived.Laws.StructEq
import Derived.Laws.BytesString
import Derived.Laws.Slices
set_option linter.unusedVariables false
set_option linter.unusedSimpArgs false
namespace Go.Proofs.YtfhcigjkfelnfaaGreat.AM
open Go
def overB : List BV → List BV → List BV
  | l, [] => l
  | [], v :: vs => v :: vs
  | _ :: l, v :: vs => v :: overB l vs
def layB : List BV → Nat → List BV → List BV
  | l, 0, vs => overB l vs
  | x :: l, k + 1, vs => x :: layB l k vs
  | [], _ + 1, vs => vs
def forceL {α R : Type} : List α → (List α → R) → R
  | [], K => K []
  | x :: r, K => forceL r fun r => K (x :: r)
theorem forceL_eq {α R : Type} : ∀ (l : List α) (K : List α → R), forceL l K = K l
  | [], K => rfl
  | x :: r, K => by simp only [forceL, forceL_eq r]
theorem overB_eq : ∀ (l vs : List BV), vs.length ≤ l.length → overB l vs = vs ++ l.drop vs.length
  | l, [], _ => by cases l <;> rfl
  | [], v :: vs, h => by simp at h
  | x :: l, v :: vs, h => by simp only [overB, overB_eq l vs (by simpa using h), List.length_cons, List.drop_succ_cons, List.cons_append]
theorem layB_eq : ∀ (l : List BV) (k : Nat) (vs : List BV), k + vs.length ≤ l.length → layB l k vs = setAt l k vs
  | l, 0, vs, h => by
    have : layB l 0 vs = overB l vs := by cases l <;> rfl
    rw [this, overB_eq l vs (by omega)]
    simp [setAt]
  | [], k + 1, vs, h => by simp at h
  | x :: l, k + 1, vs, h => by
    simp only [layB, layB_eq l k vs (by simp at h; omega), setAt, List.take_succ_cons, List.cons_append]
    rw [show k + 1 + vs.length = (k + vs.length) + 1 by omega, List.drop_succ_cons]
structure BEff where
  hp : HS
  v : BV
  upd : HS
  nw : List Name
  nv : List (Name × Nat)
def ev (v : BV) : BEff := ⟨[], v, [], [], []⟩
def Good (P : Program) (o : Oper) (rd : TS) (hs : HS) (e : BEff) : Prop :=
  (∀ n ob, (n, ob) ∈ e.hp → look n hs = some ob) ∧
  ∀ L, Inv L hs → ∃ L' : Lens, (∀ m u, m ∉ e.nw → (m, u) ∉ e.nv → L' m u = L m u) ∧ Inv L' (e.upd ++ hs) ∧ OpOK P o ⟨erT L rd, erH L e.hp, e.v.er L', erH L' e.upd, e.nw⟩
section
variable {P : Program} {o : Oper} {rd : TS} {hs : HS}
theorem OpOK.outLe {rd : List (Nat × AV)} {hp upd upd' : List (Name × AO)} {v v' : AV} {nw : List Name} (h : OpOK P o ⟨rd, hp, v, upd, nw⟩) (hv : AVle v v')
    (hu : ∀ n, (∀ y, look n upd' = some y → ∃ x, look n upd = some x ∧ AOle x y ∧ (x = y ∨ (∃ cs ds, x = .box cs ∧ y = .box ds) ∨ (∃ es rs qs, x = .arr es rs ∧ y = .arr es qs))) ∧ (∀ x, look n upd = some x → ∃ y, look n upd' = some y)) : OpOK P o ⟨rd, hp, v', upd', nw⟩ := by
  intro Γ ρ M s a w K Q hs hh hd hK
  refine h Γ ρ M s a w K Q hs ⟨hh.rd, hh.hp, hh.nw⟩ hd (fun ρ' M' a' w' hs' => hK ρ' M' a' w' ?_)
  have hheap : ∀ n y, (s.run o.dst ⟨rd, hp, v', upd', nw⟩).heap n = some y → ∃ x, (s.run o.dst ⟨rd, hp, v, upd, nw⟩).heap n = some x ∧ AOle x y ∧ (x = y ∨ (∃ cs ds, x = .box cs ∧ y = .box ds) ∨ (∃ es rs qs, x = .arr es rs ∧ y = .arr es qs)) := fun n y hy => by
    simp only [AS.run] at hy ⊢
    cases hl : look n upd' with
    | some y' =>
      rw [hl] at hy; cases hy
      obtain ⟨x, hx, h1, h2⟩ := (hu n).1 _ hl
      exact ⟨x, by rw [hx], h1, h2⟩
    | none =>
      rw [hl] at hy
      have hn : look n upd = none := by
        cases hl2 : look n upd with
        | none => rfl
        | some x => obtain ⟨y, hy⟩ := (hu n).2 x hl2; rw [hl] at hy; simp at hy
      exact ⟨y, by rw [hn]; exact hy, .refl _, .inl rfl⟩
  refine hs'.leS (fun t y hy => ?_) (fun n => ⟨fun y hy => ?_, fun x hx => ?_⟩) (fun n x y hx hy => ?_)
  · simp only [AS.run] at hy ⊢
    split at hy
    · rename_i e; cases hy; exact ⟨v, by rw [if_pos e], hv⟩
    · rename_i e; exact ⟨y, by rw [if_neg e]; exact hy, .refl _⟩
  · obtain ⟨x, h1, h2, _⟩ := hheap n y hy; exact ⟨x, h1, h2⟩
  · have : ∃ y, (s.run o.dst ⟨rd, hp, v', upd', nw⟩).heap n = some y := by
      simp only [AS.run] at hx ⊢
      cases hl : look n upd with
      | some x' => obtain ⟨y, hy⟩ := (hu n).2 x' hl; exact ⟨y, by rw [hy]⟩
      | none =>
        rw [hl] at hx
        cases hl2 : look n upd' with
        | some y => exact ⟨y, rfl⟩
        | none => exact ⟨x, hx⟩
    obtain ⟨y, hy⟩ := this
    obtain ⟨x', h1, h2, _⟩ := hheap n y hy
    rw [hx] at h1; cases h1
    exact ⟨y, hy, h2⟩
  · obtain ⟨x', h1, _, h3⟩ := hheap n y hy
    rw [hx] at h1; cases h1
    exact h3
theorem OpOK.vLe {rd : List (Nat × AV)} {hp upd : List (Name × AO)} {v v' : AV} {nw : List Name} (h : OpOK P o ⟨rd, hp, v, upd, nw⟩) (hv : AVle v v') : OpOK P o ⟨rd, hp, v', upd, nw⟩ :=
  h.outLe hv fun n => ⟨fun y hy => ⟨y, hy, .refl _, .inl rfl⟩, fun x hx => ⟨x, hx⟩⟩
theorem Good.val {hp : HS} {v : BV} (h1 : ∀ n ob, (n, ob) ∈ hp → look n hs = some ob) (h2 : ∀ L, Inv L hs → OpOK P o ⟨erT L rd, erH L hp, v.er L, [], []⟩) : Good P o rd hs ⟨hp, v, [], [], []⟩ :=
  ⟨h1, fun L hL => ⟨L, fun _ _ _ _ => rfl, hL, h2 L hL⟩⟩
theorem Good.ev {v : BV} (h2 : ∀ L, Inv L hs → OpOK P o ⟨erT L rd, [], v.er L, [], []⟩) : Good P o rd hs (ev v) := Good.val (fun _ _ h => by simp at h) h2
def cellB : Value → BV
  | .slice none 0 0 => .nil
  | .int k x => .n k x
  | .bool b => .b b
  | .string s => .s s
  | c => .v c
theorem cellB_er (L : Lens) (c : Value) : (cellB c).er L = constCell c := by
  unfold cellB
  split
  · simp only [BV.er]; rfl
  · simp only [BV.er]; rfl
  · simp only [BV.er]; rfl
  · simp only [BV.er]; rfl
  · rename_i h1 h2 h3 h4
    simp only [BV.er]
    unfold constCell
    split
    · exact absurd rfl h1
    · rfl
def constB : Value → Option BV
  | .agg cs => if cs.toList.all (fun c => c.oneCell') then some (.agg (cs.toList.map cellB)) else none
  | c => if c.oneCell' then some (cellB c) else none
theorem erL_cells (L : Lens) (cs : List Value) : erL L (cs.map cellB) = cs.map constCell := by
  simp only [erL_map, List.map_map]; exact List.map_congr_left fun c _ => cellB_er L c
theorem constB_er {c : Value} {x : BV} (L : Lens) (h : constB c = some x) : constAV c = some (x.er L) := by
  unfold constB at h
  split at h
  · rename_i cs
    unfold constAV
    split at h
    · rename_i hall; cases h; simp only [hall, if_true, BV.er, erL_cells]
    · simp at h
  · rename_i hne
    split at h
    · rename_i ho
      cases h
      unfold constAV
      split
      · exact absurd rfl (hne _)
      · simp only [ho, if_true, cellB_er]
    · simp at h
def evalB (rd : TS) : Operand → Option BV
  | .tmp t => look t rd
  | .const c => constB c
  | .global g => some (.v (.pointer (some ⟨g, 0, none⟩)))
  | .func f => some (.v (.func (.func f) #[] #[]))
theorem evalB_er {x : Operand} {v : BV} (L : Lens) (h : evalB rd x = some v) : evalO (erT L rd) x = some (v.er L) := by
  cases x with
  | tmp t => simp only [evalB] at h; simp only [evalO, look_erT, h, Option.map_some]
  | const c => exact constB_er L h
  | global g => simp only [evalB, Option.some.injEq] at h; subst h; simp only [evalO, BV.er]
  | func f => simp only [evalB, Option.some.injEq] at h; subst h; simp only [evalO, BV.er]
def cellsB : BV → Option (List BV)
  | .agg cs => some cs
  | .tup _ => none
  | x => some [x]
theorem cellsB_er {v : BV} {cs : List BV} (L : Lens) (h : cellsB v = some cs) : cellsAV (v.er L) = some (erL L cs) := by
  cases v <;> simp only [cellsB, Option.some.injEq, reduceCtorEq] at h <;> subst h <;> simp only [BV.er, cellsAV, erL]
def evalBs (rd : TS) : List Operand → Option (List BV)
  | [] => some []
  | x :: r => match evalB rd x, evalBs rd r with
    | some v, some vs => some (v :: vs)
    | _, _ => none
theorem evalBs_er (L : Lens) : ∀ {xs : List Operand} {vs : List BV}, evalBs rd xs = some vs → evalL (erT L rd) xs = some (erL L vs)
  | [], vs, h => by simp only [evalBs, Option.some.injEq] at h; subst h; simp only [evalL, erL]
  | x :: r, vs, h => by
    simp only [evalBs] at h
    split at h
    · rename_i v vs' h1 h2
      cases h
      simp only [evalL, evalB_er L h1, evalBs_er L h2, erL]
    · simp at h
end
section
variable {R : Type} (P : Program) (ty : TypeId → Option TC) (rd : TS) (hs : HS) (K : BEff → Option R)
def bVal (x : Operand) : Option R := match evalB rd x with
  | some v => K (ev v)
  | none => none
def bPick (c x y : Operand) : Option R := match evalB rd c, evalB rd x, evalB rd y with
  | some (.b q), some u, some v => cnd q (K (ev u)) (K (ev v))
  | _, _, _ => none
def zeroB (T : TypeId) : Option (List BV) := match P.info? T with
  | some i => match i.zero with
    | some z => if z.cells.toList.all (fun c => c.oneCell') then some (z.cells.toList.map cellB) else none
    | none => none
  | none => none
def bAlloc (d : Option Nat) (T : TypeId) : Option R := match d, zeroB P T with
  | some d, some cs => K ⟨[], .ref (1000 + d) 0, [(1000 + d, .box cs)], [1000 + d], []⟩
  | _, _ => none
def bBox (d : Option Nat) (x : Operand) : Option R := match d, evalB rd x with
  | some d, some v => match cellsB v with
    | some cs => K ⟨[], .ref (1000 + d) 0, [(1000 + d, .box cs)], [1000 + d], []⟩
    | none => none
  | _, _ => none
def putCB (places : List (Nat × Nat)) : List (Nat × Operand) → List BV → Option (List BV)
  | [], cells => some cells
  | (i, x) :: r, cells => match places[i]?, evalB rd x with
    | some (off, size), some y => match cellsB y with
      | some cs => if Nat.beq cs.length size && Nat.ble (off + size) cells.length then forceL (layB cells off cs) fun cells => putCB places r cells else none
      | none => none
    | _, _ => none
def placesB (T : TypeId) : Option (List (Nat × Nat)) := match P.underlying T with
  | some (.array n e) => match sizeT P e with
    | some es => some (arrPlaces n es)
    | none => none
  | _ => structT P T
def bBuild (T : TypeId) (parts : Array (Nat × Operand)) : Option R := match placesB P T, zeroB P T with
  | some pl, some zs => match putCB rd pl parts.toList zs with
    | some cells => K (ev (.agg cells))
    | none => none
  | _, _ => none
def rowsC (t : TC) : List (Nat × Operand) → Nat → Nat → (List (TT t) → Option R) → Option R
  | [], i, len, K => if Nat.beq i len then K [] else none
  | (j, x) :: r, i, len, K => if Nat.beq j i then match evalB rd x with
      | some v => match cellsB v with
        | some cs => if Nat.beq cs.length (tz t) && cs.all BV.isP then tpop t cs fun y rest => match rest with
            | [] => rowsC t r (i + 1) len fun ys => K (y :: ys)
            | _ => none
          else none
        | none => none
      | none => none
    else none
def bBuildSlice (T : TypeId) (len : Nat) (parts : Array (Nat × Operand)) : Option R := match elemT P T with
  | some e => match ty e, sizeT P e, zeroRow P e with
    | some t, some es, some zr => if Nat.beq es (tz t) && Nat.ble 1 es && Nat.beq zr.length es && Nat.ble (len * es) 16777216 then rowsC rd t parts.toList 0 len fun l => K (ev (.ts true t l)) else none
    | _, _, _ => none
  | none => none
def bLoad (T : TypeId) (x : Operand) : Option R := match evalB rd x with
  | some (.ref n k) => match look n hs with
    | some (.box cells) => if aggT P T then
        match sizeT P T with
        | some z => if Nat.beq ((cells.drop k).take z).length z then K ⟨[(n, .box cells)], .agg ((cells.drop k).take z), [], [], []⟩ else none
        | none => none
      else if flatT P T then match cells[k]? with
        | some c => K ⟨[(n, .box cells)], c, [], [], []⟩
        | none => none
      else none
    | _ => none
  | some (.tep cells) => if cells.all BV.isP then if aggT P T then
      match sizeT P T with
      | some z => if Nat.beq (cells.take z).length z then K (ev (.agg (cells.take z))) else none
      | none => none
    else if flatT P T then match cells[0]? with
      | some c => K (ev c)
      | none => none
    else none else none
  | some (.aref n u i k) => match look n hs with
    | some (.arr t l v) => if Nat.beq u v then optc l[i]? fun y => if aggT P T then
        match sizeT P T with
        | some z => if Nat.beq (((tb t y).drop k).take z).length z then K ⟨[(n, .arr t l v)], .agg (((tb t y).drop k).take z), [], [], []⟩ else none
        | none => none
      else if flatT P T then match (tb t y)[k]? with
        | some c => K ⟨[(n, .arr t l v)], c, [], [], []⟩
        | none => none
      else none else none
    | _ => none
  | _ => none
def bStore (d : Option Nat) (T : TypeId) (x y : Operand) : Option R := match d, evalB rd x, evalB rd y with
  | none, some (.ref n k), some v => match look n hs, cellsB v, sizeT P T with
    | some (.box cells), some vs, some z => if Nat.beq z vs.length && Nat.ble (k + vs.length) cells.length then forceL (layB cells k vs) fun cells' => K ⟨[(n, .box cells)], .any, [(n, .box cells')], [], []⟩ else none
    | _, _, _ => none
  | none, some (.aref n u i k), some v => match look n hs, cellsB v, sizeT P T with
    | some (.arr t l q), some vs, some z => if Nat.beq u q then optc l[i]? fun y => if Nat.beq z vs.length && Nat.ble (k + vs.length) (tb t y).length && vs.all BV.isP then tpop t (layB (tb t y) k vs) fun y' rest => match rest with
        | [] => K ⟨[(n, .arr t l q)], .any, [(n, .arr t (l.set i y') q)], [], []⟩
        | _ => none
      else none else none
    | _, _, _ => none
  | _, _, _ => none
def bFieldAddr (S : TypeId) (x : Operand) (i : Nat) : Option R := match evalB rd x, fieldOff P S i with
  | some (.ref n k), some fo => match look n hs with
    | some (.box cells) => K ⟨[(n, .box cells)], .ref n (k + fo), [], [], []⟩
    | _ => none
  | some (.tep cells), some fo => K (ev (.tep (cells.drop fo)))
  | some (.aref n u j k), some fo => match look n hs with
    | some (.arr t l q) => if Nat.beq u q then K ⟨[(n, .arr t l q)], .aref n u j (k + fo), [], [], []⟩ else none
    | _ => none
  | _, _ => none
def bNilCheck (x : Operand) : Option R := match evalB rd x with
  | some (.ref n k) => match look n hs with
    | some (.box cells) => K ⟨[(n, .box cells)], .ref n k, [], [], []⟩
    | _ => none
  | some (.tep cells) => K (ev (.tep cells))
  | some (.aref n u j k) => match look n hs with
    | some (.arr t l q) => if Nat.beq u q then K ⟨[(n, .arr t l q)], .aref n u j k, [], [], []⟩ else none
    | _ => none
  | _ => none
def binI (op : BinOp) (k : IntKind) (a b : Int) : Option R := match op with
  | .add => K (ev (.n k (k.wrap (a + b))))
  | .sub => K (ev (.n k (k.wrap (a - b))))
  | .mul => K (ev (.n k (k.wrap (a * b))))
  | .quo => nzc b (K (ev (.n k (k.wrap (a.tdiv b)))))
  | .rem => nzc b (K (ev (.n k (a.tmod b))))
  | .lss => K (ev (.b (decide (a < b))))
  | .leq => K (ev (.b (decide (a ≤ b))))
  | .gtr => K (ev (.b (decide (b < a))))
  | .geq => K (ev (.b (decide (b ≤ a))))
  | .eql => K (ev (.b (decide (a = b))))
  | .neq => K (ev (.b (decide (a ≠ b))))
  | _ => none
def binS (op : BinOp) (a b : ByteArray) : Option R := match op with
  | .eql => K (ev (.b (decide (a = b))))
  | .neq => K (ev (.b (decide (a ≠ b))))
  | .add => lec (a.size + b.size) 9223372036854775807 (K (ev (.s (a ++ b))))
  | _ => none
def boolT (T : TypeId) : Bool := match P.underlying T with | some .bool => true | _ => false
def binB (op : BinOp) (T : TypeId) (a b : Bool) : Option R := if boolT P T then match op with
  | .eql => K (ev (.b (decide (a = b))))
  | .neq => K (ev (.b (decide (a ≠ b))))
  | _ => none else none
def bBin (op : BinOp) (T : TypeId) (x y : Operand) : Option R := match evalB rd x, evalB rd y with
  | some (.n k a), some (.n k' b) => if kEq k k' then binI K op k a b else none
  | some (.s a), some (.s b) => binS K op a b
  | some (.b a), some (.b b) => binB P K op T a b
  | _, _ => none
def bUn (op : UnOp) (x : Operand) : Option R := match op, evalB rd x with
  | .not, some (.b b) => K (ev (.b (!b)))
  | .neg, some (.n k a) => K (ev (.n k (k.wrap (0 - a))))
  | _, _ => none
def bField (T : TypeId) (x : Operand) (i : Nat) : Option R := match evalB rd x, P.underlying T with
  | some (.agg cells), some (.struct fs) => match fs[i]? with
    | some f => if aggT P f.type then
        match sizeT P f.type with
        | some z => K (ev (.agg ((cells.drop f.offset).take z)))
        | none => none
      else if flatT P f.type then match cells[f.offset]? with
        | some c => K (ev c)
        | none => none
      else none
    | none => none
  | _, _ => none
def bExtract (x : Operand) (i : Nat) : Option R := match evalB rd x with
  | some (.tup vs) => match vs[i]? with
    | some v => K (ev v)
    | none => none
  | _ => none
def bIndexAddr (T : TypeId) (x y : Operand) : Option R := match evalB rd x, evalB rd y, elemT P T with
  | some (.ts _ t l), some (.n _ j), some e => match sizeT P e with
    | some es => if Nat.beq es (tz t) then atc l j fun z => K (ev (.tep (tb t z))) else none
    | none => none
  | some (.own n u), some (.n _ j), some e => match look n hs, sizeT P e with
    | some (.arr t l q), some es => if Nat.beq es (tz t) && Nat.beq u q then natc j fun i => ltc i l.length (K ⟨[(n, .arr t l q)], .aref n u i 0, [], [], []⟩) else none
    | _, _ => none
  | some (.view n u lo hi), some (.n _ j), some e => match look n hs, sizeT P e with
    | some (.arr t l q), some es => if Nat.beq es (tz t) && Nat.beq u q then natc j fun i => ltc i (hi - lo) (K ⟨[(n, .arr t l q)], .aref n u (lo + i) 0, [], [], []⟩) else none
    | _, _ => none
  | _, _, _ => none
def bLen (T : TypeId) (x : Operand) : Option R := match evalB rd x with
  | some (.ts _ t l) => match elemT P T with
    | some _ => K (ev (.n .i64 (l.length : Int)))
    | none => none
  | some .nil => match elemT P T with
    | some _ => K (ev (.n .i64 0))
    | none => none
  | some (.own n u) => match look n hs, elemT P T with
    | some (.arr t l q), some _ => if Nat.beq u q then K ⟨[(n, .arr t l q)], .n .i64 (l.length : Int), [], [], []⟩ else none
    | _, _ => none
  | some (.view n u lo hi) => match look n hs, elemT P T with
    | some (.arr t l q), some _ => if Nat.beq u q then K ⟨[(n, .arr t l q)], .n .i64 ((hi - lo : Nat) : Int), [], [], []⟩ else none
    | _, _ => none
  | some (.s t) => match P.underlying T with
    | some .string => K (ev (.n .i64 (t.size : Int)))
    | _ => none
  | _ => none
def srcB (t0 : TC) (y : BV) (K : List (TT t0) → Option R) : Option R := match y with
  | .ts _ t x => if h : t = t0 then K (castL h x) else none
  | _ => none
def bAppend (d : Option Nat) (T : TypeId) (x y : Operand) : Option R := match evalB rd x, evalB rd y, elemT P T with
  | some (.own n u), some v, some e => match look n hs, sizeT P e, bytesT P e with
    | some (.arr t l q), some es, some bytes => if Nat.beq es (tz t) && elemOK P e es bytes && Nat.ble bytes 4096 && Nat.beq u q then srcB t v fun l' => lec (l.length + l'.length) 34359738368 (K ⟨[(n, .arr t l q)], .own n (q + 1), [(n, .arr t (l ++ l') (q + 1))], [], [(n, q + 1)]⟩) else none
    | _, _, _ => none
  | some .nil, some v, some e => match d, ty e, sizeT P e, bytesT P e with
    | some d, some t, some es, some bytes => if Nat.beq es (tz t) && elemOK P e es bytes && Nat.ble bytes 4096 && Nat.ble 1 es then srcB t v fun l' => lec l'.length 34359738368 (K ⟨[], .own (1000 + d) 0, [(1000 + d, .arr t l' 0)], [1000 + d], []⟩) else none
    | _, _, _, _ => none
  | some (.ts true t l), some v, some e => match d, sizeT P e, bytesT P e with
    | some d, some es, some bytes => if Nat.beq es (tz t) && elemOK P e es bytes && Nat.ble bytes 4096 && Nat.ble 1 es then srcB t v fun l' => match l with
        | [] => lec l'.length 34359738368 (K ⟨[], .own (1000 + d) 0, [(1000 + d, .arr t l' 0)], [1000 + d], []⟩)
        | y :: q => match l' with
          | [] => none
          | z :: r => lec ((y :: q).length + (z :: r).length) 34359738368 (K ⟨[], .own (1000 + d) 0, [(1000 + d, .arr t (y :: q ++ z :: r) 0)], [1000 + d], []⟩) else none
    | _, _, _ => none
  | _, _, _ => none
def bConv (S T : TypeId) (x : Operand) : Option R := match evalB rd x, intT P T with
  | some (.n k a), some k' => if (P.underlying S).isSome then K (ev (.n k' (k'.wrap a))) else none
  | _, _ => none
def bIndexS (T : TypeId) (x y : Operand) : Option R := match evalB rd x, evalB rd y, P.underlying T with
  | some (.s t), some (.n _ j), some .string => natc j fun i => ltc i t.size (K (ev (.n .u8 (bAt t i : Int))))
  | _, _, _ => none
end
end Go.Proofs.YtfhcigjkfelnfaaGreat.AM
/-
  The abstract machine, part R: nil errors, a byte as a text, ranging over a map in whatever order. No project text.
-/
set_option linter.unusedSimpArgs false
set_option linter.unusedVariables false
namespace Go.Proofs.YtfhcigjkfelnfaaGreat.AM
open Go
section
variable {P : Program} {o : Oper} {rd : List (Nat × AV)}
theorem run_equal_slice {T e : TypeId} (hT : P.underlying T = some (.slice e)) (a : Option Addr) (l c : Nat) (w : World) : (Op.equal T (.slice a l c) (.slice none 0 0)).run P w = .ok a.isNone w := by
  unfold Op.equal
  rw [show Op.maxDepth = (Op.maxDepth - 1) + 1 from rfl]
  cases a <;> simp [Op.equalIn, run_underlying hT]
def eqOp (op : BinOp) : Option Bool := match op with
  | .eql => some true
  | .neq => some false
  | _ => none
theorem run_eqNil {op : BinOp} {q : Bool} {T e : TypeId} (hq : eqOp op = some q) (hT : P.underlying T = some (.slice e)) (a : Option Addr) (l c : Nat) (w : World) : (binOp op T (.slice a l c) (.slice none 0 0)).run P w = .ok (.bool (a.isNone == q)) w := by
  cases op <;> simp [eqOp] at hq <;> subst hq <;> cases a <;> simp [binOp, run_equal_slice hT]
theorem OpOK.eqNilU {op : BinOp} {q : Bool} {T T' e : TypeId} {x : Operand} {f : Bool} {es : Nat} {rows : List (List PV)} (ho : o.op = .binOp op T x (.const (.slice none 0 0)) T') (hq : eqOp op = some q) (hT : P.underlying T = some (.slice e)) (hx : evalO rd x = some (.p (.sl f es rows))) :
    OpOK P o ⟨rd, [], .ub, [], []⟩ :=
  OpOK.quiet fun Γ ρ M s a w hs hh => by
    have h1 := evalO_R hs hh hx
    simp only [AV.R, PV.R] at h1
    obtain ⟨ad, cap, hu, _⟩ := h1
    refine ⟨.bool (ad.isNone == q), ?_, by simp only [AV.R]; exact ⟨_, rfl⟩⟩
    have e : a.eval (.const (.slice none 0 0)) = .slice none 0 0 := rfl
    simp [execOp, ho, hu, e, run_eqNil hq hT, eqGuard_at_slice]
theorem OpOK.eqNilN {op : BinOp} {q : Bool} {T T' e : TypeId} {x : Operand} {f : Bool} {es : Nat} {rows : List (List PV)} (ho : o.op = .binOp op T x (.const (.slice none 0 0)) T') (hq : eqOp op = some q) (hT : P.underlying T = some (.slice e)) (hx : evalO rd x = some (.p (.sl f es rows))) (hr : rows ≠ []) :
    OpOK P o ⟨rd, [], .p (.v (.bool (!q))), [], []⟩ :=
  OpOK.quiet fun Γ ρ M s a w hs hh => by
    have h1 := evalO_R hs hh hx
    simp only [AV.R, PV.R] at h1
    obtain ⟨ad, cap, hu, hl, _, hn, _⟩ := h1
    refine ⟨.bool (!q), ?_, by simp only [AV.R, PV.R]; exact ⟨trivial, rfl⟩⟩
    have e : a.eval (.const (.slice none 0 0)) = .slice none 0 0 := rfl
    have had : ad.isNone = false := by
      cases ad with
      | some x => rfl
      | none =>
        have := hn rfl
        have : rows.length = 0 := by omega
        exact absurd (List.eq_nil_of_length_eq_zero this) hr
    have := run_eqNil (P := P) hq hT ad rows.length cap w
    rw [had] at this
    simp [execOp, ho, hu, e, this, eqGuard_at_slice]
theorem OpOK.maxI {x y : Operand} {ats : Array TypeId} {m k r : Int} (ho : o.op = .call { callee := .builtin .max, args := #[x, y], argTypes := ats }) (hx : evalO rd x = some (.p (.v (.int .i64 m)))) (hy : evalO rd y = some (.p (.v (.int .i64 k)))) (hr : max m k = r) :
    OpOK P o ⟨rd, [], .p (.v (.int .i64 r)), [], []⟩ :=
  OpOK.quiet fun Γ ρ M s a w hs hh => by
    have h1 := evalO_R hs hh hx
    have h2 := evalO_R hs hh hy
    simp only [AV.R, PV.R] at h1 h2
    refine ⟨.int .i64 r, ?_, by simp only [AV.R, PV.R]; exact ⟨trivial, rfl⟩⟩
    have e : (if m < k then k else m) = r := by rw [← hr]; split <;> omega
    simp [execOp, ho, h1.1, h2.1, resolve, invoke, builtin, run_max_int2, e]
theorem OpOK.minI {x y : Operand} {ats : Array TypeId} {m k r : Int} (ho : o.op = .call { callee := .builtin .min, args := #[x, y], argTypes := ats }) (hx : evalO rd x = some (.p (.v (.int .i64 m)))) (hy : evalO rd y = some (.p (.v (.int .i64 k)))) (hr : min m k = r) :
    OpOK P o ⟨rd, [], .p (.v (.int .i64 r)), [], []⟩ :=
  OpOK.quiet fun Γ ρ M s a w hs hh => by
    have h1 := evalO_R hs hh hx
    have h2 := evalO_R hs hh hy
    simp only [AV.R, PV.R] at h1 h2
    refine ⟨.int .i64 r, ?_, by simp only [AV.R, PV.R]; exact ⟨trivial, rfl⟩⟩
    have e : (if k < m then k else m) = r := by rw [← hr]; split <;> omega
    simp [execOp, ho, h1.1, h2.1, resolve, invoke, builtin, run_min_int2, e]
def intField (P : Program) (f : Field) (i : Nat) : Bool := f.name != "_" && Nat.beq f.offset i && (match P.underlying f.type with | some (.int .i64) => true | _ => false)
def intFields (P : Program) : List Field → Nat → Bool
  | [], _ => true
  | f :: fs, i => intField P f i && intFields P fs (i + 1)
def intsT (P : Program) (T : TypeId) (n : Nat) : Bool := (match P.underlying T with | some (.struct fs) => Nat.beq fs.size n && intFields P fs.toList 0 | _ => false) && !P.stoodInHeld T && !P.eqGuardType P.depth T
theorem run_part_int {w : World} {T : TypeId} {cs : Array Value} {i : Nat} {v : Value} (hT : P.underlying T = some (.int .i64)) (h : cs[i]? = some v) : (part T cs i).run P w = .ok v w := by
  have hf : flatT P T = true := by simp [flatT, hT]
  simp [part, run_isAgg_false hf, h]
theorem eqFields_ints (d : Nat) (w : World) (xs ys : Array Value) : ∀ (fs : List Field) (i : Nat) (as1 bs : List Int), intFields P fs i = true → as1.length = fs.length → bs.length = fs.length →
    (∀ j (a : Int), as1[j]? = some a → xs[i + j]? = some (.int .i64 a)) → (∀ j (b : Int), bs[j]? = some b → ys[i + j]? = some (.int .i64 b)) → (Op.eqFields (d + 1) xs ys fs).run P w = .ok (decide (as1 = bs)) w
  | [], i, as1, bs, _, h1, h2, _, _ => by
    have e1 : as1 = [] := List.eq_nil_of_length_eq_zero (by simpa using h1)
    have e2 : bs = [] := List.eq_nil_of_length_eq_zero (by simpa using h2)
    subst e1; subst e2; simp [Op.eqFields]
  | f :: fs, i, [], bs, _, h1, _, _, _ => by simp at h1
  | f :: fs, i, a :: as1, [], _, _, h2, _, _ => by simp at h2
  | f :: fs, i, a :: as1, b :: bs, hf, h1, h2, h3, h4 => by
    simp only [intFields, intField, Bool.and_eq_true, bne_iff_ne, ne_eq] at hf
    obtain ⟨⟨⟨g1, g2⟩, g3⟩, g4⟩ := hf
    have ho : f.offset = i := Nat.eq_of_beq_eq_true g2
    have hT : P.underlying f.type = some (.int .i64) := by
      split at g3
      · assumption
      · simp at g3
    have e1 := run_part_int (w := w) hT (h3 0 a (by simp))
    have e2 := run_part_int (w := w) hT (h4 0 b (by simp))
    rw [Nat.add_zero] at e1 e2
    have ih := eqFields_ints d w xs ys fs (i + 1) as1 bs g4 (by simpa using h1) (by simpa using h2) (fun j x hx => by
      have := h3 (j + 1) x (by simpa using hx); rwa [show i + (j + 1) = i + 1 + j by omega] at this) (fun j x hx => by
      have := h4 (j + 1) x (by simpa using hx); rwa [show i + (j + 1) = i + 1 + j by omega] at this)
    simp only [Op.eqFields, if_pos g1, Sem.run_bind, ho, e1, e2, Result.andThen_ok, run_equalIn_int w d f.type .i64 .i64 a b hT]
    by_cases h : a = b
    · subst h
      simp [ih]
    · simp [h]
theorem Rs_ints {ρ : Name → Loc} {H : Heap} {M : Nat → Prop} {w : World} : ∀ {as1 : List Int} {us : List Value}, AV.Rs ρ H M w (as1.map fun a => .p (.v (.int .i64 a))) us → us = as1.map (Value.int .i64)
  | [], us, h => by simpa only [List.map_nil, AV.Rs] using h
  | a :: r, us, h => by
    simp only [List.map_cons, AV.Rs, AV.R, PV.R] at h
    obtain ⟨u, us', rfl, _, ⟨rfl, _⟩, h2⟩ := h
    rw [Rs_ints h2]; rfl
theorem OpOK.eqlInts {T T' : TypeId} {x y : Operand} {as1 bs : List Int} {q : Bool} (ho : o.op = .binOp .eql T x y T') (hT : intsT P T as1.length = true) (hl : Nat.beq bs.length as1.length = true)
    (hx : evalO rd x = some (.agg (as1.map fun a => .p (.v (.int .i64 a))))) (hy : evalO rd y = some (.agg (bs.map fun a => .p (.v (.int .i64 a))))) (hr : decide (as1 = bs) = q) : OpOK P o ⟨rd, [], .p (.v (.bool q)), [], []⟩ :=
  OpOK.quiet fun Γ ρ M s a w hs hh => by
    have h1 := evalO_R hs hh hx
    have h2 := evalO_R hs hh hy
    simp only [AV.R] at h1 h2
    obtain ⟨us, hu, k1⟩ := h1
    obtain ⟨vs, hv, k2⟩ := h2
    replace k1 := Rs_ints k1
    replace k2 := Rs_ints k2
    have hl' := Nat.eq_of_beq_eq_true hl
    unfold intsT at hT
    simp only [Bool.and_eq_true, Bool.not_eq_true'] at hT
    obtain ⟨⟨g1, g2⟩, g3⟩ := hT
    split at g1
    · rename_i fs hfs
      simp only [Bool.and_eq_true] at g1
      have hsz := Nat.eq_of_beq_eq_true g1.1
      have hF : P.fieldsOf T = fs := by simp [Program.fieldsOf, hfs]
      refine ⟨.bool q, ?_, by simp only [AV.R, PV.R]; exact ⟨trivial, rfl⟩⟩
      have e1 := run_equalIn_struct (P := P) w 9999 T us vs (by rw [hF]; exact hfs) g2
      rw [hF, eqFields_ints 9998 w us vs fs.toList 0 as1 bs g1.2 (by simp [hsz]) (by simp [hsz, hl']) (fun j a0 hj => by
        rw [Nat.zero_add, ← Array.getElem?_toList, k1, List.getElem?_map, hj]; rfl) (fun j a0 hj => by
        rw [Nat.zero_add, ← Array.getElem?_toList, k2, List.getElem?_map, hj]; rfl)] at e1
      simp [execOp, ho, hu, hv, run_eqGuard_agg w .eql T x y us vs g3, run_eql_struct, e1, hr]
    · simp at g1
end
section
variable {P : Program} {Γ : Ctx} {Q : Exit → AS → Prop}
end
end Go.Proofs.YtfhcigjkfelnfaaGreat.AM
/-
  The abstract machine, part S: structs of numbers that differ. No project text.
-/
set_option linter.unusedSimpArgs false
set_option linter.unusedVariables false
namespace Go.Proofs.YtfhcigjkfelnfaaGreat.AM
open Go
section
variable {P : Program} {o : Oper} {rd : List (Nat × AV)}
theorem OpOK.neqInts {T T' : TypeId} {x y : Operand} {as1 bs : List Int} {q : Bool} (ho : o.op = .binOp .neq T x y T') (hT : intsT P T as1.length = true) (hl : Nat.beq bs.length as1.length = true)
    (hx : evalO rd x = some (.agg (as1.map fun a => .p (.v (.int .i64 a))))) (hy : evalO rd y = some (.agg (bs.map fun a => .p (.v (.int .i64 a))))) (hr : decide (as1 ≠ bs) = q) : OpOK P o ⟨rd, [], .p (.v (.bool q)), [], []⟩ :=
  OpOK.quiet fun Γ ρ M s a w hs hh => by
    have h1 := evalO_R hs hh hx
    have h2 := evalO_R hs hh hy
    simp only [AV.R] at h1 h2
    obtain ⟨us, hu, k1⟩ := h1
    obtain ⟨vs, hv, k2⟩ := h2
    replace k1 := Rs_ints k1
    replace k2 := Rs_ints k2
    have hl' := Nat.eq_of_beq_eq_true hl
    unfold intsT at hT
    simp only [Bool.and_eq_true, Bool.not_eq_true'] at hT
    obtain ⟨⟨g1, g2⟩, g3⟩ := hT
    split at g1
    · rename_i fs hfs
      simp only [Bool.and_eq_true] at g1
      have hsz := Nat.eq_of_beq_eq_true g1.1
      have hF : P.fieldsOf T = fs := by simp [Program.fieldsOf, hfs]
      refine ⟨.bool q, ?_, by simp only [AV.R, PV.R]; exact ⟨trivial, rfl⟩⟩
      have e1 := run_equalIn_struct (P := P) w 9999 T us vs (by rw [hF]; exact hfs) g2
      rw [hF, eqFields_ints 9998 w us vs fs.toList 0 as1 bs g1.2 (by simp [hsz]) (by simp [hsz, hl']) (fun j a0 hj => by
        rw [Nat.zero_add, ← Array.getElem?_toList, k1, List.getElem?_map, hj]; rfl) (fun j a0 hj => by
        rw [Nat.zero_add, ← Array.getElem?_toList, k2, List.getElem?_map, hj]; rfl)] at e1
      have hq : (!decide (as1 = bs)) = q := by rw [← hr]; simp
      simp [execOp, ho, hu, hv, run_eqGuard_agg w .neq T x y us vs g3, run_neq_struct, e1, hq]
    · simp at g1
theorem OpOK.sliceLo {T e : TypeId} {x lo : Operand} {full : Bool} {es k : Nat} {rows rows' : List (List PV)} {i : Int} (ho : o.op = .slice T x (some lo) none none) (hT : P.underlying T = some (.slice e)) (hz : sizeT P e = some es)
    (hx : evalO rd x = some (.p (.sl full es rows))) (hlo : evalO rd lo = some (.p (.v (.int .i64 i)))) (hi : i = ((k : Nat) : Int)) (hk : k ≤ rows.length) (hr : rows.drop k = rows') : OpOK P o ⟨rd, [], .p (.sl full es rows'), [], []⟩ :=
  OpOK.quiet fun Γ ρ M s a w hs hh => by
    subst hr; subst hi
    have h1 := evalO_R hs hh hx
    have h2 := evalO_R hs hh hlo
    simp only [AV.R, PV.R] at h1 h2
    obtain ⟨ad, cap, hu, hl, hf, hn, hc⟩ := h1
    refine ⟨.slice (if cap = k then ad else ad.map (·.add (k * es))) (rows.length - k) (cap - k), ?_, ?_⟩
    · have hb : (Instr.sliceBounds true rows.length cap (some (.int .i64 ((k : Nat) : Int))) none none).run P w = .ok (k, rows.length, cap) w := by
        unfold Instr.sliceBounds
        simp [run_sliceBound, hk]
      simp [execOp, ho, hu, h2.1, Instr.sliceAt, Instr.slice, run_underlying hT, hb, run_sizeOf hz]
    · simp only [AV.R, PV.R, List.length_drop]
      refine ⟨_, _, rfl, by omega, fun h => by rw [hf h], fun h => ?_, fun ad' had hcap => ?_⟩
      · split at h
        · omega
        · cases ad with
          | none => rw [hn rfl]; omega
          | some x => simp at h
      · have hne : ¬ cap = k := by omega
        rw [if_neg hne] at had
        cases ad with
        | none => simp at had
        | some x =>
          obtain ⟨g1, g2, g3, g4⟩ := hc x rfl (by omega)
          obtain ⟨b0, o0, s0⟩ := x
          simp only at g1; subst g1
          simp only [Option.map_some, Option.some.injEq] at had
          rw [addr_add] at had
          subst had
          exact ⟨rfl, g2, g3, g4.drop k⟩
end
end Go.Proofs.YtfhcigjkfelnfaaGreat.AM
/-
  The abstract machine, part T: an array of ours is copied within itself. No project text.
-/
set_option linter.unusedSimpArgs false
set_option linter.unusedVariables false
namespace Go.Proofs.YtfhcigjkfelnfaaGreat.AM
open Go
section
variable {P : Program} {o : Oper} {rd : List (Nat × AV)}
end
end Go.Proofs.YtfhcigjkfelnfaaGreat.AM
/-
  The abstract machine, part V: slices of pure data with any bounds; parts of an array of ours (views). No project text.
-/
set_option linter.unusedSimpArgs false
set_option linter.unusedVariables false
namespace Go.Proofs.YtfhcigjkfelnfaaGreat.AM
open Go
section
variable {P : Program} {o : Oper} {rd : List (Nat × AV)}
theorem run_bounds {Γ : Ctx} {ρ : Name → Loc} {M : Nat → Prop} {s : AS} {a : Act} {w : World} {e : Eff} (hs : Sim Γ ρ M s a w) (hh : s.holds e) {lo hi : Option Operand} {len cap k m : Nat}
    (hlo : optB e.rd 0 lo = some ((k : Nat) : Int)) (hhi : optB e.rd len hi = some ((m : Nat) : Int)) (h1 : k ≤ m) (h2 : m ≤ len) (h3 : len ≤ cap) :
    (Instr.sliceBounds true len cap (lo.map a.eval) (hi.map a.eval) none).run P w = .ok (k, m, cap) w := by
  have hb1 := run_bound (P := P) (w := w) (y := cap) (c := .sliceAcap) hs hh hhi (Nat.le_trans h2 h3)
  have hb2 := run_bound (P := P) (w := w) (c := .sliceB) hs hh hlo h1
  unfold Instr.sliceBounds
  cases lo <;> cases hi <;> simp_all
theorem OpOK.sliceP {T e : TypeId} {x : Operand} {lo hi : Option Operand} {full : Bool} {es k m : Nat} {rows : List (List PV)} (ho : o.op = .slice T x lo hi none) (hT : P.underlying T = some (.slice e)) (hz : sizeT P e = some es)
    (hx : evalO rd x = some (.p (.sl full es rows))) (hlo : optB rd 0 lo = some ((k : Nat) : Int)) (hhi : optB rd rows.length hi = some ((m : Nat) : Int)) (h1 : k ≤ m) (h2 : m ≤ rows.length) : OpOK P o ⟨rd, [], .p (.sl false es ((rows.take m).drop k)), [], []⟩ :=
  OpOK.quiet fun Γ ρ M s a w hs hh => by
    have hr := evalO_R hs hh hx
    simp only [AV.R, PV.R] at hr
    obtain ⟨ad, cap, hu, hl, hf, hn, hc⟩ := hr
    have hb := run_bounds (P := P) hs hh hlo hhi h1 h2 hl
    refine ⟨.slice (if cap = k then ad else ad.map (·.add (k * es))) (m - k) (cap - k), ?_, ?_⟩
    · simp [execOp, ho, hu, Instr.sliceAt, Instr.slice, run_underlying hT, hb, run_sizeOf hz]
    · simp only [AV.R, PV.R, List.length_drop, List.length_take, Nat.min_eq_left h2]
      refine ⟨_, _, rfl, by omega, fun h => by simp at h, fun h => ?_, fun ad' had hcap => ?_⟩
      · split at h
        · omega
        · cases ad with
          | none => rw [hn rfl]; omega
          | some x => simp at h
      · have hne : ¬ cap = k := by omega
        rw [if_neg hne] at had
        cases ad with
        | none => simp at had
        | some x =>
          obtain ⟨g1, g2, g3, g4⟩ := hc x rfl (by omega)
          obtain ⟨b0, o0, s0⟩ := x
          simp only at g1; subst g1
          simp only [Option.map_some, Option.some.injEq] at had
          rw [addr_add] at had
          subst had
          exact ⟨rfl, g2, g3, (g4.take m).drop k⟩
theorem OpOK.sliceView {T e : TypeId} {x : Operand} {lo hi : Option Operand} {n : Name} {es len k m : Nat} {rows : List (List PV)} (ho : o.op = .slice T x lo hi none) (hT : P.underlying T = some (.slice e)) (hz : sizeT P e = some es)
    (hx : evalO rd x = some (.own n len)) (hlo : optB rd 0 lo = some ((k : Nat) : Int)) (hhi : optB rd len hi = some ((m : Nat) : Int)) (hlen : Nat.beq len rows.length = true) (h1 : k ≤ m) (h2 : m ≤ rows.length) :
    OpOK P o ⟨rd, [(n, .arr es rows)], .view n len k m, [], []⟩ :=
  OpOK.quiet fun Γ ρ M s a w hs hh => by
    have hr := evalO_R hs hh hx
    simp only [AV.R] at hr
    have hn := hh.hp n _ (by simp : (n, AO.arr es rows) ∈ _)
    have hle := Nat.eq_of_beq_eq_true hlen
    have hu := (hr.2 _ es rows.length hn rfl).2 hle
    obtain ⟨hes, hcap, _⟩ := hs.objs n _ hn
    have hb := run_bounds (P := P) (cap := (ρ n).cap) hs hh hlo hhi h1 (by rw [hle]; exact h2) (by rw [hle]; exact hcap)
    refine ⟨viewV (.slice (ρ n).base len (ρ n).cap) k m es, ?_, ?_⟩
    · simp [execOp, ho, hu, Instr.sliceAt, Instr.slice, run_underlying hT, hb, run_sizeOf hz, viewV]
    · simp only [AV.R]
      refine ⟨rfl, h1, by rw [hle]; exact h2, fun ob es' kk hob hsh => ?_⟩
      rw [hn] at hob; cases hob
      simp only [AO.shape, Option.some.injEq, Prod.mk.injEq] at hsh
      obtain ⟨rfl, rfl⟩ := hsh
      exact ⟨by omega, fun _ => rfl⟩
theorem Rs_cell {ρ : Name → Loc} {H : Heap} {M : Nat → Prop} {w : World} : ∀ {ps : List PV} {us : List Value}, AV.Rs ρ H M w (pcells ps) us → ∀ (q : Nat) (p : PV), ps[q]? = some p → ∃ u : Value, us[q]? = some u ∧ p.R M w u
  | [], us, _, q, p, h => by simp at h
  | x :: ps, us, h, q, p, hq => by
    simp only [pcells, List.map_cons, AV.Rs] at h
    obtain ⟨u, us', rfl, _, h3, h4⟩ := h
    cases q with
    | zero => simp only [List.getElem?_cons_zero, Option.some.injEq] at hq; subst hq; exact ⟨u, rfl, by simpa only [AV.R] using h3⟩
    | succ q => simpa using Rs_cell (ps := ps) h4 q p (by simpa using hq)
theorem OpOK.lenView {T e : TypeId} {x : Operand} {ats : Array TypeId} {n : Name} {len lo hi es : Nat} {rows : List (List PV)} (ho : o.op = .call { callee := .builtin .len, args := #[x], argTypes := ats }) (hat : ats[0]? = some T) (hT : elemT P T = some e)
    (hx : evalO rd x = some (.view n len lo hi)) (hlen : Nat.beq len rows.length = true) : OpOK P o ⟨rd, [(n, .arr es rows)], .p (.v (.int .i64 ((hi - lo : Nat) : Int))), [], []⟩ :=
  OpOK.quiet fun Γ ρ M s a w hs hh => by
    have hr' := evalO_R hs hh hx
    simp only [AV.R] at hr'
    have hle := Nat.eq_of_beq_eq_true hlen
    have hu := (hr'.2.2.2 (.arr es rows) es rows.length (hh.hp n _ (by simp)) rfl).2 hle
    simp only [viewV] at hu
    refine ⟨.int .i64 ((hi - lo : Nat) : Int), ?_, by simp only [AV.R, PV.R]; exact ⟨trivial, rfl⟩⟩
    simp [execOp, ho, resolve, invoke, builtin, Builtin.len_, hat, hu, run_underlying (elemT_spec hT), goInt]
theorem OpOK.indexView {T e : TypeId} {x y : Operand} {n : Name} {len lo hi es i : Nat} {rows : List (List PV)} {k : IntKind} {j : Int} (ho : o.op = .indexAddr T x y) (hT : elemT P T = some e) (hz : sizeT P e = some es)
    (hx : evalO rd x = some (.view n len lo hi)) (hlen : Nat.beq len rows.length = true) (hy : evalO rd y = some (.p (.v (.int k j)))) (hj : j = (i : Int)) (hi : i < hi - lo) : OpOK P o ⟨rd, [(n, .arr es rows)], .aref n len (lo + i) 0, [], []⟩ :=
  OpOK.quiet fun Γ ρ M s a w hs hh => by
    have hr := evalO_R hs hh hx
    simp only [AV.R] at hr
    have hn := hh.hp n _ (by simp : (n, AO.arr es rows) ∈ _)
    have hle := Nat.eq_of_beq_eq_true hlen
    have hu := (hr.2.2.2 _ es rows.length hn rfl).2 hle
    have hhi := hr.2.2.1
    obtain ⟨h0, h1, h2⟩ := hs.objs n _ hn
    rcases h2 with h2 | ⟨b, T', cs, h3, h4, h5, h6, h7⟩
    · omega
    · have hc : ¬ (ρ n).cap = lo := by omega
      simp only [viewV, hc, if_false, h3, Option.map_some, addr_add] at hu
      refine ⟨.pointer (some ⟨b, (lo + i) * es, none⟩), ?_, ?_⟩
      · simp [execOp, ho, hu, eval_v hs hh hy, Instr.indexAt, asIntOf, run_underlying (elemT_spec hT), hj, hi, run_sizeOf hz, addr_add, Nat.add_mul]
      · simp only [AV.R]
        refine ⟨rfl, fun o' es' k' hc hs' => ?_⟩
        rw [hn] at hc; cases hc
        cases hs'
        exact ⟨by omega, fun _ => ⟨b, h3, by simp⟩⟩
theorem OpOK.sliceView2 {T e : TypeId} {x : Operand} {lo hi : Option Operand} {n : Name} {es len a b k m : Nat} {rows : List (List PV)} (ho : o.op = .slice T x lo hi none) (hT : P.underlying T = some (.slice e)) (hz : sizeT P e = some es)
    (hx : evalO rd x = some (.view n len a b)) (hlo : optB rd 0 lo = some ((k : Nat) : Int)) (hhi : optB rd (b - a) hi = some ((m : Nat) : Int)) (hlen : Nat.beq len rows.length = true) (h1 : k ≤ m) (h2 : m ≤ b - a) (h3 : a = 0 ∨ k = 0 ∨ k < m) :
    OpOK P o ⟨rd, [(n, .arr es rows)], .view n len (a + k) (a + m), [], []⟩ :=
  OpOK.quiet fun Γ ρ M s w0 w hs hh => by
    have hr := evalO_R hs hh hx
    simp only [AV.R] at hr
    have hn := hh.hp n _ (by simp : (n, AO.arr es rows) ∈ _)
    have hle := Nat.eq_of_beq_eq_true hlen
    have hu := (hr.2.2.2 _ es rows.length hn rfl).2 hle
    have hab := hr.2.1
    have hbl := hr.2.2.1
    obtain ⟨hes, hcap, hobj⟩ := hs.objs n _ hn
    have hb := run_bounds (P := P) (cap := (ρ n).cap - a) hs hh hlo hhi h1 h2 (by omega)
    simp only [viewV] at hu
    obtain ⟨ad, had⟩ : ∃ ad, ad = (if (ρ n).cap = a then (ρ n).base else (ρ n).base.map (·.add (a * es))) := ⟨_, rfl⟩
    rw [← had] at hu
    refine ⟨.slice (if (ρ n).cap - a = k then ad else ad.map (·.add (k * es))) (m - k) ((ρ n).cap - a - k), ?_, ?_⟩
    · simp [execOp, ho, hu, Instr.sliceAt, Instr.slice, run_underlying hT, hb, run_sizeOf hz]
    · simp only [AV.R]
      refine ⟨rfl, by omega, by omega, fun ob es' kk hob hsh => ?_⟩
      rw [hn] at hob; cases hob
      simp only [AO.shape, Option.some.injEq, Prod.mk.injEq] at hsh
      obtain ⟨rfl, rfl⟩ := hsh
      refine ⟨by omega, fun _ => ?_⟩
      simp only [viewV]
      rw [show a + m - (a + k) = m - k by omega, show (ρ n).cap - a - k = (ρ n).cap - (a + k) by omega]
      congr 1
      by_cases hca : (ρ n).cap = a
      · have hk0 : k = 0 := by omega
        subst hk0
        rw [if_pos (by omega), if_pos (by omega), had, if_pos hca]
      · rcases hobj with hobj | ⟨b', t, cs, g3, _⟩
        · exact absurd (show (ρ n).cap = a by omega) hca
        · rw [had, if_neg hca]
          by_cases hck : (ρ n).cap = a + k
          · have h4 : a = 0 := by omega
            subst h4
            rw [if_pos (by omega), if_pos hck, g3]
            simp [addr_add]
          · rw [if_neg (by omega), if_neg hck, g3]
            simp [addr_add, Nat.add_mul]
theorem OpOK.clearView {T e : TypeId} {x : Operand} {ats : Array TypeId} {n : Name} {es len i m : Nat} {zr : List PV} {rows rows' : List (List PV)} (ho : o.op = .call { callee := .builtin .clear, args := #[x], argTypes := ats }) (hat : ats[0]? = some T)
    (hT : P.underlying T = some (.slice e)) (hz : sizeT P e = some es) (hzr : zeroRow P e = some zr) (hzl : zr.length = es) (hx : evalO rd x = some (.view n len i m)) (hlen : Nat.beq len rows.length = true) (hi : i ≤ m) (hm : m ≤ rows.length)
    (hr : rows.take i ++ List.replicate (m - i) zr ++ rows.drop m = rows') : OpOK P o ⟨rd, [(n, .arr es rows)], .tup [], [(n, .arr es rows')], []⟩ :=
  OpOK.upd fun Γ ρ M s a w hs hh => by
    subst hr
    have hn := hh.hp n _ (by simp : (n, AO.arr es rows) ∈ _)
    have hle := Nat.eq_of_beq_eq_true hlen
    have h1 := evalO_R hs hh hx
    simp only [AV.R] at h1
    have hX := (h1.2.2.2 _ es rows.length hn rfl).2 hle
    simp only [viewV] at hX
    obtain ⟨hes, hcap, hobj⟩ := hs.objs n _ hn
    have hres : ∀ ρ' H' M' w', AV.R ρ' H' M' w' (.tup []) (.tuple #[]) := fun _ _ _ _ => by simp only [AV.R, AV.Ts]; exact ⟨#[], rfl, rfl⟩
    unfold zeroRow at hzr
    split at hzr
    case h_2 => simp at hzr
    rename_i zs hcs
    obtain ⟨inf, z, hinf, hz', hall, rfl⟩ := zeroAV_spec hcs
    by_cases hz0 : m - i = 0
    · have hrows : rows.take i ++ List.replicate (m - i) zr ++ rows.drop m = rows := by rw [hz0, List.replicate_zero, List.append_nil, show m = i by omega]; exact List.take_append_drop i rows
      rw [hrows]
      refine ⟨_, w, ρ, M, ?_, hs.congr (fun t => rfl) (fun m => ?_), hres _ _ _ _⟩
      · have hl0 : m - i = 0 := hz0
        have hA : ∀ (d : Option Addr) (c : Nat), (Builtin.clear_ ats o.type #[.slice d 0 c]).run P w = .ok (.tuple #[]) w := fun d c => by
          cases d <;> simp [Builtin.clear_, hat, run_underlying hT]
        rw [hl0] at hX
        simp [execOp, ho, resolve, invoke, builtin, hX, hA]
      · by_cases e : m = n
        · subst e; simp [hn]
        · simp [e]
    · rcases hobj with hobj | ⟨b, t, cs, h3, h4, h5, h6, h7⟩
      · omega
      · have hci : ¬ (ρ n).cap = i := by omega
        have hdst : a.eval x = .slice (some ⟨b, i * es, none⟩) (m - i) ((ρ n).cap - i) := by rw [hX]; simp [hci, h3, addr_add]
        have hzR : AV.Rs ρ s.heap M w (pcells zr) z.cells.toList := by rw [← pureL_spec hzr]; exact constCells_R hall
        have hzlen : z.cells.toList.length = es := by have := hzR.length; rw [this]; simp [pcells, hzl]
        have hN2 : i * es + (m - i) * es ≤ cs.size := by rw [h6, ← Nat.add_mul]; exact Nat.mul_le_mul_right es (by omega)
        obtain ⟨vs, hvs⟩ : ∃ vs, vs = (Builtin.zeroCells z.cells (m - i)).toList := ⟨_, rfl⟩
        have hzsz : z.cells.size = es := by simpa using hzlen
        have hvl : vs.length = (m - i) * es := by rw [hvs]; simp [Builtin.zeroCells, hzsz]
        have hget : ∀ q, q < (m - i) * es → vs[q]? = z.cells.toList[q % es]? := fun q hq => by
          have hmod : q % es < es := Nat.mod_lt _ hes
          rw [hvs]
          simp only [Builtin.zeroCells, hzsz, Array.getElem?_toList]
          rw [Array.getElem?_map, Array.getElem?_range]
          simp [hq, hzsz, hmod, getElem!_def]
        have hold : ∀ q, w.cell? ⟨b, q, none⟩ = cs.toList[q]? := fun q => by simp [World.cell?, h5]
        have hone : ∀ v ∈ vs, v.oneCell' = true := by
          intro v hv
          obtain ⟨q, hq, e⟩ := List.getElem_of_mem hv
          rw [hvl] at hq
          have hmod : q % es < es := Nat.mod_lt _ hes
          have h := hget q hq
          rw [List.getElem?_eq_getElem (by omega), e] at h
          obtain ⟨u, k1, k2⟩ := Rs_cell hzR (q % es) zr[q % es] (List.getElem?_eq_getElem (by omega))
          rw [k1] at h
          have : v = u := by simpa using h
          rw [this]; exact k2.flat
        have hstore := run_storeCells_at (P := P) b (i * es) t vs 0 cs w h5 (by rw [hvl]; omega) hone
        have hw : (setAt cs.toList (i * es) vs).toArray = (cs.toList.take (i * es + 0) ++ vs ++ cs.toList.drop (i * es + 0 + vs.length)).toArray := by unfold setAt; rfl
        refine ⟨_, w.setRow b (setAt cs.toList (i * es) vs).toArray, (fun m => if m = n then ρ n else ρ m), M, ?_, ?_, hres _ _ _ _⟩
        · have hne : m - i ≠ 0 := hz0
          have hrun : (Builtin.clear_ ats o.type #[a.eval x]).run P w = .ok (.tuple #[]) (w.setRow b (setAt cs.toList (i * es) vs).toArray) := by
            rw [hdst]
            obtain ⟨nn, hnn⟩ : ∃ nn, m - i = nn + 1 := ⟨m - i - 1, by omega⟩
            rw [hnn] at hvs ⊢
            simp [Builtin.clear_, hat, run_underlying hT, run_zeroValue hinf hz', ← hvs]
            rw [hstore, hw]; rfl
          simp [execOp, ho, resolve, invoke, builtin, hrun]
        · have hblk : (ρ n).blk = some b := by
            have : (ρ n).cap ≠ 0 := by omega
            simp [Loc.blk, this, h3]
          have he : Ext (fun b' => b' = b) w (w.setRow b (setAt cs.toList (i * es) vs).toArray) := ⟨by simp [World.setRow], fun b' hb hne => setRow_other w b b' _ hne, rfl, rfl⟩
          have hM : M b := h4
          have hlen' : (rows.take i ++ List.replicate (m - i) zr ++ rows.drop m).length = rows.length := by simp; omega
          refine hs.update1 (he.weaken fun b' _ hb => ⟨by rw [hblk, hb], by rw [hn]; simp⟩) (fun _ hb => hb) (fun _ hb => .inl hb) (fun b' hb => Nat.lt_of_lt_of_le (hs.msize b' hb) he.size)
            (fun o' ho' => by rw [hn] at ho'; cases ho'; simp only [stays]; exact ⟨trivial, by rw [hlen']; exact Nat.le_refl _, fun _ => trivial⟩) (fun h0 => by rw [hn] at h0; simp at h0) ?_ (fun b' hb => .inl ⟨_, hn, hb⟩)
          refine ⟨hes, by rw [hlen']; simpa using hcap, .inr ⟨b, t, _, by simp [h3], hM, setRow_heap w b cs _ t (0, 0) h5, ?_, ?_⟩⟩
          · simp only [if_true, List.size_toArray, setAt, List.length_append, List.length_take, List.length_drop, Array.length_toList, ← h6, hvl]
            omega
          · have hmono : ∀ {x : PV} {u : Value}, x.R M w u → x.R M (w.setRow b (setAt cs.toList (i * es) vs).toArray) u := fun h => h.mono he (fun b' hb => by rw [hb]; exact hM) (fun b' _ hb => hb)
            have hcell : ∀ q, (w.setRow b (setAt cs.toList (i * es) vs).toArray).cell? ⟨b, q, none⟩ = (setAt cs.toList (i * es) vs)[q]? := fun q => by
              rw [cell_setRow_same w b q cs _ t (0, 0) h5, List.getElem?_toArray]
            have hset : ∀ q, (setAt cs.toList (i * es) vs)[q]? = if i * es ≤ q ∧ q < i * es + (m - i) * es then vs[q - i * es]? else cs.toList[q]? := fun q => by
              have htl : (List.take (i * es) cs.toList).length = i * es := by simp; omega
              unfold setAt
              by_cases c1 : q < i * es
              · rw [if_neg (by omega), List.append_assoc, List.getElem?_append_left (by omega), List.getElem?_take_of_lt c1]
              · by_cases c2 : q < i * es + (m - i) * es
                · rw [if_pos ⟨by omega, c2⟩, List.append_assoc, List.getElem?_append_right (by omega), List.getElem?_append_left (by rw [htl, hvl]; omega), htl]
                · rw [if_neg (by omega), List.getElem?_append_right (by simp only [List.length_append, htl, hvl]; omega), List.getElem?_drop]
                  congr 1
                  simp only [List.length_append, htl, hvl]; omega
            refine PV.Rows.of_get fun i' r' hi' => ?_
            have htk : (rows.take i).length = i := by simp; omega
            rw [List.append_assoc, List.getElem?_append] at hi'
            by_cases c : i' < i
            · rw [if_pos (by omega), List.getElem?_take, if_pos c] at hi'
              obtain ⟨g1, g2⟩ := h7.get i' r' hi'
              refine ⟨g1, PV.Cells.of_get fun q p hq => ?_⟩
              obtain ⟨u, k1, k2⟩ := g2.get q p hq
              have hq' : q < es := by rw [← g1]; exact (List.getElem?_eq_some_iff.1 hq).1
              have hlt : i' * es + q < i * es := by
                have : (i' + 1) * es ≤ i * es := Nat.mul_le_mul_right es c
                rw [Nat.succ_mul] at this; omega
              refine ⟨u, ?_, hmono k2⟩
              rw [hcell, hset, if_neg (by omega), ← hold]; exact k1
            · rw [if_neg (by omega), htk, List.getElem?_append, List.length_replicate, List.getElem?_replicate] at hi'
              by_cases hlt : i' - i < m - i
              · rw [if_pos hlt, if_pos hlt] at hi'
                cases hi'
                refine ⟨hzl, PV.Cells.of_get fun q p hq => ?_⟩
                have hq' : q < es := by rw [← hzl]; exact (List.getElem?_eq_some_iff.1 hq).1
                obtain ⟨u, k1, k2⟩ := Rs_cell hzR q p hq
                have e1 : i' * es = i * es + (i' - i) * es := by rw [← Nat.add_mul]; congr 1; omega
                have hlt2 : (i' - i) * es + q < (m - i) * es := by
                  have : (i' - i + 1) * es ≤ (m - i) * es := Nat.mul_le_mul_right es hlt
                  rw [Nat.succ_mul] at this; omega
                refine ⟨u, ?_, hmono k2⟩
                rw [hcell, hset, if_pos (by omega), show 0 + i' * es + q - i * es = (i' - i) * es + q by omega, hget _ hlt2, ← k1]
                rw [Nat.add_comm, Nat.add_mul_mod_self_right, Nat.mod_eq_of_lt hq']
              · rw [if_neg hlt, List.getElem?_drop, show m + (i' - i - (m - i)) = i' by omega] at hi'
                obtain ⟨g1, g2⟩ := h7.get i' r' hi'
                refine ⟨g1, PV.Cells.of_get fun q p hq => ?_⟩
                obtain ⟨u, k1, k2⟩ := g2.get q p hq
                have hge : i * es + (m - i) * es ≤ i' * es := by
                  rw [← Nat.add_mul]; exact Nat.mul_le_mul_right es (by omega)
                refine ⟨u, ?_, hmono k2⟩
                rw [hcell, hset, if_neg (by omega), ← hold]; exact k1
theorem OpOK.copyView {T e : TypeId} {x y : Operand} {ats : Array TypeId} {n : Name} {es len i j : Nat} {rows rows' : List (List PV)} {r : Int} (ho : o.op = .call { callee := .builtin .copy, args := #[x, y], argTypes := ats }) (hat : ats = #[T, T])
    (hT : P.underlying T = some (.slice e)) (hz : sizeT P e = some es) (hx : evalO rd x = some (.view n len i len)) (hy : evalO rd y = some (.view n len j len)) (hlen : Nat.beq len rows.length = true) (hi : i ≤ rows.length) (hj : j ≤ i)
    (hr : rows.take i ++ (rows.drop j).take (rows.length - i) = rows') (hv : ((rows.length - i : Nat) : Int) = r) :
    OpOK P o ⟨rd, [(n, .arr es rows)], .p (.v (.int .i64 r)), [(n, .arr es rows')], []⟩ :=
  OpOK.upd fun Γ ρ M s a w hs hh => by
    subst hr; subst hv; subst hat
    have hn := hh.hp n _ (by simp : (n, AO.arr es rows) ∈ _)
    have hle := Nat.eq_of_beq_eq_true hlen
    have h1 := evalO_R hs hh hx
    have h2 := evalO_R hs hh hy
    simp only [AV.R] at h1 h2
    have hX := (h1.2.2.2 _ es rows.length hn rfl).2 hle
    have hY := (h2.2.2.2 _ es rows.length hn rfl).2 hle
    simp only [viewV] at hX hY
    obtain ⟨hes, hcap, hobj⟩ := hs.objs n _ hn
    have hsz := run_sizeOf (P := P) (w := w) hz
    have hres : ∀ ρ' H' M' w', AV.R ρ' H' M' w' (.p (.v (.int .i64 ((rows.length - i : Nat) : Int)))) (.int .i64 ((rows.length - i : Nat) : Int)) := fun _ _ _ _ => by simp only [AV.R, PV.R]; exact ⟨trivial, rfl⟩
    have hmin : Nat.min (len - j) (len - i) = rows.length - i := by rw [hle]; exact Nat.min_eq_right (by omega)
    by_cases hz0 : rows.length - i = 0
    · have hrows : rows.take i ++ (rows.drop j).take (rows.length - i) = rows := by rw [hz0, List.take_zero, List.append_nil]; exact List.take_of_length_le (by omega)
      rw [hrows]
      refine ⟨_, w, ρ, M, ?_, hs.congr (fun t => rfl) (fun m => ?_), hres _ _ _ _⟩
      · have hl : ∀ (q : Addr), (loadCells q 0).run P w = .ok #[] w := fun q => by simpa using run_loadCells_list (P := P) w q [] (by simp)
        have hA : ∀ (d q : Option Addr) (dc qc : Nat), (Builtin.copy_ #[T, T] o.type #[.slice d (len - i) dc, .slice q (len - j) qc]).run P w = .ok (goInt ((rows.length - i : Nat) : Int)) w := fun d q dc qc => by
          cases d <;> cases q <;> simp [Builtin.copy_, run_underlying hT, Builtin.lenOf, Builtin.firstCells, hsz, hmin, hz0, storeCells, hl, Result.andThen]
        simp [execOp, ho, resolve, invoke, builtin, hX, hY, hA, goInt]
      · by_cases e : m = n
        · subst e; simp [hn]
        · simp [e]
    · rcases hobj with hobj | ⟨b, t, cs, h3, h4, h5, h6, h7⟩
      · omega
      · have hci : ¬ (ρ n).cap = i := by omega
        have hcj : ¬ (ρ n).cap = j := by omega
        have hdst : a.eval x = .slice (some ⟨b, i * es, none⟩) (len - i) ((ρ n).cap - i) := by rw [hX]; simp [hci, h3, addr_add]
        have hsrc : a.eval y = .slice (some ⟨b, j * es, none⟩) (len - j) ((ρ n).cap - j) := by rw [hY]; simp [hcj, h3, addr_add]
        have hN : (rows.length - i) * es + j * es ≤ cs.size := by rw [h6, ← Nat.add_mul]; exact Nat.mul_le_mul_right es (by omega)
        have hN2 : i * es + (rows.length - i) * es ≤ cs.size := by rw [h6, ← Nat.add_mul]; exact Nat.mul_le_mul_right es (by omega)
        obtain ⟨vs, hvs⟩ : ∃ vs, vs = (cs.toList.drop (j * es)).take ((rows.length - i) * es) := ⟨_, rfl⟩
        have hvl : vs.length = (rows.length - i) * es := by rw [hvs]; simp; omega
        have hget : ∀ q, q < (rows.length - i) * es → vs[q]? = cs.toList[j * es + q]? := fun q hq => by rw [hvs, List.getElem?_take, if_pos hq, List.getElem?_drop]
        have hold : ∀ q, w.cell? ⟨b, q, none⟩ = cs.toList[q]? := fun q => by simp [World.cell?, h5]
        have hone : ∀ v ∈ vs, v.oneCell' = true := by
          intro v hv
          obtain ⟨q, hq, e⟩ := List.getElem_of_mem hv
          rw [hvl] at hq
          have hdiv : q / es < rows.length - i := Nat.div_lt_of_lt_mul (by rw [Nat.mul_comm]; exact hq)
          have hmod : q % es < es := Nat.mod_lt _ hes
          have hrow : rows[j + q / es]? = some rows[j + q / es] := List.getElem?_eq_getElem (by omega)
          obtain ⟨g1, g2⟩ := h7.get _ _ hrow
          have hc : rows[j + q / es][q % es]? = some rows[j + q / es][q % es] := List.getElem?_eq_getElem (by omega)
          obtain ⟨u, k1, k2⟩ := g2.get _ _ hc
          have hpos : 0 + (j + q / es) * es + q % es = j * es + q := by
            have := Nat.div_add_mod q es
            rw [Nat.add_mul, Nat.mul_comm (q / es)]; omega
          rw [hpos, hold] at k1
          have := hget q hq
          rw [k1, List.getElem?_eq_getElem (by omega), e] at this
          have hvu : v = u := by simpa using this
          rw [hvu]; exact k2.flat
        have hload := run_loadCells_list (P := P) w ⟨b, j * es, none⟩ vs (fun q v hq => by
          rw [addr_add, hold]
          have hq' : q < (rows.length - i) * es := by rw [← hvl]; exact (List.getElem?_eq_some_iff.1 hq).1
          rw [← hget q hq']; exact hq)
        have hstore := run_storeCells_at (P := P) b (i * es) t vs 0 cs w h5 (by rw [hvl]; omega) hone
        rw [hvl] at hload
        have hw : (setAt cs.toList (i * es) vs).toArray = (cs.toList.take (i * es + 0) ++ vs ++ cs.toList.drop (i * es + 0 + vs.length)).toArray := by unfold setAt; rfl
        refine ⟨_, w.setRow b (setAt cs.toList (i * es) vs).toArray, (fun m => if m = n then ρ n else ρ m), M, ?_, ?_, hres _ _ _ _⟩
        · have hrun : (Builtin.copy_ #[T, T] o.type #[a.eval x, a.eval y]).run P w = .ok (goInt ((rows.length - i : Nat) : Int)) (w.setRow b (setAt cs.toList (i * es) vs).toArray) := by
            rw [hdst, hsrc]
            simp [Builtin.copy_, run_underlying hT, Builtin.lenOf, Builtin.firstCells, hsz, hmin, hload, Result.andThen]
            rw [hstore, hw]
          simp [execOp, ho, resolve, invoke, builtin, hrun, goInt]
        · have hblk : (ρ n).blk = some b := by
            have : (ρ n).cap ≠ 0 := by omega
            simp [Loc.blk, this, h3]
          have he : Ext (fun b' => b' = b) w (w.setRow b (setAt cs.toList (i * es) vs).toArray) := ⟨by simp [World.setRow], fun b' hb hne => setRow_other w b b' _ hne, rfl, rfl⟩
          have hM : M b := h4
          have hlen' : (rows.take i ++ (rows.drop j).take (rows.length - i)).length = rows.length := by simp; omega
          refine hs.update1 (he.weaken fun b' _ hb => ⟨by rw [hblk, hb], by rw [hn]; simp⟩) (fun _ hb => hb) (fun _ hb => .inl hb) (fun b' hb => Nat.lt_of_lt_of_le (hs.msize b' hb) he.size)
            (fun o' ho' => by rw [hn] at ho'; cases ho'; simp only [stays]; exact ⟨trivial, by rw [hlen']; exact Nat.le_refl _, fun _ => trivial⟩) (fun h0 => by rw [hn] at h0; simp at h0) ?_ (fun b' hb => .inl ⟨_, hn, hb⟩)
          refine ⟨hes, by rw [hlen']; simpa using hcap, .inr ⟨b, t, _, by simp [h3], hM, setRow_heap w b cs _ t (0, 0) h5, ?_, ?_⟩⟩
          · simp only [if_true, List.size_toArray, setAt, List.length_append, List.length_take, List.length_drop, Array.length_toList, ← h6, hvl]
            omega
          · have hmono : ∀ {x : PV} {u : Value}, x.R M w u → x.R M (w.setRow b (setAt cs.toList (i * es) vs).toArray) u := fun h => h.mono he (fun b' hb => by rw [hb]; exact hM) (fun b' _ hb => hb)
            have hcell : ∀ q, (w.setRow b (setAt cs.toList (i * es) vs).toArray).cell? ⟨b, q, none⟩ = (setAt cs.toList (i * es) vs)[q]? := fun q => by
              rw [cell_setRow_same w b q cs _ t (0, 0) h5, List.getElem?_toArray]
            have hset : ∀ q, (setAt cs.toList (i * es) vs)[q]? = if i * es ≤ q ∧ q < i * es + (rows.length - i) * es then vs[q - i * es]? else cs.toList[q]? := fun q => by
              have htl : (List.take (i * es) cs.toList).length = i * es := by simp; omega
              unfold setAt
              by_cases c1 : q < i * es
              · rw [if_neg (by omega), List.append_assoc, List.getElem?_append_left (by omega), List.getElem?_take_of_lt c1]
              · by_cases c2 : q < i * es + (rows.length - i) * es
                · rw [if_pos ⟨by omega, c2⟩, List.append_assoc, List.getElem?_append_right (by omega), List.getElem?_append_left (by rw [htl, hvl]; omega), htl]
                · rw [if_neg (by omega), List.getElem?_append_right (by simp only [List.length_append, htl, hvl]; omega), List.getElem?_drop]
                  congr 1
                  simp only [List.length_append, htl, hvl]; omega
            refine PV.Rows.of_get fun i' r' hi' => ?_
            rw [List.getElem?_append] at hi'
            have htk : (rows.take i).length = i := by simp; omega
            by_cases c : i' < i
            · rw [if_pos (by omega), List.getElem?_take, if_pos c] at hi'
              obtain ⟨g1, g2⟩ := h7.get i' r' hi'
              refine ⟨g1, PV.Cells.of_get fun q p hq => ?_⟩
              obtain ⟨u, k1, k2⟩ := g2.get q p hq
              have hq' : q < es := by rw [← g1]; exact (List.getElem?_eq_some_iff.1 hq).1
              have hlt : i' * es + q < i * es := by
                have : (i' + 1) * es ≤ i * es := Nat.mul_le_mul_right es c
                rw [Nat.succ_mul] at this; omega
              refine ⟨u, ?_, hmono k2⟩
              rw [hcell, hset, if_neg (by omega), ← hold]; exact k1
            · rw [if_neg (by omega), htk, List.getElem?_take] at hi'
              split at hi'
              · rename_i hlt
                rw [List.getElem?_drop] at hi'
                obtain ⟨g1, g2⟩ := h7.get (j + (i' - i)) r' hi'
                refine ⟨g1, PV.Cells.of_get fun q p hq => ?_⟩
                obtain ⟨u, k1, k2⟩ := g2.get q p hq
                have hq' : q < es := by rw [← g1]; exact (List.getElem?_eq_some_iff.1 hq).1
                have e1 : i' * es = i * es + (i' - i) * es := by rw [← Nat.add_mul]; congr 1; omega
                have e2 : (j + (i' - i)) * es = j * es + (i' - i) * es := Nat.add_mul _ _ _
                have hlt2 : (i' - i) * es + q < (rows.length - i) * es := by
                  have : (i' - i + 1) * es ≤ (rows.length - i) * es := Nat.mul_le_mul_right es hlt
                  rw [Nat.succ_mul] at this; omega
                refine ⟨u, ?_, hmono k2⟩
                rw [hcell, hset, if_pos (by omega), show 0 + i' * es + q - i * es = (i' - i) * es + q by omega, hget _ hlt2, ← hold, ← k1]
                congr 2; omega
              · simp at hi'
theorem OpOK.indexV {T e : TypeId} {x y : Operand} {len j : Nat} {cells : List AV} {c : AV} (ho : o.op = .index T x y) (hT : P.underlying T = some (.array len e)) (hz : sizeT P e = some 1) (hfl : flatT P e = true)
    (hx : evalO rd x = some (.agg cells)) (hy : evalO rd y = some (.p (.v (.int .i64 ((j : Nat) : Int))))) (hj : j < len) (hc : cells[j]? = some c) : OpOK P o ⟨rd, [], c, [], []⟩ :=
  OpOK.quiet fun Γ ρ M s a w hs hh => by
    have h1 := evalO_R hs hh hx
    have h2 := evalO_R hs hh hy
    simp only [AV.R, PV.R] at h1 h2
    obtain ⟨us, hu, hr⟩ := h1
    obtain ⟨u, hu1, _, hu3⟩ := hr.get j c hc
    refine ⟨u, ?_, hu3⟩
    have hpart : (part e us j).run P w = .ok u w := by
      have : us[j]? = some u := by simpa using hu1
      simp [part, run_isAgg_false hfl, this]
    simp [execOp, ho, hu, h2.1, Instr.index, asIntOf, run_underlying hT, run_sizeOf hz, hj, hpart]
end
end Go.Proofs.YtfhcigjkfelnfaaGreat.AM
/-
  The typed layer, part D: what operations do is what they do. No project text.
-/
set_option linter.unusedVariables false
set_option linter.unusedSimpArgs false
namespace Go.Proofs.YtfhcigjkfelnfaaGreat.AM
open Go
section
variable {R : Type} {P : Program} {ty : TypeId → Option TC} {rd : TS} {hs : HS} {K : BEff → Option R} {r : R} {o : Oper}
def Does (P : Program) (o : Oper) (rd : TS) (hs : HS) (K : BEff → Option R) (r : R) : Prop := ∃ e, K e = some r ∧ Good P o rd hs e
theorem bVal_ok {x : Operand} (ho : o.op = .move x ∨ o.op = .assign x) (h : bVal rd K x = some r) : Does P o rd hs K r := by
  unfold bVal at h
  split at h
  · rename_i v hv
    exact ⟨_, h, .ev fun L _ => ho.elim (fun ho => OpOK.move ho (evalB_er L hv)) (fun ho => OpOK.assign ho (evalB_er L hv))⟩
  · simp at h
theorem evalB_b {x : Operand} {q : Bool} (L : Lens) (h : evalB rd x = some (.b q)) : evalO (erT L rd) x = some (.p (.v (.bool q))) := by have := evalB_er L h; simpa only [BV.er] using this
theorem evalB_n {x : Operand} {k : IntKind} {q : Int} (L : Lens) (h : evalB rd x = some (.n k q)) : evalO (erT L rd) x = some (.p (.v (.int k q))) := by have := evalB_er L h; simpa only [BV.er] using this
theorem evalB_s {x : Operand} {q : ByteArray} (L : Lens) (h : evalB rd x = some (.s q)) : evalO (erT L rd) x = some (.p (.v (.string q))) := by have := evalB_er L h; simpa only [BV.er] using this
theorem bPick_ok {c x y : Operand} (ho : o.op = .pick c x y) (h : bPick rd K c x y = some r) : Does P o rd hs K r := by
  unfold bPick at h
  split at h
  · rename_i q u v hc hx hy
    rcases cnd_some h with ⟨rfl, h⟩ | ⟨rfl, h⟩
    · exact ⟨_, h, .ev fun L _ => OpOK.pickT ho (evalB_b L hc) (evalB_er L hx)⟩
    · exact ⟨_, h, .ev fun L _ => OpOK.pickF ho (evalB_b L hc) (evalB_er L hy)⟩
  · simp at h
theorem zeroB_er {T : TypeId} {cs : List BV} (L : Lens) (h : zeroB P T = some cs) : zeroAV P T = some (erL L cs) := by
  unfold zeroB at h
  unfold zeroAV
  split at h
  · split at h
    · split at h
      · rename_i hi _ z hz hall; cases h; simp only [hi, hz, hall, if_true, erL_cells]
      · simp at h
    · simp at h
  · simp at h
theorem Good.new {v : BV} {n : Name} {ob : BO} (L' : Lens → Lens) (h1 : ∀ L m u, m ≠ n → L' L m u = L m u) (h2 : ∀ L, Inv L hs → ∀ t l u, ob = .arr t l u → L' L n u = l.length) (h3 : ∀ L, Inv L hs → OpOK P o ⟨erT L rd, [], v.er (L' L), [(n, ob.er (L' L))], [n]⟩) :
    Good P o rd hs ⟨[], v, [(n, ob)], [n], []⟩ :=
  ⟨fun _ _ hm => by simp at hm, fun L hL => ⟨L' L, fun m u hm _ => h1 L m u (by simpa using hm), fun m t l u hm => by
    simp only [List.cons_append, List.nil_append, look] at hm
    split at hm
    · rename_i e; subst e; cases hm; exact h2 L hL t l u rfl
    · rename_i e; rw [h1 L m u (Ne.symm e)]; exact hL m t l u hm, h3 L hL⟩⟩
theorem Good.newBox {v : BV} {n : Name} {cs : List BV} (h3 : ∀ L, Inv L hs → OpOK P o ⟨erT L rd, [], v.er L, [(n, .box (erL L cs))], [n]⟩) : Good P o rd hs ⟨[], v, [(n, .box cs)], [n], []⟩ :=
  Good.new (fun L => L) (fun _ _ _ _ => rfl) (fun _ _ t l u h => by simp at h) h3
theorem bAlloc_ok {T : TypeId} (ho : o.op = .alloc T) (h : bAlloc P K o.dst T = some r) : Does P o rd hs K r := by
  unfold bAlloc at h
  split at h
  · rename_i d cs hd hz
    exact ⟨_, h, .newBox fun L _ => by simp only [BV.er]; exact OpOK.alloc ho (zeroB_er L hz)⟩
  · simp at h
theorem bBox_ok {T : TypeId} {x : Operand} (ho : o.op = .box T x) (h : bBox rd K o.dst x = some r) : Does P o rd hs K r := by
  unfold bBox at h
  split at h
  · rename_i d v hd hv
    split at h
    · rename_i cs hc
      exact ⟨_, h, .newBox fun L _ => by simp only [BV.er]; exact OpOK.box ho (evalB_er L hv) (cellsB_er L hc)⟩
    · simp at h
  · simp at h
theorem putCB_er (L : Lens) {pl : List (Nat × Nat)} : ∀ {ps : List (Nat × Operand)} {cs cs' : List BV}, putCB rd pl ps cs = some cs' → putCells (erT L rd) pl ps (erL L cs) = some (erL L cs')
  | [], cs, cs', h => by simp only [putCB, Option.some.injEq] at h; subst h; simp only [putCells]
  | (i, x) :: ps, cs, cs', h => by
    simp only [putCB] at h
    split at h
    · rename_i off size y hp hy
      split at h
      · rename_i c hc
        split at h
        · rename_i hb
          simp only [putCells, hp, evalB_er L hy, cellsB_er L hc, erL_length, hb, if_true]
          rw [← erL_setAt]
          rw [forceL_eq] at h
          have hb' := hb
          simp only [Bool.and_eq_true] at hb'
          rw [layB_eq _ _ _ (by rw [Nat.eq_of_beq_eq_true hb'.1]; exact Nat.le_of_ble_eq_true hb'.2)] at h
          exact putCB_er L h
        · simp at h
      · simp at h
    · simp at h
theorem bBuild_ok {T : TypeId} {parts : Array (Nat × Operand)} (ho : o.op = .build T parts) (h : bBuild P rd K T parts = some r) : Does P o rd hs K r := by
  unfold bBuild at h
  split at h
  · rename_i pl zs h1 h2
    split at h
    · rename_i cells hc
      refine ⟨_, h, .ev fun L _ => ?_⟩
      simp only [BV.er]
      unfold placesB at h1
      split at h1
      · rename_i n e hT
        split at h1
        · rename_i es hes
          cases h1
          exact OpOK.buildArr ho hT hes (zeroB_er L h2) (putCB_er L hc)
        · simp at h1
      · exact OpOK.build ho h1 (zeroB_er L h2) (putCB_er L hc)
    · simp at h
  · simp at h
theorem pureL_pv (L : Lens) {cs : List BV} (h : cs.all BV.isP = true) : pureL (erL L cs) = some (pvL cs) := by
  rw [erL_isP h]
  have : ∀ ps : List PV, pureL (pcells ps) = some ps := by
    intro ps
    induction ps with
    | nil => rfl
    | cons x r ih => simp only [pcells, List.map_cons, pureL] at ih ⊢; rw [ih]
  exact this _
theorem CsLe_of : ∀ {a b : List PV}, AVleL (pcells a) (pcells b) → CsLe a b
  | [], [], _ => trivial
  | [], _ :: _, h => by simp only [pcells, List.map_nil, List.map_cons] at h; cases h
  | _ :: _, [], h => by simp only [pcells, List.map_nil, List.map_cons] at h; cases h
  | x :: xs, y :: ys, h => by
    simp only [pcells, List.map_cons] at h
    cases h with
    | cons h1 h2 =>
      refine ⟨?_, CsLe_of h2⟩
      cases h1 with
      | refl => exact PVle.refl _
      | p h => exact h
theorem Le_cells {cs : List BV} {t : TC} {y : TT t} (h : Le cs (tb t y ++ [])) (hp : cs.all BV.isP = true) : CsLe (pvL cs) (tcells t y) := by
  have := h (fun _ _ => 0)
  rw [List.append_nil, erL_isP hp, erL_isP (tb_isP t y), tb_pv] at this
  exact CsLe_of this
theorem RowsLe.nth : ∀ {a b : List (List PV)}, a.length = b.length → (∀ (i : Nat) (x y : List PV), a[i]? = some x → b[i]? = some y → CsLe x y) → RowsLe a b
  | [], [], _, _ => trivial
  | [], _ :: _, h, _ => by simp at h
  | _ :: _, [], h, _ => by simp at h
  | x :: xs, y :: ys, h, h2 => ⟨h2 0 x y rfl rfl, RowsLe.nth (by simpa using h) (fun i a b ha hb => h2 (i + 1) a b (by simpa using ha) (by simpa using hb))⟩
theorem rowsC_some {t : TC} : ∀ {ps : List (Nat × Operand)} {i len : Nat} {K : List (TT t) → Option R}, rowsC rd t ps i len K = some r →
    ∃ l : List (TT t), K l = some r ∧ i + l.length = len ∧ ∀ (L : Lens) (pre rest : List (List PV)), pre.length = i → rest.length = l.length →
      ∃ rows, putRows (erT L rd) (tz t) ps (pre ++ rest) = some (pre ++ rows) ∧ RowsLe rows (l.map (tcells t))
  | [], i, len, K, h => by
    simp only [rowsC] at h
    split at h
    · rename_i e
      refine ⟨[], h, by simpa using Nat.eq_of_beq_eq_true e, fun L pre rest hp hr => ⟨[], ?_, trivial⟩⟩
      have : rest = [] := List.eq_nil_of_length_eq_zero (by simpa using hr)
      subst this; simp only [putRows]
    · simp at h
  | (j, x) :: ps, i, len, K, h => by
    simp only [rowsC] at h
    split at h
    · rename_i e
      have := Nat.eq_of_beq_eq_true e; subst this
      split at h
      · rename_i v hv
        split at h
        · rename_i cs hc
          split at h
          · rename_i hb
            simp only [Bool.and_eq_true] at hb
            obtain ⟨y, rest0, hle, h⟩ := tpop_some t h
            split at h
            · obtain ⟨l, g1, g2, g3⟩ := rowsC_some h
              refine ⟨y :: l, g1, by simp only [List.length_cons]; omega, fun L pre rest hp hr => ?_⟩
              cases rest with
              | nil => simp at hr
              | cons z rest =>
                obtain ⟨rows, k1, k2⟩ := g3 L (pre ++ [pvL cs]) rest (by simp [hp]) (by simpa using hr)
                refine ⟨pvL cs :: rows, ?_, Le_cells hle hb.2, k2⟩
                have hset : (pre ++ z :: rest).set j (pvL cs) = pre ++ [pvL cs] ++ rest := by
                  rw [← hp, List.set_append_right _ _ (Nat.le_refl _)]; simp
                have hlt : Nat.blt j (pre ++ z :: rest).length = true := by simp [Nat.blt, hp]
                simp only [putRows, evalB_er L hv, cellsB_er L hc, pureL_pv L hb.2, pvL_length, hb.1, hlt, Bool.and_self, if_true, hset]
                rw [k1]; simp
            · simp at h
          · simp at h
        · simp at h
      · simp at h
    · simp at h
theorem bBuildSlice_ok {T : TypeId} {len : Nat} {parts : Array (Nat × Operand)} (ho : o.op = .buildSlice T len parts) (h : bBuildSlice P ty rd K T len parts = some r) : Does P o rd hs K r := by
  unfold bBuildSlice at h
  split at h
  · rename_i e he
    split at h
    · rename_i t es zr h0 h1 h2
      split at h
      · rename_i hb
        simp only [Bool.and_eq_true] at hb
        obtain ⟨l, g1, g2, g3⟩ := rowsC_some h
        refine ⟨_, g1, .ev fun L _ => ?_⟩
        have hes := Nat.eq_of_beq_eq_true hb.1.1.1
        subst hes
        obtain ⟨rows, k1, k2⟩ := g3 L [] (List.replicate len zr) rfl (by rw [List.length_replicate]; omega)
        simp only [List.nil_append] at k1
        simp only [BV.er]
        exact (OpOK.buildSlice ho he h1 hb.1.1.2 h2 (Nat.eq_of_beq_eq_true hb.1.2) hb.2 k1).vLe (.p (PVle.sl (fun h => h) k2))
      · simp at h
    · simp at h
  · simp at h
theorem hp1 {n : Name} {ob : BO} (h : look n hs = some ob) : ∀ m ob', (m, ob') ∈ [(n, ob)] → look m hs = some ob' := fun m ob' hm => by simp only [List.mem_singleton, Prod.mk.injEq] at hm; obtain ⟨rfl, rfl⟩ := hm; exact h
theorem arr_len {L : Lens} {n : Name} {t : TC} {l : List (TT t)} {q u : Nat} (hL : Inv L hs) (h : look n hs = some (.arr t l q)) (hu : Nat.beq u q = true) : Nat.beq (L n u) (l.map (tcells t)).length = true := by rw [Nat.eq_of_beq_eq_true hu, hL n t l q h, List.length_map]; exact Nat.beq_refl _
theorem bLoad_ok {T : TypeId} {x : Operand} (ho : o.op = .load T x) (h : bLoad P rd hs K T x = some r) : Does P o rd hs K r := by
  unfold bLoad at h
  split at h
  · rename_i n k hx
    split at h
    · rename_i cells hc
      split at h
      · rename_i hT
        split at h
        · rename_i z hz
          split at h
          · rename_i hl
            refine ⟨_, h, .val (hp1 hc) fun L _ => ?_⟩
            have := evalB_er L hx
            simp only [BV.er] at this ⊢
            exact OpOK.loadBoxAgg ho this hT hz (by rw [← erL_drop, ← erL_take]) (by rw [erL_length]; exact Nat.eq_of_beq_eq_true hl)
          · simp at h
        · simp at h
      · split at h
        · rename_i hT
          split at h
          · rename_i c hck
            refine ⟨_, h, .val (hp1 hc) fun L _ => ?_⟩
            have := evalB_er L hx
            simp only [BV.er] at this
            exact OpOK.loadBox ho this hT (by rw [erL_get, hck]; rfl)
          · simp at h
        · simp at h
    · simp at h
  · rename_i cells hx
    split at h
    · rename_i hP
      split at h
      · rename_i hT
        split at h
        · rename_i z hz
          split at h
          · rename_i hl
            refine ⟨_, h, .ev fun L _ => ?_⟩
            have := evalB_er L hx
            simp only [BV.er] at this ⊢
            have hP' : (cells.take z).all BV.isP = true := List.all_eq_true.2 fun c hc => List.all_eq_true.1 hP c (List.mem_of_mem_take hc)
            exact OpOK.loadPtrAgg ho this hT hz (by rw [← pvL_take]) (by rw [pvL_length]; exact Nat.eq_of_beq_eq_true hl) (by rw [erL_isP hP'])
          · simp at h
        · simp at h
      · split at h
        · rename_i hT
          split at h
          · rename_i c hck
            refine ⟨_, h, .ev fun L _ => ?_⟩
            have := evalB_er L hx
            simp only [BV.er] at this
            rw [er_isP (List.all_eq_true.1 hP c (List.mem_of_getElem? hck))]
            exact OpOK.loadPtr ho this hT (by rw [pvL_get, hck]; rfl)
          · simp at h
        · simp at h
    · simp at h
  · rename_i n u i k hx
    split at h
    case h_2 => simp at h
    · rename_i t l q hc
      split at h
      case isFalse => simp at h
      rename_i hq
      obtain ⟨y, hy, h⟩ := optc_some h
      have hrow : (l.map (tcells t))[i]? = some (tcells t y) := by rw [List.getElem?_map, hy]; rfl
      split at h
      · rename_i hT
        split at h
        · rename_i z hz
          split at h
          · rename_i hl
            refine ⟨_, h, .val (hp1 hc) fun L hL => ?_⟩
            have := evalB_er L hx
            simp only [BV.er] at this ⊢
            have hP' : (((tb t y).drop k).take z).all BV.isP = true := List.all_eq_true.2 fun c hc => List.all_eq_true.1 (tb_isP t y) c (List.mem_of_mem_drop (List.mem_of_mem_take hc))
            exact OpOK.loadElemAgg ho this hT hz (arr_len hL hc hq) hrow (by rw [← tb_pv, ← pvL_drop, ← pvL_take]) (by rw [pvL_length]; exact Nat.eq_of_beq_eq_true hl) (by rw [erL_isP hP'])
          · simp at h
        · simp at h
      · split at h
        · rename_i hT
          split at h
          · rename_i c hck
            refine ⟨_, h, .val (hp1 hc) fun L hL => ?_⟩
            have := evalB_er L hx
            simp only [BV.er] at this
            rw [er_isP (List.all_eq_true.1 (tb_isP t y) c (List.mem_of_getElem? hck))]
            exact OpOK.loadElem ho this hT (arr_len hL hc hq) hrow (by rw [← tb_pv, pvL_get, hck]; rfl)
          · simp at h
        · simp at h
  · simp at h
theorem Good.wrBox {n : Name} {cells cells' : List BV} (hc : look n hs = some (.box cells)) (h : ∀ L, Inv L hs → OpOK P o ⟨erT L rd, [(n, .box (erL L cells))], .any, [(n, .box (erL L cells'))], []⟩) : Good P o rd hs ⟨[(n, .box cells)], .any, [(n, .box cells')], [], []⟩ :=
  ⟨hp1 hc, fun L hL => ⟨L, fun _ _ _ _ => rfl, fun m t l u hm => by
    simp only [List.cons_append, List.nil_append, look] at hm
    split at hm
    · cases hm
    · exact hL m t l u hm, h L hL⟩⟩
theorem Good.wrArr {n : Name} {t : TC} {l l' : List (TT t)} {q : Nat} (hc : look n hs = some (.arr t l q)) (hl : l'.length = l.length) (h : ∀ L, Inv L hs → OpOK P o ⟨erT L rd, [(n, .arr (tz t) (l.map (tcells t)))], .any, [(n, .arr (tz t) (l'.map (tcells t)))], []⟩) : Good P o rd hs ⟨[(n, .arr t l q)], .any, [(n, .arr t l' q)], [], []⟩ :=
  ⟨hp1 hc, fun L hL => ⟨L, fun _ _ _ _ => rfl, fun m t' l2 u hm => by
    simp only [List.cons_append, List.nil_append, look] at hm
    split at hm
    · rename_i e; subst e; cases hm; rw [hl]; exact hL _ t l q hc
    · exact hL m t' l2 u hm, h L hL⟩⟩
theorem OpOK.arrLe {rd : List (Nat × AV)} {hp : List (Name × AO)} {v : AV} {nw : List Name} {n : Name} {es : Nat} {rs qs : List (List PV)} (h : OpOK P o ⟨rd, hp, v, [(n, .arr es rs)], nw⟩) (hr : RowsLe rs qs) : OpOK P o ⟨rd, hp, v, [(n, .arr es qs)], nw⟩ :=
  h.outLe (.refl _) fun m => by
    simp only [look]
    by_cases e : n = m
    · simp only [e, if_true]
      exact ⟨fun y hy => by cases hy; exact ⟨_, rfl, .arr hr, .inr (.inr ⟨_, _, _, rfl, rfl⟩)⟩, fun x hx => ⟨_, rfl⟩⟩
    · simp only [e, if_false]
      exact ⟨fun y hy => by simp at hy, fun x hx => by simp at hx⟩
theorem bStore_ok {T : TypeId} {x y : Operand} (ho : o.op = .store T x y) (h : bStore P rd hs K o.dst T x y = some r) : Does P o rd hs K r := by
  unfold bStore at h
  split at h
  · rename_i n k v hd hx hy
    split at h
    · rename_i cells vs z hc hv hz
      split at h
      · rename_i hb
        simp only [Bool.and_eq_true] at hb
        rw [forceL_eq, layB_eq _ _ _ (Nat.le_of_ble_eq_true hb.2)] at h
        refine ⟨_, h, .wrBox hc fun L _ => ?_⟩
        have h1 := evalB_er L hx
        simp only [BV.er] at h1
        exact OpOK.storeBox hd ho h1 (evalB_er L hy) (cellsB_er L hv) (by rw [erL_length, hz, Nat.eq_of_beq_eq_true hb.1]) (by rw [erL_length, erL_length]; exact hb.2) (by rw [erL_setAt])
      · simp at h
    · simp at h
  · rename_i n u i k v hd hx hy
    split at h
    · rename_i t l q vs z hc hv hz
      split at h
      case isFalse => simp at h
      rename_i hq
      obtain ⟨y0, hy0, h⟩ := optc_some h
      split at h
      · rename_i hb
        simp only [Bool.and_eq_true] at hb
        rw [layB_eq _ _ _ (Nat.le_of_ble_eq_true hb.1.2)] at h
        obtain ⟨y', rest, hle, h⟩ := tpop_some t h
        split at h
        · refine ⟨_, h, .wrArr hc (by simp) fun L hL => ?_⟩
          have h1 := evalB_er L hx
          simp only [BV.er] at h1
          have hrow : (l.map (tcells t))[i]? = some (tcells t y0) := by rw [List.getElem?_map, hy0]; rfl
          have hP : (setAt (tb t y0) k vs).all BV.isP = true := by
            refine List.all_eq_true.2 fun c hc => ?_
            simp only [setAt, List.mem_append] at hc
            rcases hc with (hc | hc) | hc
            · exact List.all_eq_true.1 (tb_isP t y0) c (List.mem_of_mem_take hc)
            · exact List.all_eq_true.1 hb.2 c hc
            · exact List.all_eq_true.1 (tb_isP t y0) c (List.mem_of_mem_drop hc)
          refine OpOK.arrLe (OpOK.storeElem hd ho h1 (evalB_er L hy) (cellsB_er L hv) (pureL_pv L hb.2) (arr_len hL hc hq) hrow (by rw [erL_length, hz, Nat.eq_of_beq_eq_true hb.1.1])
            (by rw [erL_length, ← tb_pv, pvL_length]; exact hb.1.2) (row' := pvL (setAt (tb t y0) k vs)) (by rw [pvL_setAt, tb_pv]) rfl) ?_
          have hcs := Le_cells hle hP
          refine RowsLe.nth (by simp) (fun j a b ha hb => ?_)
          rw [List.getElem?_set] at ha
          rw [List.getElem?_map, List.getElem?_set] at hb
          split at ha
          · rename_i e
            subst e
            simp only [if_true] at hb
            have hlt := (List.getElem?_eq_some_iff.1 hy0).1
            simp only [List.length_map, hlt, if_true, Option.some.injEq] at ha
            simp only [hlt, if_true, Option.map_some, Option.some.injEq] at hb
            subst ha; subst hb; exact hcs
          · rename_i e
            rw [if_neg e] at hb
            rw [List.getElem?_map] at ha
            rw [ha] at hb; cases hb
            exact CsLe.refl _
        · simp at h
      · simp at h
    · simp at h
  · simp at h
theorem bFieldAddr_ok {S : TypeId} {x : Operand} {i : Nat} (ho : o.op = .fieldAddr S x i) (h : bFieldAddr P rd hs K S x i = some r) : Does P o rd hs K r := by
  unfold bFieldAddr at h
  split at h
  · rename_i n k fo hx hf
    split at h
    · rename_i cells hc
      refine ⟨_, h, .val (hp1 hc) fun L _ => ?_⟩
      have := evalB_er L hx
      simp only [BV.er] at this ⊢
      exact OpOK.fieldRef ho this hf rfl
    · simp at h
  · rename_i cells fo hx hf
    refine ⟨_, h, .ev fun L _ => ?_⟩
    have := evalB_er L hx
    simp only [BV.er] at this ⊢
    exact OpOK.fieldPtr ho this hf (by rw [pvL_drop])
  · rename_i n u j k fo hx hf
    split at h
    · rename_i t l q hc
      split at h
      case isFalse => simp at h
      rename_i hq
      refine ⟨_, h, .val (hp1 hc) fun L hL => ?_⟩
      have := evalB_er L hx
      simp only [BV.er] at this ⊢
      exact OpOK.fieldElem ho this hf rfl (arr_len hL hc hq)
    · simp at h
  · simp at h
theorem bNilCheck_ok {x : Operand} (ho : o.op = .nilCheck x) (h : bNilCheck rd hs K x = some r) : Does P o rd hs K r := by
  unfold bNilCheck at h
  split at h
  · rename_i n k hx
    split at h
    · rename_i cells hc
      refine ⟨_, h, .val (hp1 hc) fun L _ => ?_⟩
      have := evalB_er L hx
      simp only [BV.er] at this ⊢
      exact OpOK.nilCheckRef ho this
    · simp at h
  · rename_i cells hx
    refine ⟨_, h, .ev fun L _ => ?_⟩
    have := evalB_er L hx
    simp only [BV.er] at this ⊢
    exact OpOK.nilCheckPtr ho this
  · rename_i n u j k hx
    split at h
    · rename_i t l q hc
      split at h
      case isFalse => simp at h
      rename_i hq
      refine ⟨_, h, .val (hp1 hc) fun L hL => ?_⟩
      have := evalB_er L hx
      simp only [BV.er] at this ⊢
      exact OpOK.nilCheckElem ho this (arr_len hL hc hq)
    · simp at h
  · simp at h
theorem bBin_ok {op : BinOp} {T T' : TypeId} {x y : Operand} (ho : o.op = .binOp op T x y T') (h : bBin P rd K op T x y = some r) : Does P o rd hs K r := by
  unfold bBin at h
  split at h
  · rename_i k a k' b hx hy
    split at h
    · rename_i hk
      have := kEq_of hk; subst this
      cases op <;> simp only [binI, reduceCtorEq] at h
      all_goals first
        | (obtain ⟨hb, h⟩ := nzc_some h; refine ⟨_, h, .ev fun L _ => ?_⟩; simp only [BV.er]; first | exact OpOK.quo ho (evalB_n L hx) (evalB_n L hy) hb rfl | exact OpOK.rem ho (evalB_n L hx) (evalB_n L hy) hb rfl)
        | (refine ⟨_, h, .ev fun L _ => ?_⟩; simp only [BV.er]; first
            | exact OpOK.add ho (evalB_n L hx) (evalB_n L hy) rfl | exact OpOK.sub ho (evalB_n L hx) (evalB_n L hy) rfl | exact OpOK.mul ho (evalB_n L hx) (evalB_n L hy) rfl
            | exact OpOK.lss ho (evalB_n L hx) (evalB_n L hy) rfl | exact OpOK.leq ho (evalB_n L hx) (evalB_n L hy) rfl | exact OpOK.gtr ho (evalB_n L hx) (evalB_n L hy) rfl
            | exact OpOK.geq ho (evalB_n L hx) (evalB_n L hy) rfl | exact OpOK.eqlI ho (evalB_n L hx) (evalB_n L hy) rfl | exact OpOK.neqI ho (evalB_n L hx) (evalB_n L hy) rfl)
    · simp at h
  · rename_i a b hx hy
    cases op <;> simp only [binS, reduceCtorEq] at h
    all_goals first
      | (obtain ⟨hb, h⟩ := lec_some h; refine ⟨_, h, .ev fun L _ => ?_⟩; simp only [BV.er]; exact OpOK.addS ho (evalB_s L hx) (evalB_s L hy) hb rfl)
      | (refine ⟨_, h, .ev fun L _ => ?_⟩; simp only [BV.er]; first | exact OpOK.eqlS ho (evalB_s L hx) (evalB_s L hy) rfl | exact OpOK.neqS ho (evalB_s L hx) (evalB_s L hy) rfl)
  · rename_i a b hx hy
    unfold binB at h
    split at h
    · rename_i hT
      have hT' : P.underlying T = some .bool := by
        unfold boolT at hT
        split at hT
        · assumption
        · simp at hT
      cases op <;> simp only [reduceCtorEq] at h
      all_goals (refine ⟨_, h, .ev fun L _ => ?_⟩; simp only [BV.er]; first | exact OpOK.eqlB ho hT' (evalB_b L hx) (evalB_b L hy) rfl | exact OpOK.neqB ho hT' (evalB_b L hx) (evalB_b L hy) rfl)
    · simp at h
  · simp at h
theorem bUn_ok {op : UnOp} {T : TypeId} {x : Operand} (ho : o.op = .unOp op T x) (h : bUn rd K op x = some r) : Does P o rd hs K r := by
  unfold bUn at h
  split at h
  · rename_i b hx
    refine ⟨_, h, .ev fun L _ => ?_⟩
    simp only [BV.er]; exact OpOK.not ho (evalB_b L hx) rfl
  · rename_i k a hx
    refine ⟨_, h, .ev fun L _ => ?_⟩
    simp only [BV.er]; exact OpOK.neg ho (evalB_n L hx) rfl
  · simp at h
theorem bField_ok {T : TypeId} {x : Operand} {i : Nat} (ho : o.op = .field T x i) (h : bField P rd K T x i = some r) : Does P o rd hs K r := by
  unfold bField at h
  split at h
  · rename_i cells fs hx hu
    split at h
    · rename_i f hf
      split at h
      · rename_i hT
        split at h
        · rename_i z hz
          refine ⟨_, h, .ev fun L _ => ?_⟩
          have := evalB_er L hx
          simp only [BV.er] at this ⊢
          exact OpOK.fieldAgg (off := 0) (T' := 0) ho this hu hf hT hz (by rw [erL_take, erL_drop])
        · simp at h
      · split at h
        · rename_i hT
          split at h
          · rename_i c hck
            refine ⟨_, h, .ev fun L _ => ?_⟩
            have := evalB_er L hx
            simp only [BV.er] at this
            exact OpOK.field ho this hu hf hT (by rw [erL_get, hck]; rfl)
          · simp at h
        · simp at h
    · simp at h
  · simp at h
theorem bExtract_ok {x : Operand} {i : Nat} (ho : o.op = .extract x i) (h : bExtract rd K x i = some r) : Does P o rd hs K r := by
  unfold bExtract at h
  split at h
  · rename_i vs hx
    split at h
    · rename_i v hv
      refine ⟨_, h, .ev fun L _ => ?_⟩
      have := evalB_er L hx
      simp only [BV.er] at this
      exact OpOK.extract ho this (by rw [erL_get, hv]; rfl)
    · simp at h
  · simp at h
theorem bIndexAddr_ok {T : TypeId} {x y : Operand} (ho : o.op = .indexAddr T x y) (h : bIndexAddr P rd hs K T x y = some r) : Does P o rd hs K r := by
  unfold bIndexAddr at h
  split at h
  · rename_i f t l k j e hx hy he
    split at h
    · rename_i es hz
      split at h
      · rename_i hb
        have := Nat.eq_of_beq_eq_true hb; subst this
        obtain ⟨i, z, hj, hi, h⟩ := atc_some h
        refine ⟨_, h, .ev fun L _ => ?_⟩
        have h1 := evalB_er L hx
        simp only [BV.er] at h1 ⊢
        rw [tb_pv]
        exact OpOK.indexP ho he hz h1 (evalB_n L hy) hj (by rw [List.getElem?_map, hi]; rfl)
      · simp at h
    · simp at h
  · rename_i n u k j e hx hy he
    split at h
    · rename_i t l q es hc hz
      split at h
      · rename_i hb
        simp only [Bool.and_eq_true] at hb
        have := Nat.eq_of_beq_eq_true hb.1; subst this
        obtain ⟨i, hj, h⟩ := natc_some h
        obtain ⟨hlt, h⟩ := ltc_some h
        refine ⟨_, h, .val (hp1 hc) fun L hL => ?_⟩
        have h1 := evalB_er L hx
        simp only [BV.er] at h1 ⊢
        exact OpOK.indexOwn ho he hz h1 (arr_len hL hc hb.2) (evalB_n L hy) hj (by rw [List.length_map]; exact hlt)
      · simp at h
    · simp at h
  · rename_i n u lo hi k j e hx hy he
    split at h
    · rename_i t l q es hc hz
      split at h
      · rename_i hb
        simp only [Bool.and_eq_true] at hb
        have := Nat.eq_of_beq_eq_true hb.1; subst this
        obtain ⟨i, hj, h⟩ := natc_some h
        obtain ⟨hlt, h⟩ := ltc_some h
        refine ⟨_, h, .val (hp1 hc) fun L hL => ?_⟩
        have h1 := evalB_er L hx
        simp only [BV.er] at h1 ⊢
        exact OpOK.indexView ho he hz h1 (arr_len hL hc hb.2) (evalB_n L hy) hj hlt
      · simp at h
    · simp at h
  · simp at h
theorem bLen_ok {T : TypeId} {x : Operand} {ats : Array TypeId} (ho : o.op = .call { callee := .builtin .len, args := #[x], argTypes := ats }) (hat : ats[0]? = some T) (h : bLen P rd hs K T x = some r) : Does P o rd hs K r := by
  unfold bLen at h
  split at h
  · rename_i f t l hx
    split at h
    · rename_i e he
      refine ⟨_, h, .ev fun L _ => ?_⟩
      have h1 := evalB_er L hx
      simp only [BV.er] at h1 ⊢
      exact OpOK.lenP ho hat he h1 (by rw [List.length_map])
    · simp at h
  · rename_i hx
    split at h
    · rename_i e he
      refine ⟨_, h, .ev fun L _ => ?_⟩
      have h1 := evalB_er L hx
      simp only [BV.er] at h1 ⊢
      exact OpOK.lenP ho hat he h1 rfl
    · simp at h
  · rename_i n u hx
    split at h
    · rename_i t l q e hc he
      split at h
      case isFalse => simp at h
      rename_i hq
      refine ⟨_, h, .val (hp1 hc) fun L hL => ?_⟩
      have h1 := evalB_er L hx
      simp only [BV.er] at h1 ⊢
      exact OpOK.lenOwn ho hat he h1 (arr_len hL hc hq) (by rw [List.length_map])
    · simp at h
  · rename_i n u lo hi hx
    split at h
    · rename_i t l q e hc he
      split at h
      case isFalse => simp at h
      rename_i hq
      refine ⟨_, h, .val (hp1 hc) fun L hL => ?_⟩
      have h1 := evalB_er L hx
      simp only [BV.er] at h1 ⊢
      exact OpOK.lenView ho hat he h1 (arr_len hL hc hq)
    · simp at h
  · rename_i t hx
    split at h
    · rename_i hT
      refine ⟨_, h, .ev fun L _ => ?_⟩
      simp only [BV.er]
      exact OpOK.lenS ho hat hT (evalB_s L hx)
    · simp at h
  · simp at h
end
end Go.Proofs.YtfhcigjkfelnfaaGreat.AM
/-
  The typed layer, part E: a contract with its objects named otherwise. No project text.
-/
set_option linter.unusedVariables false
set_option linter.unusedSimpArgs false
set_option linter.unusedSectionVars false
namespace Go.Proofs.YtfhcigjkfelnfaaGreat.AM
open Go
mutual
def AV.ren (σ : Name → Name) : AV → AV
  | .p x => .p x
  | .agg cs => .agg (renL σ cs)
  | .ref n o => .ref (σ n) o
  | .own n l => .own (σ n) l
  | .aref n l i o => .aref (σ n) l i o
  | .view n l i o => .view (σ n) l i o
  | .eptr c => .eptr c
  | .tup vs => .tup (renL σ vs)
  | .clo f a c => .clo f (renL σ a) (renL σ c)
  | .oref m n => .oref m (σ n)
  | .err b => .err b
  | .ub => .ub
  | .any => .any
def renL (σ : Name → Name) : List AV → List AV
  | [] => []
  | x :: r => x.ren σ :: renL σ r
end
theorem renL_map (σ : Name → Name) : ∀ l : List AV, renL σ l = l.map (AV.ren σ)
  | [] => by simp only [renL, List.map_nil]
  | x :: r => by simp only [renL, List.map_cons, renL_map σ r]
def AO.ren (σ : Name → Name) : AO → AO
  | .box cs => .box (renL σ cs)
  | .arr es rows => .arr es rows
  | .hole es pre row post => .hole es pre (renL σ row) post
  | .fact a x => .fact (a.ren σ) x
  | .obj x => .obj x
def renH (σ : Name → Name) (h : List (Name × AO)) : List (Name × AO) := h.map fun p => (σ p.1, p.2.ren σ)
section
variable {σ : Name → Name} (hσ : ∀ a b, σ a = σ b → a = b)
include hσ
theorem look_renH (n : Name) : ∀ h : List (Name × AO), look (σ n) (renH σ h) = (look n h).map (AO.ren σ)
  | [] => rfl
  | (k, o) :: r => by
    show look (σ n) ((σ k, o.ren σ) :: renH σ r) = (look n ((k, o) :: r)).map (AO.ren σ)
    simp only [look]
    by_cases e : k = n
    · simp [e]
    · rw [if_neg (fun h => e (hσ _ _ h)), if_neg e]; exact look_renH n r
omit hσ in
theorem look_renH_inv {m : Name} {o : AO} : ∀ {h : List (Name × AO)}, look m (renH σ h) = some o → ∃ n, σ n = m
  | [], h => by simp [renH, look] at h
  | (k, x) :: r, h => by
    change look m ((σ k, x.ren σ) :: renH σ r) = some o at h
    simp only [look] at h
    split at h
    · exact ⟨k, by assumption⟩
    · exact look_renH_inv h
omit hσ in
theorem shape_ren (o : AO) : (o.ren σ).shape = o.shape := by cases o <;> rfl
variable {ρ : Name → Loc} {H H' : Heap} {M : Nat → Prop} {w : World}
mutual
theorem ren_R (hH : ∀ n, H' (σ n) = (H n).map (AO.ren σ)) : ∀ (x : AV) (u : Value), (x.ren σ).R ρ H' M w u ↔ x.R (fun n => ρ (σ n)) H M w u
  | .p x, u => by simp only [AV.ren, AV.R]
  | .agg cs, u => by simp only [AV.ren, AV.R, ren_Rs hH cs]
  | .ref n o, u => by
    simp only [AV.ren, AV.R, hH]
    refine and_congr_right fun _ => ⟨fun h cells hc => h (renL σ cells) (by rw [hc]; rfl), fun h cells hc => ?_⟩
    cases hn : H n with
    | none => rw [hn] at hc; simp at hc
    | some ob =>
      cases ob with
      | box cs => exact h cs hn
      | _ => rw [hn] at hc; simp [AO.ren] at hc
  | .own n l, u => by
    simp only [AV.ren, AV.R, hH]
    refine and_congr_right fun _ => ⟨fun h o es k ho hs => h (o.ren σ) es k (by rw [ho]; rfl) (by rw [shape_ren]; exact hs), fun h o es k ho hs => ?_⟩
    cases hn : H n with
    | none => rw [hn] at ho; simp at ho
    | some ob => rw [hn] at ho; simp only [Option.map_some, Option.some.injEq] at ho; subst ho; rw [shape_ren] at hs; exact h ob es k hn hs
  | .aref n l i o, u => by
    simp only [AV.ren, AV.R, hH]
    refine and_congr_right fun _ => ⟨fun h o es k ho hs => h (o.ren σ) es k (by rw [ho]; rfl) (by rw [shape_ren]; exact hs), fun h o es k ho hs => ?_⟩
    cases hn : H n with
    | none => rw [hn] at ho; simp at ho
    | some ob => rw [hn] at ho; simp only [Option.map_some, Option.some.injEq] at ho; subst ho; rw [shape_ren] at hs; exact h ob es k hn hs
  | .view n l i o, u => by
    simp only [AV.ren, AV.R, hH]
    refine and_congr_right fun _ => and_congr_right fun _ => and_congr_right fun _ => ⟨fun h o es k ho hs => h (o.ren σ) es k (by rw [ho]; rfl) (by rw [shape_ren]; exact hs), fun h o es k ho hs => ?_⟩
    cases hn : H n with
    | none => rw [hn] at ho; simp at ho
    | some ob => rw [hn] at ho; simp only [Option.map_some, Option.some.injEq] at ho; subst ho; rw [shape_ren] at hs; exact h ob es k hn hs
  | .eptr c, u => by simp only [AV.ren, AV.R]
  | .tup vs, u => by simp only [AV.ren, AV.R, ren_Ts hH vs]
  | .clo f a c, u => by simp only [AV.ren, AV.R, ren_Rs hH a, ren_Rs hH c]
  | .oref m n, u => by
    simp only [AV.ren, AV.R, hH]
    refine and_congr_right fun _ => ⟨fun h x hx => h x (by rw [hx]; rfl), fun h x hx => ?_⟩
    cases hn : H n with
    | none => rw [hn] at hx; simp at hx
    | some ob =>
      cases ob with
      | obj y => rw [hn] at hx; simp only [Option.map_some, AO.ren, Option.some.injEq, AO.obj.injEq] at hx; subst hx; exact h y hn
      | _ => rw [hn] at hx; simp [AO.ren] at hx
  | .err b, u => by simp only [AV.ren, AV.R]
  | .ub, u => by simp only [AV.ren, AV.R]
  | .any, u => by simp only [AV.ren, AV.R]
theorem ren_Rs (hH : ∀ n, H' (σ n) = (H n).map (AO.ren σ)) : ∀ (xs : List AV) (us : List Value), AV.Rs ρ H' M w (renL σ xs) us ↔ AV.Rs (fun n => ρ (σ n)) H M w xs us
  | [], us => by simp only [renL, AV.Rs]
  | x :: r, us => by simp only [renL, AV.Rs, ren_R hH x, ren_Rs hH r]
theorem ren_Ts (hH : ∀ n, H' (σ n) = (H n).map (AO.ren σ)) : ∀ (xs : List AV) (us : List Value), AV.Ts ρ H' M w (renL σ xs) us ↔ AV.Ts (fun n => ρ (σ n)) H M w xs us
  | [], us => by simp only [renL, AV.Ts]
  | x :: r, us => by simp only [renL, AV.Ts, ren_R hH x, ren_Ts hH r]
end
omit hσ in
theorem renL_length (l : List AV) : (renL σ l).length = l.length := by simp [renL_map]
theorem ren_Obj (hH : ∀ n, H' (σ n) = (H n).map (AO.ren σ)) (n : Name) (o : AO) : ObjAt ρ H' M w (σ n) (o.ren σ) ↔ ObjAt (fun n => ρ (σ n)) H M w n o := by
  cases o with
  | box cs => simp only [AO.ren, ObjAt, ren_Rs hσ hH]
  | arr es rows => simp only [AO.ren, ObjAt]
  | hole es pre row post => simp only [AO.ren, ObjAt, ren_Rs hσ hH, renL_length]
  | fact a x => simp only [AO.ren, ObjAt, ren_R hσ hH]
  | obj x => simp only [AO.ren, ObjAt]
theorem stays_ren {o o' : AO} {l l' : Loc} : stays (o.ren σ) l (some (o'.ren σ)) l' ↔ stays o l (some o') l' := by
  cases o <;> cases o' <;> simp only [AO.ren, stays]
theorem Spec.ren {P : Program} {f : FuncId} {args : List AV} {pre h : List (Name × AO)} {v : AV} (hs : SpecIs P f args pre v h) : SpecIs P f (renL σ args) (renH σ pre) (v.ren σ) (renH σ h) := by
  intro G ρ M w us hG hM hargs hobjs hinj
  have hH : ∀ n, lookH (renH σ pre) (σ n) = (lookH pre n).map (AO.ren σ) := fun n => look_renH hσ n pre
  have hex : ∀ b, (∃ n o, look n pre = some o ∧ (ρ (σ n)).blk = some b) ↔ (∃ n o, look n (renH σ pre) = some o ∧ (ρ n).blk = some b) := fun b => by
    constructor
    · rintro ⟨n, o, h1, h2⟩; exact ⟨σ n, o.ren σ, by rw [look_renH hσ, h1]; rfl, h2⟩
    · rintro ⟨m, o, h1, h2⟩
      obtain ⟨n, rfl⟩ := look_renH_inv h1
      rw [look_renH hσ] at h1
      cases hn : look n pre with
      | none => rw [hn] at h1; simp at h1
      | some ob => exact ⟨n, ob, hn, h2⟩
  have hB : (fun b => ∃ n o, look n pre = some o ∧ (ρ (σ n)).blk = some b) = (fun b => ∃ n o, look n (renH σ pre) = some o ∧ (ρ n).blk = some b) := by funext b; exact propext (hex b)
  refine (hs G (fun n => ρ (σ n)) M w us ?_ hM ((ren_Ts hσ hH args us).1 hargs) (fun n o hn => ?_) (fun n m o o' b h1 h2 h3 h4 => ?_)).mono ?_
  · have : (fun b => ∃ n o, look n pre = some o ∧ ((fun n => ρ (σ n)) n).blk = some b) = (fun b => ∃ n o, look n (renH σ pre) = some o ∧ (ρ n).blk = some b) := hB
    rw [this]; exact hG
  · exact (ren_Obj hσ hH n o).1 (hobjs (σ n) (o.ren σ) (by rw [look_renH hσ, hn]; rfl))
  · exact hσ _ _ (hinj (σ n) (σ m) (o.ren σ) (o'.ren σ) b (by rw [look_renH hσ, h1]; rfl) (by rw [look_renH hσ, h2]; rfl) h3 h4)
  · rintro e w' ⟨u, v', h', ρ', rfl, ⟨rfl, rfl⟩, ha⟩
    classical
    let ρ2 : Name → Loc := fun m => if hm : ∃ n, σ n = m then ρ' (Classical.choose hm) else ρ m
    have h2 : ∀ n, ρ2 (σ n) = ρ' n := fun n => by
      have hm : ∃ k, σ k = σ n := ⟨n, rfl⟩
      show (if hm : ∃ k, σ k = σ n then ρ' (Classical.choose hm) else ρ (σ n)) = ρ' n
      rw [dif_pos hm, hσ _ _ (Classical.choose_spec hm)]
    have h2' : (fun n => ρ2 (σ n)) = ρ' := funext h2
    have hH' : ∀ n, lookH (renH σ h') (σ n) = (lookH h' n).map (AO.ren σ) := fun n => look_renH hσ n h'
    have hM' : newM M ρ2 (renH σ h') = newM M ρ' h' := by
      funext b
      refine propext (or_congr_right ⟨?_, ?_⟩)
      · rintro ⟨m, o, g1, g2⟩
        obtain ⟨n, rfl⟩ := look_renH_inv g1
        rw [look_renH hσ] at g1
        cases hn : look n h' with
        | none => rw [hn] at g1; simp at g1
        | some ob => exact ⟨n, ob, hn, by rw [← h2]; exact g2⟩
      · rintro ⟨n, o, g1, g2⟩; exact ⟨σ n, o.ren σ, by rw [look_renH hσ, g1]; rfl, by rw [h2]; exact g2⟩
    have hback : ∀ {m o} {l : List (Name × AO)}, look m (renH σ l) = some o → ∃ n ob, m = σ n ∧ look n l = some ob ∧ o = ob.ren σ := fun {m o l} g1 => by
      obtain ⟨n, rfl⟩ := look_renH_inv g1
      rw [look_renH hσ] at g1
      cases hn : look n l with
      | none => rw [hn] at g1; simp at g1
      | some ob => rw [hn] at g1; exact ⟨n, ob, rfl, hn, by simpa using g1.symm⟩
    refine ⟨u, v'.ren σ, renH σ h', ρ2, rfl, ⟨rfl, rfl⟩, ?_, ?_, ?_, ?_, ?_, ?_⟩
    · rw [hM', ren_R hσ hH', h2']; exact ha.val
    · intro m o hm
      obtain ⟨n, ob, rfl, hn, rfl⟩ := hback hm
      rw [hM', ren_Obj hσ hH', h2']; exact ha.objs n ob hn
    · intro m m' o o' b g1 g2 g3 g4
      obtain ⟨n, ob, rfl, hn, rfl⟩ := hback g1
      obtain ⟨n', ob', rfl, hn', rfl⟩ := hback g2
      rw [h2] at g3 g4
      rw [ha.inj n n' ob ob' b hn hn' g3 g4]
    · intro m o b g1 g2
      obtain ⟨n, ob, rfl, hn, rfl⟩ := hback g1
      rw [h2] at g2
      rcases ha.own n ob b hn g2 with ⟨o', k1, k2⟩ | k
      · exact .inl ⟨o'.ren σ, by rw [look_renH hσ, k1]; rfl, k2⟩
      · exact .inr k
    · have := ha.ext
      rw [← hB]; exact this
    · intro m o hm
      obtain ⟨n, ob, rfl, hn, rfl⟩ := hback hm
      obtain ⟨o', k1, k2⟩ := ha.keep n ob hn
      exact ⟨o'.ren σ, by rw [look_renH hσ, k1]; rfl, by rw [h2]; exact (stays_ren hσ).2 k2⟩
end
theorem Spec.preLe {P : Program} {f : FuncId} {args : List AV} {pre pre' : List (Name × AO)} {post : AV → List (Name × AO) → Prop} (hs : Spec P f args pre post)
    (h1 : ∀ n o, look n pre = some o → ∃ o', look n pre' = some o' ∧ (o' = o ∨ ∃ cs ds, o' = .box cs ∧ o = .box ds ∧ AVleL cs ds)) (h2 : ∀ n o', look n pre' = some o' → ∃ o, look n pre = some o) : Spec P f args pre' post := by
  intro G ρ M w us hG hM hargs hobjs hinj
  have hB : (fun b => ∃ n o, look n pre = some o ∧ (ρ n).blk = some b) = (fun b => ∃ n o, look n pre' = some o ∧ (ρ n).blk = some b) := by
    funext b
    exact propext ⟨fun ⟨n, o, g1, g2⟩ => by obtain ⟨o', g3, _⟩ := h1 n o g1; exact ⟨n, o', g3, g2⟩, fun ⟨n, o, g1, g2⟩ => by obtain ⟨o', g3⟩ := h2 n o g1; exact ⟨n, o', g3, g2⟩⟩
  have hst : HStep ρ (lookH pre') ρ (lookH pre) := fun n o' hn => by
    obtain ⟨o, ho⟩ := h2 n o' hn
    obtain ⟨o2, ho2, hle⟩ := h1 n o ho
    change look n pre' = some o' at hn
    rw [hn] at ho2; cases ho2
    change stays o' (ρ n) (look n pre) (ρ n)
    rw [ho]
    rcases hle with rfl | ⟨cs, ds, rfl, rfl, _⟩
    · exact stays_refl _ _
    · rfl
  have hnn : ∀ n, lookH pre' n = none → lookH pre n = none := fun n hn => by
    cases hc : lookH pre n with
    | none => rfl
    | some o =>
      obtain ⟨o', ho', _⟩ := h1 n o hc
      change look n pre' = none at hn
      rw [ho'] at hn; simp at hn
  have hconvs : ∀ {xs : List AV} {us : List Value}, AV.Rs ρ (lookH pre') M w xs us → AV.Rs ρ (lookH pre) M w xs us := fun hr =>
    hr.step (Ext.refl (fun _ => False) _) (fun _ hb => hb.elim) (fun b _ hb => hb) hst (fun n _ => hnn n)
  refine (hs G ρ M w us (by rw [hB]; exact hG) hM (hargs.step (Ext.refl (fun _ => False) _) (fun _ hb => hb.elim) (fun b _ hb => hb) hst (fun n _ => hnn n)) (fun n o hn => ?_)
    (fun n m o o' b g1 g2 => by obtain ⟨p, k1, _⟩ := h1 n o g1; obtain ⟨q, k2, _⟩ := h1 m o' g2; exact hinj n m p q b k1 k2)).mono ?_
  · obtain ⟨o', ho', hle⟩ := h1 n o hn
    have hobj := hobjs n o' ho'
    rcases hle with rfl | ⟨cs, ds, rfl, rfl, hle⟩
    · exact hobj.step (Ext.refl (fun _ => False) _) (fun _ hb => hb.elim) (fun b _ hb => hb) (fun b hb => hb) hst (fun m _ => hnn m) rfl (fun _ _ => rfl) hM
    · obtain ⟨b, T, us', k1, k2, k3, k4⟩ := hobj
      exact ⟨b, T, us', k1, k2, k3, Rs_le hle _ (hconvs k4)⟩
  · rintro e w' ⟨u, v, h, ρ', rfl, hp, ha⟩
    refine ⟨u, v, h, ρ', rfl, hp, ha.val, ha.objs, ha.inj, fun n o b g1 g2 => ?_, by rw [← hB]; exact ha.ext, fun n o hn => ?_⟩
    · exact (ha.own n o b g1 g2).imp (fun ⟨o', k1, k2⟩ => by obtain ⟨o2, k3, _⟩ := h1 n o' k1; exact ⟨o2, k3, k2⟩) id
    · obtain ⟨o1, k1⟩ := h2 n o hn
      obtain ⟨o2, k2, k3⟩ := ha.keep n o1 k1
      refine ⟨o2, k2, ?_⟩
      obtain ⟨o3, k4, hle⟩ := h1 n o1 k1
      rw [hn] at k4; cases k4
      rcases hle with rfl | ⟨cs, ds, rfl, rfl, _⟩
      · exact k3
      · cases o2 <;> simp only [stays] at k3 ⊢ <;> exact k3
end Go.Proofs.YtfhcigjkfelnfaaGreat.AM
