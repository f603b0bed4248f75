/-
  The abstract machine, part Q: regions whose plain operations are reckoned, not written. No project text.
-/
import Derived.Test.YtbcginibldjnaaaGreatAmP
set_option linter.unusedSimpArgs false
set_option linter.unusedVariables false
namespace Go.Proofs.YtbcginibldjnaaaGreat.AM
open Go

abbrev Out := List (Name × AO) × AV × List (Name × AO) × List Name
def effOf (rd : List (Nat × AV)) (x : Out) : Eff := ⟨rd, x.1, x.2.1, x.2.2.1, x.2.2.2⟩
/-- What is read of the slots. -/
def rdo (ts : List (Nat × AV)) : List Operand → List (Nat × AV)
  | [] => []
  | .tmp t :: r => match look t ts with
    | some v => (t, v) :: rdo ts r
    | none => rdo ts r
  | .const _ :: r => rdo ts r
  | .global _ :: r => rdo ts r
  | .func _ :: r => rdo ts r

section
variable (P : Program) (rd : List (Nat × AV)) (hs : List (Name × AO))
def aPick (c x y : Operand) : Option Out := match evalO rd c with
  | some (.p (.v (.bool true))) => (evalO rd x).map fun v => ([], v, [], [])
  | some (.p (.v (.bool false))) => (evalO rd y).map fun v => ([], v, [], [])
  | _ => none
def aAlloc (d : Option Nat) (T : TypeId) : Option Out := match d, zeroAV P T with
  | some d, some cs => some ([], .ref (1000 + d) 0, [(1000 + d, .box cs)], [1000 + d])
  | _, _ => none
def aBox (d : Option Nat) (x : Operand) : Option Out := match d, (evalO rd x).bind cellsAV with
  | some d, some cs => some ([], .ref (1000 + d) 0, [(1000 + d, .box cs)], [1000 + d])
  | _, _ => none
def aBuild (T : TypeId) (parts : Array (Nat × Operand)) : Option Out := match structT P T, zeroAV P T with
  | some pl, some zs => (putCells rd pl parts.toList zs).map fun cells => ([], .agg cells, [], [])
  | _, _ => none
def aBuildSlice (T : TypeId) (len : Nat) (parts : Array (Nat × Operand)) : Option Out := match elemT P T with
  | some e => match sizeT P e, zeroRow P e with
    | some es, some zr => if Nat.ble 1 es && Nat.beq zr.length es && Nat.ble (len * es) 16777216 then (putRows rd es parts.toList (List.replicate len zr)).map fun rows => ([], .p (.sl true es rows), [], []) else none
    | _, _ => none
  | none => none
def aLoad (T : TypeId) (x : Operand) : Option Out := match evalO rd x with
  | some (.ref n k) => match look n hs with
    | some (.box cells) => if aggT P T then
        match sizeT P T with
        | some z => if Nat.beq ((cells.drop k).take z).length z then some ([(n, .box cells)], .agg ((cells.drop k).take z), [], []) else none
        | none => none
      else if flatT P T then (cells[k]?).map fun c => ([(n, .box cells)], c, [], []) else none
    | _ => none
  | some (.eptr cells) => if aggT P T then
      match sizeT P T with
      | some z => if Nat.beq (cells.take z).length z then some ([], .agg (pcells (cells.take z)), [], []) else none
      | none => none
    else if flatT P T then (cells[0]?).map fun c => ([], .p c, [], []) else none
  | _ => none
def aStore (d : Option Nat) (T : TypeId) (x y : Operand) : Option Out := match d, evalO rd x, (evalO rd y).bind cellsAV with
  | none, some (.ref n k), some vs => match look n hs with
    | some (.box cells) => match sizeT P T with
      | some z => if Nat.beq z vs.length && Nat.ble (k + vs.length) cells.length then some ([(n, .box cells)], .any, [(n, .box (setAt cells k vs))], []) else none
      | none => none
    | _ => none
  | _, _, _ => none
def aFieldAddr (S : TypeId) (x : Operand) (i : Nat) : Option Out := match evalO rd x, fieldOff P S i with
  | some (.ref n k), some fo => match look n hs with
    | some (.box cells) => some ([(n, .box cells)], .ref n (k + fo), [], [])
    | _ => none
  | some (.eptr cells), some fo => some ([], .eptr (cells.drop fo), [], [])
  | _, _ => none
def aNilCheck (x : Operand) : Option Out := match evalO rd x with
  | some (.ref n k) => match look n hs with
    | some (.box cells) => some ([(n, .box cells)], .ref n k, [], [])
    | _ => none
  | some (.eptr cells) => some ([], .eptr cells, [], [])
  | _ => none
def cmpI : BinOp → Int → Int → Option Bool
  | .lss, a, b => some (decide (a < b))
  | .leq, a, b => some (decide (a ≤ b))
  | .gtr, a, b => some (decide (b < a))
  | .geq, a, b => some (decide (b ≤ a))
  | .eql, a, b => some (decide (a = b))
  | .neq, a, b => some (decide (a ≠ b))
  | _, _, _ => none
def cmpS : BinOp → ByteArray → ByteArray → Option Bool
  | .eql, a, b => some (decide (a = b))
  | .neq, a, b => some (decide (a ≠ b))
  | _, _, _ => none
def kEq : IntKind → IntKind → Bool
  | .i64, .i64 => true
  | .i32, .i32 => true
  | .i16, .i16 => true
  | .i8, .i8 => true
  | .u64, .u64 => true
  | .u32, .u32 => true
  | .u16, .u16 => true
  | .u8, .u8 => true
  | _, _ => false
theorem kEq_of {k k' : IntKind} (h : kEq k k' = true) : k' = k := by
  cases k <;> cases k' <;> first | rfl | simp [kEq] at h
def aBin (op : BinOp) (x y : Operand) : Option Out := match evalO rd x, evalO rd y with
  | some (.p (.v (.int k a))), some (.p (.v (.int k' b))) => if kEq k k' then (cmpI op a b).map fun q => ([], .p (.v (.bool q)), [], []) else none
  | some (.p (.v (.string a))), some (.p (.v (.string b))) => (cmpS op a b).map fun q => ([], .p (.v (.bool q)), [], [])
  | _, _ => none
def aUn (op : UnOp) (x : Operand) : Option Out := match op, evalO rd x with
  | .not, some (.p (.v (.bool b))) => some ([], .p (.v (.bool (!b))), [], [])
  | _, _ => none
def aField (T : TypeId) (x : Operand) (i : Nat) : Option Out := match evalO rd x, P.underlying T with
  | some (.agg cells), some (.struct fs) => match fs[i]? with
    | some f => if aggT P f.type then
        match sizeT P f.type with
        | some z => some ([], .agg ((cells.drop f.offset).take z), [], [])
        | none => none
      else if flatT P f.type then (cells[f.offset]?).map fun c => ([], c, [], []) else none
    | none => none
  | _, _ => none
def aExtract (x : Operand) (i : Nat) : Option Out := match evalO rd x with
  | some (.tup vs) => (vs[i]?).map fun v => ([], v, [], [])
  | _ => none
def aFunc (fn : Fn) (a b : Array Operand) : Option Out := match evalL rd a.toList, evalL rd b.toList with
  | some fs, some cs => if fs.all flatAV && cs.all flatAV then some ([], .clo fn fs cs, [], []) else none
  | _, _ => none
/-- What a plain operation does. -/
def auto (o : Oper) : Option Out := match o.op with
  | .move x => (evalO rd x).map fun v => ([], v, [], [])
  | .assign x => (evalO rd x).map fun v => ([], v, [], [])
  | .pick c x y => aPick rd c x y
  | .alloc T => aAlloc P o.dst T
  | .box _ x => aBox rd o.dst x
  | .build T parts => aBuild P rd T parts
  | .buildSlice T len parts => aBuildSlice P rd T len parts
  | .load T x => aLoad P rd hs T x
  | .store T x y => aStore P rd hs o.dst T x y
  | .fieldAddr S x i => aFieldAddr P rd hs S x i
  | .nilCheck x => aNilCheck rd hs x
  | .binOp op _ x y _ => aBin rd op x y
  | .unOp op _ x => aUn rd op x
  | .field T x i => aField P rd T x i
  | .extract x i => aExtract rd x i
  | .makeFunc fn a b => aFunc rd fn a b
  | _ => none
end

theorem map_some {α β : Type} {x : Option α} {f : α → β} {y : β} (h : x.map f = some y) : ∃ v, x = some v ∧ f v = y := by
  cases x with
  | none => simp at h
  | some v => exact ⟨v, rfl, by simpa using h⟩
theorem bind_some {α β : Type} {x : Option α} {f : α → Option β} {y : β} (h : x.bind f = some y) : ∃ v, x = some v ∧ f v = some y := by
  cases x with
  | none => simp at h
  | some v => exact ⟨v, rfl, by simpa using h⟩

section
variable {P : Program} {o : Oper} {rd : List (Nat × AV)} {hs : List (Name × AO)} {e : Out}
theorem aPick_ok {c x y : Operand} (ho : o.op = .pick c x y) (h : aPick rd c x y = some e) : OpOK P o (effOf rd e) := by
  unfold aPick at h
  split at h
  · rename_i hc; obtain ⟨v, hv, rfl⟩ := map_some h; exact OpOK.pickT ho hc hv
  · rename_i hc; obtain ⟨v, hv, rfl⟩ := map_some h; exact OpOK.pickF ho hc hv
  · simp at h
theorem aAlloc_ok {T : TypeId} (ho : o.op = .alloc T) (h : aAlloc P o.dst T = some e) : OpOK P o (effOf rd e) := by
  unfold aAlloc at h
  split at h
  · rename_i d cs hd hz; cases h; exact OpOK.alloc ho hz
  · simp at h
theorem aBox_ok {T : TypeId} {x : Operand} (ho : o.op = .box T x) (h : aBox rd o.dst x = some e) : OpOK P o (effOf rd e) := by
  unfold aBox at h
  split at h
  · rename_i d cs hd hx; cases h; obtain ⟨v, hv, hc⟩ := bind_some hx; exact OpOK.box ho hv hc
  · simp at h
theorem aBuild_ok {T : TypeId} {parts : Array (Nat × Operand)} (ho : o.op = .build T parts) (h : aBuild P rd T parts = some e) : OpOK P o (effOf rd e) := by
  unfold aBuild at h
  split at h
  · rename_i pl zs h1 h2; obtain ⟨v, hv, rfl⟩ := map_some h; exact OpOK.build ho h1 h2 hv
  · simp at h
theorem aBuildSlice_ok {T : TypeId} {len : Nat} {parts : Array (Nat × Operand)} (ho : o.op = .buildSlice T len parts) (h : aBuildSlice P rd T len parts = some e) : OpOK P o (effOf rd e) := by
  unfold aBuildSlice at h
  split at h
  · rename_i e' he
    split at h
    · rename_i es zr h1 h2
      split at h
      · rename_i hb
        simp only [Bool.and_eq_true] at hb
        obtain ⟨v, hv, rfl⟩ := map_some h
        exact OpOK.buildSlice ho he h1 hb.1.1 h2 (Nat.eq_of_beq_eq_true hb.1.2) hb.2 hv
      · simp at h
    · simp at h
  · simp at h
theorem aLoad_ok {T : TypeId} {x : Operand} (ho : o.op = .load T x) (h : aLoad P rd hs T x = some e) : OpOK P o (effOf rd e) := by
  unfold aLoad at h
  split at h
  · rename_i n k hx
    split at h
    · rename_i cells hc
      split at h
      · rename_i hT
        split at h
        · rename_i z hz
          split at h
          · rename_i hl; cases h; exact OpOK.loadBoxAgg ho hx hT hz rfl (Nat.eq_of_beq_eq_true hl)
          · simp at h
        · simp at h
      · split at h
        · rename_i hT; obtain ⟨v, hv, rfl⟩ := map_some h; exact OpOK.loadBox ho hx hT hv
        · simp at h
    · simp at h
  · rename_i cells hx
    split at h
    · rename_i hT
      split at h
      · rename_i z hz
        split at h
        · rename_i hl; cases h; exact OpOK.loadPtrAgg ho hx hT hz rfl (Nat.eq_of_beq_eq_true hl) rfl
        · simp at h
      · simp at h
    · split at h
      · rename_i hT; obtain ⟨v, hv, rfl⟩ := map_some h; exact OpOK.loadPtr ho hx hT hv
      · simp at h
  · simp at h
theorem aStore_ok {T : TypeId} {x y : Operand} (ho : o.op = .store T x y) (h : aStore P rd hs o.dst T x y = some e) : OpOK P o (effOf rd e) := by
  unfold aStore at h
  split at h
  · rename_i n k vs hd hx hy
    split at h
    · rename_i cells hc
      split at h
      · rename_i z hz
        split at h
        · rename_i hl
          simp only [Bool.and_eq_true] at hl
          cases h
          obtain ⟨v, hv, hvs⟩ := bind_some hy
          exact OpOK.storeBox hd ho hx hv hvs (by rw [hz, Nat.eq_of_beq_eq_true hl.1]) hl.2 rfl
        · simp at h
      · simp at h
    · simp at h
  · simp at h
theorem aFieldAddr_ok {S : TypeId} {x : Operand} {i : Nat} (ho : o.op = .fieldAddr S x i) (h : aFieldAddr P rd hs S x i = some e) : OpOK P o (effOf rd e) := by
  unfold aFieldAddr at h
  split at h
  · rename_i n k fo hx hf
    split at h
    · rename_i cells hc; cases h; exact OpOK.fieldRef ho hx hf rfl
    · simp at h
  · rename_i cells fo hx hf; cases h; exact OpOK.fieldPtr ho hx hf rfl
  · simp at h
theorem aNilCheck_ok {x : Operand} (ho : o.op = .nilCheck x) (h : aNilCheck rd hs x = some e) : OpOK P o (effOf rd e) := by
  unfold aNilCheck at h
  split at h
  · rename_i n k hx
    split at h
    · rename_i cells hc; cases h; exact OpOK.nilCheckRef ho hx
    · simp at h
  · rename_i cells hx; cases h; exact OpOK.nilCheckPtr ho hx
  · simp at h
theorem aBin_ok {op : BinOp} {T T' : TypeId} {x y : Operand} (ho : o.op = .binOp op T x y T') (h : aBin rd op x y = some e) : OpOK P o (effOf rd e) := by
  unfold aBin at h
  split at h
  · rename_i k a k' b hx hy
    split at h
    · rename_i hk
      have := kEq_of hk; subst this
      obtain ⟨v, hv, rfl⟩ := map_some h
      cases op <;> simp only [cmpI, Option.some.injEq, reduceCtorEq] at hv
      · exact OpOK.eqlI ho hx hy hv
      · exact OpOK.neqI ho hx hy hv
      · exact OpOK.lss ho hx hy hv
      · exact OpOK.leq ho hx hy hv
      · exact OpOK.gtr ho hx hy hv
      · exact OpOK.geq ho hx hy hv
    · simp at h
  · rename_i a b hx hy
    obtain ⟨v, hv, rfl⟩ := map_some h
    cases op <;> simp only [cmpS, Option.some.injEq, reduceCtorEq] at hv
    · exact OpOK.eqlS ho hx hy hv
    · exact OpOK.neqS ho hx hy hv
  · simp at h
theorem aUn_ok {op : UnOp} {T : TypeId} {x : Operand} (ho : o.op = .unOp op T x) (h : aUn rd op x = some e) : OpOK P o (effOf rd e) := by
  unfold aUn at h
  split at h
  · rename_i b hx; cases h; exact OpOK.not ho hx rfl
  · simp at h
theorem aField_ok {T : TypeId} {x : Operand} {i : Nat} (ho : o.op = .field T x i) (h : aField P rd T x i = some e) : OpOK P o (effOf rd e) := by
  unfold aField at h
  split at h
  · rename_i cells fs hx hu
    split at h
    · rename_i f hf
      split at h
      · rename_i hT
        split at h
        · rename_i z hz; cases h; exact OpOK.fieldAgg (off := 0) (T' := 0) ho hx hu hf hT hz rfl
        · simp at h
      · split at h
        · rename_i hT; obtain ⟨v, hv, rfl⟩ := map_some h; exact OpOK.field ho hx hu hf hT hv
        · simp at h
    · simp at h
  · simp at h
theorem aExtract_ok {x : Operand} {i : Nat} (ho : o.op = .extract x i) (h : aExtract rd x i = some e) : OpOK P o (effOf rd e) := by
  unfold aExtract at h
  split at h
  · rename_i vs hx; obtain ⟨v, hv, rfl⟩ := map_some h; exact OpOK.extract ho hx hv
  · simp at h
theorem aFunc_ok {fn : Fn} {a b : Array Operand} (ho : o.op = .makeFunc fn a b) (h : aFunc rd fn a b = some e) : OpOK P o (effOf rd e) := by
  unfold aFunc at h
  split at h
  · rename_i fs cs h1 h2
    split at h
    · rename_i hf; simp only [Bool.and_eq_true] at hf; cases h; exact OpOK.makeFunc ho h1 h2 hf.1 hf.2
    · simp at h
  · simp at h
theorem auto_ok (h : auto P rd hs o = some e) : OpOK P o (effOf rd e) := by
  unfold auto at h
  split at h
  · rename_i x ho; obtain ⟨v, hv, rfl⟩ := map_some h; exact OpOK.move ho hv
  · rename_i x ho; obtain ⟨v, hv, rfl⟩ := map_some h; exact OpOK.assign ho hv
  · rename_i ho; exact aPick_ok ho h
  · rename_i ho; exact aAlloc_ok ho h
  · rename_i ho; exact aBox_ok ho h
  · rename_i ho; exact aBuild_ok ho h
  · rename_i ho; exact aBuildSlice_ok ho h
  · rename_i ho; exact aLoad_ok ho h
  · rename_i ho; exact aStore_ok ho h
  · rename_i ho; exact aFieldAddr_ok ho h
  · rename_i ho; exact aNilCheck_ok ho h
  · rename_i ho; exact aBin_ok ho h
  · rename_i ho; exact aUn_ok ho h
  · rename_i ho; exact aField_ok ho h
  · rename_i ho; exact aExtract_ok ho h
  · rename_i ho; exact aFunc_ok ho h
  · simp at h
end

/-! ### Regions -/
inductive Item where
  | a
  | m (d : Option Nat) (e : Eff)
def putD (d : Option Nat) (v : AV) (ts : List (Nat × AV)) : List (Nat × AV) := match d with
  | some d => (d, v) :: ts
  | none => ts
/-- The row of a plain operation, with its guard. -/
def rowA (P : Program) (ops : Array Oper) (i : Nat) (ts : List (Nat × AV)) (hs : List (Name × AO)) : Option Row := match ops[i]? with
  | none => none
  | some o => match o.guard with
    | none => (auto P (rdo ts o.op.operands.toList) hs o).map fun x => (o.dst, effOf (rdo ts o.op.operands.toList) x)
    | some (j, b) => match (ops[j]?).bind (·.dst) with
      | none => none
      | some g => match look g ts with
        | some (.p (.v (.bool q))) => match q, b with
          | true, true => (auto P ((g, .p (.v (.bool true))) :: rdo ts o.op.operands.toList) hs o).map fun x => (o.dst, effOf ((g, .p (.v (.bool true))) :: rdo ts o.op.operands.toList) x)
          | false, false => (auto P ((g, .p (.v (.bool false))) :: rdo ts o.op.operands.toList) hs o).map fun x => (o.dst, effOf ((g, .p (.v (.bool false))) :: rdo ts o.op.operands.toList) x)
          | true, false => some (o.dst, ⟨[(g, .p (.v (.bool true)))], [], .tup [], [], []⟩)
          | false, true => some (o.dst, ⟨[(g, .p (.v (.bool false)))], [], .tup [], [], []⟩)
        | some (.tup []) => some (o.dst, ⟨[(g, .tup [])], [], .tup [], [], []⟩)
        | _ => none
theorem rowA_ok {P : Program} {ops : Array Oper} {i : Nat} {ts : List (Nat × AV)} {hs : List (Name × AO)} {r : Row} (h : rowA P ops i ts hs = some r) : StepOK P ops i r.1 r.2 := by
  unfold rowA at h
  split at h
  · simp at h
  · rename_i o hi
    split at h
    · rename_i hg; obtain ⟨x, hx, rfl⟩ := map_some h; exact StepOK.plain hi hg (auto_ok hx)
    · rename_i j b hg
      split at h
      · simp at h
      · rename_i g hj0
        obtain ⟨oj, hj, hjd⟩ := bind_some hj0
        split at h
        · split at h
          · obtain ⟨x, hx, rfl⟩ := map_some h; exact StepOK.guarded hi hg hj hjd (by simp [effOf]) (auto_ok hx)
          · obtain ⟨x, hx, rfl⟩ := map_some h; exact StepOK.guarded hi hg hj hjd (by simp [effOf]) (auto_ok hx)
          · cases h; exact StepOK.k hi rfl hg hj hjd rfl
          · cases h; exact StepOK.k hi rfl hg hj hjd rfl
        · cases h; exact StepOK.skipped2 hi hg hj hjd
        · simp at h
def rowsOf (P : Program) (ops : Array Oper) : Nat → List Item → List (Nat × AV) → List (Name × AO) → Option (List Row)
  | i, [], _, _ => if Nat.beq ops.size i then some [] else none
  | i, .m d e :: r, ts, hs => (rowsOf P ops (i + 1) r (putD d e.v ts) (e.upd ++ hs)).map fun l => (d, e) :: l
  | i, .a :: r, ts, hs => match rowA P ops i ts hs with
    | none => none
    | some x => (rowsOf P ops (i + 1) r (putD x.1 x.2.v ts) (x.2.upd ++ hs)).map fun l => x :: l
def Man (P : Program) (ops : Array Oper) : Nat → List Item → Prop
  | _, [] => True
  | i, .a :: r => Man P ops (i + 1) r
  | i, .m d e :: r => StepOK P ops i d e ∧ Man P ops (i + 1) r
theorem rowsOf_ok {P : Program} {ops : Array Oper} : ∀ {items : List Item} {i : Nat} {ts : List (Nat × AV)} {hs : List (Name × AO)} {L : List Row}, rowsOf P ops i items ts hs = some L → Man P ops i items → StepsOK P ops i L
  | [], i, ts, hs, L, h, _ => by
    unfold rowsOf at h
    split at h
    · rename_i hb; cases h; exact Nat.eq_of_beq_eq_true hb
    · simp at h
  | .m d e :: r, i, ts, hs, L, h, hm => by
    unfold rowsOf at h
    obtain ⟨l, hl, rfl⟩ := map_some h
    exact ⟨hm.1, rowsOf_ok hl hm.2⟩
  | .a :: r, i, ts, hs, L, h, hm => by
    unfold rowsOf at h
    split at h
    · simp at h
    · rename_i x hx
      obtain ⟨l, hl, rfl⟩ := map_some h
      exact ⟨rowA_ok hx, rowsOf_ok hl hm⟩
def rowsG (P : Program) (ops : Array Oper) (items : List Item) (ts : List (Nat × AV)) (hs : List (Name × AO)) : List Row := (rowsOf P ops 0 items ts hs).getD []
def rowsB (P : Program) (ops : Array Oper) (items : List Item) (ts : List (Nat × AV)) (hs : List (Name × AO)) : Bool := (rowsOf P ops 0 items ts hs).isSome
theorem rowsG_ok {P : Program} {ops : Array Oper} {items : List Item} {ts : List (Nat × AV)} {hs : List (Name × AO)} (h : rowsB P ops items ts hs = true) (hm : Man P ops 0 items) : StepsOK P ops 0 (rowsG P ops items ts hs) := by
  unfold rowsB at h
  unfold rowsG
  cases hr : rowsOf P ops 0 items ts hs with
  | none => rw [hr] at h; simp at h
  | some L => exact rowsOf_ok hr hm
section
variable {P : Program} {Γ : Ctx} {s : AS} {Q : Exit → AS → Prop}
theorem AWp.s_reg {id : Nat} {ops : Array Oper} {y : Code} {ts : List (Nat × AV)} {hs : List (Name × AO)} {n : Nat} {names : List Name} (hn : Γ.n = n) (hk : Γ.names = names)
    (I : List Item) (hm : Man P ops 0 I) (ts' : List (Nat × AV)) (hs' : List (Name × AO)) (hb : rowsB P ops I ts hs = true) (hf : fitsL n names (rowsG P ops I ts hs) ts hs ts' hs' = fitsR (rowsG P ops I ts hs) ts' hs') (h : AWp P Γ y (mk ts' hs') Q) :
    AWp P Γ (.seq (.region id ops false) y) (mk ts hs) Q := AWp.s_region hn hk _ (rowsG_ok hb hm) ts' hs' hf h
theorem AWp.reg' {id : Nat} {ops : Array Oper} {ts : List (Nat × AV)} {hs : List (Name × AO)} {n : Nat} {names : List Name} (hn : Γ.n = n) (hk : Γ.names = names)
    (I : List Item) (hm : Man P ops 0 I) (ts' : List (Nat × AV)) (hs' : List (Name × AO)) (hb : rowsB P ops I ts hs = true) (hf : fitsL n names (rowsG P ops I ts hs) ts hs ts' hs' = fitsR (rowsG P ops I ts hs) ts' hs') (h : Q .normal (mk ts' hs')) :
    AWp P Γ (.region id ops false) (mk ts hs) Q := AWp.region' hn hk _ (rowsG_ok hb hm) ts' hs' hf h
theorem AWp.s_dreg {id : Nat} {ops : Array Oper} {y : Code} {ts : List (Nat × AV)} {hs : List (Name × AO)} {n : Nat} {names : List Name} (hn : Γ.n = n) (hk : Γ.names = names) (hmode : P.follows .mixedOrders = true)
    (I : List Item) (hm : Man P ops 0 I) (ts' : List (Nat × AV)) (hs' : List (Name × AO)) (hb : rowsB P ops I ts hs = true) (hf : fitsL n names (rowsG P ops I ts hs) ts hs ts' hs' = fitsR (rowsG P ops I ts hs) ts' hs')
    (hind : indep ops (rowsG P ops I ts hs) ts hs = true) (h : AWp P Γ y (mk ts' hs') Q) : AWp P Γ (.seq (.region id ops true) y) (mk ts hs) Q := AWp.s_draw hn hk hmode _ (rowsG_ok hb hm) ts' hs' hf hind h
theorem AWp.dreg' {id : Nat} {ops : Array Oper} {ts : List (Nat × AV)} {hs : List (Name × AO)} {n : Nat} {names : List Name} (hn : Γ.n = n) (hk : Γ.names = names) (hmode : P.follows .mixedOrders = true)
    (I : List Item) (hm : Man P ops 0 I) (ts' : List (Nat × AV)) (hs' : List (Name × AO)) (hb : rowsB P ops I ts hs = true) (hf : fitsL n names (rowsG P ops I ts hs) ts hs ts' hs' = fitsR (rowsG P ops I ts hs) ts' hs')
    (hind : indep ops (rowsG P ops I ts hs) ts hs = true) (h : Q .normal (mk ts' hs')) : AWp P Γ (.region id ops true) (mk ts hs) Q := AWp.draw' hn hk hmode _ (rowsG_ok hb hm) ts' hs' hf hind h
/-- Nothing but plain operations. -/
def aa : Nat → List Item
  | 0 => []
  | n + 1 => .a :: aa n
theorem Man.aa {ops : Array Oper} : ∀ (n i : Nat), Man P ops i (aa n)
  | 0, _ => trivial
  | n + 1, i => Man.aa n (i + 1)
end
end Go.Proofs.YtbcginibldjnaaaGreat.AM
