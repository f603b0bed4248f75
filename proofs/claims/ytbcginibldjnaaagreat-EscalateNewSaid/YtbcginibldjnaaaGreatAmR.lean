/-
  The abstract machine, part R: nil errors, a byte as a text, ranging over a map in whatever order. No project text.
-/
import Derived.Test.YtbcginibldjnaaaGreatAmQ
import Derived.Maps.RangeRun
import Derived.Laws.StructEq
import Derived.Laws.BytesString
set_option linter.unusedSimpArgs false
set_option linter.unusedVariables false
namespace Go.Proofs.YtbcginibldjnaaaGreat.AM
open Go
section
variable {P : Program} {o : Oper} {rd : List (Nat × AV)}
def ifaceT (P : Program) (T : TypeId) : Bool := match P.underlying T with
  | some (.interface _) => true
  | _ => false
theorem run_equal_nil {w : World} {T : TypeId} (h : ifaceT P T = true) : (Op.equal T .nilIface .nilIface).run P w = .ok true w := by
  unfold ifaceT at h
  split at h
  · rename_i ms hu
    unfold Op.equal
    rw [show Op.maxDepth = (Op.maxDepth - 1) + 1 from rfl]
    simp [Op.equalIn, run_underlying hu]
  · simp at h
theorem run_equal_err {w : World} {T : TypeId} {t : TypeId} {p : Value} (h : ifaceT P T = true) : (Op.equal T (.iface t p) .nilIface).run P w = .ok false w := by
  unfold ifaceT at h
  split at h
  · rename_i ms hu
    unfold Op.equal
    rw [show Op.maxDepth = (Op.maxDepth - 1) + 1 from rfl]
    simp [Op.equalIn, run_underlying hu]
  · simp at h
theorem OpOK.eqlE {T T' : TypeId} {x : Operand} {b q : Bool} (ho : o.op = .binOp .eql T x (.const .nilIface) T') (hT : ifaceT P T = true) (hx : evalO rd x = some (.err b)) (hr : b = q) : OpOK P o ⟨rd, [], .p (.v (.bool q)), [], []⟩ := hr ▸
  OpOK.quiet fun Γ ρ M s a w hs hh => by
    have h1 := evalO_R hs hh hx
    simp only [AV.R] at h1
    obtain ⟨_, h2, h3⟩ := h1
    refine ⟨.bool b, ?_, by simp only [AV.R, PV.R]; exact ⟨trivial, rfl⟩⟩
    have e : a.eval (.const .nilIface) = .nilIface := rfl
    cases b with
    | true =>
      have hg : eqGuard .eql T x (.const .nilIface) .nilIface .nilIface = pure () := by cases x <;> rfl
      simp [execOp, ho, h2 rfl, e, hg, binOp, run_equal_nil hT]
    | false =>
      obtain ⟨t, p, hu⟩ := h3 rfl
      simp [execOp, ho, hu, e, binOp, run_equal_err hT, eqGuard_at_iface]

/-! ### Is a list nil? -/
theorem run_equal_slice {T e : TypeId} (hT : P.underlying T = some (.slice e)) (a : Option Addr) (l c : Nat) (w : World) : (Op.equal T (.slice a l c) (.slice none 0 0)).run P w = .ok a.isNone w := by
  unfold Op.equal
  rw [show Op.maxDepth = (Op.maxDepth - 1) + 1 from rfl]
  cases a <;> simp [Op.equalIn, run_underlying hT]
def eqOp (op : BinOp) : Option Bool := match op with
  | .eql => some true
  | .neq => some false
  | _ => none
theorem run_eqNil {op : BinOp} {q : Bool} {T e : TypeId} (hq : eqOp op = some q) (hT : P.underlying T = some (.slice e)) (a : Option Addr) (l c : Nat) (w : World) : (binOp op T (.slice a l c) (.slice none 0 0)).run P w = .ok (.bool (a.isNone == q)) w := by
  cases op <;> simp [eqOp] at hq <;> subst hq <;> cases a <;> simp [binOp, run_equal_slice hT]
/-- Is it nil? Not known of an empty one. -/
theorem OpOK.eqNilU {op : BinOp} {q : Bool} {T T' e : TypeId} {x : Operand} {f : Bool} {es : Nat} {rows : List (List PV)} (ho : o.op = .binOp op T x (.const (.slice none 0 0)) T') (hq : eqOp op = some q) (hT : P.underlying T = some (.slice e)) (hx : evalO rd x = some (.p (.sl f es rows))) :
    OpOK P o ⟨rd, [], .ub, [], []⟩ :=
  OpOK.quiet fun Γ ρ M s a w hs hh => by
    have h1 := evalO_R hs hh hx
    simp only [AV.R, PV.R] at h1
    obtain ⟨ad, cap, hu, _⟩ := h1
    refine ⟨.bool (ad.isNone == q), ?_, by simp only [AV.R]; exact ⟨_, rfl⟩⟩
    have e : a.eval (.const (.slice none 0 0)) = .slice none 0 0 := rfl
    simp [execOp, ho, hu, e, run_eqNil hq hT, eqGuard_at_slice]
/-- One with elements is not. -/
theorem OpOK.eqNilN {op : BinOp} {q : Bool} {T T' e : TypeId} {x : Operand} {f : Bool} {es : Nat} {rows : List (List PV)} (ho : o.op = .binOp op T x (.const (.slice none 0 0)) T') (hq : eqOp op = some q) (hT : P.underlying T = some (.slice e)) (hx : evalO rd x = some (.p (.sl f es rows))) (hr : rows ≠ []) :
    OpOK P o ⟨rd, [], .p (.v (.bool (!q))), [], []⟩ :=
  OpOK.quiet fun Γ ρ M s a w hs hh => by
    have h1 := evalO_R hs hh hx
    simp only [AV.R, PV.R] at h1
    obtain ⟨ad, cap, hu, hl, _, hn, _⟩ := h1
    refine ⟨.bool (!q), ?_, by simp only [AV.R, PV.R]; exact ⟨trivial, rfl⟩⟩
    have e : a.eval (.const (.slice none 0 0)) = .slice none 0 0 := rfl
    have had : ad.isNone = false := by
      cases ad with
      | some x => rfl
      | none =>
        have := hn rfl
        have : rows.length = 0 := by omega
        exact absurd (List.eq_nil_of_length_eq_zero this) hr
    have := run_eqNil (P := P) hq hT ad rows.length cap w
    rw [had] at this
    simp [execOp, ho, hu, e, this, eqGuard_at_slice]

/-! ### The greater of two numbers -/
theorem OpOK.maxI {x y : Operand} {ats : Array TypeId} {m k r : Int} (ho : o.op = .call { callee := .builtin .max, args := #[x, y], argTypes := ats }) (hx : evalO rd x = some (.p (.v (.int .i64 m)))) (hy : evalO rd y = some (.p (.v (.int .i64 k)))) (hr : max m k = r) :
    OpOK P o ⟨rd, [], .p (.v (.int .i64 r)), [], []⟩ :=
  OpOK.quiet fun Γ ρ M s a w hs hh => by
    have h1 := evalO_R hs hh hx
    have h2 := evalO_R hs hh hy
    simp only [AV.R, PV.R] at h1 h2
    refine ⟨.int .i64 r, ?_, by simp only [AV.R, PV.R]; exact ⟨trivial, rfl⟩⟩
    have e : (if m < k then k else m) = r := by rw [← hr]; split <;> omega
    simp [execOp, ho, h1.1, h2.1, resolve, invoke, builtin, run_max_int2, e]

theorem OpOK.minI {x y : Operand} {ats : Array TypeId} {m k r : Int} (ho : o.op = .call { callee := .builtin .min, args := #[x, y], argTypes := ats }) (hx : evalO rd x = some (.p (.v (.int .i64 m)))) (hy : evalO rd y = some (.p (.v (.int .i64 k)))) (hr : min m k = r) :
    OpOK P o ⟨rd, [], .p (.v (.int .i64 r)), [], []⟩ :=
  OpOK.quiet fun Γ ρ M s a w hs hh => by
    have h1 := evalO_R hs hh hx
    have h2 := evalO_R hs hh hy
    simp only [AV.R, PV.R] at h1 h2
    refine ⟨.int .i64 r, ?_, by simp only [AV.R, PV.R]; exact ⟨trivial, rfl⟩⟩
    have e : (if k < m then k else m) = r := by rw [← hr]; split <;> omega
    simp [execOp, ho, h1.1, h2.1, resolve, invoke, builtin, run_min_int2, e]

/-! ### Structs of numbers, compared -/
def intField (P : Program) (f : Field) (i : Nat) : Bool := f.name != "_" && Nat.beq f.offset i && (match P.underlying f.type with | some (.int .i64) => true | _ => false)
def intFields (P : Program) : List Field → Nat → Bool
  | [], _ => true
  | f :: fs, i => intField P f i && intFields P fs (i + 1)
def intsT (P : Program) (T : TypeId) (n : Nat) : Bool := (match P.underlying T with | some (.struct fs) => Nat.beq fs.size n && intFields P fs.toList 0 | _ => false) && !P.stoodInHeld T && !P.eqGuardType P.depth T
theorem run_part_int {w : World} {T : TypeId} {cs : Array Value} {i : Nat} {v : Value} (hT : P.underlying T = some (.int .i64)) (h : cs[i]? = some v) : (part T cs i).run P w = .ok v w := by
  have hf : flatT P T = true := by simp [flatT, hT]
  simp [part, run_isAgg_false hf, h]
theorem eqFields_ints (d : Nat) (w : World) (xs ys : Array Value) : ∀ (fs : List Field) (i : Nat) (as1 bs : List Int), intFields P fs i = true → as1.length = fs.length → bs.length = fs.length →
    (∀ j (a : Int), as1[j]? = some a → xs[i + j]? = some (.int .i64 a)) → (∀ j (b : Int), bs[j]? = some b → ys[i + j]? = some (.int .i64 b)) → (Op.eqFields (d + 1) xs ys fs).run P w = .ok (decide (as1 = bs)) w
  | [], i, as1, bs, _, h1, h2, _, _ => by
    have e1 : as1 = [] := List.eq_nil_of_length_eq_zero (by simpa using h1)
    have e2 : bs = [] := List.eq_nil_of_length_eq_zero (by simpa using h2)
    subst e1; subst e2; simp [Op.eqFields]
  | f :: fs, i, [], bs, _, h1, _, _, _ => by simp at h1
  | f :: fs, i, a :: as1, [], _, _, h2, _, _ => by simp at h2
  | f :: fs, i, a :: as1, b :: bs, hf, h1, h2, h3, h4 => by
    simp only [intFields, intField, Bool.and_eq_true, bne_iff_ne, ne_eq] at hf
    obtain ⟨⟨⟨g1, g2⟩, g3⟩, g4⟩ := hf
    have ho : f.offset = i := Nat.eq_of_beq_eq_true g2
    have hT : P.underlying f.type = some (.int .i64) := by
      split at g3
      · assumption
      · simp at g3
    have e1 := run_part_int (w := w) hT (h3 0 a (by simp))
    have e2 := run_part_int (w := w) hT (h4 0 b (by simp))
    rw [Nat.add_zero] at e1 e2
    have ih := eqFields_ints d w xs ys fs (i + 1) as1 bs g4 (by simpa using h1) (by simpa using h2) (fun j x hx => by
      have := h3 (j + 1) x (by simpa using hx); rwa [show i + (j + 1) = i + 1 + j by omega] at this) (fun j x hx => by
      have := h4 (j + 1) x (by simpa using hx); rwa [show i + (j + 1) = i + 1 + j by omega] at this)
    simp only [Op.eqFields, if_pos g1, Sem.run_bind, ho, e1, e2, Result.andThen_ok, run_equalIn_int w d f.type .i64 .i64 a b hT]
    by_cases h : a = b
    · subst h
      simp [ih]
    · simp [h]
theorem Rs_ints {ρ : Name → Loc} {H : Heap} {M : Nat → Prop} {w : World} : ∀ {as1 : List Int} {us : List Value}, AV.Rs ρ H M w (as1.map fun a => .p (.v (.int .i64 a))) us → us = as1.map (Value.int .i64)
  | [], us, h => by simpa only [List.map_nil, AV.Rs] using h
  | a :: r, us, h => by
    simp only [List.map_cons, AV.Rs, AV.R, PV.R] at h
    obtain ⟨u, us', rfl, _, ⟨rfl, _⟩, h2⟩ := h
    rw [Rs_ints h2]; rfl
theorem OpOK.eqlInts {T T' : TypeId} {x y : Operand} {as1 bs : List Int} {q : Bool} (ho : o.op = .binOp .eql T x y T') (hT : intsT P T as1.length = true) (hl : Nat.beq bs.length as1.length = true)
    (hx : evalO rd x = some (.agg (as1.map fun a => .p (.v (.int .i64 a))))) (hy : evalO rd y = some (.agg (bs.map fun a => .p (.v (.int .i64 a))))) (hr : decide (as1 = bs) = q) : OpOK P o ⟨rd, [], .p (.v (.bool q)), [], []⟩ :=
  OpOK.quiet fun Γ ρ M s a w hs hh => by
    have h1 := evalO_R hs hh hx
    have h2 := evalO_R hs hh hy
    simp only [AV.R] at h1 h2
    obtain ⟨us, hu, k1⟩ := h1
    obtain ⟨vs, hv, k2⟩ := h2
    replace k1 := Rs_ints k1
    replace k2 := Rs_ints k2
    have hl' := Nat.eq_of_beq_eq_true hl
    unfold intsT at hT
    simp only [Bool.and_eq_true, Bool.not_eq_true'] at hT
    obtain ⟨⟨g1, g2⟩, g3⟩ := hT
    split at g1
    · rename_i fs hfs
      simp only [Bool.and_eq_true] at g1
      have hsz := Nat.eq_of_beq_eq_true g1.1
      have hF : P.fieldsOf T = fs := by simp [Program.fieldsOf, hfs]
      refine ⟨.bool q, ?_, by simp only [AV.R, PV.R]; exact ⟨trivial, rfl⟩⟩
      have e1 := run_equalIn_struct (P := P) w 9999 T us vs (by rw [hF]; exact hfs) g2
      rw [hF, eqFields_ints 9998 w us vs fs.toList 0 as1 bs g1.2 (by simp [hsz]) (by simp [hsz, hl']) (fun j a0 hj => by
        rw [Nat.zero_add, ← Array.getElem?_toList, k1, List.getElem?_map, hj]; rfl) (fun j a0 hj => by
        rw [Nat.zero_add, ← Array.getElem?_toList, k2, List.getElem?_map, hj]; rfl)] at e1
      simp [execOp, ho, hu, hv, run_eqGuard_agg w .eql T x y us vs g3, run_eql_struct, e1, hr]
    · simp at g1

/-! ### One byte as a text -/
def isBytes (P : Program) (S : TypeId) : Bool := match P.underlying S with
  | some (.slice e) => (match P.underlying e with | some (.int .u8) => true | _ => false)
  | _ => false
theorem OpOK.convB {S T : TypeId} {x : Operand} {full : Bool} {c : Int} {r : ByteArray} (ho : o.op = .convert S T x) (hS : isBytes P S = true) (hT : P.underlying T = some .string)
    (hx : evalO rd x = some (.p (.sl full 1 [[.v (.int .u8 c)]]))) (hr : ByteArray.mk #[UInt8.ofNat c.toNat] = r) : OpOK P o ⟨rd, [], .p (.v (.string r)), [], []⟩ :=
  OpOK.quiet fun Γ ρ M s a w hs hh => by
    have h1 := evalO_R hs hh hx
    simp only [AV.R, PV.R, List.length_cons, List.length_nil] at h1
    obtain ⟨ad, cap, hu, hl, _, hn, hc⟩ := h1
    refine ⟨.string r, ?_, by simp only [AV.R, PV.R]; exact ⟨trivial, rfl⟩⟩
    unfold isBytes at hS
    split at hS
    · rename_i e he
      split at hS
      · rename_i hu8
        cases ad with
        | none => have := hn rfl; omega
        | some ad =>
          obtain ⟨g1, _, _, g2⟩ := hc ad rfl (by omega)
          simp only [PV.Rows, PV.Cells, PV.R] at g2
          obtain ⟨_, ⟨⟨v, hv, rfl, _⟩, _⟩, _⟩ := g2
          have hld := run_loadCells_list (P := P) w ad [.int .u8 c] (fun j v hj => by
            cases j with
            | zero =>
              simp at hj; subst hj
              have e0 : ad.add 0 = ⟨ad.block, ad.off, none⟩ := by cases ad; simp only at g1; subst g1; simp [Addr.add]
              rw [e0]; exact hv
            | succ j => simp at hj)
          simp only [List.length_cons, List.length_nil] at hld
          subst hr
          simp only [execOp, ho, Sem.run_bind, hu, run_convert_bytes_string w S T e (some ad) _ cap he hu8 hT, Conv.bytesToString, hld, Result.andThen]
          simp
          rfl
      · simp at hS
    · simp at hS

/-! ### Ranging over a map -/
theorem mkEs_get : ∀ (es : List (ByteArray × Value)) (i j : Nat) (k : ByteArray) (v : Value), es[j]? = some (k, v) → ({ key := .string k, val := v, born := i + j } : MapEntry) ∈ mkEs i es
  | [], i, j, k, v, h => by simp at h
  | (k', v') :: r, i, 0, k, v, h => by simp at h; obtain ⟨rfl, rfl⟩ := h; simp [mkEs]
  | (k', v') :: r, i, j + 1, k, v, h => by
    have := mkEs_get r (i + 1) j k v (by simpa using h)
    rw [show i + 1 + j = i + (j + 1) by omega] at this
    simp only [mkEs, List.mem_cons]; exact .inr this
theorem mkEs_of : ∀ (es : List (ByteArray × Value)) (i : Nat) (e : MapEntry), e ∈ mkEs i es → ∃ j k v, es[j]? = some (k, v) ∧ e = { key := .string k, val := v, born := i + j }
  | [], i, e, h => by simp [mkEs] at h
  | (k', v') :: r, i, e, h => by
    simp only [mkEs, List.mem_cons] at h
    rcases h with rfl | h
    · exact ⟨0, k', v', by simp, by simp⟩
    · obtain ⟨j, k, v, h1, rfl⟩ := mkEs_of r (i + 1) e h
      exact ⟨j + 1, k, v, by simpa using h1, by rw [show i + 1 + j = i + (j + 1) by omega]⟩
theorem mkEs_born : ∀ (es : List (ByteArray × Value)) (i : Nat), (mkEs i es).map (·.born) = List.range' i es.length
  | [], i => rfl
  | (k', v') :: r, i => by simp [mkEs, mkEs_born r (i + 1), List.range'_succ]
/-- The location of the map that the fact names. -/
theorem map_at {Γ : Ctx} {ρ : Name → Loc} {M : Nat → Prop} {s : AS} {a : Act} {w : World} (hs : Sim Γ ρ M s a w) {nm nf : Name} {m : Nat} {x : Obj} (hm : s.heap nm = some (.obj x)) (hf : s.heap nf = some (.fact (.oref true nm) (.map (some m)))) : w.heap[m]? = some x := by
  have h1 := (hs.objs nf _ hf).2
  simp only [AV.R, if_true] at h1
  obtain ⟨b, hb, e⟩ := h1.2 x hm
  obtain ⟨b', g1, g2, g3⟩ := hs.objs nm _ hm
  have e1 : b' = b := by rw [g1] at hb; simpa using hb
  have e2 : m = b := by simpa using e
  rw [e2, ← e1]; exact g3
theorem OpOK.entry {x : Operand} {ni nm nf : Name} {es : List (ByteArray × Value)} {m j : Nat} {seen : Array Nat} {k : ByteArray} {v : Value} (ho : o.op = .entry x) (hx : evalO rd x = some (.oref false ni)) (hj : es[j]? = some (k, v)) (hv : v.oneCell' = true) :
    OpOK P o ⟨rd, [(ni, .obj (.mapIter (some m) es.length (seen.push j) es.length)), (nm, .obj (smap es)), (nf, .fact (.oref true nm) (.map (some m)))], .tup [.p (.v (.string k)), .p (.v v)], [], []⟩ :=
  OpOK.quiet fun Γ ρ M s a w hs hh => by
    have hr := evalO_R hs hh hx
    simp only [AV.R, Bool.false_eq_true, if_false] at hr
    have hi := hh.hp ni _ (by simp : (ni, AO.obj (.mapIter (some m) es.length (seen.push j) es.length)) ∈ _)
    obtain ⟨b, hb, hu⟩ := hr.2 _ hi
    obtain ⟨b', g1, g2, g3⟩ := hs.objs ni _ hi
    have e : b' = b := by rw [g1] at hb; simpa using hb
    subst e
    have hmap := map_at hs (hh.hp nm _ (by simp : (nm, AO.obj (smap es)) ∈ _)) (hh.hp nf _ (by simp : (nf, AO.fact (.oref true nm) (.map (some m))) ∈ _))
    have hmem := mkEs_get es 0 j k v hj
    rw [Nat.zero_add] at hmem
    have := run_entry_at (P := P) w b' m es.length seen (mkEs 0 es).toArray es.length { key := .string k, val := v, born := j } g3 hmap (by simpa using hmem) (by
      rw [List.toList_toArray, mkEs_born]; exact List.nodup_range')
    exact ⟨.tuple #[.string k, v], by simp [execOp, ho, hu, this], by simp only [AV.R, AV.Ts, PV.R]; exact ⟨_, rfl, _, _, rfl, ⟨rfl, rfl⟩, _, _, rfl, ⟨rfl, hv⟩, rfl⟩⟩
end
/-- A value gets a name. -/
theorem Sim.addFact {Γ : Ctx} {ρ : Name → Loc} {M : Nat → Prop} {s : AS} {a : Act} {w : World} (hs0 : Sim Γ ρ M s a w) {n0 : Name} (h00 : s.heap n0 = none) (hfree : s.free n0) {av : AV} (hav : av.has n0 = false) {x : Value} (hx : av.R ρ s.heap M w x) :
    Sim Γ (fun m => if m = n0 then ⟨none, 0⟩ else ρ m) M ⟨s.slot, fun m => if m = n0 then some (.fact av x) else s.heap m⟩ a w := by
  have hst : HStep ρ s.heap (fun m => if m = n0 then ⟨none, 0⟩ else ρ m) (fun m => if m = n0 then some (.fact av x) else s.heap m) := fun m ob hm => by
    by_cases e : m = n0
    · subst e; rw [h00] at hm; simp at hm
    · simp only [e, if_false, hm]; exact stays_refl _ _
  exact hs0.update1 (n := n0) (l := ⟨none, 0⟩) (o := .fact av x) (M' := M) (w' := w) (Ext.refl _ _) (fun _ hb => hb) (fun _ hb => .inl hb) hs0.msize (fun o' ho' => by rw [h00] at ho'; simp at ho') (fun _ => hfree)
    ⟨by simp, hx.step (Ext.refl (fun _ => False) _) (fun _ hb => hb.elim) (fun b _ hb => hb) hst (fun m hm hmn => by
      have hne : m ≠ n0 := fun e => by subst e; rw [hav] at hm; simp at hm
      simp only [hne, if_false]; exact hmn)⟩ (fun b hb => by simp [Loc.blk] at hb)

section
variable {P : Program} {Γ : Ctx} {Q : Exit → AS → Prop}
abbrev iterO (m n : Nat) (seen : Array Nat) : AO := .obj (.mapIter (some m) n seen n)
abbrev mapF (nm : Name) (m : Nat) : AO := .fact (.oref true nm) (.map (some m))
/-- A map is made; it is ranged over: where it lies gets a name. -/
theorem AWp.mapRange {id : Nat} {oa ob : Oper} {ts : List (Nat × AV)} {hs : List (Name × AO)} {da db : Nat} {nm ni nf : Name} {e : Eff} {es : List (ByteArray × Value)} {T K E : TypeId} {n : Nat}
    (hn : Γ.n = n) (hst : StepOK P #[oa, ob] 0 (some da) e) (hda : Nat.blt da n = true) (hdb : Nat.blt db n = true)
    (h1 : e.rd.map (fun p => look p.1 ts) = e.rd.map (fun p => some p.2)) (h2 : e.hp.map (fun p => look p.1 hs) = e.hp.map (fun p => some p.2)) (h3 : newOK e ts hs = true)
    (hv : e.v = .oref true nm) (hm : look nm (e.upd ++ hs) = some (.obj (smap es))) (hob : ob.op = .range T (.tmp da)) (hbd : ob.dst = some db) (hbg : ob.guard = none) (hT : P.underlying T = some (.map K E))
    (hni : (look ni (e.upd ++ hs)).isNone = true) (hfi : freeIn ni ((da, e.v) :: ts) (e.upd ++ hs) = true) (hnf : (look nf (e.upd ++ hs)).isNone = true) (hff : freeIn nf ((da, e.v) :: ts) (e.upd ++ hs) = true) (hne : Nat.beq ni nf = false) (hne2 : Nat.beq nm nf = false)
    (hne3 : Nat.beq nm ni = false)
    (hQ : ∀ m, Q .normal (mk ((db, .oref false ni) :: (da, .oref true nm) :: ts) ((ni, iterO m es.length #[]) :: (nf, mapF nm m) :: (e.upd ++ hs)))) : AWp P Γ (.region id #[oa, ob] false) (mk ts hs) Q := by
  intro ρ M a w hsim
  have hda' := Nat.le_of_ble_eq_true hda
  have hdb' := Nat.le_of_ble_eq_true hdb
  have hne' : ni ≠ nf := fun h => by subst h; simp at hne
  have hne2' : nm ≠ nf := fun h => by subst h; simp at hne2
  have hne3' : nm ≠ ni := fun h => by subst h; simp at hne3
  refine wp_region ?_
  show wpOps P #[oa, ob] _ [0, 1] a w
  rw [wpOps_cons]
  refine hst Γ ρ M (mk ts hs) a w _ _ hsim (holds_of h1 h2 h3) (fun d hd => by cases hd; rw [hn]; exact hda') (fun ρ1 M1 a1 w1 hs1 => ?_)
  rw [mk_run] at hs1
  simp only [putT] at hs1
  rw [wpOps_cons]
  unfold wpOp
  simp only [show (#[oa, ob] : Array Oper)[1]? = some ob from rfl, Region.wanted, hbg, if_true]
  refine .inl ?_
  obtain ⟨u, hu, hr⟩ := hs1.slots da _ (by simp [mk, look]; rfl)
  rw [hv] at hr
  simp only [AV.R, if_true] at hr
  have hmm : (mk ((da, e.v) :: ts) (e.upd ++ hs)).heap nm = some (.obj (smap es)) := hm
  obtain ⟨b, hb, rfl⟩ := hr.2 _ hmm
  obtain ⟨b', g1, g2, g3⟩ := hs1.objs nm _ hmm
  have eb : b' = b := by rw [g1] at hb; simpa using hb
  subst eb
  have hF := hs1.addFact (n0 := nf) (Option.isNone_iff_eq_none.1 hnf) (free_of hff) (av := .oref true nm) (by simp [AV.has, hne2']) (x := .map (some b')) (by
    simp only [AV.R, if_true]; exact ⟨rfl, fun x hx => ⟨b', hb, rfl⟩⟩)
  have hI := hF.mkObj (n := ni) (by show (if ni = nf then _ else _) = none; rw [if_neg hne']; exact Option.isNone_iff_eq_none.1 hni) (by
    obtain ⟨k1, k2⟩ := free_of hfi
    refine ⟨k1, fun m o' ho' => ?_⟩
    simp only at ho'
    split at ho'
    · cases ho'; simp [AO.has, AV.has, hne3']
    · exact k2 m o' ho') (.mapIter (some b') es.length #[] es.length)
  unfold Oper.wp
  have hrun : (execOp a1.eval ob).run P w1 = .ok (.value (.pointer (some ⟨w1.heap.size, 0, none⟩))) (w1.alloc (.mapIter (some b') es.length #[] es.length)) := by
    have ev : a1.eval (.tmp da) = .map (some b') := by simp [Act.eval, Array.getD_eq_getD_getElem?, hu]
    have hg := run_getO (P := P) (x := smap es) rfl g3
    simp only [smap] at hg
    simp [execOp, hob, ev, Instr.range, run_underlying hT, hg]
  rw [hrun, Oper.upon_value, hbd]
  have := hI.put (dst := some db) (x := .oref false ni) (u := .pointer (some ⟨w1.heap.size, 0, none⟩)) (fun d hd => by cases hd; rw [hn]; exact hdb') (fun _ => by
    simp only [AV.R, Bool.false_eq_true, if_false]; exact ⟨rfl, fun _ _ => ⟨w1.heap.size, by simp, rfl⟩⟩)
  refine ⟨_, _, _, hQ b', this.congr (fun t => ?_) (fun m => ?_)⟩
  · simp only [mk, look, AS.set, hv]
    by_cases e1 : db = t
    · subst e1; simp
    · simp [e1, Ne.symm e1]
  · simp only [mk, look, AS.set]
    by_cases e1 : ni = m
    · subst e1; simp
    · by_cases e2 : nf = m
      · subst e2; simp [hne', Ne.symm hne']
      · simp [e1, e2, Ne.symm e1, Ne.symm e2]
theorem iter_at {ρ : Name → Loc} {M : Nat → Prop} {s : AS} {a : Act} {w : World} (hs : Sim Γ ρ M s a w) {it : Nat} {ni : Name} {x : Obj} (hit : s.slot it = some (.oref false ni)) (hi : s.heap ni = some (.obj x)) :
    ∃ b, (ρ ni).base = some ⟨b, 0, none⟩ ∧ a.eval (.tmp it) = .pointer (some ⟨b, 0, none⟩) ∧ w.heap[b]? = some x := by
  obtain ⟨u, hu, hr⟩ := hs.slots it _ hit
  simp only [AV.R, Bool.false_eq_true, if_false] at hr
  obtain ⟨b, hb, hub⟩ := hr.2 _ hi
  obtain ⟨b', g1, g2, g3⟩ := hs.objs ni _ hi
  have e : b' = b := by rw [g1] at hb; simpa using hb
  subst e
  exact ⟨b', hb, by simp [Act.eval, Array.getD_eq_getD_getElem?, hu, hub], g3⟩
/-- One step of the range: some entry that has not been, or the end. -/
theorem AWp.mapNext {id : Nat} {oa ob : Oper} {ts : List (Nat × AV)} {hs : List (Name × AO)} {it da db : Nat} {nm ni nf : Name} {es : List (ByteArray × Value)} {m n : Nat} {seen : Array Nat}
    (hn : Γ.n = n) (hoa : oa.op = .next (.tmp it) false) (had : oa.dst = some da) (hag : oa.guard = none) (hob : ob.op = .extract (.tmp da) 0) (hbd : ob.dst = some db) (hbg : ob.guard = none) (hda : Nat.blt da n = true) (hdb : Nat.blt db n = true)
    (hit : look it ts = some (.oref false ni)) (hi : look ni hs = some (iterO m es.length seen)) (hm : look nm hs = some (.obj (smap es))) (hf : look nf hs = some (mapF nm m)) (hcell : es.all (fun p => p.2.oneCell') = true)
    (hQ1 : ∀ j k v, es[j]? = some (k, v) → seen.contains j = false → Q .normal (mk ((db, .p (.v (.bool true))) :: (da, .tup [.p (.v (.bool true)), .p (.v (.string k)), .p (.v v)]) :: ts) ((ni, iterO m es.length (seen.push j)) :: hs)))
    (hQ2 : (∀ j, j < es.length → seen.contains j = true) → Q .normal (mk ((db, .p (.v (.bool false))) :: (da, .tup [.p (.v (.bool false))]) :: ts) hs)) : AWp P Γ (.region id #[oa, ob] false) (mk ts hs) Q := by
  intro ρ M a w hsim
  have hda' := Nat.le_of_ble_eq_true hda
  have hdb' := Nat.le_of_ble_eq_true hdb
  obtain ⟨b, hb, hev, hib⟩ := iter_at hsim (show (mk ts hs).slot it = _ from hit) (show (mk ts hs).heap ni = _ from hi)
  have hmap := map_at hsim (show (mk ts hs).heap nm = _ from hm) (show (mk ts hs).heap nf = _ from hf)
  simp only [smap] at hmap
  have hnext := run_next_at (P := P) w oa.type b m es.length es.length seen (mkEs 0 es).toArray es.length hib hmap (fun x hx => by
    obtain ⟨j, k, v, h1, rfl⟩ := mkEs_of es 0 x (by simpa using hx)
    have := (List.getElem?_eq_some_iff.1 h1).1
    simp; exact this) (Nat.le_refl _)
  refine wp_region ?_
  show wpOps P #[oa, ob] _ [0, 1] a w
  -- the extraction, behind the step
  have tail : ∀ (ρ1 : Name → Loc) (M1 : Nat → Prop) (a1 : Act) (w1 : World) (hs1 : List (Name × AO)) (us : List AV) (q : Bool), Sim Γ ρ1 M1 (mk ((da, .tup (.p (.v (.bool q)) :: us)) :: ts) hs1) a1 w1 →
      Q .normal (mk ((db, .p (.v (.bool q))) :: (da, .tup (.p (.v (.bool q)) :: us)) :: ts) hs1) → wpOps P #[oa, ob] (fun e a' w' => ∃ s' ρ' M', Q e s' ∧ Sim Γ ρ' M' s' a' w') [1] a1 w1 := by
    intro ρ1 M1 a1 w1 hs1 us q h1 hq
    rw [wpOps_cons]
    unfold wpOp
    simp only [show (#[oa, ob] : Array Oper)[1]? = some ob from rfl, Region.wanted, hbg, if_true]
    refine .inl ?_
    obtain ⟨u, hu, hr⟩ := h1.slots da _ (by simp [mk, look]; rfl)
    simp only [AV.R, AV.Ts, PV.R] at hr
    obtain ⟨vs, rfl, u0, us', hvs, ⟨rfl, _⟩, _⟩ := hr
    unfold Oper.wp
    have hrun : (execOp a1.eval ob).run P w1 = .ok (.value (.bool q)) w1 := by
      have ev : a1.eval (.tmp da) = .tuple vs := by simp [Act.eval, Array.getD_eq_getD_getElem?, hu]
      have h0 : vs[0]? = some (.bool q) := by rw [← Array.getElem?_toList, hvs]; rfl
      simp [execOp, hob, ev, Instr.extract, h0]
    rw [hrun, Oper.upon_value, hbd]
    have := h1.put (dst := some db) (x := .p (.v (.bool q))) (u := .bool q) (fun d hd => by cases hd; rw [hn]; exact hdb') (fun _ => by simp only [AV.R, PV.R]; exact ⟨trivial, rfl⟩)
    refine ⟨_, _, _, hq, this.congr (fun t => ?_) (fun k => rfl)⟩
    simp only [mk, look, AS.set]
    by_cases e1 : db = t
    · subst e1; simp
    · simp [e1, Ne.symm e1]
  rw [wpOps_cons]
  unfold wpOp
  simp only [show (#[oa, ob] : Array Oper)[0]? = some oa from rfl, Region.wanted, hag, if_true]
  refine .inl ?_
  unfold Oper.wp
  rcases hnext with ⟨h0, hrun⟩ | ⟨e, he, w1, hw1, hrun⟩
  · have hx : (execOp a.eval oa).run P w = .ok (.value (.tuple #[.bool false])) w := by simp [execOp, hoa, hev, hrun]
    rw [hx, Oper.upon_value, had]
    refine tail ρ M _ w hs [] false ?_ (hQ2 fun j hj => ?_)
    · have := hsim.put (dst := some da) (x := .tup [.p (.v (.bool false))]) (u := .tuple #[.bool false]) (fun d hd => by cases hd; rw [hn]; exact hda') (fun _ => by simp only [AV.R, AV.Ts, PV.R]; exact ⟨_, rfl, _, _, rfl, ⟨rfl, rfl⟩, rfl⟩)
      refine this.congr (fun t => ?_) (fun k => rfl)
      simp only [mk, look, AS.set]
      by_cases e1 : da = t
      · subst e1; simp
      · simp [e1, Ne.symm e1]
    · have hempty : leftOf (mkEs 0 es).toArray seen = #[] := Array.eq_empty_of_size_eq_zero h0
      cases hc : seen.contains j with
      | true => rfl
      | false =>
        exfalso
        obtain ⟨k, v, hp⟩ : ∃ k v, es[j] = (k, v) := ⟨_, _, rfl⟩
        have hmem := mkEs_get es 0 j k v (by rw [List.getElem?_eq_getElem hj, hp])
        rw [Nat.zero_add] at hmem
        have : ({ key := .string k, val := v, born := j } : MapEntry) ∈ leftOf (mkEs 0 es).toArray seen := by
          unfold leftOf
          rw [Array.mem_filter]
          exact ⟨by simpa using hmem, by simpa using hc⟩
        rw [hempty] at this; simp at this
  · have hx : (execOp a.eval oa).run P w = .ok (.value (.tuple #[.bool true, e.key, e.val])) (ChangeMaps.setBlock w1 b (.mapIter (some m) es.length (seen.push e.born) es.length)) := by simp [execOp, hoa, hev, hrun]
    have hmem : e ∈ leftOf (mkEs 0 es).toArray seen := by simpa using he
    unfold leftOf at hmem
    rw [Array.mem_filter] at hmem
    obtain ⟨j, k, v, hj, rfl⟩ := mkEs_of es 0 e (by simpa using hmem.1)
    have hc : seen.contains j = false := by simpa using hmem.2
    rw [hx, Oper.upon_value, had]
    simp only [Nat.zero_add]
    have hsim1 : Sim Γ ρ M (mk ts hs) a w1 := by
      rcases hw1 with rfl | rfl
      · exact hsim
      · exact hsim.drew
    have hset := hsim1.setObj (n := ni) (x := .mapIter (some m) es.length seen es.length) (y := .mapIter (some m) es.length (seen.push j) es.length) hi hb
    have hput := hset.put (dst := some da) (x := .tup [.p (.v (.bool true)), .p (.v (.string k)), .p (.v v)]) (u := .tuple #[.bool true, .string k, v]) (fun d hd => by cases hd; rw [hn]; exact hda') (fun _ => by
      simp only [AV.R, AV.Ts, PV.R]
      exact ⟨_, rfl, _, _, rfl, ⟨rfl, rfl⟩, _, _, rfl, ⟨rfl, rfl⟩, _, _, rfl, ⟨rfl, List.all_eq_true.1 hcell _ (List.mem_of_getElem? hj)⟩, rfl⟩)
    refine tail _ _ _ _ ((ni, iterO m es.length (seen.push j)) :: hs) _ true (hput.congr (fun t => ?_) (fun k' => ?_)) (hQ1 j k v hj hc)
    · simp only [mk, look, AS.set]
      by_cases e1 : da = t
      · subst e1; simp
      · simp [e1, Ne.symm e1]
    · simp only [mk, look, AS.set]
      by_cases e1 : ni = k'
      · subst e1; simp
      · simp [e1, Ne.symm e1]
end
end Go.Proofs.YtbcginibldjnaaaGreat.AM
