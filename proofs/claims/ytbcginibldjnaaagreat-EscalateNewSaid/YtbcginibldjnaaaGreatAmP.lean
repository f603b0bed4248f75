/-
  The abstract machine, part P: closures, maps with texts as keys, iterators over texts, texts. No project text.
-/
import Derived.Test.YtbcginibldjnaaaGreatAmO
import Derived.Laws.StructEq
set_option linter.unusedSimpArgs false
set_option linter.unusedVariables false
namespace Go.Proofs.YtbcginibldjnaaaGreat.AM
open Go

/-- One cell, and not more. -/
def flatAV : AV → Bool
  | .agg _ => false
  | .tup _ => false
  | _ => true
theorem flatAV_one {ρ : Name → Loc} {H : Heap} {M : Nat → Prop} {w : World} {x : AV} {u : Value} (h : flatAV x = true) (hr : x.R ρ H M w u) : u.oneCell' = true := by
  cases x with
  | agg cs => simp [flatAV] at h
  | tup cs => simp [flatAV] at h
  | p y => simp only [AV.R] at hr; exact hr.flat
  | ref n k => simp only [AV.R] at hr; exact hr.1
  | own n k => simp only [AV.R] at hr; exact hr.1
  | aref n a b c => simp only [AV.R] at hr; exact hr.1
  | view n a b c => simp only [AV.R] at hr; exact hr.1
  | eptr cells => simp only [AV.R] at hr; obtain ⟨ad, rfl, _⟩ := hr; rfl
  | clo f a b => simp only [AV.R] at hr; obtain ⟨a, c, rfl, _⟩ := hr; rfl
  | oref b n => simp only [AV.R] at hr; exact hr.1
  | err b => simp only [AV.R] at hr; exact hr.1
  | ub => simp only [AV.R] at hr; obtain ⟨q, rfl⟩ := hr; rfl
  | any => simpa only [AV.R] using hr
theorem Rs_of_Ts {ρ : Name → Loc} {H : Heap} {M : Nat → Prop} {w : World} : ∀ {xs : List AV} {us : List Value}, xs.all flatAV = true → AV.Ts ρ H M w xs us → AV.Rs ρ H M w xs us
  | [], us, _, h => by simp only [AV.Ts] at h; subst h; simp [AV.Rs]
  | x :: xs, us, hf, h => by
    simp only [AV.Ts] at h
    obtain ⟨u, us', rfl, h3, h4⟩ := h
    simp only [List.all_cons, Bool.and_eq_true] at hf
    simp only [AV.Rs]
    exact ⟨u, us', rfl, flatAV_one hf.1 h3, h3, Rs_of_Ts hf.2 h4⟩
theorem Ts_of_Rs {ρ : Name → Loc} {H : Heap} {M : Nat → Prop} {w : World} : ∀ {xs : List AV} {us : List Value}, AV.Rs ρ H M w xs us → AV.Ts ρ H M w xs us
  | [], us, h => by simp only [AV.Rs] at h; subst h; simp [AV.Ts]
  | x :: xs, us, h => by
    simp only [AV.Rs] at h
    obtain ⟨u, us', rfl, h2, h3, h4⟩ := h
    simp only [AV.Ts]
    exact ⟨u, us', rfl, h3, Ts_of_Rs h4⟩
theorem AV.Ts.append {ρ : Name → Loc} {H : Heap} {M : Nat → Prop} {w : World} : ∀ {xs ys : List AV} {us vs : List Value}, AV.Ts ρ H M w xs us → AV.Ts ρ H M w ys vs → AV.Ts ρ H M w (xs ++ ys) (us ++ vs)
  | [], ys, us, vs, h, h' => by simp only [AV.Ts] at h; subst h; simpa using h'
  | x :: xs, ys, us, vs, h, h' => by
    simp only [AV.Ts] at h
    obtain ⟨u, us', rfl, h3, h4⟩ := h
    simp only [List.cons_append, AV.Ts]
    exact ⟨u, us' ++ vs, rfl, h3, h4.append h'⟩

section
variable {P : Program} {o : Oper} {rd : List (Nat × AV)}

/-! ### Closures -/
theorem OpOK.makeFunc {fn : Fn} {first captured : Array Operand} {fs cs : List AV} (ho : o.op = .makeFunc fn first captured) (h1 : evalL rd first.toList = some fs) (h2 : evalL rd captured.toList = some cs)
    (hf1 : fs.all flatAV = true) (hf2 : cs.all flatAV = true) : OpOK P o ⟨rd, [], .clo fn fs cs, [], []⟩ :=
  OpOK.quiet fun Γ ρ M s a w hs hh => ⟨.func fn (first.map a.eval) (captured.map a.eval), by simp [execOp, ho, Instr.makeFunc], by
    simp only [AV.R]
    refine ⟨_, _, rfl, ?_, ?_⟩
    · rw [Array.toList_map]; exact Rs_of_Ts hf1 (evalL_R hs hh h1)
    · rw [Array.toList_map]; exact Rs_of_Ts hf2 (evalL_R hs hh h2)⟩
theorem OpOK.callClo {f : FuncId} {x : Operand} {argOps : Array Operand} {ats : Array TypeId} {fs cs args : List AV} {pre h : List (Name × AO)} {v : AV} {nw : List Name}
    (ho : o.op = .call { callee := .value x, args := argOps, argTypes := ats }) (hx : evalO rd x = some (.clo (.func f) fs cs)) (hf : callable P f = true) (hargs : evalL rd argOps.toList = some args)
    (hspec : SpecIs P f (fs ++ args ++ cs) pre v h) (hok : callOK pre h nw v = true) : OpOK P o ⟨rd, pre, v, h, nw⟩ :=
  call_core (hrd := rd) (fun Γ ρ M s a w hs hh => by
    have hr := evalO_R hs hh hx
    simp only [AV.R] at hr
    obtain ⟨A, C, hu, hA, hC⟩ := hr
    refine ⟨A.toList ++ argOps.toList.map a.eval ++ C.toList, ((Ts_of_Rs hA).append (evalL_R hs hh hargs)).append (Ts_of_Rs hC), ?_⟩
    have e : (A.toList ++ argOps.toList.map a.eval ++ C.toList).toArray = A ++ argOps.map a.eval ++ C := by
      rw [← Array.toList_map, ← Array.toList_append, ← Array.toList_append]
    rw [e]
    simp [execOp, ho, resolve, hu, Deferred.ofValue, invoke, run_callFunc hf]) hspec hok
theorem OpOK.callFv {f : FuncId} {x : Operand} {argOps : Array Operand} {ats : Array TypeId} {args : List AV} {pre h : List (Name × AO)} {v : AV} {nw : List Name}
    (ho : o.op = .call { callee := .value x, args := argOps, argTypes := ats }) (hx : evalO rd x = some (.p (.v (.func (.func f) #[] #[])))) (hf : callable P f = true) (hargs : evalL rd argOps.toList = some args)
    (hspec : SpecIs P f args pre v h) (hok : callOK pre h nw v = true) : OpOK P o ⟨rd, pre, v, h, nw⟩ :=
  call_core (hrd := rd) (fun Γ ρ M s a w hs hh => by
    have hr := evalO_R hs hh hx
    simp only [AV.R, PV.R] at hr
    refine ⟨argOps.toList.map a.eval, evalL_R hs hh hargs, ?_⟩
    have e : (argOps.toList.map a.eval).toArray = argOps.map a.eval := by rw [← Array.toList_map]
    rw [e]
    simp [execOp, ho, resolve, hr.1, Deferred.ofValue, invoke, run_callFunc hf]) hspec hok

/-! ### Arrays in boxes -/
theorem OpOK.indexArr {T e : TypeId} {x y : Operand} {n : Name} {k k' i es len : Nat} {kd : IntKind} {j : Int} (ho : o.op = .indexAddr T x y) (hT : P.underlying T = some (.array len e)) (hz : sizeT P e = some es)
    (hx : evalO rd x = some (.ref n k)) (hy : evalO rd y = some (.p (.v (.int kd j)))) (hj : j = (i : Int)) (hi : i < len) (hk : k + i * es = k') {cells : List AV} : OpOK P o ⟨rd, [(n, .box cells)], .ref n k', [], []⟩ :=
  OpOK.quiet fun Γ ρ M s a w hs hh => by
    have hr := evalO_R hs hh hx
    simp only [AV.R] at hr
    obtain ⟨b, hb, hu⟩ := hr.2 cells (hh.hp n _ (by simp))
    refine ⟨.pointer (some ⟨b, k', none⟩), ?_, by simp only [AV.R]; exact ⟨rfl, fun _ _ => ⟨b, hb, rfl⟩⟩⟩
    subst hk
    simp [execOp, ho, hu, eval_v hs hh hy, Instr.indexAt, Instr.sureAddr, asIntOf, run_underlying hT, hj, hi, run_sizeOf hz, addr_add]

theorem fill_mono {f g : Nat → Option (Nat × Nat)} (h : ∀ i y, f i = some y → g i = some y) : ∀ (l : List (Nat × Value)) (us us' : Array Value), Instr.fill f us l = some us' → Instr.fill g us l = some us'
  | [], us, us', hf => hf
  | (i, v) :: r, us, us', hf => by
    simp only [Instr.fill] at hf ⊢
    cases hi : f i with
    | none => rw [hi] at hf; simp at hf
    | some y =>
      rw [hi] at hf
      rw [h i y hi]
      simp only at hf ⊢
      split at hf
      · simp at hf
      · rename_i hc
        rw [if_neg hc]
        exact fill_mono h r _ _ hf
def arrPlaces (n es : Nat) : List (Nat × Nat) := (List.range n).map fun i => (i * es, es)
theorem OpOK.buildArr {T e : TypeId} {n es : Nat} {parts : Array (Nat × Operand)} {zs cells : List AV} (ho : o.op = .build T parts) (hT : P.underlying T = some (.array n e)) (hes : sizeT P e = some es) (hz : zeroAV P T = some zs)
    (hc : putCells rd (arrPlaces n es) parts.toList zs = some cells) : OpOK P o ⟨rd, [], .agg cells, [], []⟩ :=
  OpOK.quiet fun Γ ρ M s a w hs hh => by
    obtain ⟨i, z, hi, hz', hall, rfl⟩ := zeroAV_spec hz
    obtain ⟨us, g1, g2⟩ := fill_cells hs hh parts.toList _ cells z.cells (constCells_R hall) hc
    refine ⟨.agg us, ?_, by simp only [AV.R]; exact ⟨us, rfl, g2⟩⟩
    have g3 := fill_mono (g := fun i => some (i * es, es)) (fun i y hy => by
      unfold arrPlaces at hy
      rw [List.getElem?_map] at hy
      cases hr : (List.range n)[i]? with
      | none => rw [hr] at hy; simp at hy
      | some j =>
        rw [hr] at hy
        have hj : j = i := by
          have := List.getElem?_range (show i < n from by
            have := (List.getElem?_eq_some_iff.1 hr).1; simpa using this)
          rw [this] at hr; exact (Option.some.inj hr).symm
        subst hj; exact hy) _ _ _ g1
    have hparts : ((parts.map fun (i, x) => (i, a.eval x)) : Array (Nat × Value)).toList = parts.toList.map fun p => (p.1, a.eval p.2) := by simp
    simp only [execOp, ho, Instr.build, Sem.run_bind, run_zeroValue hi hz', Result.andThen_ok, run_underlying hT, run_sizeOf hes, hparts, g3]
    simp

/-! ### Objects that are no cells -/
def setB (w : World) (b : Nat) (x : Obj) : World := { w with heap := w.heap.setIfInBounds b x }
def noCells : Obj → Bool
  | .map _ _ => true
  | .stringIter _ _ => true
  | _ => false
theorem run_getO {w : World} {b : Nat} {x : Obj} (hx : noCells x = true) (h : w.heap[b]? = some x) : (getObj b).run P w = .ok x w := by
  cases x <;> simp [noCells] at hx <;> simp [getObj, Sem.run, h]
theorem run_setO {w : World} {b : Nat} {x y : Obj} (hx : noCells x = true) (h : w.heap[b]? = some x) : (setObj b y).run P w = .ok () (setB w b y) := by
  cases x <;> simp [noCells] at hx <;> simp [setObj, Sem.run, h, setB]
theorem Ext.setB (w : World) (b : Nat) (x : Obj) : Ext (fun c => c = b) w (setB w b x) :=
  ⟨by simp [AM.setB], fun c hc hne => by
    show (w.heap.setIfInBounds b x)[c]? = _
    rw [Array.getElem?_setIfInBounds, if_neg (fun e => hne e.symm)], rfl, rfl⟩
/-- The object changes where it lies. -/
theorem Sim.setObj {Γ : Ctx} {ρ : Name → Loc} {M : Nat → Prop} {s : AS} {a : Act} {w : World} (hs : Sim Γ ρ M s a w) {n : Name} {x y : Obj} (hn : s.heap n = some (.obj x)) {b : Nat} (hb : (ρ n).base = some ⟨b, 0, none⟩) :
    Sim Γ (fun m => if m = n then ρ n else ρ m) M ⟨s.slot, fun m => if m = n then some (.obj y) else s.heap m⟩ a (setB w b y) := by
  obtain ⟨b', g1, g2, g3⟩ := hs.objs n _ hn
  have e : b' = b := by rw [g1] at hb; simpa using hb
  subst e
  have hblk : (ρ n).blk = some b' := by rw [g1]; simp [Loc.blk]
  have he := Ext.setB w b' y
  refine hs.update1 (he.weaken fun c _ hc => ⟨by rw [hblk, hc], by rw [hn]; simp⟩) (fun _ hc => hc) (fun _ hc => .inl hc) (fun c hc => Nat.lt_of_lt_of_le (hs.msize c hc) he.size)
    (fun o' ho' => by rw [hn] at ho'; cases ho'; simp [stays]) (fun h0 => by rw [hn] at h0; simp at h0) ?_ (fun c hc => .inl ⟨_, hn, hc⟩)
  refine ⟨b', by simp [g1], g2, ?_⟩
  show (w.heap.setIfInBounds b' y)[b']? = some y
  rw [Array.getElem?_setIfInBounds, if_pos rfl, if_pos (Array.getElem?_eq_some_iff.1 g3).1]
/-- A new one. -/
theorem Sim.mkObj {Γ : Ctx} {ρ : Name → Loc} {M : Nat → Prop} {s : AS} {a : Act} {w : World} (h : Sim Γ ρ M s a w) {n : Name} (hn : s.heap n = none) (hf : s.free n) (x : Obj) :
    Sim Γ (fun m => if m = n then ⟨some ⟨w.heap.size, 0, none⟩, 1⟩ else ρ m) (fun b => M b ∨ b = w.heap.size) ⟨s.slot, fun m => if m = n then some (.obj x) else s.heap m⟩ a (w.alloc x) := by
  have he := Ext.alloc w x
  refine h.update1 (he.weaken fun _ _ hb => hb.elim) (fun b hb => .inl hb) (fun b hb => hb.imp id (fun e => by omega)) (fun b hb => ?_) (fun o' ho' => by rw [hn] at ho'; simp at ho') (fun _ => hf) ?_ (fun b hb => .inr ?_)
  · rcases hb with hb | hb
    · have := h.msize b hb; simp; omega
    · simp [hb]
  · exact ⟨w.heap.size, by simp, .inr rfl, heap_alloc_new w _⟩
  · simp [Loc.blk] at hb; omega

/-! ### Maps with texts as keys -/
def mkEs : Nat → List (ByteArray × Value) → List MapEntry
  | _, [] => []
  | i, (k, v) :: r => { key := .string k, val := v, born := i } :: mkEs (i + 1) r
/-- A map to which entries were added one after the other. -/
def smap (es : List (ByteArray × Value)) : Obj := .map (mkEs 0 es).toArray es.length
def lookI (k : ByteArray) : List (ByteArray × Value) → Nat → Option (Nat × Value)
  | [], _ => none
  | (k', v) :: r, j => if k = k' then some (j, v) else lookI k r (j + 1)
def lookS (k : ByteArray) : List (ByteArray × Value) → Option Value
  | [] => none
  | (k', v) :: r => if k = k' then some v else lookS k r
theorem lookI_S (k : ByteArray) : ∀ (es : List (ByteArray × Value)) (j : Nat), (lookI k es j).map (·.2) = lookS k es
  | [], _ => rfl
  | (k', v) :: r, j => by
    unfold lookI lookS
    split
    · rfl
    · exact lookI_S k r (j + 1)
theorem beq_bytes (a b : ByteArray) : (a == b) = decide (a = b) := by
  rw [beq_toListBytes]; exact bytes_eq a b
theorem findNow_S (k : ByteArray) : ∀ (es : List (ByteArray × Value)) (i j : Nat), Instr.findNow .string (.string k) (mkEs i es) j = some (lookI k es j)
  | [], _, _ => rfl
  | (k', v) :: r, i, j => by
    unfold mkEs Instr.findNow lookI
    simp only [Instr.sameNow, beq_bytes]
    by_cases h : k = k'
    · simp [h]
    · simp only [h, decide_false, if_false]; exact findNow_S k r (i + 1) (j + 1)
theorem mkEs_append : ∀ (es : List (ByteArray × Value)) (i : Nat) (k : ByteArray) (v : Value), mkEs i (es ++ [(k, v)]) = mkEs i es ++ [{ key := .string k, val := v, born := i + es.length }]
  | [], i, k, v => rfl
  | (k', v') :: r, i, k, v => by
    simp only [List.cons_append, mkEs, mkEs_append r (i + 1) k v, List.length_cons]
    rw [show i + 1 + r.length = i + (r.length + 1) by omega]
theorem run_checkKey_str {w : World} {b : Bool} {K : TypeId} {k : ByteArray} (hK : P.underlying K = some .string) : (Instr.checkKey b 10000 K (.string k)).run P w = .ok () w := by
  rw [show (10000 : Nat) = 9999 + 1 from rfl]
  generalize 9999 = m
  unfold Instr.checkKey
  simp [run_underlying hK]
theorem run_findKey_S {w : World} {K : TypeId} {k : ByteArray} (hK : P.underlying K = some .string) (es : List (ByteArray × Value)) (i : Nat) : (Instr.findKey K (.string k) (mkEs i es)).run P w = .ok (lookI k es 0) w := by
  simp [Instr.findKey, run_underlying hK, findNow_S]

theorem OpOK.makeMap {T : TypeId} {n : Name} (ho : o.op = .makeMap T none) : OpOK P o ⟨rd, [], .oref true n, [(n, .obj (smap []))], [n]⟩ :=
  OpOK.mk fun Γ ρ M s a w hs hh => by
    obtain ⟨hn, hf⟩ := hh.nw n (by simp)
    refine ⟨.map (some w.heap.size), w.alloc (smap []), _, _, ?_, hs.mkObj hn hf (smap []), ?_⟩
    · simp [execOp, ho, Instr.makeMap, smap, mkEs]
    · simp only [AV.R]; exact ⟨rfl, fun _ _ => ⟨w.heap.size, by simp, by simp⟩⟩
theorem OpOK.putS {T K E : TypeId} {x y z : Operand} {n : Name} {es es' : List (ByteArray × Value)} {k : ByteArray} {v : Value} (hdst : o.dst = none) (ho : o.op = .mapUpdate T x y z ∨ o.op = .insert T x y z) (hT : P.underlying T = some (.map K E)) (hK : P.underlying K = some .string)
    (hx : evalO rd x = some (.oref true n)) (hy : evalO rd y = some (.p (.v (.string k)))) (hz : evalO rd z = some (.p (.v v))) (hno : lookS k es = none) (he : es ++ [(k, v)] = es') : OpOK P o ⟨rd, [(n, .obj (smap es))], .any, [(n, .obj (smap es'))], []⟩ :=
  OpOK.wr hdst fun Γ ρ M s a w hs hh => by
    subst he
    have hr := evalO_R hs hh hx
    simp only [AV.R, if_true] at hr
    have hn := hh.hp n _ (by simp : (n, AO.obj (smap es)) ∈ _)
    obtain ⟨b, hb, hu⟩ := hr.2 _ hn
    obtain ⟨b', g1, g2, g3⟩ := hs.objs n _ hn
    have e : b' = b := by rw [g1] at hb; simpa using hb
    subst e
    have hky := evalO_R hs hh hy
    have hvz := evalO_R hs hh hz
    simp only [AV.R, PV.R] at hky hvz
    have hl : lookI k es 0 = none := by
      have := lookI_S k es 0; rw [hno] at this; simpa using this
    have hrun : (Instr.mapUpdate T (a.eval x) (a.eval y) (a.eval z)).run P w = .ok () (setB w b' (smap (es ++ [(k, v)]))) := by
      rw [hu, hky.1, hvz.1]
      have h1 := run_getO (P := P) (x := smap es) rfl g3
      have h2 := run_setO (P := P) (x := smap es) (y := smap (es ++ [(k, v)])) rfl g3
      simp only [smap] at h1 h2
      have h3 : (Array.push (mkEs 0 es).toArray { key := .string k, val := v, born := es.length }) = (mkEs 0 (es ++ [(k, v)])).toArray := by
        rw [mkEs_append]; simp
      simp [Instr.mapUpdate, run_underlying hT, h1, run_checkKey_str hK, run_findKey_S hK, hl, h3]
      simpa [smap] using h2
    refine ⟨_, _, _, ?_, hs.setObj (y := smap (es ++ [(k, v)])) hn hb⟩
    rcases ho with ho | ho <;> simp [execOp, ho, hrun]
def zeroV (P : Program) (T : TypeId) : Option Value := match P.info? T with
  | some i => i.zero
  | none => none
theorem run_zeroV {T : TypeId} {z : Value} (h : zeroV P T = some z) (w : World) : (zeroValue T).run P w = .ok z w := by
  unfold zeroV at h
  split at h
  · rename_i i hi; exact run_zeroValue hi h w
  · simp at h
theorem lookup_run {T K E : TypeId} {w : World} {b : Nat} {es : List (ByteArray × Value)} {k : ByteArray} {z : Value} {ok : Bool} (hT : P.underlying T = some (.map K E)) (hK : P.underlying K = some .string) (hz : zeroV P E = some z)
    (hb : w.heap[b]? = some (smap es)) : (Instr.lookup T (.map (some b)) (.string k) ok).run P w = .ok (if ok then .tuple #[(lookS k es).getD z, .bool (lookS k es).isSome] else (lookS k es).getD z) w := by
  have h1 := run_getO (P := P) (x := smap es) rfl hb
  simp only [smap] at h1
  have h2 := lookI_S k es 0
  cases hl : lookI k es 0 with
  | none =>
    rw [hl] at h2
    simp only [Option.map_none] at h2
    simp [Instr.lookup, run_underlying hT, h1, run_checkKey_str hK, run_findKey_S hK, hl, run_zeroV hz, ← h2]
  | some p =>
    rw [hl] at h2
    simp only [Option.map_some] at h2
    simp [Instr.lookup, run_underlying hT, h1, run_checkKey_str hK, run_findKey_S hK, hl, run_zeroV hz, ← h2]
theorem OpOK.lookup {T K E : TypeId} {x y : Operand} {n : Name} {es : List (ByteArray × Value)} {k : ByteArray} {z r : Value} (ho : o.op = .lookup T x y false) (hT : P.underlying T = some (.map K E)) (hK : P.underlying K = some .string) (hz : zeroV P E = some z)
    (hx : evalO rd x = some (.oref true n)) (hy : evalO rd y = some (.p (.v (.string k)))) (hr : (lookS k es).getD z = r) (h1 : r.oneCell' = true) : OpOK P o ⟨rd, [(n, .obj (smap es))], .p (.v r), [], []⟩ :=
  OpOK.quiet fun Γ ρ M s a w hs hh => by
    have hq := evalO_R hs hh hx
    simp only [AV.R, if_true] at hq
    have hn := hh.hp n _ (by simp : (n, AO.obj (smap es)) ∈ _)
    obtain ⟨b, hb, hu⟩ := hq.2 _ hn
    obtain ⟨b', g1, g2, g3⟩ := hs.objs n _ hn
    have e : b' = b := by rw [g1] at hb; simpa using hb
    subst e
    have hky := evalO_R hs hh hy
    simp only [AV.R, PV.R] at hky
    have := lookup_run (k := k) (ok := false) hT hK hz g3
    exact ⟨r, by simp [execOp, ho, hu, hky.1, this, hr], by simp only [AV.R, PV.R]; exact ⟨trivial, h1⟩⟩
theorem OpOK.lookup2 {T K E : TypeId} {x y : Operand} {n : Name} {es : List (ByteArray × Value)} {k : ByteArray} {z r : Value} {q : Bool} (ho : o.op = .lookup T x y true) (hT : P.underlying T = some (.map K E)) (hK : P.underlying K = some .string) (hz : zeroV P E = some z)
    (hx : evalO rd x = some (.oref true n)) (hy : evalO rd y = some (.p (.v (.string k)))) (hr : (lookS k es).getD z = r) (hb0 : (lookS k es).isSome = q) (h1 : r.oneCell' = true) : OpOK P o ⟨rd, [(n, .obj (smap es))], .tup [.p (.v r), .p (.v (.bool q))], [], []⟩ :=
  OpOK.quiet fun Γ ρ M s a w hs hh => by
    have hq := evalO_R hs hh hx
    simp only [AV.R, if_true] at hq
    have hn := hh.hp n _ (by simp : (n, AO.obj (smap es)) ∈ _)
    obtain ⟨b, hb, hu⟩ := hq.2 _ hn
    obtain ⟨b', g1, g2, g3⟩ := hs.objs n _ hn
    have e : b' = b := by rw [g1] at hb; simpa using hb
    subst e
    have hky := evalO_R hs hh hy
    simp only [AV.R, PV.R] at hky
    have := lookup_run (k := k) (ok := true) hT hK hz g3
    exact ⟨.tuple #[r, .bool q], by simp [execOp, ho, hu, hky.1, this, hr, hb0], by simp only [AV.R, AV.Ts, PV.R]; exact ⟨_, rfl, _, _, rfl, ⟨rfl, h1⟩, _, _, rfl, ⟨rfl, rfl⟩, rfl⟩⟩

/-! ### Texts -/
/-- The byte at a place. -/
def bAt (t : ByteArray) (i : Nat) : Nat := (t[i]?.getD 0).toNat
theorem bAt_lt (t : ByteArray) (i : Nat) : bAt t i < 256 := (t[i]?.getD 0).toNat_lt
theorem OpOK.indexS {T : TypeId} {x y : Operand} {t : ByteArray} {j : Int} {i : Nat} {k : IntKind} (ho : o.op = .index T x y) (hT : P.underlying T = some .string) (hx : evalO rd x = some (.p (.v (.string t)))) (hy : evalO rd y = some (.p (.v (.int k j))))
    (hj : j = ((i : Nat) : Int)) (hi : i < t.size) : OpOK P o ⟨rd, [], .p (.v (.int .u8 ((bAt t i : Nat) : Int))), [], []⟩ :=
  OpOK.quiet fun Γ ρ M s a w hs hh => by
    have h1 := evalO_R hs hh hx
    have h2 := evalO_R hs hh hy
    simp only [AV.R, PV.R] at h1 h2
    refine ⟨.int .u8 ((bAt t i : Nat) : Int), ?_, by simp only [AV.R, PV.R]; exact ⟨trivial, rfl⟩⟩
    subst hj
    have h3 : t[i]? = some t[i] := ByteArray.getElem?_lt' t i hi
    simp [execOp, ho, h1.1, h2.1, Instr.index, run_underlying hT, asIntOf, h3, bAt]
theorem OpOK.lenS {T : TypeId} {x : Operand} {ats : Array TypeId} {t : ByteArray} (ho : o.op = .call { callee := .builtin .len, args := #[x], argTypes := ats }) (hat : ats[0]? = some T) (hT : P.underlying T = some .string)
    (hx : evalO rd x = some (.p (.v (.string t)))) : OpOK P o ⟨rd, [], .p (.v (.int .i64 ((t.size : Nat) : Int))), [], []⟩ :=
  OpOK.quiet fun Γ ρ M s a w hs hh => by
    have hr' := evalO_R hs hh hx
    simp only [AV.R, PV.R] at hr'
    refine ⟨.int .i64 ((t.size : Nat) : Int), ?_, by simp only [AV.R, PV.R]; exact ⟨trivial, rfl⟩⟩
    simp [execOp, ho, resolve, invoke, builtin, Builtin.len_, hat, hr'.1, run_underlying hT, goInt]
theorem OpOK.addS {T T' : TypeId} {x y : Operand} {p q r : ByteArray} (ho : o.op = .binOp .add T x y T') (hx : evalO rd x = some (.p (.v (.string p)))) (hy : evalO rd y = some (.p (.v (.string q)))) (hl : p.size + q.size ≤ 9223372036854775807) (hr : p ++ q = r) :
    OpOK P o ⟨rd, [], .p (.v (.string r)), [], []⟩ :=
  OpOK.bin ho hx hy (eqGuard_at_string ..) (fun w => by
    subst hr
    have : ¬ IntKind.i64.max < ((p.size + q.size : Nat) : Int) := by rw [IntKind.max_i64]; omega
    simp only [binOp, Op.stringOp]
    rw [if_neg this]; rfl) rfl
def optB (rd : List (Nat × AV)) (d : Nat) : Option Operand → Option Int
  | none => some d
  | some x => match evalO rd x with
    | some (.p (.v (.int .i64 j))) => some j
    | _ => none
theorem run_bound {Γ : Ctx} {ρ : Name → Loc} {M : Nat → Prop} {s : AS} {a : Act} {w : World} {e : Eff} (hs : Sim Γ ρ M s a w) (hh : s.holds e) {x : Option Operand} {d i y : Nat} {c : BoundsCode} (hb : optB e.rd d x = some ((i : Nat) : Int)) (hi : i ≤ y) :
    (match x.map a.eval with | some v => Instr.sliceBound v y c | none => pure d).run P w = .ok i w := by
  cases x with
  | none =>
    simp only [optB, Option.some.injEq] at hb
    have : d = i := by omega
    subst this; rfl
  | some x =>
    simp only [optB] at hb
    split at hb
    · rename_i j hx
      have hr := evalO_R hs hh hx
      simp only [AV.R, PV.R] at hr
      simp only [Option.some.injEq] at hb
      subst hb
      simp [Option.map, hr.1, Instr.sliceBound, asIntOf, hi]
    · simp at hb
theorem OpOK.sliceS {T : TypeId} {x : Operand} {lo hi : Option Operand} {t r : ByteArray} {i j : Nat} (ho : o.op = .slice T x lo hi none) (hT : P.underlying T = some .string) (hx : evalO rd x = some (.p (.v (.string t))))
    (hlo : optB rd 0 lo = some ((i : Nat) : Int)) (hhi : optB rd t.size hi = some ((j : Nat) : Int)) (h1 : i ≤ j) (h2 : j ≤ t.size) (hr : t.extract i j = r) : OpOK P o ⟨rd, [], .p (.v (.string r)), [], []⟩ :=
  OpOK.quiet fun Γ ρ M s a w hs hh => by
    have hq := evalO_R hs hh hx
    simp only [AV.R, PV.R] at hq
    refine ⟨.string r, ?_, by simp only [AV.R, PV.R]; exact ⟨trivial, rfl⟩⟩
    have hb1 := run_bound (P := P) (w := w) (c := .sliceAlen) hs hh hhi h2
    have hb2 := run_bound (P := P) (w := w) (c := .sliceB) hs hh hlo h1
    have hb : (Instr.sliceBounds false t.size t.size (lo.map a.eval) (hi.map a.eval) none).run P w = .ok (i, j, t.size) w := by
      unfold Instr.sliceBounds
      cases lo <;> cases hi <;> simp_all
    simp [execOp, ho, hq.1, Instr.sliceAt, Instr.slice, run_underlying hT, hb, hr]

/-! ### Ranging over a text -/
theorem OpOK.rangeS {T : TypeId} {x : Operand} {n : Name} {t : ByteArray} (ho : o.op = .range T x) (hT : P.underlying T = some .string) (hx : evalO rd x = some (.p (.v (.string t)))) : OpOK P o ⟨rd, [], .oref false n, [(n, .obj (.stringIter t 0))], [n]⟩ :=
  OpOK.mk fun Γ ρ M s a w hs hh => by
    obtain ⟨hn, hf⟩ := hh.nw n (by simp)
    have hq := evalO_R hs hh hx
    simp only [AV.R, PV.R] at hq
    refine ⟨.pointer (some ⟨w.heap.size, 0, none⟩), w.alloc (.stringIter t 0), _, _, ?_, hs.mkObj hn hf (.stringIter t 0), ?_⟩
    · simp [execOp, ho, hq.1, Instr.range, run_underlying hT]
    · simp only [AV.R]; exact ⟨rfl, fun _ _ => ⟨w.heap.size, by simp, by simp⟩⟩
/-- An operation that writes one object and yields a value. -/
theorem OpOK.upd {hp : List (Name × AO)} {v : AV} {n : Name} {ob : AO}
    (h : ∀ (Γ : Ctx) (ρ : Name → Loc) (M : Nat → Prop) (s : AS) (a : Act) (w : World), Sim Γ ρ M s a w → s.holds ⟨rd, hp, v, [(n, ob)], []⟩ → ∃ u w' ρ' M', (execOp a.eval o).run P w = .ok (.value u) w' ∧
      Sim Γ ρ' M' ⟨s.slot, fun m => if m = n then some ob else s.heap m⟩ a w' ∧ v.R ρ' (fun m => if m = n then some ob else s.heap m) M' w' u) : OpOK P o ⟨rd, hp, v, [(n, ob)], []⟩ := by
  intro Γ ρ M s a w K Q hs hh hd hK
  obtain ⟨u, w', ρ', M', h1, h2, h3⟩ := h Γ ρ M s a w hs hh
  unfold Oper.wp
  rw [h1, Oper.upon_value]
  refine hK ρ' M' _ w' ((h2.put hd (fun _ => h3)).congr (fun t => rfl) (fun m => ?_))
  simp only [AS.run, AS.set, look]
  by_cases e : n = m
  · subst e; simp
  · simp [e, Ne.symm e]
theorem OpOK.nextS {x : Operand} {n : Name} {t : ByteArray} {i j : Nat} {c : Nat} (ho : o.op = .next x true) (hx : evalO rd x = some (.oref false n)) (hi : i < t.size) (hd : Utf8.decode t i = (c, j - i)) (hj : i ≤ j) :
    OpOK P o ⟨rd, [(n, .obj (.stringIter t i))], .tup [.p (.v (.bool true)), .p (.v (.int .i64 ((i : Nat) : Int))), .p (.v (.int .i32 ((c : Nat) : Int)))], [(n, .obj (.stringIter t j))], []⟩ :=
  OpOK.upd fun Γ ρ M s a w hs hh => by
    have hr := evalO_R hs hh hx
    simp only [AV.R, Bool.false_eq_true, if_false] at hr
    have hn := hh.hp n _ (by simp : (n, AO.obj (.stringIter t i)) ∈ _)
    obtain ⟨b, hb, hu⟩ := hr.2 _ hn
    obtain ⟨b', g1, g2, g3⟩ := hs.objs n _ hn
    have e : b' = b := by rw [g1] at hb; simpa using hb
    subst e
    have h1 := run_getO (P := P) (x := .stringIter t i) rfl g3
    have h2 := run_setO (P := P) (x := .stringIter t i) (y := .stringIter t j) rfl g3
    refine ⟨.tuple #[.bool true, goInt i, .int .i32 ((c : Nat) : Int)], _, _, _, ?_, hs.setObj (y := .stringIter t j) hn hb, ?_⟩
    · have e2 : i + (j - i) = j := by omega
      simp [execOp, ho, hu, Instr.next, h1, hi, hd, e2, h2]
    · simp only [AV.R, AV.Ts, PV.R]; exact ⟨_, rfl, _, _, rfl, ⟨rfl, rfl⟩, _, _, rfl, ⟨rfl, rfl⟩, _, _, rfl, ⟨rfl, rfl⟩, rfl⟩
theorem OpOK.nextEnd {x : Operand} {n : Name} {t : ByteArray} {i : Nat} (ho : o.op = .next x true) (hx : evalO rd x = some (.oref false n)) (hi : t.size ≤ i) :
    OpOK P o ⟨rd, [(n, .obj (.stringIter t i))], .tup [.p (.v (.bool false))], [], []⟩ :=
  OpOK.quiet fun Γ ρ M s a w hs hh => by
    have hr := evalO_R hs hh hx
    simp only [AV.R, Bool.false_eq_true, if_false] at hr
    have hn := hh.hp n _ (by simp : (n, AO.obj (.stringIter t i)) ∈ _)
    obtain ⟨b, hb, hu⟩ := hr.2 _ hn
    obtain ⟨b', g1, g2, g3⟩ := hs.objs n _ hn
    have e : b' = b := by rw [g1] at hb; simpa using hb
    subst e
    have h1 := run_getO (P := P) (x := .stringIter t i) rfl g3
    exact ⟨.tuple #[.bool false], by simp [execOp, ho, hu, Instr.next, h1, Nat.not_lt.2 hi], by simp only [AV.R, AV.Ts, PV.R]; exact ⟨_, rfl, _, _, rfl, ⟨rfl, rfl⟩, rfl⟩⟩
end
end Go.Proofs.YtbcginibldjnaaaGreat.AM
