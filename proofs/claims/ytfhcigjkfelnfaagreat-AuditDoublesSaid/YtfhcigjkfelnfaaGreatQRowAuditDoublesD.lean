/-
  The abstract machine, part P: closures, maps with texts as keys, iterators over texts, texts. No project text.
-/
import Derived.Test.YtfhcigjkfelnfaaGreatQRowAuditDoublesC
import Derived.Laws.StructEq
set_option linter.unusedSimpArgs false
set_option linter.unusedVariables false
namespace Go.Proofs.YtfhcigjkfelnfaaGreat.AM
open Go
def flatAV : AV → Bool
  | .agg _ => false
  | .tup _ => false
  | _ => true
theorem flatAV_one {ρ : Name → Loc} {H : Heap} {M : Nat → Prop} {w : World} {x : AV} {u : Value} (h : flatAV x = true) (hr : x.R ρ H M w u) : u.oneCell' = true := by
  cases x with
  | agg cs => simp [flatAV] at h
  | tup cs => simp [flatAV] at h
  | p y => simp only [AV.R] at hr; exact hr.flat
  | ref n k => simp only [AV.R] at hr; exact hr.1
  | own n k => simp only [AV.R] at hr; exact hr.1
  | aref n a b c => simp only [AV.R] at hr; exact hr.1
  | view n a b c => simp only [AV.R] at hr; exact hr.1
  | eptr cells => simp only [AV.R] at hr; obtain ⟨ad, rfl, _⟩ := hr; rfl
  | clo f a b => simp only [AV.R] at hr; obtain ⟨a, c, rfl, _⟩ := hr; rfl
  | oref b n => simp only [AV.R] at hr; exact hr.1
  | err b => simp only [AV.R] at hr; exact hr.1
  | ub => simp only [AV.R] at hr; obtain ⟨q, rfl⟩ := hr; rfl
  | any => simpa only [AV.R] using hr
theorem Rs_of_Ts {ρ : Name → Loc} {H : Heap} {M : Nat → Prop} {w : World} : ∀ {xs : List AV} {us : List Value}, xs.all flatAV = true → AV.Ts ρ H M w xs us → AV.Rs ρ H M w xs us
  | [], us, _, h => by simp only [AV.Ts] at h; subst h; simp [AV.Rs]
  | x :: xs, us, hf, h => by
    simp only [AV.Ts] at h
    obtain ⟨u, us', rfl, h3, h4⟩ := h
    simp only [List.all_cons, Bool.and_eq_true] at hf
    simp only [AV.Rs]
    exact ⟨u, us', rfl, flatAV_one hf.1 h3, h3, Rs_of_Ts hf.2 h4⟩
theorem Ts_of_Rs {ρ : Name → Loc} {H : Heap} {M : Nat → Prop} {w : World} : ∀ {xs : List AV} {us : List Value}, AV.Rs ρ H M w xs us → AV.Ts ρ H M w xs us
  | [], us, h => by simp only [AV.Rs] at h; subst h; simp [AV.Ts]
  | x :: xs, us, h => by
    simp only [AV.Rs] at h
    obtain ⟨u, us', rfl, h2, h3, h4⟩ := h
    simp only [AV.Ts]
    exact ⟨u, us', rfl, h3, Ts_of_Rs h4⟩
theorem AV.Ts.append {ρ : Name → Loc} {H : Heap} {M : Nat → Prop} {w : World} : ∀ {xs ys : List AV} {us vs : List Value}, AV.Ts ρ H M w xs us → AV.Ts ρ H M w ys vs → AV.Ts ρ H M w (xs ++ ys) (us ++ vs)
  | [], ys, us, vs, h, h' => by simp only [AV.Ts] at h; subst h; simpa using h'
  | x :: xs, ys, us, vs, h, h' => by
    simp only [AV.Ts] at h
    obtain ⟨u, us', rfl, h3, h4⟩ := h
    simp only [List.cons_append, AV.Ts]
    exact ⟨u, us' ++ vs, rfl, h3, h4.append h'⟩
section
variable {P : Program} {o : Oper} {rd : List (Nat × AV)}
theorem OpOK.makeFunc {fn : Fn} {first captured : Array Operand} {fs cs : List AV} (ho : o.op = .makeFunc fn first captured) (h1 : evalL rd first.toList = some fs) (h2 : evalL rd captured.toList = some cs)
    (hf1 : fs.all flatAV = true) (hf2 : cs.all flatAV = true) : OpOK P o ⟨rd, [], .clo fn fs cs, [], []⟩ :=
  OpOK.quiet fun Γ ρ M s a w hs hh => ⟨.func fn (first.map a.eval) (captured.map a.eval), by simp [execOp, ho, Instr.makeFunc], by
    simp only [AV.R]
    refine ⟨_, _, rfl, ?_, ?_⟩
    · rw [Array.toList_map]; exact Rs_of_Ts hf1 (evalL_R hs hh h1)
    · rw [Array.toList_map]; exact Rs_of_Ts hf2 (evalL_R hs hh h2)⟩
theorem OpOK.callClo {f : FuncId} {x : Operand} {argOps : Array Operand} {ats : Array TypeId} {fs cs args : List AV} {pre h : List (Name × AO)} {v : AV} {nw : List Name}
    (ho : o.op = .call { callee := .value x, args := argOps, argTypes := ats }) (hx : evalO rd x = some (.clo (.func f) fs cs)) (hf : callable P f = true) (hargs : evalL rd argOps.toList = some args)
    (hspec : SpecIs P f (fs ++ args ++ cs) pre v h) (hok : callOK pre h nw v = true) : OpOK P o ⟨rd, pre, v, h, nw⟩ :=
  call_core (hrd := rd) (fun Γ ρ M s a w hs hh => by
    have hr := evalO_R hs hh hx
    simp only [AV.R] at hr
    obtain ⟨A, C, hu, hA, hC⟩ := hr
    refine ⟨A.toList ++ argOps.toList.map a.eval ++ C.toList, ((Ts_of_Rs hA).append (evalL_R hs hh hargs)).append (Ts_of_Rs hC), ?_⟩
    have e : (A.toList ++ argOps.toList.map a.eval ++ C.toList).toArray = A ++ argOps.map a.eval ++ C := by
      rw [← Array.toList_map, ← Array.toList_append, ← Array.toList_append]
    rw [e]
    simp [execOp, ho, resolve, hu, Deferred.ofValue, invoke, run_callFunc hf]) hspec hok
theorem OpOK.callFv {f : FuncId} {x : Operand} {argOps : Array Operand} {ats : Array TypeId} {args : List AV} {pre h : List (Name × AO)} {v : AV} {nw : List Name}
    (ho : o.op = .call { callee := .value x, args := argOps, argTypes := ats }) (hx : evalO rd x = some (.p (.v (.func (.func f) #[] #[])))) (hf : callable P f = true) (hargs : evalL rd argOps.toList = some args)
    (hspec : SpecIs P f args pre v h) (hok : callOK pre h nw v = true) : OpOK P o ⟨rd, pre, v, h, nw⟩ :=
  call_core (hrd := rd) (fun Γ ρ M s a w hs hh => by
    have hr := evalO_R hs hh hx
    simp only [AV.R, PV.R] at hr
    refine ⟨argOps.toList.map a.eval, evalL_R hs hh hargs, ?_⟩
    have e : (argOps.toList.map a.eval).toArray = argOps.map a.eval := by rw [← Array.toList_map]
    rw [e]
    simp [execOp, ho, resolve, hr.1, Deferred.ofValue, invoke, run_callFunc hf]) hspec hok
theorem OpOK.indexArr {T e : TypeId} {x y : Operand} {n : Name} {k k' i es len : Nat} {kd : IntKind} {j : Int} (ho : o.op = .indexAddr T x y) (hT : P.underlying T = some (.array len e)) (hz : sizeT P e = some es)
    (hx : evalO rd x = some (.ref n k)) (hy : evalO rd y = some (.p (.v (.int kd j)))) (hj : j = (i : Int)) (hi : i < len) (hk : k + i * es = k') {cells : List AV} : OpOK P o ⟨rd, [(n, .box cells)], .ref n k', [], []⟩ :=
  OpOK.quiet fun Γ ρ M s a w hs hh => by
    have hr := evalO_R hs hh hx
    simp only [AV.R] at hr
    obtain ⟨b, hb, hu⟩ := hr.2 cells (hh.hp n _ (by simp))
    refine ⟨.pointer (some ⟨b, k', none⟩), ?_, by simp only [AV.R]; exact ⟨rfl, fun _ _ => ⟨b, hb, rfl⟩⟩⟩
    subst hk
    simp [execOp, ho, hu, eval_v hs hh hy, Instr.indexAt, Instr.sureAddr, asIntOf, run_underlying hT, hj, hi, run_sizeOf hz, addr_add]
theorem fill_mono {f g : Nat → Option (Nat × Nat)} (h : ∀ i y, f i = some y → g i = some y) : ∀ (l : List (Nat × Value)) (us us' : Array Value), Instr.fill f us l = some us' → Instr.fill g us l = some us'
  | [], us, us', hf => hf
  | (i, v) :: r, us, us', hf => by
    simp only [Instr.fill] at hf ⊢
    cases hi : f i with
    | none => rw [hi] at hf; simp at hf
    | some y =>
      rw [hi] at hf
      rw [h i y hi]
      simp only at hf ⊢
      split at hf
      · simp at hf
      · rename_i hc
        rw [if_neg hc]
        exact fill_mono h r _ _ hf
def arrPlaces (n es : Nat) : List (Nat × Nat) := (List.range n).map fun i => (i * es, es)
theorem OpOK.buildArr {T e : TypeId} {n es : Nat} {parts : Array (Nat × Operand)} {zs cells : List AV} (ho : o.op = .build T parts) (hT : P.underlying T = some (.array n e)) (hes : sizeT P e = some es) (hz : zeroAV P T = some zs)
    (hc : putCells rd (arrPlaces n es) parts.toList zs = some cells) : OpOK P o ⟨rd, [], .agg cells, [], []⟩ :=
  OpOK.quiet fun Γ ρ M s a w hs hh => by
    obtain ⟨i, z, hi, hz', hall, rfl⟩ := zeroAV_spec hz
    obtain ⟨us, g1, g2⟩ := fill_cells hs hh parts.toList _ cells z.cells (constCells_R hall) hc
    refine ⟨.agg us, ?_, by simp only [AV.R]; exact ⟨us, rfl, g2⟩⟩
    have g3 := fill_mono (g := fun i => some (i * es, es)) (fun i y hy => by
      unfold arrPlaces at hy
      rw [List.getElem?_map] at hy
      cases hr : (List.range n)[i]? with
      | none => rw [hr] at hy; simp at hy
      | some j =>
        rw [hr] at hy
        have hj : j = i := by
          have := List.getElem?_range (show i < n from by
            have := (List.getElem?_eq_some_iff.1 hr).1; simpa using this)
          rw [this] at hr; exact (Option.some.inj hr).symm
        subst hj; exact hy) _ _ _ g1
    have hparts : ((parts.map fun (i, x) => (i, a.eval x)) : Array (Nat × Value)).toList = parts.toList.map fun p => (p.1, a.eval p.2) := by simp
    simp only [execOp, ho, Instr.build, Sem.run_bind, run_zeroValue hi hz', Result.andThen_ok, run_underlying hT, run_sizeOf hes, hparts, g3]
    simp
def setB (w : World) (b : Nat) (x : Obj) : World := { w with heap := w.heap.setIfInBounds b x }
def noCells : Obj → Bool
  | .map _ _ => true
  | .stringIter _ _ => true
  | _ => false
theorem run_getO {w : World} {b : Nat} {x : Obj} (hx : noCells x = true) (h : w.heap[b]? = some x) : (getObj b).run P w = .ok x w := by
  cases x <;> simp [noCells] at hx <;> simp [getObj, Sem.run, h]
theorem run_setO {w : World} {b : Nat} {x y : Obj} (hx : noCells x = true) (h : w.heap[b]? = some x) : (setObj b y).run P w = .ok () (setB w b y) := by
  cases x <;> simp [noCells] at hx <;> simp [setObj, Sem.run, h, setB]
theorem Ext.setB (w : World) (b : Nat) (x : Obj) : Ext (fun c => c = b) w (setB w b x) :=
  ⟨by simp [AM.setB], fun c hc hne => by
    show (w.heap.setIfInBounds b x)[c]? = _
    rw [Array.getElem?_setIfInBounds, if_neg (fun e => hne e.symm)], rfl, rfl⟩
theorem Sim.setObj {Γ : Ctx} {ρ : Name → Loc} {M : Nat → Prop} {s : AS} {a : Act} {w : World} (hs : Sim Γ ρ M s a w) {n : Name} {x y : Obj} (hn : s.heap n = some (.obj x)) {b : Nat} (hb : (ρ n).base = some ⟨b, 0, none⟩) :
    Sim Γ (fun m => if m = n then ρ n else ρ m) M ⟨s.slot, fun m => if m = n then some (.obj y) else s.heap m⟩ a (setB w b y) := by
  obtain ⟨b', g1, g2, g3⟩ := hs.objs n _ hn
  have e : b' = b := by rw [g1] at hb; simpa using hb
  subst e
  have hblk : (ρ n).blk = some b' := by rw [g1]; simp [Loc.blk]
  have he := Ext.setB w b' y
  refine hs.update1 (he.weaken fun c _ hc => ⟨by rw [hblk, hc], by rw [hn]; simp⟩) (fun _ hc => hc) (fun _ hc => .inl hc) (fun c hc => Nat.lt_of_lt_of_le (hs.msize c hc) he.size)
    (fun o' ho' => by rw [hn] at ho'; cases ho'; simp [stays]) (fun h0 => by rw [hn] at h0; simp at h0) ?_ (fun c hc => .inl ⟨_, hn, hc⟩)
  refine ⟨b', by simp [g1], g2, ?_⟩
  show (w.heap.setIfInBounds b' y)[b']? = some y
  rw [Array.getElem?_setIfInBounds, if_pos rfl, if_pos (Array.getElem?_eq_some_iff.1 g3).1]
theorem Sim.mkObj {Γ : Ctx} {ρ : Name → Loc} {M : Nat → Prop} {s : AS} {a : Act} {w : World} (h : Sim Γ ρ M s a w) {n : Name} (hn : s.heap n = none) (hf : s.free n) (x : Obj) :
    Sim Γ (fun m => if m = n then ⟨some ⟨w.heap.size, 0, none⟩, 1⟩ else ρ m) (fun b => M b ∨ b = w.heap.size) ⟨s.slot, fun m => if m = n then some (.obj x) else s.heap m⟩ a (w.alloc x) := by
  have he := Ext.alloc w x
  refine h.update1 (he.weaken fun _ _ hb => hb.elim) (fun b hb => .inl hb) (fun b hb => hb.imp id (fun e => by omega)) (fun b hb => ?_) (fun o' ho' => by rw [hn] at ho'; simp at ho') (fun _ => hf) ?_ (fun b hb => .inr ?_)
  · rcases hb with hb | hb
    · have := h.msize b hb; simp; omega
    · simp [hb]
  · exact ⟨w.heap.size, by simp, .inr rfl, heap_alloc_new w _⟩
  · simp [Loc.blk] at hb; omega
def mkEs : Nat → List (ByteArray × Value) → List MapEntry
  | _, [] => []
  | i, (k, v) :: r => { key := .string k, val := v, born := i } :: mkEs (i + 1) r
def smap (es : List (ByteArray × Value)) : Obj := .map (mkEs 0 es).toArray es.length
def lookI (k : ByteArray) : List (ByteArray × Value) → Nat → Option (Nat × Value)
  | [], _ => none
  | (k', v) :: r, j => if k = k' then some (j, v) else lookI k r (j + 1)
def lookS (k : ByteArray) : List (ByteArray × Value) → Option Value
  | [] => none
  | (k', v) :: r => if k = k' then some v else lookS k r
theorem lookI_S (k : ByteArray) : ∀ (es : List (ByteArray × Value)) (j : Nat), (lookI k es j).map (·.2) = lookS k es
  | [], _ => rfl
  | (k', v) :: r, j => by
    unfold lookI lookS
    split
    · rfl
    · exact lookI_S k r (j + 1)
theorem beq_bytes (a b : ByteArray) : (a == b) = decide (a = b) := by
  rw [beq_toListBytes]; exact bytes_eq a b
theorem findNow_S (k : ByteArray) : ∀ (es : List (ByteArray × Value)) (i j : Nat), Instr.findNow .string (.string k) (mkEs i es) j = some (lookI k es j)
  | [], _, _ => rfl
  | (k', v) :: r, i, j => by
    unfold mkEs Instr.findNow lookI
    simp only [Instr.sameNow, beq_bytes]
    by_cases h : k = k'
    · simp [h]
    · simp only [h, decide_false, if_false]; exact findNow_S k r (i + 1) (j + 1)
theorem mkEs_append : ∀ (es : List (ByteArray × Value)) (i : Nat) (k : ByteArray) (v : Value), mkEs i (es ++ [(k, v)]) = mkEs i es ++ [{ key := .string k, val := v, born := i + es.length }]
  | [], i, k, v => rfl
  | (k', v') :: r, i, k, v => by
    simp only [List.cons_append, mkEs, mkEs_append r (i + 1) k v, List.length_cons]
    rw [show i + 1 + r.length = i + (r.length + 1) by omega]
theorem run_checkKey_str {w : World} {b : Bool} {K : TypeId} {k : ByteArray} (hK : P.underlying K = some .string) : (Instr.checkKey b 10000 K (.string k)).run P w = .ok () w := by
  rw [show (10000 : Nat) = 9999 + 1 from rfl]
  generalize 9999 = m
  unfold Instr.checkKey
  simp [run_underlying hK]
theorem run_findKey_S {w : World} {K : TypeId} {k : ByteArray} (hK : P.underlying K = some .string) (es : List (ByteArray × Value)) (i : Nat) : (Instr.findKey K (.string k) (mkEs i es)).run P w = .ok (lookI k es 0) w := by
  simp [Instr.findKey, run_underlying hK, findNow_S]
theorem OpOK.makeMap {T : TypeId} {n : Name} (ho : o.op = .makeMap T none) : OpOK P o ⟨rd, [], .oref true n, [(n, .obj (smap []))], [n]⟩ :=
  OpOK.mk fun Γ ρ M s a w hs hh => by
    obtain ⟨hn, hf⟩ := hh.nw n (by simp)
    refine ⟨.map (some w.heap.size), w.alloc (smap []), _, _, ?_, hs.mkObj hn hf (smap []), ?_⟩
    · simp [execOp, ho, Instr.makeMap, smap, mkEs]
    · simp only [AV.R]; exact ⟨rfl, fun _ _ => ⟨w.heap.size, by simp, by simp⟩⟩
theorem OpOK.putS {T K E : TypeId} {x y z : Operand} {n : Name} {es es' : List (ByteArray × Value)} {k : ByteArray} {v : Value} (hdst : o.dst = none) (ho : o.op = .mapUpdate T x y z ∨ o.op = .insert T x y z) (hT : P.underlying T = some (.map K E)) (hK : P.underlying K = some .string)
    (hx : evalO rd x = some (.oref true n)) (hy : evalO rd y = some (.p (.v (.string k)))) (hz : evalO rd z = some (.p (.v v))) (hno : lookS k es = none) (he : es ++ [(k, v)] = es') : OpOK P o ⟨rd, [(n, .obj (smap es))], .any, [(n, .obj (smap es'))], []⟩ :=
  OpOK.wr hdst fun Γ ρ M s a w hs hh => by
    subst he
    have hr := evalO_R hs hh hx
    simp only [AV.R, if_true] at hr
    have hn := hh.hp n _ (by simp : (n, AO.obj (smap es)) ∈ _)
    obtain ⟨b, hb, hu⟩ := hr.2 _ hn
    obtain ⟨b', g1, g2, g3⟩ := hs.objs n _ hn
    have e : b' = b := by rw [g1] at hb; simpa using hb
    subst e
    have hky := evalO_R hs hh hy
    have hvz := evalO_R hs hh hz
    simp only [AV.R, PV.R] at hky hvz
    have hl : lookI k es 0 = none := by
      have := lookI_S k es 0; rw [hno] at this; simpa using this
    have hrun : (Instr.mapUpdate T (a.eval x) (a.eval y) (a.eval z)).run P w = .ok () (setB w b' (smap (es ++ [(k, v)]))) := by
      rw [hu, hky.1, hvz.1]
      have h1 := run_getO (P := P) (x := smap es) rfl g3
      have h2 := run_setO (P := P) (x := smap es) (y := smap (es ++ [(k, v)])) rfl g3
      simp only [smap] at h1 h2
      have h3 : (Array.push (mkEs 0 es).toArray { key := .string k, val := v, born := es.length }) = (mkEs 0 (es ++ [(k, v)])).toArray := by
        rw [mkEs_append]; simp
      simp [Instr.mapUpdate, run_underlying hT, h1, run_checkKey_str hK, run_findKey_S hK, hl, h3]
      simpa [smap] using h2
    refine ⟨_, _, _, ?_, hs.setObj (y := smap (es ++ [(k, v)])) hn hb⟩
    rcases ho with ho | ho <;> simp [execOp, ho, hrun]
def zeroV (P : Program) (T : TypeId) : Option Value := match P.info? T with
  | some i => i.zero
  | none => none
theorem run_zeroV {T : TypeId} {z : Value} (h : zeroV P T = some z) (w : World) : (zeroValue T).run P w = .ok z w := by
  unfold zeroV at h
  split at h
  · rename_i i hi; exact run_zeroValue hi h w
  · simp at h
theorem lookup_run {T K E : TypeId} {w : World} {b : Nat} {es : List (ByteArray × Value)} {k : ByteArray} {z : Value} {ok : Bool} (hT : P.underlying T = some (.map K E)) (hK : P.underlying K = some .string) (hz : zeroV P E = some z)
    (hb : w.heap[b]? = some (smap es)) : (Instr.lookup T (.map (some b)) (.string k) ok).run P w = .ok (if ok then .tuple #[(lookS k es).getD z, .bool (lookS k es).isSome] else (lookS k es).getD z) w := by
  have h1 := run_getO (P := P) (x := smap es) rfl hb
  simp only [smap] at h1
  have h2 := lookI_S k es 0
  cases hl : lookI k es 0 with
  | none =>
    rw [hl] at h2
    simp only [Option.map_none] at h2
    simp [Instr.lookup, run_underlying hT, h1, run_checkKey_str hK, run_findKey_S hK, hl, run_zeroV hz, ← h2]
  | some p =>
    rw [hl] at h2
    simp only [Option.map_some] at h2
    simp [Instr.lookup, run_underlying hT, h1, run_checkKey_str hK, run_findKey_S hK, hl, run_zeroV hz, ← h2]
theorem OpOK.lookup {T K E : TypeId} {x y : Operand} {n : Name} {es : List (ByteArray × Value)} {k : ByteArray} {z r : Value} (ho : o.op = .lookup T x y false) (hT : P.underlying T = some (.map K E)) (hK : P.underlying K = some .string) (hz : zeroV P E = some z)
    (hx : evalO rd x = some (.oref true n)) (hy : evalO rd y = some (.p (.v (.string k)))) (hr : (lookS k es).getD z = r) (h1 : r.oneCell' = true) : OpOK P o ⟨rd, [(n, .obj (smap es))], .p (.v r), [], []⟩ :=
  OpOK.quiet fun Γ ρ M s a w hs hh => by
    have hq := evalO_R hs hh hx
    simp only [AV.R, if_true] at hq
    have hn := hh.hp n _ (by simp : (n, AO.obj (smap es)) ∈ _)
    obtain ⟨b, hb, hu⟩ := hq.2 _ hn
    obtain ⟨b', g1, g2, g3⟩ := hs.objs n _ hn
    have e : b' = b := by rw [g1] at hb; simpa using hb
    subst e
    have hky := evalO_R hs hh hy
    simp only [AV.R, PV.R] at hky
    have := lookup_run (k := k) (ok := false) hT hK hz g3
    exact ⟨r, by simp [execOp, ho, hu, hky.1, this, hr], by simp only [AV.R, PV.R]; exact ⟨trivial, h1⟩⟩
def bAt (t : ByteArray) (i : Nat) : Nat := (t[i]?.getD 0).toNat
theorem OpOK.indexS {T : TypeId} {x y : Operand} {t : ByteArray} {j : Int} {i : Nat} {k : IntKind} (ho : o.op = .index T x y) (hT : P.underlying T = some .string) (hx : evalO rd x = some (.p (.v (.string t)))) (hy : evalO rd y = some (.p (.v (.int k j))))
    (hj : j = ((i : Nat) : Int)) (hi : i < t.size) : OpOK P o ⟨rd, [], .p (.v (.int .u8 ((bAt t i : Nat) : Int))), [], []⟩ :=
  OpOK.quiet fun Γ ρ M s a w hs hh => by
    have h1 := evalO_R hs hh hx
    have h2 := evalO_R hs hh hy
    simp only [AV.R, PV.R] at h1 h2
    refine ⟨.int .u8 ((bAt t i : Nat) : Int), ?_, by simp only [AV.R, PV.R]; exact ⟨trivial, rfl⟩⟩
    subst hj
    have h3 : t[i]? = some t[i] := ByteArray.getElem?_lt' t i hi
    simp [execOp, ho, h1.1, h2.1, Instr.index, run_underlying hT, asIntOf, h3, bAt]
theorem OpOK.lenS {T : TypeId} {x : Operand} {ats : Array TypeId} {t : ByteArray} (ho : o.op = .call { callee := .builtin .len, args := #[x], argTypes := ats }) (hat : ats[0]? = some T) (hT : P.underlying T = some .string)
    (hx : evalO rd x = some (.p (.v (.string t)))) : OpOK P o ⟨rd, [], .p (.v (.int .i64 ((t.size : Nat) : Int))), [], []⟩ :=
  OpOK.quiet fun Γ ρ M s a w hs hh => by
    have hr' := evalO_R hs hh hx
    simp only [AV.R, PV.R] at hr'
    refine ⟨.int .i64 ((t.size : Nat) : Int), ?_, by simp only [AV.R, PV.R]; exact ⟨trivial, rfl⟩⟩
    simp [execOp, ho, resolve, invoke, builtin, Builtin.len_, hat, hr'.1, run_underlying hT, goInt]
theorem OpOK.addS {T T' : TypeId} {x y : Operand} {p q r : ByteArray} (ho : o.op = .binOp .add T x y T') (hx : evalO rd x = some (.p (.v (.string p)))) (hy : evalO rd y = some (.p (.v (.string q)))) (hl : p.size + q.size ≤ 9223372036854775807) (hr : p ++ q = r) :
    OpOK P o ⟨rd, [], .p (.v (.string r)), [], []⟩ :=
  OpOK.bin ho hx hy (eqGuard_at_string ..) (fun w => by
    subst hr
    have : ¬ IntKind.i64.max < ((p.size + q.size : Nat) : Int) := by rw [IntKind.max_i64]; omega
    simp only [binOp, Op.stringOp]
    rw [if_neg this]; rfl) rfl
def optB (rd : List (Nat × AV)) (d : Nat) : Option Operand → Option Int
  | none => some d
  | some x => match evalO rd x with
    | some (.p (.v (.int .i64 j))) => some j
    | _ => none
theorem run_bound {Γ : Ctx} {ρ : Name → Loc} {M : Nat → Prop} {s : AS} {a : Act} {w : World} {e : Eff} (hs : Sim Γ ρ M s a w) (hh : s.holds e) {x : Option Operand} {d i y : Nat} {c : BoundsCode} (hb : optB e.rd d x = some ((i : Nat) : Int)) (hi : i ≤ y) :
    (match x.map a.eval with | some v => Instr.sliceBound v y c | none => pure d).run P w = .ok i w := by
  cases x with
  | none =>
    simp only [optB, Option.some.injEq] at hb
    have : d = i := by omega
    subst this; rfl
  | some x =>
    simp only [optB] at hb
    split at hb
    · rename_i j hx
      have hr := evalO_R hs hh hx
      simp only [AV.R, PV.R] at hr
      simp only [Option.some.injEq] at hb
      subst hb
      simp [Option.map, hr.1, Instr.sliceBound, asIntOf, hi]
    · simp at hb
theorem OpOK.upd {hp : List (Name × AO)} {v : AV} {n : Name} {ob : AO}
    (h : ∀ (Γ : Ctx) (ρ : Name → Loc) (M : Nat → Prop) (s : AS) (a : Act) (w : World), Sim Γ ρ M s a w → s.holds ⟨rd, hp, v, [(n, ob)], []⟩ → ∃ u w' ρ' M', (execOp a.eval o).run P w = .ok (.value u) w' ∧
      Sim Γ ρ' M' ⟨s.slot, fun m => if m = n then some ob else s.heap m⟩ a w' ∧ v.R ρ' (fun m => if m = n then some ob else s.heap m) M' w' u) : OpOK P o ⟨rd, hp, v, [(n, ob)], []⟩ := by
  intro Γ ρ M s a w K Q hs hh hd hK
  obtain ⟨u, w', ρ', M', h1, h2, h3⟩ := h Γ ρ M s a w hs hh
  unfold Oper.wp
  rw [h1, Oper.upon_value]
  refine hK ρ' M' _ w' ((h2.put hd (fun _ => h3)).congr (fun t => rfl) (fun m => ?_))
  simp only [AS.run, AS.set, look]
  by_cases e : n = m
  · subst e; simp
  · simp [e, Ne.symm e]
end
end Go.Proofs.YtfhcigjkfelnfaaGreat.AM
/-
  The abstract machine, part Q: regions whose plain operations are reckoned, not written. No project text.
-/
set_option linter.unusedSimpArgs false
set_option linter.unusedVariables false
namespace Go.Proofs.YtfhcigjkfelnfaaGreat.AM
open Go
abbrev Out := List (Name × AO) × AV × List (Name × AO) × List Name
section
variable (P : Program) (rd : List (Nat × AV)) (hs : List (Name × AO))
def kEq : IntKind → IntKind → Bool
  | .i64, .i64 => true
  | .i32, .i32 => true
  | .i16, .i16 => true
  | .i8, .i8 => true
  | .u64, .u64 => true
  | .u32, .u32 => true
  | .u16, .u16 => true
  | .u8, .u8 => true
  | _, _ => false
theorem kEq_of {k k' : IntKind} (h : kEq k k' = true) : k' = k := by
  cases k <;> cases k' <;> first | rfl | simp [kEq] at h
end
theorem bind_some {α β : Type} {x : Option α} {f : α → Option β} {y : β} (h : x.bind f = some y) : ∃ v, x = some v ∧ f v = some y := by
  cases x with
  | none => simp at h
  | some v => exact ⟨v, rfl, by simpa using h⟩
section
variable {P : Program} {o : Oper} {rd : List (Nat × AV)} {hs : List (Name × AO)} {e : Out}
end
section
variable {P : Program} {Γ : Ctx} {s : AS} {Q : Exit → AS → Prop}
end
end Go.Proofs.YtfhcigjkfelnfaaGreat.AM
/-
  The structs of the program, as plain data; their cells; kinds of elements. Written by wip/gen/bdata.py. No project text.
-/
set_option linter.unusedVariables false
namespace Go.Proofs.YtfhcigjkfelnfaaGreat.AM
open Go
namespace D
structure Arr3Int where
  a0 : Int
  a1 : Int
  a2 : Int
  deriving DecidableEq
instance : Inhabited Arr3Int := ⟨⟨default, default, default⟩⟩
abbrev Arr3Int.cells (x : Arr3Int) : List PV := [.v (.int .i64 x.a0), .v (.int .i64 x.a1), .v (.int .i64 x.a2)]
structure YearRule where
  From : Int
  To : Int
  Month : Int
  Week : Int
  Weekday : Int
  Second : Int
  Offset : Int
  deriving DecidableEq
instance : Inhabited YearRule := ⟨⟨default, default, default, default, default, default, default⟩⟩
abbrev YearRule.cells (x : YearRule) : List PV := [.v (.int .i64 x.From), .v (.int .i64 x.To), .v (.int .i64 x.Month), .v (.int .i64 x.Week), .v (.int .i64 x.Weekday), .v (.int .i64 x.Second), .v (.int .i64 x.Offset)]
structure Zone where
  Name : ByteArray
  Offset : Int
  Rules : List D.YearRule
  deriving DecidableEq
instance : Inhabited Zone := ⟨⟨default, default, default⟩⟩
abbrev Zone.cells (x : Zone) : List PV := [.v (.string x.Name), .v (.int .i64 x.Offset), .sl false 7 (x.Rules.map D.YearRule.cells)]
structure Window where
  From : Int
  To : Int
  deriving DecidableEq
instance : Inhabited Window := ⟨⟨default, default⟩⟩
abbrev Window.cells (x : Window) : List PV := [.v (.int .i64 x.From), .v (.int .i64 x.To)]
structure Person where
  Name : ByteArray
  Zone : Int
  Quiet : List D.Window
  MaxWeek : Int
  MinRest : Int
  Consent : Bool
  deriving DecidableEq
instance : Inhabited Person := ⟨⟨default, default, default, default, default, default⟩⟩
abbrev Person.cells (x : Person) : List PV := [.v (.string x.Name), .v (.int .i64 x.Zone), .sl false 2 (x.Quiet.map D.Window.cells), .v (.int .i64 x.MaxWeek), .v (.int .i64 x.MinRest), .v (.bool x.Consent)]
structure Calendar where
  Name : ByteArray
  Zone : Int
  Days : List Int
  deriving DecidableEq
instance : Inhabited Calendar := ⟨⟨default, default, default⟩⟩
abbrev Calendar.cells (x : Calendar) : List PV := [.v (.string x.Name), .v (.int .i64 x.Zone), .sl false 1 (x.Days.map D.cInt)]
structure Local where
  Day : Int
  Second : Int
  deriving DecidableEq
instance : Inhabited Local := ⟨⟨default, default⟩⟩
abbrev Local.cells (x : Local) : List PV := [.v (.int .i64 x.Day), .v (.int .i64 x.Second)]
structure Layer where
  Name : ByteArray
  Zone : Int
  Start : D.Local
  Unit : Int
  Every : Int
  Members : List Int
  Windows : List D.Window
  Calendar : Int
  Mode : Int
  deriving DecidableEq
instance : Inhabited Layer := ⟨⟨default, default, default, default, default, default, default, default, default⟩⟩
abbrev Layer.cells (x : Layer) : List PV := [.v (.string x.Name), .v (.int .i64 x.Zone), .v (.int .i64 x.Start.Day), .v (.int .i64 x.Start.Second), .v (.int .i64 x.Unit), .v (.int .i64 x.Every), .sl false 1 (x.Members.map D.cInt), .sl false 2 (x.Windows.map D.Window.cells), .v (.int .i64 x.Calendar), .v (.int .i64 x.Mode)]
structure Edit where
  Kind : Int
  A : Int
  B : Int
  From : Int
  To : Int
  deriving DecidableEq
instance : Inhabited Edit := ⟨⟨default, default, default, default, default⟩⟩
abbrev Edit.cells (x : Edit) : List PV := [.v (.int .i64 x.Kind), .v (.int .i64 x.A), .v (.int .i64 x.B), .v (.int .i64 x.From), .v (.int .i64 x.To)]
structure Schedule where
  Name : ByteArray
  Layers : List D.Layer
  Edits : List D.Edit
  deriving DecidableEq
instance : Inhabited Schedule := ⟨⟨default, default, default⟩⟩
abbrev Schedule.cells (x : Schedule) : List PV := [.v (.string x.Name), .sl false 10 (x.Layers.map D.Layer.cells), .sl false 5 (x.Edits.map D.Edit.cells)]
structure Config where
  Zones : List D.Zone
  People : List D.Person
  Calendars : List D.Calendar
  Schedules : List D.Schedule
  deriving DecidableEq
instance : Inhabited Config := ⟨⟨default, default, default, default⟩⟩
abbrev Config.cells (x : Config) : List PV := [.sl false 3 (x.Zones.map D.Zone.cells), .sl false 6 (x.People.map D.Person.cells), .sl false 3 (x.Calendars.map D.Calendar.cells), .sl false 3 (x.Schedules.map D.Schedule.cells)]
structure Team where
  Name : ByteArray
  Members : List Int
  deriving DecidableEq
instance : Inhabited Team := ⟨⟨default, default⟩⟩
abbrev Team.cells (x : Team) : List PV := [.v (.string x.Name), .sl false 1 (x.Members.map D.cInt)]
structure Target where
  Kind : Int
  Index : Int
  deriving DecidableEq
instance : Inhabited Target := ⟨⟨default, default⟩⟩
abbrev Target.cells (x : Target) : List PV := [.v (.int .i64 x.Kind), .v (.int .i64 x.Index)]
structure PolicyStep where
  Wait : Int
  Urgent : Bool
  Targets : List D.Target
  deriving DecidableEq
instance : Inhabited PolicyStep := ⟨⟨default, default, default⟩⟩
abbrev PolicyStep.cells (x : PolicyStep) : List PV := [.v (.int .i64 x.Wait), .v (.bool x.Urgent), .sl false 2 (x.Targets.map D.Target.cells)]
structure Policy where
  Name : ByteArray
  Steps : List D.PolicyStep
  Repeat : Int
  deriving DecidableEq
instance : Inhabited Policy := ⟨⟨default, default, default⟩⟩
abbrev Policy.cells (x : Policy) : List PV := [.v (.string x.Name), .sl false 3 (x.Steps.map D.PolicyStep.cells), .v (.int .i64 x.Repeat)]
structure Book where
  Teams : List D.Team
  Policies : List D.Policy
  deriving DecidableEq
instance : Inhabited Book := ⟨⟨default, default⟩⟩
abbrev Book.cells (x : Book) : List PV := [.sl false 2 (x.Teams.map D.Team.cells), .sl false 3 (x.Policies.map D.Policy.cells)]
structure Start where
  K : Int
  At : Int
  People : List Int
  deriving DecidableEq
instance : Inhabited Start := ⟨⟨default, default, default⟩⟩
abbrev Start.cells (x : Start) : List PV := [.v (.int .i64 x.K), .v (.int .i64 x.At), .sl false 1 (x.People.map D.cInt)]
structure Page where
  ID : Int
  Policy : Int
  Start : Int
  Next : Int
  Due : Int
  State : Int
  By : Int
  Until : Int
  Last : Int
  Snoozes : Int
  Hands : Int
  Starts : List D.Start
  Declined : List Int
  Seen : List Int
  deriving DecidableEq
instance : Inhabited Page := ⟨⟨default, default, default, default, default, default, default, default, default, default, default, default, default, default⟩⟩
abbrev Page.cells (x : Page) : List PV := [.v (.int .i64 x.ID), .v (.int .i64 x.Policy), .v (.int .i64 x.Start), .v (.int .i64 x.Next), .v (.int .i64 x.Due), .v (.int .i64 x.State), .v (.int .i64 x.By), .v (.int .i64 x.Until), .v (.int .i64 x.Last), .v (.int .i64 x.Snoozes), .v (.int .i64 x.Hands), .sl false 3 (x.Starts.map D.Start.cells), .sl false 1 (x.Declined.map D.cInt), .sl false 1 (x.Seen.map D.cInt)]
structure Call where
  Page : Int
  K : Int
  At : Int
  Person : Int
  Fence : Int
  deriving DecidableEq
instance : Inhabited Call := ⟨⟨default, default, default, default, default⟩⟩
abbrev Call.cells (x : Call) : List PV := [.v (.int .i64 x.Page), .v (.int .i64 x.K), .v (.int .i64 x.At), .v (.int .i64 x.Person), .v (.int .i64 x.Fence)]
structure Ledger where
  Now : Int
  Config : D.Config
  Book : D.Book
  Pages : List D.Page
  Owner : Int
  Fence : Int
  Seen : List Int
  Calls : List D.Call
  deriving DecidableEq
instance : Inhabited Ledger := ⟨⟨default, default, default, default, default, default, default, default⟩⟩
abbrev Ledger.cells (x : Ledger) : List PV := [.v (.int .i64 x.Now), .sl false 3 (x.Config.Zones.map D.Zone.cells), .sl false 6 (x.Config.People.map D.Person.cells), .sl false 3 (x.Config.Calendars.map D.Calendar.cells), .sl false 3 (x.Config.Schedules.map D.Schedule.cells), .sl false 2 (x.Book.Teams.map D.Team.cells), .sl false 3 (x.Book.Policies.map D.Policy.cells), .sl false 14 (x.Pages.map D.Page.cells), .v (.int .i64 x.Owner), .v (.int .i64 x.Fence), .sl false 1 (x.Seen.map D.cInt), .sl false 5 (x.Calls.map D.Call.cells)]
structure Answer where
  ID : Int
  Page : Int
  Person : Int
  Kind : Int
  Arg : Int
  At : Int
  deriving DecidableEq
instance : Inhabited Answer := ⟨⟨default, default, default, default, default, default⟩⟩
abbrev Answer.cells (x : Answer) : List PV := [.v (.int .i64 x.ID), .v (.int .i64 x.Page), .v (.int .i64 x.Person), .v (.int .i64 x.Kind), .v (.int .i64 x.Arg), .v (.int .i64 x.At)]
structure Op where
  ID : Int
  Kind : Int
  Region : Int
  Fence : Int
  At : Int
  Page : Int
  K : Int
  Policy : Int
  Schedule : Int
  Answer : D.Answer
  Edit : D.Edit
  deriving DecidableEq
instance : Inhabited Op := ⟨⟨default, default, default, default, default, default, default, default, default, default, default⟩⟩
abbrev Op.cells (x : Op) : List PV := [.v (.int .i64 x.ID), .v (.int .i64 x.Kind), .v (.int .i64 x.Region), .v (.int .i64 x.Fence), .v (.int .i64 x.At), .v (.int .i64 x.Page), .v (.int .i64 x.K), .v (.int .i64 x.Policy), .v (.int .i64 x.Schedule), .v (.int .i64 x.Answer.ID), .v (.int .i64 x.Answer.Page), .v (.int .i64 x.Answer.Person), .v (.int .i64 x.Answer.Kind), .v (.int .i64 x.Answer.Arg), .v (.int .i64 x.Answer.At), .v (.int .i64 x.Edit.Kind), .v (.int .i64 x.Edit.A), .v (.int .i64 x.Edit.B), .v (.int .i64 x.Edit.From), .v (.int .i64 x.Edit.To)]
structure Dice where
  L : List Int
  At : Int
  deriving DecidableEq
instance : Inhabited Dice := ⟨⟨default, default⟩⟩
abbrev Dice.cells (x : Dice) : List PV := [.sl false 1 (x.L.map D.cInt), .v (.int .i64 x.At)]
structure Transition where
  At : Int
  Offset : Int
  deriving DecidableEq
instance : Inhabited Transition := ⟨⟨default, default⟩⟩
abbrev Transition.cells (x : Transition) : List PV := [.v (.int .i64 x.At), .v (.int .i64 x.Offset)]
structure Table where
  offset : Int
  list : List D.Transition
  deriving DecidableEq
instance : Inhabited Table := ⟨⟨default, default⟩⟩
abbrev Table.cells (x : Table) : List PV := [.v (.int .i64 x.offset), .sl false 2 (x.list.map D.Transition.cells)]
structure View where
  Config : D.Config
  tables : List D.Table
  deriving DecidableEq
instance : Inhabited View := ⟨⟨default, default⟩⟩
abbrev View.cells (x : View) : List PV := [.sl false 3 (x.Config.Zones.map D.Zone.cells), .sl false 6 (x.Config.People.map D.Person.cells), .sl false 3 (x.Config.Calendars.map D.Calendar.cells), .sl false 3 (x.Config.Schedules.map D.Schedule.cells), .sl false 2 (x.tables.map D.Table.cells)]
structure Date where
  Year : Int
  Month : Int
  Day : Int
  deriving DecidableEq
instance : Inhabited Date := ⟨⟨default, default, default⟩⟩
abbrev Date.cells (x : Date) : List PV := [.v (.int .i64 x.Year), .v (.int .i64 x.Month), .v (.int .i64 x.Day)]
structure Occurrence where
  At : Int
  Offset : Int
  deriving DecidableEq
instance : Inhabited Occurrence := ⟨⟨default, default⟩⟩
abbrev Occurrence.cells (x : Occurrence) : List PV := [.v (.int .i64 x.At), .v (.int .i64 x.Offset)]
structure occurrence where
  local_ : Int
  offset : Int
  deriving DecidableEq
instance : Inhabited occurrence := ⟨⟨default, default⟩⟩
abbrev occurrence.cells (x : occurrence) : List PV := [.v (.int .i64 x.local_), .v (.int .i64 x.offset)]
structure Piece where
  From : Int
  To : Int
  Offset : Int
  deriving DecidableEq
instance : Inhabited Piece := ⟨⟨default, default, default⟩⟩
abbrev Piece.cells (x : Piece) : List PV := [.v (.int .i64 x.From), .v (.int .i64 x.To), .v (.int .i64 x.Offset)]
end D
inductive TC where
  | int
  | str
  | bool
  | u8
  | Arr3Int
  | YearRule
  | Zone
  | Window
  | Person
  | Calendar
  | Local
  | Layer
  | Edit
  | Schedule
  | Config
  | Team
  | Target
  | PolicyStep
  | Policy
  | Book
  | Start
  | Page
  | Call
  | Ledger
  | Answer
  | Op
  | Dice
  | Transition
  | Table
  | View
  | Date
  | Occurrence
  | occurrence
  | Piece
  deriving DecidableEq
abbrev TT : TC → Type
  | .int => Int
  | .str => ByteArray
  | .bool => Bool
  | .u8 => Int
  | .Arr3Int => D.Arr3Int
  | .YearRule => D.YearRule
  | .Zone => D.Zone
  | .Window => D.Window
  | .Person => D.Person
  | .Calendar => D.Calendar
  | .Local => D.Local
  | .Layer => D.Layer
  | .Edit => D.Edit
  | .Schedule => D.Schedule
  | .Config => D.Config
  | .Team => D.Team
  | .Target => D.Target
  | .PolicyStep => D.PolicyStep
  | .Policy => D.Policy
  | .Book => D.Book
  | .Start => D.Start
  | .Page => D.Page
  | .Call => D.Call
  | .Ledger => D.Ledger
  | .Answer => D.Answer
  | .Op => D.Op
  | .Dice => D.Dice
  | .Transition => D.Transition
  | .Table => D.Table
  | .View => D.View
  | .Date => D.Date
  | .Occurrence => D.Occurrence
  | .occurrence => D.occurrence
  | .Piece => D.Piece
instance ttDec : (t : TC) → DecidableEq (TT t)
  | .int => inferInstanceAs (DecidableEq Int)
  | .str => inferInstanceAs (DecidableEq ByteArray)
  | .bool => inferInstanceAs (DecidableEq Bool)
  | .u8 => inferInstanceAs (DecidableEq Int)
  | .Arr3Int => inferInstanceAs (DecidableEq D.Arr3Int)
  | .YearRule => inferInstanceAs (DecidableEq D.YearRule)
  | .Zone => inferInstanceAs (DecidableEq D.Zone)
  | .Window => inferInstanceAs (DecidableEq D.Window)
  | .Person => inferInstanceAs (DecidableEq D.Person)
  | .Calendar => inferInstanceAs (DecidableEq D.Calendar)
  | .Local => inferInstanceAs (DecidableEq D.Local)
  | .Layer => inferInstanceAs (DecidableEq D.Layer)
  | .Edit => inferInstanceAs (DecidableEq D.Edit)
  | .Schedule => inferInstanceAs (DecidableEq D.Schedule)
  | .Config => inferInstanceAs (DecidableEq D.Config)
  | .Team => inferInstanceAs (DecidableEq D.Team)
  | .Target => inferInstanceAs (DecidableEq D.Target)
  | .PolicyStep => inferInstanceAs (DecidableEq D.PolicyStep)
  | .Policy => inferInstanceAs (DecidableEq D.Policy)
  | .Book => inferInstanceAs (DecidableEq D.Book)
  | .Start => inferInstanceAs (DecidableEq D.Start)
  | .Page => inferInstanceAs (DecidableEq D.Page)
  | .Call => inferInstanceAs (DecidableEq D.Call)
  | .Ledger => inferInstanceAs (DecidableEq D.Ledger)
  | .Answer => inferInstanceAs (DecidableEq D.Answer)
  | .Op => inferInstanceAs (DecidableEq D.Op)
  | .Dice => inferInstanceAs (DecidableEq D.Dice)
  | .Transition => inferInstanceAs (DecidableEq D.Transition)
  | .Table => inferInstanceAs (DecidableEq D.Table)
  | .View => inferInstanceAs (DecidableEq D.View)
  | .Date => inferInstanceAs (DecidableEq D.Date)
  | .Occurrence => inferInstanceAs (DecidableEq D.Occurrence)
  | .occurrence => inferInstanceAs (DecidableEq D.occurrence)
  | .Piece => inferInstanceAs (DecidableEq D.Piece)
def tz : TC → Nat
  | .int => 1
  | .str => 1
  | .bool => 1
  | .u8 => 1
  | .Arr3Int => 3
  | .YearRule => 7
  | .Zone => 3
  | .Window => 2
  | .Person => 6
  | .Calendar => 3
  | .Local => 2
  | .Layer => 10
  | .Edit => 5
  | .Schedule => 3
  | .Config => 4
  | .Team => 2
  | .Target => 2
  | .PolicyStep => 3
  | .Policy => 3
  | .Book => 2
  | .Start => 3
  | .Page => 14
  | .Call => 5
  | .Ledger => 12
  | .Answer => 6
  | .Op => 20
  | .Dice => 2
  | .Transition => 2
  | .Table => 2
  | .View => 5
  | .Date => 3
  | .Occurrence => 2
  | .occurrence => 2
  | .Piece => 3
def tcells : (t : TC) → TT t → List PV
  | .int => D.cInt
  | .str => D.cStr
  | .bool => D.cBool
  | .u8 => (D.cK .u8)
  | .Arr3Int => D.Arr3Int.cells
  | .YearRule => D.YearRule.cells
  | .Zone => D.Zone.cells
  | .Window => D.Window.cells
  | .Person => D.Person.cells
  | .Calendar => D.Calendar.cells
  | .Local => D.Local.cells
  | .Layer => D.Layer.cells
  | .Edit => D.Edit.cells
  | .Schedule => D.Schedule.cells
  | .Config => D.Config.cells
  | .Team => D.Team.cells
  | .Target => D.Target.cells
  | .PolicyStep => D.PolicyStep.cells
  | .Policy => D.Policy.cells
  | .Book => D.Book.cells
  | .Start => D.Start.cells
  | .Page => D.Page.cells
  | .Call => D.Call.cells
  | .Ledger => D.Ledger.cells
  | .Answer => D.Answer.cells
  | .Op => D.Op.cells
  | .Dice => D.Dice.cells
  | .Transition => D.Transition.cells
  | .Table => D.Table.cells
  | .View => D.View.cells
  | .Date => D.Date.cells
  | .Occurrence => D.Occurrence.cells
  | .occurrence => D.occurrence.cells
  | .Piece => D.Piece.cells
end Go.Proofs.YtfhcigjkfelnfaaGreat.AM
/-
  The typed layer, part A: values with types (BV), what they mean (er), how they are read. No project text.
-/
set_option linter.unusedVariables false
set_option linter.unusedSimpArgs false
namespace Go.Proofs.YtfhcigjkfelnfaaGreat.AM
open Go
inductive BV where
  | n (k : IntKind) (x : Int)
  | b (x : Bool)
  | s (x : ByteArray)
  | ts (f : Bool) (t : TC) (l : List (TT t))
  | nil
  | agg (cs : List BV)
  | tup (vs : List BV)
  | ref (n : Name) (off : Nat)
  | own (n : Name) (ver : Nat)
  | aref (n : Name) (ver i off : Nat)
  | view (n : Name) (ver lo hi : Nat)
  /-- A map. -/
  | mref (n : Name)
  | tep (cs : List BV)
  | clo (f : Fn) (caps : List BV)
  | v (x : Value)
  /-- A truth value that is not known. -/
  | ub
  | any
inductive BO where
  | box (cells : List BV)
  | arr (t : TC) (l : List (TT t)) (ver : Nat)
  /-- A map from texts to truth values. -/
  | sm (es : List (ByteArray × Bool))
abbrev TS := List (Nat × BV)
abbrev HS := List (Name × BO)
def BV.pv : BV → PV
  | .n k x => .v (.int k x)
  | .b x => .v (.bool x)
  | .s x => .v (.string x)
  | .ts f t l => .sl f (tz t) (l.map (tcells t))
  | .nil => .sl true 0 []
  | .v x => .v x
  | _ => .v .nilIface
def BV.isP : BV → Bool
  | .n _ _ => true
  | .b _ => true
  | .s _ => true
  | .ts _ _ _ => true
  | .nil => true
  | .v _ => true
  | _ => false
abbrev Lens := Name → Nat → Nat
mutual
def BV.er (L : Lens) : BV → AV
  | .agg cs => .agg (erL L cs)
  | .tup vs => .tup (erL L vs)
  | .ref n o => .ref n o
  | .own n v => .own n (L n v)
  | .aref n v i o => .aref n (L n v) i o
  | .view n v i o => .view n (L n v) i o
  | .mref n => .oref true n
  | .tep cs => .eptr (pvL cs)
  | .clo f caps => .clo f [] (erL L caps)
  | .any => .any
  | .ub => .ub
  | .n k x => .p (.v (.int k x))
  | .b x => .p (.v (.bool x))
  | .s x => .p (.v (.string x))
  | .ts f t l => .p (.sl f (tz t) (l.map (tcells t)))
  | .nil => .p (.sl true 0 [])
  | .v x => .p (.v x)
def erL (L : Lens) : List BV → List AV
  | [] => []
  | x :: r => x.er L :: erL L r
def pvL : List BV → List PV
  | [] => []
  | x :: r => x.pv :: pvL r
end
variable {L L' : Lens}
theorem erL_map : ∀ l : List BV, erL L l = l.map (BV.er L)
  | [] => by simp only [erL, List.map_nil]
  | x :: r => by simp only [erL, List.map_cons, erL_map r]
theorem pvL_map : ∀ l : List BV, pvL l = l.map BV.pv
  | [] => by simp only [pvL, List.map_nil]
  | x :: r => by simp only [pvL, List.map_cons, pvL_map r]
theorem er_isP {x : BV} (h : x.isP = true) : x.er L = .p x.pv := by cases x <;> first | (simp only [BV.er, BV.pv]; done) | simp [BV.isP] at h
theorem erL_isP : ∀ {l : List BV}, l.all BV.isP = true → erL L l = pcells (pvL l)
  | [], _ => by simp only [erL, pvL, pcells, List.map_nil]
  | x :: r, h => by
    simp only [List.all_cons, Bool.and_eq_true] at h
    simp only [erL, pvL, pcells, List.map_cons, er_isP h.1, erL_isP h.2]
theorem erL_append (a b : List BV) : erL L (a ++ b) = erL L a ++ erL L b := by simp [erL_map]
theorem erL_length (a : List BV) : (erL L a).length = a.length := by simp [erL_map]
theorem erL_drop (a : List BV) (k : Nat) : erL L (a.drop k) = (erL L a).drop k := by simp [erL_map]
theorem erL_take (a : List BV) (k : Nat) : erL L (a.take k) = (erL L a).take k := by simp [erL_map]
theorem erL_get (a : List BV) (k : Nat) : (erL L a)[k]? = (a[k]?).map (BV.er L) := by simp [erL_map]
theorem erL_setAt (a b : List BV) (k : Nat) : erL L (setAt a k b) = setAt (erL L a) k (erL L b) := by simp [erL_map, setAt]
theorem pvL_drop (a : List BV) (k : Nat) : pvL (a.drop k) = (pvL a).drop k := by simp [pvL_map]
theorem pvL_take (a : List BV) (k : Nat) : pvL (a.take k) = (pvL a).take k := by simp [pvL_map]
theorem pvL_length (a : List BV) : (pvL a).length = a.length := by simp [pvL_map]
theorem pvL_get (a : List BV) (k : Nat) : (pvL a)[k]? = (a[k]?).map BV.pv := by simp [pvL_map]
theorem pvL_setAt (a b : List BV) (k : Nat) : pvL (setAt a k b) = setAt (pvL a) k (pvL b) := by simp [pvL_map, setAt]
def BO.er (L : Lens) : BO → AO
  | .box cells => .box (erL L cells)
  | .arr t l _ => .arr (tz t) (l.map (tcells t))
  | .sm es => .obj (smap (es.map fun p => (p.1, .bool p.2)))
def erT (L : Lens) (ts : TS) : List (Nat × AV) := ts.map fun p => (p.1, p.2.er L)
def erH (L : Lens) (hs : HS) : List (Name × AO) := hs.map fun p => (p.1, p.2.er L)
theorem look_erT (k : Nat) : ∀ ts : TS, look k (erT L ts) = (look k ts).map (BV.er L)
  | [] => rfl
  | (j, x) :: r => by
    show look k ((j, x.er L) :: erT L r) = (look k ((j, x) :: r)).map (BV.er L)
    simp only [look]; split
    · rfl
    · exact look_erT k r
theorem look_erH (k : Nat) : ∀ hs : HS, look k (erH L hs) = (look k hs).map (BO.er L)
  | [] => rfl
  | (j, x) :: r => by
    show look k ((j, x.er L) :: erH L r) = (look k ((j, x) :: r)).map (BO.er L)
    simp only [look]; split
    · rfl
    · exact look_erH k r
theorem erH_append (a b : HS) : erH L (a ++ b) = erH L a ++ erH L b := by simp [erH]
theorem keys_erH (a : HS) : keys (erH L a) = keys a := by simp [erH, keys]
mutual
def BV.has (n : Name) : BV → Bool
  | .agg cs => BV.hasL n cs
  | .tup vs => BV.hasL n vs
  | .clo _ cs => BV.hasL n cs
  | .ref m _ => m == n
  | .own m _ => m == n
  | .aref m _ _ _ => m == n
  | .view m _ _ _ => m == n
  | .mref m => m == n
  | _ => false
def BV.hasL (n : Name) : List BV → Bool
  | [] => false
  | x :: r => BV.has n x || BV.hasL n r
end
mutual
theorem has_er (n : Name) : ∀ x : BV, (x.er L).has n = x.has n
  | .agg cs => by simp only [BV.er, AV.has, BV.has, hasL_er n cs]
  | .tup cs => by simp only [BV.er, AV.has, BV.has, hasL_er n cs]
  | .clo f cs => by simp only [BV.er, AV.has, BV.has, hasL_er n cs, AV.hasL, Bool.false_or]
  | .ref _ _ => by simp only [BV.er, AV.has, BV.has]
  | .own _ _ => by simp only [BV.er, AV.has, BV.has]
  | .aref _ _ _ _ => by simp only [BV.er, AV.has, BV.has]
  | .view _ _ _ _ => by simp only [BV.er, AV.has, BV.has]
  | .mref _ => by simp only [BV.er, AV.has, BV.has]
  | .tep _ => by simp only [BV.er, AV.has, BV.has]
  | .any => by simp only [BV.er, AV.has, BV.has]
  | .ub => by simp only [BV.er, AV.has, BV.has]
  | .n _ _ => by simp only [BV.er, AV.has, BV.has]
  | .b _ => by simp only [BV.er, AV.has, BV.has]
  | .s _ => by simp only [BV.er, AV.has, BV.has]
  | .ts _ _ _ => by simp only [BV.er, AV.has, BV.has]
  | .nil => by simp only [BV.er, AV.has, BV.has]
  | .v _ => by simp only [BV.er, AV.has, BV.has]
theorem hasL_er (n : Name) : ∀ l : List BV, AV.hasL n (erL L l) = BV.hasL n l
  | [] => by simp only [erL, AV.hasL, BV.hasL]
  | x :: r => by simp only [erL, AV.hasL, BV.hasL, has_er n x, hasL_er n r]
end
mutual
def BV.nov (n : Name) (v : Nat) : BV → Bool
  | .agg cs => BV.novL n v cs
  | .tup vs => BV.novL n v vs
  | .clo _ cs => BV.novL n v cs
  | .own m u => !(Nat.beq m n && Nat.beq u v)
  | .aref m u _ _ => !(Nat.beq m n && Nat.beq u v)
  | .view m u _ _ => !(Nat.beq m n && Nat.beq u v)
  | _ => true
def BV.novL (n : Name) (v : Nat) : List BV → Bool
  | [] => true
  | x :: r => BV.nov n v x && BV.novL n v r
end
mutual
theorem er_congr : ∀ x : BV, (∀ n v, x.nov n v = false → L n v = L' n v) → x.er L = x.er L'
  | .agg cs, h => by simp only [BV.er, erL_congr cs (fun n v hn => h n v (by simpa only [BV.nov] using hn))]
  | .tup cs, h => by simp only [BV.er, erL_congr cs (fun n v hn => h n v (by simpa only [BV.nov] using hn))]
  | .clo f cs, h => by simp only [BV.er, erL_congr cs (fun n v hn => h n v (by simpa only [BV.nov] using hn))]
  | .ref _ _, _ => by simp only [BV.er]
  | .own m u, h => by simp only [BV.er, h m u (by simp [BV.nov])]
  | .aref m u _ _, h => by simp only [BV.er, h m u (by simp [BV.nov])]
  | .view m u _ _, h => by simp only [BV.er, h m u (by simp [BV.nov])]
  | .mref _, _ => by simp only [BV.er]
  | .tep _, _ => by simp only [BV.er]
  | .any, _ => by simp only [BV.er]
  | .ub, _ => by simp only [BV.er]
  | .n _ _, _ => by simp only [BV.er]
  | .b _, _ => by simp only [BV.er]
  | .s _, _ => by simp only [BV.er]
  | .ts _ _ _, _ => by simp only [BV.er]
  | .nil, _ => by simp only [BV.er]
  | .v _, _ => by simp only [BV.er]
theorem erL_congr : ∀ l : List BV, (∀ n v, BV.novL n v l = false → L n v = L' n v) → erL L l = erL L' l
  | [], _ => by simp only [erL]
  | x :: r, h => by
    simp only [erL, er_congr x (fun n v hn => h n v (by simp only [BV.novL, hn, Bool.false_and])), erL_congr r (fun n v hn => h n v (by simp only [BV.novL, hn, Bool.and_false]))]
end
mutual
theorem nov_has {n : Name} {v : Nat} : ∀ x : BV, x.nov n v = false → x.has n = true
  | .agg cs, h => by simp only [BV.nov] at h; simp only [BV.has, novL_has cs h]
  | .tup cs, h => by simp only [BV.nov] at h; simp only [BV.has, novL_has cs h]
  | .clo f cs, h => by simp only [BV.nov] at h; simp only [BV.has, novL_has cs h]
  | .ref _ _, h => by simp [BV.nov] at h
  | .own m u, h => by simp only [BV.nov, Bool.not_eq_false', Bool.and_eq_true, Nat.beq_eq] at h; simp [BV.has, h.1]
  | .view m u _ _, h => by simp only [BV.nov, Bool.not_eq_false', Bool.and_eq_true, Nat.beq_eq] at h; simp [BV.has, h.1]
  | .mref _, h => by simp [BV.nov] at h
  | .aref m u _ _, h => by simp only [BV.nov, Bool.not_eq_false', Bool.and_eq_true, Nat.beq_eq] at h; simp [BV.has, h.1]
  | .tep _, h => by simp [BV.nov] at h
  | .any, h => by simp [BV.nov] at h
  | .ub, h => by simp [BV.nov] at h
  | .n _ _, h => by simp [BV.nov] at h
  | .b _, h => by simp [BV.nov] at h
  | .s _, h => by simp [BV.nov] at h
  | .ts _ _ _, h => by simp [BV.nov] at h
  | .nil, h => by simp [BV.nov] at h
  | .v _, h => by simp [BV.nov] at h
theorem novL_has {n : Name} {v : Nat} : ∀ l : List BV, BV.novL n v l = false → BV.hasL n l = true
  | [], h => by simp [BV.novL] at h
  | x :: r, h => by
    simp only [BV.novL, Bool.and_eq_false_iff] at h
    simp only [BV.hasL, Bool.or_eq_true]
    exact h.imp (nov_has x) (novL_has r)
end
def BO.has (n : Name) : BO → Bool
  | .box cells => BV.hasL n cells
  | .arr _ _ _ => false
  | .sm _ => false
def BO.nov (n : Name) (v : Nat) : BO → Bool
  | .box cells => BV.novL n v cells
  | .arr _ _ _ => true
  | .sm _ => true
theorem hasO_er (n : Name) (o : BO) : (o.er L).has n = o.has n := by cases o <;> simp only [BO.er, AO.has, BO.has, hasL_er]
def freeS (n : Name) (ts : TS) (hs : HS) : Bool := ts.all (fun p => !p.2.has n) && hs.all (fun p => !p.2.has n)
theorem freeS_er {n : Name} {ts : TS} {hs : HS} : freeIn n (erT L ts) (erH L hs) = freeS n ts hs := by
  simp only [freeIn, freeS, erT, erH, List.all_map]
  congr 1
  · congr 1; funext p; simp only [Function.comp, has_er]
  · congr 1; funext p; simp only [Function.comp, hasO_er]
def novS (n : Name) (v : Nat) (ts : TS) (hs : HS) : Bool := ts.all (fun p => p.2.nov n v) && hs.all (fun p => p.2.nov n v)
theorem erO_congr (o : BO) (h : ∀ n v, o.nov n v = false → L n v = L' n v) : o.er L = o.er L' := by
  cases o with
  | box cs => simp only [BO.er, erL_congr cs (fun n v hn => h n v (by simpa only [BO.nov] using hn))]
  | arr t l => simp only [BO.er]
  | sm es => simp only [BO.er]
theorem novO_has {n : Name} {v : Nat} (o : BO) (h : o.nov n v = false) : o.has n = true := by
  cases o with
  | box cs => exact novL_has cs h
  | arr t l => simp [BO.nov] at h
  | sm es => simp [BO.nov] at h
theorem erS_congr {nw : List Name} {nv : List (Name × Nat)} {ts : TS} {hs : HS} (h1 : ∀ n, n ∈ nw → freeS n ts hs = true) (h2 : ∀ p, p ∈ nv → novS p.1 p.2 ts hs = true) (h : ∀ n v, n ∉ nw → (n, v) ∉ nv → L' n v = L n v) : erT L ts = erT L' ts ∧ erH L hs = erH L' hs := by
  have key : ∀ n v, ((∃ p ∈ ts, p.2.nov n v = false) ∨ (∃ p ∈ hs, p.2.nov n v = false)) → L n v = L' n v := fun n v hx => by
    refine (h n v (fun hn => ?_) (fun hn => ?_)).symm
    · have := h1 n hn
      simp only [freeS, Bool.and_eq_true, List.all_eq_true] at this
      rcases hx with ⟨p, hp, hq⟩ | ⟨p, hp, hq⟩
      · have := this.1 p hp; rw [nov_has _ hq] at this; simp at this
      · have := this.2 p hp; rw [novO_has _ hq] at this; simp at this
    · have := h2 _ hn
      simp only [novS, Bool.and_eq_true, List.all_eq_true] at this
      rcases hx with ⟨p, hp, hq⟩ | ⟨p, hp, hq⟩
      · have := this.1 p hp; rw [hq] at this; simp at this
      · have := this.2 p hp; rw [hq] at this; simp at this
  unfold erT erH
  refine ⟨List.map_congr_left fun p hp => ?_, List.map_congr_left fun p hp => ?_⟩
  · rw [er_congr p.2 (fun n v hn => key n v (.inl ⟨p, hp, hn⟩))]
  · rw [erO_congr p.2 (fun n v hn => key n v (.inr ⟨p, hp, hn⟩))]
section
variable {R : Type}
def cnd (c : Bool) (x y : Option R) : Option R := match c with | true => x | false => y
def natc (j : Int) (k : Nat → Option R) : Option R := if 0 ≤ j then k j.toNat else none
def optc {α : Type} (o : Option α) (k : α → Option R) : Option R := match o with | some x => k x | none => none
def atc {α : Type} (l : List α) (j : Int) (k : α → Option R) : Option R := natc j fun i => optc l[i]? k
def chk (a b : Nat) (x : Option R) : Option R := if a = b then x else none
def ltc (a b : Nat) (x : Option R) : Option R := if a < b then x else none
def nilC {α : Type} (l : List α) (x y : Option R) : Option R := match l with | [] => x | _ :: _ => y
def both [DecidableEq R] (x y : Option R) : Option R := if x = y then x else none
def lec (a b : Nat) (x : Option R) : Option R := if a ≤ b then x else none
def nzc (b : Int) (x : Option R) : Option R := if b = 0 then none else x
def iterF {X : Type} (B : (X → Option R) → X → Option R) : Nat → X → Option R
  | 0, _ => none
  | n + 1, x => B (iterF B n) x
def join {Y : Type} (k : Y → Option R) (f : (Y → Option R) → Option R) : Option R := f k
variable {r : R}
theorem cnd_some {c : Bool} {x y : Option R} (h : cnd c x y = some r) : c = true ∧ x = some r ∨ c = false ∧ y = some r := by
  cases c
  · exact .inr ⟨rfl, h⟩
  · exact .inl ⟨rfl, h⟩
theorem nilC_some {α : Type} {l : List α} {x y : Option R} (h : nilC l x y = some r) : l = [] ∧ x = some r ∨ l ≠ [] ∧ y = some r := by
  cases l with
  | nil => exact .inl ⟨rfl, h⟩
  | cons a q => exact .inr ⟨by simp, h⟩
theorem both_some [DecidableEq R] {x y : Option R} (h : both x y = some r) : x = some r ∧ y = some r := by
  unfold both at h
  split at h
  · rename_i e; exact ⟨h, e ▸ h⟩
  · simp at h
theorem natc_some {j : Int} {k : Nat → Option R} (h : natc j k = some r) : ∃ i : Nat, j = (i : Int) ∧ k i = some r := by
  unfold natc at h
  split at h
  · exact ⟨j.toNat, by omega, h⟩
  · simp at h
theorem optc_some {α : Type} {o : Option α} {k : α → Option R} (h : optc o k = some r) : ∃ x, o = some x ∧ k x = some r := by
  cases o with
  | none => simp [optc] at h
  | some x => exact ⟨x, rfl, h⟩
theorem atc_some {α : Type} {l : List α} {j : Int} {k : α → Option R} (h : atc l j k = some r) : ∃ (i : Nat) (x : α), j = (i : Int) ∧ l[i]? = some x ∧ k x = some r := by
  obtain ⟨i, hi, h2⟩ := natc_some h
  obtain ⟨x, hx, h3⟩ := optc_some h2
  exact ⟨i, x, hi, hx, h3⟩
theorem chk_some {a b : Nat} {x : Option R} (h : chk a b x = some r) : a = b ∧ x = some r := by
  unfold chk at h; split at h
  · exact ⟨by assumption, h⟩
  · simp at h
theorem ltc_some {a b : Nat} {x : Option R} (h : ltc a b x = some r) : a < b ∧ x = some r := by
  unfold ltc at h; split at h
  · exact ⟨by assumption, h⟩
  · simp at h
theorem lec_some {a b : Nat} {x : Option R} (h : lec a b x = some r) : a ≤ b ∧ x = some r := by
  unfold lec at h; split at h
  · exact ⟨by assumption, h⟩
  · simp at h
theorem nzc_some {b : Int} {x : Option R} (h : nzc b x = some r) : b ≠ 0 ∧ x = some r := by
  unfold nzc at h; split at h
  · simp at h
  · exact ⟨by assumption, h⟩
end
def Le (a b : List BV) : Prop := ∀ L, AVleL (erL L a) (erL L b)
theorem AVleL.refl : ∀ l : List AV, AVleL l l
  | [] => .nil
  | x :: r => .cons (.refl x) (AVleL.refl r)
theorem Le.refl (l : List BV) : Le l l := fun L => AVleL.refl _
theorem Le.cons {x y : BV} {a b : List BV} (h : ∀ L, AVle (x.er L) (y.er L)) (h' : Le a b) : Le (x :: a) (y :: b) := fun L => by simp only [erL]; exact AVleL.cons (h L) (h' L)
theorem Le.cons' {x : BV} {a b : List BV} (h' : Le a b) : Le (x :: a) (x :: b) := fun L => by simp only [erL]; exact AVleL.cons (.refl _) (h' L)
def castL {t t0 : TC} (h : t = t0) (l : List (TT t)) : List (TT t0) := h ▸ l
section
variable {R : Type} {r : R}
def popN (k0 : IntKind) : List BV → (Int → List BV → Option R) → Option R
  | .n k x :: l, K => if kEq k0 k then K x l else none
  | _, _ => none
def popB : List BV → (Bool → List BV → Option R) → Option R
  | .b x :: l, K => K x l
  | _, _ => none
def popS : List BV → (ByteArray → List BV → Option R) → Option R
  | .s x :: l, K => K x l
  | _, _ => none
def popT (t0 : TC) : List BV → (List (TT t0) → List BV → Option R) → Option R
  | .ts _ t x :: l, K => if h : t = t0 then K (castL h x) l else none
  | .nil :: l, K => K [] l
  | _, _ => none
theorem popN_some {k0 : IntKind} {cs : List BV} {K : Int → List BV → Option R} (h : popN k0 cs K = some r) : ∃ x l, cs = .n k0 x :: l ∧ K x l = some r := by
  unfold popN at h
  split at h
  · split at h
    · rename_i he; have := kEq_of he; subst this; exact ⟨_, _, rfl, h⟩
    · simp at h
  · simp at h
theorem popB_some {cs : List BV} {K : Bool → List BV → Option R} (h : popB cs K = some r) : ∃ x l, cs = .b x :: l ∧ K x l = some r := by
  unfold popB at h
  split at h
  · exact ⟨_, _, rfl, h⟩
  · simp at h
theorem popS_some {cs : List BV} {K : ByteArray → List BV → Option R} (h : popS cs K = some r) : ∃ x l, cs = .s x :: l ∧ K x l = some r := by
  unfold popS at h
  split at h
  · exact ⟨_, _, rfl, h⟩
  · simp at h
theorem nil_le (t : TC) (L : Lens) : AVle (BV.nil.er L) ((BV.ts false t []).er L) := by simp only [BV.er]; exact .p (PVle.nil (fun h => by simp at h))
theorem popT_some {t0 : TC} {cs : List BV} {K : List (TT t0) → List BV → Option R} (h : popT t0 cs K = some r) : ∃ x l v, cs = v :: l ∧ (∀ L, AVle (v.er L) ((BV.ts false t0 x).er L)) ∧ K x l = some r := by
  unfold popT at h
  split at h
  · split at h
    · rename_i he; subst he; exact ⟨_, _, _, rfl, fun L => by simp only [BV.er, castL]; exact .p (PVle.full _), h⟩
    · simp at h
  · exact ⟨_, _, _, rfl, nil_le t0, h⟩
  · simp at h
end
end Go.Proofs.YtfhcigjkfelnfaaGreat.AM
/-
  Typed cells, and typed data read off cells. Written by wip/gen/bdata.py. No project text.
-/
set_option linter.unusedVariables false
namespace Go.Proofs.YtfhcigjkfelnfaaGreat.AM
open Go
def tb : (t : TC) → TT t → List BV
  | .int, x => [.n .i64 x]
  | .str, x => [.s x]
  | .bool, x => [.b x]
  | .u8, x => [.n .u8 x]
  | .Arr3Int, x => [.n .i64 x.a0, .n .i64 x.a1, .n .i64 x.a2]
  | .YearRule, x => [.n .i64 x.From, .n .i64 x.To, .n .i64 x.Month, .n .i64 x.Week, .n .i64 x.Weekday, .n .i64 x.Second, .n .i64 x.Offset]
  | .Zone, x => [.s x.Name, .n .i64 x.Offset, .ts false .YearRule x.Rules]
  | .Window, x => [.n .i64 x.From, .n .i64 x.To]
  | .Person, x => [.s x.Name, .n .i64 x.Zone, .ts false .Window x.Quiet, .n .i64 x.MaxWeek, .n .i64 x.MinRest, .b x.Consent]
  | .Calendar, x => [.s x.Name, .n .i64 x.Zone, .ts false .int x.Days]
  | .Local, x => [.n .i64 x.Day, .n .i64 x.Second]
  | .Layer, x => [.s x.Name, .n .i64 x.Zone, .n .i64 x.Start.Day, .n .i64 x.Start.Second, .n .i64 x.Unit, .n .i64 x.Every, .ts false .int x.Members, .ts false .Window x.Windows, .n .i64 x.Calendar, .n .i64 x.Mode]
  | .Edit, x => [.n .i64 x.Kind, .n .i64 x.A, .n .i64 x.B, .n .i64 x.From, .n .i64 x.To]
  | .Schedule, x => [.s x.Name, .ts false .Layer x.Layers, .ts false .Edit x.Edits]
  | .Config, x => [.ts false .Zone x.Zones, .ts false .Person x.People, .ts false .Calendar x.Calendars, .ts false .Schedule x.Schedules]
  | .Team, x => [.s x.Name, .ts false .int x.Members]
  | .Target, x => [.n .i64 x.Kind, .n .i64 x.Index]
  | .PolicyStep, x => [.n .i64 x.Wait, .b x.Urgent, .ts false .Target x.Targets]
  | .Policy, x => [.s x.Name, .ts false .PolicyStep x.Steps, .n .i64 x.Repeat]
  | .Book, x => [.ts false .Team x.Teams, .ts false .Policy x.Policies]
  | .Start, x => [.n .i64 x.K, .n .i64 x.At, .ts false .int x.People]
  | .Page, x => [.n .i64 x.ID, .n .i64 x.Policy, .n .i64 x.Start, .n .i64 x.Next, .n .i64 x.Due, .n .i64 x.State, .n .i64 x.By, .n .i64 x.Until, .n .i64 x.Last, .n .i64 x.Snoozes, .n .i64 x.Hands, .ts false .Start x.Starts, .ts false .int x.Declined, .ts false .int x.Seen]
  | .Call, x => [.n .i64 x.Page, .n .i64 x.K, .n .i64 x.At, .n .i64 x.Person, .n .i64 x.Fence]
  | .Ledger, x => [.n .i64 x.Now, .ts false .Zone x.Config.Zones, .ts false .Person x.Config.People, .ts false .Calendar x.Config.Calendars, .ts false .Schedule x.Config.Schedules, .ts false .Team x.Book.Teams, .ts false .Policy x.Book.Policies, .ts false .Page x.Pages, .n .i64 x.Owner, .n .i64 x.Fence, .ts false .int x.Seen, .ts false .Call x.Calls]
  | .Answer, x => [.n .i64 x.ID, .n .i64 x.Page, .n .i64 x.Person, .n .i64 x.Kind, .n .i64 x.Arg, .n .i64 x.At]
  | .Op, x => [.n .i64 x.ID, .n .i64 x.Kind, .n .i64 x.Region, .n .i64 x.Fence, .n .i64 x.At, .n .i64 x.Page, .n .i64 x.K, .n .i64 x.Policy, .n .i64 x.Schedule, .n .i64 x.Answer.ID, .n .i64 x.Answer.Page, .n .i64 x.Answer.Person, .n .i64 x.Answer.Kind, .n .i64 x.Answer.Arg, .n .i64 x.Answer.At, .n .i64 x.Edit.Kind, .n .i64 x.Edit.A, .n .i64 x.Edit.B, .n .i64 x.Edit.From, .n .i64 x.Edit.To]
  | .Dice, x => [.ts false .int x.L, .n .i64 x.At]
  | .Transition, x => [.n .i64 x.At, .n .i64 x.Offset]
  | .Table, x => [.n .i64 x.offset, .ts false .Transition x.list]
  | .View, x => [.ts false .Zone x.Config.Zones, .ts false .Person x.Config.People, .ts false .Calendar x.Config.Calendars, .ts false .Schedule x.Config.Schedules, .ts false .Table x.tables]
  | .Date, x => [.n .i64 x.Year, .n .i64 x.Month, .n .i64 x.Day]
  | .Occurrence, x => [.n .i64 x.At, .n .i64 x.Offset]
  | .occurrence, x => [.n .i64 x.local_, .n .i64 x.offset]
  | .Piece, x => [.n .i64 x.From, .n .i64 x.To, .n .i64 x.Offset]
theorem tb_isP : ∀ (t : TC) (x : TT t), (tb t x).all BV.isP = true
  | .int, _ => rfl
  | .str, _ => rfl
  | .bool, _ => rfl
  | .u8, _ => rfl
  | .Arr3Int, _ => rfl
  | .YearRule, _ => rfl
  | .Zone, _ => rfl
  | .Window, _ => rfl
  | .Person, _ => rfl
  | .Calendar, _ => rfl
  | .Local, _ => rfl
  | .Layer, _ => rfl
  | .Edit, _ => rfl
  | .Schedule, _ => rfl
  | .Config, _ => rfl
  | .Team, _ => rfl
  | .Target, _ => rfl
  | .PolicyStep, _ => rfl
  | .Policy, _ => rfl
  | .Book, _ => rfl
  | .Start, _ => rfl
  | .Page, _ => rfl
  | .Call, _ => rfl
  | .Ledger, _ => rfl
  | .Answer, _ => rfl
  | .Op, _ => rfl
  | .Dice, _ => rfl
  | .Transition, _ => rfl
  | .Table, _ => rfl
  | .View, _ => rfl
  | .Date, _ => rfl
  | .Occurrence, _ => rfl
  | .occurrence, _ => rfl
  | .Piece, _ => rfl
theorem tb_pv : ∀ (t : TC) (x : TT t), pvL (tb t x) = tcells t x
  | .int, _ => rfl
  | .str, _ => rfl
  | .bool, _ => rfl
  | .u8, _ => rfl
  | .Arr3Int, _ => rfl
  | .YearRule, _ => rfl
  | .Zone, _ => rfl
  | .Window, _ => rfl
  | .Person, _ => rfl
  | .Calendar, _ => rfl
  | .Local, _ => rfl
  | .Layer, _ => rfl
  | .Edit, _ => rfl
  | .Schedule, _ => rfl
  | .Config, _ => rfl
  | .Team, _ => rfl
  | .Target, _ => rfl
  | .PolicyStep, _ => rfl
  | .Policy, _ => rfl
  | .Book, _ => rfl
  | .Start, _ => rfl
  | .Page, _ => rfl
  | .Call, _ => rfl
  | .Ledger, _ => rfl
  | .Answer, _ => rfl
  | .Op, _ => rfl
  | .Dice, _ => rfl
  | .Transition, _ => rfl
  | .Table, _ => rfl
  | .View, _ => rfl
  | .Date, _ => rfl
  | .Occurrence, _ => rfl
  | .occurrence, _ => rfl
  | .Piece, _ => rfl
section
variable {R : Type} {r : R}
def tpop : (t : TC) → List BV → (TT t → List BV → Option R) → Option R
  | .int, c, K => popN .i64 c K
  | .str, c, K => popS c K
  | .bool, c, K => popB c K
  | .u8, c, K => popN .u8 c K
  | .Arr3Int, c, K => popN .i64 c fun a0 c => popN .i64 c fun a1 c => popN .i64 c fun a2 c => K ⟨a0, a1, a2⟩ c
  | .YearRule, c, K => popN .i64 c fun a0 c => popN .i64 c fun a1 c => popN .i64 c fun a2 c => popN .i64 c fun a3 c => popN .i64 c fun a4 c => popN .i64 c fun a5 c => popN .i64 c fun a6 c => K ⟨a0, a1, a2, a3, a4, a5, a6⟩ c
  | .Zone, c, K => popS c fun a0 c => popN .i64 c fun a1 c => popT .YearRule c fun a2 c => K ⟨a0, a1, a2⟩ c
  | .Window, c, K => popN .i64 c fun a0 c => popN .i64 c fun a1 c => K ⟨a0, a1⟩ c
  | .Person, c, K => popS c fun a0 c => popN .i64 c fun a1 c => popT .Window c fun a2 c => popN .i64 c fun a3 c => popN .i64 c fun a4 c => popB c fun a5 c => K ⟨a0, a1, a2, a3, a4, a5⟩ c
  | .Calendar, c, K => popS c fun a0 c => popN .i64 c fun a1 c => popT .int c fun a2 c => K ⟨a0, a1, a2⟩ c
  | .Local, c, K => popN .i64 c fun a0 c => popN .i64 c fun a1 c => K ⟨a0, a1⟩ c
  | .Layer, c, K => popS c fun a0 c => popN .i64 c fun a1 c => popN .i64 c fun a2 c => popN .i64 c fun a3 c => popN .i64 c fun a4 c => popN .i64 c fun a5 c => popT .int c fun a6 c => popT .Window c fun a7 c => popN .i64 c fun a8 c => popN .i64 c fun a9 c => K ⟨a0, a1, ⟨a2, a3⟩, a4, a5, a6, a7, a8, a9⟩ c
  | .Edit, c, K => popN .i64 c fun a0 c => popN .i64 c fun a1 c => popN .i64 c fun a2 c => popN .i64 c fun a3 c => popN .i64 c fun a4 c => K ⟨a0, a1, a2, a3, a4⟩ c
  | .Schedule, c, K => popS c fun a0 c => popT .Layer c fun a1 c => popT .Edit c fun a2 c => K ⟨a0, a1, a2⟩ c
  | .Config, c, K => popT .Zone c fun a0 c => popT .Person c fun a1 c => popT .Calendar c fun a2 c => popT .Schedule c fun a3 c => K ⟨a0, a1, a2, a3⟩ c
  | .Team, c, K => popS c fun a0 c => popT .int c fun a1 c => K ⟨a0, a1⟩ c
  | .Target, c, K => popN .i64 c fun a0 c => popN .i64 c fun a1 c => K ⟨a0, a1⟩ c
  | .PolicyStep, c, K => popN .i64 c fun a0 c => popB c fun a1 c => popT .Target c fun a2 c => K ⟨a0, a1, a2⟩ c
  | .Policy, c, K => popS c fun a0 c => popT .PolicyStep c fun a1 c => popN .i64 c fun a2 c => K ⟨a0, a1, a2⟩ c
  | .Book, c, K => popT .Team c fun a0 c => popT .Policy c fun a1 c => K ⟨a0, a1⟩ c
  | .Start, c, K => popN .i64 c fun a0 c => popN .i64 c fun a1 c => popT .int c fun a2 c => K ⟨a0, a1, a2⟩ c
  | .Page, c, K => popN .i64 c fun a0 c => popN .i64 c fun a1 c => popN .i64 c fun a2 c => popN .i64 c fun a3 c => popN .i64 c fun a4 c => popN .i64 c fun a5 c => popN .i64 c fun a6 c => popN .i64 c fun a7 c => popN .i64 c fun a8 c => popN .i64 c fun a9 c => popN .i64 c fun a10 c => popT .Start c fun a11 c => popT .int c fun a12 c => popT .int c fun a13 c => K ⟨a0, a1, a2, a3, a4, a5, a6, a7, a8, a9, a10, a11, a12, a13⟩ c
  | .Call, c, K => popN .i64 c fun a0 c => popN .i64 c fun a1 c => popN .i64 c fun a2 c => popN .i64 c fun a3 c => popN .i64 c fun a4 c => K ⟨a0, a1, a2, a3, a4⟩ c
  | .Ledger, c, K => popN .i64 c fun a0 c => popT .Zone c fun a1 c => popT .Person c fun a2 c => popT .Calendar c fun a3 c => popT .Schedule c fun a4 c => popT .Team c fun a5 c => popT .Policy c fun a6 c => popT .Page c fun a7 c => popN .i64 c fun a8 c => popN .i64 c fun a9 c => popT .int c fun a10 c => popT .Call c fun a11 c => K ⟨a0, ⟨a1, a2, a3, a4⟩, ⟨a5, a6⟩, a7, a8, a9, a10, a11⟩ c
  | .Answer, c, K => popN .i64 c fun a0 c => popN .i64 c fun a1 c => popN .i64 c fun a2 c => popN .i64 c fun a3 c => popN .i64 c fun a4 c => popN .i64 c fun a5 c => K ⟨a0, a1, a2, a3, a4, a5⟩ c
  | .Op, c, K => popN .i64 c fun a0 c => popN .i64 c fun a1 c => popN .i64 c fun a2 c => popN .i64 c fun a3 c => popN .i64 c fun a4 c => popN .i64 c fun a5 c => popN .i64 c fun a6 c => popN .i64 c fun a7 c => popN .i64 c fun a8 c => popN .i64 c fun a9 c => popN .i64 c fun a10 c => popN .i64 c fun a11 c => popN .i64 c fun a12 c => popN .i64 c fun a13 c => popN .i64 c fun a14 c => popN .i64 c fun a15 c => popN .i64 c fun a16 c => popN .i64 c fun a17 c => popN .i64 c fun a18 c => popN .i64 c fun a19 c => K ⟨a0, a1, a2, a3, a4, a5, a6, a7, a8, ⟨a9, a10, a11, a12, a13, a14⟩, ⟨a15, a16, a17, a18, a19⟩⟩ c
  | .Dice, c, K => popT .int c fun a0 c => popN .i64 c fun a1 c => K ⟨a0, a1⟩ c
  | .Transition, c, K => popN .i64 c fun a0 c => popN .i64 c fun a1 c => K ⟨a0, a1⟩ c
  | .Table, c, K => popN .i64 c fun a0 c => popT .Transition c fun a1 c => K ⟨a0, a1⟩ c
  | .View, c, K => popT .Zone c fun a0 c => popT .Person c fun a1 c => popT .Calendar c fun a2 c => popT .Schedule c fun a3 c => popT .Table c fun a4 c => K ⟨⟨a0, a1, a2, a3⟩, a4⟩ c
  | .Date, c, K => popN .i64 c fun a0 c => popN .i64 c fun a1 c => popN .i64 c fun a2 c => K ⟨a0, a1, a2⟩ c
  | .Occurrence, c, K => popN .i64 c fun a0 c => popN .i64 c fun a1 c => K ⟨a0, a1⟩ c
  | .occurrence, c, K => popN .i64 c fun a0 c => popN .i64 c fun a1 c => K ⟨a0, a1⟩ c
  | .Piece, c, K => popN .i64 c fun a0 c => popN .i64 c fun a1 c => popN .i64 c fun a2 c => K ⟨a0, a1, a2⟩ c
theorem tpop_some : ∀ (t : TC) {cs : List BV} {K : TT t → List BV → Option R}, tpop t cs K = some r → ∃ x l, Le cs (tb t x ++ l) ∧ K x l = some r
  | .int, cs, K, h => by
    obtain ⟨a, _, rfl, h⟩ := popN_some h
    exact ⟨_, _, .refl _, h⟩
  | .str, cs, K, h => by
    obtain ⟨a, _, rfl, h⟩ := popS_some h
    exact ⟨_, _, .refl _, h⟩
  | .bool, cs, K, h => by
    obtain ⟨a, _, rfl, h⟩ := popB_some h
    exact ⟨_, _, .refl _, h⟩
  | .u8, cs, K, h => by
    obtain ⟨a, _, rfl, h⟩ := popN_some h
    exact ⟨_, _, .refl _, h⟩
  | .Arr3Int, cs, K, h => by
    obtain ⟨a0, _, rfl, h0⟩ := popN_some h
    obtain ⟨a1, _, rfl, h1⟩ := popN_some h0
    obtain ⟨a2, _, rfl, h2⟩ := popN_some h1
    exact ⟨⟨a0, a1, a2⟩, _, .cons' (.cons' (.cons' (.refl _))), h2⟩
  | .YearRule, cs, K, h => by
    obtain ⟨a0, _, rfl, h0⟩ := popN_some h
    obtain ⟨a1, _, rfl, h1⟩ := popN_some h0
    obtain ⟨a2, _, rfl, h2⟩ := popN_some h1
    obtain ⟨a3, _, rfl, h3⟩ := popN_some h2
    obtain ⟨a4, _, rfl, h4⟩ := popN_some h3
    obtain ⟨a5, _, rfl, h5⟩ := popN_some h4
    obtain ⟨a6, _, rfl, h6⟩ := popN_some h5
    exact ⟨⟨a0, a1, a2, a3, a4, a5, a6⟩, _, .cons' (.cons' (.cons' (.cons' (.cons' (.cons' (.cons' (.refl _))))))), h6⟩
  | .Zone, cs, K, h => by
    obtain ⟨a0, _, rfl, h0⟩ := popS_some h
    obtain ⟨a1, _, rfl, h1⟩ := popN_some h0
    obtain ⟨a2, _, _, rfl, ha2, h2⟩ := popT_some h1
    exact ⟨⟨a0, a1, a2⟩, _, .cons' (.cons' (.cons ha2 (.refl _))), h2⟩
  | .Window, cs, K, h => by
    obtain ⟨a0, _, rfl, h0⟩ := popN_some h
    obtain ⟨a1, _, rfl, h1⟩ := popN_some h0
    exact ⟨⟨a0, a1⟩, _, .cons' (.cons' (.refl _)), h1⟩
  | .Person, cs, K, h => by
    obtain ⟨a0, _, rfl, h0⟩ := popS_some h
    obtain ⟨a1, _, rfl, h1⟩ := popN_some h0
    obtain ⟨a2, _, _, rfl, ha2, h2⟩ := popT_some h1
    obtain ⟨a3, _, rfl, h3⟩ := popN_some h2
    obtain ⟨a4, _, rfl, h4⟩ := popN_some h3
    obtain ⟨a5, _, rfl, h5⟩ := popB_some h4
    exact ⟨⟨a0, a1, a2, a3, a4, a5⟩, _, .cons' (.cons' (.cons ha2 (.cons' (.cons' (.cons' (.refl _)))))), h5⟩
  | .Calendar, cs, K, h => by
    obtain ⟨a0, _, rfl, h0⟩ := popS_some h
    obtain ⟨a1, _, rfl, h1⟩ := popN_some h0
    obtain ⟨a2, _, _, rfl, ha2, h2⟩ := popT_some h1
    exact ⟨⟨a0, a1, a2⟩, _, .cons' (.cons' (.cons ha2 (.refl _))), h2⟩
  | .Local, cs, K, h => by
    obtain ⟨a0, _, rfl, h0⟩ := popN_some h
    obtain ⟨a1, _, rfl, h1⟩ := popN_some h0
    exact ⟨⟨a0, a1⟩, _, .cons' (.cons' (.refl _)), h1⟩
  | .Layer, cs, K, h => by
    obtain ⟨a0, _, rfl, h0⟩ := popS_some h
    obtain ⟨a1, _, rfl, h1⟩ := popN_some h0
    obtain ⟨a2, _, rfl, h2⟩ := popN_some h1
    obtain ⟨a3, _, rfl, h3⟩ := popN_some h2
    obtain ⟨a4, _, rfl, h4⟩ := popN_some h3
    obtain ⟨a5, _, rfl, h5⟩ := popN_some h4
    obtain ⟨a6, _, _, rfl, ha6, h6⟩ := popT_some h5
    obtain ⟨a7, _, _, rfl, ha7, h7⟩ := popT_some h6
    obtain ⟨a8, _, rfl, h8⟩ := popN_some h7
    obtain ⟨a9, _, rfl, h9⟩ := popN_some h8
    exact ⟨⟨a0, a1, ⟨a2, a3⟩, a4, a5, a6, a7, a8, a9⟩, _, .cons' (.cons' (.cons' (.cons' (.cons' (.cons' (.cons ha6 (.cons ha7 (.cons' (.cons' (.refl _)))))))))), h9⟩
  | .Edit, cs, K, h => by
    obtain ⟨a0, _, rfl, h0⟩ := popN_some h
    obtain ⟨a1, _, rfl, h1⟩ := popN_some h0
    obtain ⟨a2, _, rfl, h2⟩ := popN_some h1
    obtain ⟨a3, _, rfl, h3⟩ := popN_some h2
    obtain ⟨a4, _, rfl, h4⟩ := popN_some h3
    exact ⟨⟨a0, a1, a2, a3, a4⟩, _, .cons' (.cons' (.cons' (.cons' (.cons' (.refl _))))), h4⟩
  | .Schedule, cs, K, h => by
    obtain ⟨a0, _, rfl, h0⟩ := popS_some h
    obtain ⟨a1, _, _, rfl, ha1, h1⟩ := popT_some h0
    obtain ⟨a2, _, _, rfl, ha2, h2⟩ := popT_some h1
    exact ⟨⟨a0, a1, a2⟩, _, .cons' (.cons ha1 (.cons ha2 (.refl _))), h2⟩
  | .Config, cs, K, h => by
    obtain ⟨a0, _, _, rfl, ha0, h0⟩ := popT_some h
    obtain ⟨a1, _, _, rfl, ha1, h1⟩ := popT_some h0
    obtain ⟨a2, _, _, rfl, ha2, h2⟩ := popT_some h1
    obtain ⟨a3, _, _, rfl, ha3, h3⟩ := popT_some h2
    exact ⟨⟨a0, a1, a2, a3⟩, _, .cons ha0 (.cons ha1 (.cons ha2 (.cons ha3 (.refl _)))), h3⟩
  | .Team, cs, K, h => by
    obtain ⟨a0, _, rfl, h0⟩ := popS_some h
    obtain ⟨a1, _, _, rfl, ha1, h1⟩ := popT_some h0
    exact ⟨⟨a0, a1⟩, _, .cons' (.cons ha1 (.refl _)), h1⟩
  | .Target, cs, K, h => by
    obtain ⟨a0, _, rfl, h0⟩ := popN_some h
    obtain ⟨a1, _, rfl, h1⟩ := popN_some h0
    exact ⟨⟨a0, a1⟩, _, .cons' (.cons' (.refl _)), h1⟩
  | .PolicyStep, cs, K, h => by
    obtain ⟨a0, _, rfl, h0⟩ := popN_some h
    obtain ⟨a1, _, rfl, h1⟩ := popB_some h0
    obtain ⟨a2, _, _, rfl, ha2, h2⟩ := popT_some h1
    exact ⟨⟨a0, a1, a2⟩, _, .cons' (.cons' (.cons ha2 (.refl _))), h2⟩
  | .Policy, cs, K, h => by
    obtain ⟨a0, _, rfl, h0⟩ := popS_some h
    obtain ⟨a1, _, _, rfl, ha1, h1⟩ := popT_some h0
    obtain ⟨a2, _, rfl, h2⟩ := popN_some h1
    exact ⟨⟨a0, a1, a2⟩, _, .cons' (.cons ha1 (.cons' (.refl _))), h2⟩
  | .Book, cs, K, h => by
    obtain ⟨a0, _, _, rfl, ha0, h0⟩ := popT_some h
    obtain ⟨a1, _, _, rfl, ha1, h1⟩ := popT_some h0
    exact ⟨⟨a0, a1⟩, _, .cons ha0 (.cons ha1 (.refl _)), h1⟩
  | .Start, cs, K, h => by
    obtain ⟨a0, _, rfl, h0⟩ := popN_some h
    obtain ⟨a1, _, rfl, h1⟩ := popN_some h0
    obtain ⟨a2, _, _, rfl, ha2, h2⟩ := popT_some h1
    exact ⟨⟨a0, a1, a2⟩, _, .cons' (.cons' (.cons ha2 (.refl _))), h2⟩
  | .Page, cs, K, h => by
    obtain ⟨a0, _, rfl, h0⟩ := popN_some h
    obtain ⟨a1, _, rfl, h1⟩ := popN_some h0
    obtain ⟨a2, _, rfl, h2⟩ := popN_some h1
    obtain ⟨a3, _, rfl, h3⟩ := popN_some h2
    obtain ⟨a4, _, rfl, h4⟩ := popN_some h3
    obtain ⟨a5, _, rfl, h5⟩ := popN_some h4
    obtain ⟨a6, _, rfl, h6⟩ := popN_some h5
    obtain ⟨a7, _, rfl, h7⟩ := popN_some h6
    obtain ⟨a8, _, rfl, h8⟩ := popN_some h7
    obtain ⟨a9, _, rfl, h9⟩ := popN_some h8
    obtain ⟨a10, _, rfl, h10⟩ := popN_some h9
    obtain ⟨a11, _, _, rfl, ha11, h11⟩ := popT_some h10
    obtain ⟨a12, _, _, rfl, ha12, h12⟩ := popT_some h11
    obtain ⟨a13, _, _, rfl, ha13, h13⟩ := popT_some h12
    exact ⟨⟨a0, a1, a2, a3, a4, a5, a6, a7, a8, a9, a10, a11, a12, a13⟩, _, .cons' (.cons' (.cons' (.cons' (.cons' (.cons' (.cons' (.cons' (.cons' (.cons' (.cons' (.cons ha11 (.cons ha12 (.cons ha13 (.refl _)))))))))))))), h13⟩
  | .Call, cs, K, h => by
    obtain ⟨a0, _, rfl, h0⟩ := popN_some h
    obtain ⟨a1, _, rfl, h1⟩ := popN_some h0
    obtain ⟨a2, _, rfl, h2⟩ := popN_some h1
    obtain ⟨a3, _, rfl, h3⟩ := popN_some h2
    obtain ⟨a4, _, rfl, h4⟩ := popN_some h3
    exact ⟨⟨a0, a1, a2, a3, a4⟩, _, .cons' (.cons' (.cons' (.cons' (.cons' (.refl _))))), h4⟩
  | .Ledger, cs, K, h => by
    obtain ⟨a0, _, rfl, h0⟩ := popN_some h
    obtain ⟨a1, _, _, rfl, ha1, h1⟩ := popT_some h0
    obtain ⟨a2, _, _, rfl, ha2, h2⟩ := popT_some h1
    obtain ⟨a3, _, _, rfl, ha3, h3⟩ := popT_some h2
    obtain ⟨a4, _, _, rfl, ha4, h4⟩ := popT_some h3
    obtain ⟨a5, _, _, rfl, ha5, h5⟩ := popT_some h4
    obtain ⟨a6, _, _, rfl, ha6, h6⟩ := popT_some h5
    obtain ⟨a7, _, _, rfl, ha7, h7⟩ := popT_some h6
    obtain ⟨a8, _, rfl, h8⟩ := popN_some h7
    obtain ⟨a9, _, rfl, h9⟩ := popN_some h8
    obtain ⟨a10, _, _, rfl, ha10, h10⟩ := popT_some h9
    obtain ⟨a11, _, _, rfl, ha11, h11⟩ := popT_some h10
    exact ⟨⟨a0, ⟨a1, a2, a3, a4⟩, ⟨a5, a6⟩, a7, a8, a9, a10, a11⟩, _, .cons' (.cons ha1 (.cons ha2 (.cons ha3 (.cons ha4 (.cons ha5 (.cons ha6 (.cons ha7 (.cons' (.cons' (.cons ha10 (.cons ha11 (.refl _)))))))))))), h11⟩
  | .Answer, cs, K, h => by
    obtain ⟨a0, _, rfl, h0⟩ := popN_some h
    obtain ⟨a1, _, rfl, h1⟩ := popN_some h0
    obtain ⟨a2, _, rfl, h2⟩ := popN_some h1
    obtain ⟨a3, _, rfl, h3⟩ := popN_some h2
    obtain ⟨a4, _, rfl, h4⟩ := popN_some h3
    obtain ⟨a5, _, rfl, h5⟩ := popN_some h4
    exact ⟨⟨a0, a1, a2, a3, a4, a5⟩, _, .cons' (.cons' (.cons' (.cons' (.cons' (.cons' (.refl _)))))), h5⟩
  | .Op, cs, K, h => by
    obtain ⟨a0, _, rfl, h0⟩ := popN_some h
    obtain ⟨a1, _, rfl, h1⟩ := popN_some h0
    obtain ⟨a2, _, rfl, h2⟩ := popN_some h1
    obtain ⟨a3, _, rfl, h3⟩ := popN_some h2
    obtain ⟨a4, _, rfl, h4⟩ := popN_some h3
    obtain ⟨a5, _, rfl, h5⟩ := popN_some h4
    obtain ⟨a6, _, rfl, h6⟩ := popN_some h5
    obtain ⟨a7, _, rfl, h7⟩ := popN_some h6
    obtain ⟨a8, _, rfl, h8⟩ := popN_some h7
    obtain ⟨a9, _, rfl, h9⟩ := popN_some h8
    obtain ⟨a10, _, rfl, h10⟩ := popN_some h9
    obtain ⟨a11, _, rfl, h11⟩ := popN_some h10
    obtain ⟨a12, _, rfl, h12⟩ := popN_some h11
    obtain ⟨a13, _, rfl, h13⟩ := popN_some h12
    obtain ⟨a14, _, rfl, h14⟩ := popN_some h13
    obtain ⟨a15, _, rfl, h15⟩ := popN_some h14
    obtain ⟨a16, _, rfl, h16⟩ := popN_some h15
    obtain ⟨a17, _, rfl, h17⟩ := popN_some h16
    obtain ⟨a18, _, rfl, h18⟩ := popN_some h17
    obtain ⟨a19, _, rfl, h19⟩ := popN_some h18
    exact ⟨⟨a0, a1, a2, a3, a4, a5, a6, a7, a8, ⟨a9, a10, a11, a12, a13, a14⟩, ⟨a15, a16, a17, a18, a19⟩⟩, _, .cons' (.cons' (.cons' (.cons' (.cons' (.cons' (.cons' (.cons' (.cons' (.cons' (.cons' (.cons' (.cons' (.cons' (.cons' (.cons' (.cons' (.cons' (.cons' (.cons' (.refl _)))))))))))))))))))), h19⟩
  | .Dice, cs, K, h => by
    obtain ⟨a0, _, _, rfl, ha0, h0⟩ := popT_some h
    obtain ⟨a1, _, rfl, h1⟩ := popN_some h0
    exact ⟨⟨a0, a1⟩, _, .cons ha0 (.cons' (.refl _)), h1⟩
  | .Transition, cs, K, h => by
    obtain ⟨a0, _, rfl, h0⟩ := popN_some h
    obtain ⟨a1, _, rfl, h1⟩ := popN_some h0
    exact ⟨⟨a0, a1⟩, _, .cons' (.cons' (.refl _)), h1⟩
  | .Table, cs, K, h => by
    obtain ⟨a0, _, rfl, h0⟩ := popN_some h
    obtain ⟨a1, _, _, rfl, ha1, h1⟩ := popT_some h0
    exact ⟨⟨a0, a1⟩, _, .cons' (.cons ha1 (.refl _)), h1⟩
  | .View, cs, K, h => by
    obtain ⟨a0, _, _, rfl, ha0, h0⟩ := popT_some h
    obtain ⟨a1, _, _, rfl, ha1, h1⟩ := popT_some h0
    obtain ⟨a2, _, _, rfl, ha2, h2⟩ := popT_some h1
    obtain ⟨a3, _, _, rfl, ha3, h3⟩ := popT_some h2
    obtain ⟨a4, _, _, rfl, ha4, h4⟩ := popT_some h3
    exact ⟨⟨⟨a0, a1, a2, a3⟩, a4⟩, _, .cons ha0 (.cons ha1 (.cons ha2 (.cons ha3 (.cons ha4 (.refl _))))), h4⟩
  | .Date, cs, K, h => by
    obtain ⟨a0, _, rfl, h0⟩ := popN_some h
    obtain ⟨a1, _, rfl, h1⟩ := popN_some h0
    obtain ⟨a2, _, rfl, h2⟩ := popN_some h1
    exact ⟨⟨a0, a1, a2⟩, _, .cons' (.cons' (.cons' (.refl _))), h2⟩
  | .Occurrence, cs, K, h => by
    obtain ⟨a0, _, rfl, h0⟩ := popN_some h
    obtain ⟨a1, _, rfl, h1⟩ := popN_some h0
    exact ⟨⟨a0, a1⟩, _, .cons' (.cons' (.refl _)), h1⟩
  | .occurrence, cs, K, h => by
    obtain ⟨a0, _, rfl, h0⟩ := popN_some h
    obtain ⟨a1, _, rfl, h1⟩ := popN_some h0
    exact ⟨⟨a0, a1⟩, _, .cons' (.cons' (.refl _)), h1⟩
  | .Piece, cs, K, h => by
    obtain ⟨a0, _, rfl, h0⟩ := popN_some h
    obtain ⟨a1, _, rfl, h1⟩ := popN_some h0
    obtain ⟨a2, _, rfl, h2⟩ := popN_some h1
    exact ⟨⟨a0, a1, a2⟩, _, .cons' (.cons' (.cons' (.refl _))), h2⟩
end
end Go.Proofs.YtfhcigjkfelnfaaGreat.AM
/-
  The typed layer, part B: states, weaker states, headers that grow stale, arrays that are frozen. No project text.
-/
set_option linter.unusedVariables false
set_option linter.unusedSimpArgs false
namespace Go.Proofs.YtfhcigjkfelnfaaGreat.AM
open Go
theorem Sim.leS {Γ : Ctx} {s s' : AS} {ρ : Name → Loc} {M : Nat → Prop} {a : Act} {w : World} (h : Sim Γ ρ M s a w)
    (h1 : ∀ t y, s'.slot t = some y → ∃ x, s.slot t = some x ∧ AVle x y)
    (h2 : ∀ n, (∀ y, s'.heap n = some y → ∃ x, s.heap n = some x ∧ AOle x y) ∧ (∀ x, s.heap n = some x → ∃ y, s'.heap n = some y ∧ AOle x y)) (hf : ∀ n x y, s.heap n = some x → s'.heap n = some y → x = y ∨ (∃ cs ds, x = .box cs ∧ y = .box ds) ∨ (∃ es rs qs, x = .arr es rs ∧ y = .arr es qs)) : Sim Γ ρ M s' a w := by
  have hst : HStep ρ s.heap ρ s'.heap := fun n ob hn => by
    obtain ⟨y, hy, hle⟩ := (h2 n).2 ob hn
    rw [hy]
    exact stays_le hle (stays_refl _ _)
  have hnn : ∀ n, s.heap n = none → s'.heap n = none := fun n hn => by
    cases hc : s'.heap n with
    | none => rfl
    | some y =>
      obtain ⟨x, hx, _⟩ := (h2 n).1 y hc
      rw [hx] at hn; simp at hn
  have hconv : ∀ {x : AV} {u : Value}, x.R ρ s.heap M w u → x.R ρ s'.heap M w u := fun hr =>
    hr.step (Ext.refl (fun _ => False) _) (fun _ hb => hb.elim) (fun b _ hb => hb) hst (fun n _ => hnn n)
  have hconvs : ∀ {xs : List AV} {us : List Value}, AV.Rs ρ s.heap M w xs us → AV.Rs ρ s'.heap M w xs us := fun hr =>
    hr.step (Ext.refl (fun _ => False) _) (fun _ hb => hb.elim) (fun b _ hb => hb) hst (fun n _ => hnn n)
  refine ⟨h.n, h.d, fun t y hy => ?_, fun n y hy => ?_, fun n m o o' b g1 g2 => ?_, fun n o b g1 g2 => ?_, fun n hn => ?_, h.ext, h.mext, h.msize, h.m0, h.ground⟩
  · obtain ⟨x, hx, hle⟩ := h1 t y hy
    obtain ⟨u, hu, hr⟩ := h.slots t x hx
    exact ⟨u, hu, hle.sound u (hconv hr)⟩
  · obtain ⟨x, hx, hle⟩ := (h2 n).1 y hy
    have hobj := h.objs n x hx
    rcases hf n x y hx hy with rfl | ⟨cs, ds, rfl, rfl⟩ | ⟨es, rs, qs, rfl, rfl⟩
    · cases x with
      | box cells => obtain ⟨b, T, cs, k1, k2, k3, k4⟩ := hobj; exact ⟨b, T, cs, k1, k2, k3, hconvs k4⟩
      | arr es rows => exact hobj
      | hole es pre row post => obtain ⟨k0, k0', k1, b, T, cs, k3, k4, k5, k6, k7, k8, k9⟩ := hobj; exact ⟨k0, k0', k1, b, T, cs, k3, k4, k5, k6, k7, hconvs k8, k9⟩
      | fact a x => exact ⟨hobj.1, hconv hobj.2⟩
      | obj x => exact hobj
    · obtain ⟨b, T, us, k1, k2, k3, k4⟩ := hobj
      refine ⟨b, T, us, k1, k2, k3, ?_⟩
      cases hle with
      | refl => exact hconvs k4
      | box hb => exact Rs_le hb _ (hconvs k4)
    · cases hle with
      | refl => exact hobj
      | arr hr =>
        obtain ⟨k0, k1, k2⟩ := hobj
        refine ⟨k0, by rw [← hr.length]; exact k1, k2.imp id ?_⟩
        rintro ⟨b, T, cs, q1, q2, q3, q4, q5⟩
        exact ⟨b, T, cs, q1, q2, q3, q4, hr.rows q5⟩
  · obtain ⟨x, hx, _⟩ := (h2 n).1 o g1
    obtain ⟨x', hx', _⟩ := (h2 m).1 o' g2
    exact h.inj n m x x' b hx hx'
  · obtain ⟨x, hx, _⟩ := (h2 n).1 o g1
    exact h.own0 n x b hx g2
  · obtain ⟨x, hx, hst'⟩ := h.keep n hn
    obtain ⟨y, hy, hle⟩ := (h2 n).2 x hx
    exact ⟨y, hy, stays_le hle hst'⟩
def Inv (L : Lens) (hs : HS) : Prop := ∀ n t l v, look n hs = some (.arr t l v) → L n v = l.length
def BS (L : Lens) (ts : TS) (hs : HS) : AS := mk (erT L ts) (erH L hs)
variable {L L' : Lens} {ts ts' : TS} {hs hs' : HS}
theorem BS_slot (t : Nat) : (BS L ts hs).slot t = (look t ts).map (BV.er L) := look_erT t ts
theorem BS_heap (n : Nat) : (BS L ts hs).heap n = (look n hs).map (BO.er L) := look_erH n hs
theorem slot_of {t : Nat} {y : AV} (h : (BS L ts hs).slot t = some y) : ∃ v, look t ts = some v ∧ y = v.er L := by
  rw [BS_slot] at h
  cases hl : look t ts with
  | none => rw [hl] at h; simp at h
  | some v => rw [hl] at h; exact ⟨v, rfl, by simpa using h.symm⟩
theorem heap_of {t : Nat} {y : AO} (h : (BS L ts hs).heap t = some y) : ∃ v, look t hs = some v ∧ y = v.er L := by
  rw [BS_heap] at h
  cases hl : look t hs with
  | none => rw [hl] at h; simp at h
  | some v => rw [hl] at h; exact ⟨v, rfl, by simpa using h.symm⟩
structure SLe (L : Lens) (ts : TS) (hs : HS) (L' : Lens) (ts' : TS) (hs' : HS) : Prop where
  slot : ∀ t y, look t ts' = some y → ∃ x, look t ts = some x ∧ AVle (x.er L) (y.er L')
  box : ∀ n cs', look n hs' = some (.box cs') → ∃ cs, look n hs = some (.box cs) ∧ AVleL (erL L cs) (erL L' cs')
  arr : ∀ n t l v, look n hs' = some (.arr t l v) → ∃ u, look n hs = some (.arr t l u)
  sm : ∀ n es, look n hs' = some (.sm es) → look n hs = some (.sm es)
theorem Sim.sle {Γ : Ctx} {ρ : Name → Loc} {M : Nat → Prop} {a : Act} {w : World} (h : Sim Γ ρ M (BS L ts hs) a w) (h' : SLe L ts hs L' ts' hs') (hk : ∀ n, n ∈ Γ.names → look n hs' ≠ none) : Sim Γ ρ M (BS L' ts' hs') a w := by
  have ho : ∀ n y, look n hs' = some y → ∃ x, look n hs = some x ∧ AOle (x.er L) (y.er L') ∧ (x.er L = y.er L' ∨ (∃ cs ds, x.er L = .box cs ∧ y.er L' = .box ds) ∨ ∃ es rs qs, x.er L = .arr es rs ∧ y.er L' = .arr es qs) := fun n y hy => by
    cases y with
    | box cs' => obtain ⟨cs, g1, g2⟩ := h'.box n cs' hy; exact ⟨_, g1, .box g2, .inr (.inl ⟨_, _, rfl, rfl⟩)⟩
    | arr t l v => obtain ⟨u, hu⟩ := h'.arr n t l v hy; exact ⟨_, hu, .refl _, .inl rfl⟩
    | sm es => exact ⟨_, h'.sm n es hy, .refl _, .inl rfl⟩
  have h0 : Sim Γ ρ M ⟨(BS L ts hs).slot, fun n => if (look n hs').isSome then (BS L ts hs).heap n else none⟩ a w := by
    refine h.forget (fun t x hx => hx) (fun n o hn => ?_) (fun n hn hc => ?_)
    · simp only at hn
      split at hn
      · exact hn
      · simp at hn
    · cases hl : look n hs' with
      | none => exact hk n hn hl
      | some y =>
        obtain ⟨x, hx, _⟩ := ho n y hl
        simp only [hl, Option.isSome_some, if_true, BS_heap, hx, Option.map_some, reduceCtorEq] at hc
  refine h0.leS (fun t y hy => ?_) (fun n => ⟨fun y hy => ?_, fun x hx => ?_⟩) (fun n x y hx hy => ?_)
  · obtain ⟨v, hv, rfl⟩ := slot_of hy
    obtain ⟨x, hx, hle⟩ := h'.slot t v hv
    exact ⟨x.er L, by show (BS L ts hs).slot t = _; rw [BS_slot, hx]; rfl, hle⟩
  · obtain ⟨v, hv, rfl⟩ := heap_of hy
    obtain ⟨x, hx, hle, _⟩ := ho n v hv
    exact ⟨x.er L, by simp only [hv, Option.isSome_some, if_true, BS_heap, hx, Option.map_some], hle⟩
  · simp only at hx
    split at hx
    · rename_i hs
      obtain ⟨y, hy⟩ := Option.isSome_iff_exists.1 hs
      obtain ⟨v, hv, rfl⟩ := heap_of hx
      obtain ⟨x, hx', hle, _⟩ := ho n y hy
      rw [hv] at hx'; cases hx'
      exact ⟨y.er L', by rw [BS_heap, hy]; rfl, hle⟩
    · simp at hx
  · simp only at hx
    split at hx
    · obtain ⟨v, hv, rfl⟩ := heap_of hx
      obtain ⟨y', hy', rfl⟩ := heap_of hy
      obtain ⟨x, hx', _, h3⟩ := ho n y' hy'
      rw [hv] at hx'; cases hx'
      exact h3
    · simp at hx
theorem look_mapT {f : BV → BV} (k : Nat) : ∀ ts : TS, look k (ts.map fun p => (p.1, f p.2)) = (look k ts).map f
  | [] => rfl
  | (j, x) :: r => by
    show look k ((j, f x) :: r.map fun p => (p.1, f p.2)) = (look k ((j, x) :: r)).map f
    simp only [look]; split
    · rfl
    · exact look_mapT k r
def isIn (m : Name) (ns : List Name) : Bool := ns.any fun n => Nat.beq n m
theorem isIn_iff {m : Name} {ns : List Name} : isIn m ns = true ↔ m ∈ ns := by
  unfold isIn; rw [List.any_eq_true]
  exact ⟨fun ⟨n, h1, h2⟩ => by rw [← Nat.eq_of_beq_eq_true h2]; exact h1, fun h => ⟨m, h, Nat.beq_refl _⟩⟩
mutual
def BV.frz (n : Name) (v : Nat) (t : TC) (l : List (TT t)) : BV → BV
  | .own m u => if Nat.beq m n then (if Nat.beq u v then .ts false t l else .any) else .own m u
  | .aref m u i o => if Nat.beq m n then .any else .aref m u i o
  | .view m u i o => if Nat.beq m n then (if Nat.beq u v then .ts false t ((l.take o).drop i) else .any) else .view m u i o
  | .agg cs => .agg (frzL n v t l cs)
  | x => x
def frzL (n : Name) (v : Nat) (t : TC) (l : List (TT t)) : List BV → List BV
  | [] => []
  | x :: r => BV.frz n v t l x :: frzL n v t l r
end
mutual
def BV.sh (n : Name) (v : Nat) : BV → BV
  | .own m u => if Nat.beq m n then (if Nat.beq u v then .own m u else .any) else .own m u
  | .aref m u i o => if Nat.beq m n then .any else .aref m u i o
  | .view m u i o => if Nat.beq m n then (if Nat.beq u v then .view m u i o else .any) else .view m u i o
  | .agg cs => .agg (shL n v cs)
  | x => x
def shL (n : Name) (v : Nat) : List BV → List BV
  | [] => []
  | x :: r => BV.sh n v x :: shL n v r
end
def fzCell (n : Name) (c : BV) : Bool := match c with
  | .own _ _ => true
  | .aref _ _ _ _ => true
  | .view _ _ _ _ => true
  | .agg _ => false
  | x => !x.has n
def BV.fzOK (n : Name) : BV → Bool
  | .agg cs => cs.all (fzCell n)
  | x => fzCell n x
def BO.frz (n : Name) (v : Nat) (t : TC) (l : List (TT t)) : BO → BO
  | .box cs => .box (frzL n v t l cs)
  | .arr t l v => .arr t l v
  | .sm es => .sm es
def BO.sh (n : Name) (v : Nat) : BO → BO
  | .box cs => .box (shL n v cs)
  | .arr t l v => .arr t l v
  | .sm es => .sm es
def BO.fzOK (n : Name) : BO → Bool
  | .box cs => cs.all (fzCell n)
  | .arr _ _ _ => true
  | .sm _ => true
def fzT (n : Name) (v : Nat) (t : TC) (l : List (TT t)) (ts : TS) : TS := ts.map fun p => (p.1, p.2.frz n v t l)
def fzH (n : Name) (v : Nat) (t : TC) (l : List (TT t)) : HS → HS
  | [] => []
  | (k, o) :: r => if Nat.beq k n then fzH n v t l r else (k, o.frz n v t l) :: fzH n v t l r
def fzB (n : Name) (ts : TS) (hs : HS) : Bool := ts.all (fun p => p.2.fzOK n) && hs.all (fun p => p.2.fzOK n)
section
variable {n : Name} {v : Nat} {t : TC} {l : List (TT t)}
theorem sh_cell {x : BV} : fzCell n x = true → AVle (x.er L) ((x.sh n v).er L) := by
  intro h
  cases x with
  | own m u =>
    simp only [BV.sh]
    split
    · split
      · exact .refl _
      · simp only [BV.er]; exact .any rfl (by simp)
    · exact .refl _
  | aref m u i o =>
    simp only [BV.sh]
    split
    · simp only [BV.er]; exact .any rfl (by simp)
    · exact .refl _
  | view m u i o =>
    simp only [BV.sh]
    split
    · split
      · exact .refl _
      · simp only [BV.er]; exact .any rfl (by simp)
    · exact .refl _
  | agg cs => simp [fzCell] at h
  | _ => simp only [BV.sh]; exact .refl _
theorem sh_cells : ∀ {cs : List BV}, cs.all (fzCell n) = true → AVleL (erL L cs) (erL L (shL n v cs))
  | [], _ => by simp only [shL, erL]; exact .nil
  | x :: r, h => by
    simp only [List.all_cons, Bool.and_eq_true] at h
    simp only [shL, erL]
    exact .cons (sh_cell h.1) (sh_cells h.2)
theorem sh_val {x : BV} (h : x.fzOK n = true) : AVle (x.er L) ((x.sh n v).er L) := by
  cases x with
  | agg cs => simp only [BV.sh, BV.er]; exact .agg (sh_cells h)
  | _ => exact sh_cell h
theorem frz_cell {px : Value → Prop} {x : BV} (h : fzCell n x = true) (hL : L n v = (l.map (tcells t)).length) : Frz px n (tz t) (l.map (tcells t)) ((x.sh n v).er L) ((x.frz n v t l).er L) := by
  cases x with
  | own m u =>
    simp only [BV.sh, BV.frz]
    split
    · split
      · rename_i e1 e2
        have := Nat.eq_of_beq_eq_true e1; subst this
        have := Nat.eq_of_beq_eq_true e2; subst this
        simp only [BV.er, hL]; exact .own
      · exact .same (by simp only [BV.er, AV.has])
    · rename_i hne
      have : m ≠ n := fun e => by subst e; simp at hne
      exact .same (by simp only [BV.er, AV.has]; simpa using this)
  | aref m u i o =>
    simp only [BV.sh, BV.frz]
    split
    · exact .same (by simp only [BV.er, AV.has])
    · rename_i hne
      have : m ≠ n := fun e => by subst e; simp at hne
      exact .same (by simp only [BV.er, AV.has]; simpa using this)
  | view m u i o =>
    simp only [BV.sh, BV.frz]
    split
    · split
      · rename_i e1 e2
        have := Nat.eq_of_beq_eq_true e1; subst this
        have := Nat.eq_of_beq_eq_true e2; subst this
        simp only [BV.er, hL, List.map_drop, List.map_take]; exact .view
      · exact .same (by simp only [BV.er, AV.has])
    · rename_i hne
      have : m ≠ n := fun e => by subst e; simp at hne
      exact .same (by simp only [BV.er, AV.has]; simpa using this)
  | agg cs => simp [fzCell] at h
  | _ => simp only [BV.sh, BV.frz]; exact .same (by rw [has_er]; simpa only [fzCell, Bool.not_eq_true'] using h)
theorem frz_cells {px : Value → Prop} (hL : L n v = (l.map (tcells t)).length) : ∀ {cs : List BV}, cs.all (fzCell n) = true → FrzL px n (tz t) (l.map (tcells t)) (erL L (shL n v cs)) (erL L (frzL n v t l cs))
  | [], _ => by simp only [erL, shL, frzL]; exact .nil
  | x :: r, h => by
    simp only [List.all_cons, Bool.and_eq_true] at h
    simp only [erL, shL, frzL]
    exact .cons (frz_cell h.1 hL) (frz_cells hL h.2)
theorem frz_val {px : Value → Prop} {x : BV} (h : x.fzOK n = true) (hL : L n v = (l.map (tcells t)).length) : Frz px n (tz t) (l.map (tcells t)) ((x.sh n v).er L) ((x.frz n v t l).er L) := by
  cases x with
  | agg cs => simp only [BV.sh, BV.frz, BV.er]; exact .agg (frz_cells hL h)
  | _ => exact frz_cell h hL
theorem TsFrz_of {px : Value → Prop} (hL : L n v = (l.map (tcells t)).length) : ∀ {ts : TS}, ts.all (fun p => p.2.fzOK n) = true → TsFrz px n (tz t) (l.map (tcells t)) (erT L (ts.map fun p => (p.1, p.2.sh n v))) (erT L (fzT n v t l ts))
  | [], _ => trivial
  | (k, x) :: r, h => by
    simp only [List.all_cons, Bool.and_eq_true] at h
    exact ⟨rfl, frz_val h.1 hL, TsFrz_of hL h.2⟩
def delH (n : Name) (v : Nat) : HS → HS
  | [] => []
  | (k, o) :: r => if Nat.beq k n then delH n v r else (k, o.sh n v) :: delH n v r
theorem HsFrz_of {px : Value → Prop} (hL : L n v = (l.map (tcells t)).length) : ∀ {hs : HS}, hs.all (fun p => p.2.fzOK n) = true → HsFrz px n (tz t) (l.map (tcells t)) (erH L (delH n v hs)) (erH L (fzH n v t l hs))
  | [], _ => trivial
  | (k, o) :: r, h => by
    simp only [List.all_cons, Bool.and_eq_true] at h
    simp only [delH, fzH]
    split
    · exact HsFrz_of hL h.2
    · rename_i hne
      refine ⟨rfl, fun (e : k = n) => hne (by simp [e]), ?_, HsFrz_of hL h.2⟩
      cases o with
      | box cs => exact .box (frz_cells hL h.1)
      | arr t' l' => exact .same rfl
      | sm es => exact .same rfl
theorem look_delH (n k : Nat) (hs : HS) : look k (delH n v hs) = if k = n then none else (look k hs).map (BO.sh n v) := by
  induction hs with
  | nil => simp [delH, look]
  | cons p r ih =>
    obtain ⟨j, o⟩ := p
    simp only [delH]
    split
    · rename_i e
      have := Nat.eq_of_beq_eq_true e; subst this
      rw [ih]
      simp only [look]
      by_cases h : k = j
      · simp [h]
      · simp [h, Ne.symm h]
    · rename_i e
      simp only [look]
      split
      · rename_i e'; subst e'
        rw [if_neg (fun h => e (by simp [h]))]; rfl
      · exact ih
theorem look_fzH (n k : Nat) (hs : HS) : look k (fzH n v t l hs) = if k = n then none else (look k hs).map (BO.frz n v t l) := by
  induction hs with
  | nil => simp [fzH, look]
  | cons p r ih =>
    obtain ⟨j, o⟩ := p
    simp only [fzH]
    split
    · rename_i e
      have := Nat.eq_of_beq_eq_true e; subst this
      rw [ih]
      simp only [look]
      by_cases h : k = j
      · simp [h]
      · simp [h, Ne.symm h]
    · rename_i e
      simp only [look]
      split
      · rename_i e'; subst e'
        rw [if_neg (fun h => e (by simp [h]))]; rfl
      · exact ih
theorem Sim.frz {Γ : Ctx} {ρ : Name → Loc} {M : Nat → Prop} {a : Act} {w : World} (h : Sim Γ ρ M (BS L ts hs) a w) (hi : Inv L hs) (hn : n ∉ Γ.names) (hl : look n hs = some (.arr t l v)) (hb : fzB n ts hs = true) :
    (∃ ρ' M', Sim Γ ρ' M' (BS L (fzT n v t l ts) (fzH n v t l hs)) a w) ∧ Inv L (fzH n v t l hs) := by
  simp only [fzB, Bool.and_eq_true] at hb
  have hL : L n v = (l.map (tcells t)).length := by rw [hi n t l v hl, List.length_map]
  have h1 : Sim Γ ρ M (AM.mk (erT L (ts.map fun p => (p.1, p.2.sh n v))) ((n, .arr (tz t) (l.map (tcells t))) :: erH L (delH n v hs))) a w := by
    refine h.leS (fun k y hy => ?_) (fun k => ⟨fun y hy => ?_, fun x hx => ?_⟩) (fun k x y hx hy => ?_)
    · obtain ⟨y', hy', rfl⟩ := slot_of (L := L) (hs := hs) hy
      rw [look_mapT] at hy'
      cases hx : look k ts with
      | none => rw [hx] at hy'; simp at hy'
      | some x =>
        rw [hx] at hy'
        simp only [Option.map_some, Option.some.injEq] at hy'
        subst hy'
        exact ⟨x.er L, by rw [BS_slot, hx]; rfl, sh_val (List.all_eq_true.1 hb.1 _ (look_mem hx))⟩
    · simp only [AM.mk, look] at hy
      split at hy
      · rename_i e; subst e; cases hy; exact ⟨_, by rw [BS_heap, hl]; rfl, .refl _⟩
      · rename_i e
        rw [look_erH, look_delH, if_neg (Ne.symm e)] at hy
        cases hx : look k hs with
        | none => rw [hx] at hy; simp at hy
        | some x =>
          rw [hx] at hy
          simp only [Option.map_some, Option.some.injEq] at hy
          subst hy
          refine ⟨x.er L, by rw [BS_heap, hx]; rfl, ?_⟩
          have hx' := List.all_eq_true.1 hb.2 _ (look_mem hx)
          cases x with
          | box cs => exact .box (sh_cells hx')
          | arr t l => exact .refl _
          | sm es => exact .refl _
    · obtain ⟨x', hx', rfl⟩ := heap_of hx
      by_cases e : n = k
      · subst e; rw [hl] at hx'; cases hx'; exact ⟨_, by simp only [AM.mk, look, if_true]; rfl, .refl _⟩
      · refine ⟨(x'.sh n v).er L, by simp only [AM.mk, look, if_neg e, look_erH, look_delH, if_neg (Ne.symm e), hx']; rfl, ?_⟩
        have hx'' := List.all_eq_true.1 hb.2 _ (look_mem hx')
        cases x' with
        | box cs => exact .box (sh_cells hx'')
        | arr t l => exact .refl _
        | sm es => exact .refl _
    · obtain ⟨x', hx', rfl⟩ := heap_of hx
      by_cases e : n = k
      · subst e
        simp only [AM.mk, look, if_true] at hy
        rw [hl] at hx'; cases hx'; cases hy; exact .inl rfl
      · simp only [AM.mk, look, if_neg e, look_erH, look_delH, if_neg (Ne.symm e), hx'] at hy
        cases hy
        cases x' with
        | box cs => exact .inr (.inl ⟨_, _, rfl, rfl⟩)
        | arr t l => exact .inl rfl
        | sm es => exact .inl rfl
  refine ⟨Weak.freeze hn (TsFrz_of hL hb.1) (HsFrz_of hL hb.2) ρ M a w h1, fun k t' l' u hk => ?_⟩
  rw [look_fzH] at hk
  split at hk
  · simp at hk
  · cases hx : look k hs with
    | none => rw [hx] at hk; simp at hk
    | some x =>
      rw [hx] at hk
      simp only [Option.map_some, Option.some.injEq] at hk
      cases x with
      | box cs => simp [BO.frz] at hk
      | arr t2 l2 => simp only [BO.frz] at hk; cases hk; exact hi k _ _ _ hx
      | sm es => simp [BO.frz] at hk
end
end Go.Proofs.YtfhcigjkfelnfaaGreat.AM
