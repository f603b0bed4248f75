/-
  Arguments that read as data, as the abstract machine's pure data; and a law's row out of its walk. No project text.
-/
import Derived.Test.YtkfmncmhagpajaaGreatDoorQRowScB
import Derived.Below
import Derived.ChangeSame
import Derived.ChangeArms
import Derived.ChangeShapes
import Derived.DataReads
import Derived.OpenShut
import Derived.WideKeyArgs
import Derived.RowKit2
import Derived.JoinedOf
import Derived.JoinedAt
import Derived.Test.YtkfmncmhagpajaaGreatDoorTie
import Derived.Lay
import Derived.LaidOnce
import Derived.Stop.LaidErr
import Derived.HandedShaped
import Derived.Shelf.Vars
import Derived.Lib.LaidTab
import Derived.SevenTiedAt
set_option linter.unusedSimpArgs false
set_option linter.unusedVariables false
namespace Go.Proofs.YtkfmncmhagpajaaGreatDoor.AM
open Go Go.ChangeShapes Go.WideShapes Go.RowKit
abbrev Fixed : Nat → Prop := fun _ => False
def PVs (w : World) : List PV → List Value → Prop
  | [], us => us = []
  | p :: ps, us => ∃ u us', us = u :: us' ∧ p.R Fixed w u ∧ PVs w ps us'
section reads
variable {H : Type} {enc : TypeId × Value → H} {P : Program} {w : World}
def Reads (enc : TypeId × Value → H) (P : Program) (w : World) (t : TypeId) {α : Type} (dec : α → List PV) (ok : α → Prop) : Prop :=
  ∀ fuel cs x, DataW.trod enc P w 0 (fun _ => true) true fuel t cs = some x → ∃ a, ok a ∧ PVs w (dec a) cs
theorem reads_int {t : TypeId} {k : IntKind} (ht : P.underlying t = some (.int k)) : Reads enc P w t (fun n : Int => [.v (.int k n)]) (fun n => (Lit.int k n).wf = true) := by
  intro fuel cs x h
  obtain ⟨n, rfl, _, hw⟩ := DataW.trod_int ht h
  exact ⟨n, hw, _, _, rfl, by simp only [PV.R]; simp [Value.oneCell'], rfl⟩
theorem arg_one {t : TypeId} {v : Value} {d : DataW H} {ps : List MemPlace} {α : Type} {dec : α → PV} {ok : α → Prop} (h : Reads enc P w t (fun a => [dec a]) ok) (hd : DataW.Trod enc P w 0 (fun _ => true) true t v d ps)
    (hv : v.cells.toList = [v]) : ∃ a, ok a ∧ (dec a).R Fixed w v := by
  obtain ⟨fuel, hf⟩ := hd
  obtain ⟨a, ha, u, us, h1, h2, h3⟩ := h _ _ _ hf
  rw [hv] at h1
  simp at h1
  exact ⟨a, ha, h1.1 ▸ h2⟩
theorem cells_int {t : TypeId} {k : IntKind} {v : Value} {r : Reach} {b : Nat} (ht : P.underlying t = some (.int k)) (h : Value.okWide P w r b t v) : v.cells.toList = [v] := by
  obtain ⟨n, rfl⟩ := okWide_int ht h; rfl
theorem trodAll_stays (hl : laidOutB P = true) {W W' : World} {sp : Nat → Bool} : ∀ {ts : List TypeId} {vs : List Value} {ds : List (DataW H)} {ps : List MemPlace}, (∀ t ∈ ts, P.readableRec t = true ∧ t < P.types.size) →
    DataW.TrodAll enc P W 0 (fun _ => true) true ts vs ds ps → (∀ p ∈ ps, W.sameAt W' p) → (∀ p ∈ ps, sp p.block = true) → DataW.TrodAll enc P W' 0 sp true ts vs ds ps
  | [], [], [], _, _, h, _, _ => h
  | _ :: _, _ :: _, _ :: _, _, hT, ⟨p, q, h1, h2, e⟩, hs, hsp =>
    ⟨p, q, WideElems.Trod_stays hl (hT _ (List.mem_cons.2 (Or.inl rfl))).1 (hT _ (List.mem_cons.2 (Or.inl rfl))).2 h1 (fun x hx => hs x (by rw [e]; exact List.mem_append_left _ hx)) (fun x hx => hsp x (by rw [e]; exact List.mem_append_left _ hx)),
      trodAll_stays hl (fun t ht => hT t (List.mem_cons.2 (Or.inr ht))) h2 (fun x hx => hs x (by rw [e]; exact List.mem_append_right _ hx)) (fun x hx => hsp x (by rw [e]; exact List.mem_append_right _ hx)), e⟩
theorem Ext.frame {W W' : World} (h : Ext Fixed W W') (may : MemPlace → Prop) : W.keptBut W' may := by
  refine ⟨h.os, h.out, fun i hi => ?_⟩
  rw [h.same i hi (fun h => h)]
  split <;> simp_all
theorem law_post {fn : Func} {s : ChangeSpec} {apart fresh handsOn again : Bool} {W W' : World} {args : Array Value} {ds gs : List (DataW H)} {before : List MemPlace} {tb : TypeId}
    (hl : laidOutB P = true) (hpar : ∀ t ∈ fn.params.toList, P.readableRec t = true ∧ t < P.types.size) (hrt : fn.resultTypes = #[tb]) (hb : P.underlying tb = some .bool) (hvars : s.vars = [])
    (hres : (s.fn H ds).results = [.lit (.bool true)]) (hargs : (s.fn H ds).args = ds) (hvs : (s.fn H ds).vars = [])
    (hW : DataW.Whole enc P fn.params.toList s.vars apart W args.toList ds gs before) (he : Ext Fixed W W') : s.post enc P fn apart fresh handsOn again W args (.bool true) W' := by
  have hW' := hW
  obtain ⟨p, q, hA, hV, rfl, hz, hn⟩ := hW
  rw [hvars] at hV
  obtain ⟨rfl, rfl⟩ := trodVars_none hV
  have hlt : ∀ x ∈ p ++ [], x.block < W.heap.size := fun x hx => hW'.lt x hx
  have hsame : ∀ x ∈ p, W.sameAt W' x := by
    intro x hx
    have := hlt x (by simpa using hx)
    cases x with
    | cell b o => exact World.cell?_of_block (w := W) (he.same b this (fun h => h))
    | map b => exact he.same b this (fun h => h)
  have hold : ∀ x ∈ p, (fun b => decide (b < W.heap.size)) x.block = true := fun x hx => by simpa using hlt x (by simpa using hx)
  have hrl : (Value.bool true).resultList fn.resultTypes.size = [.bool true] := by rw [hrt]; rfl
  have hR : ∀ (b : Nat) (sp : Nat → Bool) (hd : Bool), DataW.TrodAll enc P W' b sp hd fn.resultTypes.toList ((Value.bool true).resultList fn.resultTypes.size) (s.fn H (ds ++ [])).results [] := by
    intro b sp hd
    rw [hrl, List.append_nil, hres, hrt]
    exact trodAll_mk1 (shut_bool hb true)
  have hAr : ∀ sp : Nat → Bool, (∀ x ∈ p, sp x.block = true) → DataW.TrodAll enc P W' 0 sp true fn.params.toList args.toList (s.fn H (ds ++ [])).args p := by
    intro sp hsp
    rw [List.append_nil, hargs]
    exact trodAll_stays hl hpar hA hsame hsp
  have hVr : ∀ sp : Nat → Bool, DataW.TrodVars enc P W' sp s.vars (s.fn H (ds ++ [])).vars [] := by
    intro sp
    rw [List.append_nil, hvs, hvars]
    rfl
  refine ⟨ds, [], p ++ [], [], p, [], hW', hR _ _ _, hAr _ hold, hVr _, he.frame _, fun _ => ?_⟩
  refine ⟨ok_one hrt rfl (okWide_bool_mk hb true), _, _, ([] ++ p) ++ [], ⟨[] ++ p, [], trodAll_append (hAr _ (fun _ _ => rfl)) (hR _ _ _), hVr _, rfl, ?_, ?_⟩, ?_⟩
  · intro b off hp
    have hin : MemPlace.cell b off ∈ p ++ [] := by simpa using hp
    have hsz := hlt _ hin
    rw [World.frozen?_of_block (w := W) (he.same b hsz (fun h => h))]
    exact hz b off hin
  · intro ha
    have := hn ha
    simpa using this
  · intro x hx _
    simpa using hx
end reads
theorem law_calls {P : Program} {f : FuncId} {avs : List AV} {W : World} {us : List Value} (h : SpecIs P f avs [] (vB true) []) (hL : Laid W) (ha : ∀ (ρ : Name → Loc) (Hp : Heap), AV.Ts ρ Hp Fixed W avs us) :
    Calls P f us.toArray W fun e W' => e = .returned (.bool true) ∧ Ext Fixed W W' := by
  refine (h W (fun _ => ⟨none, 0⟩) Fixed W us ⟨hL, Nat.le_refl _, fun _ _ => rfl, fun b ⟨n, o, hn, _⟩ => by simp [look] at hn⟩ (fun b hb => hb.elim) (ha _ _) (fun n o h => by simp [look] at h) (fun n m o o' b h => by simp [look] at h)).mono fun e W' ⟨u, v, h', ρ', he, ⟨hv, hh⟩, haft⟩ => ?_
  subst hv; subst hh
  have := haft.val
  simp only [AV.R, PV.R] at this
  obtain ⟨rfl, _⟩ := this
  exact ⟨he, haft.ext.weaken fun b _ ⟨n, o, hn, _⟩ => by simp [look] at hn⟩
end Go.Proofs.YtkfmncmhagpajaaGreatDoor.AM
set_option maxRecDepth 100000
namespace Go.Proofs.YtkfmncmhagpajaaGreatDoor
open Go AM Go.ChangeShapes Go.WideShapes Go.ChangeAt Go.RowKit
def laidL : List (String × DataW Unit) := [("math/bits.deBruijn32tab", Rows.laid_math_bits_deBruijn32tab), ("math/bits.deBruijn64tab", Rows.laid_math_bits_deBruijn64tab), ("internal/strconv.uint64pow10", Rows.laid_internal_strconv_uint64pow10), ("unicode/utf8.acceptRanges", Rows.laid_unicode_utf8_acceptRanges), ("strconv.ErrRange", Rows.laid_strconv_ErrRange), ("strconv.ErrSyntax", Rows.laid_strconv_ErrSyntax), ("unicode/utf8.first", Rows.laid_unicode_utf8_first)]
theorem own0 : ownKnob Tryz.prog.godebug = none := by kernel_rfl
theorem star_err : "*" ++ "errors.errorString" = "*errors.errorString" := by decide
theorem row_err (u : TypeId) (h : Tryz.prog.typeName? 3 u = some "*errors.errorString") : u = 141 :=
  typeName_ptr_named (nm := "errors.errorString") (by rw [star_err]; kernel_rfl) (by kernel_rfl) (by decide) u (by rw [star_err]; exact h)
theorem laid_pow : (Rows.laid_internal_strconv_uint64pow10 : DataW Unit) = Lib.tabData .u64 Lib.pow10Tab := by kernel_rfl
theorem laid_maxlen {W : World} (hs : W.ShapedOpen Tryz.prog) : ∃ m, W.var? Tryz.prog "internal/bytealg.MaxLen" = some #[.int .i64 m] := by
  obtain ⟨cs, hh, hz, hr⟩ := hs.1 0 #[.int .i64 0] 3 (of_decide_eq_true (by kernel_rfl)) (by kernel_rfl)
  obtain ⟨m, hm⟩ := cell_of_shapedOpen_int (k := .i64) hs (g := 0) (t := 3) (zero := #[.int .i64 0]) (of_decide_eq_true (by kernel_rfl)) (by kernel_rfl) rfl (by kernel_rfl) (by kernel_rfl) (by kernel_rfl)
  have hcs : cs = #[.int .i64 m] := by
    have h2 : cs.size = 1 := hz
    apply Array.ext
    · simpa using h2
    · intro i h3 h4
      have : i = 0 := by omega
      subst this
      simpa [World.cell?, hh, h3] using hm
  refine ⟨m, ?_⟩
  unfold World.var?
  rw [show Tryz.prog.globalNamed "internal/bytealg.MaxLen" = some 0 by kernel_rfl]
  simp [hh, hcs]
theorem laid_of {W : World} (h : laidMet Tryz.prog laidL W) (hs : W.ShapedOpen Tryz.prog) : AM.Laid W := by
  have hp : laidMet Tryz.prog (("internal/strconv.uint64pow10", Lib.tabData .u64 Lib.pow10Tab) :: laidL.drop 3) W := by
    rw [← laid_pow]; exact h.tail.tail
  obtain ⟨_, _, v1, -, -, -⟩ := laid_sentinel (g := 3) (ti := 48) h.tail.tail.tail.tail (by kernel_rfl) (by kernel_rfl) Tryz.underlying48 row_err Tryz.underlying141 Tryz.underlying143 rfl rfl Tryz.underlying9 (by kernel_rfl) (by kernel_rfl)
  obtain ⟨_, _, v2, -, -, -⟩ := laid_sentinel (g := 2) (ti := 48) h.tail.tail.tail.tail.tail (by kernel_rfl) (by kernel_rfl) Tryz.underlying48 row_err Tryz.underlying141 Tryz.underlying143 rfl rfl Tryz.underlying9 (by kernel_rfl) (by kernel_rfl)
  exact ⟨Lib.tabIs_of_head (g := 1) (t := 115) (e := 107) (n := 20) (by kernel_rfl) (by kernel_rfl) (by kernel_rfl) (by kernel_rfl) (by kernel_rfl) (by kernel_rfl) hp, ⟨_, _, v2⟩, ⟨_, _, v1⟩, laid_maxlen hs⟩
theorem returns_door {H : Type} {enc : TypeId × Value → H} {a : Assume} {C : Checked} {os : Os} {f : FuncId} {fn : Func} {s : ChangeSpec} {conds : List PathCond} {apart fresh handsOn again : Bool} {X : World → Array Value → Prop}
    (hX : ∀ (w w' : World) (args : Array Value), w.heap = w'.heap → X w args → X w' args)
    (own : ownKnob C.prog.godebug = none) (started : os.Started) (noInit : C.prog.inits.idxOf? f = none) (hfn : C.prog.funcs[f]? = some fn)
    (witness : ∃ (w : World) (tape : Tape) (i : Input), w.os = os ∧ (w.forCall tape i).Shaped C.prog ∧ i.vars = [] ∧ Input.okWide C.prog (w.forCall tape i) .any w.heap.size f i ∧
      ((s.pre enc C.prog fn conds apart (w.forCall tape i).memory i.args ∧ X (w.forCall tape i).memory i.args) ∧ sizedMet enc C.prog fn (OpenSpec.ofChange s) apart (w.forCall tape i).memory i.args) ∧ a.holds C.prog (lone (Frame.enter C.prog f i.args .normal) [] (w.forCall tape i)))
    (contract : ∀ (W : World) (base : Nat) (args : Array Value) (ds gs : List (DataW H)) (before : List MemPlace),
      (∀ (j : Nat) t v, fn.params[j]? = some t → args[j]? = some v → Value.okWide C.prog W .any base t v) →
      DataW.Whole enc C.prog fn.params.toList s.vars apart W args.toList ds gs before → X W args → W.ShapedOpen C.prog →
      Calls C.prog f args W fun e W' => ∃ v, e = .returned v ∧ s.post enc C.prog fn apart fresh handsOn again W args v W') :
    ReturnsInHanded a C os f .any (fun w args => (s.pre enc C.prog fn conds apart w args ∧ X w args) ∧ sizedMet enc C.prog fn (OpenSpec.ofChange s) apart w args) (s.post enc C.prog fn apart fresh handsOn again) := by
  refine returnsInHanded_of_calls own started noInit witness ?_
  intro w tape i _ hsh _ hok hpre hholds
  obtain ⟨_, _, _, fn', hfn', _, _, _, _, hval⟩ := hok
  have e : fn' = fn := Option.some.inj (hfn'.symm.trans hfn)
  subst e
  obtain ⟨⟨⟨ds, gs, before, hw, hc⟩, hx⟩, hz⟩ := hpre
  have hw' := DataW.Whole.of_heap (w' := w.forCall tape i) (by rfl) hw
  refine (contract (w.forCall tape i) w.heap.size i.args ds gs before hval hw' (hX _ _ _ (by rfl) hx) hsh).mono fun e W' ⟨v, he, hp⟩ => ?_
  subst he
  exact ChangeSpec.post_blind hp
end Go.Proofs.YtkfmncmhagpajaaGreatDoor
