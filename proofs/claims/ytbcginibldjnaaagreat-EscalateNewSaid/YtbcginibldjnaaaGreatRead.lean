/-
  Arguments that read as data, as the abstract machine's pure data; and a law's row out of its walk. No project text.
-/
import Derived.Test.YtbcginibldjnaaaGreatAmN
import Derived.Below
import Derived.ChangeSame
import Derived.ChangeArms
import Derived.ChangeShapes
import Derived.DataReads
import Derived.OpenShut
import Derived.WideKeyArgs
import Derived.RowKit2
import Derived.JoinedOf
import Derived.JoinedAt
set_option linter.unusedSimpArgs false
set_option linter.unusedVariables false
namespace Go.Proofs.YtbcginibldjnaaaGreat.AM
open Go Go.ChangeShapes Go.WideShapes Go.RowKit

abbrev Fixed : Nat → Prop := fun _ => False

def PVs (w : World) : List PV → List Value → Prop
  | [], us => us = []
  | p :: ps, us => ∃ u us', us = u :: us' ∧ p.R Fixed w u ∧ PVs w ps us'

theorem PVs.length {w : World} : ∀ {ps : List PV} {us : List Value}, PVs w ps us → us.length = ps.length
  | [], us, h => by simp only [PVs] at h; subst h; rfl
  | p :: ps, us, h => by
    simp only [PVs] at h
    obtain ⟨u, us', rfl, _, h2⟩ := h
    simp [PVs.length h2]
theorem PVs.append {w : World} : ∀ {ps ps' : List PV} {us us' : List Value}, PVs w ps us → PVs w ps' us' → PVs w (ps ++ ps') (us ++ us')
  | [], _, us, _, h, h' => by simp only [PVs] at h; subst h; simpa using h'
  | p :: ps, _, us, _, h, h' => by
    simp only [PVs] at h
    obtain ⟨u, us1, rfl, h1, h2⟩ := h
    exact ⟨u, us1 ++ _, rfl, h1, PVs.append h2 h'⟩
theorem PVs.part {w : World} {ps ps' : List PV} {cs : List Value} {k n : Nat} (h : PVs w ps ((cs.drop k).take n)) (h' : PVs w ps' (cs.drop (k + n))) : PVs w (ps ++ ps') (cs.drop k) := by
  have := h.append h'
  rwa [← List.drop_drop, List.take_append_drop] at this
theorem PVs.done {w : World} {cs : List Value} {k : Nat} (h : cs.length = k) : PVs w [] (cs.drop k) := by
  simp only [PVs]; rw [← h]; simp
theorem PVs.get {w : World} : ∀ {ps : List PV} {us : List Value}, PVs w ps us → ∀ (j : Nat) (p : PV), ps[j]? = some p → ∃ u, us[j]? = some u ∧ p.R Fixed w u
  | [], _, _, j, p, hj => by simp at hj
  | q :: ps, us, h, j, p, hj => by
    simp only [PVs] at h
    obtain ⟨u, us', rfl, h1, h2⟩ := h
    cases j with
    | zero => simp at hj; subst hj; exact ⟨u, rfl, h1⟩
    | succ j => simpa using h2.get j p (by simpa using hj)
theorem PVs.rs {w : World} {ρ : Name → Loc} {H : Heap} : ∀ {ps : List PV} {us : List Value}, PVs w ps us → AV.Rs ρ H Fixed w (ps.map .p) us
  | [], us, h => by simp only [PVs] at h; subst h; simp only [List.map_nil, AV.Rs]
  | p :: ps, us, h => by
    simp only [PVs] at h
    obtain ⟨u, us', rfl, h1, h2⟩ := h
    simp only [List.map_cons, AV.Rs]
    exact ⟨u, us', rfl, h1.flat, by simpa only [AV.R] using h1, h2.rs⟩

section reads
variable {H : Type} {enc : TypeId × Value → H} {P : Program} {w : World}

def Reads (enc : TypeId × Value → H) (P : Program) (w : World) (t : TypeId) {α : Type} (dec : α → List PV) (ok : α → Prop) : Prop :=
  ∀ fuel cs x, DataW.trod enc P w 0 (fun _ => true) true fuel t cs = some x → ∃ a, ok a ∧ PVs w (dec a) cs

theorem reads_int {t : TypeId} {k : IntKind} (ht : P.underlying t = some (.int k)) : Reads enc P w t (fun n : Int => [.v (.int k n)]) (fun n => (Lit.int k n).wf = true) := by
  intro fuel cs x h
  obtain ⟨n, rfl, _, hw⟩ := DataW.trod_int ht h
  exact ⟨n, hw, _, _, rfl, by simp only [PV.R]; simp [Value.oneCell'], rfl⟩
theorem reads_bool {t : TypeId} (ht : P.underlying t = some .bool) : Reads enc P w t (fun b : Bool => [.v (.bool b)]) (fun _ => True) := by
  intro fuel cs x h
  obtain ⟨n, rfl, _⟩ := DataW.trod_bool ht h
  exact ⟨n, trivial, _, _, rfl, by simp only [PV.R]; simp [Value.oneCell'], rfl⟩
theorem reads_str {t : TypeId} (ht : P.underlying t = some .string) : Reads enc P w t (fun s : ByteArray => [.v (.string s)]) (fun s => s.size ≤ maxLen) := by
  intro fuel cs x h
  obtain ⟨n, rfl, _, hw⟩ := DataW.trod_string ht h
  exact ⟨n, hw, _, _, rfl, by simp only [PV.R]; simp [Value.oneCell'], rfl⟩

theorem choose_list {α : Type} {Q : Nat → α → Prop} : ∀ (n : Nat), (∀ i, i < n → ∃ a, Q i a) → ∃ l : List α, l.length = n ∧ ∀ (i : Nat) (a : α), l[i]? = some a → Q i a
  | 0, _ => ⟨[], rfl, fun i a h => by simp at h⟩
  | n + 1, h => by
    obtain ⟨l, hl, hq⟩ := choose_list n (fun i hi => h i (by omega))
    obtain ⟨a, ha⟩ := h n (by omega)
    refine ⟨l ++ [a], by simp [hl], fun i x hx => ?_⟩
    rw [List.getElem?_append] at hx
    split at hx
    · exact hq i x hx
    · have : i = n := by
        rcases Nat.lt_or_ge (i - l.length) 1 with h1 | h1
        · omega
        · rw [List.getElem?_eq_none (by simpa using h1)] at hx; simp at hx
      subst this
      rw [hl] at hx
      simp at hx
      subst hx; exact ha

theorem reads_slice {t e : TypeId} {n : Nat} {α : Type} {dec : α → List PV} {ok : α → Prop} (ht : P.underlying t = some (.slice e)) (hc : P.cellsOf e = n) (hpos : 0 < n)
    (hd : ∀ a, (dec a).length = n) (h : Reads enc P w e dec ok) :
    Reads enc P w t (fun l : List α => [.sl false n (l.map dec)]) (fun l => (∀ (i : Nat) (a : α), l[i]? = some a → ok a) ∧ l.length ≤ maxLen) := by
  intro fuel cs x hx
  rcases DataW.trod_slice ht hx with ⟨rfl, _⟩ | ⟨a, len, cap, elems, rest, m, _, rfl, _, _, hl, hm, hlen, hel, hsp, _⟩
  · refine ⟨[], ⟨fun i a h => by simp at h, by simp [maxLen]⟩, _, _, rfl, ?_, rfl⟩
    simp only [PV.R]
    exact ⟨none, 0, rfl, by simp, (fun h => by cases h), (fun _ => rfl), (fun ad had => by cases had)⟩
  · rw [hc] at hel hsp
    obtain ⟨hr1, hr2⟩ := hsp rfl
    have spot : cap ≠ 0 → a.spot = none ∧ a.block < w.heap.size := by
      intro hcap
      have : ∃ y, (w.cells? 0 (a.add (0 * n)) n).bind (DataW.trod enc P w 0 (fun _ => true) true m e) = some y := by
        by_cases h0 : 0 < len
        · exact ⟨elems[0], by rw [hel 0 h0]; simp⟩
        · have hl0 : len = 0 := by omega
          subst hl0
          have h1 : 0 < rest.length := by omega
          exact ⟨rest[0], by have := hr2 0 (by omega); simp only [Nat.zero_add] at this ⊢; rw [this]; simp⟩
      obtain ⟨y, hy⟩ := this
      cases hcs : w.cells? 0 (a.add (0 * n)) n with
      | none => rw [hcs] at hy; simp at hy
      | some cs' =>
        obtain ⟨_, k1, k2⟩ := World.cells?_some hcs
        have k3 := k2 0 hpos
        have : 0 < cs'.length := by omega
        rw [List.getElem?_eq_getElem this] at k3
        have hs := World.cell?_spot k3
        refine ⟨by simpa [Addr.add] using hs, ?_⟩
        have := World.block_lt_of_cell? w _ k3
        simpa [Addr.add] using this
    have each : ∀ i, i < len → ∃ b, ok b ∧ PV.Cells Fixed w a.block (a.off + i * n) (dec b) := by
      intro i hi
      have hi' := hel i hi
      rw [List.getElem?_eq_getElem (by omega)] at hi'
      cases hcs : w.cells? 0 (a.add (i * n)) n with
      | none => rw [hcs] at hi'; simp at hi'
      | some cs' =>
        rw [hcs] at hi'
        obtain ⟨b, hb1, hb2⟩ := h _ _ _ hi'
        obtain ⟨_, k1, k2⟩ := World.cells?_some hcs
        obtain ⟨s1, s2⟩ := spot (by omega)
        refine ⟨b, hb1, PV.Cells.of_get fun j c hj => ?_⟩
        obtain ⟨u, hu, hr⟩ := hb2.get j c hj
        have hjn : j < n := by rw [← hd b]; exact (List.getElem?_eq_some_iff.1 hj).1
        refine ⟨u, ?_, hr⟩
        rw [← hu, ← k2 j hjn]
        obtain ⟨b1, o1, s1'⟩ := a
        simp only at s1
        subst s1
        rw [addr_add, addr_add]
    obtain ⟨l, hl1, hl2⟩ := choose_list len each
    refine ⟨l, ⟨fun i a h => (hl2 i a h).1, by omega⟩, _, _, rfl, ?_, rfl⟩
    simp only [PV.R]
    refine ⟨some a, cap, by simp [hl1], by simp [hl1]; omega, (fun h => by cases h), (fun h => by cases h), fun ad had hcap => ?_⟩
    cases had
    obtain ⟨s1, s2⟩ := spot hcap
    refine ⟨s1, fun h => h, s2, PV.Rows.of_get fun i r hi => ?_⟩
    rw [List.getElem?_map] at hi
    cases hli : l[i]? with
    | none => rw [hli] at hi; simp at hi
    | some b =>
      rw [hli] at hi
      simp at hi
      subst hi
      exact ⟨hd b, (hl2 i b hli).2⟩

/-- The fields of a struct: where each lies, and its type. -/
def fieldsT (P : Program) (t : TypeId) : Option (List (Nat × TypeId)) := match P.underlying t with | some (.struct fs) => some (fs.toList.map fun f => (f.offset, f.type)) | _ => none
theorem struct_reads {t : TypeId} {l : List (Nat × TypeId)} {fuel : Nat} {cs : List Value} {x : DataW H × List MemPlace} (hl : fieldsT P t = some l) (h : DataW.trod enc P w 0 (fun _ => true) true fuel t cs = some x) :
    cs.length = P.cellsOf t ∧ ∀ (i o : Nat) (ft : TypeId), l[i]? = some (o, ft) → ∃ m y, DataW.trod enc P w 0 (fun _ => true) true m ft ((cs.drop o).take (P.cellsOf ft)) = some y := by
  unfold fieldsT at hl
  split at hl
  · rename_i fs hfs
    cases hl
    obtain ⟨xs, n, _, _, h1, h2, h3⟩ := DataW.trod_struct hfs h
    refine ⟨h1, fun i o ft hi => ?_⟩
    rw [List.getElem?_map] at hi
    cases hf : fs.toList[i]? with
    | none => rw [hf] at hi; simp at hi
    | some f =>
      rw [hf] at hi
      simp only [Option.map_some, Option.some.injEq, Prod.mk.injEq] at hi
      obtain ⟨rfl, rfl⟩ := hi
      have hil : i < fs.size := by
        have := (List.getElem?_eq_some_iff.1 hf).1; simpa using this
      have h4 := h3 i f (by simpa using hf)
      rw [List.getElem?_eq_getElem (by omega)] at h4
      exact ⟨n, _, h4⟩
  · simp at hl

/-- A parameter of one cell. -/
theorem arg_one {t : TypeId} {v : Value} {d : DataW H} {ps : List MemPlace} {α : Type} {dec : α → PV} {ok : α → Prop} (h : Reads enc P w t (fun a => [dec a]) ok) (hd : DataW.Trod enc P w 0 (fun _ => true) true t v d ps)
    (hv : v.cells.toList = [v]) : ∃ a, ok a ∧ (dec a).R Fixed w v := by
  obtain ⟨fuel, hf⟩ := hd
  obtain ⟨a, ha, u, us, h1, h2, h3⟩ := h _ _ _ hf
  rw [hv] at h1
  simp at h1
  exact ⟨a, ha, h1.1 ▸ h2⟩
theorem cells_slice {t e : TypeId} {v : Value} {r : Reach} {b : Nat} (ht : P.underlying t = some (.slice e)) (h : Value.okWide P w r b t v) : v.cells.toList = [v] := by
  obtain ⟨a, l, c, rfl⟩ := okWide_slice ht h; rfl
theorem cells_int {t : TypeId} {k : IntKind} {v : Value} {r : Reach} {b : Nat} (ht : P.underlying t = some (.int k)) (h : Value.okWide P w r b t v) : v.cells.toList = [v] := by
  obtain ⟨n, rfl⟩ := okWide_int ht h; rfl
theorem cells_bool {t : TypeId} {v : Value} {r : Reach} {b : Nat} (ht : P.underlying t = some .bool) (h : Value.okWide P w r b t v) : v.cells.toList = [v] := by
  obtain ⟨n, rfl⟩ := okWide_bool ht h; rfl
theorem cells_str {t : TypeId} {v : Value} {r : Reach} {b : Nat} (ht : P.underlying t = some .string) (h : Value.okWide P w r b t v) : v.cells.toList = [v] := by
  obtain ⟨n, rfl⟩ := okWide_string ht h; rfl
/-- A parameter of struct type. -/
theorem arg_struct {t : TypeId} {fs : Array Field} {v : Value} {d : DataW H} {ps : List MemPlace} {α : Type} {dec : α → List PV} {ok : α → Prop} {r : Reach} {b : Nat} (ht : P.underlying t = some (.struct fs)) (h : Reads enc P w t dec ok)
    (hd : DataW.Trod enc P w 0 (fun _ => true) true t v d ps) (hv : Value.okWide P w r b t v) : ∃ a, ok a ∧ ∀ (ρ : Name → Loc) (Hp : Heap), (AV.agg ((dec a).map .p)).R ρ Hp Fixed w v := by
  obtain ⟨fuel, hf⟩ := hd
  obtain ⟨a, ha, hp⟩ := h _ _ _ hf
  simp only [Value.okWide, ht] at hv
  obtain ⟨cs, rfl, _, _⟩ := hv
  refine ⟨a, ha, fun ρ Hp => ?_⟩
  simp only [AV.R]
  exact ⟨cs, rfl, hp.rs⟩

/-- The arguments read behind the call as they read before. -/
theorem trodAll_stays (hl : laidOutB P = true) {W W' : World} {sp : Nat → Bool} : ∀ {ts : List TypeId} {vs : List Value} {ds : List (DataW H)} {ps : List MemPlace}, (∀ t ∈ ts, P.readableRec t = true ∧ t < P.types.size) →
    DataW.TrodAll enc P W 0 (fun _ => true) true ts vs ds ps → (∀ p ∈ ps, W.sameAt W' p) → (∀ p ∈ ps, sp p.block = true) → DataW.TrodAll enc P W' 0 sp true ts vs ds ps
  | [], [], [], _, _, h, _, _ => h
  | _ :: _, _ :: _, _ :: _, _, hT, ⟨p, q, h1, h2, e⟩, hs, hsp =>
    ⟨p, q, WideElems.Trod_stays hl (hT _ (List.mem_cons.2 (Or.inl rfl))).1 (hT _ (List.mem_cons.2 (Or.inl rfl))).2 h1 (fun x hx => hs x (by rw [e]; exact List.mem_append_left _ hx)) (fun x hx => hsp x (by rw [e]; exact List.mem_append_left _ hx)),
      trodAll_stays hl (fun t ht => hT t (List.mem_cons.2 (Or.inr ht))) h2 (fun x hx => hs x (by rw [e]; exact List.mem_append_right _ hx)) (fun x hx => hsp x (by rw [e]; exact List.mem_append_right _ hx)), e⟩

theorem Ext.frame {W W' : World} (h : Ext Fixed W W') (may : MemPlace → Prop) : W.keptBut W' may := by
  refine ⟨h.os, h.out, fun i hi => ?_⟩
  rw [h.same i hi (fun h => h)]
  split <;> simp_all

/-- The law's word: true, and the arguments read as they did. -/
theorem law_post {fn : Func} {s : ChangeSpec} {apart fresh handsOn again : Bool} {W W' : World} {args : Array Value} {ds gs : List (DataW H)} {before : List MemPlace} {tb : TypeId}
    (hl : laidOutB P = true) (hpar : ∀ t ∈ fn.params.toList, P.readableRec t = true ∧ t < P.types.size) (hrt : fn.resultTypes = #[tb]) (hb : P.underlying tb = some .bool) (hvars : s.vars = [])
    (hres : (s.fn H ds).results = [.lit (.bool true)]) (hargs : (s.fn H ds).args = ds) (hvs : (s.fn H ds).vars = [])
    (hW : DataW.Whole enc P fn.params.toList s.vars apart W args.toList ds gs before) (he : Ext Fixed W W') : s.post enc P fn apart fresh handsOn again W args (.bool true) W' := by
  have hW' := hW
  obtain ⟨p, q, hA, hV, rfl, hz, hn⟩ := hW
  rw [hvars] at hV
  obtain ⟨rfl, rfl⟩ := trodVars_none hV
  have hlt : ∀ x ∈ p ++ [], x.block < W.heap.size := fun x hx => hW'.lt x hx
  have hsame : ∀ x ∈ p, W.sameAt W' x := by
    intro x hx
    have := hlt x (by simpa using hx)
    cases x with
    | cell b o => exact World.cell?_of_block (w := W) (he.same b this (fun h => h))
    | map b => exact he.same b this (fun h => h)
  have hold : ∀ x ∈ p, (fun b => decide (b < W.heap.size)) x.block = true := fun x hx => by simpa using hlt x (by simpa using hx)
  have hrl : (Value.bool true).resultList fn.resultTypes.size = [.bool true] := by rw [hrt]; rfl
  have hR : ∀ (b : Nat) (sp : Nat → Bool) (hd : Bool), DataW.TrodAll enc P W' b sp hd fn.resultTypes.toList ((Value.bool true).resultList fn.resultTypes.size) (s.fn H (ds ++ [])).results [] := by
    intro b sp hd
    rw [hrl, List.append_nil, hres, hrt]
    exact trodAll_mk1 (shut_bool hb true)
  have hAr : ∀ sp : Nat → Bool, (∀ x ∈ p, sp x.block = true) → DataW.TrodAll enc P W' 0 sp true fn.params.toList args.toList (s.fn H (ds ++ [])).args p := by
    intro sp hsp
    rw [List.append_nil, hargs]
    exact trodAll_stays hl hpar hA hsame hsp
  have hVr : ∀ sp : Nat → Bool, DataW.TrodVars enc P W' sp s.vars (s.fn H (ds ++ [])).vars [] := by
    intro sp
    rw [List.append_nil, hvs, hvars]
    rfl
  refine ⟨ds, [], p ++ [], [], p, [], hW', hR _ _ _, hAr _ hold, hVr _, he.frame _, fun _ => ?_⟩
  refine ⟨ok_one hrt rfl (okWide_bool_mk hb true), _, _, ([] ++ p) ++ [], ⟨[] ++ p, [], trodAll_append (hAr _ (fun _ _ => rfl)) (hR _ _ _), hVr _, rfl, ?_, ?_⟩, ?_⟩
  · intro b off hp
    have hin : MemPlace.cell b off ∈ p ++ [] := by simpa using hp
    have hsz := hlt _ hin
    rw [World.frozen?_of_block (w := W) (he.same b hsz (fun h => h))]
    exact hz b off hin
  · intro ha
    have := hn ha
    simpa using this
  · intro x hx _
    simpa using hx
end reads

theorem law_calls {P : Program} {f : FuncId} {avs : List AV} {W : World} {us : List Value} (h : SpecIs P f avs [] (vB true) []) (hL : Laid W) (ha : ∀ (ρ : Name → Loc) (Hp : Heap), AV.Ts ρ Hp Fixed W avs us) :
    Calls P f us.toArray W fun e W' => e = .returned (.bool true) ∧ Ext Fixed W W' := by
  refine (h W (fun _ => ⟨none, 0⟩) Fixed W us ⟨hL, Nat.le_refl _, fun _ _ => rfl, fun b ⟨n, o, hn, _⟩ => by simp [look] at hn⟩ (fun b hb => hb.elim) (ha _ _) (fun n o h => by simp [look] at h) (fun n m o o' b h => by simp [look] at h)).mono fun e W' ⟨u, v, h', ρ', he, ⟨hv, hh⟩, haft⟩ => ?_
  subst hv; subst hh
  have := haft.val
  simp only [AV.R, PV.R] at this
  obtain ⟨rfl, _⟩ := this
  exact ⟨he, haft.ext.weaken fun b _ ⟨n, o, hn, _⟩ => by simp [look] at hn⟩

end Go.Proofs.YtbcginibldjnaaaGreat.AM
