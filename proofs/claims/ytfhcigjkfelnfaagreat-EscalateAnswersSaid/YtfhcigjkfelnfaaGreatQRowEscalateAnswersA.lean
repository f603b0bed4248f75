/-
  Arguments that read as data, as the abstract machine's pure data; and a law's row out of its walk. No project text.
-/
import Derived.Test.YtfhcigjkfelnfaaGreatQEscC
import Derived.Below
import Derived.ChangeSame
import Derived.ChangeArms
import Derived.ChangeShapes
import Derived.DataReads
import Derived.OpenShut
import Derived.WideKeyArgs
import Derived.RowKit2
import Derived.JoinedOf
import Derived.JoinedAt
import Derived.Test.YtfhcigjkfelnfaaGreatQEscG
import Derived.Test.YtfhcigjkfelnfaaGreatProg
set_option linter.unusedSimpArgs false
set_option linter.unusedVariables false
namespace Go.Proofs.YtfhcigjkfelnfaaGreat.AM
open Go Go.ChangeShapes Go.WideShapes Go.RowKit
abbrev Fixed : Nat → Prop := fun _ => False
def PVs (w : World) : List PV → List Value → Prop
  | [], us => us = []
  | p :: ps, us => ∃ u us', us = u :: us' ∧ p.R Fixed w u ∧ PVs w ps us'
theorem PVs.get {w : World} : ∀ {ps : List PV} {us : List Value}, PVs w ps us → ∀ (j : Nat) (p : PV), ps[j]? = some p → ∃ u, us[j]? = some u ∧ p.R Fixed w u
  | [], _, _, j, p, hj => by simp at hj
  | q :: ps, us, h, j, p, hj => by
    simp only [PVs] at h
    obtain ⟨u, us', rfl, h1, h2⟩ := h
    cases j with
    | zero => simp at hj; subst hj; exact ⟨u, rfl, h1⟩
    | succ j => simpa using h2.get j p (by simpa using hj)
section reads
variable {H : Type} {enc : TypeId × Value → H} {P : Program} {w : World}
def Reads (enc : TypeId × Value → H) (P : Program) (w : World) (t : TypeId) {α : Type} (dec : α → List PV) (ok : α → Prop) : Prop :=
  ∀ fuel cs x, DataW.trod enc P w 0 (fun _ => true) true fuel t cs = some x → ∃ a, ok a ∧ PVs w (dec a) cs
theorem reads_int {t : TypeId} {k : IntKind} (ht : P.underlying t = some (.int k)) : Reads enc P w t (fun n : Int => [.v (.int k n)]) (fun n => (Lit.int k n).wf = true) := by
  intro fuel cs x h
  obtain ⟨n, rfl, _, hw⟩ := DataW.trod_int ht h
  exact ⟨n, hw, _, _, rfl, by simp only [PV.R]; simp [Value.oneCell'], rfl⟩
theorem choose_list {α : Type} {Q : Nat → α → Prop} : ∀ (n : Nat), (∀ i, i < n → ∃ a, Q i a) → ∃ l : List α, l.length = n ∧ ∀ (i : Nat) (a : α), l[i]? = some a → Q i a
  | 0, _ => ⟨[], rfl, fun i a h => by simp at h⟩
  | n + 1, h => by
    obtain ⟨l, hl, hq⟩ := choose_list n (fun i hi => h i (by omega))
    obtain ⟨a, ha⟩ := h n (by omega)
    refine ⟨l ++ [a], by simp [hl], fun i x hx => ?_⟩
    rw [List.getElem?_append] at hx
    split at hx
    · exact hq i x hx
    · have : i = n := by
        rcases Nat.lt_or_ge (i - l.length) 1 with h1 | h1
        · omega
        · rw [List.getElem?_eq_none (by simpa using h1)] at hx; simp at hx
      subst this
      rw [hl] at hx
      simp at hx
      subst hx; exact ha
theorem reads_slice {t e : TypeId} {n : Nat} {α : Type} {dec : α → List PV} {ok : α → Prop} (ht : P.underlying t = some (.slice e)) (hc : P.cellsOf e = n) (hpos : 0 < n)
    (hd : ∀ a, (dec a).length = n) (h : Reads enc P w e dec ok) :
    Reads enc P w t (fun l : List α => [.sl false n (l.map dec)]) (fun l => (∀ (i : Nat) (a : α), l[i]? = some a → ok a) ∧ l.length ≤ maxLen) := by
  intro fuel cs x hx
  rcases DataW.trod_slice ht hx with ⟨rfl, _⟩ | ⟨a, len, cap, elems, rest, m, _, rfl, _, _, hl, hm, hlen, hel, hsp, _⟩
  · refine ⟨[], ⟨fun i a h => by simp at h, by simp [maxLen]⟩, _, _, rfl, ?_, rfl⟩
    simp only [PV.R]
    exact ⟨none, 0, rfl, by simp, (fun h => by cases h), (fun _ => rfl), (fun ad had => by cases had)⟩
  · rw [hc] at hel hsp
    obtain ⟨hr1, hr2⟩ := hsp rfl
    have spot : cap ≠ 0 → a.spot = none ∧ a.block < w.heap.size := by
      intro hcap
      have : ∃ y, (w.cells? 0 (a.add (0 * n)) n).bind (DataW.trod enc P w 0 (fun _ => true) true m e) = some y := by
        by_cases h0 : 0 < len
        · exact ⟨elems[0], by rw [hel 0 h0]; simp⟩
        · have hl0 : len = 0 := by omega
          subst hl0
          have h1 : 0 < rest.length := by omega
          exact ⟨rest[0], by have := hr2 0 (by omega); simp only [Nat.zero_add] at this ⊢; rw [this]; simp⟩
      obtain ⟨y, hy⟩ := this
      cases hcs : w.cells? 0 (a.add (0 * n)) n with
      | none => rw [hcs] at hy; simp at hy
      | some cs' =>
        obtain ⟨_, k1, k2⟩ := World.cells?_some hcs
        have k3 := k2 0 hpos
        have : 0 < cs'.length := by omega
        rw [List.getElem?_eq_getElem this] at k3
        have hs := World.cell?_spot k3
        refine ⟨by simpa [Addr.add] using hs, ?_⟩
        have := World.block_lt_of_cell? w _ k3
        simpa [Addr.add] using this
    have each : ∀ i, i < len → ∃ b, ok b ∧ PV.Cells Fixed w a.block (a.off + i * n) (dec b) := by
      intro i hi
      have hi' := hel i hi
      rw [List.getElem?_eq_getElem (by omega)] at hi'
      cases hcs : w.cells? 0 (a.add (i * n)) n with
      | none => rw [hcs] at hi'; simp at hi'
      | some cs' =>
        rw [hcs] at hi'
        obtain ⟨b, hb1, hb2⟩ := h _ _ _ hi'
        obtain ⟨_, k1, k2⟩ := World.cells?_some hcs
        obtain ⟨s1, s2⟩ := spot (by omega)
        refine ⟨b, hb1, PV.Cells.of_get fun j c hj => ?_⟩
        obtain ⟨u, hu, hr⟩ := hb2.get j c hj
        have hjn : j < n := by rw [← hd b]; exact (List.getElem?_eq_some_iff.1 hj).1
        refine ⟨u, ?_, hr⟩
        rw [← hu, ← k2 j hjn]
        obtain ⟨b1, o1, s1'⟩ := a
        simp only at s1
        subst s1
        rw [addr_add, addr_add]
    obtain ⟨l, hl1, hl2⟩ := choose_list len each
    refine ⟨l, ⟨fun i a h => (hl2 i a h).1, by omega⟩, _, _, rfl, ?_, rfl⟩
    simp only [PV.R]
    refine ⟨some a, cap, by simp [hl1], by simp [hl1]; omega, (fun h => by cases h), (fun h => by cases h), fun ad had hcap => ?_⟩
    cases had
    obtain ⟨s1, s2⟩ := spot hcap
    refine ⟨s1, fun h => h, s2, PV.Rows.of_get fun i r hi => ?_⟩
    rw [List.getElem?_map] at hi
    cases hli : l[i]? with
    | none => rw [hli] at hi; simp at hi
    | some b =>
      rw [hli] at hi
      simp at hi
      subst hi
      exact ⟨hd b, (hl2 i b hli).2⟩
theorem arg_one {t : TypeId} {v : Value} {d : DataW H} {ps : List MemPlace} {α : Type} {dec : α → PV} {ok : α → Prop} (h : Reads enc P w t (fun a => [dec a]) ok) (hd : DataW.Trod enc P w 0 (fun _ => true) true t v d ps)
    (hv : v.cells.toList = [v]) : ∃ a, ok a ∧ (dec a).R Fixed w v := by
  obtain ⟨fuel, hf⟩ := hd
  obtain ⟨a, ha, u, us, h1, h2, h3⟩ := h _ _ _ hf
  rw [hv] at h1
  simp at h1
  exact ⟨a, ha, h1.1 ▸ h2⟩
theorem cells_slice {t e : TypeId} {v : Value} {r : Reach} {b : Nat} (ht : P.underlying t = some (.slice e)) (h : Value.okWide P w r b t v) : v.cells.toList = [v] := by
  obtain ⟨a, l, c, rfl⟩ := okWide_slice ht h; rfl
theorem cells_int {t : TypeId} {k : IntKind} {v : Value} {r : Reach} {b : Nat} (ht : P.underlying t = some (.int k)) (h : Value.okWide P w r b t v) : v.cells.toList = [v] := by
  obtain ⟨n, rfl⟩ := okWide_int ht h; rfl
theorem trodAll_stays (hl : laidOutB P = true) {W W' : World} {sp : Nat → Bool} : ∀ {ts : List TypeId} {vs : List Value} {ds : List (DataW H)} {ps : List MemPlace}, (∀ t ∈ ts, P.readableRec t = true ∧ t < P.types.size) →
    DataW.TrodAll enc P W 0 (fun _ => true) true ts vs ds ps → (∀ p ∈ ps, W.sameAt W' p) → (∀ p ∈ ps, sp p.block = true) → DataW.TrodAll enc P W' 0 sp true ts vs ds ps
  | [], [], [], _, _, h, _, _ => h
  | _ :: _, _ :: _, _ :: _, _, hT, ⟨p, q, h1, h2, e⟩, hs, hsp =>
    ⟨p, q, WideElems.Trod_stays hl (hT _ (List.mem_cons.2 (Or.inl rfl))).1 (hT _ (List.mem_cons.2 (Or.inl rfl))).2 h1 (fun x hx => hs x (by rw [e]; exact List.mem_append_left _ hx)) (fun x hx => hsp x (by rw [e]; exact List.mem_append_left _ hx)),
      trodAll_stays hl (fun t ht => hT t (List.mem_cons.2 (Or.inr ht))) h2 (fun x hx => hs x (by rw [e]; exact List.mem_append_right _ hx)) (fun x hx => hsp x (by rw [e]; exact List.mem_append_right _ hx)), e⟩
theorem Ext.frame {W W' : World} (h : Ext Fixed W W') (may : MemPlace → Prop) : W.keptBut W' may := by
  refine ⟨h.os, h.out, fun i hi => ?_⟩
  rw [h.same i hi (fun h => h)]
  split <;> simp_all
theorem law_post {fn : Func} {s : ChangeSpec} {apart fresh handsOn again : Bool} {W W' : World} {args : Array Value} {ds gs : List (DataW H)} {before : List MemPlace} {tb : TypeId}
    (hl : laidOutB P = true) (hpar : ∀ t ∈ fn.params.toList, P.readableRec t = true ∧ t < P.types.size) (hrt : fn.resultTypes = #[tb]) (hb : P.underlying tb = some .bool) (hvars : s.vars = [])
    (hres : (s.fn H ds).results = [.lit (.bool true)]) (hargs : (s.fn H ds).args = ds) (hvs : (s.fn H ds).vars = [])
    (hW : DataW.Whole enc P fn.params.toList s.vars apart W args.toList ds gs before) (he : Ext Fixed W W') : s.post enc P fn apart fresh handsOn again W args (.bool true) W' := by
  have hW' := hW
  obtain ⟨p, q, hA, hV, rfl, hz, hn⟩ := hW
  rw [hvars] at hV
  obtain ⟨rfl, rfl⟩ := trodVars_none hV
  have hlt : ∀ x ∈ p ++ [], x.block < W.heap.size := fun x hx => hW'.lt x hx
  have hsame : ∀ x ∈ p, W.sameAt W' x := by
    intro x hx
    have := hlt x (by simpa using hx)
    cases x with
    | cell b o => exact World.cell?_of_block (w := W) (he.same b this (fun h => h))
    | map b => exact he.same b this (fun h => h)
  have hold : ∀ x ∈ p, (fun b => decide (b < W.heap.size)) x.block = true := fun x hx => by simpa using hlt x (by simpa using hx)
  have hrl : (Value.bool true).resultList fn.resultTypes.size = [.bool true] := by rw [hrt]; rfl
  have hR : ∀ (b : Nat) (sp : Nat → Bool) (hd : Bool), DataW.TrodAll enc P W' b sp hd fn.resultTypes.toList ((Value.bool true).resultList fn.resultTypes.size) (s.fn H (ds ++ [])).results [] := by
    intro b sp hd
    rw [hrl, List.append_nil, hres, hrt]
    exact trodAll_mk1 (shut_bool hb true)
  have hAr : ∀ sp : Nat → Bool, (∀ x ∈ p, sp x.block = true) → DataW.TrodAll enc P W' 0 sp true fn.params.toList args.toList (s.fn H (ds ++ [])).args p := by
    intro sp hsp
    rw [List.append_nil, hargs]
    exact trodAll_stays hl hpar hA hsame hsp
  have hVr : ∀ sp : Nat → Bool, DataW.TrodVars enc P W' sp s.vars (s.fn H (ds ++ [])).vars [] := by
    intro sp
    rw [List.append_nil, hvs, hvars]
    rfl
  refine ⟨ds, [], p ++ [], [], p, [], hW', hR _ _ _, hAr _ hold, hVr _, he.frame _, fun _ => ?_⟩
  refine ⟨ok_one hrt rfl (okWide_bool_mk hb true), _, _, ([] ++ p) ++ [], ⟨[] ++ p, [], trodAll_append (hAr _ (fun _ _ => rfl)) (hR _ _ _), hVr _, rfl, ?_, ?_⟩, ?_⟩
  · intro b off hp
    have hin : MemPlace.cell b off ∈ p ++ [] := by simpa using hp
    have hsz := hlt _ hin
    rw [World.frozen?_of_block (w := W) (he.same b hsz (fun h => h))]
    exact hz b off hin
  · intro ha
    have := hn ha
    simpa using this
  · intro x hx _
    simpa using hx
end reads
theorem law_calls {P : Program} {f : FuncId} {avs : List AV} {W : World} {us : List Value} (h : SpecIs P f avs [] (vB true) []) (hL : Laid W) (ha : ∀ (ρ : Name → Loc) (Hp : Heap), AV.Ts ρ Hp Fixed W avs us) :
    Calls P f us.toArray W fun e W' => e = .returned (.bool true) ∧ Ext Fixed W W' := by
  refine (h W (fun _ => ⟨none, 0⟩) Fixed W us ⟨hL, Nat.le_refl _, fun _ _ => rfl, fun b ⟨n, o, hn, _⟩ => by simp [look] at hn⟩ (fun b hb => hb.elim) (ha _ _) (fun n o h => by simp [look] at h) (fun n m o o' b h => by simp [look] at h)).mono fun e W' ⟨u, v, h', ρ', he, ⟨hv, hh⟩, haft⟩ => ?_
  subst hv; subst hh
  have := haft.val
  simp only [AV.R, PV.R] at this
  obtain ⟨rfl, _⟩ := this
  exact ⟨he, haft.ext.weaken fun b _ ⟨n, o, hn, _⟩ => by simp [look] at hn⟩
end Go.Proofs.YtfhcigjkfelnfaaGreat.AM
/-
  Sets of numbers as ascending lists, in plain Lean: With, sorting, leaving out what comes twice.
-/
set_option linter.unusedSimpArgs false
set_option linter.unusedVariables false
namespace Go.Proofs.YtfhcigjkfelnfaaGreat
open Go AM
def Asc (l : List Int) : Prop := l.Pairwise (· < ·)
theorem asc_ext : ∀ {a b : List Int}, Asc a → Asc b → (∀ x, x ∈ a ↔ x ∈ b) → a = b
  | [], [], _, _, _ => rfl
  | [], y :: b, _, _, h => by have := (h y).2 (List.mem_cons_self ..); simp at this
  | x :: a, [], _, _, h => by have := (h x).1 (List.mem_cons_self ..); simp at this
  | x :: a, y :: b, ha, hb, h => by
    have ha' := List.pairwise_cons.1 ha
    have hb' := List.pairwise_cons.1 hb
    have e : x = y := by
      rcases List.mem_cons.1 ((h x).1 (List.mem_cons_self ..)) with e | hx
      · exact e
      · rcases List.mem_cons.1 ((h y).2 (List.mem_cons_self ..)) with e | hy
        · exact e.symm
        · have h1 := hb'.1 x hx
          have h2 := ha'.1 y hy
          omega
    subst e
    congr 1
    refine asc_ext ha'.2 hb'.2 fun z => ⟨fun hz => ?_, fun hz => ?_⟩
    · have h1 := ha'.1 z hz
      rcases List.mem_cons.1 ((h z).1 (List.mem_cons_of_mem _ hz)) with e | h2
      · omega
      · exact h2
    · have h1 := hb'.1 z hz
      rcases List.mem_cons.1 ((h z).2 (List.mem_cons_of_mem _ hz)) with e | h2
      · omega
      · exact h2
def withI (l : List Int) (x : Int) : Nat → List Int × Bool
  | 0 => ([], false)
  | i + 1 => ((withI l x i).1 ++ (if (withI l x i).2 = false ∧ x ≤ nth l i then [x] else []) ++ (if nth l i ≠ x then [nth l i] else []), (withI l x i).2 || decide (x ≤ nth l i))
def withV (l : List Int) (x : Int) : List Int := if (withI l x l.length).2 = true then (withI l x l.length).1 else (withI l x l.length).1 ++ [x]
theorem asc_nth {l : List Int} (h : Asc l) {i j : Nat} (hij : i < j) (hj : j < l.length) : nth l i < nth l j := by
  have := List.pairwise_iff_getElem.1 h i j (by omega) hj hij
  simpa [nth, List.getD_eq_getElem?_getD, List.getElem?_eq_getElem hj, List.getElem?_eq_getElem (show i < l.length by omega)] using this
theorem mem_take_succ {l : List Int} {i : Nat} (h : i < l.length) (z : Int) : z ∈ l.take (i + 1) ↔ z ∈ l.take i ∨ z = nth l i := by
  rw [List.take_succ_eq_append_getElem h, List.mem_append, List.mem_singleton]
  simp [nth, List.getD_eq_getElem?_getD, List.getElem?_eq_getElem h]
theorem withI_is {l : List Int} {x : Int} (h : Asc l) : ∀ i, i ≤ l.length → Asc (withI l x i).1 ∧ (∀ z, z ∈ (withI l x i).1 ↔ z ∈ l.take i ∧ z ≠ x ∨ (withI l x i).2 = true ∧ z = x) ∧
    ((withI l x i).2 = false → ∀ z ∈ l.take i, z < x) ∧ ((withI l x i).2 = true → ∀ j, i ≤ j → j < l.length → x < nth l j)
  | 0, _ => by simp [withI, Asc]
  | i + 1, hi => by
    obtain ⟨h1, h2, h3, h4⟩ := withI_is h i (by omega)
    have hlt : ∀ z ∈ l.take i, z < nth l i := fun z hz => by
      obtain ⟨j, hj, rfl⟩ := List.getElem_of_mem hz
      rw [List.length_take] at hj
      have := asc_nth h (show j < i by omega) (show i < l.length by omega)
      simpa [nth, List.getD_eq_getElem?_getD, List.getElem?_eq_getElem (show j < l.length by omega)] using this
    simp only [withI]
    cases hd : (withI l x i).2 with
    | true =>
      have hx := h4 hd i (Nat.le_refl _) (by omega)
      rw [if_neg (by simp), if_pos (by omega), List.append_nil]
      refine ⟨?_, fun z => ?_, by simp, fun _ j hj hl => h4 hd j (by omega) hl⟩
      · refine List.pairwise_append.2 ⟨h1, List.pairwise_singleton _ _, fun a ha b hb => ?_⟩
        rw [List.mem_singleton.1 hb]
        rcases (h2 a).1 ha with ⟨g, _⟩ | ⟨_, rfl⟩
        · exact hlt a g
        · exact hx
      · rw [List.mem_append, h2, mem_take_succ (by omega), List.mem_singleton, hd]
        simp only [Bool.true_or, true_and]
        constructor
        · rintro ((⟨g, g'⟩ | g) | g)
          · exact .inl ⟨.inl g, g'⟩
          · exact .inr g
          · exact .inl ⟨.inr g, by omega⟩
        · rintro (⟨g | g, g'⟩ | g)
          · exact .inl (.inl ⟨g, g'⟩)
          · exact .inr g
          · exact .inl (.inr g)
    | false =>
      have hb := h3 hd
      by_cases hx : x ≤ nth l i
      · rw [if_pos ⟨rfl, hx⟩]
        have e : (false || decide (x ≤ nth l i)) = true := by simp [hx]
        rw [e]
        have hm : ∀ z, z ∈ (withI l x i).1 ↔ z ∈ l.take i := fun z => by
          rw [h2, hd]
          refine ⟨fun g => ?_, fun g => .inl ⟨g, by have := hb z g; omega⟩⟩
          rcases g with ⟨g, _⟩ | ⟨g, _⟩
          · exact g
          · simp at g
        refine ⟨?_, fun z => ?_, by simp, fun _ j hj hl => ?_⟩
        · refine List.pairwise_append.2 ⟨List.pairwise_append.2 ⟨h1, List.pairwise_singleton _ _, fun a ha b hb' => ?_⟩, ?_, fun a ha b hb' => ?_⟩
          · rw [List.mem_singleton.1 hb']; exact hb a ((hm a).1 ha)
          · split <;> simp
          · split at hb'
            · rename_i hne
              rw [List.mem_singleton.1 hb']
              rcases List.mem_append.1 ha with ha | ha
              · exact hlt a ((hm a).1 ha)
              · rw [List.mem_singleton.1 ha]; omega
            · simp at hb'
        · rw [List.mem_append, List.mem_append, hm, mem_take_succ (by omega), List.mem_singleton]
          by_cases hne : nth l i ≠ x
          · rw [if_pos hne, List.mem_singleton]
            constructor
            · rintro ((g | g) | g)
              · exact .inl ⟨.inl g, by have := hb z g; omega⟩
              · exact .inr ⟨rfl, g⟩
              · exact .inl ⟨.inr g, by omega⟩
            · rintro (⟨g | g, _⟩ | ⟨_, g⟩)
              · exact .inl (.inl g)
              · exact .inr g
              · exact .inl (.inr g)
          · rw [if_neg hne]
            simp only [List.not_mem_nil, or_false]
            constructor
            · rintro (g | g)
              · exact .inl ⟨.inl g, by have := hb z g; omega⟩
              · exact .inr ⟨trivial, g⟩
            · rintro (⟨g | g, g'⟩ | ⟨_, g⟩)
              · exact .inl g
              · omega
              · exact .inr g
        · have := asc_nth h (show i < j by omega) hl
          omega
      · rw [if_neg (by simp [hx]), if_pos (by omega), List.append_nil]
        have e : (false || decide (x ≤ nth l i)) = false := by simp [hx]
        rw [e]
        refine ⟨?_, fun z => ?_, fun _ z hz => ?_, by simp⟩
        · refine List.pairwise_append.2 ⟨h1, List.pairwise_singleton _ _, fun a ha b hb' => ?_⟩
          rw [List.mem_singleton.1 hb']
          rcases (h2 a).1 ha with ⟨g, _⟩ | ⟨g, _⟩
          · exact hlt a g
          · rw [hd] at g; simp at g
        · rw [List.mem_append, h2, mem_take_succ (by omega), List.mem_singleton, hd]
          simp only [Bool.false_eq_true, false_and, or_false]
          constructor
          · rintro (⟨g, g'⟩ | g)
            · exact ⟨.inl g, g'⟩
            · exact ⟨.inr g, by omega⟩
          · rintro ⟨g | g, g'⟩
            · exact .inl ⟨g, g'⟩
            · exact .inr g
        · rcases (mem_take_succ (show i < l.length by omega) z).1 hz with g | g
          · exact hb z g
          · omega
theorem withV_is {l : List Int} {x : Int} (h : Asc l) : Asc (withV l x) ∧ ∀ z, z ∈ withV l x ↔ z ∈ l ∨ z = x := by
  obtain ⟨h1, h2, h3, h4⟩ := withI_is (x := x) h l.length (Nat.le_refl _)
  rw [List.take_length] at h2 h3
  unfold withV
  split
  · rename_i hd
    refine ⟨h1, fun z => ?_⟩
    rw [h2, hd]
    simp only [true_and]
    by_cases hz : z = x
    · simp [hz]
    · simp [hz]
  · rename_i hd
    have hd : (withI l x l.length).2 = false := by cases hb : (withI l x l.length).2 <;> simp_all
    have hm : ∀ z, z ∈ (withI l x l.length).1 ↔ z ∈ l := fun z => by
      rw [h2, hd]
      refine ⟨fun g => ?_, fun g => .inl ⟨g, by have := h3 hd z g; omega⟩⟩
      rcases g with ⟨g, _⟩ | ⟨g, _⟩
      · exact g
      · simp at g
    refine ⟨List.pairwise_append.2 ⟨h1, List.pairwise_singleton _ _, fun a ha b hb => ?_⟩, fun z => ?_⟩
    · rw [List.mem_singleton.1 hb]; exact h3 hd a ((hm a).1 ha)
    · rw [List.mem_append, hm, List.mem_singleton]
def swapL (l : List Int) (j : Nat) : List Int := (l.set j (nth l (j - 1))).set (j - 1) (nth l j)
theorem swap_len (l : List Int) (j : Nat) : (swapL l j).length = l.length := by simp [swapL]
theorem nth_set {l : List Int} {j k : Nat} {x : Int} (hj : j < l.length) : nth (l.set j x) k = if k = j then x else nth l k := by
  by_cases h : k = j
  · subst h; rw [if_pos rfl]; simp [nth, List.getD_eq_getElem?_getD, hj]
  · rw [if_neg h]; simp [nth, List.getD_eq_getElem?_getD, List.getElem?_set_ne (Ne.symm h)]
theorem nth_swap {l : List Int} {j k : Nat} (h1 : 1 ≤ j) (hj : j < l.length) : nth (swapL l j) k = if k = j - 1 then nth l j else if k = j then nth l (j - 1) else nth l k := by
  unfold swapL
  rw [nth_set (by simp; omega)]
  split
  · rfl
  · rw [nth_set hj]
def SortedTo (l : List Int) (n : Nat) : Prop := ∀ a b, a < b → b < n → nth l a ≤ nth l b
def ButFor (l : List Int) (n j : Nat) : Prop := ∀ a b, a < b → b < n → b ≠ j → nth l a ≤ nth l b
theorem butfor_start {l : List Int} {i : Nat} (h : SortedTo l i) : ButFor l (i + 1) i := fun a b h1 h2 h3 => h a b h1 (by omega)
theorem butfor_step {l : List Int} {n j : Nat} (h : ButFor l n j) (h1 : 1 ≤ j) (hj : j < l.length) (hn : j < n) (hlt : nth l j < nth l (j - 1)) : ButFor (swapL l j) n (j - 1) := by
  intro a b hab hb hne
  rw [nth_swap h1 hj, nth_swap h1 hj, if_neg hne]
  by_cases g1 : b = j
  · subst g1
    rw [if_pos rfl]
    by_cases g2 : a = b - 1
    · rw [if_pos g2]; omega
    · rw [if_neg g2, if_neg (by omega)]
      exact h a (b - 1) (by omega) (by omega) (by omega)
  · rw [if_neg g1]
    by_cases g2 : a = j - 1
    · rw [if_pos g2]; exact h j b (by omega) hb g1
    · rw [if_neg g2]
      by_cases g3 : a = j
      · rw [if_pos g3]; exact h (j - 1) b (by omega) hb g1
      · rw [if_neg g3]; exact h a b hab hb g1
theorem butfor_end {l : List Int} {n j : Nat} (h : ButFor l n j) (he : j = 0 ∨ nth l (j - 1) ≤ nth l j) : SortedTo l n := by
  intro a b hab hb
  by_cases g : b = j
  · subst g
    rcases he with he | he
    · omega
    · by_cases g2 : a = b - 1
      · rw [g2]; exact he
      · have := h a (b - 1) (by omega) (by omega) (by omega); omega
  · exact h a b hab hb g
theorem asc_of {l : List Int} (h : SortedTo l l.length) (hd : ∀ k, 1 ≤ k → k < l.length → nth l (k - 1) ≠ nth l k) : Asc l := by
  refine List.pairwise_iff_getElem.2 fun i j hi hj hij => ?_
  have e : ∀ k (hk : k < l.length), l[k] = nth l k := fun k hk => by simp [nth, List.getD_eq_getElem?_getD, List.getElem?_eq_getElem hk]
  rw [e i hi, e j hj]
  have h1 := hd j (by omega) hj
  have h2 := h (j - 1) j (by omega) hj
  rcases Nat.eq_or_lt_of_le (show i ≤ j - 1 by omega) with g | g
  · rw [g]; omega
  · have := h i (j - 1) g (by omega); omega
end Go.Proofs.YtfhcigjkfelnfaaGreat
/-
  Crews (one zone without rules, schedules of one layer without windows and calendar): who is on call, in plain Lean.
-/
set_option maxRecDepth 100000
set_option linter.unusedSimpArgs false
set_option linter.unusedVariables false
namespace Go.Proofs.YtfhcigjkfelnfaaGreat
open Go AM
structure EditOK (x : D.Edit) : Prop where
  kind : 0 ≤ x.Kind ∧ x.Kind ≤ 2
  a : (0 ≤ x.A ∧ x.A < 4) ∨ (x.Kind = 1 ∧ x.A = -1)
  b : x.Kind = 2 → 0 ≤ x.B ∧ x.B < 4 ∧ x.A ≠ x.B
  b0 : x.Kind ≠ 2 → x.B = 0
  time : 864000 ≤ x.From ∧ x.From < x.To ∧ x.To < 950400
structure LayerOK (l : D.Layer) : Prop where
  name : l.Name = ByteArray.mk #[108]
  zone : l.Zone = 0
  day : l.Start.Day = 1 ∨ l.Start.Day = 9 ∨ l.Start.Day = 10
  second : 0 ≤ l.Start.Second ∧ l.Start.Second ≤ 43200
  unit : l.Unit = 0 ∨ l.Unit = 1
  every : 1 ≤ l.Every ∧ l.Every ≤ 3
  len : 1 ≤ l.Members.length ∧ l.Members.length ≤ 3
  mem : ∀ x ∈ l.Members, 0 ≤ x ∧ x < 4
  win : l.Windows = []
  cal : l.Calendar = 0 ∧ l.Mode = 0
structure PersonOK (p : D.Person) : Prop where
  zone : p.Zone = 0
  max : p.MaxWeek = 0 ∧ p.MinRest = 0
  quiet : p.Quiet = [] ∨ ∃ a b, p.Quiet = [⟨a, b⟩] ∧ (a = 0 ∨ a = 3600) ∧ (b = 7200 ∨ b = 86400 ∨ b = 604800)
structure SchedOK (n : Nat) (s : D.Schedule) : Prop where
  layers : ∃ l, s.Layers = [l] ∧ LayerOK l
  len : s.Edits.length ≤ n
  edit : ∀ x ∈ s.Edits, EditOK x
def bZ : ByteArray := ByteArray.mk #[122]
def crewNames : List ByteArray := [ByteArray.mk #[97, 110, 110], ByteArray.mk #[98, 111, 98], ByteArray.mk #[99, 97, 116], ByteArray.mk #[100, 97, 110]]
def schNames : List ByteArray := [ByteArray.mk #[102, 105, 114, 115, 116], ByteArray.mk #[115, 101, 99, 111, 110, 100]]
structure CfgOK (n : Nat) (c : D.Config) : Prop where
  zone : ∃ off, c.Zones = [⟨bZ, off, []⟩] ∧ (off = 0 ∨ off = 3600 ∨ off = -7200)
  pname : c.People.map (·.Name) = crewNames
  person : ∀ p ∈ c.People, PersonOK p
  cal : c.Calendars = []
  sname : c.Schedules.map (·.Name) = schNames
  sched : ∀ s ∈ c.Schedules, SchedOK n s
theorem CfgOK.plen {n : Nat} {c : D.Config} (h : CfgOK n c) : c.People.length = 4 := by
  have := congrArg List.length h.pname; simpa [crewNames] using this
theorem CfgOK.slen {n : Nat} {c : D.Config} (h : CfgOK n c) : c.Schedules.length = 2 := by
  have := congrArg List.length h.sname; simpa [schNames] using this
theorem CfgOK.mono {n m : Nat} {c : D.Config} (h : CfgOK n c) (hm : n ≤ m) : CfgOK m c :=
  ⟨h.zone, h.pname, h.person, h.cal, h.sname, fun s hs => ⟨(h.sched s hs).layers, Nat.le_trans (h.sched s hs).len hm, (h.sched s hs).edit⟩⟩
def offOf (c : D.Config) : Int := (nth c.Zones 0).Offset
theorem CfgOK.zones {n : Nat} {c : D.Config} (h : CfgOK n c) : c.Zones = [⟨bZ, offOf c, []⟩] ∧ (offOf c = 0 ∨ offOf c = 3600 ∨ offOf c = -7200) := by
  obtain ⟨off, h1, h2⟩ := h.zone
  have : offOf c = off := by unfold offOf; rw [h1]; rfl
  rw [this]; exact ⟨h1, h2⟩
def unitS (l : D.Layer) : Int := if l.Unit = 0 then 3600 else 86400
def spanS (l : D.Layer) : Int := unitS l * l.Every
def firstS (off : Int) (l : D.Layer) : Int := l.Start.Day * 86400 + l.Start.Second - off
def handS (off : Int) (l : D.Layer) (k : Int) : Int := firstS off l + spanS l * k
def shiftV (off : Int) (l : D.Layer) (t : Int) : Int := if t < firstS off l then -1 else (t - firstS off l) / spanS l
theorem spanS_in {l : D.Layer} (h : LayerOK l) : 3600 ≤ spanS l ∧ spanS l ≤ 259200 := by
  have h2 := h.every
  have h1 := h.unit
  unfold spanS unitS
  split <;> omega
theorem firstS_in {off : Int} {l : D.Layer} (h : LayerOK l) (ho : off = 0 ∨ off = 3600 ∨ off = -7200) : 0 < firstS off l ∧ firstS off l ≤ 1000000 := by
  have h1 := h.day
  have h2 := h.second
  unfold firstS; omega
theorem shift_is {off : Int} {l : D.Layer} {t k : Int} (h : LayerOK l) (h0 : 0 ≤ k) (h1 : handS off l k ≤ t) (h2 : t < handS off l (k + 1)) : shiftV off l t = k := by
  have hs := (spanS_in h).1
  unfold handS at h1 h2
  rw [Int.mul_add, Int.mul_one] at h2
  have h3 : 0 ≤ spanS l * k := Int.mul_nonneg (by omega) h0
  unfold shiftV
  rw [if_neg (by omega)]
  have h4 : k ≤ (t - firstS off l) / spanS l := (Int.le_ediv_iff_mul_le (by omega)).2 (by rw [Int.mul_comm]; omega)
  have h5 : (t - firstS off l) / spanS l < k + 1 := (Int.ediv_lt_iff_lt_mul (by omega)).2 (by rw [Int.mul_comm, Int.mul_add, Int.mul_one]; omega)
  omega
theorem shift_no {off : Int} {l : D.Layer} {t : Int} (h : t < handS off l 0) : shiftV off l t = -1 := by
  unfold handS at h; rw [Int.mul_zero, Int.add_zero] at h
  unfold shiftV; rw [if_pos h]
theorem shift_at {off : Int} {l : D.Layer} {t : Int} (h : LayerOK l) (h0 : firstS off l ≤ t) : 0 ≤ shiftV off l t ∧ handS off l (shiftV off l t) ≤ t ∧ t < handS off l (shiftV off l t + 1) := by
  have hs := (spanS_in h).1
  have e : shiftV off l t = (t - firstS off l) / spanS l := by unfold shiftV; rw [if_neg (by omega)]
  have h1 := Int.mul_ediv_add_emod (t - firstS off l) (spanS l)
  have h2 := Int.emod_nonneg (t - firstS off l) (b := spanS l) (by omega)
  have h3 := Int.emod_lt_of_pos (t - firstS off l) (b := spanS l) (by omega)
  have h4 : 0 ≤ (t - firstS off l) / spanS l := Int.ediv_nonneg (by omega) (by omega)
  rw [e]
  unfold handS
  rw [Int.mul_add, Int.mul_one]
  omega
theorem shiftV_le {off : Int} {l : D.Layer} {t : Int} (h : LayerOK l) (ho : off = 0 ∨ off = 3600 ∨ off = -7200) (ht : t ≤ 8589934592) : -1 ≤ shiftV off l t ∧ shiftV off l t ≤ 8589934592 := by
  by_cases h0 : firstS off l ≤ t
  · have h1 := shift_at h h0
    have h2 := (spanS_in h).1
    have h3 := (firstS_in h ho).1
    have h4 : 3600 * shiftV off l t ≤ spanS l * shiftV off l t := Int.mul_le_mul_of_nonneg_right h2 h1.1
    unfold handS at h1
    omega
  · unfold shiftV; rw [if_pos (by omega)]; omega
def dutyV (off : Int) (l : D.Layer) (t : Int) : Int := if shiftV off l t < 0 then -1 else nth l.Members ((shiftV off l t).toNat % l.Members.length)
theorem dutyV_in {off : Int} {l : D.Layer} {t : Int} (h : LayerOK l) : -1 ≤ dutyV off l t ∧ dutyV off l t < 4 := by
  unfold dutyV
  split
  · omega
  · have hl := h.len
    have := h.mem (nth l.Members ((shiftV off l t).toNat % l.Members.length)) (nth_mem (Nat.mod_lt _ (by omega)))
    omega
def awayX (p t : Int) (x : D.Edit) : Bool := decide (x.Kind = 0) && decide (x.A = p) && decide (x.From ≤ t) && decide (t < x.To)
def awayV (es : List D.Edit) (p t : Int) : Bool := es.any (awayX p t)
def foldS (t : Int) (p : Int) (x : D.Edit) : Int :=
  if ¬ (x.From ≤ t ∧ t < x.To) ∨ x.Kind = 0 then p else if x.Kind = 1 then x.A else if x.Kind ≠ 2 then p else if p = x.A then x.B else if p = x.B then x.A else p
def foldV (es : List D.Edit) (p t : Int) : Int := es.foldl (foldS t) p
theorem foldS_in {p t : Int} {x : D.Edit} (h : EditOK x) (hp : -1 ≤ p ∧ p < 4) : -1 ≤ foldS t p x ∧ foldS t p x < 4 := by
  have ha := h.a
  have hb := h.b
  unfold foldS
  repeat' split
  all_goals omega
theorem foldV_in {t : Int} : ∀ {es : List D.Edit} {p : Int}, (∀ x ∈ es, EditOK x) → (-1 ≤ p ∧ p < 4) → -1 ≤ foldV es p t ∧ foldV es p t < 4
  | [], p, _, hp => hp
  | x :: es, p, h, hp => foldV_in (es := es) (fun y hy => h y (List.mem_cons_of_mem _ hy)) (foldS_in (h x (List.mem_cons_self ..)) hp)
theorem foldV_snoc {es : List D.Edit} {p t : Int} {k : Nat} (hk : k < es.length) : foldV (es.take (k + 1)) p t = foldS t (foldV (es.take k) p t) (nth es k) := by
  unfold foldV
  rw [List.take_succ_eq_append_getElem hk, List.foldl_append]
  simp [nth, List.getD_eq_getElem?_getD, List.getElem?_eq_getElem hk]
def layP (off : Int) (s : D.Schedule) (t : Int) : Int := if 0 ≤ dutyV off (nth s.Layers 0) t ∧ awayV s.Edits (dutyV off (nth s.Layers 0) t) t = false then dutyV off (nth s.Layers 0) t else -1
def whoS (off : Int) (s : D.Schedule) (t : Int) : Int := foldV s.Edits (layP off s t) t
def whoV (c : D.Config) (i t : Int) : Int := if 0 ≤ i ∧ i < 2 ∧ 0 ≤ t ∧ t ≤ 8589934592 then whoS (offOf c) (nth c.Schedules i.toNat) t else -1
theorem layP_in {n : Nat} {off : Int} {s : D.Schedule} {t : Int} (h : SchedOK n s) : -1 ≤ layP off s t ∧ layP off s t < 4 := by
  obtain ⟨l, h1, h2⟩ := h.layers
  have := dutyV_in (off := off) (t := t) h2
  unfold layP
  rw [h1, show nth [l] 0 = l from rfl]
  split <;> omega
theorem whoV_in {n : Nat} {c : D.Config} (h : CfgOK n c) {i t : Int} : -1 ≤ whoV c i t ∧ whoV c i t < 4 := by
  unfold whoV
  split
  · have hs := h.sched (nth c.Schedules i.toNat) (nth_mem (by rw [h.slen]; omega))
    exact foldV_in hs.edit (layP_in hs)
  · omega
theorem hand_day {off : Int} {l : D.Layer} {k n : Int} (hs : spanS l = 86400 * n) : (l.Start.Day + k * n) * 86400 + l.Start.Second - off = handS off l k := by
  unfold handS firstS
  rw [hs, Int.mul_assoc, Int.add_mul, Int.mul_comm k n, Int.mul_comm (n * k) 86400]
  omega
theorem span_days {l : D.Layer} (h : l.Unit = 1) : spanS l = 86400 * l.Every := by unfold spanS unitS; rw [if_neg (by omega)]
theorem span_hours {l : D.Layer} (h : l.Unit = 0) : spanS l = 3600 * l.Every := by unfold spanS unitS; rw [if_pos h]
def meantV (c : D.Config) (b : D.Book) (x : D.Target) (t : Int) : List Int :=
  if x.Kind = 0 then [x.Index] else if x.Kind = 1 then (if whoV c x.Index t < 0 then [] else [whoV c x.Index t]) else
    if x.Kind = 2 ∧ 0 ≤ x.Index ∧ x.Index < (b.Teams.length : Int) then (nth b.Teams x.Index.toNat).Members else []
def Means (c : D.Config) (b : D.Book) (l : List D.Target) (t z : Int) : Prop := 0 ≤ z ∧ z < 4 ∧ ∃ x ∈ l, z ∈ meantV c b x t
def secondOf (off t : Int) : Int := ((t + off) / 86400 + 3) % 7 * 86400 + (t + off) % 86400
def quietV (ws : List D.Window) (s : Int) : Bool := ws.any fun w => decide (w.From ≤ s) && decide (s < w.To)
def reachV (c : D.Config) (p t : Int) (urgent : Bool) : Bool :=
  decide (0 ≤ p ∧ p < 4 ∧ 0 ≤ t ∧ t ≤ 8589934592) && (urgent && (nth c.People p.toNat).Consent || !quietV (nth c.People p.toNat).Quiet (secondOf (offOf c) t))
end Go.Proofs.YtfhcigjkfelnfaaGreat
/-
  Pages on their way through their policies, in plain Lean: what steps, runs and answers make of them.
-/
set_option maxRecDepth 100000
set_option linter.unusedSimpArgs false
set_option linter.unusedVariables false
namespace Go.Proofs.YtfhcigjkfelnfaaGreat
open Go AM
def bTeams : List ByteArray := [ByteArray.mk #[99, 111, 114, 101], ByteArray.mk #[119, 101, 98]]
def bPols : List ByteArray := [ByteArray.mk #[112], ByteArray.mk #[113], ByteArray.mk #[114]]
structure TeamOK (t : D.Team) : Prop where
  asc : Asc t.Members
  len : 1 ≤ t.Members.length ∧ t.Members.length ≤ 2
  mem : ∀ x ∈ t.Members, 0 ≤ x ∧ x < 4
structure TargetOK (n : Nat) (t : D.Target) : Prop where
  kind : t.Kind = 0 ∨ t.Kind = 1 ∨ t.Kind = 2
  lo : 0 ≤ t.Index
  person : t.Kind = 0 → t.Index < 4
  sched : t.Kind = 1 → t.Index < 2
  team : t.Kind = 2 → t.Index < (n : Int)
structure StepOK' (n : Nat) (s : D.PolicyStep) : Prop where
  wait : 0 ≤ s.Wait ∧ s.Wait ≤ 900
  len : s.Targets.length ≤ 2
  target : ∀ t ∈ s.Targets, TargetOK n t
structure PolOK (n : Nat) (p : D.Policy) : Prop where
  rep : 0 ≤ p.Repeat ∧ p.Repeat ≤ 2
  len : 1 ≤ p.Steps.length ∧ p.Steps.length ≤ 3
  step : ∀ s ∈ p.Steps, StepOK' n s
structure BookOK (b : D.Book) : Prop where
  tlen : b.Teams.length ≤ 2
  tname : b.Teams.map (·.Name) = bTeams.take b.Teams.length
  team : ∀ t ∈ b.Teams, TeamOK t
  plen : 1 ≤ b.Policies.length ∧ b.Policies.length ≤ 3
  pname : b.Policies.map (·.Name) = bPols.take b.Policies.length
  pol : ∀ p ∈ b.Policies, PolOK b.Teams.length p
def countV (p : D.Policy) : Int := if 0 ≤ p.Repeat ∧ p.Repeat ≤ 8 ∧ p.Steps.length ≤ 8 then (p.Steps.length : Int) * (p.Repeat + 1) else 0
theorem countV_is {n : Nat} {p : D.Policy} (h : PolOK n p) : countV p = (p.Steps.length : Int) * (p.Repeat + 1) ∧ 1 ≤ countV p ∧ countV p ≤ 9 := by
  have h1 := h.rep
  have h2 := h.len
  have e : countV p = (p.Steps.length : Int) * (p.Repeat + 1) := by unfold countV; rw [if_pos (by omega)]
  refine ⟨e, ?_⟩
  rw [e]
  have h3 : p.Repeat = 0 ∨ p.Repeat = 1 ∨ p.Repeat = 2 := by omega
  rcases h3 with h3 | h3 | h3 <;> rw [h3] <;> omega
def peopleV (c : D.Config) (b : D.Book) (l : List D.Target) (t : Int) : List Int := ([0, 1, 2, 3] : List Int).filter fun z => l.any fun x => (meantV c b x t).contains z
theorem peopleV_mem {c : D.Config} {b : D.Book} {l : List D.Target} {t z : Int} : z ∈ peopleV c b l t ↔ Means c b l t z := by
  unfold peopleV Means
  simp only [List.mem_filter, List.any_eq_true, List.contains_iff_mem, List.mem_cons, List.not_mem_nil, or_false]
  constructor
  · rintro ⟨h, x, hx⟩; exact ⟨by omega, by omega, x, hx⟩
  · rintro ⟨h1, h2, x, hx⟩; exact ⟨by omega, x, hx⟩
theorem asc4 : Asc [0, 1, 2, 3] := by unfold Asc; decide
theorem peopleV_asc {c : D.Config} {b : D.Book} {l : List D.Target} {t : Int} : Asc (peopleV c b l t) := List.Pairwise.filter _ asc4
theorem peopleV_len {c : D.Config} {b : D.Book} {l : List D.Target} {t : Int} : (peopleV c b l t).length ≤ 4 := List.length_filter_le _ _
theorem peopleV_is {c : D.Config} {b : D.Book} {l : List D.Target} {t : Int} {r : List Int} (h : Asc r) (hm : ∀ z, z ∈ r ↔ Means c b l t z) : r = peopleV c b l t :=
  asc_ext h peopleV_asc fun z => (hm z).trans peopleV_mem.symm
def callV (c : D.Config) (b : D.Book) (s : D.PolicyStep) (t : Int) : List Int := (peopleV c b s.Targets t).filter fun z => reachV c z t s.Urgent
theorem callV_asc {c : D.Config} {b : D.Book} {s : D.PolicyStep} {t : Int} : Asc (callV c b s t) := List.Pairwise.filter _ peopleV_asc
theorem callV_len {c : D.Config} {b : D.Book} {s : D.PolicyStep} {t : Int} : (callV c b s t).length ≤ 4 := Nat.le_trans (List.length_filter_le _ _) peopleV_len
theorem callV_mem {c : D.Config} {b : D.Book} {s : D.PolicyStep} {t z : Int} : z ∈ callV c b s t → 0 ≤ z ∧ z < 4 := fun h => by
  have := peopleV_mem.1 (List.mem_filter.1 h).1
  exact ⟨this.1, this.2.1⟩
def polOf (b : D.Book) (p : D.Page) : D.Policy := nth b.Policies p.Policy.toNat
def dueV (p : D.Page) : Int × Bool := if p.State = 0 then (p.Due, true) else if p.State = 2 then (p.Until, true) else (0, false)
def calledV (p : D.Page) : List Int := if p.Starts = [] then [] else (nth p.Starts (p.Starts.length - 1)).People
def setF (n : Int) : Int → List Int → Bool
  | _, [] => true
  | k, x :: r => decide (0 ≤ x) && decide (x < n) && decide (k < x) && setF n x r
def setV (l : List Int) : Bool := setF 32 (-1) l
def startsF (next : Int) : Int → Int → List D.Start → Bool
  | _, _, [] => true
  | k, t, x :: r => decide (t ≤ x.At) && (decide (x.K = -1) || decide (0 ≤ x.K) && decide (k < x.K) && decide (x.K < next)) && setV x.People && startsF next (max k x.K) x.At r
def startsV (p : D.Page) : Bool := startsF p.Next (-1) p.Start p.Starts && decide (p.Starts.length ≤ 200)
def seenV (l : List Int) : Bool := decide l.Nodup && decide (l.length ≤ 64)
def waitsV (p : D.Policy) : Bool := p.Steps.all fun s => decide (0 ≤ s.Wait) && decide (s.Wait ≤ 86400)
def farV : Int := 17179869184
def inV (n lo hi : Int) : Bool := decide (lo ≤ n) && decide (n ≤ hi)
def checkV (b : D.Book) (p : D.Page) : Bool :=
  inV p.ID 1 999999 && inV p.Policy 0 ((b.Policies.length : Int) - 1) && inV p.Start 0 8589934592 && waitsV (polOf b p) && inV p.Next 0 (countV (polOf b p)) &&
  inV p.State 0 4 && inV p.By (-1) 31 && inV p.Last p.Start farV && inV p.Due 0 farV && inV p.Until 0 farV && inV p.Snoozes 0 4 && inV p.Hands 0 4 && startsV p && setV p.Declined && seenV p.Seen
def page0 : D.Page := D.Page.mk 0 0 0 0 0 0 0 0 0 0 0 [] [] []
def stepAt (b : D.Book) (p : D.Page) : D.PolicyStep := nth (polOf b p).Steps (p.Next % ((polOf b p).Steps.length : Int)).toNat
def stepQ (c : D.Config) (b : D.Book) (p : D.Page) : D.Page :=
  if p.State = 2 then { p with State := 0, Due := p.Until, Last := max p.Until p.Last }
  else if countV (polOf b p) ≤ p.Next then { p with State := 3, Last := max p.Due p.Last }
  else { p with Last := max p.Due p.Last, Starts := p.Starts ++ [⟨p.Next, p.Due, callV c b (stepAt b p) p.Due⟩], Declined := [], Next := p.Next + 1,
                Due := if callV c b (stepAt b p) p.Due = [] then p.Due else p.Due + (stepAt b p).Wait }
def stepV (c : D.Config) (b : D.Book) (p : D.Page) : D.Page × Int :=
  if checkV b p = false then (page0, 8) else if (dueV p).2 = false then (page0, 9) else if p.Starts.length = 200 then (page0, 5) else (stepQ c b p, 0)
def waitB (p : D.Page) (now : Int) : Bool := (dueV p).2 && decide ((dueV p).1 ≤ now)
def runN (c : D.Config) (b : D.Book) (now : Int) : Nat → D.Page → D.Page × Int
  | 0, p => (p, 0)
  | n + 1, p => if waitB p now = true then (if (stepV c b p).2 ≠ 0 then (page0, (stepV c b p).2) else runN c b now n (stepV c b p).1) else (p, 0)
def runV (c : D.Config) (b : D.Book) (p : D.Page) (now : Int) : D.Page × Int := if checkV b p = false then (page0, 8) else runN c b now 100 p
def validV (a : D.Answer) : Bool :=
  inV a.ID 1 999999 && inV a.Page 1 999999 && inV a.Person (-1) 31 && inV a.At 0 8589934592 && inV a.Kind 1 5 && (if a.Kind = 3 then inV a.Arg 1 86400 else if a.Kind = 4 then inV a.Arg 0 31 else decide (a.Arg = 0))
def refusedV (p : D.Page) (a : D.Answer) : Int :=
  if a.At < p.Last ∨ waitB p a.At = true then 6
  else if p.State = 4 ∨ (p.State = 3 ∧ a.Kind ≠ 5) ∨ (p.State = 1 ∧ a.Kind = 2) then 9
  else if p.Seen.length = 64 ∨ (a.Kind = 3 ∧ p.Snoozes = 4) ∨ (a.Kind = 4 ∧ (p.Hands = 4 ∨ p.Starts.length = 200)) then 5 else 0
def plusV (l : List Int) (x : Int) : List Int := l.filter (fun z => decide (z < x)) ++ x :: l.filter (fun z => decide (x < z))
def declQ (p : D.Page) (a : D.Answer) : List Int := if (calledV p).contains a.Person = true then plusV p.Declined a.Person else p.Declined
def allDown (p : D.Page) (a : D.Answer) : Bool := decide (calledV p ≠ []) && (calledV p).all fun z => (declQ p a).contains z
def answerQ (p : D.Page) (a : D.Answer) : D.Page :=
  if a.Kind = 1 then (if p.State = 1 then { p with Seen := p.Seen ++ [a.ID] } else { p with Seen := p.Seen ++ [a.ID], Last := a.At, State := 1, By := a.Person })
  else if a.Kind = 2 then { p with Seen := p.Seen ++ [a.ID], Last := a.At, Declined := declQ p a, Due := if allDown p a = true ∧ p.State = 0 then a.At else p.Due }
  else if a.Kind = 3 then { p with Seen := p.Seen ++ [a.ID], Last := a.At, State := 2, By := a.Person, Until := a.At + a.Arg, Snoozes := p.Snoozes + 1 }
  else if a.Kind = 4 then { p with Seen := p.Seen ++ [a.ID], Last := a.At, State := 0, Due := a.At + 600, Hands := p.Hands + 1, Declined := [], Starts := p.Starts ++ [⟨-1, a.At, [a.Arg]⟩] }
  else { p with Seen := p.Seen ++ [a.ID], Last := a.At, State := 4, By := a.Person }
def answerV (b : D.Book) (p : D.Page) (a : D.Answer) : D.Page × Int :=
  if checkV b p = false ∨ validV a = false then (page0, 8) else if a.Page ≠ p.ID then (page0, 3) else if p.Seen.contains a.ID = true then (p, 0)
  else if refusedV p a ≠ 0 then (page0, refusedV p a) else (answerQ p a, 0)
end Go.Proofs.YtfhcigjkfelnfaaGreat
/-
  What holds of pages on their way, in plain Lean: invariants of steps, runs and answers.
-/
set_option maxRecDepth 100000
set_option linter.unusedSimpArgs false
set_option linter.unusedVariables false
namespace Go.Proofs.YtfhcigjkfelnfaaGreat
open Go AM
inductive Goes (Q : D.Start → Prop) (st : Int) : List D.Start → Int → Int → Int → Prop
  | nil : Goes Q st [] 0 st 0
  | step {l k t h a P} : Goes Q st l k t h → t ≤ a → (l = [] → a = st) → setV P = true → Q ⟨k, a, P⟩ → Goes Q st (l ++ [⟨k, a, P⟩]) (k + 1) a h
  | hand {l k t h a x} : Goes Q st l k t h → t ≤ a → l ≠ [] → 0 ≤ x → x ≤ 31 → Goes Q st (l ++ [⟨-1, a, [x]⟩]) k a (h + 1)
section
variable {Q : D.Start → Prop} {st k t h : Int} {l : List D.Start}
theorem Goes.pos (g : Goes Q st l k t h) : 0 ≤ k ∧ 0 ≤ h ∧ (l.length : Int) = k + h ∧ st ≤ t := by
  induction g with
  | nil => simp
  | step g h1 _ _ _ ih => simp only [List.length_append, List.length_cons, List.length_nil]; omega
  | hand g h1 _ _ _ ih => simp only [List.length_append, List.length_cons, List.length_nil]; omega
def kF : Int → List D.Start → Int
  | k, [] => k
  | k, x :: r => kF (max k x.K) r
def tF : Int → List D.Start → Int
  | t, [] => t
  | t, x :: r => tF x.At r
theorem kF_snoc {x : D.Start} : ∀ {l : List D.Start} {k : Int}, kF k (l ++ [x]) = max (kF k l) x.K
  | [], _ => rfl
  | y :: l, k => kF_snoc (l := l) (k := max k y.K)
theorem tF_snoc {x : D.Start} : ∀ {l : List D.Start} {t : Int}, tF t (l ++ [x]) = x.At
  | [], _ => rfl
  | y :: l, t => tF_snoc (l := l) (t := y.At)
theorem startsF_snoc {nx : Int} {x : D.Start} : ∀ {l : List D.Start} {k t : Int}, startsF nx k t (l ++ [x]) = (startsF nx k t l &&
    (decide (tF t l ≤ x.At) && (decide (x.K = -1) || decide (0 ≤ x.K) && decide (kF k l < x.K) && decide (x.K < nx)) && setV x.People))
  | [], k, t => by
    show (_ && true) = (true && _)
    rw [Bool.and_true, Bool.true_and]; rfl
  | y :: l, k, t => by
    rw [List.cons_append, startsF, startsF_snoc (l := l), startsF, kF, tF]
    simp only [Bool.and_assoc]
theorem setV_one {x : Int} (h0 : 0 ≤ x) (h1 : x ≤ 31) : setV [x] = true := by
  unfold setV setF setF; simp; omega
theorem Goes.fit (g : Goes Q st l k t h) : kF (-1) l = k - 1 ∧ tF st l = t ∧ ∀ nx, k ≤ nx → startsF nx (-1) st l = true := by
  induction g with
  | nil => exact ⟨rfl, rfl, fun _ _ => rfl⟩
  | step g h1 h2 h3 h4 ih =>
    obtain ⟨i1, i2, i3⟩ := ih
    have hp := g.pos
    refine ⟨by rw [kF_snoc, i1]; dsimp only; omega, tF_snoc, fun nx hn => ?_⟩
    rw [startsF_snoc, i3 nx (by omega), i1, i2]
    simp only [h3, Bool.true_and, Bool.and_true, Bool.and_eq_true, Bool.or_eq_true, decide_eq_true_eq]
    omega
  | hand g h1 h2 h3 h4 ih =>
    obtain ⟨i1, i2, i3⟩ := ih
    have hp := g.pos
    refine ⟨by rw [kF_snoc, i1]; dsimp only; omega, tF_snoc, fun nx hn => ?_⟩
    rw [startsF_snoc, i3 nx hn, i1, i2, setV_one h3 h4]
    simp [h1]
end
theorem setF_is {n : Int} : ∀ {l : List Int} {k : Int}, setF n k l = true ↔ Asc l ∧ ∀ x ∈ l, 0 ≤ x ∧ x < n ∧ k < x
  | [], k => by simp [setF, Asc]
  | y :: l, k => by
    rw [setF]
    simp only [Bool.and_eq_true, decide_eq_true_eq, setF_is (l := l), Asc, List.pairwise_cons, List.mem_cons, forall_eq_or_imp]
    constructor
    · rintro ⟨⟨⟨h1, h2⟩, h3⟩, h4, h5⟩
      exact ⟨⟨fun z hz => (h5 z hz).2.2, h4⟩, ⟨h1, h2, h3⟩, fun z hz => ⟨(h5 z hz).1, (h5 z hz).2.1, by have := (h5 z hz).2.2; omega⟩⟩
    · rintro ⟨⟨h1, h2⟩, ⟨h3, h4, h5⟩, h6⟩
      exact ⟨⟨⟨h3, h4⟩, h5⟩, h2, fun z hz => ⟨(h6 z hz).1, (h6 z hz).2.1, h1 z hz⟩⟩
theorem setV_is {l : List Int} : setV l = true ↔ Asc l ∧ ∀ x ∈ l, 0 ≤ x ∧ x < 32 := by
  unfold setV; rw [setF_is]
  constructor
  · rintro ⟨h1, h2⟩; exact ⟨h1, fun x hx => ⟨(h2 x hx).1, (h2 x hx).2.1⟩⟩
  · rintro ⟨h1, h2⟩; exact ⟨h1, fun x hx => ⟨(h2 x hx).1, (h2 x hx).2, by have := h2 x hx; omega⟩⟩
theorem setV_call {c : D.Config} {b : D.Book} {s : D.PolicyStep} {t : Int} : setV (callV c b s t) = true :=
  setV_is.2 ⟨callV_asc, fun x hx => by have := callV_mem hx; omega⟩
theorem plusV_is {l : List Int} {x : Int} (h : Asc l) : Asc (plusV l x) ∧ ∀ z, z ∈ plusV l x ↔ z ∈ l ∨ z = x := by
  unfold plusV
  refine ⟨?_, fun z => ?_⟩
  · refine List.pairwise_append.2 ⟨List.Pairwise.filter _ h, List.pairwise_cons.2 ⟨fun a ha => ?_, List.Pairwise.filter _ h⟩, fun a ha b hb => ?_⟩
    · simpa using (List.mem_filter.1 ha).2
    · have h1 : a < x := by simpa using (List.mem_filter.1 ha).2
      rcases List.mem_cons.1 hb with rfl | hb
      · exact h1
      · have h2 : x < b := by simpa using (List.mem_filter.1 hb).2
        omega
  · simp only [List.mem_append, List.mem_cons, List.mem_filter, decide_eq_true_eq]
    constructor
    · rintro (⟨h1, _⟩ | h1 | ⟨h1, _⟩)
      · exact .inl h1
      · exact .inr h1
      · exact .inl h1
    · rintro (h1 | h1)
      · rcases Int.lt_trichotomy z x with h2 | h2 | h2
        · exact .inl ⟨h1, h2⟩
        · exact .inr (.inl h2)
        · exact .inr (.inr ⟨h1, h2⟩)
      · exact .inr (.inl h1)
theorem plusV_old {l : List Int} {x : Int} (h : Asc l) (hx : x ∈ l) : plusV l x = l :=
  asc_ext (plusV_is h).1 h fun z => by rw [(plusV_is h).2]; exact ⟨fun g => g.elim id (fun e => e ▸ hx), .inl⟩
theorem due_state {p : D.Page} (hd : (dueV p).2 = true) : p.State = 0 ∨ p.State = 2 := by
  unfold dueV at hd
  split at hd
  · exact .inl ‹_›
  · split at hd
    · exact .inr ‹_›
    · simp at hd
structure PageInv (Q : Int → D.Start → Prop) (M : Int) (b : D.Book) (p : D.Page) : Prop where
  top : M ≤ 8000000000
  id : 1 ≤ p.ID ∧ p.ID ≤ 999999
  pol : 0 ≤ p.Policy ∧ p.Policy < (b.Policies.length : Int)
  start : 0 ≤ p.Start ∧ p.Start ≤ M - 20000
  goes : ∃ t, Goes (Q p.Policy) p.Start p.Starts p.Next t p.Hands ∧ t ≤ p.Last ∧ (p.State = 0 → t ≤ p.Due) ∧ (p.State = 2 → t ≤ p.Until)
  next : p.Next ≤ countV (polOf b p)
  state : 0 ≤ p.State ∧ p.State ≤ 4
  by_ : -1 ≤ p.By ∧ p.By ≤ 31
  last : p.Last ≤ M
  due : 0 ≤ p.Due ∧ p.Due ≤ M
  until_ : 0 ≤ p.Until ∧ p.Until ≤ M
  dueO : p.State = 0 → p.Due + 900 * (countV (polOf b p) - p.Next) ≤ M
  untilS : p.State = 2 → p.Until + 900 * (countV (polOf b p) - p.Next) ≤ M
  snoozes : 0 ≤ p.Snoozes ∧ p.Snoozes ≤ 4
  hands : p.Hands ≤ 4
  first : p.Starts = [] → p.State = 0 ∧ p.Due = p.Start
  ended : p.State = 3 → p.Next = countV (polOf b p)
  declined : setV p.Declined = true
  seen : seenV p.Seen = true
section
variable {Q : Int → D.Start → Prop} {M : Int} {b : D.Book} {p : D.Page}
theorem PageInv.polOK (h : PageInv Q M b p) (hb : BookOK b) : PolOK b.Teams.length (polOf b p) := hb.pol _ (nth_mem (by have := h.pol; omega))
theorem PolOK.waits {n : Nat} {q : D.Policy} (h : PolOK n q) : waitsV q = true := by
  unfold waitsV
  refine List.all_eq_true.2 fun s hs => ?_
  have := (h.step s hs).wait
  simp; omega
theorem inV_is {n lo hi : Int} : inV n lo hi = true ↔ lo ≤ n ∧ n ≤ hi := by simp [inV]
theorem PageInv.len (h : PageInv Q M b p) (hb : BookOK b) : p.Starts.length ≤ 13 ∧ 0 ≤ p.Next ∧ 0 ≤ p.Hands := by
  obtain ⟨t, h1, _⟩ := h.goes
  have h2 := h1.pos
  have h3 := countV_is (h.polOK hb)
  have h4 := h.next
  have h5 := h.hands
  omega
theorem PageInv.check (h : PageInv Q M b p) (hb : BookOK b) : checkV b p = true := by
  obtain ⟨t, h1, h2, _⟩ := h.goes
  have h3 := h1.pos
  have h4 := h1.fit
  have h5 := h.len hb
  have g0 := h.top; have g1 := h.id; have g2 := h.pol; have g3 := h.start; have g4 := h.next; have g5 := h.state; have g6 := h.by_; have g7 := h.last; have g8 := h.due; have g9 := h.until_; have g10 := h.snoozes; have g11 := h.hands
  unfold checkV startsV farV
  rw [h4.2.2 _ (Int.le_refl _), h.declined, h.seen, (h.polOK hb).waits]
  simp only [Bool.and_true, Bool.true_and, Bool.and_eq_true, inV_is, decide_eq_true_eq]
  omega
theorem PageInv.mono {Q' : Int → D.Start → Prop} (h : PageInv Q M b p) (hq : ∀ s, Q p.Policy s → Q' p.Policy s) : PageInv Q' M b p := by
  obtain ⟨t, h1, h2⟩ := h.goes
  refine { h with goes := ⟨t, ?_, h2⟩ }
  generalize p.Hands = hh at h1
  generalize p.Next = nn at h1
  generalize p.Starts = ss at h1
  clear h2
  induction h1 with
  | nil => exact .nil
  | step g a1 a2 a3 a4 ih => exact .step ih a1 a2 a3 (hq _ a4)
  | hand g a1 a2 a3 a4 ih => exact .hand ih a1 a2 a3 a4
theorem step_in {n : Nat} {q : D.Policy} (h : PolOK n q) {k : Int} (hk : 0 ≤ k) : nth q.Steps (k % (q.Steps.length : Int)).toNat ∈ q.Steps := by
  have := h.len
  refine nth_mem ?_
  have h1 := Int.emod_nonneg k (b := (q.Steps.length : Int)) (by omega)
  have h2 := Int.emod_lt_of_pos k (b := (q.Steps.length : Int)) (by omega)
  omega
theorem PageInv.stepQ_inv {c : D.Config} (h : PageInv Q M b p) (hb : BookOK b) (hd : (dueV p).2 = true) (hQ : p.State = 0 → p.Next < countV (polOf b p) → Q p.Policy ⟨p.Next, p.Due, callV c b (stepAt b p) p.Due⟩) : PageInv Q M b (stepQ c b p) := by
  obtain ⟨t, h1, h2, h3, h4⟩ := h.goes
  have hp := h1.pos
  have hs : p.State = 0 ∨ p.State = 2 := due_state hd
  have g0 := h.top; have g3 := h.start; have g7 := h.last; have g8 := h.due; have g9 := h.until_
  have g10 := h.dueO; have g11 := h.untilS; have gn := h.next
  unfold stepQ
  split
  · rename_i e2
    have e3 := h4 e2
    have hne : p.Starts ≠ [] := fun e => by have := (h.first e).1; omega
    exact ⟨h.top, h.id, h.pol, h.start, ⟨t, h1, by dsimp only; omega, fun _ => e3, fun e => by simp at e⟩, h.next, by dsimp only; omega, h.by_, by dsimp only; omega, g9, g9, fun _ => g11 e2, fun e => by simp at e, h.snoozes, h.hands, fun e => absurd e hne, fun e => by simp at e, h.declined, h.seen⟩
  · rename_i e2
    have e0 : p.State = 0 := by omega
    have e3 := h3 e0
    have e4 := g10 e0
    split
    · rename_i e5
      have hc := countV_is (h.polOK hb)
      have hne : p.Starts ≠ [] := fun e => by
        have : (p.Starts.length : Int) = p.Next + p.Hands := hp.2.2.1
        rw [e] at this
        have h0 := hp.1; have h9 := hp.2.1
        simp at this; omega
      exact ⟨h.top, h.id, h.pol, h.start, ⟨t, h1, by dsimp only; omega, fun e => by simp at e, fun e => by simp at e⟩, h.next, by dsimp only; omega, h.by_, by dsimp only; omega, g8, g9, fun e => by simp at e, fun e => by simp at e, h.snoozes, h.hands, fun e => absurd e hne, fun _ => by show p.Next = countV (polOf b p); omega, h.declined, h.seen⟩
    · rename_i e5
      have hw := (h.polOK hb).step _ (step_in (h.polOK hb) hp.1)
      have hw' : 0 ≤ (stepAt b p).Wait ∧ (stepAt b p).Wait ≤ 900 := hw.wait
      have hdue : (if callV c b (stepAt b p) p.Due = [] then p.Due else p.Due + (stepAt b p).Wait) ≤ p.Due + 900 ∧ p.Due ≤ (if callV c b (stepAt b p) p.Due = [] then p.Due else p.Due + (stepAt b p).Wait) := by split <;> omega
      refine ⟨h.top, h.id, h.pol, h.start, ⟨p.Due, .step h1 e3 (fun e => ?_) setV_call (hQ e0 (by omega)), by dsimp only; omega, fun _ => hdue.2, fun e => ?_⟩, ?_, h.state, h.by_, by dsimp only; omega, ?_, g9, fun _ => ?_, fun e => absurd e e2, h.snoozes, h.hands, fun e => by simp at e, fun e => ?_, by dsimp only; decide, h.seen⟩
      · exact (h.first e).2
      · exact absurd e e2
      · show p.Next + 1 ≤ countV (polOf b p); omega
      · dsimp only; omega
      · show (if callV c b (stepAt b p) p.Due = [] then p.Due else p.Due + (stepAt b p).Wait) + 900 * (countV (polOf b p) - (p.Next + 1)) ≤ M
        omega
      · exact absurd e (by dsimp only; omega)
theorem PageInv.answerQ_inv {a : D.Answer} (h : PageInv Q M b p) (hb : BookOK b) (hv : validV a = true) (ha : a.At ≤ M - 20000) (hs : a.Kind = 3 → a.Arg ≤ 5000) (hseen : p.Seen.contains a.ID = false) (hr : refusedV p a = 0) : PageInv Q M b (answerQ p a) := by
  obtain ⟨t, h1, h2, h3, h4⟩ := h.goes
  have hp := h1.pos
  unfold validV at hv
  simp only [Bool.and_eq_true, inV_is] at hv
  obtain ⟨⟨⟨⟨⟨v1, v2⟩, v3⟩, v4⟩, v5⟩, v6⟩ := hv
  unfold refusedV at hr
  split at hr
  · simp at hr
  rename_i r1
  split at hr
  · simp at hr
  rename_i r2
  split at hr
  · simp at hr
  rename_i r3
  have hw : waitB p a.At = false := by cases hb : waitB p a.At <;> simp_all
  have hla : p.Last ≤ a.At := by omega
  have hne : p.Starts ≠ [] := fun e => by
    obtain ⟨e1, e2⟩ := h.first e
    have hst : p.Start ≤ t := hp.2.2.2
    unfold waitB dueV at hw
    rw [if_pos e1] at hw
    simp at hw; omega
  have g0 := h.top; have g3 := h.start; have g7 := h.last; have g8 := h.due; have g9 := h.until_
  have g10 := h.dueO; have g11 := h.untilS; have gn := h.next; have gs := h.snoozes; have gh := h.hands; have gst := h.state
  have hc := countV_is (h.polOK hb)
  have hsn : seenV (p.Seen ++ [a.ID]) = true := by
    have := h.seen
    unfold seenV at this ⊢
    simp only [Bool.and_eq_true, decide_eq_true_eq] at this ⊢
    refine ⟨List.nodup_append.2 ⟨this.1, by simp, fun x hx y hy e => ?_⟩, by simp only [List.length_append, List.length_cons, List.length_nil]; omega⟩
    rw [List.mem_singleton.1 hy] at e
    subst e
    rw [List.contains_iff_mem.2 hx] at hseen; simp at hseen
  have hdec : setV (declQ p a) = true := by
    have hd := setV_is.1 h.declined
    unfold declQ
    split
    · rename_i hcal
      refine setV_is.2 ⟨(plusV_is hd.1).1, fun x hx => ?_⟩
      rcases ((plusV_is hd.1).2 x).1 hx with hx | rfl
      · exact hd.2 x hx
      · have hm := List.contains_iff_mem.1 hcal
        have hst := (h1.fit.2.2 _ (Int.le_refl _))
        have hall : ∀ {nx : Int} {l : List D.Start} {k t : Int}, startsF nx k t l = true → ∀ s ∈ l, setV s.People = true := by
          intro nx l
          induction l with
          | nil => intro k t _ s hs; simp at hs
          | cons y l ih =>
            intro k t hq s hs
            rw [startsF] at hq
            simp only [Bool.and_eq_true] at hq
            rcases List.mem_cons.1 hs with rfl | hs
            · exact hq.1.2
            · exact ih hq.2 s hs
        unfold calledV at hm
        rw [if_neg hne] at hm
        have hlen : 0 < p.Starts.length := List.length_pos_iff.2 hne
        exact (setV_is.1 (hall hst _ (nth_mem (by omega)))).2 _ hm
    · exact h.declined
  unfold answerQ
  split
  · split
    · exact ⟨h.top, h.id, h.pol, h.start, ⟨t, h1, h2, h3, h4⟩, h.next, h.state, h.by_, h.last, h.due, h.until_, h.dueO, h.untilS, h.snoozes, h.hands, fun e => absurd e hne, h.ended, h.declined, hsn⟩
    · exact ⟨h.top, h.id, h.pol, h.start, ⟨t, h1, by dsimp only; omega, fun e => by simp at e, fun e => by simp at e⟩, h.next, by dsimp only; omega, v3, by dsimp only; omega, h.due, h.until_, fun e => by simp at e, fun e => by simp at e, h.snoozes, h.hands, fun e => absurd e hne, fun e => by simp at e, h.declined, hsn⟩
  · split
    · have hdue : (if allDown p a = true ∧ p.State = 0 then a.At else p.Due) = p.Due ∨ ((if allDown p a = true ∧ p.State = 0 then a.At else p.Due) = a.At ∧ p.State = 0) := by
        split
        · rename_i hx; exact .inr ⟨rfl, hx.2⟩
        · exact .inl rfl
      refine ⟨h.top, h.id, h.pol, h.start, ⟨t, h1, by dsimp only; omega, fun e => ?_, h4⟩, h.next, h.state, h.by_, by dsimp only; omega, ?_, h.until_, fun e => ?_, h.untilS, h.snoozes, h.hands, fun e => absurd e hne, h.ended, hdec, hsn⟩
      · have := h3 e; dsimp only; omega
      · dsimp only; omega
      · have := g10 e
        show (if allDown p a = true ∧ p.State = 0 then a.At else p.Due) + 900 * (countV (polOf b p) - p.Next) ≤ M
        omega
    · split
      · rename_i k3
        rw [if_pos k3] at v6
        have v6 := inV_is.1 v6
        have := hs k3
        exact ⟨h.top, h.id, h.pol, h.start, ⟨t, h1, by dsimp only; omega, fun e => by simp at e, fun e => by dsimp only; omega⟩, h.next, by dsimp only; omega, v3, by dsimp only; omega, h.due, by dsimp only; omega, fun e => by simp at e, fun _ => by show a.At + a.Arg + 900 * (countV (polOf b p) - p.Next) ≤ M; omega, by dsimp only; omega, h.hands, fun e => absurd e hne, fun e => by simp at e, h.declined, hsn⟩
      · rename_i k3
        split
        · rename_i k4
          rw [if_neg k3, if_pos k4] at v6
          have v6 := inV_is.1 v6
          exact ⟨h.top, h.id, h.pol, h.start, ⟨a.At, .hand h1 (by omega) hne v6.1 v6.2, by dsimp only; omega, fun e => by dsimp only; omega, fun e => by simp at e⟩, h.next, by dsimp only; omega, h.by_, by dsimp only; omega, by dsimp only; omega, h.until_, fun _ => by show a.At + 600 + 900 * (countV (polOf b p) - p.Next) ≤ M; omega, fun e => by simp at e, h.snoozes, by dsimp only; omega, fun e => by simp at e, fun e => by simp at e, by dsimp only; decide, hsn⟩
        · exact ⟨h.top, h.id, h.pol, h.start, ⟨t, h1, by dsimp only; omega, fun e => by simp at e, fun e => by simp at e⟩, h.next, by dsimp only; omega, v3, by dsimp only; omega, h.due, h.until_, fun e => by simp at e, fun e => by simp at e, h.snoozes, h.hands, fun e => absurd e hne, fun e => by simp at e, h.declined, hsn⟩
def newP (id pol start : Int) : D.Page := D.Page.mk id pol start 0 start 0 (-1) 0 start 0 0 [] [] []
theorem new_inv {id pol start : Int} (hM : M ≤ 8000000000) (hb : BookOK b) (h1 : 1 ≤ id ∧ id ≤ 999999) (h2 : 0 ≤ pol ∧ pol < (b.Policies.length : Int)) (h3 : 0 ≤ start ∧ start ≤ M - 20000) : PageInv Q M b (newP id pol start) := by
  have hp : PolOK b.Teams.length (polOf b (newP id pol start)) := hb.pol _ (nth_mem (by show pol.toNat < _; omega))
  have hc := countV_is hp
  exact ⟨hM, h1, h2, h3, ⟨start, .nil, Int.le_refl _, fun _ => Int.le_refl _, fun e => by simp [newP] at e⟩, by show 0 ≤ _; omega, by simp [newP], by simp [newP], by show start ≤ _; omega, by show 0 ≤ start ∧ start ≤ _; omega, by show (0:Int) ≤ 0 ∧ (0:Int) ≤ M; omega,
    fun _ => by show start + 900 * (_ - 0) ≤ _; omega, fun e => by simp [newP] at e, by simp [newP], by simp [newP], fun _ => ⟨rfl, rfl⟩, fun e => by simp [newP] at e, by dsimp only [newP]; decide, by dsimp only [newP]; decide⟩
def leftV (b : D.Book) (p : D.Page) : Nat := if p.State = 2 then (countV (polOf b p) - p.Next).toNat + 2 else if p.State = 0 then (countV (polOf b p) - p.Next).toNat + 1 else 0
theorem step_polOf {c : D.Config} : polOf b (stepQ c b p) = polOf b p := by
  unfold stepQ polOf
  split
  · rfl
  · split <;> rfl
theorem step_left {c : D.Config} (hd : (dueV p).2 = true) : leftV b (stepQ c b p) < leftV b p := by
  have hs : p.State = 0 ∨ p.State = 2 := due_state hd
  unfold leftV
  rw [step_polOf]
  unfold stepQ
  split
  · dsimp only; rw [if_neg (by omega), if_pos rfl]; omega
  · rename_i e2
    have e0 : p.State = 0 := by omega
    rw [if_pos e0]
    split
    · dsimp only; rw [if_neg (by omega), if_neg (by omega)]; omega
    · dsimp only; omega
theorem waitB_due {now : Int} (h : waitB p now = true) : (dueV p).2 = true ∧ (dueV p).1 ≤ now := by
  unfold waitB at h; simpa using h
theorem waitB_left {now : Int} (h : leftV b p = 0) : waitB p now = false := by
  unfold leftV at h
  unfold waitB dueV
  split at h
  · omega
  · rename_i e2
    split at h
    · omega
    · rename_i e0
      rw [if_neg e0, if_neg e2]; rfl
theorem PageInv.stepVis {c : D.Config} (h : PageInv Q M b p) (hb : BookOK b) (hd : (dueV p).2 = true) : stepV c b p = (stepQ c b p, 0) := by
  unfold stepV
  rw [h.check hb, hd, if_neg (by simp), if_neg (by simp), if_neg (by have := (h.len hb).1; omega)]
def StepQ (Q : Int → D.Start → Prop) (M : Int) (c : D.Config) (b : D.Book) : Prop := ∀ p, PageInv Q M b p → p.State = 0 → p.Next < countV (polOf b p) → Q p.Policy ⟨p.Next, p.Due, callV c b (stepAt b p) p.Due⟩
theorem runN_inv {c : D.Config} {now : Int} (hb : BookOK b) (hQ : StepQ Q M c b) : ∀ (n : Nat) {p : D.Page}, PageInv Q M b p → leftV b p ≤ n → PageInv Q M b (runN c b now n p).1 ∧ (runN c b now n p).2 = 0 ∧ waitB (runN c b now n p).1 now = false
  | 0, p, h, hl => ⟨h, rfl, waitB_left (b := b) (show leftV b p = 0 by omega)⟩
  | n + 1, p, h, hl => by
    rw [runN]
    split
    · rename_i hw
      have hd := waitB_due hw
      rw [h.stepVis hb hd.1, if_neg (by simp)]
      exact runN_inv hb hQ n (h.stepQ_inv hb hd.1 (hQ p h)) (by have := step_left (c := c) (b := b) hd.1; dsimp only; omega)
    · rename_i hw
      exact ⟨h, rfl, by dsimp only; cases hb : waitB p now <;> simp_all⟩
theorem leftV_le (hb : BookOK b) (h : PageInv Q M b p) : leftV b p ≤ 11 := by
  have hc := countV_is (h.polOK hb)
  have := (h.len hb).2
  unfold leftV
  split
  · omega
  · split <;> omega
theorem runV_inv {c : D.Config} {now : Int} (hb : BookOK b) (hQ : StepQ Q M c b) (h : PageInv Q M b p) : PageInv Q M b (runV c b p now).1 ∧ (runV c b p now).2 = 0 ∧ waitB (runV c b p now).1 now = false := by
  unfold runV
  rw [h.check hb, if_neg (by simp)]
  exact runN_inv hb hQ 100 h (by have := leftV_le hb h; omega)
theorem runV_is {c : D.Config} {now : Int} (h : checkV b p = true) : runV c b p now = runN c b now 100 p := by unfold runV; rw [h, if_neg (by simp)]
end
end Go.Proofs.YtfhcigjkfelnfaaGreat
/-
  What functions do, reckoned from their code, and their contracts. Printed by wip/gen/brun.py.
-/
set_option maxRecDepth 100000
set_option linter.unusedVariables false
namespace Go.Proofs.YtfhcigjkfelnfaaGreat
open Go AM
noncomputable section
abbrev nI : SSh := .one (.num .i64)
abbrev kI : Sh := .num .i64
abbrev P3 : Type := Int × (Int × (Int × Unit))
abbrev P4 : Type := Int × (Int × (Int × (Int × Unit)))
abbrev P5 : Type := Int × (Int × (Int × (Int × (Int × Unit))))
abbrev P6 : Type := Int × (Int × (Int × (Int × (Int × (Int × Unit)))))
abbrev P7 : Type := Int × (Int × (Int × (Int × (Int × (Int × (Int × Unit))))))
abbrev P8 : Type := Int × (Int × (Int × (Int × (Int × (Int × (Int × (Int × Unit)))))))
abbrev P9 : Type := Int × (Int × (Int × (Int × (Int × (Int × (Int × (Int × (Int × Unit))))))))
abbrev P10 : Type := Int × (Int × (Int × (Int × (Int × (Int × (Int × (Int × (Int × (Int × Unit)))))))))
abbrev P11 : Type := Int × (Int × (Int × (Int × (Int × (Int × (Int × (Int × (Int × (Int × (Int × Unit))))))))))
abbrev P12 : Type := Int × (Int × (Int × (Int × (Int × (Int × (Int × (Int × (Int × (Int × (Int × (Int × Unit)))))))))))
abbrev P13 : Type := Int × (Int × (Int × (Int × (Int × (Int × (Int × (Int × (Int × (Int × (Int × (Int × (Int × Unit))))))))))))
def tyL : List (Nat × TC) := [(2, .int), (3, .int), (4, .bool), (5, .u8), (6, .u8), (9, .str), (10, .str), (11, .str), (32, .Config), (36, .Book), (40, .Ledger), (47, .Call), (51, .Page), (53, .Start), (59, .Policy), (63, .PolicyStep), (66, .int), (74, .Target), (80, .Team), (88, .Answer), (93, .Arr3Int), (108, .Edit), (110, .Op), (112, .Dice), (122, .Zone), (126, .Person), (128, .Window), (130, .Local), (132, .Layer), (136, .Schedule), (170, .View), (177, .Table), (201, .int), (243, .Calendar), (270, .YearRule), (279, .Transition), (286, .Date), (299, .Occurrence), (304, .occurrence), (334, .Piece), (341, .u8), (342, .u8)]
def ty (t : Nat) : Option TC := AM.look t tyL
def week_Has (fu : Nat) (p0 : List D.Window) (p1 : Int) : Option (Bool) :=
 (iterF (X := ((Int × (List D.Window × (Int × (Int × Unit)))) × Unit)) (fun L0 ((a1, (a2, (a3, (a4, _)))), _) =>
 (cnd (decide (a4 < a3))
 (join (Y := ((Int × (List D.Window × (Int × (Int × Unit)))) × Unit)) (fun ((a5, (a6, (a7, (a8, _)))), _) =>
 (L0 ((a5, (a6, (a7, ((IntKind.wrap .i64 (a8 + 1)), ())))), ()))) fun J9 =>
 (atc a2 a4 fun a10 =>
 (cnd (decide ((D.Window.From a10) ≤ a1))
 (cnd (decide (a1 < (D.Window.To a10)))
 (some true)
 (J9 ((a1, (a2, (a3, (a4, ())))), ())))
 (J9 ((a1, (a2, (a3, (a4, ())))), ())))))
 (some false))) fu ((p1, (p0, ((((List.length p0) : Nat) : Int), (0, ())))), ()))
def week_Has_g (fu : Nat) : Sig := mkSig [.one (.lst .Window), nI] [] [.one (.boo)] [] [] (Bool) (fun q => ((q, ()), ())) (fun x y => week_Has fu x.1 x.2.1)
theorem week_Has_ok (fu : Nat) : FnOK Tryz.prog 130 (week_Has_g fu) :=
 FnOK.intro (ty := ty) (E := envL []) (fu := fu) (an := .two .go (.two (.two .go (.one (.loop [(1, nI), (7, .one (.lst .Window)), (8, nI), (9, nI)] [] (.two .go (.two .go (.two (.join [(1, nI), (7, .one (.lst .Window)), (8, nI), (9, nI)] [] .go) .go)))))) .go)) (fun a b => a.1) (fun _ _ => rfl) (envL_ok (l := []) trivial) Tryz.func130 rfl rfl (fun x y => by kernel_rfl)
def civil_Weekday (fu : Nat) (p0 : Int) : Option (Int) :=
 (nzc 7 (nzc 7 (some (Int.tmod (IntKind.wrap .i64 ((Int.tmod p0 7) + 10)) 7))))
def civil_Weekday_g (fu : Nat) : Sig := mkSig [nI] [] [nI] [] [] (Int) (fun q => ((q, ()), ())) (fun x y => civil_Weekday fu x.1)
theorem civil_Weekday_ok (fu : Nat) : FnOK Tryz.prog 182 (civil_Weekday_g fu) :=
 FnOK.intro (ty := ty) (E := envL []) (fu := fu) (an := .go) (fun a b => a.1) (fun _ _ => rfl) (envL_ok (l := []) trivial) Tryz.func182 rfl rfl (fun x y => by kernel_rfl)
def week_SecondOf (fu : Nat) (p0 : D.Local) : Option (Int) :=
 (optc (civil_Weekday fu (D.Local.Day p0)) fun a0 =>
 (some (IntKind.wrap .i64 ((IntKind.wrap .i64 (a0 * 86400)) + (D.Local.Second p0)))))
def week_SecondOf_g (fu : Nat) : Sig := mkSig [.st .Local] [] [nI] [] [] (Int) (fun q => ((q, ()), ())) (fun x y => week_SecondOf fu x.1)
theorem week_SecondOf_ok (fu : Nat) : FnOK Tryz.prog 131 (week_SecondOf_g fu) :=
 FnOK.intro (ty := ty) (E := envL [(182, 0, civil_Weekday_g fu)]) (fu := fu) (an := .go) (fun a b => a.1) (fun _ _ => rfl) (envL_ok ⟨civil_Weekday_ok fu, trivial⟩) Tryz.func131 rfl rfl (fun x y => by kernel_rfl)
def zone_local (fu : Nat) (p0 : Int) : Option (D.Local) :=
 (nzc 86400 (join (Y := ((Int × (Int × Unit)) × (D.Local × Unit))) (fun ((a0, (a1, _)), (a2, _)) =>
 (some (D.Local.mk a1 (IntKind.wrap .i64 (a0 - (IntKind.wrap .i64 (a1 * 86400))))))) fun J3 =>
 (nzc 86400 (cnd (decide ((Int.tmod p0 86400) < 0))
 (J3 ((p0, ((IntKind.wrap .i64 ((IntKind.wrap .i64 (Int.tdiv p0 86400)) - 1)), ())), ((D.Local.mk 0 0), ())))
 (J3 ((p0, ((IntKind.wrap .i64 (Int.tdiv p0 86400)), ())), ((D.Local.mk 0 0), ())))))))
def zone_local_g (fu : Nat) : Sig := mkSig [nI] [] [.st .Local] [] [] (D.Local) (fun q => ((q, ()), ())) (fun x y => zone_local fu x.1)
theorem zone_local_ok (fu : Nat) : FnOK Tryz.prog 183 (zone_local_g fu) :=
 FnOK.intro (ty := ty) (E := envL []) (fu := fu) (an := .two .go (.two .go (.two (.join [(0, nI), (2, .one (.ref 1002)), (3, nI)] [(1002, .boxst .Local)] .go) .go))) (fun a b => a.1) (fun _ _ => rfl) (envL_ok (l := []) trivial) Tryz.func183 rfl rfl (fun x y => by kernel_rfl)
def zone_Table_before (fu : Nat) (p0 : D.Table) (p1 : Int) : Option (Int) :=
 (cnd (decide (p1 = 0))
 (some (D.Table.offset p0))
 (atc (D.Table.list p0) (IntKind.wrap .i64 (p1 - 1)) fun a0 =>
 (some (D.Transition.Offset a0))))
def zone_Table_before_g (fu : Nat) : Sig := mkSig [.st .Table, nI] [] [nI] [] [] (Int) (fun q => ((q, ()), ())) (fun x y => zone_Table_before fu x.1 x.2.1)
theorem zone_Table_before_ok (fu : Nat) : FnOK Tryz.prog 224 (zone_Table_before_g fu) :=
 FnOK.intro (ty := ty) (E := envL []) (fu := fu) (an := .go) (fun a b => a.1) (fun _ _ => rfl) (envL_ok (l := []) trivial) Tryz.func224 rfl rfl (fun x y => by kernel_rfl)
def zone_Table_after_1 (fu : Nat) (p0 : Int) (p1 : D.Table) (p2 : Int) : Option (Bool) :=
 (atc (D.Table.list p1) p0 fun a0 =>
 (sameC p1 p1 (sameC p2 p2 (some (decide (p2 < (D.Transition.At a0)))))))
def zone_Table_after_1_g (fu : Nat) : Sig := mkSig [nI, .one (.ref 101), .one (.ref 102)] [(101, .boxst .Table), (102, .boxst .int)] [.one (.boo)] [] [101, 102] (Bool) (fun q => ((q, ()), ())) (fun x y => zone_Table_after_1 fu x.1 y.1 y.2.1)
theorem zone_Table_after_1_ok (fu : Nat) : FnOK Tryz.prog 258 (zone_Table_after_1_g fu) :=
 FnOK.intro (ty := ty) (E := envL []) (fu := fu) (an := .go) (fun a b => a.1) (fun _ _ => rfl) (envL_ok (l := []) trivial) Tryz.func258 rfl rfl (fun x y => by kernel_rfl)
def sort_Search_1Fzone_Table_after_1 (fu : Nat) (p0 : Int) (c101 : D.Table) (c102 : Int) : Option (Int) :=
 (iterF (X := ((Int × (Int × Unit)) × (D.Table × ((Int × Unit) × Unit)))) (fun L0 ((a1, (a2, _)), (a3, ((a4, _), _))) =>
 (cnd (decide (a1 < a2))
 none
 (sameC a3 c101 (sameC a4 c102 (some a1))))) fu ((0, (p0, ())), (c101, ((c102, ()), ()))))
def sort_Search_1Fzone_Table_after_1_g (fu : Nat) : Sig := mkSig [nI, .one (.clo 258 [101, 102])] [(101, .boxst .Table), (102, .boxst .int)] [nI] [] [101, 102] (Int) (fun q => ((q, ()), ())) (fun x y => sort_Search_1Fzone_Table_after_1 fu x.1 y.1 y.2.1)
theorem sort_Search_1Fzone_Table_after_1_ok (fu : Nat) : FnOK Tryz.prog 257 (sort_Search_1Fzone_Table_after_1_g fu) :=
 FnOK.intro (ty := ty) (E := envL [(258, 0, zone_Table_after_1_g fu)]) (fu := fu) (an := .two .go (.two .go (.two (.one (.loop [(1, .one (.clo 258 [101, 102])), (5, nI), (6, nI)] [(101, .boxst .Table), (102, .box [.num .i64])] .go)) .go))) (fun a b => a.1) (fun _ _ => rfl) (envL_ok ⟨zone_Table_after_1_ok fu, trivial⟩) Tryz.func257 rfl rfl (fun x y => by kernel_rfl)
def zone_Table_after (fu : Nat) (p0 : D.Table) (p1 : Int) : Option (Int) :=
 (optc (sort_Search_1Fzone_Table_after_1 fu (((List.length (D.Table.list p0)) : Nat) : Int) p0 p1) fun a0 =>
 (some a0))
def zone_Table_after_g (fu : Nat) : Sig := mkSig [.st .Table, nI] [] [nI] [] [] (Int) (fun q => ((q, ()), ())) (fun x y => zone_Table_after fu x.1 x.2.1)
theorem zone_Table_after_ok (fu : Nat) : FnOK Tryz.prog 225 (zone_Table_after_g fu) :=
 FnOK.intro (ty := ty) (E := envL [(257, 0, sort_Search_1Fzone_Table_after_1_g fu)]) (fu := fu) (an := .go) (fun a b => a.1) (fun _ _ => rfl) (envL_ok ⟨sort_Search_1Fzone_Table_after_1_ok fu, trivial⟩) Tryz.func225 rfl rfl (fun x y => by kernel_rfl)
def zone_Table_Offset (fu : Nat) (p0 : D.Table) (p1 : Int) : Option (Int) :=
 (optc (zone_Table_after fu p0 p1) fun a0 =>
 (optc (zone_Table_before fu p0 a0) fun a1 =>
 (some a1)))
def zone_Table_Offset_g (fu : Nat) : Sig := mkSig [.st .Table, nI] [] [nI] [] [] (Int) (fun q => ((q, ()), ())) (fun x y => zone_Table_Offset fu x.1 x.2.1)
theorem zone_Table_Offset_ok (fu : Nat) : FnOK Tryz.prog 184 (zone_Table_Offset_g fu) :=
 FnOK.intro (ty := ty) (E := envL [(224, 0, zone_Table_before_g fu), (225, 0, zone_Table_after_g fu)]) (fu := fu) (an := .go) (fun a b => a.1) (fun _ _ => rfl) (envL_ok ⟨zone_Table_before_ok fu, zone_Table_after_ok fu, trivial⟩) Tryz.func184 rfl rfl (fun x y => by kernel_rfl)
def zone_Table_Local (fu : Nat) (p0 : D.Table) (p1 : Int) : Option (D.Local) :=
 (optc (zone_Table_Offset fu p0 p1) fun a0 =>
 (optc (zone_local fu (IntKind.wrap .i64 (p1 + a0))) fun a1 =>
 (some a1)))
def zone_Table_Local_g (fu : Nat) : Sig := mkSig [.st .Table, nI] [] [.st .Local] [] [] (D.Local) (fun q => ((q, ()), ())) (fun x y => zone_Table_Local fu x.1 x.2.1)
theorem zone_Table_Local_ok (fu : Nat) : FnOK Tryz.prog 133 (zone_Table_Local_g fu) :=
 FnOK.intro (ty := ty) (E := envL [(183, 0, zone_local_g fu), (184, 0, zone_Table_Offset_g fu)]) (fu := fu) (an := .go) (fun a b => a.1) (fun _ _ => rfl) (envL_ok ⟨zone_local_ok fu, zone_Table_Offset_ok fu, trivial⟩) Tryz.func133 rfl rfl (fun x y => by kernel_rfl)
def recur_step (fu : Nat) (p0 : D.Layer) : Option (Int) :=
 (cnd (decide ((D.Layer.Unit p0) = 2))
 (some (IntKind.wrap .i64 (7 * (D.Layer.Every p0))))
 (some (D.Layer.Every p0)))
def recur_step_g (fu : Nat) : Sig := mkSig [.st .Layer] [] [nI] [] [] (Int) (fun q => ((q, ()), ())) (fun x y => recur_step fu x.1)
theorem recur_step_ok (fu : Nat) : FnOK Tryz.prog 306 (recur_step_g fu) :=
 FnOK.intro (ty := ty) (E := envL []) (fu := fu) (an := .go) (fun a b => a.1) (fun _ _ => rfl) (envL_ok (l := []) trivial) Tryz.func306 rfl rfl (fun x y => by kernel_rfl)
def zone_Table_Pieces (fu : Nat) (p0 : D.Table) (p1 : Int) (p2 : Int) : Option (List D.Piece) :=
 (iterF (X := ((Int × (Int × Unit)) × (D.Table × (List D.Piece × Unit)))) (fun L0 ((a1, (a2, _)), (a3, (a4, _))) =>
 (cnd (decide (a1 < a2))
 (optc (zone_Table_after fu a3 a1) fun a5 =>
 (join (Y := (P4 × (D.Table × (List D.Piece × Unit)))) (fun ((a6, (a7, (a8, (a9, _)))), (a10, (a11, _))) =>
 (optc (zone_Table_before fu a10 a8) fun a12 =>
 (lec ((List.length a11) + (List.length ((D.Piece.mk a6 a9 a12) :: []))) 34359738368 (L0 ((a9, (a7, ())), (a10, ((a11 ++ ((D.Piece.mk a6 a9 a12) :: [])), ()))))))) fun J13 =>
 (cnd (decide (a5 < (((List.length (D.Table.list a3)) : Nat) : Int)))
 (atc (D.Table.list a3) a5 fun a14 =>
 (J13 ((a1, (a2, (a5, ((min a2 (D.Transition.At a14)), ())))), (a3, (a4, ())))))
 (J13 ((a1, (a2, (a5, (a2, ())))), (a3, (a4, ())))))))
 (some a4))) fu ((p1, (p2, ())), (p0, ([], ()))))
def zone_Table_Pieces_g (fu : Nat) : Sig := mkSig [.st .Table, nI, nI] [] [.one (.lst .Piece)] [] [] (List D.Piece) (fun q => ((q, ()), ())) (fun x y => zone_Table_Pieces fu x.1 x.2.1 x.2.2.1)
theorem zone_Table_Pieces_ok (fu : Nat) : FnOK Tryz.prog 315 (zone_Table_Pieces_g fu) :=
 FnOK.intro (ty := ty) (E := envL [(224, 0, zone_Table_before_g fu), (225, 0, zone_Table_after_g fu)]) (fu := fu) (an := .two .go (.two .go (.two (.one (.loop [(1, nI), (2, nI), (3, .one (.ref 1003)), (7, .one (.own 1038))] [(1003, .boxst .Table), (1038, .arr .Piece)] (.two .go (.one (.two .go (.two .go (.two (.join [(1, nI), (2, nI), (3, .one (.ref 1003)), (7, .one (.own 1038)), (8, nI), (9, nI)] [(1003, .boxst .Table), (1038, .arr .Piece)] .go) .go))))))) .go))) (fun a b => a.1) (fun _ _ => rfl) (envL_ok ⟨zone_Table_before_ok fu, zone_Table_after_ok fu, trivial⟩) Tryz.func315 rfl rfl (fun x y => by kernel_rfl)
def zone_seconds (fu : Nat) (p0 : D.Local) : Option (Int) :=
 (some (IntKind.wrap .i64 ((IntKind.wrap .i64 ((min (max (D.Local.Day p0) (-1048576)) 1048576) * 86400)) + (D.Local.Second p0))))
def zone_seconds_g (fu : Nat) : Sig := mkSig [.st .Local] [] [nI] [] [] (Int) (fun q => ((q, ()), ())) (fun x y => zone_seconds fu x.1)
theorem zone_seconds_ok (fu : Nat) : FnOK Tryz.prog 316 (zone_seconds_g fu) :=
 FnOK.intro (ty := ty) (E := envL []) (fu := fu) (an := .go) (fun a b => a.1) (fun _ _ => rfl) (envL_ok (l := []) trivial) Tryz.func316 rfl rfl (fun x y => by kernel_rfl)
def zone_Table_First (fu : Nat) (p0 : D.Table) (p1 : D.Local) : Option (Int × Bool) :=
 (optc (zone_Table_Pieces fu p0 0 8589934593) fun a0 =>
 (iterF (X := ((List D.Piece × (Int × (Int × Unit))) × (D.Local × Unit))) (fun L1 ((a2, (a3, (a4, _))), (a5, _)) =>
 (cnd (decide (a4 < a3))
 (atc a2 a4 fun a6 =>
 (optc (zone_seconds fu a5) fun a7 =>
 (cnd (decide ((max (D.Piece.From a6) (IntKind.wrap .i64 (a7 - (D.Piece.Offset a6)))) < (D.Piece.To a6)))
 (some ((max (D.Piece.From a6) (IntKind.wrap .i64 (a7 - (D.Piece.Offset a6)))), true))
 (L1 ((a2, (a3, ((IntKind.wrap .i64 (a4 + 1)), ()))), (a5, ()))))))
 (some (0, false)))) fu ((a0, ((((List.length a0) : Nat) : Int), (0, ()))), (p1, ()))))
def zone_Table_First_g (fu : Nat) : Sig := mkSig [.st .Table, .st .Local] [] [nI, .one (.boo)] [] [] (Int × Bool) (fun q => ((q.1, q.2, ()), ())) (fun x y => zone_Table_First fu x.1 x.2.1)
theorem zone_Table_First_ok (fu : Nat) : FnOK Tryz.prog 313 (zone_Table_First_g fu) :=
 FnOK.intro (ty := ty) (E := envL [(315, 0, zone_Table_Pieces_g fu), (316, 0, zone_seconds_g fu)]) (fu := fu) (an := .two .go (.two (.two .go (.one (.loop [(3, .one (.ref 1003)), (10, .one (.lst .Piece)), (11, nI), (12, nI)] [(1003, .boxst .Local)] .go))) .go)) (fun a b => (a.1, a.2.1)) (fun _ _ => rfl) (envL_ok ⟨zone_Table_Pieces_ok fu, zone_seconds_ok fu, trivial⟩) Tryz.func313 rfl rfl (fun x y => by kernel_rfl)
def recur_HandoverOf (fu : Nat) (p0 : D.Table) (p1 : D.Layer) (p2 : Int) : Option (Int × Bool) :=
 (cnd (decide (8589934592 < p2))
 (some (0, false))
 (cnd (decide ((D.Layer.Unit p1) ≠ 0))
 (optc (recur_step fu p1) fun a0 =>
 (optc (zone_Table_First fu p0 (D.Local.mk (IntKind.wrap .i64 ((D.Local.Day (D.Layer.Start p1)) + (IntKind.wrap .i64 (p2 * a0)))) (D.Local.Second (D.Layer.Start p1)))) fun (a1, a2) =>
 (some (a1, a2))))
 (optc (zone_Table_First fu p0 (D.Layer.Start p1)) fun (a3, a4) =>
 (cnd a4
 (cnd (decide ((IntKind.wrap .i64 (a3 + (IntKind.wrap .i64 ((IntKind.wrap .i64 (3600 * (D.Layer.Every p1))) * p2)))) ≤ 8589934592))
 (some ((IntKind.wrap .i64 (a3 + (IntKind.wrap .i64 ((IntKind.wrap .i64 (3600 * (D.Layer.Every p1))) * p2)))), true))
 (some ((IntKind.wrap .i64 (a3 + (IntKind.wrap .i64 ((IntKind.wrap .i64 (3600 * (D.Layer.Every p1))) * p2)))), false)))
 (some ((IntKind.wrap .i64 (a3 + (IntKind.wrap .i64 ((IntKind.wrap .i64 (3600 * (D.Layer.Every p1))) * p2)))), false))))))
def recur_HandoverOf_g (fu : Nat) : Sig := mkSig [.st .Table, .st .Layer, nI] [] [nI, .one (.boo)] [] [] (Int × Bool) (fun q => ((q.1, q.2, ()), ())) (fun x y => recur_HandoverOf fu x.1 x.2.1 x.2.2.1)
theorem recur_HandoverOf_ok (fu : Nat) : FnOK Tryz.prog 305 (recur_HandoverOf_g fu) :=
 FnOK.intro (ty := ty) (E := envL [(306, 0, recur_step_g fu), (313, 0, zone_Table_First_g fu)]) (fu := fu) (an := .go) (fun a b => (a.1, a.2.1)) (fun _ _ => rfl) (envL_ok ⟨recur_step_ok fu, zone_Table_First_ok fu, trivial⟩) Tryz.func305 rfl rfl (fun x y => by kernel_rfl)
def recur_ShiftOf (fu : Nat) (p0 : D.Table) (p1 : D.Layer) (p2 : Int) : Option (Int) :=
 (optc (recur_HandoverOf fu p0 p1 0) fun (a0, a1) =>
 (join (Y := ((Int × (Int × Unit)) × (D.Table × (D.Layer × Unit)))) (fun ((a2, (a3, _)), (a4, (a5, _))) =>
 (cnd (decide ((D.Layer.Unit a5) = 0))
 (nzc (IntKind.wrap .i64 (3600 * (D.Layer.Every a5))) (some (IntKind.wrap .i64 (Int.tdiv (IntKind.wrap .i64 (a2 - a3)) (IntKind.wrap .i64 (3600 * (D.Layer.Every a5)))))))
 (optc (zone_Table_Local fu a4 a2) fun a6 =>
 (optc (recur_step fu a5) fun a7 =>
 (nzc a7 (join (Y := ((Int × (Int × Unit)) × (D.Table × (D.Layer × Unit)))) (fun ((a8, (a9, _)), (a10, (a11, _))) =>
 (iterF (X := ((Int × (Int × Unit)) × (D.Table × (D.Layer × Unit)))) (fun L12 ((a13, (a14, _)), (a15, (a16, _))) =>
 (join (Y := ((Int × (Int × Unit)) × (D.Table × (D.Layer × Unit)))) (fun ((a17, (a18, _)), (a19, (a20, _))) =>
 (L12 ((a17, ((IntKind.wrap .i64 (a18 + 1)), ())), (a19, (a20, ()))))) fun J21 =>
 (optc (recur_HandoverOf fu a15 a16 (IntKind.wrap .i64 (a14 + 1))) fun (a22, a23) =>
 (cnd a23
 (cnd (decide (a13 < a22))
 (some a14)
 (J21 ((a13, (a14, ())), (a15, (a16, ())))))
 (some a14))))) fu ((a8, (a9, ())), (a10, (a11, ()))))) fun J24 =>
 (iterF (X := ((Int × (Int × Unit)) × (D.Table × (D.Layer × Unit)))) (fun L25 ((a26, (a27, _)), (a28, (a29, _))) =>
 (cnd (decide (0 < a27))
 (join (Y := ((Int × (Int × Unit)) × (D.Table × (D.Layer × Unit)))) (fun ((a30, (a31, _)), (a32, (a33, _))) =>
 (L25 ((a30, ((IntKind.wrap .i64 (a31 - 1)), ())), (a32, (a33, ()))))) fun J34 =>
 (optc (recur_HandoverOf fu a28 a29 a27) fun (a35, a36) =>
 (cnd a36
 (cnd (decide (a35 ≤ a26))
 (J24 ((a26, (a27, ())), (a28, (a29, ()))))
 (J34 ((a26, (a27, ())), (a28, (a29, ())))))
 (J34 ((a26, (a27, ())), (a28, (a29, ())))))))
 (J24 ((a26, (a27, ())), (a28, (a29, ())))))) fu ((a2, ((max 0 (IntKind.wrap .i64 (Int.tdiv (IntKind.wrap .i64 ((D.Local.Day a6) - (D.Local.Day (D.Layer.Start a5)))) a7))), ())), (a4, (a5, ())))))))))) fun J37 =>
 (cnd a1
 (cnd (decide (p2 < a0))
 (some (-1))
 (J37 ((p2, (a0, ())), (p0, (p1, ())))))
 (some (-1)))))
def recur_ShiftOf_g (fu : Nat) : Sig := mkSig [.st .Table, .st .Layer, nI] [] [nI] [] [] (Int) (fun q => ((q, ()), ())) (fun x y => recur_ShiftOf fu x.1 x.2.1 x.2.2.1)
theorem recur_ShiftOf_ok (fu : Nat) : FnOK Tryz.prog 295 (recur_ShiftOf_g fu) :=
 FnOK.intro (ty := ty) (E := envL [(133, 0, zone_Table_Local_g fu), (305, 0, recur_HandoverOf_g fu), (306, 0, recur_step_g fu)]) (fu := fu) (an := .two .go (.two .go (.two (.join [(2, nI), (3, .one (.ref 1003)), (4, .one (.ref 1004)), (7, nI)] [(1003, .boxst .Table), (1004, .boxst .Layer)] .go) (.two .go (.two .go (.two (.join [(2, nI), (3, .one (.ref 1003)), (4, .one (.ref 1004)), (9, nI)] [(1003, .boxst .Table), (1004, .boxst .Layer)] (.one (.loop [(2, nI), (3, .one (.ref 1003)), (4, .one (.ref 1004)), (9, nI)] [(1003, .boxst .Table), (1004, .boxst .Layer)] (.two .go (.one (.two (.join [(2, nI), (3, .one (.ref 1003)), (4, .one (.ref 1004)), (9, nI)] [(1003, .boxst .Table), (1004, .boxst .Layer)] .go) .go)))))) (.one (.loop [(2, nI), (3, .one (.ref 1003)), (4, .one (.ref 1004)), (9, nI)] [(1003, .boxst .Table), (1004, .boxst .Layer)] (.one (.two (.join [(2, nI), (3, .one (.ref 1003)), (4, .one (.ref 1004)), (9, nI)] [(1003, .boxst .Table), (1004, .boxst .Layer)] .go) .go)))))))))) (fun a b => a.1) (fun _ _ => rfl) (envL_ok ⟨zone_Table_Local_ok fu, recur_HandoverOf_ok fu, recur_step_ok fu, trivial⟩) Tryz.func295 rfl rfl (fun x y => by kernel_rfl)
def cmp_isNaN_int (fu : Nat) (p0 : Int) : Option (Bool) :=
 (some (decide (p0 ≠ p0)))
def cmp_isNaN_int_g (fu : Nat) : Sig := mkSig [nI] [] [.one (.boo)] [] [] (Bool) (fun q => ((q, ()), ())) (fun x y => cmp_isNaN_int fu x.1)
theorem cmp_isNaN_int_ok (fu : Nat) : FnOK Tryz.prog 200 (cmp_isNaN_int_g fu) :=
 FnOK.intro (ty := ty) (E := envL []) (fu := fu) (an := .go) (fun a b => a.1) (fun _ _ => rfl) (envL_ok (l := []) trivial) Tryz.func200 rfl rfl (fun x y => by kernel_rfl)
def cmp_Less_int (fu : Nat) (p0 : Int) (p1 : Int) : Option (Bool) :=
 (optc (cmp_isNaN_int fu p0) fun a0 =>
 (cnd a0
 (optc (cmp_isNaN_int fu p1) fun a1 =>
 (cnd a1
 (cnd (decide (p0 < p1))
 (some true)
 (some false))
 (some true)))
 (cnd (decide (p0 < p1))
 (some true)
 (some false))))
def cmp_Less_int_g (fu : Nat) : Sig := mkSig [nI, nI] [] [.one (.boo)] [] [] (Bool) (fun q => ((q, ()), ())) (fun x y => cmp_Less_int fu x.1 x.2.1)
theorem cmp_Less_int_ok (fu : Nat) : FnOK Tryz.prog 162 (cmp_Less_int_g fu) :=
 FnOK.intro (ty := ty) (E := envL [(200, 0, cmp_isNaN_int_g fu)]) (fu := fu) (an := .go) (fun a b => a.1) (fun _ _ => rfl) (envL_ok ⟨cmp_isNaN_int_ok fu, trivial⟩) Tryz.func162 rfl rfl (fun x y => by kernel_rfl)
def slices_isNaN_int (fu : Nat) (p0 : Int) : Option (Bool) :=
 (some (decide (p0 ≠ p0)))
def slices_isNaN_int_g (fu : Nat) : Sig := mkSig [nI] [] [.one (.boo)] [] [] (Bool) (fun q => ((q, ()), ())) (fun x y => slices_isNaN_int fu x.1)
theorem slices_isNaN_int_ok (fu : Nat) : FnOK Tryz.prog 307 (slices_isNaN_int_g fu) :=
 FnOK.intro (ty := ty) (E := envL []) (fu := fu) (an := .go) (fun a b => a.1) (fun _ _ => rfl) (envL_ok (l := []) trivial) Tryz.func307 rfl rfl (fun x y => by kernel_rfl)
def slices_BinarySearch_int (fu : Nat) (p0 : List Int) (p1 : Int) : Option (Int × Bool) :=
 (iterF (X := ((List Int × P4) × Unit)) (fun L0 ((a1, (a2, (a3, (a4, (a5, _))))), _) =>
 (cnd (decide (a4 < a5))
 none
 (cnd (decide (a4 < a3))
 (atc a1 a4 fun a6 =>
 (cnd (decide (a6 = a2))
 (some (a4, true))
 (atc a1 a4 fun a7 =>
 (optc (slices_isNaN_int fu a7) fun a8 =>
 (cnd a8
 (optc (slices_isNaN_int fu a2) fun a9 =>
 (cnd a9
 (some (a4, true))
 (some (a4, false))))
 (some (a4, false)))))))
 (some (a4, false))))) fu ((p0, (p1, ((((List.length p0) : Nat) : Int), (0, ((((List.length p0) : Nat) : Int), ()))))), ()))
def slices_BinarySearch_int_g (fu : Nat) : Sig := mkSig [.one (.lst .int), nI] [] [nI, .one (.boo)] [] [] (Int × Bool) (fun q => ((q.1, q.2, ()), ())) (fun x y => slices_BinarySearch_int fu x.1 x.2.1)
theorem slices_BinarySearch_int_ok (fu : Nat) : FnOK Tryz.prog 296 (slices_BinarySearch_int_g fu) :=
 FnOK.intro (ty := ty) (E := envL [(162, 0, cmp_Less_int_g fu), (307, 0, slices_isNaN_int_g fu)]) (fu := fu) (an := .two .go (.two .go (.two .go (.two (.one (.loop [(0, .one (.lst .int)), (1, nI), (6, nI), (7, nI), (8, nI)] [] .go)) .go)))) (fun a b => (a.1, a.2.1)) (fun _ _ => rfl) (envL_ok ⟨cmp_Less_int_ok fu, slices_isNaN_int_ok fu, trivial⟩) Tryz.func296 rfl rfl (fun x y => by kernel_rfl)
def duty_View_On (fu : Nat) (p0 : D.View) (p1 : D.Layer) (p2 : Int) : Option (Int × Bool) :=
 (join (Y := ((Int × Unit) × (D.View × (D.Layer × Unit)))) (fun ((a0, _), (a1, (a2, _))) =>
 (atc (D.View.tables a1) (D.Layer.Zone a2) fun a3 =>
 (optc (recur_ShiftOf fu a3 a2 a0) fun a4 =>
 (join (Y := ((Int × (Int × Unit)) × (D.View × (D.Layer × Unit)))) (fun ((a5, (a6, _)), (a7, (a8, _))) =>
 (cnd (decide ((D.Layer.Mode a8) = 0))
 (some (a6, true))
 (atc (D.Config.Calendars (D.View.Config a7)) (D.Layer.Calendar a8) fun a9 =>
 (atc (D.View.tables a7) (D.Calendar.Zone a9) fun a10 =>
 (optc (zone_Table_Local fu a10 a5) fun a11 =>
 (optc (slices_BinarySearch_int fu (D.Calendar.Days a9) (D.Local.Day a11)) fun (a12, a13) =>
 (some (a6, (decide (a13 = (decide ((D.Layer.Mode a8) = 2)))))))))))) fun J14 =>
 (cnd (decide (a4 < 0))
 (some (0, false))
 (cnd (decide (0 < (((List.length (D.Layer.Windows a2)) : Nat) : Int)))
 (optc (zone_Table_Local fu a3 a0) fun a15 =>
 (optc (week_SecondOf fu a15) fun a16 =>
 (optc (week_Has fu (D.Layer.Windows a2) a16) fun a17 =>
 (cnd a17
 (J14 ((a0, (a4, ())), (a1, (a2, ()))))
 (some (0, false))))))
 (J14 ((a0, (a4, ())), (a1, (a2, ())))))))))) fun J18 =>
 (cnd (decide (p2 < 0))
 (some (0, false))
 (cnd (decide (8589934592 < p2))
 (some (0, false))
 (J18 ((p2, ()), (p0, (p1, ())))))))
def duty_View_On_g (fu : Nat) : Sig := mkSig [.st .View, .st .Layer, nI] [] [nI, .one (.boo)] [] [] (Int × Bool) (fun q => ((q.1, q.2, ()), ())) (fun x y => duty_View_On fu x.1 x.2.1 x.2.2.1)
theorem duty_View_On_ok (fu : Nat) : FnOK Tryz.prog 283 (duty_View_On_g fu) :=
 FnOK.intro (ty := ty) (E := envL [(130, 0, week_Has_g fu), (131, 0, week_SecondOf_g fu), (133, 0, zone_Table_Local_g fu), (295, 0, recur_ShiftOf_g fu), (296, 0, slices_BinarySearch_int_g fu)]) (fu := fu) (an := .two .go (.two (.join [(2, nI), (3, .one (.ref 1003)), (4, .one (.ref 1004))] [(1003, .boxst .View), (1004, .boxst .Layer)] .go) (.two .go (.two .go (.two (.join [(2, nI), (3, .one (.ref 1003)), (4, .one (.ref 1004)), (9, nI)] [(1003, .boxst .View), (1004, .boxst .Layer)] .go) .go))))) (fun a b => (a.1, a.2.1)) (fun _ _ => rfl) (envL_ok ⟨week_Has_ok fu, week_SecondOf_ok fu, zone_Table_Local_ok fu, recur_ShiftOf_ok fu, slices_BinarySearch_int_ok fu, trivial⟩) Tryz.func283 rfl rfl (fun x y => by kernel_rfl)
def duty_View_Person (fu : Nat) (p0 : D.View) (p1 : D.Layer) (p2 : Int) : Option (Int) :=
 (optc (duty_View_On fu p0 p1 p2) fun (a0, a1) =>
 (cnd (!a1)
 (some (-1))
 (nzc (((List.length (D.Layer.Members p1)) : Nat) : Int) (atc (D.Layer.Members p1) (Int.tmod a0 (((List.length (D.Layer.Members p1)) : Nat) : Int)) fun a2 =>
 (some a2)))))
def duty_View_Person_g (fu : Nat) : Sig := mkSig [.st .View, .st .Layer, nI] [] [nI] [] [] (Int) (fun q => ((q, ()), ())) (fun x y => duty_View_Person fu x.1 x.2.1 x.2.2.1)
theorem duty_View_Person_ok (fu : Nat) : FnOK Tryz.prog 270 (duty_View_Person_g fu) :=
 FnOK.intro (ty := ty) (E := envL [(283, 0, duty_View_On_g fu)]) (fu := fu) (an := .go) (fun a b => a.1) (fun _ _ => rfl) (envL_ok ⟨duty_View_On_ok fu, trivial⟩) Tryz.func270 rfl rfl (fun x y => by kernel_rfl)
def stack_Away_1 (fu : Nat) (p0 : D.Edit) (p1 : Int) (p2 : Int) : Option (Bool) :=
 (cnd (decide ((D.Edit.Kind p0) = 0))
 (cnd (decide ((D.Edit.A p0) = p1))
 (cnd (decide ((D.Edit.From p0) ≤ p2))
 (cnd (decide (p2 < (D.Edit.To p0)))
 (sameC p1 p1 (sameC p2 p2 (some true)))
 (sameC p1 p1 (sameC p2 p2 (some false))))
 (sameC p1 p1 (sameC p2 p2 (some false))))
 (sameC p1 p1 (sameC p2 p2 (some false))))
 (sameC p1 p1 (sameC p2 p2 (some false))))
def stack_Away_1_g (fu : Nat) : Sig := mkSig [.st .Edit, .one (.ref 101), .one (.ref 102)] [(101, .boxst .int), (102, .boxst .int)] [.one (.boo)] [] [101, 102] (Bool) (fun q => ((q, ()), ())) (fun x y => stack_Away_1 fu x.1 y.1 y.2.1)
theorem stack_Away_1_ok (fu : Nat) : FnOK Tryz.prog 285 (stack_Away_1_g fu) :=
 FnOK.intro (ty := ty) (E := envL []) (fu := fu) (an := .go) (fun a b => a.1) (fun _ _ => rfl) (envL_ok (l := []) trivial) Tryz.func285 rfl rfl (fun x y => by kernel_rfl)
def slices_IndexFunc_Edit_1Fstack_Away_1 (fu : Nat) (p0 : List D.Edit) (c101 : Int) (c102 : Int) : Option (Int) :=
 (iterF (X := ((List D.Edit × (Int × (Int × Unit))) × ((Int × Unit) × ((Int × Unit) × Unit)))) (fun L0 ((a1, (a2, (a3, _))), ((a4, _), ((a5, _), _))) =>
 (cnd (decide (a3 < a2))
 (atc a1 a3 fun a6 =>
 (optc (stack_Away_1 fu a6 a4 a5) fun a7 =>
 (cnd a7
 (sameC a4 c101 (sameC a5 c102 (some a3)))
 (L0 ((a1, (a2, ((IntKind.wrap .i64 (a3 + 1)), ()))), ((a4, ()), ((a5, ()), ())))))))
 (sameC a4 c101 (sameC a5 c102 (some (-1)))))) fu ((p0, ((((List.length p0) : Nat) : Int), (0, ()))), ((c101, ()), ((c102, ()), ()))))
def slices_IndexFunc_Edit_1Fstack_Away_1_g (fu : Nat) : Sig := mkSig [.one (.lst .Edit), .one (.clo 285 [101, 102])] [(101, .boxst .int), (102, .boxst .int)] [nI] [] [101, 102] (Int) (fun q => ((q, ()), ())) (fun x y => slices_IndexFunc_Edit_1Fstack_Away_1 fu x.1 y.1 y.2.1)
theorem slices_IndexFunc_Edit_1Fstack_Away_1_ok (fu : Nat) : FnOK Tryz.prog 297 (slices_IndexFunc_Edit_1Fstack_Away_1_g fu) :=
 FnOK.intro (ty := ty) (E := envL [(285, 0, stack_Away_1_g fu)]) (fu := fu) (an := .two .go (.two (.two .go (.one (.loop [(0, .one (.lst .Edit)), (1, .one (.clo 285 [101, 102])), (7, nI), (8, nI)] [(101, .box [.num .i64]), (102, .box [.num .i64])] .go))) .go)) (fun a b => a.1) (fun _ _ => rfl) (envL_ok ⟨stack_Away_1_ok fu, trivial⟩) Tryz.func297 rfl rfl (fun x y => by kernel_rfl)
def slices_ContainsFunc_Edit_1Fstack_Away_1 (fu : Nat) (p0 : List D.Edit) (c101 : Int) (c102 : Int) : Option (Bool) :=
 (optc (slices_IndexFunc_Edit_1Fstack_Away_1 fu p0 c101 c102) fun a0 =>
 (sameC c101 c101 (sameC c102 c102 (some (decide (0 ≤ a0))))))
def slices_ContainsFunc_Edit_1Fstack_Away_1_g (fu : Nat) : Sig := mkSig [.one (.lst .Edit), .one (.clo 285 [101, 102])] [(101, .boxst .int), (102, .boxst .int)] [.one (.boo)] [] [101, 102] (Bool) (fun q => ((q, ()), ())) (fun x y => slices_ContainsFunc_Edit_1Fstack_Away_1 fu x.1 y.1 y.2.1)
theorem slices_ContainsFunc_Edit_1Fstack_Away_1_ok (fu : Nat) : FnOK Tryz.prog 284 (slices_ContainsFunc_Edit_1Fstack_Away_1_g fu) :=
 FnOK.intro (ty := ty) (E := envL [(297, 0, slices_IndexFunc_Edit_1Fstack_Away_1_g fu)]) (fu := fu) (an := .go) (fun a b => a.1) (fun _ _ => rfl) (envL_ok ⟨slices_IndexFunc_Edit_1Fstack_Away_1_ok fu, trivial⟩) Tryz.func284 rfl rfl (fun x y => by kernel_rfl)
def stack_Away (fu : Nat) (p0 : D.Schedule) (p1 : Int) (p2 : Int) : Option (Bool) :=
 (optc (slices_ContainsFunc_Edit_1Fstack_Away_1 fu (D.Schedule.Edits p0) p1 p2) fun a0 =>
 (some a0))
def stack_Away_g (fu : Nat) : Sig := mkSig [.st .Schedule, nI, nI] [] [.one (.boo)] [] [] (Bool) (fun q => ((q, ()), ())) (fun x y => stack_Away fu x.1 x.2.1 x.2.2.1)
theorem stack_Away_ok (fu : Nat) : FnOK Tryz.prog 271 (stack_Away_g fu) :=
 FnOK.intro (ty := ty) (E := envL [(284, 0, slices_ContainsFunc_Edit_1Fstack_Away_1_g fu)]) (fu := fu) (an := .go) (fun a b => a.1) (fun _ _ => rfl) (envL_ok ⟨slices_ContainsFunc_Edit_1Fstack_Away_1_ok fu, trivial⟩) Tryz.func271 rfl rfl (fun x y => by kernel_rfl)
end
end Go.Proofs.YtfhcigjkfelnfaaGreat
