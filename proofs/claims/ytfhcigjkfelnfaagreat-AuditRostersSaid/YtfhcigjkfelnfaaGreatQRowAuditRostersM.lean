/-
  People whom targets mean: what the reference computes; lists compared.
-/
import Derived.Test.YtfhcigjkfelnfaaGreatQRowAuditRostersL
import Derived.Test.YtfhcigjkfelnfaaGreatQRowAuditRostersH
import Derived.Test.YtfhcigjkfelnfaaGreatQRowAuditRostersK
set_option maxRecDepth 100000
set_option linter.unusedVariables false
set_option linter.unusedSimpArgs false
namespace Go.Proofs.YtfhcigjkfelnfaaGreat
open Go AM
variable {t p : Int} {n : Nat} {c : D.Config} {b : D.Book}
theorem withI_len {l : List Int} {x : Int} : ∀ i, (withI l x i).1.length ≤ 2 * i
  | 0 => by simp [withI]
  | i + 1 => by
    have := withI_len (l := l) (x := x) i
    simp only [withI, List.length_append]
    have h1 : (if (withI l x i).2 = false ∧ x ≤ nth l i then [x] else []).length ≤ 1 := by split <;> simp
    have h2 : (if nth l i ≠ x then [nth l i] else []).length ≤ 1 := by split <;> simp
    omega
theorem withR {l : List Int} {x : Int} (hl : l.length ≤ 400) : r25_With 1000 l x = some (withV l x) := by
  refine Ok.eq ?_
  unfold r25_With
  refine Ok.run l.length (fun i => ((l, x, (withI l x i).2, (i : Int), ()), (withI l x i).1, ())) rfl (by omega) (fun i hi k hk => ?_) (fun k => ?_)
  · dsimp only
    have hlen := withI_len (l := l) (x := x) i
    rw [withI] at hk
    refine Ok.p (by omega) (Ok.j (Ok.j ?_))
    have fin : ∀ (d : Bool) (o : List Int), o.length ≤ 2000 → d = ((withI l x i).2 || decide (x ≤ nth l i)) → o = (withI l x i).1 ++ (if (withI l x i).2 = false ∧ x ≤ nth l i then [x] else []) →
        Ok (atc l (i : Int) fun a17 => AM.cnd (decide (a17 ≠ x)) (atc l (i : Int) fun a18 => AM.lec (o.length + [a18].length) 34359738368 (k ((l, x, d, IntKind.wrap .i64 ((i : Int) + 1), ()), o ++ [a18], ()))) (k ((l, x, d, IntKind.wrap .i64 ((i : Int) + 1), ()), o, ()))) (· = withV l x) := fun d o ho hd he => by
      rw [wrap_succ (by omega)]
      rw [hd, he]
      refine Ok.atn hi (Ok.ite (fun h => Ok.atn hi (Ok.lec (by rw [← he]; simp; omega) ?_)) (fun h => ?_))
      · rw [if_pos h] at hk; exact hk
      · rw [if_neg h, List.append_nil] at hk; exact hk
    refine Ok.cnd (fun hd => ?_) (fun hd => Ok.atn hi (Ok.ite (fun hx => Ok.lec (by simp; omega) ?_) (fun hx => ?_)))
    · exact fin (withI l x i).2 (withI l x i).1 (by omega) (by rw [hd]; rfl) (by rw [hd]; simp)
    · exact fin true ((withI l x i).1 ++ [x]) (by simp; omega) (by rw [hd, decide_eq_true hx]; rfl) (by rw [if_pos ⟨hd, hx⟩])
    · exact fin (withI l x i).2 (withI l x i).1 (by omega) (by rw [hd, decide_eq_false hx]; rfl) (by rw [if_neg (fun h => hx h.2), List.append_nil])
  · dsimp only
    have hlen := withI_len (l := l) (x := x) l.length
    refine Ok.n (by omega) (Ok.j (Ok.ncnd (fun hd => Ok.lec (by simp; omega) (Ok.s ?_)) (fun hd => Ok.s ?_)))
    · unfold withV; rw [if_neg (by rw [hd]; simp)]
    · unfold withV; rw [if_pos hd]
theorem q25In {fu : Nat} {n lo hi : Int} : r25_In fu n lo hi = some (decide (lo ≤ n ∧ n ≤ hi)) := cnd2
theorem means_snoc {l : List D.Target} {i : Nat} {z : Int} (hi : i < l.length) : Means c b (l.take (i + 1)) t z ↔ Means c b (l.take i) t z ∨ (0 ≤ z ∧ z < 4 ∧ z ∈ meantV c b (nth l i) t) := by
  unfold Means
  rw [← take_snoc' hi]
  simp only [List.mem_append, List.mem_singleton]
  constructor
  · rintro ⟨h1, h2, x, hx | rfl, hz⟩
    · exact .inl ⟨h1, h2, x, hx, hz⟩
    · exact .inr ⟨h1, h2, hz⟩
  · rintro (⟨h1, h2, x, hx, hz⟩ | ⟨h1, h2, hz⟩)
    · exact ⟨h1, h2, x, .inl hx, hz⟩
    · exact ⟨h1, h2, _, .inr rfl, hz⟩
theorem asc4_len {o : List Int} (h : Asc o) (hm : ∀ z ∈ o, 0 ≤ z ∧ z < 4) : o.length ≤ 4 := by
  have e : o = ([0, 1, 2, 3] : List Int).filter fun z => o.contains z := asc_ext h (List.Pairwise.filter _ asc4) fun z => by
    simp only [List.mem_filter, List.contains_iff_mem, List.mem_cons, List.not_mem_nil, or_false]
    exact ⟨fun hz => ⟨by have := hm z hz; omega, hz⟩, fun hz => hz.2⟩
  rw [e]
  exact List.length_filter_le _ _
theorem peopleR_ok {l : List D.Target} (h : CfgOK n c) (hn : n ≤ 48) (hb : BookOK b) (hl : ∀ x ∈ l, TargetOK b.Teams.length x) (hlen : l.length ≤ 400) : r25_People 1000 c b l t = some (peopleV c b l t) := by
  have hpl := h.plen; have hsl := h.slen; have htl := hb.tlen
  refine Ok.eq ?_
  unfold r25_People
  refine Ok.run l.length (fun i => ((l, t, peopleV c b (l.take i) t, (i : Int), ()), c, b, ())) (by rw [List.take_zero]; rfl) (by omega) (fun i hi k hk => ?_) (fun k => ?_)
  · dsimp only
    have hx := hl _ (nth_mem hi)
    obtain ⟨x, hxx⟩ : ∃ x, nth l i = x := ⟨_, rfl⟩
    have hpe := peopleV_asc (c := c) (b := b) (l := l.take i) (t := t)
    have hple := peopleV_len (c := c) (b := b) (l := l.take i) (t := t)
    have fin : ∀ o : List Int, Asc o → (∀ z, z ∈ o ↔ Means c b (l.take i) t z ∨ (0 ≤ z ∧ z < 4 ∧ z ∈ meantV c b x t)) → Ok (k ((l, t, o, IntKind.wrap .i64 ((i : Int) + 1), ()), c, b, ())) (· = peopleV c b l t) := fun o ho hm => by
      rw [wrap_succ (by omega), peopleV_is ho (fun z => by rw [hm, means_snoc hi, hxx])]
      exact hk
    have one : ∀ v, 0 ≤ v ∧ v < 4 → (∀ z, 0 ≤ z ∧ z < 4 → (z ∈ meantV c b x t ↔ z = v)) → Ok (k ((l, t, withV (peopleV c b (l.take i) t) v, IntKind.wrap .i64 ((i : Int) + 1), ()), c, b, ())) (· = peopleV c b l t) := fun v hv hm =>
      fin _ (withV_is hpe).1 fun z => by
        rw [(withV_is hpe).2, peopleV_mem]
        constructor
        · rintro (hz | rfl)
          · exact .inl hz
          · exact .inr ⟨hv.1, hv.2, (hm _ hv).2 rfl⟩
        · rintro (hz | ⟨h1, h2, hz⟩)
          · exact .inl hz
          · exact .inr ((hm z ⟨h1, h2⟩).1 hz)
    have none_ : (∀ z, 0 ≤ z ∧ z < 4 → ¬ z ∈ meantV c b x t) → Ok (k ((l, t, peopleV c b (l.take i) t, IntKind.wrap .i64 ((i : Int) + 1), ()), c, b, ())) (· = peopleV c b l t) := fun hm =>
      fin _ hpe fun z => by
        rw [peopleV_mem]
        exact ⟨.inl, fun h => h.elim id fun ⟨h1, h2, hz⟩ => absurd hz (hm z ⟨h1, h2⟩)⟩
    rw [hxx] at hx
    rw [hpl, hsl]
    have h1 := hx.lo; have h2 := hx.person; have h3 := hx.sched; have h4 := hx.team
    refine Ok.p (by omega) (Ok.j (Ok.atn hi ?_))
    rw [hxx]
    rcases hx.kind with hkd | hkd | hkd
    · have := h2 hkd
      refine Ok.p hkd (Ok.oe q25In (Ok.p (by rw [wrap_id (by omega)]; omega) (Ok.oe (withR (by omega)) ?_)))
      exact one _ ⟨h1, by omega⟩ fun z hz => by unfold meantV; rw [if_pos hkd]; simp
    · have := h3 hkd
      refine Ok.n (by omega) (Ok.p hkd (Ok.oe q25In (Ok.p (by rw [wrap_id (by omega)]; omega) (Ok.oe (whoR_is h hn) ?_))))
      have hw := whoV_in h (i := x.Index) (t := t)
      refine Ok.ite (fun hge => Ok.oe (withR (by omega)) ?_) (fun hlt => ?_)
      · exact one _ ⟨hge, hw.2⟩ fun z hz => by unfold meantV; rw [if_neg (by omega), if_pos hkd, if_neg (by omega)]; simp
      · exact none_ fun z hz => by unfold meantV; rw [if_neg (by omega), if_pos hkd, if_pos (by omega)]; simp
    · have := h4 hkd
      refine Ok.n (by omega) (Ok.n (by omega) (Ok.p hkd (Ok.oe q25In (Ok.p (by rw [wrap_id (by omega)]; omega) ?_))))
      obtain ⟨tm, htm⟩ : ∃ tm, nth b.Teams x.Index.toNat = tm := ⟨_, rfl⟩
      have hteam := hb.team _ (nth_mem (l := b.Teams) (i := x.Index.toNat) (by omega))
      rw [htm] at hteam
      have hmv : meantV c b x t = tm.Members := by unfold meantV; rw [if_neg (by omega), if_neg (by omega), if_pos ⟨hkd, h1, h4 hkd⟩, htm]
      have hml := hteam.len
      refine Ok.loop (fun q y => ∃ (j : Nat) (o : List Int), y = ((l, t, o, (i : Int), (j : Int), ()), c, b, x, ()) ∧ j ≤ tm.Members.length ∧ Asc o ∧ (∀ z, z ∈ o ↔ Means c b (l.take i) t z ∨ (0 ≤ z ∧ z < 4 ∧ z ∈ tm.Members.take j)) ∧ q = tm.Members.length - j) (m := tm.Members.length) (by omega)
        ⟨0, _, rfl, by omega, hpe, fun z => by rw [peopleV_mem]; simp, by omega⟩ ?_
      rintro q y ⟨j, o, rfl, a1, a2, a4, rfl⟩ K hK
      have a3 := asc4_len a2 (fun z hz => by
        rcases (a4 z).1 hz with g | g
        · exact ⟨g.1, g.2.1⟩
        · exact ⟨g.1, g.2.1⟩)
      dsimp only
      refine Ok.at h1 (by omega) ?_
      rw [htm]
      refine Ok.ite (fun hj => ?_) (fun hj => ?_)
      · have hmem := hteam.mem _ (nth_mem (l := tm.Members) (i := j) (by omega))
        refine Ok.j (Ok.at h1 (by omega) ?_)
        rw [htm]
        refine Ok.atn (by omega) ?_
        rw [hpl]
        refine Ok.oe q25In (Ok.p (by rw [wrap_id (by omega)]; omega) (Ok.at h1 (by omega) ?_))
        rw [htm]
        refine Ok.atn (by omega) (Ok.oe (withR (by omega)) ?_)
        dsimp only
        rw [wrap_succ (by omega)]
        refine hK _ _ (by omega) ⟨j + 1, _, rfl, by omega, (withV_is a2).1, fun z => ?_, rfl⟩
        rw [(withV_is a2).2, a4, mem_take_succ (by omega)]
        constructor
        · rintro ((hz | ⟨z1, z2, z3⟩) | rfl)
          · exact .inl hz
          · exact .inr ⟨z1, z2, .inl z3⟩
          · exact .inr ⟨hmem.1, hmem.2, .inr rfl⟩
        · rintro (hz | ⟨z1, z2, z3 | z3⟩)
          · exact .inl (.inl hz)
          · exact .inl (.inr ⟨z1, z2, z3⟩)
          · exact .inr z3
      · have ej : j = tm.Members.length := by omega
        rw [ej, List.take_length] at a4
        exact fin o a2 fun z => by rw [a4, hmv]
  · dsimp only
    refine Ok.n (by omega) (Ok.s ?_)
    rw [List.take_length]
theorem has25_is {l : List Int} {x : Int} (hl : l.length ≤ 900) : r25_Has 1000 l x = some (l.contains x) := by
  refine Ok.eq ?_
  unfold r25_Has
  refine Ok.scan l.length (fun i => ((l, x, (i : Int), ()), ())) (fun i => decide (nth l i = x)) rfl (by omega) (fun i hi hq _ k => ?_) (fun i hi hq k hk => ?_) (fun hq k => ?_)
  · have hq := of_decide_eq_true hq
    refine Ok.p (by omega) (Ok.atn hi (Ok.p hq (Ok.s ?_)))
    exact (List.contains_iff_mem.2 (hq ▸ nth_mem hi)).symm
  · have hq := of_decide_eq_false hq
    refine Ok.p (by omega) (Ok.atn hi (Ok.n hq ?_))
    rw [wrap_succ (by omega)]; exact hk
  · refine Ok.n (by omega) (Ok.s ?_)
    symm
    rw [Bool.eq_false_iff]
    intro h
    obtain ⟨i, hi, e⟩ := List.getElem_of_mem (List.contains_iff_mem.1 h)
    refine of_decide_eq_false (hq i hi) ?_
    simpa [nth, List.getD_eq_getElem?_getD, List.getElem?_eq_getElem hi] using e
end Go.Proofs.YtfhcigjkfelnfaaGreat
/-
  Pages looked at: what the program's and the reference's checks of pages and answers compute.
-/
set_option maxRecDepth 100000
set_option linter.unusedVariables false
set_option linter.unusedSimpArgs false
namespace Go.Proofs.YtfhcigjkfelnfaaGreat
open Go AM
theorem drop_nth' {α : Type} [Inhabited α] {l : List α} {i : Nat} (h : i < l.length) : l.drop i = nth l i :: l.drop (i + 1) := by
  rw [List.drop_eq_getElem_cons h]
  simp [nth, List.getD_eq_getElem?_getD, List.getElem?_eq_getElem h]
theorem ein {fu : Nat} {x lo hi : Int} : escalate_in fu x lo hi = some (inV x lo hi) := by
  unfold escalate_in inV
  by_cases h1 : lo ≤ x <;> by_cases h2 : x ≤ hi <;> simp [AM.cnd, h1, h2]
theorem contains_nth {l : List Int} {i : Nat} {x : Int} (hi : i < l.length) (h : decide (x = nth l i) = true) : l.contains x = true := by
  rw [of_decide_eq_true h]; exact List.contains_iff_mem.2 (nth_mem hi)
theorem contains_no {l : List Int} {x : Int} (h : ∀ j, j < l.length → decide (x = nth l j) = false) : l.contains x = false := by
  cases hb : l.contains x with
  | false => rfl
  | true =>
    obtain ⟨j, hj, e⟩ := List.getElem_of_mem (List.contains_iff_mem.1 hb)
    have := of_decide_eq_false (h j hj)
    exact absurd (by simp [nth, List.getD_eq_getElem?_getD, List.getElem?_eq_getElem hj, e]) this
theorem contains_is {l : List Int} {x : Int} (hl : l.length < 900) : slices_Contains_int 1000 l x = some (l.contains x) := by
  refine Ok.eq ?_
  unfold slices_Contains_int slices_Index_int
  refine Ok.opt (P := fun r => decide (0 ≤ r) = l.contains x) ?_ fun r hr => Ok.s hr
  refine Ok.scan l.length (fun i => ((l, x, ((l.length : Nat) : Int), (i : Int), ()), ())) (fun i => decide (x = nth l i)) rfl (by omega) (fun i hi hq _ k => ?_) (fun i hi hq k hk => ?_) (fun hq k => ?_)
  · refine Ok.p (by omega) (Ok.atn hi (Ok.bt hq (Ok.s ?_)))
    rw [contains_nth hi hq]; simp
  · refine Ok.p (by omega) (Ok.atn hi (Ok.bf hq ?_))
    rw [wrap_succ (by omega)]; exact hk
  · refine Ok.n (by omega) (Ok.s ?_)
    rw [contains_no hq]; rfl
def badS (l : List Int) (i : Nat) : Bool := !(decide (0 ≤ nth l i) && decide (nth l i ≤ 31) && (decide (i = 0) || decide (nth l (i - 1) < nth l i)))
theorem setV_bad {l : List Int} {i : Nat} (hi : i < l.length) (h : badS l i = true) : setV l = false := by
  cases hb : setV l with
  | false => rfl
  | true =>
    have hs := setV_is.1 hb
    have h1 := hs.2 _ (nth_mem hi)
    have h2 : 0 < i → nth l (i - 1) < nth l i := fun h0 => asc_nth hs.1 (by omega) hi
    unfold badS at h
    by_cases h0 : i = 0
    · subst h0; simp at h; omega
    · have := h2 (by omega)
      simp [h0] at h; omega
theorem setV_good {l : List Int} (h : ∀ j, j < l.length → badS l j = false) : setV l = true := by
  have hk : ∀ j, j < l.length → 0 ≤ nth l j ∧ nth l j ≤ 31 ∧ (j = 0 ∨ nth l (j - 1) < nth l j) := fun j hj => by
    have := h j hj
    unfold badS at this
    obtain ⟨a, b, c⟩ : 0 ≤ nth l j ∧ nth l j ≤ 31 ∧ (¬ j = 0 → nth l (j - 1) < nth l j) := by simpa [and_assoc] using this
    exact ⟨a, b, by by_cases e : j = 0; exact .inl e; exact .inr (c e)⟩
  refine setV_is.2 ⟨?_, fun x hx => ?_⟩
  · have := ascTo_take (l := l) (n := l.length) (Nat.le_refl _) fun k h1 h2 => by have := (hk k h2).2.2; omega
    rwa [List.take_length] at this
  · obtain ⟨j, hj, e⟩ := List.getElem_of_mem hx
    have := hk j hj
    rw [show nth l j = x by simp [nth, List.getD_eq_getElem?_getD, List.getElem?_eq_getElem hj, e]] at this
    omega
theorem set_is {l : List Int} (hl : l.length < 900) : escalate_set 1000 l = some (setV l) := by
  refine Ok.eq ?_
  unfold escalate_set
  refine Ok.scan l.length (fun i => ((l, l, ((l.length : Nat) : Int), (i : Int), ()), ())) (badS l) rfl (by omega) (fun i hi hq _ k => ?_) (fun i hi hq k hk => ?_) (fun hq k => ?_)
  · refine Ok.p (by omega) (Ok.j (Ok.atn hi (Ok.oe ein ?_)))
    rw [setV_bad hi hq]
    refine Ok.cnd (fun h1 => ?_) (fun h1 => Ok.s rfl)
    by_cases h0 : 0 < i
    · refine Ok.p (by omega) ?_
      rw [show IntKind.wrap .i64 ((i : Int) - 1) = ((i - 1 : Nat) : Int) by rw [wrap_id (by omega)]; omega]
      refine Ok.atn (by omega) (Ok.p ?_ (Ok.s rfl))
      unfold badS at hq
      unfold inV at h1
      simp only [Bool.and_eq_true, decide_eq_true_eq] at h1
      simp [h1.1, h1.2, show i ≠ 0 by omega] at hq
      omega
    · unfold badS at hq
      unfold inV at h1
      simp only [Bool.and_eq_true, decide_eq_true_eq] at h1
      obtain rfl : i = 0 := by omega
      simp [h1.1, h1.2] at hq
  · refine Ok.p (by omega) (Ok.j (Ok.atn hi (Ok.oe ein ?_)))
    unfold badS at hq
    simp only [Bool.not_eq_false', Bool.and_eq_true, Bool.or_eq_true, decide_eq_true_eq] at hq
    refine Ok.bt (by unfold inV; simp [hq.1.1, hq.1.2]) ?_
    dsimp only
    rw [wrap_succ (by omega)]
    by_cases h0 : 0 < i
    · refine Ok.p (by omega) ?_
      rw [show IntKind.wrap .i64 ((i : Int) - 1) = ((i - 1 : Nat) : Int) by rw [wrap_id (by omega)]; omega]
      exact Ok.atn (by omega) (Ok.n (by omega) hk)
    · exact Ok.n (by omega) hk
  · exact Ok.n (by omega) (Ok.s (setV_good hq).symm)
theorem seen_bad {l : List Int} {i : Nat} (hi : i < l.length) (h : (l.take i).contains (nth l i) = true) : decide l.Nodup = false := by
  refine decide_eq_false fun hn => ?_
  have hm := List.contains_iff_mem.1 h
  have e : l = l.take i ++ (nth l i :: l.drop (i + 1)) := by rw [← drop_nth' hi, List.take_append_drop]
  rw [e] at hn
  exact (List.nodup_append.1 hn).2.2 _ hm _ (List.mem_cons_self ..) rfl
theorem seen_good {l : List Int} (h : ∀ j, j < l.length → (l.take j).contains (nth l j) = false) : l.Nodup := by
  have : ∀ i, i ≤ l.length → (l.take i).Nodup := by
    intro i
    induction i with
    | zero => intro _; simp
    | succ i ih =>
      intro hi
      rw [take_succ_nth (by omega)]
      refine List.nodup_append.2 ⟨ih (by omega), by simp, fun x hx y hy e => ?_⟩
      rw [List.mem_singleton.1 hy] at e
      subst e
      have := h i (by omega)
      rw [List.contains_iff_mem.2 hx] at this
      simp at this
  have := this l.length (Nat.le_refl _)
  rwa [List.take_length] at this
theorem seen_is {l : List Int} (hl : l.length < 900) : escalate_seen 1000 l = some (seenV l) := by
  refine Ok.eq ?_
  unfold escalate_seen seenV
  refine Ok.scan l.length (fun i => ((l, l, ((l.length : Nat) : Int), (i : Int), ()), ())) (fun i => (l.take i).contains (nth l i)) rfl (by omega) (fun i hi hq _ k => ?_) (fun i hi hq k hk => ?_) (fun hq k => ?_)
  · refine Ok.p (by omega) (Ok.atn hi (Ok.natn (Ok.lec (by omega) (Ok.oe (contains_is (by simp; omega)) (Ok.bt hq (Ok.s ?_))))))
    rw [seen_bad hi hq]; rfl
  · refine Ok.p (by omega) (Ok.atn hi (Ok.natn (Ok.lec (by omega) (Ok.oe (contains_is (by simp; omega)) (Ok.bf hq ?_)))))
    rw [wrap_succ (by omega)]; exact hk
  · refine Ok.n (by omega) (Ok.s ?_)
    rw [decide_eq_true (seen_good hq), Bool.true_and]
    exact decide_eq_decide.2 (by omega)
structure PageLen (p : D.Page) : Prop where
  st : p.Starts.length ≤ 300
  pe : ∀ s ∈ p.Starts, s.People.length ≤ 40 ∧ -1000000 ≤ s.K ∧ s.K ≤ 1000000
  de : p.Declined.length ≤ 40
  se : p.Seen.length ≤ 100
  nx : -1000000 ≤ p.Next ∧ p.Next ≤ 1000000
theorem started_is {p : D.Page} (h : PageLen p) : escalate_started 1000 p = some (startsV p) := by
  have hst := h.st
  have hnx := h.nx
  refine Ok.eq ?_
  unfold escalate_started startsV
  refine Ok.loop (fun m x => ∃ (i : Nat) (k t : Int), x = ((t, k, p.Starts, ((p.Starts.length : Nat) : Int), (i : Int), ()), p, ()) ∧ i ≤ p.Starts.length ∧ -1 ≤ k ∧ k ≤ 1000000 ∧ startsF p.Next k t (p.Starts.drop i) = startsF p.Next (-1) p.Start p.Starts ∧ m = p.Starts.length - i) (m := p.Starts.length) (by omega)
    ⟨0, -1, p.Start, rfl, by omega, by omega, by omega, rfl, rfl⟩ ?_
  rintro m x ⟨i, k, t, rfl, h1, h2, h2', h3, rfl⟩ K hK
  dsimp only
  refine Ok.ite (fun hi => ?_) (fun hi => ?_)
  · have hlt : i < p.Starts.length := by omega
    have hs := h.pe _ (nth_mem hlt)
    refine Ok.atn hlt (Ok.j ?_)
    obtain ⟨s, hse⟩ : ∃ s, nth p.Starts i = s := ⟨_, rfl⟩
    rw [drop_nth' hlt, startsF, hse] at h3
    rw [hse] at hs ⊢
    rw [← h3]
    have next : (decide (t ≤ s.At) && (decide (s.K = -1) || decide (0 ≤ s.K) && decide (k < s.K) && decide (s.K < p.Next)) && setV s.People) = true →
        Ok (K ((s.At, max k s.K, p.Starts, ((p.Starts.length : Nat) : Int), IntKind.wrap .i64 ((i : Int) + 1), ()), p, ())) (· = (decide (t ≤ s.At) && (decide (s.K = -1) || decide (0 ≤ s.K) && decide (k < s.K) && decide (s.K < p.Next)) && setV s.People && startsF p.Next (max k s.K) s.At (p.Starts.drop (i + 1)) && decide (p.Starts.length ≤ 200))) := fun e => by
      rw [wrap_succ (by omega), h3]
      rw [e, Bool.true_and] at h3
      exact hK _ _ (by omega) ⟨i + 1, max k s.K, s.At, rfl, by omega, by omega, by omega, h3, rfl⟩
    refine Ok.ite (fun g1 => Ok.s (by rw [decide_eq_false (show ¬ t ≤ s.At by omega)]; simp)) fun g1 => ?_
    refine Ok.oe (set_is (by omega)) (Ok.cnd (fun g2 => ?_) (fun g2 => Ok.s (by rw [g2]; simp)))
    refine Ok.ite (fun g3 => ?_) (fun g3 => ?_)
    · rw [wrap_id (x := k + 1) (by omega), wrap_id (x := p.Next - 1) (by omega)]
      refine Ok.oe ein (Ok.cnd (fun g4 => ?_) (fun g4 => ?_))
      · unfold inV at g4
        simp only [Bool.and_eq_true, decide_eq_true_eq] at g4
        refine next ?_
        rw [g2]; simp; omega
      · refine Ok.s ?_
        have : (decide (s.K = -1) || decide (0 ≤ s.K) && decide (k < s.K) && decide (s.K < p.Next)) = false := by
          unfold inV at g4
          simp only [Bool.and_eq_false_iff, decide_eq_false_iff_not] at g4
          rw [decide_eq_false g3, Bool.false_or]
          by_cases q1 : 0 ≤ s.K <;> by_cases q2 : k < s.K <;> by_cases q3 : s.K < p.Next <;> simp [q1, q2, q3] <;> omega
        rw [this]; simp
    · refine next ?_
      rw [g2]; simp; omega
  · have e : i = p.Starts.length := by omega
    refine Ok.s ?_
    subst e
    rw [List.drop_length, startsF] at h3
    rw [← h3, Bool.true_and]
    exact decide_eq_decide.2 (by omega)
theorem times_is {p : D.Page} : escalate_times 1000 p = some (inV p.Last p.Start farV && inV p.Due 0 farV && inV p.Until 0 farV && inV p.Snoozes 0 4 && inV p.Hands 0 4) := by
  refine Ok.eq ?_
  unfold escalate_times
  refine Ok.oe ein (Ok.cnd (fun h1 => Ok.oe ein (Ok.cnd (fun h2 => Ok.oe ein (Ok.cnd (fun h3 => Ok.oe ein (Ok.cnd (fun h4 => Ok.oe ein (Ok.cnd (fun h5 => Ok.s ?_) (fun h5 => Ok.s ?_))) (fun h4 => Ok.s ?_))) (fun h3 => Ok.s ?_))) (fun h2 => Ok.s ?_))) (fun h1 => Ok.s ?_))
  all_goals simp_all [farV]
theorem count_is {n : Nat} {q : D.Policy} (h : PolOK n q) : policy_Count 1000 q = some (countV q) := by
  have h1 := h.rep
  have h2 := h.len
  refine Ok.eq ?_
  unfold policy_Count
  refine Ok.j (Ok.oe pIn (Ok.p (by omega) (Ok.n (by omega) (Ok.s ?_))))
  rw [(countV_is h).1, wrap_id (x := q.Repeat + 1) (by omega), wrap_id]
  have h3 : q.Repeat = 0 ∨ q.Repeat = 1 ∨ q.Repeat = 2 := by omega
  rcases h3 with h3 | h3 | h3 <;> rw [h3] <;> omega
theorem waits_true {n : Nat} {q : D.Policy} (h : PolOK n q) : waitsV q = true := by
  unfold waitsV
  rw [List.all_eq_true]
  intro s hs
  have := (h.step s hs).wait
  simp; omega
theorem waitsC_is {n : Nat} {q : D.Policy} (h : PolOK n q) : slices_ContainsFunc_PolicyStep_1Fescalate_Check_1 1000 q.Steps = some false := by
  have h2 := h.len
  refine Ok.eq ?_
  unfold slices_ContainsFunc_PolicyStep_1Fescalate_Check_1 slices_IndexFunc_PolicyStep_1Fescalate_Check_1
  refine Ok.opt (P := fun r => r = -1) ?_ fun r hr => Ok.s (by rw [hr]; rfl)
  refine Ok.run q.Steps.length (fun i => ((q.Steps, ((q.Steps.length : Nat) : Int), (i : Int), ()), ())) rfl (by omega) (fun i hi k hk => ?_) (fun k => ?_)
  · have hw := (h.step _ (nth_mem hi)).wait
    refine Ok.p (by omega) (Ok.atn hi (Ok.oe (v := false) ?_ (Ok.f ?_)))
    · unfold escalate_Check_1
      rw [ein, optc_s]
      unfold inV; simp; omega
    · rw [wrap_succ (by omega)]; exact hk
  · exact Ok.n (by omega) (Ok.s rfl)
theorem check_is {b : D.Book} {p : D.Page} (hb : BookOK b) (h : PageLen p) : escalate_Check 1000 b p = some (checkV b p) := by
  have hpl := hb.plen
  refine Ok.eq ?_
  unfold escalate_Check
  refine Ok.j (Ok.oe ein (Ok.cnd (fun h1 => ?_) (fun h1 => Ok.s (by simp [checkV, h1]))))
  rw [wrap_id (x := ((b.Policies.length : Nat) : Int) - 1) (by omega)]
  refine Ok.oe ein (Ok.cnd (fun h2 => ?_) (fun h2 => Ok.s (by simp [checkV, h2])))
  refine Ok.oe ein (Ok.cnd (fun h3 => ?_) (fun h3 => Ok.s (by simp [checkV, h3])))
  have h2' := h2
  unfold inV at h2'
  simp only [Bool.and_eq_true, decide_eq_true_eq] at h2'
  refine Ok.at h2'.1 (by omega) (Ok.j ?_)
  have hq : PolOK b.Teams.length (polOf b p) := hb.pol _ (nth_mem (by omega))
  have hw := waits_true hq
  show Ok (optc (slices_ContainsFunc_PolicyStep_1Fescalate_Check_1 1000 (polOf b p).Steps) _) _
  refine Ok.oe (waitsC_is hq) (Ok.f (Ok.oe (count_is hq) (Ok.oe ein ?_)))
  refine Ok.cnd (fun h4 => ?_) (fun h4 => Ok.s (by have h4 : inV p.Next 0 (countV (polOf b p)) = false := h4; simp [checkV, h4]))
  have h4 : inV p.Next 0 (countV (polOf b p)) = true := h4
  refine Ok.oe ein (Ok.cnd (fun h5 => ?_) (fun h5 => Ok.s (by simp [checkV, h5])))
  refine Ok.oe ein (Ok.cnd (fun h6 => ?_) (fun h6 => Ok.s (by simp [checkV, h6])))
  refine Ok.oe times_is (Ok.cnd (fun h7 => ?_) (fun h7 => Ok.s ?_))
  · refine Ok.oe (started_is h) (Ok.cnd (fun h8 => ?_) (fun h8 => Ok.s (by simp [checkV, h8])))
    have hde := h.de; have hse := h.se
    refine Ok.oe (set_is (by omega)) (Ok.cnd (fun h9 => ?_) (fun h9 => Ok.s (by simp [checkV, h9])))
    refine Ok.oe (seen_is (by omega)) ?_
    simp only [Bool.and_eq_true] at h7
    exact Ok.cnd (fun h10 => Ok.s (by simp [checkV, h1, h2, h3, hw, h4, h5, h6, h7, h8, h9, h10])) (fun h10 => Ok.s (by simp [checkV, h10]))
  · symm
    unfold checkV
    rw [Bool.eq_false_iff]
    intro hc
    rw [Bool.eq_false_iff] at h7
    apply h7
    simp only [Bool.and_eq_true] at hc ⊢
    obtain ⟨⟨⟨⟨⟨⟨⟨⟨hc, a1⟩, a2⟩, a3⟩, a4⟩, a5⟩, _⟩, _⟩, _⟩ := hc
    exact ⟨⟨⟨⟨a1, a2⟩, a3⟩, a4⟩, a5⟩
end Go.Proofs.YtfhcigjkfelnfaaGreat
/-
  What runs and answers keep of pages, in plain Lean: what the laws about pages ask for.
-/
set_option maxRecDepth 100000
set_option linter.unusedSimpArgs false
set_option linter.unusedVariables false
namespace Go.Proofs.YtfhcigjkfelnfaaGreat
open Go AM
section
variable {Q : Int → D.Start → Prop} {M now : Int} {b : D.Book} {p q : D.Page} {c : D.Config}
theorem runN_ind {R : D.Page → Prop} (hb : BookOK b) (hQ : StepQ Q M c b) (hs : ∀ q, PageInv Q M b q → waitB q now = true → R q → R (stepQ c b q)) : ∀ (n : Nat) {p : D.Page}, PageInv Q M b p → R p → R (runN c b now n p).1
  | 0, p, h, hr => hr
  | n + 1, p, h, hr => by
    rw [runN]
    split
    · rename_i hw
      have hd := waitB_due hw
      rw [h.stepVis hb hd.1, if_neg (by simp)]
      exact runN_ind hb hQ hs n (h.stepQ_inv hb hd.1 (hQ p h)) (hs p h hw hr)
    · exact hr
theorem runV_ind {R : D.Page → Prop} (hb : BookOK b) (hQ : StepQ Q M c b) (hs : ∀ q, PageInv Q M b q → waitB q now = true → R q → R (stepQ c b q)) (h : PageInv Q M b p) (hr : R p) : R (runV c b p now).1 := by
  rw [runV_is (h.check hb)]
  exact runN_ind hb hQ hs 100 h hr
structure Kept (p q : D.Page) : Prop where
  id : q.ID = p.ID
  pol : q.Policy = p.Policy
  start : q.Start = p.Start
  by_ : q.By = p.By
  until_ : q.Until = p.Until
  snoozes : q.Snoozes = p.Snoozes
  hands : q.Hands = p.Hands
  seen : q.Seen = p.Seen
theorem Kept.refl (p : D.Page) : Kept p p := ⟨rfl, rfl, rfl, rfl, rfl, rfl, rfl, rfl⟩
theorem Kept.step (h : Kept p q) : Kept p (stepQ c b q) := by
  obtain ⟨h1, h2, h3, h4, h5, h6, h7, h8⟩ := h
  unfold stepQ
  split
  · exact ⟨h1, h2, h3, h4, h5, h6, h7, h8⟩
  · split <;> exact ⟨h1, h2, h3, h4, h5, h6, h7, h8⟩
theorem runV_kept (hb : BookOK b) (hQ : StepQ Q M c b) (h : PageInv Q M b p) : Kept p (runV c b p now).1 :=
  runV_ind hb hQ (fun q _ _ hr => hr.step) h (Kept.refl p)
theorem step_last (hw : waitB q now = true) (h : q.Last ≤ now) : (stepQ c b q).Last ≤ now := by
  have hd := waitB_due hw
  have hs := due_state hd.1
  have h2 := hd.2
  unfold dueV at h2
  unfold stepQ
  split
  · rename_i e; rw [if_neg (by omega), if_pos e] at h2; dsimp only at h2 ⊢; omega
  · rename_i e; rw [if_pos (by omega)] at h2
    split <;> dsimp only at h2 ⊢ <;> omega
theorem runV_last (hb : BookOK b) (hQ : StepQ Q M c b) (h : PageInv Q M b p) (hl : p.Last ≤ now) : (runV c b p now).1.Last ≤ now :=
  runV_ind (R := fun q => q.Last ≤ now) hb hQ (fun q _ hw hr => step_last hw hr) h hl
theorem dueV_fst0 (h : p.State = 0) : dueV p = (p.Due, true) := by unfold dueV; rw [if_pos h]
theorem dueV_fst2 (h : p.State = 2) : dueV p = (p.Until, true) := by unfold dueV; rw [if_neg (by omega), if_pos h]
theorem answerV_new {a : D.Answer} (hc : checkV b p = true) (hv : validV a = true) (hp : a.Page = p.ID) (hs : p.Seen.contains a.ID = false) : answerV b p a = if refusedV p a ≠ 0 then (page0, refusedV p a) else (answerQ p a, 0) := by
  unfold answerV
  rw [hc, hv, hs, if_neg (by simp), if_neg (by simp [hp]), if_neg (by simp)]
theorem answerV_old {a : D.Answer} (hc : checkV b p = true) (hv : validV a = true) (hp : a.Page = p.ID) (hs : p.Seen.contains a.ID = true) : answerV b p a = (p, 0) := by
  unfold answerV
  rw [hc, hv, hs, if_neg (by simp), if_neg (by simp [hp]), if_pos rfl]
theorem answerQ_id {a : D.Answer} : (answerQ p a).ID = p.ID ∧ (answerQ p a).Policy = p.Policy ∧ (answerQ p a).Start = p.Start ∧ (answerQ p a).Next = p.Next := by
  unfold answerQ; repeat' split
  all_goals exact ⟨rfl, rfl, rfl, rfl⟩
theorem answerQ_last {a : D.Answer} (h : p.Last ≤ a.At) : (answerQ p a).Last ≤ a.At := by
  unfold answerQ; repeat' split
  all_goals dsimp only
  all_goals omega
end
def kN (l : List D.Start) (i : Nat) : Int := (((l.take i).filter fun s => decide (0 ≤ s.K)).length : Int)
def tN (st : Int) (l : List D.Start) (i : Nat) : Int := if i = 0 then st else (nth l (i - 1)).At
theorem nth_app_l {α : Type} [Inhabited α] {l m : List α} {i : Nat} (h : i < l.length) : nth (l ++ m) i = nth l i := by
  simp [nth, List.getD_eq_getElem?_getD, List.getElem?_append_left h]
theorem nth_app_r {α : Type} [Inhabited α] {l : List α} {x : α} : nth (l ++ [x]) l.length = x := by
  simp [nth, List.getD_eq_getElem?_getD]
theorem kN_app {l m : List D.Start} {i : Nat} (h : i ≤ l.length) : kN (l ++ m) i = kN l i := by
  unfold kN; rw [List.take_append_of_le_length h]
theorem kN_snoc {l : List D.Start} {x : D.Start} : kN (l ++ [x]) (l.length + 1) = kN l l.length + (if 0 ≤ x.K then 1 else 0) := by
  unfold kN
  rw [List.take_of_length_le (by simp), List.take_of_length_le (Nat.le_refl _), List.filter_append, List.length_append]
  by_cases h : 0 ≤ x.K
  · simp [h]
  · simp [h]
theorem kN_succ {l : List D.Start} {i : Nat} (h : i < l.length) : kN l (i + 1) = kN l i + (if 0 ≤ (nth l i).K then 1 else 0) := by
  unfold kN
  rw [List.take_succ_eq_append_getElem h, List.filter_append, List.length_append]
  have e : nth l i = l[i] := by simp [nth, List.getD_eq_getElem?_getD, List.getElem?_eq_getElem h]
  rw [e]
  by_cases h : 0 ≤ l[i].K
  · simp [h]
  · simp [h]
theorem tN_app {st : Int} {l m : List D.Start} {i : Nat} (h : i ≤ l.length) : tN st (l ++ m) i = tN st l i := by
  unfold tN
  split
  · rfl
  · rw [nth_app_l (by omega)]
theorem tN_succ {st : Int} {l : List D.Start} {i : Nat} : tN st l (i + 1) = (nth l i).At := by unfold tN; rw [if_neg (by omega)]; rfl
theorem Goes.scan {Q : D.Start → Prop} {st k t h : Int} {l : List D.Start} (g : Goes Q st l k t h) : kN l l.length = k ∧ tN st l l.length = t ∧
    ∀ i, i < l.length → tN st l i ≤ (nth l i).At ∧ setV (nth l i).People = true ∧ ((nth l i).K = -1 ∧ 0 < i ∨ (nth l i).K = kN l i ∧ 0 ≤ (nth l i).K ∧ Q (nth l i)) ∧ (i = 0 → (nth l i).At = st) := by
  induction g with
  | nil => exact ⟨rfl, rfl, fun i hi => by simp at hi⟩
  | @step l k t h a P g h1 h2 h3 h4 ih =>
    obtain ⟨i1, i2, i3⟩ := ih
    have hp := g.pos
    refine ⟨by rw [List.length_append, List.length_singleton, kN_snoc, i1, if_pos (by dsimp only; omega)], by rw [List.length_append, List.length_singleton, tN_succ, nth_app_r], fun i hi => ?_⟩
    by_cases e : i = l.length
    · subst e
      rw [nth_app_r, tN_app (Nat.le_refl _), kN_app (Nat.le_refl _), i1, i2]
      exact ⟨h1, h3, .inr ⟨rfl, hp.1, h4⟩, fun e => h2 (List.length_eq_zero_iff.1 e)⟩
    · have hi' : i < l.length := by rw [List.length_append, List.length_singleton] at hi; omega
      rw [nth_app_l hi', tN_app (by omega), kN_app (by omega)]
      exact i3 i hi'
  | @hand l k t h a x g h1 h2 h3 h4 ih =>
    obtain ⟨i1, i2, i3⟩ := ih
    have hne : l.length ≠ 0 := fun e => h2 (List.length_eq_zero_iff.1 e)
    refine ⟨by rw [List.length_append, List.length_singleton, kN_snoc, i1, if_neg (by simp)]; simp, by rw [List.length_append, List.length_singleton, tN_succ, nth_app_r], fun i hi => ?_⟩
    by_cases e : i = l.length
    · subst e
      rw [nth_app_r, tN_app (Nat.le_refl _), kN_app (Nat.le_refl _), i2]
      exact ⟨h1, setV_one h3 h4, .inl ⟨rfl, by omega⟩, fun e => absurd e hne⟩
    · have hi' : i < l.length := by rw [List.length_append, List.length_singleton] at hi; omega
      rw [nth_app_l hi', tN_app (by omega), kN_app (by omega)]
      exact i3 i hi'
def QP (c : D.Config) (b : D.Book) : Int → D.Start → Prop := fun pol s =>
  s.K < countV (nth b.Policies pol.toNat) ∧ s.People = callV c b (nth (nth b.Policies pol.toNat).Steps (s.K % ((nth b.Policies pol.toNat).Steps.length : Int)).toNat) s.At
theorem QP.step {M : Int} {c : D.Config} {b : D.Book} : StepQ (QP c b) M c b := fun p _ _ h => ⟨h, rfl⟩
end Go.Proofs.YtfhcigjkfelnfaaGreat
/-
  What checks of pages say, and what steps, runs and answers keep of the lengths of pages.
-/
set_option maxRecDepth 100000
set_option linter.unusedVariables false
set_option linter.unusedSimpArgs false
namespace Go.Proofs.YtfhcigjkfelnfaaGreat
open Go AM
section
variable {R X Y : Type} {Q : R → Prop}
theorem AM.Ok.run2 {B : (X × Y → Option R) → X × Y → Option R} (n : Nat) (st : Nat → X) {r : Y} {fu : Nat} {x : X} (hx : x = st 0) (hf : n < fu) (hs : ∀ i, i < n → ∀ k, (Ok (k (st (i + 1), r)) Q → Ok (B k (st i, r)) Q)) (h : ∀ k, Ok (B k (st n, r)) Q) : Ok (iterF B fu (x, r)) Q :=
  Ok.run n (fun i => (st i, r)) (by rw [hx]) hf hs h
theorem AM.Ok.scan2 {B : (X × Y → Option R) → X × Y → Option R} (n : Nat) (st : Nat → X) {r : Y} (q : Nat → Bool) {fu : Nat} {x : X} (hx : x = st 0) (hf : n < fu) (hy : ∀ i, i < n → q i = true → (∀ j, j < i → q j = false) → ∀ k, Ok (B k (st i, r)) Q)
    (hn : ∀ i, i < n → q i = false → ∀ k, (Ok (k (st (i + 1), r)) Q → Ok (B k (st i, r)) Q)) (he : (∀ j, j < n → q j = false) → ∀ k, Ok (B k (st n, r)) Q) : Ok (iterF B fu (x, r)) Q :=
  Ok.scan n (fun i => (st i, r)) q (by rw [hx]) hf hy hn he
end
theorem asc32 : Asc ((List.range 32).map fun (i : Nat) => (i : Int)) := by unfold Asc; decide
structure CkF (b : D.Book) (p : D.Page) : Prop where
  id : 1 ≤ p.ID ∧ p.ID ≤ 999999
  pol : 0 ≤ p.Policy ∧ p.Policy < (b.Policies.length : Int)
  start : 0 ≤ p.Start ∧ p.Start ≤ 8589934592
  next : 0 ≤ p.Next ∧ p.Next ≤ countV (polOf b p)
  state : 0 ≤ p.State ∧ p.State ≤ 4
  by_ : -1 ≤ p.By ∧ p.By ≤ 31
  last : p.Start ≤ p.Last ∧ p.Last ≤ farV
  due : 0 ≤ p.Due ∧ p.Due ≤ farV
  until_ : 0 ≤ p.Until ∧ p.Until ≤ farV
  snoozes : 0 ≤ p.Snoozes ∧ p.Snoozes ≤ 4
  hands : 0 ≤ p.Hands ∧ p.Hands ≤ 4
  starts : p.Starts.length ≤ 200
  declined : setV p.Declined = true
  seen : p.Seen.Nodup ∧ p.Seen.length ≤ 64
section
variable {n : Nat} {c : D.Config} {b : D.Book} {p q : D.Page} {now : Int}
theorem checkV_facts (h : checkV b p = true) : CkF b p := by
  unfold checkV startsV seenV at h
  simp only [Bool.and_eq_true, inV_is, decide_eq_true_eq] at h
  obtain ⟨⟨⟨⟨⟨⟨⟨⟨⟨⟨⟨⟨⟨⟨h1, h2⟩, h3⟩, h4⟩, h5⟩, h6⟩, h7⟩, h8⟩, h9⟩, h10⟩, h11⟩, h12⟩, h13⟩, h14⟩, h15⟩ := h
  exact ⟨h1, by omega, h3, h5, h6, h7, h8, h9, h10, h11, h12, h13.2, h14, h15⟩
theorem CkF.polOK (h : CkF b p) (hb : BookOK b) : PolOK b.Teams.length (polOf b p) := hb.pol _ (nth_mem (by have := h.pol; omega))
theorem PageLen.stepQ (h : PageLen p) (hc : CkF b p) (hb : BookOK b) : PageLen (stepQ c b p) := by
  have h1 := hc.starts; have h2 := hc.next
  have h3 := countV_is (hc.polOK hb)
  unfold Go.Proofs.YtfhcigjkfelnfaaGreat.stepQ
  split
  · exact ⟨h.st, h.pe, h.de, h.se, h.nx⟩
  · split
    · exact ⟨h.st, h.pe, h.de, h.se, h.nx⟩
    · refine ⟨by dsimp only; simp; omega, ?_, by dsimp only; simp, h.se, by dsimp only; omega⟩
      refine mem_snoc h.pe ⟨?_, by dsimp only; omega, by dsimp only; omega⟩
      have := callV_len (c := c) (b := b) (s := stepAt b p) (t := p.Due)
      dsimp only; omega
theorem PageLen.page0 : PageLen page0 := ⟨by simp [Go.Proofs.YtfhcigjkfelnfaaGreat.page0], by simp [Go.Proofs.YtfhcigjkfelnfaaGreat.page0], by simp [Go.Proofs.YtfhcigjkfelnfaaGreat.page0], by simp [Go.Proofs.YtfhcigjkfelnfaaGreat.page0], by simp [Go.Proofs.YtfhcigjkfelnfaaGreat.page0]⟩
theorem PageLen.stepV (h : PageLen p) (hb : BookOK b) : PageLen (stepV c b p).1 := by
  unfold Go.Proofs.YtfhcigjkfelnfaaGreat.stepV
  split
  · exact .page0
  · rename_i hc
    split
    · exact .page0
    · split
      · exact .page0
      · exact h.stepQ (checkV_facts (by simpa using hc)) hb
theorem PageInv.plen {Q : Int → D.Start → Prop} {M : Int} (h : PageInv Q M b p) (hb : BookOK b) : PageLen p := by
  obtain ⟨h1, h2, h3⟩ := h.len hb
  have hf := checkV_facts (h.check hb)
  have hc := countV_is (h.polOK hb)
  have hlen : ∀ {l : List Int}, setV l = true → l.length ≤ 40 := by
    intro l hl
    have hde := setV_is.1 hl
    have e : l = ((List.range 32).map fun (i : Nat) => (i : Int)).filter fun z => l.contains z := asc_ext hde.1 (List.Pairwise.filter _ asc32) fun z => by
      simp only [List.mem_filter, List.contains_iff_mem, List.mem_map, List.mem_range]
      exact ⟨fun hz => ⟨⟨z.toNat, by have := hde.2 z hz; omega, by have := hde.2 z hz; omega⟩, hz⟩, fun hz => hz.2⟩
    rw [e]
    exact Nat.le_trans (List.length_filter_le _ _) (by simp)
  refine ⟨by omega, fun s hs => ?_, hlen h.declined, by have := hf.seen; omega, by have := hf.next; omega⟩
  obtain ⟨t, g1, _⟩ := h.goes
  obtain ⟨k1, k2, k3⟩ := g1.scan
  obtain ⟨i, hi, rfl⟩ := List.getElem_of_mem hs
  have := k3 i hi
  have hkk : kN p.Starts i ≤ 300 := by
    unfold kN
    have := List.length_filter_le (fun s : D.Start => decide (0 ≤ s.K)) (p.Starts.take i)
    have := List.length_take_le i p.Starts
    omega
  rw [show nth p.Starts i = p.Starts[i] by simp [nth, List.getD_eq_getElem?_getD, List.getElem?_eq_getElem hi]] at this
  exact ⟨hlen this.2.1, by omega, by omega⟩
end
end Go.Proofs.YtfhcigjkfelnfaaGreat
/-
  Pages on their way: what the program's steps and runs compute.
-/
set_option maxRecDepth 100000
set_option linter.unusedVariables false
set_option linter.unusedSimpArgs false
namespace Go.Proofs.YtfhcigjkfelnfaaGreat
open Go AM
attribute [local irreducible] dueV stepV runV checkV
section
variable {n : Nat} {c : D.Config} {b : D.Book} {p q : D.Page} {now : Int}
theorem due_is : escalate_Due 1000 p = some (dueV p) := by
  unfold escalate_Due dueV
  by_cases h0 : p.State = 0
  · simp [AM.cnd, h0]
  · by_cases h2 : p.State = 2 <;> simp [AM.cnd, h0, h2]
def partV (q : D.Policy) (i : Int) : Int × Int × Bool := if 0 ≤ i ∧ i < countV q then (i % (q.Steps.length : Int), i / (q.Steps.length : Int), true) else (0, 0, false)
theorem part_is {m : Nat} {q : D.Policy} {i : Int} (h : PolOK m q) : policy_Part 1000 q i = some (partV q i) := by
  have h2 := h.len
  have hc := countV_is h
  refine Ok.eq ?_
  unfold policy_Part partV
  refine Ok.oe (count_is h) ?_
  rw [wrap_id (x := countV q - 1) (by omega)]
  refine Ok.oe pIn ?_
  by_cases hi : 0 ≤ i ∧ i < countV q
  · have g1 := Int.ediv_le_self (a := i) (q.Steps.length : Int) hi.1
    have g2 : 0 ≤ i / (q.Steps.length : Int) := Int.ediv_nonneg hi.1 (by omega)
    refine Ok.np (by omega) (Ok.nzc (by omega) (Ok.nzc (by omega) (Ok.s ?_)))
    rw [if_pos hi, Int.tmod_eq_emod_of_nonneg hi.1, Int.tdiv_eq_ediv_of_nonneg hi.1, wrap_id (by omega)]
  · refine Ok.nn (by omega) (Ok.s ?_)
    rw [if_neg hi]
theorem mod_in {q : D.Policy} {i : Int} (h : 1 ≤ q.Steps.length) : 0 ≤ i % (q.Steps.length : Int) ∧ i % (q.Steps.length : Int) < (q.Steps.length : Int) :=
  ⟨Int.emod_nonneg _ (by omega), Int.emod_lt_of_pos _ (by omega)⟩
end
end Go.Proofs.YtfhcigjkfelnfaaGreat
/-
  Pages on their way: what the reference's checks, steps, runs and answers compute.
-/
set_option maxRecDepth 100000
set_option linter.unusedVariables false
set_option linter.unusedSimpArgs false
namespace Go.Proofs.YtfhcigjkfelnfaaGreat
open Go AM
attribute [local irreducible] dueV stepV runV checkV
section
variable {n : Nat} {c : D.Config} {b : D.Book} {p q : D.Page} {now : Int} {a : D.Answer}
theorem rin {fu : Nat} {x lo hi : Int} : r25_In fu x lo hi = some (inV x lo hi) := by
  unfold r25_In inV
  by_cases h1 : lo ≤ x <;> by_cases h2 : x ≤ hi <;> simp [AM.cnd, h1, h2]
theorem badS_t {l : List Int} {i : Nat} : badS l i = true ↔ ¬ (0 ≤ nth l i ∧ nth l i ≤ 31 ∧ (i = 0 ∨ nth l (i - 1) < nth l i)) := by
  unfold badS
  rw [Bool.not_eq_true', Bool.eq_false_iff]
  simp only [ne_eq, Bool.and_eq_true, Bool.or_eq_true, decide_eq_true_eq, and_assoc]
theorem badS_f {l : List Int} {i : Nat} : badS l i = false ↔ (0 ≤ nth l i ∧ nth l i ≤ 31 ∧ (i = 0 ∨ nth l (i - 1) < nth l i)) := by
  rw [← Bool.not_eq_true, badS_t, Decidable.not_not]
theorem set25_is {l : List Int} (hl : l.length < 900) : r25_Set 1000 l 32 = some (setV l) := by
  refine Ok.eq ?_
  unfold r25_Set
  refine Ok.scan l.length (fun i => ((l, 32, (i : Int), ()), ())) (badS l) rfl (by omega) (fun i hi hq _ k => ?_) (fun i hi hq k hk => ?_) (fun hq k => ?_)
  · have hb := badS_t.1 hq
    dsimp only
    rw [setV_bad hi hq]
    refine Ok.p (by omega) (Ok.j (Ok.atn hi (Ok.ite (fun h1 => Ok.s rfl) (fun h1 => Ok.atn hi (Ok.ite (fun h2 => Ok.s rfl) (fun h2 => ?_))))))
    have h0 : 0 < i := by omega
    refine Ok.p (by omega) ?_
    rw [show IntKind.wrap .i64 ((i : Int) - 1) = ((i - 1 : Nat) : Int) by rw [wrap_id (by omega)]; omega]
    exact Ok.atn (by omega) (Ok.atn hi (Ok.p (by omega) (Ok.s rfl)))
  · have hb := badS_f.1 hq
    dsimp only
    refine Ok.p (by omega) (Ok.j (Ok.atn hi (Ok.n (by omega) (Ok.atn hi (Ok.n (by omega) ?_)))))
    dsimp only
    rw [wrap_succ (by omega)]
    by_cases h0 : 0 < i
    · refine Ok.p (by omega) ?_
      rw [show IntKind.wrap .i64 ((i : Int) - 1) = ((i - 1 : Nat) : Int) by rw [wrap_id (by omega)]; omega]
      exact Ok.atn (by omega) (Ok.atn hi (Ok.n (by omega) hk))
    · exact Ok.n (by omega) hk
  · exact Ok.n (by omega) (Ok.s (setV_good hq).symm)
theorem starts29_is (h : PageLen p) : r29_starts 1000 p = some (startsV p) := by
  have hst := h.st
  have hnx := h.nx
  refine Ok.eq ?_
  unfold r29_starts startsV
  refine Ok.loop (fun m x => ∃ (i : Nat) (k t : Int), x = ((k, t, (i : Int), ()), p, ()) ∧ i ≤ p.Starts.length ∧ -1 ≤ k ∧ k ≤ 1000000 ∧ startsF p.Next k t (p.Starts.drop i) = startsF p.Next (-1) p.Start p.Starts ∧ m = p.Starts.length - i) (m := p.Starts.length) (by omega)
    ⟨0, -1, p.Start, rfl, by omega, by omega, by omega, rfl, rfl⟩ ?_
  rintro m x ⟨i, k, t, rfl, h1, h2, h2', h3, rfl⟩ K hK
  dsimp only
  refine Ok.ite (fun hi => ?_) (fun hi => ?_)
  · have hlt : i < p.Starts.length := by omega
    have hs := h.pe _ (nth_mem hlt)
    refine Ok.j (Ok.atn hlt ?_)
    obtain ⟨s, hse⟩ : ∃ s, nth p.Starts i = s := ⟨_, rfl⟩
    rw [drop_nth' hlt, startsF, hse] at h3
    rw [hse] at hs ⊢
    refine Ok.join (fun y => y = ((k, (i : Int), ()), p, s, ()) ∧ t ≤ s.At ∧ (s.K = -1 ∨ 0 ≤ s.K ∧ k < s.K ∧ s.K < p.Next) ∧ setV s.People = true) (fun y hy => ?_) (fun J hJ => ?_)
    · obtain ⟨rfl, c1, c2, c3⟩ := hy
      have hC : (decide (t ≤ s.At) && (decide (s.K = -1) || decide (0 ≤ s.K) && decide (k < s.K) && decide (s.K < p.Next)) && setV s.People) = true := by
        rw [c3]; simp; omega
      rw [hC, Bool.true_and] at h3
      dsimp only
      rw [wrap_succ (by omega)]
      refine Ok.ite (fun g => ?_) (fun g => ?_)
      · rw [show max k s.K = s.K by omega] at h3
        exact hK _ _ (by omega) ⟨i + 1, s.K, s.At, rfl, by omega, by omega, by omega, h3, rfl⟩
      · rw [show max k s.K = k by omega] at h3
        exact hK _ _ (by omega) ⟨i + 1, k, s.At, rfl, by omega, by omega, by omega, h3, rfl⟩
    · refine Ok.ite (fun g1 => Ok.s ?_) (fun g1 => Ok.ite (fun g2 => Ok.s ?_) (fun g2 => Ok.ite (fun g3 => Ok.ite (fun g4 => Ok.s ?_) (fun g4 => Ok.ite (fun g5 => Ok.s ?_) (fun g5 => Ok.oe (set25_is (by omega)) (Ok.cnd (fun g6 => hJ _ ⟨rfl, by omega, by omega, g6⟩) (fun g6 => Ok.s ?_))))) (fun g3 => Ok.oe (set25_is (by omega)) (Ok.cnd (fun g6 => hJ _ ⟨rfl, by omega, by omega, g6⟩) (fun g6 => Ok.s ?_)))))
      · rw [← h3, decide_eq_false (show ¬ t ≤ s.At by omega)]; rfl
      · rw [← h3, decide_eq_false (show ¬ s.K = -1 by omega), decide_eq_false (show ¬ 0 ≤ s.K by omega)]; simp
      · rw [← h3, decide_eq_false (show ¬ s.K = -1 by omega), decide_eq_false (show ¬ k < s.K by omega)]; simp
      · rw [← h3, decide_eq_false (show ¬ s.K = -1 by omega), decide_eq_false (show ¬ s.K < p.Next by omega)]; simp
      · rw [← h3, g6]; simp
      · rw [← h3, g6]; simp
  · have e : i = p.Starts.length := by omega
    refine Ok.s ?_
    subst e
    rw [List.drop_length, startsF] at h3
    rw [← h3, Bool.true_and]
    exact decide_eq_decide.2 (by omega)
theorem count25_is {m : Nat} {q : D.Policy} (h : PolOK m q) : r25_Count 1000 q = some (countV q) := by
  have h1 := h.rep
  have h2 := h.len
  refine Ok.eq ?_
  unfold r25_Count
  refine Ok.j (Ok.oe rin (Ok.bt (inV_is.2 (by omega)) (Ok.n (by omega) (Ok.s ?_))))
  rw [(countV_is h).1, wrap_id (x := q.Repeat + 1) (by omega), wrap_id]
  have h3 : q.Repeat = 0 ∨ q.Repeat = 1 ∨ q.Repeat = 2 := by omega
  rcases h3 with h3 | h3 | h3 <;> rw [h3] <;> omega
theorem waits25_is {m : Nat} {q : D.Policy} (h : PolOK m q) : r25_Waits 1000 q = some true := by
  have h2 := h.len
  refine Ok.eq ?_
  unfold r25_Waits
  refine Ok.run2 q.Steps.length (fun i => ((i : Int), ())) rfl (by omega) (fun i hi k hk => ?_) (fun k => Ok.n (by omega) (Ok.s rfl))
  dsimp only
  have hw := (h.step _ (nth_mem hi)).wait
  refine Ok.p (by omega) (Ok.atn hi (Ok.oe rin (Ok.nt (inV_is.2 (by omega)) ?_)))
  rw [wrap_succ (by omega)]
  exact hk
theorem part25_is {m : Nat} {q : D.Policy} {i : Int} (h : PolOK m q) : r25_Part 1000 q i = some (partV q i) := by
  have h2 := h.len
  have hc := countV_is h
  refine Ok.eq ?_
  unfold r25_Part partV
  refine Ok.j (Ok.ite (fun g1 => Ok.s ?_) (fun g1 => Ok.oe (count25_is h) (Ok.ite (fun g2 => Ok.s ?_) (fun g2 => Ok.nzc (by omega) (Ok.nzc (by omega) (Ok.s ?_))))))
  · rw [if_neg (by omega)]
  · rw [if_neg (by omega)]
  · have g3 := Int.ediv_le_self (a := i) (q.Steps.length : Int) (by omega)
    have g4 : 0 ≤ i / (q.Steps.length : Int) := Int.ediv_nonneg (by omega) (by omega)
    rw [if_pos (by omega), Int.tmod_eq_emod_of_nonneg (by omega), Int.tdiv_eq_ediv_of_nonneg (by omega), wrap_id (by omega)]
def newV (b : D.Book) (id pol start : Int) : D.Page × Int :=
  if inV id 1 999999 = true ∧ inV start 0 8589934592 = true then (if inV pol 0 ((b.Policies.length : Int) - 1) = true then (newP id pol start, 0) else (page0, 3)) else (page0, 1)
theorem new29_is {id pol start : Int} (hb : BookOK b) : r29_New 1000 b id pol start = some (newV b id pol start) := by
  have hp := hb.plen
  refine Ok.eq ?_
  unfold r29_New newV
  refine Ok.j (Ok.oe rin (Ok.cnd (fun h1 => Ok.oe rin (Ok.cnd (fun h2 => ?_) (fun h2 => Ok.s ?_))) (fun h1 => Ok.s ?_)))
  · dsimp only
    rw [if_pos ⟨h1, h2⟩, wrap_id (by omega)]
    refine Ok.oe rin (Ok.ncnd (fun h3 => Ok.s ?_) (fun h3 => Ok.s ?_))
    · rw [if_neg (by rw [h3]; simp)]; rfl
    · rw [if_pos h3]; rfl
  · rw [if_neg (by rw [h2]; simp)]; rfl
  · rw [if_neg (by rw [h1]; simp)]; rfl
theorem check29_is (hb : BookOK b) (h : PageLen p) : r29_Check 1000 b p = some (checkV b p) := by
  have hde := h.de; have hse := h.se
  have hpl := hb.plen
  refine Ok.eq ?_
  unfold r29_Check
  refine Ok.j (Ok.oe (new29_is hb) ?_)
  unfold newV
  by_cases h1 : inV p.ID 1 999999 = true ∧ inV p.Start 0 8589934592 = true
  · rw [if_pos h1]
    by_cases h2 : inV p.Policy 0 ((b.Policies.length : Int) - 1) = true
    · rw [if_pos h2]
      have h2' := inV_is.1 h2
      have hq : PolOK b.Teams.length (polOf b p) := hb.pol _ (nth_mem (by omega))
      have hw := waits_true hq
      refine Ok.n (by simp) (Ok.at h2'.1 (by omega) ?_)
      show Ok (optc (r25_Waits 1000 (polOf b p)) _) _
      refine Ok.oe (waits25_is hq) (Ok.t (Ok.at h2'.1 (by omega) ?_))
      show Ok (optc (r25_Count 1000 (polOf b p)) _) _
      refine Ok.oe (count25_is hq) (Ok.oe rin (Ok.cnd (fun h4 => ?_) (fun h4 => Ok.s (by simp [checkV, h4]))))
      refine Ok.j (Ok.oe rin (Ok.cnd (fun h5 => ?_) (fun h5 => Ok.s (by simp [checkV, h5]))))
      refine Ok.oe rin (Ok.cnd (fun h6 => ?_) (fun h6 => Ok.s (by simp [checkV, h6])))
      refine Ok.oe rin (Ok.cnd (fun h7 => ?_) (fun h7 => Ok.s (by have h7 : inV p.Last p.Start farV = false := h7; simp [checkV, h7])))
      refine Ok.oe rin (Ok.cnd (fun h8 => ?_) (fun h8 => Ok.s (by have h8 : inV p.Due 0 farV = false := h8; simp [checkV, h8])))
      refine Ok.oe rin (Ok.cnd (fun h9 => ?_) (fun h9 => Ok.s (by have h9 : inV p.Until 0 farV = false := h9; simp [checkV, h9])))
      refine Ok.j (Ok.oe rin (Ok.cnd (fun h10 => ?_) (fun h10 => Ok.s (by simp [checkV, h10]))))
      refine Ok.oe rin (Ok.cnd (fun h11 => ?_) (fun h11 => Ok.s (by simp [checkV, h11])))
      refine Ok.oe (starts29_is h) (Ok.cnd (fun h12 => ?_) (fun h12 => Ok.s (by simp [checkV, h12])))
      refine Ok.oe (set25_is (by omega)) (Ok.cnd (fun h13 => ?_) (fun h13 => Ok.s (by simp [checkV, h13])))
      refine Ok.ite (fun h14 => Ok.s (by simp [checkV, seenV, decide_eq_false (show ¬ p.Seen.length ≤ 64 by omega)])) (fun h14 => ?_)
      have h7' : inV p.Last p.Start farV = true := h7
      have h8' : inV p.Due 0 farV = true := h8
      have h9' : inV p.Until 0 farV = true := h9
      have hcv : checkV b p = seenV p.Seen := by simp [checkV, h1.1, h1.2, h2, hw, h4, h5, h6, h7', h8', h9', h10, h11, h12, h13]
      rw [hcv]
      unfold seenV
      rw [decide_eq_true (show p.Seen.length ≤ 64 by omega), Bool.and_true]
      refine Ok.scan2 p.Seen.length (fun i => ((i : Int), ())) (fun i => (p.Seen.take i).contains (nth p.Seen i)) rfl (by omega) (fun i hi hq _ k => ?_) (fun i hi hq k hk => ?_) (fun hq k => ?_)
      · refine Ok.p (by omega) (Ok.natn (Ok.lec (by omega) (Ok.atn hi (Ok.oe (has25_is (by simp; omega)) (Ok.bt hq (Ok.s ?_))))))
        rw [seen_bad hi hq]
      · refine Ok.p (by omega) (Ok.natn (Ok.lec (by omega) (Ok.atn hi (Ok.oe (has25_is (by simp; omega)) (Ok.bf hq ?_)))))
        rw [wrap_succ (by omega)]; exact hk
      · exact Ok.n (by omega) (Ok.s (decide_eq_true (seen_good hq)).symm)
    · rw [if_neg h2]
      exact Ok.p (by simp) (Ok.s (by simp [checkV, h2]))
  · rw [if_neg h1]
    refine Ok.p (by simp) (Ok.s ?_)
    have : checkV b p = false := by
      rw [Bool.eq_false_iff]
      intro hc
      have hf := checkV_facts hc
      exact h1 ⟨inV_is.2 hf.id, inV_is.2 hf.start⟩
    rw [this]
theorem due29_is : r29_Due 1000 p = some (dueV p) := due_is
theorem called29_is (h : PageLen p) : r29_Called 1000 p = some (calledV p) := by
  have h1 := h.st
  refine Ok.eq ?_
  unfold r29_Called calledV
  refine Ok.ite (fun h0 => Ok.s ?_) (fun h0 => ?_)
  · rw [if_pos (List.eq_nil_iff_length_eq_zero.2 (by omega))]
  · have hne : p.Starts ≠ [] := fun e => h0 (by rw [e]; rfl)
    have hpos := List.length_pos_iff.2 hne
    rw [show IntKind.wrap .i64 (((p.Starts.length : Nat) : Int) - 1) = ((p.Starts.length - 1 : Nat) : Int) by rw [wrap_id (by omega)]; omega]
    have hp := (h.pe _ (nth_mem (l := p.Starts) (i := p.Starts.length - 1) (by omega))).1
    refine Ok.atn (by omega) (Ok.lec (by omega) (Ok.s ?_))
    rw [if_neg hne]
theorem copy29_is (h : PageLen p) : r29_Copy 1000 p = some p := by
  have h1 := h.st; have h2 := h.de; have h3 := h.se
  refine Ok.eq ?_
  unfold r29_Copy
  refine Ok.run p.Starts.length (fun i => (((i : Int), ()), p, page0, p.Starts.take i, ())) rfl (by omega) (fun i hi k hk => ?_) (fun k => ?_)
  · dsimp only
    have hp := (h.pe _ (nth_mem hi)).1
    refine Ok.p (by omega) (Ok.atn hi (Ok.lec (by omega) (Ok.lec (by simp; omega) ?_)))
    rw [wrap_succ (by omega), take_snoc' hi]
    exact hk
  · dsimp only
    rw [List.take_length]
    exact Ok.n (by omega) (Ok.lec (by omega) (Ok.lec (by omega) (Ok.s rfl)))
theorem filter_snoc {l : List Int} {f : Int → Bool} {i : Nat} (hi : i < l.length) : (l.take (i + 1)).filter f = (l.take i).filter f ++ (if f (nth l i) = true then [nth l i] else []) := by
  rw [← take_snoc' hi, List.filter_append]
  congr 1
  by_cases h : f (nth l i) = true
  · simp [h]
  · simp [h]
theorem step29_is (h : CfgOK n c) (hn : n ≤ 48) (hb : BookOK b) (hp : PageLen p) : r29_Step 1000 c b p = some (stepV c b p) := by
  refine Ok.eq ?_
  unfold r29_Step
  have hst := hp.st
  refine Ok.oe (check29_is hb hp) (Ok.ncnd (fun hc => Ok.s ?_) (fun hc => ?_))
  · unfold stepV; rw [if_pos hc]; rfl
  have hf := checkV_facts hc
  refine Ok.oe due29_is (Ok.ncnd (fun hd => Ok.s ?_) (fun hd => ?_))
  · unfold stepV; rw [if_neg (by rw [hc]; simp), if_pos hd]; rfl
  have hst2 := hf.starts
  refine Ok.ite (fun hl => Ok.s ?_) (fun hl => ?_)
  · unfold stepV; rw [if_neg (by rw [hc]; simp), if_neg (by rw [hd]; simp), if_pos (by omega)]; rfl
  have hV : stepV c b p = (stepQ c b p, 0) := by unfold stepV; rw [if_neg (by rw [hc]; simp), if_neg (by rw [hd]; simp), if_neg (by omega)]
  rw [hV]
  have hs := due_state hd
  have hpol := hf.pol; have hnx := hf.next; have hl2 := hf.last; have hdu := hf.due
  refine Ok.oe (copy29_is hp) (Ok.ite (fun h2 => Ok.s ?_) (fun h2 => ?_))
  · unfold stepQ
    rw [if_pos h2, dueV_fst2 h2]
  · have h0 : p.State = 0 := by omega
    have hq := hf.polOK hb
    have hcn := countV_is hq
    have hql := hq.len
    refine Ok.at hpol.1 hpol.2 ?_
    show Ok (optc (r25_Part 1000 (polOf b p) p.Next) _) _
    refine Ok.oe (part25_is hq) ?_
    unfold partV
    rw [dueV_fst0 h0]
    by_cases he : p.Next < countV (polOf b p)
    · rw [if_pos ⟨hnx.1, he⟩]
      dsimp only
      have hm := mod_in (q := polOf b p) (i := p.Next) hql.1
      refine Ok.f (Ok.at hm.1 hm.2 ?_)
      have hstp := hq.step _ (step_in hq hnx.1)
      have hw : 0 ≤ (stepAt b p).Wait ∧ (stepAt b p).Wait ≤ 900 := hstp.wait
      have hlen : (stepAt b p).Targets.length ≤ 2 := hstp.len
      show Ok (optc (r25_People 1000 c b (stepAt b p).Targets p.Due) _) _
      refine Ok.oe (peopleR_ok h hn hb hstp.target (by omega)) ?_
      have hpl := peopleV_len (c := c) (b := b) (l := (stepAt b p).Targets) (t := p.Due)
      obtain ⟨l, hl3⟩ : ∃ l, peopleV c b (stepAt b p).Targets p.Due = l := ⟨_, rfl⟩
      rw [hl3] at hpl ⊢
      have hcall : callV c b (stepAt b p) p.Due = l.filter fun z => reachV c z p.Due (stepAt b p).Urgent := by unfold callV; rw [hl3]
      refine Ok.run l.length (fun i => ((p.Due, p.Next % ((polOf b p).Steps.length : Int), l, (i : Int), ()), c, p, page0, (p.ID, p.Policy, p.Start, p.Next, p.Due, p.State, p.By, p.Until, max p.Due p.Last, p.Snoozes, p.Hands, ()), polOf b p, (p.Next, p.Due, ()), p.Starts, p.Declined, p.Seen, (l.take i).filter (fun z => reachV c z p.Due (stepAt b p).Urgent), ())) rfl (by omega) (fun i hi k hk => ?_) (fun k => ?_)
      · dsimp only
        have hfl := List.length_filter_le (fun z => reachV c z p.Due (stepAt b p).Urgent) (l.take i)
        have htl := List.length_take_le i l
        refine Ok.p (by omega) (Ok.j (Ok.atn hi (Ok.at hm.1 hm.2 (Ok.oe (reachR_is h hn) ?_))))
        show Ok (AM.cnd (reachV c (nth l i) p.Due (stepAt b p).Urgent) _ _) _
        rw [filter_snoc hi] at hk
        refine Ok.cnd (fun g => Ok.atn hi (Ok.lec (by simp; omega) ?_)) (fun g => ?_)
        · dsimp only
          rw [if_pos g] at hk
          rw [wrap_succ (by omega)]
          exact hk
        · dsimp only
          rw [if_neg (by rw [g]; simp), List.append_nil] at hk
          rw [wrap_succ (by omega)]
          exact hk
      · dsimp only
        rw [List.take_length, ← hcall]
        unfold stepQ
        rw [if_neg h2, if_neg (by omega)]
        refine Ok.n (by omega) (Ok.lec (by simp; omega) (Ok.j (Ok.ite (fun g => Ok.at hm.1 hm.2 (Ok.s ?_)) (fun g => Ok.s ?_))))
        · have hne : callV c b (stepAt b p) p.Due ≠ [] := fun e => by rw [e] at g; simp at g
          unfold farV at hdu
          show _ = _
          rw [if_neg hne, wrap_id (by omega)]
          have : IntKind.wrap .i64 (p.Due + (stepAt b p).Wait) = p.Due + (stepAt b p).Wait := wrap_id (by omega)
          unfold stepAt at this
          rw [this]
          rfl
        · have he' : callV c b (stepAt b p) p.Due = [] := List.eq_nil_iff_length_eq_zero.2 (by omega)
          show _ = _
          rw [if_pos he', wrap_id (by omega)]
    · rw [if_neg (by omega)]
      dsimp only
      refine Ok.t (Ok.s ?_)
      unfold stepQ
      rw [if_neg h2, if_pos (by omega)]
theorem run29_is (h : CfgOK n c) (hn : n ≤ 48) (hb : BookOK b) (hp : PageLen p) : r29_Run 1000 c b p now = some (runV c b p now) := by
  refine Ok.eq ?_
  unfold r29_Run
  refine Ok.oe (check29_is hb hp) (Ok.ncnd (fun hc => Ok.s ?_) (fun hc => ?_))
  · unfold runV; rw [if_pos hc]; rfl
  rw [runV_is hc]
  have hf := checkV_facts hc
  have hcn := countV_is (hf.polOK hb)
  have hnx := hf.next
  have hle : leftV b p ≤ 11 := by
    unfold leftV
    split
    · omega
    · split <;> omega
  refine Ok.oe (copy29_is hp) ?_
  refine Ok.loop (fun m x => ∃ (q : D.Page) (k : Nat), x = ((now, ()), c, b, q, page0, ()) ∧ PageLen q ∧ leftV b q + 1 ≤ k ∧ runN c b now k q = runN c b now 100 p ∧ m = leftV b q) (m := leftV b p) (by omega) ⟨p, 100, rfl, hp, by omega, rfl, rfl⟩ ?_
  rintro m x ⟨q, k, rfl, hq, hk, he, rfl⟩ K hK
  dsimp only
  obtain ⟨k, rfl⟩ : ∃ k', k = k' + 1 := ⟨k - 1, by omega⟩
  rw [runN] at he
  refine Ok.oe due29_is ?_
  have hwv : waitB q now = ((dueV q).2 && decide ((dueV q).1 ≤ now)) := rfl
  refine Ok.join (fun y => y = ((now, ()), c, b, q, page0, ()) ∧ waitB q now = true) (fun y hy => ?_) (fun J hJ => ?_)
  · obtain ⟨rfl, hw⟩ := hy
    dsimp only
    rw [if_pos hw] at he
    refine Ok.oe (step29_is h hn hb hq) (Ok.ite (fun h1 => Ok.s ?_) (fun h1 => ?_))
    · rw [if_pos h1] at he; exact he
    · rw [if_neg h1] at he
      have hd := waitB_due hw
      have hst : stepV c b q = (stepQ c b q, 0) := by
        revert h1
        unfold stepV
        split
        · simp
        · split
          · simp
          · split
            · simp
            · intro _; rfl
      have hl := step_left (c := c) (b := b) hd.1
      rw [hst] at he ⊢
      refine hK (leftV b (stepQ c b q)) _ hl ⟨stepQ c b q, k, rfl, ?_, by omega, he, rfl⟩
      have := hq.stepV (c := c) hb
      rw [hst] at this; exact this
  · refine Ok.cnd (fun h1 => Ok.ite (fun h2 => Ok.s ?_) (fun h2 => hJ _ ⟨rfl, by rw [hwv, h1]; simp; omega⟩)) (fun h1 => Ok.s ?_)
    · rw [if_neg (by rw [hwv, h1]; simp; omega)] at he; exact he
    · rw [if_neg (by rw [hwv, h1]; simp)] at he; exact he
end
end Go.Proofs.YtfhcigjkfelnfaaGreat
/-
  Pages on their way: what the program's answers compute.
-/
set_option maxRecDepth 100000
set_option linter.unusedVariables false
set_option linter.unusedSimpArgs false
namespace Go.Proofs.YtfhcigjkfelnfaaGreat
open Go AM
section
variable {n : Nat} {c : D.Config} {b : D.Book} {p q : D.Page} {now : Int} {a : D.Answer}
theorem called_len (h : PageLen p) : (calledV p).length ≤ 40 := by
  unfold calledV
  split
  · simp
  · rename_i hne
    have hpos := List.length_pos_iff.2 hne
    exact (h.pe _ (nth_mem (by omega))).1
end
end Go.Proofs.YtfhcigjkfelnfaaGreat
/-
  Pages on their way: what the reference's answers compute; pages compared.
-/
set_option maxRecDepth 100000
set_option linter.unusedVariables false
set_option linter.unusedSimpArgs false
namespace Go.Proofs.YtfhcigjkfelnfaaGreat
open Go AM
section
variable {n : Nat} {c : D.Config} {b : D.Book} {p q : D.Page} {now : Int} {a : D.Answer}
theorem valid28_is : r28_Valid 1000 a = some (validV a) := by
  refine Ok.eq ?_
  unfold r28_Valid
  refine Ok.j (Ok.oe rin (Ok.cnd (fun h1 => Ok.oe rin (Ok.cnd (fun h2 => Ok.oe rin (Ok.cnd (fun h3 => Ok.oe rin (Ok.cnd (fun h4 => ?_) (fun h4 => Ok.s ?_))) (fun h3 => Ok.s ?_))) (fun h2 => Ok.s ?_))) (fun h1 => Ok.s ?_)))
  · dsimp only
    refine Ok.join (fun y => y.1.1 = a.Kind ∧ y.1.2.1 = decide (a.Kind = 1 ∨ a.Kind = 2 ∨ a.Kind = 5) ∧ y.2 = (a, ())) (fun y hy => ?_) (fun J hJ => ?_)
    · obtain ⟨⟨k, z, ⟨⟩⟩, r⟩ := y
      obtain ⟨e1, e2, e3⟩ := hy
      dsimp only at e1 e2 e3
      subst e3; subst e1
      dsimp only
      refine Ok.cnd (fun g => Ok.s ?_) (fun g => Ok.ite (fun k3 => Ok.oe rin (Ok.s ?_)) (fun k3 => Ok.ite (fun k4 => Ok.oe rin (Ok.s ?_)) (fun k4 => Ok.s ?_)))
      · rw [e2] at g
        have g := of_decide_eq_true g
        have hk : inV a.Kind 1 5 = true := inV_is.2 (by omega)
        unfold validV
        rw [if_neg (by omega), if_neg (by omega), h1, h2, h3, h4, hk]; rfl
      · have hk : inV a.Kind 1 5 = true := inV_is.2 (by omega)
        unfold validV
        rw [if_pos k3, h1, h2, h3, h4, hk]; rfl
      · have hk : inV a.Kind 1 5 = true := inV_is.2 (by omega)
        unfold validV
        rw [if_neg k3, if_pos k4, h1, h2, h3, h4, hk]; rfl
      · rw [e2] at g
        have g := of_decide_eq_false g
        have hk : inV a.Kind 1 5 = false := Bool.eq_false_iff.2 fun h => by have := inV_is.1 h; omega
        unfold validV
        rw [hk]; simp
    · refine Ok.ite (fun g1 => hJ _ ⟨rfl, ?_, rfl⟩) (fun g1 => Ok.ite (fun g2 => hJ _ ⟨rfl, ?_, rfl⟩) (fun g2 => hJ _ ⟨rfl, ?_, rfl⟩))
      all_goals exact decide_eq_decide.2 (by omega)
  · unfold validV; rw [h4]; simp
  · unfold validV; rw [h3]; simp
  · unfold validV; rw [h2]; simp
  · unfold validV; rw [h1]; simp
theorem refused29_is (hf : CkF b p) : r29_refused 1000 p a = some (refusedV p a) := by
  have hs1 := hf.seen; have hs2 := hf.snoozes; have hs3 := hf.hands; have hs4 := hf.starts
  refine Ok.eq ?_
  unfold r29_refused
  refine Ok.oe due29_is ?_
  rcases hdv : dueV p with ⟨da, dd⟩
  dsimp only
  refine Ok.j (Ok.ite (fun g1 => Ok.s ?_) (fun g1 => Ok.cnd (fun g2 => Ok.ite (fun g3 => Ok.s ?_) (fun g3 => ?_)) (fun g2 => ?_)))
  · unfold refusedV; rw [if_pos (.inl g1)]
  · unfold refusedV; rw [if_pos (.inr (by unfold waitB; rw [hdv, g2]; simp; omega))]
  all_goals
    have hw : waitB p a.At = false := by
      unfold waitB
      rw [hdv, g2]
      first | rfl | (simp; omega)
    unfold refusedV
    rw [if_neg (by rw [hw]; simp; omega)]
    refine Ok.join (fun y => y.1.1 = decide (p.State = 4 ∨ (p.State = 3 ∧ a.Kind ≠ 5) ∨ (p.State = 1 ∧ a.Kind = 2)) ∧ y.2 = (p, a, ())) (fun y hy => ?_) (fun J hJ => ?_)
    · obtain ⟨⟨s2, ⟨⟩⟩, r⟩ := y
      obtain ⟨k2, k3⟩ := hy
      dsimp only at k2 k3
      subst k3
      dsimp only
      refine Ok.cnd (fun g3 => Ok.s ?_) (fun g3 => ?_)
      · rw [k2] at g3; rw [if_pos (of_decide_eq_true g3)]
      · rw [k2] at g3; rw [if_neg (of_decide_eq_false g3)]
        refine Ok.join (fun y => y.1.1 = decide (p.Seen.length = 64 ∨ (a.Kind = 3 ∧ p.Snoozes = 4) ∨ (a.Kind = 4 ∧ (p.Hands = 4 ∨ p.Starts.length = 200)))) (fun y hy => ?_) (fun J hJ => ?_)
        · obtain ⟨⟨s3, ⟨⟩⟩, ⟨⟩⟩ := y
          dsimp only at hy ⊢
          refine Ok.cnd (fun g4 => Ok.s ?_) (fun g4 => Ok.s ?_)
          · rw [hy] at g4; rw [if_pos (of_decide_eq_true g4)]
          · rw [hy] at g4; rw [if_neg (of_decide_eq_false g4)]
        · refine Ok.ite (fun g4 => hJ _ ?_) (fun g4 => Ok.ite (fun g5 => Ok.ite (fun g6 => hJ _ ?_) (fun g6 => Ok.ite (fun g7 => Ok.ite (fun g8 => hJ _ ?_) (fun g8 => Ok.ite (fun g9 => hJ _ ?_) (fun g9 => hJ _ ?_))) (fun g7 => hJ _ ?_))) (fun g5 => Ok.ite (fun g7 => Ok.ite (fun g8 => hJ _ ?_) (fun g8 => Ok.ite (fun g9 => hJ _ ?_) (fun g9 => hJ _ ?_))) (fun g7 => hJ _ ?_)))
          all_goals (dsimp only; first | exact (decide_eq_true (by omega)).symm | exact (decide_eq_false (by omega)).symm | exact decide_eq_decide.2 (by omega))
    · refine Ok.ite (fun g3 => hJ _ ⟨?_, rfl⟩) (fun g3 => Ok.ite (fun g4 => Ok.ite (fun g5 => hJ _ ⟨?_, rfl⟩) (fun g5 => Ok.ite (fun g6 => Ok.ite (fun g7 => hJ _ ⟨?_, rfl⟩) (fun g7 => hJ _ ⟨?_, rfl⟩)) (fun g6 => hJ _ ⟨?_, rfl⟩))) (fun g4 => Ok.ite (fun g6 => Ok.ite (fun g7 => hJ _ ⟨?_, rfl⟩) (fun g7 => hJ _ ⟨?_, rfl⟩)) (fun g6 => hJ _ ⟨?_, rfl⟩)))
      all_goals (dsimp only; first | exact (decide_eq_true (by omega)).symm | exact (decide_eq_false (by omega)).symm | exact decide_eq_decide.2 (by omega))
theorem with25_plus {l : List Int} {x : Int} (hl : l.length ≤ 400) (h : Asc l) : r25_With 1000 l x = some (plusV l x) := by
  rw [withR hl]
  congr 1
  exact asc_ext (withV_is h).1 (plusV_is h).1 fun z => by rw [(withV_is h).2, (plusV_is h).2]
theorem answer29_is (hb : BookOK b) (h : PageLen p) : r29_Answer 1000 c b p a = some (answerV b p a) := by
  have hse := h.se; have hst := h.st; have hde := h.de
  refine Ok.eq ?_
  unfold r29_Answer
  refine Ok.join (fun y => y = ((), p, a, page0, ()) ∧ checkV b p = true ∧ validV a = true) (fun y hy => ?_) (fun J hJ => ?_)
  · obtain ⟨rfl, hc, hv⟩ := hy
    dsimp only
    unfold answerV
    rw [if_neg (by rw [hc, hv]; simp)]
    have hf := checkV_facts hc
    have hv' := hv
    unfold validV at hv'
    simp only [Bool.and_eq_true, inV_is] at hv'
    obtain ⟨⟨⟨⟨⟨v1, v2⟩, v3⟩, v4⟩, v5⟩, v6⟩ := hv'
    have hsn := hf.snoozes; have hha := hf.hands
    refine Ok.ite (fun g1 => Ok.s ?_) (fun g1 => ?_)
    · rw [if_pos g1]; rfl
    rw [if_neg g1]
    refine Ok.oe (copy29_is h) (Ok.oe (has25_is (by omega)) (Ok.cnd (fun g2 => Ok.s ?_) (fun g2 => ?_)))
    · rw [if_pos g2]
    rw [if_neg (by rw [g2]; simp)]
    refine Ok.oe (refused29_is hf) (Ok.ite (fun g3 => Ok.s ?_) (fun g3 => ?_))
    · rw [if_pos g3]; rfl
    rw [if_neg g3]
    refine Ok.lec (by simp; omega) (Ok.j ?_)
    unfold answerQ
    refine Ok.ite (fun k1 => Ok.ite (fun k2 => Ok.s ?_) (fun k2 => Ok.s ?_)) (fun k1 => Ok.ite (fun k2 => ?_) (fun k2 => Ok.ite (fun k3 => Ok.s ?_) (fun k3 => Ok.ite (fun k4 => Ok.lec (by simp; omega) (Ok.s ?_)) (fun k4 => Ok.ite (fun k5 => Ok.s ?_) (fun k5 => absurd v5 (by omega))))))
    · rw [if_pos k1, if_pos k2]
    · rw [if_pos k1, if_neg k2]
    · rw [if_neg k1, if_pos k2]
      have hcl := called_len h
      refine Ok.oe (called29_is h) ?_
      refine Ok.join (fun y => y = ((calledV p, ()), p, a, page0, (p.ID, p.Policy, p.Start, p.Next, p.Due, p.State, p.By, p.Until, a.At, p.Snoozes, p.Hands, declQ p a, ()), p.Starts, p.Seen ++ [a.ID], ())) (fun y hy => ?_) (fun J hJ => ?_)
      · subst hy
        dsimp only
        have hdl : (declQ p a).length ≤ 900 := by
          unfold declQ plusV
          split
          · have h1 := List.length_filter_le (fun z => decide (z < a.Person)) p.Declined
            have h2 := List.length_filter_le (fun z => decide (a.Person < z)) p.Declined
            simp only [List.length_append, List.length_cons]; omega
          · omega
        obtain ⟨aD, haD⟩ : ∃ aD : Nat → Bool, ∀ i, aD i = (decide ((0 : Int) < (((calledV p).length : Nat) : Int)) && ((calledV p).take i).all fun z => (declQ p a).contains z) := ⟨fun i => _, fun i => rfl⟩
        have hall : ∀ i, i < (calledV p).length → aD (i + 1) = (aD i && (declQ p a).contains (nth (calledV p) i)) := fun i hi => by
          rw [haD, haD, ← take_snoc' hi, List.all_append, Bool.and_assoc]
          simp
        have hlast : allDown p a = aD (calledV p).length := by
          rw [haD, List.take_length]
          unfold allDown
          congr 1
          refine decide_eq_decide.2 ⟨fun hne => by have := List.length_pos_iff.2 hne; omega, fun hpos e => by rw [e] at hpos; simp at hpos⟩
        refine Ok.run2 (calledV p).length (fun i => (calledV p, aD i, (i : Int), ())) (by rw [haD]; simp) (by omega) (fun i hi k hk => ?_) (fun k => ?_)
        · dsimp only at hk ⊢
          rw [hall i hi] at hk
          refine Ok.p (by omega) (Ok.j (Ok.cnd (fun g => Ok.atn hi (Ok.oe (has25_is hdl) (Ok.cnd (fun g' => ?_) (fun g' => ?_)))) (fun g => ?_)))
          · dsimp only
            rw [wrap_succ (by omega)]
            rw [g, g'] at hk; exact hk
          · dsimp only
            rw [wrap_succ (by omega)]
            rw [g, g'] at hk; exact hk
          · dsimp only
            rw [wrap_succ (by omega)]
            rw [g] at hk; exact hk
        · dsimp only
          rw [hlast]
          refine Ok.n (by omega) (Ok.cnd (fun g => Ok.ite (fun g0 => Ok.s ?_) (fun g0 => Ok.s ?_)) (fun g => Ok.s ?_))
          · rw [if_pos ⟨g, g0⟩]
          · rw [if_neg (fun hx => g0 hx.2)]
          · rw [if_neg (by rw [g]; simp)]
      · refine Ok.oe (has25_is (by omega)) (Ok.cnd (fun g4 => ?_) (fun g4 => ?_))
        · have hd := (setV_is.1 hf.declined).1
          refine Ok.oe (with25_plus (by omega) hd) (hJ _ ?_)
          have : declQ p a = plusV p.Declined a.Person := by unfold declQ; rw [if_pos g4]
          rw [this]
        · refine hJ _ ?_
          have : declQ p a = p.Declined := by unfold declQ; rw [if_neg (by rw [g4]; simp)]
          rw [this]
    · rw [if_neg k1, if_neg k2, if_pos k3]
      rw [if_pos k3] at v6
      have v6 := inV_is.1 v6
      rw [wrap_id (by omega), wrap_id (by omega)]
    · rw [if_neg k1, if_neg k2, if_neg k3, if_pos k4, wrap_id (by omega), wrap_id (by omega)]
    · rw [if_neg k1, if_neg k2, if_neg k3, if_neg k4]
  · refine Ok.oe (check29_is hb h) (Ok.cnd (fun g1 => Ok.oe valid28_is (Ok.cnd (fun g2 => hJ _ ⟨rfl, g1, g2⟩) (fun g2 => Ok.s ?_))) (fun g1 => Ok.s ?_))
    · unfold answerV; rw [if_pos (.inr g2)]; rfl
    · unfold answerV; rw [if_pos (.inl g1)]; rfl
end
end Go.Proofs.YtfhcigjkfelnfaaGreat
/-
  What else is kept of made pages: who declined, which answers were seen. Plain Lean.
-/
set_option maxRecDepth 100000
set_option linter.unusedVariables false
set_option linter.unusedSimpArgs false
namespace Go.Proofs.YtfhcigjkfelnfaaGreat
open Go AM
section
variable {n : Nat} {c : D.Config} {b : D.Book} {p q : D.Page} {now k M : Int} {a : D.Answer} {Q : Int → D.Start → Prop}
structure PgX (k : Int) (p : D.Page) : Prop where
  decl : ∀ x ∈ p.Declined, x < 4
  seen : ∀ x ∈ p.Seen, 1 ≤ x ∧ x ≤ k
theorem PgX.mono {k' : Int} (h : PgX k p) (hk : k ≤ k') : PgX k' p := ⟨h.decl, fun x hx => ⟨(h.seen x hx).1, Int.le_trans (h.seen x hx).2 hk⟩⟩
theorem PgX.step (h : PgX k p) : PgX k (stepQ c b p) := by
  unfold stepQ
  split
  · exact ⟨h.decl, h.seen⟩
  · split
    · exact ⟨h.decl, h.seen⟩
    · exact ⟨by simp, h.seen⟩
theorem PgX.run (h : PgX k p) (hb : BookOK b) (hQ : StepQ Q M c b) (hi : PageInv Q M b p) : PgX k (runV c b p now).1 :=
  runV_ind hb hQ (fun q _ _ hr => hr.step) hi h
theorem plusV_mem {l : List Int} {x z : Int} (h : z ∈ plusV l x) : z ∈ l ∨ z = x := by
  unfold plusV at h
  rcases List.mem_append.1 h with h | h
  · exact .inl (List.mem_filter.1 h).1
  · rcases List.mem_cons.1 h with h | h
    · exact .inr h
    · exact .inl (List.mem_filter.1 h).1
theorem PgX.answer (h : PgX k p) (ha : a.Person < 4) (hi : 1 ≤ a.ID ∧ a.ID ≤ k) : PgX k (answerQ p a) := by
  have hs : ∀ x ∈ p.Seen ++ [a.ID], 1 ≤ x ∧ x ≤ k := mem_snoc h.seen hi
  have hd : ∀ x ∈ declQ p a, x < 4 := by
    unfold declQ
    split
    · intro x hx
      rcases plusV_mem hx with hx | rfl
      · exact h.decl x hx
      · exact ha
    · exact h.decl
  unfold answerQ
  split
  · split
    · exact ⟨h.decl, hs⟩
    · exact ⟨h.decl, hs⟩
  · split
    · exact ⟨hd, hs⟩
    · split
      · exact ⟨h.decl, hs⟩
      · split
        · exact ⟨by simp, hs⟩
        · exact ⟨h.decl, hs⟩
theorem PgX.new {id pol start : Int} : PgX k (newP id pol start) := ⟨by simp [newP], by simp [newP]⟩
end
end Go.Proofs.YtfhcigjkfelnfaaGreat
/-
  How the statements begin: light inputs, dice.
-/
set_option linter.unusedVariables false
namespace Go.Proofs.YtfhcigjkfelnfaaGreat
open Go AM
theorem light_is {t : List Int} : made_Light 1000 t = some (decide (((t.length : Nat) : Int) ≤ 500)) := rfl
theorem roll_is {t : List Int} : made_Roll 1000 t = some ⟨t, 0⟩ := rfl
theorem dice0 {t : List Int} : DiceOK t ⟨t, 0⟩ := ⟨rfl, Int.le_refl _, by dsimp only; omega⟩
theorem light_len {t : List Int} (h : decide (((t.length : Nat) : Int) ≤ 500) = true) : t.length ≤ 500 := by have := of_decide_eq_true h; omega
end Go.Proofs.YtfhcigjkfelnfaaGreat
/-
  Pages and answers that are made by dice: what holds of them.
-/
set_option maxRecDepth 100000
set_option linter.unusedVariables false
set_option linter.unusedSimpArgs false
namespace Go.Proofs.YtfhcigjkfelnfaaGreat
open Go AM
attribute [local irreducible] dueV stepV runV checkV answerV
section
variable {n : Nat} {c : D.Config} {b : D.Book} {p q : D.Page} {now k M : Int} {a : D.Answer} {Q : Int → D.Start → Prop} {L : List Int} {d : D.Dice}
structure AnsOK (a : D.Answer) : Prop where
  pers : -1 ≤ a.Person ∧ a.Person < 4
  kind : 1 ≤ a.Kind ∧ a.Kind ≤ 5
  arg3 : a.Kind = 3 → 1 ≤ a.Arg ∧ a.Arg ≤ 5000
  arg4 : a.Kind = 4 → 0 ≤ a.Arg ∧ a.Arg < 4
  arg0 : a.Kind ≠ 3 → a.Kind ≠ 4 → a.Arg = 0
theorem AnsOK.valid (h : AnsOK a) (h1 : 1 ≤ a.ID ∧ a.ID ≤ 999999) (h2 : 1 ≤ a.Page ∧ a.Page ≤ 999999) (h3 : 0 ≤ a.At ∧ a.At ≤ 8589934592) : validV a = true := by
  have hp := h.pers; have hk := h.kind
  unfold validV
  rw [inV_is.2 h1, inV_is.2 h2, inV_is.2 (show -1 ≤ a.Person ∧ a.Person ≤ 31 by omega), inV_is.2 h3, inV_is.2 hk]
  simp only [Bool.true_and]
  split
  · rename_i k3; have := h.arg3 k3; exact inV_is.2 (by omega)
  · split
    · rename_i k4; have := h.arg4 k4; exact inV_is.2 (by omega)
    · rename_i k3 k4; exact decide_eq_true (h.arg0 k3 k4)
theorem answer_ok {id page at_ : Int} (hL : L.length ≤ 500) (hd : DiceOK L d) : Ok (made_Dice_Answer 1000 d id page at_) fun r => DiceOK L r.2 ∧ AnsOK r.1 ∧ r.1.ID = id ∧ r.1.Page = page ∧ r.1.At = at_ := by
  unfold made_Dice_Answer
  refine Ok.opt (nx hL hd (by omega) (by omega)) fun ⟨a0, d1⟩ ⟨h1, l1, u1⟩ => ?_
  dsimp only at h1 l1 u1 ⊢
  refine Ok.opt (nx hL h1 (by omega) (by omega)) fun ⟨a2, d3⟩ ⟨h3, l3, u3⟩ => ?_
  dsimp only at h3 l3 u3 ⊢
  rw [wrap_id (x := 1 + a2) (by omega), wrap_id (x := a0 - 1) (by omega)]
  refine Ok.j (Ok.ite (fun g => ?_) (fun g => Ok.ite (fun g' => ?_) (fun g' => ?_)))
  · refine Ok.opt (one_ok hL h3 (by simp) (by simp)) fun ⟨a8, d9⟩ ⟨h9, m9⟩ => Ok.s ⟨h9, ⟨by dsimp only; omega, by dsimp only; omega, fun _ => ?_, fun e => ?_, fun e => absurd g e⟩, rfl, rfl, rfl⟩
    · dsimp only at m9 ⊢
      simp only [List.mem_cons, List.not_mem_nil, or_false] at m9
      omega
    · dsimp only at e; omega
  · refine Ok.opt (nx hL h3 (by omega) (by omega)) fun ⟨a10, d11⟩ ⟨h11, l11, u11⟩ => Ok.s ⟨h11, ⟨by dsimp only; omega, by dsimp only; omega, fun e => ?_, fun _ => ⟨l11, u11⟩, fun _ e => absurd g' e⟩, rfl, rfl, rfl⟩
    dsimp only at e; omega
  · exact Ok.s ⟨h3, ⟨by dsimp only; omega, by dsimp only; omega, fun e => absurd e g, fun e => absurd e g', fun _ _ => rfl⟩, rfl, rfl, rfl⟩
theorem runV_pair (hb : BookOK b) (hQ : StepQ Q M c b) (h : PageInv Q M b p) (now : Int) : ∃ q, runV c b p now = (q, 0) ∧ PageInv Q M b q ∧ waitB q now = false ∧ Kept p q := by
  have h1 := runV_inv (now := now) hb hQ h
  have h2 := runV_kept (now := now) hb hQ h
  rcases hr : runV c b p now with ⟨q, e⟩
  rw [hr] at h1 h2
  obtain ⟨a1, a2, a3⟩ := h1
  dsimp only at a1 a2 a3 h2
  subst a2
  exact ⟨q, rfl, a1, a3, h2⟩
theorem runV_pairL (hb : BookOK b) (hQ : StepQ Q M c b) (h : PageInv Q M b p) (hx : PgX k p) (hl : p.Last ≤ now) : ∃ q, runV c b p now = (q, 0) ∧ PageInv Q M b q ∧ waitB q now = false ∧ Kept p q ∧ PgX k q ∧ q.Last ≤ now := by
  obtain ⟨q, h1, h2, h3, h4⟩ := runV_pair hb hQ h now
  have h5 := hx.run (now := now) hb hQ h
  have h6 := runV_last (now := now) hb hQ h hl
  rw [h1] at h5 h6
  exact ⟨q, h1, h2, h3, h4, h5, h6⟩
theorem answerV_pair (hb : BookOK b) (h : PageInv Q M b p) (hx : PgX k p) (hv : validV a = true) (hp : a.Page = p.ID) (ha : a.At ≤ M - 20000) (hs : a.Kind = 3 → a.Arg ≤ 5000) (hpe : a.Person < 4) (hk : 1 ≤ a.ID ∧ a.ID ≤ k) (hl : p.Last ≤ a.At) :
    ((answerV b p a).2 ≠ 0) ∨ ∃ q, answerV b p a = (q, 0) ∧ PageInv Q M b q ∧ PgX k q ∧ q.Last ≤ a.At ∧ q.ID = p.ID ∧ q.Policy = p.Policy ∧ q.Start = p.Start ∧ q.Next = p.Next := by
  by_cases hse : p.Seen.contains a.ID = true
  · exact .inr ⟨p, answerV_old (h.check hb) hv hp hse, h, hx, hl, rfl, rfl, rfl, rfl⟩
  · have hse : p.Seen.contains a.ID = false := by simpa using hse
    rw [answerV_new (h.check hb) hv hp hse]
    by_cases hr : refusedV p a = 0
    · rw [if_neg (by simp [hr])]
      exact .inr ⟨_, rfl, h.answerQ_inv hb hv ha hs hse hr, hx.answer hpe hk, answerQ_last hl, answerQ_id⟩
    · rw [if_pos hr]; exact .inl hr
structure MadeP (c : D.Config) (b : D.Book) (p : D.Page) (now : Int) : Prop where
  inv : PageInv (QP c b) 1000000 b p
  x : PgX 9 p
  last : p.Last ≤ now
  id : p.ID ≤ 3
  lo : 864000 ≤ now
  hi : now ≤ 880000
theorem page_ok {k : Int} (hL : L.length ≤ 500) (hd : DiceOK L d) (hc : CfgOK n c) (hn : n ≤ 48) (hb : BookOK b) (hk : 0 ≤ k ∧ k ≤ 6) :
    Ok (made_Dice_Page 1000 d c b k) fun r => DiceOK L r.2.2 ∧ MadeP c b r.1 r.2.1 := by
  have hpl := hb.plen
  unfold made_Dice_Page
  refine Ok.opt (one_ok hL hd (by simp) (by simp)) fun ⟨a0, d1⟩ ⟨h1, m1⟩ => ?_
  dsimp only at h1 m1 ⊢
  simp only [List.mem_cons, List.not_mem_nil, or_false] at m1
  refine Ok.opt (nx hL h1 (by omega) (by omega)) fun ⟨a2, d3⟩ ⟨h3, l3, u3⟩ => ?_
  dsimp only at h3 l3 u3 ⊢
  refine Ok.opt (nx hL h3 (by omega) (by omega)) fun ⟨a4, d5⟩ ⟨h5, l5, u5⟩ => ?_
  dsimp only at h5 l5 u5 ⊢
  rw [wrap_id (x := 1 + a2) (by omega), wrap_id (x := 864000 + a0) (by omega)]
  have hnew : newV b (1 + a2) a4 (864000 + a0) = (newP (1 + a2) a4 (864000 + a0), 0) := by
    unfold newV
    rw [if_pos ⟨inV_is.2 (by omega), inV_is.2 (by omega)⟩, if_pos (inV_is.2 (by omega))]
  refine Ok.oe (new29_is hb) ?_
  rw [hnew]
  dsimp only
  refine Ok.n (by simp) ?_
  rw [wrap_id (x := k + 1) (by omega)]
  refine Ok.opt (nx hL h5 (by omega) (by omega)) fun ⟨a8, d9⟩ ⟨h9, l9, u9⟩ => ?_
  dsimp only at h9 l9 u9 ⊢
  refine Ok.loop (fun m x => ∃ (now i : Int) (d : D.Dice) (p : D.Page), x = ((now, i, ()), d, c, b, page0, p, ()) ∧ DiceOK L d ∧ PageInv (QP c b) 1000000 b p ∧ PgX 9 p ∧ p.Last ≤ now ∧ p.ID ≤ 3 ∧ 864000 ≤ now ∧ now + 2000 * i ≤ 880000 ∧ 0 ≤ i ∧ m = i.toNat) (m := a8.toNat) (by omega)
    ⟨864000 + a0, a8, d9, _, rfl, h9, new_inv (by omega) hb (by omega) (by omega) (by omega), .new, Int.le_refl _, by show 1 + a2 ≤ 3; omega, by omega, by omega, l9, rfl⟩ ?_
  rintro m x ⟨now, i, d, p, rfl, i1, i2, i3, i4, i5, i6, i7, i8, rfl⟩ K hK
  dsimp only
  refine Ok.ite (fun hi => ?_) (fun hi => Ok.s ⟨i1, i2, i3, i4, i5, i6, by dsimp only; omega⟩)
  refine Ok.j (Ok.opt (one_ok hL i1 (by simp) (by simp)) fun ⟨a26, d27⟩ ⟨h27, m27⟩ => ?_)
  dsimp only at h27 m27 ⊢
  simp only [List.mem_cons, List.not_mem_nil, or_false] at m27
  obtain ⟨t, ht⟩ : ∃ t, now + a26 = t := ⟨_, rfl⟩
  rw [wrap_id (x := now + a26) (by omega), ht]
  obtain ⟨q, r1, r2, r3, r4, r5, r6⟩ := runV_pairL (now := t) hb QP.step i2 i3 (by omega)
  refine Ok.join (fun y => ∃ (d : D.Dice) (p : D.Page), y = ((t, i, ()), d, c, b, page0, p, ()) ∧ DiceOK L d ∧ PageInv (QP c b) 1000000 b p ∧ PgX 9 p ∧ p.Last ≤ t ∧ p.ID ≤ 3) (fun y hy => ?_) (fun J hJ => ?_)
  · obtain ⟨d, p, rfl, j1, j2, j3, j4, j5⟩ := hy
    dsimp only
    refine Ok.opt (nx hL j1 (by omega) (by omega)) fun ⟨a35, d36⟩ ⟨h36, l36, u36⟩ => ?_
    dsimp only at h36 l36 u36 ⊢
    rw [wrap_id (x := 1 + a35) (by omega)]
    refine Ok.opt (answer_ok hL h36) fun ⟨a, d38⟩ ⟨h38, ha, e1, e2, e3⟩ => ?_
    dsimp only at h38 ha e1 e2 e3 ⊢
    have hv : validV a = true := ha.valid (by omega) (by have := j2.id; omega) (by omega)
    refine Ok.oe (answer29_is hb (j2.plen hb)) ?_
    have fin : ∀ (d : D.Dice) (p : D.Page), DiceOK L d → PageInv (QP c b) 1000000 b p → PgX 9 p → p.Last ≤ t → p.ID ≤ 3 → Ok (K ((t, IntKind.wrap .i64 (i - 1), ()), d, c, b, page0, p, ())) fun r => DiceOK L r.2.2 ∧ MadeP c b r.1 r.2.1 := fun d p f1 f2 f3 f4 f5 => by
      rw [wrap_id (by omega)]
      exact hK (i - 1).toNat _ (by omega) ⟨t, i - 1, d, p, rfl, f1, f2, f3, f4, f5, by omega, by omega, by omega, rfl⟩
    rcases answerV_pair (a := a) hb j2 j3 hv e2 (by omega) (fun e => (ha.arg3 e).2) ha.pers.2 (by omega) (by omega) with hne | ⟨q', e, g1, g2, g3, g4, _⟩
    · rcases hav : answerV b p a with ⟨q', er⟩
      rw [hav] at hne
      exact Ok.n hne (fin _ _ h38 j2 j3 j4 j5)
    · rw [e]
      dsimp only
      refine Ok.p rfl (Ok.opt (nx hL h38 (by omega) (by omega)) fun ⟨a41, d42⟩ ⟨h42, _⟩ => ?_)
      exact Ok.ite (fun _ => fin _ _ h42 g1 g2 (by omega) (by omega)) (fun _ => fin _ _ h42 j2 j3 j4 j5)
  · refine Ok.oe (run29_is hc hn hb (i2.plen hb)) ?_
    rw [r1]
    dsimp only
    refine Ok.p rfl (Ok.opt (nx hL h27 (by omega) (by omega)) fun ⟨a46, d47⟩ ⟨h47, _⟩ => ?_)
    exact Ok.ite (fun _ => hJ _ ⟨_, _, rfl, h47, r2, r5, r6, by rw [r4.id]; exact i5⟩) (fun _ => hJ _ ⟨_, _, rfl, h47, i2, i3, by omega, i5⟩)
end
end Go.Proofs.YtfhcigjkfelnfaaGreat
/-
  What the audit of one page computes: steps and rosters.
-/
set_option maxRecDepth 100000
set_option linter.unusedVariables false
set_option linter.unusedSimpArgs false
namespace Go.Proofs.YtfhcigjkfelnfaaGreat
open Go AM
attribute [local irreducible] dueV stepV runV checkV answerV
theorem sane45 : law45_sane 1000 = some true := by kernel_rfl
section
variable {n : Nat} {c : D.Config} {b : D.Book} {p : D.Page} {Q : Int → D.Start → Prop} {M : Int}
theorem audSteps_is (hb : BookOK b) (h : PageInv Q M b p) : audit_Steps 1000 b p = some true := by
  have hpl := h.plen hb
  have hst := hpl.st
  obtain ⟨tt, gg, _⟩ := h.goes
  have hsc := gg.scan
  refine Ok.eq ?_
  unfold audit_Steps
  refine Ok.oe (check_is hb hpl) (Ok.nt (h.check hb) ?_)
  refine Ok.loop (fun m x => ∃ j : Nat, x = ((kN p.Starts j, tN p.Start p.Starts j, p.Starts, ((p.Starts.length : Nat) : Int), (j : Int), ()), p, ()) ∧ j ≤ p.Starts.length ∧ m = p.Starts.length - j) (m := p.Starts.length) (by omega) ⟨0, rfl, by omega, rfl⟩ ?_
  rintro m x ⟨j, rfl, jl, rfl⟩ K hK
  dsimp only
  have hkb : 0 ≤ kN p.Starts j ∧ kN p.Starts j ≤ 300 := by
    unfold kN
    have h1 := List.length_filter_le (fun s : D.Start => decide (0 ≤ s.K)) (p.Starts.take j)
    have h2 := List.length_take_le j p.Starts
    omega
  refine Ok.ite (fun hj => ?_) (fun hj => ?_)
  · have hlt : j < p.Starts.length := by omega
    refine Ok.j (Ok.atn hlt ?_)
    obtain ⟨s1, s2, s3, s4⟩ := hsc.2.2 j hlt
    have hks := kN_succ (l := p.Starts) hlt
    have hts := tN_succ (st := p.Start) (l := p.Starts) (i := j)
    obtain ⟨s, hs⟩ : ∃ s, nth p.Starts j = s := ⟨_, rfl⟩
    rw [hs] at s1 s2 s3 s4 hks hts ⊢
    refine Ok.join (fun y => y = ((kN p.Starts j, p.Starts, ((p.Starts.length : Nat) : Int), (j : Int), ()), p, s, ())) (fun y hy => ?_) (fun J hJ => ?_)
    · subst hy
      dsimp only
      rw [wrap_succ (by omega)]
      refine Ok.ite (fun g => ?_) (fun g => ?_)
      · rw [wrap_id (by omega)]
        refine hK _ _ (by omega) ⟨j + 1, ?_, by omega, rfl⟩
        rw [hks, hts, if_pos (by rcases s3 with ⟨e, _⟩ | ⟨_, e, _⟩ <;> omega)]
      · refine hK _ _ (by omega) ⟨j + 1, ?_, by omega, rfl⟩
        rw [hks, hts, if_neg (by omega), Int.add_zero]
    · have tail : Ok (AM.cnd (decide (s.K ≠ -1)) (AM.cnd (decide (s.K ≠ kN p.Starts j)) (some false) (J ((kN p.Starts j, p.Starts, ((p.Starts.length : Nat) : Int), (j : Int), ()), p, s, ()))) (J ((kN p.Starts j, p.Starts, ((p.Starts.length : Nat) : Int), (j : Int), ()), p, s, ()))) (· = true) :=
        Ok.ite (fun g => Ok.n (by rcases s3 with ⟨e, _⟩ | ⟨e, _⟩ <;> omega) (hJ _ rfl)) (fun g => hJ _ rfl)
      refine Ok.n (by omega) (Ok.ite (fun g => Ok.n ?_ tail) (fun g => tail))
      have h0 : j = 0 := by omega
      have h4 := s4 h0
      subst h0
      show ¬ s.At ≠ p.Start
      omega
  · obtain rfl : j = p.Starts.length := by omega
    refine Ok.s ?_
    rw [hsc.1]; simp
theorem audR1_is (h : CfgOK n c) (hn : n ≤ 48) {x : Int} {s : D.Start} {st : D.PolicyStep} : audit_Rosters_1 1000 x c s st = some (!reachV c x s.At st.Urgent) := by
  unfold audit_Rosters_1
  rw [reach_is h hn, optc_s, sameC_p, sameC_p, sameC_p]
theorem idxR_ok (h : CfgOK n c) (hn : n ≤ 48) {s : D.Start} {st : D.PolicyStep} {l0 : List Int} {m : Nat} (hm : m ≤ l0.length) (hl : m ≤ 900) :
    Ok (slices_IndexFunc_int_1Faudit_Rosters_1_0v 1000 0 m l0 c s st) fun r => (r = -1 ∧ (∀ j, j < m → reachV c (nth l0 j) s.At st.Urgent = true) ∨ ∃ i : Nat, r = (i : Int) ∧ i < m ∧ reachV c (nth l0 i) s.At st.Urgent = false ∧ ∀ j, j < i → reachV c (nth l0 j) s.At st.Urgent = true) := by
  unfold slices_IndexFunc_int_1Faudit_Rosters_1_0v
  rw [Nat.sub_zero]
  refine Ok.scan2 m (fun i => (0, m, ((m : Nat) : Int), (i : Int), ())) (fun i => !reachV c (nth l0 i) s.At st.Urgent) rfl (by omega) (fun i hi hq hj k => ?_) (fun i hi hq k hk => ?_) (fun hq k => ?_)
  · dsimp only
    rw [Nat.sub_zero]
    refine Ok.p (by omega) (Ok.natn (Ok.lt (by omega) ?_))
    rw [Nat.zero_add]
    refine Ok.get (by omega) (Ok.oe (audR1_is h hn) ?_)
    exact Ok.bt hq (Ok.sameC (Ok.sameC (Ok.sameC (Ok.sameC (Ok.s (.inr ⟨i, rfl, hi, by simpa using hq, fun j hj' => by simpa using hj j hj'⟩))))))
  · dsimp only
    rw [Nat.sub_zero]
    refine Ok.p (by omega) (Ok.natn (Ok.lt (by omega) ?_))
    rw [Nat.zero_add]
    refine Ok.get (by omega) (Ok.oe (audR1_is h hn) (Ok.bf hq ?_))
    rw [wrap_succ (by omega)]
    exact hk
  · exact Ok.n (by omega) (Ok.sameC (Ok.sameC (Ok.sameC (Ok.sameC (Ok.s (.inl ⟨rfl, fun j hj => by simpa using hq j hj⟩))))))
theorem delR_ok (h : CfgOK n c) (hn : n ≤ 48) {s : D.Start} {st : D.PolicyStep} {l0 : List Int} {m : Nat} (hm : m ≤ l0.length) (hl : l0.length ≤ 900) :
    Ok (slices_DeleteFunc_int_1Faudit_Rosters_1_0v 1000 0 m l0 c s st) fun r => List.drop r.1 (List.take r.2.1 r.2.2) = (l0.take m).filter fun z => reachV c z s.At st.Urgent := by
  unfold slices_DeleteFunc_int_1Faudit_Rosters_1_0v
  refine Ok.opt (idxR_ok h hn hm (by omega)) fun r hr => ?_
  rcases hr with ⟨rfl, hall⟩ | ⟨i, rfl, hi, hx, hj⟩
  · refine Ok.p rfl (Ok.sameC (Ok.sameC (Ok.sameC (Ok.s ?_))))
    dsimp only
    rw [List.drop_zero, filter_all (q := fun z => reachV c z s.At st.Urgent) hm hall]
  · refine Ok.n (by omega) ?_
    rw [wrap_succ (by omega)]
    refine Ok.loop (fun q x => ∃ (w j : Nat) (a : List Int), x = ((0, m, ((w : Nat) : Int), ((j : Nat) : Int), ()), c, s, st, a, ()) ∧ DelInv (l0) (fun z => reachV c z s.At st.Urgent) w j a ∧ (w < j ∧ j ≤ m) ∧ q = m - j) (m := m - (i + 1)) (by omega) ⟨i, i + 1, l0, rfl, del_start (by omega) hj hx, by omega, rfl⟩ ?_
    rintro q x ⟨w, j, a, rfl, hinv, hjm, rfl⟩ K hK
    have h1 := hinv.wj
    have h2 := hinv.len
    dsimp only
    rw [Nat.sub_zero]
    refine Ok.ite (fun hlt => ?_) (fun hge => ?_)
    · refine Ok.j (Ok.natn (Ok.lt (by omega) ?_))
      rw [Nat.zero_add]
      refine Ok.get (by omega) (Ok.oe (audR1_is h hn) ?_)
      rw [Bool.not_not]
      refine Ok.cnd (fun hq => ?_) (fun hq => ?_)
      · refine Ok.natn (Ok.lt (by omega) ?_)
        rw [Nat.zero_add]
        refine Ok.get (by omega) ?_
        dsimp only
        rw [wrap_succ (by omega), wrap_succ (by omega)]
        exact hK _ _ (by omega) ⟨w + 1, j + 1, _, rfl, del_keep hinv (by omega) hq, by omega, rfl⟩
      · dsimp only
        rw [wrap_succ (by omega)]
        exact hK _ _ (by omega) ⟨w, j + 1, a, rfl, del_skip hinv (by omega) hq, by omega, rfl⟩
    · have ej : j = m := by omega
      have hd := hinv.done
      rw [ej] at hd
      refine Ok.natn (Ok.lt (by omega) (Ok.lec (by omega) (Ok.lec (by omega) (Ok.natn (Ok.lec (by omega) (Ok.sameC (Ok.sameC (Ok.sameC (Ok.s ?_)))))))))
      dsimp only
      simp only [Nat.zero_add, List.drop_zero]
      rw [List.append_assoc, List.take_append_of_le_length (by simp; omega), List.take_take, Nat.min_self]
      exact hd
theorem equalI_is {x y : List Int} (hx : x.length ≤ 900) : slices_Equal_int 1000 x y = some (decide (x = y)) := by
  refine Ok.eq ?_
  unfold slices_Equal_int
  refine Ok.ite (fun h => Ok.s ?_) (fun h => ?_)
  · rw [decide_eq_false]; rintro rfl; exact h rfl
  · have hl : x.length = y.length := by omega
    refine Ok.scan x.length (fun i => ((x, y, ((x.length : Nat) : Int), (i : Int), ()), ())) (fun i => decide (nth x i ≠ nth y i)) rfl (by omega) (fun i hi hq _ k => ?_) (fun i hi hq k hk => ?_) (fun hq k => ?_)
    · have hq := of_decide_eq_true hq
      refine Ok.p (by omega) (Ok.atn hi (Ok.atn (by omega) (Ok.p hq (Ok.s ?_))))
      rw [decide_eq_false]; rintro rfl; exact hq rfl
    · have hq := of_decide_eq_false hq
      refine Ok.p (by omega) (Ok.atn hi (Ok.atn (by omega) (Ok.n hq ?_)))
      rw [wrap_succ (by omega)]; exact hk
    · refine Ok.n (by omega) (Ok.s ?_)
      rw [decide_eq_true]
      refine List.ext_getElem hl fun i h1 h2 => ?_
      have := of_decide_eq_false (hq i h1)
      simpa [nth, List.getD_eq_getElem?_getD, List.getElem?_eq_getElem h1, List.getElem?_eq_getElem h2] using this
theorem find0_no {l : List Int} {k : Int} : audit_findings_0 1000 l k [false] = some l := by
  refine Ok.eq ?_
  unfold audit_findings_0
  refine Ok.run2 1 (fun i => (k, [false], 1, (i : Int), ())) rfl (by omega) (fun i hi k' hk => ?_) (fun k' => Ok.n (by simp) (Ok.s rfl))
  obtain rfl : i = 0 := by omega
  dsimp only
  exact Ok.p (by simp) (Ok.j (Ok.atn (i := 0) (by simp) (Ok.f hk)))
theorem audRosters_is (hc : CfgOK n c) (hn : n ≤ 48) (hb : BookOK b) (h : PageInv (QP c b) M b p) : audit_Rosters 1000 c b p = some [] := by
  have hpl := h.plen hb
  have hst := hpl.st
  have hpol := h.pol
  obtain ⟨tt, gg, _⟩ := h.goes
  have hsc := gg.scan
  have hq : PolOK b.Teams.length (polOf b p) := h.polOK hb
  have hcn := countV_is hq
  have hql := hq.len
  refine Ok.eq ?_
  unfold audit_Rosters
  refine Ok.oe (check_is hb hpl) (Ok.nt (h.check hb) (Ok.at hpol.1 hpol.2 ?_))
  refine Ok.run p.Starts.length (fun j => ((p.Starts, ((p.Starts.length : Nat) : Int), (j : Int), ()), c, b, polOf b p, [], ())) rfl (by omega) (fun j hlt k hk => ?_) (fun k => Ok.n (by omega) (Ok.s rfl))
  dsimp only
  refine Ok.p (by omega) (Ok.j (Ok.atn hlt ?_))
  obtain ⟨s1, s2, s3, _⟩ := hsc.2.2 j hlt
  have hpe := (hpl.pe _ (nth_mem hlt)).1
  obtain ⟨s, hs⟩ : ∃ s, nth p.Starts j = s := ⟨_, rfl⟩
  rw [hs] at s1 s2 s3 hpe ⊢
  refine Ok.oe (part_is hq) ?_
  unfold partV
  rcases s3 with ⟨e, _⟩ | ⟨e1, e2, e3⟩
  · rw [if_neg (by omega)]
    dsimp only
    refine Ok.t ?_
    rw [wrap_succ (by omega)]
    exact hk
  · have hQc : s.K < countV (polOf b p) := e3.1
    have hQp : s.People = callV c b (nth (polOf b p).Steps (s.K % ((polOf b p).Steps.length : Int)).toNat) s.At := e3.2
    have hm := mod_in (q := polOf b p) (i := s.K) hql.1
    have hstep := hq.step _ (step_in hq e2)
    rw [if_pos ⟨e2, hQc⟩]
    dsimp only
    refine Ok.f (Ok.at hm.1 hm.2 ?_)
    obtain ⟨st, hst'⟩ : ∃ st, nth (polOf b p).Steps (s.K % ((polOf b p).Steps.length : Int)).toNat = st := ⟨_, rfl⟩
    rw [hst'] at hstep hQp ⊢
    have htl := hstep.len
    refine Ok.opt (people_ok hc hn hb hstep.target (by omega)) fun ⟨v0, v1, v2⟩ ⟨g1, g2, g3, g4⟩ => ?_
    dsimp only at g1 g2 g3 g4 ⊢
    subst g1
    refine Ok.opt (delR_ok (s := s) (st := st) hc hn g2 (by omega)) fun ⟨w0, w1, w2⟩ e => ?_
    dsimp only at e ⊢
    rw [e, g4]
    have hcall : (List.filter (fun z => reachV c z s.At st.Urgent) (peopleV c b st.Targets s.At)) = s.People := hQp.symm
    rw [hcall]
    refine Ok.oe (equalI_is (by omega)) ?_
    rw [decide_eq_true rfl]
    refine Ok.oe find0_no ?_
    rw [wrap_succ (by omega)]
    exact hk
end
theorem auditRosters_true (t : List Int) : law45_AuditRosters 1000 t = some true := by
  refine Ok.eq ?_
  unfold law45_AuditRosters
  refine Ok.oe light_is (Ok.ncnd (fun _ => Ok.oe sane45 (Ok.s rfl)) fun hl => Ok.oe roll_is ?_)
  have hL := light_len hl
  refine Ok.opt (crew_ok hL dice0 (by omega)) fun ⟨c, d1⟩ ⟨h1, hc⟩ => ?_
  dsimp only at h1 hc ⊢
  refine Ok.opt (book_ok hL h1 (by omega)) fun ⟨b, d2⟩ ⟨h2, hb⟩ => ?_
  dsimp only at h2 hb ⊢
  refine Ok.opt (page_ok (k := 6) hL h2 hc (by omega) hb (by omega)) fun ⟨p, now, d3⟩ ⟨h3, hp⟩ => ?_
  dsimp only at h3 hp ⊢
  refine Ok.oe (audRosters_is hc (by omega) hb hp.inv) (Ok.p rfl (Ok.oe (audSteps_is hb hp.inv) (Ok.t (Ok.oe sane45 (Ok.t (Ok.s rfl))))))
end Go.Proofs.YtfhcigjkfelnfaaGreat
