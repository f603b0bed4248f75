/-
  Crews: what the checks of configurations ask of them.
-/
import Derived.Test.YtimfbibaoppfcaaGreatDoorCheckPlain
set_option linter.unusedSimpArgs false
set_option linter.unusedVariables false
namespace Go.Proofs.YtimfbibaoppfcaaGreatDoor
open Go AM
def layS (L : List Int) (i : Nat) : Nat := oneI L i [1, 9, 10]
def layU (L : List Int) (i : Nat) : Nat := oneI L (layS L i) [0, 1800, 43200]
def layE (L : List Int) (i : Nat) : Nat := oneI L (layU L i) [0, 0, 1]
def layM (L : List Int) (i : Nat) : Nat := nextI L (layE L i) 3
def layQ (L : List Int) (i : Nat) : List Int × Nat := membersL L (1 + nextN L (layM L i) 3) [] (nextI L (layM L i) 3)
def layerP (L : List Int) (i : Nat) : D.Layer :=
  ⟨ByteArray.mk #[108], 0, ⟨oneV L i [1, 9, 10], oneV L (layS L i) [0, 1800, 43200]⟩, oneV L (layU L i) [0, 0, 1], ((1 + nextN L (layE L i) 3 : Nat) : Int), (layQ L i).1, [], 0, 0⟩
def edits (L : List Int) : Nat → List D.Edit → Nat → List D.Edit × Nat
  | 0, es, i => (es, i)
  | n + 1, es, i => edits L n (es ++ [(ovE 864000 L i).1]) (ovE 864000 L i).2
theorem edits_succ {L : List Int} {n : Nat} {es : List D.Edit} {i : Nat} (h : 0 < n) : edits L n es i = edits L (n - 1) (es ++ [(ovE 864000 L i).1]) (ovE 864000 L i).2 := by
  obtain ⟨m, rfl⟩ : ∃ m, n = m + 1 := ⟨n - 1, by omega⟩
  rfl
theorem ovE_le {base : Int} {L : List Int} {i : Nat} (h : i ≤ L.length) : (ovE base L i).2 ≤ L.length := by
  have h1 : ovI4 L i ≤ L.length := oneI_le _ (nextI_le _ (nextI_le _ (oneI_le _ h)))
  unfold ovE
  split
  · exact nextI_le _ h1
  · split
    · exact nextI_le _ h1
    · exact h1
theorem edits_le {L : List Int} : ∀ (n : Nat) (es : List D.Edit) (i : Nat), i ≤ L.length → (edits L n es i).2 ≤ L.length
  | 0, _, _, h => h
  | n + 1, es, i, h => edits_le n _ _ (ovE_le h)
def schNames : List ByteArray := [ByteArray.mk #[102, 105, 114, 115, 116], ByteArray.mk #[115, 101, 99, 111, 110, 100]]
def schQ (L : List Int) (i : Nat) : List D.Edit × Nat := edits L (nextN L (layQ L i).2 3) [] (nextI L (layQ L i).2 3)
def schP (L : List Int) (k i : Nat) : D.Schedule := ⟨nth schNames k, [layerP L i], (schQ L i).1⟩
def schI (L : List Int) (i : Nat) : Nat := (schQ L i).2
theorem layQ_le {L : List Int} {i : Nat} (h : i ≤ L.length) : (layQ L i).2 ≤ L.length := membersL_le _ _ _ (nextI_le _ (nextI_le _ (oneI_le _ (oneI_le _ (oneI_le _ h)))))
theorem schI_le {L : List Int} {i : Nat} (h : i ≤ L.length) : schI L i ≤ L.length := edits_le _ _ _ (nextI_le _ (layQ_le h))
def schs (L : List Int) : Nat → List D.Schedule → Nat → List D.Schedule × Nat
  | 0, ss, i => (ss, i)
  | n + 1, ss, i => schs L n (ss ++ [schP L ss.length i]) (schI L i)
theorem schs_succ {L : List Int} {n : Nat} {ss : List D.Schedule} {i : Nat} (h : 0 < n) : schs L n ss i = schs L (n - 1) (ss ++ [schP L ss.length i]) (schI L i) := by
  obtain ⟨m, rfl⟩ : ∃ m, n = m + 1 := ⟨n - 1, by omega⟩
  rfl
def crewP (L : List Int) (i : Nat) : List D.Person × Nat := persons L 4 [] (oneI L i [0, 3600, -7200])
def crewS (L : List Int) (i : Nat) : List D.Schedule × Nat := schs L 2 [] (crewP L i).2
def crew (L : List Int) (i : Nat) : D.Config := ⟨[⟨ByteArray.mk #[122], oneV L i [0, 3600, -7200], []⟩], (crewP L i).1, [], (crewS L i).1⟩
def crewI (L : List Int) (i : Nat) : Nat := (crewS L i).2
structure EditOK (n : Nat) (x : D.Edit) : Prop where
  kind : 0 ≤ x.Kind ∧ x.Kind ≤ 2
  a : (0 ≤ x.A ∧ x.A < (n : Int)) ∨ (x.Kind = 1 ∧ x.A = -1)
  b : x.Kind = 2 → 0 ≤ x.B ∧ x.B < (n : Int) ∧ x.A ≠ x.B
  b0 : x.Kind ≠ 2 → x.B = 0
  time : 0 ≤ x.From ∧ x.From < x.To ∧ x.To < 2592000
structure LayerOK (n : Nat) (l : D.Layer) : Prop where
  name : nameOK l.Name = true
  zone : l.Zone = 0
  day : 1 ≤ l.Start.Day ∧ l.Start.Day ≤ 29
  second : 0 ≤ l.Start.Second ∧ l.Start.Second ≤ 86399
  unit : 0 ≤ l.Unit ∧ l.Unit ≤ 2
  every : 1 ≤ l.Every ∧ l.Every ≤ 400
  len : 1 ≤ l.Members.length ∧ l.Members.length ≤ 12
  mem : ∀ i, i < l.Members.length → 0 ≤ nth l.Members i ∧ nth l.Members i < (n : Int)
  win : l.Windows = []
  cal : l.Calendar = 0 ∧ l.Mode = 0
structure PersonOK (p : D.Person) : Prop where
  name : nameOK p.Name = true
  zone : p.Zone = 0
  quiet : windowsErr p.Quiet = 0 ∧ p.Quiet.length ≤ 1
  max : p.MaxWeek = 0 ∧ p.MinRest = 0
structure CfgOK (c : D.Config) : Prop where
  zlen : c.Zones.length = 1
  zname : (nth c.Zones 0).Name = ByteArray.mk #[122]
  zoff : -64800 ≤ (nth c.Zones 0).Offset ∧ (nth c.Zones 0).Offset ≤ 64800 ∧ (nth c.Zones 0).Offset % 60 = 0
  zrules : (nth c.Zones 0).Rules = []
  plen : c.People.length = 4
  pname : c.People.map (·.Name) = crewNames
  person : ∀ k, k < 4 → PersonOK (nth c.People k)
  cal : c.Calendars = []
  slen : c.Schedules.length = 2
  sname : c.Schedules.map (·.Name) = schNames
  lay : ∀ k, k < 2 → (nth c.Schedules k).Layers.length = 1 ∧ LayerOK 4 (nth (nth c.Schedules k).Layers 0)
  edit : ∀ k, k < 2 → (nth c.Schedules k).Edits.length ≤ 2 ∧ ∀ j, j < (nth c.Schedules k).Edits.length → EditOK 4 (nth (nth c.Schedules k).Edits j)
theorem one3 {L : List Int} {i : Nat} {a b c : Int} : oneV L i [a, b, c] = a ∨ oneV L i [a, b, c] = b ∨ oneV L i [a, b, c] = c := by
  have := oneV_mem (L := L) (i := i) (l := [a, b, c]) (by simp)
  simpa using this
theorem one2 {L : List Int} {i : Nat} {a b : Int} : oneV L i [a, b] = a ∨ oneV L i [a, b] = b := by
  have := oneV_mem (L := L) (i := i) (l := [a, b]) (by simp)
  simpa using this
theorem one4 {L : List Int} {i : Nat} {a b c d : Int} : oneV L i [a, b, c, d] = a ∨ oneV L i [a, b, c, d] = b ∨ oneV L i [a, b, c, d] = c ∨ oneV L i [a, b, c, d] = d := by
  have := oneV_mem (L := L) (i := i) (l := [a, b, c, d]) (by simp)
  simpa using this
theorem ovE_ok (L : List Int) (i : Nat) : EditOK 4 (ovE 864000 L i).1 := by
  have h1 : ((ovA L i : Nat) : Int) < 4 := nextN_lt _ _ _ (by omega)
  have h2 := nextN_lt L (ovI1 L i) 3 (by omega)
  have h3 := nextN_lt L (ovI4 L i) 3 (by omega)
  have h4 := nextN_lt L (ovI4 L i) 5 (by omega)
  have h5 := one4 (L := L) (i := i) (a := 0) (b := 300) (c := 1200) (d := 3600)
  have h6 := one3 (L := L) (i := nextI L (nextI L (ovI1 L i) 3) 4) (a := 300) (b := 1800) (c := 7200)
  have ht : 0 ≤ ovFrom 864000 L i ∧ ovFrom 864000 L i < ovTo 864000 L i ∧ ovTo 864000 L i < 2592000 := by unfold ovTo ovFrom; omega
  unfold ovE
  split
  · rename_i h0
    refine ⟨by simp only; omega, .inl (by simp only; omega), fun _ => ?_, fun h => ?_, ht⟩
    · simp only; omega
    · simp only at h; omega
  · split
    · rename_i h0 h9
      refine ⟨by simp only; omega, ?_, fun h => ?_, fun _ => rfl, ht⟩
      · rcases Nat.eq_zero_or_pos (nextN L (ovI4 L i) 5) with h | h
        · right; simp only; omega
        · left; simp only; omega
      · simp only at h; omega
    · refine ⟨by simp only; omega, .inl (by simp only; omega), fun h => ?_, fun _ => rfl, ht⟩
      simp only at h; omega
theorem nth_append_left {α : Type} [Inhabited α] {l m : List α} {i : Nat} (h : i < l.length) : nth (l ++ m) i = nth l i := by
  simp [nth, List.getD_eq_getElem?_getD, List.getElem?_append_left h]
theorem nth_append_len {α : Type} [Inhabited α] {l : List α} {x : α} : nth (l ++ [x]) l.length = x := by
  simp [nth, List.getD_eq_getElem?_getD]
theorem edits_ok {L : List Int} : ∀ (n : Nat) (es : List D.Edit) (i : Nat), (∀ j, j < es.length → EditOK 4 (nth es j)) → (∀ j, j < (edits L n es i).1.length → EditOK 4 (nth (edits L n es i).1 j)) ∧ (edits L n es i).1.length = es.length + n
  | 0, es, i, h => ⟨h, rfl⟩
  | n + 1, es, i, h => by
    have := edits_ok (L := L) n (es ++ [(ovE 864000 L i).1]) (ovE 864000 L i).2 (fun j hj => by
      simp only [List.length_append, List.length_cons, List.length_nil] at hj
      rcases Nat.lt_or_ge j es.length with h' | h'
      · rw [nth_append_left h']; exact h j h'
      · rw [show j = es.length by omega, nth_append_len]; exact ovE_ok L i)
    refine ⟨this.1, ?_⟩
    rw [edits, this.2]; simp; omega
theorem membersL_ok {L : List Int} : ∀ (n : Nat) (ms : List Int) (i : Nat), (∀ j, j < ms.length → 0 ≤ nth ms j ∧ nth ms j < 4) → (∀ j, j < (membersL L n ms i).1.length → 0 ≤ nth (membersL L n ms i).1 j ∧ nth (membersL L n ms i).1 j < 4) ∧ (membersL L n ms i).1.length = ms.length + n
  | 0, ms, i, h => ⟨h, rfl⟩
  | n + 1, ms, i, h => by
    have hn := nextN_lt L i 4 (by omega)
    have := membersL_ok (L := L) n (ms ++ [((nextN L i 4 : Nat) : Int)]) (nextI L i 4) (fun j hj => by
      simp only [List.length_append, List.length_cons, List.length_nil] at hj
      rcases Nat.lt_or_ge j ms.length with h' | h'
      · rw [nth_append_left h']; exact h j h'
      · rw [show j = ms.length by omega, nth_append_len]; omega)
    refine ⟨this.1, ?_⟩
    rw [membersL, this.2]; simp; omega
theorem layerP_ok (L : List Int) (i : Nat) : LayerOK 4 (layerP L i) := by
  have h1 := one3 (L := L) (i := i) (a := 1) (b := 9) (c := 10)
  have h2 := one3 (L := L) (i := layS L i) (a := 0) (b := 1800) (c := 43200)
  have h3 := one3 (L := L) (i := layU L i) (a := 0) (b := 0) (c := 1)
  have h4 := nextN_lt L (layE L i) 3 (by omega)
  have h5 := nextN_lt L (layM L i) 3 (by omega)
  have h6 := membersL_ok (L := L) (1 + nextN L (layM L i) 3) [] (nextI L (layM L i) 3) (by simp)
  have h7 : (layQ L i).1.length = 1 + nextN L (layM L i) 3 := by unfold layQ; rw [h6.2]; simp
  exact ⟨(show nameOK (ByteArray.mk #[108]) = true by decide), rfl, by simp only [layerP]; omega, by simp only [layerP]; omega, by simp only [layerP]; omega, by simp only [layerP]; omega, by simp only [layerP]; omega, h6.1, rfl, rfl, rfl⟩
theorem persons_len {L : List Int} : ∀ (n : Nat) (ps : List D.Person) (i : Nat), (persons L n ps i).1.length = ps.length + n
  | 0, _, _ => rfl
  | n + 1, ps, i => by rw [persons, persons_len]; simp; omega
def ents (l : List ByteArray) (i : Nat) : List (ByteArray × Value) := (l.take i).map fun s => (s, Value.bool true)
theorem ents_next {l : List ByteArray} {i : Nat} {t : ByteArray} (hi : i < l.length) (ht : t = nth l i) : ents l i ++ [(t, Value.bool true)] = ents l (i + 1) := by
  subst ht
  unfold ents
  rw [← take_snoc hi, List.map_append]; rfl
theorem crew_seen : ∀ i, i < 4 → nameOK (nth crewNames i) = true ∧ lookS (nth crewNames i) (ents crewNames i) = none ∧ ¬ nth crewNames i = ByteArray.mk #[110, 111, 98, 111, 100, 121] := by decide
theorem sch_seen : ∀ i, i < 2 → nameOK (nth schNames i) = true ∧ lookS (nth schNames i) (ents schNames i) = none := by decide
theorem CfgOK.pnm {c : D.Config} (h : CfgOK c) {i : Nat} (hi : i < 4) : (nth c.People i).Name = nth crewNames i := by
  rw [← h.pname, nth_map (by rw [h.plen]; exact hi)]
theorem CfgOK.snm {c : D.Config} (h : CfgOK c) {i : Nat} (hi : i < 2) : (nth c.Schedules i).Name = nth schNames i := by
  rw [← h.sname, nth_map (by rw [h.slen]; exact hi)]
theorem CfgOK.pfacts {c : D.Config} (h : CfgOK c) {i : Nat} (hi : i < 4) : nameOK (nth c.People i).Name = true ∧ lookS (nth c.People i).Name (ents crewNames i) = none ∧ ents crewNames i ++ [((nth c.People i).Name, Value.bool true)] = ents crewNames (i + 1) ∧ ¬ (nth c.People i).Name = ByteArray.mk #[110, 111, 98, 111, 100, 121] := by
  have h1 := crew_seen i hi
  rw [h.pnm hi]
  exact ⟨h1.1, h1.2.1, ents_next (show i < _ from hi) rfl, h1.2.2⟩
theorem CfgOK.sfacts {c : D.Config} (h : CfgOK c) {i : Nat} (hi : i < 2) : nameOK (nth c.Schedules i).Name = true ∧ lookS (nth c.Schedules i).Name (ents schNames i) = none ∧ ents schNames i ++ [((nth c.Schedules i).Name, Value.bool true)] = ents schNames (i + 1) := by
  have h1 := sch_seen i hi
  rw [h.snm hi]
  exact ⟨h1.1, h1.2, ents_next (show i < _ from hi) rfl⟩
theorem windowsErr_nil : windowsErr [] = 0 := by decide
theorem one_seen {l : List ByteArray} {t : ByteArray} {i : Nat} (hi : i < 1) (hl : l = [t]) : lookS t (ents l i) = none ∧ ents l i ++ [(t, Value.bool true)] = ents l (i + 1) := by
  subst hl
  rw [show i = 0 by omega]
  exact ⟨rfl, rfl⟩
theorem nameOK_z : nameOK (ByteArray.mk #[122]) = true := by decide
theorem CfgOK.zfacts {c : D.Config} (h : CfgOK c) {i : Nat} (hi : i < 1) : nameOK (nth c.Zones i).Name = true ∧ lookS (nth c.Zones i).Name (ents [(nth c.Zones 0).Name] i) = none ∧ ents [(nth c.Zones 0).Name] i ++ [((nth c.Zones i).Name, Value.bool true)] = ents [(nth c.Zones 0).Name] (i + 1) := by
  have e : i = 0 := by omega
  subst e
  exact ⟨by rw [h.zname]; exact nameOK_z, one_seen (by omega) rfl⟩
theorem CfgOK.lfacts {c : D.Config} (h : CfgOK c) {k : Nat} (hk : k < 2) {i : Nat} (hi : i < 1) : nameOK (nth (nth c.Schedules k).Layers i).Name = true ∧ lookS (nth (nth c.Schedules k).Layers i).Name (ents [(nth (nth c.Schedules k).Layers 0).Name] i) = none ∧
    ents [(nth (nth c.Schedules k).Layers 0).Name] i ++ [((nth (nth c.Schedules k).Layers i).Name, Value.bool true)] = ents [(nth (nth c.Schedules k).Layers 0).Name] (i + 1) := by
  have e : i = 0 := by omega
  subst e
  exact ⟨(h.lay k hk).2.name, one_seen (by omega) rfl⟩
theorem persons_ok {L : List Int} : ∀ (n : Nat) (ps : List D.Person) (i : Nat), ps.length + n = 4 → (∀ k, k < ps.length → PersonOK (nth ps k) ∧ (nth ps k).Name = nth crewNames k) →
    ∀ k, k < 4 → PersonOK (nth (persons L n ps i).1 k) ∧ (nth (persons L n ps i).1 k).Name = nth crewNames k
  | 0, ps, i, hl, h => fun k hk => h k (by omega)
  | n + 1, ps, i, hl, h => by
    refine persons_ok (L := L) n (ps ++ [personP L ps.length i]) (personI L i) (by simp; omega) (fun k hk => ?_)
    simp only [List.length_append, List.length_cons, List.length_nil] at hk
    rcases Nat.lt_or_ge k ps.length with h' | h'
    · rw [nth_append_left h']; exact h k h'
    · rw [show k = ps.length by omega, nth_append_len]
      refine ⟨⟨(crew_seen _ (by omega)).1, rfl, ?_, rfl, rfl⟩, rfl⟩
      have h1 := one2 (L := L) (i := nextI L (nextI L i 2) 4) (a := 0) (b := 3600)
      have h2 := one3 (L := L) (i := oneI L (nextI L (nextI L i 2) 4) [0, 3600]) (a := 7200) (b := 86400) (c := 604800)
      show windowsErr (personQ L i).1 = 0 ∧ (personQ L i).1.length ≤ 1
      unfold personQ
      split
      · refine ⟨?_, by simp⟩
        unfold windowsErr
        rw [if_neg (by simp)]
        refine firstN_zero fun k hk => ?_
        simp only [List.length_cons, List.length_nil] at hk
        rw [show k = 0 by omega]
        unfold windowErr
        rw [if_neg, if_neg (by omega)]
        simp only [nth, List.getD_cons_zero]
        omega
      · exact ⟨windowsErr_nil, by simp⟩
theorem schs_ok {L : List Int} : ∀ (n : Nat) (ss : List D.Schedule) (i : Nat), ss.length + n = 2 →
    (∀ k, k < ss.length → (nth ss k).Name = nth schNames k ∧ ((nth ss k).Layers.length = 1 ∧ LayerOK 4 (nth (nth ss k).Layers 0)) ∧ (nth ss k).Edits.length ≤ 2 ∧ ∀ j, j < (nth ss k).Edits.length → EditOK 4 (nth (nth ss k).Edits j)) →
    (schs L n ss i).1.length = 2 ∧ ∀ k, k < 2 → (nth (schs L n ss i).1 k).Name = nth schNames k ∧ ((nth (schs L n ss i).1 k).Layers.length = 1 ∧ LayerOK 4 (nth (nth (schs L n ss i).1 k).Layers 0)) ∧ (nth (schs L n ss i).1 k).Edits.length ≤ 2 ∧
      ∀ j, j < (nth (schs L n ss i).1 k).Edits.length → EditOK 4 (nth (nth (schs L n ss i).1 k).Edits j)
  | 0, ss, i, hl, h => ⟨by simpa [schs] using hl, fun k hk => h k (by omega)⟩
  | n + 1, ss, i, hl, h => by
    refine schs_ok (L := L) n (ss ++ [schP L ss.length i]) (schI L i) (by simp; omega) (fun k hk => ?_)
    simp only [List.length_append, List.length_cons, List.length_nil] at hk
    rcases Nat.lt_or_ge k ss.length with h' | h'
    · rw [nth_append_left h']; exact h k h'
    · rw [show k = ss.length by omega, nth_append_len]
      have h3 := nextN_lt L (layQ L i).2 3 (by omega)
      have h4 := edits_ok (L := L) (nextN L (layQ L i).2 3) [] (nextI L (layQ L i).2 3) (by simp)
      refine ⟨rfl, ⟨rfl, layerP_ok L i⟩, ?_, h4.1⟩
      show (schQ L i).1.length ≤ 2
      unfold schQ; rw [h4.2]; simp; omega
theorem map_two {α β : Type} [Inhabited α] [Inhabited β] {l : List α} {f : α → β} {m : List β} (hl : l.length = m.length) (h : ∀ k, k < m.length → f (nth l k) = nth m k) : l.map f = m := by
  apply List.ext_getElem?
  intro k
  rcases Nat.lt_or_ge k m.length with hk | hk
  · rw [List.getElem?_map, nth_eq (by omega), nth_eq hk, ← h k hk]; rfl
  · rw [List.getElem?_eq_none (by simpa [hl] using hk), List.getElem?_eq_none hk]
theorem crew_ok (L : List Int) (i : Nat) : CfgOK (crew L i) := by
  have h1 := one3 (L := L) (i := i) (a := 0) (b := 3600) (c := -7200)
  have hp := persons_ok (L := L) 4 [] (oneI L i [0, 3600, -7200]) rfl (fun k hk => by simp at hk)
  have hpl : (crew L i).People.length = 4 := by show (persons L 4 [] _).1.length = 4; rw [persons_len]; rfl
  have hs := schs_ok (L := L) 2 [] (crewP L i).2 rfl (fun k hk => by simp at hk)
  refine ⟨rfl, rfl, ?_, rfl, hpl, map_two (by rw [hpl]; rfl) (fun k hk => (hp k hk).2), fun k hk => (hp k hk).1, rfl, hs.1, map_two (by rw [show (crew L i).Schedules.length = 2 from hs.1]; rfl) (fun k hk => (hs.2 k hk).1), fun k hk => (hs.2 k hk).2.1, fun k hk => (hs.2 k hk).2.2⟩
  show -64800 ≤ oneV L i [0, 3600, -7200] ∧ oneV L i [0, 3600, -7200] ≤ 64800 ∧ oneV L i [0, 3600, -7200] % 60 = 0
  rcases h1 with h | h | h <;> rw [h] <;> decide
structure BookB (n : Nat) (b : D.Book) : Prop where
  teams : b.Teams.length ≤ n
  pols : b.Policies.length ≤ n
  mem : ∀ t ∈ b.Teams, t.Members.length ≤ n
  steps : ∀ p ∈ b.Policies, p.Steps.length ≤ n
  tgts : ∀ p ∈ b.Policies, ∀ s ∈ p.Steps, s.Targets.length ≤ n
theorem stepP_t2 (L : List Int) (nT i : Nat) : (stepP L nT i).Targets.length ≤ 2 := by
  have h := nextN_lt L (nextI L (oneI L i [0, 60, 300, 600, 900]) 2) 3 (by omega)
  show (stepT L nT i).1.length ≤ 2
  unfold stepT; rw [targets_len]; simp; omega
theorem steps_t2 {L : List Int} {nT : Nat} : ∀ (n : Nat) (ts : List D.PolicyStep) (i : Nat), (∀ s ∈ ts, s.Targets.length ≤ 2) → ∀ s ∈ (steps L nT n ts i).1, s.Targets.length ≤ 2
  | 0, ts, i, h => h
  | n + 1, ts, i, h => by
    refine steps_t2 (L := L) (nT := nT) n (ts ++ [stepP L nT i]) (stepI L nT i) (fun s hs => ?_)
    rcases List.mem_append.1 hs with hs | hs
    · exact h s hs
    · simp only [List.mem_singleton] at hs; rw [hs]; exact stepP_t2 ..
theorem teams_m2 {L : List Int} : ∀ (n : Nat) (ts : List D.Team) (i : Nat), (∀ t ∈ ts, t.Members.length ≤ 2) → (∀ t ∈ (teams L n ts i).1, t.Members.length ≤ 2) ∧ (teams L n ts i).1.length = ts.length + n
  | 0, ts, i, h => ⟨h, rfl⟩
  | n + 1, ts, i, h => by
    have := teams_m2 (L := L) n (ts ++ [team L i ts.length]) (teamI L i) (fun t ht => by
      rcases List.mem_append.1 ht with ht | ht
      · exact h t ht
      · simp only [List.mem_singleton] at ht; rw [ht]; unfold team; split <;> simp)
    refine ⟨this.1, ?_⟩
    rw [teams, this.2]; simp; omega
theorem book_B (L : List Int) (i : Nat) : BookB 8 (book L i) := by
  have hg := book_good L i
  have h3 := nextN_lt L i 3 (by omega)
  have ht := teams_m2 (L := L) (nextN L i 3) [] (nextI L i 3) (by simp)
  refine ⟨?_, by omega, fun t h => ?_, fun p hp => (hg.1 p hp).len8, fun p hp s hs => ?_⟩
  · show (bookT L i).1.length ≤ 8
    unfold bookT; rw [ht.2]; simp; omega
  · exact Nat.le_trans (ht.1 t h) (by decide)
  · have := policies_all (L := L) (nT := (bookT L i).1.length) (Q := fun p => ∀ s ∈ p.Steps, s.Targets.length ≤ 2) (fun k i => by
      show ∀ s ∈ (policyS L _ i).1, _
      unfold policyS; exact steps_t2 _ _ _ (by simp)) (1 + nextN L (bookT L i).2 3) [] (nextI L (bookT L i).2 3) (by simp) p hp s hs
    exact Nat.le_trans this (by decide)
theorem persons_le {L : List Int} : ∀ (n : Nat) (ps : List D.Person) (i : Nat), i ≤ L.length → (persons L n ps i).2 ≤ L.length
  | 0, _, _, h => h
  | n + 1, ps, i, h => persons_le n _ _ (personI_le h)
theorem schs_le {L : List Int} : ∀ (n : Nat) (ss : List D.Schedule) (i : Nat), i ≤ L.length → (schs L n ss i).2 ≤ L.length
  | 0, _, _, h => h
  | n + 1, ss, i, h => schs_le n _ _ (schI_le h)
theorem crewI_le {L : List Int} {i : Nat} (h : i ≤ L.length) : crewI L i ≤ L.length := schs_le _ _ _ (persons_le _ _ _ (oneI_le _ h))
theorem teams_nth {L : List Int} : ∀ (n : Nat) (ts : List D.Team) (i : Nat), (∀ k, k < ts.length → ∃ j, nth ts k = team L j k) → ∀ k, k < (teams L n ts i).1.length → ∃ j, nth (teams L n ts i).1 k = team L j k
  | 0, ts, i, h => h
  | n + 1, ts, i, h => teams_nth n (ts ++ [team L i ts.length]) (teamI L i) (fun k hk => by
      simp only [List.length_append, List.length_cons, List.length_nil] at hk
      rcases Nat.lt_or_ge k ts.length with h' | h'
      · rw [nth_append_left h']; exact h k h'
      · rw [show k = ts.length by omega, nth_append_len]; exact ⟨i, rfl⟩)
theorem policies_nth {L : List Int} {nT : Nat} : ∀ (n : Nat) (ts : List D.Policy) (i : Nat), (∀ k, k < ts.length → ∃ j, nth ts k = policyP L nT k j) → ∀ k, k < (policies L nT n ts i).1.length → ∃ j, nth (policies L nT n ts i).1 k = policyP L nT k j
  | 0, ts, i, h => h
  | n + 1, ts, i, h => policies_nth n (ts ++ [policyP L nT ts.length i]) (policyI L nT i) (fun k hk => by
      simp only [List.length_append, List.length_cons, List.length_nil] at hk
      rcases Nat.lt_or_ge k ts.length with h' | h'
      · rw [nth_append_left h']; exact h k h'
      · rw [show k = ts.length by omega, nth_append_len]; exact ⟨i, rfl⟩)
theorem steps_nth {L : List Int} {nT : Nat} : ∀ (n : Nat) (ts : List D.PolicyStep) (i : Nat), (∀ k, k < ts.length → ∃ j, nth ts k = stepP L nT j) → ∀ k, k < (steps L nT n ts i).1.length → ∃ j, nth (steps L nT n ts i).1 k = stepP L nT j
  | 0, ts, i, h => h
  | n + 1, ts, i, h => steps_nth n (ts ++ [stepP L nT i]) (stepI L nT i) (fun k hk => by
      simp only [List.length_append, List.length_cons, List.length_nil] at hk
      rcases Nat.lt_or_ge k ts.length with h' | h'
      · rw [nth_append_left h']; exact h k h'
      · rw [show k = ts.length by omega, nth_append_len]; exact ⟨i, rfl⟩)
theorem targets_nth {L : List Int} {nT : Nat} : ∀ (n : Nat) (ts : List D.Target) (i : Nat), (∀ k, k < ts.length → ∃ j, nth ts k = target L j nT) → ∀ k, k < (targets L nT n ts i).1.length → ∃ j, nth (targets L nT n ts i).1 k = target L j nT
  | 0, ts, i, h => h
  | n + 1, ts, i, h => targets_nth n (ts ++ [target L i nT]) (targetI L i nT) (fun k hk => by
      simp only [List.length_append, List.length_cons, List.length_nil] at hk
      rcases Nat.lt_or_ge k ts.length with h' | h'
      · rw [nth_append_left h']; exact h k h'
      · rw [show k = ts.length by omega, nth_append_len]; exact ⟨i, rfl⟩)
theorem target_valid (L : List Int) (j nT : Nat) : targetErr 4 2 nT (target L j nT) = 0 := by
  have h3 := nextN_lt L j 3 (by omega)
  rw [target_eq, if_pos]
  unfold target targetN
  have hk : targetK L j nT = 0 ∨ targetK L j nT = 1 ∨ (targetK L j nT = 2 ∧ nT ≠ 0) := by
    unfold targetK; split <;> omega
  simp only
  rcases hk with h | h | ⟨h, h0⟩ <;> rw [h]
  · have := nextN_lt L (nextI L j 3) 4 (by omega)
    exact ⟨by omega, .inl ⟨rfl, this⟩⟩
  · have := nextN_lt L (nextI L j 3) 2 (by omega)
    exact ⟨by omega, .inr (.inl ⟨rfl, this⟩)⟩
  · have := nextN_lt L (nextI L j 3) (nT : Int) (by omega)
    exact ⟨by omega, .inr (.inr ⟨rfl, this⟩)⟩
theorem step_valid (L : List Int) (j nT : Nat) : stepErr 4 2 nT (stepP L nT j) = 0 := by
  unfold stepErr
  rw [if_neg (by rw [stepP_wait]; simp)]
  have h2 := stepP_t2 L nT j
  unfold targetsErr
  rw [if_neg (by omega)]
  refine firstN_zero fun k hk => ?_
  obtain ⟨i', h'⟩ := targets_nth (L := L) (nT := nT) (nextN L (nextI L (oneI L j [0, 60, 300, 600, 900]) 2) 3) [] (nextI L (nextI L (oneI L j [0, 60, 300, 600, 900]) 2) 3) (by simp) k hk
  show targetErr 4 2 nT (nth (stepT L nT j).1 k) = 0
  unfold stepT
  rw [h']
  exact target_valid ..
def polNames : List ByteArray := [ByteArray.mk #[112], ByteArray.mk #[113], ByteArray.mk #[114]]
def teamNames : List ByteArray := [ByteArray.mk #[99, 111, 114, 101], ByteArray.mk #[119, 101, 98]]
theorem polNames_ok : ∀ k, k < 3 → nameOK (nth polNames k) = true ∧ ∀ m, m < k → ¬ nth polNames m = nth polNames k := by decide
theorem teamNames_ok : ∀ k, k < 2 → nameOK (nth teamNames k) = true ∧ ∀ m, m < k → ¬ nth teamNames m = nth teamNames k := by decide
theorem team_name (L : List Int) (j k : Nat) : (team L j k).Name = nth teamNames k := by unfold team; split <;> rfl
theorem team_set (L : List Int) (j k : Nat) : setErr 4 (team L j k).Members = 0 := by
  have h1 := nextN_lt L j 2 (by omega)
  have h2 := nextN_lt L (nextI L (nextI L j 2) 2) 2 (by omega)
  unfold team
  split
  · unfold setErr
    rw [if_neg (by simp), if_neg, if_pos]
    · simp only [nth, List.getD_cons_zero, List.length_cons, List.length_nil, List.getD_cons_succ]; omega
    · rw [ascB_yes (n := 2) (by simp) (fun i h3 h4 => by
        rw [show i = 1 by omega]; simp only [nth, Nat.sub_self, List.getD_cons_zero, List.getD_cons_succ]; omega)]; simp
  · unfold setErr
    rw [if_neg (by simp), if_neg, if_pos]
    · simp only [nth, Nat.zero_add, Nat.sub_self, List.getD_cons_zero, List.length_cons, List.length_nil]; omega
    · rw [ascB_yes (n := 1) (by simp) (fun i h3 h4 => by omega)]; simp
theorem book_valid (L : List Int) (i : Nat) : bookErr 4 2 (book L i) = 0 := by
  have hg := book_good L i
  have hB := book_B L i
  have hT := fun k (hk : k < (book L i).Teams.length) => teams_nth (L := L) (nextN L i 3) [] (nextI L i 3) (by simp) k hk
  have hP := fun k (hk : k < (book L i).Policies.length) => policies_nth (L := L) (nT := (bookT L i).1.length) (1 + nextN L (bookT L i).2 3) [] (nextI L (bookT L i).2 3) (by simp) k hk
  have h3 := nextN_lt L i 3 (by omega)
  have hTl : (book L i).Teams.length ≤ 2 := by
    show (bookT L i).1.length ≤ 2
    unfold bookT; rw [(teams_m2 _ _ _ (by simp)).2]; simp; omega
  have htn : ∀ k, k < (book L i).Teams.length → (nth (book L i).Teams k).Name = nth teamNames k := fun k hk => by
    obtain ⟨j, hj⟩ := hT k hk
    rw [show nth (book L i).Teams k = team L j k from hj]; exact team_name ..
  have hpn : ∀ k, k < (book L i).Policies.length → (nth (book L i).Policies k).Name = nth polNames k := fun k hk => by
    obtain ⟨j, hj⟩ := hP k hk
    rw [show nth (book L i).Policies k = policyP L (bookT L i).1.length k j from hj]; rfl
  have ht0 : firstN (teamErr 4 (book L i)) (book L i).Teams.length = 0 := firstN_zero fun k hk => by
    have hn := teamNames_ok k (by omega)
    unfold teamErr
    rw [if_neg (by rw [htn k hk, hn.1]; simp), if_neg]
    · obtain ⟨j, hj⟩ := hT k hk
      rw [show nth (book L i).Teams k = team L j k from hj]; exact team_set ..
    · rw [earlierB_no (n := k) (Nat.le_refl _) (fun m hm => by rw [tname_at (by omega), tname_at hk, htn m (by omega), htn k hk]; exact hn.2 m hm)]; simp
  have hp0 : firstN (policyErr 4 2 (book L i)) (book L i).Policies.length = 0 := firstN_zero fun k hk => by
    have hn := polNames_ok k (by omega)
    have hgk := hg.1 _ (nth_mem hk)
    have hr := book_rep L i _ (nth_mem hk)
    unfold policyErr
    rw [if_neg (by rw [hpn k hk, hn.1]; simp), if_neg, if_neg (by have := hgk.len1; omega), if_neg (by have := hgk.len8; omega), if_neg (by rw [inB_true ⟨hgk.rep0, hgk.rep8⟩]; simp)]
    · refine firstN_zero fun m hm => ?_
      obtain ⟨j, hj⟩ := hP k hk
      rw [show nth (book L i).Policies k = policyP L (bookT L i).1.length k j from hj] at hm ⊢
      obtain ⟨j2, hj2⟩ := steps_nth (L := L) (nT := (bookT L i).1.length) (1 + nextN L (oneI L j [0, 0, 1, 2]) 3) [] (nextI L (oneI L j [0, 0, 1, 2]) 3) (by simp) m hm
      rw [show nth (policyP L (bookT L i).1.length k j).Steps m = stepP L (bookT L i).1.length j2 from hj2]
      exact step_valid ..
    · rw [earlierB_no (n := k) (Nat.le_refl _) (fun m hm => by rw [pname_at (by omega), pname_at hk, hpn m (by omega), hpn k hk]; exact hn.2 m hm)]; simp
  unfold bookErr
  rw [if_neg (by omega), if_pos ht0, hp0]
end Go.Proofs.YtimfbibaoppfcaaGreatDoor
