/-
  The typed layer, part A: values with types (BV), what they mean (er), how they are read. No project text.
-/
import Derived.Test.YtbcginibldjnaaaGreatBData
set_option linter.unusedVariables false
set_option linter.unusedSimpArgs false
namespace Go.Proofs.YtbcginibldjnaaaGreat.AM
open Go

inductive BV where
  | n (k : IntKind) (x : Int)
  | b (x : Bool)
  | s (x : ByteArray)
  | ts (f : Bool) (t : TC) (l : List (TT t))
  | nil
  | agg (cs : List BV)
  | tup (vs : List BV)
  | ref (n : Name) (off : Nat)
  | own (n : Name) (ver : Nat)
  | aref (n : Name) (ver i off : Nat)
  | view (n : Name) (ver lo hi : Nat)
  /-- A map. -/
  | mref (n : Name)
  | tep (cs : List BV)
  | clo (f : Fn) (caps : List BV)
  | v (x : Value)
  /-- A truth value that is not known. -/
  | ub
  | any

inductive BO where
  | box (cells : List BV)
  | arr (t : TC) (l : List (TT t)) (ver : Nat)
  /-- A map from texts to truth values. -/
  | sm (es : List (ByteArray × Bool))

abbrev TS := List (Nat × BV)
abbrev HS := List (Name × BO)

def BV.pv : BV → PV
  | .n k x => .v (.int k x)
  | .b x => .v (.bool x)
  | .s x => .v (.string x)
  | .ts f t l => .sl f (tz t) (l.map (tcells t))
  | .nil => .sl true 0 []
  | .v x => .v x
  | _ => .v .nilIface
def BV.isP : BV → Bool
  | .n _ _ => true
  | .b _ => true
  | .s _ => true
  | .ts _ _ _ => true
  | .nil => true
  | .v _ => true
  | _ => false
/-- The lengths that the headers of own arrays show: of each version one. -/
abbrev Lens := Name → Nat → Nat
mutual
def BV.er (L : Lens) : BV → AV
  | .agg cs => .agg (erL L cs)
  | .tup vs => .tup (erL L vs)
  | .ref n o => .ref n o
  | .own n v => .own n (L n v)
  | .aref n v i o => .aref n (L n v) i o
  | .view n v i o => .view n (L n v) i o
  | .mref n => .oref true n
  | .tep cs => .eptr (pvL cs)
  | .clo f caps => .clo f [] (erL L caps)
  | .any => .any
  | .ub => .ub
  | .n k x => .p (.v (.int k x))
  | .b x => .p (.v (.bool x))
  | .s x => .p (.v (.string x))
  | .ts f t l => .p (.sl f (tz t) (l.map (tcells t)))
  | .nil => .p (.sl true 0 [])
  | .v x => .p (.v x)
def erL (L : Lens) : List BV → List AV
  | [] => []
  | x :: r => x.er L :: erL L r
def pvL : List BV → List PV
  | [] => []
  | x :: r => x.pv :: pvL r
end
variable {L L' : Lens}
theorem erL_map : ∀ l : List BV, erL L l = l.map (BV.er L)
  | [] => by simp only [erL, List.map_nil]
  | x :: r => by simp only [erL, List.map_cons, erL_map r]
theorem pvL_map : ∀ l : List BV, pvL l = l.map BV.pv
  | [] => by simp only [pvL, List.map_nil]
  | x :: r => by simp only [pvL, List.map_cons, pvL_map r]
theorem er_isP {x : BV} (h : x.isP = true) : x.er L = .p x.pv := by cases x <;> first | (simp only [BV.er, BV.pv]; done) | simp [BV.isP] at h
theorem erL_isP : ∀ {l : List BV}, l.all BV.isP = true → erL L l = pcells (pvL l)
  | [], _ => by simp only [erL, pvL, pcells, List.map_nil]
  | x :: r, h => by
    simp only [List.all_cons, Bool.and_eq_true] at h
    simp only [erL, pvL, pcells, List.map_cons, er_isP h.1, erL_isP h.2]
theorem erL_append (a b : List BV) : erL L (a ++ b) = erL L a ++ erL L b := by simp [erL_map]
theorem erL_length (a : List BV) : (erL L a).length = a.length := by simp [erL_map]
theorem erL_drop (a : List BV) (k : Nat) : erL L (a.drop k) = (erL L a).drop k := by simp [erL_map]
theorem erL_take (a : List BV) (k : Nat) : erL L (a.take k) = (erL L a).take k := by simp [erL_map]
theorem erL_get (a : List BV) (k : Nat) : (erL L a)[k]? = (a[k]?).map (BV.er L) := by simp [erL_map]
theorem erL_setAt (a b : List BV) (k : Nat) : erL L (setAt a k b) = setAt (erL L a) k (erL L b) := by simp [erL_map, setAt]
theorem pvL_drop (a : List BV) (k : Nat) : pvL (a.drop k) = (pvL a).drop k := by simp [pvL_map]
theorem pvL_take (a : List BV) (k : Nat) : pvL (a.take k) = (pvL a).take k := by simp [pvL_map]
theorem pvL_length (a : List BV) : (pvL a).length = a.length := by simp [pvL_map]
theorem pvL_get (a : List BV) (k : Nat) : (pvL a)[k]? = (a[k]?).map BV.pv := by simp [pvL_map]
theorem pvL_setAt (a b : List BV) (k : Nat) : pvL (setAt a k b) = setAt (pvL a) k (pvL b) := by simp [pvL_map, setAt]
def BO.er (L : Lens) : BO → AO
  | .box cells => .box (erL L cells)
  | .arr t l _ => .arr (tz t) (l.map (tcells t))
  | .sm es => .obj (smap (es.map fun p => (p.1, .bool p.2)))
def erT (L : Lens) (ts : TS) : List (Nat × AV) := ts.map fun p => (p.1, p.2.er L)
def erH (L : Lens) (hs : HS) : List (Name × AO) := hs.map fun p => (p.1, p.2.er L)
theorem look_erT (k : Nat) : ∀ ts : TS, look k (erT L ts) = (look k ts).map (BV.er L)
  | [] => rfl
  | (j, x) :: r => by
    show look k ((j, x.er L) :: erT L r) = (look k ((j, x) :: r)).map (BV.er L)
    simp only [look]; split
    · rfl
    · exact look_erT k r
theorem look_erH (k : Nat) : ∀ hs : HS, look k (erH L hs) = (look k hs).map (BO.er L)
  | [] => rfl
  | (j, x) :: r => by
    show look k ((j, x.er L) :: erH L r) = (look k ((j, x) :: r)).map (BO.er L)
    simp only [look]; split
    · rfl
    · exact look_erH k r
theorem erT_append (a b : TS) : erT L (a ++ b) = erT L a ++ erT L b := by simp [erT]
theorem erH_append (a b : HS) : erH L (a ++ b) = erH L a ++ erH L b := by simp [erH]
theorem keys_erH (a : HS) : keys (erH L a) = keys a := by simp [erH, keys]

/-! ### What names a value bears -/
mutual
def BV.has (n : Name) : BV → Bool
  | .agg cs => BV.hasL n cs
  | .tup vs => BV.hasL n vs
  | .clo _ cs => BV.hasL n cs
  | .ref m _ => m == n
  | .own m _ => m == n
  | .aref m _ _ _ => m == n
  | .view m _ _ _ => m == n
  | .mref m => m == n
  | _ => false
def BV.hasL (n : Name) : List BV → Bool
  | [] => false
  | x :: r => BV.has n x || BV.hasL n r
end
mutual
theorem has_er (n : Name) : ∀ x : BV, (x.er L).has n = x.has n
  | .agg cs => by simp only [BV.er, AV.has, BV.has, hasL_er n cs]
  | .tup cs => by simp only [BV.er, AV.has, BV.has, hasL_er n cs]
  | .clo f cs => by simp only [BV.er, AV.has, BV.has, hasL_er n cs, AV.hasL, Bool.false_or]
  | .ref _ _ => by simp only [BV.er, AV.has, BV.has]
  | .own _ _ => by simp only [BV.er, AV.has, BV.has]
  | .aref _ _ _ _ => by simp only [BV.er, AV.has, BV.has]
  | .view _ _ _ _ => by simp only [BV.er, AV.has, BV.has]
  | .mref _ => by simp only [BV.er, AV.has, BV.has]
  | .tep _ => by simp only [BV.er, AV.has, BV.has]
  | .any => by simp only [BV.er, AV.has, BV.has]
  | .ub => by simp only [BV.er, AV.has, BV.has]
  | .n _ _ => by simp only [BV.er, AV.has, BV.has]
  | .b _ => by simp only [BV.er, AV.has, BV.has]
  | .s _ => by simp only [BV.er, AV.has, BV.has]
  | .ts _ _ _ => by simp only [BV.er, AV.has, BV.has]
  | .nil => by simp only [BV.er, AV.has, BV.has]
  | .v _ => by simp only [BV.er, AV.has, BV.has]
theorem hasL_er (n : Name) : ∀ l : List BV, AV.hasL n (erL L l) = BV.hasL n l
  | [] => by simp only [erL, AV.hasL, BV.hasL]
  | x :: r => by simp only [erL, AV.hasL, BV.hasL, has_er n x, hasL_er n r]
end
mutual
/-- No header of this version. -/
def BV.nov (n : Name) (v : Nat) : BV → Bool
  | .agg cs => BV.novL n v cs
  | .tup vs => BV.novL n v vs
  | .clo _ cs => BV.novL n v cs
  | .own m u => !(Nat.beq m n && Nat.beq u v)
  | .aref m u _ _ => !(Nat.beq m n && Nat.beq u v)
  | .view m u _ _ => !(Nat.beq m n && Nat.beq u v)
  | _ => true
def BV.novL (n : Name) (v : Nat) : List BV → Bool
  | [] => true
  | x :: r => BV.nov n v x && BV.novL n v r
end
mutual
theorem er_congr : ∀ x : BV, (∀ n v, x.nov n v = false → L n v = L' n v) → x.er L = x.er L'
  | .agg cs, h => by simp only [BV.er, erL_congr cs (fun n v hn => h n v (by simpa only [BV.nov] using hn))]
  | .tup cs, h => by simp only [BV.er, erL_congr cs (fun n v hn => h n v (by simpa only [BV.nov] using hn))]
  | .clo f cs, h => by simp only [BV.er, erL_congr cs (fun n v hn => h n v (by simpa only [BV.nov] using hn))]
  | .ref _ _, _ => by simp only [BV.er]
  | .own m u, h => by simp only [BV.er, h m u (by simp [BV.nov])]
  | .aref m u _ _, h => by simp only [BV.er, h m u (by simp [BV.nov])]
  | .view m u _ _, h => by simp only [BV.er, h m u (by simp [BV.nov])]
  | .mref _, _ => by simp only [BV.er]
  | .tep _, _ => by simp only [BV.er]
  | .any, _ => by simp only [BV.er]
  | .ub, _ => by simp only [BV.er]
  | .n _ _, _ => by simp only [BV.er]
  | .b _, _ => by simp only [BV.er]
  | .s _, _ => by simp only [BV.er]
  | .ts _ _ _, _ => by simp only [BV.er]
  | .nil, _ => by simp only [BV.er]
  | .v _, _ => by simp only [BV.er]
theorem erL_congr : ∀ l : List BV, (∀ n v, BV.novL n v l = false → L n v = L' n v) → erL L l = erL L' l
  | [], _ => by simp only [erL]
  | x :: r, h => by
    simp only [erL, er_congr x (fun n v hn => h n v (by simp only [BV.novL, hn, Bool.false_and])), erL_congr r (fun n v hn => h n v (by simp only [BV.novL, hn, Bool.and_false]))]
end
mutual
theorem nov_has {n : Name} {v : Nat} : ∀ x : BV, x.nov n v = false → x.has n = true
  | .agg cs, h => by simp only [BV.nov] at h; simp only [BV.has, novL_has cs h]
  | .tup cs, h => by simp only [BV.nov] at h; simp only [BV.has, novL_has cs h]
  | .clo f cs, h => by simp only [BV.nov] at h; simp only [BV.has, novL_has cs h]
  | .ref _ _, h => by simp [BV.nov] at h
  | .own m u, h => by simp only [BV.nov, Bool.not_eq_false', Bool.and_eq_true, Nat.beq_eq] at h; simp [BV.has, h.1]
  | .view m u _ _, h => by simp only [BV.nov, Bool.not_eq_false', Bool.and_eq_true, Nat.beq_eq] at h; simp [BV.has, h.1]
  | .mref _, h => by simp [BV.nov] at h
  | .aref m u _ _, h => by simp only [BV.nov, Bool.not_eq_false', Bool.and_eq_true, Nat.beq_eq] at h; simp [BV.has, h.1]
  | .tep _, h => by simp [BV.nov] at h
  | .any, h => by simp [BV.nov] at h
  | .ub, h => by simp [BV.nov] at h
  | .n _ _, h => by simp [BV.nov] at h
  | .b _, h => by simp [BV.nov] at h
  | .s _, h => by simp [BV.nov] at h
  | .ts _ _ _, h => by simp [BV.nov] at h
  | .nil, h => by simp [BV.nov] at h
  | .v _, h => by simp [BV.nov] at h
theorem novL_has {n : Name} {v : Nat} : ∀ l : List BV, BV.novL n v l = false → BV.hasL n l = true
  | [], h => by simp [BV.novL] at h
  | x :: r, h => by
    simp only [BV.novL, Bool.and_eq_false_iff] at h
    simp only [BV.hasL, Bool.or_eq_true]
    exact h.imp (nov_has x) (novL_has r)
end
def BO.has (n : Name) : BO → Bool
  | .box cells => BV.hasL n cells
  | .arr _ _ _ => false
  | .sm _ => false
def BO.nov (n : Name) (v : Nat) : BO → Bool
  | .box cells => BV.novL n v cells
  | .arr _ _ _ => true
  | .sm _ => true
theorem hasO_er (n : Name) (o : BO) : (o.er L).has n = o.has n := by cases o <;> simp only [BO.er, AO.has, BO.has, hasL_er]
def freeS (n : Name) (ts : TS) (hs : HS) : Bool := ts.all (fun p => !p.2.has n) && hs.all (fun p => !p.2.has n)
theorem freeS_er {n : Name} {ts : TS} {hs : HS} : freeIn n (erT L ts) (erH L hs) = freeS n ts hs := by
  simp only [freeIn, freeS, erT, erH, List.all_map]
  congr 1
  · congr 1; funext p; simp only [Function.comp, has_er]
  · congr 1; funext p; simp only [Function.comp, hasO_er]

def novS (n : Name) (v : Nat) (ts : TS) (hs : HS) : Bool := ts.all (fun p => p.2.nov n v) && hs.all (fun p => p.2.nov n v)
theorem erO_congr (o : BO) (h : ∀ n v, o.nov n v = false → L n v = L' n v) : o.er L = o.er L' := by
  cases o with
  | box cs => simp only [BO.er, erL_congr cs (fun n v hn => h n v (by simpa only [BO.nov] using hn))]
  | arr t l => simp only [BO.er]
  | sm es => simp only [BO.er]
theorem novO_has {n : Name} {v : Nat} (o : BO) (h : o.nov n v = false) : o.has n = true := by
  cases o with
  | box cs => exact novL_has cs h
  | arr t l => simp [BO.nov] at h
  | sm es => simp [BO.nov] at h
/-- New names and new versions leave a state as it is. -/
theorem erS_congr {nw : List Name} {nv : List (Name × Nat)} {ts : TS} {hs : HS} (h1 : ∀ n, n ∈ nw → freeS n ts hs = true) (h2 : ∀ p, p ∈ nv → novS p.1 p.2 ts hs = true) (h : ∀ n v, n ∉ nw → (n, v) ∉ nv → L' n v = L n v) : erT L ts = erT L' ts ∧ erH L hs = erH L' hs := by
  have key : ∀ n v, ((∃ p ∈ ts, p.2.nov n v = false) ∨ (∃ p ∈ hs, p.2.nov n v = false)) → L n v = L' n v := fun n v hx => by
    refine (h n v (fun hn => ?_) (fun hn => ?_)).symm
    · have := h1 n hn
      simp only [freeS, Bool.and_eq_true, List.all_eq_true] at this
      rcases hx with ⟨p, hp, hq⟩ | ⟨p, hp, hq⟩
      · have := this.1 p hp; rw [nov_has _ hq] at this; simp at this
      · have := this.2 p hp; rw [novO_has _ hq] at this; simp at this
    · have := h2 _ hn
      simp only [novS, Bool.and_eq_true, List.all_eq_true] at this
      rcases hx with ⟨p, hp, hq⟩ | ⟨p, hp, hq⟩
      · have := this.1 p hp; rw [hq] at this; simp at this
      · have := this.2 p hp; rw [hq] at this; simp at this
  unfold erT erH
  refine ⟨List.map_congr_left fun p hp => ?_, List.map_congr_left fun p hp => ?_⟩
  · rw [er_congr p.2 (fun n v hn => key n v (.inl ⟨p, hp, hn⟩))]
  · rw [erO_congr p.2 (fun n v hn => key n v (.inr ⟨p, hp, hn⟩))]

/-! ### Steps on the way (in the style of what comes after) -/
section
variable {R : Type}
def cnd (c : Bool) (x y : Option R) : Option R := match c with | true => x | false => y
/-- A number from 0 on. -/
def natc (j : Int) (k : Nat → Option R) : Option R := if 0 ≤ j then k j.toNat else none
def optc {α : Type} (o : Option α) (k : α → Option R) : Option R := match o with | some x => k x | none => none
def atc {α : Type} (l : List α) (j : Int) (k : α → Option R) : Option R := natc j fun i => optc l[i]? k
def chk (a b : Nat) (x : Option R) : Option R := if a = b then x else none
def ltc (a b : Nat) (x : Option R) : Option R := if a < b then x else none
/-- An empty list, or not. -/
def nilC {α : Type} (l : List α) (x y : Option R) : Option R := match l with | [] => x | _ :: _ => y
/-- Both ways lead to the same. -/
def both [DecidableEq R] (x y : Option R) : Option R := if x = y then x else none
def lec (a b : Nat) (x : Option R) : Option R := if a ≤ b then x else none
def nzc (b : Int) (x : Option R) : Option R := if b = 0 then none else x
def iterF {X : Type} (B : (X → Option R) → X → Option R) : Nat → X → Option R
  | 0, _ => none
  | n + 1, x => B (iterF B n) x
def join {Y : Type} (k : Y → Option R) (f : (Y → Option R) → Option R) : Option R := f k
variable {r : R}
theorem cnd_some {c : Bool} {x y : Option R} (h : cnd c x y = some r) : c = true ∧ x = some r ∨ c = false ∧ y = some r := by
  cases c
  · exact .inr ⟨rfl, h⟩
  · exact .inl ⟨rfl, h⟩
theorem nilC_some {α : Type} {l : List α} {x y : Option R} (h : nilC l x y = some r) : l = [] ∧ x = some r ∨ l ≠ [] ∧ y = some r := by
  cases l with
  | nil => exact .inl ⟨rfl, h⟩
  | cons a q => exact .inr ⟨by simp, h⟩
theorem both_some [DecidableEq R] {x y : Option R} (h : both x y = some r) : x = some r ∧ y = some r := by
  unfold both at h
  split at h
  · rename_i e; exact ⟨h, e ▸ h⟩
  · simp at h
theorem natc_some {j : Int} {k : Nat → Option R} (h : natc j k = some r) : ∃ i : Nat, j = (i : Int) ∧ k i = some r := by
  unfold natc at h
  split at h
  · exact ⟨j.toNat, by omega, h⟩
  · simp at h
theorem optc_some {α : Type} {o : Option α} {k : α → Option R} (h : optc o k = some r) : ∃ x, o = some x ∧ k x = some r := by
  cases o with
  | none => simp [optc] at h
  | some x => exact ⟨x, rfl, h⟩
theorem atc_some {α : Type} {l : List α} {j : Int} {k : α → Option R} (h : atc l j k = some r) : ∃ (i : Nat) (x : α), j = (i : Int) ∧ l[i]? = some x ∧ k x = some r := by
  obtain ⟨i, hi, h2⟩ := natc_some h
  obtain ⟨x, hx, h3⟩ := optc_some h2
  exact ⟨i, x, hi, hx, h3⟩
theorem chk_some {a b : Nat} {x : Option R} (h : chk a b x = some r) : a = b ∧ x = some r := by
  unfold chk at h; split at h
  · exact ⟨by assumption, h⟩
  · simp at h
theorem ltc_some {a b : Nat} {x : Option R} (h : ltc a b x = some r) : a < b ∧ x = some r := by
  unfold ltc at h; split at h
  · exact ⟨by assumption, h⟩
  · simp at h
theorem lec_some {a b : Nat} {x : Option R} (h : lec a b x = some r) : a ≤ b ∧ x = some r := by
  unfold lec at h; split at h
  · exact ⟨by assumption, h⟩
  · simp at h
theorem nzc_some {b : Int} {x : Option R} (h : nzc b x = some r) : b ≠ 0 ∧ x = some r := by
  unfold nzc at h; split at h
  · simp at h
  · exact ⟨by assumption, h⟩
end

/-! ### Reading typed data off cells -/
/-- Cells that may be taken for others. -/
def Le (a b : List BV) : Prop := ∀ L, AVleL (erL L a) (erL L b)
theorem AVleL.refl : ∀ l : List AV, AVleL l l
  | [] => .nil
  | x :: r => .cons (.refl x) (AVleL.refl r)
theorem Le.refl (l : List BV) : Le l l := fun L => AVleL.refl _
theorem Le.cons {x y : BV} {a b : List BV} (h : ∀ L, AVle (x.er L) (y.er L)) (h' : Le a b) : Le (x :: a) (y :: b) := fun L => by simp only [erL]; exact AVleL.cons (h L) (h' L)
theorem Le.cons' {x : BV} {a b : List BV} (h' : Le a b) : Le (x :: a) (x :: b) := fun L => by simp only [erL]; exact AVleL.cons (.refl _) (h' L)
def castL {t t0 : TC} (h : t = t0) (l : List (TT t)) : List (TT t0) := h ▸ l
section
variable {R : Type} {r : R}
def popN (k0 : IntKind) : List BV → (Int → List BV → Option R) → Option R
  | .n k x :: l, K => if kEq k0 k then K x l else none
  | _, _ => none
def popB : List BV → (Bool → List BV → Option R) → Option R
  | .b x :: l, K => K x l
  | _, _ => none
def popS : List BV → (ByteArray → List BV → Option R) → Option R
  | .s x :: l, K => K x l
  | _, _ => none
def popT (t0 : TC) : List BV → (List (TT t0) → List BV → Option R) → Option R
  | .ts _ t x :: l, K => if h : t = t0 then K (castL h x) l else none
  | .nil :: l, K => K [] l
  | _, _ => none
theorem popN_some {k0 : IntKind} {cs : List BV} {K : Int → List BV → Option R} (h : popN k0 cs K = some r) : ∃ x l, cs = .n k0 x :: l ∧ K x l = some r := by
  unfold popN at h
  split at h
  · split at h
    · rename_i he; have := kEq_of he; subst this; exact ⟨_, _, rfl, h⟩
    · simp at h
  · simp at h
theorem popB_some {cs : List BV} {K : Bool → List BV → Option R} (h : popB cs K = some r) : ∃ x l, cs = .b x :: l ∧ K x l = some r := by
  unfold popB at h
  split at h
  · exact ⟨_, _, rfl, h⟩
  · simp at h
theorem popS_some {cs : List BV} {K : ByteArray → List BV → Option R} (h : popS cs K = some r) : ∃ x l, cs = .s x :: l ∧ K x l = some r := by
  unfold popS at h
  split at h
  · exact ⟨_, _, rfl, h⟩
  · simp at h
theorem nil_le (t : TC) (L : Lens) : AVle (BV.nil.er L) ((BV.ts false t []).er L) := by simp only [BV.er]; exact .p (PVle.nil (fun h => by simp at h))
theorem popT_some {t0 : TC} {cs : List BV} {K : List (TT t0) → List BV → Option R} (h : popT t0 cs K = some r) : ∃ x l v, cs = v :: l ∧ (∀ L, AVle (v.er L) ((BV.ts false t0 x).er L)) ∧ K x l = some r := by
  unfold popT at h
  split at h
  · split at h
    · rename_i he; subst he; exact ⟨_, _, _, rfl, fun L => by simp only [BV.er, castL]; exact .p (PVle.full _), h⟩
    · simp at h
  · exact ⟨_, _, _, rfl, nil_le t0, h⟩
  · simp at h
end
end Go.Proofs.YtbcginibldjnaaaGreat.AM
