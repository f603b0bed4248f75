/-
  The typed layer, part A: values with types (BV), what they mean (er), how they are read. No project text.
-/
import Derived.Test.YtfhcigjkfelnfaaGreatQRowAuditLateC
import Derived.Maps.RangeRun
import Derived.Laws.StructEq
import Derived.Laws.BytesString
import Derived.Laws.Slices
set_option linter.unusedVariables false
set_option linter.unusedSimpArgs false
namespace Go.Proofs.YtfhcigjkfelnfaaGreat.AM
open Go
inductive BV where
  | n (k : IntKind) (x : Int)
  | b (x : Bool)
  | s (x : ByteArray)
  | ts (f : Bool) (t : TC) (l : List (TT t))
  | nil
  | agg (cs : List BV)
  | tup (vs : List BV)
  | ref (n : Name) (off : Nat)
  | own (n : Name) (ver : Nat)
  | aref (n : Name) (ver i off : Nat)
  | view (n : Name) (ver lo hi : Nat)
  /-- A map. -/
  | mref (n : Name)
  | tep (cs : List BV)
  | clo (f : Fn) (caps : List BV)
  | v (x : Value)
  /-- A truth value that is not known. -/
  | ub
  | any
inductive BO where
  | box (cells : List BV)
  | arr (t : TC) (l : List (TT t)) (ver : Nat)
  /-- A map from texts to truth values. -/
  | sm (es : List (ByteArray × Bool))
abbrev TS := List (Nat × BV)
abbrev HS := List (Name × BO)
def BV.pv : BV → PV
  | .n k x => .v (.int k x)
  | .b x => .v (.bool x)
  | .s x => .v (.string x)
  | .ts f t l => .sl f (tz t) (l.map (tcells t))
  | .nil => .sl true 0 []
  | .v x => .v x
  | _ => .v .nilIface
def BV.isP : BV → Bool
  | .n _ _ => true
  | .b _ => true
  | .s _ => true
  | .ts _ _ _ => true
  | .nil => true
  | .v _ => true
  | _ => false
abbrev Lens := Name → Nat → Nat
mutual
def BV.er (L : Lens) : BV → AV
  | .agg cs => .agg (erL L cs)
  | .tup vs => .tup (erL L vs)
  | .ref n o => .ref n o
  | .own n v => .own n (L n v)
  | .aref n v i o => .aref n (L n v) i o
  | .view n v i o => .view n (L n v) i o
  | .mref n => .oref true n
  | .tep cs => .eptr (pvL cs)
  | .clo f caps => .clo f [] (erL L caps)
  | .any => .any
  | .ub => .ub
  | .n k x => .p (.v (.int k x))
  | .b x => .p (.v (.bool x))
  | .s x => .p (.v (.string x))
  | .ts f t l => .p (.sl f (tz t) (l.map (tcells t)))
  | .nil => .p (.sl true 0 [])
  | .v x => .p (.v x)
def erL (L : Lens) : List BV → List AV
  | [] => []
  | x :: r => x.er L :: erL L r
def pvL : List BV → List PV
  | [] => []
  | x :: r => x.pv :: pvL r
end
variable {L L' : Lens}
theorem erL_map : ∀ l : List BV, erL L l = l.map (BV.er L)
  | [] => by simp only [erL, List.map_nil]
  | x :: r => by simp only [erL, List.map_cons, erL_map r]
theorem pvL_map : ∀ l : List BV, pvL l = l.map BV.pv
  | [] => by simp only [pvL, List.map_nil]
  | x :: r => by simp only [pvL, List.map_cons, pvL_map r]
theorem er_isP {x : BV} (h : x.isP = true) : x.er L = .p x.pv := by cases x <;> first | (simp only [BV.er, BV.pv]; done) | simp [BV.isP] at h
theorem erL_isP : ∀ {l : List BV}, l.all BV.isP = true → erL L l = pcells (pvL l)
  | [], _ => by simp only [erL, pvL, pcells, List.map_nil]
  | x :: r, h => by
    simp only [List.all_cons, Bool.and_eq_true] at h
    simp only [erL, pvL, pcells, List.map_cons, er_isP h.1, erL_isP h.2]
theorem erL_append (a b : List BV) : erL L (a ++ b) = erL L a ++ erL L b := by simp [erL_map]
theorem erL_length (a : List BV) : (erL L a).length = a.length := by simp [erL_map]
theorem erL_drop (a : List BV) (k : Nat) : erL L (a.drop k) = (erL L a).drop k := by simp [erL_map]
theorem erL_take (a : List BV) (k : Nat) : erL L (a.take k) = (erL L a).take k := by simp [erL_map]
theorem erL_get (a : List BV) (k : Nat) : (erL L a)[k]? = (a[k]?).map (BV.er L) := by simp [erL_map]
theorem erL_setAt (a b : List BV) (k : Nat) : erL L (setAt a k b) = setAt (erL L a) k (erL L b) := by simp [erL_map, setAt]
theorem pvL_drop (a : List BV) (k : Nat) : pvL (a.drop k) = (pvL a).drop k := by simp [pvL_map]
theorem pvL_take (a : List BV) (k : Nat) : pvL (a.take k) = (pvL a).take k := by simp [pvL_map]
theorem pvL_length (a : List BV) : (pvL a).length = a.length := by simp [pvL_map]
theorem pvL_get (a : List BV) (k : Nat) : (pvL a)[k]? = (a[k]?).map BV.pv := by simp [pvL_map]
theorem pvL_setAt (a b : List BV) (k : Nat) : pvL (setAt a k b) = setAt (pvL a) k (pvL b) := by simp [pvL_map, setAt]
def BO.er (L : Lens) : BO → AO
  | .box cells => .box (erL L cells)
  | .arr t l _ => .arr (tz t) (l.map (tcells t))
  | .sm es => .obj (smap (es.map fun p => (p.1, .bool p.2)))
def erT (L : Lens) (ts : TS) : List (Nat × AV) := ts.map fun p => (p.1, p.2.er L)
def erH (L : Lens) (hs : HS) : List (Name × AO) := hs.map fun p => (p.1, p.2.er L)
theorem look_erT (k : Nat) : ∀ ts : TS, look k (erT L ts) = (look k ts).map (BV.er L)
  | [] => rfl
  | (j, x) :: r => by
    show look k ((j, x.er L) :: erT L r) = (look k ((j, x) :: r)).map (BV.er L)
    simp only [look]; split
    · rfl
    · exact look_erT k r
theorem look_erH (k : Nat) : ∀ hs : HS, look k (erH L hs) = (look k hs).map (BO.er L)
  | [] => rfl
  | (j, x) :: r => by
    show look k ((j, x.er L) :: erH L r) = (look k ((j, x) :: r)).map (BO.er L)
    simp only [look]; split
    · rfl
    · exact look_erH k r
theorem erH_append (a b : HS) : erH L (a ++ b) = erH L a ++ erH L b := by simp [erH]
theorem keys_erH (a : HS) : keys (erH L a) = keys a := by simp [erH, keys]
mutual
def BV.has (n : Name) : BV → Bool
  | .agg cs => BV.hasL n cs
  | .tup vs => BV.hasL n vs
  | .clo _ cs => BV.hasL n cs
  | .ref m _ => m == n
  | .own m _ => m == n
  | .aref m _ _ _ => m == n
  | .view m _ _ _ => m == n
  | .mref m => m == n
  | _ => false
def BV.hasL (n : Name) : List BV → Bool
  | [] => false
  | x :: r => BV.has n x || BV.hasL n r
end
mutual
theorem has_er (n : Name) : ∀ x : BV, (x.er L).has n = x.has n
  | .agg cs => by simp only [BV.er, AV.has, BV.has, hasL_er n cs]
  | .tup cs => by simp only [BV.er, AV.has, BV.has, hasL_er n cs]
  | .clo f cs => by simp only [BV.er, AV.has, BV.has, hasL_er n cs, AV.hasL, Bool.false_or]
  | .ref _ _ => by simp only [BV.er, AV.has, BV.has]
  | .own _ _ => by simp only [BV.er, AV.has, BV.has]
  | .aref _ _ _ _ => by simp only [BV.er, AV.has, BV.has]
  | .view _ _ _ _ => by simp only [BV.er, AV.has, BV.has]
  | .mref _ => by simp only [BV.er, AV.has, BV.has]
  | .tep _ => by simp only [BV.er, AV.has, BV.has]
  | .any => by simp only [BV.er, AV.has, BV.has]
  | .ub => by simp only [BV.er, AV.has, BV.has]
  | .n _ _ => by simp only [BV.er, AV.has, BV.has]
  | .b _ => by simp only [BV.er, AV.has, BV.has]
  | .s _ => by simp only [BV.er, AV.has, BV.has]
  | .ts _ _ _ => by simp only [BV.er, AV.has, BV.has]
  | .nil => by simp only [BV.er, AV.has, BV.has]
  | .v _ => by simp only [BV.er, AV.has, BV.has]
theorem hasL_er (n : Name) : ∀ l : List BV, AV.hasL n (erL L l) = BV.hasL n l
  | [] => by simp only [erL, AV.hasL, BV.hasL]
  | x :: r => by simp only [erL, AV.hasL, BV.hasL, has_er n x, hasL_er n r]
end
mutual
def BV.nov (n : Name) (v : Nat) : BV → Bool
  | .agg cs => BV.novL n v cs
  | .tup vs => BV.novL n v vs
  | .clo _ cs => BV.novL n v cs
  | .own m u => !(Nat.beq m n && Nat.beq u v)
  | .aref m u _ _ => !(Nat.beq m n && Nat.beq u v)
  | .view m u _ _ => !(Nat.beq m n && Nat.beq u v)
  | _ => true
def BV.novL (n : Name) (v : Nat) : List BV → Bool
  | [] => true
  | x :: r => BV.nov n v x && BV.novL n v r
end
mutual
theorem er_congr : ∀ x : BV, (∀ n v, x.nov n v = false → L n v = L' n v) → x.er L = x.er L'
  | .agg cs, h => by simp only [BV.er, erL_congr cs (fun n v hn => h n v (by simpa only [BV.nov] using hn))]
  | .tup cs, h => by simp only [BV.er, erL_congr cs (fun n v hn => h n v (by simpa only [BV.nov] using hn))]
  | .clo f cs, h => by simp only [BV.er, erL_congr cs (fun n v hn => h n v (by simpa only [BV.nov] using hn))]
  | .ref _ _, _ => by simp only [BV.er]
  | .own m u, h => by simp only [BV.er, h m u (by simp [BV.nov])]
  | .aref m u _ _, h => by simp only [BV.er, h m u (by simp [BV.nov])]
  | .view m u _ _, h => by simp only [BV.er, h m u (by simp [BV.nov])]
  | .mref _, _ => by simp only [BV.er]
  | .tep _, _ => by simp only [BV.er]
  | .any, _ => by simp only [BV.er]
  | .ub, _ => by simp only [BV.er]
  | .n _ _, _ => by simp only [BV.er]
  | .b _, _ => by simp only [BV.er]
  | .s _, _ => by simp only [BV.er]
  | .ts _ _ _, _ => by simp only [BV.er]
  | .nil, _ => by simp only [BV.er]
  | .v _, _ => by simp only [BV.er]
theorem erL_congr : ∀ l : List BV, (∀ n v, BV.novL n v l = false → L n v = L' n v) → erL L l = erL L' l
  | [], _ => by simp only [erL]
  | x :: r, h => by
    simp only [erL, er_congr x (fun n v hn => h n v (by simp only [BV.novL, hn, Bool.false_and])), erL_congr r (fun n v hn => h n v (by simp only [BV.novL, hn, Bool.and_false]))]
end
mutual
theorem nov_has {n : Name} {v : Nat} : ∀ x : BV, x.nov n v = false → x.has n = true
  | .agg cs, h => by simp only [BV.nov] at h; simp only [BV.has, novL_has cs h]
  | .tup cs, h => by simp only [BV.nov] at h; simp only [BV.has, novL_has cs h]
  | .clo f cs, h => by simp only [BV.nov] at h; simp only [BV.has, novL_has cs h]
  | .ref _ _, h => by simp [BV.nov] at h
  | .own m u, h => by simp only [BV.nov, Bool.not_eq_false', Bool.and_eq_true, Nat.beq_eq] at h; simp [BV.has, h.1]
  | .view m u _ _, h => by simp only [BV.nov, Bool.not_eq_false', Bool.and_eq_true, Nat.beq_eq] at h; simp [BV.has, h.1]
  | .mref _, h => by simp [BV.nov] at h
  | .aref m u _ _, h => by simp only [BV.nov, Bool.not_eq_false', Bool.and_eq_true, Nat.beq_eq] at h; simp [BV.has, h.1]
  | .tep _, h => by simp [BV.nov] at h
  | .any, h => by simp [BV.nov] at h
  | .ub, h => by simp [BV.nov] at h
  | .n _ _, h => by simp [BV.nov] at h
  | .b _, h => by simp [BV.nov] at h
  | .s _, h => by simp [BV.nov] at h
  | .ts _ _ _, h => by simp [BV.nov] at h
  | .nil, h => by simp [BV.nov] at h
  | .v _, h => by simp [BV.nov] at h
theorem novL_has {n : Name} {v : Nat} : ∀ l : List BV, BV.novL n v l = false → BV.hasL n l = true
  | [], h => by simp [BV.novL] at h
  | x :: r, h => by
    simp only [BV.novL, Bool.and_eq_false_iff] at h
    simp only [BV.hasL, Bool.or_eq_true]
    exact h.imp (nov_has x) (novL_has r)
end
def BO.has (n : Name) : BO → Bool
  | .box cells => BV.hasL n cells
  | .arr _ _ _ => false
  | .sm _ => false
def BO.nov (n : Name) (v : Nat) : BO → Bool
  | .box cells => BV.novL n v cells
  | .arr _ _ _ => true
  | .sm _ => true
theorem hasO_er (n : Name) (o : BO) : (o.er L).has n = o.has n := by cases o <;> simp only [BO.er, AO.has, BO.has, hasL_er]
def freeS (n : Name) (ts : TS) (hs : HS) : Bool := ts.all (fun p => !p.2.has n) && hs.all (fun p => !p.2.has n)
theorem freeS_er {n : Name} {ts : TS} {hs : HS} : freeIn n (erT L ts) (erH L hs) = freeS n ts hs := by
  simp only [freeIn, freeS, erT, erH, List.all_map]
  congr 1
  · congr 1; funext p; simp only [Function.comp, has_er]
  · congr 1; funext p; simp only [Function.comp, hasO_er]
def novS (n : Name) (v : Nat) (ts : TS) (hs : HS) : Bool := ts.all (fun p => p.2.nov n v) && hs.all (fun p => p.2.nov n v)
theorem erO_congr (o : BO) (h : ∀ n v, o.nov n v = false → L n v = L' n v) : o.er L = o.er L' := by
  cases o with
  | box cs => simp only [BO.er, erL_congr cs (fun n v hn => h n v (by simpa only [BO.nov] using hn))]
  | arr t l => simp only [BO.er]
  | sm es => simp only [BO.er]
theorem novO_has {n : Name} {v : Nat} (o : BO) (h : o.nov n v = false) : o.has n = true := by
  cases o with
  | box cs => exact novL_has cs h
  | arr t l => simp [BO.nov] at h
  | sm es => simp [BO.nov] at h
theorem erS_congr {nw : List Name} {nv : List (Name × Nat)} {ts : TS} {hs : HS} (h1 : ∀ n, n ∈ nw → freeS n ts hs = true) (h2 : ∀ p, p ∈ nv → novS p.1 p.2 ts hs = true) (h : ∀ n v, n ∉ nw → (n, v) ∉ nv → L' n v = L n v) : erT L ts = erT L' ts ∧ erH L hs = erH L' hs := by
  have key : ∀ n v, ((∃ p ∈ ts, p.2.nov n v = false) ∨ (∃ p ∈ hs, p.2.nov n v = false)) → L n v = L' n v := fun n v hx => by
    refine (h n v (fun hn => ?_) (fun hn => ?_)).symm
    · have := h1 n hn
      simp only [freeS, Bool.and_eq_true, List.all_eq_true] at this
      rcases hx with ⟨p, hp, hq⟩ | ⟨p, hp, hq⟩
      · have := this.1 p hp; rw [nov_has _ hq] at this; simp at this
      · have := this.2 p hp; rw [novO_has _ hq] at this; simp at this
    · have := h2 _ hn
      simp only [novS, Bool.and_eq_true, List.all_eq_true] at this
      rcases hx with ⟨p, hp, hq⟩ | ⟨p, hp, hq⟩
      · have := this.1 p hp; rw [hq] at this; simp at this
      · have := this.2 p hp; rw [hq] at this; simp at this
  unfold erT erH
  refine ⟨List.map_congr_left fun p hp => ?_, List.map_congr_left fun p hp => ?_⟩
  · rw [er_congr p.2 (fun n v hn => key n v (.inl ⟨p, hp, hn⟩))]
  · rw [erO_congr p.2 (fun n v hn => key n v (.inr ⟨p, hp, hn⟩))]
section
variable {R : Type}
def cnd (c : Bool) (x y : Option R) : Option R := match c with | true => x | false => y
def natc (j : Int) (k : Nat → Option R) : Option R := if 0 ≤ j then k j.toNat else none
def optc {α : Type} (o : Option α) (k : α → Option R) : Option R := match o with | some x => k x | none => none
def atc {α : Type} (l : List α) (j : Int) (k : α → Option R) : Option R := natc j fun i => optc l[i]? k
def chk (a b : Nat) (x : Option R) : Option R := if a = b then x else none
def ltc (a b : Nat) (x : Option R) : Option R := if a < b then x else none
def nilC {α : Type} (l : List α) (x y : Option R) : Option R := match l with | [] => x | _ :: _ => y
def both [DecidableEq R] (x y : Option R) : Option R := if x = y then x else none
def lec (a b : Nat) (x : Option R) : Option R := if a ≤ b then x else none
def nzc (b : Int) (x : Option R) : Option R := if b = 0 then none else x
def iterF {X : Type} (B : (X → Option R) → X → Option R) : Nat → X → Option R
  | 0, _ => none
  | n + 1, x => B (iterF B n) x
def join {Y : Type} (k : Y → Option R) (f : (Y → Option R) → Option R) : Option R := f k
variable {r : R}
theorem cnd_some {c : Bool} {x y : Option R} (h : cnd c x y = some r) : c = true ∧ x = some r ∨ c = false ∧ y = some r := by
  cases c
  · exact .inr ⟨rfl, h⟩
  · exact .inl ⟨rfl, h⟩
theorem nilC_some {α : Type} {l : List α} {x y : Option R} (h : nilC l x y = some r) : l = [] ∧ x = some r ∨ l ≠ [] ∧ y = some r := by
  cases l with
  | nil => exact .inl ⟨rfl, h⟩
  | cons a q => exact .inr ⟨by simp, h⟩
theorem both_some [DecidableEq R] {x y : Option R} (h : both x y = some r) : x = some r ∧ y = some r := by
  unfold both at h
  split at h
  · rename_i e; exact ⟨h, e ▸ h⟩
  · simp at h
theorem natc_some {j : Int} {k : Nat → Option R} (h : natc j k = some r) : ∃ i : Nat, j = (i : Int) ∧ k i = some r := by
  unfold natc at h
  split at h
  · exact ⟨j.toNat, by omega, h⟩
  · simp at h
theorem optc_some {α : Type} {o : Option α} {k : α → Option R} (h : optc o k = some r) : ∃ x, o = some x ∧ k x = some r := by
  cases o with
  | none => simp [optc] at h
  | some x => exact ⟨x, rfl, h⟩
theorem atc_some {α : Type} {l : List α} {j : Int} {k : α → Option R} (h : atc l j k = some r) : ∃ (i : Nat) (x : α), j = (i : Int) ∧ l[i]? = some x ∧ k x = some r := by
  obtain ⟨i, hi, h2⟩ := natc_some h
  obtain ⟨x, hx, h3⟩ := optc_some h2
  exact ⟨i, x, hi, hx, h3⟩
theorem chk_some {a b : Nat} {x : Option R} (h : chk a b x = some r) : a = b ∧ x = some r := by
  unfold chk at h; split at h
  · exact ⟨by assumption, h⟩
  · simp at h
theorem ltc_some {a b : Nat} {x : Option R} (h : ltc a b x = some r) : a < b ∧ x = some r := by
  unfold ltc at h; split at h
  · exact ⟨by assumption, h⟩
  · simp at h
theorem lec_some {a b : Nat} {x : Option R} (h : lec a b x = some r) : a ≤ b ∧ x = some r := by
  unfold lec at h; split at h
  · exact ⟨by assumption, h⟩
  · simp at h
theorem nzc_some {b : Int} {x : Option R} (h : nzc b x = some r) : b ≠ 0 ∧ x = some r := by
  unfold nzc at h; split at h
  · simp at h
  · exact ⟨by assumption, h⟩
end
def Le (a b : List BV) : Prop := ∀ L, AVleL (erL L a) (erL L b)
theorem AVleL.refl : ∀ l : List AV, AVleL l l
  | [] => .nil
  | x :: r => .cons (.refl x) (AVleL.refl r)
theorem Le.refl (l : List BV) : Le l l := fun L => AVleL.refl _
theorem Le.cons {x y : BV} {a b : List BV} (h : ∀ L, AVle (x.er L) (y.er L)) (h' : Le a b) : Le (x :: a) (y :: b) := fun L => by simp only [erL]; exact AVleL.cons (h L) (h' L)
theorem Le.cons' {x : BV} {a b : List BV} (h' : Le a b) : Le (x :: a) (x :: b) := fun L => by simp only [erL]; exact AVleL.cons (.refl _) (h' L)
def castL {t t0 : TC} (h : t = t0) (l : List (TT t)) : List (TT t0) := h ▸ l
section
variable {R : Type} {r : R}
def popN (k0 : IntKind) : List BV → (Int → List BV → Option R) → Option R
  | .n k x :: l, K => if kEq k0 k then K x l else none
  | _, _ => none
def popB : List BV → (Bool → List BV → Option R) → Option R
  | .b x :: l, K => K x l
  | _, _ => none
def popS : List BV → (ByteArray → List BV → Option R) → Option R
  | .s x :: l, K => K x l
  | _, _ => none
def popT (t0 : TC) : List BV → (List (TT t0) → List BV → Option R) → Option R
  | .ts _ t x :: l, K => if h : t = t0 then K (castL h x) l else none
  | .nil :: l, K => K [] l
  | _, _ => none
theorem popN_some {k0 : IntKind} {cs : List BV} {K : Int → List BV → Option R} (h : popN k0 cs K = some r) : ∃ x l, cs = .n k0 x :: l ∧ K x l = some r := by
  unfold popN at h
  split at h
  · split at h
    · rename_i he; have := kEq_of he; subst this; exact ⟨_, _, rfl, h⟩
    · simp at h
  · simp at h
theorem popB_some {cs : List BV} {K : Bool → List BV → Option R} (h : popB cs K = some r) : ∃ x l, cs = .b x :: l ∧ K x l = some r := by
  unfold popB at h
  split at h
  · exact ⟨_, _, rfl, h⟩
  · simp at h
theorem popS_some {cs : List BV} {K : ByteArray → List BV → Option R} (h : popS cs K = some r) : ∃ x l, cs = .s x :: l ∧ K x l = some r := by
  unfold popS at h
  split at h
  · exact ⟨_, _, rfl, h⟩
  · simp at h
theorem nil_le (t : TC) (L : Lens) : AVle (BV.nil.er L) ((BV.ts false t []).er L) := by simp only [BV.er]; exact .p (PVle.nil (fun h => by simp at h))
theorem popT_some {t0 : TC} {cs : List BV} {K : List (TT t0) → List BV → Option R} (h : popT t0 cs K = some r) : ∃ x l v, cs = v :: l ∧ (∀ L, AVle (v.er L) ((BV.ts false t0 x).er L)) ∧ K x l = some r := by
  unfold popT at h
  split at h
  · split at h
    · rename_i he; subst he; exact ⟨_, _, _, rfl, fun L => by simp only [BV.er, castL]; exact .p (PVle.full _), h⟩
    · simp at h
  · exact ⟨_, _, _, rfl, nil_le t0, h⟩
  · simp at h
end
end Go.Proofs.YtfhcigjkfelnfaaGreat.AM
/-
  Typed cells, and typed data read off cells. Written by wip/gen/bdata.py. No project text.
-/
set_option linter.unusedVariables false
namespace Go.Proofs.YtfhcigjkfelnfaaGreat.AM
open Go
def tb : (t : TC) → TT t → List BV
  | .int, x => [.n .i64 x]
  | .str, x => [.s x]
  | .bool, x => [.b x]
  | .u8, x => [.n .u8 x]
  | .Arr3Int, x => [.n .i64 x.a0, .n .i64 x.a1, .n .i64 x.a2]
  | .YearRule, x => [.n .i64 x.From, .n .i64 x.To, .n .i64 x.Month, .n .i64 x.Week, .n .i64 x.Weekday, .n .i64 x.Second, .n .i64 x.Offset]
  | .Zone, x => [.s x.Name, .n .i64 x.Offset, .ts false .YearRule x.Rules]
  | .Window, x => [.n .i64 x.From, .n .i64 x.To]
  | .Person, x => [.s x.Name, .n .i64 x.Zone, .ts false .Window x.Quiet, .n .i64 x.MaxWeek, .n .i64 x.MinRest, .b x.Consent]
  | .Calendar, x => [.s x.Name, .n .i64 x.Zone, .ts false .int x.Days]
  | .Local, x => [.n .i64 x.Day, .n .i64 x.Second]
  | .Layer, x => [.s x.Name, .n .i64 x.Zone, .n .i64 x.Start.Day, .n .i64 x.Start.Second, .n .i64 x.Unit, .n .i64 x.Every, .ts false .int x.Members, .ts false .Window x.Windows, .n .i64 x.Calendar, .n .i64 x.Mode]
  | .Edit, x => [.n .i64 x.Kind, .n .i64 x.A, .n .i64 x.B, .n .i64 x.From, .n .i64 x.To]
  | .Schedule, x => [.s x.Name, .ts false .Layer x.Layers, .ts false .Edit x.Edits]
  | .Config, x => [.ts false .Zone x.Zones, .ts false .Person x.People, .ts false .Calendar x.Calendars, .ts false .Schedule x.Schedules]
  | .Team, x => [.s x.Name, .ts false .int x.Members]
  | .Target, x => [.n .i64 x.Kind, .n .i64 x.Index]
  | .PolicyStep, x => [.n .i64 x.Wait, .b x.Urgent, .ts false .Target x.Targets]
  | .Policy, x => [.s x.Name, .ts false .PolicyStep x.Steps, .n .i64 x.Repeat]
  | .Book, x => [.ts false .Team x.Teams, .ts false .Policy x.Policies]
  | .Start, x => [.n .i64 x.K, .n .i64 x.At, .ts false .int x.People]
  | .Page, x => [.n .i64 x.ID, .n .i64 x.Policy, .n .i64 x.Start, .n .i64 x.Next, .n .i64 x.Due, .n .i64 x.State, .n .i64 x.By, .n .i64 x.Until, .n .i64 x.Last, .n .i64 x.Snoozes, .n .i64 x.Hands, .ts false .Start x.Starts, .ts false .int x.Declined, .ts false .int x.Seen]
  | .Call, x => [.n .i64 x.Page, .n .i64 x.K, .n .i64 x.At, .n .i64 x.Person, .n .i64 x.Fence]
  | .Ledger, x => [.n .i64 x.Now, .ts false .Zone x.Config.Zones, .ts false .Person x.Config.People, .ts false .Calendar x.Config.Calendars, .ts false .Schedule x.Config.Schedules, .ts false .Team x.Book.Teams, .ts false .Policy x.Book.Policies, .ts false .Page x.Pages, .n .i64 x.Owner, .n .i64 x.Fence, .ts false .int x.Seen, .ts false .Call x.Calls]
  | .Answer, x => [.n .i64 x.ID, .n .i64 x.Page, .n .i64 x.Person, .n .i64 x.Kind, .n .i64 x.Arg, .n .i64 x.At]
  | .Op, x => [.n .i64 x.ID, .n .i64 x.Kind, .n .i64 x.Region, .n .i64 x.Fence, .n .i64 x.At, .n .i64 x.Page, .n .i64 x.K, .n .i64 x.Policy, .n .i64 x.Schedule, .n .i64 x.Answer.ID, .n .i64 x.Answer.Page, .n .i64 x.Answer.Person, .n .i64 x.Answer.Kind, .n .i64 x.Answer.Arg, .n .i64 x.Answer.At, .n .i64 x.Edit.Kind, .n .i64 x.Edit.A, .n .i64 x.Edit.B, .n .i64 x.Edit.From, .n .i64 x.Edit.To]
  | .Dice, x => [.ts false .int x.L, .n .i64 x.At]
  | .Transition, x => [.n .i64 x.At, .n .i64 x.Offset]
  | .Table, x => [.n .i64 x.offset, .ts false .Transition x.list]
  | .View, x => [.ts false .Zone x.Config.Zones, .ts false .Person x.Config.People, .ts false .Calendar x.Config.Calendars, .ts false .Schedule x.Config.Schedules, .ts false .Table x.tables]
  | .Date, x => [.n .i64 x.Year, .n .i64 x.Month, .n .i64 x.Day]
  | .Occurrence, x => [.n .i64 x.At, .n .i64 x.Offset]
  | .occurrence, x => [.n .i64 x.local_, .n .i64 x.offset]
  | .Piece, x => [.n .i64 x.From, .n .i64 x.To, .n .i64 x.Offset]
theorem tb_isP : ∀ (t : TC) (x : TT t), (tb t x).all BV.isP = true
  | .int, _ => rfl
  | .str, _ => rfl
  | .bool, _ => rfl
  | .u8, _ => rfl
  | .Arr3Int, _ => rfl
  | .YearRule, _ => rfl
  | .Zone, _ => rfl
  | .Window, _ => rfl
  | .Person, _ => rfl
  | .Calendar, _ => rfl
  | .Local, _ => rfl
  | .Layer, _ => rfl
  | .Edit, _ => rfl
  | .Schedule, _ => rfl
  | .Config, _ => rfl
  | .Team, _ => rfl
  | .Target, _ => rfl
  | .PolicyStep, _ => rfl
  | .Policy, _ => rfl
  | .Book, _ => rfl
  | .Start, _ => rfl
  | .Page, _ => rfl
  | .Call, _ => rfl
  | .Ledger, _ => rfl
  | .Answer, _ => rfl
  | .Op, _ => rfl
  | .Dice, _ => rfl
  | .Transition, _ => rfl
  | .Table, _ => rfl
  | .View, _ => rfl
  | .Date, _ => rfl
  | .Occurrence, _ => rfl
  | .occurrence, _ => rfl
  | .Piece, _ => rfl
theorem tb_pv : ∀ (t : TC) (x : TT t), pvL (tb t x) = tcells t x
  | .int, _ => rfl
  | .str, _ => rfl
  | .bool, _ => rfl
  | .u8, _ => rfl
  | .Arr3Int, _ => rfl
  | .YearRule, _ => rfl
  | .Zone, _ => rfl
  | .Window, _ => rfl
  | .Person, _ => rfl
  | .Calendar, _ => rfl
  | .Local, _ => rfl
  | .Layer, _ => rfl
  | .Edit, _ => rfl
  | .Schedule, _ => rfl
  | .Config, _ => rfl
  | .Team, _ => rfl
  | .Target, _ => rfl
  | .PolicyStep, _ => rfl
  | .Policy, _ => rfl
  | .Book, _ => rfl
  | .Start, _ => rfl
  | .Page, _ => rfl
  | .Call, _ => rfl
  | .Ledger, _ => rfl
  | .Answer, _ => rfl
  | .Op, _ => rfl
  | .Dice, _ => rfl
  | .Transition, _ => rfl
  | .Table, _ => rfl
  | .View, _ => rfl
  | .Date, _ => rfl
  | .Occurrence, _ => rfl
  | .occurrence, _ => rfl
  | .Piece, _ => rfl
section
variable {R : Type} {r : R}
def tpop : (t : TC) → List BV → (TT t → List BV → Option R) → Option R
  | .int, c, K => popN .i64 c K
  | .str, c, K => popS c K
  | .bool, c, K => popB c K
  | .u8, c, K => popN .u8 c K
  | .Arr3Int, c, K => popN .i64 c fun a0 c => popN .i64 c fun a1 c => popN .i64 c fun a2 c => K ⟨a0, a1, a2⟩ c
  | .YearRule, c, K => popN .i64 c fun a0 c => popN .i64 c fun a1 c => popN .i64 c fun a2 c => popN .i64 c fun a3 c => popN .i64 c fun a4 c => popN .i64 c fun a5 c => popN .i64 c fun a6 c => K ⟨a0, a1, a2, a3, a4, a5, a6⟩ c
  | .Zone, c, K => popS c fun a0 c => popN .i64 c fun a1 c => popT .YearRule c fun a2 c => K ⟨a0, a1, a2⟩ c
  | .Window, c, K => popN .i64 c fun a0 c => popN .i64 c fun a1 c => K ⟨a0, a1⟩ c
  | .Person, c, K => popS c fun a0 c => popN .i64 c fun a1 c => popT .Window c fun a2 c => popN .i64 c fun a3 c => popN .i64 c fun a4 c => popB c fun a5 c => K ⟨a0, a1, a2, a3, a4, a5⟩ c
  | .Calendar, c, K => popS c fun a0 c => popN .i64 c fun a1 c => popT .int c fun a2 c => K ⟨a0, a1, a2⟩ c
  | .Local, c, K => popN .i64 c fun a0 c => popN .i64 c fun a1 c => K ⟨a0, a1⟩ c
  | .Layer, c, K => popS c fun a0 c => popN .i64 c fun a1 c => popN .i64 c fun a2 c => popN .i64 c fun a3 c => popN .i64 c fun a4 c => popN .i64 c fun a5 c => popT .int c fun a6 c => popT .Window c fun a7 c => popN .i64 c fun a8 c => popN .i64 c fun a9 c => K ⟨a0, a1, ⟨a2, a3⟩, a4, a5, a6, a7, a8, a9⟩ c
  | .Edit, c, K => popN .i64 c fun a0 c => popN .i64 c fun a1 c => popN .i64 c fun a2 c => popN .i64 c fun a3 c => popN .i64 c fun a4 c => K ⟨a0, a1, a2, a3, a4⟩ c
  | .Schedule, c, K => popS c fun a0 c => popT .Layer c fun a1 c => popT .Edit c fun a2 c => K ⟨a0, a1, a2⟩ c
  | .Config, c, K => popT .Zone c fun a0 c => popT .Person c fun a1 c => popT .Calendar c fun a2 c => popT .Schedule c fun a3 c => K ⟨a0, a1, a2, a3⟩ c
  | .Team, c, K => popS c fun a0 c => popT .int c fun a1 c => K ⟨a0, a1⟩ c
  | .Target, c, K => popN .i64 c fun a0 c => popN .i64 c fun a1 c => K ⟨a0, a1⟩ c
  | .PolicyStep, c, K => popN .i64 c fun a0 c => popB c fun a1 c => popT .Target c fun a2 c => K ⟨a0, a1, a2⟩ c
  | .Policy, c, K => popS c fun a0 c => popT .PolicyStep c fun a1 c => popN .i64 c fun a2 c => K ⟨a0, a1, a2⟩ c
  | .Book, c, K => popT .Team c fun a0 c => popT .Policy c fun a1 c => K ⟨a0, a1⟩ c
  | .Start, c, K => popN .i64 c fun a0 c => popN .i64 c fun a1 c => popT .int c fun a2 c => K ⟨a0, a1, a2⟩ c
  | .Page, c, K => popN .i64 c fun a0 c => popN .i64 c fun a1 c => popN .i64 c fun a2 c => popN .i64 c fun a3 c => popN .i64 c fun a4 c => popN .i64 c fun a5 c => popN .i64 c fun a6 c => popN .i64 c fun a7 c => popN .i64 c fun a8 c => popN .i64 c fun a9 c => popN .i64 c fun a10 c => popT .Start c fun a11 c => popT .int c fun a12 c => popT .int c fun a13 c => K ⟨a0, a1, a2, a3, a4, a5, a6, a7, a8, a9, a10, a11, a12, a13⟩ c
  | .Call, c, K => popN .i64 c fun a0 c => popN .i64 c fun a1 c => popN .i64 c fun a2 c => popN .i64 c fun a3 c => popN .i64 c fun a4 c => K ⟨a0, a1, a2, a3, a4⟩ c
  | .Ledger, c, K => popN .i64 c fun a0 c => popT .Zone c fun a1 c => popT .Person c fun a2 c => popT .Calendar c fun a3 c => popT .Schedule c fun a4 c => popT .Team c fun a5 c => popT .Policy c fun a6 c => popT .Page c fun a7 c => popN .i64 c fun a8 c => popN .i64 c fun a9 c => popT .int c fun a10 c => popT .Call c fun a11 c => K ⟨a0, ⟨a1, a2, a3, a4⟩, ⟨a5, a6⟩, a7, a8, a9, a10, a11⟩ c
  | .Answer, c, K => popN .i64 c fun a0 c => popN .i64 c fun a1 c => popN .i64 c fun a2 c => popN .i64 c fun a3 c => popN .i64 c fun a4 c => popN .i64 c fun a5 c => K ⟨a0, a1, a2, a3, a4, a5⟩ c
  | .Op, c, K => popN .i64 c fun a0 c => popN .i64 c fun a1 c => popN .i64 c fun a2 c => popN .i64 c fun a3 c => popN .i64 c fun a4 c => popN .i64 c fun a5 c => popN .i64 c fun a6 c => popN .i64 c fun a7 c => popN .i64 c fun a8 c => popN .i64 c fun a9 c => popN .i64 c fun a10 c => popN .i64 c fun a11 c => popN .i64 c fun a12 c => popN .i64 c fun a13 c => popN .i64 c fun a14 c => popN .i64 c fun a15 c => popN .i64 c fun a16 c => popN .i64 c fun a17 c => popN .i64 c fun a18 c => popN .i64 c fun a19 c => K ⟨a0, a1, a2, a3, a4, a5, a6, a7, a8, ⟨a9, a10, a11, a12, a13, a14⟩, ⟨a15, a16, a17, a18, a19⟩⟩ c
  | .Dice, c, K => popT .int c fun a0 c => popN .i64 c fun a1 c => K ⟨a0, a1⟩ c
  | .Transition, c, K => popN .i64 c fun a0 c => popN .i64 c fun a1 c => K ⟨a0, a1⟩ c
  | .Table, c, K => popN .i64 c fun a0 c => popT .Transition c fun a1 c => K ⟨a0, a1⟩ c
  | .View, c, K => popT .Zone c fun a0 c => popT .Person c fun a1 c => popT .Calendar c fun a2 c => popT .Schedule c fun a3 c => popT .Table c fun a4 c => K ⟨⟨a0, a1, a2, a3⟩, a4⟩ c
  | .Date, c, K => popN .i64 c fun a0 c => popN .i64 c fun a1 c => popN .i64 c fun a2 c => K ⟨a0, a1, a2⟩ c
  | .Occurrence, c, K => popN .i64 c fun a0 c => popN .i64 c fun a1 c => K ⟨a0, a1⟩ c
  | .occurrence, c, K => popN .i64 c fun a0 c => popN .i64 c fun a1 c => K ⟨a0, a1⟩ c
  | .Piece, c, K => popN .i64 c fun a0 c => popN .i64 c fun a1 c => popN .i64 c fun a2 c => K ⟨a0, a1, a2⟩ c
theorem tpop_some : ∀ (t : TC) {cs : List BV} {K : TT t → List BV → Option R}, tpop t cs K = some r → ∃ x l, Le cs (tb t x ++ l) ∧ K x l = some r
  | .int, cs, K, h => by
    obtain ⟨a, _, rfl, h⟩ := popN_some h
    exact ⟨_, _, .refl _, h⟩
  | .str, cs, K, h => by
    obtain ⟨a, _, rfl, h⟩ := popS_some h
    exact ⟨_, _, .refl _, h⟩
  | .bool, cs, K, h => by
    obtain ⟨a, _, rfl, h⟩ := popB_some h
    exact ⟨_, _, .refl _, h⟩
  | .u8, cs, K, h => by
    obtain ⟨a, _, rfl, h⟩ := popN_some h
    exact ⟨_, _, .refl _, h⟩
  | .Arr3Int, cs, K, h => by
    obtain ⟨a0, _, rfl, h0⟩ := popN_some h
    obtain ⟨a1, _, rfl, h1⟩ := popN_some h0
    obtain ⟨a2, _, rfl, h2⟩ := popN_some h1
    exact ⟨⟨a0, a1, a2⟩, _, .cons' (.cons' (.cons' (.refl _))), h2⟩
  | .YearRule, cs, K, h => by
    obtain ⟨a0, _, rfl, h0⟩ := popN_some h
    obtain ⟨a1, _, rfl, h1⟩ := popN_some h0
    obtain ⟨a2, _, rfl, h2⟩ := popN_some h1
    obtain ⟨a3, _, rfl, h3⟩ := popN_some h2
    obtain ⟨a4, _, rfl, h4⟩ := popN_some h3
    obtain ⟨a5, _, rfl, h5⟩ := popN_some h4
    obtain ⟨a6, _, rfl, h6⟩ := popN_some h5
    exact ⟨⟨a0, a1, a2, a3, a4, a5, a6⟩, _, .cons' (.cons' (.cons' (.cons' (.cons' (.cons' (.cons' (.refl _))))))), h6⟩
  | .Zone, cs, K, h => by
    obtain ⟨a0, _, rfl, h0⟩ := popS_some h
    obtain ⟨a1, _, rfl, h1⟩ := popN_some h0
    obtain ⟨a2, _, _, rfl, ha2, h2⟩ := popT_some h1
    exact ⟨⟨a0, a1, a2⟩, _, .cons' (.cons' (.cons ha2 (.refl _))), h2⟩
  | .Window, cs, K, h => by
    obtain ⟨a0, _, rfl, h0⟩ := popN_some h
    obtain ⟨a1, _, rfl, h1⟩ := popN_some h0
    exact ⟨⟨a0, a1⟩, _, .cons' (.cons' (.refl _)), h1⟩
  | .Person, cs, K, h => by
    obtain ⟨a0, _, rfl, h0⟩ := popS_some h
    obtain ⟨a1, _, rfl, h1⟩ := popN_some h0
    obtain ⟨a2, _, _, rfl, ha2, h2⟩ := popT_some h1
    obtain ⟨a3, _, rfl, h3⟩ := popN_some h2
    obtain ⟨a4, _, rfl, h4⟩ := popN_some h3
    obtain ⟨a5, _, rfl, h5⟩ := popB_some h4
    exact ⟨⟨a0, a1, a2, a3, a4, a5⟩, _, .cons' (.cons' (.cons ha2 (.cons' (.cons' (.cons' (.refl _)))))), h5⟩
  | .Calendar, cs, K, h => by
    obtain ⟨a0, _, rfl, h0⟩ := popS_some h
    obtain ⟨a1, _, rfl, h1⟩ := popN_some h0
    obtain ⟨a2, _, _, rfl, ha2, h2⟩ := popT_some h1
    exact ⟨⟨a0, a1, a2⟩, _, .cons' (.cons' (.cons ha2 (.refl _))), h2⟩
  | .Local, cs, K, h => by
    obtain ⟨a0, _, rfl, h0⟩ := popN_some h
    obtain ⟨a1, _, rfl, h1⟩ := popN_some h0
    exact ⟨⟨a0, a1⟩, _, .cons' (.cons' (.refl _)), h1⟩
  | .Layer, cs, K, h => by
    obtain ⟨a0, _, rfl, h0⟩ := popS_some h
    obtain ⟨a1, _, rfl, h1⟩ := popN_some h0
    obtain ⟨a2, _, rfl, h2⟩ := popN_some h1
    obtain ⟨a3, _, rfl, h3⟩ := popN_some h2
    obtain ⟨a4, _, rfl, h4⟩ := popN_some h3
    obtain ⟨a5, _, rfl, h5⟩ := popN_some h4
    obtain ⟨a6, _, _, rfl, ha6, h6⟩ := popT_some h5
    obtain ⟨a7, _, _, rfl, ha7, h7⟩ := popT_some h6
    obtain ⟨a8, _, rfl, h8⟩ := popN_some h7
    obtain ⟨a9, _, rfl, h9⟩ := popN_some h8
    exact ⟨⟨a0, a1, ⟨a2, a3⟩, a4, a5, a6, a7, a8, a9⟩, _, .cons' (.cons' (.cons' (.cons' (.cons' (.cons' (.cons ha6 (.cons ha7 (.cons' (.cons' (.refl _)))))))))), h9⟩
  | .Edit, cs, K, h => by
    obtain ⟨a0, _, rfl, h0⟩ := popN_some h
    obtain ⟨a1, _, rfl, h1⟩ := popN_some h0
    obtain ⟨a2, _, rfl, h2⟩ := popN_some h1
    obtain ⟨a3, _, rfl, h3⟩ := popN_some h2
    obtain ⟨a4, _, rfl, h4⟩ := popN_some h3
    exact ⟨⟨a0, a1, a2, a3, a4⟩, _, .cons' (.cons' (.cons' (.cons' (.cons' (.refl _))))), h4⟩
  | .Schedule, cs, K, h => by
    obtain ⟨a0, _, rfl, h0⟩ := popS_some h
    obtain ⟨a1, _, _, rfl, ha1, h1⟩ := popT_some h0
    obtain ⟨a2, _, _, rfl, ha2, h2⟩ := popT_some h1
    exact ⟨⟨a0, a1, a2⟩, _, .cons' (.cons ha1 (.cons ha2 (.refl _))), h2⟩
  | .Config, cs, K, h => by
    obtain ⟨a0, _, _, rfl, ha0, h0⟩ := popT_some h
    obtain ⟨a1, _, _, rfl, ha1, h1⟩ := popT_some h0
    obtain ⟨a2, _, _, rfl, ha2, h2⟩ := popT_some h1
    obtain ⟨a3, _, _, rfl, ha3, h3⟩ := popT_some h2
    exact ⟨⟨a0, a1, a2, a3⟩, _, .cons ha0 (.cons ha1 (.cons ha2 (.cons ha3 (.refl _)))), h3⟩
  | .Team, cs, K, h => by
    obtain ⟨a0, _, rfl, h0⟩ := popS_some h
    obtain ⟨a1, _, _, rfl, ha1, h1⟩ := popT_some h0
    exact ⟨⟨a0, a1⟩, _, .cons' (.cons ha1 (.refl _)), h1⟩
  | .Target, cs, K, h => by
    obtain ⟨a0, _, rfl, h0⟩ := popN_some h
    obtain ⟨a1, _, rfl, h1⟩ := popN_some h0
    exact ⟨⟨a0, a1⟩, _, .cons' (.cons' (.refl _)), h1⟩
  | .PolicyStep, cs, K, h => by
    obtain ⟨a0, _, rfl, h0⟩ := popN_some h
    obtain ⟨a1, _, rfl, h1⟩ := popB_some h0
    obtain ⟨a2, _, _, rfl, ha2, h2⟩ := popT_some h1
    exact ⟨⟨a0, a1, a2⟩, _, .cons' (.cons' (.cons ha2 (.refl _))), h2⟩
  | .Policy, cs, K, h => by
    obtain ⟨a0, _, rfl, h0⟩ := popS_some h
    obtain ⟨a1, _, _, rfl, ha1, h1⟩ := popT_some h0
    obtain ⟨a2, _, rfl, h2⟩ := popN_some h1
    exact ⟨⟨a0, a1, a2⟩, _, .cons' (.cons ha1 (.cons' (.refl _))), h2⟩
  | .Book, cs, K, h => by
    obtain ⟨a0, _, _, rfl, ha0, h0⟩ := popT_some h
    obtain ⟨a1, _, _, rfl, ha1, h1⟩ := popT_some h0
    exact ⟨⟨a0, a1⟩, _, .cons ha0 (.cons ha1 (.refl _)), h1⟩
  | .Start, cs, K, h => by
    obtain ⟨a0, _, rfl, h0⟩ := popN_some h
    obtain ⟨a1, _, rfl, h1⟩ := popN_some h0
    obtain ⟨a2, _, _, rfl, ha2, h2⟩ := popT_some h1
    exact ⟨⟨a0, a1, a2⟩, _, .cons' (.cons' (.cons ha2 (.refl _))), h2⟩
  | .Page, cs, K, h => by
    obtain ⟨a0, _, rfl, h0⟩ := popN_some h
    obtain ⟨a1, _, rfl, h1⟩ := popN_some h0
    obtain ⟨a2, _, rfl, h2⟩ := popN_some h1
    obtain ⟨a3, _, rfl, h3⟩ := popN_some h2
    obtain ⟨a4, _, rfl, h4⟩ := popN_some h3
    obtain ⟨a5, _, rfl, h5⟩ := popN_some h4
    obtain ⟨a6, _, rfl, h6⟩ := popN_some h5
    obtain ⟨a7, _, rfl, h7⟩ := popN_some h6
    obtain ⟨a8, _, rfl, h8⟩ := popN_some h7
    obtain ⟨a9, _, rfl, h9⟩ := popN_some h8
    obtain ⟨a10, _, rfl, h10⟩ := popN_some h9
    obtain ⟨a11, _, _, rfl, ha11, h11⟩ := popT_some h10
    obtain ⟨a12, _, _, rfl, ha12, h12⟩ := popT_some h11
    obtain ⟨a13, _, _, rfl, ha13, h13⟩ := popT_some h12
    exact ⟨⟨a0, a1, a2, a3, a4, a5, a6, a7, a8, a9, a10, a11, a12, a13⟩, _, .cons' (.cons' (.cons' (.cons' (.cons' (.cons' (.cons' (.cons' (.cons' (.cons' (.cons' (.cons ha11 (.cons ha12 (.cons ha13 (.refl _)))))))))))))), h13⟩
  | .Call, cs, K, h => by
    obtain ⟨a0, _, rfl, h0⟩ := popN_some h
    obtain ⟨a1, _, rfl, h1⟩ := popN_some h0
    obtain ⟨a2, _, rfl, h2⟩ := popN_some h1
    obtain ⟨a3, _, rfl, h3⟩ := popN_some h2
    obtain ⟨a4, _, rfl, h4⟩ := popN_some h3
    exact ⟨⟨a0, a1, a2, a3, a4⟩, _, .cons' (.cons' (.cons' (.cons' (.cons' (.refl _))))), h4⟩
  | .Ledger, cs, K, h => by
    obtain ⟨a0, _, rfl, h0⟩ := popN_some h
    obtain ⟨a1, _, _, rfl, ha1, h1⟩ := popT_some h0
    obtain ⟨a2, _, _, rfl, ha2, h2⟩ := popT_some h1
    obtain ⟨a3, _, _, rfl, ha3, h3⟩ := popT_some h2
    obtain ⟨a4, _, _, rfl, ha4, h4⟩ := popT_some h3
    obtain ⟨a5, _, _, rfl, ha5, h5⟩ := popT_some h4
    obtain ⟨a6, _, _, rfl, ha6, h6⟩ := popT_some h5
    obtain ⟨a7, _, _, rfl, ha7, h7⟩ := popT_some h6
    obtain ⟨a8, _, rfl, h8⟩ := popN_some h7
    obtain ⟨a9, _, rfl, h9⟩ := popN_some h8
    obtain ⟨a10, _, _, rfl, ha10, h10⟩ := popT_some h9
    obtain ⟨a11, _, _, rfl, ha11, h11⟩ := popT_some h10
    exact ⟨⟨a0, ⟨a1, a2, a3, a4⟩, ⟨a5, a6⟩, a7, a8, a9, a10, a11⟩, _, .cons' (.cons ha1 (.cons ha2 (.cons ha3 (.cons ha4 (.cons ha5 (.cons ha6 (.cons ha7 (.cons' (.cons' (.cons ha10 (.cons ha11 (.refl _)))))))))))), h11⟩
  | .Answer, cs, K, h => by
    obtain ⟨a0, _, rfl, h0⟩ := popN_some h
    obtain ⟨a1, _, rfl, h1⟩ := popN_some h0
    obtain ⟨a2, _, rfl, h2⟩ := popN_some h1
    obtain ⟨a3, _, rfl, h3⟩ := popN_some h2
    obtain ⟨a4, _, rfl, h4⟩ := popN_some h3
    obtain ⟨a5, _, rfl, h5⟩ := popN_some h4
    exact ⟨⟨a0, a1, a2, a3, a4, a5⟩, _, .cons' (.cons' (.cons' (.cons' (.cons' (.cons' (.refl _)))))), h5⟩
  | .Op, cs, K, h => by
    obtain ⟨a0, _, rfl, h0⟩ := popN_some h
    obtain ⟨a1, _, rfl, h1⟩ := popN_some h0
    obtain ⟨a2, _, rfl, h2⟩ := popN_some h1
    obtain ⟨a3, _, rfl, h3⟩ := popN_some h2
    obtain ⟨a4, _, rfl, h4⟩ := popN_some h3
    obtain ⟨a5, _, rfl, h5⟩ := popN_some h4
    obtain ⟨a6, _, rfl, h6⟩ := popN_some h5
    obtain ⟨a7, _, rfl, h7⟩ := popN_some h6
    obtain ⟨a8, _, rfl, h8⟩ := popN_some h7
    obtain ⟨a9, _, rfl, h9⟩ := popN_some h8
    obtain ⟨a10, _, rfl, h10⟩ := popN_some h9
    obtain ⟨a11, _, rfl, h11⟩ := popN_some h10
    obtain ⟨a12, _, rfl, h12⟩ := popN_some h11
    obtain ⟨a13, _, rfl, h13⟩ := popN_some h12
    obtain ⟨a14, _, rfl, h14⟩ := popN_some h13
    obtain ⟨a15, _, rfl, h15⟩ := popN_some h14
    obtain ⟨a16, _, rfl, h16⟩ := popN_some h15
    obtain ⟨a17, _, rfl, h17⟩ := popN_some h16
    obtain ⟨a18, _, rfl, h18⟩ := popN_some h17
    obtain ⟨a19, _, rfl, h19⟩ := popN_some h18
    exact ⟨⟨a0, a1, a2, a3, a4, a5, a6, a7, a8, ⟨a9, a10, a11, a12, a13, a14⟩, ⟨a15, a16, a17, a18, a19⟩⟩, _, .cons' (.cons' (.cons' (.cons' (.cons' (.cons' (.cons' (.cons' (.cons' (.cons' (.cons' (.cons' (.cons' (.cons' (.cons' (.cons' (.cons' (.cons' (.cons' (.cons' (.refl _)))))))))))))))))))), h19⟩
  | .Dice, cs, K, h => by
    obtain ⟨a0, _, _, rfl, ha0, h0⟩ := popT_some h
    obtain ⟨a1, _, rfl, h1⟩ := popN_some h0
    exact ⟨⟨a0, a1⟩, _, .cons ha0 (.cons' (.refl _)), h1⟩
  | .Transition, cs, K, h => by
    obtain ⟨a0, _, rfl, h0⟩ := popN_some h
    obtain ⟨a1, _, rfl, h1⟩ := popN_some h0
    exact ⟨⟨a0, a1⟩, _, .cons' (.cons' (.refl _)), h1⟩
  | .Table, cs, K, h => by
    obtain ⟨a0, _, rfl, h0⟩ := popN_some h
    obtain ⟨a1, _, _, rfl, ha1, h1⟩ := popT_some h0
    exact ⟨⟨a0, a1⟩, _, .cons' (.cons ha1 (.refl _)), h1⟩
  | .View, cs, K, h => by
    obtain ⟨a0, _, _, rfl, ha0, h0⟩ := popT_some h
    obtain ⟨a1, _, _, rfl, ha1, h1⟩ := popT_some h0
    obtain ⟨a2, _, _, rfl, ha2, h2⟩ := popT_some h1
    obtain ⟨a3, _, _, rfl, ha3, h3⟩ := popT_some h2
    obtain ⟨a4, _, _, rfl, ha4, h4⟩ := popT_some h3
    exact ⟨⟨⟨a0, a1, a2, a3⟩, a4⟩, _, .cons ha0 (.cons ha1 (.cons ha2 (.cons ha3 (.cons ha4 (.refl _))))), h4⟩
  | .Date, cs, K, h => by
    obtain ⟨a0, _, rfl, h0⟩ := popN_some h
    obtain ⟨a1, _, rfl, h1⟩ := popN_some h0
    obtain ⟨a2, _, rfl, h2⟩ := popN_some h1
    exact ⟨⟨a0, a1, a2⟩, _, .cons' (.cons' (.cons' (.refl _))), h2⟩
  | .Occurrence, cs, K, h => by
    obtain ⟨a0, _, rfl, h0⟩ := popN_some h
    obtain ⟨a1, _, rfl, h1⟩ := popN_some h0
    exact ⟨⟨a0, a1⟩, _, .cons' (.cons' (.refl _)), h1⟩
  | .occurrence, cs, K, h => by
    obtain ⟨a0, _, rfl, h0⟩ := popN_some h
    obtain ⟨a1, _, rfl, h1⟩ := popN_some h0
    exact ⟨⟨a0, a1⟩, _, .cons' (.cons' (.refl _)), h1⟩
  | .Piece, cs, K, h => by
    obtain ⟨a0, _, rfl, h0⟩ := popN_some h
    obtain ⟨a1, _, rfl, h1⟩ := popN_some h0
    obtain ⟨a2, _, rfl, h2⟩ := popN_some h1
    exact ⟨⟨a0, a1, a2⟩, _, .cons' (.cons' (.cons' (.refl _))), h2⟩
end
end Go.Proofs.YtfhcigjkfelnfaaGreat.AM
/-
  The typed layer, part B: states, weaker states, headers that grow stale, arrays that are frozen. No project text.
-/
set_option linter.unusedVariables false
set_option linter.unusedSimpArgs false
namespace Go.Proofs.YtfhcigjkfelnfaaGreat.AM
open Go
theorem Sim.leS {Γ : Ctx} {s s' : AS} {ρ : Name → Loc} {M : Nat → Prop} {a : Act} {w : World} (h : Sim Γ ρ M s a w)
    (h1 : ∀ t y, s'.slot t = some y → ∃ x, s.slot t = some x ∧ AVle x y)
    (h2 : ∀ n, (∀ y, s'.heap n = some y → ∃ x, s.heap n = some x ∧ AOle x y) ∧ (∀ x, s.heap n = some x → ∃ y, s'.heap n = some y ∧ AOle x y)) (hf : ∀ n x y, s.heap n = some x → s'.heap n = some y → x = y ∨ (∃ cs ds, x = .box cs ∧ y = .box ds) ∨ (∃ es rs qs, x = .arr es rs ∧ y = .arr es qs)) : Sim Γ ρ M s' a w := by
  have hst : HStep ρ s.heap ρ s'.heap := fun n ob hn => by
    obtain ⟨y, hy, hle⟩ := (h2 n).2 ob hn
    rw [hy]
    exact stays_le hle (stays_refl _ _)
  have hnn : ∀ n, s.heap n = none → s'.heap n = none := fun n hn => by
    cases hc : s'.heap n with
    | none => rfl
    | some y =>
      obtain ⟨x, hx, _⟩ := (h2 n).1 y hc
      rw [hx] at hn; simp at hn
  have hconv : ∀ {x : AV} {u : Value}, x.R ρ s.heap M w u → x.R ρ s'.heap M w u := fun hr =>
    hr.step (Ext.refl (fun _ => False) _) (fun _ hb => hb.elim) (fun b _ hb => hb) hst (fun n _ => hnn n)
  have hconvs : ∀ {xs : List AV} {us : List Value}, AV.Rs ρ s.heap M w xs us → AV.Rs ρ s'.heap M w xs us := fun hr =>
    hr.step (Ext.refl (fun _ => False) _) (fun _ hb => hb.elim) (fun b _ hb => hb) hst (fun n _ => hnn n)
  refine ⟨h.n, h.d, fun t y hy => ?_, fun n y hy => ?_, fun n m o o' b g1 g2 => ?_, fun n o b g1 g2 => ?_, fun n hn => ?_, h.ext, h.mext, h.msize, h.m0, h.ground⟩
  · obtain ⟨x, hx, hle⟩ := h1 t y hy
    obtain ⟨u, hu, hr⟩ := h.slots t x hx
    exact ⟨u, hu, hle.sound u (hconv hr)⟩
  · obtain ⟨x, hx, hle⟩ := (h2 n).1 y hy
    have hobj := h.objs n x hx
    rcases hf n x y hx hy with rfl | ⟨cs, ds, rfl, rfl⟩ | ⟨es, rs, qs, rfl, rfl⟩
    · cases x with
      | box cells => obtain ⟨b, T, cs, k1, k2, k3, k4⟩ := hobj; exact ⟨b, T, cs, k1, k2, k3, hconvs k4⟩
      | arr es rows => exact hobj
      | hole es pre row post => obtain ⟨k0, k0', k1, b, T, cs, k3, k4, k5, k6, k7, k8, k9⟩ := hobj; exact ⟨k0, k0', k1, b, T, cs, k3, k4, k5, k6, k7, hconvs k8, k9⟩
      | fact a x => exact ⟨hobj.1, hconv hobj.2⟩
      | obj x => exact hobj
    · obtain ⟨b, T, us, k1, k2, k3, k4⟩ := hobj
      refine ⟨b, T, us, k1, k2, k3, ?_⟩
      cases hle with
      | refl => exact hconvs k4
      | box hb => exact Rs_le hb _ (hconvs k4)
    · cases hle with
      | refl => exact hobj
      | arr hr =>
        obtain ⟨k0, k1, k2⟩ := hobj
        refine ⟨k0, by rw [← hr.length]; exact k1, k2.imp id ?_⟩
        rintro ⟨b, T, cs, q1, q2, q3, q4, q5⟩
        exact ⟨b, T, cs, q1, q2, q3, q4, hr.rows q5⟩
  · obtain ⟨x, hx, _⟩ := (h2 n).1 o g1
    obtain ⟨x', hx', _⟩ := (h2 m).1 o' g2
    exact h.inj n m x x' b hx hx'
  · obtain ⟨x, hx, _⟩ := (h2 n).1 o g1
    exact h.own0 n x b hx g2
  · obtain ⟨x, hx, hst'⟩ := h.keep n hn
    obtain ⟨y, hy, hle⟩ := (h2 n).2 x hx
    exact ⟨y, hy, stays_le hle hst'⟩
def Inv (L : Lens) (hs : HS) : Prop := ∀ n t l v, look n hs = some (.arr t l v) → L n v = l.length
def BS (L : Lens) (ts : TS) (hs : HS) : AS := mk (erT L ts) (erH L hs)
variable {L L' : Lens} {ts ts' : TS} {hs hs' : HS}
theorem BS_slot (t : Nat) : (BS L ts hs).slot t = (look t ts).map (BV.er L) := look_erT t ts
theorem BS_heap (n : Nat) : (BS L ts hs).heap n = (look n hs).map (BO.er L) := look_erH n hs
theorem slot_of {t : Nat} {y : AV} (h : (BS L ts hs).slot t = some y) : ∃ v, look t ts = some v ∧ y = v.er L := by
  rw [BS_slot] at h
  cases hl : look t ts with
  | none => rw [hl] at h; simp at h
  | some v => rw [hl] at h; exact ⟨v, rfl, by simpa using h.symm⟩
theorem heap_of {t : Nat} {y : AO} (h : (BS L ts hs).heap t = some y) : ∃ v, look t hs = some v ∧ y = v.er L := by
  rw [BS_heap] at h
  cases hl : look t hs with
  | none => rw [hl] at h; simp at h
  | some v => rw [hl] at h; exact ⟨v, rfl, by simpa using h.symm⟩
structure SLe (L : Lens) (ts : TS) (hs : HS) (L' : Lens) (ts' : TS) (hs' : HS) : Prop where
  slot : ∀ t y, look t ts' = some y → ∃ x, look t ts = some x ∧ AVle (x.er L) (y.er L')
  box : ∀ n cs', look n hs' = some (.box cs') → ∃ cs, look n hs = some (.box cs) ∧ AVleL (erL L cs) (erL L' cs')
  arr : ∀ n t l v, look n hs' = some (.arr t l v) → ∃ u, look n hs = some (.arr t l u)
  sm : ∀ n es, look n hs' = some (.sm es) → look n hs = some (.sm es)
theorem Sim.sle {Γ : Ctx} {ρ : Name → Loc} {M : Nat → Prop} {a : Act} {w : World} (h : Sim Γ ρ M (BS L ts hs) a w) (h' : SLe L ts hs L' ts' hs') (hk : ∀ n, n ∈ Γ.names → look n hs' ≠ none) : Sim Γ ρ M (BS L' ts' hs') a w := by
  have ho : ∀ n y, look n hs' = some y → ∃ x, look n hs = some x ∧ AOle (x.er L) (y.er L') ∧ (x.er L = y.er L' ∨ (∃ cs ds, x.er L = .box cs ∧ y.er L' = .box ds) ∨ ∃ es rs qs, x.er L = .arr es rs ∧ y.er L' = .arr es qs) := fun n y hy => by
    cases y with
    | box cs' => obtain ⟨cs, g1, g2⟩ := h'.box n cs' hy; exact ⟨_, g1, .box g2, .inr (.inl ⟨_, _, rfl, rfl⟩)⟩
    | arr t l v => obtain ⟨u, hu⟩ := h'.arr n t l v hy; exact ⟨_, hu, .refl _, .inl rfl⟩
    | sm es => exact ⟨_, h'.sm n es hy, .refl _, .inl rfl⟩
  have h0 : Sim Γ ρ M ⟨(BS L ts hs).slot, fun n => if (look n hs').isSome then (BS L ts hs).heap n else none⟩ a w := by
    refine h.forget (fun t x hx => hx) (fun n o hn => ?_) (fun n hn hc => ?_)
    · simp only at hn
      split at hn
      · exact hn
      · simp at hn
    · cases hl : look n hs' with
      | none => exact hk n hn hl
      | some y =>
        obtain ⟨x, hx, _⟩ := ho n y hl
        simp only [hl, Option.isSome_some, if_true, BS_heap, hx, Option.map_some, reduceCtorEq] at hc
  refine h0.leS (fun t y hy => ?_) (fun n => ⟨fun y hy => ?_, fun x hx => ?_⟩) (fun n x y hx hy => ?_)
  · obtain ⟨v, hv, rfl⟩ := slot_of hy
    obtain ⟨x, hx, hle⟩ := h'.slot t v hv
    exact ⟨x.er L, by show (BS L ts hs).slot t = _; rw [BS_slot, hx]; rfl, hle⟩
  · obtain ⟨v, hv, rfl⟩ := heap_of hy
    obtain ⟨x, hx, hle, _⟩ := ho n v hv
    exact ⟨x.er L, by simp only [hv, Option.isSome_some, if_true, BS_heap, hx, Option.map_some], hle⟩
  · simp only at hx
    split at hx
    · rename_i hs
      obtain ⟨y, hy⟩ := Option.isSome_iff_exists.1 hs
      obtain ⟨v, hv, rfl⟩ := heap_of hx
      obtain ⟨x, hx', hle, _⟩ := ho n y hy
      rw [hv] at hx'; cases hx'
      exact ⟨y.er L', by rw [BS_heap, hy]; rfl, hle⟩
    · simp at hx
  · simp only at hx
    split at hx
    · obtain ⟨v, hv, rfl⟩ := heap_of hx
      obtain ⟨y', hy', rfl⟩ := heap_of hy
      obtain ⟨x, hx', _, h3⟩ := ho n y' hy'
      rw [hv] at hx'; cases hx'
      exact h3
    · simp at hx
theorem look_mapT {f : BV → BV} (k : Nat) : ∀ ts : TS, look k (ts.map fun p => (p.1, f p.2)) = (look k ts).map f
  | [] => rfl
  | (j, x) :: r => by
    show look k ((j, f x) :: r.map fun p => (p.1, f p.2)) = (look k ((j, x) :: r)).map f
    simp only [look]; split
    · rfl
    · exact look_mapT k r
def isIn (m : Name) (ns : List Name) : Bool := ns.any fun n => Nat.beq n m
theorem isIn_iff {m : Name} {ns : List Name} : isIn m ns = true ↔ m ∈ ns := by
  unfold isIn; rw [List.any_eq_true]
  exact ⟨fun ⟨n, h1, h2⟩ => by rw [← Nat.eq_of_beq_eq_true h2]; exact h1, fun h => ⟨m, h, Nat.beq_refl _⟩⟩
mutual
def BV.frz (n : Name) (v : Nat) (t : TC) (l : List (TT t)) : BV → BV
  | .own m u => if Nat.beq m n then (if Nat.beq u v then .ts false t l else .any) else .own m u
  | .aref m u i o => if Nat.beq m n then .any else .aref m u i o
  | .view m u i o => if Nat.beq m n then (if Nat.beq u v then .ts false t ((l.take o).drop i) else .any) else .view m u i o
  | .agg cs => .agg (frzL n v t l cs)
  | x => x
def frzL (n : Name) (v : Nat) (t : TC) (l : List (TT t)) : List BV → List BV
  | [] => []
  | x :: r => BV.frz n v t l x :: frzL n v t l r
end
mutual
def BV.sh (n : Name) (v : Nat) : BV → BV
  | .own m u => if Nat.beq m n then (if Nat.beq u v then .own m u else .any) else .own m u
  | .aref m u i o => if Nat.beq m n then .any else .aref m u i o
  | .view m u i o => if Nat.beq m n then (if Nat.beq u v then .view m u i o else .any) else .view m u i o
  | .agg cs => .agg (shL n v cs)
  | x => x
def shL (n : Name) (v : Nat) : List BV → List BV
  | [] => []
  | x :: r => BV.sh n v x :: shL n v r
end
def fzCell (n : Name) (c : BV) : Bool := match c with
  | .own _ _ => true
  | .aref _ _ _ _ => true
  | .view _ _ _ _ => true
  | .agg _ => false
  | x => !x.has n
def BV.fzOK (n : Name) : BV → Bool
  | .agg cs => cs.all (fzCell n)
  | x => fzCell n x
def BO.frz (n : Name) (v : Nat) (t : TC) (l : List (TT t)) : BO → BO
  | .box cs => .box (frzL n v t l cs)
  | .arr t l v => .arr t l v
  | .sm es => .sm es
def BO.sh (n : Name) (v : Nat) : BO → BO
  | .box cs => .box (shL n v cs)
  | .arr t l v => .arr t l v
  | .sm es => .sm es
def BO.fzOK (n : Name) : BO → Bool
  | .box cs => cs.all (fzCell n)
  | .arr _ _ _ => true
  | .sm _ => true
def fzT (n : Name) (v : Nat) (t : TC) (l : List (TT t)) (ts : TS) : TS := ts.map fun p => (p.1, p.2.frz n v t l)
def fzH (n : Name) (v : Nat) (t : TC) (l : List (TT t)) : HS → HS
  | [] => []
  | (k, o) :: r => if Nat.beq k n then fzH n v t l r else (k, o.frz n v t l) :: fzH n v t l r
def fzB (n : Name) (ts : TS) (hs : HS) : Bool := ts.all (fun p => p.2.fzOK n) && hs.all (fun p => p.2.fzOK n)
section
variable {n : Name} {v : Nat} {t : TC} {l : List (TT t)}
theorem sh_cell {x : BV} : fzCell n x = true → AVle (x.er L) ((x.sh n v).er L) := by
  intro h
  cases x with
  | own m u =>
    simp only [BV.sh]
    split
    · split
      · exact .refl _
      · simp only [BV.er]; exact .any rfl (by simp)
    · exact .refl _
  | aref m u i o =>
    simp only [BV.sh]
    split
    · simp only [BV.er]; exact .any rfl (by simp)
    · exact .refl _
  | view m u i o =>
    simp only [BV.sh]
    split
    · split
      · exact .refl _
      · simp only [BV.er]; exact .any rfl (by simp)
    · exact .refl _
  | agg cs => simp [fzCell] at h
  | _ => simp only [BV.sh]; exact .refl _
theorem sh_cells : ∀ {cs : List BV}, cs.all (fzCell n) = true → AVleL (erL L cs) (erL L (shL n v cs))
  | [], _ => by simp only [shL, erL]; exact .nil
  | x :: r, h => by
    simp only [List.all_cons, Bool.and_eq_true] at h
    simp only [shL, erL]
    exact .cons (sh_cell h.1) (sh_cells h.2)
theorem sh_val {x : BV} (h : x.fzOK n = true) : AVle (x.er L) ((x.sh n v).er L) := by
  cases x with
  | agg cs => simp only [BV.sh, BV.er]; exact .agg (sh_cells h)
  | _ => exact sh_cell h
theorem frz_cell {px : Value → Prop} {x : BV} (h : fzCell n x = true) (hL : L n v = (l.map (tcells t)).length) : Frz px n (tz t) (l.map (tcells t)) ((x.sh n v).er L) ((x.frz n v t l).er L) := by
  cases x with
  | own m u =>
    simp only [BV.sh, BV.frz]
    split
    · split
      · rename_i e1 e2
        have := Nat.eq_of_beq_eq_true e1; subst this
        have := Nat.eq_of_beq_eq_true e2; subst this
        simp only [BV.er, hL]; exact .own
      · exact .same (by simp only [BV.er, AV.has])
    · rename_i hne
      have : m ≠ n := fun e => by subst e; simp at hne
      exact .same (by simp only [BV.er, AV.has]; simpa using this)
  | aref m u i o =>
    simp only [BV.sh, BV.frz]
    split
    · exact .same (by simp only [BV.er, AV.has])
    · rename_i hne
      have : m ≠ n := fun e => by subst e; simp at hne
      exact .same (by simp only [BV.er, AV.has]; simpa using this)
  | view m u i o =>
    simp only [BV.sh, BV.frz]
    split
    · split
      · rename_i e1 e2
        have := Nat.eq_of_beq_eq_true e1; subst this
        have := Nat.eq_of_beq_eq_true e2; subst this
        simp only [BV.er, hL, List.map_drop, List.map_take]; exact .view
      · exact .same (by simp only [BV.er, AV.has])
    · rename_i hne
      have : m ≠ n := fun e => by subst e; simp at hne
      exact .same (by simp only [BV.er, AV.has]; simpa using this)
  | agg cs => simp [fzCell] at h
  | _ => simp only [BV.sh, BV.frz]; exact .same (by rw [has_er]; simpa only [fzCell, Bool.not_eq_true'] using h)
theorem frz_cells {px : Value → Prop} (hL : L n v = (l.map (tcells t)).length) : ∀ {cs : List BV}, cs.all (fzCell n) = true → FrzL px n (tz t) (l.map (tcells t)) (erL L (shL n v cs)) (erL L (frzL n v t l cs))
  | [], _ => by simp only [erL, shL, frzL]; exact .nil
  | x :: r, h => by
    simp only [List.all_cons, Bool.and_eq_true] at h
    simp only [erL, shL, frzL]
    exact .cons (frz_cell h.1 hL) (frz_cells hL h.2)
theorem frz_val {px : Value → Prop} {x : BV} (h : x.fzOK n = true) (hL : L n v = (l.map (tcells t)).length) : Frz px n (tz t) (l.map (tcells t)) ((x.sh n v).er L) ((x.frz n v t l).er L) := by
  cases x with
  | agg cs => simp only [BV.sh, BV.frz, BV.er]; exact .agg (frz_cells hL h)
  | _ => exact frz_cell h hL
theorem TsFrz_of {px : Value → Prop} (hL : L n v = (l.map (tcells t)).length) : ∀ {ts : TS}, ts.all (fun p => p.2.fzOK n) = true → TsFrz px n (tz t) (l.map (tcells t)) (erT L (ts.map fun p => (p.1, p.2.sh n v))) (erT L (fzT n v t l ts))
  | [], _ => trivial
  | (k, x) :: r, h => by
    simp only [List.all_cons, Bool.and_eq_true] at h
    exact ⟨rfl, frz_val h.1 hL, TsFrz_of hL h.2⟩
def delH (n : Name) (v : Nat) : HS → HS
  | [] => []
  | (k, o) :: r => if Nat.beq k n then delH n v r else (k, o.sh n v) :: delH n v r
theorem HsFrz_of {px : Value → Prop} (hL : L n v = (l.map (tcells t)).length) : ∀ {hs : HS}, hs.all (fun p => p.2.fzOK n) = true → HsFrz px n (tz t) (l.map (tcells t)) (erH L (delH n v hs)) (erH L (fzH n v t l hs))
  | [], _ => trivial
  | (k, o) :: r, h => by
    simp only [List.all_cons, Bool.and_eq_true] at h
    simp only [delH, fzH]
    split
    · exact HsFrz_of hL h.2
    · rename_i hne
      refine ⟨rfl, fun (e : k = n) => hne (by simp [e]), ?_, HsFrz_of hL h.2⟩
      cases o with
      | box cs => exact .box (frz_cells hL h.1)
      | arr t' l' => exact .same rfl
      | sm es => exact .same rfl
theorem look_delH (n k : Nat) (hs : HS) : look k (delH n v hs) = if k = n then none else (look k hs).map (BO.sh n v) := by
  induction hs with
  | nil => simp [delH, look]
  | cons p r ih =>
    obtain ⟨j, o⟩ := p
    simp only [delH]
    split
    · rename_i e
      have := Nat.eq_of_beq_eq_true e; subst this
      rw [ih]
      simp only [look]
      by_cases h : k = j
      · simp [h]
      · simp [h, Ne.symm h]
    · rename_i e
      simp only [look]
      split
      · rename_i e'; subst e'
        rw [if_neg (fun h => e (by simp [h]))]; rfl
      · exact ih
theorem look_fzH (n k : Nat) (hs : HS) : look k (fzH n v t l hs) = if k = n then none else (look k hs).map (BO.frz n v t l) := by
  induction hs with
  | nil => simp [fzH, look]
  | cons p r ih =>
    obtain ⟨j, o⟩ := p
    simp only [fzH]
    split
    · rename_i e
      have := Nat.eq_of_beq_eq_true e; subst this
      rw [ih]
      simp only [look]
      by_cases h : k = j
      · simp [h]
      · simp [h, Ne.symm h]
    · rename_i e
      simp only [look]
      split
      · rename_i e'; subst e'
        rw [if_neg (fun h => e (by simp [h]))]; rfl
      · exact ih
theorem Sim.frz {Γ : Ctx} {ρ : Name → Loc} {M : Nat → Prop} {a : Act} {w : World} (h : Sim Γ ρ M (BS L ts hs) a w) (hi : Inv L hs) (hn : n ∉ Γ.names) (hl : look n hs = some (.arr t l v)) (hb : fzB n ts hs = true) :
    (∃ ρ' M', Sim Γ ρ' M' (BS L (fzT n v t l ts) (fzH n v t l hs)) a w) ∧ Inv L (fzH n v t l hs) := by
  simp only [fzB, Bool.and_eq_true] at hb
  have hL : L n v = (l.map (tcells t)).length := by rw [hi n t l v hl, List.length_map]
  have h1 : Sim Γ ρ M (AM.mk (erT L (ts.map fun p => (p.1, p.2.sh n v))) ((n, .arr (tz t) (l.map (tcells t))) :: erH L (delH n v hs))) a w := by
    refine h.leS (fun k y hy => ?_) (fun k => ⟨fun y hy => ?_, fun x hx => ?_⟩) (fun k x y hx hy => ?_)
    · obtain ⟨y', hy', rfl⟩ := slot_of (L := L) (hs := hs) hy
      rw [look_mapT] at hy'
      cases hx : look k ts with
      | none => rw [hx] at hy'; simp at hy'
      | some x =>
        rw [hx] at hy'
        simp only [Option.map_some, Option.some.injEq] at hy'
        subst hy'
        exact ⟨x.er L, by rw [BS_slot, hx]; rfl, sh_val (List.all_eq_true.1 hb.1 _ (look_mem hx))⟩
    · simp only [AM.mk, look] at hy
      split at hy
      · rename_i e; subst e; cases hy; exact ⟨_, by rw [BS_heap, hl]; rfl, .refl _⟩
      · rename_i e
        rw [look_erH, look_delH, if_neg (Ne.symm e)] at hy
        cases hx : look k hs with
        | none => rw [hx] at hy; simp at hy
        | some x =>
          rw [hx] at hy
          simp only [Option.map_some, Option.some.injEq] at hy
          subst hy
          refine ⟨x.er L, by rw [BS_heap, hx]; rfl, ?_⟩
          have hx' := List.all_eq_true.1 hb.2 _ (look_mem hx)
          cases x with
          | box cs => exact .box (sh_cells hx')
          | arr t l => exact .refl _
          | sm es => exact .refl _
    · obtain ⟨x', hx', rfl⟩ := heap_of hx
      by_cases e : n = k
      · subst e; rw [hl] at hx'; cases hx'; exact ⟨_, by simp only [AM.mk, look, if_true]; rfl, .refl _⟩
      · refine ⟨(x'.sh n v).er L, by simp only [AM.mk, look, if_neg e, look_erH, look_delH, if_neg (Ne.symm e), hx']; rfl, ?_⟩
        have hx'' := List.all_eq_true.1 hb.2 _ (look_mem hx')
        cases x' with
        | box cs => exact .box (sh_cells hx'')
        | arr t l => exact .refl _
        | sm es => exact .refl _
    · obtain ⟨x', hx', rfl⟩ := heap_of hx
      by_cases e : n = k
      · subst e
        simp only [AM.mk, look, if_true] at hy
        rw [hl] at hx'; cases hx'; cases hy; exact .inl rfl
      · simp only [AM.mk, look, if_neg e, look_erH, look_delH, if_neg (Ne.symm e), hx'] at hy
        cases hy
        cases x' with
        | box cs => exact .inr (.inl ⟨_, _, rfl, rfl⟩)
        | arr t l => exact .inl rfl
        | sm es => exact .inl rfl
  refine ⟨Weak.freeze hn (TsFrz_of hL hb.1) (HsFrz_of hL hb.2) ρ M a w h1, fun k t' l' u hk => ?_⟩
  rw [look_fzH] at hk
  split at hk
  · simp at hk
  · cases hx : look k hs with
    | none => rw [hx] at hk; simp at hk
    | some x =>
      rw [hx] at hk
      simp only [Option.map_some, Option.some.injEq] at hk
      cases x with
      | box cs => simp [BO.frz] at hk
      | arr t2 l2 => simp only [BO.frz] at hk; cases hk; exact hi k _ _ _ hx
      | sm es => simp [BO.frz] at hk
end
end Go.Proofs.YtfhcigjkfelnfaaGreat.AM
/-
  The typed layer, part C: what operations do. No project text.
-/
set_option linter.unusedVariables false
set_option linter.unusedSimpArgs false
namespace Go.Proofs.YtfhcigjkfelnfaaGreat.AM
open Go
def overB : List BV → List BV → List BV
  | l, [] => l
  | [], v :: vs => v :: vs
  | _ :: l, v :: vs => v :: overB l vs
def layB : List BV → Nat → List BV → List BV
  | l, 0, vs => overB l vs
  | x :: l, k + 1, vs => x :: layB l k vs
  | [], _ + 1, vs => vs
def forceL {α R : Type} : List α → (List α → R) → R
  | [], K => K []
  | x :: r, K => forceL r fun r => K (x :: r)
theorem forceL_eq {α R : Type} : ∀ (l : List α) (K : List α → R), forceL l K = K l
  | [], K => rfl
  | x :: r, K => by simp only [forceL, forceL_eq r]
theorem overB_eq : ∀ (l vs : List BV), vs.length ≤ l.length → overB l vs = vs ++ l.drop vs.length
  | l, [], _ => by cases l <;> rfl
  | [], v :: vs, h => by simp at h
  | x :: l, v :: vs, h => by simp only [overB, overB_eq l vs (by simpa using h), List.length_cons, List.drop_succ_cons, List.cons_append]
theorem layB_eq : ∀ (l : List BV) (k : Nat) (vs : List BV), k + vs.length ≤ l.length → layB l k vs = setAt l k vs
  | l, 0, vs, h => by
    have : layB l 0 vs = overB l vs := by cases l <;> rfl
    rw [this, overB_eq l vs (by omega)]
    simp [setAt]
  | [], k + 1, vs, h => by simp at h
  | x :: l, k + 1, vs, h => by
    simp only [layB, layB_eq l k vs (by simp at h; omega), setAt, List.take_succ_cons, List.cons_append]
    rw [show k + 1 + vs.length = (k + vs.length) + 1 by omega, List.drop_succ_cons]
structure BEff where
  hp : HS
  v : BV
  upd : HS
  nw : List Name
  nv : List (Name × Nat)
def ev (v : BV) : BEff := ⟨[], v, [], [], []⟩
def Good (P : Program) (o : Oper) (rd : TS) (hs : HS) (e : BEff) : Prop :=
  (∀ n ob, (n, ob) ∈ e.hp → look n hs = some ob) ∧
  ∀ L, Inv L hs → ∃ L' : Lens, (∀ m u, m ∉ e.nw → (m, u) ∉ e.nv → L' m u = L m u) ∧ Inv L' (e.upd ++ hs) ∧ OpOK P o ⟨erT L rd, erH L e.hp, e.v.er L', erH L' e.upd, e.nw⟩
section
variable {P : Program} {o : Oper} {rd : TS} {hs : HS}
theorem OpOK.outLe {rd : List (Nat × AV)} {hp upd upd' : List (Name × AO)} {v v' : AV} {nw : List Name} (h : OpOK P o ⟨rd, hp, v, upd, nw⟩) (hv : AVle v v')
    (hu : ∀ n, (∀ y, look n upd' = some y → ∃ x, look n upd = some x ∧ AOle x y ∧ (x = y ∨ (∃ cs ds, x = .box cs ∧ y = .box ds) ∨ (∃ es rs qs, x = .arr es rs ∧ y = .arr es qs))) ∧ (∀ x, look n upd = some x → ∃ y, look n upd' = some y)) : OpOK P o ⟨rd, hp, v', upd', nw⟩ := by
  intro Γ ρ M s a w K Q hs hh hd hK
  refine h Γ ρ M s a w K Q hs ⟨hh.rd, hh.hp, hh.nw⟩ hd (fun ρ' M' a' w' hs' => hK ρ' M' a' w' ?_)
  have hheap : ∀ n y, (s.run o.dst ⟨rd, hp, v', upd', nw⟩).heap n = some y → ∃ x, (s.run o.dst ⟨rd, hp, v, upd, nw⟩).heap n = some x ∧ AOle x y ∧ (x = y ∨ (∃ cs ds, x = .box cs ∧ y = .box ds) ∨ (∃ es rs qs, x = .arr es rs ∧ y = .arr es qs)) := fun n y hy => by
    simp only [AS.run] at hy ⊢
    cases hl : look n upd' with
    | some y' =>
      rw [hl] at hy; cases hy
      obtain ⟨x, hx, h1, h2⟩ := (hu n).1 _ hl
      exact ⟨x, by rw [hx], h1, h2⟩
    | none =>
      rw [hl] at hy
      have hn : look n upd = none := by
        cases hl2 : look n upd with
        | none => rfl
        | some x => obtain ⟨y, hy⟩ := (hu n).2 x hl2; rw [hl] at hy; simp at hy
      exact ⟨y, by rw [hn]; exact hy, .refl _, .inl rfl⟩
  refine hs'.leS (fun t y hy => ?_) (fun n => ⟨fun y hy => ?_, fun x hx => ?_⟩) (fun n x y hx hy => ?_)
  · simp only [AS.run] at hy ⊢
    split at hy
    · rename_i e; cases hy; exact ⟨v, by rw [if_pos e], hv⟩
    · rename_i e; exact ⟨y, by rw [if_neg e]; exact hy, .refl _⟩
  · obtain ⟨x, h1, h2, _⟩ := hheap n y hy; exact ⟨x, h1, h2⟩
  · have : ∃ y, (s.run o.dst ⟨rd, hp, v', upd', nw⟩).heap n = some y := by
      simp only [AS.run] at hx ⊢
      cases hl : look n upd with
      | some x' => obtain ⟨y, hy⟩ := (hu n).2 x' hl; exact ⟨y, by rw [hy]⟩
      | none =>
        rw [hl] at hx
        cases hl2 : look n upd' with
        | some y => exact ⟨y, rfl⟩
        | none => exact ⟨x, hx⟩
    obtain ⟨y, hy⟩ := this
    obtain ⟨x', h1, h2, _⟩ := hheap n y hy
    rw [hx] at h1; cases h1
    exact ⟨y, hy, h2⟩
  · obtain ⟨x', h1, _, h3⟩ := hheap n y hy
    rw [hx] at h1; cases h1
    exact h3
theorem OpOK.vLe {rd : List (Nat × AV)} {hp upd : List (Name × AO)} {v v' : AV} {nw : List Name} (h : OpOK P o ⟨rd, hp, v, upd, nw⟩) (hv : AVle v v') : OpOK P o ⟨rd, hp, v', upd, nw⟩ :=
  h.outLe hv fun n => ⟨fun y hy => ⟨y, hy, .refl _, .inl rfl⟩, fun x hx => ⟨x, hx⟩⟩
theorem Good.val {hp : HS} {v : BV} (h1 : ∀ n ob, (n, ob) ∈ hp → look n hs = some ob) (h2 : ∀ L, Inv L hs → OpOK P o ⟨erT L rd, erH L hp, v.er L, [], []⟩) : Good P o rd hs ⟨hp, v, [], [], []⟩ :=
  ⟨h1, fun L hL => ⟨L, fun _ _ _ _ => rfl, hL, h2 L hL⟩⟩
theorem Good.ev {v : BV} (h2 : ∀ L, Inv L hs → OpOK P o ⟨erT L rd, [], v.er L, [], []⟩) : Good P o rd hs (ev v) := Good.val (fun _ _ h => by simp at h) h2
def cellB : Value → BV
  | .slice none 0 0 => .nil
  | .int k x => .n k x
  | .bool b => .b b
  | .string s => .s s
  | c => .v c
theorem cellB_er (L : Lens) (c : Value) : (cellB c).er L = constCell c := by
  unfold cellB
  split
  · simp only [BV.er]; rfl
  · simp only [BV.er]; rfl
  · simp only [BV.er]; rfl
  · simp only [BV.er]; rfl
  · rename_i h1 h2 h3 h4
    simp only [BV.er]
    unfold constCell
    split
    · exact absurd rfl h1
    · rfl
def constB : Value → Option BV
  | .agg cs => if cs.toList.all (fun c => c.oneCell') then some (.agg (cs.toList.map cellB)) else none
  | c => if c.oneCell' then some (cellB c) else none
theorem erL_cells (L : Lens) (cs : List Value) : erL L (cs.map cellB) = cs.map constCell := by
  simp only [erL_map, List.map_map]; exact List.map_congr_left fun c _ => cellB_er L c
theorem constB_er {c : Value} {x : BV} (L : Lens) (h : constB c = some x) : constAV c = some (x.er L) := by
  unfold constB at h
  split at h
  · rename_i cs
    unfold constAV
    split at h
    · rename_i hall; cases h; simp only [hall, if_true, BV.er, erL_cells]
    · simp at h
  · rename_i hne
    split at h
    · rename_i ho
      cases h
      unfold constAV
      split
      · exact absurd rfl (hne _)
      · simp only [ho, if_true, cellB_er]
    · simp at h
def evalB (rd : TS) : Operand → Option BV
  | .tmp t => look t rd
  | .const c => constB c
  | .global g => some (.v (.pointer (some ⟨g, 0, none⟩)))
  | .func f => some (.v (.func (.func f) #[] #[]))
theorem evalB_er {x : Operand} {v : BV} (L : Lens) (h : evalB rd x = some v) : evalO (erT L rd) x = some (v.er L) := by
  cases x with
  | tmp t => simp only [evalB] at h; simp only [evalO, look_erT, h, Option.map_some]
  | const c => exact constB_er L h
  | global g => simp only [evalB, Option.some.injEq] at h; subst h; simp only [evalO, BV.er]
  | func f => simp only [evalB, Option.some.injEq] at h; subst h; simp only [evalO, BV.er]
def cellsB : BV → Option (List BV)
  | .agg cs => some cs
  | .tup _ => none
  | x => some [x]
theorem cellsB_er {v : BV} {cs : List BV} (L : Lens) (h : cellsB v = some cs) : cellsAV (v.er L) = some (erL L cs) := by
  cases v <;> simp only [cellsB, Option.some.injEq, reduceCtorEq] at h <;> subst h <;> simp only [BV.er, cellsAV, erL]
def evalBs (rd : TS) : List Operand → Option (List BV)
  | [] => some []
  | x :: r => match evalB rd x, evalBs rd r with
    | some v, some vs => some (v :: vs)
    | _, _ => none
theorem evalBs_er (L : Lens) : ∀ {xs : List Operand} {vs : List BV}, evalBs rd xs = some vs → evalL (erT L rd) xs = some (erL L vs)
  | [], vs, h => by simp only [evalBs, Option.some.injEq] at h; subst h; simp only [evalL, erL]
  | x :: r, vs, h => by
    simp only [evalBs] at h
    split at h
    · rename_i v vs' h1 h2
      cases h
      simp only [evalL, evalB_er L h1, evalBs_er L h2, erL]
    · simp at h
end
section
variable {R : Type} (P : Program) (ty : TypeId → Option TC) (rd : TS) (hs : HS) (K : BEff → Option R)
def bVal (x : Operand) : Option R := match evalB rd x with
  | some v => K (ev v)
  | none => none
def bPick (c x y : Operand) : Option R := match evalB rd c, evalB rd x, evalB rd y with
  | some (.b q), some u, some v => cnd q (K (ev u)) (K (ev v))
  | _, _, _ => none
def zeroB (T : TypeId) : Option (List BV) := match P.info? T with
  | some i => match i.zero with
    | some z => if z.cells.toList.all (fun c => c.oneCell') then some (z.cells.toList.map cellB) else none
    | none => none
  | none => none
def bAlloc (d : Option Nat) (T : TypeId) : Option R := match d, zeroB P T with
  | some d, some cs => K ⟨[], .ref (1000 + d) 0, [(1000 + d, .box cs)], [1000 + d], []⟩
  | _, _ => none
def bBox (d : Option Nat) (x : Operand) : Option R := match d, evalB rd x with
  | some d, some v => match cellsB v with
    | some cs => K ⟨[], .ref (1000 + d) 0, [(1000 + d, .box cs)], [1000 + d], []⟩
    | none => none
  | _, _ => none
def putCB (places : List (Nat × Nat)) : List (Nat × Operand) → List BV → Option (List BV)
  | [], cells => some cells
  | (i, x) :: r, cells => match places[i]?, evalB rd x with
    | some (off, size), some y => match cellsB y with
      | some cs => if Nat.beq cs.length size && Nat.ble (off + size) cells.length then forceL (layB cells off cs) fun cells => putCB places r cells else none
      | none => none
    | _, _ => none
def placesB (T : TypeId) : Option (List (Nat × Nat)) := match P.underlying T with
  | some (.array n e) => match sizeT P e with
    | some es => some (arrPlaces n es)
    | none => none
  | _ => structT P T
def bBuild (T : TypeId) (parts : Array (Nat × Operand)) : Option R := match placesB P T, zeroB P T with
  | some pl, some zs => match putCB rd pl parts.toList zs with
    | some cells => K (ev (.agg cells))
    | none => none
  | _, _ => none
def rowsC (t : TC) : List (Nat × Operand) → Nat → Nat → (List (TT t) → Option R) → Option R
  | [], i, len, K => if Nat.beq i len then K [] else none
  | (j, x) :: r, i, len, K => if Nat.beq j i then match evalB rd x with
      | some v => match cellsB v with
        | some cs => if Nat.beq cs.length (tz t) && cs.all BV.isP then tpop t cs fun y rest => match rest with
            | [] => rowsC t r (i + 1) len fun ys => K (y :: ys)
            | _ => none
          else none
        | none => none
      | none => none
    else none
def bBuildSlice (T : TypeId) (len : Nat) (parts : Array (Nat × Operand)) : Option R := match elemT P T with
  | some e => match ty e, sizeT P e, zeroRow P e with
    | some t, some es, some zr => if Nat.beq es (tz t) && Nat.ble 1 es && Nat.beq zr.length es && Nat.ble (len * es) 16777216 then rowsC rd t parts.toList 0 len fun l => K (ev (.ts true t l)) else none
    | _, _, _ => none
  | none => none
def bLoad (T : TypeId) (x : Operand) : Option R := match evalB rd x with
  | some (.ref n k) => match look n hs with
    | some (.box cells) => if aggT P T then
        match sizeT P T with
        | some z => if Nat.beq ((cells.drop k).take z).length z then K ⟨[(n, .box cells)], .agg ((cells.drop k).take z), [], [], []⟩ else none
        | none => none
      else if flatT P T then match cells[k]? with
        | some c => K ⟨[(n, .box cells)], c, [], [], []⟩
        | none => none
      else none
    | _ => none
  | some (.tep cells) => if cells.all BV.isP then if aggT P T then
      match sizeT P T with
      | some z => if Nat.beq (cells.take z).length z then K (ev (.agg (cells.take z))) else none
      | none => none
    else if flatT P T then match cells[0]? with
      | some c => K (ev c)
      | none => none
    else none else none
  | some (.aref n u i k) => match look n hs with
    | some (.arr t l v) => if Nat.beq u v then optc l[i]? fun y => if aggT P T then
        match sizeT P T with
        | some z => if Nat.beq (((tb t y).drop k).take z).length z then K ⟨[(n, .arr t l v)], .agg (((tb t y).drop k).take z), [], [], []⟩ else none
        | none => none
      else if flatT P T then match (tb t y)[k]? with
        | some c => K ⟨[(n, .arr t l v)], c, [], [], []⟩
        | none => none
      else none else none
    | _ => none
  | _ => none
def bStore (d : Option Nat) (T : TypeId) (x y : Operand) : Option R := match d, evalB rd x, evalB rd y with
  | none, some (.ref n k), some v => match look n hs, cellsB v, sizeT P T with
    | some (.box cells), some vs, some z => if Nat.beq z vs.length && Nat.ble (k + vs.length) cells.length then forceL (layB cells k vs) fun cells' => K ⟨[(n, .box cells)], .any, [(n, .box cells')], [], []⟩ else none
    | _, _, _ => none
  | none, some (.aref n u i k), some v => match look n hs, cellsB v, sizeT P T with
    | some (.arr t l q), some vs, some z => if Nat.beq u q then optc l[i]? fun y => if Nat.beq z vs.length && Nat.ble (k + vs.length) (tb t y).length && vs.all BV.isP then tpop t (layB (tb t y) k vs) fun y' rest => match rest with
        | [] => K ⟨[(n, .arr t l q)], .any, [(n, .arr t (l.set i y') q)], [], []⟩
        | _ => none
      else none else none
    | _, _, _ => none
  | _, _, _ => none
def bFieldAddr (S : TypeId) (x : Operand) (i : Nat) : Option R := match evalB rd x, fieldOff P S i with
  | some (.ref n k), some fo => match look n hs with
    | some (.box cells) => K ⟨[(n, .box cells)], .ref n (k + fo), [], [], []⟩
    | _ => none
  | some (.tep cells), some fo => K (ev (.tep (cells.drop fo)))
  | some (.aref n u j k), some fo => match look n hs with
    | some (.arr t l q) => if Nat.beq u q then K ⟨[(n, .arr t l q)], .aref n u j (k + fo), [], [], []⟩ else none
    | _ => none
  | _, _ => none
def bNilCheck (x : Operand) : Option R := match evalB rd x with
  | some (.ref n k) => match look n hs with
    | some (.box cells) => K ⟨[(n, .box cells)], .ref n k, [], [], []⟩
    | _ => none
  | some (.tep cells) => K (ev (.tep cells))
  | some (.aref n u j k) => match look n hs with
    | some (.arr t l q) => if Nat.beq u q then K ⟨[(n, .arr t l q)], .aref n u j k, [], [], []⟩ else none
    | _ => none
  | _ => none
def binI (op : BinOp) (k : IntKind) (a b : Int) : Option R := match op with
  | .add => K (ev (.n k (k.wrap (a + b))))
  | .sub => K (ev (.n k (k.wrap (a - b))))
  | .mul => K (ev (.n k (k.wrap (a * b))))
  | .quo => nzc b (K (ev (.n k (k.wrap (a.tdiv b)))))
  | .rem => nzc b (K (ev (.n k (a.tmod b))))
  | .lss => K (ev (.b (decide (a < b))))
  | .leq => K (ev (.b (decide (a ≤ b))))
  | .gtr => K (ev (.b (decide (b < a))))
  | .geq => K (ev (.b (decide (b ≤ a))))
  | .eql => K (ev (.b (decide (a = b))))
  | .neq => K (ev (.b (decide (a ≠ b))))
  | _ => none
def binS (op : BinOp) (a b : ByteArray) : Option R := match op with
  | .eql => K (ev (.b (decide (a = b))))
  | .neq => K (ev (.b (decide (a ≠ b))))
  | .add => lec (a.size + b.size) 9223372036854775807 (K (ev (.s (a ++ b))))
  | _ => none
def boolT (T : TypeId) : Bool := match P.underlying T with | some .bool => true | _ => false
def binB (op : BinOp) (T : TypeId) (a b : Bool) : Option R := if boolT P T then match op with
  | .eql => K (ev (.b (decide (a = b))))
  | .neq => K (ev (.b (decide (a ≠ b))))
  | _ => none else none
def bBin (op : BinOp) (T : TypeId) (x y : Operand) : Option R := match evalB rd x, evalB rd y with
  | some (.n k a), some (.n k' b) => if kEq k k' then binI K op k a b else none
  | some (.s a), some (.s b) => binS K op a b
  | some (.b a), some (.b b) => binB P K op T a b
  | _, _ => none
def bUn (op : UnOp) (x : Operand) : Option R := match op, evalB rd x with
  | .not, some (.b b) => K (ev (.b (!b)))
  | .neg, some (.n k a) => K (ev (.n k (k.wrap (0 - a))))
  | _, _ => none
def bField (T : TypeId) (x : Operand) (i : Nat) : Option R := match evalB rd x, P.underlying T with
  | some (.agg cells), some (.struct fs) => match fs[i]? with
    | some f => if aggT P f.type then
        match sizeT P f.type with
        | some z => K (ev (.agg ((cells.drop f.offset).take z)))
        | none => none
      else if flatT P f.type then match cells[f.offset]? with
        | some c => K (ev c)
        | none => none
      else none
    | none => none
  | _, _ => none
def bExtract (x : Operand) (i : Nat) : Option R := match evalB rd x with
  | some (.tup vs) => match vs[i]? with
    | some v => K (ev v)
    | none => none
  | _ => none
def bIndexAddr (T : TypeId) (x y : Operand) : Option R := match evalB rd x, evalB rd y, elemT P T with
  | some (.ts _ t l), some (.n _ j), some e => match sizeT P e with
    | some es => if Nat.beq es (tz t) then atc l j fun z => K (ev (.tep (tb t z))) else none
    | none => none
  | some (.own n u), some (.n _ j), some e => match look n hs, sizeT P e with
    | some (.arr t l q), some es => if Nat.beq es (tz t) && Nat.beq u q then natc j fun i => ltc i l.length (K ⟨[(n, .arr t l q)], .aref n u i 0, [], [], []⟩) else none
    | _, _ => none
  | some (.view n u lo hi), some (.n _ j), some e => match look n hs, sizeT P e with
    | some (.arr t l q), some es => if Nat.beq es (tz t) && Nat.beq u q then natc j fun i => ltc i (hi - lo) (K ⟨[(n, .arr t l q)], .aref n u (lo + i) 0, [], [], []⟩) else none
    | _, _ => none
  | _, _, _ => none
def bLen (T : TypeId) (x : Operand) : Option R := match evalB rd x with
  | some (.ts _ t l) => match elemT P T with
    | some _ => K (ev (.n .i64 (l.length : Int)))
    | none => none
  | some .nil => match elemT P T with
    | some _ => K (ev (.n .i64 0))
    | none => none
  | some (.own n u) => match look n hs, elemT P T with
    | some (.arr t l q), some _ => if Nat.beq u q then K ⟨[(n, .arr t l q)], .n .i64 (l.length : Int), [], [], []⟩ else none
    | _, _ => none
  | some (.view n u lo hi) => match look n hs, elemT P T with
    | some (.arr t l q), some _ => if Nat.beq u q then K ⟨[(n, .arr t l q)], .n .i64 ((hi - lo : Nat) : Int), [], [], []⟩ else none
    | _, _ => none
  | some (.s t) => match P.underlying T with
    | some .string => K (ev (.n .i64 (t.size : Int)))
    | _ => none
  | _ => none
def srcB (t0 : TC) (y : BV) (K : List (TT t0) → Option R) : Option R := match y with
  | .ts _ t x => if h : t = t0 then K (castL h x) else none
  | _ => none
def bAppend (d : Option Nat) (T : TypeId) (x y : Operand) : Option R := match evalB rd x, evalB rd y, elemT P T with
  | some (.own n u), some v, some e => match look n hs, sizeT P e, bytesT P e with
    | some (.arr t l q), some es, some bytes => if Nat.beq es (tz t) && elemOK P e es bytes && Nat.ble bytes 4096 && Nat.beq u q then srcB t v fun l' => lec (l.length + l'.length) 34359738368 (K ⟨[(n, .arr t l q)], .own n (q + 1), [(n, .arr t (l ++ l') (q + 1))], [], [(n, q + 1)]⟩) else none
    | _, _, _ => none
  | some .nil, some v, some e => match d, ty e, sizeT P e, bytesT P e with
    | some d, some t, some es, some bytes => if Nat.beq es (tz t) && elemOK P e es bytes && Nat.ble bytes 4096 && Nat.ble 1 es then srcB t v fun l' => lec l'.length 34359738368 (K ⟨[], .own (1000 + d) 0, [(1000 + d, .arr t l' 0)], [1000 + d], []⟩) else none
    | _, _, _, _ => none
  | some (.ts true t l), some v, some e => match d, sizeT P e, bytesT P e with
    | some d, some es, some bytes => if Nat.beq es (tz t) && elemOK P e es bytes && Nat.ble bytes 4096 && Nat.ble 1 es then srcB t v fun l' => match l with
        | [] => lec l'.length 34359738368 (K ⟨[], .own (1000 + d) 0, [(1000 + d, .arr t l' 0)], [1000 + d], []⟩)
        | y :: q => match l' with
          | [] => none
          | z :: r => lec ((y :: q).length + (z :: r).length) 34359738368 (K ⟨[], .own (1000 + d) 0, [(1000 + d, .arr t (y :: q ++ z :: r) 0)], [1000 + d], []⟩) else none
    | _, _, _ => none
  | _, _, _ => none
def bConv (S T : TypeId) (x : Operand) : Option R := match evalB rd x, intT P T with
  | some (.n k a), some k' => if (P.underlying S).isSome then K (ev (.n k' (k'.wrap a))) else none
  | _, _ => none
def bIndexS (T : TypeId) (x y : Operand) : Option R := match evalB rd x, evalB rd y, P.underlying T with
  | some (.s t), some (.n _ j), some .string => natc j fun i => ltc i t.size (K (ev (.n .u8 (bAt t i : Int))))
  | _, _, _ => none
end
end Go.Proofs.YtfhcigjkfelnfaaGreat.AM
/-
  The abstract machine, part R: nil errors, a byte as a text, ranging over a map in whatever order. No project text.
-/
set_option linter.unusedSimpArgs false
set_option linter.unusedVariables false
namespace Go.Proofs.YtfhcigjkfelnfaaGreat.AM
open Go
section
variable {P : Program} {o : Oper} {rd : List (Nat × AV)}
theorem run_equal_slice {T e : TypeId} (hT : P.underlying T = some (.slice e)) (a : Option Addr) (l c : Nat) (w : World) : (Op.equal T (.slice a l c) (.slice none 0 0)).run P w = .ok a.isNone w := by
  unfold Op.equal
  rw [show Op.maxDepth = (Op.maxDepth - 1) + 1 from rfl]
  cases a <;> simp [Op.equalIn, run_underlying hT]
def eqOp (op : BinOp) : Option Bool := match op with
  | .eql => some true
  | .neq => some false
  | _ => none
theorem run_eqNil {op : BinOp} {q : Bool} {T e : TypeId} (hq : eqOp op = some q) (hT : P.underlying T = some (.slice e)) (a : Option Addr) (l c : Nat) (w : World) : (binOp op T (.slice a l c) (.slice none 0 0)).run P w = .ok (.bool (a.isNone == q)) w := by
  cases op <;> simp [eqOp] at hq <;> subst hq <;> cases a <;> simp [binOp, run_equal_slice hT]
theorem OpOK.eqNilU {op : BinOp} {q : Bool} {T T' e : TypeId} {x : Operand} {f : Bool} {es : Nat} {rows : List (List PV)} (ho : o.op = .binOp op T x (.const (.slice none 0 0)) T') (hq : eqOp op = some q) (hT : P.underlying T = some (.slice e)) (hx : evalO rd x = some (.p (.sl f es rows))) :
    OpOK P o ⟨rd, [], .ub, [], []⟩ :=
  OpOK.quiet fun Γ ρ M s a w hs hh => by
    have h1 := evalO_R hs hh hx
    simp only [AV.R, PV.R] at h1
    obtain ⟨ad, cap, hu, _⟩ := h1
    refine ⟨.bool (ad.isNone == q), ?_, by simp only [AV.R]; exact ⟨_, rfl⟩⟩
    have e : a.eval (.const (.slice none 0 0)) = .slice none 0 0 := rfl
    simp [execOp, ho, hu, e, run_eqNil hq hT, eqGuard_at_slice]
theorem OpOK.eqNilN {op : BinOp} {q : Bool} {T T' e : TypeId} {x : Operand} {f : Bool} {es : Nat} {rows : List (List PV)} (ho : o.op = .binOp op T x (.const (.slice none 0 0)) T') (hq : eqOp op = some q) (hT : P.underlying T = some (.slice e)) (hx : evalO rd x = some (.p (.sl f es rows))) (hr : rows ≠ []) :
    OpOK P o ⟨rd, [], .p (.v (.bool (!q))), [], []⟩ :=
  OpOK.quiet fun Γ ρ M s a w hs hh => by
    have h1 := evalO_R hs hh hx
    simp only [AV.R, PV.R] at h1
    obtain ⟨ad, cap, hu, hl, _, hn, _⟩ := h1
    refine ⟨.bool (!q), ?_, by simp only [AV.R, PV.R]; exact ⟨trivial, rfl⟩⟩
    have e : a.eval (.const (.slice none 0 0)) = .slice none 0 0 := rfl
    have had : ad.isNone = false := by
      cases ad with
      | some x => rfl
      | none =>
        have := hn rfl
        have : rows.length = 0 := by omega
        exact absurd (List.eq_nil_of_length_eq_zero this) hr
    have := run_eqNil (P := P) hq hT ad rows.length cap w
    rw [had] at this
    simp [execOp, ho, hu, e, this, eqGuard_at_slice]
theorem OpOK.maxI {x y : Operand} {ats : Array TypeId} {m k r : Int} (ho : o.op = .call { callee := .builtin .max, args := #[x, y], argTypes := ats }) (hx : evalO rd x = some (.p (.v (.int .i64 m)))) (hy : evalO rd y = some (.p (.v (.int .i64 k)))) (hr : max m k = r) :
    OpOK P o ⟨rd, [], .p (.v (.int .i64 r)), [], []⟩ :=
  OpOK.quiet fun Γ ρ M s a w hs hh => by
    have h1 := evalO_R hs hh hx
    have h2 := evalO_R hs hh hy
    simp only [AV.R, PV.R] at h1 h2
    refine ⟨.int .i64 r, ?_, by simp only [AV.R, PV.R]; exact ⟨trivial, rfl⟩⟩
    have e : (if m < k then k else m) = r := by rw [← hr]; split <;> omega
    simp [execOp, ho, h1.1, h2.1, resolve, invoke, builtin, run_max_int2, e]
theorem OpOK.minI {x y : Operand} {ats : Array TypeId} {m k r : Int} (ho : o.op = .call { callee := .builtin .min, args := #[x, y], argTypes := ats }) (hx : evalO rd x = some (.p (.v (.int .i64 m)))) (hy : evalO rd y = some (.p (.v (.int .i64 k)))) (hr : min m k = r) :
    OpOK P o ⟨rd, [], .p (.v (.int .i64 r)), [], []⟩ :=
  OpOK.quiet fun Γ ρ M s a w hs hh => by
    have h1 := evalO_R hs hh hx
    have h2 := evalO_R hs hh hy
    simp only [AV.R, PV.R] at h1 h2
    refine ⟨.int .i64 r, ?_, by simp only [AV.R, PV.R]; exact ⟨trivial, rfl⟩⟩
    have e : (if k < m then k else m) = r := by rw [← hr]; split <;> omega
    simp [execOp, ho, h1.1, h2.1, resolve, invoke, builtin, run_min_int2, e]
def intField (P : Program) (f : Field) (i : Nat) : Bool := f.name != "_" && Nat.beq f.offset i && (match P.underlying f.type with | some (.int .i64) => true | _ => false)
def intFields (P : Program) : List Field → Nat → Bool
  | [], _ => true
  | f :: fs, i => intField P f i && intFields P fs (i + 1)
def intsT (P : Program) (T : TypeId) (n : Nat) : Bool := (match P.underlying T with | some (.struct fs) => Nat.beq fs.size n && intFields P fs.toList 0 | _ => false) && !P.stoodInHeld T && !P.eqGuardType P.depth T
theorem run_part_int {w : World} {T : TypeId} {cs : Array Value} {i : Nat} {v : Value} (hT : P.underlying T = some (.int .i64)) (h : cs[i]? = some v) : (part T cs i).run P w = .ok v w := by
  have hf : flatT P T = true := by simp [flatT, hT]
  simp [part, run_isAgg_false hf, h]
theorem eqFields_ints (d : Nat) (w : World) (xs ys : Array Value) : ∀ (fs : List Field) (i : Nat) (as1 bs : List Int), intFields P fs i = true → as1.length = fs.length → bs.length = fs.length →
    (∀ j (a : Int), as1[j]? = some a → xs[i + j]? = some (.int .i64 a)) → (∀ j (b : Int), bs[j]? = some b → ys[i + j]? = some (.int .i64 b)) → (Op.eqFields (d + 1) xs ys fs).run P w = .ok (decide (as1 = bs)) w
  | [], i, as1, bs, _, h1, h2, _, _ => by
    have e1 : as1 = [] := List.eq_nil_of_length_eq_zero (by simpa using h1)
    have e2 : bs = [] := List.eq_nil_of_length_eq_zero (by simpa using h2)
    subst e1; subst e2; simp [Op.eqFields]
  | f :: fs, i, [], bs, _, h1, _, _, _ => by simp at h1
  | f :: fs, i, a :: as1, [], _, _, h2, _, _ => by simp at h2
  | f :: fs, i, a :: as1, b :: bs, hf, h1, h2, h3, h4 => by
    simp only [intFields, intField, Bool.and_eq_true, bne_iff_ne, ne_eq] at hf
    obtain ⟨⟨⟨g1, g2⟩, g3⟩, g4⟩ := hf
    have ho : f.offset = i := Nat.eq_of_beq_eq_true g2
    have hT : P.underlying f.type = some (.int .i64) := by
      split at g3
      · assumption
      · simp at g3
    have e1 := run_part_int (w := w) hT (h3 0 a (by simp))
    have e2 := run_part_int (w := w) hT (h4 0 b (by simp))
    rw [Nat.add_zero] at e1 e2
    have ih := eqFields_ints d w xs ys fs (i + 1) as1 bs g4 (by simpa using h1) (by simpa using h2) (fun j x hx => by
      have := h3 (j + 1) x (by simpa using hx); rwa [show i + (j + 1) = i + 1 + j by omega] at this) (fun j x hx => by
      have := h4 (j + 1) x (by simpa using hx); rwa [show i + (j + 1) = i + 1 + j by omega] at this)
    simp only [Op.eqFields, if_pos g1, Sem.run_bind, ho, e1, e2, Result.andThen_ok, run_equalIn_int w d f.type .i64 .i64 a b hT]
    by_cases h : a = b
    · subst h
      simp [ih]
    · simp [h]
theorem Rs_ints {ρ : Name → Loc} {H : Heap} {M : Nat → Prop} {w : World} : ∀ {as1 : List Int} {us : List Value}, AV.Rs ρ H M w (as1.map fun a => .p (.v (.int .i64 a))) us → us = as1.map (Value.int .i64)
  | [], us, h => by simpa only [List.map_nil, AV.Rs] using h
  | a :: r, us, h => by
    simp only [List.map_cons, AV.Rs, AV.R, PV.R] at h
    obtain ⟨u, us', rfl, _, ⟨rfl, _⟩, h2⟩ := h
    rw [Rs_ints h2]; rfl
theorem OpOK.eqlInts {T T' : TypeId} {x y : Operand} {as1 bs : List Int} {q : Bool} (ho : o.op = .binOp .eql T x y T') (hT : intsT P T as1.length = true) (hl : Nat.beq bs.length as1.length = true)
    (hx : evalO rd x = some (.agg (as1.map fun a => .p (.v (.int .i64 a))))) (hy : evalO rd y = some (.agg (bs.map fun a => .p (.v (.int .i64 a))))) (hr : decide (as1 = bs) = q) : OpOK P o ⟨rd, [], .p (.v (.bool q)), [], []⟩ :=
  OpOK.quiet fun Γ ρ M s a w hs hh => by
    have h1 := evalO_R hs hh hx
    have h2 := evalO_R hs hh hy
    simp only [AV.R] at h1 h2
    obtain ⟨us, hu, k1⟩ := h1
    obtain ⟨vs, hv, k2⟩ := h2
    replace k1 := Rs_ints k1
    replace k2 := Rs_ints k2
    have hl' := Nat.eq_of_beq_eq_true hl
    unfold intsT at hT
    simp only [Bool.and_eq_true, Bool.not_eq_true'] at hT
    obtain ⟨⟨g1, g2⟩, g3⟩ := hT
    split at g1
    · rename_i fs hfs
      simp only [Bool.and_eq_true] at g1
      have hsz := Nat.eq_of_beq_eq_true g1.1
      have hF : P.fieldsOf T = fs := by simp [Program.fieldsOf, hfs]
      refine ⟨.bool q, ?_, by simp only [AV.R, PV.R]; exact ⟨trivial, rfl⟩⟩
      have e1 := run_equalIn_struct (P := P) w 9999 T us vs (by rw [hF]; exact hfs) g2
      rw [hF, eqFields_ints 9998 w us vs fs.toList 0 as1 bs g1.2 (by simp [hsz]) (by simp [hsz, hl']) (fun j a0 hj => by
        rw [Nat.zero_add, ← Array.getElem?_toList, k1, List.getElem?_map, hj]; rfl) (fun j a0 hj => by
        rw [Nat.zero_add, ← Array.getElem?_toList, k2, List.getElem?_map, hj]; rfl)] at e1
      simp [execOp, ho, hu, hv, run_eqGuard_agg w .eql T x y us vs g3, run_eql_struct, e1, hr]
    · simp at g1
end
section
variable {P : Program} {Γ : Ctx} {Q : Exit → AS → Prop}
end
end Go.Proofs.YtfhcigjkfelnfaaGreat.AM
/-
  The abstract machine, part S: structs of numbers that differ. No project text.
-/
set_option linter.unusedSimpArgs false
set_option linter.unusedVariables false
namespace Go.Proofs.YtfhcigjkfelnfaaGreat.AM
open Go
section
variable {P : Program} {o : Oper} {rd : List (Nat × AV)}
theorem OpOK.neqInts {T T' : TypeId} {x y : Operand} {as1 bs : List Int} {q : Bool} (ho : o.op = .binOp .neq T x y T') (hT : intsT P T as1.length = true) (hl : Nat.beq bs.length as1.length = true)
    (hx : evalO rd x = some (.agg (as1.map fun a => .p (.v (.int .i64 a))))) (hy : evalO rd y = some (.agg (bs.map fun a => .p (.v (.int .i64 a))))) (hr : decide (as1 ≠ bs) = q) : OpOK P o ⟨rd, [], .p (.v (.bool q)), [], []⟩ :=
  OpOK.quiet fun Γ ρ M s a w hs hh => by
    have h1 := evalO_R hs hh hx
    have h2 := evalO_R hs hh hy
    simp only [AV.R] at h1 h2
    obtain ⟨us, hu, k1⟩ := h1
    obtain ⟨vs, hv, k2⟩ := h2
    replace k1 := Rs_ints k1
    replace k2 := Rs_ints k2
    have hl' := Nat.eq_of_beq_eq_true hl
    unfold intsT at hT
    simp only [Bool.and_eq_true, Bool.not_eq_true'] at hT
    obtain ⟨⟨g1, g2⟩, g3⟩ := hT
    split at g1
    · rename_i fs hfs
      simp only [Bool.and_eq_true] at g1
      have hsz := Nat.eq_of_beq_eq_true g1.1
      have hF : P.fieldsOf T = fs := by simp [Program.fieldsOf, hfs]
      refine ⟨.bool q, ?_, by simp only [AV.R, PV.R]; exact ⟨trivial, rfl⟩⟩
      have e1 := run_equalIn_struct (P := P) w 9999 T us vs (by rw [hF]; exact hfs) g2
      rw [hF, eqFields_ints 9998 w us vs fs.toList 0 as1 bs g1.2 (by simp [hsz]) (by simp [hsz, hl']) (fun j a0 hj => by
        rw [Nat.zero_add, ← Array.getElem?_toList, k1, List.getElem?_map, hj]; rfl) (fun j a0 hj => by
        rw [Nat.zero_add, ← Array.getElem?_toList, k2, List.getElem?_map, hj]; rfl)] at e1
      have hq : (!decide (as1 = bs)) = q := by rw [← hr]; simp
      simp [execOp, ho, hu, hv, run_eqGuard_agg w .neq T x y us vs g3, run_neq_struct, e1, hq]
    · simp at g1
theorem OpOK.sliceLo {T e : TypeId} {x lo : Operand} {full : Bool} {es k : Nat} {rows rows' : List (List PV)} {i : Int} (ho : o.op = .slice T x (some lo) none none) (hT : P.underlying T = some (.slice e)) (hz : sizeT P e = some es)
    (hx : evalO rd x = some (.p (.sl full es rows))) (hlo : evalO rd lo = some (.p (.v (.int .i64 i)))) (hi : i = ((k : Nat) : Int)) (hk : k ≤ rows.length) (hr : rows.drop k = rows') : OpOK P o ⟨rd, [], .p (.sl full es rows'), [], []⟩ :=
  OpOK.quiet fun Γ ρ M s a w hs hh => by
    subst hr; subst hi
    have h1 := evalO_R hs hh hx
    have h2 := evalO_R hs hh hlo
    simp only [AV.R, PV.R] at h1 h2
    obtain ⟨ad, cap, hu, hl, hf, hn, hc⟩ := h1
    refine ⟨.slice (if cap = k then ad else ad.map (·.add (k * es))) (rows.length - k) (cap - k), ?_, ?_⟩
    · have hb : (Instr.sliceBounds true rows.length cap (some (.int .i64 ((k : Nat) : Int))) none none).run P w = .ok (k, rows.length, cap) w := by
        unfold Instr.sliceBounds
        simp [run_sliceBound, hk]
      simp [execOp, ho, hu, h2.1, Instr.sliceAt, Instr.slice, run_underlying hT, hb, run_sizeOf hz]
    · simp only [AV.R, PV.R, List.length_drop]
      refine ⟨_, _, rfl, by omega, fun h => by rw [hf h], fun h => ?_, fun ad' had hcap => ?_⟩
      · split at h
        · omega
        · cases ad with
          | none => rw [hn rfl]; omega
          | some x => simp at h
      · have hne : ¬ cap = k := by omega
        rw [if_neg hne] at had
        cases ad with
        | none => simp at had
        | some x =>
          obtain ⟨g1, g2, g3, g4⟩ := hc x rfl (by omega)
          obtain ⟨b0, o0, s0⟩ := x
          simp only at g1; subst g1
          simp only [Option.map_some, Option.some.injEq] at had
          rw [addr_add] at had
          subst had
          exact ⟨rfl, g2, g3, g4.drop k⟩
end
end Go.Proofs.YtfhcigjkfelnfaaGreat.AM
/-
  The abstract machine, part T: an array of ours is copied within itself. No project text.
-/
set_option linter.unusedSimpArgs false
set_option linter.unusedVariables false
namespace Go.Proofs.YtfhcigjkfelnfaaGreat.AM
open Go
section
variable {P : Program} {o : Oper} {rd : List (Nat × AV)}
end
end Go.Proofs.YtfhcigjkfelnfaaGreat.AM
