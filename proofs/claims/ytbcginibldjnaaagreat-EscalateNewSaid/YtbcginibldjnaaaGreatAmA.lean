/-
  The abstract machine, part A: pure deep data (PV), abstract values (AV), abstract objects (AO), and what they mean in a world. No project text.
-/
import Derived.Orders
import Derived.Laws.Cells
import Derived.Laws.World
set_option linter.unusedSimpArgs false
set_option linter.unusedVariables false
namespace Go.Proofs.YtbcginibldjnaaaGreat.AM
open Go

/-- Pure deep data: a flat value, or a slice that reads as rows of cells. -/
inductive PV where
  | v (x : Value)
  | sl (full : Bool) (es : Nat) (rows : List (List PV))

mutual
/-- 'u' reads as the datum, in a world whose blocks in M may change. -/
def PV.R (M : Nat → Prop) (w : World) : PV → Value → Prop
  | .v x, u => u = x ∧ x.oneCell' = true
  | .sl full es rows, u => ∃ (a : Option Addr) (cap : Nat), u = .slice a rows.length cap ∧ rows.length ≤ cap ∧ (full = true → cap = rows.length) ∧
      (a = none → cap = 0) ∧ ∀ ad, a = some ad → cap ≠ 0 → ad.spot = none ∧ ¬ M ad.block ∧ ad.block < w.heap.size ∧ PV.Rows M w ad.block es ad.off rows
def PV.Rows (M : Nat → Prop) (w : World) (b es : Nat) : Nat → List (List PV) → Prop
  | _, [] => True
  | off, r :: rs => r.length = es ∧ PV.Cells M w b off r ∧ PV.Rows M w b es (off + es) rs
def PV.Cells (M : Nat → Prop) (w : World) (b : Nat) : Nat → List PV → Prop
  | _, [] => True
  | off, c :: cs => (∃ u, w.cell? ⟨b, off, none⟩ = some u ∧ PV.R M w c u) ∧ PV.Cells M w b (off + 1) cs
end

/-- Blocks outside B are as they were. -/
structure Ext (B : Nat → Prop) (w w' : World) : Prop where
  size : w.heap.size ≤ w'.heap.size
  same : ∀ b, b < w.heap.size → ¬ B b → w'.heap[b]? = w.heap[b]?
  os : w'.os = w.os
  out : w'.output = w.output

theorem Ext.refl (B : Nat → Prop) (w : World) : Ext B w w := ⟨Nat.le_refl _, fun _ _ _ => rfl, rfl, rfl⟩
theorem Ext.trans {B B' : Nat → Prop} {w w1 w2 : World} (h : Ext B w w1) (h' : Ext B' w1 w2) (hB : ∀ b, b < w.heap.size → B' b → B b) : Ext B w w2 :=
  ⟨Nat.le_trans h.size h'.size, fun b hb hn => by
    rw [h'.same b (Nat.lt_of_lt_of_le hb h.size) (fun hb' => hn (hB b hb hb')), h.same b hb hn], h'.os.trans h.os, h'.out.trans h.out⟩
theorem Ext.weaken {B B' : Nat → Prop} {w w' : World} (h : Ext B w w') (hB : ∀ b, b < w.heap.size → B b → B' b) : Ext B' w w' :=
  ⟨h.size, fun b hb hn => h.same b hb (fun h' => hn (hB b hb h')), h.os, h.out⟩
theorem Ext.cell {B : Nat → Prop} {w w' : World} (h : Ext B w w') {b : Nat} (hb : b < w.heap.size) (hn : ¬ B b) (o : Nat) :
    w'.cell? ⟨b, o, none⟩ = w.cell? ⟨b, o, none⟩ := by
  unfold World.cell?; rw [h.same b hb hn]

theorem cell_lt {w : World} {b o : Nat} {u : Value} (h : w.cell? ⟨b, o, none⟩ = some u) : b < w.heap.size :=
  World.block_lt_of_cell? (a := ⟨b, o, none⟩) w h

mutual
theorem PV.R.mono {M M' : Nat → Prop} {w w' : World} {B : Nat → Prop} (he : Ext B w w') (hB : ∀ b, B b → M b)
    (hM : ∀ b, b < w.heap.size → M' b → M b) : ∀ {x : PV} {u : Value}, x.R M w u → x.R M' w' u
  | .v _, _, h => by simpa only [PV.R] using h
  | .sl full es rows, u, h => by
    simp only [PV.R] at h ⊢
    obtain ⟨a, cap, h1, h2, h3, h4, h5⟩ := h
    refine ⟨a, cap, h1, h2, h3, h4, fun ad had hc => ?_⟩
    obtain ⟨g1, g2, g3, g4⟩ := h5 ad had hc
    exact ⟨g1, fun h' => g2 (hM _ g3 h'), Nat.lt_of_lt_of_le g3 he.size, PV.Rows.mono he hB hM (fun h' => g2 (hB _ h')) g3 g4⟩
theorem PV.Rows.mono {M M' : Nat → Prop} {w w' : World} {B : Nat → Prop} (he : Ext B w w') (hB : ∀ b, B b → M b)
    (hM : ∀ b, b < w.heap.size → M' b → M b) {b es : Nat} (hb : ¬ B b) (hs : b < w.heap.size) : ∀ {off : Nat} {rows : List (List PV)}, PV.Rows M w b es off rows → PV.Rows M' w' b es off rows
  | _, [], _ => by simp only [PV.Rows]
  | off, r :: rs, h => by
    simp only [PV.Rows] at h ⊢
    exact ⟨h.1, PV.Cells.mono he hB hM hb hs h.2.1, PV.Rows.mono he hB hM hb hs h.2.2⟩
theorem PV.Cells.mono {M M' : Nat → Prop} {w w' : World} {B : Nat → Prop} (he : Ext B w w') (hB : ∀ b, B b → M b)
    (hM : ∀ b, b < w.heap.size → M' b → M b) {b : Nat} (hb : ¬ B b) (hs : b < w.heap.size) : ∀ {off : Nat} {cs : List PV}, PV.Cells M w b off cs → PV.Cells M' w' b off cs
  | _, [], _ => by simp only [PV.Cells]
  | off, c :: cs, h => by
    simp only [PV.Cells] at h ⊢
    obtain ⟨⟨u, hu, hr⟩, h2⟩ := h
    exact ⟨⟨u, by rw [he.cell hs hb]; exact hu, PV.R.mono he hB hM hr⟩, PV.Cells.mono he hB hM hb hs h2⟩
end

theorem PV.R.flat {M : Nat → Prop} {w : World} {x : PV} {u : Value} (h : x.R M w u) : u.oneCell' = true := by
  cases x with
  | v x => simp only [PV.R] at h; rw [h.1]; exact h.2
  | sl f es rows => simp only [PV.R] at h; obtain ⟨a, cap, rfl, _⟩ := h; rfl

theorem PV.Cells.get {M : Nat → Prop} {w : World} {b : Nat} : ∀ {off : Nat} {cs : List PV}, PV.Cells M w b off cs → ∀ j c, cs[j]? = some c → ∃ u, w.cell? ⟨b, off + j, none⟩ = some u ∧ c.R M w u
  | _, [], _, j, c, hj => by simp at hj
  | off, c0 :: cs, h, j, c, hj => by
    simp only [PV.Cells] at h
    cases j with
    | zero => simp at hj; subst hj; exact h.1
    | succ j =>
      have := h.2.get j c (by simpa using hj)
      rwa [Nat.add_assoc, Nat.add_comm 1 j] at this
theorem PV.Cells.of_get {M : Nat → Prop} {w : World} {b : Nat} : ∀ {off : Nat} {cs : List PV}, (∀ j c, cs[j]? = some c → ∃ u, w.cell? ⟨b, off + j, none⟩ = some u ∧ c.R M w u) → PV.Cells M w b off cs
  | _, [], _ => by simp only [PV.Cells]
  | off, c0 :: cs, h => by
    simp only [PV.Cells]
    refine ⟨by have := h 0 c0 (by simp); simpa using this, PV.Cells.of_get (fun j c hj => ?_)⟩
    have := h (j + 1) c (by simpa using hj)
    rwa [show off + (j + 1) = off + 1 + j by omega] at this
theorem PV.Cells.drop {M : Nat → Prop} {w : World} {b off : Nat} {cs : List PV} (k : Nat) (h : PV.Cells M w b off cs) : PV.Cells M w b (off + k) (cs.drop k) :=
  PV.Cells.of_get fun j c hj => by
    have := h.get (k + j) c (by simpa using hj)
    rwa [← Nat.add_assoc] at this
theorem PV.Cells.take {M : Nat → Prop} {w : World} {b off : Nat} {cs : List PV} (k : Nat) (h : PV.Cells M w b off cs) : PV.Cells M w b off (cs.take k) :=
  PV.Cells.of_get fun j c hj => by
    refine h.get j c ?_
    rw [List.getElem?_take] at hj
    split at hj
    · exact hj
    · simp at hj

theorem PV.Rows.get {M : Nat → Prop} {w : World} {b es : Nat} : ∀ {off : Nat} {rows : List (List PV)}, PV.Rows M w b es off rows → ∀ i r, rows[i]? = some r → r.length = es ∧ PV.Cells M w b (off + i * es) r
  | _, [], _, i, r, hi => by simp at hi
  | off, r0 :: rs, h, i, r, hi => by
    simp only [PV.Rows] at h
    cases i with
    | zero => simp at hi; subst hi; simpa using ⟨h.1, h.2.1⟩
    | succ i =>
      have := h.2.2.get i r (by simpa using hi)
      rwa [show off + es + i * es = off + (i + 1) * es by rw [Nat.succ_mul]; omega] at this
theorem PV.Rows.of_get {M : Nat → Prop} {w : World} {b es : Nat} : ∀ {off : Nat} {rows : List (List PV)}, (∀ i r, rows[i]? = some r → r.length = es ∧ PV.Cells M w b (off + i * es) r) → PV.Rows M w b es off rows
  | _, [], _ => by simp only [PV.Rows]
  | off, r0 :: rs, h => by
    simp only [PV.Rows]
    have h0 := h 0 r0 (by simp)
    refine ⟨h0.1, by simpa using h0.2, PV.Rows.of_get (fun i r hi => ?_)⟩
    have := h (i + 1) r (by simpa using hi)
    rwa [show off + (i + 1) * es = off + es + i * es by rw [Nat.succ_mul]; omega] at this

theorem PV.Rows.drop {M : Nat → Prop} {w : World} {b es off : Nat} {rows : List (List PV)} (k : Nat) (h : PV.Rows M w b es off rows) : PV.Rows M w b es (off + k * es) (rows.drop k) :=
  PV.Rows.of_get fun i r hi => by
    have := h.get (k + i) r (by simpa using hi)
    rwa [Nat.add_mul, ← Nat.add_assoc] at this
theorem PV.Rows.take {M : Nat → Prop} {w : World} {b es off : Nat} {rows : List (List PV)} (k : Nat) (h : PV.Rows M w b es off rows) : PV.Rows M w b es off (rows.take k) :=
  PV.Rows.of_get fun i r hi => by
    rw [List.getElem?_take] at hi
    split at hi
    · exact h.get i r hi
    · simp at hi

/-! ### Abstract values and objects -/
abbrev Name := Nat

inductive AV where
  | p (x : PV)
  | agg (cs : List AV)
  | ref (n : Name) (off : Nat)
  | own (n : Name) (len : Nat)
  | aref (n : Name) (len i off : Nat)
  | eptr (cells : List PV)
  /-- The rows lo to hi of an array of ours. -/
  | view (n : Name) (len lo hi : Nat)
  | tup (vs : List AV)
  | clo (f : Fn) (fs : List AV) (caps : List AV)
  /-- A map (m) or an iterator: where it lies. -/
  | oref (m : Bool) (n : Name)
  /-- An error: nil (true), or not. -/
  | err (b : Bool)
  /-- A truth value that is not known. -/
  | ub
  | any

inductive AO where
  | box (cells : List AV)
  | arr (es : Nat) (rows : List (List PV))
  /-- An array of which one row may hold headers of other arrays of ours. -/
  | hole (es : Nat) (pre : List (List PV)) (row : List AV) (post : List (List PV))
  /-- No object: what is known of a value (the header of an array, say, that is kept as pure data). -/
  | fact (a : AV) (x : Value)
  /-- A map, an iterator: as it lies in the heap. -/
  | obj (x : Obj)

/-- An array's cells to a row, and its number of rows. -/
def AO.shape : AO → Option (Nat × Nat)
  | .box _ => none
  | .arr es rows => some (es, rows.length)
  | .hole es pre _ post => some (es, pre.length + 1 + post.length)
  | .fact _ _ => none
  | .obj _ => none

/-- Where an object lies: the base address and the capacity that a header of it shows (a box: capacity 1). -/
structure Loc where
  base : Option Addr
  cap : Nat

def Loc.blk (l : Loc) : Option Nat := if l.cap = 0 then none else l.base.map (·.block)

abbrev Heap := Name → Option AO

/-- A header's part. -/
def viewV (X : Value) (lo hi es : Nat) : Value := match X with
  | .slice a l c => .slice (if c = lo then a else a.map (·.add (lo * es))) (hi - lo) (c - lo)
  | v => v
mutual
def AV.R (ρ : Name → Loc) (H : Heap) (M : Nat → Prop) (w : World) : AV → Value → Prop
  | .p x, u => x.R M w u
  | .agg cs, u => ∃ us : Array Value, u = .agg us ∧ AV.Rs ρ H M w cs us.toList
  | .ref n off, u => u.oneCell' = true ∧ ∀ cells, H n = some (.box cells) → ∃ b, (ρ n).base = some ⟨b, 0, none⟩ ∧ u = .pointer (some ⟨b, off, none⟩)
  | .own n len, u => u.oneCell' = true ∧ ∀ o es k, H n = some o → o.shape = some (es, k) → len ≤ k ∧ (len = k → u = .slice (ρ n).base len (ρ n).cap)
  | .aref n len i off, u => u.oneCell' = true ∧ ∀ o es k, H n = some o → o.shape = some (es, k) → len ≤ k ∧ (len = k → ∃ b, (ρ n).base = some ⟨b, 0, none⟩ ∧ u = .pointer (some ⟨b, i * es + off, none⟩))
  | .view n len lo hi, u => u.oneCell' = true ∧ lo ≤ hi ∧ hi ≤ len ∧ ∀ o es k, H n = some o → o.shape = some (es, k) → len ≤ k ∧ (len = k → u = viewV (.slice (ρ n).base len (ρ n).cap) lo hi es)
  | .eptr cells, u => ∃ ad : Addr, u = .pointer (some ad) ∧ ad.spot = none ∧ ¬ M ad.block ∧ ad.block < w.heap.size ∧ PV.Cells M w ad.block ad.off cells
  | .tup vs, u => ∃ us : Array Value, u = .tuple us ∧ AV.Ts ρ H M w vs us.toList
  | .clo f fs caps, u => ∃ a c : Array Value, u = .func f a c ∧ AV.Rs ρ H M w fs a.toList ∧ AV.Rs ρ H M w caps c.toList
  | .oref m n, u => u.oneCell' = true ∧ ∀ x, H n = some (.obj x) → ∃ b, (ρ n).base = some ⟨b, 0, none⟩ ∧ u = (if m then .map (some b) else .pointer (some ⟨b, 0, none⟩))
  | .err b, u => u.oneCell' = true ∧ (b = true → u = .nilIface) ∧ (b = false → ∃ t p, u = .iface t p)
  | .ub, u => ∃ q, u = .bool q
  | .any, u => u.oneCell' = true
def AV.Rs (ρ : Name → Loc) (H : Heap) (M : Nat → Prop) (w : World) : List AV → List Value → Prop
  | [], us => us = []
  | x :: xs, us => ∃ u us', us = u :: us' ∧ u.oneCell' = true ∧ AV.R ρ H M w x u ∧ AV.Rs ρ H M w xs us'
def AV.Ts (ρ : Name → Loc) (H : Heap) (M : Nat → Prop) (w : World) : List AV → List Value → Prop
  | [], us => us = []
  | x :: xs, us => ∃ u us', us = u :: us' ∧ AV.R ρ H M w x u ∧ AV.Ts ρ H M w xs us'
end

mutual
/-- Is the object's name somewhere in the value? -/
def AV.has (n : Name) : AV → Bool
  | .p _ => false
  | .agg cs => AV.hasL n cs
  | .ref m _ => m == n
  | .own m _ => m == n
  | .aref m _ _ _ => m == n
  | .view m _ _ _ => m == n
  | .eptr _ => false
  | .tup vs => AV.hasL n vs
  | .clo _ fs caps => AV.hasL n fs || AV.hasL n caps
  | .oref _ m => m == n
  | .err _ => false
  | .ub => false
  | .any => false
def AV.hasL (n : Name) : List AV → Bool
  | [] => false
  | x :: xs => AV.has n x || AV.hasL n xs
end

def AO.has (n : Name) : AO → Bool
  | .box cells => AV.hasL n cells
  | .arr _ _ => false
  | .hole _ _ row _ => AV.hasL n row
  | .fact a _ => a.has n
  | .obj _ => false

/-- How an object may change while what points at it stays good. -/
def stays : AO → Loc → Option AO → Loc → Prop
  | _, _, none, _ => True
  | .box _, l, some (.box _), l' => l' = l
  | .arr es rows, l, some (.arr es' rows'), l' => es' = es ∧ rows.length ≤ rows'.length ∧ (rows.length = rows'.length → l' = l)
  | .arr es rows, l, some (.hole es' pre _ post), l' => es' = es ∧ rows.length ≤ pre.length + 1 + post.length ∧ (rows.length = pre.length + 1 + post.length → l' = l)
  | .hole es pre _ post, l, some (.arr es' rows'), l' => es' = es ∧ pre.length + 1 + post.length ≤ rows'.length ∧ (pre.length + 1 + post.length = rows'.length → l' = l)
  | .hole es pre _ post, l, some (.hole es' pre' _ post'), l' => es' = es ∧ pre.length + 1 + post.length ≤ pre'.length + 1 + post'.length ∧ (pre.length + 1 + post.length = pre'.length + 1 + post'.length → l' = l)
  | .fact _ _, _, some (.fact _ _), _ => True
  | .obj _, l, some (.obj _), l' => l' = l
  | _, _, _, _ => False

theorem stays_refl (o : AO) (l : Loc) : stays o l (some o) l := by
  cases o <;> simp [stays]
theorem stays_shape {o : AO} {l : Loc} {o' : AO} {l' : Loc} {es k : Nat} (h : stays o l (some o') l') (hs : o'.shape = some (es, k)) : ∃ k0, o.shape = some (es, k0) ∧ k0 ≤ k ∧ (k0 = k → l' = l) := by
  cases o <;> cases o' <;> simp only [stays, AO.shape, reduceCtorEq, Option.some.injEq, Prod.mk.injEq] at h hs ⊢
  all_goals (obtain ⟨rfl, rfl⟩ := hs; obtain ⟨rfl, h2, h3⟩ := h; exact ⟨_, ⟨rfl, rfl⟩, h2, h3⟩)

/-- A change of the objects: what was there stays good; what is new has a name that nobody bears. -/
def HStep (ρ : Name → Loc) (H : Heap) (ρ' : Name → Loc) (H' : Heap) : Prop :=
  ∀ n o, H n = some o → stays o (ρ n) (H' n) (ρ' n)

mutual
theorem AV.R.step {ρ ρ' : Name → Loc} {H H' : Heap} {M M' B : Nat → Prop} {w w' : World} (he : Ext B w w') (hB : ∀ b, B b → M b)
    (hM : ∀ b, b < w.heap.size → M' b → M b) (hs : HStep ρ H ρ' H') :
    ∀ {x : AV} {u : Value}, (∀ n, x.has n = true → H n = none → H' n = none) → x.R ρ H M w u → x.R ρ' H' M' w' u
  | .p x, u, hn, h => by simp only [AV.R] at h ⊢; exact h.mono he hB hM
  | .agg cs, u, hn, h => by
    simp only [AV.R] at h ⊢
    obtain ⟨us, h1, h2⟩ := h
    exact ⟨us, h1, AV.Rs.step he hB hM hs (fun n h0 => hn n (by simpa only [AV.has] using h0)) h2⟩
  | .ref n off, u, hn, h => by
    simp only [AV.R] at h ⊢
    refine ⟨h.1, fun cells hc => ?_⟩
    cases hH : H n with
    | none => have := hn n (by simp [AV.has]) hH; rw [this] at hc; simp at hc
    | some o =>
      have h1 := hs n o hH
      rw [hc] at h1
      cases o with
      | box cs => simp only [stays] at h1; obtain ⟨b, hb, hu⟩ := h.2 cs hH; exact ⟨b, by rw [h1]; exact hb, hu⟩
      | arr es rows => simp [stays] at h1
      | hole es pre row post => simp [stays] at h1
      | fact a x => simp [stays] at h1
      | obj x => simp [stays] at h1
  | .own n len, u, hn, h => by
    simp only [AV.R] at h ⊢
    refine ⟨h.1, fun o' es k hc hsh => ?_⟩
    cases hH : H n with
    | none => have := hn n (by simp [AV.has]) hH; rw [this] at hc; simp at hc
    | some o =>
      have h1 := hs n o hH
      rw [hc] at h1
      obtain ⟨k0, q1, q2, q3⟩ := stays_shape h1 hsh
      obtain ⟨g1, g2⟩ := h.2 o es k0 hH q1
      refine ⟨Nat.le_trans g1 q2, fun hl => ?_⟩
      have e : k0 = k := by omega
      rw [q3 e]
      exact g2 (by omega)
  | .aref n len i off, u, hn, h => by
    simp only [AV.R] at h ⊢
    refine ⟨h.1, fun o' es k hc hsh => ?_⟩
    cases hH : H n with
    | none => have := hn n (by simp [AV.has]) hH; rw [this] at hc; simp at hc
    | some o =>
      have h1 := hs n o hH
      rw [hc] at h1
      obtain ⟨k0, q1, q2, q3⟩ := stays_shape h1 hsh
      obtain ⟨g1, g2⟩ := h.2 o es k0 hH q1
      refine ⟨Nat.le_trans g1 q2, fun hl => ?_⟩
      have e : k0 = k := by omega
      rw [q3 e]
      exact g2 (by omega)
  | .view n len lo hi, u, hn, h => by
    simp only [AV.R] at h ⊢
    refine ⟨h.1, h.2.1, h.2.2.1, fun o' es k hc hsh => ?_⟩
    cases hH : H n with
    | none => have := hn n (by simp [AV.has]) hH; rw [this] at hc; simp at hc
    | some o =>
      have h1 := hs n o hH
      rw [hc] at h1
      obtain ⟨k0, q1, q2, q3⟩ := stays_shape h1 hsh
      obtain ⟨g1, g2⟩ := h.2.2.2 o es k0 hH q1
      refine ⟨Nat.le_trans g1 q2, fun hl => ?_⟩
      have e : k0 = k := by omega
      rw [q3 e]
      exact g2 (by omega)
  | .eptr cells, u, hn, h => by
    simp only [AV.R] at h ⊢
    obtain ⟨ad, h1, h2, h3, h4, h5⟩ := h
    exact ⟨ad, h1, h2, fun h' => h3 (hM _ h4 h'), Nat.lt_of_lt_of_le h4 he.size, h5.mono he hB hM (fun h' => h3 (hB _ h')) h4⟩
  | .tup vs, u, hn, h => by
    simp only [AV.R] at h ⊢
    obtain ⟨us, h1, h2⟩ := h
    exact ⟨us, h1, AV.Ts.step he hB hM hs (fun n h0 => hn n (by simpa only [AV.has] using h0)) h2⟩
  | .clo f fs caps, u, hn, h => by
    simp only [AV.R] at h ⊢
    obtain ⟨a, c, h1, h2, h3⟩ := h
    exact ⟨a, c, h1, AV.Rs.step he hB hM hs (fun n h0 => hn n (by simp only [AV.has, h0, Bool.true_or])) h2,
      AV.Rs.step he hB hM hs (fun n h0 => hn n (by simp only [AV.has, h0, Bool.or_true])) h3⟩
  | .oref m n, u, hn, h => by
    simp only [AV.R] at h ⊢
    refine ⟨h.1, fun x hc => ?_⟩
    cases hH : H n with
    | none => have := hn n (by simp [AV.has]) hH; rw [this] at hc; simp at hc
    | some o =>
      have h1 := hs n o hH
      rw [hc] at h1
      cases o with
      | obj y => simp only [stays] at h1; obtain ⟨b, hb, hu⟩ := h.2 y hH; exact ⟨b, by rw [h1]; exact hb, hu⟩
      | box cs => simp [stays] at h1
      | arr es rows => simp [stays] at h1
      | hole es pre row post => simp [stays] at h1
      | fact a x => simp [stays] at h1
  | .err b, u, hn, h => by simpa only [AV.R] using h
  | .ub, u, hn, h => by simpa only [AV.R] using h
  | .any, u, hn, h => by simpa only [AV.R] using h
theorem AV.Rs.step {ρ ρ' : Name → Loc} {H H' : Heap} {M M' B : Nat → Prop} {w w' : World} (he : Ext B w w') (hB : ∀ b, B b → M b)
    (hM : ∀ b, b < w.heap.size → M' b → M b) (hs : HStep ρ H ρ' H') :
    ∀ {xs : List AV} {us : List Value}, (∀ n, AV.hasL n xs = true → H n = none → H' n = none) → AV.Rs ρ H M w xs us → AV.Rs ρ' H' M' w' xs us
  | [], us, _, h => by simpa only [AV.Rs] using h
  | x :: xs, us, hn, h => by
    simp only [AV.Rs] at h ⊢
    obtain ⟨u, us', h1, h2, h3, h4⟩ := h
    exact ⟨u, us', h1, h2, AV.R.step he hB hM hs (fun n h0 => hn n (by simp only [AV.hasL, h0, Bool.true_or])) h3,
      AV.Rs.step he hB hM hs (fun n h0 => hn n (by simp only [AV.hasL, h0, Bool.or_true])) h4⟩
theorem AV.Ts.step {ρ ρ' : Name → Loc} {H H' : Heap} {M M' B : Nat → Prop} {w w' : World} (he : Ext B w w') (hB : ∀ b, B b → M b)
    (hM : ∀ b, b < w.heap.size → M' b → M b) (hs : HStep ρ H ρ' H') :
    ∀ {xs : List AV} {us : List Value}, (∀ n, AV.hasL n xs = true → H n = none → H' n = none) → AV.Ts ρ H M w xs us → AV.Ts ρ' H' M' w' xs us
  | [], us, _, h => by simpa only [AV.Ts] using h
  | x :: xs, us, hn, h => by
    simp only [AV.Ts] at h ⊢
    obtain ⟨u, us', h1, h3, h4⟩ := h
    exact ⟨u, us', h1, AV.R.step he hB hM hs (fun n h0 => hn n (by simp only [AV.hasL, h0, Bool.true_or])) h3,
      AV.Ts.step he hB hM hs (fun n h0 => hn n (by simp only [AV.hasL, h0, Bool.or_true])) h4⟩
end

theorem AV.Rs.length {ρ : Name → Loc} {H : Heap} {M : Nat → Prop} {w : World} : ∀ {xs : List AV} {us : List Value}, AV.Rs ρ H M w xs us → us.length = xs.length
  | [], us, h => by simp only [AV.Rs] at h; simp [h]
  | x :: xs, us, h => by
    simp only [AV.Rs] at h
    obtain ⟨u, us', rfl, _, _, h4⟩ := h
    simp [h4.length]
theorem AV.Rs.get {ρ : Name → Loc} {H : Heap} {M : Nat → Prop} {w : World} : ∀ {xs : List AV} {us : List Value}, AV.Rs ρ H M w xs us → ∀ (j : Nat) (x : AV), xs[j]? = some x → ∃ u : Value, us[j]? = some u ∧ u.oneCell' = true ∧ x.R ρ H M w u
  | [], us, h, j, x, hj => by simp at hj
  | x0 :: xs, us, h, j, x, hj => by
    simp only [AV.Rs] at h
    obtain ⟨u, us', rfl, h2, h3, h4⟩ := h
    cases j with
    | zero => simp at hj; subst hj; exact ⟨u, by simp, h2, h3⟩
    | succ j => simpa using h4.get j x (by simpa using hj)
theorem AV.Rs.of_get {ρ : Name → Loc} {H : Heap} {M : Nat → Prop} {w : World} : ∀ {xs : List AV} {us : List Value}, us.length = xs.length → (∀ (j : Nat) (x : AV) (u : Value), xs[j]? = some x → us[j]? = some u → u.oneCell' = true ∧ x.R ρ H M w u) → AV.Rs ρ H M w xs us
  | [], us, hl, _ => by simp only [AV.Rs]; exact List.eq_nil_of_length_eq_zero (by simpa using hl)
  | x :: xs, us, hl, h => by
    cases us with
    | nil => simp at hl
    | cons u us =>
      simp only [AV.Rs]
      have h0 := h 0 x u (by simp) (by simp)
      exact ⟨u, us, rfl, h0.1, h0.2, AV.Rs.of_get (by simpa using hl) (fun j x u hx hu => h (j + 1) x u (by simpa using hx) (by simpa using hu))⟩
theorem AV.Rs.append {ρ : Name → Loc} {H : Heap} {M : Nat → Prop} {w : World} : ∀ {xs ys : List AV} {us vs : List Value}, AV.Rs ρ H M w xs us → AV.Rs ρ H M w ys vs → AV.Rs ρ H M w (xs ++ ys) (us ++ vs)
  | [], ys, us, vs, h, h' => by simp only [AV.Rs] at h; subst h; simpa using h'
  | x :: xs, ys, us, vs, h, h' => by
    simp only [AV.Rs] at h
    obtain ⟨u, us', rfl, h2, h3, h4⟩ := h
    simp only [List.cons_append, AV.Rs]
    exact ⟨u, us' ++ vs, rfl, h2, h3, h4.append h'⟩
theorem AV.Rs.drop {ρ : Name → Loc} {H : Heap} {M : Nat → Prop} {w : World} : ∀ {xs : List AV} {us : List Value} (k : Nat), AV.Rs ρ H M w xs us → AV.Rs ρ H M w (xs.drop k) (us.drop k)
  | xs, us, 0, h => by simpa using h
  | [], us, k + 1, h => by simp only [AV.Rs] at h; subst h; simp [AV.Rs]
  | x :: xs, us, k + 1, h => by
    simp only [AV.Rs] at h
    obtain ⟨u, us', rfl, h2, h3, h4⟩ := h
    simpa using h4.drop k
theorem AV.Rs.take {ρ : Name → Loc} {H : Heap} {M : Nat → Prop} {w : World} : ∀ {xs : List AV} {us : List Value} (k : Nat), AV.Rs ρ H M w xs us → AV.Rs ρ H M w (xs.take k) (us.take k)
  | xs, us, 0, h => by simp [AV.Rs]
  | [], us, k + 1, h => by simp only [AV.Rs] at h; subst h; simp [AV.Rs]
  | x :: xs, us, k + 1, h => by
    simp only [AV.Rs] at h
    obtain ⟨u, us', rfl, h2, h3, h4⟩ := h
    simp only [List.take_succ_cons, AV.Rs]
    exact ⟨u, us'.take k, rfl, h2, h3, h4.take k⟩

/-- Pure cells, as abstract values and as they lie. -/
def pcells (cs : List PV) : List AV := cs.map .p
theorem Rs_of_Cells {ρ : Name → Loc} {H : Heap} {M : Nat → Prop} {w : World} {b : Nat} : ∀ {off : Nat} {cs : List PV}, PV.Cells M w b off cs → ∃ us : List Value, AV.Rs ρ H M w (pcells cs) us ∧ ∀ j u, us[j]? = some u → w.cell? ⟨b, off + j, none⟩ = some u
  | off, [], h => ⟨[], by simp [pcells, AV.Rs], by simp⟩
  | off, c :: cs, h => by
    simp only [PV.Cells] at h
    obtain ⟨⟨u, hu, hr⟩, h2⟩ := h
    obtain ⟨us, hr', hc⟩ := Rs_of_Cells (ρ := ρ) (H := H) h2
    refine ⟨u :: us, ?_, fun j v hj => ?_⟩
    · simp only [pcells, List.map_cons, AV.Rs]
      exact ⟨u, us, rfl, hr.flat, by simpa only [AV.R] using hr, hr'⟩
    · cases j with
      | zero => simp at hj; subst hj; simpa using hu
      | succ j =>
        have := hc j v (by simpa using hj)
        rwa [show off + 1 + j = off + (j + 1) by omega] at this
theorem Cells_of_Rs {ρ : Name → Loc} {H : Heap} {M : Nat → Prop} {w : World} {b off : Nat} {cs : List PV} {us : List Value} (h : AV.Rs ρ H M w (pcells cs) us) (hc : ∀ j u, us[j]? = some u → w.cell? ⟨b, off + j, none⟩ = some u) : PV.Cells M w b off cs :=
  PV.Cells.of_get fun j c hj => by
    obtain ⟨u, hu, _, hr⟩ := h.get j (.p c) (by simp [pcells, hj])
    exact ⟨u, hc j u hu, by simpa only [AV.R] using hr⟩

end Go.Proofs.YtbcginibldjnaaaGreat.AM
