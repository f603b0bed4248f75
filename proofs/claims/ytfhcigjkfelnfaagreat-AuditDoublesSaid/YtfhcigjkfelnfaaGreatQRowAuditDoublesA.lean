/-
  The abstract machine, part A: pure deep data (PV), abstract values (AV), abstract objects (AO), and what they mean in a world. No project text.
-/
import Derived.Orders
import Derived.Laws.Cells
import Derived.Laws.World
set_option linter.unusedSimpArgs false
set_option linter.unusedVariables false
namespace Go.Proofs.YtfhcigjkfelnfaaGreat.AM
open Go
inductive PV where
  | v (x : Value)
  | sl (full : Bool) (es : Nat) (rows : List (List PV))
mutual
def PV.R (M : Nat → Prop) (w : World) : PV → Value → Prop
  | .v x, u => u = x ∧ x.oneCell' = true
  | .sl full es rows, u => ∃ (a : Option Addr) (cap : Nat), u = .slice a rows.length cap ∧ rows.length ≤ cap ∧ (full = true → cap = rows.length) ∧
      (a = none → cap = 0) ∧ ∀ ad, a = some ad → cap ≠ 0 → ad.spot = none ∧ ¬ M ad.block ∧ ad.block < w.heap.size ∧ PV.Rows M w ad.block es ad.off rows
def PV.Rows (M : Nat → Prop) (w : World) (b es : Nat) : Nat → List (List PV) → Prop
  | _, [] => True
  | off, r :: rs => r.length = es ∧ PV.Cells M w b off r ∧ PV.Rows M w b es (off + es) rs
def PV.Cells (M : Nat → Prop) (w : World) (b : Nat) : Nat → List PV → Prop
  | _, [] => True
  | off, c :: cs => (∃ u, w.cell? ⟨b, off, none⟩ = some u ∧ PV.R M w c u) ∧ PV.Cells M w b (off + 1) cs
end
structure Ext (B : Nat → Prop) (w w' : World) : Prop where
  size : w.heap.size ≤ w'.heap.size
  same : ∀ b, b < w.heap.size → ¬ B b → w'.heap[b]? = w.heap[b]?
  os : w'.os = w.os
  out : w'.output = w.output
theorem Ext.refl (B : Nat → Prop) (w : World) : Ext B w w := ⟨Nat.le_refl _, fun _ _ _ => rfl, rfl, rfl⟩
theorem Ext.trans {B B' : Nat → Prop} {w w1 w2 : World} (h : Ext B w w1) (h' : Ext B' w1 w2) (hB : ∀ b, b < w.heap.size → B' b → B b) : Ext B w w2 :=
  ⟨Nat.le_trans h.size h'.size, fun b hb hn => by
    rw [h'.same b (Nat.lt_of_lt_of_le hb h.size) (fun hb' => hn (hB b hb hb')), h.same b hb hn], h'.os.trans h.os, h'.out.trans h.out⟩
theorem Ext.weaken {B B' : Nat → Prop} {w w' : World} (h : Ext B w w') (hB : ∀ b, b < w.heap.size → B b → B' b) : Ext B' w w' :=
  ⟨h.size, fun b hb hn => h.same b hb (fun h' => hn (hB b hb h')), h.os, h.out⟩
theorem Ext.cell {B : Nat → Prop} {w w' : World} (h : Ext B w w') {b : Nat} (hb : b < w.heap.size) (hn : ¬ B b) (o : Nat) :
    w'.cell? ⟨b, o, none⟩ = w.cell? ⟨b, o, none⟩ := by
  unfold World.cell?; rw [h.same b hb hn]
mutual
theorem PV.R.mono {M M' : Nat → Prop} {w w' : World} {B : Nat → Prop} (he : Ext B w w') (hB : ∀ b, B b → M b)
    (hM : ∀ b, b < w.heap.size → M' b → M b) : ∀ {x : PV} {u : Value}, x.R M w u → x.R M' w' u
  | .v _, _, h => by simpa only [PV.R] using h
  | .sl full es rows, u, h => by
    simp only [PV.R] at h ⊢
    obtain ⟨a, cap, h1, h2, h3, h4, h5⟩ := h
    refine ⟨a, cap, h1, h2, h3, h4, fun ad had hc => ?_⟩
    obtain ⟨g1, g2, g3, g4⟩ := h5 ad had hc
    exact ⟨g1, fun h' => g2 (hM _ g3 h'), Nat.lt_of_lt_of_le g3 he.size, PV.Rows.mono he hB hM (fun h' => g2 (hB _ h')) g3 g4⟩
theorem PV.Rows.mono {M M' : Nat → Prop} {w w' : World} {B : Nat → Prop} (he : Ext B w w') (hB : ∀ b, B b → M b)
    (hM : ∀ b, b < w.heap.size → M' b → M b) {b es : Nat} (hb : ¬ B b) (hs : b < w.heap.size) : ∀ {off : Nat} {rows : List (List PV)}, PV.Rows M w b es off rows → PV.Rows M' w' b es off rows
  | _, [], _ => by simp only [PV.Rows]
  | off, r :: rs, h => by
    simp only [PV.Rows] at h ⊢
    exact ⟨h.1, PV.Cells.mono he hB hM hb hs h.2.1, PV.Rows.mono he hB hM hb hs h.2.2⟩
theorem PV.Cells.mono {M M' : Nat → Prop} {w w' : World} {B : Nat → Prop} (he : Ext B w w') (hB : ∀ b, B b → M b)
    (hM : ∀ b, b < w.heap.size → M' b → M b) {b : Nat} (hb : ¬ B b) (hs : b < w.heap.size) : ∀ {off : Nat} {cs : List PV}, PV.Cells M w b off cs → PV.Cells M' w' b off cs
  | _, [], _ => by simp only [PV.Cells]
  | off, c :: cs, h => by
    simp only [PV.Cells] at h ⊢
    obtain ⟨⟨u, hu, hr⟩, h2⟩ := h
    exact ⟨⟨u, by rw [he.cell hs hb]; exact hu, PV.R.mono he hB hM hr⟩, PV.Cells.mono he hB hM hb hs h2⟩
end
theorem PV.R.flat {M : Nat → Prop} {w : World} {x : PV} {u : Value} (h : x.R M w u) : u.oneCell' = true := by
  cases x with
  | v x => simp only [PV.R] at h; rw [h.1]; exact h.2
  | sl f es rows => simp only [PV.R] at h; obtain ⟨a, cap, rfl, _⟩ := h; rfl
theorem PV.Cells.get {M : Nat → Prop} {w : World} {b : Nat} : ∀ {off : Nat} {cs : List PV}, PV.Cells M w b off cs → ∀ j c, cs[j]? = some c → ∃ u, w.cell? ⟨b, off + j, none⟩ = some u ∧ c.R M w u
  | _, [], _, j, c, hj => by simp at hj
  | off, c0 :: cs, h, j, c, hj => by
    simp only [PV.Cells] at h
    cases j with
    | zero => simp at hj; subst hj; exact h.1
    | succ j =>
      have := h.2.get j c (by simpa using hj)
      rwa [Nat.add_assoc, Nat.add_comm 1 j] at this
theorem PV.Cells.of_get {M : Nat → Prop} {w : World} {b : Nat} : ∀ {off : Nat} {cs : List PV}, (∀ j c, cs[j]? = some c → ∃ u, w.cell? ⟨b, off + j, none⟩ = some u ∧ c.R M w u) → PV.Cells M w b off cs
  | _, [], _ => by simp only [PV.Cells]
  | off, c0 :: cs, h => by
    simp only [PV.Cells]
    refine ⟨by have := h 0 c0 (by simp); simpa using this, PV.Cells.of_get (fun j c hj => ?_)⟩
    have := h (j + 1) c (by simpa using hj)
    rwa [show off + (j + 1) = off + 1 + j by omega] at this
theorem PV.Cells.drop {M : Nat → Prop} {w : World} {b off : Nat} {cs : List PV} (k : Nat) (h : PV.Cells M w b off cs) : PV.Cells M w b (off + k) (cs.drop k) :=
  PV.Cells.of_get fun j c hj => by
    have := h.get (k + j) c (by simpa using hj)
    rwa [← Nat.add_assoc] at this
theorem PV.Cells.take {M : Nat → Prop} {w : World} {b off : Nat} {cs : List PV} (k : Nat) (h : PV.Cells M w b off cs) : PV.Cells M w b off (cs.take k) :=
  PV.Cells.of_get fun j c hj => by
    refine h.get j c ?_
    rw [List.getElem?_take] at hj
    split at hj
    · exact hj
    · simp at hj
theorem PV.Rows.get {M : Nat → Prop} {w : World} {b es : Nat} : ∀ {off : Nat} {rows : List (List PV)}, PV.Rows M w b es off rows → ∀ i r, rows[i]? = some r → r.length = es ∧ PV.Cells M w b (off + i * es) r
  | _, [], _, i, r, hi => by simp at hi
  | off, r0 :: rs, h, i, r, hi => by
    simp only [PV.Rows] at h
    cases i with
    | zero => simp at hi; subst hi; simpa using ⟨h.1, h.2.1⟩
    | succ i =>
      have := h.2.2.get i r (by simpa using hi)
      rwa [show off + es + i * es = off + (i + 1) * es by rw [Nat.succ_mul]; omega] at this
theorem PV.Rows.of_get {M : Nat → Prop} {w : World} {b es : Nat} : ∀ {off : Nat} {rows : List (List PV)}, (∀ i r, rows[i]? = some r → r.length = es ∧ PV.Cells M w b (off + i * es) r) → PV.Rows M w b es off rows
  | _, [], _ => by simp only [PV.Rows]
  | off, r0 :: rs, h => by
    simp only [PV.Rows]
    have h0 := h 0 r0 (by simp)
    refine ⟨h0.1, by simpa using h0.2, PV.Rows.of_get (fun i r hi => ?_)⟩
    have := h (i + 1) r (by simpa using hi)
    rwa [show off + (i + 1) * es = off + es + i * es by rw [Nat.succ_mul]; omega] at this
theorem PV.Rows.drop {M : Nat → Prop} {w : World} {b es off : Nat} {rows : List (List PV)} (k : Nat) (h : PV.Rows M w b es off rows) : PV.Rows M w b es (off + k * es) (rows.drop k) :=
  PV.Rows.of_get fun i r hi => by
    have := h.get (k + i) r (by simpa using hi)
    rwa [Nat.add_mul, ← Nat.add_assoc] at this
theorem PV.Rows.take {M : Nat → Prop} {w : World} {b es off : Nat} {rows : List (List PV)} (k : Nat) (h : PV.Rows M w b es off rows) : PV.Rows M w b es off (rows.take k) :=
  PV.Rows.of_get fun i r hi => by
    rw [List.getElem?_take] at hi
    split at hi
    · exact h.get i r hi
    · simp at hi
abbrev Name := Nat
inductive AV where
  | p (x : PV)
  | agg (cs : List AV)
  | ref (n : Name) (off : Nat)
  | own (n : Name) (len : Nat)
  | aref (n : Name) (len i off : Nat)
  | eptr (cells : List PV)
  /-- The rows lo to hi of an array of ours. -/
  | view (n : Name) (len lo hi : Nat)
  | tup (vs : List AV)
  | clo (f : Fn) (fs : List AV) (caps : List AV)
  /-- A map (m) or an iterator: where it lies. -/
  | oref (m : Bool) (n : Name)
  /-- An error: nil (true), or not. -/
  | err (b : Bool)
  /-- A truth value that is not known. -/
  | ub
  | any
inductive AO where
  | box (cells : List AV)
  | arr (es : Nat) (rows : List (List PV))
  /-- An array of which one row may hold headers of other arrays of ours. -/
  | hole (es : Nat) (pre : List (List PV)) (row : List AV) (post : List (List PV))
  /-- No object: what is known of a value (the header of an array, say, that is kept as pure data). -/
  | fact (a : AV) (x : Value)
  /-- A map, an iterator: as it lies in the heap. -/
  | obj (x : Obj)
def AO.shape : AO → Option (Nat × Nat)
  | .box _ => none
  | .arr es rows => some (es, rows.length)
  | .hole es pre _ post => some (es, pre.length + 1 + post.length)
  | .fact _ _ => none
  | .obj _ => none
structure Loc where
  base : Option Addr
  cap : Nat
def Loc.blk (l : Loc) : Option Nat := if l.cap = 0 then none else l.base.map (·.block)
abbrev Heap := Name → Option AO
def viewV (X : Value) (lo hi es : Nat) : Value := match X with
  | .slice a l c => .slice (if c = lo then a else a.map (·.add (lo * es))) (hi - lo) (c - lo)
  | v => v
mutual
def AV.R (ρ : Name → Loc) (H : Heap) (M : Nat → Prop) (w : World) : AV → Value → Prop
  | .p x, u => x.R M w u
  | .agg cs, u => ∃ us : Array Value, u = .agg us ∧ AV.Rs ρ H M w cs us.toList
  | .ref n off, u => u.oneCell' = true ∧ ∀ cells, H n = some (.box cells) → ∃ b, (ρ n).base = some ⟨b, 0, none⟩ ∧ u = .pointer (some ⟨b, off, none⟩)
  | .own n len, u => u.oneCell' = true ∧ ∀ o es k, H n = some o → o.shape = some (es, k) → len ≤ k ∧ (len = k → u = .slice (ρ n).base len (ρ n).cap)
  | .aref n len i off, u => u.oneCell' = true ∧ ∀ o es k, H n = some o → o.shape = some (es, k) → len ≤ k ∧ (len = k → ∃ b, (ρ n).base = some ⟨b, 0, none⟩ ∧ u = .pointer (some ⟨b, i * es + off, none⟩))
  | .view n len lo hi, u => u.oneCell' = true ∧ lo ≤ hi ∧ hi ≤ len ∧ ∀ o es k, H n = some o → o.shape = some (es, k) → len ≤ k ∧ (len = k → u = viewV (.slice (ρ n).base len (ρ n).cap) lo hi es)
  | .eptr cells, u => ∃ ad : Addr, u = .pointer (some ad) ∧ ad.spot = none ∧ ¬ M ad.block ∧ ad.block < w.heap.size ∧ PV.Cells M w ad.block ad.off cells
  | .tup vs, u => ∃ us : Array Value, u = .tuple us ∧ AV.Ts ρ H M w vs us.toList
  | .clo f fs caps, u => ∃ a c : Array Value, u = .func f a c ∧ AV.Rs ρ H M w fs a.toList ∧ AV.Rs ρ H M w caps c.toList
  | .oref m n, u => u.oneCell' = true ∧ ∀ x, H n = some (.obj x) → ∃ b, (ρ n).base = some ⟨b, 0, none⟩ ∧ u = (if m then .map (some b) else .pointer (some ⟨b, 0, none⟩))
  | .err b, u => u.oneCell' = true ∧ (b = true → u = .nilIface) ∧ (b = false → ∃ t p, u = .iface t p)
  | .ub, u => ∃ q, u = .bool q
  | .any, u => u.oneCell' = true
def AV.Rs (ρ : Name → Loc) (H : Heap) (M : Nat → Prop) (w : World) : List AV → List Value → Prop
  | [], us => us = []
  | x :: xs, us => ∃ u us', us = u :: us' ∧ u.oneCell' = true ∧ AV.R ρ H M w x u ∧ AV.Rs ρ H M w xs us'
def AV.Ts (ρ : Name → Loc) (H : Heap) (M : Nat → Prop) (w : World) : List AV → List Value → Prop
  | [], us => us = []
  | x :: xs, us => ∃ u us', us = u :: us' ∧ AV.R ρ H M w x u ∧ AV.Ts ρ H M w xs us'
end
mutual
def AV.has (n : Name) : AV → Bool
  | .p _ => false
  | .agg cs => AV.hasL n cs
  | .ref m _ => m == n
  | .own m _ => m == n
  | .aref m _ _ _ => m == n
  | .view m _ _ _ => m == n
  | .eptr _ => false
  | .tup vs => AV.hasL n vs
  | .clo _ fs caps => AV.hasL n fs || AV.hasL n caps
  | .oref _ m => m == n
  | .err _ => false
  | .ub => false
  | .any => false
def AV.hasL (n : Name) : List AV → Bool
  | [] => false
  | x :: xs => AV.has n x || AV.hasL n xs
end
def AO.has (n : Name) : AO → Bool
  | .box cells => AV.hasL n cells
  | .arr _ _ => false
  | .hole _ _ row _ => AV.hasL n row
  | .fact a _ => a.has n
  | .obj _ => false
def stays : AO → Loc → Option AO → Loc → Prop
  | _, _, none, _ => True
  | .box _, l, some (.box _), l' => l' = l
  | .arr es rows, l, some (.arr es' rows'), l' => es' = es ∧ rows.length ≤ rows'.length ∧ (rows.length = rows'.length → l' = l)
  | .arr es rows, l, some (.hole es' pre _ post), l' => es' = es ∧ rows.length ≤ pre.length + 1 + post.length ∧ (rows.length = pre.length + 1 + post.length → l' = l)
  | .hole es pre _ post, l, some (.arr es' rows'), l' => es' = es ∧ pre.length + 1 + post.length ≤ rows'.length ∧ (pre.length + 1 + post.length = rows'.length → l' = l)
  | .hole es pre _ post, l, some (.hole es' pre' _ post'), l' => es' = es ∧ pre.length + 1 + post.length ≤ pre'.length + 1 + post'.length ∧ (pre.length + 1 + post.length = pre'.length + 1 + post'.length → l' = l)
  | .fact _ _, _, some (.fact _ _), _ => True
  | .obj _, l, some (.obj _), l' => l' = l
  | _, _, _, _ => False
theorem stays_refl (o : AO) (l : Loc) : stays o l (some o) l := by
  cases o <;> simp [stays]
theorem stays_shape {o : AO} {l : Loc} {o' : AO} {l' : Loc} {es k : Nat} (h : stays o l (some o') l') (hs : o'.shape = some (es, k)) : ∃ k0, o.shape = some (es, k0) ∧ k0 ≤ k ∧ (k0 = k → l' = l) := by
  cases o <;> cases o' <;> simp only [stays, AO.shape, reduceCtorEq, Option.some.injEq, Prod.mk.injEq] at h hs ⊢
  all_goals (obtain ⟨rfl, rfl⟩ := hs; obtain ⟨rfl, h2, h3⟩ := h; exact ⟨_, ⟨rfl, rfl⟩, h2, h3⟩)
def HStep (ρ : Name → Loc) (H : Heap) (ρ' : Name → Loc) (H' : Heap) : Prop :=
  ∀ n o, H n = some o → stays o (ρ n) (H' n) (ρ' n)
mutual
theorem AV.R.step {ρ ρ' : Name → Loc} {H H' : Heap} {M M' B : Nat → Prop} {w w' : World} (he : Ext B w w') (hB : ∀ b, B b → M b)
    (hM : ∀ b, b < w.heap.size → M' b → M b) (hs : HStep ρ H ρ' H') :
    ∀ {x : AV} {u : Value}, (∀ n, x.has n = true → H n = none → H' n = none) → x.R ρ H M w u → x.R ρ' H' M' w' u
  | .p x, u, hn, h => by simp only [AV.R] at h ⊢; exact h.mono he hB hM
  | .agg cs, u, hn, h => by
    simp only [AV.R] at h ⊢
    obtain ⟨us, h1, h2⟩ := h
    exact ⟨us, h1, AV.Rs.step he hB hM hs (fun n h0 => hn n (by simpa only [AV.has] using h0)) h2⟩
  | .ref n off, u, hn, h => by
    simp only [AV.R] at h ⊢
    refine ⟨h.1, fun cells hc => ?_⟩
    cases hH : H n with
    | none => have := hn n (by simp [AV.has]) hH; rw [this] at hc; simp at hc
    | some o =>
      have h1 := hs n o hH
      rw [hc] at h1
      cases o with
      | box cs => simp only [stays] at h1; obtain ⟨b, hb, hu⟩ := h.2 cs hH; exact ⟨b, by rw [h1]; exact hb, hu⟩
      | arr es rows => simp [stays] at h1
      | hole es pre row post => simp [stays] at h1
      | fact a x => simp [stays] at h1
      | obj x => simp [stays] at h1
  | .own n len, u, hn, h => by
    simp only [AV.R] at h ⊢
    refine ⟨h.1, fun o' es k hc hsh => ?_⟩
    cases hH : H n with
    | none => have := hn n (by simp [AV.has]) hH; rw [this] at hc; simp at hc
    | some o =>
      have h1 := hs n o hH
      rw [hc] at h1
      obtain ⟨k0, q1, q2, q3⟩ := stays_shape h1 hsh
      obtain ⟨g1, g2⟩ := h.2 o es k0 hH q1
      refine ⟨Nat.le_trans g1 q2, fun hl => ?_⟩
      have e : k0 = k := by omega
      rw [q3 e]
      exact g2 (by omega)
  | .aref n len i off, u, hn, h => by
    simp only [AV.R] at h ⊢
    refine ⟨h.1, fun o' es k hc hsh => ?_⟩
    cases hH : H n with
    | none => have := hn n (by simp [AV.has]) hH; rw [this] at hc; simp at hc
    | some o =>
      have h1 := hs n o hH
      rw [hc] at h1
      obtain ⟨k0, q1, q2, q3⟩ := stays_shape h1 hsh
      obtain ⟨g1, g2⟩ := h.2 o es k0 hH q1
      refine ⟨Nat.le_trans g1 q2, fun hl => ?_⟩
      have e : k0 = k := by omega
      rw [q3 e]
      exact g2 (by omega)
  | .view n len lo hi, u, hn, h => by
    simp only [AV.R] at h ⊢
    refine ⟨h.1, h.2.1, h.2.2.1, fun o' es k hc hsh => ?_⟩
    cases hH : H n with
    | none => have := hn n (by simp [AV.has]) hH; rw [this] at hc; simp at hc
    | some o =>
      have h1 := hs n o hH
      rw [hc] at h1
      obtain ⟨k0, q1, q2, q3⟩ := stays_shape h1 hsh
      obtain ⟨g1, g2⟩ := h.2.2.2 o es k0 hH q1
      refine ⟨Nat.le_trans g1 q2, fun hl => ?_⟩
      have e : k0 = k := by omega
      rw [q3 e]
      exact g2 (by omega)
  | .eptr cells, u, hn, h => by
    simp only [AV.R] at h ⊢
    obtain ⟨ad, h1, h2, h3, h4, h5⟩ := h
    exact ⟨ad, h1, h2, fun h' => h3 (hM _ h4 h'), Nat.lt_of_lt_of_le h4 he.size, h5.mono he hB hM (fun h' => h3 (hB _ h')) h4⟩
  | .tup vs, u, hn, h => by
    simp only [AV.R] at h ⊢
    obtain ⟨us, h1, h2⟩ := h
    exact ⟨us, h1, AV.Ts.step he hB hM hs (fun n h0 => hn n (by simpa only [AV.has] using h0)) h2⟩
  | .clo f fs caps, u, hn, h => by
    simp only [AV.R] at h ⊢
    obtain ⟨a, c, h1, h2, h3⟩ := h
    exact ⟨a, c, h1, AV.Rs.step he hB hM hs (fun n h0 => hn n (by simp only [AV.has, h0, Bool.true_or])) h2,
      AV.Rs.step he hB hM hs (fun n h0 => hn n (by simp only [AV.has, h0, Bool.or_true])) h3⟩
  | .oref m n, u, hn, h => by
    simp only [AV.R] at h ⊢
    refine ⟨h.1, fun x hc => ?_⟩
    cases hH : H n with
    | none => have := hn n (by simp [AV.has]) hH; rw [this] at hc; simp at hc
    | some o =>
      have h1 := hs n o hH
      rw [hc] at h1
      cases o with
      | obj y => simp only [stays] at h1; obtain ⟨b, hb, hu⟩ := h.2 y hH; exact ⟨b, by rw [h1]; exact hb, hu⟩
      | box cs => simp [stays] at h1
      | arr es rows => simp [stays] at h1
      | hole es pre row post => simp [stays] at h1
      | fact a x => simp [stays] at h1
  | .err b, u, hn, h => by simpa only [AV.R] using h
  | .ub, u, hn, h => by simpa only [AV.R] using h
  | .any, u, hn, h => by simpa only [AV.R] using h
theorem AV.Rs.step {ρ ρ' : Name → Loc} {H H' : Heap} {M M' B : Nat → Prop} {w w' : World} (he : Ext B w w') (hB : ∀ b, B b → M b)
    (hM : ∀ b, b < w.heap.size → M' b → M b) (hs : HStep ρ H ρ' H') :
    ∀ {xs : List AV} {us : List Value}, (∀ n, AV.hasL n xs = true → H n = none → H' n = none) → AV.Rs ρ H M w xs us → AV.Rs ρ' H' M' w' xs us
  | [], us, _, h => by simpa only [AV.Rs] using h
  | x :: xs, us, hn, h => by
    simp only [AV.Rs] at h ⊢
    obtain ⟨u, us', h1, h2, h3, h4⟩ := h
    exact ⟨u, us', h1, h2, AV.R.step he hB hM hs (fun n h0 => hn n (by simp only [AV.hasL, h0, Bool.true_or])) h3,
      AV.Rs.step he hB hM hs (fun n h0 => hn n (by simp only [AV.hasL, h0, Bool.or_true])) h4⟩
theorem AV.Ts.step {ρ ρ' : Name → Loc} {H H' : Heap} {M M' B : Nat → Prop} {w w' : World} (he : Ext B w w') (hB : ∀ b, B b → M b)
    (hM : ∀ b, b < w.heap.size → M' b → M b) (hs : HStep ρ H ρ' H') :
    ∀ {xs : List AV} {us : List Value}, (∀ n, AV.hasL n xs = true → H n = none → H' n = none) → AV.Ts ρ H M w xs us → AV.Ts ρ' H' M' w' xs us
  | [], us, _, h => by simpa only [AV.Ts] using h
  | x :: xs, us, hn, h => by
    simp only [AV.Ts] at h ⊢
    obtain ⟨u, us', h1, h3, h4⟩ := h
    exact ⟨u, us', h1, AV.R.step he hB hM hs (fun n h0 => hn n (by simp only [AV.hasL, h0, Bool.true_or])) h3,
      AV.Ts.step he hB hM hs (fun n h0 => hn n (by simp only [AV.hasL, h0, Bool.or_true])) h4⟩
end
theorem AV.Rs.length {ρ : Name → Loc} {H : Heap} {M : Nat → Prop} {w : World} : ∀ {xs : List AV} {us : List Value}, AV.Rs ρ H M w xs us → us.length = xs.length
  | [], us, h => by simp only [AV.Rs] at h; simp [h]
  | x :: xs, us, h => by
    simp only [AV.Rs] at h
    obtain ⟨u, us', rfl, _, _, h4⟩ := h
    simp [h4.length]
theorem AV.Rs.get {ρ : Name → Loc} {H : Heap} {M : Nat → Prop} {w : World} : ∀ {xs : List AV} {us : List Value}, AV.Rs ρ H M w xs us → ∀ (j : Nat) (x : AV), xs[j]? = some x → ∃ u : Value, us[j]? = some u ∧ u.oneCell' = true ∧ x.R ρ H M w u
  | [], us, h, j, x, hj => by simp at hj
  | x0 :: xs, us, h, j, x, hj => by
    simp only [AV.Rs] at h
    obtain ⟨u, us', rfl, h2, h3, h4⟩ := h
    cases j with
    | zero => simp at hj; subst hj; exact ⟨u, by simp, h2, h3⟩
    | succ j => simpa using h4.get j x (by simpa using hj)
theorem AV.Rs.of_get {ρ : Name → Loc} {H : Heap} {M : Nat → Prop} {w : World} : ∀ {xs : List AV} {us : List Value}, us.length = xs.length → (∀ (j : Nat) (x : AV) (u : Value), xs[j]? = some x → us[j]? = some u → u.oneCell' = true ∧ x.R ρ H M w u) → AV.Rs ρ H M w xs us
  | [], us, hl, _ => by simp only [AV.Rs]; exact List.eq_nil_of_length_eq_zero (by simpa using hl)
  | x :: xs, us, hl, h => by
    cases us with
    | nil => simp at hl
    | cons u us =>
      simp only [AV.Rs]
      have h0 := h 0 x u (by simp) (by simp)
      exact ⟨u, us, rfl, h0.1, h0.2, AV.Rs.of_get (by simpa using hl) (fun j x u hx hu => h (j + 1) x u (by simpa using hx) (by simpa using hu))⟩
theorem AV.Rs.append {ρ : Name → Loc} {H : Heap} {M : Nat → Prop} {w : World} : ∀ {xs ys : List AV} {us vs : List Value}, AV.Rs ρ H M w xs us → AV.Rs ρ H M w ys vs → AV.Rs ρ H M w (xs ++ ys) (us ++ vs)
  | [], ys, us, vs, h, h' => by simp only [AV.Rs] at h; subst h; simpa using h'
  | x :: xs, ys, us, vs, h, h' => by
    simp only [AV.Rs] at h
    obtain ⟨u, us', rfl, h2, h3, h4⟩ := h
    simp only [List.cons_append, AV.Rs]
    exact ⟨u, us' ++ vs, rfl, h2, h3, h4.append h'⟩
theorem AV.Rs.drop {ρ : Name → Loc} {H : Heap} {M : Nat → Prop} {w : World} : ∀ {xs : List AV} {us : List Value} (k : Nat), AV.Rs ρ H M w xs us → AV.Rs ρ H M w (xs.drop k) (us.drop k)
  | xs, us, 0, h => by simpa using h
  | [], us, k + 1, h => by simp only [AV.Rs] at h; subst h; simp [AV.Rs]
  | x :: xs, us, k + 1, h => by
    simp only [AV.Rs] at h
    obtain ⟨u, us', rfl, h2, h3, h4⟩ := h
    simpa using h4.drop k
theorem AV.Rs.take {ρ : Name → Loc} {H : Heap} {M : Nat → Prop} {w : World} : ∀ {xs : List AV} {us : List Value} (k : Nat), AV.Rs ρ H M w xs us → AV.Rs ρ H M w (xs.take k) (us.take k)
  | xs, us, 0, h => by simp [AV.Rs]
  | [], us, k + 1, h => by simp only [AV.Rs] at h; subst h; simp [AV.Rs]
  | x :: xs, us, k + 1, h => by
    simp only [AV.Rs] at h
    obtain ⟨u, us', rfl, h2, h3, h4⟩ := h
    simp only [List.take_succ_cons, AV.Rs]
    exact ⟨u, us'.take k, rfl, h2, h3, h4.take k⟩
def pcells (cs : List PV) : List AV := cs.map .p
theorem Rs_of_Cells {ρ : Name → Loc} {H : Heap} {M : Nat → Prop} {w : World} {b : Nat} : ∀ {off : Nat} {cs : List PV}, PV.Cells M w b off cs → ∃ us : List Value, AV.Rs ρ H M w (pcells cs) us ∧ ∀ j u, us[j]? = some u → w.cell? ⟨b, off + j, none⟩ = some u
  | off, [], h => ⟨[], by simp [pcells, AV.Rs], by simp⟩
  | off, c :: cs, h => by
    simp only [PV.Cells] at h
    obtain ⟨⟨u, hu, hr⟩, h2⟩ := h
    obtain ⟨us, hr', hc⟩ := Rs_of_Cells (ρ := ρ) (H := H) h2
    refine ⟨u :: us, ?_, fun j v hj => ?_⟩
    · simp only [pcells, List.map_cons, AV.Rs]
      exact ⟨u, us, rfl, hr.flat, by simpa only [AV.R] using hr, hr'⟩
    · cases j with
      | zero => simp at hj; subst hj; simpa using hu
      | succ j =>
        have := hc j v (by simpa using hj)
        rwa [show off + 1 + j = off + (j + 1) by omega] at this
theorem Cells_of_Rs {ρ : Name → Loc} {H : Heap} {M : Nat → Prop} {w : World} {b off : Nat} {cs : List PV} {us : List Value} (h : AV.Rs ρ H M w (pcells cs) us) (hc : ∀ j u, us[j]? = some u → w.cell? ⟨b, off + j, none⟩ = some u) : PV.Cells M w b off cs :=
  PV.Cells.of_get fun j c hj => by
    obtain ⟨u, hu, _, hr⟩ := h.get j (.p c) (by simp [pcells, hj])
    exact ⟨u, hc j u hu, by simpa only [AV.R] using hr⟩
end Go.Proofs.YtfhcigjkfelnfaaGreat.AM
/-
  What the package-level variables that the code reads hold: here none. No project text.
-/
namespace Go.Proofs.YtfhcigjkfelnfaaGreat.AM
open Go
def Laid (_ : World) : Prop := True
end Go.Proofs.YtfhcigjkfelnfaaGreat.AM
/-
  The abstract machine, part B: states, the simulation, how it changes. No project text.
-/
set_option linter.unusedSimpArgs false
set_option linter.unusedVariables false
namespace Go.Proofs.YtfhcigjkfelnfaaGreat.AM
open Go
structure AS where
  slot : Nat → Option AV
  heap : Heap
structure Ctx where
  n : Nat
  names : List Name
  pre : Name → AO
  ρ0 : Name → Loc
  w0 : World
  M : Nat → Prop
  G : World
def Ctx.B (Γ : Ctx) (b : Nat) : Prop := ∃ n, n ∈ Γ.names ∧ (Γ.ρ0 n).blk = some b
def ObjAt (ρ : Name → Loc) (H : Heap) (M : Nat → Prop) (w : World) (n : Name) : AO → Prop
  | .box cells => ∃ (b : Nat) (T : TypeId) (cs : Array Value), ρ n = ⟨some ⟨b, 0, none⟩, 1⟩ ∧ M b ∧ w.heap[b]? = some (.cells cs T (0, 0)) ∧ AV.Rs ρ H M w cells cs.toList
  | .arr es rows => 1 ≤ es ∧ rows.length ≤ (ρ n).cap ∧ ((ρ n).cap = 0 ∨ ∃ (b : Nat) (T : TypeId) (cs : Array Value), (ρ n).base = some ⟨b, 0, none⟩ ∧ M b ∧ w.heap[b]? = some (.cells cs T (0, 0)) ∧ cs.size = (ρ n).cap * es ∧ PV.Rows M w b es 0 rows)
  | .hole es pre row post => 1 ≤ es ∧ row.length = es ∧ pre.length + 1 + post.length ≤ (ρ n).cap ∧ ∃ (b : Nat) (T : TypeId) (cs : Array Value), (ρ n).base = some ⟨b, 0, none⟩ ∧ M b ∧ w.heap[b]? = some (.cells cs T (0, 0)) ∧ cs.size = (ρ n).cap * es ∧
      PV.Rows M w b es 0 pre ∧ AV.Rs ρ H M w row ((cs.toList.drop (pre.length * es)).take es) ∧ PV.Rows M w b es ((pre.length + 1) * es) post
  | .fact a x => (ρ n).cap = 0 ∧ AV.R ρ H M w a x
  | .obj x => ∃ b : Nat, ρ n = ⟨some ⟨b, 0, none⟩, 1⟩ ∧ M b ∧ w.heap[b]? = some x
structure Ground (G : World) (w : World) (B : Nat → Prop) : Prop where
  laid : Laid G
  size : G.heap.size ≤ w.heap.size
  same : ∀ b, b < G.heap.size → w.heap[b]? = G.heap[b]?
  out : ∀ b, B b → G.heap.size ≤ b
structure Sim (Γ : Ctx) (ρ : Name → Loc) (M : Nat → Prop) (s : AS) (a : Act) (w : World) : Prop where
  n : a.tmps.size = Γ.n
  d : a.defers = []
  slots : ∀ t x, s.slot t = some x → ∃ u, a.tmps[t]? = some u ∧ x.R ρ s.heap M w u
  objs : ∀ n o, s.heap n = some o → ObjAt ρ s.heap M w n o
  inj : ∀ n m o o' b, s.heap n = some o → s.heap m = some o' → (ρ n).blk = some b → (ρ m).blk = some b → n = m
  own0 : ∀ n o b, s.heap n = some o → (ρ n).blk = some b → (n ∈ Γ.names ∧ (Γ.ρ0 n).blk = some b) ∨ Γ.w0.heap.size ≤ b
  keep : ∀ n, n ∈ Γ.names → ∃ o, s.heap n = some o ∧ stays (Γ.pre n) (Γ.ρ0 n) (some o) (ρ n)
  ext : Ext Γ.B Γ.w0 w
  mext : ∀ b, Γ.M b → M b
  msize : ∀ b, M b → b < w.heap.size
  m0 : ∀ b, Γ.M b → b < Γ.w0.heap.size
  ground : Ground Γ.G Γ.w0 Γ.B
theorem stays_trans {o : AO} {l : Loc} {o' : AO} {l' : Loc} {o'' : AO} {l'' : Loc} (h : stays o l (some o') l') (h' : stays o' l' (some o'') l'') : stays o l (some o'') l'' := by
  cases o <;> cases o' <;> cases o'' <;> simp only [stays] at h h' ⊢
  · rw [h', h]
  all_goals first | rw [h', h] |
    refine ⟨h'.1.trans h.1, Nat.le_trans h.2.1 h'.2.1, fun e => ?_⟩
    have h1 := h.2.1
    have h2 := h'.2.1
    rw [h'.2.2 (by omega), h.2.2 (by omega)]
def AS.free (s : AS) (n : Name) : Prop := (∀ t x, s.slot t = some x → x.has n = false) ∧ ∀ m o, s.heap m = some o → o.has n = false
theorem ObjAt.blk_lt {ρ : Name → Loc} {H : Heap} {M : Nat → Prop} {w : World} {n : Name} {o : AO} (h : ObjAt ρ H M w n o) (hm : ∀ b, M b → b < w.heap.size) {b : Nat} (hb : (ρ n).blk = some b) : b < w.heap.size ∧ M b := by
  cases o with
  | box cells =>
    obtain ⟨b', T, cs, h1, h2, h3, h4⟩ := h
    rw [h1] at hb
    simp [Loc.blk] at hb
    subst hb
    exact ⟨hm _ h2, h2⟩
  | arr es rows =>
    obtain ⟨h0, h1, h2⟩ := h
    rcases h2 with h2 | ⟨b', T, cs, h3, h4, h5, h6⟩
    · simp [Loc.blk, h2] at hb
    · unfold Loc.blk at hb
      split at hb
      · simp at hb
      · rw [h3] at hb; simp at hb; subst hb; exact ⟨hm _ h4, h4⟩
  | hole es pre row post =>
    obtain ⟨_, _, h1, b', T, cs, h3, h4, _⟩ := h
    unfold Loc.blk at hb
    rw [if_neg (by omega), h3] at hb
    simp at hb; subst hb; exact ⟨hm _ h4, h4⟩
  | fact a x => simp [Loc.blk, h.1] at hb
  | obj x =>
    obtain ⟨b', h1, h2, h3⟩ := h
    rw [h1] at hb
    simp [Loc.blk] at hb
    subst hb
    exact ⟨hm _ h2, h2⟩
theorem PV.Rows.stepB {M M' B : Nat → Prop} {w w' : World} (he : Ext B w w') (hB : ∀ b, B b → M b) (hM : ∀ b, b < w.heap.size → M' b → M b) {b es off : Nat} {rows : List (List PV)} (hbb : w'.heap[b]? = w.heap[b]?)
    (h : PV.Rows M w b es off rows) : PV.Rows M' w' b es off rows :=
  PV.Rows.of_get fun i r hi => by
    obtain ⟨g1, g2⟩ := h.get i r hi
    refine ⟨g1, PV.Cells.of_get fun j c hj => ?_⟩
    obtain ⟨u, hu, hr⟩ := g2.get j c hj
    refine ⟨u, ?_, hr.mono he hB hM⟩
    rw [← hu]; unfold World.cell?; rw [hbb]
theorem ObjAt.step {ρ ρ' : Name → Loc} {H H' : Heap} {M M' B : Nat → Prop} {w w' : World} (he : Ext B w w') (hB : ∀ b, B b → M b)
    (hM : ∀ b, b < w.heap.size → M' b → M b) (hMM : ∀ b, M b → M' b) (hs : HStep ρ H ρ' H') {n : Name} {o : AO}
    (hn : ∀ m, o.has m = true → H m = none → H' m = none) (hρ : ρ' n = ρ n) (hb : ∀ b, (ρ n).blk = some b → w'.heap[b]? = w.heap[b]?)
    (hms : ∀ b, M b → b < w.heap.size)
    (h : ObjAt ρ H M w n o) : ObjAt ρ' H' M' w' n o := by
  cases o with
  | box cells =>
    obtain ⟨b, T, cs, h1, h2, h3, h4⟩ := h
    refine ⟨b, T, cs, by rw [hρ, h1], hMM _ h2, ?_, h4.step he hB hM hs (fun m hm => hn m hm)⟩
    rw [hb b (by rw [h1]; simp [Loc.blk]), h3]
  | arr es rows =>
    obtain ⟨h0, h1, h2⟩ := h
    refine ⟨h0, by rw [hρ]; exact h1, ?_⟩
    rcases h2 with h2 | ⟨b, T, cs, h3, h4, h5, h6, h7⟩
    · exact .inl (by rw [hρ]; exact h2)
    · by_cases hc : (ρ n).cap = 0
      · exact .inl (by rw [hρ]; exact hc)
      · have hbb := hb b (by simp [Loc.blk, hc, h3])
        refine .inr ⟨b, T, cs, by rw [hρ]; exact h3, hMM _ h4, by rw [hbb]; exact h5, by rw [hρ]; exact h6, ?_⟩
        refine PV.Rows.of_get fun i r hi => ?_
        obtain ⟨g1, g2⟩ := h7.get i r hi
        refine ⟨g1, PV.Cells.of_get fun j c hj => ?_⟩
        obtain ⟨u, hu, hr⟩ := g2.get j c hj
        refine ⟨u, ?_, hr.mono he hB hM⟩
        rw [← hu]; unfold World.cell?; rw [hbb]
  | hole es pre row post =>
    obtain ⟨h0, h0', h1, b, T, cs, h3, h4, h5, h6, h7, h8, h9⟩ := h
    have hbb := hb b (by unfold Loc.blk; rw [if_neg (by omega), h3]; rfl)
    exact ⟨h0, h0', by rw [hρ]; exact h1, b, T, cs, by rw [hρ]; exact h3, hMM _ h4, by rw [hbb]; exact h5, by rw [hρ]; exact h6,
      h7.stepB he hB hM hbb, h8.step he hB hM hs (fun m hm => hn m hm), h9.stepB he hB hM hbb⟩
  | fact a x => exact ⟨by rw [hρ]; exact h.1, h.2.step he hB hM hs (fun m hm => hn m hm)⟩
  | obj x =>
    obtain ⟨b, h1, h2, h3⟩ := h
    exact ⟨b, by rw [hρ, h1], hMM _ h2, by rw [hb b (by rw [h1]; simp [Loc.blk]), h3]⟩
theorem Sim.update {Γ : Ctx} {ρ : Name → Loc} {M : Nat → Prop} {s : AS} {a : Act} {w : World} (h : Sim Γ ρ M s a w)
    {ρ' : Name → Loc} {M' : Nat → Prop} {H' : Heap} {w' : World}
    (he : Ext (fun b => ∃ n o, s.heap n = some o ∧ (ρ n).blk = some b) w w')
    (hM : ∀ b, M b → M' b) (hM' : ∀ b, M' b → M b ∨ w.heap.size ≤ b) (hMs : ∀ b, M' b → b < w'.heap.size)
    (hs : HStep ρ s.heap ρ' H')
    (hkeep : ∀ n, n ∈ Γ.names → H' n ≠ none)
    (hnew : ∀ n, s.heap n = none → H' n ≠ none → s.free n)
    (hobj : ∀ n o, H' n = some o → (s.heap n = some o ∧ ρ' n = ρ n ∧ ∀ b, (ρ n).blk = some b → w'.heap[b]? = w.heap[b]?) ∨
      (ObjAt ρ' H' M' w' n o ∧ ∀ b, (ρ' n).blk = some b → (∃ o', s.heap n = some o' ∧ (ρ n).blk = some b) ∨ w.heap.size ≤ b))
    (hinj : ∀ n m o o' b, H' n = some o → H' m = some o' → (ρ' n).blk = some b → (ρ' m).blk = some b → n = m) :
    Sim Γ ρ' M' ⟨s.slot, H'⟩ a w' := by
  have hB : ∀ b, (∃ n o, s.heap n = some o ∧ (ρ n).blk = some b) → M b := fun b ⟨n, o, h1, h2⟩ => ((h.objs n o h1).blk_lt h.msize h2).2
  have hM2 : ∀ b, b < w.heap.size → M' b → M b := fun b hb hm => (hM' b hm).resolve_right (by omega)
  have hfree : ∀ n, s.heap n = none → H' n = none ∨ s.free n := fun n hn => by
    cases hh : H' n with
    | none => exact .inl rfl
    | some o => exact .inr (hnew n hn (by rw [hh]; simp))
  refine ⟨h.n, h.d, fun t x ht => ?_, fun n o hn => ?_, hinj, fun n o b hn hb => ?_, fun n hn => ?_, ?_, fun b hb => hM b (h.mext b hb), hMs, h.m0, h.ground⟩
  · obtain ⟨u, hu, hr⟩ := h.slots t x ht
    refine ⟨u, hu, hr.step he hB hM2 hs (fun n hx hn => ?_)⟩
    rcases hfree n hn with h1 | h1
    · exact h1
    · have := h1.1 t x ht; rw [this] at hx; simp at hx
  · rcases hobj n o hn with ⟨h1, h2, h3⟩ | ⟨h1, _⟩
    · refine (h.objs n o h1).step he hB hM2 hM hs (fun m hm hmn => ?_) h2 h3 h.msize
      rcases hfree m hmn with h4 | h4
      · exact h4
      · have := h4.2 n o h1; rw [this] at hm; simp at hm
    · exact h1
  · have hsz := h.ext.size
    rcases hobj n o hn with ⟨h1, h2, h3⟩ | ⟨_, h2⟩
    · rw [h2] at hb; exact h.own0 n o b h1 hb
    · rcases h2 b hb with ⟨o', h3, h4⟩ | h3
      · exact h.own0 n o' b h3 h4
      · exact .inr (by omega)
  · obtain ⟨o, h1, h2⟩ := h.keep n hn
    cases hc : H' n with
    | none => exact absurd hc (hkeep n hn)
    | some o' =>
      have h3 := hs n o h1
      rw [hc] at h3
      exact ⟨o', hc, stays_trans h2 h3⟩
  · refine h.ext.trans he (fun b hb hbb => ?_)
    obtain ⟨n, o, h1, h2⟩ := hbb
    rcases h.own0 n o b h1 h2 with h3 | h3
    · exact ⟨n, h3⟩
    · omega
theorem Sim.update1 {Γ : Ctx} {ρ : Name → Loc} {M : Nat → Prop} {s : AS} {a : Act} {w : World} (h : Sim Γ ρ M s a w)
    {n : Name} {l : Loc} {o : AO} {M' : Nat → Prop} {w' : World}
    (he : Ext (fun b => (ρ n).blk = some b ∧ s.heap n ≠ none) w w')
    (hM : ∀ b, M b → M' b) (hM' : ∀ b, M' b → M b ∨ w.heap.size ≤ b) (hMs : ∀ b, M' b → b < w'.heap.size)
    (hs : ∀ o', s.heap n = some o' → stays o' (ρ n) (some o) l)
    (hnew : s.heap n = none → s.free n)
    (hobj : ObjAt (fun m => if m = n then l else ρ m) (fun m => if m = n then some o else s.heap m) M' w' n o)
    (hblk : ∀ b, l.blk = some b → (∃ o', s.heap n = some o' ∧ (ρ n).blk = some b) ∨ w.heap.size ≤ b) :
    Sim Γ (fun m => if m = n then l else ρ m) M' ⟨s.slot, fun m => if m = n then some o else s.heap m⟩ a w' := by
  have hlt : ∀ m o' b, s.heap m = some o' → (ρ m).blk = some b → b < w.heap.size := fun m o' b h1 h2 => ((h.objs m o' h1).blk_lt h.msize h2).1
  refine h.update (he.weaken fun b _ hb => ?_) hM hM' hMs (fun m o' hm => ?_) (fun m hm => ?_) (fun m hm hm' => ?_) (fun m o' hm => ?_) (fun m m' o1 o2 b h1 h2 h3 h4 => ?_)
  · cases hn : s.heap n with
    | none => exact absurd hn hb.2
    | some o' => exact ⟨n, o', hn, hb.1⟩
  · by_cases e : m = n
    · subst e; simp only [if_true]; exact hs o' hm
    · simp only [e, if_false, hm]; exact stays_refl _ _
  · by_cases e : m = n
    · simp [e]
    · obtain ⟨o', h1, _⟩ := h.keep m hm
      simp [e, h1]
  · by_cases e : m = n
    · subst e; exact hnew hm
    · simp [e, hm] at hm'
  · by_cases e : m = n
    · subst e
      simp only [if_true] at hm
      cases hm
      exact .inr ⟨hobj, fun b hb => by simp only [if_true] at hb; exact hblk b hb⟩
    · simp only [e, if_false] at hm
      refine .inl ⟨hm, by simp [e], fun b hb => he.same b (hlt m o' b hm hb) (fun hbb => ?_)⟩
      cases hn : s.heap n with
      | none => exact hbb.2 hn
      | some o2 => exact e (h.inj m n o' o2 b hm hn hb hbb.1)
  · by_cases e : m = n
    · by_cases e' : m' = n
      · rw [e, e']
      · exfalso
        subst e
        simp only [if_true, e', if_false] at h1 h2 h3 h4
        rcases hblk b h3 with ⟨o', g1, g2⟩ | g
        · exact e' (h.inj m' m o2 o' b h2 g1 h4 g2)
        · have := hlt m' o2 b h2 h4; omega
    · by_cases e' : m' = n
      · exfalso
        subst e'
        simp only [if_true, e, if_false] at h1 h2 h3 h4
        rcases hblk b h4 with ⟨o', g1, g2⟩ | g
        · exact e (h.inj m m' o1 o' b h1 g1 h3 g2)
        · have := hlt m o1 b h1 h3; omega
      · simp only [e, e', if_false] at h1 h2 h3 h4
        exact h.inj m m' o1 o2 b h1 h2 h3 h4
theorem Sim.world {Γ : Ctx} {ρ : Name → Loc} {M : Nat → Prop} {s : AS} {a : Act} {w w' : World} (h : Sim Γ ρ M s a w) (he : Ext (fun _ => False) w w') : Sim Γ ρ M s a w' := by
  have := h.update (ρ' := ρ) (M' := M) (H' := s.heap) (w' := w') (he.weaken (fun _ _ hb => hb.elim)) (fun _ hb => hb) (fun _ hb => .inl hb)
    (fun b hb => Nat.lt_of_lt_of_le (h.msize b hb) he.size) (fun n o hn => by rw [hn]; exact stays_refl _ _) (fun n hn => by obtain ⟨o, h1, _⟩ := h.keep n hn; rw [h1]; simp) (fun n hn hn' => absurd hn hn')
    (fun n o hn => .inl ⟨hn, rfl, fun b hb => he.same b ((h.objs n o hn).blk_lt h.msize hb).1 (fun hf => hf)⟩) h.inj
  exact this
def AS.set (s : AS) (dst : Option Nat) (x : AV) : AS := ⟨fun t => if dst = some t then some x else s.slot t, s.heap⟩
theorem Sim.put {Γ : Ctx} {ρ : Name → Loc} {M : Nat → Prop} {s : AS} {a : Act} {w : World} (h : Sim Γ ρ M s a w) {dst : Option Nat} {x : AV} {u : Value}
    (hd : ∀ d, dst = some d → d < Γ.n) (hr : dst ≠ none → x.R ρ s.heap M w u) : Sim Γ ρ M (s.set dst x) (a.put dst u) w := by
  cases dst with
  | none =>
    refine ⟨h.n, h.d, fun t y ht => ?_, h.objs, h.inj, h.own0, h.keep, h.ext, h.mext, h.msize, h.m0, h.ground⟩
    simp only [AS.set, reduceCtorEq, if_false] at ht
    exact h.slots t y ht
  | some d =>
    have hdn := hd d rfl
    refine ⟨by simp [Act.put, h.n], by simp [Act.put, h.d], fun t y ht => ?_, h.objs, h.inj, h.own0, h.keep, h.ext, h.mext, h.msize, h.m0, h.ground⟩
    simp only [AS.set] at ht
    by_cases e : d = t
    · subst e
      simp only [if_true] at ht
      cases ht
      exact ⟨u, by simp [Act.put, Array.getElem?_setIfInBounds, h.n, hdn], hr (by simp)⟩
    · simp only [Option.some.injEq, e, if_false] at ht
      obtain ⟨v, hv, hr'⟩ := h.slots t y ht
      exact ⟨v, by simp [Act.put, Array.getElem?_setIfInBounds, e, hv], hr'⟩
theorem Sim.forget {Γ : Ctx} {ρ : Name → Loc} {M : Nat → Prop} {s : AS} {a : Act} {w : World} (h : Sim Γ ρ M s a w) {s' : AS}
    (hs : ∀ t x, s'.slot t = some x → s.slot t = some x) (hh : ∀ n o, s'.heap n = some o → s.heap n = some o) (hk : ∀ n, n ∈ Γ.names → s'.heap n ≠ none) : Sim Γ ρ M s' a w := by
  have h1 : HStep ρ s.heap ρ s'.heap := fun n o hn => by
    cases hc : s'.heap n with
    | none => cases o <;> simp [stays]
    | some o' => have := hh n o' hc; rw [hn] at this; cases this; exact stays_refl _ _
  have h2 := h.update (ρ' := ρ) (M' := M) (H' := s'.heap) (w' := w) (Ext.refl _ _) (fun _ hb => hb) (fun _ hb => .inl hb) h.msize h1 hk
    (fun n hn hn' => by
      cases hc : s'.heap n with
      | none => exact absurd hc hn'
      | some o => have := hh n o hc; rw [hn] at this; simp at this)
    (fun n o hn => .inl ⟨hh n o hn, rfl, fun _ _ => rfl⟩) (fun n m o o' b g1 g2 => h.inj n m o o' b (hh _ _ g1) (hh _ _ g2))
  exact ⟨h2.n, h2.d, fun t x ht => h2.slots t x (hs t x ht), h2.objs, h2.inj, h2.own0, h2.keep, h2.ext, h2.mext, h2.msize, h2.m0, h2.ground⟩
theorem Sim.congr {Γ : Ctx} {ρ : Name → Loc} {M : Nat → Prop} {s s' : AS} {a : Act} {w : World} (h : Sim Γ ρ M s a w)
    (hs : ∀ t, s'.slot t = s.slot t) (hh : ∀ n, s'.heap n = s.heap n) : Sim Γ ρ M s' a w :=
  h.forget (fun t x ht => by rw [← hs]; exact ht) (fun n o hn => by rw [← hh]; exact hn) (fun n hn => by obtain ⟨o, h1, _⟩ := h.keep n hn; rw [hh, h1]; simp)
structure Eff where
  rd : List (Nat × AV)
  hp : List (Name × AO)
  v : AV
  upd : List (Name × AO)
  nw : List Name := []
def look {α : Type} (k : Nat) : List (Nat × α) → Option α
  | [] => none
  | (j, x) :: r => if j = k then some x else look k r
structure AS.holds (s : AS) (e : Eff) : Prop where
  rd : ∀ t x, (t, x) ∈ e.rd → s.slot t = some x
  hp : ∀ n o, (n, o) ∈ e.hp → s.heap n = some o
  nw : ∀ n, n ∈ e.nw → s.heap n = none ∧ s.free n
def AS.run (s : AS) (dst : Option Nat) (e : Eff) : AS :=
  ⟨fun t => if dst = some t then some e.v else s.slot t, fun n => match look n e.upd with | some o => some o | none => s.heap n⟩
def OpOK (P : Program) (o : Oper) (e : Eff) : Prop :=
  ∀ (Γ : Ctx) (ρ : Name → Loc) (M : Nat → Prop) (s : AS) (a : Act) (w : World) (K : Act → World → Prop) (Q : Exit → Act → World → Prop),
    Sim Γ ρ M s a w → s.holds e → (∀ d, o.dst = some d → d < Γ.n) →
    (∀ ρ' M' a' w', Sim Γ ρ' M' (s.run o.dst e) a' w' → K a' w') → o.wp P a w K Q
def StepOK (P : Program) (ops : Array Oper) (i : Nat) (dst : Option Nat) (e : Eff) : Prop :=
  ∀ (Γ : Ctx) (ρ : Name → Loc) (M : Nat → Prop) (s : AS) (a : Act) (w : World) (K : Act → World → Prop) (Q : Exit → Act → World → Prop),
    Sim Γ ρ M s a w → s.holds e → (∀ d, dst = some d → d < Γ.n) →
    (∀ ρ' M' a' w', Sim Γ ρ' M' (s.run dst e) a' w' → K a' w') → wpOp P ops Q i K a w
section
variable {P : Program} {ops : Array Oper} {i : Nat}
theorem StepOK.plain {o : Oper} {e : Eff} (hi : ops[i]? = some o) (hg : o.guard = none) (h : OpOK P o e) : StepOK P ops i o.dst e := by
  intro Γ ρ M s a w K Q hsim hh hd hK
  unfold wpOp
  simp only [hi, Region.wanted, hg, if_true]
  exact .inl (h Γ ρ M s a w K Q hsim hh hd hK)
theorem yielded_of {Γ : Ctx} {ρ : Name → Loc} {M : Nat → Prop} {s : AS} {a : Act} {w : World} (hsim : Sim Γ ρ M s a w) {j g : Nat} {oj : Oper} {b : Bool}
    (hj : ops[j]? = some oj) (hg : oj.dst = some g) (hs : s.slot g = some (.p (.v (.bool b)))) : yielded ops a.tmps j = some b := by
  obtain ⟨u, hu, hr⟩ := hsim.slots g _ hs
  simp only [AV.R, PV.R] at hr
  obtain ⟨rfl, _⟩ := hr
  simp [yielded, hj, hg, hu]
theorem StepOK.guarded {o oj : Oper} {e : Eff} {j g : Nat} {b : Bool} (hi : ops[i]? = some o) (hg : o.guard = some (j, b)) (hj : ops[j]? = some oj) (hjd : oj.dst = some g)
    (hrd : (g, AV.p (.v (.bool b))) ∈ e.rd) (h : OpOK P o e) : StepOK P ops i o.dst e := by
  intro Γ ρ M s a w K Q hsim hh hd hK
  unfold wpOp
  have := yielded_of hsim hj hjd (hh.rd _ _ hrd)
  simp only [hi, Region.wanted, hg, this, beq_self_eq_true, if_true]
  exact .inl (h Γ ρ M s a w K Q hsim hh hd hK)
theorem StepOK.skipped {o oj : Oper} {j g : Nat} {b : Bool} (hi : ops[i]? = some o) (hg : o.guard = some (j, b)) (hj : ops[j]? = some oj) (hjd : oj.dst = some g) :
    StepOK P ops i o.dst ⟨[(g, .p (.v (.bool (!b))))], [], .tup [], [], []⟩ := by
  intro Γ ρ M s a w K Q hsim hh hd hK
  unfold wpOp
  have := yielded_of hsim hj hjd (hh.rd g (.p (.v (.bool (!b)))) (by simp))
  have hne : (some (!b) == some b) = false := by cases b <;> rfl
  simp only [hi, Region.wanted, hg, this, hne, if_false, Bool.false_eq_true]
  have h1 := hsim.put (dst := o.dst) (x := .tup []) (u := undef) hd (fun _ => by simp only [AV.R, undef, AV.Ts]; exact ⟨#[], rfl, rfl⟩)
  exact hK ρ M _ w (h1.congr (fun t => rfl) (fun n => by simp [AS.run, AS.set, look]))
theorem StepOK.skipped2 {o oj : Oper} {j g : Nat} {b : Bool} (hi : ops[i]? = some o) (hg : o.guard = some (j, b)) (hj : ops[j]? = some oj) (hjd : oj.dst = some g) :
    StepOK P ops i o.dst ⟨[(g, .tup [])], [], .tup [], [], []⟩ := by
  intro Γ ρ M s a w K Q hsim hh hd hK
  unfold wpOp
  have hy : yielded ops a.tmps j = none := by
    obtain ⟨u, hu, hr⟩ := hsim.slots g _ (hh.rd g (.tup []) (by simp))
    simp only [AV.R, AV.Ts] at hr
    obtain ⟨us, rfl, _⟩ := hr
    simp [yielded, hj, hjd, hu]
  have hne : ((none : Option Bool) == some b) = false := rfl
  simp only [hi, Region.wanted, hg, hy, hne, if_false, Bool.false_eq_true]
  have h1 := hsim.put (dst := o.dst) (x := .tup []) (u := undef) hd (fun _ => by simp only [AV.R, undef, AV.Ts]; exact ⟨#[], rfl, rfl⟩)
  exact hK ρ M _ w (h1.congr (fun t => rfl) (fun n => by simp [AS.run, AS.set, look]))
end
end Go.Proofs.YtfhcigjkfelnfaaGreat.AM
/-
  The abstract machine, part C: regions. A region in the text's order; a region that draws its order, where the operations do not disturb each other. No project text.
-/
set_option linter.unusedSimpArgs false
set_option linter.unusedVariables false
namespace Go.Proofs.YtfhcigjkfelnfaaGreat.AM
open Go
def AWp (P : Program) (Γ : Ctx) (c : Code) (s : AS) (Q : Exit → AS → Prop) : Prop :=
  ∀ (ρ : Name → Loc) (M : Nat → Prop) (a : Act) (w : World), Sim Γ ρ M s a w →
    c.wp P (fun e a' w' => ∃ s' ρ' M', Q e s' ∧ Sim Γ ρ' M' s' a' w') a w
def mk (ts : List (Nat × AV)) (hs : List (Name × AO)) : AS := ⟨fun t => look t ts, fun n => look n hs⟩
abbrev Row := Option Nat × Eff
def StepsM (P : Program) (ops : Array Oper) (m : Nat) : Nat → List Row → Prop
  | i, [] => m = i
  | i, (d, e) :: r => StepOK P ops i d e ∧ StepsM P ops m (i + 1) r
def StepsOK (P : Program) (ops : Array Oper) (i : Nat) (l : List Row) : Prop := StepsM P ops ops.size i l
def keys {α : Type} (l : List (Nat × α)) : List Nat := l.map (·.1)
def freeIn (n : Name) (ts : List (Nat × AV)) (hs : List (Name × AO)) : Bool := ts.all (fun p => !p.2.has n) && hs.all (fun p => !p.2.has n)
def putT (ts : List (Nat × AV)) (d : Option Nat) (e : Eff) : List (Nat × AV) := match d with | some d => (d, e.v) :: ts | none => ts
def dstOK (n : Nat) : Option Nat → Bool
  | some d => Nat.blt d n
  | none => true
def newOK (e : Eff) (ts : List (Nat × AV)) (hs : List (Name × AO)) : Bool := e.nw.all fun n => (look n hs).isNone && freeIn n ts hs && (keys e.upd).contains n
def got (n : Nat) : List Row → List (Nat × AV) → List (Name × AO) → List (Option AV) × List (Option AO) × Bool × List (Nat × AV) × List (Name × AO)
  | [], ts, hs => ([], [], true, ts, hs)
  | (d, e) :: r, ts, hs =>
    match got n r (putT ts d e) (e.upd ++ hs) with
    | (a, b, c, ts', hs') => (e.rd.map (fun p => look p.1 ts) ++ a, e.hp.map (fun p => look p.1 hs) ++ b, dstOK n d && newOK e ts hs && c, ts', hs')
def wantS : List Row → List (Option AV)
  | [] => []
  | (_, e) :: r => e.rd.map (fun p => some p.2) ++ wantS r
def wantH : List Row → List (Option AO)
  | [] => []
  | (_, e) :: r => e.hp.map (fun p => some p.2) ++ wantH r
theorem look_append {α : Type} (k : Nat) : ∀ (l l' : List (Nat × α)), look k (l ++ l') = match look k l with | some x => some x | none => look k l'
  | [], l' => rfl
  | (j, x) :: r, l' => by
    simp only [List.cons_append, look]
    split
    · rfl
    · exact look_append k r l'
theorem look_mem {α : Type} {k : Nat} {x : α} : ∀ {l : List (Nat × α)}, look k l = some x → (k, x) ∈ l
  | [], h => by simp [look] at h
  | (j, y) :: r, h => by
    simp only [look] at h
    split at h
    · rename_i e; cases h; subst e; simp
    · exact List.mem_cons_of_mem _ (look_mem h)
theorem look_none {α : Type} {k : Nat} : ∀ {l : List (Nat × α)}, k ∉ keys l → look k l = none
  | [], _ => rfl
  | (j, y) :: r, h => by
    simp only [keys, List.map_cons, List.mem_cons, not_or] at h
    simp only [look]
    rw [if_neg (fun e => h.1 e.symm)]
    exact look_none h.2
theorem map_eq_all {α β : Type} {f g : α → β} : ∀ {l : List α}, l.map f = l.map g → ∀ x ∈ l, f x = g x
  | [], _, x, hx => by simp at hx
  | y :: r, h, x, hx => by
    simp only [List.map_cons, List.cons.injEq] at h
    rcases List.mem_cons.1 hx with rfl | hx
    · exact h.1
    · exact map_eq_all h.2 x hx
theorem free_of {n : Name} {ts : List (Nat × AV)} {hs : List (Name × AO)} (h : freeIn n ts hs = true) : (mk ts hs).free n := by
  simp only [freeIn, Bool.and_eq_true, List.all_eq_true] at h
  refine ⟨fun t x ht => ?_, fun m o hm => ?_⟩
  · have := h.1 _ (look_mem ht); simpa using this
  · have := h.2 _ (look_mem hm); simpa using this
theorem mk_run (ts : List (Nat × AV)) (hs : List (Name × AO)) (d : Option Nat) (e : Eff) : (mk ts hs).run d e = mk (putT ts d e) (e.upd ++ hs) := by
  unfold AS.run mk
  congr 1
  · funext t
    cases d with
    | none => simp [putT]
    | some d => simp [putT, look]
  · funext n
    rw [look_append]
    split <;> simp [*]
theorem append_split {α : Type} {a a' b b' : List α} (h : a ++ b = a' ++ b') (hl : a.length = a'.length) : a = a' ∧ b = b' :=
  List.append_inj h hl
theorem got_len (n : Nat) : ∀ (L : List Row) (ts : List (Nat × AV)) (hs : List (Name × AO)), (got n L ts hs).1.length = (wantS L).length ∧ (got n L ts hs).2.1.length = (wantH L).length
  | [], ts, hs => by simp [got, wantS, wantH]
  | (d, e) :: r, ts, hs => by
    obtain ⟨h1, h2⟩ := got_len n r (putT ts d e) (e.upd ++ hs)
    simp only [got, wantS, wantH, List.length_append, List.length_map]
    exact ⟨by rw [h1], by rw [h2]⟩
def RD (E : Nat → Row) (D : Nat → Bool) (s : AS) : Nat → AS
  | 0 => s
  | k + 1 => if D k then (RD E D s k).run (E k).1 (E k).2 else RD E D s k
theorem run_slot (s : AS) (r : Row) (t : Nat) : (s.run r.1 r.2).slot t = if r.1 = some t then some r.2.v else s.slot t := rfl
theorem run_heap (s : AS) (r : Row) (n : Nat) : (s.run r.1 r.2).heap n = match look n r.2.upd with | some o => some o | none => s.heap n := rfl
theorem RD_slot_same {E : Nat → Row} {D D' : Nat → Bool} {s : AS} {t : Nat} : ∀ (k : Nat), (∀ j, j < k → (E j).1 = some t → D j = D' j) → (RD E D s k).slot t = (RD E D' s k).slot t
  | 0, _ => rfl
  | k + 1, h => by
    have ih := RD_slot_same (s := s) k (fun j hj => h j (by omega))
    have hk := h k (by omega)
    simp only [RD]
    by_cases ht : (E k).1 = some t
    · rw [hk ht]; split
      · rw [run_slot, run_slot, if_pos ht, if_pos ht]
      · exact ih
    · have e1 : ∀ b : Bool, ∀ x : AS, (if b then x.run (E k).1 (E k).2 else x).slot t = x.slot t := by
        intro b x; split <;> simp [run_slot, ht]
      rw [e1, e1, ih]
theorem RD_heap_same {E : Nat → Row} {D D' : Nat → Bool} {s : AS} {m : Nat} : ∀ (k : Nat), (∀ j, j < k → look m (E j).2.upd ≠ none → D j = D' j) → (RD E D s k).heap m = (RD E D' s k).heap m
  | 0, _ => rfl
  | k + 1, h => by
    have ih := RD_heap_same (s := s) k (fun j hj => h j (by omega))
    have hk := h k (by omega)
    simp only [RD]
    by_cases ht : look m (E k).2.upd = none
    · have e1 : ∀ b : Bool, ∀ x : AS, (if b then x.run (E k).1 (E k).2 else x).heap m = x.heap m := by
        intro b x; split <;> simp [run_heap, ht]
      rw [e1, e1, ih]
    · rw [hk ht]; split
      · cases hl : look m (E k).2.upd with
        | none => exact absurd hl ht
        | some o => simp [run_heap, hl]
      · exact ih
theorem RD_slot_cut {E : Nat → Row} {D : Nat → Bool} {s : AS} {t i : Nat} : ∀ (k : Nat), i ≤ k → (∀ j, i ≤ j → j < k → (E j).1 = some t → D j = false) → (RD E D s k).slot t = (RD E D s i).slot t
  | 0, hk, _ => by have : i = 0 := by omega
                   subst this; rfl
  | k + 1, hk, h => by
    by_cases e : i = k + 1
    · subst e; rfl
    · have ih := RD_slot_cut (s := s) (D := D) k (by omega) (fun j hj hj' => h j hj (by omega))
      simp only [RD]
      by_cases ht : (E k).1 = some t
      · rw [h k (by omega) (by omega) ht]; simpa using ih
      · split
        · rw [run_slot, if_neg ht]; exact ih
        · exact ih
theorem RD_heap_cut {E : Nat → Row} {D : Nat → Bool} {s : AS} {m i : Nat} : ∀ (k : Nat), i ≤ k → (∀ j, i ≤ j → j < k → look m (E j).2.upd ≠ none → D j = false) → (RD E D s k).heap m = (RD E D s i).heap m
  | 0, hk, _ => by have : i = 0 := by omega
                   subst this; rfl
  | k + 1, hk, h => by
    by_cases e : i = k + 1
    · subst e; rfl
    · have ih := RD_heap_cut (s := s) (D := D) k (by omega) (fun j hj hj' => h j hj (by omega))
      simp only [RD]
      by_cases ht : look m (E k).2.upd = none
      · split
        · rw [run_heap, ht]; exact ih
        · exact ih
      · rw [h k (by omega) (by omega) ht]; simpa using ih
theorem RD_slot_from {E : Nat → Row} {D : Nat → Bool} {s : AS} {t : Nat} {x : AV} : ∀ (k : Nat), (RD E D s k).slot t = some x → s.slot t = some x ∨ ∃ j, j < k ∧ D j = true ∧ x = (E j).2.v
  | 0, h => .inl h
  | k + 1, h => by
    simp only [RD] at h
    by_cases hd : D k = true
    · simp only [hd, if_true, run_slot] at h
      split at h
      · cases h; exact .inr ⟨k, by omega, hd, rfl⟩
      · rcases RD_slot_from k h with h' | ⟨j, h1, h2⟩
        · exact .inl h'
        · exact .inr ⟨j, by omega, h2⟩
    · simp only [hd, if_false, Bool.false_eq_true] at h
      rcases RD_slot_from k h with h' | ⟨j, h1, h2⟩
      · exact .inl h'
      · exact .inr ⟨j, by omega, h2⟩
theorem RD_heap_from {E : Nat → Row} {D : Nat → Bool} {s : AS} {m : Nat} {o : AO} : ∀ (k : Nat), (RD E D s k).heap m = some o → s.heap m = some o ∨ ∃ j, j < k ∧ D j = true ∧ look m (E j).2.upd = some o
  | 0, h => .inl h
  | k + 1, h => by
    simp only [RD] at h
    by_cases hd : D k = true
    · simp only [hd, if_true, run_heap] at h
      split at h
      · rename_i o' ho'; cases h; exact .inr ⟨k, by omega, hd, ho'⟩
      · rcases RD_heap_from k h with h' | ⟨j, h1, h2⟩
        · exact .inl h'
        · exact .inr ⟨j, by omega, h2⟩
    · simp only [hd, if_false, Bool.false_eq_true] at h
      rcases RD_heap_from k h with h' | ⟨j, h1, h2⟩
      · exact .inl h'
      · exact .inr ⟨j, by omega, h2⟩
def Eff.has (n : Name) (e : Eff) : Bool := e.v.has n || e.upd.any fun p => p.2.has n
structure Apart (x y : Row) : Prop where
  d1 : ∀ t, x.1 = some t → t ∉ keys y.2.rd
  d2 : ∀ t, y.1 = some t → t ∉ keys x.2.rd
  dd : ∀ t, x.1 = some t → y.1 ≠ some t
  h1 : ∀ n, n ∈ keys x.2.upd → n ∉ keys y.2.hp
  h2 : ∀ n, n ∈ keys y.2.upd → n ∉ keys x.2.hp
  hh : ∀ n, n ∈ keys x.2.upd → n ∉ keys y.2.upd
  c1 : ∀ n, n ∈ x.2.nw → y.2.has n = false
def apartB (x y : Row) : Bool :=
  (match x.1 with | some t => !(keys y.2.rd).contains t | none => true) && (match y.1 with | some t => !(keys x.2.rd).contains t | none => true) &&
  (match x.1, y.1 with | some t, some u => !(Nat.beq t u) | _, _ => true) &&
  (keys x.2.upd).all (fun n => !(keys y.2.hp).contains n && !(keys y.2.upd).contains n) && x.2.nw.all (fun n => !y.2.has n) &&
  (keys y.2.upd).all (fun n => !(keys x.2.hp).contains n)
theorem apart_of {x y : Row} (h : apartB x y = true) : Apart x y := by
  unfold apartB at h
  simp only [Bool.and_eq_true, List.all_eq_true, Bool.not_eq_true', List.contains_eq_mem, decide_eq_false_iff_not] at h
  obtain ⟨⟨⟨⟨⟨g1, g2⟩, g3⟩, g4⟩, g6⟩, g5⟩ := h
  refine ⟨fun t ht => ?_, fun t ht => ?_, fun t ht ht' => ?_, fun n hn => (g4 n hn).1, fun n hn => g5 n hn, fun n hn => (g4 n hn).2, fun n hn => g6 n hn⟩
  · simp only [ht] at g1; simpa using g1
  · simp only [ht] at g2; simpa using g2
  · simp only [ht, ht'] at g3
    have : Nat.beq t t = true := Nat.beq_refl t
    simp [this] at g3
def maskOf (o : Oper) (prev : List Nat) : Nat :=
  o.after.toList.foldl (fun s e => if Region.binds .any e then s ||| 2 ^ e.on ||| prev.getD e.on 0 else s) 0
def masks : List Oper → List Nat → List Nat
  | [], acc => acc
  | o :: r, acc => masks r (acc ++ [maskOf o acc])
theorem maskOf_sound {D : Nat → Bool} {prev : List Nat} (hp : ∀ i j, D i = true → (prev.getD i 0).testBit j = true → D j = true) :
    ∀ (l : List Edge) (s : Nat), (∀ e ∈ l, Region.binds .any e = true → D e.on = true) → (∀ j, s.testBit j = true → D j = true) →
    ∀ j, (l.foldl (fun s e => if Region.binds .any e then s ||| 2 ^ e.on ||| prev.getD e.on 0 else s) s).testBit j = true → D j = true
  | [], s, _, hs, j, hj => hs j hj
  | e :: l, s, hl, hs, j, hj => by
    simp only [List.foldl_cons] at hj
    refine maskOf_sound hp l _ (fun e' he' => hl e' (List.mem_cons_of_mem _ he')) (fun k hk => ?_) j hj
    split at hk
    · rename_i hb
      have hD := hl e (by simp) hb
      simp only [Nat.testBit_or, Bool.or_eq_true, Nat.testBit_two_pow, decide_eq_true_eq] at hk
      rcases hk with (h1 | h1) | h1
      · exact hs k h1
      · rw [← h1]; exact hD
      · exact hp e.on k hD h1
    · exact hs k hk
theorem masks_sound {D : Nat → Bool} : ∀ (l : List Oper) (acc : List Nat),
    (∀ i o, l[i]? = some o → D (acc.length + i) = true → ∀ e ∈ o.after.toList, Region.binds .any e = true → D e.on = true) →
    (∀ i j, D i = true → (acc.getD i 0).testBit j = true → D j = true) →
    ∀ i j, D i = true → ((masks l acc).getD i 0).testBit j = true → D j = true
  | [], acc, _, hacc => hacc
  | o :: r, acc, hl, hacc => by
    simp only [masks]
    refine masks_sound r _ (fun i o' ho' hD => ?_) (fun i j hD hj => ?_)
    · refine hl (i + 1) o' (by simpa using ho') ?_
      rw [List.length_append, List.length_singleton] at hD
      rwa [show acc.length + (i + 1) = acc.length + 1 + i by omega]
    · rcases Nat.lt_trichotomy i acc.length with h1 | h1 | h1
      · rw [List.getD_eq_getElem?_getD, List.getElem?_append_left h1, ← List.getD_eq_getElem?_getD] at hj
        exact hacc i j hD hj
      · subst h1
        simp only [List.getD_eq_getElem?_getD, List.getElem?_append_right (Nat.le_refl _), Nat.sub_self, List.getElem?_cons_zero, Option.getD_some] at hj
        have h0 := hl 0 o (by simp)
        simp only [Nat.add_zero] at h0
        exact maskOf_sound hacc _ 0 (h0 hD) (fun j hj => by simp at hj) j hj
      · simp only [List.getD_eq_getElem?_getD] at hj
        rw [List.getElem?_eq_none (by simp; omega)] at hj
        simp at hj
end Go.Proofs.YtfhcigjkfelnfaaGreat.AM
/-
  The abstract machine, part D: a region that draws its order. No project text.
-/
set_option linter.unusedSimpArgs false
set_option linter.unusedVariables false
namespace Go.Proofs.YtfhcigjkfelnfaaGreat.AM
open Go
def noRow : Row := (none, ⟨[], [], .any, [], []⟩)
def innerOK (i : Nat) (x : Row) : Nat → List (Row × Nat) → Bool
  | _, [] => true
  | j, (y, m) :: r => (m.testBit i || apartB x y) && innerOK i x (j + 1) r
def pairsOK : Nat → List (Row × Nat) → Bool
  | _, [] => true
  | i, (x, _) :: r => innerOK i x (i + 1) r && pairsOK (i + 1) r
def newsOK (ts : List (Nat × AV)) (hs : List (Name × AO)) : List Row → List Row → Bool
  | [], _ => true
  | y :: r, past => y.2.nw.all (fun n => past.all (fun x => !x.2.has n) && freeIn n ts hs && (keys y.2.upd).contains n) && newsOK ts hs r (past ++ [y])
def edgesOK : Nat → List Oper → Bool
  | _, [] => true
  | i, o :: r => o.after.toList.all (fun e => !Region.binds .any e || Nat.blt e.on i) && edgesOK (i + 1) r
def indep (ops : Array Oper) (L : List Row) (ts : List (Nat × AV)) (hs : List (Name × AO)) : Bool :=
  edgesOK 0 ops.toList && pairsOK 0 (L.zip (masks ops.toList [])) && newsOK ts hs L []
theorem innerOK_get {i : Nat} {x : Row} : ∀ {j : Nat} {l : List (Row × Nat)}, innerOK i x j l = true → ∀ (k : Nat) (y : Row) (m : Nat), l[k]? = some (y, m) → m.testBit i = true ∨ Apart x y
  | _, [], _, k, y, m, hk => by simp at hk
  | j, (y0, m0) :: r, h, k, y, m, hk => by
    simp only [innerOK, Bool.and_eq_true, Bool.or_eq_true] at h
    cases k with
    | zero => simp at hk; obtain ⟨rfl, rfl⟩ := hk; exact h.1.imp id apart_of
    | succ k => exact innerOK_get h.2 k y m (by simpa using hk)
theorem pairsOK_get : ∀ {i0 : Nat} {l : List (Row × Nat)}, pairsOK i0 l = true → ∀ (i j : Nat) (x : Row) (mx : Nat) (y : Row) (m : Nat), i < j → l[i]? = some (x, mx) → l[j]? = some (y, m) → m.testBit (i0 + i) = true ∨ Apart x y
  | _, [], _, i, j, x, mx, y, m, _, hi, _ => by simp at hi
  | i0, (x0, m0) :: r, h, i, j, x, mx, y, m, hij, hi, hj => by
    simp only [pairsOK, Bool.and_eq_true] at h
    cases j with
    | zero => omega
    | succ j =>
      cases i with
      | zero =>
        simp at hi; obtain ⟨rfl, rfl⟩ := hi
        exact innerOK_get h.1 j y m (by simpa using hj)
      | succ i =>
        have := pairsOK_get h.2 i j x mx y m (by omega) (by simpa using hi) (by simpa using hj)
        rwa [show i0 + (i + 1) = i0 + 1 + i by omega]
theorem newsOK_get {ts : List (Nat × AV)} {hs : List (Name × AO)} : ∀ {L past : List Row}, newsOK ts hs L past = true → ∀ i y, L[i]? = some y → ∀ n ∈ y.2.nw,
    (∀ x ∈ past ++ L.take i, x.2.has n = false) ∧ freeIn n ts hs = true ∧ n ∈ keys y.2.upd
  | [], _, _, i, y, hi, _, _ => by simp at hi
  | y0 :: r, past, h, i, y, hi, n, hn => by
    simp only [newsOK, Bool.and_eq_true, List.all_eq_true] at h
    cases i with
    | zero =>
      simp at hi; subst hi
      have := h.1 n hn
      simp only [Bool.and_eq_true, List.all_eq_true, List.contains_eq_mem, decide_eq_true_eq, Bool.not_eq_true'] at this
      simp only [List.take_zero, List.append_nil]
      exact ⟨this.1.1, this.1.2, this.2⟩
    | succ i =>
      have := newsOK_get h.2 i y (by simpa using hi) n hn
      simpa [List.append_assoc] using this
theorem edgesOK_get : ∀ {i0 : Nat} {l : List Oper}, edgesOK i0 l = true → ∀ i o, l[i]? = some o → ∀ e ∈ o.after.toList, Region.binds .any e = true → e.on < i0 + i
  | _, [], _, i, o, hi, _, _, _ => by simp at hi
  | i0, o0 :: r, h, i, o, hi, e, he, hb => by
    simp only [edgesOK, Bool.and_eq_true, List.all_eq_true] at h
    cases i with
    | zero =>
      simp at hi; subst hi
      have := h.1 e he
      simp only [hb, Bool.not_true, Bool.false_or] at this
      have h2 : e.on < i0 := Nat.le_of_ble_eq_true this
      omega
    | succ i =>
      have := edgesOK_get h.2 i o (by simpa using hi) e he hb
      omega
theorem stepsM_get {P : Program} {ops : Array Oper} {m : Nat} : ∀ {i0 : Nat} {L : List Row}, StepsM P ops m i0 L → (∀ i y, L[i]? = some y → StepOK P ops (i0 + i) y.1 y.2) ∧ m = i0 + L.length
  | i0, [], h => by simp only [StepsM] at h; exact ⟨fun i y hi => by simp at hi, by simp [h]⟩
  | i0, (d, e) :: r, h => by
    simp only [StepsM] at h
    obtain ⟨g1, g2⟩ := stepsM_get h.2
    refine ⟨fun i y hi => ?_, by simp; omega⟩
    cases i with
    | zero => simp at hi; subst hi; simpa using h.1
    | succ i => have := g1 i y (by simpa using hi); rwa [show i0 + (i + 1) = i0 + 1 + i by omega]
def rowAt (L : List Row) (i : Nat) : Row := L.getD i noRow
def allRun (L : List Row) (s : AS) : AS := L.foldl (fun s r => s.run r.1 r.2) s
theorem got_get {n : Nat} : ∀ {L : List Row} {ts : List (Nat × AV)} {hs : List (Name × AO)}, (got n L ts hs).1 = wantS L → (got n L ts hs).2.1 = wantH L → (got n L ts hs).2.2.1 = true →
    (∀ i y, L[i]? = some y → (∀ t x, (t, x) ∈ y.2.rd → (allRun (L.take i) (mk ts hs)).slot t = some x) ∧ (∀ m o, (m, o) ∈ y.2.hp → (allRun (L.take i) (mk ts hs)).heap m = some o) ∧ (∀ d, y.1 = some d → d < n) ∧ ∀ m, m ∈ y.2.nw → (allRun (L.take i) (mk ts hs)).heap m = none) ∧
    allRun L (mk ts hs) = mk (got n L ts hs).2.2.2.1 (got n L ts hs).2.2.2.2
  | [], ts, hs, _, _, _ => ⟨fun i y hi => by simp at hi, rfl⟩
  | (d, e) :: r, ts, hs, h1, h2, h3 => by
    have hl := got_len n r (putT ts d e) (e.upd ++ hs)
    simp only [got, wantS, wantH] at h1 h2 h3 ⊢
    obtain ⟨h1a, h1b⟩ := append_split h1 (by simp)
    obtain ⟨h2a, h2b⟩ := append_split h2 (by simp)
    simp only [Bool.and_eq_true] at h3
    obtain ⟨g1, g2⟩ := got_get h1b h2b h3.2
    refine ⟨fun i y hi => ?_, ?_⟩
    · cases i with
      | zero =>
        simp at hi; subst hi
        simp only [List.take_zero, allRun, List.foldl_nil]
        refine ⟨fun t x hx => map_eq_all h1a _ hx, fun m o hm => map_eq_all h2a _ hm, fun d' hd' => ?_, fun m hm => ?_⟩
        · have h4 := h3.1.1
          rw [show d = some d' from hd'] at h4
          exact Nat.le_of_ble_eq_true h4
        · have h4 := h3.1.2
          simp only [newOK, List.all_eq_true, Bool.and_eq_true, Option.isNone_iff_eq_none] at h4
          exact (h4 m hm).1.1
      | succ i =>
        have := g1 i y (by simpa using hi)
        simp only [List.take_succ_cons, allRun, List.foldl_cons, mk_run] at this ⊢
        exact this
    · simp only [allRun, List.foldl_cons, mk_run] at g2 ⊢
      exact g2
theorem RD_all {L : List Row} {s : AS} : ∀ (k : Nat), k ≤ L.length → RD (rowAt L) (fun _ => true) s k = allRun (L.take k) s
  | 0, _ => by simp [RD, allRun]
  | k + 1, hk => by
    have ih := RD_all (L := L) (s := s) k (by omega)
    have hlt : k < L.length := by omega
    simp only [RD, if_true, ih]
    rw [List.take_succ_eq_append_getElem hlt]
    have e : rowAt L k = L[k] := by rw [rowAt, List.getD_eq_getElem?_getD, List.getElem?_eq_getElem hlt]; rfl
    rw [e]
    simp only [allRun, List.foldl_append, List.foldl_cons, List.foldl_nil]
def cnt (f : Nat → Bool) : Nat → Nat
  | 0 => 0
  | k + 1 => (if f k then 1 else 0) + cnt f k
theorem cnt_le {f g : Nat → Bool} (h : ∀ i, g i = true → f i = true) : ∀ k, cnt g k ≤ cnt f k
  | 0 => Nat.le_refl _
  | k + 1 => by
    have := cnt_le h k
    simp only [cnt]
    have h2 := h k
    cases hg : g k <;> cases hf : f k <;> simp_all <;> omega
theorem cnt_lt {f g : Nat → Bool} (h : ∀ i, g i = true → f i = true) {i : Nat} (hf : f i = true) (hg : g i = false) : ∀ k, i < k → cnt g k < cnt f k
  | 0, hk => by omega
  | k + 1, hk => by
    simp only [cnt]
    have h1 := cnt_le h k
    by_cases e : i = k
    · subst e; simp [hf, hg]; omega
    · have := cnt_lt h hf hg k (by omega)
      have h2 := h k
      cases hg' : g k <;> cases hf' : f k <;> simp_all <;> omega
theorem cnt_zero {f : Nat → Bool} : ∀ k, cnt f k = 0 → ∀ i, i < k → f i = false
  | 0, _, i, hi => by omega
  | k + 1, h, i, hi => by
    simp only [cnt] at h
    by_cases e : i = k
    · subst e; cases hf : f i <;> simp_all
    · exact cnt_zero k (by omega) i (by omega)
section
variable {P : Program} {ops : Array Oper} {Γ : Ctx} {n : Nat} {L : List Row} {ts : List (Nat × AV)} {hs : List (Name × AO)}
theorem keys_of_mem {α : Type} {l : List (Nat × α)} {k : Nat} {x : α} (h : (k, x) ∈ l) : k ∈ keys l := List.mem_map.2 ⟨_, h, rfl⟩
theorem keys_of_look {α : Type} {l : List (Nat × α)} {k : Nat} (h : look k l ≠ none) : k ∈ keys l := by
  rcases Classical.em (k ∈ keys l) with h' | h'
  · exact h'
  · exact absurd (look_none h') h
theorem zip_get {α β : Type} {l : List α} {l' : List β} {i : Nat} {x : α} {y : β} (h : l[i]? = some x) (h' : l'[i]? = some y) : (l.zip l')[i]? = some (x, y) := by
  rw [List.getElem?_zip_eq_some]; exact ⟨h, h'⟩
theorem masks_len : ∀ (l : List Oper) (acc : List Nat), (masks l acc).length = acc.length + l.length
  | [], acc => by simp [masks]
  | o :: r, acc => by simp only [masks]; rw [masks_len r]; simp; omega
theorem ready_none {listed : Array Bool} (hls : listed.size = ops.size) (hall : ∀ i, i < ops.size → listed.getD i false = true) : Region.ready .any ops listed = [] := by
  unfold Region.ready
  rw [List.filter_eq_nil_iff]
  intro i hi
  have hi' := List.mem_range.1 hi
  have h5 := hall i hi'
  have : listed.getD i true = true := by
    have hi2 : i < listed.size := by omega
    simp [Array.getD, hi2] at h5 ⊢
    exact h5
  simp [this]
theorem wpAny_all {Q : Exit → Act → World → Prop} {listed : Array Bool} {a : Act} {w : World} (hls : listed.size = ops.size) (hall : ∀ i, i < ops.size → listed.getD i false = true) (hq : Q .normal a w) : ∀ fuel, wpAny P .any ops Q fuel listed a w
  | 0 => ⟨ready_none hls hall, hq⟩
  | fuel + 1 => ⟨fun _ => hq, fun i hi => by rw [ready_none hls hall] at hi; simp at hi⟩
theorem any_orderX (c : Bool) (hn : Γ.n = n) {Q : Exit → Act → World → Prop} (hsteps : ∀ i y, L[i]? = some y → (c = true → i + 1 < L.length) → StepOK P ops i y.1 y.2) (hsize : ops.size = L.length) (h1 : (got n L ts hs).1 = wantS L) (h2 : (got n L ts hs).2.1 = wantH L) (h3 : (got n L ts hs).2.2.1 = true)
    (hind : indep ops L ts hs = true)
    (hlast : c = true → 0 < L.length ∧ L[L.length - 1]? = some noRow ∧ (∀ j, j < L.length - 1 → ((masks ops.toList []).getD (L.length - 1) 0).testBit j = true) ∧
      ∀ ρ M a w K, Sim Γ ρ M (mk (got n L ts hs).2.2.2.1 (got n L ts hs).2.2.2.2) a w → (∀ a' w', Q .normal a' w' → K a' w') → wpOp P ops Q (L.length - 1) K a w)
    (hQ : c = false → ∀ ρ' M' a' w', Sim Γ ρ' M' (mk (got n L ts hs).2.2.2.1 (got n L ts hs).2.2.2.2) a' w' → Q .normal a' w') :
    ∀ (fuel : Nat) (listed : Array Bool) (a : Act) (w : World) (ρ : Name → Loc) (M : Nat → Prop), listed.size = ops.size → (c = true → listed.getD (L.length - 1) false = false) →
      (∀ i o, ops[i]? = some o → listed.getD i false = true → ∀ e ∈ o.after.toList, Region.binds .any e = true → listed.getD e.on false = true) →
      cnt (fun i => !listed.getD i false) ops.size ≤ fuel →
      Sim Γ ρ M (RD (rowAt L) (fun i => listed.getD i false) (mk ts hs) L.length) a w → wpAny P .any ops Q fuel listed a w := by
  obtain ⟨hgot, hend⟩ := got_get h1 h2 h3
  simp only [indep, Bool.and_eq_true] at hind
  obtain ⟨⟨hedge, hpair⟩, hnews⟩ := hind
  have hedge' := fun i o (hi : ops[i]? = some o) => by simpa using edgesOK_get hedge i o (by simpa using hi)
  have hallL : RD (rowAt L) (fun _ => true) (mk ts hs) L.length = allRun L (mk ts hs) := by
    rw [RD_all (L := L) (s := mk ts hs) L.length (Nat.le_refl _), List.take_length]
  have hfin : ∀ (listed : Array Bool) a w ρ M, (∀ i, i < ops.size → listed.getD i false = true) → (c = true → listed.getD (L.length - 1) false = false) →
      Sim Γ ρ M (RD (rowAt L) (fun i => listed.getD i false) (mk ts hs) L.length) a w → Q .normal a w := by
    intro listed a w ρ M hall hlst hsim
    cases c with
    | true =>
      obtain ⟨g1, _⟩ := hlast rfl
      rw [hall (L.length - 1) (by omega)] at hlst
      exact absurd (hlst rfl) (by simp)
    | false =>
    refine hQ rfl ρ M a w (hsim.congr (fun t => ?_) (fun m => ?_))
    · rw [← hend, ← hallL]
      exact RD_slot_same _ (fun j hj _ => by rw [hall j (by omega)])
    · rw [← hend, ← hallL]
      exact RD_heap_same _ (fun j hj _ => by rw [hall j (by omega)])
  have hnone : ∀ listed : Array Bool, listed.size = ops.size → Region.ready .any ops listed = [] → ∀ i, i < ops.size → listed.getD i false = true := by
    intro listed hls hr i
    induction i using Nat.strongRecOn with
    | _ i ih =>
      intro hi
      cases hl : listed.getD i false with
      | true => rfl
      | false =>
        exfalso
        have hmem : i ∈ Region.ready .any ops listed := by
          unfold Region.ready
          simp only [List.mem_filter, List.mem_range]
          refine ⟨hi, ?_⟩
          have hl2 : listed.getD i true = false := by
            have hi' : i < listed.size := by omega
            simp [Array.getD, hi'] at hl ⊢
            exact hl
          rw [hl2]
          simp only [Bool.not_false, Bool.true_and, Array.getElem?_eq_getElem hi, Option.map_some, Option.getD_some]
          rw [Array.all_eq_true']
          intro e he
          cases hb : Region.binds .any e with
          | false => simp
          | true =>
            have := hedge' i ops[i] (Array.getElem?_eq_getElem hi) e he hb
            simp only [Bool.not_true, Bool.false_or]
            exact ih e.on this (by omega)
        rw [hr] at hmem
        simp at hmem
  intro fuel
  induction fuel with
  | zero =>
    intro listed a w ρ M hls hlst hdown hcnt hsim
    have hall : ∀ i, i < ops.size → listed.getD i false = true := fun i hi => by
      have := cnt_zero _ (Nat.le_zero.1 hcnt) i hi
      simpa using this
    refine ⟨?_, hfin listed a w ρ M hall hlst hsim⟩
    unfold Region.ready
    rw [List.filter_eq_nil_iff]
    intro i hi
    have hi' := List.mem_range.1 hi
    have h5 := hall i hi'
    have : listed.getD i true = true := by
      have hi2 : i < listed.size := by omega
      simp [Array.getD, hi2] at h5 ⊢
      exact h5
    simp [this]
  | succ fuel ih =>
    intro listed a w ρ M hls hlst hdown hcnt hsim
    refine ⟨fun hr => hfin listed a w ρ M (hnone listed hls hr) hlst hsim, fun i hi => ?_⟩
    unfold Region.ready at hi
    simp only [List.mem_filter, List.mem_range] at hi
    obtain ⟨hilt, hi2⟩ := hi
    have hio := Array.getElem?_eq_getElem hilt
    simp only [Bool.and_eq_true, Bool.not_eq_true', hio, Option.map_some, Option.getD_some] at hi2
    obtain ⟨hl1, hready⟩ := hi2
    have hnl : listed.getD i false = false := by
      have hi' : i < listed.size := by omega
      simp [Array.getD, hi'] at hl1 ⊢
      exact hl1
    rw [Array.all_eq_true'] at hready
    have hiL : i < L.length := by omega
    have hLi : L[i]? = some (rowAt L i) := by rw [rowAt, List.getD_eq_getElem?_getD, List.getElem?_eq_getElem hiL]; rfl
    have hLj : ∀ j, j < L.length → L[j]? = some (rowAt L j) := fun j hj => by rw [rowAt, List.getD_eq_getElem?_getD, List.getElem?_eq_getElem hj]; rfl
    let D' : Nat → Bool := fun j => listed.getD j false || decide (j = i)
    have hmask : ∀ k j, D' k = true → ((masks ops.toList []).getD k 0).testBit j = true → D' j = true := by
      refine masks_sound ops.toList [] (fun k o ho hD e he hb => ?_) (fun k j _ hj => by simp at hj)
      simp only [List.length_nil, Nat.zero_add] at hD
      have ho' : ops[k]? = some o := by simpa using ho
      by_cases e' : k = i
      · subst e'
        rw [hio] at ho'; cases ho'
        have := hready e (by simpa using he)
        simp only [hb, Bool.not_true, Bool.false_or] at this
        show (listed.getD e.on false || decide (e.on = _)) = true
        rw [this]; rfl
      · have : listed.getD k false = true := by simpa [D', e'] using hD
        show (listed.getD e.on false || decide (e.on = i)) = true
        rw [hdown k o ho' this e he hb]; rfl
    have hmask0 : ∀ k j, listed.getD k false = true → ((masks ops.toList []).getD k 0).testBit j = true → listed.getD j false = true := by
      refine masks_sound ops.toList [] (fun k o ho hD e he hb => ?_) (fun k j _ hj => by simp at hj)
      simp only [List.length_nil, Nat.zero_add] at hD
      exact hdown k o (by simpa using ho) hD e he hb
    have hord : ∀ j, j < L.length → j ≠ i → (j < i ∧ listed.getD j false = true) ∨ (i < j ∧ listed.getD j false = false) ∨ (Apart (rowAt L i) (rowAt L j) ∧ i < j) ∨ (Apart (rowAt L j) (rowAt L i) ∧ j < i) := by
      intro j hj hji
      have hm : ∀ k, k < L.length → (masks ops.toList [])[k]? = some ((masks ops.toList []).getD k 0) := fun k hk => by
        have : k < (masks ops.toList []).length := by rw [masks_len]; simp; omega
        rw [List.getD_eq_getElem?_getD, List.getElem?_eq_getElem this]; rfl
      rcases Nat.lt_or_gt_of_ne hji with hlt | hgt
      · rcases pairsOK_get hpair j i _ _ _ _ hlt (zip_get (hLj j hj) (hm j hj)) (zip_get hLi (hm i hiL)) with hb | hb
        · have := hmask i j (by simp [D']) (by simpa using hb)
          simp only [D', hji, decide_false, Bool.or_false] at this
          exact .inl ⟨hlt, this⟩
        · exact .inr (.inr (.inr ⟨hb, hlt⟩))
      · rcases pairsOK_get hpair i j _ _ _ _ hgt (zip_get hLi (hm i hiL)) (zip_get (hLj j hj) (hm j hj)) with hb | hb
        · refine .inr (.inl ⟨hgt, ?_⟩)
          cases hlj : listed.getD j false with
          | false => rfl
          | true =>
            have := hmask0 j i hlj (by simpa using hb)
            rw [hnl] at this; simp at this
        · exact .inr (.inr (.inl ⟨hb, hgt⟩))
    obtain ⟨hrd, hhp, hdst, hnw⟩ := hgot i _ hLi
    have hRDi := RD_all (L := L) (s := mk ts hs) i (by omega)
    have hholds : (RD (rowAt L) (fun i => listed.getD i false) (mk ts hs) L.length).holds (rowAt L i).2 := by
      refine ⟨fun t x hx => ?_, fun m o hm => ?_, fun m hm => ?_⟩
      · have hk := keys_of_mem hx
        rw [RD_slot_cut (i := i) L.length (by omega) (fun j hj1 hj2 hw => ?_), RD_slot_same (D' := fun _ => true) i (fun j hj hw => ?_), hRDi]
        · exact hrd t x hx
        · rcases hord j (by omega) (by omega) with h | h | h | h
          · exact h.2
          · omega
          · omega
          · exact absurd hk (h.1.d1 t hw)
        · by_cases e : j = i
          · subst e; exact hnl
          · rcases hord j hj2 e with h | h | h | h
            · omega
            · exact h.2
            · exact absurd hk (h.1.d2 t hw)
            · omega
      · have hk := keys_of_mem hm
        rw [RD_heap_cut (i := i) L.length (by omega) (fun j hj1 hj2 hw => ?_), RD_heap_same (D' := fun _ => true) i (fun j hj hw => ?_), hRDi]
        · exact hhp m o hm
        · rcases hord j (by omega) (by omega) with h | h | h | h
          · exact h.2
          · omega
          · omega
          · exact absurd hk (h.1.h1 m (keys_of_look hw))
        · by_cases e : j = i
          · subst e; exact hnl
          · rcases hord j hj2 e with h | h | h | h
            · omega
            · exact h.2
            · exact absurd hk (h.1.h2 m (keys_of_look hw))
            · omega
      · obtain ⟨hpast, hfree, hk⟩ := newsOK_get hnews i _ hLi m hm
        refine ⟨?_, ?_⟩
        · rw [RD_heap_cut (i := i) L.length (by omega) (fun j hj1 hj2 hw => ?_), RD_heap_same (D' := fun _ => true) i (fun j hj hw => ?_), hRDi]
          · exact hnw m hm
          · rcases hord j (by omega) (by omega) with h | h | h | h
            · exact h.2
            · omega
            · omega
            · exact absurd hk (h.1.hh m (keys_of_look hw))
          · by_cases e : j = i
            · subst e; exact hnl
            · rcases hord j hj2 e with h | h | h | h
              · omega
              · exact h.2
              · exact absurd (keys_of_look hw) (h.1.hh m hk)
              · omega
        · skip
          have hf := free_of hfree
          have hE : ∀ j, j < L.length → listed.getD j false = true → (rowAt L j).2.has m = false := by
            intro j hj hlj
            have hji : j ≠ i := fun e => by subst e; rw [hnl] at hlj; simp at hlj
            rcases Nat.lt_or_gt_of_ne hji with hlt | hgt
            · refine hpast _ ?_
              simp only [List.nil_append]
              refine List.mem_iff_getElem.2 ⟨j, by simp; omega, ?_⟩
              rw [List.getElem_take, rowAt, List.getD_eq_getElem?_getD, List.getElem?_eq_getElem (by omega)]; rfl
            · rcases hord j hj hji with h | h | h | h
              · omega
              · rw [h.2] at hlj; simp at hlj
              · exact h.1.c1 m hm
              · omega
          refine ⟨fun t x ht => ?_, fun m' o' hm' => ?_⟩
          · rcases RD_slot_from _ ht with h | ⟨j, hj, hlj, rfl⟩
            · exact hf.1 t x h
            · have := hE j hj hlj
              simp only [Eff.has, Bool.or_eq_false_iff] at this
              exact this.1
          · rcases RD_heap_from _ hm' with h | ⟨j, hj, hlj, h⟩
            · exact hf.2 m' o' h
            · have := hE j hj hlj
              simp only [Eff.has, Bool.or_eq_false_iff] at this
              have h8 := this.2
              rw [List.any_eq_false] at h8
              have := h8 _ (look_mem h)
              simpa using this
    have hget : ∀ j, (listed.setIfInBounds i true).getD j false = D' j := by
      intro j
      have hi' : i < listed.size := by omega
      by_cases e : j = i
      · subst e; simp [D', Array.getD, hi']
      · simp only [D', e, decide_false, Bool.or_false, Array.getD_eq_getD_getElem?]
        rw [Array.getElem?_setIfInBounds_ne (fun h => e h.symm)]
    by_cases hc : c = true ∧ i = L.length - 1
    · -- the last, said by itself
      obtain ⟨hc, hil⟩ := hc
      obtain ⟨g1, g2, g3, g4⟩ := hlast hc
      rw [← hil] at g2 g3 g4
      have hno : rowAt L i = noRow := by rw [hLi] at g2; exact Option.some.inj g2
      have hoth : ∀ j, j < L.length → j ≠ i → listed.getD j false = true := fun j hj hji => by
        have := hmask i j (by simp [D']) (g3 j (by omega))
        simpa only [D', hji, decide_false, Bool.or_false] using this
      refine g4 ρ M a w _ (hsim.congr (fun t => ?_) (fun m => ?_)) (fun a' w' hq => wpAny_all (by simpa using hls) (fun j hj => ?_) hq fuel)
      · rw [← hend, ← hallL]
        refine (RD_slot_same _ (fun j hj hw => ?_)).symm
        by_cases e : j = i
        · subst e; rw [hno] at hw; simp [noRow] at hw
        · rw [hoth j hj e]
      · rw [← hend, ← hallL]
        refine (RD_heap_same _ (fun j hj hw => ?_)).symm
        by_cases e : j = i
        · subst e; rw [hno] at hw; simp [noRow, look] at hw
        · rw [hoth j hj e]
      · rw [hget]
        by_cases e : j = i
        · simp [D', e]
        · simp only [D', hoth j (by omega) e, Bool.true_or]
    have hstep := hsteps i _ hLi (fun hc' => by
      have : i ≠ L.length - 1 := fun e => hc ⟨hc', e⟩
      omega)
    refine hstep Γ ρ M _ a w _ Q hsim hholds (fun d hd => by rw [hn]; exact hdst d hd) (fun ρ' M' a' w' hsim' => ?_)
    refine ih _ a' w' ρ' M' (by simpa using hls) (fun hc' => ?_) (fun k o ho hk e he hb => ?_) ?_ (hsim'.congr (fun t => ?_) (fun m => ?_))
    · rw [hget]
      have hne : L.length - 1 ≠ i := fun e => hc ⟨hc', e.symm⟩
      simp only [D', hlst hc', hne, decide_false, Bool.or_false]
    · rw [hget] at hk ⊢
      by_cases e' : k = i
      · subst e'
        rw [hio] at ho; cases ho
        have := hready e (by simpa using he)
        simp only [hb, Bool.not_true, Bool.false_or] at this
        show (listed.getD e.on false || decide (e.on = _)) = true
        rw [this]; rfl
      · have : listed.getD k false = true := by simpa [D', e'] using hk
        show (listed.getD e.on false || decide (e.on = i)) = true
        rw [hdown k o ho this e he hb]; rfl
    · have : cnt (fun j => !(listed.setIfInBounds i true).getD j false) ops.size < cnt (fun j => !listed.getD j false) ops.size := by
        refine cnt_lt (i := i) (fun j hj => ?_) (by simp [hnl]) (by simp [hget, D']) _ hilt
        rw [hget] at hj
        simp only [D', Bool.not_or, Bool.and_eq_true] at hj
        exact hj.1
      omega
    · -- the slots
      have hrun := run_slot (RD (rowAt L) (fun i => listed.getD i false) (mk ts hs) L.length) (rowAt L i) t
      rw [hrun]
      have hD : (fun j => (listed.setIfInBounds i true).getD j false) = D' := funext hget
      rw [hD]
      by_cases hw : (rowAt L i).1 = some t
      · rw [if_pos hw, RD_slot_cut (i := i + 1) L.length (by omega) (fun j hj1 hj2 hwj => ?_)]
        · simp only [RD, D', decide_true, Bool.or_true, if_true]
          rw [run_slot, if_pos hw]
        · rcases hord j hj2 (by omega) with h | h | h | h
          · omega
          · simp only [D', h.2, Bool.false_or, decide_eq_false_iff_not]; omega
          · exact absurd hwj (h.1.dd t hw)
          · omega
      · rw [if_neg hw]
        refine RD_slot_same _ (fun j hj hwj => ?_)
        by_cases e : j = i
        · subst e; exact absurd hwj hw
        · simp [D', e]
    · have hrun := run_heap (RD (rowAt L) (fun i => listed.getD i false) (mk ts hs) L.length) (rowAt L i) m
      rw [hrun]
      have hD : (fun j => (listed.setIfInBounds i true).getD j false) = D' := funext hget
      rw [hD]
      cases hw : look m (rowAt L i).2.upd with
      | some o =>
        rw [RD_heap_cut (i := i + 1) L.length (by omega) (fun j hj1 hj2 hwj => ?_)]
        · simp only [RD, D', decide_true, Bool.or_true, if_true]
          rw [run_heap, hw]
        · rcases hord j hj2 (by omega) with h | h | h | h
          · omega
          · simp only [D', h.2, Bool.false_or, decide_eq_false_iff_not]; omega
          · exact absurd (keys_of_look hwj) (h.1.hh m (keys_of_look (by rw [hw]; simp)))
          · omega
      | none =>
        refine RD_heap_same _ (fun j hj hwj => ?_)
        by_cases e : j = i
        · subst e; exact absurd hw hwj
        · simp [D', e]
theorem any_order (hn : Γ.n = n) (hst : StepsOK P ops 0 L) (h1 : (got n L ts hs).1 = wantS L) (h2 : (got n L ts hs).2.1 = wantH L) (h3 : (got n L ts hs).2.2.1 = true)
    (hind : indep ops L ts hs = true) {Q : Exit → Act → World → Prop}
    (hQ : ∀ ρ' M' a' w', Sim Γ ρ' M' (mk (got n L ts hs).2.2.2.1 (got n L ts hs).2.2.2.2) a' w' → Q .normal a' w')
    (fuel : Nat) (listed : Array Bool) (a : Act) (w : World) (ρ : Name → Loc) (M : Nat → Prop) (hls : listed.size = ops.size)
    (hdown : ∀ i o, ops[i]? = some o → listed.getD i false = true → ∀ e ∈ o.after.toList, Region.binds .any e = true → listed.getD e.on false = true)
    (hcnt : cnt (fun i => !listed.getD i false) ops.size ≤ fuel)
    (hsim : Sim Γ ρ M (RD (rowAt L) (fun i => listed.getD i false) (mk ts hs) L.length) a w) : wpAny P .any ops Q fuel listed a w := by
  obtain ⟨hsteps, hsize⟩ := stepsM_get hst
  exact any_orderX false hn (fun i y hi _ => by have := hsteps i y hi; rwa [Nat.zero_add] at this) (by omega) h1 h2 h3 hind (fun h => by simp at h) (fun _ => hQ) fuel listed a w ρ M hls (fun h => by simp at h) hdown hcnt hsim
theorem got_noRow (n : Nat) : ∀ (L : List Row) (ts : List (Nat × AV)) (hs : List (Name × AO)), got n (L ++ [noRow]) ts hs = got n L ts hs
  | [], ts, hs => by simp [got, noRow, putT, dstOK, newOK]
  | (d, e) :: r, ts, hs => by simp only [List.cons_append, got, got_noRow n r]
theorem wantS_noRow : ∀ (L : List Row), wantS (L ++ [noRow]) = wantS L
  | [] => by simp [wantS, noRow]
  | (d, e) :: r => by simp only [List.cons_append, wantS, wantS_noRow r]
theorem wantH_noRow : ∀ (L : List Row), wantH (L ++ [noRow]) = wantH L
  | [] => by simp [wantH, noRow]
  | (d, e) :: r => by simp only [List.cons_append, wantH, wantH_noRow r]
end
theorem Sim.drew {Γ : Ctx} {ρ : Name → Loc} {M : Nat → Prop} {s : AS} {a : Act} {w : World} (h : Sim Γ ρ M s a w) : Sim Γ ρ M s a { w with drawn := w.drawn + 1 } :=
  h.world ⟨Nat.le_refl _, fun _ _ _ => rfl, rfl, rfl⟩
end Go.Proofs.YtfhcigjkfelnfaaGreat.AM
