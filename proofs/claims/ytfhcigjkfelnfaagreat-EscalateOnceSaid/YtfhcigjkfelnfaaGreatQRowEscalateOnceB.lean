/-
  stack.LayerOf: a range over a function (slices.Backward), for schedules of one layer: its contract, by the kit's laws of such ranges.
-/
import Derived.RangeFuncNested
import Derived.RangeFuncBound
import Derived.RangeFuncCalls
import Derived.RangeFuncLeaves
import Derived.Shelf.Abstract
import Derived.Shelf.RegionOpen
import Derived.WalkKit
import Derived.OwnWalkIn
import Derived.TacticsInMore
import Derived.LoopNIn
import Derived.LoopIn
import Derived.Scope
import Derived.Test.YtfhcigjkfelnfaaGreatQRowEscalateOnceA
import Derived.Test.YtfhcigjkfelnfaaGreatQEscG
namespace Go.Proofs.YtfhcigjkfelnfaaGreat
open Go Go.RowKit Go.Shelf Go.Proofs AM
set_option linter.unusedVariables false
set_option linter.unusedSimpArgs false
attribute [local go_sem] Oper.semAt_some
set_option maxRecDepth 100000
set_option maxHeartbeats 400000
theorem back_in (F : Fence) (n : Nat) (h5 : F.fn 269) (hro : F.round = none) (a : Option Addr) (len cap : Nat) (w : World) :
    CallsIn F n Tryz.prog 269 #[.slice a len cap] w fun e w' => e = .returned (.func (.func 282) #[] #[.pointer (some ⟨w.heap.size, 0, none⟩)]) ∧ w' = w.alloc (.cells #[.slice a len cap] 133) := by
  refine callsIn_of_wp Tryz.func269 rfl h5 ?_ hro
  simp only [Tryz.ntmps269, List.size_toArray, List.length_cons, List.length_nil, Nat.reduceAdd, Nat.reduceSub, Array.replicate_succ, Array.replicate_zero, List.push_toArray, List.append_toArray, List.nil_append, List.cons_append]
  gi_wp2
  go_ret
  exact ⟨rfl, rfl⟩
theorem back_stops (n : Nat) (hn : 1 ≤ n) (Bs b off cap : Nat) (l1 l2 l3 l4 l5 l6 l7 l8 l9 l10 : Value) (w : World) (hBs : Bs < w.heap.size) (hb : b < w.heap.size)
    (hc : w.cell? ⟨Bs, 0, none⟩ = some (.slice (some ⟨b, off, none⟩) 1 cap))
    (c1 : w.cell? ⟨b, off, none⟩ = some l1) (c2 : w.cell? ⟨b, off + 1, none⟩ = some l2) (c3 : w.cell? ⟨b, off + 2, none⟩ = some l3) (c4 : w.cell? ⟨b, off + 3, none⟩ = some l4) (c5 : w.cell? ⟨b, off + 4, none⟩ = some l5)
    (c6 : w.cell? ⟨b, off + 5, none⟩ = some l6) (c7 : w.cell? ⟨b, off + 6, none⟩ = some l7) (c8 : w.cell? ⟨b, off + 7, none⟩ = some l8) (c9 : w.cell? ⟨b, off + 8, none⟩ = some l9) (c10 : w.cell? ⟨b, off + 9, none⟩ = some l10) :
    SeqStopsK Fence.wide n Tryz.prog 282 #[.pointer (some ⟨Bs, 0, none⟩)] (fun _ : Unit => #[Value.int .i64 0, .agg #[l1, l2, l3, l4, l5, l6, l7, l8, l9, l10]]) (fun _ _ => True) (fun ys => ys = [()]) (fun pre => pre = [()]) 1 w := by
  intro l J Jx W hW hJ hJx hY h0
  have hc' := (hW.cell (p := ⟨Bs, 0, none⟩) hBs).trans hc
  have d1 := (hW.cell (p := ⟨b, off, none⟩) hb).trans c1
  have d2 := (hW.cell (p := ⟨b, off + 1, none⟩) hb).trans c2
  have d3 := (hW.cell (p := ⟨b, off + 2, none⟩) hb).trans c3
  have d4 := (hW.cell (p := ⟨b, off + 3, none⟩) hb).trans c4
  have d5 := (hW.cell (p := ⟨b, off + 4, none⟩) hb).trans c5
  have d6 := (hW.cell (p := ⟨b, off + 5, none⟩) hb).trans c6
  have d7 := (hW.cell (p := ⟨b, off + 6, none⟩) hb).trans c7
  have d8 := (hW.cell (p := ⟨b, off + 7, none⟩) hb).trans c8
  have d9 := (hW.cell (p := ⟨b, off + 8, none⟩) hb).trans c9
  have d10 := (hW.cell (p := ⟨b, off + 9, none⟩) hb).trans c10
  obtain ⟨fn, tmps, assign, body, hy, hR⟩ := hY [] () W h0 (by simp)
  dsimp only at hy
  refine callsIn_of_wp Tryz.func282 rfl trivial ?_ rfl
  simp only [Tryz.ntmps282, List.size_toArray, List.length_cons, List.length_nil, Nat.reduceAdd, Nat.reduceSub, Array.replicate_succ, Array.replicate_zero, List.push_toArray, List.append_toArray, List.nil_append, List.cons_append]
  gi_wp2
  gi_loopw [3] (fun i wr => (i = .int .i64 0 ∧ wr = W) ∨ (i = .int .i64 (-1) ∧ J [()] wr)) (fun i _ => (intOf i + 1).toNat)
  case atStart => exact .inl ⟨by simp [wrap64], rfl⟩
  case round =>
    rcases hrel with ⟨rfl, rfl⟩ | ⟨rfl, hJ1⟩
    · gi_wp2
      refine hR.mono ?_
      rintro e W3 (⟨rfl, hJ3, _⟩ | ⟨rfl, hJx3⟩)
      · gi_wp2
        go_roundw
        case rel => exact .inr ⟨by simp [wrap64], hJ3⟩
        case measure => simp [intOf, wrap64]
      · gi_wp2
        refine bodyPost_ret (results_none rfl _ _ _) rfl ?_
        exact ⟨⟨_, rfl⟩, .inr ⟨_, rfl, hJx3⟩⟩
    · gi_wp2
      go_end0
      exact ⟨⟨_, rfl⟩, .inl ⟨_, rfl, hJ1⟩⟩
def Blk (W : World) (b : Nat) (cs : Array Value) (t : TypeId) : Prop := W.heap[b]? = some (.cells cs t (0, 0))
theorem Blk.new (W : World) (cs : Array Value) (t : TypeId) : Blk (W.alloc (.cells cs t)) W.heap.size cs t := World.alloc_heap_new W _
theorem Blk.lt {W : World} {b : Nat} {cs : Array Value} {t : TypeId} (h : Blk W b cs t) : b < W.heap.size := (Array.getElem?_eq_some_iff.1 h).1
theorem Blk.alloc {W : World} {b : Nat} {cs : Array Value} {t : TypeId} (h : Blk W b cs t) (o : Obj) : Blk (W.alloc o) b cs t := (Below.heap_alloc W o b h.lt).trans h
theorem Blk.cell {W : World} {b : Nat} {cs : Array Value} {t : TypeId} (h : Blk W b cs t) {j : Nat} {v : Value} (hj : cs[j]? = some v) : W.cell? ⟨b, j, none⟩ = some v := by
  simp [World.cell?, show W.heap[b]? = _ from h, hj]
theorem Blk.frozen {W : World} {b : Nat} {cs : Array Value} {t : TypeId} (h : Blk W b cs t) {j : Nat} : W.frozen? ⟨b, j, none⟩ = false := by simp [World.frozen?, show W.heap[b]? = _ from h]
theorem Blk.own {W W' : World} {B : Nat} {row : Option Nat} {b : Nat} {cs : Array Value} {t : TypeId} (h : Blk W b cs t) (hg : W.grownBy W' row) (hr : ∀ r, row = some r → B ≤ r ∧ ∃ o : Obj, W.heap[r]? = some o ∧ o.isCells = false) : Blk W' b cs t := by
  refine (hg.block b h.lt fun e => ?_).trans h
  obtain ⟨_, o, ho, hc⟩ := hr b e.symm
  rw [show W.heap[b]? = _ from h] at ho; cases ho; cases hc
theorem Blk.ext {W W' : World} {b : Nat} {cs : Array Value} {t : TypeId} (h : Blk W b cs t) (hx : AM.Ext (fun _ => False) W W') : Blk W' b cs t := (hx.same b h.lt id).trans h
theorem ext_own {w W W' : World} {B : Nat} {row : Option Nat} (hB : w.heap.size ≤ B) (h : AM.Ext (fun _ => False) w W) (hg : W.grownBy W' row) (hr : ∀ r, row = some r → B ≤ r ∧ ∃ o : Obj, W.heap[r]? = some o ∧ o.isCells = false) : AM.Ext (fun _ => False) w W' :=
  ⟨Nat.le_trans h.size hg.size, fun b hb _ => (hg.block b (Nat.lt_of_lt_of_le hb h.size) (fun e => by have := (hr b e.symm).1; omega)).trans (h.same b hb id), hg.os.trans h.os, hg.output.trans h.out⟩
theorem ext_alloc {w W : World} (h : AM.Ext (fun _ => False) w W) (o : Obj) : AM.Ext (fun _ => False) w (W.alloc o) :=
  ⟨Nat.le_trans h.size (by simp), fun b hb _ => (Below.heap_alloc W o b (Nat.lt_of_lt_of_le hb h.size)).trans (h.same b hb id), h.os, h.out⟩
theorem ext_trans {a b c : World} (h : AM.Ext (fun _ => False) a b) (k : AM.Ext (fun _ => False) b c) : AM.Ext (fun _ => False) a c := h.trans k fun _ _ e => e
theorem keeps_ext {W W' : World} (h : AM.Ext (fun _ => False) W W') (B : Nat) : KeepsFrom B W W' := ⟨h.size, fun k o _ hk _ => (h.same k (Array.getElem?_eq_some_iff.1 hk).1 id).trans hk⟩
structure Oth (b : Nat) (W W' : World) : Prop where
  size : W'.heap.size = W.heap.size
  same : ∀ k, k ≠ b → W'.heap[k]? = W.heap[k]?
  os : W'.os = W.os
  out : W'.output = W.output
theorem Oth.refl (b : Nat) (W : World) : Oth b W W := ⟨rfl, fun _ _ => rfl, rfl, rfl⟩
theorem Oth.trans {b : Nat} {A B C : World} (h : Oth b A B) (k : Oth b B C) : Oth b A C := ⟨k.size.trans h.size, fun i hi => (k.same i hi).trans (h.same i hi), k.os.trans h.os, k.out.trans h.out⟩
theorem Oth.set (b j : Nat) (v : Value) (W : World) : Oth b W (W.setCell ⟨b, j, none⟩ v) :=
  ⟨by simp [World.setCell], fun k hk => by simp [World.setCell, Array.getElem?_modify, Ne.symm hk], rfl, rfl⟩
theorem Oth.blk {b : Nat} {W W' : World} (h : Oth b W W') {k : Nat} {cs : Array Value} {t : TypeId} (hk : k ≠ b) (hb : Blk W k cs t) : Blk W' k cs t := (h.same k hk).trans hb
theorem Blk.set {W : World} {b : Nat} {cs : Array Value} {t : TypeId} (h : Blk W b cs t) (j : Nat) (v : Value) : Blk (W.setCell ⟨b, j, none⟩ v) b (cs.setIfInBounds j v) t := by
  have : b < W.heap.size := h.lt
  unfold Blk at h ⊢
  simp only [World.setCell, Array.getElem?_modify, h, if_true]
  rfl
theorem Blk.store {P : Program} {W : World} {b : Nat} {cs : Array Value} {t : TypeId} (h : Blk W b cs t) {j : Nat} (hj : j < cs.size) {v : Value} (hv : v.oneCell' = true) : (store ⟨b, j, none⟩ v).run P W = .ok () (W.setCell ⟨b, j, none⟩ v) := by
  rw [run_store P W _ v _ hv]
  have h1 := h.cell (j := j) (v := cs[j]) (by simp [hj])
  simp [stored, h1, h.frozen]
theorem ext_oth {w W W' : World} {b : Nat} (hB : w.heap.size ≤ b) (h : AM.Ext (fun _ => False) w W) (k : Oth b W W') : AM.Ext (fun _ => False) w W' :=
  ⟨by rw [k.size]; exact h.size, fun i hi _ => (k.same i (by omega)).trans (h.same i hi id), k.os.trans h.os, k.out.trans h.out⟩
theorem keeps_oth {W W' : World} {o : Obj} (B : Nat) (k : Oth W.heap.size (W.alloc o) W') : KeepsFrom B W W' :=
  ⟨by rw [k.size]; simp, fun i x _ hi _ => by
    have hl := (Array.getElem?_eq_some_iff.1 hi).1
    exact (k.same i (by omega)).trans ((Below.heap_alloc W o i hl).trans hi)⟩
theorem store1 {P : Program} {A0 W : World} {b : Nat} {cs cs' : Array Value} {t : TypeId} (h : Blk W b cs t) (ho : Oth b A0 W) {j : Nat} {v : Value} (hj : j < cs.size) (hc : cs.setIfInBounds j v = cs') (hv : v.oneCell' = true) :
    ∃ W', (store ⟨b, j, none⟩ v).run P W = .ok () W' ∧ Oth b A0 W' ∧ Blk W' b cs' t := ⟨_, h.store hj hv, ho.trans (Oth.set b j v W), hc ▸ h.set j v⟩
theorem store10 (P : Program) (W : World) (l1 l2 l3 l4 l5 l6 l7 l8 l9 l10 : Value) (o1 : l1.oneCell' = true) (o2 : l2.oneCell' = true) (o3 : l3.oneCell' = true) (o4 : l4.oneCell' = true) (o5 : l5.oneCell' = true) (o6 : l6.oneCell' = true) (o7 : l7.oneCell' = true) (o8 : l8.oneCell' = true) (o9 : l9.oneCell' = true) (o10 : l10.oneCell' = true) :
    ∃ W3, ((Sem.run P (store ⟨W.heap.size, 0, none⟩ l1) (W.alloc (.cells #[.string { data := #[] }, .int .i64 0, .int .i64 0, .int .i64 0, .int .i64 0, .int .i64 0, .slice none 0 0, .slice none 0 0, .int .i64 0, .int .i64 0] 132))).andThen fun a w' => (Sem.run P (store ⟨W.heap.size, 1, none⟩ l2) w').andThen fun a w' => (Sem.run P (store ⟨W.heap.size, 2, none⟩ l3) w').andThen fun a w' => (Sem.run P (store ⟨W.heap.size, 3, none⟩ l4) w').andThen fun a w' => (Sem.run P (store ⟨W.heap.size, 4, none⟩ l5) w').andThen fun a w' => (Sem.run P (store ⟨W.heap.size, 5, none⟩ l6) w').andThen fun a w' => (Sem.run P (store ⟨W.heap.size, 6, none⟩ l7) w').andThen fun a w' => (Sem.run P (store ⟨W.heap.size, 7, none⟩ l8) w').andThen fun a w' => (Sem.run P (store ⟨W.heap.size, 8, none⟩ l9) w').andThen fun a w' => (Sem.run P (store ⟨W.heap.size, 9, none⟩ l10) w')) = .ok () W3 ∧ Oth W.heap.size (W.alloc (.cells #[.string { data := #[] }, .int .i64 0, .int .i64 0, .int .i64 0, .int .i64 0, .int .i64 0, .slice none 0 0, .slice none 0 0, .int .i64 0, .int .i64 0] 132)) W3 ∧ Blk W3 W.heap.size #[l1, l2, l3, l4, l5, l6, l7, l8, l9, l10] 132 := by
  have q0 := Blk.new W #[.string { data := #[] }, .int .i64 0, .int .i64 0, .int .i64 0, .int .i64 0, .int .i64 0, .slice none 0 0, .slice none 0 0, .int .i64 0, .int .i64 0] 132
  have t0 := Oth.refl W.heap.size (W.alloc (.cells #[.string { data := #[] }, .int .i64 0, .int .i64 0, .int .i64 0, .int .i64 0, .int .i64 0, .slice none 0 0, .slice none 0 0, .int .i64 0, .int .i64 0] 132))
  obtain ⟨A1, r1, t1, q1⟩ := store1 (P := P) (cs' := #[l1, .int .i64 0, .int .i64 0, .int .i64 0, .int .i64 0, .int .i64 0, .slice none 0 0, .slice none 0 0, .int .i64 0, .int .i64 0]) q0 t0 (j := 0) (v := l1) (by simp) rfl o1
  rw [r1, Result.andThen]
  obtain ⟨A2, r2, t2, q2⟩ := store1 (P := P) (cs' := #[l1, l2, .int .i64 0, .int .i64 0, .int .i64 0, .int .i64 0, .slice none 0 0, .slice none 0 0, .int .i64 0, .int .i64 0]) q1 t1 (j := 1) (v := l2) (by simp) rfl o2
  rw [r2, Result.andThen]
  obtain ⟨A3, r3, t3, q3⟩ := store1 (P := P) (cs' := #[l1, l2, l3, .int .i64 0, .int .i64 0, .int .i64 0, .slice none 0 0, .slice none 0 0, .int .i64 0, .int .i64 0]) q2 t2 (j := 2) (v := l3) (by simp) rfl o3
  rw [r3, Result.andThen]
  obtain ⟨A4, r4, t4, q4⟩ := store1 (P := P) (cs' := #[l1, l2, l3, l4, .int .i64 0, .int .i64 0, .slice none 0 0, .slice none 0 0, .int .i64 0, .int .i64 0]) q3 t3 (j := 3) (v := l4) (by simp) rfl o4
  rw [r4, Result.andThen]
  obtain ⟨A5, r5, t5, q5⟩ := store1 (P := P) (cs' := #[l1, l2, l3, l4, l5, .int .i64 0, .slice none 0 0, .slice none 0 0, .int .i64 0, .int .i64 0]) q4 t4 (j := 4) (v := l5) (by simp) rfl o5
  rw [r5, Result.andThen]
  obtain ⟨A6, r6, t6, q6⟩ := store1 (P := P) (cs' := #[l1, l2, l3, l4, l5, l6, .slice none 0 0, .slice none 0 0, .int .i64 0, .int .i64 0]) q5 t5 (j := 5) (v := l6) (by simp) rfl o6
  rw [r6, Result.andThen]
  obtain ⟨A7, r7, t7, q7⟩ := store1 (P := P) (cs' := #[l1, l2, l3, l4, l5, l6, l7, .slice none 0 0, .int .i64 0, .int .i64 0]) q6 t6 (j := 6) (v := l7) (by simp) rfl o7
  rw [r7, Result.andThen]
  obtain ⟨A8, r8, t8, q8⟩ := store1 (P := P) (cs' := #[l1, l2, l3, l4, l5, l6, l7, l8, .int .i64 0, .int .i64 0]) q7 t7 (j := 7) (v := l8) (by simp) rfl o8
  rw [r8, Result.andThen]
  obtain ⟨A9, r9, t9, q9⟩ := store1 (P := P) (cs' := #[l1, l2, l3, l4, l5, l6, l7, l8, l9, .int .i64 0]) q8 t8 (j := 8) (v := l9) (by simp) rfl o9
  rw [r9, Result.andThen]
  obtain ⟨A10, r10, t10, q10⟩ := store1 (P := P) (cs' := #[l1, l2, l3, l4, l5, l6, l7, l8, l9, l10]) q9 t9 (j := 9) (v := l10) (by simp) rfl o10
  rw [r10]
  exact ⟨A10, rfl, t10, q10⟩
theorem lay_in (n : Nat) (hn : 3 ≤ n) (v1 v2 v3 v4 v5 s1 s3 : Value) (b off cap : Nat) (t : Int) (l1 l2 l3 l4 l5 l6 l7 l8 l9 l10 : Value) (w : World) (hb : b < w.heap.size)
    (c1 : w.cell? ⟨b, off, none⟩ = some l1) (c2 : w.cell? ⟨b, off + 1, none⟩ = some l2) (c3 : w.cell? ⟨b, off + 2, none⟩ = some l3) (c4 : w.cell? ⟨b, off + 3, none⟩ = some l4) (c5 : w.cell? ⟨b, off + 4, none⟩ = some l5) (c6 : w.cell? ⟨b, off + 5, none⟩ = some l6) (c7 : w.cell? ⟨b, off + 6, none⟩ = some l7) (c8 : w.cell? ⟨b, off + 7, none⟩ = some l8) (c9 : w.cell? ⟨b, off + 8, none⟩ = some l9) (c10 : w.cell? ⟨b, off + 9, none⟩ = some l10)
    (o1 : l1.oneCell' = true) (o2 : l2.oneCell' = true) (o3 : l3.oneCell' = true) (o4 : l4.oneCell' = true) (o5 : l5.oneCell' = true) (o6 : l6.oneCell' = true) (o7 : l7.oneCell' = true) (o8 : l8.oneCell' = true) (o9 : l9.oneCell' = true) (o10 : l10.oneCell' = true)
    (p : Int) (hP : ∀ W, AM.Ext (fun _ => False) w W → Calls Tryz.prog 270 #[.agg #[v1, v2, v3, v4, v5], .agg #[l1, l2, l3, l4, l5, l6, l7, l8, l9, l10], .int .i64 t] W fun e W' => e = .returned (.int .i64 p) ∧ AM.Ext (fun _ => False) W W')
    (aw : Bool) (hA : 0 ≤ p → ∀ W, AM.Ext (fun _ => False) w W → Calls Tryz.prog 271 #[.agg #[s1, .slice (some ⟨b, off, none⟩) 1 cap, s3], .int .i64 p, .int .i64 t] W fun e W' => e = .returned (.bool aw) ∧ AM.Ext (fun _ => False) W W') :
    CallsIn Fence.wide n Tryz.prog 253 #[.agg #[v1, v2, v3, v4, v5], .agg #[s1, .slice (some ⟨b, off, none⟩) 1 cap, s3], .int .i64 t] w fun e w' =>
      e = .returned (.tuple #[.int .i64 (if p < 0 ∨ aw = true then -1 else 0), .int .i64 (if p < 0 ∨ aw = true then -1 else p)]) ∧ AM.Ext (fun _ => False) w w' := by
  have h1 : 1 ≤ n := by omega
  refine callsIn_of_wp_marks Tryz.func253 rfl trivial ?_ rfl
  simp only [Tryz.ntmps253, List.size_toArray, List.length_cons, List.length_nil, Nat.reduceAdd, Nat.reduceSub, Array.replicate_succ, Array.replicate_zero, List.push_toArray, List.append_toArray, List.nil_append, List.cons_append]
  gi_wp2
  refine wpIn_wide.2 (wp_scope_straight ((wpIn_wide (n := n)).1 ?_))
  refine wpIn_seq (wpIn_label ?_)
  show Code.wpIn _ _ _ _ _ _ _
  gi_wp2_with (refine ⟨trivial, ?_⟩; gi_at_call 269; refine (back_in Fence.wide (n - 1) trivial rfl _ _ _ _).mono ?_; rintro e w' ⟨rfl, rfl⟩)
  have e0 := ext_alloc (ext_alloc (ext_alloc (ext_alloc (ext_alloc (ext_alloc (AM.Ext.refl (fun _ => False) w) (.cells #[v1, v2, v3, v4, v5] 170)) (.cells #[s1, .slice (some ⟨b, off, none⟩) 1 cap, s3] 136)) (.cells #[.int .i64 t] 3)) (.cells #[.int .i64 0] 3)) (.cells #[.int .i64 0] 3)) (.cells #[.slice (some ⟨b, off, none⟩) 1 cap] 133)
  have b0 := ((((((Blk.new w #[v1, v2, v3, v4, v5] 170).alloc (.cells #[s1, .slice (some ⟨b, off, none⟩) 1 cap, s3] 136)).alloc (.cells #[.int .i64 t] 3)).alloc (.cells #[.int .i64 0] 3)).alloc (.cells #[.int .i64 0] 3)).alloc (.cells #[.slice (some ⟨b, off, none⟩) 1 cap] 133))
  have b1 := (((((Blk.new (w.alloc (.cells #[v1, v2, v3, v4, v5] 170)) #[s1, .slice (some ⟨b, off, none⟩) 1 cap, s3] 136).alloc (.cells #[.int .i64 t] 3)).alloc (.cells #[.int .i64 0] 3)).alloc (.cells #[.int .i64 0] 3)).alloc (.cells #[.slice (some ⟨b, off, none⟩) 1 cap] 133))
  have b2 := ((((Blk.new ((w.alloc (.cells #[v1, v2, v3, v4, v5] 170)).alloc (.cells #[s1, .slice (some ⟨b, off, none⟩) 1 cap, s3] 136)) #[.int .i64 t] 3).alloc (.cells #[.int .i64 0] 3)).alloc (.cells #[.int .i64 0] 3)).alloc (.cells #[.slice (some ⟨b, off, none⟩) 1 cap] 133))
  have b3 := (((Blk.new (((w.alloc (.cells #[v1, v2, v3, v4, v5] 170)).alloc (.cells #[s1, .slice (some ⟨b, off, none⟩) 1 cap, s3] 136)).alloc (.cells #[.int .i64 t] 3)) #[.int .i64 0] 3).alloc (.cells #[.int .i64 0] 3)).alloc (.cells #[.slice (some ⟨b, off, none⟩) 1 cap] 133))
  have b4 := ((Blk.new ((((w.alloc (.cells #[v1, v2, v3, v4, v5] 170)).alloc (.cells #[s1, .slice (some ⟨b, off, none⟩) 1 cap, s3] 136)).alloc (.cells #[.int .i64 t] 3)).alloc (.cells #[.int .i64 0] 3)) #[.int .i64 0] 3).alloc (.cells #[.slice (some ⟨b, off, none⟩) 1 cap] 133))
  have b5 := (Blk.new (((((w.alloc (.cells #[v1, v2, v3, v4, v5] 170)).alloc (.cells #[s1, .slice (some ⟨b, off, none⟩) 1 cap, s3] 136)).alloc (.cells #[.int .i64 t] 3)).alloc (.cells #[.int .i64 0] 3)).alloc (.cells #[.int .i64 0] 3)) #[.slice (some ⟨b, off, none⟩) 1 cap] 133)
  simp only [World.size_alloc] at b1 b2 b3 b4 b5
  have hz : ((((((w.alloc (.cells #[v1, v2, v3, v4, v5] 170)).alloc (.cells #[s1, .slice (some ⟨b, off, none⟩) 1 cap, s3] 136)).alloc (.cells #[.int .i64 t] 3)).alloc (.cells #[.int .i64 0] 3)).alloc (.cells #[.int .i64 0] 3)).alloc (.cells #[.slice (some ⟨b, off, none⟩) 1 cap] 133)).heap.size = w.heap.size + 6 := by simp
  obtain ⟨W0, hW0⟩ : ∃ W0, ((((((w.alloc (.cells #[v1, v2, v3, v4, v5] 170)).alloc (.cells #[s1, .slice (some ⟨b, off, none⟩) 1 cap, s3] 136)).alloc (.cells #[.int .i64 t] 3)).alloc (.cells #[.int .i64 0] 3)).alloc (.cells #[.int .i64 0] 3)).alloc (.cells #[.slice (some ⟨b, off, none⟩) 1 cap] 133)) = W0 := ⟨_, rfl⟩
  rw [hW0] at e0 b0 b1 b2 b3 b4 b5 hz ⊢
  have c0 : ∀ o, W0.cell? ⟨b, o, none⟩ = w.cell? ⟨b, o, none⟩ := fun o => World.cell?_of_block (e0.same b hb id)
  refine wpIn_rangeFunc_ownH rfl h1 (gf := 282) (lb := #[.pointer (some ⟨w.heap.size + 1 + 1 + 1 + 1 + 1, 0, none⟩)]) rfl trivial (enters_of Tryz.func282 (by kernel_rfl) rfl)
    (back_stops (n - 1) (by omega) (w.heap.size + 1 + 1 + 1 + 1 + 1) b off cap l1 l2 l3 l4 l5 l6 l7 l8 l9 l10 W0 b5.lt (by omega) (b5.cell rfl) ((c0 _).trans c1) ((c0 _).trans c2) ((c0 _).trans c3) ((c0 _).trans c4) ((c0 _).trans c5) ((c0 _).trans c6) ((c0 _).trans c7) ((c0 _).trans c8) ((c0 _).trans c9) ((c0 _).trans c10)) (fun _ _ => trivial) (fun _ _ _ _ _ _ _ _ => trivial) (Below.refl _ _) (fun _ => rfl)
    (fun pre W => ((Blk W w.heap.size #[v1, v2, v3, v4, v5] 170 ∧ Blk W (w.heap.size + 1) #[s1, .slice (some ⟨b, off, none⟩) 1 cap, s3] 136 ∧ Blk W (w.heap.size + 1 + 1) #[.int .i64 t] 3 ∧ Blk W (w.heap.size + 1 + 1 + 1) #[.int .i64 0] 3 ∧ Blk W (w.heap.size + 1 + 1 + 1 + 1) #[.int .i64 0] 3) ∧ AM.Ext (fun _ => False) w W) ∧ (pre = [] ∨ (p < 0 ∨ aw = true)))
    (fun c pre W => c = .ret ∧ ¬ (p < 0 ∨ aw = true) ∧ Blk W (w.heap.size + 1 + 1 + 1) #[.int .i64 0] 3 ∧ Blk W (w.heap.size + 1 + 1 + 1 + 1) #[.int .i64 p] 3 ∧ AM.Ext (fun _ => False) w W)
    (fun s A B row hs hg hr => ⟨⟨⟨hs.1.1.1.own hg hr, hs.1.1.2.1.own hg hr, hs.1.1.2.2.1.own hg hr, hs.1.1.2.2.2.1.own hg hr, hs.1.1.2.2.2.2.own hg hr⟩, ext_own (by omega) hs.1.2 hg hr⟩, hs.2⟩)
    (fun c s A B row hs hg hr => ⟨hs.1, hs.2.1, hs.2.2.1.own hg hr, hs.2.2.2.1.own hg hr, ext_own (by omega) hs.2.2.2.2 hg hr⟩)
    ⟨⟨⟨b0, b1, b2, b3, b4⟩, e0⟩, .inl rfl⟩
    (fun _ a' W => ∃ Bx, w.heap.size + 1 + 1 + 1 + 1 < Bx ∧ Blk W Bx #[l1, l2, l3, l4, l5, l6, l7, l8, l9, l10] 132 ∧ a' = { tmps := #[.agg #[v1, v2, v3, v4, v5], .agg #[s1, .slice (some ⟨b, off, none⟩) 1 cap, s3], .int .i64 t, .pointer (some ⟨w.heap.size, 0, none⟩), .pointer (some ⟨w.heap.size + 1, 0, none⟩), .pointer (some ⟨w.heap.size + 1 + 1, 0, none⟩), .pointer (some ⟨w.heap.size + 1 + 1 + 1, 0, none⟩), .pointer (some ⟨w.heap.size + 1 + 1 + 1 + 1, 0, none⟩),
      .int .i64 0, .pointer (some ⟨Bx, 0, none⟩), undef, .pointer (some ⟨w.heap.size + 1, 1, none⟩), .slice (some ⟨b, off, none⟩) 1 cap, .func (.func 282) #[] #[.pointer (some ⟨w.heap.size + 1 + 1 + 1 + 1 + 1, 0, none⟩)], .int .i64 0, .agg #[l1, l2, l3, l4, l5, l6, l7, l8, l9, l10], undef, undef, undef, undef, undef, undef, undef, undef, undef, undef, undef, undef, undef], defers := [] })
    (fun x a' s A B row hs hg hr => by obtain ⟨Bx, g1, g2, g3⟩ := hs; exact ⟨Bx, g1, g2.own hg hr, g3⟩) ?assign ?body ?done ?stop
  case assign =>
    rintro l pre x W K ⟨⟨⟨i0, i1, i2, i3, i4⟩, ie⟩, hp⟩ hK
    gi_wp2
    obtain ⟨W3, hW3, tt, q10⟩ := store10 Tryz.prog W l1 l2 l3 l4 l5 l6 l7 l8 l9 l10 o1 o2 o3 o4 o5 o6 o7 o8 o9 o10
    rw [hW3, Result.andThen]
    gi_wp2
    have hi4 := i4.lt
    exact hK _ _ (keeps_oth _ tt) trivial ⟨⟨⟨tt.blk (by omega) (i0.alloc _), tt.blk (by omega) (i1.alloc _), tt.blk (by omega) (i2.alloc _), tt.blk (by omega) (i3.alloc _), tt.blk (by omega) (i4.alloc _)⟩, ext_oth (by omega) (ext_alloc ie _) tt⟩, hp⟩ ⟨W.heap.size, hi4, q10, rfl⟩
  case body =>
    rintro l pre x a' W hl hlp ⟨⟨⟨i0, i1, i2, i3, i4⟩, ie⟩, hp⟩ ⟨Bx, hBx, bx, rfl⟩ hlen
    have a1 := i0.cell (j := 0) rfl
    have a2 := i0.cell (j := 1) rfl
    have a3 := i0.cell (j := 2) rfl
    have a4 := i0.cell (j := 3) rfl
    have a5 := i0.cell (j := 4) rfl
    have g1 := i1.cell (j := 0) rfl
    have g2 := i1.cell (j := 1) rfl
    have g3 := i1.cell (j := 2) rfl
    have g4 := i2.cell (j := 0) rfl
    have m1 := bx.cell (j := 0) rfl
    have m2 := bx.cell (j := 1) rfl
    have m3 := bx.cell (j := 2) rfl
    have m4 := bx.cell (j := 3) rfl
    have m5 := bx.cell (j := 4) rfl
    have m6 := bx.cell (j := 5) rfl
    have m7 := bx.cell (j := 6) rfl
    have m8 := bx.cell (j := 7) rfl
    have m9 := bx.cell (j := 8) rfl
    have m10 := bx.cell (j := 9) rfl
    have hmx : Tryz.prog.follows .mixedOrders = true := by kernel_rfl
    gi_wp2
    refine ⟨trivial, fun h => absurd h (by decide), ?_⟩
    refine (CallsIn.inRound l (callsIn_wide.2 (hP W ie))).mono ?_
    rintro e W4 ⟨rfl, hx⟩
    have f0 := i0.ext hx
    have f1 := i1.ext hx
    have f2 := i2.ext hx
    have f3 := i3.ext hx
    have f4 := i4.ext hx
    have fe := ext_trans ie hx
    have g1 := f1.cell (j := 0) rfl
    have g2 := f1.cell (j := 1) rfl
    have g3 := f1.cell (j := 2) rfl
    have g4 := f2.cell (j := 0) rfl
    dsimp only
    gi_wp2
    · exact ⟨keeps_ext hx _, trivial, ⟨⟨⟨f0, f1, f2, f3, f4⟩, fe⟩, .inr (.inl (by assumption))⟩⟩
    · refine ⟨trivial, fun h => absurd h (by decide), ?_⟩
      have hp0 : 0 ≤ p := by assumption
      refine (CallsIn.inRound l (callsIn_wide.2 (hA hp0 W4 fe))).mono ?_
      rintro e W5 ⟨rfl, hy⟩
      have k0 := f0.ext hy
      have k1 := f1.ext hy
      have k2 := f2.ext hy
      have k3 := f3.ext hy
      have k4 := f4.ext hy
      have ke := ext_trans fe hy
      have r1 := k3.cell (j := 0) rfl
      have r2 := k4.cell (j := 0) rfl
      have r3 := k3.frozen (j := 0)
      have r4 := k4.frozen (j := 0)
      dsimp only
      gi_wp2
      · have hno : ¬ (p < 0 ∨ aw = true) := fun h => h.elim (fun h => by omega) (fun h => by subst h; simp_all)
        refine ⟨(keeps_ext (ext_trans hx hy) _).trans ⟨by simp [World.setCell], fun i o _ hi hc => ?_⟩, rfl, hno, (Oth.set (w.heap.size + 1 + 1 + 1 + 1) 0 (.int .i64 p) _).blk (by omega) (k3.set 0 (.int .i64 0)), ((Oth.set (w.heap.size + 1 + 1 + 1) 0 (.int .i64 0) W5).blk (by omega) k4).set 0 (.int .i64 p),
          ext_oth (by omega) (ext_oth (by omega) ke (Oth.set (w.heap.size + 1 + 1 + 1) 0 (.int .i64 0) W5)) (Oth.set (w.heap.size + 1 + 1 + 1 + 1) 0 (.int .i64 p) _)⟩
        have n3 : i ≠ w.heap.size + 1 + 1 + 1 := fun e => by subst e; rw [show W5.heap[w.heap.size + 1 + 1 + 1]? = _ from k3] at hi; cases hi; cases hc
        have n4 : i ≠ w.heap.size + 1 + 1 + 1 + 1 := fun e => by subst e; rw [show W5.heap[w.heap.size + 1 + 1 + 1 + 1]? = _ from k4] at hi; cases hi; cases hc
        exact ((Oth.set (w.heap.size + 1 + 1 + 1 + 1) 0 (.int .i64 p) _).same i n4).trans (((Oth.set (w.heap.size + 1 + 1 + 1) 0 (.int .i64 0) W5).same i n3).trans hi)
      · have hyes : aw = true := by cases aw <;> simp_all
        exact ⟨keeps_ext (ext_trans hx hy) _, trivial, ⟨⟨⟨k0, k1, k2, k3, k4⟩, ke⟩, .inr (.inr hyes)⟩⟩
  case done =>
    rintro D xs W hD rfl ⟨⟨⟨i0, i1, i2, i3, i4⟩, ie⟩, hp⟩ hKD
    have r1 := i3.cell (j := 0) rfl
    have r2 := i4.cell (j := 0) rfl
    have r3 := i3.frozen (j := 0)
    have r4 := i4.frozen (j := 0)
    gi_wp2
    have hp' : p < 0 ∨ aw = true := hp.resolve_left (by simp)
    have m3 : Blk ((W.setCell ⟨w.heap.size + 1 + 1 + 1, 0, none⟩ (.int .i64 (-1))).setCell ⟨w.heap.size + 1 + 1 + 1 + 1, 0, none⟩ (.int .i64 (-1))) (w.heap.size + 1 + 1 + 1) #[.int .i64 (-1)] 3 := (Oth.set (w.heap.size + 1 + 1 + 1 + 1) 0 (.int .i64 (-1)) _).blk (by omega) (i3.set 0 (.int .i64 (-1)))
    have m4 : Blk ((W.setCell ⟨w.heap.size + 1 + 1 + 1, 0, none⟩ (.int .i64 (-1))).setCell ⟨w.heap.size + 1 + 1 + 1 + 1, 0, none⟩ (.int .i64 (-1))) (w.heap.size + 1 + 1 + 1 + 1) #[.int .i64 (-1)] 3 := ((Oth.set (w.heap.size + 1 + 1 + 1) 0 (.int .i64 (-1)) W).blk (by omega) i4).set 0 (.int .i64 (-1))
    have me := ext_oth (by omega) (ext_oth (by omega) ie (Oth.set (w.heap.size + 1 + 1 + 1) 0 (.int .i64 (-1)) W)) (Oth.set (w.heap.size + 1 + 1 + 1 + 1) 0 (.int .i64 (-1)) _)
    have hKD' := ((Oth.set (w.heap.size + 1 + 1 + 1 + 1) 0 (.int .i64 (-1)) (W.setCell ⟨w.heap.size + 1 + 1 + 1, 0, none⟩ (.int .i64 (-1)))).same D (by omega)).trans (((Oth.set (w.heap.size + 1 + 1 + 1) 0 (.int .i64 (-1)) W).same D (by omega)).trans hKD)
    have u3 := m3.own (grownBy_putObj' _ D (.deferred none)) (B := W0.heap.size) (fun r e => by cases e; exact ⟨hD, _, hKD', rfl⟩)
    have u4 := m4.own (grownBy_putObj' _ D (.deferred none)) (B := W0.heap.size) (fun r e => by cases e; exact ⟨hD, _, hKD', rfl⟩)
    have ue := ext_own (B := W0.heap.size) (by omega) me (grownBy_putObj' _ D (.deferred none)) (fun r e => by cases e; exact ⟨hD, _, hKD', rfl⟩)
    have y3 := u3.cell (j := 0) rfl
    have y4 := u4.cell (j := 0) rfl
    show bodyPostM _ _ _ _ _ Exit.ret _ _
    refine ⟨by simp, .inl ⟨_, _, rfl, run_takeDeferred hKD', ?_⟩⟩
    refine ⟨.tuple #[.int .i64 (-1), .int .i64 (-1)], ?_, by rw [if_pos hp', if_pos hp'], ue⟩
    simp [results, Tryz.f253, go_sem, y3, y4]
  case stop =>
    rintro D c pre W hD rfl ⟨rfl, hno, i3, i4, ie⟩ hKD
    gi_wp2
    have m3 := i3
    have m4 := i4
    have me := ie
    have hKD' := hKD
    have u3 := m3.own (grownBy_putObj' _ D (.deferred none)) (B := W0.heap.size) (fun r e => by cases e; exact ⟨hD, _, hKD', rfl⟩)
    have u4 := m4.own (grownBy_putObj' _ D (.deferred none)) (B := W0.heap.size) (fun r e => by cases e; exact ⟨hD, _, hKD', rfl⟩)
    have ue := ext_own (B := W0.heap.size) (by omega) me (grownBy_putObj' _ D (.deferred none)) (fun r e => by cases e; exact ⟨hD, _, hKD', rfl⟩)
    have y3 := u3.cell (j := 0) rfl
    have y4 := u4.cell (j := 0) rfl
    show bodyPostM _ _ _ _ _ Exit.ret _ _
    refine ⟨by simp, .inl ⟨_, _, rfl, run_takeDeferred hKD', ?_⟩⟩
    refine ⟨.tuple #[.int .i64 0, .int .i64 p], ?_, by rw [if_neg hno, if_neg hno], ue⟩
    simp [results, Tryz.f253, go_sem, y3, y4]
theorem pv_at {ρ : Name → AM.Loc} {H : Heap} {M : Nat → Prop} {W : World} {x : PV} {xs : List AV} {us : List Value} (h : AV.Rs ρ H M W (.p x :: xs) us) : ∃ u us', us = u :: us' ∧ PV.R M W x u ∧ AV.Rs ρ H M W xs us' := by
  simp only [AV.Rs] at h
  obtain ⟨u, us', h1, h2, h3, h4⟩ := h
  simp only [AV.R] at h3
  exact ⟨u, us', h1, h3, h4⟩
theorem pv_put {ρ : Name → AM.Loc} {H : Heap} {M : Nat → Prop} {W : World} {x : PV} {xs : List AV} {u : Value} {us : List Value} (h : PV.R M W x u) (hs : AV.Rs ρ H M W xs us) : AV.Rs ρ H M W (.p x :: xs) (u :: us) := by
  simp only [AV.Rs, AV.R]
  exact ⟨u, us, rfl, h.flat, h, hs⟩
theorem cell_at {M : Nat → Prop} {W : World} {b off : Nat} {x : PV} {xs : List PV} (h : PV.Cells M W b off (x :: xs)) : ∃ u, W.cell? ⟨b, off, none⟩ = some u ∧ PV.R M W x u ∧ PV.Cells M W b (off + 1) xs := by
  simp only [PV.Cells] at h
  obtain ⟨⟨u, h1, h2⟩, h3⟩ := h
  exact ⟨u, h1, h2, h3⟩
noncomputable section
def stack_LayerOf (fu : Nat) (p0 : D.View) (p1 : D.Schedule) (p2 : Int) : Option (Int × Int) :=
  match p1.Layers with
  | [l] => optc (duty_View_Person fu p0 l p2) fun p => cnd (decide (p < 0)) (some (-1, -1)) (optc (stack_Away fu p1 p p2) fun a => cnd a (some (-1, -1)) (some (0, p)))
  | _ => none
def stack_LayerOf_g (fu : Nat) : Sig := mkSig [.st .View, .st .Schedule, .one (.num .i64)] [] [.one (.num .i64), .one (.num .i64)] [] [] (Int × Int) (fun q => ((q.1, q.2, ()), ())) (fun x y => stack_LayerOf fu x.1 x.2.1 x.2.2.1)
theorem spec_call {P : Program} {k : FuncId} {args : List AV} {v : AV} (h : SpecIs P k args [] v []) {G w W : World} {ρ : Name → AM.Loc} {M : Nat → Prop} {us : List Value} (hG : AM.Ground G w (fun b => ∃ n o, AM.look n ([] : List (Name × AO)) = some o ∧ (ρ n).blk = some b)) (hM : ∀ b, M b → b < w.heap.size) (hx : Ext (fun _ => False) w W) (ha : AV.Ts ρ (lookH []) M W args us) :
    Calls P k us.toArray W fun e W' => ∃ u, e = .returned u ∧ (∃ ρ' M', v.R ρ' (lookH []) M' W' u) ∧ Ext (fun _ => False) W W' := by
  refine (h G ρ M W us ⟨hG.laid, Nat.le_trans hG.size hx.size, fun b hb => (hx.same b (Nat.lt_of_lt_of_le hb hG.size) id).trans (hG.same b hb), hG.out⟩ (fun b hb => Nat.lt_of_lt_of_le (hM b hb) hx.size) ha (fun n o hn => by simp [AM.look] at hn) (fun n m o o' b hn => by simp [AM.look] at hn)).mono ?_
  rintro e W' ⟨u, v', h', ρ', rfl, ⟨rfl, rfl⟩, hA⟩
  exact ⟨u, rfl, ⟨ρ', _, hA.val⟩, hA.ext.weaken fun b _ hb => by obtain ⟨n, o, hn, _⟩ := hb; simp [AM.look] at hn⟩
theorem stack_LayerOf_ok (fu : Nat) : FnOK Tryz.prog 253 (stack_LayerOf_g fu) := by
  refine ⟨fun R x y K r h => ?_, fun x y a b h L0 _ => ⟨L0, fun _ _ => rfl, fun n t l v hn => by change AM.look n [] = _ at hn; simp [AM.look] at hn, ?_⟩⟩
  · obtain ⟨v, s, t, ⟨⟩⟩ := x
    obtain ⟨q, hq, h⟩ := optc_some h
    change stack_LayerOf fu v s t = some q at hq
    refine ⟨(q.1, q.2, ()), (), ?_, h⟩
    show optc (stack_LayerOf fu v s t) (fun q => some ((q.1, q.2, ()), ())) = _
    rw [hq]; rfl
  · obtain ⟨v, s, t, ⟨⟩⟩ := x
    obtain ⟨q, hq, hab⟩ := optc_some h
    change stack_LayerOf fu v s t = some q at hq
    have hab' : ((q.1, q.2, ()), ()) = (a, b) := Option.some.inj hab
    obtain ⟨rfl, rfl⟩ := Prod.mk.inj hab'
    unfold stack_LayerOf at hq
    split at hq
    case h_2 => simp at hq
    rename_i l hl
    obtain ⟨p, hp, hq⟩ := optc_some hq
    obtain ⟨_, _, _, sP⟩ := (duty_View_Person_ok fu).spec (v, l, t, ()) () (p, ()) () (by show optc (duty_View_Person fu v l t) _ = _; rw [hp]; rfl) L0 (fun n t l v hn => by change AM.look n [] = _ at hn; simp [AM.look] at hn)
    have hA : 0 ≤ p → ∃ aw, stack_Away fu s p t = some aw ∧ q = if aw = true then (-1, -1) else (0, p) := fun h0 => by
      rw [cnd_n (by omega)] at hq
      obtain ⟨aw, h1, h2⟩ := optc_some hq
      refine ⟨aw, h1, ?_⟩
      cases aw <;> simpa [cnd] using h2.symm
    obtain ⟨aw, haw, hqa⟩ : ∃ aw : Bool, (0 ≤ p → stack_Away fu s p t = some aw) ∧ q = if p < 0 ∨ aw = true then (-1, -1) else (0, p) := by
      by_cases h0 : p < 0
      · rw [cnd_p h0] at hq
        exact ⟨true, fun h => by omega, by rw [if_pos (.inl h0)]; exact (Option.some.inj hq).symm⟩
      · obtain ⟨aw, h1, h2⟩ := hA (by omega)
        refine ⟨aw, fun _ => h1, ?_⟩
        rw [h2]
        cases aw <;> simp [h0]
    intro G ρ M w us hG hM hargs _ _
    change AV.Ts ρ (lookH []) M w [.agg [.p (.sl false 3 (v.Config.Zones.map D.Zone.cells)), .p (.sl false 6 (v.Config.People.map D.Person.cells)), .p (.sl false 3 (v.Config.Calendars.map D.Calendar.cells)), .p (.sl false 3 (v.Config.Schedules.map D.Schedule.cells)), .p (.sl false 2 (v.tables.map D.Table.cells))],
      .agg [.p (.v (.string s.Name)), .p (.sl false 10 (s.Layers.map D.Layer.cells)), .p (.sl false 5 (s.Edits.map D.Edit.cells))], .p (.v (.int .i64 t))] us at hargs
    simp only [AV.Ts, AV.R] at hargs
    obtain ⟨u1, us1, rfl, ⟨cs1, rfl, r1⟩, u2, us2, rfl, ⟨cs2, rfl, r2⟩, u3, us3, rfl, r3, rfl⟩ := hargs
    have r1' := r1
    have r2' := r2
    obtain ⟨v1, w1, e1, x1, r1⟩ := pv_at r1
    obtain ⟨v2, w2, rfl, x2, r1⟩ := pv_at r1
    obtain ⟨v3, w3, rfl, x3, r1⟩ := pv_at r1
    obtain ⟨v4, w4, rfl, x4, r1⟩ := pv_at r1
    obtain ⟨v5, w5, rfl, x5, r1⟩ := pv_at r1
    simp only [AV.Rs] at r1
    subst r1
    obtain ⟨s1, z1, e2, y1, r2⟩ := pv_at r2
    obtain ⟨s2, z2, rfl, y2, r2⟩ := pv_at r2
    obtain ⟨s3, z3, rfl, y3, r2⟩ := pv_at r2
    simp only [AV.Rs] at r2
    subst r2
    have e1' : cs1 = #[v1, v2, v3, v4, v5] := by cases cs1; simpa using e1
    have e2' : cs2 = #[s1, s2, s3] := by cases cs2; simpa using e2
    subst e1'
    subst e2'
    simp only [PV.R] at r3
    obtain ⟨rfl, _⟩ := r3
    rw [hl] at y2
    have y2' := y2
    simp only [PV.R, List.map_cons, List.map_nil, List.length_cons, List.length_nil] at y2
    obtain ⟨ad, cap, rfl, hcap, _, hn, hrows⟩ := y2
    cases ad with
    | none => have := hn rfl; omega
    | some ad =>
      obtain ⟨hsp, hMb, hlt, hrow⟩ := hrows ad rfl (by omega)
      obtain ⟨bb, off, sp⟩ := ad
      dsimp only at hsp hMb hlt hrow
      subst hsp
      simp only [PV.Rows] at hrow
      obtain ⟨_, hc, _⟩ := hrow
      change PV.Cells M w bb off [.v (.string l.Name), .v (.int .i64 l.Zone), .v (.int .i64 l.Start.Day), .v (.int .i64 l.Start.Second), .v (.int .i64 l.Unit), .v (.int .i64 l.Every), .sl false 1 (l.Members.map D.cInt), .sl false 2 (l.Windows.map D.Window.cells), .v (.int .i64 l.Calendar), .v (.int .i64 l.Mode)] at hc
      obtain ⟨l1, c1, m1, hc⟩ := cell_at hc
      obtain ⟨l2, c2, m2, hc⟩ := cell_at hc
      obtain ⟨l3, c3, m3, hc⟩ := cell_at hc
      obtain ⟨l4, c4, m4, hc⟩ := cell_at hc
      obtain ⟨l5, c5, m5, hc⟩ := cell_at hc
      obtain ⟨l6, c6, m6, hc⟩ := cell_at hc
      obtain ⟨l7, c7, m7, hc⟩ := cell_at hc
      obtain ⟨l8, c8, m8, hc⟩ := cell_at hc
      obtain ⟨l9, c9, m9, hc⟩ := cell_at hc
      obtain ⟨l10, c10, m10, hc⟩ := cell_at hc
      have hx0 : ∀ {W : World}, Ext (fun _ => False) w W → ∀ {x : PV} {u : Value}, x.R M w u → x.R M W u := fun hx => fun h => PV.R.mono hx (fun _ h => h.elim) (fun _ _ h => h) h
      have key := lay_in 3 (by omega) v1 v2 v3 v4 v5 s1 s3 bb off cap t l1 l2 l3 l4 l5 l6 l7 l8 l9 l10 w hlt c1 c2 c3 c4 c5 c6 c7 c8 c9 c10 m1.flat m2.flat m3.flat m4.flat m5.flat m6.flat m7.flat m8.flat m9.flat m10.flat p
        (fun W hx => (spec_call sP hG hM hx (us := [.agg #[v1, v2, v3, v4, v5], .agg #[l1, l2, l3, l4, l5, l6, l7, l8, l9, l10], .int .i64 t]) (by
          change AV.Ts ρ (lookH []) M W [.agg [.p (.sl false 3 (v.Config.Zones.map D.Zone.cells)), .p (.sl false 6 (v.Config.People.map D.Person.cells)), .p (.sl false 3 (v.Config.Calendars.map D.Calendar.cells)), .p (.sl false 3 (v.Config.Schedules.map D.Schedule.cells)), .p (.sl false 2 (v.tables.map D.Table.cells))],
            .agg [.p (.v (.string l.Name)), .p (.v (.int .i64 l.Zone)), .p (.v (.int .i64 l.Start.Day)), .p (.v (.int .i64 l.Start.Second)), .p (.v (.int .i64 l.Unit)), .p (.v (.int .i64 l.Every)), .p (.sl false 1 (l.Members.map D.cInt)), .p (.sl false 2 (l.Windows.map D.Window.cells)), .p (.v (.int .i64 l.Calendar)), .p (.v (.int .i64 l.Mode))], .p (.v (.int .i64 t))] _
          simp only [AV.Ts, AV.R]
          exact ⟨_, _, rfl, ⟨_, rfl, pv_put (hx0 hx x1) (pv_put (hx0 hx x2) (pv_put (hx0 hx x3) (pv_put (hx0 hx x4) (pv_put (hx0 hx x5) (by simp only [AV.Rs])))))⟩, _, _, rfl, ⟨_, rfl, pv_put (hx0 hx m1) (pv_put (hx0 hx m2) (pv_put (hx0 hx m3) (pv_put (hx0 hx m4) (pv_put (hx0 hx m5) (pv_put (hx0 hx m6) (pv_put (hx0 hx m7) (pv_put (hx0 hx m8) (pv_put (hx0 hx m9) (pv_put (hx0 hx m10) (by simp only [AV.Rs]))))))))))⟩, _, _, rfl, by simp only [PV.R]; exact ⟨trivial, rfl⟩, rfl⟩)).mono (by
            rintro e W' ⟨u, rfl, ⟨ρ', M', hu⟩, hx'⟩
            change PV.R M' W' (.v (.int .i64 p)) u at hu
            simp only [PV.R] at hu
            exact ⟨by rw [hu.1], hx'⟩))
        aw (fun h0 W hx => by
          obtain ⟨_, _, _, sA⟩ := (stack_Away_ok fu).spec (s, p, t, ()) () (aw, ()) () (by show optc (stack_Away fu s p t) _ = _; rw [haw h0]; rfl) L0 (fun n t l v hn => by change AM.look n [] = _ at hn; simp [AM.look] at hn)
          refine (spec_call sA hG hM hx (us := [.agg #[s1, .slice (some ⟨bb, off, none⟩) 1 cap, s3], .int .i64 p, .int .i64 t]) (by
            change AV.Ts ρ (lookH []) M W [.agg [.p (.v (.string s.Name)), .p (.sl false 10 (s.Layers.map D.Layer.cells)), .p (.sl false 5 (s.Edits.map D.Edit.cells))], .p (.v (.int .i64 p)), .p (.v (.int .i64 t))] _
            simp only [AV.Ts, AV.R]
            exact ⟨_, _, rfl, ⟨_, rfl, pv_put (hx0 hx y1) (pv_put (by rw [hl]; exact hx0 hx y2') (pv_put (hx0 hx y3) (by simp only [AV.Rs])))⟩, _, _, rfl, by simp only [PV.R]; exact ⟨trivial, rfl⟩, _, _, rfl, by simp only [PV.R]; exact ⟨trivial, rfl⟩, rfl⟩)).mono ?_
          rintro e W' ⟨u, rfl, ⟨ρ', M', hu⟩, hx'⟩
          change PV.R M' W' (.v (.bool aw)) u at hu
          simp only [PV.R] at hu
          exact ⟨by rw [hu.1], hx'⟩)
      refine (callsIn_wide.1 key).mono ?_
      rintro e w' ⟨rfl, hx⟩
      refine ⟨_, _, [], ρ, rfl, ⟨rfl, rfl⟩, ?_, fun n o hn => ?_, fun n m o o' b hn => ?_, fun n o b hn => ?_, hx.weaken fun b _ hb => hb.elim, fun n o hn => ?_⟩
      case refine_2 => change AM.look n [] = _ at hn; simp [AM.look] at hn
      case refine_3 => change AM.look n [] = _ at hn; simp [AM.look] at hn
      case refine_4 => change AM.look n [] = _ at hn; simp [AM.look] at hn
      case refine_5 => change AM.look n [] = _ at hn; simp [AM.look] at hn
      show AV.R ρ (lookH []) _ w' (.tup [.p (.v (.int .i64 q.1)), .p (.v (.int .i64 q.2))]) _
      simp only [AV.R, AV.Ts, PV.R]
      refine ⟨_, rfl, _, _, rfl, ⟨?_, rfl⟩, _, _, rfl, ⟨?_, rfl⟩, rfl⟩
      · rw [hqa]; split <;> rfl
      · rw [hqa]; split <;> rfl
end
end Go.Proofs.YtfhcigjkfelnfaaGreat
