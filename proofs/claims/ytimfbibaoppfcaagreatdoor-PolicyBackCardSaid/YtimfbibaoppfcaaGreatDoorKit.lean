/-
  What Go's library does (strconv.Itoa, strconv.Atoi, strings.Split), by the kit's contracts, as contracts of the abstract machine.
-/
import Derived.Test.YtimfbibaoppfcaaGreatDoorShelf
import Derived.Test.YtimfbibaoppfcaaGreatDoorAmR
import Derived.Test.YtimfbibaoppfcaaGreatDoorPolData
set_option maxRecDepth 100000
set_option linter.unusedSimpArgs false
set_option linter.unusedVariables false
namespace Go.Proofs.YtimfbibaoppfcaaGreatDoor
open Go AM
def itoaB (n : Int) : ByteArray := ⟨(Lib.itoa n).toArray⟩
def sepB : ByteArray := ByteArray.mk #[32]
def splitS (s : ByteArray) : List ByteArray := Lib.splitB sepB 0 (Lib.countB s sepB) s
theorem ext_grow (w : World) (k : Nat) (os : Array Obj) : Ext (fun _ => False) w (Sort.grow (w.drewN k) os) := by
  have hh : (w.drewN k).heap = w.heap := by simp
  refine ⟨by simp [Sort.grow], fun b hb _ => ?_, rfl, rfl⟩
  simp only [Sort.grow, hh]
  exact Array.getElem?_append_left hb
theorem ext_below {w w' : World} (h : RowKit.Below w.heap.size w w') : Ext (fun _ => False) w w' := ⟨h.size, fun b hb _ => h.block b hb, h.os, h.output⟩
theorem kit_Itoa (n : Int) (h0 : -9223372036854775808 ≤ n) (h1 : n ≤ 9223372036854775807) : SpecIs Tryz.prog 46 [vI n] [] (vS (itoaB n)) [] := Spec.ofCalls fun G ρ M w us hG hMs ha => by
  simp only [AV.Ts, AV.R, PV.R, vI] at ha
  obtain ⟨u, us', rfl, ⟨rfl, _⟩, rfl⟩ := ha
  refine (Go.Proofs.Any.strconv_Itoa lays171 n h0 h1 w (hG.var hG.laid.pow)).mono ?_
  rintro e w' ⟨rfl, k, os, rfl⟩
  exact ⟨_, rfl, by simp only [AV.R, PV.R, vS]; exact ⟨rfl, rfl⟩, ext_grow _ _ _⟩
def atoiK (s : ByteArray) : Bool := match Lib.atoiAll s.data.toList with | .ok _ => true | _ => false
def atoiV (s : ByteArray) : Int := match Lib.atoiAll s.data.toList with | .ok v => v | .range => Lib.atoiSat s.data.toList | _ => 0
theorem kit_Atoi (s : ByteArray) (hmax : s.size ≤ 281474976710656) : SpecIs Tryz.prog 79 [vS s] [] (.tup [vI (atoiV s), .err (atoiK s)]) [] := Spec.ofCalls fun G ρ M w us hG hMs ha => by
  simp only [AV.Ts, AV.R, PV.R, vS] at ha
  obtain ⟨u, us', rfl, ⟨rfl, _⟩, rfl⟩ := ha
  cases h : Lib.atoiAll s.data.toList
  case ok v =>
    have e1 : atoiV s = v := by simp [atoiV, h]
    have e2 : atoiK s = true := by simp [atoiK, h]
    rw [e1, e2]
    refine (Go.Proofs.Any.strconv_Atoi_ok lays172 s (by omega) v h w).mono ?_
    rintro e w' ⟨rfl, hw⟩
    refine ⟨_, rfl, by simp only [AV.R, AV.Ts, PV.R, vI]; exact ⟨_, rfl, _, _, rfl, ⟨rfl, rfl⟩, _, _, rfl, ⟨rfl, fun _ => rfl, fun h => by simp at h⟩, rfl⟩, ?_⟩
    rcases hw with rfl | ⟨t, rfl⟩
    · exact Ext.refl _ _
    · exact ext_below (Lib.bytesWorld_below _ _ _)
  case range =>
    have e1 : atoiV s = Lib.atoiSat s.data.toList := by simp [atoiV, h]
    have e2 : atoiK s = false := by simp [atoiK, h]
    rw [e1, e2]
    obtain ⟨tp, p, hv⟩ := hG.laid.eran
    refine (Go.Proofs.Any.strconv_Atoi_range_var lays172 s hmax h tp p w (hG.var hv)).mono ?_
    rintro e w' ⟨N, rfl, _, _, hb⟩
    exact ⟨_, rfl, by simp only [AV.R, AV.Ts, PV.R, vI]; exact ⟨_, rfl, _, _, rfl, ⟨rfl, rfl⟩, _, _, rfl, ⟨rfl, fun h => by simp at h, fun _ => ⟨_, _, rfl⟩⟩, rfl⟩, ext_below hb⟩
  · skip
    have e1 : atoiV s = 0 := by simp [atoiV, h]
    have e2 : atoiK s = false := by simp [atoiK, h]
    rw [e1, e2]
    obtain ⟨tp, p, hv⟩ := hG.laid.esyn
    refine (Go.Proofs.Any.strconv_Atoi_syntax_var lays172 s hmax h tp p w (hG.var hv)).mono ?_
    rintro e w' ⟨N, rfl, _, _, hb⟩
    exact ⟨_, rfl, by simp only [AV.R, AV.Ts, PV.R, vI]; exact ⟨_, rfl, _, _, rfl, ⟨rfl, rfl⟩, _, _, rfl, ⟨rfl, fun h => by simp at h, fun _ => ⟨_, _, rfl⟩⟩, rfl⟩, ext_below hb⟩
theorem rows_strings (M : Nat → Prop) (w : World) (b : Nat) (t : TypeId) (fr : Nat × Nat) (l pre : List ByteArray) (post : List Value) (h : w.heap[b]? = some (.cells ((pre ++ l).map Value.string ++ post).toArray t fr)) : PV.Rows M w b 1 pre.length (l.map D.cStr) := by
  induction l generalizing pre with
  | nil => simp [PV.Rows]
  | cons x r ih =>
    simp only [List.map_cons, PV.Rows, D.cStr, List.length_cons, List.length_nil, PV.Cells, PV.R, true_and]
    refine ⟨⟨⟨.string x, ?_, rfl, rfl⟩, trivial⟩, ?_⟩
    · simp [World.cell?, h]
    · have := ih (pre ++ [x]) (by simpa using h)
      simpa using this
theorem kit_Split (s : ByteArray) (hs : s.size < 4294967281) : SpecIs Tryz.prog 40 [vS s, vS sepB] [] (.p (.sl true 1 ((splitS s).map D.cStr))) [] := Spec.ofCalls fun G ρ M w us hG hMs ha => by
  simp only [AV.Ts, AV.R, PV.R, vS] at ha
  obtain ⟨u, us', rfl, ⟨rfl, _⟩, u2, us2, rfl, ⟨rfl, _⟩, rfl⟩ := ha
  obtain ⟨m, hm⟩ := hG.laid.mlen
  have hc : w.cell? ⟨lays146_ren.g 1, 0, none⟩ = some (.int .i64 m) := by
    have h0 := World.var?_cell (P := Tryz.prog) (n := "internal/bytealg.MaxLen") (show Tryz.prog.globalNamed "internal/bytealg.MaxLen" = some (lays146_ren.g 1) by kernel_rfl) (hG.var hm) 0
    simpa using h0
  refine (Go.Proofs.Any.strings_Split { lays146 with } lays146.i9 s sepB m w hs hc (by decide)).mono ?_
  rintro e w' ⟨rfl, rfl⟩
  have hlen : (splitS s).length = Lib.countB s sepB + 1 := Lib.splitB_all sepB (by decide) 0 _ s rfl
  refine ⟨_, rfl, ?_, (Ext.alloc w _).weaken (fun _ _ h => h.elim)⟩
  simp only [AV.R, PV.R, List.length_map]
  rw [hlen]
  refine ⟨_, _, rfl, Nat.le_refl _, fun _ => rfl, fun h => by simp at h, fun ad had _ => ?_⟩
  cases had
  refine ⟨rfl, fun hM => absurd (hMs _ hM) (Nat.lt_irrefl _), by simp, ?_⟩
  · exact rows_strings M (w.alloc (.cells (((splitS s).map Value.string).toArray) (lays146_ren.t 9))) w.heap.size (lays146_ren.t 9) (0, 0) (splitS s) [] [] (by
      rw [List.nil_append, List.append_nil]; exact heap_alloc_new w _)
end Go.Proofs.YtimfbibaoppfcaaGreatDoor
