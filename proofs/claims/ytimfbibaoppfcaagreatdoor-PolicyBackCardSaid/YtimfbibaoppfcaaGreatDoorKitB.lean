/-
  What strings.Join and strings.Cut do, by the kit's contracts, as contracts of the abstract machine.
-/
import Derived.Shelf.Strings.OnBuilder
import Derived.Shelf.Strings.Shaped
import Derived.Test.YtimfbibaoppfcaaGreatDoorKit
import Derived.Test.YtimfbibaoppfcaaGreatDoorAmR
set_option maxRecDepth 100000
set_option linter.unusedSimpArgs false
set_option linter.unusedVariables false
namespace Go.Proofs.YtimfbibaoppfcaaGreatDoor
open Go Go.Shelf
def lays156_ren : Go.Shelf.Ren := ⟨fun | 156 => 60 | 165 => 94 | 166 => 95 | 169 => 96 | 240 => 136 | 241 => 137 | 276 => 162 | 277 => 163 | n => n, fun | 31 => 50 | 9 => 9 | 3 => 3 | 4 => 4 | 0 => 0 | 20 => 20 | 72 => 155 | 76 => 145 | 70 => 153 | 37 => 89 | 75 => 144 | 127 => 184 | 164 => 215 | 5 => 5 | 80 => 157 | n => n, fun | n => n⟩
theorem lays156 : Go.Proofs.Lays.n156 Tryz.prog lays156_ren := {
  mixed := by kernel_rfl,
  f156 := Tryz.func60.trans (congrArg some (by kernel_rfl)),
  f165 := Tryz.func94.trans (congrArg some (by kernel_rfl)),
  f166 := Tryz.func95.trans (congrArg some (by kernel_rfl)),
  f169 := Tryz.func96.trans (congrArg some (by kernel_rfl)),
  f240 := Tryz.func136.trans (congrArg some (by kernel_rfl)),
  f241 := Tryz.func137.trans (congrArg some (by kernel_rfl)),
  f276 := Tryz.func162.trans (congrArg some (by kernel_rfl)),
  f277 := Tryz.func163.trans (congrArg some (by kernel_rfl)),
  t0 := Tryz.underlying0,
  a0 := Tryz.isAgg0,
  z0 := Tryz.sizeOf0,
  v0 := Tryz.zeroValue0,
  t3 := Tryz.underlying3,
  a3 := Tryz.isAgg3,
  z3 := Tryz.sizeOf3,
  v3 := Tryz.zeroValue3,
  t4 := Tryz.underlying4,
  a4 := Tryz.isAgg4,
  z4 := Tryz.sizeOf4,
  v4 := Tryz.zeroValue4,
  t9 := Tryz.underlying9,
  a9 := Tryz.isAgg9,
  z9 := Tryz.sizeOf9,
  v9 := Tryz.zeroValue9,
  t20 := Tryz.underlying20,
  a20 := Tryz.isAgg20,
  z20 := Tryz.sizeOf20,
  v20 := Tryz.zeroValue20,
  t31 := Tryz.underlying50,
  a31 := Tryz.isAgg50,
  z31 := Tryz.sizeOf50,
  v31 := Tryz.zeroValue50,
  t37 := Tryz.underlying89,
  a37 := Tryz.isAgg89,
  z37 := Tryz.sizeOf89,
  v37 := Tryz.zeroValue89,
  t70 := Tryz.underlying153,
  a70 := Tryz.isAgg153,
  z70 := Tryz.sizeOf153,
  v70 := Tryz.zeroValue153,
  t72 := Tryz.underlying155,
  a72 := Tryz.isAgg155,
  z72 := Tryz.sizeOf155,
  v72 := Tryz.zeroValue155,
  t75 := Tryz.underlying144,
  a75 := Tryz.isAgg144,
  z75 := Tryz.sizeOf144,
  v75 := Tryz.zeroValue144,
  t76 := Tryz.underlying145,
  a76 := Tryz.isAgg145,
  z76 := Tryz.sizeOf145,
  v76 := Tryz.zeroValue145,
  t127 := Tryz.underlying184,
  a127 := Tryz.isAgg184,
  z127 := Tryz.sizeOf184,
  v127 := Tryz.zeroValue184,
  t164 := Tryz.underlying215,
  a164 := Tryz.isAgg215,
  z164 := Tryz.sizeOf215,
  v164 := Tryz.zeroValue215 }
def lays145_ren : Go.Shelf.Ren := ⟨fun | 145 => 62 | 220 => 97 | 219 => 138 | 217 => 164 | 225 => 165 | 224 => 166 | 267 => 167 | 266 => 188 | 314 => 189 | n => n, fun | 9 => 9 | 4 => 4 | 59 => 122 | 3 => 3 | 5 => 5 | 46 => 218 | 146 => 240 | 51 => 234 | n => n, fun | 1 => 0 | n => n⟩
theorem lays145 : Go.Proofs.LaysM.n145 Tryz.prog lays145_ren := {
  mixed := by kernel_rfl,
  f145 := Tryz.func62.trans (congrArg some (by kernel_rfl)),
  f217 := Tryz.func164.trans (congrArg some (by kernel_rfl)),
  f219 := Tryz.func138.trans (congrArg some (by kernel_rfl)),
  f220 := Tryz.func97.trans (congrArg some (by kernel_rfl)),
  f224 := Tryz.func166.trans (congrArg some (by kernel_rfl)),
  f225 := Tryz.func165.trans (congrArg some (by kernel_rfl)),
  f266 := Tryz.func188.trans (congrArg some (by kernel_rfl)),
  f267 := Tryz.func167.trans (congrArg some (by kernel_rfl)),
  f314 := Tryz.func189.trans (congrArg some (by kernel_rfl)),
  t3 := Tryz.underlying3,
  a3 := Tryz.isAgg3,
  z3 := Tryz.sizeOf3,
  v3 := Tryz.zeroValue3,
  t4 := Tryz.underlying4,
  a4 := Tryz.isAgg4,
  z4 := Tryz.sizeOf4,
  v4 := Tryz.zeroValue4,
  t5 := Tryz.underlying5,
  a5 := Tryz.isAgg5,
  z5 := Tryz.sizeOf5,
  v5 := Tryz.zeroValue5,
  t9 := Tryz.underlying9,
  a9 := Tryz.isAgg9,
  z9 := Tryz.sizeOf9,
  v9 := Tryz.zeroValue9,
  t46 := Tryz.underlying218,
  a46 := Tryz.isAgg218,
  z46 := Tryz.sizeOf218,
  v46 := Tryz.zeroValue218,
  t51 := Tryz.underlying234,
  a51 := Tryz.isAgg234,
  z51 := Tryz.sizeOf234,
  v51 := Tryz.zeroValue234,
  t59 := Tryz.underlying122,
  a59 := Tryz.isAgg122,
  z59 := Tryz.sizeOf122,
  v59 := Tryz.zeroValue122,
  t146 := Tryz.underlying240,
  a146 := Tryz.isAgg240,
  z146 := Tryz.sizeOf240,
  v146 := Tryz.zeroValue240,
  g1 := by kernel_rfl,
  i3 := by kernel_rfl,
  i4 := by kernel_rfl,
  i5 := by kernel_rfl,
  i9 := by kernel_rfl,
  i46 := by kernel_rfl,
  i51 := by kernel_rfl,
  i59 := by kernel_rfl,
  i146 := by kernel_rfl,
  m1 := by kernel_rfl,
  s1_3 := fun w h => Go.Proofs.cell_of_shapedOpen_int (zero := #[.int .i64 0]) (t := 3) h (of_decide_eq_true (by kernel_rfl)) (by kernel_rfl) rfl (by kernel_rfl) (by kernel_rfl) Tryz.underlying3 }
end Go.Proofs.YtimfbibaoppfcaaGreatDoor
namespace Go.Proofs.YtimfbibaoppfcaaGreatDoor.AM
open Go
theorem Spec.ofReads {P : Program} {f : FuncId} {args : List AV} {pre : List (Name × AO)} {x : Value} (hone : x.oneCell' = true)
    (h : ∀ (G : World) (ρ : Name → Loc) (M : Nat → Prop) (w : World) (us : List Value), (∀ b, M b → b < w.heap.size) → AV.Ts ρ (lookH pre) M w args us → (∀ n o, look n pre = some o → ObjAt ρ (lookH pre) M w n o) →
      Calls P f us.toArray w fun e w' => e = .returned x ∧ Ext (fun _ => False) w w') : SpecIs P f args pre (.p (.v x)) pre := by
  intro G ρ M w us hG hM hargs hobj hinj
  refine (h G ρ M w us hM hargs hobj).mono fun e w' ⟨he, hx⟩ => ⟨x, .p (.v x), pre, ρ, he, ⟨rfl, rfl⟩, ?_, ?_, hinj, ?_, ?_, ?_⟩
  · simp only [AV.R, PV.R]; exact ⟨trivial, hone⟩
  · intro n o hn
    refine ObjAt.step (B := fun _ => False) hx (fun b hb => hb.elim) ?_ (fun b hb => .inl hb) (fun m o' hm => by rw [hm]; exact stays_refl _ _) (fun m _ h0 => h0) rfl (fun b hb => hx.same b ((hobj n o hn).blk_lt hM hb).1 id) hM (hobj n o hn)
    rintro b _ (hb | ⟨m, o', hm, hb⟩)
    · exact hb
    · exact ((hobj m o' hm).blk_lt hM hb).2
  · exact fun n o b hn hb => .inl ⟨o, hn, hb⟩
  · exact hx.weaken fun b _ hb => hb.elim
  · exact fun n o hn => ⟨o, hn, stays_refl _ _⟩
end Go.Proofs.YtimfbibaoppfcaaGreatDoor.AM
namespace Go.Proofs.YtimfbibaoppfcaaGreatDoor
open Go AM
theorem extraJoin : Go.Proofs.Builder.Extra Tryz.prog lays156_ren where
  sizeBuilder := by kernel_rfl
  liesBuilder := by kernel_rfl
  t5 := Tryz.underlying5
  a5 := Tryz.isAgg5
  z5 := Tryz.sizeOf5
  v5 := Tryz.zeroValue5
  infoByte := by kernel_rfl
  cellsByte := by kernel_rfl
  sizeByte := by kernel_rfl
  neB5 := by decide
def joinS (l : List ByteArray) : ByteArray := ⟨(Lib.join (l.map (·.data.toList)) sepB.data.toList).toArray⟩
theorem join_core (l : List ByteArray) (h0 : 1 ≤ l.length) (hl : (joinS l).size ≤ 1000000) (M : Nat → Prop) (w : World) (bk o cap : Nat) (hcap : l.length ≤ cap) (hb : bk < w.heap.size) (hrows : PV.Rows M w bk 1 o (l.map D.cStr)) :
    Calls Tryz.prog 60 #[.slice (some ⟨bk, o, none⟩) l.length cap, .string sepB] w fun e w' => e = .returned (.string (joinS l)) ∧ Ext (fun _ => False) w w' := by
  have hc : ∀ (j : Nat) x, l[j]? = some x → w.cell? ⟨bk, o + j, none⟩ = some (.string x) := by
    intro j x hj
    have h1 := (hrows.get j (D.cStr x) (by rw [List.getElem?_map, hj]; rfl)).2
    simp only [D.cStr, PV.Cells, PV.R, Nat.mul_one] at h1
    obtain ⟨⟨v, hv, rfl, _⟩, _⟩ := h1
    exact hv
  have hN : l.length ≤ 140737488355328 := by
    suffices hz : l.length ≤ (Lib.join (l.map (·.data.toList)) sepB.data.toList).length + 1 by
      have h2 : (Lib.join (l.map (·.data.toList)) sepB.data.toList).length ≤ 1000000 := hl
      omega
    cases l with
    | nil => simp
    | cons x r =>
      rw [List.map_cons, Lib.join_length]
      have : sepB.data.toList.length = 1 := rfl
      rw [this, List.length_map, List.length_cons]
      omega
  refine (Go.Proofs.Any.strings_Join lays156 extraJoin bk o cap l sepB w hc hb hN hcap (Nat.le_trans hl (by decide))).mono ?_
  rintro e w' ⟨rfl, hw⟩
  exact ⟨rfl, ext_below hw⟩
theorem kit_Join (n : Name) (l : List ByteArray) (h0 : 1 ≤ l.length) (hl : (joinS l).size ≤ 1000000) : SpecIs Tryz.prog 60 [.own n (l.map D.cStr).length, vS sepB] [(n, .arr 1 (l.map D.cStr))] (vS (joinS l)) [(n, .arr 1 (l.map D.cStr))] := Spec.ofReads rfl fun G ρ M w us hMs ha ho => by
  have hH : lookH [(n, AO.arr 1 (l.map D.cStr))] n = some (.arr 1 (l.map D.cStr)) := by simp [lookH, AM.look]
  simp only [AV.Ts, AV.R, PV.R, vS] at ha
  obtain ⟨u, us', rfl, ⟨_, hu⟩, u2, us2, rfl, ⟨rfl, _⟩, rfl⟩ := ha
  obtain ⟨_, hu⟩ := hu _ 1 (l.map D.cStr).length hH (by simp [AO.shape])
  rw [hu rfl, List.length_map]
  obtain ⟨_, hcap, hr⟩ := ho n _ hH
  rw [List.length_map] at hcap
  rcases hr with hr | ⟨b, T, cs, hb, hM, _, _, hrows⟩
  · omega
  · rw [hb]
    exact join_core l h0 hl M w b 0 _ hcap (hMs b hM) hrows
def lnB : ByteArray := ByteArray.mk #[10]
def cutA (s : ByteArray) : ByteArray := ⟨(Lib.cut s.data.toList lnB.data.toList).1.toArray⟩
def cutR (s : ByteArray) : ByteArray := ⟨(Lib.cut s.data.toList lnB.data.toList).2.1.toArray⟩
def cutK (s : ByteArray) : Bool := (Lib.cut s.data.toList lnB.data.toList).2.2
theorem kit_Cut (s : ByteArray) (hs : s.size < 4294967281) : SpecIs Tryz.prog 62 [vS s, vS lnB] [] (.tup [vS (cutA s), vS (cutR s), vB (cutK s)]) [] := Spec.ofCalls fun G ρ M w us hG hMs ha => by
  simp only [AV.Ts, AV.R, PV.R, vS] at ha
  obtain ⟨u, us', rfl, ⟨rfl, _⟩, u2, us2, rfl, ⟨rfl, _⟩, rfl⟩ := ha
  obtain ⟨m, hm⟩ := hG.laid.mlen
  have hc : w.cell? ⟨lays145_ren.g 1, 0, none⟩ = some (.int .i64 m) := by
    have h0 := World.var?_cell (P := Tryz.prog) (n := "internal/bytealg.MaxLen") (show Tryz.prog.globalNamed "internal/bytealg.MaxLen" = some (lays145_ren.g 1) by kernel_rfl) (hG.var hm) 0
    simpa using h0
  refine (Go.Proofs.Any.strings_Cut { lays145 with } s lnB m w hs hc).mono ?_
  rintro e w' ⟨rfl, k, rfl⟩
  have hx : Ext (fun _ => False) w (w.drewN k) := by
    have hh : (w.drewN k).heap = w.heap := by simp
    exact ⟨by rw [hh]; exact Nat.le_refl _, fun b hb _ => by rw [hh], rfl, rfl⟩
  refine ⟨_, rfl, ?_, hx⟩
  simp only [AV.R, AV.Ts, PV.R, vS, vB]
  exact ⟨_, rfl, _, _, rfl, ⟨rfl, rfl⟩, _, _, rfl, ⟨rfl, rfl⟩, _, _, rfl, ⟨rfl, rfl⟩, rfl⟩
end Go.Proofs.YtimfbibaoppfcaaGreatDoor
