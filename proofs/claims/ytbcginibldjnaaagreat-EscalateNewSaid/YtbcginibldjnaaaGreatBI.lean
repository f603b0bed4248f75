/-
  The typed layer, part I: the state behind an operation. No project text.
-/
import Derived.Test.YtbcginibldjnaaaGreatBH
set_option linter.unusedVariables false
set_option linter.unusedSimpArgs false
namespace Go.Proofs.YtbcginibldjnaaaGreat.AM
open Go
variable {L L' : Lens} {ts ts' : TS} {hs hs' : HS}
section
variable {R : Type}
def newBs (nw : List Name) (upd : HS) (ts : TS) (hs : HS) : Bool := nw.all fun n => (look n hs).isNone && freeS n ts hs && (keys upd).contains n
def novBs (nv : List (Name × Nat)) (ts : TS) (hs : HS) : Bool := nv.all fun p => novS p.1 p.2 ts hs
def putB (d : Option Nat) (v : BV) (ts : TS) : TS := match d with
  | some d => (d, v) :: ts
  | none => ts
/-- The state behind an operation. -/
def goE1 (nn : Nat) (d : Option Nat) (ts : TS) (hs : HS) (K : BEff → TS → HS → Option R) (e : BEff) : Option R :=
  if newBs e.nw e.upd ts hs && dstOK nn d && novBs e.nv ts hs then K e (putB d e.v ts) (e.upd ++ hs) else none
/-- A truth value is decided at once, where others hang on it (sp). -/
def goE (sp : Bool) (nn : Nat) (d : Option Nat) (ts : TS) (hs : HS) (K : BEff → TS → HS → Option R) (e : BEff) : Option R := match e with
  | ⟨hp, .b q, upd, nw, nv⟩ => match sp with
    | true => cnd q (goE1 nn d ts hs K ⟨hp, .b true, upd, nw, nv⟩) (goE1 nn d ts hs K ⟨hp, .b false, upd, nw, nv⟩)
    | false => goE1 nn d ts hs K ⟨hp, .b q, upd, nw, nv⟩
  | e => goE1 nn d ts hs K e
variable {r : R} {P : Program} {o : Oper} {rd : TS}
theorem holds_er {e : BEff} {L' : Lens} (hrd : ∀ t v, (t, v) ∈ rd → look t ts = some v) (hhp : ∀ n ob, (n, ob) ∈ e.hp → look n hs = some ob) (hnw : newBs e.nw e.upd ts hs = true) :
    (BS L ts hs).holds ⟨erT L rd, erH L e.hp, e.v.er L', erH L' e.upd, e.nw⟩ := by
  refine ⟨fun t x hx => ?_, fun n ob hn => ?_, fun n hn => ?_⟩
  · simp only [erT, List.mem_map] at hx
    obtain ⟨⟨t', v⟩, hm, he⟩ := hx
    cases he
    rw [BS_slot, hrd _ v hm]; rfl
  · simp only [erH, List.mem_map] at hn
    obtain ⟨⟨t', v⟩, hm, he⟩ := hn
    cases he
    rw [BS_heap, hhp _ v hm]; rfl
  · have := List.all_eq_true.1 hnw n hn
    simp only [Bool.and_eq_true, Option.isNone_iff_eq_none] at this
    refine ⟨by rw [BS_heap, this.1.1]; rfl, free_of ?_⟩
    rw [freeS_er]; exact this.1.2
/-- An operation, and the lengths behind it. -/
structure Step (P : Program) (o : Oper) (rd : TS) (L : Lens) (ts : TS) (hs : HS) (e : BEff) (L' : Lens) : Prop where
  rds : ∀ t v, (t, v) ∈ rd → look t ts = some v
  hps : ∀ n ob, (n, ob) ∈ e.hp → look n hs = some ob
  new : newBs e.nw e.upd ts hs = true
  inv : Inv L' (e.upd ++ hs)
  ets : erT L ts = erT L' ts
  ehs : erH L hs = erH L' hs
  ok : OpOK P o ⟨erT L rd, erH L e.hp, e.v.er L', erH L' e.upd, e.nw⟩
theorem goE1_some {nn : Nat} {K : BEff → TS → HS → Option R} {e : BEff} (hg : Good P o rd hs e) (hrd : ∀ t v, (t, v) ∈ rd → look t ts = some v) (h : goE1 nn o.dst ts hs K e = some r) (hi : Inv L hs) :
    ∃ L', Step P o rd L ts hs e L' ∧ dstOK nn o.dst = true ∧ K e (putB o.dst e.v ts) (e.upd ++ hs) = some r := by
  unfold goE1 at h
  split at h
  · rename_i hb
    simp only [Bool.and_eq_true] at hb
    obtain ⟨hhp, hg⟩ := hg
    obtain ⟨L', hL', hi', hop⟩ := hg L hi
    obtain ⟨e1, e2⟩ := erS_congr (L := L) (L' := L') (nw := e.nw) (nv := e.nv) (ts := ts) (hs := hs) (fun n hn => by
      have := List.all_eq_true.1 hb.1.1 n hn
      simp only [Bool.and_eq_true] at this
      exact this.1.2) (fun p hp => List.all_eq_true.1 hb.2 p hp) hL'
    exact ⟨L', ⟨hrd, hhp, hb.1.1, hi', e1, e2, hop⟩, hb.1.2, h⟩
  · simp at h
theorem goE_some {sp : Bool} {nn : Nat} {K : BEff → TS → HS → Option R} {e : BEff} (hg : Good P o rd hs e) (hrd : ∀ t v, (t, v) ∈ rd → look t ts = some v) (h : goE sp nn o.dst ts hs K e = some r) (hi : Inv L hs) :
    ∃ L', Step P o rd L ts hs e L' ∧ dstOK nn o.dst = true ∧ K e (putB o.dst e.v ts) (e.upd ++ hs) = some r := by
  unfold goE at h
  split at h
  · split at h
    · rcases cnd_some h with ⟨rfl, h⟩ | ⟨rfl, h⟩
      · exact goE1_some hg hrd h hi
      · exact goE1_some hg hrd h hi
    · exact goE1_some hg hrd h hi
  · exact goE1_some hg hrd h hi
theorem BS_run {d : Option Nat} {e : BEff} {L0 : Lens} (h1 : erT L ts = erT L' ts) (h2 : erH L hs = erH L' hs) : (BS L ts hs).run d ⟨erT L0 rd, erH L0 e.hp, e.v.er L', erH L' e.upd, e.nw⟩ = BS L' (putB d e.v ts) (e.upd ++ hs) := by
  unfold BS
  rw [mk_run, h1, h2, erH_append]
  cases d <;> rfl
theorem Step.go {e : BEff} {nn : Nat} {Γ : Ctx} {ρ : Name → Loc} {M : Nat → Prop} {a : Act} {w : World} {KK : Act → World → Prop} {Q : Exit → Act → World → Prop}
    (hst : Step P o rd L ts hs e L') (hd : dstOK nn o.dst = true) (hn : Γ.n = nn) (hs0 : Sim Γ ρ M (BS L ts hs) a w)
    (hK : ∀ ρ' M' a' w', Sim Γ ρ' M' (BS L' (putB o.dst e.v ts) (e.upd ++ hs)) a' w' → KK a' w') : o.wp P a w KK Q := by
  refine hst.ok Γ ρ M _ a w KK Q hs0 (holds_er hst.rds hst.hps hst.new) (fun d hd' => ?_) (fun ρ' M' a' w' hs' => hK ρ' M' a' w' ?_)
  · rw [hd'] at hd; simp only [dstOK] at hd; rw [hn]; exact Nat.le_of_ble_eq_true hd
  · rw [BS_run hst.ets hst.ehs] at hs'; exact hs'
end
end Go.Proofs.YtbcginibldjnaaaGreat.AM
