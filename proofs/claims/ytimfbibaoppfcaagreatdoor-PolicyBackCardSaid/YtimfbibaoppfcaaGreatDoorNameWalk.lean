/-
  The walks of names. Printed by wip/gen/pol.py.
-/
import Derived.Test.YtimfbibaoppfcaaGreatDoorPolWalk
import Derived.Test.YtimfbibaoppfcaaGreatDoorCheckPlain
set_option maxRecDepth 100000
set_option linter.unusedSimpArgs false
set_option linter.unusedVariables false
namespace Go.Proofs.YtimfbibaoppfcaaGreatDoor
open Go AM
theorem res_in (n lo hi : Int) :
    SpecIs Tryz.prog 142 [(vI n), (vI lo), (vI hi)] [] (vB (inB n lo hi)) [] := by
 refine Spec.intro Tryz.func142 rfl (by kernel_rfl) ?_
 intro Γ hGn hGk
 replace hGn : Γ.n = 15 := hGn
 replace hGk : Γ.names = [] := hGk
 refine AWp.weaken (mk [(0, (vI n)), (1, (vI lo)), (2, (vI hi))] []) (Weak.sub' hGk (by kernel_rfl)) ?_
 refine AWp.s_reg hGn hGk (aa 1) (Man.aa _ _) [(0, (vI n)), (1, (vI lo)), (2, (vI hi))] [] (by kernel_rfl) (by kernel_rfl) ?_
 by_cases hs1 : lo ≤ n
 ·skip
  refine AWp.s_reg hGn hGk [.a, .a, .m (some 9) ⟨[(7, (vI n)), (8, (vI lo))], [], (vB true), [], []⟩, .a, .a, .a, .a, .a, .a] ⟨StepOK.p rfl rfl rfl (OpOK.geq rfl rfl rfl (decide_eq_true hs1)), trivial⟩ [(6, (vB (decide (n ≤ hi))))] [] (by kernel_rfl) (by kernel_rfl) ?_
  refine AWp.ret ?_
  refine fin_of (.inr rfl) (v := (vB (decide (n ≤ hi)))) (Res.tmp rfl rfl) (h' := []) rfl rfl ?_
  exact ⟨by simp [inB, *], rfl⟩
 ·skip
  refine AWp.s_reg hGn hGk [.a, .a, .m (some 9) ⟨[(7, (vI n)), (8, (vI lo))], [], (vB false), [], []⟩, .a, .a, .a, .a, .a, .a] ⟨StepOK.p rfl rfl rfl (OpOK.geq rfl rfl rfl (decide_eq_false hs1)), trivial⟩ [(6, (vB false))] [] (by kernel_rfl) (by kernel_rfl) ?_
  refine AWp.ret ?_
  refine fin_of (.inr rfl) (v := (vB false)) (Res.tmp rfl rfl) (h' := []) rfl rfl ?_
  exact ⟨by simp [inB, *], rfl⟩
theorem zone_in (n lo hi : Int) :
    SpecIs Tryz.prog 171 [(vI n), (vI lo), (vI hi)] [] (vB (inB n lo hi)) [] := by
 refine Spec.intro Tryz.func171 rfl (by kernel_rfl) ?_
 intro Γ hGn hGk
 replace hGn : Γ.n = 15 := hGn
 replace hGk : Γ.names = [] := hGk
 refine AWp.weaken (mk [(0, (vI n)), (1, (vI lo)), (2, (vI hi))] []) (Weak.sub' hGk (by kernel_rfl)) ?_
 refine AWp.s_reg hGn hGk (aa 1) (Man.aa _ _) [(0, (vI n)), (1, (vI lo)), (2, (vI hi))] [] (by kernel_rfl) (by kernel_rfl) ?_
 by_cases hs1 : lo ≤ n
 ·skip
  refine AWp.s_reg hGn hGk [.a, .a, .m (some 9) ⟨[(7, (vI n)), (8, (vI lo))], [], (vB true), [], []⟩, .a, .a, .a, .a, .a, .a] ⟨StepOK.p rfl rfl rfl (OpOK.geq rfl rfl rfl (decide_eq_true hs1)), trivial⟩ [(6, (vB (decide (n ≤ hi))))] [] (by kernel_rfl) (by kernel_rfl) ?_
  refine AWp.ret ?_
  refine fin_of (.inr rfl) (v := (vB (decide (n ≤ hi)))) (Res.tmp rfl rfl) (h' := []) rfl rfl ?_
  exact ⟨by simp [inB, *], rfl⟩
 ·skip
  refine AWp.s_reg hGn hGk [.a, .a, .m (some 9) ⟨[(7, (vI n)), (8, (vI lo))], [], (vB false), [], []⟩, .a, .a, .a, .a, .a, .a] ⟨StepOK.p rfl rfl rfl (OpOK.geq rfl rfl rfl (decide_eq_false hs1)), trivial⟩ [(6, (vB false))] [] (by kernel_rfl) (by kernel_rfl) ?_
  refine AWp.ret ?_
  refine fin_of (.inr rfl) (v := (vB false)) (Res.tmp rfl rfl) (h' := []) rfl rfl ?_
  exact ⟨by simp [inB, *], rfl⟩
theorem lex_small (c : Nat) (hc : c < 256) :
    SpecIs Tryz.prog 132 [(vK .u8 ((c : Nat) : Int))] [] (vB (small c)) [] := by
 refine Spec.intro Tryz.func132 rfl (by kernel_rfl) ?_
 intro Γ hGn hGk
 replace hGn : Γ.n = 9 := hGn
 replace hGk : Γ.names = [] := hGk
 refine AWp.weaken (mk [(0, (vK .u8 ((c : Nat) : Int)))] []) (Weak.sub' hGk (by kernel_rfl)) ?_
 refine AWp.s_reg hGn hGk (aa 1) (Man.aa _ _) [(0, (vK .u8 ((c : Nat) : Int)))] [] (by kernel_rfl) (by kernel_rfl) ?_
 by_cases hs1 : (97 : Int) ≤ ((c : Nat) : Int)
 ·skip
  refine AWp.s_reg hGn hGk [.a, .m (some 4) ⟨[(3, (vK .u8 ((c : Nat) : Int)))], [], (vB true), [], []⟩, .a, .a, .a, .a, .a] ⟨StepOK.p rfl rfl rfl (OpOK.geq rfl rfl rfl (decide_eq_true hs1)), trivial⟩ [(2, (vB (decide (((c : Nat) : Int) ≤ (122 : Int)))))] [] (by kernel_rfl) (by kernel_rfl) ?_
  refine AWp.ret ?_
  refine fin_of (.inr rfl) (v := (vB (decide (((c : Nat) : Int) ≤ (122 : Int))))) (Res.tmp rfl rfl) (h' := []) rfl rfl ?_
  exact ⟨congrArg (fun q => vB q) (Bool.eq_iff_iff.2 (by rw [small_iff]; first | (rw [decide_eq_true_iff]; omega) | (simp; omega))), rfl⟩
 ·skip
  refine AWp.s_reg hGn hGk [.a, .m (some 4) ⟨[(3, (vK .u8 ((c : Nat) : Int)))], [], (vB false), [], []⟩, .a, .a, .a, .a, .a] ⟨StepOK.p rfl rfl rfl (OpOK.geq rfl rfl rfl (decide_eq_false hs1)), trivial⟩ [(2, (vB false))] [] (by kernel_rfl) (by kernel_rfl) ?_
  refine AWp.ret ?_
  refine fin_of (.inr rfl) (v := (vB false)) (Res.tmp rfl rfl) (h' := []) rfl rfl ?_
  exact ⟨congrArg (fun q => vB q) (Bool.eq_iff_iff.2 (by rw [small_iff]; first | (rw [decide_eq_true_iff]; omega) | (simp; omega))), rfl⟩
theorem lex_digit (c : Nat) (hc : c < 256) :
    SpecIs Tryz.prog 133 [(vK .u8 ((c : Nat) : Int))] [] (vB (digitB c)) [] := by
 refine Spec.intro Tryz.func133 rfl (by kernel_rfl) ?_
 intro Γ hGn hGk
 replace hGn : Γ.n = 9 := hGn
 replace hGk : Γ.names = [] := hGk
 refine AWp.weaken (mk [(0, (vK .u8 ((c : Nat) : Int)))] []) (Weak.sub' hGk (by kernel_rfl)) ?_
 refine AWp.s_reg hGn hGk (aa 1) (Man.aa _ _) [(0, (vK .u8 ((c : Nat) : Int)))] [] (by kernel_rfl) (by kernel_rfl) ?_
 by_cases hs1 : (48 : Int) ≤ ((c : Nat) : Int)
 ·skip
  refine AWp.s_reg hGn hGk [.a, .m (some 4) ⟨[(3, (vK .u8 ((c : Nat) : Int)))], [], (vB true), [], []⟩, .a, .a, .a, .a, .a] ⟨StepOK.p rfl rfl rfl (OpOK.geq rfl rfl rfl (decide_eq_true hs1)), trivial⟩ [(2, (vB (decide (((c : Nat) : Int) ≤ (57 : Int)))))] [] (by kernel_rfl) (by kernel_rfl) ?_
  refine AWp.ret ?_
  refine fin_of (.inr rfl) (v := (vB (decide (((c : Nat) : Int) ≤ (57 : Int))))) (Res.tmp rfl rfl) (h' := []) rfl rfl ?_
  exact ⟨congrArg (fun q => vB q) (Bool.eq_iff_iff.2 (by rw [digit_iff]; first | (rw [decide_eq_true_iff]; omega) | (simp; omega))), rfl⟩
 ·skip
  refine AWp.s_reg hGn hGk [.a, .m (some 4) ⟨[(3, (vK .u8 ((c : Nat) : Int)))], [], (vB false), [], []⟩, .a, .a, .a, .a, .a] ⟨StepOK.p rfl rfl rfl (OpOK.geq rfl rfl rfl (decide_eq_false hs1)), trivial⟩ [(2, (vB false))] [] (by kernel_rfl) (by kernel_rfl) ?_
  refine AWp.ret ?_
  refine fin_of (.inr rfl) (v := (vB false)) (Res.tmp rfl rfl) (h' := []) rfl rfl ?_
  exact ⟨congrArg (fun q => vB q) (Bool.eq_iff_iff.2 (by rw [digit_iff]; first | (rw [decide_eq_true_iff]; omega) | (simp; omega))), rfl⟩
theorem lex_Name (t : ByteArray) :
    SpecIs Tryz.prog 89 [(vS t)] [] (vB (nameOK t)) [] := by
 refine Spec.intro Tryz.func89 rfl (by kernel_rfl) ?_
 intro Γ hGn hGk
 replace hGn : Γ.n = 43 := hGn
 replace hGk : Γ.names = [] := hGk
 refine AWp.weaken (mk [(0, (vS t))] []) (Weak.sub' hGk (by kernel_rfl)) ?_
 refine AWp.s_reg hGn hGk (aa 1) (Man.aa _ _) [(0, (vS t))] [] (by kernel_rfl) (by kernel_rfl) ?_
 refine AWp.seq ?_
 by_cases hs1 : t = (ByteArray.mk #[])
 ·skip
  refine AWp.s_reg hGn hGk [.a, .m (some 6) ⟨[(5, (vS t))], [], (vB true), [], []⟩, .a, .a, .a, .a, .a, .a, .a, .a, .a, .a, .a] ⟨StepOK.p rfl rfl rfl (OpOK.eqlS rfl rfl rfl (decide_eq_true hs1)), trivial⟩ [(0, (vS t)), (17, (vB true))] [] (by kernel_rfl) (by kernel_rfl) ?_
  refine AWp.cond_true rfl ?_
  refine AWp.s_reg hGn hGk (aa 1) (Man.aa _ _) [(2, (vB false))] [] (by kernel_rfl) (by kernel_rfl) ?_
  refine AWp.ret ?_
  refine nextQ_ret ?_
  refine fin_of (.inr rfl) (v := (vB false)) (Res.tmp rfl rfl) (h' := []) rfl rfl ?_
  exact ⟨by rw [nameOK_no (s := t) (by first | (left; omega) | (left; rw [‹t = _›]; decide) | (right; left; omega) | exact .inr (.inr (.inl (small_no (by omega)))))], rfl⟩
 ·skip
  by_cases hs2 : (24 : Int) < ((t.size : Nat) : Int)
  ·skip
   refine AWp.s_reg hGn hGk [.a, .m (some 6) ⟨[(5, (vS t))], [], (vB false), [], []⟩, .a, .a, .m (some 9) ⟨[(8, (vS t)), (7, (vB false))], [], (vI ((t.size : Nat) : Int)), [], []⟩, .m (some 10) ⟨[(9, (vI ((t.size : Nat) : Int))), (7, (vB false))], [], (vB true), [], []⟩, .a, .a, .a, .a, .a, .a, .a] ⟨StepOK.p rfl rfl rfl (OpOK.eqlS rfl rfl rfl (decide_eq_false hs1)),
    StepOK.g rfl rfl rfl rfl rfl (by simp) (OpOK.lenS rfl rfl (by kernel_rfl) rfl),
    StepOK.g rfl rfl rfl rfl rfl (by simp) (OpOK.gtr rfl rfl rfl (decide_eq_true hs2)), trivial⟩ [(0, (vS t)), (17, (vB true))] [] (by kernel_rfl) (by kernel_rfl) ?_
   refine AWp.cond_true rfl ?_
   refine AWp.s_reg hGn hGk (aa 1) (Man.aa _ _) [(2, (vB false))] [] (by kernel_rfl) (by kernel_rfl) ?_
   refine AWp.ret ?_
   refine nextQ_ret ?_
   refine fin_of (.inr rfl) (v := (vB false)) (Res.tmp rfl rfl) (h' := []) rfl rfl ?_
   exact ⟨by rw [nameOK_no (s := t) (by first | (left; omega) | (left; rw [‹t = _›]; decide) | (right; left; omega) | exact .inr (.inr (.inl (small_no (by omega)))))], rfl⟩
  ·skip
   refine AWp.s_reg hGn hGk [.a, .m (some 6) ⟨[(5, (vS t))], [], (vB false), [], []⟩, .a, .a, .m (some 9) ⟨[(8, (vS t)), (7, (vB false))], [], (vI ((t.size : Nat) : Int)), [], []⟩, .m (some 10) ⟨[(9, (vI ((t.size : Nat) : Int))), (7, (vB false))], [], (vB false), [], []⟩, .a, .a, .a, .m (some 14) ⟨[(13, (vS t)), (12, (vB false))], [], (vK .u8 ((bAt t 0 : Nat) : Int)), [], []⟩, .m (some 15) ⟨[(14, (vK .u8 ((bAt t 0 : Nat) : Int))), (12, (vB false))], [], (vB (small (bAt t 0))), [], []⟩, .a, .a] ⟨StepOK.p rfl rfl rfl (OpOK.eqlS rfl rfl rfl (decide_eq_false hs1)),
    StepOK.g rfl rfl rfl rfl rfl (by simp) (OpOK.lenS rfl rfl (by kernel_rfl) rfl),
    StepOK.g rfl rfl rfl rfl rfl (by simp) (OpOK.gtr rfl rfl rfl (decide_eq_false hs2)),
    StepOK.g rfl rfl rfl rfl rfl (by simp) (OpOK.indexS rfl (by kernel_rfl) rfl rfl rfl (by have := size_pos ‹_›; omega)),
    StepOK.g rfl rfl rfl rfl rfl (by simp) (OpOK.call rfl (by kernel_rfl) rfl (lex_small (bAt t 0) (bAt_lt _ _)) (by kernel_rfl)), trivial⟩ [(0, (vS t)), (17, (vB (!(small (bAt t 0)))))] [] (by kernel_rfl) (by kernel_rfl) ?_
   refine AWp.cond (!(small (bAt t 0))) rfl (fun hc3 => ?_) (fun hc3 => ?_)
   ·skip
    replace hc3 : small (bAt t 0) = false := by simpa using hc3
    have ha4 := small_false hc3
    refine AWp.s_reg hGn hGk (aa 1) (Man.aa _ _) [(2, (vB false))] [] (by kernel_rfl) (by kernel_rfl) ?_
    refine AWp.ret ?_
    refine nextQ_ret ?_
    refine fin_of (.inr rfl) (v := (vB false)) (Res.tmp rfl rfl) (h' := []) rfl rfl ?_
    exact ⟨by rw [nameOK_no (s := t) (by first | (left; omega) | (left; rw [‹t = _›]; decide) | (right; left; omega) | exact .inr (.inr (.inl (small_no (by omega)))))], rfl⟩
   ·skip
    replace hc3 : small (bAt t 0) = true := by simpa using hc3
    have ha5 := small_spec hc3
    refine AWp.skip ?_
    refine nextQ_normal ?_
    refine AWp.seq ?_
    refine AWp.s_reg hGn hGk [.a, .m (some 19) ⟨[(18, (vS t))], [], (vI ((t.size : Nat) : Int)), [], []⟩, .a] ⟨StepOK.p rfl rfl rfl (OpOK.lenS rfl rfl (by kernel_rfl) rfl), trivial⟩ [(0, (vS t)), (19, (vI ((t.size : Nat) : Int))), (20, (vI 0))] [] (by kernel_rfl) (by kernel_rfl) ?_
    refine AWp.block ?_
    refine AWp.loop (fun m s => ∃ i, s = (mk [(0, (vS t)), (19, (vI ((t.size : Nat) : Int))), (20, (vI ((i : Nat) : Int)))] []) ∧ (i ≤ t.size) ∧ (∀ j, j < i → nameCh (bAt t j) = true) ∧ m = (t.size - i))
     ⟨_, 0, rfl, (by omega), (by intro j hj; omega), rfl⟩ ?_
    rintro mm6 s ⟨i, rfl, hi, hw, hmm6⟩
    refine AWp.s_reg hGn hGk (aa 1) (Man.aa _ _) [(0, (vS t)), (19, (vI ((t.size : Nat) : Int))), (20, (vI ((i : Nat) : Int))), (21, (vB (decide (((i : Nat) : Int) < ((t.size : Nat) : Int)))))] [] (by kernel_rfl) (by kernel_rfl) ?_
    refine AWp.seq ?_
    refine AWp.cond (decide (((i : Nat) : Int) < ((t.size : Nat) : Int))) rfl (fun hc7 => ?_) (fun hc7 => ?_)
    ·skip
     replace hc7 := of_decide_eq_true hc7
     refine AWp.skip ?_
     refine nextQ_normal ?_
     refine AWp.seq ?_
     refine AWp.block ?_
     refine AWp.s_reg hGn hGk (aa 2) (Man.aa _ _) [(0, (vS t)), (3, (vI ((i : Nat) : Int))), (19, (vI ((t.size : Nat) : Int))), (20, (vI ((i : Nat) : Int)))] [] (by kernel_rfl) (by kernel_rfl) ?_
     refine AWp.s_reg hGn hGk [.a, .a, .m (some 25) ⟨[(23, (vS t)), (24, (vI ((i : Nat) : Int)))], [], (vK .u8 ((bAt t i : Nat) : Int)), [], []⟩, .a] ⟨StepOK.p rfl rfl rfl (OpOK.indexS rfl (by kernel_rfl) rfl rfl rfl (by omega)), trivial⟩ [(0, (vS t)), (4, (vK .u8 ((bAt t i : Nat) : Int))), (19, (vI ((t.size : Nat) : Int))), (20, (vI ((i : Nat) : Int)))] [] (by kernel_rfl) (by kernel_rfl) ?_
     cases hs8 : small (bAt t i)
     ·skip
      have ha9 := small_false hs8
      cases hs10 : digitB (bAt t i)
      ·skip
       have ha11 := digit_false hs10
       by_cases hs12 : ((bAt t i : Nat) : Int) ≠ (95 : Int)
       ·skip
        refine AWp.s_reg hGn hGk [.a, .m (some 27) ⟨[(26, (vK .u8 ((bAt t i : Nat) : Int)))], [], (vB false), [], []⟩, .a, .a, .a, .m (some 31) ⟨[(30, (vK .u8 ((bAt t i : Nat) : Int))), (29, (vB true))], [], (vB false), [], []⟩, .a, .a, .a, .a, .m (some 36) ⟨[(35, (vK .u8 ((bAt t i : Nat) : Int))), (34, (vB true))], [], (vB true), [], []⟩, .a, .a, .a, .a, .a] ⟨StepOK.p rfl rfl rfl (OpOK.call rfl (by kernel_rfl) rfl (by have hq := (lex_small (bAt t i) (bAt_lt _ _)); rw [hs8] at hq; exact hq) (by kernel_rfl)),
         StepOK.g rfl rfl rfl rfl rfl (by simp) (OpOK.call rfl (by kernel_rfl) rfl (by have hq := (lex_digit (bAt t i) (bAt_lt _ _)); rw [hs10] at hq; exact hq) (by kernel_rfl)),
         StepOK.g rfl rfl rfl rfl rfl (by simp) (OpOK.neqI rfl rfl rfl (decide_eq_true hs12)), trivial⟩ [(0, (vS t)), (19, (vI ((t.size : Nat) : Int))), (20, (vI ((i : Nat) : Int))), (41, (vB (decide (((bAt t i : Nat) : Int) ≠ (45 : Int)))))] [] (by kernel_rfl) (by kernel_rfl) ?_
        refine AWp.cond (decide (((bAt t i : Nat) : Int) ≠ (45 : Int))) rfl (fun hc13 => ?_) (fun hc13 => ?_)
        ·skip
         replace hc13 := of_decide_eq_true hc13
         refine AWp.s_reg hGn hGk (aa 1) (Man.aa _ _) [(2, (vB false))] [] (by kernel_rfl) (by kernel_rfl) ?_
         refine AWp.ret ?_
         refine blockQ_ret ?_
         refine nextQ_ret ?_
         refine nextQ_ret ?_
         refine blockQ_ret ?_
         refine nextQ_ret ?_
         refine fin_of (.inr rfl) (v := (vB false)) (Res.tmp rfl rfl) (h' := []) rfl rfl ?_
         exact ⟨by rw [nameOK_no (s := t) (.inr (.inr (.inr ⟨i, by omega, nameCh_no (by omega)⟩)))], rfl⟩
        ·skip
         replace hc13 := of_decide_eq_false hc13
         refine AWp.skip ?_
         refine blockQ_normal ?_
         refine nextQ_normal ?_
         refine AWp.reg' hGn hGk [.m (some 42) ⟨[(20, (vI ((i : Nat) : Int)))], [], (vI ((i + 1 : Nat) : Int)), [], []⟩, .a] ⟨StepOK.p rfl rfl rfl (OpOK.add rfl rfl rfl (by rw [IntWalk.i64_in _ ⟨by omega, by omega⟩]; omega)), trivial⟩ [(0, (vS t)), (19, (vI ((t.size : Nat) : Int))), (20, (vI ((i + 1 : Nat) : Int)))] [] (by kernel_rfl) (by kernel_rfl) ?_
         refine nextQ_normal ⟨_, ?_, (i + 1), rfl, (by omega), (fun j hj => by rcases Nat.lt_or_ge j i with h | h; exact hw j h; rw [show j = i from by omega]; exact nameCh_yes (by omega)), rfl⟩
         · omega
       ·skip
        refine AWp.s_reg hGn hGk [.a, .m (some 27) ⟨[(26, (vK .u8 ((bAt t i : Nat) : Int)))], [], (vB false), [], []⟩, .a, .a, .a, .m (some 31) ⟨[(30, (vK .u8 ((bAt t i : Nat) : Int))), (29, (vB true))], [], (vB false), [], []⟩, .a, .a, .a, .a, .m (some 36) ⟨[(35, (vK .u8 ((bAt t i : Nat) : Int))), (34, (vB true))], [], (vB false), [], []⟩, .a, .a, .a, .a, .a] ⟨StepOK.p rfl rfl rfl (OpOK.call rfl (by kernel_rfl) rfl (by have hq := (lex_small (bAt t i) (bAt_lt _ _)); rw [hs8] at hq; exact hq) (by kernel_rfl)),
         StepOK.g rfl rfl rfl rfl rfl (by simp) (OpOK.call rfl (by kernel_rfl) rfl (by have hq := (lex_digit (bAt t i) (bAt_lt _ _)); rw [hs10] at hq; exact hq) (by kernel_rfl)),
         StepOK.g rfl rfl rfl rfl rfl (by simp) (OpOK.neqI rfl rfl rfl (decide_eq_false hs12)), trivial⟩ [(0, (vS t)), (19, (vI ((t.size : Nat) : Int))), (20, (vI ((i : Nat) : Int))), (41, (vB false))] [] (by kernel_rfl) (by kernel_rfl) ?_
        refine AWp.cond_false rfl ?_
        refine AWp.skip ?_
        refine blockQ_normal ?_
        refine nextQ_normal ?_
        refine AWp.reg' hGn hGk [.m (some 42) ⟨[(20, (vI ((i : Nat) : Int)))], [], (vI ((i + 1 : Nat) : Int)), [], []⟩, .a] ⟨StepOK.p rfl rfl rfl (OpOK.add rfl rfl rfl (by rw [IntWalk.i64_in _ ⟨by omega, by omega⟩]; omega)), trivial⟩ [(0, (vS t)), (19, (vI ((t.size : Nat) : Int))), (20, (vI ((i + 1 : Nat) : Int)))] [] (by kernel_rfl) (by kernel_rfl) ?_
        refine nextQ_normal ⟨_, ?_, (i + 1), rfl, (by omega), (fun j hj => by rcases Nat.lt_or_ge j i with h | h; exact hw j h; rw [show j = i from by omega]; exact nameCh_yes (by omega)), rfl⟩
        · omega
      ·skip
       have ha14 := digit_spec hs10
       refine AWp.s_reg hGn hGk [.a, .m (some 27) ⟨[(26, (vK .u8 ((bAt t i : Nat) : Int)))], [], (vB false), [], []⟩, .a, .a, .a, .m (some 31) ⟨[(30, (vK .u8 ((bAt t i : Nat) : Int))), (29, (vB true))], [], (vB true), [], []⟩, .a, .a, .a, .a, .a, .a, .a, .a, .a, .a] ⟨StepOK.p rfl rfl rfl (OpOK.call rfl (by kernel_rfl) rfl (by have hq := (lex_small (bAt t i) (bAt_lt _ _)); rw [hs8] at hq; exact hq) (by kernel_rfl)),
        StepOK.g rfl rfl rfl rfl rfl (by simp) (OpOK.call rfl (by kernel_rfl) rfl (by have hq := (lex_digit (bAt t i) (bAt_lt _ _)); rw [hs10] at hq; exact hq) (by kernel_rfl)), trivial⟩ [(0, (vS t)), (19, (vI ((t.size : Nat) : Int))), (20, (vI ((i : Nat) : Int))), (41, (vB false))] [] (by kernel_rfl) (by kernel_rfl) ?_
       refine AWp.cond_false rfl ?_
       refine AWp.skip ?_
       refine blockQ_normal ?_
       refine nextQ_normal ?_
       refine AWp.reg' hGn hGk [.m (some 42) ⟨[(20, (vI ((i : Nat) : Int)))], [], (vI ((i + 1 : Nat) : Int)), [], []⟩, .a] ⟨StepOK.p rfl rfl rfl (OpOK.add rfl rfl rfl (by rw [IntWalk.i64_in _ ⟨by omega, by omega⟩]; omega)), trivial⟩ [(0, (vS t)), (19, (vI ((t.size : Nat) : Int))), (20, (vI ((i + 1 : Nat) : Int)))] [] (by kernel_rfl) (by kernel_rfl) ?_
       refine nextQ_normal ⟨_, ?_, (i + 1), rfl, (by omega), (fun j hj => by rcases Nat.lt_or_ge j i with h | h; exact hw j h; rw [show j = i from by omega]; exact nameCh_yes (by omega)), rfl⟩
       · omega
     ·skip
      have ha15 := small_spec hs8
      refine AWp.s_reg hGn hGk [.a, .m (some 27) ⟨[(26, (vK .u8 ((bAt t i : Nat) : Int)))], [], (vB true), [], []⟩, .a, .a, .a, .a, .a, .a, .a, .a, .a, .a, .a, .a, .a, .a] ⟨StepOK.p rfl rfl rfl (OpOK.call rfl (by kernel_rfl) rfl (by have hq := (lex_small (bAt t i) (bAt_lt _ _)); rw [hs8] at hq; exact hq) (by kernel_rfl)), trivial⟩ [(0, (vS t)), (19, (vI ((t.size : Nat) : Int))), (20, (vI ((i : Nat) : Int))), (41, (vB false))] [] (by kernel_rfl) (by kernel_rfl) ?_
      refine AWp.cond_false rfl ?_
      refine AWp.skip ?_
      refine blockQ_normal ?_
      refine nextQ_normal ?_
      refine AWp.reg' hGn hGk [.m (some 42) ⟨[(20, (vI ((i : Nat) : Int)))], [], (vI ((i + 1 : Nat) : Int)), [], []⟩, .a] ⟨StepOK.p rfl rfl rfl (OpOK.add rfl rfl rfl (by rw [IntWalk.i64_in _ ⟨by omega, by omega⟩]; omega)), trivial⟩ [(0, (vS t)), (19, (vI ((t.size : Nat) : Int))), (20, (vI ((i + 1 : Nat) : Int)))] [] (by kernel_rfl) (by kernel_rfl) ?_
      refine nextQ_normal ⟨_, ?_, (i + 1), rfl, (by omega), (fun j hj => by rcases Nat.lt_or_ge j i with h | h; exact hw j h; rw [show j = i from by omega]; exact nameCh_yes (by omega)), rfl⟩
      · omega
    ·skip
     replace hc7 := of_decide_eq_false hc7
     refine AWp.weaken (mk [] []) (Weak.sub' hGk (by kernel_rfl)) ?_
     refine AWp.exit ?_
     refine nextQ_exit ?_
     refine nextQ_exit ?_
     refine blockQ_exit ?_
     refine nextQ_normal ?_
     refine AWp.s_reg hGn hGk (aa 1) (Man.aa _ _) [(2, (vB true))] [] (by kernel_rfl) (by kernel_rfl) ?_
     refine AWp.ret ?_
     refine fin_of (.inr rfl) (v := (vB true)) (Res.tmp rfl rfl) (h' := []) rfl rfl ?_
     exact ⟨by rw [nameOK_yes (s := t) (n := i) (by first | omega | exact size_pos ‹_›) (by omega) (small_yes (by omega)) (by omega) hw], rfl⟩
end Go.Proofs.YtimfbibaoppfcaaGreatDoor
