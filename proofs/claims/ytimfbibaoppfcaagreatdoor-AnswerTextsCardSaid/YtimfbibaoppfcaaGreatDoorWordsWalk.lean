/-
  The walks of numerals and words of the reference. Printed by wip/gen/pol.py.
-/
import Derived.Test.YtimfbibaoppfcaaGreatDoorAnsRef
import Derived.Test.YtimfbibaoppfcaaGreatDoorPolWalk
set_option maxRecDepth 100000
set_option linter.unusedSimpArgs false
set_option linter.unusedVariables false
namespace Go.Proofs.YtimfbibaoppfcaaGreatDoor
open Go AM
theorem ref_Decimal (n : Int) (h0 : 0 ≤ n) (h1 : n ≤ 9223372036854775807) :
    SpecIs Tryz.prog 14 [(vI n)] [] (vS (itoaB n)) [] := by
 refine Spec.intro Tryz.func14 rfl (by kernel_rfl) ?_
 intro Γ hGn hGk
 replace hGn : Γ.n = 21 := hGn
 replace hGk : Γ.names = [] := hGk
 refine AWp.weaken (mk [(0, (vI n))] []) (Weak.sub' hGk (by kernel_rfl)) ?_
 refine AWp.s_reg hGn hGk (aa 1) (Man.aa _ _) [(0, (vI n))] [] (by kernel_rfl) (by kernel_rfl) ?_
 refine AWp.s_reg hGn hGk (aa 1) (Man.aa _ _) [(0, (vI n)), (3, (vS (ByteArray.mk #[])))] [] (by kernel_rfl) (by kernel_rfl) ?_
 refine AWp.seq ?_
 refine AWp.block ?_
 refine AWp.loop (fun m s => ∃ (q : Int), ∃ (z : ByteArray), s = (mk [(0, (vI q)), (3, (vS z))] []) ∧ (decInv n q z) ∧ (q ≤ n) ∧ m = (decM q z))
  ⟨_, n, b0, rfl, (decInv_start h0), (Int.le_refl _), rfl⟩ ?_
 rintro mm1 s ⟨q, z, rfl, hv, hmn, hmm1⟩
 have hm0 := decInv_m hv
 refine AWp.seq ?_
 by_cases hs2 : (0 : Int) < q
 ·skip
  refine AWp.s_reg hGn hGk [.a, .m (some 5) ⟨[(4, (vI q))], [], (vB true), [], []⟩, .a, .a, .a, .a] ⟨StepOK.p rfl rfl rfl (OpOK.gtr rfl rfl rfl (decide_eq_true hs2)), trivial⟩ [(0, (vI q)), (3, (vS z)), (9, (vB true))] [] (by kernel_rfl) (by kernel_rfl) ?_
  refine AWp.cond_true rfl ?_
  refine AWp.skip ?_
  refine nextQ_normal ?_
  refine AWp.block ?_
  refine AWp.s_reg hGn hGk [.a, .m (some 11) ⟨[(10, (vI q))], [], (vI (q % 10)), [], []⟩, .m (some 12) ⟨[(11, (vI (q % 10)))], [], (vI (48 + (q % 10))), [], []⟩, .m (some 13) ⟨[(12, (vI (48 + (q % 10))))], [], (vK .u8 (48 + (q % 10))), [], []⟩, .a, .m (some 15) ⟨[(14, (.p (.sl true 1 [[(pK .u8 (48 + (q % 10)))]])))], [], (vS (ByteArray.mk #[UInt8.ofNat (48 + (q % 10)).toNat])), [], []⟩, .a, .m (some 17) ⟨[(15, (vS (ByteArray.mk #[UInt8.ofNat (48 + (q % 10)).toNat]))), (16, (vS z))], [], (vS ((ByteArray.mk #[UInt8.ofNat (48 + (q % 10)).toNat]) ++ z)), [], []⟩, .a] ⟨StepOK.p rfl rfl rfl (OpOK.rem rfl rfl rfl (by omega) (Int.tmod_eq_emod_of_nonneg (by omega))),
   StepOK.p rfl rfl rfl (OpOK.add rfl rfl rfl (IntWalk.i64_in _ ⟨by omega, by omega⟩)),
   StepOK.p rfl rfl rfl (OpOK.convI rfl (by kernel_rfl) (by kernel_rfl) rfl (IntWalk.u8_in _ ⟨by omega, by omega⟩)),
   StepOK.p rfl rfl rfl (OpOK.convB rfl (by kernel_rfl) (by kernel_rfl) rfl rfl),
   StepOK.p rfl rfl rfl (OpOK.addS rfl rfl rfl (sz_le (m := 1) (n := 21) (show ByteArray.size (ByteArray.mk #[UInt8.ofNat (48 + (q % 10)).toNat]) ≤ 1 from Nat.le_refl _) (decInv_size hv h0 h1) rfl) rfl), trivial⟩ [(0, (vI q)), (3, (vS ((ByteArray.mk #[UInt8.ofNat (48 + (q % 10)).toNat]) ++ z)))] [] (by kernel_rfl) (by kernel_rfl) ?_
  refine AWp.reg' hGn hGk [.a, .m (some 19) ⟨[(18, (vI q))], [], (vI (q / 10)), [], []⟩, .a] ⟨StepOK.p rfl rfl rfl (OpOK.quo rfl rfl rfl (by omega) (IntWalk.i64_quo _ _ ⟨by omega, by omega, by omega⟩)), trivial⟩ [(0, (vI (q / 10))), (3, (vS ((ByteArray.mk #[UInt8.ofNat (48 + (q % 10)).toNat]) ++ z)))] [] (by kernel_rfl) (by kernel_rfl) ?_
  refine blockQ_normal ?_
  refine nextQ_normal ⟨_, ?_, (q / 10), ((ByteArray.mk #[UInt8.ofNat (48 + (q % 10)).toNat]) ++ z), rfl, (decInv_step hv (by first | (left; assumption) | (right; assumption))), (by omega), rfl⟩
  · have hdm := decM_step (x := ByteArray.mk #[UInt8.ofNat (48 + q % 10).toNat]) (s := z) (Nat.le_refl 1) hm0 (by first | (left; assumption) | (right; assumption)); omega
 ·skip
  refine AWp.s_reg hGn hGk [.a, .m (some 5) ⟨[(4, (vI q))], [], (vB false), [], []⟩, .a, .a, .a, .a] ⟨StepOK.p rfl rfl rfl (OpOK.gtr rfl rfl rfl (decide_eq_false hs2)), trivial⟩ [(0, (vI q)), (3, (vS z)), (9, (vB (decide (z = (ByteArray.mk #[])))))] [] (by kernel_rfl) (by kernel_rfl) ?_
  refine AWp.cond (decide (z = (ByteArray.mk #[]))) rfl (fun hc3 => ?_) (fun hc3 => ?_)
  ·skip
   replace hc3 := of_decide_eq_true hc3
   refine AWp.skip ?_
   refine nextQ_normal ?_
   refine AWp.block ?_
   refine AWp.s_reg hGn hGk [.a, .m (some 11) ⟨[(10, (vI q))], [], (vI (q % 10)), [], []⟩, .m (some 12) ⟨[(11, (vI (q % 10)))], [], (vI (48 + (q % 10))), [], []⟩, .m (some 13) ⟨[(12, (vI (48 + (q % 10))))], [], (vK .u8 (48 + (q % 10))), [], []⟩, .a, .m (some 15) ⟨[(14, (.p (.sl true 1 [[(pK .u8 (48 + (q % 10)))]])))], [], (vS (ByteArray.mk #[UInt8.ofNat (48 + (q % 10)).toNat])), [], []⟩, .a, .m (some 17) ⟨[(15, (vS (ByteArray.mk #[UInt8.ofNat (48 + (q % 10)).toNat]))), (16, (vS z))], [], (vS ((ByteArray.mk #[UInt8.ofNat (48 + (q % 10)).toNat]) ++ z)), [], []⟩, .a] ⟨StepOK.p rfl rfl rfl (OpOK.rem rfl rfl rfl (by omega) (Int.tmod_eq_emod_of_nonneg (by omega))),
    StepOK.p rfl rfl rfl (OpOK.add rfl rfl rfl (IntWalk.i64_in _ ⟨by omega, by omega⟩)),
    StepOK.p rfl rfl rfl (OpOK.convI rfl (by kernel_rfl) (by kernel_rfl) rfl (IntWalk.u8_in _ ⟨by omega, by omega⟩)),
    StepOK.p rfl rfl rfl (OpOK.convB rfl (by kernel_rfl) (by kernel_rfl) rfl rfl),
    StepOK.p rfl rfl rfl (OpOK.addS rfl rfl rfl (sz_le (m := 1) (n := 21) (show ByteArray.size (ByteArray.mk #[UInt8.ofNat (48 + (q % 10)).toNat]) ≤ 1 from Nat.le_refl _) (decInv_size hv h0 h1) rfl) rfl), trivial⟩ [(0, (vI q)), (3, (vS ((ByteArray.mk #[UInt8.ofNat (48 + (q % 10)).toNat]) ++ z)))] [] (by kernel_rfl) (by kernel_rfl) ?_
   refine AWp.reg' hGn hGk [.a, .m (some 19) ⟨[(18, (vI q))], [], (vI (q / 10)), [], []⟩, .a] ⟨StepOK.p rfl rfl rfl (OpOK.quo rfl rfl rfl (by omega) (IntWalk.i64_quo _ _ ⟨by omega, by omega, by omega⟩)), trivial⟩ [(0, (vI (q / 10))), (3, (vS ((ByteArray.mk #[UInt8.ofNat (48 + (q % 10)).toNat]) ++ z)))] [] (by kernel_rfl) (by kernel_rfl) ?_
   refine blockQ_normal ?_
   refine nextQ_normal ⟨_, ?_, (q / 10), ((ByteArray.mk #[UInt8.ofNat (48 + (q % 10)).toNat]) ++ z), rfl, (decInv_step hv (by first | (left; assumption) | (right; assumption))), (by omega), rfl⟩
   · have hdm := decM_step (x := ByteArray.mk #[UInt8.ofNat (48 + q % 10).toNat]) (s := z) (Nat.le_refl 1) hm0 (by first | (left; assumption) | (right; assumption)); omega
  ·skip
   replace hc3 := of_decide_eq_false hc3
   refine AWp.weaken (mk [(3, (vS z))] []) (Weak.sub' hGk (by kernel_rfl)) ?_
   refine AWp.exit ?_
   refine nextQ_exit ?_
   refine nextQ_exit ?_
   refine blockQ_exit ?_
   refine nextQ_normal ?_
   refine AWp.s_reg hGn hGk (aa 2) (Man.aa _ _) [(2, (vS z))] [] (by kernel_rfl) (by kernel_rfl) ?_
   refine AWp.ret ?_
   refine fin_of (.inr rfl) (v := (vS z)) (Res.tmp rfl rfl) (h' := []) rfl rfl ?_
   exact ⟨by rw [decInv_end hv (by omega) (by assumption)], rfl⟩
theorem ref_Number (t : ByteArray) (m : Int) (hs : t.size ≤ 281474976710656) (hm : m ≤ 12) :
    SpecIs Tryz.prog 52 [(vS t), (vI m)] [] (.tup [(vI ((numR t m).1)), (vB ((numR t m).2))]) [] := by
 refine Spec.intro Tryz.func52 rfl (by kernel_rfl) ?_
 intro Γ hGn hGk
 replace hGn : Γ.n = 51 := hGn
 replace hGk : Γ.names = [] := hGk
 refine AWp.weaken (mk [(0, (vS t)), (1, (vI m))] []) (Weak.sub' hGk (by kernel_rfl)) ?_
 refine AWp.s_reg hGn hGk (aa 2) (Man.aa _ _) [(0, (vS t)), (1, (vI m))] [] (by kernel_rfl) (by kernel_rfl) ?_
 refine AWp.seq ?_
 by_cases hs1 : t = (ByteArray.mk #[])
 ·skip
  refine AWp.s_reg hGn hGk [.a, .m (some 9) ⟨[(8, (vS t))], [], (vB true), [], []⟩, .a, .a, .a, .a, .a, .a, .a, .a, .a, .a, .a, .a, .a, .a, .a, .a] ⟨StepOK.p rfl rfl rfl (OpOK.eqlS rfl rfl rfl (decide_eq_true hs1)), trivial⟩ [(0, (vS t)), (25, (vB true))] [] (by kernel_rfl) (by kernel_rfl) ?_
  refine AWp.cond_true rfl ?_
  refine AWp.s_reg hGn hGk (aa 2) (Man.aa _ _) [(4, (vI 0)), (5, (vB false))] [] (by kernel_rfl) (by kernel_rfl) ?_
  refine AWp.ret ?_
  refine nextQ_ret ?_
  refine fin_of (.inr rfl) (v := (.tup [(vI 0), (vB false)])) (Res.many (by kernel_rfl) (Res1s.cons (Res1.tmp rfl) (Res1s.cons (Res1.tmp rfl) Res1s.nil))) (h' := []) rfl rfl ?_
  exact ⟨by rw [numR_no (s := t) (m := m) (by first | (left; assumption) | (right; left; omega) | (right; right; left; constructor <;> omega) | (right; right; right; exact ⟨i, by omega, by omega⟩))], rfl⟩
 ·skip
  by_cases hs2 : m < ((t.size : Nat) : Int)
  ·skip
   refine AWp.s_reg hGn hGk [.a, .m (some 9) ⟨[(8, (vS t))], [], (vB false), [], []⟩, .a, .a, .m (some 12) ⟨[(11, (vS t)), (10, (vB false))], [], (vI ((t.size : Nat) : Int)), [], []⟩, .a, .m (some 14) ⟨[(12, (vI ((t.size : Nat) : Int))), (13, (vI m)), (10, (vB false))], [], (vB true), [], []⟩, .a, .a, .a, .a, .a, .a, .a, .a, .a, .a, .a] ⟨StepOK.p rfl rfl rfl (OpOK.eqlS rfl rfl rfl (decide_eq_false hs1)),
    StepOK.g rfl rfl rfl rfl rfl (by simp) (OpOK.lenS rfl rfl (by kernel_rfl) rfl),
    StepOK.g rfl rfl rfl rfl rfl (by simp) (OpOK.gtr rfl rfl rfl (decide_eq_true hs2)), trivial⟩ [(0, (vS t)), (25, (vB true))] [] (by kernel_rfl) (by kernel_rfl) ?_
   refine AWp.cond_true rfl ?_
   refine AWp.s_reg hGn hGk (aa 2) (Man.aa _ _) [(4, (vI 0)), (5, (vB false))] [] (by kernel_rfl) (by kernel_rfl) ?_
   refine AWp.ret ?_
   refine nextQ_ret ?_
   refine fin_of (.inr rfl) (v := (.tup [(vI 0), (vB false)])) (Res.many (by kernel_rfl) (Res1s.cons (Res1.tmp rfl) (Res1s.cons (Res1.tmp rfl) Res1s.nil))) (h' := []) rfl rfl ?_
   exact ⟨by rw [numR_no (s := t) (m := m) (by first | (left; assumption) | (right; left; omega) | (right; right; left; constructor <;> omega) | (right; right; right; exact ⟨i, by omega, by omega⟩))], rfl⟩
  ·skip
   by_cases hs3 : (1 : Int) < ((t.size : Nat) : Int)
   ·skip
    refine AWp.s_reg hGn hGk [.a, .m (some 9) ⟨[(8, (vS t))], [], (vB false), [], []⟩, .a, .a, .m (some 12) ⟨[(11, (vS t)), (10, (vB false))], [], (vI ((t.size : Nat) : Int)), [], []⟩, .a, .m (some 14) ⟨[(12, (vI ((t.size : Nat) : Int))), (13, (vI m)), (10, (vB false))], [], (vB false), [], []⟩, .a, .a, .a, .m (some 18) ⟨[(17, (vS t)), (16, (vB false))], [], (vI ((t.size : Nat) : Int)), [], []⟩, .m (some 19) ⟨[(18, (vI ((t.size : Nat) : Int))), (16, (vB false))], [], (vB true), [], []⟩, .a, .a, .m (some 22) ⟨[(21, (vS t)), (20, (vB true))], [], (vK .u8 ((bAt t 0 : Nat) : Int)), [], []⟩, .a, .a, .a] ⟨StepOK.p rfl rfl rfl (OpOK.eqlS rfl rfl rfl (decide_eq_false hs1)),
     StepOK.g rfl rfl rfl rfl rfl (by simp) (OpOK.lenS rfl rfl (by kernel_rfl) rfl),
     StepOK.g rfl rfl rfl rfl rfl (by simp) (OpOK.gtr rfl rfl rfl (decide_eq_false hs2)),
     StepOK.g rfl rfl rfl rfl rfl (by simp) (OpOK.lenS rfl rfl (by kernel_rfl) rfl),
     StepOK.g rfl rfl rfl rfl rfl (by simp) (OpOK.gtr rfl rfl rfl (decide_eq_true hs3)),
     StepOK.g rfl rfl rfl rfl rfl (by simp) (OpOK.indexS rfl (by kernel_rfl) rfl rfl rfl (by omega)), trivial⟩ [(0, (vS t)), (25, (vB (decide (((bAt t 0 : Nat) : Int) = (48 : Int)))))] [] (by kernel_rfl) (by kernel_rfl) ?_
    refine AWp.cond (decide (((bAt t 0 : Nat) : Int) = (48 : Int))) rfl (fun hc4 => ?_) (fun hc4 => ?_)
    ·skip
     replace hc4 := of_decide_eq_true hc4
     refine AWp.s_reg hGn hGk (aa 2) (Man.aa _ _) [(4, (vI 0)), (5, (vB false))] [] (by kernel_rfl) (by kernel_rfl) ?_
     refine AWp.ret ?_
     refine nextQ_ret ?_
     refine fin_of (.inr rfl) (v := (.tup [(vI 0), (vB false)])) (Res.many (by kernel_rfl) (Res1s.cons (Res1.tmp rfl) (Res1s.cons (Res1.tmp rfl) Res1s.nil))) (h' := []) rfl rfl ?_
     exact ⟨by rw [numR_no (s := t) (m := m) (by first | (left; assumption) | (right; left; omega) | (right; right; left; constructor <;> omega) | (right; right; right; exact ⟨i, by omega, by omega⟩))], rfl⟩
    ·skip
     replace hc4 := of_decide_eq_false hc4
     refine AWp.skip ?_
     refine nextQ_normal ?_
     refine AWp.s_reg hGn hGk (aa 1) (Man.aa _ _) [(0, (vS t)), (6, (vI 0))] [] (by kernel_rfl) (by kernel_rfl) ?_
     refine AWp.seq ?_
     refine AWp.s_reg hGn hGk (aa 1) (Man.aa _ _) [(0, (vS t)), (6, (vI 0)), (7, (vI 0))] [] (by kernel_rfl) (by kernel_rfl) ?_
     refine AWp.block ?_
     refine AWp.loop (fun m s => ∃ i, s = (mk [(0, (vS t)), (6, (vI ((valT t i : Nat) : Int))), (7, (vI ((i : Nat) : Int)))] []) ∧ (i ≤ t.size) ∧ (∀ j, j < i → 48 ≤ bAt t j ∧ bAt t j ≤ 57) ∧ m = (t.size - i))
      ⟨_, 0, rfl, (by omega), (by intro j hj; omega), rfl⟩ ?_
     rintro mm5 s ⟨i, rfl, hi, hd, hmm5⟩
     have hvl := valT_lt (s := t) (i := i) (by omega) hi hd
     refine AWp.seq ?_
     refine AWp.s_reg hGn hGk [.a, .a, .m (some 28) ⟨[(27, (vS t))], [], (vI ((t.size : Nat) : Int)), [], []⟩, .a] ⟨StepOK.p rfl rfl rfl (OpOK.lenS rfl rfl (by kernel_rfl) rfl), trivial⟩ [(0, (vS t)), (6, (vI ((valT t i : Nat) : Int))), (7, (vI ((i : Nat) : Int))), (29, (vB (decide (((i : Nat) : Int) < ((t.size : Nat) : Int)))))] [] (by kernel_rfl) (by kernel_rfl) ?_
     refine AWp.cond (decide (((i : Nat) : Int) < ((t.size : Nat) : Int))) rfl (fun hc6 => ?_) (fun hc6 => ?_)
     ·skip
      replace hc6 := of_decide_eq_true hc6
      refine AWp.skip ?_
      refine nextQ_normal ?_
      refine AWp.seq ?_
      refine AWp.block ?_
      refine AWp.seq ?_
      by_cases hs7 : ((bAt t i : Nat) : Int) < (48 : Int)
      ·skip
       first | refine AWp.cast (show (mk [(0, (vS t)), (6, (vI ((valT t i : Nat) : Int))), (7, (vI ((i : Nat) : Int))), (29, (vB (decide (((i : Nat) : Int) < ((t.size : Nat) : Int)))))] []) = (mk [(0, (vS t)), (6, (vI ((valT t i : Nat) : Int))), (7, (vI ((i : Nat) : Int))), (29, (vB true))] []) from by rw [(decide_eq_true hc6)]) ?_ | skip
       refine AWp.s_reg hGn hGk [.a, .a, .m (some 34) ⟨[(32, (vS t)), (33, (vI ((i : Nat) : Int)))], [], (vK .u8 ((bAt t i : Nat) : Int)), [], []⟩, .m (some 35) ⟨[(34, (vK .u8 ((bAt t i : Nat) : Int)))], [], (vB true), [], []⟩, .a, .a, .a, .a, .a, .a] ⟨StepOK.p rfl rfl rfl (OpOK.indexS rfl (by kernel_rfl) rfl rfl rfl (by omega)),
        StepOK.p rfl rfl rfl (OpOK.lss rfl rfl rfl (decide_eq_true hs7)), trivial⟩ [(0, (vS t)), (6, (vI ((valT t i : Nat) : Int))), (7, (vI ((i : Nat) : Int))), (41, (vB true))] [] (by kernel_rfl) (by kernel_rfl) ?_
       refine AWp.cond_true rfl ?_
       refine AWp.s_reg hGn hGk (aa 2) (Man.aa _ _) [(4, (vI 0)), (5, (vB false))] [] (by kernel_rfl) (by kernel_rfl) ?_
       refine AWp.ret ?_
       refine nextQ_ret ?_
       refine blockQ_ret ?_
       refine nextQ_ret ?_
       refine nextQ_ret ?_
       refine blockQ_ret ?_
       refine nextQ_ret ?_
       refine fin_of (.inr rfl) (v := (.tup [(vI 0), (vB false)])) (Res.many (by kernel_rfl) (Res1s.cons (Res1.tmp rfl) (Res1s.cons (Res1.tmp rfl) Res1s.nil))) (h' := []) rfl rfl ?_
       exact ⟨by rw [numR_no (s := t) (m := m) (by first | (left; assumption) | (right; left; omega) | (right; right; left; constructor <;> omega) | (right; right; right; exact ⟨i, by omega, by omega⟩))], rfl⟩
      ·skip
       first | refine AWp.cast (show (mk [(0, (vS t)), (6, (vI ((valT t i : Nat) : Int))), (7, (vI ((i : Nat) : Int))), (29, (vB (decide (((i : Nat) : Int) < ((t.size : Nat) : Int)))))] []) = (mk [(0, (vS t)), (6, (vI ((valT t i : Nat) : Int))), (7, (vI ((i : Nat) : Int))), (29, (vB true))] []) from by rw [(decide_eq_true hc6)]) ?_ | skip
       refine AWp.s_reg hGn hGk [.a, .a, .m (some 34) ⟨[(32, (vS t)), (33, (vI ((i : Nat) : Int)))], [], (vK .u8 ((bAt t i : Nat) : Int)), [], []⟩, .m (some 35) ⟨[(34, (vK .u8 ((bAt t i : Nat) : Int)))], [], (vB false), [], []⟩, .a, .a, .a, .m (some 39) ⟨[(37, (vS t)), (38, (vI ((i : Nat) : Int))), (36, (vB false))], [], (vK .u8 ((bAt t i : Nat) : Int)), [], []⟩, .a, .a] ⟨StepOK.p rfl rfl rfl (OpOK.indexS rfl (by kernel_rfl) rfl rfl rfl (by omega)),
        StepOK.p rfl rfl rfl (OpOK.lss rfl rfl rfl (decide_eq_false hs7)),
        StepOK.g rfl rfl rfl rfl rfl (by simp) (OpOK.indexS rfl (by kernel_rfl) rfl rfl rfl (by omega)), trivial⟩ [(0, (vS t)), (6, (vI ((valT t i : Nat) : Int))), (7, (vI ((i : Nat) : Int))), (41, (vB (decide ((57 : Int) < ((bAt t i : Nat) : Int)))))] [] (by kernel_rfl) (by kernel_rfl) ?_
       refine AWp.cond (decide ((57 : Int) < ((bAt t i : Nat) : Int))) rfl (fun hc8 => ?_) (fun hc8 => ?_)
       ·skip
        replace hc8 := of_decide_eq_true hc8
        refine AWp.s_reg hGn hGk (aa 2) (Man.aa _ _) [(4, (vI 0)), (5, (vB false))] [] (by kernel_rfl) (by kernel_rfl) ?_
        refine AWp.ret ?_
        refine nextQ_ret ?_
        refine blockQ_ret ?_
        refine nextQ_ret ?_
        refine nextQ_ret ?_
        refine blockQ_ret ?_
        refine nextQ_ret ?_
        refine fin_of (.inr rfl) (v := (.tup [(vI 0), (vB false)])) (Res.many (by kernel_rfl) (Res1s.cons (Res1.tmp rfl) (Res1s.cons (Res1.tmp rfl) Res1s.nil))) (h' := []) rfl rfl ?_
        exact ⟨by rw [numR_no (s := t) (m := m) (by first | (left; assumption) | (right; left; omega) | (right; right; left; constructor <;> omega) | (right; right; right; exact ⟨i, by omega, by omega⟩))], rfl⟩
       ·skip
        replace hc8 := of_decide_eq_false hc8
        refine AWp.skip ?_
        refine nextQ_normal ?_
        have hb9 := bAt_lt t i
        refine AWp.reg' hGn hGk [.a, .m (some 43) ⟨[(42, (vI ((valT t i : Nat) : Int)))], [], (vI ((10 * (valT t i) : Nat) : Int)), [], []⟩, .a, .a, .m (some 46) ⟨[(44, (vS t)), (45, (vI ((i : Nat) : Int)))], [], (vK .u8 ((bAt t i : Nat) : Int)), [], []⟩, .m (some 47) ⟨[(46, (vK .u8 ((bAt t i : Nat) : Int)))], [], (vK .u8 (((bAt t i) - 48 : Nat) : Int)), [], []⟩, .m (some 48) ⟨[(47, (vK .u8 (((bAt t i) - 48 : Nat) : Int)))], [], (vI (((bAt t i) - 48 : Nat) : Int)), [], []⟩, .m (some 49) ⟨[(43, (vI ((10 * (valT t i) : Nat) : Int))), (48, (vI (((bAt t i) - 48 : Nat) : Int)))], [], (vI (((10 * (valT t i)) + ((bAt t i) - 48) : Nat) : Int)), [], []⟩, .a] ⟨StepOK.p rfl rfl rfl (OpOK.mul rfl rfl rfl (by rw [IntWalk.i64_in _ ⟨by omega, by omega⟩]; simp)),
         StepOK.p rfl rfl rfl (OpOK.indexS rfl (by kernel_rfl) rfl rfl rfl (by omega)),
         StepOK.p rfl rfl rfl (OpOK.sub rfl rfl rfl (by rw [IntWalk.u8_in _ ⟨by omega, by omega⟩]; omega)),
         StepOK.p rfl rfl rfl (OpOK.convI rfl (by kernel_rfl) (by kernel_rfl) rfl (IntWalk.i64_in _ ⟨by omega, by omega⟩)),
         StepOK.p rfl rfl rfl (OpOK.add rfl rfl rfl (by rw [IntWalk.i64_in _ ⟨by omega, by omega⟩]; omega)), trivial⟩ [(0, (vS t)), (6, (vI (((10 * (valT t i)) + ((bAt t i) - 48) : Nat) : Int))), (7, (vI ((i : Nat) : Int)))] [] (by kernel_rfl) (by kernel_rfl) ?_
        refine blockQ_normal ?_
        refine nextQ_normal ?_
        refine AWp.reg' hGn hGk [.a, .m (some 31) ⟨[(30, (vI ((i : Nat) : Int)))], [], (vI ((i + 1 : Nat) : Int)), [], []⟩, .a] ⟨StepOK.p rfl rfl rfl (OpOK.add rfl rfl rfl (by rw [IntWalk.i64_in _ ⟨by omega, by omega⟩]; omega)), trivial⟩ [(0, (vS t)), (6, (vI (((10 * (valT t i)) + ((bAt t i) - 48) : Nat) : Int))), (7, (vI ((i + 1 : Nat) : Int)))] [] (by kernel_rfl) (by kernel_rfl) ?_
        refine nextQ_normal ⟨_, ?_, (i + 1), (by rw [valT_step (by omega)] <;> rfl), (by omega), (fun j hj => by rcases Nat.lt_or_ge j i with h | h; exact hd j h; rw [show j = i from by omega]; omega), rfl⟩
        · omega
     ·skip
      replace hc6 := of_decide_eq_false hc6
      refine AWp.weaken (mk [(6, (vI ((valT t i : Nat) : Int)))] []) (Weak.sub' hGk (by kernel_rfl)) ?_
      refine AWp.exit ?_
      refine nextQ_exit ?_
      refine nextQ_exit ?_
      refine blockQ_exit ?_
      refine nextQ_normal ?_
      refine AWp.s_reg hGn hGk (aa 3) (Man.aa _ _) [(4, (vI ((valT t i : Nat) : Int))), (5, (vB true))] [] (by kernel_rfl) (by kernel_rfl) ?_
      refine AWp.ret ?_
      refine fin_of (.inr rfl) (v := (.tup [(vI ((valT t i : Nat) : Int)), (vB true)])) (Res.many (by kernel_rfl) (Res1s.cons (Res1.tmp rfl) (Res1s.cons (Res1.tmp rfl) Res1s.nil))) (h' := []) rfl rfl ?_
      exact ⟨by rw [numR_yes (s := t) (m := m) (by assumption) (by omega) (by first | omega | (intro h; omega)) (fun j hj => hd j (by omega)), ← valT_all, show i = t.size by omega], rfl⟩
   ·skip
    refine AWp.s_reg hGn hGk [.a, .m (some 9) ⟨[(8, (vS t))], [], (vB false), [], []⟩, .a, .a, .m (some 12) ⟨[(11, (vS t)), (10, (vB false))], [], (vI ((t.size : Nat) : Int)), [], []⟩, .a, .m (some 14) ⟨[(12, (vI ((t.size : Nat) : Int))), (13, (vI m)), (10, (vB false))], [], (vB false), [], []⟩, .a, .a, .a, .m (some 18) ⟨[(17, (vS t)), (16, (vB false))], [], (vI ((t.size : Nat) : Int)), [], []⟩, .m (some 19) ⟨[(18, (vI ((t.size : Nat) : Int))), (16, (vB false))], [], (vB false), [], []⟩, .a, .a, .a, .a, .a, .a] ⟨StepOK.p rfl rfl rfl (OpOK.eqlS rfl rfl rfl (decide_eq_false hs1)),
     StepOK.g rfl rfl rfl rfl rfl (by simp) (OpOK.lenS rfl rfl (by kernel_rfl) rfl),
     StepOK.g rfl rfl rfl rfl rfl (by simp) (OpOK.gtr rfl rfl rfl (decide_eq_false hs2)),
     StepOK.g rfl rfl rfl rfl rfl (by simp) (OpOK.lenS rfl rfl (by kernel_rfl) rfl),
     StepOK.g rfl rfl rfl rfl rfl (by simp) (OpOK.gtr rfl rfl rfl (decide_eq_false hs3)), trivial⟩ [(0, (vS t)), (25, (vB false))] [] (by kernel_rfl) (by kernel_rfl) ?_
    refine AWp.cond_false rfl ?_
    refine AWp.skip ?_
    refine nextQ_normal ?_
    refine AWp.s_reg hGn hGk (aa 1) (Man.aa _ _) [(0, (vS t)), (6, (vI 0))] [] (by kernel_rfl) (by kernel_rfl) ?_
    refine AWp.seq ?_
    refine AWp.s_reg hGn hGk (aa 1) (Man.aa _ _) [(0, (vS t)), (6, (vI 0)), (7, (vI 0))] [] (by kernel_rfl) (by kernel_rfl) ?_
    refine AWp.block ?_
    refine AWp.loop (fun m s => ∃ i, s = (mk [(0, (vS t)), (6, (vI ((valT t i : Nat) : Int))), (7, (vI ((i : Nat) : Int)))] []) ∧ (i ≤ t.size) ∧ (∀ j, j < i → 48 ≤ bAt t j ∧ bAt t j ≤ 57) ∧ m = (t.size - i))
     ⟨_, 0, rfl, (by omega), (by intro j hj; omega), rfl⟩ ?_
    rintro mm9 s ⟨i, rfl, hi, hd, hmm9⟩
    have hvl := valT_lt (s := t) (i := i) (by omega) hi hd
    refine AWp.seq ?_
    refine AWp.s_reg hGn hGk [.a, .a, .m (some 28) ⟨[(27, (vS t))], [], (vI ((t.size : Nat) : Int)), [], []⟩, .a] ⟨StepOK.p rfl rfl rfl (OpOK.lenS rfl rfl (by kernel_rfl) rfl), trivial⟩ [(0, (vS t)), (6, (vI ((valT t i : Nat) : Int))), (7, (vI ((i : Nat) : Int))), (29, (vB (decide (((i : Nat) : Int) < ((t.size : Nat) : Int)))))] [] (by kernel_rfl) (by kernel_rfl) ?_
    refine AWp.cond (decide (((i : Nat) : Int) < ((t.size : Nat) : Int))) rfl (fun hc10 => ?_) (fun hc10 => ?_)
    ·skip
     replace hc10 := of_decide_eq_true hc10
     refine AWp.skip ?_
     refine nextQ_normal ?_
     refine AWp.seq ?_
     refine AWp.block ?_
     refine AWp.seq ?_
     by_cases hs11 : ((bAt t i : Nat) : Int) < (48 : Int)
     ·skip
      first | refine AWp.cast (show (mk [(0, (vS t)), (6, (vI ((valT t i : Nat) : Int))), (7, (vI ((i : Nat) : Int))), (29, (vB (decide (((i : Nat) : Int) < ((t.size : Nat) : Int)))))] []) = (mk [(0, (vS t)), (6, (vI ((valT t i : Nat) : Int))), (7, (vI ((i : Nat) : Int))), (29, (vB true))] []) from by rw [(decide_eq_true hc10)]) ?_ | skip
      refine AWp.s_reg hGn hGk [.a, .a, .m (some 34) ⟨[(32, (vS t)), (33, (vI ((i : Nat) : Int)))], [], (vK .u8 ((bAt t i : Nat) : Int)), [], []⟩, .m (some 35) ⟨[(34, (vK .u8 ((bAt t i : Nat) : Int)))], [], (vB true), [], []⟩, .a, .a, .a, .a, .a, .a] ⟨StepOK.p rfl rfl rfl (OpOK.indexS rfl (by kernel_rfl) rfl rfl rfl (by omega)),
       StepOK.p rfl rfl rfl (OpOK.lss rfl rfl rfl (decide_eq_true hs11)), trivial⟩ [(0, (vS t)), (6, (vI ((valT t i : Nat) : Int))), (7, (vI ((i : Nat) : Int))), (41, (vB true))] [] (by kernel_rfl) (by kernel_rfl) ?_
      refine AWp.cond_true rfl ?_
      refine AWp.s_reg hGn hGk (aa 2) (Man.aa _ _) [(4, (vI 0)), (5, (vB false))] [] (by kernel_rfl) (by kernel_rfl) ?_
      refine AWp.ret ?_
      refine nextQ_ret ?_
      refine blockQ_ret ?_
      refine nextQ_ret ?_
      refine nextQ_ret ?_
      refine blockQ_ret ?_
      refine nextQ_ret ?_
      refine fin_of (.inr rfl) (v := (.tup [(vI 0), (vB false)])) (Res.many (by kernel_rfl) (Res1s.cons (Res1.tmp rfl) (Res1s.cons (Res1.tmp rfl) Res1s.nil))) (h' := []) rfl rfl ?_
      exact ⟨by rw [numR_no (s := t) (m := m) (by first | (left; assumption) | (right; left; omega) | (right; right; left; constructor <;> omega) | (right; right; right; exact ⟨i, by omega, by omega⟩))], rfl⟩
     ·skip
      first | refine AWp.cast (show (mk [(0, (vS t)), (6, (vI ((valT t i : Nat) : Int))), (7, (vI ((i : Nat) : Int))), (29, (vB (decide (((i : Nat) : Int) < ((t.size : Nat) : Int)))))] []) = (mk [(0, (vS t)), (6, (vI ((valT t i : Nat) : Int))), (7, (vI ((i : Nat) : Int))), (29, (vB true))] []) from by rw [(decide_eq_true hc10)]) ?_ | skip
      refine AWp.s_reg hGn hGk [.a, .a, .m (some 34) ⟨[(32, (vS t)), (33, (vI ((i : Nat) : Int)))], [], (vK .u8 ((bAt t i : Nat) : Int)), [], []⟩, .m (some 35) ⟨[(34, (vK .u8 ((bAt t i : Nat) : Int)))], [], (vB false), [], []⟩, .a, .a, .a, .m (some 39) ⟨[(37, (vS t)), (38, (vI ((i : Nat) : Int))), (36, (vB false))], [], (vK .u8 ((bAt t i : Nat) : Int)), [], []⟩, .a, .a] ⟨StepOK.p rfl rfl rfl (OpOK.indexS rfl (by kernel_rfl) rfl rfl rfl (by omega)),
       StepOK.p rfl rfl rfl (OpOK.lss rfl rfl rfl (decide_eq_false hs11)),
       StepOK.g rfl rfl rfl rfl rfl (by simp) (OpOK.indexS rfl (by kernel_rfl) rfl rfl rfl (by omega)), trivial⟩ [(0, (vS t)), (6, (vI ((valT t i : Nat) : Int))), (7, (vI ((i : Nat) : Int))), (41, (vB (decide ((57 : Int) < ((bAt t i : Nat) : Int)))))] [] (by kernel_rfl) (by kernel_rfl) ?_
      refine AWp.cond (decide ((57 : Int) < ((bAt t i : Nat) : Int))) rfl (fun hc12 => ?_) (fun hc12 => ?_)
      ·skip
       replace hc12 := of_decide_eq_true hc12
       refine AWp.s_reg hGn hGk (aa 2) (Man.aa _ _) [(4, (vI 0)), (5, (vB false))] [] (by kernel_rfl) (by kernel_rfl) ?_
       refine AWp.ret ?_
       refine nextQ_ret ?_
       refine blockQ_ret ?_
       refine nextQ_ret ?_
       refine nextQ_ret ?_
       refine blockQ_ret ?_
       refine nextQ_ret ?_
       refine fin_of (.inr rfl) (v := (.tup [(vI 0), (vB false)])) (Res.many (by kernel_rfl) (Res1s.cons (Res1.tmp rfl) (Res1s.cons (Res1.tmp rfl) Res1s.nil))) (h' := []) rfl rfl ?_
       exact ⟨by rw [numR_no (s := t) (m := m) (by first | (left; assumption) | (right; left; omega) | (right; right; left; constructor <;> omega) | (right; right; right; exact ⟨i, by omega, by omega⟩))], rfl⟩
      ·skip
       replace hc12 := of_decide_eq_false hc12
       refine AWp.skip ?_
       refine nextQ_normal ?_
       have hb9 := bAt_lt t i
       refine AWp.reg' hGn hGk [.a, .m (some 43) ⟨[(42, (vI ((valT t i : Nat) : Int)))], [], (vI ((10 * (valT t i) : Nat) : Int)), [], []⟩, .a, .a, .m (some 46) ⟨[(44, (vS t)), (45, (vI ((i : Nat) : Int)))], [], (vK .u8 ((bAt t i : Nat) : Int)), [], []⟩, .m (some 47) ⟨[(46, (vK .u8 ((bAt t i : Nat) : Int)))], [], (vK .u8 (((bAt t i) - 48 : Nat) : Int)), [], []⟩, .m (some 48) ⟨[(47, (vK .u8 (((bAt t i) - 48 : Nat) : Int)))], [], (vI (((bAt t i) - 48 : Nat) : Int)), [], []⟩, .m (some 49) ⟨[(43, (vI ((10 * (valT t i) : Nat) : Int))), (48, (vI (((bAt t i) - 48 : Nat) : Int)))], [], (vI (((10 * (valT t i)) + ((bAt t i) - 48) : Nat) : Int)), [], []⟩, .a] ⟨StepOK.p rfl rfl rfl (OpOK.mul rfl rfl rfl (by rw [IntWalk.i64_in _ ⟨by omega, by omega⟩]; simp)),
        StepOK.p rfl rfl rfl (OpOK.indexS rfl (by kernel_rfl) rfl rfl rfl (by omega)),
        StepOK.p rfl rfl rfl (OpOK.sub rfl rfl rfl (by rw [IntWalk.u8_in _ ⟨by omega, by omega⟩]; omega)),
        StepOK.p rfl rfl rfl (OpOK.convI rfl (by kernel_rfl) (by kernel_rfl) rfl (IntWalk.i64_in _ ⟨by omega, by omega⟩)),
        StepOK.p rfl rfl rfl (OpOK.add rfl rfl rfl (by rw [IntWalk.i64_in _ ⟨by omega, by omega⟩]; omega)), trivial⟩ [(0, (vS t)), (6, (vI (((10 * (valT t i)) + ((bAt t i) - 48) : Nat) : Int))), (7, (vI ((i : Nat) : Int)))] [] (by kernel_rfl) (by kernel_rfl) ?_
       refine blockQ_normal ?_
       refine nextQ_normal ?_
       refine AWp.reg' hGn hGk [.a, .m (some 31) ⟨[(30, (vI ((i : Nat) : Int)))], [], (vI ((i + 1 : Nat) : Int)), [], []⟩, .a] ⟨StepOK.p rfl rfl rfl (OpOK.add rfl rfl rfl (by rw [IntWalk.i64_in _ ⟨by omega, by omega⟩]; omega)), trivial⟩ [(0, (vS t)), (6, (vI (((10 * (valT t i)) + ((bAt t i) - 48) : Nat) : Int))), (7, (vI ((i + 1 : Nat) : Int)))] [] (by kernel_rfl) (by kernel_rfl) ?_
       refine nextQ_normal ⟨_, ?_, (i + 1), (by rw [valT_step (by omega)] <;> rfl), (by omega), (fun j hj => by rcases Nat.lt_or_ge j i with h | h; exact hd j h; rw [show j = i from by omega]; omega), rfl⟩
       · omega
    ·skip
     replace hc10 := of_decide_eq_false hc10
     refine AWp.weaken (mk [(6, (vI ((valT t i : Nat) : Int)))] []) (Weak.sub' hGk (by kernel_rfl)) ?_
     refine AWp.exit ?_
     refine nextQ_exit ?_
     refine nextQ_exit ?_
     refine blockQ_exit ?_
     refine nextQ_normal ?_
     refine AWp.s_reg hGn hGk (aa 3) (Man.aa _ _) [(4, (vI ((valT t i : Nat) : Int))), (5, (vB true))] [] (by kernel_rfl) (by kernel_rfl) ?_
     refine AWp.ret ?_
     refine fin_of (.inr rfl) (v := (.tup [(vI ((valT t i : Nat) : Int)), (vB true)])) (Res.many (by kernel_rfl) (Res1s.cons (Res1.tmp rfl) (Res1s.cons (Res1.tmp rfl) Res1s.nil))) (h' := []) rfl rfl ?_
     exact ⟨by rw [numR_yes (s := t) (m := m) (by assumption) (by omega) (by first | omega | (intro h; omega)) (fun j hj => hd j (by omega)), ← valT_all, show i = t.size by omega], rfl⟩
theorem ref_Split (t : ByteArray) (c : Nat) (hc : c < 256) (ht : t.size ≤ 1000000) :
    SpecIs Tryz.prog 51 [(vS t), (vK .u8 ((c : Nat) : Int))] [] (.p (.sl false 1 ((splB (UInt8.ofNat c) t).map D.cStr))) [] := by
 refine Spec.intro Tryz.func51 rfl (by kernel_rfl) ?_
 intro Γ hGn hGk
 replace hGn : Γ.n = 36 := hGn
 replace hGk : Γ.names = [] := hGk
 refine AWp.weaken (mk [(0, (vS t)), (1, (vK .u8 ((c : Nat) : Int)))] []) (Weak.sub' hGk (by kernel_rfl)) ?_
 refine AWp.s_reg hGn hGk (aa 1) (Man.aa _ _) [(0, (vS t)), (1, (vK .u8 ((c : Nat) : Int)))] [] (by kernel_rfl) (by kernel_rfl) ?_
 let a'1 : AO := (.arr 1 [[(pS (ByteArray.mk #[]))]])
 refine AWp.s_reg hGn hGk [.m (some 7) ⟨[], [], (.own 1007 1), [(1007, a'1)], [1007]⟩, .a] ⟨StepOK.p rfl rfl rfl (OpOK.buildOwn (e := 9) (zr := [(pS (ByteArray.mk #[]))]) rfl (by kernel_rfl) (by kernel_rfl) (by kernel_rfl) (by kernel_rfl) rfl (by kernel_rfl) rfl rfl), trivial⟩ [(0, (vS t)), (1, (vK .u8 ((c : Nat) : Int))), (5, (.own 1007 1))] [(1007, a'1)] (by kernel_rfl) (by kernel_rfl) ?_
 refine AWp.seq ?_
 refine AWp.s_reg hGn hGk (aa 1) (Man.aa _ _) [(0, (vS t)), (1, (vK .u8 ((c : Nat) : Int))), (5, (.own 1007 1)), (6, (vI 0))] [(1007, a'1)] (by kernel_rfl) (by kernel_rfl) ?_
 refine AWp.block ?_
 refine AWp.loop (fun m s => ∃ i, s = (mk [(0, (vS t)), (1, (vK .u8 ((c : Nat) : Int))), (5, (.own 1007 (((splB (UInt8.ofNat c) (t.extract 0 i)).map D.cStr).length))), (6, (vI ((i : Nat) : Int)))] [(1007, (.arr 1 ((splB (UInt8.ofNat c) (t.extract 0 i)).map D.cStr)))]) ∧ (i ≤ t.size) ∧ m = (t.size - i))
  ⟨_, 0, (by rw [splB_start]; rfl), (by omega), rfl⟩ ?_
 rintro mm1 s ⟨i, rfl, hi, hmm1⟩
 have hl0 := splB_len (UInt8.ofNat c) (t.extract 0 i)
 have hz0 := splB_size (UInt8.ofNat c) (t.extract 0 i) ((splB (UInt8.ofNat c) (t.extract 0 i)).length - 1) (by omega)
 have hz1 : (t.extract 0 i).size ≤ t.size := by rw [ByteArray.size_extract]; omega
 have hz2 : (t.extract i (i + 1)).size ≤ 1 := by rw [ByteArray.size_extract]; omega
 have hz3 : (splB (UInt8.ofNat c) (t.extract 0 i)).length ≤ i + 1 := splB_len_le _ _ i (by rw [ByteArray.size_extract]; omega)
 refine AWp.seq ?_
 let a'2 : AV := (.own 1007 (((splB (UInt8.ofNat c) (t.extract 0 i)).map D.cStr).length))
 let a'3 : AO := (.arr 1 ((splB (UInt8.ofNat c) (t.extract 0 i)).map D.cStr))
 refine AWp.s_reg hGn hGk [.a, .a, .m (some 10) ⟨[(9, (vS t))], [], (vI ((t.size : Nat) : Int)), [], []⟩, .a] ⟨StepOK.p rfl rfl rfl (OpOK.lenS rfl rfl (by kernel_rfl) rfl), trivial⟩ [(0, (vS t)), (1, (vK .u8 ((c : Nat) : Int))), (5, a'2), (6, (vI ((i : Nat) : Int))), (11, (vB (decide (((i : Nat) : Int) < ((t.size : Nat) : Int)))))] [(1007, a'3)] (by kernel_rfl) (by kernel_rfl) ?_
 refine AWp.cond (decide (((i : Nat) : Int) < ((t.size : Nat) : Int))) rfl (fun hc2 => ?_) (fun hc2 => ?_)
 ·skip
  replace hc2 := of_decide_eq_true hc2
  refine AWp.skip ?_
  refine nextQ_normal ?_
  refine AWp.seq ?_
  refine AWp.block ?_
  refine AWp.s_reg hGn hGk [.a, .a, .m (some 16) ⟨[(14, (vS t)), (15, (vI ((i : Nat) : Int)))], [], (vK .u8 ((bAt t i : Nat) : Int)), [], []⟩, .a, .a] ⟨StepOK.p rfl rfl rfl (OpOK.indexS rfl (by kernel_rfl) rfl rfl rfl (by omega)), trivial⟩ [(0, (vS t)), (1, (vK .u8 ((c : Nat) : Int))), (5, a'2), (6, (vI ((i : Nat) : Int))), (18, (vB (decide (((bAt t i : Nat) : Int) = ((c : Nat) : Int)))))] [(1007, a'3)] (by kernel_rfl) (by kernel_rfl) ?_
  refine AWp.cond (decide (((bAt t i : Nat) : Int) = ((c : Nat) : Int))) rfl (fun hc3 => ?_) (fun hc3 => ?_)
  ·skip
   replace hc3 := of_decide_eq_true hc3
   let a'4 : AV := (.own 1007 ((((splB (UInt8.ofNat c) (t.extract 0 i)) ++ [(ByteArray.mk #[])]).map D.cStr).length))
   let a'5 : AO := (.arr 1 (((splB (UInt8.ofNat c) (t.extract 0 i)) ++ [(ByteArray.mk #[])]).map D.cStr))
   refine AWp.reg' hGn hGk [.a, .a, .m (some 21) ⟨[(19, a'2), (20, (.p (.sl true 1 [[(pS (ByteArray.mk #[]))]])))], [(1007, a'3)], a'4, [(1007, a'5)], []⟩, .a] ⟨StepOK.p rfl rfl rfl (OpOK.appendOwn (e := 9) (bytes := 16) rfl rfl (by kernel_rfl) (by kernel_rfl) rfl (Nat.beq_refl _) rfl (by rw [List.map_append]; rfl) rfl (by simp only [List.length_map, List.length_cons, List.length_nil]; omega) (by simp only [List.length_map, List.length_cons, List.length_nil]; omega)), trivial⟩ [(0, (vS t)), (1, (vK .u8 ((c : Nat) : Int))), (5, a'4), (6, (vI ((i : Nat) : Int)))] [(1007, a'5)] (by kernel_rfl) (by kernel_rfl) ?_
   refine blockQ_normal ?_
   refine nextQ_normal ?_
   refine AWp.reg' hGn hGk [.a, .m (some 13) ⟨[(12, (vI ((i : Nat) : Int)))], [], (vI ((i + 1 : Nat) : Int)), [], []⟩, .a] ⟨StepOK.p rfl rfl rfl (OpOK.add rfl rfl rfl (by rw [IntWalk.i64_in _ ⟨by omega, by omega⟩]; omega)), trivial⟩ [(0, (vS t)), (1, (vK .u8 ((c : Nat) : Int))), (5, a'4), (6, (vI ((i + 1 : Nat) : Int)))] [(1007, a'5)] (by kernel_rfl) (by kernel_rfl) ?_
   refine nextQ_normal ⟨_, ?_, (i + 1), (by rw [splB_sep hc (by omega) (by omega)] <;> rfl), (by omega), rfl⟩
   · omega
  ·skip
   replace hc3 := of_decide_eq_false hc3
   let a'6 : AO := (.arr 1 (((splB (UInt8.ofNat c) (t.extract 0 i)).set (((splB (UInt8.ofNat c) (t.extract 0 i)).length) - 1) ((nth (splB (UInt8.ofNat c) (t.extract 0 i)) (((splB (UInt8.ofNat c) (t.extract 0 i)).length) - 1)) ++ (t.extract i (i + 1)))).map D.cStr))
   refine AWp.dreg' hGn hGk (by kernel_rfl) [.a, .a, .m (some 24) ⟨[(23, a'2)], [(1007, a'3)], (vI (((splB (UInt8.ofNat c) (t.extract 0 i)).length : Nat) : Int)), [], []⟩, .m (some 25) ⟨[(24, (vI (((splB (UInt8.ofNat c) (t.extract 0 i)).length : Nat) : Int)))], [], (vI ((((splB (UInt8.ofNat c) (t.extract 0 i)).length) - 1 : Nat) : Int)), [], []⟩, .m (some 26) ⟨[(22, a'2), (25, (vI ((((splB (UInt8.ofNat c) (t.extract 0 i)).length) - 1 : Nat) : Int)))], [(1007, a'3)], (.aref 1007 (((splB (UInt8.ofNat c) (t.extract 0 i)).map D.cStr).length) (((splB (UInt8.ofNat c) (t.extract 0 i)).length) - 1) 0), [], []⟩, .m (some 27) ⟨[(26, (.aref 1007 (((splB (UInt8.ofNat c) (t.extract 0 i)).map D.cStr).length) (((splB (UInt8.ofNat c) (t.extract 0 i)).length) - 1) 0))], [(1007, a'3)], (vS (nth (splB (UInt8.ofNat c) (t.extract 0 i)) (((splB (UInt8.ofNat c) (t.extract 0 i)).length) - 1))), [], []⟩, .a, .a, .a, .m (some 31) ⟨[(30, (vI ((i : Nat) : Int)))], [], (vI ((i + 1 : Nat) : Int)), [], []⟩, .m (some 32) ⟨[(28, (vS t)), (29, (vI ((i : Nat) : Int))), (31, (vI ((i + 1 : Nat) : Int)))], [], (vS (t.extract i (i + 1))), [], []⟩, .m (some 33) ⟨[(27, (vS (nth (splB (UInt8.ofNat c) (t.extract 0 i)) (((splB (UInt8.ofNat c) (t.extract 0 i)).length) - 1)))), (32, (vS (t.extract i (i + 1))))], [], (vS ((nth (splB (UInt8.ofNat c) (t.extract 0 i)) (((splB (UInt8.ofNat c) (t.extract 0 i)).length) - 1)) ++ (t.extract i (i + 1)))), [], []⟩, .m (some 34) ⟨[(22, a'2), (25, (vI ((((splB (UInt8.ofNat c) (t.extract 0 i)).length) - 1 : Nat) : Int)))], [(1007, a'3)], (.aref 1007 (((splB (UInt8.ofNat c) (t.extract 0 i)).map D.cStr).length) (((splB (UInt8.ofNat c) (t.extract 0 i)).length) - 1) 0), [], []⟩, .m none ⟨[(34, (.aref 1007 (((splB (UInt8.ofNat c) (t.extract 0 i)).map D.cStr).length) (((splB (UInt8.ofNat c) (t.extract 0 i)).length) - 1) 0)), (33, (vS ((nth (splB (UInt8.ofNat c) (t.extract 0 i)) (((splB (UInt8.ofNat c) (t.extract 0 i)).length) - 1)) ++ (t.extract i (i + 1)))))], [(1007, a'3)], .any, [(1007, a'6)], []⟩] ⟨StepOK.p rfl rfl rfl (OpOK.lenOwn (e := 9) rfl rfl (by kernel_rfl) rfl (Nat.beq_refl _) (by rw [List.length_map])),
    StepOK.p rfl rfl rfl (OpOK.sub rfl rfl rfl (by rw [IntWalk.i64_in _ ⟨by omega, by omega⟩]; omega)),
    StepOK.p rfl rfl rfl (OpOK.indexOwn (e := 9) rfl (by kernel_rfl) (by kernel_rfl) rfl (Nat.beq_refl _) rfl rfl (by simp only [List.length_map]; omega)),
    StepOK.p rfl rfl rfl (OpOK.loadElem rfl rfl (by kernel_rfl) (Nat.beq_refl _) (map_nth (by omega)) rfl),
    StepOK.p rfl rfl rfl (OpOK.add rfl rfl rfl (by rw [IntWalk.i64_in _ ⟨by omega, by omega⟩]; omega)),
    StepOK.p rfl rfl rfl (OpOK.sliceS (i := i) (j := (i + 1)) rfl (by kernel_rfl) rfl rfl rfl (by omega) (by omega) rfl),
    StepOK.p rfl rfl rfl (OpOK.addS rfl rfl rfl (by omega) rfl),
    StepOK.p rfl rfl rfl (OpOK.indexOwn (e := 9) rfl (by kernel_rfl) (by kernel_rfl) rfl (Nat.beq_refl _) rfl rfl (by simp only [List.length_map]; omega)),
    StepOK.p rfl rfl rfl (OpOK.storeElem rfl rfl rfl rfl rfl rfl (Nat.beq_refl _) (map_nth (by omega)) (by kernel_rfl) (by kernel_rfl) rfl (by rw [List.map_set]; rfl)), trivial⟩ [(0, (vS t)), (1, (vK .u8 ((c : Nat) : Int))), (5, a'2), (6, (vI ((i : Nat) : Int)))] [(1007, a'6)] (by kernel_rfl) (by kernel_rfl) (by kernel_rfl) ?_
   refine blockQ_normal ?_
   refine nextQ_normal ?_
   refine AWp.cast (show (mk [(0, (vS t)), (1, (vK .u8 ((c : Nat) : Int))), (5, (.own 1007 (((splB (UInt8.ofNat c) (t.extract 0 i)).map D.cStr).length))), (6, (vI ((i : Nat) : Int)))] [(1007, (.arr 1 (((splB (UInt8.ofNat c) (t.extract 0 i)).set (((splB (UInt8.ofNat c) (t.extract 0 i)).length) - 1) ((nth (splB (UInt8.ofNat c) (t.extract 0 i)) (((splB (UInt8.ofNat c) (t.extract 0 i)).length) - 1)) ++ (t.extract i (i + 1)))).map D.cStr)))]) = (mk [(0, (vS t)), (1, (vK .u8 ((c : Nat) : Int))), (5, (.own 1007 ((((splB (UInt8.ofNat c) (t.extract 0 i)).set (((splB (UInt8.ofNat c) (t.extract 0 i)).length) - 1) ((nth (splB (UInt8.ofNat c) (t.extract 0 i)) (((splB (UInt8.ofNat c) (t.extract 0 i)).length) - 1)) ++ (t.extract i (i + 1)))).map D.cStr).length))), (6, (vI ((i : Nat) : Int)))] [(1007, (.arr 1 (((splB (UInt8.ofNat c) (t.extract 0 i)).set (((splB (UInt8.ofNat c) (t.extract 0 i)).length) - 1) ((nth (splB (UInt8.ofNat c) (t.extract 0 i)) (((splB (UInt8.ofNat c) (t.extract 0 i)).length) - 1)) ++ (t.extract i (i + 1)))).map D.cStr)))]) from (by simp only [List.length_map, List.length_set])) ?_
   refine AWp.reg' hGn hGk [.a, .m (some 13) ⟨[(12, (vI ((i : Nat) : Int)))], [], (vI ((i + 1 : Nat) : Int)), [], []⟩, .a] ⟨StepOK.p rfl rfl rfl (OpOK.add rfl rfl rfl (by rw [IntWalk.i64_in _ ⟨by omega, by omega⟩]; omega)), trivial⟩ [(0, (vS t)), (1, (vK .u8 ((c : Nat) : Int))), (5, (.own 1007 ((((splB (UInt8.ofNat c) (t.extract 0 i)).set (((splB (UInt8.ofNat c) (t.extract 0 i)).length) - 1) ((nth (splB (UInt8.ofNat c) (t.extract 0 i)) (((splB (UInt8.ofNat c) (t.extract 0 i)).length) - 1)) ++ (t.extract i (i + 1)))).map D.cStr).length))), (6, (vI ((i + 1 : Nat) : Int)))] [(1007, a'6)] (by kernel_rfl) (by kernel_rfl) ?_
   refine nextQ_normal ⟨_, ?_, (i + 1), (by rw [splB_snoc hc (by omega) (by omega)] <;> rfl), (by omega), rfl⟩
   · omega
 ·skip
  replace hc2 := of_decide_eq_false hc2
  refine AWp.weaken (mk [(5, a'2)] [(1007, a'3)]) (Weak.sub' hGk (by kernel_rfl)) ?_
  refine AWp.exit ?_
  refine nextQ_exit ?_
  refine nextQ_exit ?_
  refine blockQ_exit ?_
  refine nextQ_normal ?_
  refine AWp.s_reg hGn hGk (aa 2) (Man.aa _ _) [(4, a'2)] [(1007, a'3)] (by kernel_rfl) (by kernel_rfl) ?_
  refine AWp.weaken (mk [(4, (.p (.sl false 1 ((splB (UInt8.ofNat c) (t.extract 0 i)).map D.cStr))))] []) (Weak.freeze (n := 1007) (es := 1) (rows := ((splB (UInt8.ofNat c) (t.extract 0 i)).map D.cStr)) (by rw [hGk]; decide) ⟨rfl, .own, trivial⟩ trivial) ?_
  refine AWp.ret ?_
  refine fin_of (.inr rfl) (v := (.p (.sl false 1 ((splB (UInt8.ofNat c) (t.extract 0 i)).map D.cStr)))) (Res.tmp rfl rfl) (h' := []) rfl rfl ?_
  exact ⟨by rw [show i = t.size by omega, extract_all], rfl⟩
theorem ref_SplitS (t : ByteArray) (ht : t.size ≤ 1000000) : SpecIs Tryz.prog 51 [vS t, (vK .u8 32)] [] (.p (.sl false 1 ((splitS t).map D.cStr))) [] := by
  rw [splitS_is]; exact ref_Split t 32 (by decide) ht
end Go.Proofs.YtimfbibaoppfcaaGreatDoor
