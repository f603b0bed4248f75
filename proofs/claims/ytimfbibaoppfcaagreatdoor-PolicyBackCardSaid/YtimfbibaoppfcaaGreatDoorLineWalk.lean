/-
  The walks of a reader: numbers, names, lines. Printed by wip/gen/pol.py.
-/
import Derived.Test.YtimfbibaoppfcaaGreatDoorBackPlain
import Derived.Test.YtimfbibaoppfcaaGreatDoorBookWalk
import Derived.Test.YtimfbibaoppfcaaGreatDoorCfgWalk3
import Derived.Test.YtimfbibaoppfcaaGreatDoorAnsWalk
import Derived.Test.YtimfbibaoppfcaaGreatDoorAmS
set_option maxRecDepth 100000
set_option linter.unusedSimpArgs false
set_option linter.unusedVariables false
namespace Go.Proofs.YtimfbibaoppfcaaGreatDoor
open Go AM
theorem pol_number (t : ByteArray) (n : Int) (h : NumW t n) :
    SpecIs Tryz.prog 99 [(vS t)] [] (.tup [(vI n), (vB true)]) [] := by
 refine Spec.intro Tryz.func99 rfl (by kernel_rfl) ?_
 intro Γ hGn hGk
 replace hGn : Γ.n = 36 := hGn
 replace hGk : Γ.names = [] := hGk
 have hsz := h.size
 refine AWp.weaken (mk [(0, (vS t))] []) (Weak.sub' hGk (by kernel_rfl)) ?_
 refine AWp.s_reg hGn hGk (aa 2) (Man.aa _ _) [(0, (vS t))] [] (by kernel_rfl) (by kernel_rfl) ?_
 refine AWp.seq ?_
 by_cases hs1 : ((bAt t 0 : Nat) : Int) = (48 : Int)
 ·skip
  refine AWp.s_reg hGn hGk [.a, .m (some 9) ⟨[(8, (vS t))], [], (vI ((t.size : Nat) : Int)), [], []⟩, .m (some 10) ⟨[(9, (vI ((t.size : Nat) : Int)))], [], (vB true), [], []⟩, .a, .a, .a, .m (some 14) ⟨[(13, (vS t)), (12, (vB false))], [], (vK .u8 ((bAt t 0 : Nat) : Int)), [], []⟩, .m (some 15) ⟨[(14, (vK .u8 ((bAt t 0 : Nat) : Int))), (12, (vB false))], [], (vB true), [], []⟩, .a, .a, .m (some 18) ⟨[(17, (vS t)), (16, (vB true))], [], (vB false), [], []⟩, .a, .a] ⟨StepOK.p rfl rfl rfl (OpOK.lenS rfl rfl (by kernel_rfl) rfl),
   StepOK.p rfl rfl rfl (OpOK.call rfl (by kernel_rfl) rfl (by have hq := (pol_in ((t.size : Nat) : Int) 1 9); rw [(inB_true (by have := h.size; omega))] at hq; exact hq) (by kernel_rfl)),
   StepOK.g rfl rfl rfl rfl rfl (by simp) (OpOK.indexS rfl (by kernel_rfl) rfl rfl rfl (by omega)),
   StepOK.g rfl rfl rfl rfl rfl (by simp) (OpOK.eqlI rfl rfl rfl (decide_eq_true hs1)),
   StepOK.g rfl rfl rfl rfl rfl (by simp) (OpOK.neqS rfl rfl rfl (decide_eq_false (fun hne => hne (h.head (by omega))))), trivial⟩ [(0, (vS t)), (20, (vB false))] [] (by kernel_rfl) (by kernel_rfl) ?_
  refine AWp.cond_false rfl ?_
  refine AWp.skip ?_
  refine nextQ_normal ?_
  refine AWp.seq ?_
  refine AWp.s_reg hGn hGk [.a, .m (some 22) ⟨[(21, (vS t))], [], (.oref false 1022), [(1022, (.obj (.stringIter t 0)))], [1022]⟩] ⟨StepOK.p rfl rfl rfl (OpOK.rangeS rfl (by kernel_rfl) rfl), trivial⟩ [(0, (vS t)), (22, (.oref false 1022))] [(1022, (.obj (.stringIter t 0)))] (by kernel_rfl) (by kernel_rfl) ?_
  refine AWp.block ?_
  refine AWp.loop (fun m s => ∃ i, s = (mk [(0, (vS t)), (22, (.oref false 1022))] [(1022, (.obj (.stringIter t i)))]) ∧ (i ≤ t.size) ∧ m = (t.size - i))
   ⟨_, 0, rfl, (by omega), rfl⟩ ?_
  rintro mm2 s ⟨i, rfl, hi, hmm2⟩
  by_cases hs3 : i < t.size
  ·skip
   let a'1 : AV := (.tup [(vB true), (vI ((i : Nat) : Int)), (vK .i32 ((bAt t i : Nat) : Int))])
   refine AWp.s_reg hGn hGk [.m (some 23) ⟨[(22, (.oref false 1022))], [(1022, (.obj (.stringIter t i)))], a'1, [(1022, (.obj (.stringIter t (i + 1))))], []⟩, .a] ⟨StepOK.p rfl rfl rfl (OpOK.nextS rfl rfl (by omega) (dec_at (by omega) (by have := h.dig i (by omega); omega)) (by omega)), trivial⟩ [(0, (vS t)), (22, (.oref false 1022)), (23, a'1), (24, (vB true))] [(1022, (.obj (.stringIter t (i + 1))))] (by kernel_rfl) (by kernel_rfl) ?_
   refine AWp.seq ?_
   refine AWp.cond_true rfl ?_
   refine AWp.skip ?_
   refine nextQ_normal ?_
   refine AWp.block ?_
   refine AWp.s_reg hGn hGk (aa 2) (Man.aa _ _) [(0, (vS t)), (5, (vK .i32 ((bAt t i : Nat) : Int))), (22, (.oref false 1022))] [(1022, (.obj (.stringIter t (i + 1))))] (by kernel_rfl) (by kernel_rfl) ?_
   have hbt := bAt_lt t i
   refine AWp.s_reg hGn hGk [.a, .m (some 27) ⟨[(26, (vK .i32 ((bAt t i : Nat) : Int)))], [], (vI ((bAt t i : Nat) : Int)), [], []⟩, .m (some 28) ⟨[(27, (vI ((bAt t i : Nat) : Int)))], [], (vB true), [], []⟩, .a] ⟨StepOK.p rfl rfl rfl (OpOK.convI rfl (by kernel_rfl) (by kernel_rfl) rfl (IntWalk.i64_in _ ⟨by omega, by omega⟩)),
    StepOK.p rfl rfl rfl (OpOK.call rfl (by kernel_rfl) rfl (by have hq := (pol_in ((bAt t i : Nat) : Int) 48 57); rw [(inB_true (by have := h.dig i (by omega); omega))] at hq; exact hq) (by kernel_rfl)), trivial⟩ [(0, (vS t)), (22, (.oref false 1022)), (29, (vB false))] [(1022, (.obj (.stringIter t (i + 1))))] (by kernel_rfl) (by kernel_rfl) ?_
   refine AWp.cond_false rfl ?_
   refine AWp.weaken (mk [(0, (vS t)), (22, (.oref false 1022))] [(1022, (.obj (.stringIter t (i + 1))))]) (Weak.sub' hGk (by kernel_rfl)) ?_
   refine AWp.skip ?_
   refine blockQ_normal ?_
   refine nextQ_normal ⟨_, ?_, (i + 1), rfl, (by omega), rfl⟩
   · omega
  ·skip
   refine AWp.s_reg hGn hGk [.m (some 23) ⟨[(22, (.oref false 1022))], [(1022, (.obj (.stringIter t i)))], (.tup [(vB false)]), [], []⟩, .a] ⟨StepOK.p rfl rfl rfl (OpOK.nextEnd rfl rfl (by omega)), trivial⟩ [(0, (vS t)), (22, (.oref false 1022)), (23, (.tup [(vB false)])), (24, (vB false))] [(1022, (.obj (.stringIter t i)))] (by kernel_rfl) (by kernel_rfl) ?_
   refine AWp.seq ?_
   refine AWp.cond_false rfl ?_
   refine AWp.weaken (mk [(0, (vS t))] []) (Weak.sub' hGk (by kernel_rfl)) ?_
   refine AWp.exit ?_
   refine nextQ_exit ?_
   refine nextQ_exit ?_
   refine blockQ_exit ?_
   refine nextQ_normal ?_
   have hf4 := atoiV_in t
   refine AWp.s_reg hGn hGk [.a, .m (some 32) ⟨[(31, (vS t))], [], (.tup [(vI (atoiV t)), (.err (atoiK t))]), [], []⟩, .a, .a, .a, .a, .a] ⟨StepOK.p rfl rfl rfl (OpOK.call rfl (by kernel_rfl) rfl (kit_Atoi t (by omega)) (by kernel_rfl)), trivial⟩ [(6, (vI (atoiV t)))] [] (by kernel_rfl) (by kernel_rfl) ?_
   refine AWp.s_reg hGn hGk (aa 3) (Man.aa _ _) [(2, (vI (atoiV t))), (3, (vB true))] [] (by kernel_rfl) (by kernel_rfl) ?_
   refine AWp.ret ?_
   refine fin_of (.inr rfl) (v := (.tup [(vI (atoiV t)), (vB true)])) (Res.many (by kernel_rfl) (Res1s.cons (Res1.tmp rfl) (Res1s.cons (Res1.tmp rfl) Res1s.nil))) (h' := []) rfl rfl ?_
   exact ⟨by rw [h.val], rfl⟩
 ·skip
  refine AWp.s_reg hGn hGk [.a, .m (some 9) ⟨[(8, (vS t))], [], (vI ((t.size : Nat) : Int)), [], []⟩, .m (some 10) ⟨[(9, (vI ((t.size : Nat) : Int)))], [], (vB true), [], []⟩, .a, .a, .a, .m (some 14) ⟨[(13, (vS t)), (12, (vB false))], [], (vK .u8 ((bAt t 0 : Nat) : Int)), [], []⟩, .m (some 15) ⟨[(14, (vK .u8 ((bAt t 0 : Nat) : Int))), (12, (vB false))], [], (vB false), [], []⟩, .a, .a, .a, .a, .a] ⟨StepOK.p rfl rfl rfl (OpOK.lenS rfl rfl (by kernel_rfl) rfl),
   StepOK.p rfl rfl rfl (OpOK.call rfl (by kernel_rfl) rfl (by have hq := (pol_in ((t.size : Nat) : Int) 1 9); rw [(inB_true (by have := h.size; omega))] at hq; exact hq) (by kernel_rfl)),
   StepOK.g rfl rfl rfl rfl rfl (by simp) (OpOK.indexS rfl (by kernel_rfl) rfl rfl rfl (by omega)),
   StepOK.g rfl rfl rfl rfl rfl (by simp) (OpOK.eqlI rfl rfl rfl (decide_eq_false hs1)), trivial⟩ [(0, (vS t)), (20, (vB false))] [] (by kernel_rfl) (by kernel_rfl) ?_
  refine AWp.cond_false rfl ?_
  refine AWp.skip ?_
  refine nextQ_normal ?_
  refine AWp.seq ?_
  refine AWp.s_reg hGn hGk [.a, .m (some 22) ⟨[(21, (vS t))], [], (.oref false 1022), [(1022, (.obj (.stringIter t 0)))], [1022]⟩] ⟨StepOK.p rfl rfl rfl (OpOK.rangeS rfl (by kernel_rfl) rfl), trivial⟩ [(0, (vS t)), (22, (.oref false 1022))] [(1022, (.obj (.stringIter t 0)))] (by kernel_rfl) (by kernel_rfl) ?_
  refine AWp.block ?_
  refine AWp.loop (fun m s => ∃ i, s = (mk [(0, (vS t)), (22, (.oref false 1022))] [(1022, (.obj (.stringIter t i)))]) ∧ (i ≤ t.size) ∧ m = (t.size - i))
   ⟨_, 0, rfl, (by omega), rfl⟩ ?_
  rintro mm5 s ⟨i, rfl, hi, hmm5⟩
  by_cases hs6 : i < t.size
  ·skip
   let a'2 : AV := (.tup [(vB true), (vI ((i : Nat) : Int)), (vK .i32 ((bAt t i : Nat) : Int))])
   refine AWp.s_reg hGn hGk [.m (some 23) ⟨[(22, (.oref false 1022))], [(1022, (.obj (.stringIter t i)))], a'2, [(1022, (.obj (.stringIter t (i + 1))))], []⟩, .a] ⟨StepOK.p rfl rfl rfl (OpOK.nextS rfl rfl (by omega) (dec_at (by omega) (by have := h.dig i (by omega); omega)) (by omega)), trivial⟩ [(0, (vS t)), (22, (.oref false 1022)), (23, a'2), (24, (vB true))] [(1022, (.obj (.stringIter t (i + 1))))] (by kernel_rfl) (by kernel_rfl) ?_
   refine AWp.seq ?_
   refine AWp.cond_true rfl ?_
   refine AWp.skip ?_
   refine nextQ_normal ?_
   refine AWp.block ?_
   refine AWp.s_reg hGn hGk (aa 2) (Man.aa _ _) [(0, (vS t)), (5, (vK .i32 ((bAt t i : Nat) : Int))), (22, (.oref false 1022))] [(1022, (.obj (.stringIter t (i + 1))))] (by kernel_rfl) (by kernel_rfl) ?_
   have hbt := bAt_lt t i
   refine AWp.s_reg hGn hGk [.a, .m (some 27) ⟨[(26, (vK .i32 ((bAt t i : Nat) : Int)))], [], (vI ((bAt t i : Nat) : Int)), [], []⟩, .m (some 28) ⟨[(27, (vI ((bAt t i : Nat) : Int)))], [], (vB true), [], []⟩, .a] ⟨StepOK.p rfl rfl rfl (OpOK.convI rfl (by kernel_rfl) (by kernel_rfl) rfl (IntWalk.i64_in _ ⟨by omega, by omega⟩)),
    StepOK.p rfl rfl rfl (OpOK.call rfl (by kernel_rfl) rfl (by have hq := (pol_in ((bAt t i : Nat) : Int) 48 57); rw [(inB_true (by have := h.dig i (by omega); omega))] at hq; exact hq) (by kernel_rfl)), trivial⟩ [(0, (vS t)), (22, (.oref false 1022)), (29, (vB false))] [(1022, (.obj (.stringIter t (i + 1))))] (by kernel_rfl) (by kernel_rfl) ?_
   refine AWp.cond_false rfl ?_
   refine AWp.weaken (mk [(0, (vS t)), (22, (.oref false 1022))] [(1022, (.obj (.stringIter t (i + 1))))]) (Weak.sub' hGk (by kernel_rfl)) ?_
   refine AWp.skip ?_
   refine blockQ_normal ?_
   refine nextQ_normal ⟨_, ?_, (i + 1), rfl, (by omega), rfl⟩
   · omega
  ·skip
   refine AWp.s_reg hGn hGk [.m (some 23) ⟨[(22, (.oref false 1022))], [(1022, (.obj (.stringIter t i)))], (.tup [(vB false)]), [], []⟩, .a] ⟨StepOK.p rfl rfl rfl (OpOK.nextEnd rfl rfl (by omega)), trivial⟩ [(0, (vS t)), (22, (.oref false 1022)), (23, (.tup [(vB false)])), (24, (vB false))] [(1022, (.obj (.stringIter t i)))] (by kernel_rfl) (by kernel_rfl) ?_
   refine AWp.seq ?_
   refine AWp.cond_false rfl ?_
   refine AWp.weaken (mk [(0, (vS t))] []) (Weak.sub' hGk (by kernel_rfl)) ?_
   refine AWp.exit ?_
   refine nextQ_exit ?_
   refine nextQ_exit ?_
   refine blockQ_exit ?_
   refine nextQ_normal ?_
   have hf7 := atoiV_in t
   refine AWp.s_reg hGn hGk [.a, .m (some 32) ⟨[(31, (vS t))], [], (.tup [(vI (atoiV t)), (.err (atoiK t))]), [], []⟩, .a, .a, .a, .a, .a] ⟨StepOK.p rfl rfl rfl (OpOK.call rfl (by kernel_rfl) rfl (kit_Atoi t (by omega)) (by kernel_rfl)), trivial⟩ [(6, (vI (atoiV t)))] [] (by kernel_rfl) (by kernel_rfl) ?_
   refine AWp.s_reg hGn hGk (aa 3) (Man.aa _ _) [(2, (vI (atoiV t))), (3, (vB true))] [] (by kernel_rfl) (by kernel_rfl) ?_
   refine AWp.ret ?_
   refine fin_of (.inr rfl) (v := (.tup [(vI (atoiV t)), (vB true)])) (Res.many (by kernel_rfl) (Res1s.cons (Res1.tmp rfl) (Res1s.cons (Res1.tmp rfl) Res1s.nil))) (h' := []) rfl rfl ?_
   exact ⟨by rw [h.val], rfl⟩
theorem res_sname (z : D.Schedule) :
    SpecIs Tryz.prog 191 [(.agg [(vS z.Name), (.p (.sl false 10 (z.Layers.map D.Layer.cells))), (.p (.sl false 5 (z.Edits.map D.Edit.cells)))])] [] (vS z.Name) [] := by
 refine Spec.intro Tryz.func191 rfl (by kernel_rfl) ?_
 intro Γ hGn hGk
 replace hGn : Γ.n = 5 := hGn
 replace hGk : Γ.names = [] := hGk
 refine AWp.weaken (mk [(0, (.agg [(vS z.Name), (.p (.sl false 10 (z.Layers.map D.Layer.cells))), (.p (.sl false 5 (z.Edits.map D.Edit.cells)))]))] []) (Weak.sub' hGk (by kernel_rfl)) ?_
 refine AWp.s_reg hGn hGk (aa 2) (Man.aa _ _) [(1, (.ref 1001 0))] [(1001, (.box [(vS z.Name), (.p (.sl false 10 (z.Layers.map D.Layer.cells))), (.p (.sl false 5 (z.Edits.map D.Edit.cells)))]))] (by kernel_rfl) (by kernel_rfl) ?_
 refine AWp.s_reg hGn hGk (aa 3) (Man.aa _ _) [(2, (vS z.Name))] [] (by kernel_rfl) (by kernel_rfl) ?_
 refine AWp.ret ?_
 refine fin_of (.inr rfl) (v := (vS z.Name)) (Res.tmp rfl rfl) (h' := []) rfl rfl ?_
 exact ⟨rfl, rfl⟩
theorem res_sos1 (z : D.Schedule) (t : ByteArray) :
    SpecIs Tryz.prog 204 [(.agg [(vS z.Name), (.p (.sl false 10 (z.Layers.map D.Layer.cells))), (.p (.sl false 5 (z.Edits.map D.Edit.cells)))]), (.ref 1005 0), (.ref 1004 0)] [(1005, (.box [(.p (.v (.func (.func 191) #[] #[])))])), (1004, (.box [(vS t)]))] (vB (decide (z.Name = t))) [(1005, (.box [(.p (.v (.func (.func 191) #[] #[])))])), (1004, (.box [(vS t)]))] := by
 refine Spec.intro Tryz.func204 rfl (by kernel_rfl) ?_
 intro Γ hGn hGk
 replace hGn : Γ.n = 10 := hGn
 replace hGk : Γ.names = [1005, 1004] := hGk
 let a'1 : AV := (.p (.sl false 10 (z.Layers.map D.Layer.cells)))
 let a'2 : AV := (.p (.sl false 5 (z.Edits.map D.Edit.cells)))
 let a'3 : AO := (.box [(.p (.v (.func (.func 191) #[] #[])))])
 refine AWp.weaken (mk [(0, (.agg [(vS z.Name), a'1, a'2])), (1, (.ref 1005 0)), (2, (.ref 1004 0))] [(1005, a'3), (1004, (.box [(vS t)]))]) (Weak.sub' hGk (by kernel_rfl)) ?_
 refine AWp.s_reg hGn hGk (aa 2) (Man.aa _ _) [(1, (.ref 1005 0)), (2, (.ref 1004 0)), (3, (.ref 1003 0))] [(1005, a'3), (1004, (.box [(vS t)])), (1003, (.box [(vS z.Name), a'1, a'2]))] (by kernel_rfl) (by kernel_rfl) ?_
 refine AWp.s_dreg hGn hGk (by kernel_rfl) [.a, .a, .m (some 7) ⟨[(5, (.p (.v (.func (.func 191) #[] #[])))), (6, (.agg [(vS z.Name), a'1, a'2]))], [], (vS z.Name), [], []⟩, .a, .a, .a] ⟨StepOK.p rfl rfl rfl (OpOK.callFv rfl rfl (by kernel_rfl) rfl (res_sname z) (by kernel_rfl)), trivial⟩ [(4, (vB (decide (z.Name = t))))] [(1005, a'3), (1004, (.box [(vS t)]))] (by kernel_rfl) (by kernel_rfl) (by kernel_rfl) ?_
 refine AWp.ret ?_
 refine fin_of (.inr rfl) (v := (vB (decide (z.Name = t)))) (Res.tmp rfl rfl) (h' := [(1005, (.box [(.p (.v (.func (.func 191) #[] #[])))])), (1004, (.box [(vS t)]))]) rfl rfl ?_
 exact ⟨rfl, rfl⟩
theorem res_sidx (ss : List D.Schedule) (t : ByteArray) (q : Nat) (hq : q < ss.length) (hps : ss.length ≤ 1000000) (hn : ∀ j, j < q → (nth ss j).Name ≠ t) (he : (nth ss q).Name = t) :
    SpecIs Tryz.prog 203 [(.p (.sl false 3 (ss.map D.Schedule.cells))), (.clo (.func 204) [] [(.ref 1005 0), (.ref 1004 0)])] [(1005, (.box [(.p (.v (.func (.func 191) #[] #[])))])), (1004, (.box [(vS t)]))] (vI ((q : Nat) : Int)) [(1005, (.box [(.p (.v (.func (.func 191) #[] #[])))])), (1004, (.box [(vS t)]))] := by
 refine Spec.intro Tryz.func203 rfl (by kernel_rfl) ?_
 intro Γ hGn hGk
 replace hGn : Γ.n = 19 := hGn
 replace hGk : Γ.names = [1005, 1004] := hGk
 let a'1 : AV := (.p (.sl false 3 (ss.map D.Schedule.cells)))
 let a'2 : AV := (.clo (.func 204) [] [(.ref 1005 0), (.ref 1004 0)])
 let a'3 : AO := (.box [(.p (.v (.func (.func 191) #[] #[])))])
 refine AWp.weaken (mk [(0, a'1), (1, a'2)] [(1005, a'3), (1004, (.box [(vS t)]))]) (Weak.sub' hGk (by kernel_rfl)) ?_
 refine AWp.s_reg hGn hGk (aa 1) (Man.aa _ _) [(0, a'1), (1, a'2)] [(1005, a'3), (1004, (.box [(vS t)]))] (by kernel_rfl) (by kernel_rfl) ?_
 refine AWp.seq ?_
 refine AWp.s_reg hGn hGk [.a, .m (some 7) ⟨[(6, a'1)], [], (vI ((ss.length : Nat) : Int)), [], []⟩, .a] ⟨StepOK.p rfl rfl rfl (OpOK.lenP (e := 85) rfl rfl (by kernel_rfl) rfl (by rw [List.length_map])), trivial⟩ [(0, a'1), (1, a'2), (7, (vI ((ss.length : Nat) : Int))), (8, (vI 0))] [(1005, a'3), (1004, (.box [(vS t)]))] (by kernel_rfl) (by kernel_rfl) ?_
 refine AWp.block ?_
 refine AWp.loop (fun m s => ∃ i, s = (mk [(0, (.p (.sl false 3 (ss.map D.Schedule.cells)))), (1, (.clo (.func 204) [] [(.ref 1005 0), (.ref 1004 0)])), (7, (vI ((ss.length : Nat) : Int))), (8, (vI ((i : Nat) : Int)))] [(1005, (.box [(.p (.v (.func (.func 191) #[] #[])))])), (1004, (.box [(vS t)]))]) ∧ (i ≤ q) ∧ m = (q - i))
  ⟨_, 0, rfl, (by omega), rfl⟩ ?_
 rintro mm1 s ⟨i, rfl, hi, hmm1⟩
 refine AWp.s_reg hGn hGk [.m (some 9) ⟨[(8, (vI ((i : Nat) : Int))), (7, (vI ((ss.length : Nat) : Int)))], [], (vB true), [], []⟩] ⟨StepOK.p rfl rfl rfl (OpOK.lss rfl rfl rfl (decide_eq_true (by omega))), trivial⟩ [(0, a'1), (1, a'2), (7, (vI ((ss.length : Nat) : Int))), (8, (vI ((i : Nat) : Int))), (9, (vB true))] [(1005, a'3), (1004, (.box [(vS t)]))] (by kernel_rfl) (by kernel_rfl) ?_
 refine AWp.seq ?_
 refine AWp.cond_true rfl ?_
 refine AWp.skip ?_
 refine nextQ_normal ?_
 refine AWp.seq ?_
 refine AWp.block ?_
 refine AWp.s_reg hGn hGk (aa 2) (Man.aa _ _) [(0, a'1), (1, a'2), (5, (vI ((i : Nat) : Int))), (7, (vI ((ss.length : Nat) : Int))), (8, (vI ((i : Nat) : Int)))] [(1005, a'3), (1004, (.box [(vS t)]))] (by kernel_rfl) (by kernel_rfl) ?_
 refine AWp.s_reg hGn hGk [.a, .a, .a, .m (some 14) ⟨[(12, a'1), (13, (vI ((i : Nat) : Int)))], [], (.eptr [(pS ((nth ss i).Name)), (.sl false 10 (((nth ss i).Layers).map D.Layer.cells)), (.sl false 5 (((nth ss i).Edits).map D.Edit.cells))]), [], []⟩, .a, .m (some 16) ⟨[(11, a'2), (15, (.agg [(vS ((nth ss i).Name)), (.p (.sl false 10 (((nth ss i).Layers).map D.Layer.cells))), (.p (.sl false 5 (((nth ss i).Edits).map D.Edit.cells)))]))], [(1005, a'3), (1004, (.box [(vS t)]))], (vB (decide ((nth ss i).Name = t))), [(1005, a'3), (1004, (.box [(vS t)]))], []⟩] ⟨StepOK.p rfl rfl rfl (OpOK.indexP (e := 85) rfl (by kernel_rfl) (by kernel_rfl) rfl rfl rfl (map_nth (by omega))),
  StepOK.p rfl rfl rfl (OpOK.callClo rfl rfl (by kernel_rfl) rfl (res_sos1 (nth ss i) t) (by kernel_rfl)), trivial⟩ [(0, a'1), (1, a'2), (5, (vI ((i : Nat) : Int))), (7, (vI ((ss.length : Nat) : Int))), (8, (vI ((i : Nat) : Int))), (16, (vB (decide ((nth ss i).Name = t))))] [(1005, a'3), (1004, (.box [(vS t)]))] (by kernel_rfl) (by kernel_rfl) ?_
 by_cases hs2 : i = q
 ·skip
  refine AWp.cond (decide ((nth ss i).Name = t)) rfl (fun hc3 => ?_) (fun hc3 => ?_)
  ·skip
   refine AWp.s_reg hGn hGk (aa 2) (Man.aa _ _) [(4, (vI ((i : Nat) : Int)))] [(1005, a'3), (1004, (.box [(vS t)]))] (by kernel_rfl) (by kernel_rfl) ?_
   refine AWp.ret ?_
   refine blockQ_ret ?_
   refine nextQ_ret ?_
   refine nextQ_ret ?_
   refine blockQ_ret ?_
   refine nextQ_ret ?_
   refine fin_of (.inr rfl) (v := (vI ((i : Nat) : Int))) (Res.tmp rfl rfl) (h' := [(1005, (.box [(.p (.v (.func (.func 191) #[] #[])))])), (1004, (.box [(vS t)]))]) rfl rfl ?_
   exact ⟨by rw [show i = q from by omega], rfl⟩
  · exact absurd hc3 (by rw [(decide_eq_true (by rw [show i = q from by omega]; exact he))]; decide)
 ·skip
  refine AWp.cond (decide ((nth ss i).Name = t)) rfl (fun hc4 => ?_) (fun hc4 => ?_)
  · exact absurd hc4 (by rw [(decide_eq_false (hn i (by omega)))]; decide)
  ·skip
   refine AWp.skip ?_
   refine blockQ_normal ?_
   refine nextQ_normal ?_
   refine AWp.reg' hGn hGk [.m (some 18) ⟨[(8, (vI ((i : Nat) : Int)))], [], (vI ((i + 1 : Nat) : Int)), [], []⟩, .a] ⟨StepOK.p rfl rfl rfl (OpOK.add rfl rfl rfl (by rw [IntWalk.i64_in _ ⟨by omega, by omega⟩]; omega)), trivial⟩ [(0, a'1), (1, a'2), (7, (vI ((ss.length : Nat) : Int))), (8, (vI ((i + 1 : Nat) : Int)))] [(1005, a'3), (1004, (.box [(vS t)]))] (by kernel_rfl) (by kernel_rfl) ?_
   refine nextQ_normal ⟨_, ?_, (i + 1), rfl, (by omega), rfl⟩
   · omega
theorem res_sos (ss : List D.Schedule) (t : ByteArray) (q : Nat) (hq : q < ss.length) (hps : ss.length ≤ 1000000) (hn : ∀ j, j < q → (nth ss j).Name ≠ t) (he : (nth ss q).Name = t) :
    SpecIs Tryz.prog 190 [(.p (.sl false 3 (ss.map D.Schedule.cells))), (vS t), (.p (.v (.func (.func 191) #[] #[])))] [] (.tup [(vI ((q : Nat) : Int)), (vB true)]) [] := by
 refine Spec.intro Tryz.func190 rfl (by kernel_rfl) ?_
 intro Γ hGn hGk
 replace hGn : Γ.n = 16 := hGn
 replace hGk : Γ.names = [] := hGk
 let a'1 : AV := (.p (.sl false 3 (ss.map D.Schedule.cells)))
 refine AWp.weaken (mk [(0, a'1), (1, (vS t)), (2, (.p (.v (.func (.func 191) #[] #[]))))] []) (Weak.sub' hGk (by kernel_rfl)) ?_
 let a'2 : AO := (.box [(.p (.v (.func (.func 191) #[] #[])))])
 refine AWp.s_reg hGn hGk (aa 4) (Man.aa _ _) [(0, a'1), (4, (.ref 1004 0)), (5, (.ref 1005 0))] [(1004, (.box [(vS t)])), (1005, a'2)] (by kernel_rfl) (by kernel_rfl) ?_
 refine AWp.s_reg hGn hGk [.a, .a, .m (some 11) ⟨[(9, a'1), (10, (.clo (.func 204) [] [(.ref 1005 0), (.ref 1004 0)]))], [(1005, a'2), (1004, (.box [(vS t)]))], (vI ((q : Nat) : Int)), [(1005, a'2), (1004, (.box [(vS t)]))], []⟩, .a] ⟨StepOK.p rfl rfl rfl (OpOK.call rfl (by kernel_rfl) rfl (res_sidx ss t q hq hps hn he) (by kernel_rfl)), trivial⟩ [(8, (vI ((q : Nat) : Int)))] [] (by kernel_rfl) (by kernel_rfl) ?_
 refine AWp.s_reg hGn hGk [.a, .m (some 13) ⟨[(12, (vI ((q : Nat) : Int)))], [], (vI ((q : Nat) : Int)), [], []⟩, .a, .m (some 15) ⟨[(14, (vI ((q : Nat) : Int)))], [], (vB true), [], []⟩, .a, .a] ⟨StepOK.p rfl rfl rfl (OpOK.maxI rfl rfl rfl (max_nat q)),
  StepOK.p rfl rfl rfl (OpOK.geq rfl rfl rfl (decide_eq_true (by omega))), trivial⟩ [(6, (vI ((q : Nat) : Int))), (7, (vB true))] [] (by kernel_rfl) (by kernel_rfl) ?_
 refine AWp.ret ?_
 refine fin_of (.inr rfl) (v := (.tup [(vI ((q : Nat) : Int)), (vB true)])) (Res.many (by kernel_rfl) (Res1s.cons (Res1.tmp rfl) (Res1s.cons (Res1.tmp rfl) Res1s.nil))) (h' := []) rfl rfl ?_
 exact ⟨by first | rfl | (rw [show decide ((0 : Int) ≤ ((q : Nat) : Int)) = true from decide_eq_true (by omega)]), rfl⟩
theorem res_Schedule (c : D.Config) (t : ByteArray) (q : Nat) (hps : c.Schedules.length ≤ 1000000) (hq : q < c.Schedules.length) (hn : ∀ j, j < q → (nth c.Schedules j).Name ≠ t) (he : (nth c.Schedules q).Name = t) :
    SpecIs Tryz.prog 168 [(.agg [(.p (.sl false 3 (c.Zones.map D.Zone.cells))), (.p (.sl false 6 (c.People.map D.Person.cells))), (.p (.sl false 3 (c.Calendars.map D.Calendar.cells))), (.p (.sl false 3 (c.Schedules.map D.Schedule.cells)))]), (vS t)] [] (.tup [(vI ((q : Nat) : Int)), (vB true)]) [] := by
 refine Spec.intro Tryz.func168 rfl (by kernel_rfl) ?_
 intro Γ hGn hGk
 replace hGn : Γ.n = 12 := hGn
 replace hGk : Γ.names = [] := hGk
 let a'1 : AV := (.p (.sl false 3 (c.Schedules.map D.Schedule.cells)))
 refine AWp.weaken (mk [(0, (.agg [(.p (.sl false 3 (c.Zones.map D.Zone.cells))), (.p (.sl false 6 (c.People.map D.Person.cells))), (.p (.sl false 3 (c.Calendars.map D.Calendar.cells))), a'1])), (1, (vS t))] []) (Weak.sub' hGk (by kernel_rfl)) ?_
 refine AWp.s_reg hGn hGk (aa 3) (Man.aa _ _) [(1, (vS t)), (2, (.ref 1002 0))] [(1002, (.box [(.p (.sl false 3 (c.Zones.map D.Zone.cells))), (.p (.sl false 6 (c.People.map D.Person.cells))), (.p (.sl false 3 (c.Calendars.map D.Calendar.cells))), a'1]))] (by kernel_rfl) (by kernel_rfl) ?_
 refine AWp.s_reg hGn hGk [.a, .a, .a, .m (some 9) ⟨[(7, a'1), (8, (vS t))], [], (.tup [(vI ((q : Nat) : Int)), (vB true)]), [], []⟩, .a, .a, .a, .a] ⟨StepOK.p rfl rfl rfl (OpOK.call rfl (by kernel_rfl) rfl (res_sos c.Schedules t q hq (by omega) hn he) (by kernel_rfl)), trivial⟩ [(4, (vI ((q : Nat) : Int))), (5, (vB true))] [] (by kernel_rfl) (by kernel_rfl) ?_
 refine AWp.ret ?_
 refine fin_of (.inr rfl) (v := (.tup [(vI ((q : Nat) : Int)), (vB true)])) (Res.many (by kernel_rfl) (Res1s.cons (Res1.tmp rfl) (Res1s.cons (Res1.tmp rfl) Res1s.nil))) (h' := []) rfl rfl ?_
 exact ⟨rfl, rfl⟩
theorem rd_team0 (c : D.Config) (b : D.Book) (h : CfgOK c) (hb : BookV b) (i2 : Nat) (hi2 : i2 < b.Policies.length) (t : ByteArray) (q : Nat) (hq : q < b.Teams.length) (he : (nth b.Teams q).Name = t) :
    SpecIs Tryz.prog 169 [(.ref 1023 0), (vS t)] [(1023, (.box [(.p (.sl false 3 (c.Zones.map D.Zone.cells))), (.p (.sl false 6 (c.People.map D.Person.cells))), (.p (.sl false 3 (c.Calendars.map D.Calendar.cells))), (.p (.sl false 3 (c.Schedules.map D.Schedule.cells))), (.p (.sl false 2 (b.Teams.map D.Team.cells))), (.own 2001 (((b.Policies.take (i2 + 1)).map D.Policy.cells).length))])), (2001, (.hole 3 ((b.Policies.take i2).map D.Policy.cells) [(vS ((nth b.Policies i2).Name)), (.p (.sl true 0 [])), (vI ((nth b.Policies i2).Repeat))] []))] (.tup [(vI ((q : Nat) : Int)), (vB true)]) [(1023, (.box [(.p (.sl false 3 (c.Zones.map D.Zone.cells))), (.p (.sl false 6 (c.People.map D.Person.cells))), (.p (.sl false 3 (c.Calendars.map D.Calendar.cells))), (.p (.sl false 3 (c.Schedules.map D.Schedule.cells))), (.p (.sl false 2 (b.Teams.map D.Team.cells))), (.own 2001 (((b.Policies.take (i2 + 1)).map D.Policy.cells).length))])), (2001, (.hole 3 ((b.Policies.take i2).map D.Policy.cells) [(vS ((nth b.Policies i2).Name)), (.p (.sl true 0 [])), (vI ((nth b.Policies i2).Repeat))] []))] := by
 refine Spec.intro Tryz.func169 rfl (by kernel_rfl) ?_
 intro Γ hGn hGk
 replace hGn : Γ.n = 25 := hGn
 replace hGk : Γ.names = [1023, 2001] := hGk
 have htl := hb.tlen
 let a'1 : AV := (.p (.sl false 3 (c.Zones.map D.Zone.cells)))
 let a'2 : AV := (.p (.sl false 6 (c.People.map D.Person.cells)))
 let a'3 : AV := (.p (.sl false 3 (c.Calendars.map D.Calendar.cells)))
 let a'4 : AV := (.p (.sl false 3 (c.Schedules.map D.Schedule.cells)))
 let a'5 : AV := (.p (.sl false 2 (b.Teams.map D.Team.cells)))
 let a'6 : AV := (.own 2001 (((b.Policies.take (i2 + 1)).map D.Policy.cells).length))
 let a'7 : AO := (.box [a'1, a'2, a'3, a'4, a'5, a'6])
 let a'8 : AO := (.hole 3 ((b.Policies.take i2).map D.Policy.cells) [(vS ((nth b.Policies i2).Name)), (.p (.sl true 0 [])), (vI ((nth b.Policies i2).Repeat))] [])
 refine AWp.weaken (mk [(0, (.ref 1023 0)), (1, (vS t))] [(1023, a'7), (2001, a'8)]) (Weak.sub' hGk (by kernel_rfl)) ?_
 refine AWp.s_reg hGn hGk (aa 2) (Man.aa _ _) [(0, (.ref 1023 0)), (1, (vS t))] [(1023, a'7), (2001, a'8)] (by kernel_rfl) (by kernel_rfl) ?_
 refine AWp.seq ?_
 refine AWp.s_reg hGn hGk [.a, .a, .a, .a, .a, .m (some 13) ⟨[(12, a'5)], [], (vI ((b.Teams.length : Nat) : Int)), [], []⟩, .a] ⟨StepOK.p rfl rfl rfl (OpOK.lenP (e := 111) rfl rfl (by kernel_rfl) rfl (by rw [List.length_map])), trivial⟩ [(1, (vS t)), (12, a'5), (13, (vI ((b.Teams.length : Nat) : Int))), (14, (vI 0))] [(1023, a'7), (2001, a'8)] (by kernel_rfl) (by kernel_rfl) ?_
 refine AWp.block ?_
 refine AWp.loop (fun m s => ∃ i, s = (mk [(1, (vS t)), (12, (.p (.sl false 2 (b.Teams.map D.Team.cells)))), (13, (vI ((b.Teams.length : Nat) : Int))), (14, (vI ((i : Nat) : Int)))] [(1023, (.box [(.p (.sl false 3 (c.Zones.map D.Zone.cells))), (.p (.sl false 6 (c.People.map D.Person.cells))), (.p (.sl false 3 (c.Calendars.map D.Calendar.cells))), (.p (.sl false 3 (c.Schedules.map D.Schedule.cells))), (.p (.sl false 2 (b.Teams.map D.Team.cells))), (.own 2001 (((b.Policies.take (i2 + 1)).map D.Policy.cells).length))])), (2001, (.hole 3 ((b.Policies.take i2).map D.Policy.cells) [(vS ((nth b.Policies i2).Name)), (.p (.sl true 0 [])), (vI ((nth b.Policies i2).Repeat))] []))]) ∧ (i ≤ q) ∧ m = (q - i))
  ⟨_, 0, rfl, (by omega), rfl⟩ ?_
 rintro mm1 s ⟨i, rfl, hi, hmm1⟩
 refine AWp.s_reg hGn hGk [.m (some 15) ⟨[(14, (vI ((i : Nat) : Int))), (13, (vI ((b.Teams.length : Nat) : Int)))], [], (vB true), [], []⟩] ⟨StepOK.p rfl rfl rfl (OpOK.lss rfl rfl rfl (decide_eq_true (by omega))), trivial⟩ [(1, (vS t)), (12, a'5), (13, (vI ((b.Teams.length : Nat) : Int))), (14, (vI ((i : Nat) : Int))), (15, (vB true))] [(1023, a'7), (2001, a'8)] (by kernel_rfl) (by kernel_rfl) ?_
 refine AWp.seq ?_
 refine AWp.cond_true rfl ?_
 refine AWp.skip ?_
 refine nextQ_normal ?_
 refine AWp.seq ?_
 refine AWp.block ?_
 refine AWp.s_reg hGn hGk [.a, .m (some 17) ⟨[(12, a'5), (14, (vI ((i : Nat) : Int)))], [], (.eptr [(pS ((nth b.Teams i).Name)), (.sl false 1 (((nth b.Teams i).Members).map D.cInt))]), [], []⟩, .a, .a, .a, .a] ⟨StepOK.p rfl rfl rfl (OpOK.indexP (e := 111) rfl (by kernel_rfl) (by kernel_rfl) rfl rfl rfl (map_nth (by omega))), trivial⟩ [(1, (vS t)), (6, (vI ((i : Nat) : Int))), (7, (.ref 1007 0)), (12, a'5), (13, (vI ((b.Teams.length : Nat) : Int))), (14, (vI ((i : Nat) : Int)))] [(1023, a'7), (2001, a'8), (1007, (.box [(vS ((nth b.Teams i).Name)), (.p (.sl false 1 (((nth b.Teams i).Members).map D.cInt)))]))] (by kernel_rfl) (by kernel_rfl) ?_
 by_cases hs2 : i = q
 ·skip
  refine AWp.s_reg hGn hGk [.a, .a, .a, .m (some 22) ⟨[(20, (vS ((nth b.Teams i).Name))), (21, (vS t))], [], (vB true), [], []⟩] ⟨StepOK.p rfl rfl rfl (OpOK.eqlS rfl rfl rfl (decide_eq_true (by rw [show i = q from by omega]; exact he))), trivial⟩ [(1, (vS t)), (6, (vI ((i : Nat) : Int))), (12, a'5), (13, (vI ((b.Teams.length : Nat) : Int))), (14, (vI ((i : Nat) : Int))), (22, (vB true))] [(1023, a'7), (2001, a'8)] (by kernel_rfl) (by kernel_rfl) ?_
  refine AWp.cond_true rfl ?_
  refine AWp.s_reg hGn hGk (aa 3) (Man.aa _ _) [(4, (vI ((i : Nat) : Int))), (5, (vB true))] [(1023, a'7), (2001, a'8)] (by kernel_rfl) (by kernel_rfl) ?_
  refine AWp.ret ?_
  refine blockQ_ret ?_
  refine nextQ_ret ?_
  refine nextQ_ret ?_
  refine blockQ_ret ?_
  refine nextQ_ret ?_
  refine fin_of (.inr rfl) (v := (.tup [(vI ((i : Nat) : Int)), (vB true)])) (Res.many (by kernel_rfl) (Res1s.cons (Res1.tmp rfl) (Res1s.cons (Res1.tmp rfl) Res1s.nil))) (h' := [(1023, (.box [(.p (.sl false 3 (c.Zones.map D.Zone.cells))), (.p (.sl false 6 (c.People.map D.Person.cells))), (.p (.sl false 3 (c.Calendars.map D.Calendar.cells))), (.p (.sl false 3 (c.Schedules.map D.Schedule.cells))), (.p (.sl false 2 (b.Teams.map D.Team.cells))), (.own 2001 (((b.Policies.take (i2 + 1)).map D.Policy.cells).length))])), (2001, (.hole 3 ((b.Policies.take i2).map D.Policy.cells) [(vS ((nth b.Policies i2).Name)), (.p (.sl true 0 [])), (vI ((nth b.Policies i2).Repeat))] []))]) rfl rfl ?_
  exact ⟨by rw [show i = q from by omega], rfl⟩
 ·skip
  refine AWp.s_reg hGn hGk [.a, .a, .a, .m (some 22) ⟨[(20, (vS ((nth b.Teams i).Name))), (21, (vS t))], [], (vB false), [], []⟩] ⟨StepOK.p rfl rfl rfl (OpOK.eqlS rfl rfl rfl (decide_eq_false (by rw [← he]; exact teams_ne hb (by omega) hq))), trivial⟩ [(1, (vS t)), (6, (vI ((i : Nat) : Int))), (12, a'5), (13, (vI ((b.Teams.length : Nat) : Int))), (14, (vI ((i : Nat) : Int))), (22, (vB false))] [(1023, a'7), (2001, a'8)] (by kernel_rfl) (by kernel_rfl) ?_
  refine AWp.cond_false rfl ?_
  refine AWp.skip ?_
  refine blockQ_normal ?_
  refine nextQ_normal ?_
  refine AWp.reg' hGn hGk [.m (some 24) ⟨[(14, (vI ((i : Nat) : Int)))], [], (vI ((i + 1 : Nat) : Int)), [], []⟩, .a] ⟨StepOK.p rfl rfl rfl (OpOK.add rfl rfl rfl (by rw [IntWalk.i64_in _ ⟨by omega, by omega⟩]; omega)), trivial⟩ [(1, (vS t)), (12, a'5), (13, (vI ((b.Teams.length : Nat) : Int))), (14, (vI ((i + 1 : Nat) : Int)))] [(1023, a'7), (2001, a'8)] (by kernel_rfl) (by kernel_rfl) ?_
  refine nextQ_normal ⟨_, ?_, (i + 1), rfl, (by omega), rfl⟩
  · omega
theorem rd_target0 (c : D.Config) (b : D.Book) (h : CfgOK c) (hb : BookV b) (i2 : Nat) (hi2 : i2 < b.Policies.length) (t : D.Target) (kw nw : ByteArray) (htg : TgtOK b.Teams.length t) (hkw : kw = kwT t) (hnw : nw = nwT c b t) :
    SpecIs Tryz.prog 139 [(.ref 1023 0), (vS kw), (vS nw)] [(1023, (.box [(.p (.sl false 3 (c.Zones.map D.Zone.cells))), (.p (.sl false 6 (c.People.map D.Person.cells))), (.p (.sl false 3 (c.Calendars.map D.Calendar.cells))), (.p (.sl false 3 (c.Schedules.map D.Schedule.cells))), (.p (.sl false 2 (b.Teams.map D.Team.cells))), (.own 2001 (((b.Policies.take (i2 + 1)).map D.Policy.cells).length))])), (2001, (.hole 3 ((b.Policies.take i2).map D.Policy.cells) [(vS ((nth b.Policies i2).Name)), (.p (.sl true 0 [])), (vI ((nth b.Policies i2).Repeat))] []))] (.tup [(.agg [(vI t.Kind), (vI t.Index)]), (vB true)]) [(1023, (.box [(.p (.sl false 3 (c.Zones.map D.Zone.cells))), (.p (.sl false 6 (c.People.map D.Person.cells))), (.p (.sl false 3 (c.Calendars.map D.Calendar.cells))), (.p (.sl false 3 (c.Schedules.map D.Schedule.cells))), (.p (.sl false 2 (b.Teams.map D.Team.cells))), (.own 2001 (((b.Policies.take (i2 + 1)).map D.Policy.cells).length))])), (2001, (.hole 3 ((b.Policies.take i2).map D.Policy.cells) [(vS ((nth b.Policies i2).Name)), (.p (.sl true 0 [])), (vI ((nth b.Policies i2).Repeat))] []))] := by
 refine Spec.intro Tryz.func139 rfl (by kernel_rfl) ?_
 intro Γ hGn hGk
 replace hGn : Γ.n = 45 := hGn
 replace hGk : Γ.names = [1023, 2001] := hGk
 have hpl := h.plen
 have hsl := h.slen
 have htg0 := htg.1
 let a'1 : AV := (.p (.sl false 3 (c.Zones.map D.Zone.cells)))
 let a'2 : AV := (.p (.sl false 6 (c.People.map D.Person.cells)))
 let a'3 : AV := (.p (.sl false 3 (c.Calendars.map D.Calendar.cells)))
 let a'4 : AV := (.p (.sl false 3 (c.Schedules.map D.Schedule.cells)))
 let a'5 : AV := (.p (.sl false 2 (b.Teams.map D.Team.cells)))
 let a'6 : AV := (.own 2001 (((b.Policies.take (i2 + 1)).map D.Policy.cells).length))
 let a'7 : AO := (.box [a'1, a'2, a'3, a'4, a'5, a'6])
 let a'8 : AO := (.hole 3 ((b.Policies.take i2).map D.Policy.cells) [(vS ((nth b.Policies i2).Name)), (.p (.sl true 0 [])), (vI ((nth b.Policies i2).Repeat))] [])
 refine AWp.weaken (mk [(0, (.ref 1023 0)), (1, (vS kw)), (2, (vS nw))] [(1023, a'7), (2001, a'8)]) (Weak.sub' hGk (by kernel_rfl)) ?_
 refine AWp.s_reg hGn hGk (aa 2) (Man.aa _ _) [(0, (.ref 1023 0)), (1, (vS kw)), (2, (vS nw)), (6, (.ref 1006 0))] [(1023, a'7), (2001, a'8), (1006, (.box [(vI 0), (vI 0)]))] (by kernel_rfl) (by kernel_rfl) ?_
 refine AWp.seq ?_
 refine AWp.s_reg hGn hGk (aa 1) (Man.aa _ _) [(0, (.ref 1023 0)), (2, (vS nw)), (6, (.ref 1006 0)), (8, (vS kw))] [(1023, a'7), (2001, a'8), (1006, (.box [(vI 0), (vI 0)]))] (by kernel_rfl) (by kernel_rfl) ?_
 refine AWp.block ?_
 by_cases hs1 : t.Kind = 0
 ·skip
  refine AWp.s_reg hGn hGk [.m (some 18) ⟨[(8, (vS kw))], [], (vB true), [], []⟩, .a] ⟨StepOK.p rfl rfl rfl (OpOK.eqlS rfl rfl rfl (decide_eq_true (by rw [hkw]; exact kw0 (by assumption)))), trivial⟩ [(0, (.ref 1023 0)), (2, (vS nw)), (6, (.ref 1006 0)), (8, (vS kw)), (17, (vB true))] [(1023, a'7), (2001, a'8), (1006, (.box [(vI 0), (vI 0)]))] (by kernel_rfl) (by kernel_rfl) ?_
  refine AWp.cond_true rfl ?_
  refine AWp.s_reg hGn hGk (aa 2) (Man.aa _ _) [(0, (.ref 1023 0)), (2, (vS nw)), (6, (.ref 1006 0))] [(1023, a'7), (2001, a'8), (1006, (.box [(vI 0), (vI 0)]))] (by kernel_rfl) (by kernel_rfl) ?_
  refine AWp.reg' hGn hGk [.a, .a, .a, .a, .a, .m (some 26) ⟨[(24, (.agg [a'1, a'2, a'3, a'4])), (25, (vS nw))], [], (.tup [(vI t.Index), (vB true)]), [], []⟩, .a, .a, .a, .a, .a, .a] ⟨StepOK.p rfl rfl rfl (OpOK.call rfl (by kernel_rfl) rfl (by have h' := res_Person c nw (by omega); rw [hnw, nw0 (by assumption), person_in h htg.1 (by have := htg.2; omega), ← nw0 (c := c) (b := b) (by assumption), ← hnw] at h'; exact h') (by kernel_rfl)), trivial⟩ [(6, (.ref 1006 0)), (7, (vB true))] [(1023, a'7), (2001, a'8), (1006, (.box [(vI 0), (vI t.Index)]))] (by kernel_rfl) (by kernel_rfl) ?_
  refine blockQ_normal ?_
  refine nextQ_normal ?_
  refine AWp.s_reg hGn hGk (aa 4) (Man.aa _ _) [(6, (.ref 1006 0)), (7, (vB true))] [(1023, a'7), (2001, a'8), (1006, (.box [(vI 0), (vI t.Index)]))] (by kernel_rfl) (by kernel_rfl) ?_
  refine AWp.ret ?_
  refine fin_of (.inr rfl) (v := (.tup [(.agg [(vI 0), (vI t.Index)]), (vB true)])) (Res.many (by kernel_rfl) (Res1s.cons (Res1.agg rfl rfl (by kernel_rfl) (by kernel_rfl)) (Res1s.cons (Res1.tmp rfl) Res1s.nil))) (h' := [(1023, (.box [(.p (.sl false 3 (c.Zones.map D.Zone.cells))), (.p (.sl false 6 (c.People.map D.Person.cells))), (.p (.sl false 3 (c.Calendars.map D.Calendar.cells))), (.p (.sl false 3 (c.Schedules.map D.Schedule.cells))), (.p (.sl false 2 (b.Teams.map D.Team.cells))), (.own 2001 (((b.Policies.take (i2 + 1)).map D.Policy.cells).length))])), (2001, (.hole 3 ((b.Policies.take i2).map D.Policy.cells) [(vS ((nth b.Policies i2).Name)), (.p (.sl true 0 [])), (vI ((nth b.Policies i2).Repeat))] []))]) rfl rfl ?_
  exact ⟨by rw [show t.Kind = (0 : Int) from by have := htg.2; omega], rfl⟩
 ·skip
  refine AWp.s_reg hGn hGk [.m (some 18) ⟨[(8, (vS kw))], [], (vB false), [], []⟩, .a] ⟨StepOK.p rfl rfl rfl (OpOK.eqlS rfl rfl rfl (decide_eq_false (by rw [hkw, kw_p]; assumption))), trivial⟩ [(0, (.ref 1023 0)), (2, (vS nw)), (6, (.ref 1006 0)), (8, (vS kw)), (17, (vB false))] [(1023, a'7), (2001, a'8), (1006, (.box [(vI 0), (vI 0)]))] (by kernel_rfl) (by kernel_rfl) ?_
  refine AWp.cond_false rfl ?_
  by_cases hs2 : t.Kind = 1
  ·skip
   refine AWp.s_reg hGn hGk [.m (some 31) ⟨[(8, (vS kw))], [], (vB true), [], []⟩, .a] ⟨StepOK.p rfl rfl rfl (OpOK.eqlS rfl rfl rfl (decide_eq_true (by rw [hkw]; exact kw1 (by assumption) (by assumption)))), trivial⟩ [(0, (.ref 1023 0)), (2, (vS nw)), (6, (.ref 1006 0)), (30, (vB true))] [(1023, a'7), (2001, a'8), (1006, (.box [(vI 0), (vI 0)]))] (by kernel_rfl) (by kernel_rfl) ?_
   refine AWp.cond_true rfl ?_
   refine AWp.s_reg hGn hGk (aa 2) (Man.aa _ _) [(0, (.ref 1023 0)), (2, (vS nw)), (6, (.ref 1006 0))] [(1023, a'7), (2001, a'8), (1006, (.box [(vI 1), (vI 0)]))] (by kernel_rfl) (by kernel_rfl) ?_
   refine AWp.reg' hGn hGk [.a, .a, .a, .a, .a, .m (some 39) ⟨[(37, (.agg [a'1, a'2, a'3, a'4])), (38, (vS nw))], [], (.tup [(vI t.Index), (vB true)]), [], []⟩, .a, .a, .a, .a, .a, .a] ⟨StepOK.p rfl rfl rfl (OpOK.call rfl (by kernel_rfl) rfl (by have h' := res_Schedule c nw t.Index.toNat (by omega) (by have := htg.2; omega) (by have hq2 : t.Index.toNat < 2 := (by have := htg.2; omega); intro j hj; rw [hnw, nw1 (by assumption) (by assumption)]; exact sched_ne h hj hq2) (by rw [hnw, nw1 (by assumption) (by assumption)]); rw [show ((t.Index.toNat : Nat) : Int) = t.Index by omega] at h'; exact h') (by kernel_rfl)), trivial⟩ [(6, (.ref 1006 0)), (7, (vB true))] [(1023, a'7), (2001, a'8), (1006, (.box [(vI 1), (vI t.Index)]))] (by kernel_rfl) (by kernel_rfl) ?_
   refine blockQ_normal ?_
   refine nextQ_normal ?_
   refine AWp.s_reg hGn hGk (aa 4) (Man.aa _ _) [(6, (.ref 1006 0)), (7, (vB true))] [(1023, a'7), (2001, a'8), (1006, (.box [(vI 1), (vI t.Index)]))] (by kernel_rfl) (by kernel_rfl) ?_
   refine AWp.ret ?_
   refine fin_of (.inr rfl) (v := (.tup [(.agg [(vI 1), (vI t.Index)]), (vB true)])) (Res.many (by kernel_rfl) (Res1s.cons (Res1.agg rfl rfl (by kernel_rfl) (by kernel_rfl)) (Res1s.cons (Res1.tmp rfl) Res1s.nil))) (h' := [(1023, (.box [(.p (.sl false 3 (c.Zones.map D.Zone.cells))), (.p (.sl false 6 (c.People.map D.Person.cells))), (.p (.sl false 3 (c.Calendars.map D.Calendar.cells))), (.p (.sl false 3 (c.Schedules.map D.Schedule.cells))), (.p (.sl false 2 (b.Teams.map D.Team.cells))), (.own 2001 (((b.Policies.take (i2 + 1)).map D.Policy.cells).length))])), (2001, (.hole 3 ((b.Policies.take i2).map D.Policy.cells) [(vS ((nth b.Policies i2).Name)), (.p (.sl true 0 [])), (vI ((nth b.Policies i2).Repeat))] []))]) rfl rfl ?_
   exact ⟨by rw [show t.Kind = (1 : Int) from by have := htg.2; omega], rfl⟩
  ·skip
   refine AWp.s_reg hGn hGk [.m (some 31) ⟨[(8, (vS kw))], [], (vB false), [], []⟩, .a] ⟨StepOK.p rfl rfl rfl (OpOK.eqlS rfl rfl rfl (decide_eq_false (by rw [hkw, kw_s _ (by assumption)]; assumption))), trivial⟩ [(0, (.ref 1023 0)), (2, (vS nw)), (6, (.ref 1006 0)), (30, (vB false))] [(1023, a'7), (2001, a'8), (1006, (.box [(vI 0), (vI 0)]))] (by kernel_rfl) (by kernel_rfl) ?_
   refine AWp.cond_false rfl ?_
   refine AWp.s_reg hGn hGk (aa 2) (Man.aa _ _) [(0, (.ref 1023 0)), (2, (vS nw)), (6, (.ref 1006 0))] [(1023, a'7), (2001, a'8), (1006, (.box [(vI 2), (vI 0)]))] (by kernel_rfl) (by kernel_rfl) ?_
   refine AWp.reg' hGn hGk [.a, .a, .m (some 13) ⟨[(11, (.ref 1023 0)), (12, (vS nw))], [(1023, a'7), (2001, a'8)], (.tup [(vI t.Index), (vB true)]), [(1023, a'7), (2001, a'8)], []⟩, .a, .a, .a, .a, .a, .a] ⟨StepOK.p rfl rfl rfl (OpOK.call rfl (by kernel_rfl) rfl (by have h' := rd_team0 c b h hb i2 hi2 nw t.Index.toNat (by have := htg.2; omega) (by rw [hnw, nw2 (by assumption) (by assumption)]); rw [show ((t.Index.toNat : Nat) : Int) = t.Index by omega] at h'; exact h') (by kernel_rfl)), trivial⟩ [(6, (.ref 1006 0)), (7, (vB true))] [(1023, a'7), (2001, a'8), (1006, (.box [(vI 2), (vI t.Index)]))] (by kernel_rfl) (by kernel_rfl) ?_
   refine blockQ_normal ?_
   refine nextQ_normal ?_
   refine AWp.s_reg hGn hGk (aa 4) (Man.aa _ _) [(6, (.ref 1006 0)), (7, (vB true))] [(1023, a'7), (2001, a'8), (1006, (.box [(vI 2), (vI t.Index)]))] (by kernel_rfl) (by kernel_rfl) ?_
   refine AWp.ret ?_
   refine fin_of (.inr rfl) (v := (.tup [(.agg [(vI 2), (vI t.Index)]), (vB true)])) (Res.many (by kernel_rfl) (Res1s.cons (Res1.agg rfl rfl (by kernel_rfl) (by kernel_rfl)) (Res1s.cons (Res1.tmp rfl) Res1s.nil))) (h' := [(1023, (.box [(.p (.sl false 3 (c.Zones.map D.Zone.cells))), (.p (.sl false 6 (c.People.map D.Person.cells))), (.p (.sl false 3 (c.Calendars.map D.Calendar.cells))), (.p (.sl false 3 (c.Schedules.map D.Schedule.cells))), (.p (.sl false 2 (b.Teams.map D.Team.cells))), (.own 2001 (((b.Policies.take (i2 + 1)).map D.Policy.cells).length))])), (2001, (.hole 3 ((b.Policies.take i2).map D.Policy.cells) [(vS ((nth b.Policies i2).Name)), (.p (.sl true 0 [])), (vI ((nth b.Policies i2).Repeat))] []))]) rfl rfl ?_
   exact ⟨by rw [show t.Kind = (2 : Int) from by have := htg.2; omega], rfl⟩
theorem rd_teamk (c : D.Config) (b : D.Book) (h : CfgOK c) (hb : BookV b) (i2 : Nat) (hi2 : i2 < b.Policies.length) (k : Nat) (hk : k < (nth b.Policies i2).Steps.length) (t : ByteArray) (q : Nat) (hq : q < b.Teams.length) (he : (nth b.Teams q).Name = t) :
    SpecIs Tryz.prog 169 [(.ref 1023 0), (vS t)] [(1023, (.box [(.p (.sl false 3 (c.Zones.map D.Zone.cells))), (.p (.sl false 6 (c.People.map D.Person.cells))), (.p (.sl false 3 (c.Calendars.map D.Calendar.cells))), (.p (.sl false 3 (c.Schedules.map D.Schedule.cells))), (.p (.sl false 2 (b.Teams.map D.Team.cells))), (.own 2001 (((b.Policies.take (i2 + 1)).map D.Policy.cells).length))])), (2001, (.hole 3 ((b.Policies.take i2).map D.Policy.cells) [(vS ((nth b.Policies i2).Name)), (.own 2002 ((((nth b.Policies i2).Steps.take k).map D.PolicyStep.cells).length)), (vI ((nth b.Policies i2).Repeat))] [])), (2002, (.arr 3 (((nth b.Policies i2).Steps.take k).map D.PolicyStep.cells)))] (.tup [(vI ((q : Nat) : Int)), (vB true)]) [(1023, (.box [(.p (.sl false 3 (c.Zones.map D.Zone.cells))), (.p (.sl false 6 (c.People.map D.Person.cells))), (.p (.sl false 3 (c.Calendars.map D.Calendar.cells))), (.p (.sl false 3 (c.Schedules.map D.Schedule.cells))), (.p (.sl false 2 (b.Teams.map D.Team.cells))), (.own 2001 (((b.Policies.take (i2 + 1)).map D.Policy.cells).length))])), (2001, (.hole 3 ((b.Policies.take i2).map D.Policy.cells) [(vS ((nth b.Policies i2).Name)), (.own 2002 ((((nth b.Policies i2).Steps.take k).map D.PolicyStep.cells).length)), (vI ((nth b.Policies i2).Repeat))] [])), (2002, (.arr 3 (((nth b.Policies i2).Steps.take k).map D.PolicyStep.cells)))] := by
 refine Spec.intro Tryz.func169 rfl (by kernel_rfl) ?_
 intro Γ hGn hGk
 replace hGn : Γ.n = 25 := hGn
 replace hGk : Γ.names = [1023, 2001, 2002] := hGk
 have htl := hb.tlen
 let a'1 : AV := (.p (.sl false 3 (c.Zones.map D.Zone.cells)))
 let a'2 : AV := (.p (.sl false 6 (c.People.map D.Person.cells)))
 let a'3 : AV := (.p (.sl false 3 (c.Calendars.map D.Calendar.cells)))
 let a'4 : AV := (.p (.sl false 3 (c.Schedules.map D.Schedule.cells)))
 let a'5 : AV := (.p (.sl false 2 (b.Teams.map D.Team.cells)))
 let a'6 : AV := (.own 2001 (((b.Policies.take (i2 + 1)).map D.Policy.cells).length))
 let a'7 : AO := (.box [a'1, a'2, a'3, a'4, a'5, a'6])
 let a'8 : AV := (.own 2002 ((((nth b.Policies i2).Steps.take k).map D.PolicyStep.cells).length))
 let a'9 : AO := (.hole 3 ((b.Policies.take i2).map D.Policy.cells) [(vS ((nth b.Policies i2).Name)), a'8, (vI ((nth b.Policies i2).Repeat))] [])
 let a'10 : AO := (.arr 3 (((nth b.Policies i2).Steps.take k).map D.PolicyStep.cells))
 refine AWp.weaken (mk [(0, (.ref 1023 0)), (1, (vS t))] [(1023, a'7), (2001, a'9), (2002, a'10)]) (Weak.sub' hGk (by kernel_rfl)) ?_
 refine AWp.s_reg hGn hGk (aa 2) (Man.aa _ _) [(0, (.ref 1023 0)), (1, (vS t))] [(1023, a'7), (2001, a'9), (2002, a'10)] (by kernel_rfl) (by kernel_rfl) ?_
 refine AWp.seq ?_
 refine AWp.s_reg hGn hGk [.a, .a, .a, .a, .a, .m (some 13) ⟨[(12, a'5)], [], (vI ((b.Teams.length : Nat) : Int)), [], []⟩, .a] ⟨StepOK.p rfl rfl rfl (OpOK.lenP (e := 111) rfl rfl (by kernel_rfl) rfl (by rw [List.length_map])), trivial⟩ [(1, (vS t)), (12, a'5), (13, (vI ((b.Teams.length : Nat) : Int))), (14, (vI 0))] [(1023, a'7), (2001, a'9), (2002, a'10)] (by kernel_rfl) (by kernel_rfl) ?_
 refine AWp.block ?_
 refine AWp.loop (fun m s => ∃ i, s = (mk [(1, (vS t)), (12, (.p (.sl false 2 (b.Teams.map D.Team.cells)))), (13, (vI ((b.Teams.length : Nat) : Int))), (14, (vI ((i : Nat) : Int)))] [(1023, (.box [(.p (.sl false 3 (c.Zones.map D.Zone.cells))), (.p (.sl false 6 (c.People.map D.Person.cells))), (.p (.sl false 3 (c.Calendars.map D.Calendar.cells))), (.p (.sl false 3 (c.Schedules.map D.Schedule.cells))), (.p (.sl false 2 (b.Teams.map D.Team.cells))), (.own 2001 (((b.Policies.take (i2 + 1)).map D.Policy.cells).length))])), (2001, (.hole 3 ((b.Policies.take i2).map D.Policy.cells) [(vS ((nth b.Policies i2).Name)), (.own 2002 ((((nth b.Policies i2).Steps.take k).map D.PolicyStep.cells).length)), (vI ((nth b.Policies i2).Repeat))] [])), (2002, (.arr 3 (((nth b.Policies i2).Steps.take k).map D.PolicyStep.cells)))]) ∧ (i ≤ q) ∧ m = (q - i))
  ⟨_, 0, rfl, (by omega), rfl⟩ ?_
 rintro mm1 s ⟨i, rfl, hi, hmm1⟩
 refine AWp.s_reg hGn hGk [.m (some 15) ⟨[(14, (vI ((i : Nat) : Int))), (13, (vI ((b.Teams.length : Nat) : Int)))], [], (vB true), [], []⟩] ⟨StepOK.p rfl rfl rfl (OpOK.lss rfl rfl rfl (decide_eq_true (by omega))), trivial⟩ [(1, (vS t)), (12, a'5), (13, (vI ((b.Teams.length : Nat) : Int))), (14, (vI ((i : Nat) : Int))), (15, (vB true))] [(1023, a'7), (2001, a'9), (2002, a'10)] (by kernel_rfl) (by kernel_rfl) ?_
 refine AWp.seq ?_
 refine AWp.cond_true rfl ?_
 refine AWp.skip ?_
 refine nextQ_normal ?_
 refine AWp.seq ?_
 refine AWp.block ?_
 refine AWp.s_reg hGn hGk [.a, .m (some 17) ⟨[(12, a'5), (14, (vI ((i : Nat) : Int)))], [], (.eptr [(pS ((nth b.Teams i).Name)), (.sl false 1 (((nth b.Teams i).Members).map D.cInt))]), [], []⟩, .a, .a, .a, .a] ⟨StepOK.p rfl rfl rfl (OpOK.indexP (e := 111) rfl (by kernel_rfl) (by kernel_rfl) rfl rfl rfl (map_nth (by omega))), trivial⟩ [(1, (vS t)), (6, (vI ((i : Nat) : Int))), (7, (.ref 1007 0)), (12, a'5), (13, (vI ((b.Teams.length : Nat) : Int))), (14, (vI ((i : Nat) : Int)))] [(1023, a'7), (2001, a'9), (2002, a'10), (1007, (.box [(vS ((nth b.Teams i).Name)), (.p (.sl false 1 (((nth b.Teams i).Members).map D.cInt)))]))] (by kernel_rfl) (by kernel_rfl) ?_
 by_cases hs2 : i = q
 ·skip
  refine AWp.s_reg hGn hGk [.a, .a, .a, .m (some 22) ⟨[(20, (vS ((nth b.Teams i).Name))), (21, (vS t))], [], (vB true), [], []⟩] ⟨StepOK.p rfl rfl rfl (OpOK.eqlS rfl rfl rfl (decide_eq_true (by rw [show i = q from by omega]; exact he))), trivial⟩ [(1, (vS t)), (6, (vI ((i : Nat) : Int))), (12, a'5), (13, (vI ((b.Teams.length : Nat) : Int))), (14, (vI ((i : Nat) : Int))), (22, (vB true))] [(1023, a'7), (2001, a'9), (2002, a'10)] (by kernel_rfl) (by kernel_rfl) ?_
  refine AWp.cond_true rfl ?_
  refine AWp.s_reg hGn hGk (aa 3) (Man.aa _ _) [(4, (vI ((i : Nat) : Int))), (5, (vB true))] [(1023, a'7), (2001, a'9), (2002, a'10)] (by kernel_rfl) (by kernel_rfl) ?_
  refine AWp.ret ?_
  refine blockQ_ret ?_
  refine nextQ_ret ?_
  refine nextQ_ret ?_
  refine blockQ_ret ?_
  refine nextQ_ret ?_
  refine fin_of (.inr rfl) (v := (.tup [(vI ((i : Nat) : Int)), (vB true)])) (Res.many (by kernel_rfl) (Res1s.cons (Res1.tmp rfl) (Res1s.cons (Res1.tmp rfl) Res1s.nil))) (h' := [(1023, (.box [(.p (.sl false 3 (c.Zones.map D.Zone.cells))), (.p (.sl false 6 (c.People.map D.Person.cells))), (.p (.sl false 3 (c.Calendars.map D.Calendar.cells))), (.p (.sl false 3 (c.Schedules.map D.Schedule.cells))), (.p (.sl false 2 (b.Teams.map D.Team.cells))), (.own 2001 (((b.Policies.take (i2 + 1)).map D.Policy.cells).length))])), (2001, (.hole 3 ((b.Policies.take i2).map D.Policy.cells) [(vS ((nth b.Policies i2).Name)), (.own 2002 ((((nth b.Policies i2).Steps.take k).map D.PolicyStep.cells).length)), (vI ((nth b.Policies i2).Repeat))] [])), (2002, (.arr 3 (((nth b.Policies i2).Steps.take k).map D.PolicyStep.cells)))]) rfl rfl ?_
  exact ⟨by rw [show i = q from by omega], rfl⟩
 ·skip
  refine AWp.s_reg hGn hGk [.a, .a, .a, .m (some 22) ⟨[(20, (vS ((nth b.Teams i).Name))), (21, (vS t))], [], (vB false), [], []⟩] ⟨StepOK.p rfl rfl rfl (OpOK.eqlS rfl rfl rfl (decide_eq_false (by rw [← he]; exact teams_ne hb (by omega) hq))), trivial⟩ [(1, (vS t)), (6, (vI ((i : Nat) : Int))), (12, a'5), (13, (vI ((b.Teams.length : Nat) : Int))), (14, (vI ((i : Nat) : Int))), (22, (vB false))] [(1023, a'7), (2001, a'9), (2002, a'10)] (by kernel_rfl) (by kernel_rfl) ?_
  refine AWp.cond_false rfl ?_
  refine AWp.skip ?_
  refine blockQ_normal ?_
  refine nextQ_normal ?_
  refine AWp.reg' hGn hGk [.m (some 24) ⟨[(14, (vI ((i : Nat) : Int)))], [], (vI ((i + 1 : Nat) : Int)), [], []⟩, .a] ⟨StepOK.p rfl rfl rfl (OpOK.add rfl rfl rfl (by rw [IntWalk.i64_in _ ⟨by omega, by omega⟩]; omega)), trivial⟩ [(1, (vS t)), (12, a'5), (13, (vI ((b.Teams.length : Nat) : Int))), (14, (vI ((i + 1 : Nat) : Int)))] [(1023, a'7), (2001, a'9), (2002, a'10)] (by kernel_rfl) (by kernel_rfl) ?_
  refine nextQ_normal ⟨_, ?_, (i + 1), rfl, (by omega), rfl⟩
  · omega
theorem rd_targetk (c : D.Config) (b : D.Book) (h : CfgOK c) (hb : BookV b) (i2 : Nat) (hi2 : i2 < b.Policies.length) (k : Nat) (hk : k < (nth b.Policies i2).Steps.length) (t : D.Target) (kw nw : ByteArray) (htg : TgtOK b.Teams.length t) (hkw : kw = kwT t) (hnw : nw = nwT c b t) :
    SpecIs Tryz.prog 139 [(.ref 1023 0), (vS kw), (vS nw)] [(1023, (.box [(.p (.sl false 3 (c.Zones.map D.Zone.cells))), (.p (.sl false 6 (c.People.map D.Person.cells))), (.p (.sl false 3 (c.Calendars.map D.Calendar.cells))), (.p (.sl false 3 (c.Schedules.map D.Schedule.cells))), (.p (.sl false 2 (b.Teams.map D.Team.cells))), (.own 2001 (((b.Policies.take (i2 + 1)).map D.Policy.cells).length))])), (2001, (.hole 3 ((b.Policies.take i2).map D.Policy.cells) [(vS ((nth b.Policies i2).Name)), (.own 2002 ((((nth b.Policies i2).Steps.take k).map D.PolicyStep.cells).length)), (vI ((nth b.Policies i2).Repeat))] [])), (2002, (.arr 3 (((nth b.Policies i2).Steps.take k).map D.PolicyStep.cells)))] (.tup [(.agg [(vI t.Kind), (vI t.Index)]), (vB true)]) [(1023, (.box [(.p (.sl false 3 (c.Zones.map D.Zone.cells))), (.p (.sl false 6 (c.People.map D.Person.cells))), (.p (.sl false 3 (c.Calendars.map D.Calendar.cells))), (.p (.sl false 3 (c.Schedules.map D.Schedule.cells))), (.p (.sl false 2 (b.Teams.map D.Team.cells))), (.own 2001 (((b.Policies.take (i2 + 1)).map D.Policy.cells).length))])), (2001, (.hole 3 ((b.Policies.take i2).map D.Policy.cells) [(vS ((nth b.Policies i2).Name)), (.own 2002 ((((nth b.Policies i2).Steps.take k).map D.PolicyStep.cells).length)), (vI ((nth b.Policies i2).Repeat))] [])), (2002, (.arr 3 (((nth b.Policies i2).Steps.take k).map D.PolicyStep.cells)))] := by
 refine Spec.intro Tryz.func139 rfl (by kernel_rfl) ?_
 intro Γ hGn hGk
 replace hGn : Γ.n = 45 := hGn
 replace hGk : Γ.names = [1023, 2001, 2002] := hGk
 have hpl := h.plen
 have hsl := h.slen
 have htg0 := htg.1
 let a'1 : AV := (.p (.sl false 3 (c.Zones.map D.Zone.cells)))
 let a'2 : AV := (.p (.sl false 6 (c.People.map D.Person.cells)))
 let a'3 : AV := (.p (.sl false 3 (c.Calendars.map D.Calendar.cells)))
 let a'4 : AV := (.p (.sl false 3 (c.Schedules.map D.Schedule.cells)))
 let a'5 : AV := (.p (.sl false 2 (b.Teams.map D.Team.cells)))
 let a'6 : AV := (.own 2001 (((b.Policies.take (i2 + 1)).map D.Policy.cells).length))
 let a'7 : AO := (.box [a'1, a'2, a'3, a'4, a'5, a'6])
 let a'8 : AV := (.own 2002 ((((nth b.Policies i2).Steps.take k).map D.PolicyStep.cells).length))
 let a'9 : AO := (.hole 3 ((b.Policies.take i2).map D.Policy.cells) [(vS ((nth b.Policies i2).Name)), a'8, (vI ((nth b.Policies i2).Repeat))] [])
 let a'10 : AO := (.arr 3 (((nth b.Policies i2).Steps.take k).map D.PolicyStep.cells))
 refine AWp.weaken (mk [(0, (.ref 1023 0)), (1, (vS kw)), (2, (vS nw))] [(1023, a'7), (2001, a'9), (2002, a'10)]) (Weak.sub' hGk (by kernel_rfl)) ?_
 refine AWp.s_reg hGn hGk (aa 2) (Man.aa _ _) [(0, (.ref 1023 0)), (1, (vS kw)), (2, (vS nw)), (6, (.ref 1006 0))] [(1023, a'7), (2001, a'9), (2002, a'10), (1006, (.box [(vI 0), (vI 0)]))] (by kernel_rfl) (by kernel_rfl) ?_
 refine AWp.seq ?_
 refine AWp.s_reg hGn hGk (aa 1) (Man.aa _ _) [(0, (.ref 1023 0)), (2, (vS nw)), (6, (.ref 1006 0)), (8, (vS kw))] [(1023, a'7), (2001, a'9), (2002, a'10), (1006, (.box [(vI 0), (vI 0)]))] (by kernel_rfl) (by kernel_rfl) ?_
 refine AWp.block ?_
 by_cases hs1 : t.Kind = 0
 ·skip
  refine AWp.s_reg hGn hGk [.m (some 18) ⟨[(8, (vS kw))], [], (vB true), [], []⟩, .a] ⟨StepOK.p rfl rfl rfl (OpOK.eqlS rfl rfl rfl (decide_eq_true (by rw [hkw]; exact kw0 (by assumption)))), trivial⟩ [(0, (.ref 1023 0)), (2, (vS nw)), (6, (.ref 1006 0)), (8, (vS kw)), (17, (vB true))] [(1023, a'7), (2001, a'9), (2002, a'10), (1006, (.box [(vI 0), (vI 0)]))] (by kernel_rfl) (by kernel_rfl) ?_
  refine AWp.cond_true rfl ?_
  refine AWp.s_reg hGn hGk (aa 2) (Man.aa _ _) [(0, (.ref 1023 0)), (2, (vS nw)), (6, (.ref 1006 0))] [(1023, a'7), (2001, a'9), (2002, a'10), (1006, (.box [(vI 0), (vI 0)]))] (by kernel_rfl) (by kernel_rfl) ?_
  refine AWp.reg' hGn hGk [.a, .a, .a, .a, .a, .m (some 26) ⟨[(24, (.agg [a'1, a'2, a'3, a'4])), (25, (vS nw))], [], (.tup [(vI t.Index), (vB true)]), [], []⟩, .a, .a, .a, .a, .a, .a] ⟨StepOK.p rfl rfl rfl (OpOK.call rfl (by kernel_rfl) rfl (by have h' := res_Person c nw (by omega); rw [hnw, nw0 (by assumption), person_in h htg.1 (by have := htg.2; omega), ← nw0 (c := c) (b := b) (by assumption), ← hnw] at h'; exact h') (by kernel_rfl)), trivial⟩ [(6, (.ref 1006 0)), (7, (vB true))] [(1023, a'7), (2001, a'9), (2002, a'10), (1006, (.box [(vI 0), (vI t.Index)]))] (by kernel_rfl) (by kernel_rfl) ?_
  refine blockQ_normal ?_
  refine nextQ_normal ?_
  refine AWp.s_reg hGn hGk (aa 4) (Man.aa _ _) [(6, (.ref 1006 0)), (7, (vB true))] [(1023, a'7), (2001, a'9), (2002, a'10), (1006, (.box [(vI 0), (vI t.Index)]))] (by kernel_rfl) (by kernel_rfl) ?_
  refine AWp.ret ?_
  refine fin_of (.inr rfl) (v := (.tup [(.agg [(vI 0), (vI t.Index)]), (vB true)])) (Res.many (by kernel_rfl) (Res1s.cons (Res1.agg rfl rfl (by kernel_rfl) (by kernel_rfl)) (Res1s.cons (Res1.tmp rfl) Res1s.nil))) (h' := [(1023, (.box [(.p (.sl false 3 (c.Zones.map D.Zone.cells))), (.p (.sl false 6 (c.People.map D.Person.cells))), (.p (.sl false 3 (c.Calendars.map D.Calendar.cells))), (.p (.sl false 3 (c.Schedules.map D.Schedule.cells))), (.p (.sl false 2 (b.Teams.map D.Team.cells))), (.own 2001 (((b.Policies.take (i2 + 1)).map D.Policy.cells).length))])), (2001, (.hole 3 ((b.Policies.take i2).map D.Policy.cells) [(vS ((nth b.Policies i2).Name)), (.own 2002 ((((nth b.Policies i2).Steps.take k).map D.PolicyStep.cells).length)), (vI ((nth b.Policies i2).Repeat))] [])), (2002, (.arr 3 (((nth b.Policies i2).Steps.take k).map D.PolicyStep.cells)))]) rfl rfl ?_
  exact ⟨by rw [show t.Kind = (0 : Int) from by have := htg.2; omega], rfl⟩
 ·skip
  refine AWp.s_reg hGn hGk [.m (some 18) ⟨[(8, (vS kw))], [], (vB false), [], []⟩, .a] ⟨StepOK.p rfl rfl rfl (OpOK.eqlS rfl rfl rfl (decide_eq_false (by rw [hkw, kw_p]; assumption))), trivial⟩ [(0, (.ref 1023 0)), (2, (vS nw)), (6, (.ref 1006 0)), (8, (vS kw)), (17, (vB false))] [(1023, a'7), (2001, a'9), (2002, a'10), (1006, (.box [(vI 0), (vI 0)]))] (by kernel_rfl) (by kernel_rfl) ?_
  refine AWp.cond_false rfl ?_
  by_cases hs2 : t.Kind = 1
  ·skip
   refine AWp.s_reg hGn hGk [.m (some 31) ⟨[(8, (vS kw))], [], (vB true), [], []⟩, .a] ⟨StepOK.p rfl rfl rfl (OpOK.eqlS rfl rfl rfl (decide_eq_true (by rw [hkw]; exact kw1 (by assumption) (by assumption)))), trivial⟩ [(0, (.ref 1023 0)), (2, (vS nw)), (6, (.ref 1006 0)), (30, (vB true))] [(1023, a'7), (2001, a'9), (2002, a'10), (1006, (.box [(vI 0), (vI 0)]))] (by kernel_rfl) (by kernel_rfl) ?_
   refine AWp.cond_true rfl ?_
   refine AWp.s_reg hGn hGk (aa 2) (Man.aa _ _) [(0, (.ref 1023 0)), (2, (vS nw)), (6, (.ref 1006 0))] [(1023, a'7), (2001, a'9), (2002, a'10), (1006, (.box [(vI 1), (vI 0)]))] (by kernel_rfl) (by kernel_rfl) ?_
   refine AWp.reg' hGn hGk [.a, .a, .a, .a, .a, .m (some 39) ⟨[(37, (.agg [a'1, a'2, a'3, a'4])), (38, (vS nw))], [], (.tup [(vI t.Index), (vB true)]), [], []⟩, .a, .a, .a, .a, .a, .a] ⟨StepOK.p rfl rfl rfl (OpOK.call rfl (by kernel_rfl) rfl (by have h' := res_Schedule c nw t.Index.toNat (by omega) (by have := htg.2; omega) (by have hq2 : t.Index.toNat < 2 := (by have := htg.2; omega); intro j hj; rw [hnw, nw1 (by assumption) (by assumption)]; exact sched_ne h hj hq2) (by rw [hnw, nw1 (by assumption) (by assumption)]); rw [show ((t.Index.toNat : Nat) : Int) = t.Index by omega] at h'; exact h') (by kernel_rfl)), trivial⟩ [(6, (.ref 1006 0)), (7, (vB true))] [(1023, a'7), (2001, a'9), (2002, a'10), (1006, (.box [(vI 1), (vI t.Index)]))] (by kernel_rfl) (by kernel_rfl) ?_
   refine blockQ_normal ?_
   refine nextQ_normal ?_
   refine AWp.s_reg hGn hGk (aa 4) (Man.aa _ _) [(6, (.ref 1006 0)), (7, (vB true))] [(1023, a'7), (2001, a'9), (2002, a'10), (1006, (.box [(vI 1), (vI t.Index)]))] (by kernel_rfl) (by kernel_rfl) ?_
   refine AWp.ret ?_
   refine fin_of (.inr rfl) (v := (.tup [(.agg [(vI 1), (vI t.Index)]), (vB true)])) (Res.many (by kernel_rfl) (Res1s.cons (Res1.agg rfl rfl (by kernel_rfl) (by kernel_rfl)) (Res1s.cons (Res1.tmp rfl) Res1s.nil))) (h' := [(1023, (.box [(.p (.sl false 3 (c.Zones.map D.Zone.cells))), (.p (.sl false 6 (c.People.map D.Person.cells))), (.p (.sl false 3 (c.Calendars.map D.Calendar.cells))), (.p (.sl false 3 (c.Schedules.map D.Schedule.cells))), (.p (.sl false 2 (b.Teams.map D.Team.cells))), (.own 2001 (((b.Policies.take (i2 + 1)).map D.Policy.cells).length))])), (2001, (.hole 3 ((b.Policies.take i2).map D.Policy.cells) [(vS ((nth b.Policies i2).Name)), (.own 2002 ((((nth b.Policies i2).Steps.take k).map D.PolicyStep.cells).length)), (vI ((nth b.Policies i2).Repeat))] [])), (2002, (.arr 3 (((nth b.Policies i2).Steps.take k).map D.PolicyStep.cells)))]) rfl rfl ?_
   exact ⟨by rw [show t.Kind = (1 : Int) from by have := htg.2; omega], rfl⟩
  ·skip
   refine AWp.s_reg hGn hGk [.m (some 31) ⟨[(8, (vS kw))], [], (vB false), [], []⟩, .a] ⟨StepOK.p rfl rfl rfl (OpOK.eqlS rfl rfl rfl (decide_eq_false (by rw [hkw, kw_s _ (by assumption)]; assumption))), trivial⟩ [(0, (.ref 1023 0)), (2, (vS nw)), (6, (.ref 1006 0)), (30, (vB false))] [(1023, a'7), (2001, a'9), (2002, a'10), (1006, (.box [(vI 0), (vI 0)]))] (by kernel_rfl) (by kernel_rfl) ?_
   refine AWp.cond_false rfl ?_
   refine AWp.s_reg hGn hGk (aa 2) (Man.aa _ _) [(0, (.ref 1023 0)), (2, (vS nw)), (6, (.ref 1006 0))] [(1023, a'7), (2001, a'9), (2002, a'10), (1006, (.box [(vI 2), (vI 0)]))] (by kernel_rfl) (by kernel_rfl) ?_
   refine AWp.reg' hGn hGk [.a, .a, .m (some 13) ⟨[(11, (.ref 1023 0)), (12, (vS nw))], [(1023, a'7), (2001, a'9), (2002, a'10)], (.tup [(vI t.Index), (vB true)]), [(1023, a'7), (2001, a'9), (2002, a'10)], []⟩, .a, .a, .a, .a, .a, .a] ⟨StepOK.p rfl rfl rfl (OpOK.call rfl (by kernel_rfl) rfl (by have h' := rd_teamk c b h hb i2 hi2 k hk nw t.Index.toNat (by have := htg.2; omega) (by rw [hnw, nw2 (by assumption) (by assumption)]); rw [show ((t.Index.toNat : Nat) : Int) = t.Index by omega] at h'; exact h') (by kernel_rfl)), trivial⟩ [(6, (.ref 1006 0)), (7, (vB true))] [(1023, a'7), (2001, a'9), (2002, a'10), (1006, (.box [(vI 2), (vI t.Index)]))] (by kernel_rfl) (by kernel_rfl) ?_
   refine blockQ_normal ?_
   refine nextQ_normal ?_
   refine AWp.s_reg hGn hGk (aa 4) (Man.aa _ _) [(6, (.ref 1006 0)), (7, (vB true))] [(1023, a'7), (2001, a'9), (2002, a'10), (1006, (.box [(vI 2), (vI t.Index)]))] (by kernel_rfl) (by kernel_rfl) ?_
   refine AWp.ret ?_
   refine fin_of (.inr rfl) (v := (.tup [(.agg [(vI 2), (vI t.Index)]), (vB true)])) (Res.many (by kernel_rfl) (Res1s.cons (Res1.agg rfl rfl (by kernel_rfl) (by kernel_rfl)) (Res1s.cons (Res1.tmp rfl) Res1s.nil))) (h' := [(1023, (.box [(.p (.sl false 3 (c.Zones.map D.Zone.cells))), (.p (.sl false 6 (c.People.map D.Person.cells))), (.p (.sl false 3 (c.Calendars.map D.Calendar.cells))), (.p (.sl false 3 (c.Schedules.map D.Schedule.cells))), (.p (.sl false 2 (b.Teams.map D.Team.cells))), (.own 2001 (((b.Policies.take (i2 + 1)).map D.Policy.cells).length))])), (2001, (.hole 3 ((b.Policies.take i2).map D.Policy.cells) [(vS ((nth b.Policies i2).Name)), (.own 2002 ((((nth b.Policies i2).Steps.take k).map D.PolicyStep.cells).length)), (vI ((nth b.Policies i2).Repeat))] [])), (2002, (.arr 3 (((nth b.Policies i2).Steps.take k).map D.PolicyStep.cells)))]) rfl rfl ?_
   exact ⟨by rw [show t.Kind = (2 : Int) from by have := htg.2; omega], rfl⟩
theorem rd_members (c : D.Config) (b : D.Book) (h : CfgOK c) (hb : BookV b) (i : Nat) (hi : i < b.Teams.length) (ws : List ByteArray) (hws : ws = teamV c (nth b.Teams i) (nth b.Teams i).Members.length) :
    SpecIs Tryz.prog 98 [(.ref 1023 0), (.p (.sl true 1 (ws.map D.cStr)))] [(1023, (.box [(.p (.sl false 3 (c.Zones.map D.Zone.cells))), (.p (.sl false 6 (c.People.map D.Person.cells))), (.p (.sl false 3 (c.Calendars.map D.Calendar.cells))), (.p (.sl false 3 (c.Schedules.map D.Schedule.cells))), (.own 2000 (((b.Teams.take i).map D.Team.cells).length)), (.own 2001 (((b.Policies.take 0).map D.Policy.cells).length))])), (2000, (.arr 2 ((b.Teams.take i).map D.Team.cells))), (2001, (.arr 3 ((b.Policies.take 0).map D.Policy.cells)))] (vI 0) [(1023, (.box [(.p (.sl false 3 (c.Zones.map D.Zone.cells))), (.p (.sl false 6 (c.People.map D.Person.cells))), (.p (.sl false 3 (c.Calendars.map D.Calendar.cells))), (.p (.sl false 3 (c.Schedules.map D.Schedule.cells))), (.own 2000 (((b.Teams.take (i + 1)).map D.Team.cells).length)), (.own 2001 (((b.Policies.take 0).map D.Policy.cells).length))])), (2000, (.arr 2 ((b.Teams.take (i + 1)).map D.Team.cells))), (2001, (.arr 3 ((b.Policies.take 0).map D.Policy.cells)))] := by
 refine Spec.intro Tryz.func98 rfl (by kernel_rfl) ?_
 intro Γ hGn hGk
 replace hGn : Γ.n = 63 := hGn
 replace hGk : Γ.names = [1023, 2000, 2001] := hGk
 have hpl := h.plen
 have htl := hb.tlen
 have hml := hb.mlen i hi
 have hwl : ws.length = (nth b.Teams i).Members.length + 2 := by rw [hws, teamV_len]
 have htk : (b.Teams.take i).length = i := by rw [List.length_take]; omega
 have hdl : (ws.drop 2).length = (nth b.Teams i).Members.length := by rw [List.length_drop]; omega
 let a'1 : AV := (.p (.sl false 3 (c.Zones.map D.Zone.cells)))
 let a'2 : AV := (.p (.sl false 6 (c.People.map D.Person.cells)))
 let a'3 : AV := (.p (.sl false 3 (c.Calendars.map D.Calendar.cells)))
 let a'4 : AV := (.p (.sl false 3 (c.Schedules.map D.Schedule.cells)))
 let a'5 : AV := (.own 2000 (((b.Teams.take i).map D.Team.cells).length))
 let a'6 : AV := (.own 2001 (((b.Policies.take 0).map D.Policy.cells).length))
 let a'7 : AO := (.box [a'1, a'2, a'3, a'4, a'5, a'6])
 let a'8 : AO := (.arr 2 ((b.Teams.take i).map D.Team.cells))
 let a'9 : AO := (.arr 3 ((b.Policies.take 0).map D.Policy.cells))
 refine AWp.weaken (mk [(0, (.ref 1023 0)), (1, (.p (.sl true 1 (ws.map D.cStr))))] [(1023, a'7), (2000, a'8), (2001, a'9)]) (Weak.sub' hGk (by kernel_rfl)) ?_
 refine AWp.s_reg hGn hGk (aa 1) (Man.aa _ _) [(0, (.ref 1023 0)), (1, (.p (.sl true 1 (ws.map D.cStr))))] [(1023, a'7), (2000, a'8), (2001, a'9)] (by kernel_rfl) (by kernel_rfl) ?_
 refine AWp.seq ?_
 refine AWp.s_reg hGn hGk [.a, .m (some 11) ⟨[(10, (.p (.sl true 1 (ws.map D.cStr))))], [], (vI ((ws.length : Nat) : Int)), [], []⟩, .m (some 12) ⟨[(11, (vI ((ws.length : Nat) : Int)))], [], (vB false), [], []⟩, .a, .a, .a, .a, .a, .a, .m (some 19) ⟨[(18, a'6), (13, (vB false))], [(2001, a'9)], (vI (((b.Policies.take 0).length : Nat) : Int)), [], []⟩, .m (some 20) ⟨[(19, (vI (((b.Policies.take 0).length : Nat) : Int))), (13, (vB false))], [], (vB false), [], []⟩, .a] ⟨StepOK.p rfl rfl rfl (OpOK.lenP (e := 9) rfl rfl (by kernel_rfl) rfl (by rw [List.length_map])),
  StepOK.p rfl rfl rfl (OpOK.lss rfl rfl rfl (decide_eq_false (by omega))),
  StepOK.g rfl rfl rfl rfl rfl (by simp) (OpOK.lenOwn (e := 106) rfl rfl (by kernel_rfl) rfl (Nat.beq_refl _) (by rw [List.length_map])),
  StepOK.g rfl rfl rfl rfl rfl (by simp) (OpOK.gtr rfl rfl rfl (decide_eq_false (by rw [List.take_zero]; simp))), trivial⟩ [(0, (.ref 1023 0)), (1, (.p (.sl true 1 (ws.map D.cStr)))), (21, (vB false))] [(1023, a'7), (2000, a'8), (2001, a'9)] (by kernel_rfl) (by kernel_rfl) ?_
 refine AWp.cond_false rfl ?_
 refine AWp.skip ?_
 refine nextQ_normal ?_
 let a'10 : AO := (.box [(vS (nth ws 1)), (.p (.sl true 0 []))])
 refine AWp.s_reg hGn hGk [.a, .m (some 23) ⟨[(22, (.p (.sl true 1 (ws.map D.cStr))))], [], (.eptr [(pS (nth ws 1))]), [], []⟩, .a, .a, .a, .a] ⟨StepOK.p rfl rfl rfl (OpOK.indexP (e := 9) rfl (by kernel_rfl) (by kernel_rfl) rfl rfl rfl (map_nth (show 1 < List.length ws by omega))), trivial⟩ [(0, (.ref 1023 0)), (1, (.p (.sl true 1 (ws.map D.cStr)))), (5, (.ref 1005 0))] [(1023, a'7), (2000, a'8), (2001, a'9), (1005, a'10)] (by kernel_rfl) (by kernel_rfl) ?_
 refine AWp.seq ?_
 let a'11 : AV := (.p (.sl true 1 ((ws.drop 2).map D.cStr)))
 refine AWp.s_reg hGn hGk [.a, .m (some 27) ⟨[(26, (.p (.sl true 1 (ws.map D.cStr))))], [], a'11, [], []⟩, .m (some 28) ⟨[(27, a'11)], [], (vI (((ws.drop 2).length : Nat) : Int)), [], []⟩, .a] ⟨StepOK.p rfl rfl rfl (OpOK.sliceLo (e := 9) (es := 1) (k := 2) rfl (by kernel_rfl) (by kernel_rfl) rfl rfl rfl (by simp only [List.length_map]; omega) (by rw [List.map_drop])),
  StepOK.p rfl rfl rfl (OpOK.lenP (e := 9) rfl rfl (by kernel_rfl) rfl (by rw [List.length_map])), trivial⟩ [(0, (.ref 1023 0)), (5, (.ref 1005 0)), (27, a'11), (28, (vI (((ws.drop 2).length : Nat) : Int))), (29, (vI 0))] [(1023, a'7), (2000, a'8), (2001, a'9), (1005, a'10)] (by kernel_rfl) (by kernel_rfl) ?_
 refine AWp.block ?_
 refine AWp.weaken (mk [(0, (.ref 1023 0)), (5, (.ref 1005 0)), (27, a'11), (28, (vI (((ws.drop 2).length : Nat) : Int))), (29, (vI 0))] [(1005, a'10), (1023, a'7), (2000, a'8), (2001, a'9)]) (Weak.sub' hGk (by kernel_rfl)) ?_
 refine AWp.weaken (mk [(0, (.ref 1023 0)), (5, (.ref 1005 0)), (27, a'11), (28, (vI (((ws.drop 2).length : Nat) : Int))), (29, (vI 0))] [(1005, (.box [(vS (nth ws 1)), (.own 2002 0)])), (2002, (.arr 1 [])), (1023, a'7), (2000, a'8), (2001, a'9)]) (Weak.thawCell (j := 1) (es0 := 0) (by kernel_rfl) rfl rfl (by kernel_rfl) (by kernel_rfl) rfl) ?_
 refine AWp.loop (fun m s => ∃ j, s = (mk [(0, (.ref 1023 0)), (5, (.ref 1005 0)), (27, (.p (.sl true 1 ((ws.drop 2).map D.cStr)))), (28, (vI (((ws.drop 2).length : Nat) : Int))), (29, (vI ((j : Nat) : Int)))] [(1005, (.box [(vS (nth ws 1)), (.own 2002 ((((nth b.Teams i).Members.take j).map D.cInt).length))])), (2002, (.arr 1 (((nth b.Teams i).Members.take j).map D.cInt))), (1023, (.box [(.p (.sl false 3 (c.Zones.map D.Zone.cells))), (.p (.sl false 6 (c.People.map D.Person.cells))), (.p (.sl false 3 (c.Calendars.map D.Calendar.cells))), (.p (.sl false 3 (c.Schedules.map D.Schedule.cells))), (.own 2000 (((b.Teams.take i).map D.Team.cells).length)), (.own 2001 (((b.Policies.take 0).map D.Policy.cells).length))])), (2000, (.arr 2 ((b.Teams.take i).map D.Team.cells))), (2001, (.arr 3 ((b.Policies.take 0).map D.Policy.cells)))]) ∧ (j ≤ (nth b.Teams i).Members.length) ∧ m = ((nth b.Teams i).Members.length - j))
  ⟨_, 0, rfl, (by omega), rfl⟩ ?_
 rintro mm1 s ⟨j, rfl, hj, hmm1⟩
 let a'12 : AV := (.own 2002 ((((nth b.Teams i).Members.take j).map D.cInt).length))
 let a'13 : AO := (.box [(vS (nth ws 1)), a'12])
 let a'14 : AO := (.arr 1 (((nth b.Teams i).Members.take j).map D.cInt))
 refine AWp.s_reg hGn hGk (aa 1) (Man.aa _ _) [(0, (.ref 1023 0)), (5, (.ref 1005 0)), (27, a'11), (28, (vI (((ws.drop 2).length : Nat) : Int))), (29, (vI ((j : Nat) : Int))), (30, (vB (decide (((j : Nat) : Int) < (((ws.drop 2).length : Nat) : Int)))))] [(1005, a'13), (2002, a'14), (1023, a'7), (2000, a'8), (2001, a'9)] (by kernel_rfl) (by kernel_rfl) ?_
 refine AWp.seq ?_
 refine AWp.cond (decide (((j : Nat) : Int) < (((ws.drop 2).length : Nat) : Int))) rfl (fun hc2 => ?_) (fun hc2 => ?_)
 ·skip
  replace hc2 := of_decide_eq_true hc2
  refine AWp.skip ?_
  refine nextQ_normal ?_
  refine AWp.seq ?_
  refine AWp.block ?_
  refine AWp.s_reg hGn hGk [.m (some 31) ⟨[(27, a'11), (29, (vI ((j : Nat) : Int)))], [], (.eptr [(pS (nth (ws.drop 2) j))]), [], []⟩, .a, .a] ⟨StepOK.p rfl rfl rfl (OpOK.indexP (e := 9) rfl (by kernel_rfl) (by kernel_rfl) rfl rfl rfl (map_nth (by omega))), trivial⟩ [(0, (.ref 1023 0)), (5, (.ref 1005 0)), (7, (vS (nth (ws.drop 2) j))), (27, a'11), (28, (vI (((ws.drop 2).length : Nat) : Int))), (29, (vI ((j : Nat) : Int)))] [(1005, a'13), (2002, a'14), (1023, a'7), (2000, a'8), (2001, a'9)] (by kernel_rfl) (by kernel_rfl) ?_
  refine AWp.s_reg hGn hGk [.a, .a, .a, .a, .a, .m (some 39) ⟨[(37, (.agg [a'1, a'2, a'3, a'4])), (38, (vS (nth (ws.drop 2) j)))], [], (.tup [(vI (nth (nth b.Teams i).Members j)), (vB true)]), [], []⟩, .a, .a, .a, .a, .a] ⟨StepOK.p rfl rfl rfl (OpOK.call rfl (by kernel_rfl) rfl (by have e : (nth (ws.drop 2) j) = (nth c.People (nth (nth b.Teams i).Members j).toNat).Name := (by rw [nth_drop, hws]; exact teamV_at c _ _ j (by omega)); rw [e]; have h' := res_Person c (nth c.People (nth (nth b.Teams i).Members j).toNat).Name (by omega); rw [person_in h (hb.mem i hi j (by omega)).1 (hb.mem i hi j (by omega)).2] at h'; exact h') (by kernel_rfl)), trivial⟩ [(0, (.ref 1023 0)), (5, (.ref 1005 0)), (8, (vI (nth (nth b.Teams i).Members j))), (9, (vB true)), (27, a'11), (28, (vI (((ws.drop 2).length : Nat) : Int))), (29, (vI ((j : Nat) : Int)))] [(1005, a'13), (2002, a'14), (1023, a'7), (2000, a'8), (2001, a'9)] (by kernel_rfl) (by kernel_rfl) ?_
  refine AWp.seq ?_
  refine AWp.s_reg hGn hGk (aa 2) (Man.aa _ _) [(0, (.ref 1023 0)), (5, (.ref 1005 0)), (8, (vI (nth (nth b.Teams i).Members j))), (27, a'11), (28, (vI (((ws.drop 2).length : Nat) : Int))), (29, (vI ((j : Nat) : Int))), (43, (vB false))] [(1005, a'13), (2002, a'14), (1023, a'7), (2000, a'8), (2001, a'9)] (by kernel_rfl) (by kernel_rfl) ?_
  refine AWp.cond_false rfl ?_
  refine AWp.skip ?_
  refine nextQ_normal ?_
  let a'15 : AV := (.own 2002 ((((nth b.Teams i).Members.take (j + 1)).map D.cInt).length))
  let a'16 : AO := (.arr 1 (((nth b.Teams i).Members.take (j + 1)).map D.cInt))
  refine AWp.reg' hGn hGk [.a, .a, .a, .a, .m (some 48) ⟨[(45, a'12), (47, (.p (.sl true 1 [[(pI (nth (nth b.Teams i).Members j))]])))], [(2002, a'14)], a'15, [(2002, a'16)], []⟩, .a, .a] ⟨StepOK.p rfl rfl rfl (OpOK.appendOwn (e := 3) (bytes := 8) rfl rfl (by kernel_rfl) (by kernel_rfl) rfl (Nat.beq_refl _) rfl (take_map_snoc (f := D.cInt) (by omega)) rfl (by simp only [List.length_map, List.length_cons, List.length_nil, List.length_append, List.length_take, List.length_drop]; omega) (by simp only [List.length_map, List.length_cons, List.length_nil, List.length_append, List.length_take, List.length_drop]; omega)), trivial⟩ [(0, (.ref 1023 0)), (5, (.ref 1005 0)), (27, a'11), (28, (vI (((ws.drop 2).length : Nat) : Int))), (29, (vI ((j : Nat) : Int)))] [(1005, (.box [(vS (nth ws 1)), a'15])), (2002, a'16), (1023, a'7), (2000, a'8), (2001, a'9)] (by kernel_rfl) (by kernel_rfl) ?_
  refine blockQ_normal ?_
  refine nextQ_normal ?_
  refine AWp.reg' hGn hGk [.m (some 50) ⟨[(29, (vI ((j : Nat) : Int)))], [], (vI ((j + 1 : Nat) : Int)), [], []⟩, .a] ⟨StepOK.p rfl rfl rfl (OpOK.add rfl rfl rfl (by rw [IntWalk.i64_in _ ⟨by omega, by omega⟩]; omega)), trivial⟩ [(0, (.ref 1023 0)), (5, (.ref 1005 0)), (27, a'11), (28, (vI (((ws.drop 2).length : Nat) : Int))), (29, (vI ((j + 1 : Nat) : Int)))] [(1005, (.box [(vS (nth ws 1)), a'15])), (2002, a'16), (1023, a'7), (2000, a'8), (2001, a'9)] (by kernel_rfl) (by kernel_rfl) ?_
  refine nextQ_normal ⟨_, ?_, (j + 1), rfl, (by omega), rfl⟩
  · omega
 ·skip
  replace hc2 := of_decide_eq_false hc2
  refine AWp.weaken (mk [(0, (.ref 1023 0)), (5, (.ref 1005 0))] [(1005, a'13), (2002, a'14), (1023, a'7), (2000, a'8), (2001, a'9)]) (Weak.sub' hGk (by kernel_rfl)) ?_
  refine AWp.exit ?_
  refine nextQ_exit ?_
  refine nextQ_exit ?_
  refine blockQ_exit ?_
  refine nextQ_normal ?_
  have e0 : nth ws 1 = (nth b.Teams i).Name := by rw [hws]; exact (teamV_0 c _ _).2
  have e1 : (nth b.Teams i).Members.take j = (nth b.Teams i).Members := List.take_of_length_le (by omega)
  refine AWp.cast (show (mk [(0, (.ref 1023 0)), (5, (.ref 1005 0))] [(1005, (.box [(vS (nth ws 1)), (.own 2002 ((((nth b.Teams i).Members.take j).map D.cInt).length))])), (2002, (.arr 1 (((nth b.Teams i).Members.take j).map D.cInt))), (1023, (.box [(.p (.sl false 3 (c.Zones.map D.Zone.cells))), (.p (.sl false 6 (c.People.map D.Person.cells))), (.p (.sl false 3 (c.Calendars.map D.Calendar.cells))), (.p (.sl false 3 (c.Schedules.map D.Schedule.cells))), (.own 2000 (((b.Teams.take i).map D.Team.cells).length)), (.own 2001 (((b.Policies.take 0).map D.Policy.cells).length))])), (2000, (.arr 2 ((b.Teams.take i).map D.Team.cells))), (2001, (.arr 3 ((b.Policies.take 0).map D.Policy.cells)))]) = (mk [(0, (.ref 1023 0)), (5, (.ref 1005 0))] [(1005, (.box [(vS ((nth b.Teams i).Name)), (.own 2002 ((((nth b.Teams i).Members).map D.cInt).length))])), (2002, (.arr 1 (((nth b.Teams i).Members).map D.cInt))), (1023, (.box [(.p (.sl false 3 (c.Zones.map D.Zone.cells))), (.p (.sl false 6 (c.People.map D.Person.cells))), (.p (.sl false 3 (c.Calendars.map D.Calendar.cells))), (.p (.sl false 3 (c.Schedules.map D.Schedule.cells))), (.own 2000 (((b.Teams.take i).map D.Team.cells).length)), (.own 2001 (((b.Policies.take 0).map D.Policy.cells).length))])), (2000, (.arr 2 ((b.Teams.take i).map D.Team.cells))), (2001, (.arr 3 ((b.Policies.take 0).map D.Policy.cells)))]) from (by rw [e0, e1])) ?_
  refine AWp.weaken (mk [(0, (.ref 1023 0)), (5, (.ref 1005 0))] [(2002, (.arr 1 (((nth b.Teams i).Members).map D.cInt))), (1005, (.box [(vS ((nth b.Teams i).Name)), (.own 2002 ((((nth b.Teams i).Members).map D.cInt).length))])), (1023, a'7), (2000, a'8), (2001, a'9)]) (Weak.sub' hGk (by kernel_rfl)) ?_
  refine AWp.weaken (mk [(0, (.ref 1023 0)), (5, (.ref 1005 0))] [(1005, (.box [(vS ((nth b.Teams i).Name)), (.p (.sl false 1 (((nth b.Teams i).Members).map D.cInt)))])), (1023, a'7), (2000, a'8), (2001, a'9)]) (Weak.freeze (n := 2002) (es := 1) (rows := (((nth b.Teams i).Members).map D.cInt)) (by rw [hGk]; decide) ⟨rfl, (.same rfl), ⟨rfl, (.same rfl), trivial⟩⟩ ⟨rfl, by decide, (.box (.cons (.same rfl) (.cons .own .nil))), ⟨rfl, by decide, (.same rfl), ⟨rfl, by decide, (.same rfl), ⟨rfl, by decide, (.same rfl), trivial⟩⟩⟩⟩) ?_
  let a'17 : AV := (.own 2000 (((b.Teams.take (i + 1)).map D.Team.cells).length))
  let a'18 : AO := (.arr 2 ((b.Teams.take (i + 1)).map D.Team.cells))
  refine AWp.s_dreg hGn hGk (by kernel_rfl) [.a, .a, .a, .a, .a, .a, .a, .a, .m (some 59) ⟨[(56, a'5), (58, (.p (.sl true 2 [[(pS ((nth b.Teams i).Name)), (.sl false 1 (((nth b.Teams i).Members).map D.cInt))]])))], [(2000, a'8)], a'17, [(2000, a'18)], []⟩, .a, .a, .a, .a] ⟨StepOK.p rfl rfl rfl (OpOK.appendOwn (e := 111) (bytes := 40) rfl rfl (by kernel_rfl) (by kernel_rfl) rfl (Nat.beq_refl _) rfl (take_map_snoc (f := D.Team.cells) (by omega)) rfl (by simp only [List.length_map, List.length_cons, List.length_nil, List.length_append, List.length_take, List.length_drop]; omega) (by simp only [List.length_map, List.length_cons, List.length_nil, List.length_append, List.length_take, List.length_drop]; omega)), trivial⟩ [] [(1023, (.box [a'1, a'2, a'3, a'4, a'17, a'6])), (2000, a'18), (2001, a'9)] (by kernel_rfl) (by kernel_rfl) (by kernel_rfl) ?_
  refine AWp.s_reg hGn hGk (aa 1) (Man.aa _ _) [(4, (vI 0))] [(1023, (.box [a'1, a'2, a'3, a'4, a'17, a'6])), (2000, a'18), (2001, a'9)] (by kernel_rfl) (by kernel_rfl) ?_
  refine AWp.ret ?_
  refine fin_of (.inr rfl) (v := (vI 0)) (Res.tmp rfl rfl) (h' := [(1023, (.box [(.p (.sl false 3 (c.Zones.map D.Zone.cells))), (.p (.sl false 6 (c.People.map D.Person.cells))), (.p (.sl false 3 (c.Calendars.map D.Calendar.cells))), (.p (.sl false 3 (c.Schedules.map D.Schedule.cells))), (.own 2000 (((b.Teams.take (i + 1)).map D.Team.cells).length)), (.own 2001 (((b.Policies.take 0).map D.Policy.cells).length))])), (2000, (.arr 2 ((b.Teams.take (i + 1)).map D.Team.cells))), (2001, (.arr 3 ((b.Policies.take 0).map D.Policy.cells)))]) rfl rfl ?_
  exact ⟨rfl, rfl⟩
theorem rd_step0 (c : D.Config) (b : D.Book) (h : CfgOK c) (hb : BookV b) (i2 : Nat) (hi2 : i2 < b.Policies.length) (hk : 0 < (nth b.Policies i2).Steps.length) (ws : List ByteArray) (hws : ws = stepW c b (nth (nth b.Policies i2).Steps 0)) :
    SpecIs Tryz.prog 100 [(.ref 1023 0), (.p (.sl true 1 (ws.map D.cStr)))] [(1023, (.box [(.p (.sl false 3 (c.Zones.map D.Zone.cells))), (.p (.sl false 6 (c.People.map D.Person.cells))), (.p (.sl false 3 (c.Calendars.map D.Calendar.cells))), (.p (.sl false 3 (c.Schedules.map D.Schedule.cells))), (.p (.sl false 2 (b.Teams.map D.Team.cells))), (.own 2001 (((b.Policies.take (i2 + 1)).map D.Policy.cells).length))])), (2001, (.hole 3 ((b.Policies.take i2).map D.Policy.cells) [(vS ((nth b.Policies i2).Name)), (.p (.sl true 0 [])), (vI ((nth b.Policies i2).Repeat))] []))] (vI 0) [(1023, (.box [(.p (.sl false 3 (c.Zones.map D.Zone.cells))), (.p (.sl false 6 (c.People.map D.Person.cells))), (.p (.sl false 3 (c.Calendars.map D.Calendar.cells))), (.p (.sl false 3 (c.Schedules.map D.Schedule.cells))), (.p (.sl false 2 (b.Teams.map D.Team.cells))), (.own 2001 (((b.Policies.take (i2 + 1)).map D.Policy.cells).length))])), (2001, (.hole 3 ((b.Policies.take i2).map D.Policy.cells) [(vS ((nth b.Policies i2).Name)), (.own 2002 ((((nth b.Policies i2).Steps.take 1).map D.PolicyStep.cells).length)), (vI ((nth b.Policies i2).Repeat))] [])), (2002, (.arr 3 (((nth b.Policies i2).Steps.take 1).map D.PolicyStep.cells)))] := by
 refine Spec.intro Tryz.func100 rfl (by kernel_rfl) ?_
 intro Γ hGn hGk
 replace hGn : Γ.n = 134 := hGn
 replace hGk : Γ.names = [1023, 2001] := hGk
 have hpl := h.plen
 have hpp := hb.plen
 have hsl2 := hb.slen i2 hi2
 have hsv := hb.step i2 hi2 0 hk
 have htl2 := hsv.tlen
 have hww := hsv.wait
 have e1 : nth ws 1 = itoaB (nth (nth b.Policies i2).Steps 0).Wait := by rw [hws]; rfl
 have e2 : nth ws 2 = howW (nth (nth b.Policies i2).Steps 0).Urgent := by rw [hws]; rfl
 have hwl : ws.length = 3 + 2 * (nth (nth b.Policies i2).Steps 0).Targets.length := by rw [hws]; exact stepW_len c b _
 have hlt : (List.map D.Policy.cells (b.Policies.take (i2 + 1))).length = i2 + 1 := by rw [List.length_map, List.length_take]; omega
 have hlt2 : (b.Policies.take (i2 + 1)).length = i2 + 1 := by rw [List.length_take]; omega
 have hhl : Nat.beq (List.map D.Policy.cells (b.Policies.take (i2 + 1))).length ((List.map D.Policy.cells (b.Policies.take i2)).length + 1 + ([] : List (List PV)).length) = true := by rw [show (List.map D.Policy.cells (b.Policies.take i2)).length + 1 + ([] : List (List PV)).length = (List.map D.Policy.cells (b.Policies.take (i2 + 1))).length from by rw [hlt, List.length_map, List.length_take, List.length_nil]; omega]; exact Nat.beq_refl _
 let a'1 : AV := (.p (.sl false 3 (c.Zones.map D.Zone.cells)))
 let a'2 : AV := (.p (.sl false 6 (c.People.map D.Person.cells)))
 let a'3 : AV := (.p (.sl false 3 (c.Calendars.map D.Calendar.cells)))
 let a'4 : AV := (.p (.sl false 3 (c.Schedules.map D.Schedule.cells)))
 let a'5 : AV := (.p (.sl false 2 (b.Teams.map D.Team.cells)))
 let a'6 : AV := (.own 2001 (((b.Policies.take (i2 + 1)).map D.Policy.cells).length))
 let a'7 : AO := (.box [a'1, a'2, a'3, a'4, a'5, a'6])
 let a'8 : AO := (.hole 3 ((b.Policies.take i2).map D.Policy.cells) [(vS ((nth b.Policies i2).Name)), (.p (.sl true 0 [])), (vI ((nth b.Policies i2).Repeat))] [])
 refine AWp.weaken (mk [(0, (.ref 1023 0)), (1, (.p (.sl true 1 (ws.map D.cStr))))] [(1023, a'7), (2001, a'8)]) (Weak.sub' hGk (by kernel_rfl)) ?_
 refine AWp.s_reg hGn hGk (aa 1) (Man.aa _ _) [(0, (.ref 1023 0)), (1, (.p (.sl true 1 (ws.map D.cStr))))] [(1023, a'7), (2001, a'8)] (by kernel_rfl) (by kernel_rfl) ?_
 refine AWp.seq ?_
 cases hs1 : (nth (nth b.Policies i2).Steps 0).Urgent
 ·skip
  refine AWp.s_reg hGn hGk (.a :: .m (some 14) ⟨[(13, (.p (.sl true 1 (ws.map D.cStr))))], [], (vI ((ws.length : Nat) : Int)), [], []⟩ :: .m (some 15) ⟨[(14, (vI ((ws.length : Nat) : Int)))], [], (vB false), [], []⟩ :: .a :: .a :: .m (some 18) ⟨[(17, (.p (.sl true 1 (ws.map D.cStr)))), (16, (vB false))], [], (vI ((ws.length : Nat) : Int)), [], []⟩ :: .m (some 19) ⟨[(18, (vI ((ws.length : Nat) : Int))), (16, (vB false))], [], (vI ((ws.length % 2 : Nat) : Int)), [], []⟩ :: .m (some 20) ⟨[(19, (vI ((ws.length % 2 : Nat) : Int))), (16, (vB false))], [], (vB false), [], []⟩ :: .a :: .a :: .a :: .a :: .a :: .a :: .a :: .m (some 28) ⟨[(27, a'6), (22, (vB false))], [(2001, a'8)], (vI ((((b.Policies.take (i2 + 1)).map D.Policy.cells).length : Nat) : Int)), [], []⟩ :: .m (some 29) ⟨[(28, (vI ((((b.Policies.take (i2 + 1)).map D.Policy.cells).length : Nat) : Int))), (22, (vB false))], [], (vB false), [], []⟩ :: .a :: .a :: .a :: .m (some 33) ⟨[(32, (.p (.sl true 1 (ws.map D.cStr)))), (31, (vB false))], [], (.eptr [(pS (nth ws 2))]), [], []⟩ :: .a :: .m (some 35) ⟨[(34, (vS (nth ws 2))), (31, (vB false))], [], (vB true), [], []⟩ :: .a :: .a :: .m (some 38) ⟨[(37, (.p (.sl true 1 (ws.map D.cStr)))), (36, (vB true))], [], (.eptr [(pS (nth ws 2))]), [], []⟩ :: .a :: .m (some 40) ⟨[(39, (vS (nth ws 2))), (36, (vB true))], [], (vB false), [], []⟩ :: .a :: .a :: []) ⟨StepOK.p rfl rfl rfl (OpOK.lenP (e := 9) rfl rfl (by kernel_rfl) rfl (by rw [List.length_map])),
   StepOK.p rfl rfl rfl (OpOK.lss rfl rfl rfl (decide_eq_false (by omega))),
   StepOK.g rfl rfl rfl rfl rfl (by simp) (OpOK.lenP (e := 9) rfl rfl (by kernel_rfl) rfl (by rw [List.length_map])),
   StepOK.g rfl rfl rfl rfl rfl (by simp) (OpOK.rem rfl rfl rfl (by omega) (Int.ofNat_tmod _ _).symm),
   StepOK.g rfl rfl rfl rfl rfl (by simp) (OpOK.eqlI rfl rfl rfl (decide_eq_false (by omega))),
   StepOK.g rfl rfl rfl rfl rfl (by simp) (OpOK.lenHole (e := 106) rfl rfl (by kernel_rfl) rfl hhl rfl),
   StepOK.g rfl rfl rfl rfl rfl (by simp) (OpOK.eqlI rfl rfl rfl (decide_eq_false (by omega))),
   StepOK.g rfl rfl rfl rfl rfl (by simp) (OpOK.indexP (e := 9) rfl (by kernel_rfl) (by kernel_rfl) rfl rfl rfl (map_nth (show 2 < List.length ws by omega))),
   StepOK.g rfl rfl rfl rfl rfl (by simp) (OpOK.neqS rfl rfl rfl (decide_eq_true (by rw [e2]; exact fun hx => absurd ((how_u _).1 hx) (by rw [‹(nth (nth b.Policies i2).Steps 0).Urgent = _›]; decide)))),
   StepOK.g rfl rfl rfl rfl rfl (by simp) (OpOK.indexP (e := 9) rfl (by kernel_rfl) (by kernel_rfl) rfl rfl rfl (map_nth (show 2 < List.length ws by omega))),
   StepOK.g rfl rfl rfl rfl rfl (by simp) (OpOK.neqS rfl rfl rfl (decide_eq_false (fun hne => hne (by rw [e2, how_n]; assumption)))), trivial⟩ [(0, (.ref 1023 0)), (1, (.p (.sl true 1 (ws.map D.cStr)))), (42, (vB false))] [(1023, a'7), (2001, a'8)] (by kernel_rfl) (by kernel_rfl) ?_
  refine AWp.cond_false rfl ?_
  refine AWp.skip ?_
  refine nextQ_normal ?_
  refine AWp.s_reg hGn hGk [.a, .m (some 45) ⟨[(44, (.p (.sl true 1 (ws.map D.cStr))))], [], (.eptr [(pS (nth ws 1))]), [], []⟩, .a, .m (some 47) ⟨[(46, (vS (nth ws 1)))], [], (.tup [(vI ((nth (nth b.Policies i2).Steps 0).Wait)), (vB true)]), [], []⟩, .a, .a, .a, .a, .a] ⟨StepOK.p rfl rfl rfl (OpOK.indexP (e := 9) rfl (by kernel_rfl) (by kernel_rfl) rfl rfl rfl (map_nth (show 1 < List.length ws by omega))),
   StepOK.p rfl rfl rfl (OpOK.call rfl (by kernel_rfl) rfl (pol_number (nth ws 1) (nth (nth b.Policies i2).Steps 0).Wait (by rw [e1]; exact NumW.of (by omega) (by omega))) (by kernel_rfl)), trivial⟩ [(0, (.ref 1023 0)), (1, (.p (.sl true 1 (ws.map D.cStr)))), (5, (vI ((nth (nth b.Policies i2).Steps 0).Wait))), (6, (vB true))] [(1023, a'7), (2001, a'8)] (by kernel_rfl) (by kernel_rfl) ?_
  refine AWp.seq ?_
  refine AWp.s_reg hGn hGk (aa 2) (Man.aa _ _) [(0, (.ref 1023 0)), (1, (.p (.sl true 1 (ws.map D.cStr)))), (5, (vI ((nth (nth b.Policies i2).Steps 0).Wait))), (51, (vB false))] [(1023, a'7), (2001, a'8)] (by kernel_rfl) (by kernel_rfl) ?_
  refine AWp.cond_false rfl ?_
  refine AWp.skip ?_
  refine nextQ_normal ?_
  let a'9 : AO := (.box [(vI ((nth (nth b.Policies i2).Steps 0).Wait)), (vB false), (.p (.sl true 0 []))])
  refine AWp.s_reg hGn hGk [.a, .a, .m (some 54) ⟨[(53, (.p (.sl true 1 (ws.map D.cStr))))], [], (.eptr [(pS (nth ws 2))]), [], []⟩, .a, .m (some 56) ⟨[(55, (vS (nth ws 2)))], [], (vB false), [], []⟩, .a, .a, .a] ⟨StepOK.p rfl rfl rfl (OpOK.indexP (e := 9) rfl (by kernel_rfl) (by kernel_rfl) rfl rfl rfl (map_nth (show 2 < List.length ws by omega))),
   StepOK.p rfl rfl rfl (OpOK.eqlS rfl rfl rfl (decide_eq_false (by rw [e2]; exact fun hx => absurd ((how_u _).1 hx) (by rw [‹(nth (nth b.Policies i2).Steps 0).Urgent = _›]; decide)))), trivial⟩ [(0, (.ref 1023 0)), (1, (.p (.sl true 1 (ws.map D.cStr)))), (7, (.ref 1007 0))] [(1023, a'7), (2001, a'8), (1007, a'9)] (by kernel_rfl) (by kernel_rfl) ?_
  refine AWp.seq ?_
  refine AWp.s_reg hGn hGk (aa 1) (Man.aa _ _) [(0, (.ref 1023 0)), (1, (.p (.sl true 1 (ws.map D.cStr)))), (7, (.ref 1007 0)), (8, (vI 3))] [(1023, a'7), (2001, a'8), (1007, a'9)] (by kernel_rfl) (by kernel_rfl) ?_
  refine AWp.block ?_
  refine AWp.loop (fun m s => ∃ j, s = (mk [(0, (.ref 1023 0)), (1, (.p (.sl true 1 (ws.map D.cStr)))), (7, (.ref 1007 0)), (8, (vI ((2 * j + 3 : Nat) : Int)))] [(1023, (.box [(.p (.sl false 3 (c.Zones.map D.Zone.cells))), (.p (.sl false 6 (c.People.map D.Person.cells))), (.p (.sl false 3 (c.Calendars.map D.Calendar.cells))), (.p (.sl false 3 (c.Schedules.map D.Schedule.cells))), (.p (.sl false 2 (b.Teams.map D.Team.cells))), (.own 2001 (((b.Policies.take (i2 + 1)).map D.Policy.cells).length))])), (2001, (.hole 3 ((b.Policies.take i2).map D.Policy.cells) [(vS ((nth b.Policies i2).Name)), (.p (.sl true 0 [])), (vI ((nth b.Policies i2).Repeat))] [])), (1007, (.box [(vI ((nth (nth b.Policies i2).Steps 0).Wait)), (vB false), (.p (.sl true 0 []))]))]) ∧ (j ≤ (nth (nth b.Policies i2).Steps 0).Targets.length) ∧ m = ((nth (nth b.Policies i2).Steps 0).Targets.length - j))
   ⟨_, 0, rfl, (by omega), rfl⟩ ?_
  rintro mm2 s ⟨j, rfl, hj, hmm2⟩
  refine AWp.seq ?_
  refine AWp.s_reg hGn hGk [.a, .a, .m (some 60) ⟨[(59, (.p (.sl true 1 (ws.map D.cStr))))], [], (vI ((ws.length : Nat) : Int)), [], []⟩, .a] ⟨StepOK.p rfl rfl rfl (OpOK.lenP (e := 9) rfl rfl (by kernel_rfl) rfl (by rw [List.length_map])), trivial⟩ [(0, (.ref 1023 0)), (1, (.p (.sl true 1 (ws.map D.cStr)))), (7, (.ref 1007 0)), (8, (vI ((2 * j + 3 : Nat) : Int))), (61, (vB (decide (((2 * j + 3 : Nat) : Int) < ((ws.length : Nat) : Int)))))] [(1023, a'7), (2001, a'8), (1007, a'9)] (by kernel_rfl) (by kernel_rfl) ?_
  refine AWp.cond (decide (((2 * j + 3 : Nat) : Int) < ((ws.length : Nat) : Int))) rfl (fun hc3 => ?_) (fun hc3 => ?_)
  ·skip
   replace hc3 := of_decide_eq_true hc3
   refine AWp.skip ?_
   refine nextQ_normal ?_
   refine AWp.seq ?_
   refine AWp.block ?_
   have hkj : nth ws (2 * j + 3) = kwT (nth (nth (nth b.Policies i2).Steps 0).Targets j) := by rw [hws]; exact (stepW_at c b (nth (nth b.Policies i2).Steps 0) (by omega)).1
   by_cases hs4 : (nth (nth (nth b.Policies i2).Steps 0).Targets j).Kind = 0
   ·skip
    first | refine AWp.cast (show (mk [(0, (.ref 1023 0)), (1, (.p (.sl true 1 (ws.map D.cStr)))), (7, (.ref 1007 0)), (8, (vI ((2 * j + 3 : Nat) : Int))), (61, (vB (decide (((2 * j + 3 : Nat) : Int) < ((ws.length : Nat) : Int)))))] [(1023, (.box [(.p (.sl false 3 (c.Zones.map D.Zone.cells))), (.p (.sl false 6 (c.People.map D.Person.cells))), (.p (.sl false 3 (c.Calendars.map D.Calendar.cells))), (.p (.sl false 3 (c.Schedules.map D.Schedule.cells))), (.p (.sl false 2 (b.Teams.map D.Team.cells))), (.own 2001 (((b.Policies.take (i2 + 1)).map D.Policy.cells).length))])), (2001, (.hole 3 ((b.Policies.take i2).map D.Policy.cells) [(vS ((nth b.Policies i2).Name)), (.p (.sl true 0 [])), (vI ((nth b.Policies i2).Repeat))] [])), (1007, (.box [(vI ((nth (nth b.Policies i2).Steps 0).Wait)), (vB false), (.p (.sl true 0 []))]))]) = (mk [(0, (.ref 1023 0)), (1, (.p (.sl true 1 (ws.map D.cStr)))), (7, (.ref 1007 0)), (8, (vI ((2 * j + 3 : Nat) : Int))), (61, (vB true))] [(1023, (.box [(.p (.sl false 3 (c.Zones.map D.Zone.cells))), (.p (.sl false 6 (c.People.map D.Person.cells))), (.p (.sl false 3 (c.Calendars.map D.Calendar.cells))), (.p (.sl false 3 (c.Schedules.map D.Schedule.cells))), (.p (.sl false 2 (b.Teams.map D.Team.cells))), (.own 2001 (((b.Policies.take (i2 + 1)).map D.Policy.cells).length))])), (2001, (.hole 3 ((b.Policies.take i2).map D.Policy.cells) [(vS ((nth b.Policies i2).Name)), (.p (.sl true 0 [])), (vI ((nth b.Policies i2).Repeat))] [])), (1007, (.box [(vI ((nth (nth b.Policies i2).Steps 0).Wait)), (vB false), (.p (.sl true 0 []))]))]) from by rw [(decide_eq_true hc3)]) ?_ | skip
    refine AWp.s_reg hGn hGk [.a, .a, .m (some 66) ⟨[(64, (.p (.sl true 1 (ws.map D.cStr)))), (65, (vI ((2 * j + 3 : Nat) : Int)))], [], (.eptr [(pS (nth ws (2 * j + 3)))]), [], []⟩, .a, .m (some 68) ⟨[(67, (vS (nth ws (2 * j + 3))))], [], (vB false), [], []⟩, .a, .a, .a, .a, .a, .a, .a, .a, .a, .a, .a, .a, .a, .a] ⟨StepOK.p rfl rfl rfl (OpOK.indexP (e := 9) rfl (by kernel_rfl) (by kernel_rfl) rfl rfl rfl (map_nth (by omega))),
     StepOK.p rfl rfl rfl (OpOK.neqS rfl rfl rfl (decide_eq_false (fun hne => hne (by rw [hkj]; exact kw0 (by assumption))))), trivial⟩ [(0, (.ref 1023 0)), (1, (.p (.sl true 1 (ws.map D.cStr)))), (7, (.ref 1007 0)), (8, (vI ((2 * j + 3 : Nat) : Int))), (82, (vB false))] [(1023, a'7), (2001, a'8), (1007, a'9)] (by kernel_rfl) (by kernel_rfl) ?_
    refine AWp.cond_false rfl ?_
    refine AWp.skip ?_
    refine blockQ_normal ?_
    refine nextQ_normal ?_
    refine AWp.reg' hGn hGk [.a, .m (some 63) ⟨[(62, (vI ((2 * j + 3 : Nat) : Int)))], [], (vI (((2 * j + 3) + 2 : Nat) : Int)), [], []⟩, .a] ⟨StepOK.p rfl rfl rfl (OpOK.add rfl rfl rfl (by rw [IntWalk.i64_in _ ⟨by omega, by omega⟩]; omega)), trivial⟩ [(0, (.ref 1023 0)), (1, (.p (.sl true 1 (ws.map D.cStr)))), (7, (.ref 1007 0)), (8, (vI (((2 * j + 3) + 2 : Nat) : Int)))] [(1023, a'7), (2001, a'8), (1007, a'9)] (by kernel_rfl) (by kernel_rfl) ?_
    refine nextQ_normal ⟨_, ?_, (j + 1), (by rw [show 2 * j + 3 + 2 = 2 * (j + 1) + 3 from by omega]), (by omega), rfl⟩
    · omega
   ·skip
    first | refine AWp.cast (show (mk [(0, (.ref 1023 0)), (1, (.p (.sl true 1 (ws.map D.cStr)))), (7, (.ref 1007 0)), (8, (vI ((2 * j + 3 : Nat) : Int))), (61, (vB (decide (((2 * j + 3 : Nat) : Int) < ((ws.length : Nat) : Int)))))] [(1023, (.box [(.p (.sl false 3 (c.Zones.map D.Zone.cells))), (.p (.sl false 6 (c.People.map D.Person.cells))), (.p (.sl false 3 (c.Calendars.map D.Calendar.cells))), (.p (.sl false 3 (c.Schedules.map D.Schedule.cells))), (.p (.sl false 2 (b.Teams.map D.Team.cells))), (.own 2001 (((b.Policies.take (i2 + 1)).map D.Policy.cells).length))])), (2001, (.hole 3 ((b.Policies.take i2).map D.Policy.cells) [(vS ((nth b.Policies i2).Name)), (.p (.sl true 0 [])), (vI ((nth b.Policies i2).Repeat))] [])), (1007, (.box [(vI ((nth (nth b.Policies i2).Steps 0).Wait)), (vB false), (.p (.sl true 0 []))]))]) = (mk [(0, (.ref 1023 0)), (1, (.p (.sl true 1 (ws.map D.cStr)))), (7, (.ref 1007 0)), (8, (vI ((2 * j + 3 : Nat) : Int))), (61, (vB true))] [(1023, (.box [(.p (.sl false 3 (c.Zones.map D.Zone.cells))), (.p (.sl false 6 (c.People.map D.Person.cells))), (.p (.sl false 3 (c.Calendars.map D.Calendar.cells))), (.p (.sl false 3 (c.Schedules.map D.Schedule.cells))), (.p (.sl false 2 (b.Teams.map D.Team.cells))), (.own 2001 (((b.Policies.take (i2 + 1)).map D.Policy.cells).length))])), (2001, (.hole 3 ((b.Policies.take i2).map D.Policy.cells) [(vS ((nth b.Policies i2).Name)), (.p (.sl true 0 [])), (vI ((nth b.Policies i2).Repeat))] [])), (1007, (.box [(vI ((nth (nth b.Policies i2).Steps 0).Wait)), (vB false), (.p (.sl true 0 []))]))]) from by rw [(decide_eq_true hc3)]) ?_ | skip
    by_cases hs5 : (nth (nth (nth b.Policies i2).Steps 0).Targets j).Kind = 1
    ·skip
     refine AWp.s_reg hGn hGk [.a, .a, .m (some 66) ⟨[(64, (.p (.sl true 1 (ws.map D.cStr)))), (65, (vI ((2 * j + 3 : Nat) : Int)))], [], (.eptr [(pS (nth ws (2 * j + 3)))]), [], []⟩, .a, .m (some 68) ⟨[(67, (vS (nth ws (2 * j + 3))))], [], (vB true), [], []⟩, .a, .a, .a, .m (some 72) ⟨[(70, (.p (.sl true 1 (ws.map D.cStr)))), (71, (vI ((2 * j + 3 : Nat) : Int))), (69, (vB true))], [], (.eptr [(pS (nth ws (2 * j + 3)))]), [], []⟩, .a, .m (some 74) ⟨[(73, (vS (nth ws (2 * j + 3)))), (69, (vB true))], [], (vB false), [], []⟩, .a, .a, .a, .a, .a, .a, .a, .a] ⟨StepOK.p rfl rfl rfl (OpOK.indexP (e := 9) rfl (by kernel_rfl) (by kernel_rfl) rfl rfl rfl (map_nth (by omega))),
      StepOK.p rfl rfl rfl (OpOK.neqS rfl rfl rfl (decide_eq_true (by rw [hkj]; exact fun hne => absurd ((kw_p _).1 hne) (by assumption)))),
      StepOK.g rfl rfl rfl rfl rfl (by simp) (OpOK.indexP (e := 9) rfl (by kernel_rfl) (by kernel_rfl) rfl rfl rfl (map_nth (by omega))),
      StepOK.g rfl rfl rfl rfl rfl (by simp) (OpOK.neqS rfl rfl rfl (decide_eq_false (fun hne => hne (by rw [hkj]; exact kw1 (by assumption) (by assumption))))), trivial⟩ [(0, (.ref 1023 0)), (1, (.p (.sl true 1 (ws.map D.cStr)))), (7, (.ref 1007 0)), (8, (vI ((2 * j + 3 : Nat) : Int))), (82, (vB false))] [(1023, a'7), (2001, a'8), (1007, a'9)] (by kernel_rfl) (by kernel_rfl) ?_
     refine AWp.cond_false rfl ?_
     refine AWp.skip ?_
     refine blockQ_normal ?_
     refine nextQ_normal ?_
     refine AWp.reg' hGn hGk [.a, .m (some 63) ⟨[(62, (vI ((2 * j + 3 : Nat) : Int)))], [], (vI (((2 * j + 3) + 2 : Nat) : Int)), [], []⟩, .a] ⟨StepOK.p rfl rfl rfl (OpOK.add rfl rfl rfl (by rw [IntWalk.i64_in _ ⟨by omega, by omega⟩]; omega)), trivial⟩ [(0, (.ref 1023 0)), (1, (.p (.sl true 1 (ws.map D.cStr)))), (7, (.ref 1007 0)), (8, (vI (((2 * j + 3) + 2 : Nat) : Int)))] [(1023, a'7), (2001, a'8), (1007, a'9)] (by kernel_rfl) (by kernel_rfl) ?_
     refine nextQ_normal ⟨_, ?_, (j + 1), (by rw [show 2 * j + 3 + 2 = 2 * (j + 1) + 3 from by omega]), (by omega), rfl⟩
     · omega
    ·skip
     refine AWp.s_reg hGn hGk [.a, .a, .m (some 66) ⟨[(64, (.p (.sl true 1 (ws.map D.cStr)))), (65, (vI ((2 * j + 3 : Nat) : Int)))], [], (.eptr [(pS (nth ws (2 * j + 3)))]), [], []⟩, .a, .m (some 68) ⟨[(67, (vS (nth ws (2 * j + 3))))], [], (vB true), [], []⟩, .a, .a, .a, .m (some 72) ⟨[(70, (.p (.sl true 1 (ws.map D.cStr)))), (71, (vI ((2 * j + 3 : Nat) : Int))), (69, (vB true))], [], (.eptr [(pS (nth ws (2 * j + 3)))]), [], []⟩, .a, .m (some 74) ⟨[(73, (vS (nth ws (2 * j + 3)))), (69, (vB true))], [], (vB true), [], []⟩, .a, .a, .a, .a, .m (some 79) ⟨[(77, (.p (.sl true 1 (ws.map D.cStr)))), (78, (vI ((2 * j + 3 : Nat) : Int))), (76, (vB true))], [], (.eptr [(pS (nth ws (2 * j + 3)))]), [], []⟩, .a, .m (some 81) ⟨[(80, (vS (nth ws (2 * j + 3)))), (76, (vB true))], [], (vB false), [], []⟩, .a] ⟨StepOK.p rfl rfl rfl (OpOK.indexP (e := 9) rfl (by kernel_rfl) (by kernel_rfl) rfl rfl rfl (map_nth (by omega))),
      StepOK.p rfl rfl rfl (OpOK.neqS rfl rfl rfl (decide_eq_true (by rw [hkj]; exact fun hne => absurd ((kw_p _).1 hne) (by assumption)))),
      StepOK.g rfl rfl rfl rfl rfl (by simp) (OpOK.indexP (e := 9) rfl (by kernel_rfl) (by kernel_rfl) rfl rfl rfl (map_nth (by omega))),
      StepOK.g rfl rfl rfl rfl rfl (by simp) (OpOK.neqS rfl rfl rfl (decide_eq_true (by rw [hkj]; exact fun hne => absurd ((kw_s _ (by assumption)).1 hne) (by assumption)))),
      StepOK.g rfl rfl rfl rfl rfl (by simp) (OpOK.indexP (e := 9) rfl (by kernel_rfl) (by kernel_rfl) rfl rfl rfl (map_nth (by omega))),
      StepOK.g rfl rfl rfl rfl rfl (by simp) (OpOK.neqS rfl rfl rfl (decide_eq_false (fun hne => hne (by rw [hkj]; exact kw2 (by assumption) (by assumption))))), trivial⟩ [(0, (.ref 1023 0)), (1, (.p (.sl true 1 (ws.map D.cStr)))), (7, (.ref 1007 0)), (8, (vI ((2 * j + 3 : Nat) : Int))), (82, (vB false))] [(1023, a'7), (2001, a'8), (1007, a'9)] (by kernel_rfl) (by kernel_rfl) ?_
     refine AWp.cond_false rfl ?_
     refine AWp.skip ?_
     refine blockQ_normal ?_
     refine nextQ_normal ?_
     refine AWp.reg' hGn hGk [.a, .m (some 63) ⟨[(62, (vI ((2 * j + 3 : Nat) : Int)))], [], (vI (((2 * j + 3) + 2 : Nat) : Int)), [], []⟩, .a] ⟨StepOK.p rfl rfl rfl (OpOK.add rfl rfl rfl (by rw [IntWalk.i64_in _ ⟨by omega, by omega⟩]; omega)), trivial⟩ [(0, (.ref 1023 0)), (1, (.p (.sl true 1 (ws.map D.cStr)))), (7, (.ref 1007 0)), (8, (vI (((2 * j + 3) + 2 : Nat) : Int)))] [(1023, a'7), (2001, a'8), (1007, a'9)] (by kernel_rfl) (by kernel_rfl) ?_
     refine nextQ_normal ⟨_, ?_, (j + 1), (by rw [show 2 * j + 3 + 2 = 2 * (j + 1) + 3 from by omega]), (by omega), rfl⟩
     · omega
  ·skip
   replace hc3 := of_decide_eq_false hc3
   refine AWp.weaken (mk [(0, (.ref 1023 0)), (1, (.p (.sl true 1 (ws.map D.cStr)))), (7, (.ref 1007 0))] [(1023, a'7), (2001, a'8), (1007, a'9)]) (Weak.sub' hGk (by kernel_rfl)) ?_
   refine AWp.exit ?_
   refine nextQ_exit ?_
   refine nextQ_exit ?_
   refine blockQ_exit ?_
   refine nextQ_normal ?_
   refine AWp.seq ?_
   refine AWp.s_reg hGn hGk (aa 1) (Man.aa _ _) [(0, (.ref 1023 0)), (1, (.p (.sl true 1 (ws.map D.cStr)))), (7, (.ref 1007 0)), (9, (vI 3))] [(1023, a'7), (2001, a'8), (1007, a'9)] (by kernel_rfl) (by kernel_rfl) ?_
   refine AWp.block ?_
   refine AWp.weaken (mk [(0, (.ref 1023 0)), (1, (.p (.sl true 1 (ws.map D.cStr)))), (7, (.ref 1007 0)), (9, (vI 3))] [(1007, a'9), (1023, a'7), (2001, a'8)]) (Weak.sub' hGk (by kernel_rfl)) ?_
   refine AWp.weaken (mk [(0, (.ref 1023 0)), (1, (.p (.sl true 1 (ws.map D.cStr)))), (7, (.ref 1007 0)), (9, (vI 3))] [(1007, (.box [(vI ((nth (nth b.Policies i2).Steps 0).Wait)), (vB false), (.own 2003 0)])), (2003, (.arr 2 [])), (1023, a'7), (2001, a'8)]) (Weak.thawCell (j := 2) (es0 := 0) (by kernel_rfl) rfl rfl (by kernel_rfl) (by kernel_rfl) rfl) ?_
   refine AWp.loop (fun m s => ∃ j2, s = (mk [(0, (.ref 1023 0)), (1, (.p (.sl true 1 (ws.map D.cStr)))), (7, (.ref 1007 0)), (9, (vI ((2 * j2 + 3 : Nat) : Int)))] [(1007, (.box [(vI ((nth (nth b.Policies i2).Steps 0).Wait)), (vB false), (.own 2003 ((((nth (nth b.Policies i2).Steps 0).Targets.take j2).map D.Target.cells).length))])), (2003, (.arr 2 (((nth (nth b.Policies i2).Steps 0).Targets.take j2).map D.Target.cells))), (1023, (.box [(.p (.sl false 3 (c.Zones.map D.Zone.cells))), (.p (.sl false 6 (c.People.map D.Person.cells))), (.p (.sl false 3 (c.Calendars.map D.Calendar.cells))), (.p (.sl false 3 (c.Schedules.map D.Schedule.cells))), (.p (.sl false 2 (b.Teams.map D.Team.cells))), (.own 2001 (((b.Policies.take (i2 + 1)).map D.Policy.cells).length))])), (2001, (.hole 3 ((b.Policies.take i2).map D.Policy.cells) [(vS ((nth b.Policies i2).Name)), (.p (.sl true 0 [])), (vI ((nth b.Policies i2).Repeat))] []))]) ∧ (j2 ≤ (nth (nth b.Policies i2).Steps 0).Targets.length) ∧ m = ((nth (nth b.Policies i2).Steps 0).Targets.length - j2))
    ⟨_, 0, rfl, (by omega), rfl⟩ ?_
   rintro mm6 s ⟨j2, rfl, hj2, hmm6⟩
   refine AWp.seq ?_
   let a'10 : AV := (.own 2003 ((((nth (nth b.Policies i2).Steps 0).Targets.take j2).map D.Target.cells).length))
   let a'11 : AO := (.box [(vI ((nth (nth b.Policies i2).Steps 0).Wait)), (vB false), a'10])
   let a'12 : AO := (.arr 2 (((nth (nth b.Policies i2).Steps 0).Targets.take j2).map D.Target.cells))
   refine AWp.s_reg hGn hGk [.a, .a, .m (some 85) ⟨[(84, (.p (.sl true 1 (ws.map D.cStr))))], [], (vI ((ws.length : Nat) : Int)), [], []⟩, .a] ⟨StepOK.p rfl rfl rfl (OpOK.lenP (e := 9) rfl rfl (by kernel_rfl) rfl (by rw [List.length_map])), trivial⟩ [(0, (.ref 1023 0)), (1, (.p (.sl true 1 (ws.map D.cStr)))), (7, (.ref 1007 0)), (9, (vI ((2 * j2 + 3 : Nat) : Int))), (86, (vB (decide (((2 * j2 + 3 : Nat) : Int) < ((ws.length : Nat) : Int)))))] [(1007, a'11), (2003, a'12), (1023, a'7), (2001, a'8)] (by kernel_rfl) (by kernel_rfl) ?_
   refine AWp.cond (decide (((2 * j2 + 3 : Nat) : Int) < ((ws.length : Nat) : Int))) rfl (fun hc7 => ?_) (fun hc7 => ?_)
   ·skip
    replace hc7 := of_decide_eq_true hc7
    refine AWp.skip ?_
    refine nextQ_normal ?_
    refine AWp.seq ?_
    refine AWp.block ?_
    let a'13 : AO := (.box [(vI ((nth (nth (nth b.Policies i2).Steps 0).Targets j2).Kind)), (vI ((nth (nth (nth b.Policies i2).Steps 0).Targets j2).Index))])
    refine AWp.s_dreg hGn hGk (by kernel_rfl) [.a, .a, .a, .m (some 93) ⟨[(91, (.p (.sl true 1 (ws.map D.cStr)))), (92, (vI ((2 * j2 + 3 : Nat) : Int)))], [], (.eptr [(pS (nth ws (2 * j2 + 3)))]), [], []⟩, .a, .a, .a, .m (some 97) ⟨[(96, (vI ((2 * j2 + 3 : Nat) : Int)))], [], (vI (((2 * j2 + 3) + 1 : Nat) : Int)), [], []⟩, .m (some 98) ⟨[(95, (.p (.sl true 1 (ws.map D.cStr)))), (97, (vI (((2 * j2 + 3) + 1 : Nat) : Int)))], [], (.eptr [(pS (nth ws ((2 * j2 + 3) + 1)))]), [], []⟩, .a, .m (some 100) ⟨[(90, (.ref 1023 0)), (94, (vS (nth ws (2 * j2 + 3)))), (99, (vS (nth ws ((2 * j2 + 3) + 1))))], [(1023, a'7), (2001, a'8)], (.tup [(.agg [(vI ((nth (nth (nth b.Policies i2).Steps 0).Targets j2).Kind)), (vI ((nth (nth (nth b.Policies i2).Steps 0).Targets j2).Index))]), (vB true)]), [(1023, a'7), (2001, a'8)], []⟩, .a, .a, .a, .a, .a, .a] ⟨StepOK.p rfl rfl rfl (OpOK.indexP (e := 9) rfl (by kernel_rfl) (by kernel_rfl) rfl rfl rfl (map_nth (by omega))),
     StepOK.p rfl rfl rfl (OpOK.add rfl rfl rfl (by rw [IntWalk.i64_in _ ⟨by omega, by omega⟩]; omega)),
     StepOK.p rfl rfl rfl (OpOK.indexP (e := 9) rfl (by kernel_rfl) (by kernel_rfl) rfl rfl rfl (map_nth (by omega))),
     StepOK.p rfl rfl rfl (OpOK.call rfl (by kernel_rfl) rfl (rd_target0 c b h hb i2 hi2 (nth (nth (nth b.Policies i2).Steps 0).Targets j2) (nth ws (2 * j2 + 3)) (nth ws ((2 * j2 + 3) + 1)) (hsv.tgt j2 (by omega)) (by rw [hws]; exact (stepW_at c b (nth (nth b.Policies i2).Steps 0) (by omega)).1) (by rw [hws]; exact (stepW_at c b (nth (nth b.Policies i2).Steps 0) (by omega)).2)) (by kernel_rfl)), trivial⟩ [(0, (.ref 1023 0)), (1, (.p (.sl true 1 (ws.map D.cStr)))), (7, (.ref 1007 0)), (9, (vI ((2 * j2 + 3 : Nat) : Int))), (10, (.ref 1010 0)), (11, (vB true))] [(1007, a'11), (2003, a'12), (1023, a'7), (2001, a'8), (1010, a'13)] (by kernel_rfl) (by kernel_rfl) (by kernel_rfl) ?_
    refine AWp.seq ?_
    refine AWp.s_reg hGn hGk (aa 2) (Man.aa _ _) [(0, (.ref 1023 0)), (1, (.p (.sl true 1 (ws.map D.cStr)))), (7, (.ref 1007 0)), (9, (vI ((2 * j2 + 3 : Nat) : Int))), (10, (.ref 1010 0)), (104, (vB false))] [(1007, a'11), (2003, a'12), (1023, a'7), (2001, a'8), (1010, a'13)] (by kernel_rfl) (by kernel_rfl) ?_
    refine AWp.cond_false rfl ?_
    refine AWp.skip ?_
    refine nextQ_normal ?_
    let a'14 : AV := (.own 2003 ((((nth (nth b.Policies i2).Steps 0).Targets.take (j2 + 1)).map D.Target.cells).length))
    let a'15 : AO := (.arr 2 (((nth (nth b.Policies i2).Steps 0).Targets.take (j2 + 1)).map D.Target.cells))
    refine AWp.reg' hGn hGk [.a, .a, .a, .a, .m (some 109) ⟨[(106, a'10), (108, (.p (.sl true 2 [[(pI ((nth (nth (nth b.Policies i2).Steps 0).Targets j2).Kind)), (pI ((nth (nth (nth b.Policies i2).Steps 0).Targets j2).Index))]])))], [(2003, a'12)], a'14, [(2003, a'15)], []⟩, .a, .a] ⟨StepOK.p rfl rfl rfl (OpOK.appendOwn (e := 113) (bytes := 16) rfl rfl (by kernel_rfl) (by kernel_rfl) rfl (Nat.beq_refl _) rfl (take_map_snoc (f := D.Target.cells) (by omega)) rfl (by simp only [List.length_map, List.length_cons, List.length_nil, List.length_append, List.length_take, List.length_drop]; omega) (by simp only [List.length_map, List.length_cons, List.length_nil, List.length_append, List.length_take, List.length_drop]; omega)), trivial⟩ [(0, (.ref 1023 0)), (1, (.p (.sl true 1 (ws.map D.cStr)))), (7, (.ref 1007 0)), (9, (vI ((2 * j2 + 3 : Nat) : Int)))] [(1007, (.box [(vI ((nth (nth b.Policies i2).Steps 0).Wait)), (vB false), a'14])), (2003, a'15), (1023, a'7), (2001, a'8)] (by kernel_rfl) (by kernel_rfl) ?_
    refine blockQ_normal ?_
    refine nextQ_normal ?_
    refine AWp.reg' hGn hGk [.a, .m (some 88) ⟨[(87, (vI ((2 * j2 + 3 : Nat) : Int)))], [], (vI (((2 * j2 + 3) + 2 : Nat) : Int)), [], []⟩, .a] ⟨StepOK.p rfl rfl rfl (OpOK.add rfl rfl rfl (by rw [IntWalk.i64_in _ ⟨by omega, by omega⟩]; omega)), trivial⟩ [(0, (.ref 1023 0)), (1, (.p (.sl true 1 (ws.map D.cStr)))), (7, (.ref 1007 0)), (9, (vI (((2 * j2 + 3) + 2 : Nat) : Int)))] [(1007, (.box [(vI ((nth (nth b.Policies i2).Steps 0).Wait)), (vB false), a'14])), (2003, a'15), (1023, a'7), (2001, a'8)] (by kernel_rfl) (by kernel_rfl) ?_
    refine nextQ_normal ⟨_, ?_, (j2 + 1), (by rw [show 2 * j2 + 3 + 2 = 2 * (j2 + 1) + 3 from by omega]), (by omega), rfl⟩
    · omega
   ·skip
    replace hc7 := of_decide_eq_false hc7
    refine AWp.weaken (mk [(0, (.ref 1023 0)), (7, (.ref 1007 0))] [(1007, a'11), (2003, a'12), (1023, a'7), (2001, a'8)]) (Weak.sub' hGk (by kernel_rfl)) ?_
    refine AWp.exit ?_
    refine nextQ_exit ?_
    refine nextQ_exit ?_
    refine blockQ_exit ?_
    refine nextQ_normal ?_
    have e5 : (nth (nth b.Policies i2).Steps 0).Targets.take j2 = (nth (nth b.Policies i2).Steps 0).Targets := List.take_of_length_le (by omega)
    refine AWp.cast (show (mk [(0, (.ref 1023 0)), (7, (.ref 1007 0))] [(1007, (.box [(vI ((nth (nth b.Policies i2).Steps 0).Wait)), (vB false), (.own 2003 ((((nth (nth b.Policies i2).Steps 0).Targets.take j2).map D.Target.cells).length))])), (2003, (.arr 2 (((nth (nth b.Policies i2).Steps 0).Targets.take j2).map D.Target.cells))), (1023, (.box [(.p (.sl false 3 (c.Zones.map D.Zone.cells))), (.p (.sl false 6 (c.People.map D.Person.cells))), (.p (.sl false 3 (c.Calendars.map D.Calendar.cells))), (.p (.sl false 3 (c.Schedules.map D.Schedule.cells))), (.p (.sl false 2 (b.Teams.map D.Team.cells))), (.own 2001 (((b.Policies.take (i2 + 1)).map D.Policy.cells).length))])), (2001, (.hole 3 ((b.Policies.take i2).map D.Policy.cells) [(vS ((nth b.Policies i2).Name)), (.p (.sl true 0 [])), (vI ((nth b.Policies i2).Repeat))] []))]) = (mk [(0, (.ref 1023 0)), (7, (.ref 1007 0))] [(1007, (.box [(vI ((nth (nth b.Policies i2).Steps 0).Wait)), (vB ((nth (nth b.Policies i2).Steps 0).Urgent)), (.own 2003 ((((nth (nth b.Policies i2).Steps 0).Targets).map D.Target.cells).length))])), (2003, (.arr 2 (((nth (nth b.Policies i2).Steps 0).Targets).map D.Target.cells))), (1023, (.box [(.p (.sl false 3 (c.Zones.map D.Zone.cells))), (.p (.sl false 6 (c.People.map D.Person.cells))), (.p (.sl false 3 (c.Calendars.map D.Calendar.cells))), (.p (.sl false 3 (c.Schedules.map D.Schedule.cells))), (.p (.sl false 2 (b.Teams.map D.Team.cells))), (.own 2001 (((b.Policies.take (i2 + 1)).map D.Policy.cells).length))])), (2001, (.hole 3 ((b.Policies.take i2).map D.Policy.cells) [(vS ((nth b.Policies i2).Name)), (.p (.sl true 0 [])), (vI ((nth b.Policies i2).Repeat))] []))]) from (by rw [e5, ‹(nth (nth b.Policies i2).Steps 0).Urgent = _›])) ?_
    refine AWp.weaken (mk [(0, (.ref 1023 0)), (7, (.ref 1007 0))] [(2003, (.arr 2 (((nth (nth b.Policies i2).Steps 0).Targets).map D.Target.cells))), (1007, (.box [(vI ((nth (nth b.Policies i2).Steps 0).Wait)), (vB ((nth (nth b.Policies i2).Steps 0).Urgent)), (.own 2003 ((((nth (nth b.Policies i2).Steps 0).Targets).map D.Target.cells).length))])), (1023, a'7), (2001, a'8)]) (Weak.sub' hGk (by kernel_rfl)) ?_
    let a'16 : AV := (.p (.sl false 2 (((nth (nth b.Policies i2).Steps 0).Targets).map D.Target.cells)))
    let a'17 : AO := (.box [(vI ((nth (nth b.Policies i2).Steps 0).Wait)), (vB ((nth (nth b.Policies i2).Steps 0).Urgent)), a'16])
    refine AWp.weaken (mk [(0, (.ref 1023 0)), (7, (.ref 1007 0))] [(1007, a'17), (1023, a'7), (2001, a'8)]) (Weak.freeze (n := 2003) (es := 2) (rows := (((nth (nth b.Policies i2).Steps 0).Targets).map D.Target.cells)) (by rw [hGk]; decide) ⟨rfl, (.same rfl), ⟨rfl, (.same rfl), trivial⟩⟩ ⟨rfl, by decide, (.box (.cons (.same rfl) (.cons (.same rfl) (.cons .own .nil)))), ⟨rfl, by decide, (.same rfl), ⟨rfl, by decide, (.same rfl), trivial⟩⟩⟩) ?_
    refine AWp.s_dreg hGn hGk (by kernel_rfl) [.a, .a, .a, .a, .a, .a, .a, .a, .a, .a, .m (some 121) ⟨[(120, a'6)], [(2001, a'8)], (vI ((((b.Policies.take (i2 + 1)).map D.Policy.cells).length : Nat) : Int)), [], []⟩, .m (some 122) ⟨[(121, (vI ((((b.Policies.take (i2 + 1)).map D.Policy.cells).length : Nat) : Int)))], [], (vI ((i2 : Nat) : Int)), [], []⟩, .m (some 123) ⟨[(115, a'6), (122, (vI ((i2 : Nat) : Int)))], [(2001, a'8)], (.aref 2001 (((b.Policies.take (i2 + 1)).map D.Policy.cells).length) i2 0), [], []⟩, .a] ⟨StepOK.p rfl rfl rfl (OpOK.lenHole (e := 106) rfl rfl (by kernel_rfl) rfl hhl rfl),
     StepOK.p rfl rfl rfl (OpOK.sub rfl rfl rfl (by rw [IntWalk.i64_in _ ⟨by omega, by omega⟩]; omega)),
     StepOK.p rfl rfl rfl (OpOK.indexHole (e := 106) rfl (by kernel_rfl) (by kernel_rfl) rfl hhl rfl rfl (by simp only [List.length_map, List.length_take, List.length_drop, List.length_nil]; omega)), trivial⟩ [(7, (.ref 1007 0)), (12, (.aref 2001 (((b.Policies.take (i2 + 1)).map D.Policy.cells).length) i2 0))] [(1007, a'17), (1023, a'7), (2001, a'8)] (by kernel_rfl) (by kernel_rfl) (by kernel_rfl) ?_
    let a'18 : AO := (.arr 3 [[(pI ((nth (nth b.Policies i2).Steps 0).Wait)), (pB ((nth (nth b.Policies i2).Steps 0).Urgent)), (.sl false 2 (((nth (nth b.Policies i2).Steps 0).Targets).map D.Target.cells))]])
    let a'19 : AO := (.hole 3 ((b.Policies.take i2).map D.Policy.cells) [(vS ((nth b.Policies i2).Name)), (.own 2002 1), (vI ((nth b.Policies i2).Repeat))] [])
    refine AWp.s_dreg hGn hGk (by kernel_rfl) [.a, .a, .m (some 126) ⟨[(125, (.aref 2001 (((b.Policies.take (i2 + 1)).map D.Policy.cells).length) i2 0))], [(2001, a'8)], (.aref 2001 (((b.Policies.take (i2 + 1)).map D.Policy.cells).length) i2 0), [], []⟩, .m (some 127) ⟨[(126, (.aref 2001 (((b.Policies.take (i2 + 1)).map D.Policy.cells).length) i2 0))], [(2001, a'8)], (.aref 2001 (((b.Policies.take (i2 + 1)).map D.Policy.cells).length) i2 1), [], []⟩, .m (some 128) ⟨[(127, (.aref 2001 (((b.Policies.take (i2 + 1)).map D.Policy.cells).length) i2 1))], [(2001, a'8)], (.p (.sl true 0 [])), [], []⟩, .a, .a, .m (some 131) ⟨[(128, (.p (.sl true 0 []))), (130, (.p (.sl true 3 [[(pI ((nth (nth b.Policies i2).Steps 0).Wait)), (pB ((nth (nth b.Policies i2).Steps 0).Urgent)), (.sl false 2 (((nth (nth b.Policies i2).Steps 0).Targets).map D.Target.cells))]])))], [], (.own 2002 1), [(2002, a'18)], [2002]⟩, .m (some 132) ⟨[(124, (.aref 2001 (((b.Policies.take (i2 + 1)).map D.Policy.cells).length) i2 0))], [(2001, a'8)], (.aref 2001 (((b.Policies.take (i2 + 1)).map D.Policy.cells).length) i2 0), [], []⟩, .m (some 133) ⟨[(132, (.aref 2001 (((b.Policies.take (i2 + 1)).map D.Policy.cells).length) i2 0))], [(2001, a'8)], (.aref 2001 (((b.Policies.take (i2 + 1)).map D.Policy.cells).length) i2 1), [], []⟩, .m none ⟨[(133, (.aref 2001 (((b.Policies.take (i2 + 1)).map D.Policy.cells).length) i2 1)), (131, (.own 2002 1))], [(2001, a'8)], .any, [(2001, a'19)], []⟩] ⟨StepOK.p rfl rfl rfl (OpOK.nilCheckSh rfl rfl rfl hhl),
     StepOK.p rfl rfl rfl (OpOK.fieldElemSh (fo := 1) rfl rfl (by kernel_rfl) rfl rfl hhl),
     StepOK.p rfl rfl rfl (OpOK.loadHole rfl rfl (by kernel_rfl) hhl (by rw [List.length_map, List.length_take]; omega) rfl),
     StepOK.p rfl rfl rfl (OpOK.appendNew (e := 103) (bytes := 40) rfl rfl (by kernel_rfl) (by kernel_rfl) (by kernel_rfl) rfl rfl rfl rfl (.inl rfl) (by simp only [List.length_map, List.length_cons, List.length_nil]; omega) (by simp only [List.length_map, List.length_cons, List.length_nil]; omega)),
     StepOK.p rfl rfl rfl (OpOK.nilCheckSh rfl rfl rfl hhl),
     StepOK.p rfl rfl rfl (OpOK.fieldElemSh (fo := 1) rfl rfl (by kernel_rfl) rfl rfl hhl),
     StepOK.p rfl rfl rfl (OpOK.storeHole rfl rfl rfl rfl rfl hhl (by rw [List.length_map, List.length_take]; omega) (by kernel_rfl) (by kernel_rfl) rfl), trivial⟩ [] [(1023, a'7), (2001, a'19), (2002, a'18)] (by kernel_rfl) (by kernel_rfl) (by kernel_rfl) ?_
    refine AWp.s_reg hGn hGk (aa 1) (Man.aa _ _) [(4, (vI 0))] [(1023, a'7), (2001, a'19), (2002, a'18)] (by kernel_rfl) (by kernel_rfl) ?_
    refine AWp.ret ?_
    refine fin_of (.inr rfl) (v := (vI 0)) (Res.tmp rfl rfl) (h' := [(1023, (.box [(.p (.sl false 3 (c.Zones.map D.Zone.cells))), (.p (.sl false 6 (c.People.map D.Person.cells))), (.p (.sl false 3 (c.Calendars.map D.Calendar.cells))), (.p (.sl false 3 (c.Schedules.map D.Schedule.cells))), (.p (.sl false 2 (b.Teams.map D.Team.cells))), (.own 2001 (((b.Policies.take (i2 + 1)).map D.Policy.cells).length))])), (2001, (.hole 3 ((b.Policies.take i2).map D.Policy.cells) [(vS ((nth b.Policies i2).Name)), (.own 2002 1), (vI ((nth b.Policies i2).Repeat))] [])), (2002, (.arr 3 [[(pI ((nth (nth b.Policies i2).Steps 0).Wait)), (pB ((nth (nth b.Policies i2).Steps 0).Urgent)), (.sl false 2 (((nth (nth b.Policies i2).Steps 0).Targets).map D.Target.cells))]]))]) rfl rfl ?_
    exact ⟨rfl, by rw [take_one (l := (nth b.Policies i2).Steps) hk]; rfl⟩
 ·skip
  refine AWp.s_reg hGn hGk (.a :: .m (some 14) ⟨[(13, (.p (.sl true 1 (ws.map D.cStr))))], [], (vI ((ws.length : Nat) : Int)), [], []⟩ :: .m (some 15) ⟨[(14, (vI ((ws.length : Nat) : Int)))], [], (vB false), [], []⟩ :: .a :: .a :: .m (some 18) ⟨[(17, (.p (.sl true 1 (ws.map D.cStr)))), (16, (vB false))], [], (vI ((ws.length : Nat) : Int)), [], []⟩ :: .m (some 19) ⟨[(18, (vI ((ws.length : Nat) : Int))), (16, (vB false))], [], (vI ((ws.length % 2 : Nat) : Int)), [], []⟩ :: .m (some 20) ⟨[(19, (vI ((ws.length % 2 : Nat) : Int))), (16, (vB false))], [], (vB false), [], []⟩ :: .a :: .a :: .a :: .a :: .a :: .a :: .a :: .m (some 28) ⟨[(27, a'6), (22, (vB false))], [(2001, a'8)], (vI ((((b.Policies.take (i2 + 1)).map D.Policy.cells).length : Nat) : Int)), [], []⟩ :: .m (some 29) ⟨[(28, (vI ((((b.Policies.take (i2 + 1)).map D.Policy.cells).length : Nat) : Int))), (22, (vB false))], [], (vB false), [], []⟩ :: .a :: .a :: .a :: .m (some 33) ⟨[(32, (.p (.sl true 1 (ws.map D.cStr)))), (31, (vB false))], [], (.eptr [(pS (nth ws 2))]), [], []⟩ :: .a :: .m (some 35) ⟨[(34, (vS (nth ws 2))), (31, (vB false))], [], (vB false), [], []⟩ :: .a :: .a :: .a :: .a :: .a :: .a :: .a :: []) ⟨StepOK.p rfl rfl rfl (OpOK.lenP (e := 9) rfl rfl (by kernel_rfl) rfl (by rw [List.length_map])),
   StepOK.p rfl rfl rfl (OpOK.lss rfl rfl rfl (decide_eq_false (by omega))),
   StepOK.g rfl rfl rfl rfl rfl (by simp) (OpOK.lenP (e := 9) rfl rfl (by kernel_rfl) rfl (by rw [List.length_map])),
   StepOK.g rfl rfl rfl rfl rfl (by simp) (OpOK.rem rfl rfl rfl (by omega) (Int.ofNat_tmod _ _).symm),
   StepOK.g rfl rfl rfl rfl rfl (by simp) (OpOK.eqlI rfl rfl rfl (decide_eq_false (by omega))),
   StepOK.g rfl rfl rfl rfl rfl (by simp) (OpOK.lenHole (e := 106) rfl rfl (by kernel_rfl) rfl hhl rfl),
   StepOK.g rfl rfl rfl rfl rfl (by simp) (OpOK.eqlI rfl rfl rfl (decide_eq_false (by omega))),
   StepOK.g rfl rfl rfl rfl rfl (by simp) (OpOK.indexP (e := 9) rfl (by kernel_rfl) (by kernel_rfl) rfl rfl rfl (map_nth (show 2 < List.length ws by omega))),
   StepOK.g rfl rfl rfl rfl rfl (by simp) (OpOK.neqS rfl rfl rfl (decide_eq_false (fun hne => hne (by rw [e2, how_u]; assumption)))), trivial⟩ [(0, (.ref 1023 0)), (1, (.p (.sl true 1 (ws.map D.cStr)))), (42, (vB false))] [(1023, a'7), (2001, a'8)] (by kernel_rfl) (by kernel_rfl) ?_
  refine AWp.cond_false rfl ?_
  refine AWp.skip ?_
  refine nextQ_normal ?_
  refine AWp.s_reg hGn hGk [.a, .m (some 45) ⟨[(44, (.p (.sl true 1 (ws.map D.cStr))))], [], (.eptr [(pS (nth ws 1))]), [], []⟩, .a, .m (some 47) ⟨[(46, (vS (nth ws 1)))], [], (.tup [(vI ((nth (nth b.Policies i2).Steps 0).Wait)), (vB true)]), [], []⟩, .a, .a, .a, .a, .a] ⟨StepOK.p rfl rfl rfl (OpOK.indexP (e := 9) rfl (by kernel_rfl) (by kernel_rfl) rfl rfl rfl (map_nth (show 1 < List.length ws by omega))),
   StepOK.p rfl rfl rfl (OpOK.call rfl (by kernel_rfl) rfl (pol_number (nth ws 1) (nth (nth b.Policies i2).Steps 0).Wait (by rw [e1]; exact NumW.of (by omega) (by omega))) (by kernel_rfl)), trivial⟩ [(0, (.ref 1023 0)), (1, (.p (.sl true 1 (ws.map D.cStr)))), (5, (vI ((nth (nth b.Policies i2).Steps 0).Wait))), (6, (vB true))] [(1023, a'7), (2001, a'8)] (by kernel_rfl) (by kernel_rfl) ?_
  refine AWp.seq ?_
  refine AWp.s_reg hGn hGk (aa 2) (Man.aa _ _) [(0, (.ref 1023 0)), (1, (.p (.sl true 1 (ws.map D.cStr)))), (5, (vI ((nth (nth b.Policies i2).Steps 0).Wait))), (51, (vB false))] [(1023, a'7), (2001, a'8)] (by kernel_rfl) (by kernel_rfl) ?_
  refine AWp.cond_false rfl ?_
  refine AWp.skip ?_
  refine nextQ_normal ?_
  let a'20 : AO := (.box [(vI ((nth (nth b.Policies i2).Steps 0).Wait)), (vB true), (.p (.sl true 0 []))])
  refine AWp.s_reg hGn hGk [.a, .a, .m (some 54) ⟨[(53, (.p (.sl true 1 (ws.map D.cStr))))], [], (.eptr [(pS (nth ws 2))]), [], []⟩, .a, .m (some 56) ⟨[(55, (vS (nth ws 2)))], [], (vB true), [], []⟩, .a, .a, .a] ⟨StepOK.p rfl rfl rfl (OpOK.indexP (e := 9) rfl (by kernel_rfl) (by kernel_rfl) rfl rfl rfl (map_nth (show 2 < List.length ws by omega))),
   StepOK.p rfl rfl rfl (OpOK.eqlS rfl rfl rfl (decide_eq_true (by rw [e2, how_u]; assumption))), trivial⟩ [(0, (.ref 1023 0)), (1, (.p (.sl true 1 (ws.map D.cStr)))), (7, (.ref 1007 0))] [(1023, a'7), (2001, a'8), (1007, a'20)] (by kernel_rfl) (by kernel_rfl) ?_
  refine AWp.seq ?_
  refine AWp.s_reg hGn hGk (aa 1) (Man.aa _ _) [(0, (.ref 1023 0)), (1, (.p (.sl true 1 (ws.map D.cStr)))), (7, (.ref 1007 0)), (8, (vI 3))] [(1023, a'7), (2001, a'8), (1007, a'20)] (by kernel_rfl) (by kernel_rfl) ?_
  refine AWp.block ?_
  refine AWp.loop (fun m s => ∃ j, s = (mk [(0, (.ref 1023 0)), (1, (.p (.sl true 1 (ws.map D.cStr)))), (7, (.ref 1007 0)), (8, (vI ((2 * j + 3 : Nat) : Int)))] [(1023, (.box [(.p (.sl false 3 (c.Zones.map D.Zone.cells))), (.p (.sl false 6 (c.People.map D.Person.cells))), (.p (.sl false 3 (c.Calendars.map D.Calendar.cells))), (.p (.sl false 3 (c.Schedules.map D.Schedule.cells))), (.p (.sl false 2 (b.Teams.map D.Team.cells))), (.own 2001 (((b.Policies.take (i2 + 1)).map D.Policy.cells).length))])), (2001, (.hole 3 ((b.Policies.take i2).map D.Policy.cells) [(vS ((nth b.Policies i2).Name)), (.p (.sl true 0 [])), (vI ((nth b.Policies i2).Repeat))] [])), (1007, (.box [(vI ((nth (nth b.Policies i2).Steps 0).Wait)), (vB true), (.p (.sl true 0 []))]))]) ∧ (j ≤ (nth (nth b.Policies i2).Steps 0).Targets.length) ∧ m = ((nth (nth b.Policies i2).Steps 0).Targets.length - j))
   ⟨_, 0, rfl, (by omega), rfl⟩ ?_
  rintro mm8 s ⟨j, rfl, hj, hmm8⟩
  refine AWp.seq ?_
  refine AWp.s_reg hGn hGk [.a, .a, .m (some 60) ⟨[(59, (.p (.sl true 1 (ws.map D.cStr))))], [], (vI ((ws.length : Nat) : Int)), [], []⟩, .a] ⟨StepOK.p rfl rfl rfl (OpOK.lenP (e := 9) rfl rfl (by kernel_rfl) rfl (by rw [List.length_map])), trivial⟩ [(0, (.ref 1023 0)), (1, (.p (.sl true 1 (ws.map D.cStr)))), (7, (.ref 1007 0)), (8, (vI ((2 * j + 3 : Nat) : Int))), (61, (vB (decide (((2 * j + 3 : Nat) : Int) < ((ws.length : Nat) : Int)))))] [(1023, a'7), (2001, a'8), (1007, a'20)] (by kernel_rfl) (by kernel_rfl) ?_
  refine AWp.cond (decide (((2 * j + 3 : Nat) : Int) < ((ws.length : Nat) : Int))) rfl (fun hc9 => ?_) (fun hc9 => ?_)
  ·skip
   replace hc9 := of_decide_eq_true hc9
   refine AWp.skip ?_
   refine nextQ_normal ?_
   refine AWp.seq ?_
   refine AWp.block ?_
   have hkj : nth ws (2 * j + 3) = kwT (nth (nth (nth b.Policies i2).Steps 0).Targets j) := by rw [hws]; exact (stepW_at c b (nth (nth b.Policies i2).Steps 0) (by omega)).1
   by_cases hs10 : (nth (nth (nth b.Policies i2).Steps 0).Targets j).Kind = 0
   ·skip
    first | refine AWp.cast (show (mk [(0, (.ref 1023 0)), (1, (.p (.sl true 1 (ws.map D.cStr)))), (7, (.ref 1007 0)), (8, (vI ((2 * j + 3 : Nat) : Int))), (61, (vB (decide (((2 * j + 3 : Nat) : Int) < ((ws.length : Nat) : Int)))))] [(1023, (.box [(.p (.sl false 3 (c.Zones.map D.Zone.cells))), (.p (.sl false 6 (c.People.map D.Person.cells))), (.p (.sl false 3 (c.Calendars.map D.Calendar.cells))), (.p (.sl false 3 (c.Schedules.map D.Schedule.cells))), (.p (.sl false 2 (b.Teams.map D.Team.cells))), (.own 2001 (((b.Policies.take (i2 + 1)).map D.Policy.cells).length))])), (2001, (.hole 3 ((b.Policies.take i2).map D.Policy.cells) [(vS ((nth b.Policies i2).Name)), (.p (.sl true 0 [])), (vI ((nth b.Policies i2).Repeat))] [])), (1007, (.box [(vI ((nth (nth b.Policies i2).Steps 0).Wait)), (vB true), (.p (.sl true 0 []))]))]) = (mk [(0, (.ref 1023 0)), (1, (.p (.sl true 1 (ws.map D.cStr)))), (7, (.ref 1007 0)), (8, (vI ((2 * j + 3 : Nat) : Int))), (61, (vB true))] [(1023, (.box [(.p (.sl false 3 (c.Zones.map D.Zone.cells))), (.p (.sl false 6 (c.People.map D.Person.cells))), (.p (.sl false 3 (c.Calendars.map D.Calendar.cells))), (.p (.sl false 3 (c.Schedules.map D.Schedule.cells))), (.p (.sl false 2 (b.Teams.map D.Team.cells))), (.own 2001 (((b.Policies.take (i2 + 1)).map D.Policy.cells).length))])), (2001, (.hole 3 ((b.Policies.take i2).map D.Policy.cells) [(vS ((nth b.Policies i2).Name)), (.p (.sl true 0 [])), (vI ((nth b.Policies i2).Repeat))] [])), (1007, (.box [(vI ((nth (nth b.Policies i2).Steps 0).Wait)), (vB true), (.p (.sl true 0 []))]))]) from by rw [(decide_eq_true hc9)]) ?_ | skip
    refine AWp.s_reg hGn hGk [.a, .a, .m (some 66) ⟨[(64, (.p (.sl true 1 (ws.map D.cStr)))), (65, (vI ((2 * j + 3 : Nat) : Int)))], [], (.eptr [(pS (nth ws (2 * j + 3)))]), [], []⟩, .a, .m (some 68) ⟨[(67, (vS (nth ws (2 * j + 3))))], [], (vB false), [], []⟩, .a, .a, .a, .a, .a, .a, .a, .a, .a, .a, .a, .a, .a, .a] ⟨StepOK.p rfl rfl rfl (OpOK.indexP (e := 9) rfl (by kernel_rfl) (by kernel_rfl) rfl rfl rfl (map_nth (by omega))),
     StepOK.p rfl rfl rfl (OpOK.neqS rfl rfl rfl (decide_eq_false (fun hne => hne (by rw [hkj]; exact kw0 (by assumption))))), trivial⟩ [(0, (.ref 1023 0)), (1, (.p (.sl true 1 (ws.map D.cStr)))), (7, (.ref 1007 0)), (8, (vI ((2 * j + 3 : Nat) : Int))), (82, (vB false))] [(1023, a'7), (2001, a'8), (1007, a'20)] (by kernel_rfl) (by kernel_rfl) ?_
    refine AWp.cond_false rfl ?_
    refine AWp.skip ?_
    refine blockQ_normal ?_
    refine nextQ_normal ?_
    refine AWp.reg' hGn hGk [.a, .m (some 63) ⟨[(62, (vI ((2 * j + 3 : Nat) : Int)))], [], (vI (((2 * j + 3) + 2 : Nat) : Int)), [], []⟩, .a] ⟨StepOK.p rfl rfl rfl (OpOK.add rfl rfl rfl (by rw [IntWalk.i64_in _ ⟨by omega, by omega⟩]; omega)), trivial⟩ [(0, (.ref 1023 0)), (1, (.p (.sl true 1 (ws.map D.cStr)))), (7, (.ref 1007 0)), (8, (vI (((2 * j + 3) + 2 : Nat) : Int)))] [(1023, a'7), (2001, a'8), (1007, a'20)] (by kernel_rfl) (by kernel_rfl) ?_
    refine nextQ_normal ⟨_, ?_, (j + 1), (by rw [show 2 * j + 3 + 2 = 2 * (j + 1) + 3 from by omega]), (by omega), rfl⟩
    · omega
   ·skip
    first | refine AWp.cast (show (mk [(0, (.ref 1023 0)), (1, (.p (.sl true 1 (ws.map D.cStr)))), (7, (.ref 1007 0)), (8, (vI ((2 * j + 3 : Nat) : Int))), (61, (vB (decide (((2 * j + 3 : Nat) : Int) < ((ws.length : Nat) : Int)))))] [(1023, (.box [(.p (.sl false 3 (c.Zones.map D.Zone.cells))), (.p (.sl false 6 (c.People.map D.Person.cells))), (.p (.sl false 3 (c.Calendars.map D.Calendar.cells))), (.p (.sl false 3 (c.Schedules.map D.Schedule.cells))), (.p (.sl false 2 (b.Teams.map D.Team.cells))), (.own 2001 (((b.Policies.take (i2 + 1)).map D.Policy.cells).length))])), (2001, (.hole 3 ((b.Policies.take i2).map D.Policy.cells) [(vS ((nth b.Policies i2).Name)), (.p (.sl true 0 [])), (vI ((nth b.Policies i2).Repeat))] [])), (1007, (.box [(vI ((nth (nth b.Policies i2).Steps 0).Wait)), (vB true), (.p (.sl true 0 []))]))]) = (mk [(0, (.ref 1023 0)), (1, (.p (.sl true 1 (ws.map D.cStr)))), (7, (.ref 1007 0)), (8, (vI ((2 * j + 3 : Nat) : Int))), (61, (vB true))] [(1023, (.box [(.p (.sl false 3 (c.Zones.map D.Zone.cells))), (.p (.sl false 6 (c.People.map D.Person.cells))), (.p (.sl false 3 (c.Calendars.map D.Calendar.cells))), (.p (.sl false 3 (c.Schedules.map D.Schedule.cells))), (.p (.sl false 2 (b.Teams.map D.Team.cells))), (.own 2001 (((b.Policies.take (i2 + 1)).map D.Policy.cells).length))])), (2001, (.hole 3 ((b.Policies.take i2).map D.Policy.cells) [(vS ((nth b.Policies i2).Name)), (.p (.sl true 0 [])), (vI ((nth b.Policies i2).Repeat))] [])), (1007, (.box [(vI ((nth (nth b.Policies i2).Steps 0).Wait)), (vB true), (.p (.sl true 0 []))]))]) from by rw [(decide_eq_true hc9)]) ?_ | skip
    by_cases hs11 : (nth (nth (nth b.Policies i2).Steps 0).Targets j).Kind = 1
    ·skip
     refine AWp.s_reg hGn hGk [.a, .a, .m (some 66) ⟨[(64, (.p (.sl true 1 (ws.map D.cStr)))), (65, (vI ((2 * j + 3 : Nat) : Int)))], [], (.eptr [(pS (nth ws (2 * j + 3)))]), [], []⟩, .a, .m (some 68) ⟨[(67, (vS (nth ws (2 * j + 3))))], [], (vB true), [], []⟩, .a, .a, .a, .m (some 72) ⟨[(70, (.p (.sl true 1 (ws.map D.cStr)))), (71, (vI ((2 * j + 3 : Nat) : Int))), (69, (vB true))], [], (.eptr [(pS (nth ws (2 * j + 3)))]), [], []⟩, .a, .m (some 74) ⟨[(73, (vS (nth ws (2 * j + 3)))), (69, (vB true))], [], (vB false), [], []⟩, .a, .a, .a, .a, .a, .a, .a, .a] ⟨StepOK.p rfl rfl rfl (OpOK.indexP (e := 9) rfl (by kernel_rfl) (by kernel_rfl) rfl rfl rfl (map_nth (by omega))),
      StepOK.p rfl rfl rfl (OpOK.neqS rfl rfl rfl (decide_eq_true (by rw [hkj]; exact fun hne => absurd ((kw_p _).1 hne) (by assumption)))),
      StepOK.g rfl rfl rfl rfl rfl (by simp) (OpOK.indexP (e := 9) rfl (by kernel_rfl) (by kernel_rfl) rfl rfl rfl (map_nth (by omega))),
      StepOK.g rfl rfl rfl rfl rfl (by simp) (OpOK.neqS rfl rfl rfl (decide_eq_false (fun hne => hne (by rw [hkj]; exact kw1 (by assumption) (by assumption))))), trivial⟩ [(0, (.ref 1023 0)), (1, (.p (.sl true 1 (ws.map D.cStr)))), (7, (.ref 1007 0)), (8, (vI ((2 * j + 3 : Nat) : Int))), (82, (vB false))] [(1023, a'7), (2001, a'8), (1007, a'20)] (by kernel_rfl) (by kernel_rfl) ?_
     refine AWp.cond_false rfl ?_
     refine AWp.skip ?_
     refine blockQ_normal ?_
     refine nextQ_normal ?_
     refine AWp.reg' hGn hGk [.a, .m (some 63) ⟨[(62, (vI ((2 * j + 3 : Nat) : Int)))], [], (vI (((2 * j + 3) + 2 : Nat) : Int)), [], []⟩, .a] ⟨StepOK.p rfl rfl rfl (OpOK.add rfl rfl rfl (by rw [IntWalk.i64_in _ ⟨by omega, by omega⟩]; omega)), trivial⟩ [(0, (.ref 1023 0)), (1, (.p (.sl true 1 (ws.map D.cStr)))), (7, (.ref 1007 0)), (8, (vI (((2 * j + 3) + 2 : Nat) : Int)))] [(1023, a'7), (2001, a'8), (1007, a'20)] (by kernel_rfl) (by kernel_rfl) ?_
     refine nextQ_normal ⟨_, ?_, (j + 1), (by rw [show 2 * j + 3 + 2 = 2 * (j + 1) + 3 from by omega]), (by omega), rfl⟩
     · omega
    ·skip
     refine AWp.s_reg hGn hGk [.a, .a, .m (some 66) ⟨[(64, (.p (.sl true 1 (ws.map D.cStr)))), (65, (vI ((2 * j + 3 : Nat) : Int)))], [], (.eptr [(pS (nth ws (2 * j + 3)))]), [], []⟩, .a, .m (some 68) ⟨[(67, (vS (nth ws (2 * j + 3))))], [], (vB true), [], []⟩, .a, .a, .a, .m (some 72) ⟨[(70, (.p (.sl true 1 (ws.map D.cStr)))), (71, (vI ((2 * j + 3 : Nat) : Int))), (69, (vB true))], [], (.eptr [(pS (nth ws (2 * j + 3)))]), [], []⟩, .a, .m (some 74) ⟨[(73, (vS (nth ws (2 * j + 3)))), (69, (vB true))], [], (vB true), [], []⟩, .a, .a, .a, .a, .m (some 79) ⟨[(77, (.p (.sl true 1 (ws.map D.cStr)))), (78, (vI ((2 * j + 3 : Nat) : Int))), (76, (vB true))], [], (.eptr [(pS (nth ws (2 * j + 3)))]), [], []⟩, .a, .m (some 81) ⟨[(80, (vS (nth ws (2 * j + 3)))), (76, (vB true))], [], (vB false), [], []⟩, .a] ⟨StepOK.p rfl rfl rfl (OpOK.indexP (e := 9) rfl (by kernel_rfl) (by kernel_rfl) rfl rfl rfl (map_nth (by omega))),
      StepOK.p rfl rfl rfl (OpOK.neqS rfl rfl rfl (decide_eq_true (by rw [hkj]; exact fun hne => absurd ((kw_p _).1 hne) (by assumption)))),
      StepOK.g rfl rfl rfl rfl rfl (by simp) (OpOK.indexP (e := 9) rfl (by kernel_rfl) (by kernel_rfl) rfl rfl rfl (map_nth (by omega))),
      StepOK.g rfl rfl rfl rfl rfl (by simp) (OpOK.neqS rfl rfl rfl (decide_eq_true (by rw [hkj]; exact fun hne => absurd ((kw_s _ (by assumption)).1 hne) (by assumption)))),
      StepOK.g rfl rfl rfl rfl rfl (by simp) (OpOK.indexP (e := 9) rfl (by kernel_rfl) (by kernel_rfl) rfl rfl rfl (map_nth (by omega))),
      StepOK.g rfl rfl rfl rfl rfl (by simp) (OpOK.neqS rfl rfl rfl (decide_eq_false (fun hne => hne (by rw [hkj]; exact kw2 (by assumption) (by assumption))))), trivial⟩ [(0, (.ref 1023 0)), (1, (.p (.sl true 1 (ws.map D.cStr)))), (7, (.ref 1007 0)), (8, (vI ((2 * j + 3 : Nat) : Int))), (82, (vB false))] [(1023, a'7), (2001, a'8), (1007, a'20)] (by kernel_rfl) (by kernel_rfl) ?_
     refine AWp.cond_false rfl ?_
     refine AWp.skip ?_
     refine blockQ_normal ?_
     refine nextQ_normal ?_
     refine AWp.reg' hGn hGk [.a, .m (some 63) ⟨[(62, (vI ((2 * j + 3 : Nat) : Int)))], [], (vI (((2 * j + 3) + 2 : Nat) : Int)), [], []⟩, .a] ⟨StepOK.p rfl rfl rfl (OpOK.add rfl rfl rfl (by rw [IntWalk.i64_in _ ⟨by omega, by omega⟩]; omega)), trivial⟩ [(0, (.ref 1023 0)), (1, (.p (.sl true 1 (ws.map D.cStr)))), (7, (.ref 1007 0)), (8, (vI (((2 * j + 3) + 2 : Nat) : Int)))] [(1023, a'7), (2001, a'8), (1007, a'20)] (by kernel_rfl) (by kernel_rfl) ?_
     refine nextQ_normal ⟨_, ?_, (j + 1), (by rw [show 2 * j + 3 + 2 = 2 * (j + 1) + 3 from by omega]), (by omega), rfl⟩
     · omega
  ·skip
   replace hc9 := of_decide_eq_false hc9
   refine AWp.weaken (mk [(0, (.ref 1023 0)), (1, (.p (.sl true 1 (ws.map D.cStr)))), (7, (.ref 1007 0))] [(1023, a'7), (2001, a'8), (1007, a'20)]) (Weak.sub' hGk (by kernel_rfl)) ?_
   refine AWp.exit ?_
   refine nextQ_exit ?_
   refine nextQ_exit ?_
   refine blockQ_exit ?_
   refine nextQ_normal ?_
   refine AWp.seq ?_
   refine AWp.s_reg hGn hGk (aa 1) (Man.aa _ _) [(0, (.ref 1023 0)), (1, (.p (.sl true 1 (ws.map D.cStr)))), (7, (.ref 1007 0)), (9, (vI 3))] [(1023, a'7), (2001, a'8), (1007, a'20)] (by kernel_rfl) (by kernel_rfl) ?_
   refine AWp.block ?_
   refine AWp.weaken (mk [(0, (.ref 1023 0)), (1, (.p (.sl true 1 (ws.map D.cStr)))), (7, (.ref 1007 0)), (9, (vI 3))] [(1007, a'20), (1023, a'7), (2001, a'8)]) (Weak.sub' hGk (by kernel_rfl)) ?_
   refine AWp.weaken (mk [(0, (.ref 1023 0)), (1, (.p (.sl true 1 (ws.map D.cStr)))), (7, (.ref 1007 0)), (9, (vI 3))] [(1007, (.box [(vI ((nth (nth b.Policies i2).Steps 0).Wait)), (vB true), (.own 2003 0)])), (2003, (.arr 2 [])), (1023, a'7), (2001, a'8)]) (Weak.thawCell (j := 2) (es0 := 0) (by kernel_rfl) rfl rfl (by kernel_rfl) (by kernel_rfl) rfl) ?_
   refine AWp.loop (fun m s => ∃ j2, s = (mk [(0, (.ref 1023 0)), (1, (.p (.sl true 1 (ws.map D.cStr)))), (7, (.ref 1007 0)), (9, (vI ((2 * j2 + 3 : Nat) : Int)))] [(1007, (.box [(vI ((nth (nth b.Policies i2).Steps 0).Wait)), (vB true), (.own 2003 ((((nth (nth b.Policies i2).Steps 0).Targets.take j2).map D.Target.cells).length))])), (2003, (.arr 2 (((nth (nth b.Policies i2).Steps 0).Targets.take j2).map D.Target.cells))), (1023, (.box [(.p (.sl false 3 (c.Zones.map D.Zone.cells))), (.p (.sl false 6 (c.People.map D.Person.cells))), (.p (.sl false 3 (c.Calendars.map D.Calendar.cells))), (.p (.sl false 3 (c.Schedules.map D.Schedule.cells))), (.p (.sl false 2 (b.Teams.map D.Team.cells))), (.own 2001 (((b.Policies.take (i2 + 1)).map D.Policy.cells).length))])), (2001, (.hole 3 ((b.Policies.take i2).map D.Policy.cells) [(vS ((nth b.Policies i2).Name)), (.p (.sl true 0 [])), (vI ((nth b.Policies i2).Repeat))] []))]) ∧ (j2 ≤ (nth (nth b.Policies i2).Steps 0).Targets.length) ∧ m = ((nth (nth b.Policies i2).Steps 0).Targets.length - j2))
    ⟨_, 0, rfl, (by omega), rfl⟩ ?_
   rintro mm12 s ⟨j2, rfl, hj2, hmm12⟩
   refine AWp.seq ?_
   let a'21 : AV := (.own 2003 ((((nth (nth b.Policies i2).Steps 0).Targets.take j2).map D.Target.cells).length))
   let a'22 : AO := (.box [(vI ((nth (nth b.Policies i2).Steps 0).Wait)), (vB true), a'21])
   let a'23 : AO := (.arr 2 (((nth (nth b.Policies i2).Steps 0).Targets.take j2).map D.Target.cells))
   refine AWp.s_reg hGn hGk [.a, .a, .m (some 85) ⟨[(84, (.p (.sl true 1 (ws.map D.cStr))))], [], (vI ((ws.length : Nat) : Int)), [], []⟩, .a] ⟨StepOK.p rfl rfl rfl (OpOK.lenP (e := 9) rfl rfl (by kernel_rfl) rfl (by rw [List.length_map])), trivial⟩ [(0, (.ref 1023 0)), (1, (.p (.sl true 1 (ws.map D.cStr)))), (7, (.ref 1007 0)), (9, (vI ((2 * j2 + 3 : Nat) : Int))), (86, (vB (decide (((2 * j2 + 3 : Nat) : Int) < ((ws.length : Nat) : Int)))))] [(1007, a'22), (2003, a'23), (1023, a'7), (2001, a'8)] (by kernel_rfl) (by kernel_rfl) ?_
   refine AWp.cond (decide (((2 * j2 + 3 : Nat) : Int) < ((ws.length : Nat) : Int))) rfl (fun hc13 => ?_) (fun hc13 => ?_)
   ·skip
    replace hc13 := of_decide_eq_true hc13
    refine AWp.skip ?_
    refine nextQ_normal ?_
    refine AWp.seq ?_
    refine AWp.block ?_
    let a'24 : AO := (.box [(vI ((nth (nth (nth b.Policies i2).Steps 0).Targets j2).Kind)), (vI ((nth (nth (nth b.Policies i2).Steps 0).Targets j2).Index))])
    refine AWp.s_dreg hGn hGk (by kernel_rfl) [.a, .a, .a, .m (some 93) ⟨[(91, (.p (.sl true 1 (ws.map D.cStr)))), (92, (vI ((2 * j2 + 3 : Nat) : Int)))], [], (.eptr [(pS (nth ws (2 * j2 + 3)))]), [], []⟩, .a, .a, .a, .m (some 97) ⟨[(96, (vI ((2 * j2 + 3 : Nat) : Int)))], [], (vI (((2 * j2 + 3) + 1 : Nat) : Int)), [], []⟩, .m (some 98) ⟨[(95, (.p (.sl true 1 (ws.map D.cStr)))), (97, (vI (((2 * j2 + 3) + 1 : Nat) : Int)))], [], (.eptr [(pS (nth ws ((2 * j2 + 3) + 1)))]), [], []⟩, .a, .m (some 100) ⟨[(90, (.ref 1023 0)), (94, (vS (nth ws (2 * j2 + 3)))), (99, (vS (nth ws ((2 * j2 + 3) + 1))))], [(1023, a'7), (2001, a'8)], (.tup [(.agg [(vI ((nth (nth (nth b.Policies i2).Steps 0).Targets j2).Kind)), (vI ((nth (nth (nth b.Policies i2).Steps 0).Targets j2).Index))]), (vB true)]), [(1023, a'7), (2001, a'8)], []⟩, .a, .a, .a, .a, .a, .a] ⟨StepOK.p rfl rfl rfl (OpOK.indexP (e := 9) rfl (by kernel_rfl) (by kernel_rfl) rfl rfl rfl (map_nth (by omega))),
     StepOK.p rfl rfl rfl (OpOK.add rfl rfl rfl (by rw [IntWalk.i64_in _ ⟨by omega, by omega⟩]; omega)),
     StepOK.p rfl rfl rfl (OpOK.indexP (e := 9) rfl (by kernel_rfl) (by kernel_rfl) rfl rfl rfl (map_nth (by omega))),
     StepOK.p rfl rfl rfl (OpOK.call rfl (by kernel_rfl) rfl (rd_target0 c b h hb i2 hi2 (nth (nth (nth b.Policies i2).Steps 0).Targets j2) (nth ws (2 * j2 + 3)) (nth ws ((2 * j2 + 3) + 1)) (hsv.tgt j2 (by omega)) (by rw [hws]; exact (stepW_at c b (nth (nth b.Policies i2).Steps 0) (by omega)).1) (by rw [hws]; exact (stepW_at c b (nth (nth b.Policies i2).Steps 0) (by omega)).2)) (by kernel_rfl)), trivial⟩ [(0, (.ref 1023 0)), (1, (.p (.sl true 1 (ws.map D.cStr)))), (7, (.ref 1007 0)), (9, (vI ((2 * j2 + 3 : Nat) : Int))), (10, (.ref 1010 0)), (11, (vB true))] [(1007, a'22), (2003, a'23), (1023, a'7), (2001, a'8), (1010, a'24)] (by kernel_rfl) (by kernel_rfl) (by kernel_rfl) ?_
    refine AWp.seq ?_
    refine AWp.s_reg hGn hGk (aa 2) (Man.aa _ _) [(0, (.ref 1023 0)), (1, (.p (.sl true 1 (ws.map D.cStr)))), (7, (.ref 1007 0)), (9, (vI ((2 * j2 + 3 : Nat) : Int))), (10, (.ref 1010 0)), (104, (vB false))] [(1007, a'22), (2003, a'23), (1023, a'7), (2001, a'8), (1010, a'24)] (by kernel_rfl) (by kernel_rfl) ?_
    refine AWp.cond_false rfl ?_
    refine AWp.skip ?_
    refine nextQ_normal ?_
    let a'25 : AV := (.own 2003 ((((nth (nth b.Policies i2).Steps 0).Targets.take (j2 + 1)).map D.Target.cells).length))
    let a'26 : AO := (.arr 2 (((nth (nth b.Policies i2).Steps 0).Targets.take (j2 + 1)).map D.Target.cells))
    refine AWp.reg' hGn hGk [.a, .a, .a, .a, .m (some 109) ⟨[(106, a'21), (108, (.p (.sl true 2 [[(pI ((nth (nth (nth b.Policies i2).Steps 0).Targets j2).Kind)), (pI ((nth (nth (nth b.Policies i2).Steps 0).Targets j2).Index))]])))], [(2003, a'23)], a'25, [(2003, a'26)], []⟩, .a, .a] ⟨StepOK.p rfl rfl rfl (OpOK.appendOwn (e := 113) (bytes := 16) rfl rfl (by kernel_rfl) (by kernel_rfl) rfl (Nat.beq_refl _) rfl (take_map_snoc (f := D.Target.cells) (by omega)) rfl (by simp only [List.length_map, List.length_cons, List.length_nil, List.length_append, List.length_take, List.length_drop]; omega) (by simp only [List.length_map, List.length_cons, List.length_nil, List.length_append, List.length_take, List.length_drop]; omega)), trivial⟩ [(0, (.ref 1023 0)), (1, (.p (.sl true 1 (ws.map D.cStr)))), (7, (.ref 1007 0)), (9, (vI ((2 * j2 + 3 : Nat) : Int)))] [(1007, (.box [(vI ((nth (nth b.Policies i2).Steps 0).Wait)), (vB true), a'25])), (2003, a'26), (1023, a'7), (2001, a'8)] (by kernel_rfl) (by kernel_rfl) ?_
    refine blockQ_normal ?_
    refine nextQ_normal ?_
    refine AWp.reg' hGn hGk [.a, .m (some 88) ⟨[(87, (vI ((2 * j2 + 3 : Nat) : Int)))], [], (vI (((2 * j2 + 3) + 2 : Nat) : Int)), [], []⟩, .a] ⟨StepOK.p rfl rfl rfl (OpOK.add rfl rfl rfl (by rw [IntWalk.i64_in _ ⟨by omega, by omega⟩]; omega)), trivial⟩ [(0, (.ref 1023 0)), (1, (.p (.sl true 1 (ws.map D.cStr)))), (7, (.ref 1007 0)), (9, (vI (((2 * j2 + 3) + 2 : Nat) : Int)))] [(1007, (.box [(vI ((nth (nth b.Policies i2).Steps 0).Wait)), (vB true), a'25])), (2003, a'26), (1023, a'7), (2001, a'8)] (by kernel_rfl) (by kernel_rfl) ?_
    refine nextQ_normal ⟨_, ?_, (j2 + 1), (by rw [show 2 * j2 + 3 + 2 = 2 * (j2 + 1) + 3 from by omega]), (by omega), rfl⟩
    · omega
   ·skip
    replace hc13 := of_decide_eq_false hc13
    refine AWp.weaken (mk [(0, (.ref 1023 0)), (7, (.ref 1007 0))] [(1007, a'22), (2003, a'23), (1023, a'7), (2001, a'8)]) (Weak.sub' hGk (by kernel_rfl)) ?_
    refine AWp.exit ?_
    refine nextQ_exit ?_
    refine nextQ_exit ?_
    refine blockQ_exit ?_
    refine nextQ_normal ?_
    have e5 : (nth (nth b.Policies i2).Steps 0).Targets.take j2 = (nth (nth b.Policies i2).Steps 0).Targets := List.take_of_length_le (by omega)
    refine AWp.cast (show (mk [(0, (.ref 1023 0)), (7, (.ref 1007 0))] [(1007, (.box [(vI ((nth (nth b.Policies i2).Steps 0).Wait)), (vB true), (.own 2003 ((((nth (nth b.Policies i2).Steps 0).Targets.take j2).map D.Target.cells).length))])), (2003, (.arr 2 (((nth (nth b.Policies i2).Steps 0).Targets.take j2).map D.Target.cells))), (1023, (.box [(.p (.sl false 3 (c.Zones.map D.Zone.cells))), (.p (.sl false 6 (c.People.map D.Person.cells))), (.p (.sl false 3 (c.Calendars.map D.Calendar.cells))), (.p (.sl false 3 (c.Schedules.map D.Schedule.cells))), (.p (.sl false 2 (b.Teams.map D.Team.cells))), (.own 2001 (((b.Policies.take (i2 + 1)).map D.Policy.cells).length))])), (2001, (.hole 3 ((b.Policies.take i2).map D.Policy.cells) [(vS ((nth b.Policies i2).Name)), (.p (.sl true 0 [])), (vI ((nth b.Policies i2).Repeat))] []))]) = (mk [(0, (.ref 1023 0)), (7, (.ref 1007 0))] [(1007, (.box [(vI ((nth (nth b.Policies i2).Steps 0).Wait)), (vB ((nth (nth b.Policies i2).Steps 0).Urgent)), (.own 2003 ((((nth (nth b.Policies i2).Steps 0).Targets).map D.Target.cells).length))])), (2003, (.arr 2 (((nth (nth b.Policies i2).Steps 0).Targets).map D.Target.cells))), (1023, (.box [(.p (.sl false 3 (c.Zones.map D.Zone.cells))), (.p (.sl false 6 (c.People.map D.Person.cells))), (.p (.sl false 3 (c.Calendars.map D.Calendar.cells))), (.p (.sl false 3 (c.Schedules.map D.Schedule.cells))), (.p (.sl false 2 (b.Teams.map D.Team.cells))), (.own 2001 (((b.Policies.take (i2 + 1)).map D.Policy.cells).length))])), (2001, (.hole 3 ((b.Policies.take i2).map D.Policy.cells) [(vS ((nth b.Policies i2).Name)), (.p (.sl true 0 [])), (vI ((nth b.Policies i2).Repeat))] []))]) from (by rw [e5, ‹(nth (nth b.Policies i2).Steps 0).Urgent = _›])) ?_
    refine AWp.weaken (mk [(0, (.ref 1023 0)), (7, (.ref 1007 0))] [(2003, (.arr 2 (((nth (nth b.Policies i2).Steps 0).Targets).map D.Target.cells))), (1007, (.box [(vI ((nth (nth b.Policies i2).Steps 0).Wait)), (vB ((nth (nth b.Policies i2).Steps 0).Urgent)), (.own 2003 ((((nth (nth b.Policies i2).Steps 0).Targets).map D.Target.cells).length))])), (1023, a'7), (2001, a'8)]) (Weak.sub' hGk (by kernel_rfl)) ?_
    let a'27 : AV := (.p (.sl false 2 (((nth (nth b.Policies i2).Steps 0).Targets).map D.Target.cells)))
    let a'28 : AO := (.box [(vI ((nth (nth b.Policies i2).Steps 0).Wait)), (vB ((nth (nth b.Policies i2).Steps 0).Urgent)), a'27])
    refine AWp.weaken (mk [(0, (.ref 1023 0)), (7, (.ref 1007 0))] [(1007, a'28), (1023, a'7), (2001, a'8)]) (Weak.freeze (n := 2003) (es := 2) (rows := (((nth (nth b.Policies i2).Steps 0).Targets).map D.Target.cells)) (by rw [hGk]; decide) ⟨rfl, (.same rfl), ⟨rfl, (.same rfl), trivial⟩⟩ ⟨rfl, by decide, (.box (.cons (.same rfl) (.cons (.same rfl) (.cons .own .nil)))), ⟨rfl, by decide, (.same rfl), ⟨rfl, by decide, (.same rfl), trivial⟩⟩⟩) ?_
    refine AWp.s_dreg hGn hGk (by kernel_rfl) [.a, .a, .a, .a, .a, .a, .a, .a, .a, .a, .m (some 121) ⟨[(120, a'6)], [(2001, a'8)], (vI ((((b.Policies.take (i2 + 1)).map D.Policy.cells).length : Nat) : Int)), [], []⟩, .m (some 122) ⟨[(121, (vI ((((b.Policies.take (i2 + 1)).map D.Policy.cells).length : Nat) : Int)))], [], (vI ((i2 : Nat) : Int)), [], []⟩, .m (some 123) ⟨[(115, a'6), (122, (vI ((i2 : Nat) : Int)))], [(2001, a'8)], (.aref 2001 (((b.Policies.take (i2 + 1)).map D.Policy.cells).length) i2 0), [], []⟩, .a] ⟨StepOK.p rfl rfl rfl (OpOK.lenHole (e := 106) rfl rfl (by kernel_rfl) rfl hhl rfl),
     StepOK.p rfl rfl rfl (OpOK.sub rfl rfl rfl (by rw [IntWalk.i64_in _ ⟨by omega, by omega⟩]; omega)),
     StepOK.p rfl rfl rfl (OpOK.indexHole (e := 106) rfl (by kernel_rfl) (by kernel_rfl) rfl hhl rfl rfl (by simp only [List.length_map, List.length_take, List.length_drop, List.length_nil]; omega)), trivial⟩ [(7, (.ref 1007 0)), (12, (.aref 2001 (((b.Policies.take (i2 + 1)).map D.Policy.cells).length) i2 0))] [(1007, a'28), (1023, a'7), (2001, a'8)] (by kernel_rfl) (by kernel_rfl) (by kernel_rfl) ?_
    let a'29 : AO := (.arr 3 [[(pI ((nth (nth b.Policies i2).Steps 0).Wait)), (pB ((nth (nth b.Policies i2).Steps 0).Urgent)), (.sl false 2 (((nth (nth b.Policies i2).Steps 0).Targets).map D.Target.cells))]])
    let a'30 : AO := (.hole 3 ((b.Policies.take i2).map D.Policy.cells) [(vS ((nth b.Policies i2).Name)), (.own 2002 1), (vI ((nth b.Policies i2).Repeat))] [])
    refine AWp.s_dreg hGn hGk (by kernel_rfl) [.a, .a, .m (some 126) ⟨[(125, (.aref 2001 (((b.Policies.take (i2 + 1)).map D.Policy.cells).length) i2 0))], [(2001, a'8)], (.aref 2001 (((b.Policies.take (i2 + 1)).map D.Policy.cells).length) i2 0), [], []⟩, .m (some 127) ⟨[(126, (.aref 2001 (((b.Policies.take (i2 + 1)).map D.Policy.cells).length) i2 0))], [(2001, a'8)], (.aref 2001 (((b.Policies.take (i2 + 1)).map D.Policy.cells).length) i2 1), [], []⟩, .m (some 128) ⟨[(127, (.aref 2001 (((b.Policies.take (i2 + 1)).map D.Policy.cells).length) i2 1))], [(2001, a'8)], (.p (.sl true 0 [])), [], []⟩, .a, .a, .m (some 131) ⟨[(128, (.p (.sl true 0 []))), (130, (.p (.sl true 3 [[(pI ((nth (nth b.Policies i2).Steps 0).Wait)), (pB ((nth (nth b.Policies i2).Steps 0).Urgent)), (.sl false 2 (((nth (nth b.Policies i2).Steps 0).Targets).map D.Target.cells))]])))], [], (.own 2002 1), [(2002, a'29)], [2002]⟩, .m (some 132) ⟨[(124, (.aref 2001 (((b.Policies.take (i2 + 1)).map D.Policy.cells).length) i2 0))], [(2001, a'8)], (.aref 2001 (((b.Policies.take (i2 + 1)).map D.Policy.cells).length) i2 0), [], []⟩, .m (some 133) ⟨[(132, (.aref 2001 (((b.Policies.take (i2 + 1)).map D.Policy.cells).length) i2 0))], [(2001, a'8)], (.aref 2001 (((b.Policies.take (i2 + 1)).map D.Policy.cells).length) i2 1), [], []⟩, .m none ⟨[(133, (.aref 2001 (((b.Policies.take (i2 + 1)).map D.Policy.cells).length) i2 1)), (131, (.own 2002 1))], [(2001, a'8)], .any, [(2001, a'30)], []⟩] ⟨StepOK.p rfl rfl rfl (OpOK.nilCheckSh rfl rfl rfl hhl),
     StepOK.p rfl rfl rfl (OpOK.fieldElemSh (fo := 1) rfl rfl (by kernel_rfl) rfl rfl hhl),
     StepOK.p rfl rfl rfl (OpOK.loadHole rfl rfl (by kernel_rfl) hhl (by rw [List.length_map, List.length_take]; omega) rfl),
     StepOK.p rfl rfl rfl (OpOK.appendNew (e := 103) (bytes := 40) rfl rfl (by kernel_rfl) (by kernel_rfl) (by kernel_rfl) rfl rfl rfl rfl (.inl rfl) (by simp only [List.length_map, List.length_cons, List.length_nil]; omega) (by simp only [List.length_map, List.length_cons, List.length_nil]; omega)),
     StepOK.p rfl rfl rfl (OpOK.nilCheckSh rfl rfl rfl hhl),
     StepOK.p rfl rfl rfl (OpOK.fieldElemSh (fo := 1) rfl rfl (by kernel_rfl) rfl rfl hhl),
     StepOK.p rfl rfl rfl (OpOK.storeHole rfl rfl rfl rfl rfl hhl (by rw [List.length_map, List.length_take]; omega) (by kernel_rfl) (by kernel_rfl) rfl), trivial⟩ [] [(1023, a'7), (2001, a'30), (2002, a'29)] (by kernel_rfl) (by kernel_rfl) (by kernel_rfl) ?_
    refine AWp.s_reg hGn hGk (aa 1) (Man.aa _ _) [(4, (vI 0))] [(1023, a'7), (2001, a'30), (2002, a'29)] (by kernel_rfl) (by kernel_rfl) ?_
    refine AWp.ret ?_
    refine fin_of (.inr rfl) (v := (vI 0)) (Res.tmp rfl rfl) (h' := [(1023, (.box [(.p (.sl false 3 (c.Zones.map D.Zone.cells))), (.p (.sl false 6 (c.People.map D.Person.cells))), (.p (.sl false 3 (c.Calendars.map D.Calendar.cells))), (.p (.sl false 3 (c.Schedules.map D.Schedule.cells))), (.p (.sl false 2 (b.Teams.map D.Team.cells))), (.own 2001 (((b.Policies.take (i2 + 1)).map D.Policy.cells).length))])), (2001, (.hole 3 ((b.Policies.take i2).map D.Policy.cells) [(vS ((nth b.Policies i2).Name)), (.own 2002 1), (vI ((nth b.Policies i2).Repeat))] [])), (2002, (.arr 3 [[(pI ((nth (nth b.Policies i2).Steps 0).Wait)), (pB ((nth (nth b.Policies i2).Steps 0).Urgent)), (.sl false 2 (((nth (nth b.Policies i2).Steps 0).Targets).map D.Target.cells))]]))]) rfl rfl ?_
    exact ⟨rfl, by rw [take_one (l := (nth b.Policies i2).Steps) hk]; rfl⟩
theorem rd_stepk (c : D.Config) (b : D.Book) (h : CfgOK c) (hb : BookV b) (i2 : Nat) (hi2 : i2 < b.Policies.length) (k : Nat) (hk : k < (nth b.Policies i2).Steps.length) (ws : List ByteArray) (hws : ws = stepW c b (nth (nth b.Policies i2).Steps k)) :
    SpecIs Tryz.prog 100 [(.ref 1023 0), (.p (.sl true 1 (ws.map D.cStr)))] [(1023, (.box [(.p (.sl false 3 (c.Zones.map D.Zone.cells))), (.p (.sl false 6 (c.People.map D.Person.cells))), (.p (.sl false 3 (c.Calendars.map D.Calendar.cells))), (.p (.sl false 3 (c.Schedules.map D.Schedule.cells))), (.p (.sl false 2 (b.Teams.map D.Team.cells))), (.own 2001 (((b.Policies.take (i2 + 1)).map D.Policy.cells).length))])), (2001, (.hole 3 ((b.Policies.take i2).map D.Policy.cells) [(vS ((nth b.Policies i2).Name)), (.own 2002 ((((nth b.Policies i2).Steps.take k).map D.PolicyStep.cells).length)), (vI ((nth b.Policies i2).Repeat))] [])), (2002, (.arr 3 (((nth b.Policies i2).Steps.take k).map D.PolicyStep.cells)))] (vI 0) [(1023, (.box [(.p (.sl false 3 (c.Zones.map D.Zone.cells))), (.p (.sl false 6 (c.People.map D.Person.cells))), (.p (.sl false 3 (c.Calendars.map D.Calendar.cells))), (.p (.sl false 3 (c.Schedules.map D.Schedule.cells))), (.p (.sl false 2 (b.Teams.map D.Team.cells))), (.own 2001 (((b.Policies.take (i2 + 1)).map D.Policy.cells).length))])), (2001, (.hole 3 ((b.Policies.take i2).map D.Policy.cells) [(vS ((nth b.Policies i2).Name)), (.own 2002 ((((nth b.Policies i2).Steps.take (k + 1)).map D.PolicyStep.cells).length)), (vI ((nth b.Policies i2).Repeat))] [])), (2002, (.arr 3 (((nth b.Policies i2).Steps.take (k + 1)).map D.PolicyStep.cells)))] := by
 refine Spec.intro Tryz.func100 rfl (by kernel_rfl) ?_
 intro Γ hGn hGk
 replace hGn : Γ.n = 134 := hGn
 replace hGk : Γ.names = [1023, 2001, 2002] := hGk
 have hpl := h.plen
 have hpp := hb.plen
 have hsl2 := hb.slen i2 hi2
 have hsv := hb.step i2 hi2 k hk
 have htl2 := hsv.tlen
 have hww := hsv.wait
 have e1 : nth ws 1 = itoaB (nth (nth b.Policies i2).Steps k).Wait := by rw [hws]; rfl
 have e2 : nth ws 2 = howW (nth (nth b.Policies i2).Steps k).Urgent := by rw [hws]; rfl
 have hwl : ws.length = 3 + 2 * (nth (nth b.Policies i2).Steps k).Targets.length := by rw [hws]; exact stepW_len c b _
 have hlt : (List.map D.Policy.cells (b.Policies.take (i2 + 1))).length = i2 + 1 := by rw [List.length_map, List.length_take]; omega
 have hlt2 : (b.Policies.take (i2 + 1)).length = i2 + 1 := by rw [List.length_take]; omega
 have hhl : Nat.beq (List.map D.Policy.cells (b.Policies.take (i2 + 1))).length ((List.map D.Policy.cells (b.Policies.take i2)).length + 1 + ([] : List (List PV)).length) = true := by rw [show (List.map D.Policy.cells (b.Policies.take i2)).length + 1 + ([] : List (List PV)).length = (List.map D.Policy.cells (b.Policies.take (i2 + 1))).length from by rw [hlt, List.length_map, List.length_take, List.length_nil]; omega]; exact Nat.beq_refl _
 let a'1 : AV := (.p (.sl false 3 (c.Zones.map D.Zone.cells)))
 let a'2 : AV := (.p (.sl false 6 (c.People.map D.Person.cells)))
 let a'3 : AV := (.p (.sl false 3 (c.Calendars.map D.Calendar.cells)))
 let a'4 : AV := (.p (.sl false 3 (c.Schedules.map D.Schedule.cells)))
 let a'5 : AV := (.p (.sl false 2 (b.Teams.map D.Team.cells)))
 let a'6 : AV := (.own 2001 (((b.Policies.take (i2 + 1)).map D.Policy.cells).length))
 let a'7 : AO := (.box [a'1, a'2, a'3, a'4, a'5, a'6])
 let a'8 : AV := (.own 2002 ((((nth b.Policies i2).Steps.take k).map D.PolicyStep.cells).length))
 let a'9 : AO := (.hole 3 ((b.Policies.take i2).map D.Policy.cells) [(vS ((nth b.Policies i2).Name)), a'8, (vI ((nth b.Policies i2).Repeat))] [])
 let a'10 : AO := (.arr 3 (((nth b.Policies i2).Steps.take k).map D.PolicyStep.cells))
 refine AWp.weaken (mk [(0, (.ref 1023 0)), (1, (.p (.sl true 1 (ws.map D.cStr))))] [(1023, a'7), (2001, a'9), (2002, a'10)]) (Weak.sub' hGk (by kernel_rfl)) ?_
 refine AWp.s_reg hGn hGk (aa 1) (Man.aa _ _) [(0, (.ref 1023 0)), (1, (.p (.sl true 1 (ws.map D.cStr))))] [(1023, a'7), (2001, a'9), (2002, a'10)] (by kernel_rfl) (by kernel_rfl) ?_
 refine AWp.seq ?_
 cases hs1 : (nth (nth b.Policies i2).Steps k).Urgent
 ·skip
  refine AWp.s_reg hGn hGk (.a :: .m (some 14) ⟨[(13, (.p (.sl true 1 (ws.map D.cStr))))], [], (vI ((ws.length : Nat) : Int)), [], []⟩ :: .m (some 15) ⟨[(14, (vI ((ws.length : Nat) : Int)))], [], (vB false), [], []⟩ :: .a :: .a :: .m (some 18) ⟨[(17, (.p (.sl true 1 (ws.map D.cStr)))), (16, (vB false))], [], (vI ((ws.length : Nat) : Int)), [], []⟩ :: .m (some 19) ⟨[(18, (vI ((ws.length : Nat) : Int))), (16, (vB false))], [], (vI ((ws.length % 2 : Nat) : Int)), [], []⟩ :: .m (some 20) ⟨[(19, (vI ((ws.length % 2 : Nat) : Int))), (16, (vB false))], [], (vB false), [], []⟩ :: .a :: .a :: .a :: .a :: .a :: .a :: .a :: .m (some 28) ⟨[(27, a'6), (22, (vB false))], [(2001, a'9)], (vI ((((b.Policies.take (i2 + 1)).map D.Policy.cells).length : Nat) : Int)), [], []⟩ :: .m (some 29) ⟨[(28, (vI ((((b.Policies.take (i2 + 1)).map D.Policy.cells).length : Nat) : Int))), (22, (vB false))], [], (vB false), [], []⟩ :: .a :: .a :: .a :: .m (some 33) ⟨[(32, (.p (.sl true 1 (ws.map D.cStr)))), (31, (vB false))], [], (.eptr [(pS (nth ws 2))]), [], []⟩ :: .a :: .m (some 35) ⟨[(34, (vS (nth ws 2))), (31, (vB false))], [], (vB true), [], []⟩ :: .a :: .a :: .m (some 38) ⟨[(37, (.p (.sl true 1 (ws.map D.cStr)))), (36, (vB true))], [], (.eptr [(pS (nth ws 2))]), [], []⟩ :: .a :: .m (some 40) ⟨[(39, (vS (nth ws 2))), (36, (vB true))], [], (vB false), [], []⟩ :: .a :: .a :: []) ⟨StepOK.p rfl rfl rfl (OpOK.lenP (e := 9) rfl rfl (by kernel_rfl) rfl (by rw [List.length_map])),
   StepOK.p rfl rfl rfl (OpOK.lss rfl rfl rfl (decide_eq_false (by omega))),
   StepOK.g rfl rfl rfl rfl rfl (by simp) (OpOK.lenP (e := 9) rfl rfl (by kernel_rfl) rfl (by rw [List.length_map])),
   StepOK.g rfl rfl rfl rfl rfl (by simp) (OpOK.rem rfl rfl rfl (by omega) (Int.ofNat_tmod _ _).symm),
   StepOK.g rfl rfl rfl rfl rfl (by simp) (OpOK.eqlI rfl rfl rfl (decide_eq_false (by omega))),
   StepOK.g rfl rfl rfl rfl rfl (by simp) (OpOK.lenHole (e := 106) rfl rfl (by kernel_rfl) rfl hhl rfl),
   StepOK.g rfl rfl rfl rfl rfl (by simp) (OpOK.eqlI rfl rfl rfl (decide_eq_false (by omega))),
   StepOK.g rfl rfl rfl rfl rfl (by simp) (OpOK.indexP (e := 9) rfl (by kernel_rfl) (by kernel_rfl) rfl rfl rfl (map_nth (show 2 < List.length ws by omega))),
   StepOK.g rfl rfl rfl rfl rfl (by simp) (OpOK.neqS rfl rfl rfl (decide_eq_true (by rw [e2]; exact fun hx => absurd ((how_u _).1 hx) (by rw [‹(nth (nth b.Policies i2).Steps k).Urgent = _›]; decide)))),
   StepOK.g rfl rfl rfl rfl rfl (by simp) (OpOK.indexP (e := 9) rfl (by kernel_rfl) (by kernel_rfl) rfl rfl rfl (map_nth (show 2 < List.length ws by omega))),
   StepOK.g rfl rfl rfl rfl rfl (by simp) (OpOK.neqS rfl rfl rfl (decide_eq_false (fun hne => hne (by rw [e2, how_n]; assumption)))), trivial⟩ [(0, (.ref 1023 0)), (1, (.p (.sl true 1 (ws.map D.cStr)))), (42, (vB false))] [(1023, a'7), (2001, a'9), (2002, a'10)] (by kernel_rfl) (by kernel_rfl) ?_
  refine AWp.cond_false rfl ?_
  refine AWp.skip ?_
  refine nextQ_normal ?_
  refine AWp.s_reg hGn hGk [.a, .m (some 45) ⟨[(44, (.p (.sl true 1 (ws.map D.cStr))))], [], (.eptr [(pS (nth ws 1))]), [], []⟩, .a, .m (some 47) ⟨[(46, (vS (nth ws 1)))], [], (.tup [(vI ((nth (nth b.Policies i2).Steps k).Wait)), (vB true)]), [], []⟩, .a, .a, .a, .a, .a] ⟨StepOK.p rfl rfl rfl (OpOK.indexP (e := 9) rfl (by kernel_rfl) (by kernel_rfl) rfl rfl rfl (map_nth (show 1 < List.length ws by omega))),
   StepOK.p rfl rfl rfl (OpOK.call rfl (by kernel_rfl) rfl (pol_number (nth ws 1) (nth (nth b.Policies i2).Steps k).Wait (by rw [e1]; exact NumW.of (by omega) (by omega))) (by kernel_rfl)), trivial⟩ [(0, (.ref 1023 0)), (1, (.p (.sl true 1 (ws.map D.cStr)))), (5, (vI ((nth (nth b.Policies i2).Steps k).Wait))), (6, (vB true))] [(1023, a'7), (2001, a'9), (2002, a'10)] (by kernel_rfl) (by kernel_rfl) ?_
  refine AWp.seq ?_
  refine AWp.s_reg hGn hGk (aa 2) (Man.aa _ _) [(0, (.ref 1023 0)), (1, (.p (.sl true 1 (ws.map D.cStr)))), (5, (vI ((nth (nth b.Policies i2).Steps k).Wait))), (51, (vB false))] [(1023, a'7), (2001, a'9), (2002, a'10)] (by kernel_rfl) (by kernel_rfl) ?_
  refine AWp.cond_false rfl ?_
  refine AWp.skip ?_
  refine nextQ_normal ?_
  let a'11 : AO := (.box [(vI ((nth (nth b.Policies i2).Steps k).Wait)), (vB false), (.p (.sl true 0 []))])
  refine AWp.s_reg hGn hGk [.a, .a, .m (some 54) ⟨[(53, (.p (.sl true 1 (ws.map D.cStr))))], [], (.eptr [(pS (nth ws 2))]), [], []⟩, .a, .m (some 56) ⟨[(55, (vS (nth ws 2)))], [], (vB false), [], []⟩, .a, .a, .a] ⟨StepOK.p rfl rfl rfl (OpOK.indexP (e := 9) rfl (by kernel_rfl) (by kernel_rfl) rfl rfl rfl (map_nth (show 2 < List.length ws by omega))),
   StepOK.p rfl rfl rfl (OpOK.eqlS rfl rfl rfl (decide_eq_false (by rw [e2]; exact fun hx => absurd ((how_u _).1 hx) (by rw [‹(nth (nth b.Policies i2).Steps k).Urgent = _›]; decide)))), trivial⟩ [(0, (.ref 1023 0)), (1, (.p (.sl true 1 (ws.map D.cStr)))), (7, (.ref 1007 0))] [(1023, a'7), (2001, a'9), (2002, a'10), (1007, a'11)] (by kernel_rfl) (by kernel_rfl) ?_
  refine AWp.seq ?_
  refine AWp.s_reg hGn hGk (aa 1) (Man.aa _ _) [(0, (.ref 1023 0)), (1, (.p (.sl true 1 (ws.map D.cStr)))), (7, (.ref 1007 0)), (8, (vI 3))] [(1023, a'7), (2001, a'9), (2002, a'10), (1007, a'11)] (by kernel_rfl) (by kernel_rfl) ?_
  refine AWp.block ?_
  refine AWp.loop (fun m s => ∃ j, s = (mk [(0, (.ref 1023 0)), (1, (.p (.sl true 1 (ws.map D.cStr)))), (7, (.ref 1007 0)), (8, (vI ((2 * j + 3 : Nat) : Int)))] [(1023, (.box [(.p (.sl false 3 (c.Zones.map D.Zone.cells))), (.p (.sl false 6 (c.People.map D.Person.cells))), (.p (.sl false 3 (c.Calendars.map D.Calendar.cells))), (.p (.sl false 3 (c.Schedules.map D.Schedule.cells))), (.p (.sl false 2 (b.Teams.map D.Team.cells))), (.own 2001 (((b.Policies.take (i2 + 1)).map D.Policy.cells).length))])), (2001, (.hole 3 ((b.Policies.take i2).map D.Policy.cells) [(vS ((nth b.Policies i2).Name)), (.own 2002 ((((nth b.Policies i2).Steps.take k).map D.PolicyStep.cells).length)), (vI ((nth b.Policies i2).Repeat))] [])), (2002, (.arr 3 (((nth b.Policies i2).Steps.take k).map D.PolicyStep.cells))), (1007, (.box [(vI ((nth (nth b.Policies i2).Steps k).Wait)), (vB false), (.p (.sl true 0 []))]))]) ∧ (j ≤ (nth (nth b.Policies i2).Steps k).Targets.length) ∧ m = ((nth (nth b.Policies i2).Steps k).Targets.length - j))
   ⟨_, 0, rfl, (by omega), rfl⟩ ?_
  rintro mm2 s ⟨j, rfl, hj, hmm2⟩
  refine AWp.seq ?_
  refine AWp.s_reg hGn hGk [.a, .a, .m (some 60) ⟨[(59, (.p (.sl true 1 (ws.map D.cStr))))], [], (vI ((ws.length : Nat) : Int)), [], []⟩, .a] ⟨StepOK.p rfl rfl rfl (OpOK.lenP (e := 9) rfl rfl (by kernel_rfl) rfl (by rw [List.length_map])), trivial⟩ [(0, (.ref 1023 0)), (1, (.p (.sl true 1 (ws.map D.cStr)))), (7, (.ref 1007 0)), (8, (vI ((2 * j + 3 : Nat) : Int))), (61, (vB (decide (((2 * j + 3 : Nat) : Int) < ((ws.length : Nat) : Int)))))] [(1023, a'7), (2001, a'9), (2002, a'10), (1007, a'11)] (by kernel_rfl) (by kernel_rfl) ?_
  refine AWp.cond (decide (((2 * j + 3 : Nat) : Int) < ((ws.length : Nat) : Int))) rfl (fun hc3 => ?_) (fun hc3 => ?_)
  ·skip
   replace hc3 := of_decide_eq_true hc3
   refine AWp.skip ?_
   refine nextQ_normal ?_
   refine AWp.seq ?_
   refine AWp.block ?_
   have hkj : nth ws (2 * j + 3) = kwT (nth (nth (nth b.Policies i2).Steps k).Targets j) := by rw [hws]; exact (stepW_at c b (nth (nth b.Policies i2).Steps k) (by omega)).1
   by_cases hs4 : (nth (nth (nth b.Policies i2).Steps k).Targets j).Kind = 0
   ·skip
    first | refine AWp.cast (show (mk [(0, (.ref 1023 0)), (1, (.p (.sl true 1 (ws.map D.cStr)))), (7, (.ref 1007 0)), (8, (vI ((2 * j + 3 : Nat) : Int))), (61, (vB (decide (((2 * j + 3 : Nat) : Int) < ((ws.length : Nat) : Int)))))] [(1023, (.box [(.p (.sl false 3 (c.Zones.map D.Zone.cells))), (.p (.sl false 6 (c.People.map D.Person.cells))), (.p (.sl false 3 (c.Calendars.map D.Calendar.cells))), (.p (.sl false 3 (c.Schedules.map D.Schedule.cells))), (.p (.sl false 2 (b.Teams.map D.Team.cells))), (.own 2001 (((b.Policies.take (i2 + 1)).map D.Policy.cells).length))])), (2001, (.hole 3 ((b.Policies.take i2).map D.Policy.cells) [(vS ((nth b.Policies i2).Name)), (.own 2002 ((((nth b.Policies i2).Steps.take k).map D.PolicyStep.cells).length)), (vI ((nth b.Policies i2).Repeat))] [])), (2002, (.arr 3 (((nth b.Policies i2).Steps.take k).map D.PolicyStep.cells))), (1007, (.box [(vI ((nth (nth b.Policies i2).Steps k).Wait)), (vB false), (.p (.sl true 0 []))]))]) = (mk [(0, (.ref 1023 0)), (1, (.p (.sl true 1 (ws.map D.cStr)))), (7, (.ref 1007 0)), (8, (vI ((2 * j + 3 : Nat) : Int))), (61, (vB true))] [(1023, (.box [(.p (.sl false 3 (c.Zones.map D.Zone.cells))), (.p (.sl false 6 (c.People.map D.Person.cells))), (.p (.sl false 3 (c.Calendars.map D.Calendar.cells))), (.p (.sl false 3 (c.Schedules.map D.Schedule.cells))), (.p (.sl false 2 (b.Teams.map D.Team.cells))), (.own 2001 (((b.Policies.take (i2 + 1)).map D.Policy.cells).length))])), (2001, (.hole 3 ((b.Policies.take i2).map D.Policy.cells) [(vS ((nth b.Policies i2).Name)), (.own 2002 ((((nth b.Policies i2).Steps.take k).map D.PolicyStep.cells).length)), (vI ((nth b.Policies i2).Repeat))] [])), (2002, (.arr 3 (((nth b.Policies i2).Steps.take k).map D.PolicyStep.cells))), (1007, (.box [(vI ((nth (nth b.Policies i2).Steps k).Wait)), (vB false), (.p (.sl true 0 []))]))]) from by rw [(decide_eq_true hc3)]) ?_ | skip
    refine AWp.s_reg hGn hGk [.a, .a, .m (some 66) ⟨[(64, (.p (.sl true 1 (ws.map D.cStr)))), (65, (vI ((2 * j + 3 : Nat) : Int)))], [], (.eptr [(pS (nth ws (2 * j + 3)))]), [], []⟩, .a, .m (some 68) ⟨[(67, (vS (nth ws (2 * j + 3))))], [], (vB false), [], []⟩, .a, .a, .a, .a, .a, .a, .a, .a, .a, .a, .a, .a, .a, .a] ⟨StepOK.p rfl rfl rfl (OpOK.indexP (e := 9) rfl (by kernel_rfl) (by kernel_rfl) rfl rfl rfl (map_nth (by omega))),
     StepOK.p rfl rfl rfl (OpOK.neqS rfl rfl rfl (decide_eq_false (fun hne => hne (by rw [hkj]; exact kw0 (by assumption))))), trivial⟩ [(0, (.ref 1023 0)), (1, (.p (.sl true 1 (ws.map D.cStr)))), (7, (.ref 1007 0)), (8, (vI ((2 * j + 3 : Nat) : Int))), (82, (vB false))] [(1023, a'7), (2001, a'9), (2002, a'10), (1007, a'11)] (by kernel_rfl) (by kernel_rfl) ?_
    refine AWp.cond_false rfl ?_
    refine AWp.skip ?_
    refine blockQ_normal ?_
    refine nextQ_normal ?_
    refine AWp.reg' hGn hGk [.a, .m (some 63) ⟨[(62, (vI ((2 * j + 3 : Nat) : Int)))], [], (vI (((2 * j + 3) + 2 : Nat) : Int)), [], []⟩, .a] ⟨StepOK.p rfl rfl rfl (OpOK.add rfl rfl rfl (by rw [IntWalk.i64_in _ ⟨by omega, by omega⟩]; omega)), trivial⟩ [(0, (.ref 1023 0)), (1, (.p (.sl true 1 (ws.map D.cStr)))), (7, (.ref 1007 0)), (8, (vI (((2 * j + 3) + 2 : Nat) : Int)))] [(1023, a'7), (2001, a'9), (2002, a'10), (1007, a'11)] (by kernel_rfl) (by kernel_rfl) ?_
    refine nextQ_normal ⟨_, ?_, (j + 1), (by rw [show 2 * j + 3 + 2 = 2 * (j + 1) + 3 from by omega]), (by omega), rfl⟩
    · omega
   ·skip
    first | refine AWp.cast (show (mk [(0, (.ref 1023 0)), (1, (.p (.sl true 1 (ws.map D.cStr)))), (7, (.ref 1007 0)), (8, (vI ((2 * j + 3 : Nat) : Int))), (61, (vB (decide (((2 * j + 3 : Nat) : Int) < ((ws.length : Nat) : Int)))))] [(1023, (.box [(.p (.sl false 3 (c.Zones.map D.Zone.cells))), (.p (.sl false 6 (c.People.map D.Person.cells))), (.p (.sl false 3 (c.Calendars.map D.Calendar.cells))), (.p (.sl false 3 (c.Schedules.map D.Schedule.cells))), (.p (.sl false 2 (b.Teams.map D.Team.cells))), (.own 2001 (((b.Policies.take (i2 + 1)).map D.Policy.cells).length))])), (2001, (.hole 3 ((b.Policies.take i2).map D.Policy.cells) [(vS ((nth b.Policies i2).Name)), (.own 2002 ((((nth b.Policies i2).Steps.take k).map D.PolicyStep.cells).length)), (vI ((nth b.Policies i2).Repeat))] [])), (2002, (.arr 3 (((nth b.Policies i2).Steps.take k).map D.PolicyStep.cells))), (1007, (.box [(vI ((nth (nth b.Policies i2).Steps k).Wait)), (vB false), (.p (.sl true 0 []))]))]) = (mk [(0, (.ref 1023 0)), (1, (.p (.sl true 1 (ws.map D.cStr)))), (7, (.ref 1007 0)), (8, (vI ((2 * j + 3 : Nat) : Int))), (61, (vB true))] [(1023, (.box [(.p (.sl false 3 (c.Zones.map D.Zone.cells))), (.p (.sl false 6 (c.People.map D.Person.cells))), (.p (.sl false 3 (c.Calendars.map D.Calendar.cells))), (.p (.sl false 3 (c.Schedules.map D.Schedule.cells))), (.p (.sl false 2 (b.Teams.map D.Team.cells))), (.own 2001 (((b.Policies.take (i2 + 1)).map D.Policy.cells).length))])), (2001, (.hole 3 ((b.Policies.take i2).map D.Policy.cells) [(vS ((nth b.Policies i2).Name)), (.own 2002 ((((nth b.Policies i2).Steps.take k).map D.PolicyStep.cells).length)), (vI ((nth b.Policies i2).Repeat))] [])), (2002, (.arr 3 (((nth b.Policies i2).Steps.take k).map D.PolicyStep.cells))), (1007, (.box [(vI ((nth (nth b.Policies i2).Steps k).Wait)), (vB false), (.p (.sl true 0 []))]))]) from by rw [(decide_eq_true hc3)]) ?_ | skip
    by_cases hs5 : (nth (nth (nth b.Policies i2).Steps k).Targets j).Kind = 1
    ·skip
     refine AWp.s_reg hGn hGk [.a, .a, .m (some 66) ⟨[(64, (.p (.sl true 1 (ws.map D.cStr)))), (65, (vI ((2 * j + 3 : Nat) : Int)))], [], (.eptr [(pS (nth ws (2 * j + 3)))]), [], []⟩, .a, .m (some 68) ⟨[(67, (vS (nth ws (2 * j + 3))))], [], (vB true), [], []⟩, .a, .a, .a, .m (some 72) ⟨[(70, (.p (.sl true 1 (ws.map D.cStr)))), (71, (vI ((2 * j + 3 : Nat) : Int))), (69, (vB true))], [], (.eptr [(pS (nth ws (2 * j + 3)))]), [], []⟩, .a, .m (some 74) ⟨[(73, (vS (nth ws (2 * j + 3)))), (69, (vB true))], [], (vB false), [], []⟩, .a, .a, .a, .a, .a, .a, .a, .a] ⟨StepOK.p rfl rfl rfl (OpOK.indexP (e := 9) rfl (by kernel_rfl) (by kernel_rfl) rfl rfl rfl (map_nth (by omega))),
      StepOK.p rfl rfl rfl (OpOK.neqS rfl rfl rfl (decide_eq_true (by rw [hkj]; exact fun hne => absurd ((kw_p _).1 hne) (by assumption)))),
      StepOK.g rfl rfl rfl rfl rfl (by simp) (OpOK.indexP (e := 9) rfl (by kernel_rfl) (by kernel_rfl) rfl rfl rfl (map_nth (by omega))),
      StepOK.g rfl rfl rfl rfl rfl (by simp) (OpOK.neqS rfl rfl rfl (decide_eq_false (fun hne => hne (by rw [hkj]; exact kw1 (by assumption) (by assumption))))), trivial⟩ [(0, (.ref 1023 0)), (1, (.p (.sl true 1 (ws.map D.cStr)))), (7, (.ref 1007 0)), (8, (vI ((2 * j + 3 : Nat) : Int))), (82, (vB false))] [(1023, a'7), (2001, a'9), (2002, a'10), (1007, a'11)] (by kernel_rfl) (by kernel_rfl) ?_
     refine AWp.cond_false rfl ?_
     refine AWp.skip ?_
     refine blockQ_normal ?_
     refine nextQ_normal ?_
     refine AWp.reg' hGn hGk [.a, .m (some 63) ⟨[(62, (vI ((2 * j + 3 : Nat) : Int)))], [], (vI (((2 * j + 3) + 2 : Nat) : Int)), [], []⟩, .a] ⟨StepOK.p rfl rfl rfl (OpOK.add rfl rfl rfl (by rw [IntWalk.i64_in _ ⟨by omega, by omega⟩]; omega)), trivial⟩ [(0, (.ref 1023 0)), (1, (.p (.sl true 1 (ws.map D.cStr)))), (7, (.ref 1007 0)), (8, (vI (((2 * j + 3) + 2 : Nat) : Int)))] [(1023, a'7), (2001, a'9), (2002, a'10), (1007, a'11)] (by kernel_rfl) (by kernel_rfl) ?_
     refine nextQ_normal ⟨_, ?_, (j + 1), (by rw [show 2 * j + 3 + 2 = 2 * (j + 1) + 3 from by omega]), (by omega), rfl⟩
     · omega
    ·skip
     refine AWp.s_reg hGn hGk [.a, .a, .m (some 66) ⟨[(64, (.p (.sl true 1 (ws.map D.cStr)))), (65, (vI ((2 * j + 3 : Nat) : Int)))], [], (.eptr [(pS (nth ws (2 * j + 3)))]), [], []⟩, .a, .m (some 68) ⟨[(67, (vS (nth ws (2 * j + 3))))], [], (vB true), [], []⟩, .a, .a, .a, .m (some 72) ⟨[(70, (.p (.sl true 1 (ws.map D.cStr)))), (71, (vI ((2 * j + 3 : Nat) : Int))), (69, (vB true))], [], (.eptr [(pS (nth ws (2 * j + 3)))]), [], []⟩, .a, .m (some 74) ⟨[(73, (vS (nth ws (2 * j + 3)))), (69, (vB true))], [], (vB true), [], []⟩, .a, .a, .a, .a, .m (some 79) ⟨[(77, (.p (.sl true 1 (ws.map D.cStr)))), (78, (vI ((2 * j + 3 : Nat) : Int))), (76, (vB true))], [], (.eptr [(pS (nth ws (2 * j + 3)))]), [], []⟩, .a, .m (some 81) ⟨[(80, (vS (nth ws (2 * j + 3)))), (76, (vB true))], [], (vB false), [], []⟩, .a] ⟨StepOK.p rfl rfl rfl (OpOK.indexP (e := 9) rfl (by kernel_rfl) (by kernel_rfl) rfl rfl rfl (map_nth (by omega))),
      StepOK.p rfl rfl rfl (OpOK.neqS rfl rfl rfl (decide_eq_true (by rw [hkj]; exact fun hne => absurd ((kw_p _).1 hne) (by assumption)))),
      StepOK.g rfl rfl rfl rfl rfl (by simp) (OpOK.indexP (e := 9) rfl (by kernel_rfl) (by kernel_rfl) rfl rfl rfl (map_nth (by omega))),
      StepOK.g rfl rfl rfl rfl rfl (by simp) (OpOK.neqS rfl rfl rfl (decide_eq_true (by rw [hkj]; exact fun hne => absurd ((kw_s _ (by assumption)).1 hne) (by assumption)))),
      StepOK.g rfl rfl rfl rfl rfl (by simp) (OpOK.indexP (e := 9) rfl (by kernel_rfl) (by kernel_rfl) rfl rfl rfl (map_nth (by omega))),
      StepOK.g rfl rfl rfl rfl rfl (by simp) (OpOK.neqS rfl rfl rfl (decide_eq_false (fun hne => hne (by rw [hkj]; exact kw2 (by assumption) (by assumption))))), trivial⟩ [(0, (.ref 1023 0)), (1, (.p (.sl true 1 (ws.map D.cStr)))), (7, (.ref 1007 0)), (8, (vI ((2 * j + 3 : Nat) : Int))), (82, (vB false))] [(1023, a'7), (2001, a'9), (2002, a'10), (1007, a'11)] (by kernel_rfl) (by kernel_rfl) ?_
     refine AWp.cond_false rfl ?_
     refine AWp.skip ?_
     refine blockQ_normal ?_
     refine nextQ_normal ?_
     refine AWp.reg' hGn hGk [.a, .m (some 63) ⟨[(62, (vI ((2 * j + 3 : Nat) : Int)))], [], (vI (((2 * j + 3) + 2 : Nat) : Int)), [], []⟩, .a] ⟨StepOK.p rfl rfl rfl (OpOK.add rfl rfl rfl (by rw [IntWalk.i64_in _ ⟨by omega, by omega⟩]; omega)), trivial⟩ [(0, (.ref 1023 0)), (1, (.p (.sl true 1 (ws.map D.cStr)))), (7, (.ref 1007 0)), (8, (vI (((2 * j + 3) + 2 : Nat) : Int)))] [(1023, a'7), (2001, a'9), (2002, a'10), (1007, a'11)] (by kernel_rfl) (by kernel_rfl) ?_
     refine nextQ_normal ⟨_, ?_, (j + 1), (by rw [show 2 * j + 3 + 2 = 2 * (j + 1) + 3 from by omega]), (by omega), rfl⟩
     · omega
  ·skip
   replace hc3 := of_decide_eq_false hc3
   refine AWp.weaken (mk [(0, (.ref 1023 0)), (1, (.p (.sl true 1 (ws.map D.cStr)))), (7, (.ref 1007 0))] [(1023, a'7), (2001, a'9), (2002, a'10), (1007, a'11)]) (Weak.sub' hGk (by kernel_rfl)) ?_
   refine AWp.exit ?_
   refine nextQ_exit ?_
   refine nextQ_exit ?_
   refine blockQ_exit ?_
   refine nextQ_normal ?_
   refine AWp.seq ?_
   refine AWp.s_reg hGn hGk (aa 1) (Man.aa _ _) [(0, (.ref 1023 0)), (1, (.p (.sl true 1 (ws.map D.cStr)))), (7, (.ref 1007 0)), (9, (vI 3))] [(1023, a'7), (2001, a'9), (2002, a'10), (1007, a'11)] (by kernel_rfl) (by kernel_rfl) ?_
   refine AWp.block ?_
   refine AWp.weaken (mk [(0, (.ref 1023 0)), (1, (.p (.sl true 1 (ws.map D.cStr)))), (7, (.ref 1007 0)), (9, (vI 3))] [(1007, a'11), (1023, a'7), (2001, a'9), (2002, a'10)]) (Weak.sub' hGk (by kernel_rfl)) ?_
   refine AWp.weaken (mk [(0, (.ref 1023 0)), (1, (.p (.sl true 1 (ws.map D.cStr)))), (7, (.ref 1007 0)), (9, (vI 3))] [(1007, (.box [(vI ((nth (nth b.Policies i2).Steps k).Wait)), (vB false), (.own 2003 0)])), (2003, (.arr 2 [])), (1023, a'7), (2001, a'9), (2002, a'10)]) (Weak.thawCell (j := 2) (es0 := 0) (by kernel_rfl) rfl rfl (by kernel_rfl) (by kernel_rfl) rfl) ?_
   refine AWp.loop (fun m s => ∃ j2, s = (mk [(0, (.ref 1023 0)), (1, (.p (.sl true 1 (ws.map D.cStr)))), (7, (.ref 1007 0)), (9, (vI ((2 * j2 + 3 : Nat) : Int)))] [(1007, (.box [(vI ((nth (nth b.Policies i2).Steps k).Wait)), (vB false), (.own 2003 ((((nth (nth b.Policies i2).Steps k).Targets.take j2).map D.Target.cells).length))])), (2003, (.arr 2 (((nth (nth b.Policies i2).Steps k).Targets.take j2).map D.Target.cells))), (1023, (.box [(.p (.sl false 3 (c.Zones.map D.Zone.cells))), (.p (.sl false 6 (c.People.map D.Person.cells))), (.p (.sl false 3 (c.Calendars.map D.Calendar.cells))), (.p (.sl false 3 (c.Schedules.map D.Schedule.cells))), (.p (.sl false 2 (b.Teams.map D.Team.cells))), (.own 2001 (((b.Policies.take (i2 + 1)).map D.Policy.cells).length))])), (2001, (.hole 3 ((b.Policies.take i2).map D.Policy.cells) [(vS ((nth b.Policies i2).Name)), (.own 2002 ((((nth b.Policies i2).Steps.take k).map D.PolicyStep.cells).length)), (vI ((nth b.Policies i2).Repeat))] [])), (2002, (.arr 3 (((nth b.Policies i2).Steps.take k).map D.PolicyStep.cells)))]) ∧ (j2 ≤ (nth (nth b.Policies i2).Steps k).Targets.length) ∧ m = ((nth (nth b.Policies i2).Steps k).Targets.length - j2))
    ⟨_, 0, rfl, (by omega), rfl⟩ ?_
   rintro mm6 s ⟨j2, rfl, hj2, hmm6⟩
   refine AWp.seq ?_
   let a'12 : AV := (.own 2003 ((((nth (nth b.Policies i2).Steps k).Targets.take j2).map D.Target.cells).length))
   let a'13 : AO := (.box [(vI ((nth (nth b.Policies i2).Steps k).Wait)), (vB false), a'12])
   let a'14 : AO := (.arr 2 (((nth (nth b.Policies i2).Steps k).Targets.take j2).map D.Target.cells))
   refine AWp.s_reg hGn hGk [.a, .a, .m (some 85) ⟨[(84, (.p (.sl true 1 (ws.map D.cStr))))], [], (vI ((ws.length : Nat) : Int)), [], []⟩, .a] ⟨StepOK.p rfl rfl rfl (OpOK.lenP (e := 9) rfl rfl (by kernel_rfl) rfl (by rw [List.length_map])), trivial⟩ [(0, (.ref 1023 0)), (1, (.p (.sl true 1 (ws.map D.cStr)))), (7, (.ref 1007 0)), (9, (vI ((2 * j2 + 3 : Nat) : Int))), (86, (vB (decide (((2 * j2 + 3 : Nat) : Int) < ((ws.length : Nat) : Int)))))] [(1007, a'13), (2003, a'14), (1023, a'7), (2001, a'9), (2002, a'10)] (by kernel_rfl) (by kernel_rfl) ?_
   refine AWp.cond (decide (((2 * j2 + 3 : Nat) : Int) < ((ws.length : Nat) : Int))) rfl (fun hc7 => ?_) (fun hc7 => ?_)
   ·skip
    replace hc7 := of_decide_eq_true hc7
    refine AWp.skip ?_
    refine nextQ_normal ?_
    refine AWp.seq ?_
    refine AWp.block ?_
    let a'15 : AO := (.box [(vI ((nth (nth (nth b.Policies i2).Steps k).Targets j2).Kind)), (vI ((nth (nth (nth b.Policies i2).Steps k).Targets j2).Index))])
    refine AWp.s_dreg hGn hGk (by kernel_rfl) [.a, .a, .a, .m (some 93) ⟨[(91, (.p (.sl true 1 (ws.map D.cStr)))), (92, (vI ((2 * j2 + 3 : Nat) : Int)))], [], (.eptr [(pS (nth ws (2 * j2 + 3)))]), [], []⟩, .a, .a, .a, .m (some 97) ⟨[(96, (vI ((2 * j2 + 3 : Nat) : Int)))], [], (vI (((2 * j2 + 3) + 1 : Nat) : Int)), [], []⟩, .m (some 98) ⟨[(95, (.p (.sl true 1 (ws.map D.cStr)))), (97, (vI (((2 * j2 + 3) + 1 : Nat) : Int)))], [], (.eptr [(pS (nth ws ((2 * j2 + 3) + 1)))]), [], []⟩, .a, .m (some 100) ⟨[(90, (.ref 1023 0)), (94, (vS (nth ws (2 * j2 + 3)))), (99, (vS (nth ws ((2 * j2 + 3) + 1))))], [(1023, a'7), (2001, a'9), (2002, a'10)], (.tup [(.agg [(vI ((nth (nth (nth b.Policies i2).Steps k).Targets j2).Kind)), (vI ((nth (nth (nth b.Policies i2).Steps k).Targets j2).Index))]), (vB true)]), [(1023, a'7), (2001, a'9), (2002, a'10)], []⟩, .a, .a, .a, .a, .a, .a] ⟨StepOK.p rfl rfl rfl (OpOK.indexP (e := 9) rfl (by kernel_rfl) (by kernel_rfl) rfl rfl rfl (map_nth (by omega))),
     StepOK.p rfl rfl rfl (OpOK.add rfl rfl rfl (by rw [IntWalk.i64_in _ ⟨by omega, by omega⟩]; omega)),
     StepOK.p rfl rfl rfl (OpOK.indexP (e := 9) rfl (by kernel_rfl) (by kernel_rfl) rfl rfl rfl (map_nth (by omega))),
     StepOK.p rfl rfl rfl (OpOK.call rfl (by kernel_rfl) rfl (rd_targetk c b h hb i2 hi2 k hk (nth (nth (nth b.Policies i2).Steps k).Targets j2) (nth ws (2 * j2 + 3)) (nth ws ((2 * j2 + 3) + 1)) (hsv.tgt j2 (by omega)) (by rw [hws]; exact (stepW_at c b (nth (nth b.Policies i2).Steps k) (by omega)).1) (by rw [hws]; exact (stepW_at c b (nth (nth b.Policies i2).Steps k) (by omega)).2)) (by kernel_rfl)), trivial⟩ [(0, (.ref 1023 0)), (1, (.p (.sl true 1 (ws.map D.cStr)))), (7, (.ref 1007 0)), (9, (vI ((2 * j2 + 3 : Nat) : Int))), (10, (.ref 1010 0)), (11, (vB true))] [(1007, a'13), (2003, a'14), (1023, a'7), (2001, a'9), (2002, a'10), (1010, a'15)] (by kernel_rfl) (by kernel_rfl) (by kernel_rfl) ?_
    refine AWp.seq ?_
    refine AWp.s_reg hGn hGk (aa 2) (Man.aa _ _) [(0, (.ref 1023 0)), (1, (.p (.sl true 1 (ws.map D.cStr)))), (7, (.ref 1007 0)), (9, (vI ((2 * j2 + 3 : Nat) : Int))), (10, (.ref 1010 0)), (104, (vB false))] [(1007, a'13), (2003, a'14), (1023, a'7), (2001, a'9), (2002, a'10), (1010, a'15)] (by kernel_rfl) (by kernel_rfl) ?_
    refine AWp.cond_false rfl ?_
    refine AWp.skip ?_
    refine nextQ_normal ?_
    let a'16 : AV := (.own 2003 ((((nth (nth b.Policies i2).Steps k).Targets.take (j2 + 1)).map D.Target.cells).length))
    let a'17 : AO := (.arr 2 (((nth (nth b.Policies i2).Steps k).Targets.take (j2 + 1)).map D.Target.cells))
    refine AWp.reg' hGn hGk [.a, .a, .a, .a, .m (some 109) ⟨[(106, a'12), (108, (.p (.sl true 2 [[(pI ((nth (nth (nth b.Policies i2).Steps k).Targets j2).Kind)), (pI ((nth (nth (nth b.Policies i2).Steps k).Targets j2).Index))]])))], [(2003, a'14)], a'16, [(2003, a'17)], []⟩, .a, .a] ⟨StepOK.p rfl rfl rfl (OpOK.appendOwn (e := 113) (bytes := 16) rfl rfl (by kernel_rfl) (by kernel_rfl) rfl (Nat.beq_refl _) rfl (take_map_snoc (f := D.Target.cells) (by omega)) rfl (by simp only [List.length_map, List.length_cons, List.length_nil, List.length_append, List.length_take, List.length_drop]; omega) (by simp only [List.length_map, List.length_cons, List.length_nil, List.length_append, List.length_take, List.length_drop]; omega)), trivial⟩ [(0, (.ref 1023 0)), (1, (.p (.sl true 1 (ws.map D.cStr)))), (7, (.ref 1007 0)), (9, (vI ((2 * j2 + 3 : Nat) : Int)))] [(1007, (.box [(vI ((nth (nth b.Policies i2).Steps k).Wait)), (vB false), a'16])), (2003, a'17), (1023, a'7), (2001, a'9), (2002, a'10)] (by kernel_rfl) (by kernel_rfl) ?_
    refine blockQ_normal ?_
    refine nextQ_normal ?_
    refine AWp.reg' hGn hGk [.a, .m (some 88) ⟨[(87, (vI ((2 * j2 + 3 : Nat) : Int)))], [], (vI (((2 * j2 + 3) + 2 : Nat) : Int)), [], []⟩, .a] ⟨StepOK.p rfl rfl rfl (OpOK.add rfl rfl rfl (by rw [IntWalk.i64_in _ ⟨by omega, by omega⟩]; omega)), trivial⟩ [(0, (.ref 1023 0)), (1, (.p (.sl true 1 (ws.map D.cStr)))), (7, (.ref 1007 0)), (9, (vI (((2 * j2 + 3) + 2 : Nat) : Int)))] [(1007, (.box [(vI ((nth (nth b.Policies i2).Steps k).Wait)), (vB false), a'16])), (2003, a'17), (1023, a'7), (2001, a'9), (2002, a'10)] (by kernel_rfl) (by kernel_rfl) ?_
    refine nextQ_normal ⟨_, ?_, (j2 + 1), (by rw [show 2 * j2 + 3 + 2 = 2 * (j2 + 1) + 3 from by omega]), (by omega), rfl⟩
    · omega
   ·skip
    replace hc7 := of_decide_eq_false hc7
    refine AWp.weaken (mk [(0, (.ref 1023 0)), (7, (.ref 1007 0))] [(1007, a'13), (2003, a'14), (1023, a'7), (2001, a'9), (2002, a'10)]) (Weak.sub' hGk (by kernel_rfl)) ?_
    refine AWp.exit ?_
    refine nextQ_exit ?_
    refine nextQ_exit ?_
    refine blockQ_exit ?_
    refine nextQ_normal ?_
    have e5 : (nth (nth b.Policies i2).Steps k).Targets.take j2 = (nth (nth b.Policies i2).Steps k).Targets := List.take_of_length_le (by omega)
    refine AWp.cast (show (mk [(0, (.ref 1023 0)), (7, (.ref 1007 0))] [(1007, (.box [(vI ((nth (nth b.Policies i2).Steps k).Wait)), (vB false), (.own 2003 ((((nth (nth b.Policies i2).Steps k).Targets.take j2).map D.Target.cells).length))])), (2003, (.arr 2 (((nth (nth b.Policies i2).Steps k).Targets.take j2).map D.Target.cells))), (1023, (.box [(.p (.sl false 3 (c.Zones.map D.Zone.cells))), (.p (.sl false 6 (c.People.map D.Person.cells))), (.p (.sl false 3 (c.Calendars.map D.Calendar.cells))), (.p (.sl false 3 (c.Schedules.map D.Schedule.cells))), (.p (.sl false 2 (b.Teams.map D.Team.cells))), (.own 2001 (((b.Policies.take (i2 + 1)).map D.Policy.cells).length))])), (2001, (.hole 3 ((b.Policies.take i2).map D.Policy.cells) [(vS ((nth b.Policies i2).Name)), (.own 2002 ((((nth b.Policies i2).Steps.take k).map D.PolicyStep.cells).length)), (vI ((nth b.Policies i2).Repeat))] [])), (2002, (.arr 3 (((nth b.Policies i2).Steps.take k).map D.PolicyStep.cells)))]) = (mk [(0, (.ref 1023 0)), (7, (.ref 1007 0))] [(1007, (.box [(vI ((nth (nth b.Policies i2).Steps k).Wait)), (vB ((nth (nth b.Policies i2).Steps k).Urgent)), (.own 2003 ((((nth (nth b.Policies i2).Steps k).Targets).map D.Target.cells).length))])), (2003, (.arr 2 (((nth (nth b.Policies i2).Steps k).Targets).map D.Target.cells))), (1023, (.box [(.p (.sl false 3 (c.Zones.map D.Zone.cells))), (.p (.sl false 6 (c.People.map D.Person.cells))), (.p (.sl false 3 (c.Calendars.map D.Calendar.cells))), (.p (.sl false 3 (c.Schedules.map D.Schedule.cells))), (.p (.sl false 2 (b.Teams.map D.Team.cells))), (.own 2001 (((b.Policies.take (i2 + 1)).map D.Policy.cells).length))])), (2001, (.hole 3 ((b.Policies.take i2).map D.Policy.cells) [(vS ((nth b.Policies i2).Name)), (.own 2002 ((((nth b.Policies i2).Steps.take k).map D.PolicyStep.cells).length)), (vI ((nth b.Policies i2).Repeat))] [])), (2002, (.arr 3 (((nth b.Policies i2).Steps.take k).map D.PolicyStep.cells)))]) from (by rw [e5, ‹(nth (nth b.Policies i2).Steps k).Urgent = _›])) ?_
    refine AWp.weaken (mk [(0, (.ref 1023 0)), (7, (.ref 1007 0))] [(2003, (.arr 2 (((nth (nth b.Policies i2).Steps k).Targets).map D.Target.cells))), (1007, (.box [(vI ((nth (nth b.Policies i2).Steps k).Wait)), (vB ((nth (nth b.Policies i2).Steps k).Urgent)), (.own 2003 ((((nth (nth b.Policies i2).Steps k).Targets).map D.Target.cells).length))])), (1023, a'7), (2001, a'9), (2002, a'10)]) (Weak.sub' hGk (by kernel_rfl)) ?_
    let a'18 : AV := (.p (.sl false 2 (((nth (nth b.Policies i2).Steps k).Targets).map D.Target.cells)))
    let a'19 : AO := (.box [(vI ((nth (nth b.Policies i2).Steps k).Wait)), (vB ((nth (nth b.Policies i2).Steps k).Urgent)), a'18])
    refine AWp.weaken (mk [(0, (.ref 1023 0)), (7, (.ref 1007 0))] [(1007, a'19), (1023, a'7), (2001, a'9), (2002, a'10)]) (Weak.freeze (n := 2003) (es := 2) (rows := (((nth (nth b.Policies i2).Steps k).Targets).map D.Target.cells)) (by rw [hGk]; decide) ⟨rfl, (.same rfl), ⟨rfl, (.same rfl), trivial⟩⟩ ⟨rfl, by decide, (.box (.cons (.same rfl) (.cons (.same rfl) (.cons .own .nil)))), ⟨rfl, by decide, (.same rfl), ⟨rfl, by decide, (.same rfl), ⟨rfl, by decide, (.same rfl), trivial⟩⟩⟩⟩) ?_
    refine AWp.s_dreg hGn hGk (by kernel_rfl) [.a, .a, .a, .a, .a, .a, .a, .a, .a, .a, .m (some 121) ⟨[(120, a'6)], [(2001, a'9)], (vI ((((b.Policies.take (i2 + 1)).map D.Policy.cells).length : Nat) : Int)), [], []⟩, .m (some 122) ⟨[(121, (vI ((((b.Policies.take (i2 + 1)).map D.Policy.cells).length : Nat) : Int)))], [], (vI ((i2 : Nat) : Int)), [], []⟩, .m (some 123) ⟨[(115, a'6), (122, (vI ((i2 : Nat) : Int)))], [(2001, a'9)], (.aref 2001 (((b.Policies.take (i2 + 1)).map D.Policy.cells).length) i2 0), [], []⟩, .a] ⟨StepOK.p rfl rfl rfl (OpOK.lenHole (e := 106) rfl rfl (by kernel_rfl) rfl hhl rfl),
     StepOK.p rfl rfl rfl (OpOK.sub rfl rfl rfl (by rw [IntWalk.i64_in _ ⟨by omega, by omega⟩]; omega)),
     StepOK.p rfl rfl rfl (OpOK.indexHole (e := 106) rfl (by kernel_rfl) (by kernel_rfl) rfl hhl rfl rfl (by simp only [List.length_map, List.length_take, List.length_drop, List.length_nil]; omega)), trivial⟩ [(7, (.ref 1007 0)), (12, (.aref 2001 (((b.Policies.take (i2 + 1)).map D.Policy.cells).length) i2 0))] [(1007, a'19), (1023, a'7), (2001, a'9), (2002, a'10)] (by kernel_rfl) (by kernel_rfl) (by kernel_rfl) ?_
    let a'20 : AV := (.own 2002 ((((nth b.Policies i2).Steps.take (k + 1)).map D.PolicyStep.cells).length))
    let a'21 : AO := (.arr 3 (((nth b.Policies i2).Steps.take (k + 1)).map D.PolicyStep.cells))
    let a'22 : AO := (.hole 3 ((b.Policies.take i2).map D.Policy.cells) [(vS ((nth b.Policies i2).Name)), a'20, (vI ((nth b.Policies i2).Repeat))] [])
    refine AWp.s_dreg hGn hGk (by kernel_rfl) [.a, .a, .m (some 126) ⟨[(125, (.aref 2001 (((b.Policies.take (i2 + 1)).map D.Policy.cells).length) i2 0))], [(2001, a'9)], (.aref 2001 (((b.Policies.take (i2 + 1)).map D.Policy.cells).length) i2 0), [], []⟩, .m (some 127) ⟨[(126, (.aref 2001 (((b.Policies.take (i2 + 1)).map D.Policy.cells).length) i2 0))], [(2001, a'9)], (.aref 2001 (((b.Policies.take (i2 + 1)).map D.Policy.cells).length) i2 1), [], []⟩, .m (some 128) ⟨[(127, (.aref 2001 (((b.Policies.take (i2 + 1)).map D.Policy.cells).length) i2 1))], [(2001, a'9)], a'8, [], []⟩, .a, .a, .m (some 131) ⟨[(128, a'8), (130, (.p (.sl true 3 [[(pI ((nth (nth b.Policies i2).Steps k).Wait)), (pB ((nth (nth b.Policies i2).Steps k).Urgent)), (.sl false 2 (((nth (nth b.Policies i2).Steps k).Targets).map D.Target.cells))]])))], [(2002, a'10)], a'20, [(2002, a'21)], []⟩, .m (some 132) ⟨[(124, (.aref 2001 (((b.Policies.take (i2 + 1)).map D.Policy.cells).length) i2 0))], [(2001, a'9)], (.aref 2001 (((b.Policies.take (i2 + 1)).map D.Policy.cells).length) i2 0), [], []⟩, .m (some 133) ⟨[(132, (.aref 2001 (((b.Policies.take (i2 + 1)).map D.Policy.cells).length) i2 0))], [(2001, a'9)], (.aref 2001 (((b.Policies.take (i2 + 1)).map D.Policy.cells).length) i2 1), [], []⟩, .m none ⟨[(133, (.aref 2001 (((b.Policies.take (i2 + 1)).map D.Policy.cells).length) i2 1)), (131, a'20)], [(2001, a'9)], .any, [(2001, a'22)], []⟩] ⟨StepOK.p rfl rfl rfl (OpOK.nilCheckSh rfl rfl rfl hhl),
     StepOK.p rfl rfl rfl (OpOK.fieldElemSh (fo := 1) rfl rfl (by kernel_rfl) rfl rfl hhl),
     StepOK.p rfl rfl rfl (OpOK.loadHole rfl rfl (by kernel_rfl) hhl (by rw [List.length_map, List.length_take]; omega) rfl),
     StepOK.p rfl rfl rfl (OpOK.appendOwn (e := 103) (bytes := 40) rfl rfl (by kernel_rfl) (by kernel_rfl) rfl (Nat.beq_refl _) rfl (take_map_snoc (f := D.PolicyStep.cells) (by omega)) rfl (by simp only [List.length_map, List.length_cons, List.length_nil, List.length_append, List.length_take, List.length_drop]; omega) (by simp only [List.length_map, List.length_cons, List.length_nil, List.length_append, List.length_take, List.length_drop]; omega)),
     StepOK.p rfl rfl rfl (OpOK.nilCheckSh rfl rfl rfl hhl),
     StepOK.p rfl rfl rfl (OpOK.fieldElemSh (fo := 1) rfl rfl (by kernel_rfl) rfl rfl hhl),
     StepOK.p rfl rfl rfl (OpOK.storeHole rfl rfl rfl rfl rfl hhl (by rw [List.length_map, List.length_take]; omega) (by kernel_rfl) (by kernel_rfl) rfl), trivial⟩ [] [(1023, a'7), (2001, a'22), (2002, a'21)] (by kernel_rfl) (by kernel_rfl) (by kernel_rfl) ?_
    refine AWp.s_reg hGn hGk (aa 1) (Man.aa _ _) [(4, (vI 0))] [(1023, a'7), (2001, a'22), (2002, a'21)] (by kernel_rfl) (by kernel_rfl) ?_
    refine AWp.ret ?_
    refine fin_of (.inr rfl) (v := (vI 0)) (Res.tmp rfl rfl) (h' := [(1023, (.box [(.p (.sl false 3 (c.Zones.map D.Zone.cells))), (.p (.sl false 6 (c.People.map D.Person.cells))), (.p (.sl false 3 (c.Calendars.map D.Calendar.cells))), (.p (.sl false 3 (c.Schedules.map D.Schedule.cells))), (.p (.sl false 2 (b.Teams.map D.Team.cells))), (.own 2001 (((b.Policies.take (i2 + 1)).map D.Policy.cells).length))])), (2001, (.hole 3 ((b.Policies.take i2).map D.Policy.cells) [(vS ((nth b.Policies i2).Name)), (.own 2002 ((((nth b.Policies i2).Steps.take (k + 1)).map D.PolicyStep.cells).length)), (vI ((nth b.Policies i2).Repeat))] [])), (2002, (.arr 3 (((nth b.Policies i2).Steps.take (k + 1)).map D.PolicyStep.cells)))]) rfl rfl ?_
    exact ⟨rfl, rfl⟩
 ·skip
  refine AWp.s_reg hGn hGk (.a :: .m (some 14) ⟨[(13, (.p (.sl true 1 (ws.map D.cStr))))], [], (vI ((ws.length : Nat) : Int)), [], []⟩ :: .m (some 15) ⟨[(14, (vI ((ws.length : Nat) : Int)))], [], (vB false), [], []⟩ :: .a :: .a :: .m (some 18) ⟨[(17, (.p (.sl true 1 (ws.map D.cStr)))), (16, (vB false))], [], (vI ((ws.length : Nat) : Int)), [], []⟩ :: .m (some 19) ⟨[(18, (vI ((ws.length : Nat) : Int))), (16, (vB false))], [], (vI ((ws.length % 2 : Nat) : Int)), [], []⟩ :: .m (some 20) ⟨[(19, (vI ((ws.length % 2 : Nat) : Int))), (16, (vB false))], [], (vB false), [], []⟩ :: .a :: .a :: .a :: .a :: .a :: .a :: .a :: .m (some 28) ⟨[(27, a'6), (22, (vB false))], [(2001, a'9)], (vI ((((b.Policies.take (i2 + 1)).map D.Policy.cells).length : Nat) : Int)), [], []⟩ :: .m (some 29) ⟨[(28, (vI ((((b.Policies.take (i2 + 1)).map D.Policy.cells).length : Nat) : Int))), (22, (vB false))], [], (vB false), [], []⟩ :: .a :: .a :: .a :: .m (some 33) ⟨[(32, (.p (.sl true 1 (ws.map D.cStr)))), (31, (vB false))], [], (.eptr [(pS (nth ws 2))]), [], []⟩ :: .a :: .m (some 35) ⟨[(34, (vS (nth ws 2))), (31, (vB false))], [], (vB false), [], []⟩ :: .a :: .a :: .a :: .a :: .a :: .a :: .a :: []) ⟨StepOK.p rfl rfl rfl (OpOK.lenP (e := 9) rfl rfl (by kernel_rfl) rfl (by rw [List.length_map])),
   StepOK.p rfl rfl rfl (OpOK.lss rfl rfl rfl (decide_eq_false (by omega))),
   StepOK.g rfl rfl rfl rfl rfl (by simp) (OpOK.lenP (e := 9) rfl rfl (by kernel_rfl) rfl (by rw [List.length_map])),
   StepOK.g rfl rfl rfl rfl rfl (by simp) (OpOK.rem rfl rfl rfl (by omega) (Int.ofNat_tmod _ _).symm),
   StepOK.g rfl rfl rfl rfl rfl (by simp) (OpOK.eqlI rfl rfl rfl (decide_eq_false (by omega))),
   StepOK.g rfl rfl rfl rfl rfl (by simp) (OpOK.lenHole (e := 106) rfl rfl (by kernel_rfl) rfl hhl rfl),
   StepOK.g rfl rfl rfl rfl rfl (by simp) (OpOK.eqlI rfl rfl rfl (decide_eq_false (by omega))),
   StepOK.g rfl rfl rfl rfl rfl (by simp) (OpOK.indexP (e := 9) rfl (by kernel_rfl) (by kernel_rfl) rfl rfl rfl (map_nth (show 2 < List.length ws by omega))),
   StepOK.g rfl rfl rfl rfl rfl (by simp) (OpOK.neqS rfl rfl rfl (decide_eq_false (fun hne => hne (by rw [e2, how_u]; assumption)))), trivial⟩ [(0, (.ref 1023 0)), (1, (.p (.sl true 1 (ws.map D.cStr)))), (42, (vB false))] [(1023, a'7), (2001, a'9), (2002, a'10)] (by kernel_rfl) (by kernel_rfl) ?_
  refine AWp.cond_false rfl ?_
  refine AWp.skip ?_
  refine nextQ_normal ?_
  refine AWp.s_reg hGn hGk [.a, .m (some 45) ⟨[(44, (.p (.sl true 1 (ws.map D.cStr))))], [], (.eptr [(pS (nth ws 1))]), [], []⟩, .a, .m (some 47) ⟨[(46, (vS (nth ws 1)))], [], (.tup [(vI ((nth (nth b.Policies i2).Steps k).Wait)), (vB true)]), [], []⟩, .a, .a, .a, .a, .a] ⟨StepOK.p rfl rfl rfl (OpOK.indexP (e := 9) rfl (by kernel_rfl) (by kernel_rfl) rfl rfl rfl (map_nth (show 1 < List.length ws by omega))),
   StepOK.p rfl rfl rfl (OpOK.call rfl (by kernel_rfl) rfl (pol_number (nth ws 1) (nth (nth b.Policies i2).Steps k).Wait (by rw [e1]; exact NumW.of (by omega) (by omega))) (by kernel_rfl)), trivial⟩ [(0, (.ref 1023 0)), (1, (.p (.sl true 1 (ws.map D.cStr)))), (5, (vI ((nth (nth b.Policies i2).Steps k).Wait))), (6, (vB true))] [(1023, a'7), (2001, a'9), (2002, a'10)] (by kernel_rfl) (by kernel_rfl) ?_
  refine AWp.seq ?_
  refine AWp.s_reg hGn hGk (aa 2) (Man.aa _ _) [(0, (.ref 1023 0)), (1, (.p (.sl true 1 (ws.map D.cStr)))), (5, (vI ((nth (nth b.Policies i2).Steps k).Wait))), (51, (vB false))] [(1023, a'7), (2001, a'9), (2002, a'10)] (by kernel_rfl) (by kernel_rfl) ?_
  refine AWp.cond_false rfl ?_
  refine AWp.skip ?_
  refine nextQ_normal ?_
  let a'23 : AO := (.box [(vI ((nth (nth b.Policies i2).Steps k).Wait)), (vB true), (.p (.sl true 0 []))])
  refine AWp.s_reg hGn hGk [.a, .a, .m (some 54) ⟨[(53, (.p (.sl true 1 (ws.map D.cStr))))], [], (.eptr [(pS (nth ws 2))]), [], []⟩, .a, .m (some 56) ⟨[(55, (vS (nth ws 2)))], [], (vB true), [], []⟩, .a, .a, .a] ⟨StepOK.p rfl rfl rfl (OpOK.indexP (e := 9) rfl (by kernel_rfl) (by kernel_rfl) rfl rfl rfl (map_nth (show 2 < List.length ws by omega))),
   StepOK.p rfl rfl rfl (OpOK.eqlS rfl rfl rfl (decide_eq_true (by rw [e2, how_u]; assumption))), trivial⟩ [(0, (.ref 1023 0)), (1, (.p (.sl true 1 (ws.map D.cStr)))), (7, (.ref 1007 0))] [(1023, a'7), (2001, a'9), (2002, a'10), (1007, a'23)] (by kernel_rfl) (by kernel_rfl) ?_
  refine AWp.seq ?_
  refine AWp.s_reg hGn hGk (aa 1) (Man.aa _ _) [(0, (.ref 1023 0)), (1, (.p (.sl true 1 (ws.map D.cStr)))), (7, (.ref 1007 0)), (8, (vI 3))] [(1023, a'7), (2001, a'9), (2002, a'10), (1007, a'23)] (by kernel_rfl) (by kernel_rfl) ?_
  refine AWp.block ?_
  refine AWp.loop (fun m s => ∃ j, s = (mk [(0, (.ref 1023 0)), (1, (.p (.sl true 1 (ws.map D.cStr)))), (7, (.ref 1007 0)), (8, (vI ((2 * j + 3 : Nat) : Int)))] [(1023, (.box [(.p (.sl false 3 (c.Zones.map D.Zone.cells))), (.p (.sl false 6 (c.People.map D.Person.cells))), (.p (.sl false 3 (c.Calendars.map D.Calendar.cells))), (.p (.sl false 3 (c.Schedules.map D.Schedule.cells))), (.p (.sl false 2 (b.Teams.map D.Team.cells))), (.own 2001 (((b.Policies.take (i2 + 1)).map D.Policy.cells).length))])), (2001, (.hole 3 ((b.Policies.take i2).map D.Policy.cells) [(vS ((nth b.Policies i2).Name)), (.own 2002 ((((nth b.Policies i2).Steps.take k).map D.PolicyStep.cells).length)), (vI ((nth b.Policies i2).Repeat))] [])), (2002, (.arr 3 (((nth b.Policies i2).Steps.take k).map D.PolicyStep.cells))), (1007, (.box [(vI ((nth (nth b.Policies i2).Steps k).Wait)), (vB true), (.p (.sl true 0 []))]))]) ∧ (j ≤ (nth (nth b.Policies i2).Steps k).Targets.length) ∧ m = ((nth (nth b.Policies i2).Steps k).Targets.length - j))
   ⟨_, 0, rfl, (by omega), rfl⟩ ?_
  rintro mm8 s ⟨j, rfl, hj, hmm8⟩
  refine AWp.seq ?_
  refine AWp.s_reg hGn hGk [.a, .a, .m (some 60) ⟨[(59, (.p (.sl true 1 (ws.map D.cStr))))], [], (vI ((ws.length : Nat) : Int)), [], []⟩, .a] ⟨StepOK.p rfl rfl rfl (OpOK.lenP (e := 9) rfl rfl (by kernel_rfl) rfl (by rw [List.length_map])), trivial⟩ [(0, (.ref 1023 0)), (1, (.p (.sl true 1 (ws.map D.cStr)))), (7, (.ref 1007 0)), (8, (vI ((2 * j + 3 : Nat) : Int))), (61, (vB (decide (((2 * j + 3 : Nat) : Int) < ((ws.length : Nat) : Int)))))] [(1023, a'7), (2001, a'9), (2002, a'10), (1007, a'23)] (by kernel_rfl) (by kernel_rfl) ?_
  refine AWp.cond (decide (((2 * j + 3 : Nat) : Int) < ((ws.length : Nat) : Int))) rfl (fun hc9 => ?_) (fun hc9 => ?_)
  ·skip
   replace hc9 := of_decide_eq_true hc9
   refine AWp.skip ?_
   refine nextQ_normal ?_
   refine AWp.seq ?_
   refine AWp.block ?_
   have hkj : nth ws (2 * j + 3) = kwT (nth (nth (nth b.Policies i2).Steps k).Targets j) := by rw [hws]; exact (stepW_at c b (nth (nth b.Policies i2).Steps k) (by omega)).1
   by_cases hs10 : (nth (nth (nth b.Policies i2).Steps k).Targets j).Kind = 0
   ·skip
    first | refine AWp.cast (show (mk [(0, (.ref 1023 0)), (1, (.p (.sl true 1 (ws.map D.cStr)))), (7, (.ref 1007 0)), (8, (vI ((2 * j + 3 : Nat) : Int))), (61, (vB (decide (((2 * j + 3 : Nat) : Int) < ((ws.length : Nat) : Int)))))] [(1023, (.box [(.p (.sl false 3 (c.Zones.map D.Zone.cells))), (.p (.sl false 6 (c.People.map D.Person.cells))), (.p (.sl false 3 (c.Calendars.map D.Calendar.cells))), (.p (.sl false 3 (c.Schedules.map D.Schedule.cells))), (.p (.sl false 2 (b.Teams.map D.Team.cells))), (.own 2001 (((b.Policies.take (i2 + 1)).map D.Policy.cells).length))])), (2001, (.hole 3 ((b.Policies.take i2).map D.Policy.cells) [(vS ((nth b.Policies i2).Name)), (.own 2002 ((((nth b.Policies i2).Steps.take k).map D.PolicyStep.cells).length)), (vI ((nth b.Policies i2).Repeat))] [])), (2002, (.arr 3 (((nth b.Policies i2).Steps.take k).map D.PolicyStep.cells))), (1007, (.box [(vI ((nth (nth b.Policies i2).Steps k).Wait)), (vB true), (.p (.sl true 0 []))]))]) = (mk [(0, (.ref 1023 0)), (1, (.p (.sl true 1 (ws.map D.cStr)))), (7, (.ref 1007 0)), (8, (vI ((2 * j + 3 : Nat) : Int))), (61, (vB true))] [(1023, (.box [(.p (.sl false 3 (c.Zones.map D.Zone.cells))), (.p (.sl false 6 (c.People.map D.Person.cells))), (.p (.sl false 3 (c.Calendars.map D.Calendar.cells))), (.p (.sl false 3 (c.Schedules.map D.Schedule.cells))), (.p (.sl false 2 (b.Teams.map D.Team.cells))), (.own 2001 (((b.Policies.take (i2 + 1)).map D.Policy.cells).length))])), (2001, (.hole 3 ((b.Policies.take i2).map D.Policy.cells) [(vS ((nth b.Policies i2).Name)), (.own 2002 ((((nth b.Policies i2).Steps.take k).map D.PolicyStep.cells).length)), (vI ((nth b.Policies i2).Repeat))] [])), (2002, (.arr 3 (((nth b.Policies i2).Steps.take k).map D.PolicyStep.cells))), (1007, (.box [(vI ((nth (nth b.Policies i2).Steps k).Wait)), (vB true), (.p (.sl true 0 []))]))]) from by rw [(decide_eq_true hc9)]) ?_ | skip
    refine AWp.s_reg hGn hGk [.a, .a, .m (some 66) ⟨[(64, (.p (.sl true 1 (ws.map D.cStr)))), (65, (vI ((2 * j + 3 : Nat) : Int)))], [], (.eptr [(pS (nth ws (2 * j + 3)))]), [], []⟩, .a, .m (some 68) ⟨[(67, (vS (nth ws (2 * j + 3))))], [], (vB false), [], []⟩, .a, .a, .a, .a, .a, .a, .a, .a, .a, .a, .a, .a, .a, .a] ⟨StepOK.p rfl rfl rfl (OpOK.indexP (e := 9) rfl (by kernel_rfl) (by kernel_rfl) rfl rfl rfl (map_nth (by omega))),
     StepOK.p rfl rfl rfl (OpOK.neqS rfl rfl rfl (decide_eq_false (fun hne => hne (by rw [hkj]; exact kw0 (by assumption))))), trivial⟩ [(0, (.ref 1023 0)), (1, (.p (.sl true 1 (ws.map D.cStr)))), (7, (.ref 1007 0)), (8, (vI ((2 * j + 3 : Nat) : Int))), (82, (vB false))] [(1023, a'7), (2001, a'9), (2002, a'10), (1007, a'23)] (by kernel_rfl) (by kernel_rfl) ?_
    refine AWp.cond_false rfl ?_
    refine AWp.skip ?_
    refine blockQ_normal ?_
    refine nextQ_normal ?_
    refine AWp.reg' hGn hGk [.a, .m (some 63) ⟨[(62, (vI ((2 * j + 3 : Nat) : Int)))], [], (vI (((2 * j + 3) + 2 : Nat) : Int)), [], []⟩, .a] ⟨StepOK.p rfl rfl rfl (OpOK.add rfl rfl rfl (by rw [IntWalk.i64_in _ ⟨by omega, by omega⟩]; omega)), trivial⟩ [(0, (.ref 1023 0)), (1, (.p (.sl true 1 (ws.map D.cStr)))), (7, (.ref 1007 0)), (8, (vI (((2 * j + 3) + 2 : Nat) : Int)))] [(1023, a'7), (2001, a'9), (2002, a'10), (1007, a'23)] (by kernel_rfl) (by kernel_rfl) ?_
    refine nextQ_normal ⟨_, ?_, (j + 1), (by rw [show 2 * j + 3 + 2 = 2 * (j + 1) + 3 from by omega]), (by omega), rfl⟩
    · omega
   ·skip
    first | refine AWp.cast (show (mk [(0, (.ref 1023 0)), (1, (.p (.sl true 1 (ws.map D.cStr)))), (7, (.ref 1007 0)), (8, (vI ((2 * j + 3 : Nat) : Int))), (61, (vB (decide (((2 * j + 3 : Nat) : Int) < ((ws.length : Nat) : Int)))))] [(1023, (.box [(.p (.sl false 3 (c.Zones.map D.Zone.cells))), (.p (.sl false 6 (c.People.map D.Person.cells))), (.p (.sl false 3 (c.Calendars.map D.Calendar.cells))), (.p (.sl false 3 (c.Schedules.map D.Schedule.cells))), (.p (.sl false 2 (b.Teams.map D.Team.cells))), (.own 2001 (((b.Policies.take (i2 + 1)).map D.Policy.cells).length))])), (2001, (.hole 3 ((b.Policies.take i2).map D.Policy.cells) [(vS ((nth b.Policies i2).Name)), (.own 2002 ((((nth b.Policies i2).Steps.take k).map D.PolicyStep.cells).length)), (vI ((nth b.Policies i2).Repeat))] [])), (2002, (.arr 3 (((nth b.Policies i2).Steps.take k).map D.PolicyStep.cells))), (1007, (.box [(vI ((nth (nth b.Policies i2).Steps k).Wait)), (vB true), (.p (.sl true 0 []))]))]) = (mk [(0, (.ref 1023 0)), (1, (.p (.sl true 1 (ws.map D.cStr)))), (7, (.ref 1007 0)), (8, (vI ((2 * j + 3 : Nat) : Int))), (61, (vB true))] [(1023, (.box [(.p (.sl false 3 (c.Zones.map D.Zone.cells))), (.p (.sl false 6 (c.People.map D.Person.cells))), (.p (.sl false 3 (c.Calendars.map D.Calendar.cells))), (.p (.sl false 3 (c.Schedules.map D.Schedule.cells))), (.p (.sl false 2 (b.Teams.map D.Team.cells))), (.own 2001 (((b.Policies.take (i2 + 1)).map D.Policy.cells).length))])), (2001, (.hole 3 ((b.Policies.take i2).map D.Policy.cells) [(vS ((nth b.Policies i2).Name)), (.own 2002 ((((nth b.Policies i2).Steps.take k).map D.PolicyStep.cells).length)), (vI ((nth b.Policies i2).Repeat))] [])), (2002, (.arr 3 (((nth b.Policies i2).Steps.take k).map D.PolicyStep.cells))), (1007, (.box [(vI ((nth (nth b.Policies i2).Steps k).Wait)), (vB true), (.p (.sl true 0 []))]))]) from by rw [(decide_eq_true hc9)]) ?_ | skip
    by_cases hs11 : (nth (nth (nth b.Policies i2).Steps k).Targets j).Kind = 1
    ·skip
     refine AWp.s_reg hGn hGk [.a, .a, .m (some 66) ⟨[(64, (.p (.sl true 1 (ws.map D.cStr)))), (65, (vI ((2 * j + 3 : Nat) : Int)))], [], (.eptr [(pS (nth ws (2 * j + 3)))]), [], []⟩, .a, .m (some 68) ⟨[(67, (vS (nth ws (2 * j + 3))))], [], (vB true), [], []⟩, .a, .a, .a, .m (some 72) ⟨[(70, (.p (.sl true 1 (ws.map D.cStr)))), (71, (vI ((2 * j + 3 : Nat) : Int))), (69, (vB true))], [], (.eptr [(pS (nth ws (2 * j + 3)))]), [], []⟩, .a, .m (some 74) ⟨[(73, (vS (nth ws (2 * j + 3)))), (69, (vB true))], [], (vB false), [], []⟩, .a, .a, .a, .a, .a, .a, .a, .a] ⟨StepOK.p rfl rfl rfl (OpOK.indexP (e := 9) rfl (by kernel_rfl) (by kernel_rfl) rfl rfl rfl (map_nth (by omega))),
      StepOK.p rfl rfl rfl (OpOK.neqS rfl rfl rfl (decide_eq_true (by rw [hkj]; exact fun hne => absurd ((kw_p _).1 hne) (by assumption)))),
      StepOK.g rfl rfl rfl rfl rfl (by simp) (OpOK.indexP (e := 9) rfl (by kernel_rfl) (by kernel_rfl) rfl rfl rfl (map_nth (by omega))),
      StepOK.g rfl rfl rfl rfl rfl (by simp) (OpOK.neqS rfl rfl rfl (decide_eq_false (fun hne => hne (by rw [hkj]; exact kw1 (by assumption) (by assumption))))), trivial⟩ [(0, (.ref 1023 0)), (1, (.p (.sl true 1 (ws.map D.cStr)))), (7, (.ref 1007 0)), (8, (vI ((2 * j + 3 : Nat) : Int))), (82, (vB false))] [(1023, a'7), (2001, a'9), (2002, a'10), (1007, a'23)] (by kernel_rfl) (by kernel_rfl) ?_
     refine AWp.cond_false rfl ?_
     refine AWp.skip ?_
     refine blockQ_normal ?_
     refine nextQ_normal ?_
     refine AWp.reg' hGn hGk [.a, .m (some 63) ⟨[(62, (vI ((2 * j + 3 : Nat) : Int)))], [], (vI (((2 * j + 3) + 2 : Nat) : Int)), [], []⟩, .a] ⟨StepOK.p rfl rfl rfl (OpOK.add rfl rfl rfl (by rw [IntWalk.i64_in _ ⟨by omega, by omega⟩]; omega)), trivial⟩ [(0, (.ref 1023 0)), (1, (.p (.sl true 1 (ws.map D.cStr)))), (7, (.ref 1007 0)), (8, (vI (((2 * j + 3) + 2 : Nat) : Int)))] [(1023, a'7), (2001, a'9), (2002, a'10), (1007, a'23)] (by kernel_rfl) (by kernel_rfl) ?_
     refine nextQ_normal ⟨_, ?_, (j + 1), (by rw [show 2 * j + 3 + 2 = 2 * (j + 1) + 3 from by omega]), (by omega), rfl⟩
     · omega
    ·skip
     refine AWp.s_reg hGn hGk [.a, .a, .m (some 66) ⟨[(64, (.p (.sl true 1 (ws.map D.cStr)))), (65, (vI ((2 * j + 3 : Nat) : Int)))], [], (.eptr [(pS (nth ws (2 * j + 3)))]), [], []⟩, .a, .m (some 68) ⟨[(67, (vS (nth ws (2 * j + 3))))], [], (vB true), [], []⟩, .a, .a, .a, .m (some 72) ⟨[(70, (.p (.sl true 1 (ws.map D.cStr)))), (71, (vI ((2 * j + 3 : Nat) : Int))), (69, (vB true))], [], (.eptr [(pS (nth ws (2 * j + 3)))]), [], []⟩, .a, .m (some 74) ⟨[(73, (vS (nth ws (2 * j + 3)))), (69, (vB true))], [], (vB true), [], []⟩, .a, .a, .a, .a, .m (some 79) ⟨[(77, (.p (.sl true 1 (ws.map D.cStr)))), (78, (vI ((2 * j + 3 : Nat) : Int))), (76, (vB true))], [], (.eptr [(pS (nth ws (2 * j + 3)))]), [], []⟩, .a, .m (some 81) ⟨[(80, (vS (nth ws (2 * j + 3)))), (76, (vB true))], [], (vB false), [], []⟩, .a] ⟨StepOK.p rfl rfl rfl (OpOK.indexP (e := 9) rfl (by kernel_rfl) (by kernel_rfl) rfl rfl rfl (map_nth (by omega))),
      StepOK.p rfl rfl rfl (OpOK.neqS rfl rfl rfl (decide_eq_true (by rw [hkj]; exact fun hne => absurd ((kw_p _).1 hne) (by assumption)))),
      StepOK.g rfl rfl rfl rfl rfl (by simp) (OpOK.indexP (e := 9) rfl (by kernel_rfl) (by kernel_rfl) rfl rfl rfl (map_nth (by omega))),
      StepOK.g rfl rfl rfl rfl rfl (by simp) (OpOK.neqS rfl rfl rfl (decide_eq_true (by rw [hkj]; exact fun hne => absurd ((kw_s _ (by assumption)).1 hne) (by assumption)))),
      StepOK.g rfl rfl rfl rfl rfl (by simp) (OpOK.indexP (e := 9) rfl (by kernel_rfl) (by kernel_rfl) rfl rfl rfl (map_nth (by omega))),
      StepOK.g rfl rfl rfl rfl rfl (by simp) (OpOK.neqS rfl rfl rfl (decide_eq_false (fun hne => hne (by rw [hkj]; exact kw2 (by assumption) (by assumption))))), trivial⟩ [(0, (.ref 1023 0)), (1, (.p (.sl true 1 (ws.map D.cStr)))), (7, (.ref 1007 0)), (8, (vI ((2 * j + 3 : Nat) : Int))), (82, (vB false))] [(1023, a'7), (2001, a'9), (2002, a'10), (1007, a'23)] (by kernel_rfl) (by kernel_rfl) ?_
     refine AWp.cond_false rfl ?_
     refine AWp.skip ?_
     refine blockQ_normal ?_
     refine nextQ_normal ?_
     refine AWp.reg' hGn hGk [.a, .m (some 63) ⟨[(62, (vI ((2 * j + 3 : Nat) : Int)))], [], (vI (((2 * j + 3) + 2 : Nat) : Int)), [], []⟩, .a] ⟨StepOK.p rfl rfl rfl (OpOK.add rfl rfl rfl (by rw [IntWalk.i64_in _ ⟨by omega, by omega⟩]; omega)), trivial⟩ [(0, (.ref 1023 0)), (1, (.p (.sl true 1 (ws.map D.cStr)))), (7, (.ref 1007 0)), (8, (vI (((2 * j + 3) + 2 : Nat) : Int)))] [(1023, a'7), (2001, a'9), (2002, a'10), (1007, a'23)] (by kernel_rfl) (by kernel_rfl) ?_
     refine nextQ_normal ⟨_, ?_, (j + 1), (by rw [show 2 * j + 3 + 2 = 2 * (j + 1) + 3 from by omega]), (by omega), rfl⟩
     · omega
  ·skip
   replace hc9 := of_decide_eq_false hc9
   refine AWp.weaken (mk [(0, (.ref 1023 0)), (1, (.p (.sl true 1 (ws.map D.cStr)))), (7, (.ref 1007 0))] [(1023, a'7), (2001, a'9), (2002, a'10), (1007, a'23)]) (Weak.sub' hGk (by kernel_rfl)) ?_
   refine AWp.exit ?_
   refine nextQ_exit ?_
   refine nextQ_exit ?_
   refine blockQ_exit ?_
   refine nextQ_normal ?_
   refine AWp.seq ?_
   refine AWp.s_reg hGn hGk (aa 1) (Man.aa _ _) [(0, (.ref 1023 0)), (1, (.p (.sl true 1 (ws.map D.cStr)))), (7, (.ref 1007 0)), (9, (vI 3))] [(1023, a'7), (2001, a'9), (2002, a'10), (1007, a'23)] (by kernel_rfl) (by kernel_rfl) ?_
   refine AWp.block ?_
   refine AWp.weaken (mk [(0, (.ref 1023 0)), (1, (.p (.sl true 1 (ws.map D.cStr)))), (7, (.ref 1007 0)), (9, (vI 3))] [(1007, a'23), (1023, a'7), (2001, a'9), (2002, a'10)]) (Weak.sub' hGk (by kernel_rfl)) ?_
   refine AWp.weaken (mk [(0, (.ref 1023 0)), (1, (.p (.sl true 1 (ws.map D.cStr)))), (7, (.ref 1007 0)), (9, (vI 3))] [(1007, (.box [(vI ((nth (nth b.Policies i2).Steps k).Wait)), (vB true), (.own 2003 0)])), (2003, (.arr 2 [])), (1023, a'7), (2001, a'9), (2002, a'10)]) (Weak.thawCell (j := 2) (es0 := 0) (by kernel_rfl) rfl rfl (by kernel_rfl) (by kernel_rfl) rfl) ?_
   refine AWp.loop (fun m s => ∃ j2, s = (mk [(0, (.ref 1023 0)), (1, (.p (.sl true 1 (ws.map D.cStr)))), (7, (.ref 1007 0)), (9, (vI ((2 * j2 + 3 : Nat) : Int)))] [(1007, (.box [(vI ((nth (nth b.Policies i2).Steps k).Wait)), (vB true), (.own 2003 ((((nth (nth b.Policies i2).Steps k).Targets.take j2).map D.Target.cells).length))])), (2003, (.arr 2 (((nth (nth b.Policies i2).Steps k).Targets.take j2).map D.Target.cells))), (1023, (.box [(.p (.sl false 3 (c.Zones.map D.Zone.cells))), (.p (.sl false 6 (c.People.map D.Person.cells))), (.p (.sl false 3 (c.Calendars.map D.Calendar.cells))), (.p (.sl false 3 (c.Schedules.map D.Schedule.cells))), (.p (.sl false 2 (b.Teams.map D.Team.cells))), (.own 2001 (((b.Policies.take (i2 + 1)).map D.Policy.cells).length))])), (2001, (.hole 3 ((b.Policies.take i2).map D.Policy.cells) [(vS ((nth b.Policies i2).Name)), (.own 2002 ((((nth b.Policies i2).Steps.take k).map D.PolicyStep.cells).length)), (vI ((nth b.Policies i2).Repeat))] [])), (2002, (.arr 3 (((nth b.Policies i2).Steps.take k).map D.PolicyStep.cells)))]) ∧ (j2 ≤ (nth (nth b.Policies i2).Steps k).Targets.length) ∧ m = ((nth (nth b.Policies i2).Steps k).Targets.length - j2))
    ⟨_, 0, rfl, (by omega), rfl⟩ ?_
   rintro mm12 s ⟨j2, rfl, hj2, hmm12⟩
   refine AWp.seq ?_
   let a'24 : AV := (.own 2003 ((((nth (nth b.Policies i2).Steps k).Targets.take j2).map D.Target.cells).length))
   let a'25 : AO := (.box [(vI ((nth (nth b.Policies i2).Steps k).Wait)), (vB true), a'24])
   let a'26 : AO := (.arr 2 (((nth (nth b.Policies i2).Steps k).Targets.take j2).map D.Target.cells))
   refine AWp.s_reg hGn hGk [.a, .a, .m (some 85) ⟨[(84, (.p (.sl true 1 (ws.map D.cStr))))], [], (vI ((ws.length : Nat) : Int)), [], []⟩, .a] ⟨StepOK.p rfl rfl rfl (OpOK.lenP (e := 9) rfl rfl (by kernel_rfl) rfl (by rw [List.length_map])), trivial⟩ [(0, (.ref 1023 0)), (1, (.p (.sl true 1 (ws.map D.cStr)))), (7, (.ref 1007 0)), (9, (vI ((2 * j2 + 3 : Nat) : Int))), (86, (vB (decide (((2 * j2 + 3 : Nat) : Int) < ((ws.length : Nat) : Int)))))] [(1007, a'25), (2003, a'26), (1023, a'7), (2001, a'9), (2002, a'10)] (by kernel_rfl) (by kernel_rfl) ?_
   refine AWp.cond (decide (((2 * j2 + 3 : Nat) : Int) < ((ws.length : Nat) : Int))) rfl (fun hc13 => ?_) (fun hc13 => ?_)
   ·skip
    replace hc13 := of_decide_eq_true hc13
    refine AWp.skip ?_
    refine nextQ_normal ?_
    refine AWp.seq ?_
    refine AWp.block ?_
    let a'27 : AO := (.box [(vI ((nth (nth (nth b.Policies i2).Steps k).Targets j2).Kind)), (vI ((nth (nth (nth b.Policies i2).Steps k).Targets j2).Index))])
    refine AWp.s_dreg hGn hGk (by kernel_rfl) [.a, .a, .a, .m (some 93) ⟨[(91, (.p (.sl true 1 (ws.map D.cStr)))), (92, (vI ((2 * j2 + 3 : Nat) : Int)))], [], (.eptr [(pS (nth ws (2 * j2 + 3)))]), [], []⟩, .a, .a, .a, .m (some 97) ⟨[(96, (vI ((2 * j2 + 3 : Nat) : Int)))], [], (vI (((2 * j2 + 3) + 1 : Nat) : Int)), [], []⟩, .m (some 98) ⟨[(95, (.p (.sl true 1 (ws.map D.cStr)))), (97, (vI (((2 * j2 + 3) + 1 : Nat) : Int)))], [], (.eptr [(pS (nth ws ((2 * j2 + 3) + 1)))]), [], []⟩, .a, .m (some 100) ⟨[(90, (.ref 1023 0)), (94, (vS (nth ws (2 * j2 + 3)))), (99, (vS (nth ws ((2 * j2 + 3) + 1))))], [(1023, a'7), (2001, a'9), (2002, a'10)], (.tup [(.agg [(vI ((nth (nth (nth b.Policies i2).Steps k).Targets j2).Kind)), (vI ((nth (nth (nth b.Policies i2).Steps k).Targets j2).Index))]), (vB true)]), [(1023, a'7), (2001, a'9), (2002, a'10)], []⟩, .a, .a, .a, .a, .a, .a] ⟨StepOK.p rfl rfl rfl (OpOK.indexP (e := 9) rfl (by kernel_rfl) (by kernel_rfl) rfl rfl rfl (map_nth (by omega))),
     StepOK.p rfl rfl rfl (OpOK.add rfl rfl rfl (by rw [IntWalk.i64_in _ ⟨by omega, by omega⟩]; omega)),
     StepOK.p rfl rfl rfl (OpOK.indexP (e := 9) rfl (by kernel_rfl) (by kernel_rfl) rfl rfl rfl (map_nth (by omega))),
     StepOK.p rfl rfl rfl (OpOK.call rfl (by kernel_rfl) rfl (rd_targetk c b h hb i2 hi2 k hk (nth (nth (nth b.Policies i2).Steps k).Targets j2) (nth ws (2 * j2 + 3)) (nth ws ((2 * j2 + 3) + 1)) (hsv.tgt j2 (by omega)) (by rw [hws]; exact (stepW_at c b (nth (nth b.Policies i2).Steps k) (by omega)).1) (by rw [hws]; exact (stepW_at c b (nth (nth b.Policies i2).Steps k) (by omega)).2)) (by kernel_rfl)), trivial⟩ [(0, (.ref 1023 0)), (1, (.p (.sl true 1 (ws.map D.cStr)))), (7, (.ref 1007 0)), (9, (vI ((2 * j2 + 3 : Nat) : Int))), (10, (.ref 1010 0)), (11, (vB true))] [(1007, a'25), (2003, a'26), (1023, a'7), (2001, a'9), (2002, a'10), (1010, a'27)] (by kernel_rfl) (by kernel_rfl) (by kernel_rfl) ?_
    refine AWp.seq ?_
    refine AWp.s_reg hGn hGk (aa 2) (Man.aa _ _) [(0, (.ref 1023 0)), (1, (.p (.sl true 1 (ws.map D.cStr)))), (7, (.ref 1007 0)), (9, (vI ((2 * j2 + 3 : Nat) : Int))), (10, (.ref 1010 0)), (104, (vB false))] [(1007, a'25), (2003, a'26), (1023, a'7), (2001, a'9), (2002, a'10), (1010, a'27)] (by kernel_rfl) (by kernel_rfl) ?_
    refine AWp.cond_false rfl ?_
    refine AWp.skip ?_
    refine nextQ_normal ?_
    let a'28 : AV := (.own 2003 ((((nth (nth b.Policies i2).Steps k).Targets.take (j2 + 1)).map D.Target.cells).length))
    let a'29 : AO := (.arr 2 (((nth (nth b.Policies i2).Steps k).Targets.take (j2 + 1)).map D.Target.cells))
    refine AWp.reg' hGn hGk [.a, .a, .a, .a, .m (some 109) ⟨[(106, a'24), (108, (.p (.sl true 2 [[(pI ((nth (nth (nth b.Policies i2).Steps k).Targets j2).Kind)), (pI ((nth (nth (nth b.Policies i2).Steps k).Targets j2).Index))]])))], [(2003, a'26)], a'28, [(2003, a'29)], []⟩, .a, .a] ⟨StepOK.p rfl rfl rfl (OpOK.appendOwn (e := 113) (bytes := 16) rfl rfl (by kernel_rfl) (by kernel_rfl) rfl (Nat.beq_refl _) rfl (take_map_snoc (f := D.Target.cells) (by omega)) rfl (by simp only [List.length_map, List.length_cons, List.length_nil, List.length_append, List.length_take, List.length_drop]; omega) (by simp only [List.length_map, List.length_cons, List.length_nil, List.length_append, List.length_take, List.length_drop]; omega)), trivial⟩ [(0, (.ref 1023 0)), (1, (.p (.sl true 1 (ws.map D.cStr)))), (7, (.ref 1007 0)), (9, (vI ((2 * j2 + 3 : Nat) : Int)))] [(1007, (.box [(vI ((nth (nth b.Policies i2).Steps k).Wait)), (vB true), a'28])), (2003, a'29), (1023, a'7), (2001, a'9), (2002, a'10)] (by kernel_rfl) (by kernel_rfl) ?_
    refine blockQ_normal ?_
    refine nextQ_normal ?_
    refine AWp.reg' hGn hGk [.a, .m (some 88) ⟨[(87, (vI ((2 * j2 + 3 : Nat) : Int)))], [], (vI (((2 * j2 + 3) + 2 : Nat) : Int)), [], []⟩, .a] ⟨StepOK.p rfl rfl rfl (OpOK.add rfl rfl rfl (by rw [IntWalk.i64_in _ ⟨by omega, by omega⟩]; omega)), trivial⟩ [(0, (.ref 1023 0)), (1, (.p (.sl true 1 (ws.map D.cStr)))), (7, (.ref 1007 0)), (9, (vI (((2 * j2 + 3) + 2 : Nat) : Int)))] [(1007, (.box [(vI ((nth (nth b.Policies i2).Steps k).Wait)), (vB true), a'28])), (2003, a'29), (1023, a'7), (2001, a'9), (2002, a'10)] (by kernel_rfl) (by kernel_rfl) ?_
    refine nextQ_normal ⟨_, ?_, (j2 + 1), (by rw [show 2 * j2 + 3 + 2 = 2 * (j2 + 1) + 3 from by omega]), (by omega), rfl⟩
    · omega
   ·skip
    replace hc13 := of_decide_eq_false hc13
    refine AWp.weaken (mk [(0, (.ref 1023 0)), (7, (.ref 1007 0))] [(1007, a'25), (2003, a'26), (1023, a'7), (2001, a'9), (2002, a'10)]) (Weak.sub' hGk (by kernel_rfl)) ?_
    refine AWp.exit ?_
    refine nextQ_exit ?_
    refine nextQ_exit ?_
    refine blockQ_exit ?_
    refine nextQ_normal ?_
    have e5 : (nth (nth b.Policies i2).Steps k).Targets.take j2 = (nth (nth b.Policies i2).Steps k).Targets := List.take_of_length_le (by omega)
    refine AWp.cast (show (mk [(0, (.ref 1023 0)), (7, (.ref 1007 0))] [(1007, (.box [(vI ((nth (nth b.Policies i2).Steps k).Wait)), (vB true), (.own 2003 ((((nth (nth b.Policies i2).Steps k).Targets.take j2).map D.Target.cells).length))])), (2003, (.arr 2 (((nth (nth b.Policies i2).Steps k).Targets.take j2).map D.Target.cells))), (1023, (.box [(.p (.sl false 3 (c.Zones.map D.Zone.cells))), (.p (.sl false 6 (c.People.map D.Person.cells))), (.p (.sl false 3 (c.Calendars.map D.Calendar.cells))), (.p (.sl false 3 (c.Schedules.map D.Schedule.cells))), (.p (.sl false 2 (b.Teams.map D.Team.cells))), (.own 2001 (((b.Policies.take (i2 + 1)).map D.Policy.cells).length))])), (2001, (.hole 3 ((b.Policies.take i2).map D.Policy.cells) [(vS ((nth b.Policies i2).Name)), (.own 2002 ((((nth b.Policies i2).Steps.take k).map D.PolicyStep.cells).length)), (vI ((nth b.Policies i2).Repeat))] [])), (2002, (.arr 3 (((nth b.Policies i2).Steps.take k).map D.PolicyStep.cells)))]) = (mk [(0, (.ref 1023 0)), (7, (.ref 1007 0))] [(1007, (.box [(vI ((nth (nth b.Policies i2).Steps k).Wait)), (vB ((nth (nth b.Policies i2).Steps k).Urgent)), (.own 2003 ((((nth (nth b.Policies i2).Steps k).Targets).map D.Target.cells).length))])), (2003, (.arr 2 (((nth (nth b.Policies i2).Steps k).Targets).map D.Target.cells))), (1023, (.box [(.p (.sl false 3 (c.Zones.map D.Zone.cells))), (.p (.sl false 6 (c.People.map D.Person.cells))), (.p (.sl false 3 (c.Calendars.map D.Calendar.cells))), (.p (.sl false 3 (c.Schedules.map D.Schedule.cells))), (.p (.sl false 2 (b.Teams.map D.Team.cells))), (.own 2001 (((b.Policies.take (i2 + 1)).map D.Policy.cells).length))])), (2001, (.hole 3 ((b.Policies.take i2).map D.Policy.cells) [(vS ((nth b.Policies i2).Name)), (.own 2002 ((((nth b.Policies i2).Steps.take k).map D.PolicyStep.cells).length)), (vI ((nth b.Policies i2).Repeat))] [])), (2002, (.arr 3 (((nth b.Policies i2).Steps.take k).map D.PolicyStep.cells)))]) from (by rw [e5, ‹(nth (nth b.Policies i2).Steps k).Urgent = _›])) ?_
    refine AWp.weaken (mk [(0, (.ref 1023 0)), (7, (.ref 1007 0))] [(2003, (.arr 2 (((nth (nth b.Policies i2).Steps k).Targets).map D.Target.cells))), (1007, (.box [(vI ((nth (nth b.Policies i2).Steps k).Wait)), (vB ((nth (nth b.Policies i2).Steps k).Urgent)), (.own 2003 ((((nth (nth b.Policies i2).Steps k).Targets).map D.Target.cells).length))])), (1023, a'7), (2001, a'9), (2002, a'10)]) (Weak.sub' hGk (by kernel_rfl)) ?_
    let a'30 : AV := (.p (.sl false 2 (((nth (nth b.Policies i2).Steps k).Targets).map D.Target.cells)))
    let a'31 : AO := (.box [(vI ((nth (nth b.Policies i2).Steps k).Wait)), (vB ((nth (nth b.Policies i2).Steps k).Urgent)), a'30])
    refine AWp.weaken (mk [(0, (.ref 1023 0)), (7, (.ref 1007 0))] [(1007, a'31), (1023, a'7), (2001, a'9), (2002, a'10)]) (Weak.freeze (n := 2003) (es := 2) (rows := (((nth (nth b.Policies i2).Steps k).Targets).map D.Target.cells)) (by rw [hGk]; decide) ⟨rfl, (.same rfl), ⟨rfl, (.same rfl), trivial⟩⟩ ⟨rfl, by decide, (.box (.cons (.same rfl) (.cons (.same rfl) (.cons .own .nil)))), ⟨rfl, by decide, (.same rfl), ⟨rfl, by decide, (.same rfl), ⟨rfl, by decide, (.same rfl), trivial⟩⟩⟩⟩) ?_
    refine AWp.s_dreg hGn hGk (by kernel_rfl) [.a, .a, .a, .a, .a, .a, .a, .a, .a, .a, .m (some 121) ⟨[(120, a'6)], [(2001, a'9)], (vI ((((b.Policies.take (i2 + 1)).map D.Policy.cells).length : Nat) : Int)), [], []⟩, .m (some 122) ⟨[(121, (vI ((((b.Policies.take (i2 + 1)).map D.Policy.cells).length : Nat) : Int)))], [], (vI ((i2 : Nat) : Int)), [], []⟩, .m (some 123) ⟨[(115, a'6), (122, (vI ((i2 : Nat) : Int)))], [(2001, a'9)], (.aref 2001 (((b.Policies.take (i2 + 1)).map D.Policy.cells).length) i2 0), [], []⟩, .a] ⟨StepOK.p rfl rfl rfl (OpOK.lenHole (e := 106) rfl rfl (by kernel_rfl) rfl hhl rfl),
     StepOK.p rfl rfl rfl (OpOK.sub rfl rfl rfl (by rw [IntWalk.i64_in _ ⟨by omega, by omega⟩]; omega)),
     StepOK.p rfl rfl rfl (OpOK.indexHole (e := 106) rfl (by kernel_rfl) (by kernel_rfl) rfl hhl rfl rfl (by simp only [List.length_map, List.length_take, List.length_drop, List.length_nil]; omega)), trivial⟩ [(7, (.ref 1007 0)), (12, (.aref 2001 (((b.Policies.take (i2 + 1)).map D.Policy.cells).length) i2 0))] [(1007, a'31), (1023, a'7), (2001, a'9), (2002, a'10)] (by kernel_rfl) (by kernel_rfl) (by kernel_rfl) ?_
    let a'32 : AV := (.own 2002 ((((nth b.Policies i2).Steps.take (k + 1)).map D.PolicyStep.cells).length))
    let a'33 : AO := (.arr 3 (((nth b.Policies i2).Steps.take (k + 1)).map D.PolicyStep.cells))
    let a'34 : AO := (.hole 3 ((b.Policies.take i2).map D.Policy.cells) [(vS ((nth b.Policies i2).Name)), a'32, (vI ((nth b.Policies i2).Repeat))] [])
    refine AWp.s_dreg hGn hGk (by kernel_rfl) [.a, .a, .m (some 126) ⟨[(125, (.aref 2001 (((b.Policies.take (i2 + 1)).map D.Policy.cells).length) i2 0))], [(2001, a'9)], (.aref 2001 (((b.Policies.take (i2 + 1)).map D.Policy.cells).length) i2 0), [], []⟩, .m (some 127) ⟨[(126, (.aref 2001 (((b.Policies.take (i2 + 1)).map D.Policy.cells).length) i2 0))], [(2001, a'9)], (.aref 2001 (((b.Policies.take (i2 + 1)).map D.Policy.cells).length) i2 1), [], []⟩, .m (some 128) ⟨[(127, (.aref 2001 (((b.Policies.take (i2 + 1)).map D.Policy.cells).length) i2 1))], [(2001, a'9)], a'8, [], []⟩, .a, .a, .m (some 131) ⟨[(128, a'8), (130, (.p (.sl true 3 [[(pI ((nth (nth b.Policies i2).Steps k).Wait)), (pB ((nth (nth b.Policies i2).Steps k).Urgent)), (.sl false 2 (((nth (nth b.Policies i2).Steps k).Targets).map D.Target.cells))]])))], [(2002, a'10)], a'32, [(2002, a'33)], []⟩, .m (some 132) ⟨[(124, (.aref 2001 (((b.Policies.take (i2 + 1)).map D.Policy.cells).length) i2 0))], [(2001, a'9)], (.aref 2001 (((b.Policies.take (i2 + 1)).map D.Policy.cells).length) i2 0), [], []⟩, .m (some 133) ⟨[(132, (.aref 2001 (((b.Policies.take (i2 + 1)).map D.Policy.cells).length) i2 0))], [(2001, a'9)], (.aref 2001 (((b.Policies.take (i2 + 1)).map D.Policy.cells).length) i2 1), [], []⟩, .m none ⟨[(133, (.aref 2001 (((b.Policies.take (i2 + 1)).map D.Policy.cells).length) i2 1)), (131, a'32)], [(2001, a'9)], .any, [(2001, a'34)], []⟩] ⟨StepOK.p rfl rfl rfl (OpOK.nilCheckSh rfl rfl rfl hhl),
     StepOK.p rfl rfl rfl (OpOK.fieldElemSh (fo := 1) rfl rfl (by kernel_rfl) rfl rfl hhl),
     StepOK.p rfl rfl rfl (OpOK.loadHole rfl rfl (by kernel_rfl) hhl (by rw [List.length_map, List.length_take]; omega) rfl),
     StepOK.p rfl rfl rfl (OpOK.appendOwn (e := 103) (bytes := 40) rfl rfl (by kernel_rfl) (by kernel_rfl) rfl (Nat.beq_refl _) rfl (take_map_snoc (f := D.PolicyStep.cells) (by omega)) rfl (by simp only [List.length_map, List.length_cons, List.length_nil, List.length_append, List.length_take, List.length_drop]; omega) (by simp only [List.length_map, List.length_cons, List.length_nil, List.length_append, List.length_take, List.length_drop]; omega)),
     StepOK.p rfl rfl rfl (OpOK.nilCheckSh rfl rfl rfl hhl),
     StepOK.p rfl rfl rfl (OpOK.fieldElemSh (fo := 1) rfl rfl (by kernel_rfl) rfl rfl hhl),
     StepOK.p rfl rfl rfl (OpOK.storeHole rfl rfl rfl rfl rfl hhl (by rw [List.length_map, List.length_take]; omega) (by kernel_rfl) (by kernel_rfl) rfl), trivial⟩ [] [(1023, a'7), (2001, a'34), (2002, a'33)] (by kernel_rfl) (by kernel_rfl) (by kernel_rfl) ?_
    refine AWp.s_reg hGn hGk (aa 1) (Man.aa _ _) [(4, (vI 0))] [(1023, a'7), (2001, a'34), (2002, a'33)] (by kernel_rfl) (by kernel_rfl) ?_
    refine AWp.ret ?_
    refine fin_of (.inr rfl) (v := (vI 0)) (Res.tmp rfl rfl) (h' := [(1023, (.box [(.p (.sl false 3 (c.Zones.map D.Zone.cells))), (.p (.sl false 6 (c.People.map D.Person.cells))), (.p (.sl false 3 (c.Calendars.map D.Calendar.cells))), (.p (.sl false 3 (c.Schedules.map D.Schedule.cells))), (.p (.sl false 2 (b.Teams.map D.Team.cells))), (.own 2001 (((b.Policies.take (i2 + 1)).map D.Policy.cells).length))])), (2001, (.hole 3 ((b.Policies.take i2).map D.Policy.cells) [(vS ((nth b.Policies i2).Name)), (.own 2002 ((((nth b.Policies i2).Steps.take (k + 1)).map D.PolicyStep.cells).length)), (vI ((nth b.Policies i2).Repeat))] [])), (2002, (.arr 3 (((nth b.Policies i2).Steps.take (k + 1)).map D.PolicyStep.cells)))]) rfl rfl ?_
    exact ⟨rfl, rfl⟩
theorem rd_line_team (c : D.Config) (b : D.Book) (h : CfgOK c) (hb : BookV b) (i : Nat) (hi : i < b.Teams.length) (ws : List ByteArray) (hws : ws = teamV c (nth b.Teams i) (nth b.Teams i).Members.length) (hw : ∀ w ∈ ws, Wd w) (hwb : ws.length ≤ 1000) (hz : (joinS ws).size ≤ 1000)  :
    SpecIs Tryz.prog 63 [(.ref 1023 0), (vS (joinS ws))] [(1023, (.box [(.p (.sl false 3 (c.Zones.map D.Zone.cells))), (.p (.sl false 6 (c.People.map D.Person.cells))), (.p (.sl false 3 (c.Calendars.map D.Calendar.cells))), (.p (.sl false 3 (c.Schedules.map D.Schedule.cells))), (.own 2000 (((b.Teams.take i).map D.Team.cells).length)), (.own 2001 (((b.Policies.take 0).map D.Policy.cells).length))])), (2000, (.arr 2 ((b.Teams.take i).map D.Team.cells))), (2001, (.arr 3 ((b.Policies.take 0).map D.Policy.cells)))] (vI 0) [(1023, (.box [(.p (.sl false 3 (c.Zones.map D.Zone.cells))), (.p (.sl false 6 (c.People.map D.Person.cells))), (.p (.sl false 3 (c.Calendars.map D.Calendar.cells))), (.p (.sl false 3 (c.Schedules.map D.Schedule.cells))), (.own 2000 (((b.Teams.take (i + 1)).map D.Team.cells).length)), (.own 2001 (((b.Policies.take 0).map D.Policy.cells).length))])), (2000, (.arr 2 ((b.Teams.take (i + 1)).map D.Team.cells))), (2001, (.arr 3 ((b.Policies.take 0).map D.Policy.cells)))] := by
 refine Spec.intro Tryz.func63 rfl (by kernel_rfl) ?_
 intro Γ hGn hGk
 replace hGn : Γ.n = 64 := hGn
 replace hGk : Γ.names = [1023, 2000, 2001] := hGk
 have hwl : ws.length = (nth b.Teams i).Members.length + 2 := by rw [hws, teamV_len]
 have e0 : nth ws 0 = wTeam := by rw [hws]; exact (teamV_0 c _ _).1
 let a'1 : AV := (.p (.sl false 3 (c.Zones.map D.Zone.cells)))
 let a'2 : AV := (.p (.sl false 6 (c.People.map D.Person.cells)))
 let a'3 : AV := (.p (.sl false 3 (c.Calendars.map D.Calendar.cells)))
 let a'4 : AV := (.p (.sl false 3 (c.Schedules.map D.Schedule.cells)))
 let a'5 : AV := (.own 2000 (((b.Teams.take i).map D.Team.cells).length))
 let a'6 : AV := (.own 2001 (((b.Policies.take 0).map D.Policy.cells).length))
 let a'7 : AO := (.box [a'1, a'2, a'3, a'4, a'5, a'6])
 let a'8 : AO := (.arr 2 ((b.Teams.take i).map D.Team.cells))
 let a'9 : AO := (.arr 3 ((b.Policies.take 0).map D.Policy.cells))
 refine AWp.weaken (mk [(0, (.ref 1023 0)), (1, (vS (joinS ws)))] [(1023, a'7), (2000, a'8), (2001, a'9)]) (Weak.sub' hGk (by kernel_rfl)) ?_
 refine AWp.s_reg hGn hGk (aa 1) (Man.aa _ _) [(0, (.ref 1023 0)), (1, (vS (joinS ws)))] [(1023, a'7), (2000, a'8), (2001, a'9)] (by kernel_rfl) (by kernel_rfl) ?_
 refine AWp.s_reg hGn hGk [.a, .m (some 11) ⟨[(10, (vS (joinS ws)))], [], (.p (.sl true 1 (ws.map D.cStr))), [], []⟩, .a] ⟨StepOK.p rfl rfl rfl (OpOK.call rfl (by kernel_rfl) rfl (by have h' := kit_Split (joinS ws) (by omega); rw [split_join (by omega) hw] at h'; exact h') (by kernel_rfl)), trivial⟩ [(0, (.ref 1023 0)), (5, (.p (.sl true 1 (ws.map D.cStr))))] [(1023, a'7), (2000, a'8), (2001, a'9)] (by kernel_rfl) (by kernel_rfl) ?_
 refine AWp.seq ?_
 refine AWp.s_reg hGn hGk [.a, .m (some 13) ⟨[(12, (.p (.sl true 1 (ws.map D.cStr))))], [], (vI ((ws.length : Nat) : Int)), [], []⟩, .a] ⟨StepOK.p rfl rfl rfl (OpOK.lenP (e := 9) rfl rfl (by kernel_rfl) rfl (by rw [List.length_map])), trivial⟩ [(0, (.ref 1023 0)), (5, (.p (.sl true 1 (ws.map D.cStr)))), (12, (.p (.sl true 1 (ws.map D.cStr)))), (13, (vI ((ws.length : Nat) : Int))), (14, (vI 0))] [(1023, a'7), (2000, a'8), (2001, a'9)] (by kernel_rfl) (by kernel_rfl) ?_
 refine AWp.block ?_
 refine AWp.loop (fun m s => ∃ j, s = (mk [(0, (.ref 1023 0)), (5, (.p (.sl true 1 (ws.map D.cStr)))), (12, (.p (.sl true 1 (ws.map D.cStr)))), (13, (vI ((ws.length : Nat) : Int))), (14, (vI ((j : Nat) : Int)))] [(1023, (.box [(.p (.sl false 3 (c.Zones.map D.Zone.cells))), (.p (.sl false 6 (c.People.map D.Person.cells))), (.p (.sl false 3 (c.Calendars.map D.Calendar.cells))), (.p (.sl false 3 (c.Schedules.map D.Schedule.cells))), (.own 2000 (((b.Teams.take i).map D.Team.cells).length)), (.own 2001 (((b.Policies.take 0).map D.Policy.cells).length))])), (2000, (.arr 2 ((b.Teams.take i).map D.Team.cells))), (2001, (.arr 3 ((b.Policies.take 0).map D.Policy.cells)))]) ∧ (j ≤ ws.length) ∧ m = (ws.length - j))
  ⟨_, 0, rfl, (by omega), rfl⟩ ?_
 rintro mm1 s ⟨j, rfl, hj, hmm1⟩
 refine AWp.s_reg hGn hGk (aa 1) (Man.aa _ _) [(0, (.ref 1023 0)), (5, (.p (.sl true 1 (ws.map D.cStr)))), (12, (.p (.sl true 1 (ws.map D.cStr)))), (13, (vI ((ws.length : Nat) : Int))), (14, (vI ((j : Nat) : Int))), (15, (vB (decide (((j : Nat) : Int) < ((ws.length : Nat) : Int)))))] [(1023, a'7), (2000, a'8), (2001, a'9)] (by kernel_rfl) (by kernel_rfl) ?_
 refine AWp.seq ?_
 refine AWp.cond (decide (((j : Nat) : Int) < ((ws.length : Nat) : Int))) rfl (fun hc2 => ?_) (fun hc2 => ?_)
 ·skip
  replace hc2 := of_decide_eq_true hc2
  refine AWp.skip ?_
  refine nextQ_normal ?_
  refine AWp.seq ?_
  refine AWp.block ?_
  refine AWp.s_reg hGn hGk [.m (some 16) ⟨[(12, (.p (.sl true 1 (ws.map D.cStr)))), (14, (vI ((j : Nat) : Int)))], [], (.eptr [(pS (nth ws j))]), [], []⟩, .a, .a] ⟨StepOK.p rfl rfl rfl (OpOK.indexP (e := 9) rfl (by kernel_rfl) (by kernel_rfl) rfl rfl rfl (map_nth (by omega))), trivial⟩ [(0, (.ref 1023 0)), (5, (.p (.sl true 1 (ws.map D.cStr)))), (7, (vS (nth ws j))), (12, (.p (.sl true 1 (ws.map D.cStr)))), (13, (vI ((ws.length : Nat) : Int))), (14, (vI ((j : Nat) : Int)))] [(1023, a'7), (2000, a'8), (2001, a'9)] (by kernel_rfl) (by kernel_rfl) ?_
  refine AWp.s_reg hGn hGk [.a, .m (some 19) ⟨[(18, (vS (nth ws j)))], [], (vB false), [], []⟩] ⟨StepOK.p rfl rfl rfl (OpOK.eqlS rfl rfl rfl (decide_eq_false (wd_nth hw (by omega)))), trivial⟩ [(0, (.ref 1023 0)), (5, (.p (.sl true 1 (ws.map D.cStr)))), (12, (.p (.sl true 1 (ws.map D.cStr)))), (13, (vI ((ws.length : Nat) : Int))), (14, (vI ((j : Nat) : Int))), (19, (vB false))] [(1023, a'7), (2000, a'8), (2001, a'9)] (by kernel_rfl) (by kernel_rfl) ?_
  refine AWp.cond_false rfl ?_
  refine AWp.skip ?_
  refine blockQ_normal ?_
  refine nextQ_normal ?_
  refine AWp.reg' hGn hGk [.m (some 20) ⟨[(14, (vI ((j : Nat) : Int)))], [], (vI ((j + 1 : Nat) : Int)), [], []⟩, .a] ⟨StepOK.p rfl rfl rfl (OpOK.add rfl rfl rfl (by rw [IntWalk.i64_in _ ⟨by omega, by omega⟩]; omega)), trivial⟩ [(0, (.ref 1023 0)), (5, (.p (.sl true 1 (ws.map D.cStr)))), (12, (.p (.sl true 1 (ws.map D.cStr)))), (13, (vI ((ws.length : Nat) : Int))), (14, (vI ((j + 1 : Nat) : Int)))] [(1023, a'7), (2000, a'8), (2001, a'9)] (by kernel_rfl) (by kernel_rfl) ?_
  refine nextQ_normal ⟨_, ?_, (j + 1), rfl, (by omega), rfl⟩
  · omega
 ·skip
  replace hc2 := of_decide_eq_false hc2
  refine AWp.weaken (mk [(0, (.ref 1023 0)), (5, (.p (.sl true 1 (ws.map D.cStr))))] [(1023, a'7), (2000, a'8), (2001, a'9)]) (Weak.sub' hGk (by kernel_rfl)) ?_
  refine AWp.exit ?_
  refine nextQ_exit ?_
  refine nextQ_exit ?_
  refine blockQ_exit ?_
  refine nextQ_normal ?_
  refine AWp.seq ?_
  refine AWp.s_reg hGn hGk [.a, .m (some 22) ⟨[(21, (.p (.sl true 1 (ws.map D.cStr))))], [], (.eptr [(pS (nth ws 0))]), [], []⟩, .a] ⟨StepOK.p rfl rfl rfl (OpOK.indexP (e := 9) rfl (by kernel_rfl) (by kernel_rfl) rfl rfl rfl (map_nth (show 0 < List.length ws by omega))), trivial⟩ [(0, (.ref 1023 0)), (5, (.p (.sl true 1 (ws.map D.cStr)))), (23, (vS (nth ws 0)))] [(1023, a'7), (2000, a'8), (2001, a'9)] (by kernel_rfl) (by kernel_rfl) ?_
  refine AWp.block ?_
  refine AWp.s_reg hGn hGk [.m (some 25) ⟨[(23, (vS (nth ws 0)))], [], (vB true), [], []⟩, .a] ⟨StepOK.p rfl rfl rfl (OpOK.eqlS rfl rfl rfl (decide_eq_true (by rw [e0]; rfl))), trivial⟩ [(0, (.ref 1023 0)), (5, (.p (.sl true 1 (ws.map D.cStr)))), (23, (vS (nth ws 0))), (24, (vB true))] [(1023, a'7), (2000, a'8), (2001, a'9)] (by kernel_rfl) (by kernel_rfl) ?_
  refine AWp.cond_true rfl ?_
  refine AWp.s_reg hGn hGk [.a, .a, .m (some 28) ⟨[(26, (.ref 1023 0)), (27, (.p (.sl true 1 (ws.map D.cStr))))], [(1023, a'7), (2000, a'8), (2001, a'9)], (vI 0), [(1023, (.box [a'1, a'2, a'3, a'4, (.own 2000 (((b.Teams.take (i + 1)).map D.Team.cells).length)), a'6])), (2000, (.arr 2 ((b.Teams.take (i + 1)).map D.Team.cells))), (2001, a'9)], []⟩, .a] ⟨StepOK.p rfl rfl rfl (OpOK.call rfl (by kernel_rfl) rfl (rd_members c b h hb i hi ws hws) (by kernel_rfl)), trivial⟩ [(4, (vI 0))] [(1023, (.box [a'1, a'2, a'3, a'4, (.own 2000 (((b.Teams.take (i + 1)).map D.Team.cells).length)), a'6])), (2000, (.arr 2 ((b.Teams.take (i + 1)).map D.Team.cells))), (2001, a'9)] (by kernel_rfl) (by kernel_rfl) ?_
  refine AWp.ret ?_
  refine blockQ_ret ?_
  refine nextQ_ret ?_
  refine fin_of (.inr rfl) (v := (vI 0)) (Res.tmp rfl rfl) (h' := [(1023, (.box [(.p (.sl false 3 (c.Zones.map D.Zone.cells))), (.p (.sl false 6 (c.People.map D.Person.cells))), (.p (.sl false 3 (c.Calendars.map D.Calendar.cells))), (.p (.sl false 3 (c.Schedules.map D.Schedule.cells))), (.own 2000 (((b.Teams.take (i + 1)).map D.Team.cells).length)), (.own 2001 (((b.Policies.take 0).map D.Policy.cells).length))])), (2000, (.arr 2 ((b.Teams.take (i + 1)).map D.Team.cells))), (2001, (.arr 3 ((b.Policies.take 0).map D.Policy.cells)))]) rfl rfl ?_
  exact ⟨rfl, rfl⟩
theorem rd_line_pol (c : D.Config) (b : D.Book) (h : CfgOK c) (hb : BookV b) (i2 : Nat) (hi2 : i2 < b.Policies.length) (ws : List ByteArray) (hws : ws = polW (nth b.Policies i2)) (hw : ∀ w ∈ ws, Wd w) (hwb : ws.length ≤ 1000) (hz : (joinS ws).size ≤ 1000)  :
    SpecIs Tryz.prog 63 [(.ref 1023 0), (vS (joinS ws))] [(1023, (.box [(.p (.sl false 3 (c.Zones.map D.Zone.cells))), (.p (.sl false 6 (c.People.map D.Person.cells))), (.p (.sl false 3 (c.Calendars.map D.Calendar.cells))), (.p (.sl false 3 (c.Schedules.map D.Schedule.cells))), (.p (.sl false 2 (b.Teams.map D.Team.cells))), (.own 2001 (((b.Policies.take i2).map D.Policy.cells).length))])), (2001, (.arr 3 ((b.Policies.take i2).map D.Policy.cells)))] (vI 0) [(1023, (.box [(.p (.sl false 3 (c.Zones.map D.Zone.cells))), (.p (.sl false 6 (c.People.map D.Person.cells))), (.p (.sl false 3 (c.Calendars.map D.Calendar.cells))), (.p (.sl false 3 (c.Schedules.map D.Schedule.cells))), (.p (.sl false 2 (b.Teams.map D.Team.cells))), (.own 2001 (((b.Policies.take (i2 + 1)).map D.Policy.cells).length))])), (2001, (.hole 3 ((b.Policies.take i2).map D.Policy.cells) [(vS ((nth b.Policies i2).Name)), (.p (.sl true 0 [])), (vI ((nth b.Policies i2).Repeat))] []))] := by
 refine Spec.intro Tryz.func63 rfl (by kernel_rfl) ?_
 intro Γ hGn hGk
 replace hGn : Γ.n = 64 := hGn
 replace hGk : Γ.names = [1023, 2001] := hGk
 have hwl : ws.length = 3 := by rw [hws]; rfl
 have e0 : nth ws 0 = wPolicy := by rw [hws]; rfl
 have hpp := hb.plen
 have hrr := hb.rep i2 hi2
 have e1 : nth ws 1 = (nth b.Policies i2).Name := by rw [hws]; rfl
 have e2 : nth ws 2 = itoaB (nth b.Policies i2).Repeat := by rw [hws]; rfl
 have hlt : (List.map D.Policy.cells (b.Policies.take (i2 + 1))).length = i2 + 1 := by rw [List.length_map, List.length_take]; omega
 have hhl : Nat.beq (List.map D.Policy.cells (b.Policies.take (i2 + 1))).length ((List.map D.Policy.cells (b.Policies.take i2)).length + 1 + ([] : List (List PV)).length) = true := by rw [show (List.map D.Policy.cells (b.Policies.take i2)).length + 1 + ([] : List (List PV)).length = (List.map D.Policy.cells (b.Policies.take (i2 + 1))).length from by rw [hlt, List.length_map, List.length_take, List.length_nil]; omega]; exact Nat.beq_refl _
 have hlt0 : (b.Policies.take i2).length = i2 := by rw [List.length_take]; omega
 let a'1 : AV := (.p (.sl false 3 (c.Zones.map D.Zone.cells)))
 let a'2 : AV := (.p (.sl false 6 (c.People.map D.Person.cells)))
 let a'3 : AV := (.p (.sl false 3 (c.Calendars.map D.Calendar.cells)))
 let a'4 : AV := (.p (.sl false 3 (c.Schedules.map D.Schedule.cells)))
 let a'5 : AV := (.p (.sl false 2 (b.Teams.map D.Team.cells)))
 let a'6 : AV := (.own 2001 (((b.Policies.take i2).map D.Policy.cells).length))
 let a'7 : AO := (.box [a'1, a'2, a'3, a'4, a'5, a'6])
 let a'8 : AO := (.arr 3 ((b.Policies.take i2).map D.Policy.cells))
 refine AWp.weaken (mk [(0, (.ref 1023 0)), (1, (vS (joinS ws)))] [(1023, a'7), (2001, a'8)]) (Weak.sub' hGk (by kernel_rfl)) ?_
 refine AWp.s_reg hGn hGk (aa 1) (Man.aa _ _) [(0, (.ref 1023 0)), (1, (vS (joinS ws)))] [(1023, a'7), (2001, a'8)] (by kernel_rfl) (by kernel_rfl) ?_
 refine AWp.s_reg hGn hGk [.a, .m (some 11) ⟨[(10, (vS (joinS ws)))], [], (.p (.sl true 1 (ws.map D.cStr))), [], []⟩, .a] ⟨StepOK.p rfl rfl rfl (OpOK.call rfl (by kernel_rfl) rfl (by have h' := kit_Split (joinS ws) (by omega); rw [split_join (by omega) hw] at h'; exact h') (by kernel_rfl)), trivial⟩ [(0, (.ref 1023 0)), (5, (.p (.sl true 1 (ws.map D.cStr))))] [(1023, a'7), (2001, a'8)] (by kernel_rfl) (by kernel_rfl) ?_
 refine AWp.seq ?_
 refine AWp.s_reg hGn hGk [.a, .m (some 13) ⟨[(12, (.p (.sl true 1 (ws.map D.cStr))))], [], (vI ((ws.length : Nat) : Int)), [], []⟩, .a] ⟨StepOK.p rfl rfl rfl (OpOK.lenP (e := 9) rfl rfl (by kernel_rfl) rfl (by rw [List.length_map])), trivial⟩ [(0, (.ref 1023 0)), (5, (.p (.sl true 1 (ws.map D.cStr)))), (12, (.p (.sl true 1 (ws.map D.cStr)))), (13, (vI ((ws.length : Nat) : Int))), (14, (vI 0))] [(1023, a'7), (2001, a'8)] (by kernel_rfl) (by kernel_rfl) ?_
 refine AWp.block ?_
 refine AWp.loop (fun m s => ∃ j, s = (mk [(0, (.ref 1023 0)), (5, (.p (.sl true 1 (ws.map D.cStr)))), (12, (.p (.sl true 1 (ws.map D.cStr)))), (13, (vI ((ws.length : Nat) : Int))), (14, (vI ((j : Nat) : Int)))] [(1023, (.box [(.p (.sl false 3 (c.Zones.map D.Zone.cells))), (.p (.sl false 6 (c.People.map D.Person.cells))), (.p (.sl false 3 (c.Calendars.map D.Calendar.cells))), (.p (.sl false 3 (c.Schedules.map D.Schedule.cells))), (.p (.sl false 2 (b.Teams.map D.Team.cells))), (.own 2001 (((b.Policies.take i2).map D.Policy.cells).length))])), (2001, (.arr 3 ((b.Policies.take i2).map D.Policy.cells)))]) ∧ (j ≤ ws.length) ∧ m = (ws.length - j))
  ⟨_, 0, rfl, (by omega), rfl⟩ ?_
 rintro mm1 s ⟨j, rfl, hj, hmm1⟩
 refine AWp.s_reg hGn hGk (aa 1) (Man.aa _ _) [(0, (.ref 1023 0)), (5, (.p (.sl true 1 (ws.map D.cStr)))), (12, (.p (.sl true 1 (ws.map D.cStr)))), (13, (vI ((ws.length : Nat) : Int))), (14, (vI ((j : Nat) : Int))), (15, (vB (decide (((j : Nat) : Int) < ((ws.length : Nat) : Int)))))] [(1023, a'7), (2001, a'8)] (by kernel_rfl) (by kernel_rfl) ?_
 refine AWp.seq ?_
 refine AWp.cond (decide (((j : Nat) : Int) < ((ws.length : Nat) : Int))) rfl (fun hc2 => ?_) (fun hc2 => ?_)
 ·skip
  replace hc2 := of_decide_eq_true hc2
  refine AWp.skip ?_
  refine nextQ_normal ?_
  refine AWp.seq ?_
  refine AWp.block ?_
  refine AWp.s_reg hGn hGk [.m (some 16) ⟨[(12, (.p (.sl true 1 (ws.map D.cStr)))), (14, (vI ((j : Nat) : Int)))], [], (.eptr [(pS (nth ws j))]), [], []⟩, .a, .a] ⟨StepOK.p rfl rfl rfl (OpOK.indexP (e := 9) rfl (by kernel_rfl) (by kernel_rfl) rfl rfl rfl (map_nth (by omega))), trivial⟩ [(0, (.ref 1023 0)), (5, (.p (.sl true 1 (ws.map D.cStr)))), (7, (vS (nth ws j))), (12, (.p (.sl true 1 (ws.map D.cStr)))), (13, (vI ((ws.length : Nat) : Int))), (14, (vI ((j : Nat) : Int)))] [(1023, a'7), (2001, a'8)] (by kernel_rfl) (by kernel_rfl) ?_
  refine AWp.s_reg hGn hGk [.a, .m (some 19) ⟨[(18, (vS (nth ws j)))], [], (vB false), [], []⟩] ⟨StepOK.p rfl rfl rfl (OpOK.eqlS rfl rfl rfl (decide_eq_false (wd_nth hw (by omega)))), trivial⟩ [(0, (.ref 1023 0)), (5, (.p (.sl true 1 (ws.map D.cStr)))), (12, (.p (.sl true 1 (ws.map D.cStr)))), (13, (vI ((ws.length : Nat) : Int))), (14, (vI ((j : Nat) : Int))), (19, (vB false))] [(1023, a'7), (2001, a'8)] (by kernel_rfl) (by kernel_rfl) ?_
  refine AWp.cond_false rfl ?_
  refine AWp.skip ?_
  refine blockQ_normal ?_
  refine nextQ_normal ?_
  refine AWp.reg' hGn hGk [.m (some 20) ⟨[(14, (vI ((j : Nat) : Int)))], [], (vI ((j + 1 : Nat) : Int)), [], []⟩, .a] ⟨StepOK.p rfl rfl rfl (OpOK.add rfl rfl rfl (by rw [IntWalk.i64_in _ ⟨by omega, by omega⟩]; omega)), trivial⟩ [(0, (.ref 1023 0)), (5, (.p (.sl true 1 (ws.map D.cStr)))), (12, (.p (.sl true 1 (ws.map D.cStr)))), (13, (vI ((ws.length : Nat) : Int))), (14, (vI ((j + 1 : Nat) : Int)))] [(1023, a'7), (2001, a'8)] (by kernel_rfl) (by kernel_rfl) ?_
  refine nextQ_normal ⟨_, ?_, (j + 1), rfl, (by omega), rfl⟩
  · omega
 ·skip
  replace hc2 := of_decide_eq_false hc2
  refine AWp.weaken (mk [(0, (.ref 1023 0)), (5, (.p (.sl true 1 (ws.map D.cStr))))] [(1023, a'7), (2001, a'8)]) (Weak.sub' hGk (by kernel_rfl)) ?_
  refine AWp.exit ?_
  refine nextQ_exit ?_
  refine nextQ_exit ?_
  refine blockQ_exit ?_
  refine nextQ_normal ?_
  refine AWp.seq ?_
  refine AWp.s_reg hGn hGk [.a, .m (some 22) ⟨[(21, (.p (.sl true 1 (ws.map D.cStr))))], [], (.eptr [(pS (nth ws 0))]), [], []⟩, .a] ⟨StepOK.p rfl rfl rfl (OpOK.indexP (e := 9) rfl (by kernel_rfl) (by kernel_rfl) rfl rfl rfl (map_nth (show 0 < List.length ws by omega))), trivial⟩ [(0, (.ref 1023 0)), (5, (.p (.sl true 1 (ws.map D.cStr)))), (23, (vS (nth ws 0)))] [(1023, a'7), (2001, a'8)] (by kernel_rfl) (by kernel_rfl) ?_
  refine AWp.block ?_
  refine AWp.s_reg hGn hGk [.m (some 25) ⟨[(23, (vS (nth ws 0)))], [], (vB false), [], []⟩, .a] ⟨StepOK.p rfl rfl rfl (OpOK.eqlS rfl rfl rfl (decide_eq_false (by rw [e0]; decide))), trivial⟩ [(0, (.ref 1023 0)), (5, (.p (.sl true 1 (ws.map D.cStr)))), (23, (vS (nth ws 0))), (24, (vB false))] [(1023, a'7), (2001, a'8)] (by kernel_rfl) (by kernel_rfl) ?_
  refine AWp.cond_false rfl ?_
  refine AWp.s_reg hGn hGk [.m (some 30) ⟨[(23, (vS (nth ws 0)))], [], (vB true), [], []⟩, .a] ⟨StepOK.p rfl rfl rfl (OpOK.eqlS rfl rfl rfl (decide_eq_true (by rw [e0]; rfl))), trivial⟩ [(0, (.ref 1023 0)), (5, (.p (.sl true 1 (ws.map D.cStr)))), (23, (vS (nth ws 0))), (29, (vB true))] [(1023, a'7), (2001, a'8)] (by kernel_rfl) (by kernel_rfl) ?_
  refine AWp.cond_true rfl ?_
  refine AWp.seq ?_
  refine AWp.s_reg hGn hGk [.a, .m (some 32) ⟨[(31, (.p (.sl true 1 (ws.map D.cStr))))], [], (vI ((ws.length : Nat) : Int)), [], []⟩, .m (some 33) ⟨[(32, (vI ((ws.length : Nat) : Int)))], [], (vB false), [], []⟩] ⟨StepOK.p rfl rfl rfl (OpOK.lenP (e := 9) rfl rfl (by kernel_rfl) rfl (by rw [List.length_map])),
   StepOK.p rfl rfl rfl (OpOK.neqI rfl rfl rfl (decide_eq_false (by omega))), trivial⟩ [(0, (.ref 1023 0)), (5, (.p (.sl true 1 (ws.map D.cStr)))), (33, (vB false))] [(1023, a'7), (2001, a'8)] (by kernel_rfl) (by kernel_rfl) ?_
  refine AWp.cond_false rfl ?_
  refine AWp.skip ?_
  refine nextQ_normal ?_
  refine AWp.s_reg hGn hGk [.a, .m (some 36) ⟨[(35, (.p (.sl true 1 (ws.map D.cStr))))], [], (.eptr [(pS (nth ws 2))]), [], []⟩, .a, .m (some 38) ⟨[(37, (vS (nth ws 2)))], [], (.tup [(vI ((nth b.Policies i2).Repeat)), (vB true)]), [], []⟩, .a, .a, .a, .a, .a] ⟨StepOK.p rfl rfl rfl (OpOK.indexP (e := 9) rfl (by kernel_rfl) (by kernel_rfl) rfl rfl rfl (map_nth (show 2 < List.length ws by omega))),
   StepOK.p rfl rfl rfl (OpOK.call rfl (by kernel_rfl) rfl (pol_number (nth ws 2) (nth b.Policies i2).Repeat (by rw [e2]; exact NumW.of (by omega) (by omega))) (by kernel_rfl)), trivial⟩ [(0, (.ref 1023 0)), (5, (.p (.sl true 1 (ws.map D.cStr)))), (8, (vI ((nth b.Policies i2).Repeat))), (9, (vB true))] [(1023, a'7), (2001, a'8)] (by kernel_rfl) (by kernel_rfl) ?_
  refine AWp.seq ?_
  refine AWp.s_reg hGn hGk (aa 2) (Man.aa _ _) [(0, (.ref 1023 0)), (5, (.p (.sl true 1 (ws.map D.cStr)))), (8, (vI ((nth b.Policies i2).Repeat))), (42, (vB false))] [(1023, a'7), (2001, a'8)] (by kernel_rfl) (by kernel_rfl) ?_
  refine AWp.cond_false rfl ?_
  refine AWp.skip ?_
  refine nextQ_normal ?_
  refine AWp.s_dreg hGn hGk (by kernel_rfl) [.a, .a, .a, .a, .a, .a, .a, .m (some 50) ⟨[(49, (.p (.sl true 1 (ws.map D.cStr))))], [], (.eptr [(pS (nth ws 1))]), [], []⟩, .a, .a, .a, .a, .m (some 55) ⟨[(48, a'6), (54, (.p (.sl true 3 [[(pS (nth ws 1)), (.sl true 0 []), (pI ((nth b.Policies i2).Repeat))]])))], [(2001, a'8)], (.own 2001 (((b.Policies.take i2).map D.Policy.cells ++ [[(pS (nth ws 1)), (.sl true 0 []), (pI ((nth b.Policies i2).Repeat))]]).length)), [(2001, (.arr 3 ((b.Policies.take i2).map D.Policy.cells ++ [[(pS (nth ws 1)), (.sl true 0 []), (pI ((nth b.Policies i2).Repeat))]])))], []⟩, .a, .a, .a, .a] ⟨StepOK.p rfl rfl rfl (OpOK.indexP (e := 9) rfl (by kernel_rfl) (by kernel_rfl) rfl rfl rfl (map_nth (show 1 < List.length ws by omega))),
   StepOK.p rfl rfl rfl (OpOK.appendOwn (e := 106) (bytes := 48) rfl rfl (by kernel_rfl) (by kernel_rfl) rfl (Nat.beq_refl _) rfl rfl rfl (by simp only [List.length_map, List.length_cons, List.length_nil, List.length_append, List.length_take, List.length_drop]; omega) (by simp only [List.length_map, List.length_cons, List.length_nil, List.length_append, List.length_take, List.length_drop]; omega)), trivial⟩ [] [(1023, (.box [a'1, a'2, a'3, a'4, a'5, (.own 2001 (((b.Policies.take i2).map D.Policy.cells ++ [[(pS (nth ws 1)), (.sl true 0 []), (pI ((nth b.Policies i2).Repeat))]]).length))])), (2001, (.arr 3 ((b.Policies.take i2).map D.Policy.cells ++ [[(pS (nth ws 1)), (.sl true 0 []), (pI ((nth b.Policies i2).Repeat))]])))] (by kernel_rfl) (by kernel_rfl) (by kernel_rfl) ?_
  have hln : ((b.Policies.take i2).map D.Policy.cells ++ [[(pS (nth ws 1)), (.sl true 0 []), (pI ((nth b.Policies i2).Repeat))]]).length = (List.map D.Policy.cells (b.Policies.take (i2 + 1))).length := by rw [hlt, List.length_append, List.length_map, List.length_take]; simp only [List.length_cons, List.length_nil]; omega
  refine AWp.cast (show (mk [] [(1023, (.box [(.p (.sl false 3 (c.Zones.map D.Zone.cells))), (.p (.sl false 6 (c.People.map D.Person.cells))), (.p (.sl false 3 (c.Calendars.map D.Calendar.cells))), (.p (.sl false 3 (c.Schedules.map D.Schedule.cells))), (.p (.sl false 2 (b.Teams.map D.Team.cells))), (.own 2001 (((b.Policies.take i2).map D.Policy.cells ++ [[(pS (nth ws 1)), (.sl true 0 []), (pI ((nth b.Policies i2).Repeat))]]).length))])), (2001, (.arr 3 ((b.Policies.take i2).map D.Policy.cells ++ [[(pS (nth ws 1)), (.sl true 0 []), (pI ((nth b.Policies i2).Repeat))]])))]) = (mk [] [(1023, (.box [(.p (.sl false 3 (c.Zones.map D.Zone.cells))), (.p (.sl false 6 (c.People.map D.Person.cells))), (.p (.sl false 3 (c.Calendars.map D.Calendar.cells))), (.p (.sl false 3 (c.Schedules.map D.Schedule.cells))), (.p (.sl false 2 (b.Teams.map D.Team.cells))), (.own 2001 (((b.Policies.take (i2 + 1)).map D.Policy.cells).length))])), (2001, (.arr 3 ((b.Policies.take i2).map D.Policy.cells ++ [[(pS (nth b.Policies i2).Name), (.sl true 0 []), (pI ((nth b.Policies i2).Repeat))]])))]) from (by rw [hln, e1])) ?_
  refine AWp.weaken (mk [] [(1023, (.box [a'1, a'2, a'3, a'4, a'5, (.own 2001 (((b.Policies.take (i2 + 1)).map D.Policy.cells).length))])), (2001, (.hole 3 ((b.Policies.take i2).map D.Policy.cells) [(vS ((nth b.Policies i2).Name)), (.p (.sl true 0 [])), (vI ((nth b.Policies i2).Repeat))] []))]) (Weak.le trivial ⟨rfl, .refl _, ⟨rfl, (.focus rfl rfl), trivial⟩⟩) ?_
  refine AWp.s_reg hGn hGk (aa 1) (Man.aa _ _) [(4, (vI 0))] [(1023, (.box [a'1, a'2, a'3, a'4, a'5, (.own 2001 (((b.Policies.take (i2 + 1)).map D.Policy.cells).length))])), (2001, (.hole 3 ((b.Policies.take i2).map D.Policy.cells) [(vS ((nth b.Policies i2).Name)), (.p (.sl true 0 [])), (vI ((nth b.Policies i2).Repeat))] []))] (by kernel_rfl) (by kernel_rfl) ?_
  refine AWp.ret ?_
  refine blockQ_ret ?_
  refine nextQ_ret ?_
  refine fin_of (.inr rfl) (v := (vI 0)) (Res.tmp rfl rfl) (h' := [(1023, (.box [(.p (.sl false 3 (c.Zones.map D.Zone.cells))), (.p (.sl false 6 (c.People.map D.Person.cells))), (.p (.sl false 3 (c.Calendars.map D.Calendar.cells))), (.p (.sl false 3 (c.Schedules.map D.Schedule.cells))), (.p (.sl false 2 (b.Teams.map D.Team.cells))), (.own 2001 (((b.Policies.take (i2 + 1)).map D.Policy.cells).length))])), (2001, (.hole 3 ((b.Policies.take i2).map D.Policy.cells) [(vS ((nth b.Policies i2).Name)), (.p (.sl true 0 [])), (vI ((nth b.Policies i2).Repeat))] []))]) rfl rfl ?_
  exact ⟨rfl, rfl⟩
theorem rd_line_step0 (c : D.Config) (b : D.Book) (h : CfgOK c) (hb : BookV b) (i2 : Nat) (hi2 : i2 < b.Policies.length) (hk : 0 < (nth b.Policies i2).Steps.length) (ws : List ByteArray) (hws : ws = stepW c b (nth (nth b.Policies i2).Steps 0)) (hw : ∀ w ∈ ws, Wd w) (hwb : ws.length ≤ 1000) (hz : (joinS ws).size ≤ 1000)  :
    SpecIs Tryz.prog 63 [(.ref 1023 0), (vS (joinS ws))] [(1023, (.box [(.p (.sl false 3 (c.Zones.map D.Zone.cells))), (.p (.sl false 6 (c.People.map D.Person.cells))), (.p (.sl false 3 (c.Calendars.map D.Calendar.cells))), (.p (.sl false 3 (c.Schedules.map D.Schedule.cells))), (.p (.sl false 2 (b.Teams.map D.Team.cells))), (.own 2001 (((b.Policies.take (i2 + 1)).map D.Policy.cells).length))])), (2001, (.hole 3 ((b.Policies.take i2).map D.Policy.cells) [(vS ((nth b.Policies i2).Name)), (.p (.sl true 0 [])), (vI ((nth b.Policies i2).Repeat))] []))] (vI 0) [(1023, (.box [(.p (.sl false 3 (c.Zones.map D.Zone.cells))), (.p (.sl false 6 (c.People.map D.Person.cells))), (.p (.sl false 3 (c.Calendars.map D.Calendar.cells))), (.p (.sl false 3 (c.Schedules.map D.Schedule.cells))), (.p (.sl false 2 (b.Teams.map D.Team.cells))), (.own 2001 (((b.Policies.take (i2 + 1)).map D.Policy.cells).length))])), (2001, (.hole 3 ((b.Policies.take i2).map D.Policy.cells) [(vS ((nth b.Policies i2).Name)), (.own 2002 ((((nth b.Policies i2).Steps.take 1).map D.PolicyStep.cells).length)), (vI ((nth b.Policies i2).Repeat))] [])), (2002, (.arr 3 (((nth b.Policies i2).Steps.take 1).map D.PolicyStep.cells)))] := by
 refine Spec.intro Tryz.func63 rfl (by kernel_rfl) ?_
 intro Γ hGn hGk
 replace hGn : Γ.n = 64 := hGn
 replace hGk : Γ.names = [1023, 2001] := hGk
 have hwl : ws.length = 3 + 2 * (nth (nth b.Policies i2).Steps 0).Targets.length := by rw [hws]; exact stepW_len c b _
 have e0 : nth ws 0 = wStep := by rw [hws]; rfl
 let a'1 : AV := (.p (.sl false 3 (c.Zones.map D.Zone.cells)))
 let a'2 : AV := (.p (.sl false 6 (c.People.map D.Person.cells)))
 let a'3 : AV := (.p (.sl false 3 (c.Calendars.map D.Calendar.cells)))
 let a'4 : AV := (.p (.sl false 3 (c.Schedules.map D.Schedule.cells)))
 let a'5 : AV := (.p (.sl false 2 (b.Teams.map D.Team.cells)))
 let a'6 : AV := (.own 2001 (((b.Policies.take (i2 + 1)).map D.Policy.cells).length))
 let a'7 : AO := (.box [a'1, a'2, a'3, a'4, a'5, a'6])
 let a'8 : AO := (.hole 3 ((b.Policies.take i2).map D.Policy.cells) [(vS ((nth b.Policies i2).Name)), (.p (.sl true 0 [])), (vI ((nth b.Policies i2).Repeat))] [])
 refine AWp.weaken (mk [(0, (.ref 1023 0)), (1, (vS (joinS ws)))] [(1023, a'7), (2001, a'8)]) (Weak.sub' hGk (by kernel_rfl)) ?_
 refine AWp.s_reg hGn hGk (aa 1) (Man.aa _ _) [(0, (.ref 1023 0)), (1, (vS (joinS ws)))] [(1023, a'7), (2001, a'8)] (by kernel_rfl) (by kernel_rfl) ?_
 refine AWp.s_reg hGn hGk [.a, .m (some 11) ⟨[(10, (vS (joinS ws)))], [], (.p (.sl true 1 (ws.map D.cStr))), [], []⟩, .a] ⟨StepOK.p rfl rfl rfl (OpOK.call rfl (by kernel_rfl) rfl (by have h' := kit_Split (joinS ws) (by omega); rw [split_join (by omega) hw] at h'; exact h') (by kernel_rfl)), trivial⟩ [(0, (.ref 1023 0)), (5, (.p (.sl true 1 (ws.map D.cStr))))] [(1023, a'7), (2001, a'8)] (by kernel_rfl) (by kernel_rfl) ?_
 refine AWp.seq ?_
 refine AWp.s_reg hGn hGk [.a, .m (some 13) ⟨[(12, (.p (.sl true 1 (ws.map D.cStr))))], [], (vI ((ws.length : Nat) : Int)), [], []⟩, .a] ⟨StepOK.p rfl rfl rfl (OpOK.lenP (e := 9) rfl rfl (by kernel_rfl) rfl (by rw [List.length_map])), trivial⟩ [(0, (.ref 1023 0)), (5, (.p (.sl true 1 (ws.map D.cStr)))), (12, (.p (.sl true 1 (ws.map D.cStr)))), (13, (vI ((ws.length : Nat) : Int))), (14, (vI 0))] [(1023, a'7), (2001, a'8)] (by kernel_rfl) (by kernel_rfl) ?_
 refine AWp.block ?_
 refine AWp.loop (fun m s => ∃ j, s = (mk [(0, (.ref 1023 0)), (5, (.p (.sl true 1 (ws.map D.cStr)))), (12, (.p (.sl true 1 (ws.map D.cStr)))), (13, (vI ((ws.length : Nat) : Int))), (14, (vI ((j : Nat) : Int)))] [(1023, (.box [(.p (.sl false 3 (c.Zones.map D.Zone.cells))), (.p (.sl false 6 (c.People.map D.Person.cells))), (.p (.sl false 3 (c.Calendars.map D.Calendar.cells))), (.p (.sl false 3 (c.Schedules.map D.Schedule.cells))), (.p (.sl false 2 (b.Teams.map D.Team.cells))), (.own 2001 (((b.Policies.take (i2 + 1)).map D.Policy.cells).length))])), (2001, (.hole 3 ((b.Policies.take i2).map D.Policy.cells) [(vS ((nth b.Policies i2).Name)), (.p (.sl true 0 [])), (vI ((nth b.Policies i2).Repeat))] []))]) ∧ (j ≤ ws.length) ∧ m = (ws.length - j))
  ⟨_, 0, rfl, (by omega), rfl⟩ ?_
 rintro mm1 s ⟨j, rfl, hj, hmm1⟩
 refine AWp.s_reg hGn hGk (aa 1) (Man.aa _ _) [(0, (.ref 1023 0)), (5, (.p (.sl true 1 (ws.map D.cStr)))), (12, (.p (.sl true 1 (ws.map D.cStr)))), (13, (vI ((ws.length : Nat) : Int))), (14, (vI ((j : Nat) : Int))), (15, (vB (decide (((j : Nat) : Int) < ((ws.length : Nat) : Int)))))] [(1023, a'7), (2001, a'8)] (by kernel_rfl) (by kernel_rfl) ?_
 refine AWp.seq ?_
 refine AWp.cond (decide (((j : Nat) : Int) < ((ws.length : Nat) : Int))) rfl (fun hc2 => ?_) (fun hc2 => ?_)
 ·skip
  replace hc2 := of_decide_eq_true hc2
  refine AWp.skip ?_
  refine nextQ_normal ?_
  refine AWp.seq ?_
  refine AWp.block ?_
  refine AWp.s_reg hGn hGk [.m (some 16) ⟨[(12, (.p (.sl true 1 (ws.map D.cStr)))), (14, (vI ((j : Nat) : Int)))], [], (.eptr [(pS (nth ws j))]), [], []⟩, .a, .a] ⟨StepOK.p rfl rfl rfl (OpOK.indexP (e := 9) rfl (by kernel_rfl) (by kernel_rfl) rfl rfl rfl (map_nth (by omega))), trivial⟩ [(0, (.ref 1023 0)), (5, (.p (.sl true 1 (ws.map D.cStr)))), (7, (vS (nth ws j))), (12, (.p (.sl true 1 (ws.map D.cStr)))), (13, (vI ((ws.length : Nat) : Int))), (14, (vI ((j : Nat) : Int)))] [(1023, a'7), (2001, a'8)] (by kernel_rfl) (by kernel_rfl) ?_
  refine AWp.s_reg hGn hGk [.a, .m (some 19) ⟨[(18, (vS (nth ws j)))], [], (vB false), [], []⟩] ⟨StepOK.p rfl rfl rfl (OpOK.eqlS rfl rfl rfl (decide_eq_false (wd_nth hw (by omega)))), trivial⟩ [(0, (.ref 1023 0)), (5, (.p (.sl true 1 (ws.map D.cStr)))), (12, (.p (.sl true 1 (ws.map D.cStr)))), (13, (vI ((ws.length : Nat) : Int))), (14, (vI ((j : Nat) : Int))), (19, (vB false))] [(1023, a'7), (2001, a'8)] (by kernel_rfl) (by kernel_rfl) ?_
  refine AWp.cond_false rfl ?_
  refine AWp.skip ?_
  refine blockQ_normal ?_
  refine nextQ_normal ?_
  refine AWp.reg' hGn hGk [.m (some 20) ⟨[(14, (vI ((j : Nat) : Int)))], [], (vI ((j + 1 : Nat) : Int)), [], []⟩, .a] ⟨StepOK.p rfl rfl rfl (OpOK.add rfl rfl rfl (by rw [IntWalk.i64_in _ ⟨by omega, by omega⟩]; omega)), trivial⟩ [(0, (.ref 1023 0)), (5, (.p (.sl true 1 (ws.map D.cStr)))), (12, (.p (.sl true 1 (ws.map D.cStr)))), (13, (vI ((ws.length : Nat) : Int))), (14, (vI ((j + 1 : Nat) : Int)))] [(1023, a'7), (2001, a'8)] (by kernel_rfl) (by kernel_rfl) ?_
  refine nextQ_normal ⟨_, ?_, (j + 1), rfl, (by omega), rfl⟩
  · omega
 ·skip
  replace hc2 := of_decide_eq_false hc2
  refine AWp.weaken (mk [(0, (.ref 1023 0)), (5, (.p (.sl true 1 (ws.map D.cStr))))] [(1023, a'7), (2001, a'8)]) (Weak.sub' hGk (by kernel_rfl)) ?_
  refine AWp.exit ?_
  refine nextQ_exit ?_
  refine nextQ_exit ?_
  refine blockQ_exit ?_
  refine nextQ_normal ?_
  refine AWp.seq ?_
  refine AWp.s_reg hGn hGk [.a, .m (some 22) ⟨[(21, (.p (.sl true 1 (ws.map D.cStr))))], [], (.eptr [(pS (nth ws 0))]), [], []⟩, .a] ⟨StepOK.p rfl rfl rfl (OpOK.indexP (e := 9) rfl (by kernel_rfl) (by kernel_rfl) rfl rfl rfl (map_nth (show 0 < List.length ws by omega))), trivial⟩ [(0, (.ref 1023 0)), (5, (.p (.sl true 1 (ws.map D.cStr)))), (23, (vS (nth ws 0)))] [(1023, a'7), (2001, a'8)] (by kernel_rfl) (by kernel_rfl) ?_
  refine AWp.block ?_
  refine AWp.s_reg hGn hGk [.m (some 25) ⟨[(23, (vS (nth ws 0)))], [], (vB false), [], []⟩, .a] ⟨StepOK.p rfl rfl rfl (OpOK.eqlS rfl rfl rfl (decide_eq_false (by rw [e0]; decide))), trivial⟩ [(0, (.ref 1023 0)), (5, (.p (.sl true 1 (ws.map D.cStr)))), (23, (vS (nth ws 0))), (24, (vB false))] [(1023, a'7), (2001, a'8)] (by kernel_rfl) (by kernel_rfl) ?_
  refine AWp.cond_false rfl ?_
  refine AWp.s_reg hGn hGk [.m (some 30) ⟨[(23, (vS (nth ws 0)))], [], (vB false), [], []⟩, .a] ⟨StepOK.p rfl rfl rfl (OpOK.eqlS rfl rfl rfl (decide_eq_false (by rw [e0]; decide))), trivial⟩ [(0, (.ref 1023 0)), (5, (.p (.sl true 1 (ws.map D.cStr)))), (23, (vS (nth ws 0))), (29, (vB false))] [(1023, a'7), (2001, a'8)] (by kernel_rfl) (by kernel_rfl) ?_
  refine AWp.cond_false rfl ?_
  refine AWp.s_reg hGn hGk [.m (some 60) ⟨[(23, (vS (nth ws 0)))], [], (vB true), [], []⟩, .a] ⟨StepOK.p rfl rfl rfl (OpOK.eqlS rfl rfl rfl (decide_eq_true (by rw [e0]; rfl))), trivial⟩ [(0, (.ref 1023 0)), (5, (.p (.sl true 1 (ws.map D.cStr)))), (59, (vB true))] [(1023, a'7), (2001, a'8)] (by kernel_rfl) (by kernel_rfl) ?_
  refine AWp.cond_true rfl ?_
  refine AWp.s_reg hGn hGk [.a, .a, .m (some 63) ⟨[(61, (.ref 1023 0)), (62, (.p (.sl true 1 (ws.map D.cStr))))], [(1023, a'7), (2001, a'8)], (vI 0), [(1023, a'7), (2001, (.hole 3 ((b.Policies.take i2).map D.Policy.cells) [(vS ((nth b.Policies i2).Name)), (.own 2002 ((((nth b.Policies i2).Steps.take 1).map D.PolicyStep.cells).length)), (vI ((nth b.Policies i2).Repeat))] [])), (2002, (.arr 3 (((nth b.Policies i2).Steps.take 1).map D.PolicyStep.cells)))], [2002]⟩, .a] ⟨StepOK.p rfl rfl rfl (OpOK.call rfl (by kernel_rfl) rfl (rd_step0 c b h hb i2 hi2 hk ws hws) (by kernel_rfl)), trivial⟩ [(4, (vI 0))] [(1023, a'7), (2001, (.hole 3 ((b.Policies.take i2).map D.Policy.cells) [(vS ((nth b.Policies i2).Name)), (.own 2002 ((((nth b.Policies i2).Steps.take 1).map D.PolicyStep.cells).length)), (vI ((nth b.Policies i2).Repeat))] [])), (2002, (.arr 3 (((nth b.Policies i2).Steps.take 1).map D.PolicyStep.cells)))] (by kernel_rfl) (by kernel_rfl) ?_
  refine AWp.ret ?_
  refine blockQ_ret ?_
  refine nextQ_ret ?_
  refine fin_of (.inr rfl) (v := (vI 0)) (Res.tmp rfl rfl) (h' := [(1023, (.box [(.p (.sl false 3 (c.Zones.map D.Zone.cells))), (.p (.sl false 6 (c.People.map D.Person.cells))), (.p (.sl false 3 (c.Calendars.map D.Calendar.cells))), (.p (.sl false 3 (c.Schedules.map D.Schedule.cells))), (.p (.sl false 2 (b.Teams.map D.Team.cells))), (.own 2001 (((b.Policies.take (i2 + 1)).map D.Policy.cells).length))])), (2001, (.hole 3 ((b.Policies.take i2).map D.Policy.cells) [(vS ((nth b.Policies i2).Name)), (.own 2002 ((((nth b.Policies i2).Steps.take 1).map D.PolicyStep.cells).length)), (vI ((nth b.Policies i2).Repeat))] [])), (2002, (.arr 3 (((nth b.Policies i2).Steps.take 1).map D.PolicyStep.cells)))]) rfl rfl ?_
  exact ⟨rfl, rfl⟩
theorem rd_line_stepk (c : D.Config) (b : D.Book) (h : CfgOK c) (hb : BookV b) (i2 : Nat) (hi2 : i2 < b.Policies.length) (k : Nat) (hk : k < (nth b.Policies i2).Steps.length) (ws : List ByteArray) (hws : ws = stepW c b (nth (nth b.Policies i2).Steps k)) (hw : ∀ w ∈ ws, Wd w) (hwb : ws.length ≤ 1000) (hz : (joinS ws).size ≤ 1000)  :
    SpecIs Tryz.prog 63 [(.ref 1023 0), (vS (joinS ws))] [(1023, (.box [(.p (.sl false 3 (c.Zones.map D.Zone.cells))), (.p (.sl false 6 (c.People.map D.Person.cells))), (.p (.sl false 3 (c.Calendars.map D.Calendar.cells))), (.p (.sl false 3 (c.Schedules.map D.Schedule.cells))), (.p (.sl false 2 (b.Teams.map D.Team.cells))), (.own 2001 (((b.Policies.take (i2 + 1)).map D.Policy.cells).length))])), (2001, (.hole 3 ((b.Policies.take i2).map D.Policy.cells) [(vS ((nth b.Policies i2).Name)), (.own 2002 ((((nth b.Policies i2).Steps.take k).map D.PolicyStep.cells).length)), (vI ((nth b.Policies i2).Repeat))] [])), (2002, (.arr 3 (((nth b.Policies i2).Steps.take k).map D.PolicyStep.cells)))] (vI 0) [(1023, (.box [(.p (.sl false 3 (c.Zones.map D.Zone.cells))), (.p (.sl false 6 (c.People.map D.Person.cells))), (.p (.sl false 3 (c.Calendars.map D.Calendar.cells))), (.p (.sl false 3 (c.Schedules.map D.Schedule.cells))), (.p (.sl false 2 (b.Teams.map D.Team.cells))), (.own 2001 (((b.Policies.take (i2 + 1)).map D.Policy.cells).length))])), (2001, (.hole 3 ((b.Policies.take i2).map D.Policy.cells) [(vS ((nth b.Policies i2).Name)), (.own 2002 ((((nth b.Policies i2).Steps.take (k + 1)).map D.PolicyStep.cells).length)), (vI ((nth b.Policies i2).Repeat))] [])), (2002, (.arr 3 (((nth b.Policies i2).Steps.take (k + 1)).map D.PolicyStep.cells)))] := by
 refine Spec.intro Tryz.func63 rfl (by kernel_rfl) ?_
 intro Γ hGn hGk
 replace hGn : Γ.n = 64 := hGn
 replace hGk : Γ.names = [1023, 2001, 2002] := hGk
 have hwl : ws.length = 3 + 2 * (nth (nth b.Policies i2).Steps k).Targets.length := by rw [hws]; exact stepW_len c b _
 have e0 : nth ws 0 = wStep := by rw [hws]; rfl
 let a'1 : AV := (.p (.sl false 3 (c.Zones.map D.Zone.cells)))
 let a'2 : AV := (.p (.sl false 6 (c.People.map D.Person.cells)))
 let a'3 : AV := (.p (.sl false 3 (c.Calendars.map D.Calendar.cells)))
 let a'4 : AV := (.p (.sl false 3 (c.Schedules.map D.Schedule.cells)))
 let a'5 : AV := (.p (.sl false 2 (b.Teams.map D.Team.cells)))
 let a'6 : AV := (.own 2001 (((b.Policies.take (i2 + 1)).map D.Policy.cells).length))
 let a'7 : AO := (.box [a'1, a'2, a'3, a'4, a'5, a'6])
 let a'8 : AV := (.own 2002 ((((nth b.Policies i2).Steps.take k).map D.PolicyStep.cells).length))
 let a'9 : AO := (.hole 3 ((b.Policies.take i2).map D.Policy.cells) [(vS ((nth b.Policies i2).Name)), a'8, (vI ((nth b.Policies i2).Repeat))] [])
 let a'10 : AO := (.arr 3 (((nth b.Policies i2).Steps.take k).map D.PolicyStep.cells))
 refine AWp.weaken (mk [(0, (.ref 1023 0)), (1, (vS (joinS ws)))] [(1023, a'7), (2001, a'9), (2002, a'10)]) (Weak.sub' hGk (by kernel_rfl)) ?_
 refine AWp.s_reg hGn hGk (aa 1) (Man.aa _ _) [(0, (.ref 1023 0)), (1, (vS (joinS ws)))] [(1023, a'7), (2001, a'9), (2002, a'10)] (by kernel_rfl) (by kernel_rfl) ?_
 refine AWp.s_reg hGn hGk [.a, .m (some 11) ⟨[(10, (vS (joinS ws)))], [], (.p (.sl true 1 (ws.map D.cStr))), [], []⟩, .a] ⟨StepOK.p rfl rfl rfl (OpOK.call rfl (by kernel_rfl) rfl (by have h' := kit_Split (joinS ws) (by omega); rw [split_join (by omega) hw] at h'; exact h') (by kernel_rfl)), trivial⟩ [(0, (.ref 1023 0)), (5, (.p (.sl true 1 (ws.map D.cStr))))] [(1023, a'7), (2001, a'9), (2002, a'10)] (by kernel_rfl) (by kernel_rfl) ?_
 refine AWp.seq ?_
 refine AWp.s_reg hGn hGk [.a, .m (some 13) ⟨[(12, (.p (.sl true 1 (ws.map D.cStr))))], [], (vI ((ws.length : Nat) : Int)), [], []⟩, .a] ⟨StepOK.p rfl rfl rfl (OpOK.lenP (e := 9) rfl rfl (by kernel_rfl) rfl (by rw [List.length_map])), trivial⟩ [(0, (.ref 1023 0)), (5, (.p (.sl true 1 (ws.map D.cStr)))), (12, (.p (.sl true 1 (ws.map D.cStr)))), (13, (vI ((ws.length : Nat) : Int))), (14, (vI 0))] [(1023, a'7), (2001, a'9), (2002, a'10)] (by kernel_rfl) (by kernel_rfl) ?_
 refine AWp.block ?_
 refine AWp.loop (fun m s => ∃ j, s = (mk [(0, (.ref 1023 0)), (5, (.p (.sl true 1 (ws.map D.cStr)))), (12, (.p (.sl true 1 (ws.map D.cStr)))), (13, (vI ((ws.length : Nat) : Int))), (14, (vI ((j : Nat) : Int)))] [(1023, (.box [(.p (.sl false 3 (c.Zones.map D.Zone.cells))), (.p (.sl false 6 (c.People.map D.Person.cells))), (.p (.sl false 3 (c.Calendars.map D.Calendar.cells))), (.p (.sl false 3 (c.Schedules.map D.Schedule.cells))), (.p (.sl false 2 (b.Teams.map D.Team.cells))), (.own 2001 (((b.Policies.take (i2 + 1)).map D.Policy.cells).length))])), (2001, (.hole 3 ((b.Policies.take i2).map D.Policy.cells) [(vS ((nth b.Policies i2).Name)), (.own 2002 ((((nth b.Policies i2).Steps.take k).map D.PolicyStep.cells).length)), (vI ((nth b.Policies i2).Repeat))] [])), (2002, (.arr 3 (((nth b.Policies i2).Steps.take k).map D.PolicyStep.cells)))]) ∧ (j ≤ ws.length) ∧ m = (ws.length - j))
  ⟨_, 0, rfl, (by omega), rfl⟩ ?_
 rintro mm1 s ⟨j, rfl, hj, hmm1⟩
 refine AWp.s_reg hGn hGk (aa 1) (Man.aa _ _) [(0, (.ref 1023 0)), (5, (.p (.sl true 1 (ws.map D.cStr)))), (12, (.p (.sl true 1 (ws.map D.cStr)))), (13, (vI ((ws.length : Nat) : Int))), (14, (vI ((j : Nat) : Int))), (15, (vB (decide (((j : Nat) : Int) < ((ws.length : Nat) : Int)))))] [(1023, a'7), (2001, a'9), (2002, a'10)] (by kernel_rfl) (by kernel_rfl) ?_
 refine AWp.seq ?_
 refine AWp.cond (decide (((j : Nat) : Int) < ((ws.length : Nat) : Int))) rfl (fun hc2 => ?_) (fun hc2 => ?_)
 ·skip
  replace hc2 := of_decide_eq_true hc2
  refine AWp.skip ?_
  refine nextQ_normal ?_
  refine AWp.seq ?_
  refine AWp.block ?_
  refine AWp.s_reg hGn hGk [.m (some 16) ⟨[(12, (.p (.sl true 1 (ws.map D.cStr)))), (14, (vI ((j : Nat) : Int)))], [], (.eptr [(pS (nth ws j))]), [], []⟩, .a, .a] ⟨StepOK.p rfl rfl rfl (OpOK.indexP (e := 9) rfl (by kernel_rfl) (by kernel_rfl) rfl rfl rfl (map_nth (by omega))), trivial⟩ [(0, (.ref 1023 0)), (5, (.p (.sl true 1 (ws.map D.cStr)))), (7, (vS (nth ws j))), (12, (.p (.sl true 1 (ws.map D.cStr)))), (13, (vI ((ws.length : Nat) : Int))), (14, (vI ((j : Nat) : Int)))] [(1023, a'7), (2001, a'9), (2002, a'10)] (by kernel_rfl) (by kernel_rfl) ?_
  refine AWp.s_reg hGn hGk [.a, .m (some 19) ⟨[(18, (vS (nth ws j)))], [], (vB false), [], []⟩] ⟨StepOK.p rfl rfl rfl (OpOK.eqlS rfl rfl rfl (decide_eq_false (wd_nth hw (by omega)))), trivial⟩ [(0, (.ref 1023 0)), (5, (.p (.sl true 1 (ws.map D.cStr)))), (12, (.p (.sl true 1 (ws.map D.cStr)))), (13, (vI ((ws.length : Nat) : Int))), (14, (vI ((j : Nat) : Int))), (19, (vB false))] [(1023, a'7), (2001, a'9), (2002, a'10)] (by kernel_rfl) (by kernel_rfl) ?_
  refine AWp.cond_false rfl ?_
  refine AWp.skip ?_
  refine blockQ_normal ?_
  refine nextQ_normal ?_
  refine AWp.reg' hGn hGk [.m (some 20) ⟨[(14, (vI ((j : Nat) : Int)))], [], (vI ((j + 1 : Nat) : Int)), [], []⟩, .a] ⟨StepOK.p rfl rfl rfl (OpOK.add rfl rfl rfl (by rw [IntWalk.i64_in _ ⟨by omega, by omega⟩]; omega)), trivial⟩ [(0, (.ref 1023 0)), (5, (.p (.sl true 1 (ws.map D.cStr)))), (12, (.p (.sl true 1 (ws.map D.cStr)))), (13, (vI ((ws.length : Nat) : Int))), (14, (vI ((j + 1 : Nat) : Int)))] [(1023, a'7), (2001, a'9), (2002, a'10)] (by kernel_rfl) (by kernel_rfl) ?_
  refine nextQ_normal ⟨_, ?_, (j + 1), rfl, (by omega), rfl⟩
  · omega
 ·skip
  replace hc2 := of_decide_eq_false hc2
  refine AWp.weaken (mk [(0, (.ref 1023 0)), (5, (.p (.sl true 1 (ws.map D.cStr))))] [(1023, a'7), (2001, a'9), (2002, a'10)]) (Weak.sub' hGk (by kernel_rfl)) ?_
  refine AWp.exit ?_
  refine nextQ_exit ?_
  refine nextQ_exit ?_
  refine blockQ_exit ?_
  refine nextQ_normal ?_
  refine AWp.seq ?_
  refine AWp.s_reg hGn hGk [.a, .m (some 22) ⟨[(21, (.p (.sl true 1 (ws.map D.cStr))))], [], (.eptr [(pS (nth ws 0))]), [], []⟩, .a] ⟨StepOK.p rfl rfl rfl (OpOK.indexP (e := 9) rfl (by kernel_rfl) (by kernel_rfl) rfl rfl rfl (map_nth (show 0 < List.length ws by omega))), trivial⟩ [(0, (.ref 1023 0)), (5, (.p (.sl true 1 (ws.map D.cStr)))), (23, (vS (nth ws 0)))] [(1023, a'7), (2001, a'9), (2002, a'10)] (by kernel_rfl) (by kernel_rfl) ?_
  refine AWp.block ?_
  refine AWp.s_reg hGn hGk [.m (some 25) ⟨[(23, (vS (nth ws 0)))], [], (vB false), [], []⟩, .a] ⟨StepOK.p rfl rfl rfl (OpOK.eqlS rfl rfl rfl (decide_eq_false (by rw [e0]; decide))), trivial⟩ [(0, (.ref 1023 0)), (5, (.p (.sl true 1 (ws.map D.cStr)))), (23, (vS (nth ws 0))), (24, (vB false))] [(1023, a'7), (2001, a'9), (2002, a'10)] (by kernel_rfl) (by kernel_rfl) ?_
  refine AWp.cond_false rfl ?_
  refine AWp.s_reg hGn hGk [.m (some 30) ⟨[(23, (vS (nth ws 0)))], [], (vB false), [], []⟩, .a] ⟨StepOK.p rfl rfl rfl (OpOK.eqlS rfl rfl rfl (decide_eq_false (by rw [e0]; decide))), trivial⟩ [(0, (.ref 1023 0)), (5, (.p (.sl true 1 (ws.map D.cStr)))), (23, (vS (nth ws 0))), (29, (vB false))] [(1023, a'7), (2001, a'9), (2002, a'10)] (by kernel_rfl) (by kernel_rfl) ?_
  refine AWp.cond_false rfl ?_
  refine AWp.s_reg hGn hGk [.m (some 60) ⟨[(23, (vS (nth ws 0)))], [], (vB true), [], []⟩, .a] ⟨StepOK.p rfl rfl rfl (OpOK.eqlS rfl rfl rfl (decide_eq_true (by rw [e0]; rfl))), trivial⟩ [(0, (.ref 1023 0)), (5, (.p (.sl true 1 (ws.map D.cStr)))), (59, (vB true))] [(1023, a'7), (2001, a'9), (2002, a'10)] (by kernel_rfl) (by kernel_rfl) ?_
  refine AWp.cond_true rfl ?_
  refine AWp.s_reg hGn hGk [.a, .a, .m (some 63) ⟨[(61, (.ref 1023 0)), (62, (.p (.sl true 1 (ws.map D.cStr))))], [(1023, a'7), (2001, a'9), (2002, a'10)], (vI 0), [(1023, a'7), (2001, (.hole 3 ((b.Policies.take i2).map D.Policy.cells) [(vS ((nth b.Policies i2).Name)), (.own 2002 ((((nth b.Policies i2).Steps.take (k + 1)).map D.PolicyStep.cells).length)), (vI ((nth b.Policies i2).Repeat))] [])), (2002, (.arr 3 (((nth b.Policies i2).Steps.take (k + 1)).map D.PolicyStep.cells)))], []⟩, .a] ⟨StepOK.p rfl rfl rfl (OpOK.call rfl (by kernel_rfl) rfl (rd_stepk c b h hb i2 hi2 k hk ws hws) (by kernel_rfl)), trivial⟩ [(4, (vI 0))] [(1023, a'7), (2001, (.hole 3 ((b.Policies.take i2).map D.Policy.cells) [(vS ((nth b.Policies i2).Name)), (.own 2002 ((((nth b.Policies i2).Steps.take (k + 1)).map D.PolicyStep.cells).length)), (vI ((nth b.Policies i2).Repeat))] [])), (2002, (.arr 3 (((nth b.Policies i2).Steps.take (k + 1)).map D.PolicyStep.cells)))] (by kernel_rfl) (by kernel_rfl) ?_
  refine AWp.ret ?_
  refine blockQ_ret ?_
  refine nextQ_ret ?_
  refine fin_of (.inr rfl) (v := (vI 0)) (Res.tmp rfl rfl) (h' := [(1023, (.box [(.p (.sl false 3 (c.Zones.map D.Zone.cells))), (.p (.sl false 6 (c.People.map D.Person.cells))), (.p (.sl false 3 (c.Calendars.map D.Calendar.cells))), (.p (.sl false 3 (c.Schedules.map D.Schedule.cells))), (.p (.sl false 2 (b.Teams.map D.Team.cells))), (.own 2001 (((b.Policies.take (i2 + 1)).map D.Policy.cells).length))])), (2001, (.hole 3 ((b.Policies.take i2).map D.Policy.cells) [(vS ((nth b.Policies i2).Name)), (.own 2002 ((((nth b.Policies i2).Steps.take (k + 1)).map D.PolicyStep.cells).length)), (vI ((nth b.Policies i2).Repeat))] [])), (2002, (.arr 3 (((nth b.Policies i2).Steps.take (k + 1)).map D.PolicyStep.cells)))]) rfl rfl ?_
  exact ⟨rfl, rfl⟩
end Go.Proofs.YtimfbibaoppfcaaGreatDoor
