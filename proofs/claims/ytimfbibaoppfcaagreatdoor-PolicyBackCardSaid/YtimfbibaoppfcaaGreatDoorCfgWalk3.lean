/-
  The walk of resolve.Check for crews. Printed by wip/gen/pol.py.
-/
import Derived.Test.YtimfbibaoppfcaaGreatDoorCfgWalk2
set_option maxRecDepth 100000
set_option linter.unusedSimpArgs false
set_option linter.unusedVariables false
namespace Go.Proofs.YtimfbibaoppfcaaGreatDoor
open Go AM
theorem res_name1012 (t : ByteArray) (es es2 : List (ByteArray × Value)) (ht : nameOK t = true) (hno : lookS t es = none) (he : es ++ [(t, Value.bool true)] = es2) :
    SpecIs Tryz.prog 68 [(vS t), (.oref true 1012)] [(1012, (.obj (smap es)))] (vI 0) [(1012, (.obj (smap es2)))] := by
 refine Spec.intro Tryz.func68 rfl (by kernel_rfl) ?_
 intro Γ hGn hGk
 replace hGn : Γ.n = 13 := hGn
 replace hGk : Γ.names = [1012] := hGk
 refine AWp.weaken (mk [(0, (vS t)), (1, (.oref true 1012))] [(1012, (.obj (smap es)))]) (Weak.sub' hGk (by kernel_rfl)) ?_
 refine AWp.s_reg hGn hGk (aa 1) (Man.aa _ _) [(0, (vS t)), (1, (.oref true 1012))] [(1012, (.obj (smap es)))] (by kernel_rfl) (by kernel_rfl) ?_
 refine AWp.seq ?_
 refine AWp.s_reg hGn hGk [.a, .m (some 6) ⟨[(5, (vS t))], [], (vB true), [], []⟩, .a] ⟨StepOK.p rfl rfl rfl (OpOK.call rfl (by kernel_rfl) rfl (by have hq := (lex_Name t); rw [ht] at hq; exact hq) (by kernel_rfl)), trivial⟩ [(0, (vS t)), (1, (.oref true 1012)), (7, (vB false))] [(1012, (.obj (smap es)))] (by kernel_rfl) (by kernel_rfl) ?_
 refine AWp.cond_false rfl ?_
 refine AWp.skip ?_
 refine nextQ_normal ?_
 refine AWp.seq ?_
 refine AWp.s_reg hGn hGk [.a, .a, .m (some 10) ⟨[(8, (.oref true 1012)), (9, (vS t))], [(1012, (.obj (smap es)))], (vB false), [], []⟩] ⟨StepOK.p rfl rfl rfl (OpOK.lookup (K := 9) (E := 4) (z := (.bool false)) rfl (by kernel_rfl) (by kernel_rfl) (by kernel_rfl) rfl rfl (by rw [hno]; rfl) rfl), trivial⟩ [(0, (vS t)), (1, (.oref true 1012)), (10, (vB false))] [(1012, (.obj (smap es)))] (by kernel_rfl) (by kernel_rfl) ?_
 refine AWp.cond_false rfl ?_
 refine AWp.skip ?_
 refine nextQ_normal ?_
 refine AWp.s_reg hGn hGk [.a, .a, .m none ⟨[(11, (.oref true 1012)), (12, (vS t))], [(1012, (.obj (smap es)))], .any, [(1012, (.obj (smap es2)))], []⟩] ⟨StepOK.p rfl rfl rfl (OpOK.putS (K := 9) (E := 4) rfl (.inl rfl) (by kernel_rfl) (by kernel_rfl) rfl rfl rfl hno he), trivial⟩ [] [(1012, (.obj (smap es2)))] (by kernel_rfl) (by kernel_rfl) ?_
 refine AWp.s_reg hGn hGk (aa 1) (Man.aa _ _) [(4, (vI 0))] [(1012, (.obj (smap es2)))] (by kernel_rfl) (by kernel_rfl) ?_
 refine AWp.ret ?_
 refine fin_of (.inr rfl) (v := (vI 0)) (Res.tmp rfl rfl) (h' := [(1012, (.obj (smap es2)))]) rfl rfl ?_
 exact ⟨rfl, rfl⟩
theorem res_name1037 (t : ByteArray) (es es2 : List (ByteArray × Value)) (ht : nameOK t = true) (hno : lookS t es = none) (he : es ++ [(t, Value.bool true)] = es2) :
    SpecIs Tryz.prog 68 [(vS t), (.oref true 1037)] [(1037, (.obj (smap es)))] (vI 0) [(1037, (.obj (smap es2)))] := by
 refine Spec.intro Tryz.func68 rfl (by kernel_rfl) ?_
 intro Γ hGn hGk
 replace hGn : Γ.n = 13 := hGn
 replace hGk : Γ.names = [1037] := hGk
 refine AWp.weaken (mk [(0, (vS t)), (1, (.oref true 1037))] [(1037, (.obj (smap es)))]) (Weak.sub' hGk (by kernel_rfl)) ?_
 refine AWp.s_reg hGn hGk (aa 1) (Man.aa _ _) [(0, (vS t)), (1, (.oref true 1037))] [(1037, (.obj (smap es)))] (by kernel_rfl) (by kernel_rfl) ?_
 refine AWp.seq ?_
 refine AWp.s_reg hGn hGk [.a, .m (some 6) ⟨[(5, (vS t))], [], (vB true), [], []⟩, .a] ⟨StepOK.p rfl rfl rfl (OpOK.call rfl (by kernel_rfl) rfl (by have hq := (lex_Name t); rw [ht] at hq; exact hq) (by kernel_rfl)), trivial⟩ [(0, (vS t)), (1, (.oref true 1037)), (7, (vB false))] [(1037, (.obj (smap es)))] (by kernel_rfl) (by kernel_rfl) ?_
 refine AWp.cond_false rfl ?_
 refine AWp.skip ?_
 refine nextQ_normal ?_
 refine AWp.seq ?_
 refine AWp.s_reg hGn hGk [.a, .a, .m (some 10) ⟨[(8, (.oref true 1037)), (9, (vS t))], [(1037, (.obj (smap es)))], (vB false), [], []⟩] ⟨StepOK.p rfl rfl rfl (OpOK.lookup (K := 9) (E := 4) (z := (.bool false)) rfl (by kernel_rfl) (by kernel_rfl) (by kernel_rfl) rfl rfl (by rw [hno]; rfl) rfl), trivial⟩ [(0, (vS t)), (1, (.oref true 1037)), (10, (vB false))] [(1037, (.obj (smap es)))] (by kernel_rfl) (by kernel_rfl) ?_
 refine AWp.cond_false rfl ?_
 refine AWp.skip ?_
 refine nextQ_normal ?_
 refine AWp.s_reg hGn hGk [.a, .a, .m none ⟨[(11, (.oref true 1037)), (12, (vS t))], [(1037, (.obj (smap es)))], .any, [(1037, (.obj (smap es2)))], []⟩] ⟨StepOK.p rfl rfl rfl (OpOK.putS (K := 9) (E := 4) rfl (.inl rfl) (by kernel_rfl) (by kernel_rfl) rfl rfl rfl hno he), trivial⟩ [] [(1037, (.obj (smap es2)))] (by kernel_rfl) (by kernel_rfl) ?_
 refine AWp.s_reg hGn hGk (aa 1) (Man.aa _ _) [(4, (vI 0))] [(1037, (.obj (smap es2)))] (by kernel_rfl) (by kernel_rfl) ?_
 refine AWp.ret ?_
 refine fin_of (.inr rfl) (v := (vI 0)) (Res.tmp rfl rfl) (h' := [(1037, (.obj (smap es2)))]) rfl rfl ?_
 exact ⟨rfl, rfl⟩
theorem res_of_Check_1 (z : D.Zone) :
    SpecIs Tryz.prog 66 [(.agg [(vS z.Name), (vI z.Offset), (.p (.sl false 7 (z.Rules.map D.YearRule.cells)))])] [] (vS z.Name) [] := by
 refine Spec.intro Tryz.func66 rfl (by kernel_rfl) ?_
 intro Γ hGn hGk
 replace hGn : Γ.n = 5 := hGn
 replace hGk : Γ.names = [] := hGk
 refine AWp.weaken (mk [(0, (.agg [(vS z.Name), (vI z.Offset), (.p (.sl false 7 (z.Rules.map D.YearRule.cells)))]))] []) (Weak.sub' hGk (by kernel_rfl)) ?_
 refine AWp.s_reg hGn hGk (aa 2) (Man.aa _ _) [(1, (.ref 1001 0))] [(1001, (.box [(vS z.Name), (vI z.Offset), (.p (.sl false 7 (z.Rules.map D.YearRule.cells)))]))] (by kernel_rfl) (by kernel_rfl) ?_
 refine AWp.s_reg hGn hGk (aa 3) (Man.aa _ _) [(2, (vS z.Name))] [] (by kernel_rfl) (by kernel_rfl) ?_
 refine AWp.ret ?_
 refine fin_of (.inr rfl) (v := (vS z.Name)) (Res.tmp rfl rfl) (h' := []) rfl rfl ?_
 exact ⟨rfl, rfl⟩
theorem res_of_Check_4 (z : D.Schedule) :
    SpecIs Tryz.prog 75 [(.agg [(vS z.Name), (.p (.sl false 10 (z.Layers.map D.Layer.cells))), (.p (.sl false 5 (z.Edits.map D.Edit.cells)))])] [] (vS z.Name) [] := by
 refine Spec.intro Tryz.func75 rfl (by kernel_rfl) ?_
 intro Γ hGn hGk
 replace hGn : Γ.n = 5 := hGn
 replace hGk : Γ.names = [] := hGk
 refine AWp.weaken (mk [(0, (.agg [(vS z.Name), (.p (.sl false 10 (z.Layers.map D.Layer.cells))), (.p (.sl false 5 (z.Edits.map D.Edit.cells)))]))] []) (Weak.sub' hGk (by kernel_rfl)) ?_
 refine AWp.s_reg hGn hGk (aa 2) (Man.aa _ _) [(1, (.ref 1001 0))] [(1001, (.box [(vS z.Name), (.p (.sl false 10 (z.Layers.map D.Layer.cells))), (.p (.sl false 5 (z.Edits.map D.Edit.cells)))]))] (by kernel_rfl) (by kernel_rfl) ?_
 refine AWp.s_reg hGn hGk (aa 3) (Man.aa _ _) [(2, (vS z.Name))] [] (by kernel_rfl) (by kernel_rfl) ?_
 refine AWp.ret ?_
 refine fin_of (.inr rfl) (v := (vS z.Name)) (Res.tmp rfl rfl) (h' := []) rfl rfl ?_
 exact ⟨rfl, rfl⟩
theorem res_of_checkSchedule_1 (z : D.Layer) :
    SpecIs Tryz.prog 111 [(.agg [(vS z.Name), (vI z.Zone), (vI z.Start.Day), (vI z.Start.Second), (vI z.Unit), (vI z.Every), (.p (.sl false 1 (z.Members.map D.cInt))), (.p (.sl false 2 (z.Windows.map D.Window.cells))), (vI z.Calendar), (vI z.Mode)])] [] (vS z.Name) [] := by
 refine Spec.intro Tryz.func111 rfl (by kernel_rfl) ?_
 intro Γ hGn hGk
 replace hGn : Γ.n = 5 := hGn
 replace hGk : Γ.names = [] := hGk
 refine AWp.weaken (mk [(0, (.agg [(vS z.Name), (vI z.Zone), (vI z.Start.Day), (vI z.Start.Second), (vI z.Unit), (vI z.Every), (.p (.sl false 1 (z.Members.map D.cInt))), (.p (.sl false 2 (z.Windows.map D.Window.cells))), (vI z.Calendar), (vI z.Mode)]))] []) (Weak.sub' hGk (by kernel_rfl)) ?_
 refine AWp.s_reg hGn hGk (aa 2) (Man.aa _ _) [(1, (.ref 1001 0))] [(1001, (.box [(vS z.Name), (vI z.Zone), (vI z.Start.Day), (vI z.Start.Second), (vI z.Unit), (vI z.Every), (.p (.sl false 1 (z.Members.map D.cInt))), (.p (.sl false 2 (z.Windows.map D.Window.cells))), (vI z.Calendar), (vI z.Mode)]))] (by kernel_rfl) (by kernel_rfl) ?_
 refine AWp.s_reg hGn hGk (aa 3) (Man.aa _ _) [(2, (vS z.Name))] [] (by kernel_rfl) (by kernel_rfl) ?_
 refine AWp.ret ?_
 refine fin_of (.inr rfl) (v := (vS z.Name)) (Res.tmp rfl rfl) (h' := []) rfl rfl ?_
 exact ⟨rfl, rfl⟩
theorem nm_zone (c : D.Config) (h : CfgOK c) :
    SpecIs Tryz.prog 65 [(.p (.sl false 3 (c.Zones.map D.Zone.cells))), (.p (.v (.func (.func 66) #[] #[]))), (.p (.v (.func (.func 67) #[] #[])))] [] (vI 0) [] := by
 refine Spec.intro Tryz.func65 rfl (by kernel_rfl) ?_
 intro Γ hGn hGk
 replace hGn : Γ.n = 34 := hGn
 replace hGk : Γ.names = [] := hGk
 have hz1 := h.zlen
 have hzo := h.zoff
 let a'1 : AV := (.p (.sl false 3 (c.Zones.map D.Zone.cells)))
 refine AWp.weaken (mk [(0, a'1), (1, (.p (.v (.func (.func 66) #[] #[])))), (2, (.p (.v (.func (.func 67) #[] #[]))))] []) (Weak.sub' hGk (by kernel_rfl)) ?_
 refine AWp.s_reg hGn hGk (aa 1) (Man.aa _ _) [(0, a'1), (1, (.p (.v (.func (.func 66) #[] #[])))), (2, (.p (.v (.func (.func 67) #[] #[]))))] [] (by kernel_rfl) (by kernel_rfl) ?_
 refine AWp.s_reg hGn hGk [.m (some 12) ⟨[], [], (.oref true 1012), [(1012, (.obj (smap [])))], [1012]⟩, .a] ⟨StepOK.p rfl rfl rfl (OpOK.makeMap rfl), trivial⟩ [(0, a'1), (1, (.p (.v (.func (.func 66) #[] #[])))), (2, (.p (.v (.func (.func 67) #[] #[])))), (7, (.oref true 1012))] [(1012, (.obj (smap [])))] (by kernel_rfl) (by kernel_rfl) ?_
 refine AWp.seq ?_
 refine AWp.s_reg hGn hGk [.a, .m (some 14) ⟨[(13, a'1)], [], (vI ((c.Zones.length : Nat) : Int)), [], []⟩, .a] ⟨StepOK.p rfl rfl rfl (OpOK.lenP (e := 72) rfl rfl (by kernel_rfl) rfl (by rw [List.length_map])), trivial⟩ [(1, (.p (.v (.func (.func 66) #[] #[])))), (2, (.p (.v (.func (.func 67) #[] #[])))), (7, (.oref true 1012)), (13, a'1), (14, (vI ((c.Zones.length : Nat) : Int))), (15, (vI 0))] [(1012, (.obj (smap [])))] (by kernel_rfl) (by kernel_rfl) ?_
 refine AWp.block ?_
 refine AWp.loop (fun m s => ∃ i, s = (mk [(1, (.p (.v (.func (.func 66) #[] #[])))), (2, (.p (.v (.func (.func 67) #[] #[])))), (7, (.oref true 1012)), (13, (.p (.sl false 3 (c.Zones.map D.Zone.cells)))), (14, (vI ((c.Zones.length : Nat) : Int))), (15, (vI ((i : Nat) : Int)))] [(1012, (.obj (smap (ents [(nth c.Zones 0).Name] i))))]) ∧ (i ≤ c.Zones.length) ∧ m = (c.Zones.length - i))
  ⟨_, 0, rfl, (by omega), rfl⟩ ?_
 rintro mm1 s ⟨i, rfl, hi, hmm1⟩
 let a'2 : AO := (.obj (smap (ents [(nth c.Zones 0).Name] i)))
 refine AWp.s_reg hGn hGk (aa 1) (Man.aa _ _) [(1, (.p (.v (.func (.func 66) #[] #[])))), (2, (.p (.v (.func (.func 67) #[] #[])))), (7, (.oref true 1012)), (13, a'1), (14, (vI ((c.Zones.length : Nat) : Int))), (15, (vI ((i : Nat) : Int))), (16, (vB (decide (((i : Nat) : Int) < ((c.Zones.length : Nat) : Int)))))] [(1012, a'2)] (by kernel_rfl) (by kernel_rfl) ?_
 refine AWp.seq ?_
 refine AWp.cond (decide (((i : Nat) : Int) < ((c.Zones.length : Nat) : Int))) rfl (fun hc2 => ?_) (fun hc2 => ?_)
 ·skip
  replace hc2 := of_decide_eq_true hc2
  refine AWp.skip ?_
  refine nextQ_normal ?_
  refine AWp.seq ?_
  refine AWp.block ?_
  have hi0 : i = 0 := by omega
  have hf := h.zfacts (i := i) (by omega)
  let a'3 : AV := (.p (.sl false 7 (((nth c.Zones i).Rules).map D.YearRule.cells)))
  let a'4 : AO := (.box [(vS ((nth c.Zones i).Name)), (vI ((nth c.Zones i).Offset)), a'3])
  refine AWp.s_reg hGn hGk [.m (some 17) ⟨[(13, a'1), (15, (vI ((i : Nat) : Int)))], [], (.eptr [(pS ((nth c.Zones i).Name)), (pI ((nth c.Zones i).Offset)), (.sl false 7 (((nth c.Zones i).Rules).map D.YearRule.cells))]), [], []⟩, .a, .a, .a] ⟨StepOK.p rfl rfl rfl (OpOK.indexP (e := 72) rfl (by kernel_rfl) (by kernel_rfl) rfl rfl rfl (map_nth (by omega))), trivial⟩ [(1, (.p (.v (.func (.func 66) #[] #[])))), (2, (.p (.v (.func (.func 67) #[] #[])))), (7, (.oref true 1012)), (9, (.ref 1009 0)), (13, a'1), (14, (vI ((c.Zones.length : Nat) : Int))), (15, (vI ((i : Nat) : Int)))] [(1012, a'2), (1009, a'4)] (by kernel_rfl) (by kernel_rfl) ?_
  refine AWp.seq ?_
  let a'5 : AO := (.obj (smap (ents [(nth c.Zones 0).Name] (i + 1))))
  refine AWp.s_reg hGn hGk [.a, .a, .m (some 21) ⟨[(19, (.p (.v (.func (.func 66) #[] #[])))), (20, (.agg [(vS ((nth c.Zones i).Name)), (vI ((nth c.Zones i).Offset)), a'3]))], [], (vS ((nth c.Zones i).Name)), [], []⟩, .a, .m (some 23) ⟨[(21, (vS ((nth c.Zones i).Name))), (22, (.oref true 1012))], [(1012, a'2)], (vI 0), [(1012, a'5)], []⟩, .a] ⟨StepOK.p rfl rfl rfl (OpOK.callFv rfl rfl (by kernel_rfl) rfl (res_of_Check_1 (nth c.Zones i)) (by kernel_rfl)),
   StepOK.p rfl rfl rfl (OpOK.call rfl (by kernel_rfl) rfl (res_name1012 ((nth c.Zones i).Name) (ents [(nth c.Zones 0).Name] i) (ents [(nth c.Zones 0).Name] (i + 1)) hf.1 hf.2.1 hf.2.2) (by kernel_rfl)), trivial⟩ [(1, (.p (.v (.func (.func 66) #[] #[])))), (2, (.p (.v (.func (.func 67) #[] #[])))), (7, (.oref true 1012)), (9, (.ref 1009 0)), (10, (vI 0)), (13, a'1), (14, (vI ((c.Zones.length : Nat) : Int))), (15, (vI ((i : Nat) : Int)))] [(1012, a'5), (1009, a'4)] (by kernel_rfl) (by kernel_rfl) ?_
  refine AWp.s_reg hGn hGk (aa 2) (Man.aa _ _) [(1, (.p (.v (.func (.func 66) #[] #[])))), (2, (.p (.v (.func (.func 67) #[] #[])))), (7, (.oref true 1012)), (9, (.ref 1009 0)), (10, (vI 0)), (13, a'1), (14, (vI ((c.Zones.length : Nat) : Int))), (15, (vI ((i : Nat) : Int))), (25, (vB false))] [(1012, a'5), (1009, a'4)] (by kernel_rfl) (by kernel_rfl) ?_
  refine AWp.cond_false rfl ?_
  refine AWp.skip ?_
  refine nextQ_normal ?_
  refine AWp.s_reg hGn hGk [.a, .a, .m (some 29) ⟨[(27, (.p (.v (.func (.func 67) #[] #[])))), (28, (.agg [(vS ((nth c.Zones i).Name)), (vI ((nth c.Zones i).Offset)), a'3]))], [], (vI 0), [], []⟩, .a] ⟨StepOK.p rfl rfl rfl (OpOK.callFv rfl rfl (by kernel_rfl) rfl (res_zone (nth c.Zones i) (by rw [hi0]; exact h.zrules) (by rw [hi0]; omega) (by rw [hi0]; omega)) (by kernel_rfl)), trivial⟩ [(1, (.p (.v (.func (.func 66) #[] #[])))), (2, (.p (.v (.func (.func 67) #[] #[])))), (7, (.oref true 1012)), (11, (vI 0)), (13, a'1), (14, (vI ((c.Zones.length : Nat) : Int))), (15, (vI ((i : Nat) : Int)))] [(1012, a'5)] (by kernel_rfl) (by kernel_rfl) ?_
  refine AWp.s_reg hGn hGk (aa 2) (Man.aa _ _) [(1, (.p (.v (.func (.func 66) #[] #[])))), (2, (.p (.v (.func (.func 67) #[] #[])))), (7, (.oref true 1012)), (11, (vI 0)), (13, a'1), (14, (vI ((c.Zones.length : Nat) : Int))), (15, (vI ((i : Nat) : Int))), (31, (vB false))] [(1012, a'5)] (by kernel_rfl) (by kernel_rfl) ?_
  refine AWp.cond_false rfl ?_
  refine AWp.skip ?_
  refine blockQ_normal ?_
  refine nextQ_normal ?_
  refine AWp.reg' hGn hGk [.m (some 33) ⟨[(15, (vI ((i : Nat) : Int)))], [], (vI ((i + 1 : Nat) : Int)), [], []⟩, .a] ⟨StepOK.p rfl rfl rfl (OpOK.add rfl rfl rfl (by rw [IntWalk.i64_in _ ⟨by omega, by omega⟩]; omega)), trivial⟩ [(1, (.p (.v (.func (.func 66) #[] #[])))), (2, (.p (.v (.func (.func 67) #[] #[])))), (7, (.oref true 1012)), (13, a'1), (14, (vI ((c.Zones.length : Nat) : Int))), (15, (vI ((i + 1 : Nat) : Int)))] [(1012, a'5)] (by kernel_rfl) (by kernel_rfl) ?_
  refine nextQ_normal ⟨_, ?_, (i + 1), rfl, (by omega), rfl⟩
  · omega
 ·skip
  replace hc2 := of_decide_eq_false hc2
  refine AWp.weaken (mk [] []) (Weak.sub' hGk (by kernel_rfl)) ?_
  refine AWp.exit ?_
  refine nextQ_exit ?_
  refine nextQ_exit ?_
  refine blockQ_exit ?_
  refine nextQ_normal ?_
  refine AWp.s_reg hGn hGk (aa 1) (Man.aa _ _) [(6, (vI 0))] [] (by kernel_rfl) (by kernel_rfl) ?_
  refine AWp.ret ?_
  refine fin_of (.inr rfl) (v := (vI 0)) (Res.tmp rfl rfl) (h' := []) rfl rfl ?_
  exact ⟨rfl, rfl⟩
theorem res_laych (c : D.Config) (l : D.Layer) (hl : LayerOK 4 l) (h : CfgOK c) :
    SpecIs Tryz.prog 112 [(.agg [(vS l.Name), (vI l.Zone), (vI l.Start.Day), (vI l.Start.Second), (vI l.Unit), (vI l.Every), (.p (.sl false 1 (l.Members.map D.cInt))), (.p (.sl false 2 (l.Windows.map D.Window.cells))), (vI l.Calendar), (vI l.Mode)]), (.ref 1002 0)] [(1002, (.box [(.p (.sl false 3 (c.Zones.map D.Zone.cells))), (.p (.sl false 6 (c.People.map D.Person.cells))), (.p (.sl false 3 (c.Calendars.map D.Calendar.cells))), (.p (.sl false 3 (c.Schedules.map D.Schedule.cells)))]))] (vI 0) [(1002, (.box [(.p (.sl false 3 (c.Zones.map D.Zone.cells))), (.p (.sl false 6 (c.People.map D.Person.cells))), (.p (.sl false 3 (c.Calendars.map D.Calendar.cells))), (.p (.sl false 3 (c.Schedules.map D.Schedule.cells)))]))] := by
 refine Spec.intro Tryz.func112 rfl (by kernel_rfl) ?_
 intro Γ hGn hGk
 replace hGn : Γ.n = 7 := hGn
 replace hGk : Γ.names = [1002] := hGk
 let a'1 : AV := (.p (.sl false 1 (l.Members.map D.cInt)))
 let a'2 : AV := (.p (.sl false 2 (l.Windows.map D.Window.cells)))
 let a'3 : AV := (.agg [(vS l.Name), (vI l.Zone), (vI l.Start.Day), (vI l.Start.Second), (vI l.Unit), (vI l.Every), a'1, a'2, (vI l.Calendar), (vI l.Mode)])
 let a'4 : AV := (.p (.sl false 3 (c.Zones.map D.Zone.cells)))
 let a'5 : AV := (.p (.sl false 6 (c.People.map D.Person.cells)))
 let a'6 : AV := (.p (.sl false 3 (c.Calendars.map D.Calendar.cells)))
 let a'7 : AV := (.p (.sl false 3 (c.Schedules.map D.Schedule.cells)))
 let a'8 : AO := (.box [a'4, a'5, a'6, a'7])
 refine AWp.weaken (mk [(0, a'3), (1, (.ref 1002 0))] [(1002, a'8)]) (Weak.sub' hGk (by kernel_rfl)) ?_
 refine AWp.s_reg hGn hGk [.m (some 2) ⟨[(0, a'3)], [], (.ref 5002 0), [(5002, (.box [(vS l.Name), (vI l.Zone), (vI l.Start.Day), (vI l.Start.Second), (vI l.Unit), (vI l.Every), a'1, a'2, (vI l.Calendar), (vI l.Mode)]))], [5002]⟩, .a] ⟨StepOK.p rfl rfl rfl (OpOK.box rfl rfl rfl), trivial⟩ [(1, (.ref 1002 0)), (2, (.ref 5002 0))] [(1002, a'8), (5002, (.box [(vS l.Name), (vI l.Zone), (vI l.Start.Day), (vI l.Start.Second), (vI l.Unit), (vI l.Every), a'1, a'2, (vI l.Calendar), (vI l.Mode)]))] (by kernel_rfl) (by kernel_rfl) ?_
 refine AWp.s_reg hGn hGk [.a, .a, .m (some 6) ⟨[(4, (.agg [a'4, a'5, a'6, a'7])), (5, a'3)], [], (vI 0), [], []⟩, .a] ⟨StepOK.p rfl rfl rfl (OpOK.call rfl (by kernel_rfl) rfl (res_layer c l hl h.zlen h.plen) (by kernel_rfl)), trivial⟩ [(3, (vI 0))] [(1002, a'8)] (by kernel_rfl) (by kernel_rfl) ?_
 refine AWp.ret ?_
 refine fin_of (.inr rfl) (v := (vI 0)) (Res.tmp rfl rfl) (h' := [(1002, (.box [(.p (.sl false 3 (c.Zones.map D.Zone.cells))), (.p (.sl false 6 (c.People.map D.Person.cells))), (.p (.sl false 3 (c.Calendars.map D.Calendar.cells))), (.p (.sl false 3 (c.Schedules.map D.Schedule.cells)))]))]) rfl rfl ?_
 exact ⟨rfl, rfl⟩
theorem nm_layer (c : D.Config) (h : CfgOK c) (k : Nat) (hk : k < 2) :
    SpecIs Tryz.prog 110 [(.p (.sl false 10 (((nth c.Schedules k).Layers).map D.Layer.cells))), (.p (.v (.func (.func 111) #[] #[]))), (.clo (.func 112) [] [(.ref 1002 0)])] [(1002, (.box [(.p (.sl false 3 (c.Zones.map D.Zone.cells))), (.p (.sl false 6 (c.People.map D.Person.cells))), (.p (.sl false 3 (c.Calendars.map D.Calendar.cells))), (.p (.sl false 3 (c.Schedules.map D.Schedule.cells)))]))] (vI 0) [(1002, (.box [(.p (.sl false 3 (c.Zones.map D.Zone.cells))), (.p (.sl false 6 (c.People.map D.Person.cells))), (.p (.sl false 3 (c.Calendars.map D.Calendar.cells))), (.p (.sl false 3 (c.Schedules.map D.Schedule.cells)))]))] := by
 refine Spec.intro Tryz.func110 rfl (by kernel_rfl) ?_
 intro Γ hGn hGk
 replace hGn : Γ.n = 34 := hGn
 replace hGk : Γ.names = [1002] := hGk
 have hl1 := (h.lay k hk).1
 let a'1 : AV := (.p (.sl false 10 (((nth c.Schedules k).Layers).map D.Layer.cells)))
 let a'2 : AV := (.clo (.func 112) [] [(.ref 1002 0)])
 let a'3 : AV := (.p (.sl false 3 (c.Zones.map D.Zone.cells)))
 let a'4 : AV := (.p (.sl false 6 (c.People.map D.Person.cells)))
 let a'5 : AV := (.p (.sl false 3 (c.Calendars.map D.Calendar.cells)))
 let a'6 : AV := (.p (.sl false 3 (c.Schedules.map D.Schedule.cells)))
 let a'7 : AO := (.box [a'3, a'4, a'5, a'6])
 refine AWp.weaken (mk [(0, a'1), (1, (.p (.v (.func (.func 111) #[] #[])))), (2, a'2)] [(1002, a'7)]) (Weak.sub' hGk (by kernel_rfl)) ?_
 refine AWp.s_reg hGn hGk (aa 1) (Man.aa _ _) [(0, a'1), (1, (.p (.v (.func (.func 111) #[] #[])))), (2, a'2)] [(1002, a'7)] (by kernel_rfl) (by kernel_rfl) ?_
 refine AWp.s_reg hGn hGk [.m (some 12) ⟨[], [], (.oref true 1012), [(1012, (.obj (smap [])))], [1012]⟩, .a] ⟨StepOK.p rfl rfl rfl (OpOK.makeMap rfl), trivial⟩ [(0, a'1), (1, (.p (.v (.func (.func 111) #[] #[])))), (2, a'2), (7, (.oref true 1012))] [(1002, a'7), (1012, (.obj (smap [])))] (by kernel_rfl) (by kernel_rfl) ?_
 refine AWp.seq ?_
 refine AWp.s_reg hGn hGk [.a, .m (some 14) ⟨[(13, a'1)], [], (vI ((((nth c.Schedules k).Layers).length : Nat) : Int)), [], []⟩, .a] ⟨StepOK.p rfl rfl rfl (OpOK.lenP (e := 81) rfl rfl (by kernel_rfl) rfl (by rw [List.length_map])), trivial⟩ [(1, (.p (.v (.func (.func 111) #[] #[])))), (2, a'2), (7, (.oref true 1012)), (13, a'1), (14, (vI ((((nth c.Schedules k).Layers).length : Nat) : Int))), (15, (vI 0))] [(1002, a'7), (1012, (.obj (smap [])))] (by kernel_rfl) (by kernel_rfl) ?_
 refine AWp.block ?_
 refine AWp.loop (fun m s => ∃ i, s = (mk [(1, (.p (.v (.func (.func 111) #[] #[])))), (2, (.clo (.func 112) [] [(.ref 1002 0)])), (7, (.oref true 1012)), (13, (.p (.sl false 10 (((nth c.Schedules k).Layers).map D.Layer.cells)))), (14, (vI ((((nth c.Schedules k).Layers).length : Nat) : Int))), (15, (vI ((i : Nat) : Int)))] [(1002, (.box [(.p (.sl false 3 (c.Zones.map D.Zone.cells))), (.p (.sl false 6 (c.People.map D.Person.cells))), (.p (.sl false 3 (c.Calendars.map D.Calendar.cells))), (.p (.sl false 3 (c.Schedules.map D.Schedule.cells)))])), (1012, (.obj (smap (ents [(nth (nth c.Schedules k).Layers 0).Name] i))))]) ∧ (i ≤ (nth c.Schedules k).Layers.length) ∧ m = ((nth c.Schedules k).Layers.length - i))
  ⟨_, 0, rfl, (by omega), rfl⟩ ?_
 rintro mm1 s ⟨i, rfl, hi, hmm1⟩
 let a'8 : AO := (.obj (smap (ents [(nth (nth c.Schedules k).Layers 0).Name] i)))
 refine AWp.s_reg hGn hGk (aa 1) (Man.aa _ _) [(1, (.p (.v (.func (.func 111) #[] #[])))), (2, a'2), (7, (.oref true 1012)), (13, a'1), (14, (vI ((((nth c.Schedules k).Layers).length : Nat) : Int))), (15, (vI ((i : Nat) : Int))), (16, (vB (decide (((i : Nat) : Int) < ((((nth c.Schedules k).Layers).length : Nat) : Int)))))] [(1002, a'7), (1012, a'8)] (by kernel_rfl) (by kernel_rfl) ?_
 refine AWp.seq ?_
 refine AWp.cond (decide (((i : Nat) : Int) < ((((nth c.Schedules k).Layers).length : Nat) : Int))) rfl (fun hc2 => ?_) (fun hc2 => ?_)
 ·skip
  replace hc2 := of_decide_eq_true hc2
  refine AWp.skip ?_
  refine nextQ_normal ?_
  refine AWp.seq ?_
  refine AWp.block ?_
  have hi0 : i = 0 := by omega
  have hf := h.lfacts hk (i := i) (by omega)
  let a'9 : AV := (.p (.sl false 1 (((nth ((nth c.Schedules k).Layers) i).Members).map D.cInt)))
  let a'10 : AV := (.p (.sl false 2 (((nth ((nth c.Schedules k).Layers) i).Windows).map D.Window.cells)))
  let a'11 : AO := (.box [(vS ((nth ((nth c.Schedules k).Layers) i).Name)), (vI ((nth ((nth c.Schedules k).Layers) i).Zone)), (vI (((nth ((nth c.Schedules k).Layers) i).Start).Day)), (vI (((nth ((nth c.Schedules k).Layers) i).Start).Second)), (vI ((nth ((nth c.Schedules k).Layers) i).Unit)), (vI ((nth ((nth c.Schedules k).Layers) i).Every)), a'9, a'10, (vI ((nth ((nth c.Schedules k).Layers) i).Calendar)), (vI ((nth ((nth c.Schedules k).Layers) i).Mode))])
  refine AWp.s_reg hGn hGk [.m (some 17) ⟨[(13, a'1), (15, (vI ((i : Nat) : Int)))], [], (.eptr [(pS ((nth ((nth c.Schedules k).Layers) i).Name)), (pI ((nth ((nth c.Schedules k).Layers) i).Zone)), (pI (((nth ((nth c.Schedules k).Layers) i).Start).Day)), (pI (((nth ((nth c.Schedules k).Layers) i).Start).Second)), (pI ((nth ((nth c.Schedules k).Layers) i).Unit)), (pI ((nth ((nth c.Schedules k).Layers) i).Every)), (.sl false 1 (((nth ((nth c.Schedules k).Layers) i).Members).map D.cInt)), (.sl false 2 (((nth ((nth c.Schedules k).Layers) i).Windows).map D.Window.cells)), (pI ((nth ((nth c.Schedules k).Layers) i).Calendar)), (pI ((nth ((nth c.Schedules k).Layers) i).Mode))]), [], []⟩, .a, .a, .a] ⟨StepOK.p rfl rfl rfl (OpOK.indexP (e := 81) rfl (by kernel_rfl) (by kernel_rfl) rfl rfl rfl (map_nth (by omega))), trivial⟩ [(1, (.p (.v (.func (.func 111) #[] #[])))), (2, a'2), (7, (.oref true 1012)), (9, (.ref 1009 0)), (13, a'1), (14, (vI ((((nth c.Schedules k).Layers).length : Nat) : Int))), (15, (vI ((i : Nat) : Int)))] [(1002, a'7), (1012, a'8), (1009, a'11)] (by kernel_rfl) (by kernel_rfl) ?_
  refine AWp.seq ?_
  let a'12 : AO := (.obj (smap (ents [(nth (nth c.Schedules k).Layers 0).Name] (i + 1))))
  refine AWp.s_reg hGn hGk [.a, .a, .m (some 21) ⟨[(19, (.p (.v (.func (.func 111) #[] #[])))), (20, (.agg [(vS ((nth ((nth c.Schedules k).Layers) i).Name)), (vI ((nth ((nth c.Schedules k).Layers) i).Zone)), (vI (((nth ((nth c.Schedules k).Layers) i).Start).Day)), (vI (((nth ((nth c.Schedules k).Layers) i).Start).Second)), (vI ((nth ((nth c.Schedules k).Layers) i).Unit)), (vI ((nth ((nth c.Schedules k).Layers) i).Every)), a'9, a'10, (vI ((nth ((nth c.Schedules k).Layers) i).Calendar)), (vI ((nth ((nth c.Schedules k).Layers) i).Mode))]))], [], (vS ((⟨(nth ((nth c.Schedules k).Layers) i).Name, (nth ((nth c.Schedules k).Layers) i).Zone, ((nth ((nth c.Schedules k).Layers) i).Start), (nth ((nth c.Schedules k).Layers) i).Unit, (nth ((nth c.Schedules k).Layers) i).Every, (nth ((nth c.Schedules k).Layers) i).Members, (nth ((nth c.Schedules k).Layers) i).Windows, (nth ((nth c.Schedules k).Layers) i).Calendar, (nth ((nth c.Schedules k).Layers) i).Mode⟩ : D.Layer).Name)), [], []⟩, .a, .m (some 23) ⟨[(21, (vS ((⟨(nth ((nth c.Schedules k).Layers) i).Name, (nth ((nth c.Schedules k).Layers) i).Zone, ((nth ((nth c.Schedules k).Layers) i).Start), (nth ((nth c.Schedules k).Layers) i).Unit, (nth ((nth c.Schedules k).Layers) i).Every, (nth ((nth c.Schedules k).Layers) i).Members, (nth ((nth c.Schedules k).Layers) i).Windows, (nth ((nth c.Schedules k).Layers) i).Calendar, (nth ((nth c.Schedules k).Layers) i).Mode⟩ : D.Layer).Name))), (22, (.oref true 1012))], [(1012, a'8)], (vI 0), [(1012, a'12)], []⟩, .a] ⟨StepOK.p rfl rfl rfl (OpOK.callFv rfl rfl (by kernel_rfl) rfl (res_of_checkSchedule_1 (⟨(nth ((nth c.Schedules k).Layers) i).Name, (nth ((nth c.Schedules k).Layers) i).Zone, ((nth ((nth c.Schedules k).Layers) i).Start), (nth ((nth c.Schedules k).Layers) i).Unit, (nth ((nth c.Schedules k).Layers) i).Every, (nth ((nth c.Schedules k).Layers) i).Members, (nth ((nth c.Schedules k).Layers) i).Windows, (nth ((nth c.Schedules k).Layers) i).Calendar, (nth ((nth c.Schedules k).Layers) i).Mode⟩ : D.Layer)) (by kernel_rfl)),
   StepOK.p rfl rfl rfl (OpOK.call rfl (by kernel_rfl) rfl (res_name1012 ((⟨(nth ((nth c.Schedules k).Layers) i).Name, (nth ((nth c.Schedules k).Layers) i).Zone, ((nth ((nth c.Schedules k).Layers) i).Start), (nth ((nth c.Schedules k).Layers) i).Unit, (nth ((nth c.Schedules k).Layers) i).Every, (nth ((nth c.Schedules k).Layers) i).Members, (nth ((nth c.Schedules k).Layers) i).Windows, (nth ((nth c.Schedules k).Layers) i).Calendar, (nth ((nth c.Schedules k).Layers) i).Mode⟩ : D.Layer).Name) (ents [(nth (nth c.Schedules k).Layers 0).Name] i) (ents [(nth (nth c.Schedules k).Layers 0).Name] (i + 1)) hf.1 hf.2.1 hf.2.2) (by kernel_rfl)), trivial⟩ [(1, (.p (.v (.func (.func 111) #[] #[])))), (2, a'2), (7, (.oref true 1012)), (9, (.ref 1009 0)), (10, (vI 0)), (13, a'1), (14, (vI ((((nth c.Schedules k).Layers).length : Nat) : Int))), (15, (vI ((i : Nat) : Int)))] [(1002, a'7), (1012, a'12), (1009, a'11)] (by kernel_rfl) (by kernel_rfl) ?_
  refine AWp.s_reg hGn hGk (aa 2) (Man.aa _ _) [(1, (.p (.v (.func (.func 111) #[] #[])))), (2, a'2), (7, (.oref true 1012)), (9, (.ref 1009 0)), (10, (vI 0)), (13, a'1), (14, (vI ((((nth c.Schedules k).Layers).length : Nat) : Int))), (15, (vI ((i : Nat) : Int))), (25, (vB false))] [(1002, a'7), (1012, a'12), (1009, a'11)] (by kernel_rfl) (by kernel_rfl) ?_
  refine AWp.cond_false rfl ?_
  refine AWp.skip ?_
  refine nextQ_normal ?_
  refine AWp.s_reg hGn hGk [.a, .a, .m (some 29) ⟨[(27, a'2), (28, (.agg [(vS ((nth ((nth c.Schedules k).Layers) i).Name)), (vI ((nth ((nth c.Schedules k).Layers) i).Zone)), (vI (((nth ((nth c.Schedules k).Layers) i).Start).Day)), (vI (((nth ((nth c.Schedules k).Layers) i).Start).Second)), (vI ((nth ((nth c.Schedules k).Layers) i).Unit)), (vI ((nth ((nth c.Schedules k).Layers) i).Every)), a'9, a'10, (vI ((nth ((nth c.Schedules k).Layers) i).Calendar)), (vI ((nth ((nth c.Schedules k).Layers) i).Mode))]))], [(1002, a'7)], (vI 0), [(1002, a'7)], []⟩, .a] ⟨StepOK.p rfl rfl rfl (OpOK.callClo rfl rfl (by kernel_rfl) rfl (res_laych c (nth (nth c.Schedules k).Layers i) (by rw [hi0]; exact (h.lay k hk).2) h) (by kernel_rfl)), trivial⟩ [(1, (.p (.v (.func (.func 111) #[] #[])))), (2, a'2), (7, (.oref true 1012)), (11, (vI 0)), (13, a'1), (14, (vI ((((nth c.Schedules k).Layers).length : Nat) : Int))), (15, (vI ((i : Nat) : Int)))] [(1002, a'7), (1012, a'12)] (by kernel_rfl) (by kernel_rfl) ?_
  refine AWp.s_reg hGn hGk (aa 2) (Man.aa _ _) [(1, (.p (.v (.func (.func 111) #[] #[])))), (2, a'2), (7, (.oref true 1012)), (11, (vI 0)), (13, a'1), (14, (vI ((((nth c.Schedules k).Layers).length : Nat) : Int))), (15, (vI ((i : Nat) : Int))), (31, (vB false))] [(1002, a'7), (1012, a'12)] (by kernel_rfl) (by kernel_rfl) ?_
  refine AWp.cond_false rfl ?_
  refine AWp.skip ?_
  refine blockQ_normal ?_
  refine nextQ_normal ?_
  refine AWp.reg' hGn hGk [.m (some 33) ⟨[(15, (vI ((i : Nat) : Int)))], [], (vI ((i + 1 : Nat) : Int)), [], []⟩, .a] ⟨StepOK.p rfl rfl rfl (OpOK.add rfl rfl rfl (by rw [IntWalk.i64_in _ ⟨by omega, by omega⟩]; omega)), trivial⟩ [(1, (.p (.v (.func (.func 111) #[] #[])))), (2, a'2), (7, (.oref true 1012)), (13, a'1), (14, (vI ((((nth c.Schedules k).Layers).length : Nat) : Int))), (15, (vI ((i + 1 : Nat) : Int)))] [(1002, a'7), (1012, a'12)] (by kernel_rfl) (by kernel_rfl) ?_
  refine nextQ_normal ⟨_, ?_, (i + 1), rfl, (by omega), rfl⟩
  · omega
 ·skip
  replace hc2 := of_decide_eq_false hc2
  refine AWp.weaken (mk [] [(1002, a'7)]) (Weak.sub' hGk (by kernel_rfl)) ?_
  refine AWp.exit ?_
  refine nextQ_exit ?_
  refine nextQ_exit ?_
  refine blockQ_exit ?_
  refine nextQ_normal ?_
  refine AWp.s_reg hGn hGk (aa 1) (Man.aa _ _) [(6, (vI 0))] [(1002, a'7)] (by kernel_rfl) (by kernel_rfl) ?_
  refine AWp.ret ?_
  refine fin_of (.inr rfl) (v := (vI 0)) (Res.tmp rfl rfl) (h' := [(1002, (.box [(.p (.sl false 3 (c.Zones.map D.Zone.cells))), (.p (.sl false 6 (c.People.map D.Person.cells))), (.p (.sl false 3 (c.Calendars.map D.Calendar.cells))), (.p (.sl false 3 (c.Schedules.map D.Schedule.cells)))]))]) rfl rfl ?_
  exact ⟨rfl, rfl⟩
theorem res_schedule (c : D.Config) (h : CfgOK c) (k : Nat) (hk : k < 2) :
    SpecIs Tryz.prog 77 [(.agg [(.p (.sl false 3 (c.Zones.map D.Zone.cells))), (.p (.sl false 6 (c.People.map D.Person.cells))), (.p (.sl false 3 (c.Calendars.map D.Calendar.cells))), (.p (.sl false 3 (c.Schedules.map D.Schedule.cells)))]), (.agg [(vS ((nth c.Schedules k).Name)), (.p (.sl false 10 (((nth c.Schedules k).Layers).map D.Layer.cells))), (.p (.sl false 5 (((nth c.Schedules k).Edits).map D.Edit.cells)))])] [] (vI 0) [] := by
 refine Spec.intro Tryz.func77 rfl (by kernel_rfl) ?_
 intro Γ hGn hGk
 replace hGn : Γ.n = 40 := hGn
 replace hGk : Γ.names = [] := hGk
 have hl1 := (h.lay k hk).1
 have hel := (h.edit k hk).1
 let a'1 : AV := (.p (.sl false 3 (c.Zones.map D.Zone.cells)))
 let a'2 : AV := (.p (.sl false 6 (c.People.map D.Person.cells)))
 let a'3 : AV := (.p (.sl false 3 (c.Calendars.map D.Calendar.cells)))
 let a'4 : AV := (.p (.sl false 3 (c.Schedules.map D.Schedule.cells)))
 let a'5 : AV := (.p (.sl false 10 (((nth c.Schedules k).Layers).map D.Layer.cells)))
 let a'6 : AV := (.p (.sl false 5 (((nth c.Schedules k).Edits).map D.Edit.cells)))
 refine AWp.weaken (mk [(0, (.agg [a'1, a'2, a'3, a'4])), (1, (.agg [(vS ((nth c.Schedules k).Name)), a'5, a'6]))] []) (Weak.sub' hGk (by kernel_rfl)) ?_
 let a'7 : AO := (.box [a'1, a'2, a'3, a'4])
 let a'8 : AO := (.box [(vS ((nth c.Schedules k).Name)), a'5, a'6])
 refine AWp.s_reg hGn hGk (aa 3) (Man.aa _ _) [(2, (.ref 1002 0)), (3, (.ref 1003 0))] [(1002, a'7), (1003, a'8)] (by kernel_rfl) (by kernel_rfl) ?_
 refine AWp.seq ?_
 refine AWp.s_reg hGn hGk [.a, .a, .m (some 11) ⟨[(10, a'5)], [], (vI ((((nth c.Schedules k).Layers).length : Nat) : Int)), [], []⟩, .m (some 12) ⟨[(11, (vI ((((nth c.Schedules k).Layers).length : Nat) : Int)))], [], (vB false), [], []⟩, .a, .a, .a, .m (some 16) ⟨[(15, a'6), (13, (vB false))], [], (vI ((((nth c.Schedules k).Edits).length : Nat) : Int)), [], []⟩, .m (some 17) ⟨[(16, (vI ((((nth c.Schedules k).Edits).length : Nat) : Int))), (13, (vB false))], [], (vB false), [], []⟩, .a] ⟨StepOK.p rfl rfl rfl (OpOK.lenP (e := 81) rfl rfl (by kernel_rfl) rfl (by rw [List.length_map])),
  StepOK.p rfl rfl rfl (OpOK.gtr rfl rfl rfl (decide_eq_false (by omega))),
  StepOK.g rfl rfl rfl rfl rfl (by simp) (OpOK.lenP (e := 87) rfl rfl (by kernel_rfl) rfl (by rw [List.length_map])),
  StepOK.g rfl rfl rfl rfl rfl (by simp) (OpOK.gtr rfl rfl rfl (decide_eq_false (by omega))), trivial⟩ [(2, (.ref 1002 0)), (3, (.ref 1003 0)), (18, (vB false))] [(1002, a'7), (1003, a'8)] (by kernel_rfl) (by kernel_rfl) ?_
 refine AWp.cond_false rfl ?_
 refine AWp.skip ?_
 refine nextQ_normal ?_
 refine AWp.s_reg hGn hGk [.a, .a, .a, .m (some 22) ⟨[(20, a'5), (21, (.clo (.func 112) [] [(.ref 1002 0)]))], [(1002, a'7)], (vI 0), [(1002, a'7)], []⟩, .a] ⟨StepOK.p rfl rfl rfl (OpOK.call rfl (by kernel_rfl) rfl (nm_layer c h k hk) (by kernel_rfl)), trivial⟩ [(2, (.ref 1002 0)), (3, (.ref 1003 0)), (5, (vI 0))] [(1002, a'7), (1003, a'8)] (by kernel_rfl) (by kernel_rfl) ?_
 refine AWp.seq ?_
 refine AWp.s_reg hGn hGk (aa 2) (Man.aa _ _) [(2, (.ref 1002 0)), (3, (.ref 1003 0)), (5, (vI 0)), (24, (vB false))] [(1002, a'7), (1003, a'8)] (by kernel_rfl) (by kernel_rfl) ?_
 refine AWp.cond_false rfl ?_
 refine AWp.skip ?_
 refine nextQ_normal ?_
 refine AWp.seq ?_
 refine AWp.s_reg hGn hGk [.a, .a, .m (some 28) ⟨[(27, a'6)], [], (vI ((((nth c.Schedules k).Edits).length : Nat) : Int)), [], []⟩, .a] ⟨StepOK.p rfl rfl rfl (OpOK.lenP (e := 87) rfl rfl (by kernel_rfl) rfl (by rw [List.length_map])), trivial⟩ [(2, (.ref 1002 0)), (27, a'6), (28, (vI ((((nth c.Schedules k).Edits).length : Nat) : Int))), (29, (vI 0))] [(1002, a'7)] (by kernel_rfl) (by kernel_rfl) ?_
 refine AWp.block ?_
 refine AWp.loop (fun m s => ∃ j, s = (mk [(2, (.ref 1002 0)), (27, (.p (.sl false 5 (((nth c.Schedules k).Edits).map D.Edit.cells)))), (28, (vI ((((nth c.Schedules k).Edits).length : Nat) : Int))), (29, (vI ((j : Nat) : Int)))] [(1002, (.box [(.p (.sl false 3 (c.Zones.map D.Zone.cells))), (.p (.sl false 6 (c.People.map D.Person.cells))), (.p (.sl false 3 (c.Calendars.map D.Calendar.cells))), (.p (.sl false 3 (c.Schedules.map D.Schedule.cells)))]))]) ∧ (j ≤ (nth c.Schedules k).Edits.length) ∧ m = ((nth c.Schedules k).Edits.length - j))
  ⟨_, 0, rfl, (by omega), rfl⟩ ?_
 rintro mm1 s ⟨j, rfl, hj, hmm1⟩
 refine AWp.s_reg hGn hGk (aa 1) (Man.aa _ _) [(2, (.ref 1002 0)), (27, a'6), (28, (vI ((((nth c.Schedules k).Edits).length : Nat) : Int))), (29, (vI ((j : Nat) : Int))), (30, (vB (decide (((j : Nat) : Int) < ((((nth c.Schedules k).Edits).length : Nat) : Int)))))] [(1002, a'7)] (by kernel_rfl) (by kernel_rfl) ?_
 refine AWp.seq ?_
 refine AWp.cond (decide (((j : Nat) : Int) < ((((nth c.Schedules k).Edits).length : Nat) : Int))) rfl (fun hc2 => ?_) (fun hc2 => ?_)
 ·skip
  replace hc2 := of_decide_eq_true hc2
  refine AWp.skip ?_
  refine nextQ_normal ?_
  refine AWp.seq ?_
  refine AWp.block ?_
  refine AWp.s_reg hGn hGk [.m (some 31) ⟨[(27, a'6), (29, (vI ((j : Nat) : Int)))], [], (.eptr [(pI ((nth ((nth c.Schedules k).Edits) j).Kind)), (pI ((nth ((nth c.Schedules k).Edits) j).A)), (pI ((nth ((nth c.Schedules k).Edits) j).B)), (pI ((nth ((nth c.Schedules k).Edits) j).From)), (pI ((nth ((nth c.Schedules k).Edits) j).To))]), [], []⟩, .a, .a, .a] ⟨StepOK.p rfl rfl rfl (OpOK.indexP (e := 87) rfl (by kernel_rfl) (by kernel_rfl) rfl rfl rfl (map_nth (by omega))), trivial⟩ [(2, (.ref 1002 0)), (7, (.ref 1007 0)), (27, a'6), (28, (vI ((((nth c.Schedules k).Edits).length : Nat) : Int))), (29, (vI ((j : Nat) : Int)))] [(1002, a'7), (1007, (.box [(vI ((nth ((nth c.Schedules k).Edits) j).Kind)), (vI ((nth ((nth c.Schedules k).Edits) j).A)), (vI ((nth ((nth c.Schedules k).Edits) j).B)), (vI ((nth ((nth c.Schedules k).Edits) j).From)), (vI ((nth ((nth c.Schedules k).Edits) j).To))]))] (by kernel_rfl) (by kernel_rfl) ?_
  refine AWp.s_reg hGn hGk [.a, .a, .m (some 35) ⟨[(33, (.agg [a'1, a'2, a'3, a'4])), (34, (.agg [(vI ((nth ((nth c.Schedules k).Edits) j).Kind)), (vI ((nth ((nth c.Schedules k).Edits) j).A)), (vI ((nth ((nth c.Schedules k).Edits) j).B)), (vI ((nth ((nth c.Schedules k).Edits) j).From)), (vI ((nth ((nth c.Schedules k).Edits) j).To))]))], [], (vI 0), [], []⟩, .a] ⟨StepOK.p rfl rfl rfl (OpOK.call rfl (by kernel_rfl) rfl (res_edit c (nth ((nth c.Schedules k).Edits) j) ((h.edit k hk).2 j (by omega)) h.plen) (by kernel_rfl)), trivial⟩ [(2, (.ref 1002 0)), (8, (vI 0)), (27, a'6), (28, (vI ((((nth c.Schedules k).Edits).length : Nat) : Int))), (29, (vI ((j : Nat) : Int)))] [(1002, a'7)] (by kernel_rfl) (by kernel_rfl) ?_
  refine AWp.s_reg hGn hGk (aa 2) (Man.aa _ _) [(2, (.ref 1002 0)), (8, (vI 0)), (27, a'6), (28, (vI ((((nth c.Schedules k).Edits).length : Nat) : Int))), (29, (vI ((j : Nat) : Int))), (37, (vB false))] [(1002, a'7)] (by kernel_rfl) (by kernel_rfl) ?_
  refine AWp.cond_false rfl ?_
  refine AWp.skip ?_
  refine blockQ_normal ?_
  refine nextQ_normal ?_
  refine AWp.reg' hGn hGk [.m (some 39) ⟨[(29, (vI ((j : Nat) : Int)))], [], (vI ((j + 1 : Nat) : Int)), [], []⟩, .a] ⟨StepOK.p rfl rfl rfl (OpOK.add rfl rfl rfl (by rw [IntWalk.i64_in _ ⟨by omega, by omega⟩]; omega)), trivial⟩ [(2, (.ref 1002 0)), (27, a'6), (28, (vI ((((nth c.Schedules k).Edits).length : Nat) : Int))), (29, (vI ((j + 1 : Nat) : Int)))] [(1002, a'7)] (by kernel_rfl) (by kernel_rfl) ?_
  refine nextQ_normal ⟨_, ?_, (j + 1), rfl, (by omega), rfl⟩
  · omega
 ·skip
  replace hc2 := of_decide_eq_false hc2
  refine AWp.weaken (mk [] []) (Weak.sub' hGk (by kernel_rfl)) ?_
  refine AWp.exit ?_
  refine nextQ_exit ?_
  refine nextQ_exit ?_
  refine blockQ_exit ?_
  refine nextQ_normal ?_
  refine AWp.s_reg hGn hGk (aa 1) (Man.aa _ _) [(4, (vI 0))] [] (by kernel_rfl) (by kernel_rfl) ?_
  refine AWp.ret ?_
  refine fin_of (.inr rfl) (v := (vI 0)) (Res.tmp rfl rfl) (h' := []) rfl rfl ?_
  exact ⟨rfl, rfl⟩
theorem res_schch (c : D.Config) (h : CfgOK c) (k : Nat) (hk : k < 2) :
    SpecIs Tryz.prog 76 [(.agg [(vS ((nth c.Schedules k).Name)), (.p (.sl false 10 (((nth c.Schedules k).Layers).map D.Layer.cells))), (.p (.sl false 5 (((nth c.Schedules k).Edits).map D.Edit.cells)))]), (.ref 1001 0)] [(1001, (.box [(.p (.sl false 3 (c.Zones.map D.Zone.cells))), (.p (.sl false 6 (c.People.map D.Person.cells))), (.p (.sl false 3 (c.Calendars.map D.Calendar.cells))), (.p (.sl false 3 (c.Schedules.map D.Schedule.cells)))]))] (vI 0) [(1001, (.box [(.p (.sl false 3 (c.Zones.map D.Zone.cells))), (.p (.sl false 6 (c.People.map D.Person.cells))), (.p (.sl false 3 (c.Calendars.map D.Calendar.cells))), (.p (.sl false 3 (c.Schedules.map D.Schedule.cells)))]))] := by
 refine Spec.intro Tryz.func76 rfl (by kernel_rfl) ?_
 intro Γ hGn hGk
 replace hGn : Γ.n = 7 := hGn
 replace hGk : Γ.names = [1001] := hGk
 let a'1 : AV := (.p (.sl false 10 (((nth c.Schedules k).Layers).map D.Layer.cells)))
 let a'2 : AV := (.p (.sl false 5 (((nth c.Schedules k).Edits).map D.Edit.cells)))
 let a'3 : AV := (.p (.sl false 3 (c.Zones.map D.Zone.cells)))
 let a'4 : AV := (.p (.sl false 6 (c.People.map D.Person.cells)))
 let a'5 : AV := (.p (.sl false 3 (c.Calendars.map D.Calendar.cells)))
 let a'6 : AV := (.p (.sl false 3 (c.Schedules.map D.Schedule.cells)))
 let a'7 : AO := (.box [a'3, a'4, a'5, a'6])
 refine AWp.weaken (mk [(0, (.agg [(vS ((nth c.Schedules k).Name)), a'1, a'2])), (1, (.ref 1001 0))] [(1001, a'7)]) (Weak.sub' hGk (by kernel_rfl)) ?_
 refine AWp.s_reg hGn hGk (aa 2) (Man.aa _ _) [(1, (.ref 1001 0)), (2, (.ref 1002 0))] [(1001, a'7), (1002, (.box [(vS ((nth c.Schedules k).Name)), a'1, a'2]))] (by kernel_rfl) (by kernel_rfl) ?_
 refine AWp.s_reg hGn hGk [.a, .a, .m (some 6) ⟨[(4, (.agg [a'3, a'4, a'5, a'6])), (5, (.agg [(vS ((nth c.Schedules k).Name)), a'1, a'2]))], [], (vI 0), [], []⟩, .a] ⟨StepOK.p rfl rfl rfl (OpOK.call rfl (by kernel_rfl) rfl (res_schedule c h k hk) (by kernel_rfl)), trivial⟩ [(3, (vI 0))] [(1001, a'7)] (by kernel_rfl) (by kernel_rfl) ?_
 refine AWp.ret ?_
 refine fin_of (.inr rfl) (v := (vI 0)) (Res.tmp rfl rfl) (h' := [(1001, (.box [(.p (.sl false 3 (c.Zones.map D.Zone.cells))), (.p (.sl false 6 (c.People.map D.Person.cells))), (.p (.sl false 3 (c.Calendars.map D.Calendar.cells))), (.p (.sl false 3 (c.Schedules.map D.Schedule.cells)))]))]) rfl rfl ?_
 exact ⟨rfl, rfl⟩
theorem nm_sch (c : D.Config) (h : CfgOK c) :
    SpecIs Tryz.prog 74 [(.p (.sl false 3 (c.Schedules.map D.Schedule.cells))), (.p (.v (.func (.func 75) #[] #[]))), (.clo (.func 76) [] [(.ref 1001 0)])] [(1001, (.box [(.p (.sl false 3 (c.Zones.map D.Zone.cells))), (.p (.sl false 6 (c.People.map D.Person.cells))), (.p (.sl false 3 (c.Calendars.map D.Calendar.cells))), (.p (.sl false 3 (c.Schedules.map D.Schedule.cells)))]))] (vI 0) [(1001, (.box [(.p (.sl false 3 (c.Zones.map D.Zone.cells))), (.p (.sl false 6 (c.People.map D.Person.cells))), (.p (.sl false 3 (c.Calendars.map D.Calendar.cells))), (.p (.sl false 3 (c.Schedules.map D.Schedule.cells)))]))] := by
 refine Spec.intro Tryz.func74 rfl (by kernel_rfl) ?_
 intro Γ hGn hGk
 replace hGn : Γ.n = 34 := hGn
 replace hGk : Γ.names = [1001] := hGk
 have hs2 := h.slen
 let a'1 : AV := (.p (.sl false 3 (c.Schedules.map D.Schedule.cells)))
 let a'2 : AV := (.clo (.func 76) [] [(.ref 1001 0)])
 let a'3 : AV := (.p (.sl false 3 (c.Zones.map D.Zone.cells)))
 let a'4 : AV := (.p (.sl false 6 (c.People.map D.Person.cells)))
 let a'5 : AV := (.p (.sl false 3 (c.Calendars.map D.Calendar.cells)))
 let a'6 : AO := (.box [a'3, a'4, a'5, a'1])
 refine AWp.weaken (mk [(0, a'1), (1, (.p (.v (.func (.func 75) #[] #[])))), (2, a'2)] [(1001, a'6)]) (Weak.sub' hGk (by kernel_rfl)) ?_
 refine AWp.s_reg hGn hGk (aa 1) (Man.aa _ _) [(0, a'1), (1, (.p (.v (.func (.func 75) #[] #[])))), (2, a'2)] [(1001, a'6)] (by kernel_rfl) (by kernel_rfl) ?_
 refine AWp.s_reg hGn hGk [.m (some 12) ⟨[], [], (.oref true 1012), [(1012, (.obj (smap [])))], [1012]⟩, .a] ⟨StepOK.p rfl rfl rfl (OpOK.makeMap rfl), trivial⟩ [(0, a'1), (1, (.p (.v (.func (.func 75) #[] #[])))), (2, a'2), (7, (.oref true 1012))] [(1001, a'6), (1012, (.obj (smap [])))] (by kernel_rfl) (by kernel_rfl) ?_
 refine AWp.seq ?_
 refine AWp.s_reg hGn hGk [.a, .m (some 14) ⟨[(13, a'1)], [], (vI ((c.Schedules.length : Nat) : Int)), [], []⟩, .a] ⟨StepOK.p rfl rfl rfl (OpOK.lenP (e := 85) rfl rfl (by kernel_rfl) rfl (by rw [List.length_map])), trivial⟩ [(1, (.p (.v (.func (.func 75) #[] #[])))), (2, a'2), (7, (.oref true 1012)), (13, a'1), (14, (vI ((c.Schedules.length : Nat) : Int))), (15, (vI 0))] [(1001, a'6), (1012, (.obj (smap [])))] (by kernel_rfl) (by kernel_rfl) ?_
 refine AWp.block ?_
 refine AWp.loop (fun m s => ∃ i, s = (mk [(1, (.p (.v (.func (.func 75) #[] #[])))), (2, (.clo (.func 76) [] [(.ref 1001 0)])), (7, (.oref true 1012)), (13, (.p (.sl false 3 (c.Schedules.map D.Schedule.cells)))), (14, (vI ((c.Schedules.length : Nat) : Int))), (15, (vI ((i : Nat) : Int)))] [(1001, (.box [(.p (.sl false 3 (c.Zones.map D.Zone.cells))), (.p (.sl false 6 (c.People.map D.Person.cells))), (.p (.sl false 3 (c.Calendars.map D.Calendar.cells))), (.p (.sl false 3 (c.Schedules.map D.Schedule.cells)))])), (1012, (.obj (smap (ents schNames i))))]) ∧ (i ≤ c.Schedules.length) ∧ m = (c.Schedules.length - i))
  ⟨_, 0, rfl, (by omega), rfl⟩ ?_
 rintro mm1 s ⟨i, rfl, hi, hmm1⟩
 refine AWp.s_reg hGn hGk (aa 1) (Man.aa _ _) [(1, (.p (.v (.func (.func 75) #[] #[])))), (2, a'2), (7, (.oref true 1012)), (13, a'1), (14, (vI ((c.Schedules.length : Nat) : Int))), (15, (vI ((i : Nat) : Int))), (16, (vB (decide (((i : Nat) : Int) < ((c.Schedules.length : Nat) : Int)))))] [(1001, a'6), (1012, (.obj (smap (ents schNames i))))] (by kernel_rfl) (by kernel_rfl) ?_
 refine AWp.seq ?_
 refine AWp.cond (decide (((i : Nat) : Int) < ((c.Schedules.length : Nat) : Int))) rfl (fun hc2 => ?_) (fun hc2 => ?_)
 ·skip
  replace hc2 := of_decide_eq_true hc2
  refine AWp.skip ?_
  refine nextQ_normal ?_
  refine AWp.seq ?_
  refine AWp.block ?_
  have hf := h.sfacts (i := i) (by omega)
  let a'7 : AV := (.p (.sl false 10 (((nth c.Schedules i).Layers).map D.Layer.cells)))
  let a'8 : AV := (.p (.sl false 5 (((nth c.Schedules i).Edits).map D.Edit.cells)))
  let a'9 : AO := (.box [(vS ((nth c.Schedules i).Name)), a'7, a'8])
  refine AWp.s_reg hGn hGk [.m (some 17) ⟨[(13, a'1), (15, (vI ((i : Nat) : Int)))], [], (.eptr [(pS ((nth c.Schedules i).Name)), (.sl false 10 (((nth c.Schedules i).Layers).map D.Layer.cells)), (.sl false 5 (((nth c.Schedules i).Edits).map D.Edit.cells))]), [], []⟩, .a, .a, .a] ⟨StepOK.p rfl rfl rfl (OpOK.indexP (e := 85) rfl (by kernel_rfl) (by kernel_rfl) rfl rfl rfl (map_nth (by omega))), trivial⟩ [(1, (.p (.v (.func (.func 75) #[] #[])))), (2, a'2), (7, (.oref true 1012)), (9, (.ref 1009 0)), (13, a'1), (14, (vI ((c.Schedules.length : Nat) : Int))), (15, (vI ((i : Nat) : Int)))] [(1001, a'6), (1012, (.obj (smap (ents schNames i)))), (1009, a'9)] (by kernel_rfl) (by kernel_rfl) ?_
  refine AWp.seq ?_
  let a'10 : AO := (.obj (smap (ents schNames (i + 1))))
  refine AWp.s_reg hGn hGk [.a, .a, .m (some 21) ⟨[(19, (.p (.v (.func (.func 75) #[] #[])))), (20, (.agg [(vS ((nth c.Schedules i).Name)), a'7, a'8]))], [], (vS ((nth c.Schedules i).Name)), [], []⟩, .a, .m (some 23) ⟨[(21, (vS ((nth c.Schedules i).Name))), (22, (.oref true 1012))], [(1012, (.obj (smap (ents schNames i))))], (vI 0), [(1012, a'10)], []⟩, .a] ⟨StepOK.p rfl rfl rfl (OpOK.callFv rfl rfl (by kernel_rfl) rfl (res_of_Check_4 (nth c.Schedules i)) (by kernel_rfl)),
   StepOK.p rfl rfl rfl (OpOK.call rfl (by kernel_rfl) rfl (res_name1012 ((nth c.Schedules i).Name) (ents schNames i) (ents schNames (i + 1)) hf.1 hf.2.1 hf.2.2) (by kernel_rfl)), trivial⟩ [(1, (.p (.v (.func (.func 75) #[] #[])))), (2, a'2), (7, (.oref true 1012)), (9, (.ref 1009 0)), (10, (vI 0)), (13, a'1), (14, (vI ((c.Schedules.length : Nat) : Int))), (15, (vI ((i : Nat) : Int)))] [(1001, a'6), (1012, a'10), (1009, a'9)] (by kernel_rfl) (by kernel_rfl) ?_
  refine AWp.s_reg hGn hGk (aa 2) (Man.aa _ _) [(1, (.p (.v (.func (.func 75) #[] #[])))), (2, a'2), (7, (.oref true 1012)), (9, (.ref 1009 0)), (10, (vI 0)), (13, a'1), (14, (vI ((c.Schedules.length : Nat) : Int))), (15, (vI ((i : Nat) : Int))), (25, (vB false))] [(1001, a'6), (1012, a'10), (1009, a'9)] (by kernel_rfl) (by kernel_rfl) ?_
  refine AWp.cond_false rfl ?_
  refine AWp.skip ?_
  refine nextQ_normal ?_
  refine AWp.s_reg hGn hGk [.a, .a, .m (some 29) ⟨[(27, a'2), (28, (.agg [(vS ((nth c.Schedules i).Name)), a'7, a'8]))], [(1001, a'6)], (vI 0), [(1001, a'6)], []⟩, .a] ⟨StepOK.p rfl rfl rfl (OpOK.callClo rfl rfl (by kernel_rfl) rfl (res_schch c h i (by omega)) (by kernel_rfl)), trivial⟩ [(1, (.p (.v (.func (.func 75) #[] #[])))), (2, a'2), (7, (.oref true 1012)), (11, (vI 0)), (13, a'1), (14, (vI ((c.Schedules.length : Nat) : Int))), (15, (vI ((i : Nat) : Int)))] [(1001, a'6), (1012, a'10)] (by kernel_rfl) (by kernel_rfl) ?_
  refine AWp.s_reg hGn hGk (aa 2) (Man.aa _ _) [(1, (.p (.v (.func (.func 75) #[] #[])))), (2, a'2), (7, (.oref true 1012)), (11, (vI 0)), (13, a'1), (14, (vI ((c.Schedules.length : Nat) : Int))), (15, (vI ((i : Nat) : Int))), (31, (vB false))] [(1001, a'6), (1012, a'10)] (by kernel_rfl) (by kernel_rfl) ?_
  refine AWp.cond_false rfl ?_
  refine AWp.skip ?_
  refine blockQ_normal ?_
  refine nextQ_normal ?_
  refine AWp.reg' hGn hGk [.m (some 33) ⟨[(15, (vI ((i : Nat) : Int)))], [], (vI ((i + 1 : Nat) : Int)), [], []⟩, .a] ⟨StepOK.p rfl rfl rfl (OpOK.add rfl rfl rfl (by rw [IntWalk.i64_in _ ⟨by omega, by omega⟩]; omega)), trivial⟩ [(1, (.p (.v (.func (.func 75) #[] #[])))), (2, a'2), (7, (.oref true 1012)), (13, a'1), (14, (vI ((c.Schedules.length : Nat) : Int))), (15, (vI ((i + 1 : Nat) : Int)))] [(1001, a'6), (1012, a'10)] (by kernel_rfl) (by kernel_rfl) ?_
  refine nextQ_normal ⟨_, ?_, (i + 1), rfl, (by omega), rfl⟩
  · omega
 ·skip
  replace hc2 := of_decide_eq_false hc2
  refine AWp.weaken (mk [] [(1001, a'6)]) (Weak.sub' hGk (by kernel_rfl)) ?_
  refine AWp.exit ?_
  refine nextQ_exit ?_
  refine nextQ_exit ?_
  refine blockQ_exit ?_
  refine nextQ_normal ?_
  refine AWp.s_reg hGn hGk (aa 1) (Man.aa _ _) [(6, (vI 0))] [(1001, a'6)] (by kernel_rfl) (by kernel_rfl) ?_
  refine AWp.ret ?_
  refine fin_of (.inr rfl) (v := (vI 0)) (Res.tmp rfl rfl) (h' := [(1001, (.box [(.p (.sl false 3 (c.Zones.map D.Zone.cells))), (.p (.sl false 6 (c.People.map D.Person.cells))), (.p (.sl false 3 (c.Calendars.map D.Calendar.cells))), (.p (.sl false 3 (c.Schedules.map D.Schedule.cells)))]))]) rfl rfl ?_
  exact ⟨rfl, rfl⟩
theorem nm_cal (c : D.Config) (h : CfgOK c) :
    SpecIs Tryz.prog 70 [(.p (.sl false 3 (c.Calendars.map D.Calendar.cells))), (.p (.v (.func (.func 71) #[] #[]))), (.clo (.func 72) [] [(.ref 1001 0)])] [(1001, (.box [(.p (.sl false 3 (c.Zones.map D.Zone.cells))), (.p (.sl false 6 (c.People.map D.Person.cells))), (.p (.sl false 3 (c.Calendars.map D.Calendar.cells))), (.p (.sl false 3 (c.Schedules.map D.Schedule.cells)))]))] (vI 0) [(1001, (.box [(.p (.sl false 3 (c.Zones.map D.Zone.cells))), (.p (.sl false 6 (c.People.map D.Person.cells))), (.p (.sl false 3 (c.Calendars.map D.Calendar.cells))), (.p (.sl false 3 (c.Schedules.map D.Schedule.cells)))]))] := by
 refine Spec.intro Tryz.func70 rfl (by kernel_rfl) ?_
 intro Γ hGn hGk
 replace hGn : Γ.n = 34 := hGn
 replace hGk : Γ.names = [1001] := hGk
 have hcl : c.Calendars.length = 0 := by rw [h.cal]; rfl
 let a'1 : AV := (.p (.sl false 3 (c.Calendars.map D.Calendar.cells)))
 let a'2 : AV := (.clo (.func 72) [] [(.ref 1001 0)])
 let a'3 : AV := (.p (.sl false 3 (c.Zones.map D.Zone.cells)))
 let a'4 : AV := (.p (.sl false 6 (c.People.map D.Person.cells)))
 let a'5 : AV := (.p (.sl false 3 (c.Schedules.map D.Schedule.cells)))
 let a'6 : AO := (.box [a'3, a'4, a'1, a'5])
 refine AWp.weaken (mk [(0, a'1), (1, (.p (.v (.func (.func 71) #[] #[])))), (2, a'2)] [(1001, a'6)]) (Weak.sub' hGk (by kernel_rfl)) ?_
 refine AWp.s_reg hGn hGk (aa 1) (Man.aa _ _) [(0, a'1), (1, (.p (.v (.func (.func 71) #[] #[])))), (2, a'2)] [(1001, a'6)] (by kernel_rfl) (by kernel_rfl) ?_
 refine AWp.s_reg hGn hGk [.m (some 12) ⟨[], [], (.oref true 1012), [(1012, (.obj (smap [])))], [1012]⟩, .a] ⟨StepOK.p rfl rfl rfl (OpOK.makeMap rfl), trivial⟩ [(0, a'1), (1, (.p (.v (.func (.func 71) #[] #[])))), (2, a'2), (7, (.oref true 1012))] [(1001, a'6), (1012, (.obj (smap [])))] (by kernel_rfl) (by kernel_rfl) ?_
 refine AWp.seq ?_
 refine AWp.s_reg hGn hGk [.a, .m (some 14) ⟨[(13, a'1)], [], (vI ((c.Calendars.length : Nat) : Int)), [], []⟩, .a] ⟨StepOK.p rfl rfl rfl (OpOK.lenP (e := 134) rfl rfl (by kernel_rfl) rfl (by rw [List.length_map])), trivial⟩ [(1, (.p (.v (.func (.func 71) #[] #[])))), (2, a'2), (7, (.oref true 1012)), (13, a'1), (14, (vI ((c.Calendars.length : Nat) : Int))), (15, (vI 0))] [(1001, a'6), (1012, (.obj (smap [])))] (by kernel_rfl) (by kernel_rfl) ?_
 refine AWp.block ?_
 refine AWp.loop (fun m s =>  s = (mk [(1, (.p (.v (.func (.func 71) #[] #[])))), (2, (.clo (.func 72) [] [(.ref 1001 0)])), (7, (.oref true 1012)), (13, (.p (.sl false 3 (c.Calendars.map D.Calendar.cells)))), (14, (vI ((c.Calendars.length : Nat) : Int))), (15, (vI 0))] [(1001, (.box [(.p (.sl false 3 (c.Zones.map D.Zone.cells))), (.p (.sl false 6 (c.People.map D.Person.cells))), (.p (.sl false 3 (c.Calendars.map D.Calendar.cells))), (.p (.sl false 3 (c.Schedules.map D.Schedule.cells)))])), (1012, (.obj (smap [])))]) ∧ m = 0)
  ⟨_, rfl, rfl⟩ ?_
 rintro mm1 s ⟨rfl, hmm1⟩
 refine AWp.s_reg hGn hGk [.m (some 16) ⟨[(15, (vI 0)), (14, (vI ((c.Calendars.length : Nat) : Int)))], [], (vB false), [], []⟩] ⟨StepOK.p rfl rfl rfl (OpOK.lss rfl rfl rfl (decide_eq_false (by omega))), trivial⟩ [(1, (.p (.v (.func (.func 71) #[] #[])))), (2, a'2), (7, (.oref true 1012)), (13, a'1), (14, (vI ((c.Calendars.length : Nat) : Int))), (15, (vI 0)), (16, (vB false))] [(1001, a'6), (1012, (.obj (smap [])))] (by kernel_rfl) (by kernel_rfl) ?_
 refine AWp.seq ?_
 refine AWp.cond_false rfl ?_
 refine AWp.weaken (mk [] [(1001, a'6)]) (Weak.sub' hGk (by kernel_rfl)) ?_
 refine AWp.exit ?_
 refine nextQ_exit ?_
 refine nextQ_exit ?_
 refine blockQ_exit ?_
 refine nextQ_normal ?_
 refine AWp.s_reg hGn hGk (aa 1) (Man.aa _ _) [(6, (vI 0))] [(1001, a'6)] (by kernel_rfl) (by kernel_rfl) ?_
 refine AWp.ret ?_
 refine fin_of (.inr rfl) (v := (vI 0)) (Res.tmp rfl rfl) (h' := [(1001, (.box [(.p (.sl false 3 (c.Zones.map D.Zone.cells))), (.p (.sl false 6 (c.People.map D.Person.cells))), (.p (.sl false 3 (c.Calendars.map D.Calendar.cells))), (.p (.sl false 3 (c.Schedules.map D.Schedule.cells)))]))]) rfl rfl ?_
 exact ⟨rfl, rfl⟩
theorem res_Check (c : D.Config) (h : CfgOK c) :
    SpecIs Tryz.prog 39 [(.agg [(.p (.sl false 3 (c.Zones.map D.Zone.cells))), (.p (.sl false 6 (c.People.map D.Person.cells))), (.p (.sl false 3 (c.Calendars.map D.Calendar.cells))), (.p (.sl false 3 (c.Schedules.map D.Schedule.cells)))])] [] (vI 0) [] := by
 refine Spec.intro Tryz.func39 rfl (by kernel_rfl) ?_
 intro Γ hGn hGk
 replace hGn : Γ.n = 72 := hGn
 replace hGk : Γ.names = [] := hGk
 have hz1 := h.zlen
 have hp4 := h.plen
 have hs2 := h.slen
 have hcl : c.Calendars.length = 0 := by rw [h.cal]; rfl
 let a'1 : AV := (.p (.sl false 3 (c.Zones.map D.Zone.cells)))
 let a'2 : AV := (.p (.sl false 6 (c.People.map D.Person.cells)))
 let a'3 : AV := (.p (.sl false 3 (c.Calendars.map D.Calendar.cells)))
 let a'4 : AV := (.p (.sl false 3 (c.Schedules.map D.Schedule.cells)))
 refine AWp.weaken (mk [(0, (.agg [a'1, a'2, a'3, a'4]))] []) (Weak.sub' hGk (by kernel_rfl)) ?_
 let a'5 : AO := (.box [a'1, a'2, a'3, a'4])
 refine AWp.s_reg hGn hGk (aa 2) (Man.aa _ _) [(1, (.ref 1001 0))] [(1001, a'5)] (by kernel_rfl) (by kernel_rfl) ?_
 refine AWp.seq ?_
 refine AWp.s_reg hGn hGk [.a, .a, .m (some 11) ⟨[(10, a'1)], [], (vI ((c.Zones.length : Nat) : Int)), [], []⟩, .m (some 12) ⟨[(11, (vI ((c.Zones.length : Nat) : Int)))], [], (vB false), [], []⟩, .a, .a, .a, .m (some 16) ⟨[(15, a'2), (13, (vB false))], [], (vI ((c.People.length : Nat) : Int)), [], []⟩, .m (some 17) ⟨[(16, (vI ((c.People.length : Nat) : Int))), (13, (vB false))], [], (vB false), [], []⟩, .a, .a, .a, .a, .m (some 22) ⟨[(21, a'3), (19, (vB false))], [], (vI ((c.Calendars.length : Nat) : Int)), [], []⟩, .m (some 23) ⟨[(22, (vI ((c.Calendars.length : Nat) : Int))), (19, (vB false))], [], (vB false), [], []⟩, .a, .a, .a, .a, .m (some 28) ⟨[(27, a'4), (25, (vB false))], [], (vI ((c.Schedules.length : Nat) : Int)), [], []⟩, .m (some 29) ⟨[(28, (vI ((c.Schedules.length : Nat) : Int))), (25, (vB false))], [], (vB false), [], []⟩, .a] ⟨StepOK.p rfl rfl rfl (OpOK.lenP (e := 72) rfl rfl (by kernel_rfl) rfl (by rw [List.length_map])),
  StepOK.p rfl rfl rfl (OpOK.gtr rfl rfl rfl (decide_eq_false (by omega))),
  StepOK.g rfl rfl rfl rfl rfl (by simp) (OpOK.lenP (e := 75) rfl rfl (by kernel_rfl) rfl (by rw [List.length_map])),
  StepOK.g rfl rfl rfl rfl rfl (by simp) (OpOK.gtr rfl rfl rfl (decide_eq_false (by omega))),
  StepOK.g rfl rfl rfl rfl rfl (by simp) (OpOK.lenP (e := 134) rfl rfl (by kernel_rfl) rfl (by rw [List.length_map])),
  StepOK.g rfl rfl rfl rfl rfl (by simp) (OpOK.gtr rfl rfl rfl (decide_eq_false (by omega))),
  StepOK.g rfl rfl rfl rfl rfl (by simp) (OpOK.lenP (e := 85) rfl rfl (by kernel_rfl) rfl (by rw [List.length_map])),
  StepOK.g rfl rfl rfl rfl rfl (by simp) (OpOK.gtr rfl rfl rfl (decide_eq_false (by omega))), trivial⟩ [(1, (.ref 1001 0)), (30, (vB false))] [(1001, a'5)] (by kernel_rfl) (by kernel_rfl) ?_
 refine AWp.cond_false rfl ?_
 refine AWp.skip ?_
 refine nextQ_normal ?_
 refine AWp.seq ?_
 refine AWp.s_reg hGn hGk [.a, .a, .m (some 33) ⟨[(32, a'1)], [], (vI 0), [], []⟩, .a] ⟨StepOK.p rfl rfl rfl (OpOK.call rfl (by kernel_rfl) rfl (nm_zone c h) (by kernel_rfl)), trivial⟩ [(1, (.ref 1001 0)), (3, (vI 0))] [(1001, a'5)] (by kernel_rfl) (by kernel_rfl) ?_
 refine AWp.s_reg hGn hGk (aa 2) (Man.aa _ _) [(1, (.ref 1001 0)), (3, (vI 0)), (35, (vB false))] [(1001, a'5)] (by kernel_rfl) (by kernel_rfl) ?_
 refine AWp.cond_false rfl ?_
 refine AWp.skip ?_
 refine nextQ_normal ?_
 refine AWp.s_reg hGn hGk [.m (some 37) ⟨[], [], (.oref true 1037), [(1037, (.obj (smap [])))], [1037]⟩, .a] ⟨StepOK.p rfl rfl rfl (OpOK.makeMap rfl), trivial⟩ [(1, (.ref 1001 0)), (4, (.oref true 1037))] [(1001, a'5), (1037, (.obj (smap [])))] (by kernel_rfl) (by kernel_rfl) ?_
 refine AWp.seq ?_
 refine AWp.s_reg hGn hGk [.a, .a, .m (some 40) ⟨[(39, a'2)], [], (vI ((c.People.length : Nat) : Int)), [], []⟩, .a] ⟨StepOK.p rfl rfl rfl (OpOK.lenP (e := 75) rfl rfl (by kernel_rfl) rfl (by rw [List.length_map])), trivial⟩ [(1, (.ref 1001 0)), (4, (.oref true 1037)), (39, a'2), (40, (vI ((c.People.length : Nat) : Int))), (41, (vI 0))] [(1001, a'5), (1037, (.obj (smap [])))] (by kernel_rfl) (by kernel_rfl) ?_
 refine AWp.block ?_
 refine AWp.loop (fun m s => ∃ i, s = (mk [(1, (.ref 1001 0)), (4, (.oref true 1037)), (39, (.p (.sl false 6 (c.People.map D.Person.cells)))), (40, (vI ((c.People.length : Nat) : Int))), (41, (vI ((i : Nat) : Int)))] [(1001, (.box [(.p (.sl false 3 (c.Zones.map D.Zone.cells))), (.p (.sl false 6 (c.People.map D.Person.cells))), (.p (.sl false 3 (c.Calendars.map D.Calendar.cells))), (.p (.sl false 3 (c.Schedules.map D.Schedule.cells)))])), (1037, (.obj (smap (ents crewNames i))))]) ∧ (i ≤ c.People.length) ∧ m = (c.People.length - i))
  ⟨_, 0, rfl, (by omega), rfl⟩ ?_
 rintro mm1 s ⟨i, rfl, hi, hmm1⟩
 refine AWp.s_reg hGn hGk (aa 1) (Man.aa _ _) [(1, (.ref 1001 0)), (4, (.oref true 1037)), (39, a'2), (40, (vI ((c.People.length : Nat) : Int))), (41, (vI ((i : Nat) : Int))), (42, (vB (decide (((i : Nat) : Int) < ((c.People.length : Nat) : Int)))))] [(1001, a'5), (1037, (.obj (smap (ents crewNames i))))] (by kernel_rfl) (by kernel_rfl) ?_
 refine AWp.seq ?_
 refine AWp.cond (decide (((i : Nat) : Int) < ((c.People.length : Nat) : Int))) rfl (fun hc2 => ?_) (fun hc2 => ?_)
 ·skip
  replace hc2 := of_decide_eq_true hc2
  refine AWp.skip ?_
  refine nextQ_normal ?_
  refine AWp.seq ?_
  refine AWp.block ?_
  have hf := h.pfacts (i := i) (by omega)
  let a'6 : AV := (.p (.sl false 2 (((nth c.People i).Quiet).map D.Window.cells)))
  let a'7 : AO := (.box [(vS ((nth c.People i).Name)), (vI ((nth c.People i).Zone)), a'6, (vI ((nth c.People i).MaxWeek)), (vI ((nth c.People i).MinRest)), (vB ((nth c.People i).Consent))])
  refine AWp.s_reg hGn hGk [.m (some 43) ⟨[(39, a'2), (41, (vI ((i : Nat) : Int)))], [], (.eptr [(pS ((nth c.People i).Name)), (pI ((nth c.People i).Zone)), (.sl false 2 (((nth c.People i).Quiet).map D.Window.cells)), (pI ((nth c.People i).MaxWeek)), (pI ((nth c.People i).MinRest)), (pB ((nth c.People i).Consent))]), [], []⟩, .a, .a, .a] ⟨StepOK.p rfl rfl rfl (OpOK.indexP (e := 75) rfl (by kernel_rfl) (by kernel_rfl) rfl rfl rfl (map_nth (by omega))), trivial⟩ [(1, (.ref 1001 0)), (4, (.oref true 1037)), (6, (.ref 1006 0)), (39, a'2), (40, (vI ((c.People.length : Nat) : Int))), (41, (vI ((i : Nat) : Int)))] [(1001, a'5), (1037, (.obj (smap (ents crewNames i)))), (1006, a'7)] (by kernel_rfl) (by kernel_rfl) ?_
  let a'8 : AO := (.obj (smap (ents crewNames (i + 1))))
  refine AWp.s_reg hGn hGk [.a, .a, .a, .m (some 48) ⟨[(46, (vS ((nth c.People i).Name))), (47, (.oref true 1037))], [(1037, (.obj (smap (ents crewNames i))))], (vI 0), [(1037, a'8)], []⟩, .a] ⟨StepOK.p rfl rfl rfl (OpOK.call rfl (by kernel_rfl) rfl (res_name1037 ((nth c.People i).Name) (ents crewNames i) (ents crewNames (i + 1)) hf.1 hf.2.1 hf.2.2.1) (by kernel_rfl)), trivial⟩ [(1, (.ref 1001 0)), (4, (.oref true 1037)), (6, (.ref 1006 0)), (7, (vI 0)), (39, a'2), (40, (vI ((c.People.length : Nat) : Int))), (41, (vI ((i : Nat) : Int)))] [(1001, a'5), (1037, a'8), (1006, a'7)] (by kernel_rfl) (by kernel_rfl) ?_
  refine AWp.seq ?_
  refine AWp.s_reg hGn hGk [.a, .a, .m (some 51) ⟨[(50, (vS ((nth c.People i).Name)))], [], (vB false), [], []⟩] ⟨StepOK.p rfl rfl rfl (OpOK.eqlS rfl rfl rfl (decide_eq_false hf.2.2.2)), trivial⟩ [(1, (.ref 1001 0)), (4, (.oref true 1037)), (6, (.ref 1006 0)), (7, (vI 0)), (39, a'2), (40, (vI ((c.People.length : Nat) : Int))), (41, (vI ((i : Nat) : Int))), (51, (vB false))] [(1001, a'5), (1037, a'8), (1006, a'7)] (by kernel_rfl) (by kernel_rfl) ?_
  refine AWp.cond_false rfl ?_
  refine AWp.skip ?_
  refine nextQ_normal ?_
  refine AWp.seq ?_
  refine AWp.s_reg hGn hGk (aa 2) (Man.aa _ _) [(1, (.ref 1001 0)), (4, (.oref true 1037)), (6, (.ref 1006 0)), (7, (vI 0)), (39, a'2), (40, (vI ((c.People.length : Nat) : Int))), (41, (vI ((i : Nat) : Int))), (53, (vB true))] [(1001, a'5), (1037, a'8), (1006, a'7)] (by kernel_rfl) (by kernel_rfl) ?_
  refine AWp.cond_true rfl ?_
  refine AWp.reg' hGn hGk [.a, .a, .m (some 56) ⟨[(54, (.agg [a'1, a'2, a'3, a'4])), (55, (.agg [(vS ((nth c.People i).Name)), (vI ((nth c.People i).Zone)), a'6, (vI ((nth c.People i).MaxWeek)), (vI ((nth c.People i).MinRest)), (vB ((nth c.People i).Consent))]))], [], (vI 0), [], []⟩, .a] ⟨StepOK.p rfl rfl rfl (OpOK.call rfl (by kernel_rfl) rfl (res_person c (nth c.People i) (h.person i (by omega)) h.zlen) (by kernel_rfl)), trivial⟩ [(1, (.ref 1001 0)), (4, (.oref true 1037)), (7, (vI 0)), (39, a'2), (40, (vI ((c.People.length : Nat) : Int))), (41, (vI ((i : Nat) : Int)))] [(1001, a'5), (1037, a'8)] (by kernel_rfl) (by kernel_rfl) ?_
  refine nextQ_normal ?_
  refine AWp.s_reg hGn hGk (aa 2) (Man.aa _ _) [(1, (.ref 1001 0)), (4, (.oref true 1037)), (7, (vI 0)), (39, a'2), (40, (vI ((c.People.length : Nat) : Int))), (41, (vI ((i : Nat) : Int))), (58, (vB false))] [(1001, a'5), (1037, a'8)] (by kernel_rfl) (by kernel_rfl) ?_
  refine AWp.cond_false rfl ?_
  refine AWp.skip ?_
  refine blockQ_normal ?_
  refine nextQ_normal ?_
  refine AWp.reg' hGn hGk [.m (some 60) ⟨[(41, (vI ((i : Nat) : Int)))], [], (vI ((i + 1 : Nat) : Int)), [], []⟩, .a] ⟨StepOK.p rfl rfl rfl (OpOK.add rfl rfl rfl (by rw [IntWalk.i64_in _ ⟨by omega, by omega⟩]; omega)), trivial⟩ [(1, (.ref 1001 0)), (4, (.oref true 1037)), (39, a'2), (40, (vI ((c.People.length : Nat) : Int))), (41, (vI ((i + 1 : Nat) : Int)))] [(1001, a'5), (1037, a'8)] (by kernel_rfl) (by kernel_rfl) ?_
  refine nextQ_normal ⟨_, ?_, (i + 1), rfl, (by omega), rfl⟩
  · omega
 ·skip
  replace hc2 := of_decide_eq_false hc2
  refine AWp.weaken (mk [(1, (.ref 1001 0))] [(1001, a'5)]) (Weak.sub' hGk (by kernel_rfl)) ?_
  refine AWp.exit ?_
  refine nextQ_exit ?_
  refine nextQ_exit ?_
  refine blockQ_exit ?_
  refine nextQ_normal ?_
  refine AWp.seq ?_
  refine AWp.s_reg hGn hGk [.a, .a, .a, .m (some 64) ⟨[(62, a'3), (63, (.clo (.func 72) [] [(.ref 1001 0)]))], [(1001, a'5)], (vI 0), [(1001, a'5)], []⟩, .a] ⟨StepOK.p rfl rfl rfl (OpOK.call rfl (by kernel_rfl) rfl (nm_cal c h) (by kernel_rfl)), trivial⟩ [(1, (.ref 1001 0)), (8, (vI 0))] [(1001, a'5)] (by kernel_rfl) (by kernel_rfl) ?_
  refine AWp.s_reg hGn hGk (aa 2) (Man.aa _ _) [(1, (.ref 1001 0)), (8, (vI 0)), (66, (vB false))] [(1001, a'5)] (by kernel_rfl) (by kernel_rfl) ?_
  refine AWp.cond_false rfl ?_
  refine AWp.skip ?_
  refine nextQ_normal ?_
  refine AWp.s_reg hGn hGk [.a, .a, .a, .m (some 71) ⟨[(69, a'4), (70, (.clo (.func 76) [] [(.ref 1001 0)]))], [(1001, a'5)], (vI 0), [(1001, a'5)], []⟩, .a] ⟨StepOK.p rfl rfl rfl (OpOK.call rfl (by kernel_rfl) rfl (nm_sch c h) (by kernel_rfl)), trivial⟩ [(2, (vI 0))] [] (by kernel_rfl) (by kernel_rfl) ?_
  refine AWp.ret ?_
  refine fin_of (.inr rfl) (v := (vI 0)) (Res.tmp rfl rfl) (h' := []) rfl rfl ?_
  exact ⟨rfl, rfl⟩
end Go.Proofs.YtimfbibaoppfcaaGreatDoor
