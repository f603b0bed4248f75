/-
  What functions do, reckoned from their code, and their contracts. Printed by wip/gen/brun.py.
-/
import Derived.Test.YtfhcigjkfelnfaaGreatQRowAuditLateI
set_option maxRecDepth 100000
set_option linter.unusedVariables false
namespace Go.Proofs.YtfhcigjkfelnfaaGreat
open Go AM
noncomputable section
def r04_First (fu : Nat) (p0 : D.Zone) (p1 : D.Local) : Option (Int × Int) :=
 (optc (r04_Transitions fu p0) fun (a0, a1) =>
 (cnd (decide (a1 ≠ 0))
 (some (0, 8))
 (optc (r04_in fu (D.Local.Second p1) 0 86399) fun a2 =>
 (cnd (!a2)
 (some (0, 1))
 (cnd (decide ((D.Local.Day p1) < (-2)))
 (some (0, 0))
 (optc (r04_small fu (D.Local.Day p1)) fun a3 =>
 (cnd (!a3)
 (some (0, 10))
 (iterF (X := ((List D.Transition × (Int × Unit)) × (D.Zone × (D.Local × Unit)))) (fun L4 ((a5, (a6, _)), (a7, (a8, _))) =>
 (cnd (decide (a6 < (((List.length a5) : Nat) : Int)))
 (join (Y := ((List D.Transition × P4) × (D.Zone × (D.Local × Unit)))) (fun ((a9, (a10, (a11, (a12, (a13, _))))), (a14, (a15, _))) =>
 (join (Y := ((List D.Transition × P4) × (D.Zone × (D.Local × Unit)))) (fun ((a16, (a17, (a18, (a19, (a20, _))))), (a21, (a22, _))) =>
 (cnd (decide ((max a19 (IntKind.wrap .i64 ((IntKind.wrap .i64 ((IntKind.wrap .i64 ((D.Local.Day a22) * 86400)) + (D.Local.Second a22))) - a18))) < a20))
 (some ((max a19 (IntKind.wrap .i64 ((IntKind.wrap .i64 ((IntKind.wrap .i64 ((D.Local.Day a22) * 86400)) + (D.Local.Second a22))) - a18))), 0))
 (L4 ((a16, ((IntKind.wrap .i64 (a17 + 1)), ())), (a21, (a22, ())))))) fun J23 =>
 (cnd (decide ((IntKind.wrap .i64 (a10 + 1)) < (((List.length a9) : Nat) : Int)))
 (atc a9 (IntKind.wrap .i64 (a10 + 1)) fun a24 =>
 (J23 ((a9, (a10, (a11, (a12, ((D.Transition.At a24), ()))))), (a14, (a15, ())))))
 (J23 ((a9, (a10, (a11, (a12, (a13, ()))))), (a14, (a15, ()))))))) fun J25 =>
 (cnd (decide (0 ≤ a6))
 (atc a5 a6 fun a26 =>
 (atc a5 a6 fun a27 =>
 (J25 ((a5, (a6, ((D.Transition.Offset a26), ((D.Transition.At a27), (8589934593, ()))))), (a7, (a8, ()))))))
 (J25 ((a5, (a6, ((D.Zone.Offset a7), (0, (8589934593, ()))))), (a7, (a8, ()))))))
 (some (0, 10)))) fu ((a0, ((-1), ())), (p0, (p1, ())))))))))))
def r04_First_g (fu : Nat) : Sig := mkSig [.st .Zone, .st .Local] [] [nI, nI] [] [] (Int × Int) (fun q => ((q.1, q.2, ()), ())) (fun x y => r04_First fu x.1 x.2.1)
theorem r04_First_ok (fu : Nat) : FnOK Tryz.prog 298 (r04_First_g fu) :=
 FnOK.intro (ty := ty) (E := envL [(259, 0, r04_Transitions_g fu), (261, 0, r04_in_g fu), (308, 0, r04_small_g fu)]) (fu := fu) (an := .two .go (.two .go (.two .go (.two .go (.two .go (.two .go (.two (.two .go (.one (.loop [(2, .one (.ref 1002)), (3, .one (.ref 1003)), (6, .one (.lst .Transition)), (8, nI)] [(1002, .boxst .Zone), (1003, .boxst .Local)] (.two .go (.two (.one (.two .go (.two (.join [(2, .one (.ref 1002)), (3, .one (.ref 1003)), (6, .one (.lst .Transition)), (8, nI), (9, nI), (10, nI), (11, nI)] [(1002, .boxst .Zone), (1003, .boxst .Local)] .go) (.two (.join [(2, .one (.ref 1002)), (3, .one (.ref 1003)), (6, .one (.lst .Transition)), (8, nI), (9, nI), (10, nI), (11, nI)] [(1002, .boxst .Zone), (1003, .boxst .Local)] .go) .go)))) .go))))) .go))))))) (fun a b => (a.1, a.2.1)) (fun _ _ => rfl) (envL_ok ⟨r04_Transitions_ok fu, r04_in_ok fu, r04_small_ok fu, trivial⟩) Tryz.func298 rfl rfl (fun x y => by kernel_rfl)
def r10_handover (fu : Nat) (p0 : D.Zone) (p1 : D.Layer) (p2 : Int) : Option (Int × Bool) :=
 (cnd (decide ((D.Layer.Unit p1) = 0))
 (optc (r04_First fu p0 (D.Layer.Start p1)) fun (a0, a1) =>
 (cnd (decide (a1 = 0))
 (cnd (decide ((IntKind.wrap .i64 (a0 + (IntKind.wrap .i64 ((IntKind.wrap .i64 (p2 * (D.Layer.Every p1))) * 3600)))) ≤ 8589934592))
 (some ((IntKind.wrap .i64 (a0 + (IntKind.wrap .i64 ((IntKind.wrap .i64 (p2 * (D.Layer.Every p1))) * 3600)))), true))
 (some ((IntKind.wrap .i64 (a0 + (IntKind.wrap .i64 ((IntKind.wrap .i64 (p2 * (D.Layer.Every p1))) * 3600)))), false)))
 (some ((IntKind.wrap .i64 (a0 + (IntKind.wrap .i64 ((IntKind.wrap .i64 (p2 * (D.Layer.Every p1))) * 3600)))), false))))
 (join (Y := ((Int × Unit) × (D.Zone × (D.Layer × Unit)))) (fun ((a2, _), (a3, (a4, _))) =>
 (optc (r04_First fu a3 (D.Local.mk (IntKind.wrap .i64 ((D.Local.Day (D.Layer.Start a4)) + a2)) (D.Local.Second (D.Layer.Start a4)))) fun (a5, a6) =>
 (some (a5, (decide (a6 = 0)))))) fun J7 =>
 (cnd (decide ((D.Layer.Unit p1) = 2))
 (J7 (((IntKind.wrap .i64 ((IntKind.wrap .i64 (p2 * (D.Layer.Every p1))) * 7)), ()), (p0, (p1, ()))))
 (J7 (((IntKind.wrap .i64 (p2 * (D.Layer.Every p1))), ()), (p0, (p1, ())))))))
def r10_handover_g (fu : Nat) : Sig := mkSig [.st .Zone, .st .Layer, nI] [] [nI, .one (.boo)] [] [] (Int × Bool) (fun q => ((q.1, q.2, ()), ())) (fun x y => r10_handover fu x.1 x.2.1 x.2.2.1)
theorem r10_handover_ok (fu : Nat) : FnOK Tryz.prog 299 (r10_handover_g fu) :=
 FnOK.intro (ty := ty) (E := envL [(298, 0, r04_First_g fu)]) (fu := fu) (an := .two .go (.two .go (.two .go (.two (.join [(3, .one (.ref 1003)), (4, .one (.ref 1004)), (11, nI)] [(1003, .boxst .Zone), (1004, .boxst .Layer)] .go) .go)))) (fun a b => (a.1, a.2.1)) (fun _ _ => rfl) (envL_ok ⟨r04_First_ok fu, trivial⟩) Tryz.func299 rfl rfl (fun x y => by kernel_rfl)
def r10_shift (fu : Nat) (p0 : D.Zone) (p1 : D.Layer) (p2 : Int) : Option (Int) :=
 (cnd (decide ((D.Layer.Unit p1) = 0))
 (join (Y := ((Int × Unit) × Unit)) (fun ((a0, _), _) =>
 (some a0)) fun J1 =>
 (optc (r04_First fu p0 (D.Layer.Start p1)) fun (a2, a3) =>
 (cnd (decide (a3 = 0))
 (cnd (decide (a2 ≤ p2))
 (nzc (IntKind.wrap .i64 (3600 * (D.Layer.Every p1))) (J1 (((IntKind.wrap .i64 (Int.tdiv (IntKind.wrap .i64 (p2 - a2)) (IntKind.wrap .i64 (3600 * (D.Layer.Every p1))))), ()), ())))
 (J1 (((-1), ()), ())))
 (J1 (((-1), ()), ())))))
 (optc (r04_ToLocal fu p0 p2) fun (a4, a5) =>
 (join (Y := ((Int × (Int × Unit)) × (D.Zone × (D.Layer × (D.Local × Unit))))) (fun ((a6, (a7, _)), (a8, (a9, (a10, _)))) =>
 (join (Y := ((Int × Unit) × Unit)) (fun ((a11, _), _) =>
 (some a11)) fun J12 =>
 (nzc a7 (iterF (X := ((Int × (Int × Unit)) × (D.Zone × (D.Layer × Unit)))) (fun L13 ((a14, (a15, _)), (a16, (a17, _))) =>
 (cnd (decide (0 ≤ a15))
 (join (Y := ((Int × (Int × Unit)) × (D.Zone × (D.Layer × Unit)))) (fun ((a18, (a19, _)), (a20, (a21, _))) =>
 (L13 ((a18, ((IntKind.wrap .i64 (a19 - 1)), ())), (a20, (a21, ()))))) fun J22 =>
 (optc (r10_handover fu a16 a17 a15) fun (a23, a24) =>
 (cnd a24
 (cnd (decide (a23 ≤ a14))
 (J12 ((a15, ()), ()))
 (J22 ((a14, (a15, ())), (a16, (a17, ())))))
 (J22 ((a14, (a15, ())), (a16, (a17, ())))))))
 (J12 ((a15, ()), ())))) fu ((a6, ((IntKind.wrap .i64 (Int.tdiv (max (IntKind.wrap .i64 ((IntKind.wrap .i64 ((D.Local.Day a10) + 2)) - (D.Local.Day (D.Layer.Start a9)))) 0) a7)), ())), (a8, (a9, ()))))))) fun J25 =>
 (cnd (decide ((D.Layer.Unit p1) = 2))
 (J25 ((p2, ((IntKind.wrap .i64 ((D.Layer.Every p1) * 7)), ())), (p0, (p1, (a4, ())))))
 (J25 ((p2, ((D.Layer.Every p1), ())), (p0, (p1, (a4, ())))))))))
def r10_shift_g (fu : Nat) : Sig := mkSig [.st .Zone, .st .Layer, nI] [] [nI] [] [] (Int) (fun q => ((q, ()), ())) (fun x y => r10_shift fu x.1 x.2.1 x.2.2.1)
theorem r10_shift_ok (fu : Nat) : FnOK Tryz.prog 287 (r10_shift_g fu) :=
 FnOK.intro (ty := ty) (E := envL [(189, 0, r04_ToLocal_g fu), (298, 0, r04_First_g fu), (299, 0, r10_handover_g fu)]) (fu := fu) (an := .two .go (.two .go (.two (.two .go (.two (.two (.join [(7, nI)] [] .go) .go) .go)) (.two .go (.two .go (.two (.join [(2, nI), (3, .one (.ref 1003)), (4, .one (.ref 1004)), (10, .one (.ref 1010)), (12, nI)] [(1003, .boxst .Zone), (1004, .boxst .Layer), (1010, .boxst .Local)] .go) (.two (.join [(7, nI)] [] (.two .go (.one (.loop [(2, nI), (3, .one (.ref 1003)), (4, .one (.ref 1004)), (7, nI)] [(1003, .boxst .Zone), (1004, .boxst .Layer)] (.two .go (.two (.join [(2, nI), (3, .one (.ref 1003)), (4, .one (.ref 1004)), (7, nI)] [(1003, .boxst .Zone), (1004, .boxst .Layer)] .go) .go)))))) .go))))))) (fun a b => a.1) (fun _ _ => rfl) (envL_ok ⟨r04_ToLocal_ok fu, r04_First_ok fu, r10_handover_ok fu, trivial⟩) Tryz.func287 rfl rfl (fun x y => by kernel_rfl)
def r10_Shift (fu : Nat) (p0 : D.Zone) (p1 : D.Layer) (p2 : Int) : Option (Int × Int) :=
 (optc (r10_Check fu p0 p1) fun a0 =>
 (cnd (decide (a0 ≠ 0))
 (some (0, 8))
 (join (Y := ((Int × Unit) × (D.Zone × (D.Layer × Unit)))) (fun ((a1, _), (a2, (a3, _))) =>
 (optc (r10_shift fu a2 a3 a1) fun a4 =>
 (some (a4, 0)))) fun J5 =>
 (cnd (decide (p2 < 0))
 (some (0, 1))
 (cnd (decide (8589934592 < p2))
 (some (0, 1))
 (J5 ((p2, ()), (p0, (p1, ())))))))))
def r10_Shift_g (fu : Nat) : Sig := mkSig [.st .Zone, .st .Layer, nI] [] [nI, nI] [] [] (Int × Int) (fun q => ((q.1, q.2, ()), ())) (fun x y => r10_Shift fu x.1 x.2.1 x.2.2.1)
theorem r10_Shift_ok (fu : Nat) : FnOK Tryz.prog 273 (r10_Shift_g fu) :=
 FnOK.intro (ty := ty) (E := envL [(286, 0, r10_Check_g fu), (287, 0, r10_shift_g fu)]) (fu := fu) (an := .two .go (.two .go (.two (.join [(2, nI), (3, .one (.ref 1003)), (4, .one (.ref 1004))] [(1003, .boxst .Zone), (1004, .boxst .Layer)] .go) .go))) (fun a b => (a.1, a.2.1)) (fun _ _ => rfl) (envL_ok ⟨r10_Check_ok fu, r10_shift_ok fu, trivial⟩) Tryz.func273 rfl rfl (fun x y => by kernel_rfl)
def r11_look (fu : Nat) (p0 : D.Config) (p1 : D.Layer) (p2 : Int) : Option (Int × Bool) :=
 (atc (D.Config.Zones p0) (D.Layer.Zone p1) fun a0 =>
 (optc (r10_Shift fu a0 p1 p2) fun (a1, a2) =>
 (join (Y := ((Int × (Int × Unit)) × (D.Config × (D.Layer × Unit)))) (fun ((a3, (a4, _)), (a5, (a6, _))) =>
 (cnd (decide ((D.Layer.Mode a6) = 0))
 (some (a4, true))
 (atc (D.Config.Calendars a5) (D.Layer.Calendar a6) fun a7 =>
 (atc (D.Config.Zones a5) (D.Calendar.Zone a7) fun a8 =>
 (optc (r04_ToLocal fu a8 a3) fun (a9, a10) =>
 (iterF (X := ((Int × (Bool × (Int × Unit))) × (D.Layer × (D.Calendar × (D.Local × Unit))))) (fun L11 ((a12, (a13, (a14, _))), (a15, (a16, (a17, _)))) =>
 (cnd (decide (a14 < (((List.length (D.Calendar.Days a16)) : Nat) : Int)))
 (join (Y := ((Int × (Bool × (Int × Unit))) × (D.Layer × (D.Calendar × (D.Local × Unit))))) (fun ((a18, (a19, (a20, _))), (a21, (a22, (a23, _)))) =>
 (L11 ((a18, (a19, ((IntKind.wrap .i64 (a20 + 1)), ()))), (a21, (a22, (a23, ())))))) fun J24 =>
 (cnd a13
 (J24 ((a12, (true, (a14, ()))), (a15, (a16, (a17, ())))))
 (atc (D.Calendar.Days a16) a14 fun a25 =>
 (cnd (decide (a25 = (D.Local.Day a17)))
 (J24 ((a12, (true, (a14, ()))), (a15, (a16, (a17, ())))))
 (J24 ((a12, (false, (a14, ()))), (a15, (a16, (a17, ())))))))))
 (some (a12, (decide (a13 = (decide ((D.Layer.Mode a15) = 2)))))))) fu ((a4, (false, (0, ()))), (a6, (a7, (a9, ())))))))))) fun J26 =>
 (cnd (decide (a2 ≠ 0))
 (some (0, false))
 (cnd (decide (a1 < 0))
 (some (0, false))
 (cnd (decide (0 < (((List.length (D.Layer.Windows p1)) : Nat) : Int)))
 (optc (r05_In fu a0 (D.Layer.Windows p1) p2) fun a27 =>
 (cnd a27
 (J26 ((p2, (a1, ())), (p0, (p1, ()))))
 (some (0, false))))
 (J26 ((p2, (a1, ())), (p0, (p1, ()))))))))))
def r11_look_g (fu : Nat) : Sig := mkSig [.st .Config, .st .Layer, nI] [] [nI, .one (.boo)] [] [] (Int × Bool) (fun q => ((q.1, q.2, ()), ())) (fun x y => r11_look fu x.1 x.2.1 x.2.2.1)
theorem r11_look_ok (fu : Nat) : FnOK Tryz.prog 255 (r11_look_g fu) :=
 FnOK.intro (ty := ty) (E := envL [(100, 0, r05_In_g fu), (189, 0, r04_ToLocal_g fu), (273, 0, r10_Shift_g fu)]) (fu := fu) (an := .two .go (.two .go (.two .go (.two (.join [(2, nI), (3, .one (.ref 1003)), (4, .one (.ref 1004)), (9, nI)] [(1003, .boxst .Config), (1004, .boxst .Layer)] .go) (.two .go (.two .go (.two .go (.two .go (.two (.two .go (.one (.loop [(4, .one (.ref 1004)), (9, nI), (11, .one (.ref 1011)), (12, .one (.ref 1012)), (14, .one (.boo)), (15, nI)] [(1004, .boxst .Layer), (1011, .boxst .Calendar), (1012, .boxst .Local)] (.two .go (.two (.join [(4, .one (.ref 1004)), (9, nI), (11, .one (.ref 1011)), (12, .one (.ref 1012)), (14, .one (.boo)), (15, nI)] [(1004, .boxst .Layer), (1011, .boxst .Calendar), (1012, .boxst .Local)] .go) .go))))) .go))))))))) (fun a b => (a.1, a.2.1)) (fun _ _ => rfl) (envL_ok ⟨r05_In_ok fu, r04_ToLocal_ok fu, r10_Shift_ok fu, trivial⟩) Tryz.func255 rfl rfl (fun x y => by kernel_rfl)
def r11_Raw (fu : Nat) (p0 : D.Config) (p1 : D.Layer) (p2 : Int) : Option (Int) :=
 (optc (r11_look fu p0 p1 p2) fun (a0, a1) =>
 (cnd (!a1)
 (some (-1))
 (nzc (((List.length (D.Layer.Members p1)) : Nat) : Int) (atc (D.Layer.Members p1) (Int.tmod a0 (((List.length (D.Layer.Members p1)) : Nat) : Int)) fun a2 =>
 (some a2)))))
def r11_Raw_g (fu : Nat) : Sig := mkSig [.st .Config, .st .Layer, nI] [] [nI] [] [] (Int) (fun q => ((q, ()), ())) (fun x y => r11_Raw fu x.1 x.2.1 x.2.2.1)
theorem r11_Raw_ok (fu : Nat) : FnOK Tryz.prog 221 (r11_Raw_g fu) :=
 FnOK.intro (ty := ty) (E := envL [(255, 0, r11_look_g fu)]) (fu := fu) (an := .go) (fun a b => a.1) (fun _ _ => rfl) (envL_ok ⟨r11_look_ok fu, trivial⟩) Tryz.func221 rfl rfl (fun x y => by kernel_rfl)
def r12_Away (fu : Nat) (p0 : D.Schedule) (p1 : Int) (p2 : Int) : Option (Bool) :=
 (iterF (X := (P3 × (D.Schedule × Unit))) (fun L0 ((a1, (a2, (a3, _))), (a4, _)) =>
 (cnd (decide (a3 < (((List.length (D.Schedule.Edits a4)) : Nat) : Int)))
 (join (Y := (P3 × (D.Schedule × Unit))) (fun ((a5, (a6, (a7, _))), (a8, _)) =>
 (L0 ((a5, (a6, ((IntKind.wrap .i64 (a7 + 1)), ()))), (a8, ())))) fun J9 =>
 (atc (D.Schedule.Edits a4) a3 fun a10 =>
 (cnd (decide ((D.Edit.Kind a10) = 0))
 (cnd (decide ((D.Edit.A a10) = a1))
 (cnd (decide ((D.Edit.From a10) ≤ a2))
 (cnd (decide (a2 < (D.Edit.To a10)))
 (some true)
 (J9 ((a1, (a2, (a3, ()))), (a4, ()))))
 (J9 ((a1, (a2, (a3, ()))), (a4, ()))))
 (J9 ((a1, (a2, (a3, ()))), (a4, ()))))
 (J9 ((a1, (a2, (a3, ()))), (a4, ()))))))
 (some false))) fu ((p1, (p2, (0, ()))), (p0, ())))
def r12_Away_g (fu : Nat) : Sig := mkSig [.st .Schedule, nI, nI] [] [.one (.boo)] [] [] (Bool) (fun q => ((q, ()), ())) (fun x y => r12_Away fu x.1 x.2.1 x.2.2.1)
theorem r12_Away_ok (fu : Nat) : FnOK Tryz.prog 222 (r12_Away_g fu) :=
 FnOK.intro (ty := ty) (E := envL []) (fu := fu) (an := .two .go (.two (.two .go (.one (.loop [(1, nI), (2, nI), (3, .one (.ref 1003)), (7, nI)] [(1003, .boxst .Schedule)] (.two .go (.two (.join [(1, nI), (2, nI), (3, .one (.ref 1003)), (7, nI)] [(1003, .boxst .Schedule)] .go) .go))))) .go)) (fun a b => a.1) (fun _ _ => rfl) (envL_ok (l := []) trivial) Tryz.func222 rfl rfl (fun x y => by kernel_rfl)
def r12_Top (fu : Nat) (p0 : D.Config) (p1 : Int) (p2 : Int) : Option (Int × Int) :=
 (atc (D.Config.Schedules p0) p1 fun a0 =>
 (iterF (X := ((Int × (Int × Unit)) × (D.Config × (D.Schedule × Unit)))) (fun L1 ((a2, (a3, _)), (a4, (a5, _))) =>
 (cnd (decide (0 ≤ a3))
 (join (Y := ((Int × (Int × Unit)) × (D.Config × (D.Schedule × Unit)))) (fun ((a6, (a7, _)), (a8, (a9, _))) =>
 (L1 ((a6, ((IntKind.wrap .i64 (a7 - 1)), ())), (a8, (a9, ()))))) fun J10 =>
 (atc (D.Schedule.Layers a5) a3 fun a11 =>
 (optc (r11_Raw fu a4 a11 a2) fun a12 =>
 (cnd (decide (0 ≤ a12))
 (optc (r12_Away fu a5 a12 a2) fun a13 =>
 (cnd a13
 (J10 ((a2, (a3, ())), (a4, (a5, ()))))
 (some (a3, a12))))
 (J10 ((a2, (a3, ())), (a4, (a5, ()))))))))
 (some ((-1), (-1))))) fu ((p2, ((IntKind.wrap .i64 ((((List.length (D.Schedule.Layers a0)) : Nat) : Int) - 1)), ())), (p0, (a0, ())))))
def r12_Top_g (fu : Nat) : Sig := mkSig [.st .Config, nI, nI] [] [nI, nI] [] [] (Int × Int) (fun q => ((q.1, q.2, ()), ())) (fun x y => r12_Top fu x.1 x.2.1 x.2.2.1)
theorem r12_Top_ok (fu : Nat) : FnOK Tryz.prog 178 (r12_Top_g fu) :=
 FnOK.intro (ty := ty) (E := envL [(221, 0, r11_Raw_g fu), (222, 0, r12_Away_g fu)]) (fu := fu) (an := .two .go (.two .go (.two (.two .go (.one (.loop [(2, nI), (3, .one (.ref 1003)), (8, .one (.ref 1008)), (9, nI)] [(1003, .boxst .Config), (1008, .boxst .Schedule)] (.two .go (.two (.join [(2, nI), (3, .one (.ref 1003)), (8, .one (.ref 1008)), (9, nI)] [(1003, .boxst .Config), (1008, .boxst .Schedule)] .go) .go))))) .go))) (fun a b => (a.1, a.2.1)) (fun _ _ => rfl) (envL_ok ⟨r11_Raw_ok fu, r12_Away_ok fu, trivial⟩) Tryz.func178 rfl rfl (fun x y => by kernel_rfl)
def r13_Fold (fu : Nat) (p0 : List D.Edit) (p1 : Int) (p2 : Int) : Option (Int) :=
 (iterF (X := ((List D.Edit × P3) × Unit)) (fun L0 ((a1, (a2, (a3, (a4, _)))), _) =>
 (cnd (decide (a4 < (((List.length a1) : Nat) : Int)))
 (join (Y := ((List D.Edit × P3) × Unit)) (fun ((a5, (a6, (a7, (a8, _)))), _) =>
 (L0 ((a5, (a6, (a7, ((IntKind.wrap .i64 (a8 + 1)), ())))), ()))) fun J9 =>
 (atc a1 a4 fun a10 =>
 (cnd (decide (a3 < (D.Edit.From a10)))
 (J9 ((a1, (a2, (a3, (a4, ())))), ()))
 (cnd (decide ((D.Edit.To a10) ≤ a3))
 (J9 ((a1, (a2, (a3, (a4, ())))), ()))
 (cnd (decide ((D.Edit.Kind a10) = 1))
 (J9 ((a1, ((D.Edit.A a10), (a3, (a4, ())))), ()))
 (cnd (decide ((D.Edit.Kind a10) = 2))
 (cnd (decide (a2 = (D.Edit.A a10)))
 (J9 ((a1, ((D.Edit.B a10), (a3, (a4, ())))), ()))
 (cnd (decide ((D.Edit.Kind a10) = 2))
 (cnd (decide (a2 = (D.Edit.B a10)))
 (J9 ((a1, ((D.Edit.A a10), (a3, (a4, ())))), ()))
 (J9 ((a1, (a2, (a3, (a4, ())))), ())))
 (J9 ((a1, (a2, (a3, (a4, ())))), ()))))
 (cnd (decide ((D.Edit.Kind a10) = 2))
 (cnd (decide (a2 = (D.Edit.B a10)))
 (J9 ((a1, ((D.Edit.A a10), (a3, (a4, ())))), ()))
 (J9 ((a1, (a2, (a3, (a4, ())))), ())))
 (J9 ((a1, (a2, (a3, (a4, ())))), ())))))))))
 (some a2))) fu ((p0, (p1, (p2, (0, ())))), ()))
def r13_Fold_g (fu : Nat) : Sig := mkSig [.one (.lst .Edit), nI, nI] [] [nI] [] [] (Int) (fun q => ((q, ()), ())) (fun x y => r13_Fold fu x.1 x.2.1 x.2.2.1)
theorem r13_Fold_ok (fu : Nat) : FnOK Tryz.prog 179 (r13_Fold_g fu) :=
 FnOK.intro (ty := ty) (E := envL []) (fu := fu) (an := .two .go (.two (.two .go (.one (.loop [(0, .one (.lst .Edit)), (1, nI), (2, nI), (7, nI)] [] (.two .go (.two (.join [(0, .one (.lst .Edit)), (1, nI), (2, nI), (7, nI)] [] .go) .go))))) .go)) (fun a b => a.1) (fun _ _ => rfl) (envL_ok (l := []) trivial) Tryz.func179 rfl rfl (fun x y => by kernel_rfl)
def r13_Raw (fu : Nat) (p0 : D.Config) (p1 : Int) (p2 : Int) : Option (Int) :=
 (optc (r12_Top fu p0 p1 p2) fun (a0, a1) =>
 (atc (D.Config.Schedules p0) p1 fun a2 =>
 (optc (r13_Fold fu (D.Schedule.Edits a2) a1 p2) fun a3 =>
 (some a3))))
def r13_Raw_g (fu : Nat) : Sig := mkSig [.st .Config, nI, nI] [] [nI] [] [] (Int) (fun q => ((q, ()), ())) (fun x y => r13_Raw fu x.1 x.2.1 x.2.2.1)
theorem r13_Raw_ok (fu : Nat) : FnOK Tryz.prog 128 (r13_Raw_g fu) :=
 FnOK.intro (ty := ty) (E := envL [(178, 0, r12_Top_g fu), (179, 0, r13_Fold_g fu)]) (fu := fu) (an := .go) (fun a b => a.1) (fun _ _ => rfl) (envL_ok ⟨r12_Top_ok fu, r13_Fold_ok fu, trivial⟩) Tryz.func128 rfl rfl (fun x y => by kernel_rfl)
def r13_Who (fu : Nat) (p0 : D.Config) (p1 : Int) (p2 : Int) : Option (Int) :=
 (optc (r12_Ok fu p0 p1 p2) fun a0 =>
 (cnd (!a0)
 (some (-1))
 (optc (r13_Raw fu p0 p1 p2) fun a1 =>
 (some a1))))
def r13_Who_g (fu : Nat) : Sig := mkSig [.st .Config, nI, nI] [] [nI] [] [] (Int) (fun q => ((q, ()), ())) (fun x y => r13_Who fu x.1 x.2.1 x.2.2.1)
theorem r13_Who_ok (fu : Nat) : FnOK Tryz.prog 80 (r13_Who_g fu) :=
 FnOK.intro (ty := ty) (E := envL [(127, 0, r12_Ok_g fu), (128, 0, r13_Raw_g fu)]) (fu := fu) (an := .go) (fun a b => a.1) (fun _ _ => rfl) (envL_ok ⟨r12_Ok_ok fu, r13_Raw_ok fu, trivial⟩) Tryz.func80 rfl rfl (fun x y => by kernel_rfl)
def r14_Who (fu : Nat) (p0 : D.Config) (p1 : Int) (p2 : Int) : Option (Int) :=
 (optc (r13_Who fu p0 p1 p2) fun a0 =>
 (some a0))
def r14_Who_g (fu : Nat) : Sig := mkSig [.st .Config, nI, nI] [] [nI] [] [] (Int) (fun q => ((q, ()), ())) (fun x y => r14_Who fu x.1 x.2.1 x.2.2.1)
theorem r14_Who_ok (fu : Nat) : FnOK Tryz.prog 36 (r14_Who_g fu) :=
 FnOK.intro (ty := ty) (E := envL [(80, 0, r13_Who_g fu)]) (fu := fu) (an := .go) (fun a b => a.1) (fun _ _ => rfl) (envL_ok ⟨r13_Who_ok fu, trivial⟩) Tryz.func36 rfl rfl (fun x y => by kernel_rfl)
def r25_Has (fu : Nat) (p0 : List Int) (p1 : Int) : Option (Bool) :=
 (iterF (X := ((List Int × (Int × (Int × Unit))) × Unit)) (fun L0 ((a1, (a2, (a3, _))), _) =>
 (cnd (decide (a3 < (((List.length a1) : Nat) : Int)))
 (atc a1 a3 fun a4 =>
 (cnd (decide (a4 = a2))
 (some true)
 (L0 ((a1, (a2, ((IntKind.wrap .i64 (a3 + 1)), ()))), ()))))
 (some false))) fu ((p0, (p1, (0, ()))), ()))
def r25_Has_g (fu : Nat) : Sig := mkSig [.one (.lst .int), nI] [] [.one (.boo)] [] [] (Bool) (fun q => ((q, ()), ())) (fun x y => r25_Has fu x.1 x.2.1)
theorem r25_Has_ok (fu : Nat) : FnOK Tryz.prog 25 (r25_Has_g fu) :=
 FnOK.intro (ty := ty) (E := envL []) (fu := fu) (an := .two .go (.two (.two .go (.one (.loop [(0, .one (.lst .int)), (1, nI), (5, nI)] [] .go))) .go)) (fun a b => a.1) (fun _ _ => rfl) (envL_ok (l := []) trivial) Tryz.func25 rfl rfl (fun x y => by kernel_rfl)
def r29_Due (fu : Nat) (p0 : D.Page) : Option (Int × Bool) :=
 (cnd (decide ((D.Page.State p0) = 0))
 (some ((D.Page.Due p0), true))
 (cnd (decide ((D.Page.State p0) = 2))
 (some ((D.Page.Until p0), true))
 (some (0, false))))
def r29_Due_g (fu : Nat) : Sig := mkSig [.st .Page] [] [nI, .one (.boo)] [] [] (Int × Bool) (fun q => ((q.1, q.2, ()), ())) (fun x y => r29_Due fu x.1)
theorem r29_Due_ok (fu : Nat) : FnOK Tryz.prog 23 (r29_Due_g fu) :=
 FnOK.intro (ty := ty) (E := envL []) (fu := fu) (an := .go) (fun a b => (a.1, a.2.1)) (fun _ _ => rfl) (envL_ok (l := []) trivial) Tryz.func23 rfl rfl (fun x y => by kernel_rfl)
def r25_In (fu : Nat) (p0 : Int) (p1 : Int) (p2 : Int) : Option (Bool) :=
 (cnd (decide (p1 ≤ p0))
 (cnd (decide (p0 ≤ p2))
 (some true)
 (some false))
 (some false))
def r25_In_g (fu : Nat) : Sig := mkSig [nI, nI, nI] [] [.one (.boo)] [] [] (Bool) (fun q => ((q, ()), ())) (fun x y => r25_In fu x.1 x.2.1 x.2.2.1)
theorem r25_In_ok (fu : Nat) : FnOK Tryz.prog 67 (r25_In_g fu) :=
 FnOK.intro (ty := ty) (E := envL []) (fu := fu) (an := .go) (fun a b => a.1) (fun _ _ => rfl) (envL_ok (l := []) trivial) Tryz.func67 rfl rfl (fun x y => by kernel_rfl)
def r25_Count (fu : Nat) (p0 : D.Policy) : Option (Int) :=
 (join (Y := (Unit × (D.Policy × Unit))) (fun (_, (a0, _)) =>
 (some (IntKind.wrap .i64 ((((List.length (D.Policy.Steps a0)) : Nat) : Int) * (IntKind.wrap .i64 ((D.Policy.Repeat a0) + 1)))))) fun J1 =>
 (optc (r25_In fu (D.Policy.Repeat p0) 0 8) fun a2 =>
 (cnd a2
 (cnd (decide (8 < (((List.length (D.Policy.Steps p0)) : Nat) : Int)))
 (some 0)
 (J1 ((), (p0, ()))))
 (some 0))))
def r25_Count_g (fu : Nat) : Sig := mkSig [.st .Policy] [] [nI] [] [] (Int) (fun q => ((q, ()), ())) (fun x y => r25_Count fu x.1)
theorem r25_Count_ok (fu : Nat) : FnOK Tryz.prog 24 (r25_Count_g fu) :=
 FnOK.intro (ty := ty) (E := envL [(67, 0, r25_In_g fu)]) (fu := fu) (an := .two .go (.two (.join [(1, .one (.ref 1001))] [(1001, .boxst .Policy)] .go) .go)) (fun a b => a.1) (fun _ _ => rfl) (envL_ok ⟨r25_In_ok fu, trivial⟩) Tryz.func24 rfl rfl (fun x y => by kernel_rfl)
def r29_New (fu : Nat) (p0 : D.Book) (p1 : Int) (p2 : Int) (p3 : Int) : Option (D.Page × Int) :=
 (join (Y := (P3 × (D.Book × (D.Page × Unit)))) (fun ((a0, (a1, (a2, _))), (a3, (a4, _))) =>
 (optc (r25_In fu a1 0 (IntKind.wrap .i64 ((((List.length (D.Book.Policies a3)) : Nat) : Int) - 1))) fun a5 =>
 (cnd (!a5)
 (some ((D.Page.mk 0 0 0 0 0 0 0 0 0 0 0 [] [] []), 3))
 (some ((D.Page.mk a0 a1 a2 0 a2 0 (-1) 0 a2 0 0 [] [] []), 0))))) fun J6 =>
 (optc (r25_In fu p1 1 999999) fun a7 =>
 (cnd a7
 (optc (r25_In fu p3 0 8589934592) fun a8 =>
 (cnd a8
 (J6 ((p1, (p2, (p3, ()))), (p0, ((D.Page.mk 0 0 0 0 0 0 0 0 0 0 0 [] [] []), ()))))
 (some ((D.Page.mk 0 0 0 0 0 0 0 0 0 0 0 [] [] []), 1))))
 (some ((D.Page.mk 0 0 0 0 0 0 0 0 0 0 0 [] [] []), 1)))))
def r29_New_g (fu : Nat) : Sig := mkSig [.st .Book, nI, nI, nI] [] [.st .Page, nI] [] [] (D.Page × Int) (fun q => ((q.1, q.2, ()), ())) (fun x y => r29_New fu x.1 x.2.1 x.2.2.1 x.2.2.2.1)
theorem r29_New_ok (fu : Nat) : FnOK Tryz.prog 50 (r29_New_g fu) :=
 FnOK.intro (ty := ty) (E := envL [(67, 0, r25_In_g fu)]) (fu := fu) (an := .two .go (.two (.join [(1, nI), (2, nI), (3, nI), (4, .one (.ref 1004)), (8, .one (.ref 1008))] [(1004, .boxst .Book), (1008, .boxst .Page)] .go) .go)) (fun a b => (a.1, a.2.1)) (fun _ _ => rfl) (envL_ok ⟨r25_In_ok fu, trivial⟩) Tryz.func50 rfl rfl (fun x y => by kernel_rfl)
def r25_Waits (fu : Nat) (p0 : D.Policy) : Option (Bool) :=
 (iterF (X := ((Int × Unit) × (D.Policy × Unit))) (fun L0 ((a1, _), (a2, _)) =>
 (cnd (decide (a1 < (((List.length (D.Policy.Steps a2)) : Nat) : Int)))
 (atc (D.Policy.Steps a2) a1 fun a3 =>
 (optc (r25_In fu (D.PolicyStep.Wait a3) 0 86400) fun a4 =>
 (cnd (!a4)
 (some false)
 (L0 (((IntKind.wrap .i64 (a1 + 1)), ()), (a2, ()))))))
 (some true))) fu ((0, ()), (p0, ())))
def r25_Waits_g (fu : Nat) : Sig := mkSig [.st .Policy] [] [.one (.boo)] [] [] (Bool) (fun q => ((q, ()), ())) (fun x y => r25_Waits fu x.1)
theorem r25_Waits_ok (fu : Nat) : FnOK Tryz.prog 93 (r25_Waits_g fu) :=
 FnOK.intro (ty := ty) (E := envL [(67, 0, r25_In_g fu)]) (fu := fu) (an := .two .go (.two (.two .go (.one (.loop [(1, .one (.ref 1001)), (3, nI)] [(1001, .boxst .Policy)] .go))) .go)) (fun a b => a.1) (fun _ _ => rfl) (envL_ok ⟨r25_In_ok fu, trivial⟩) Tryz.func93 rfl rfl (fun x y => by kernel_rfl)
def r25_Set (fu : Nat) (p0 : List Int) (p1 : Int) : Option (Bool) :=
 (iterF (X := ((List Int × (Int × (Int × Unit))) × Unit)) (fun L0 ((a1, (a2, (a3, _))), _) =>
 (cnd (decide (a3 < (((List.length a1) : Nat) : Int)))
 (join (Y := ((List Int × (Int × (Int × Unit))) × Unit)) (fun ((a4, (a5, (a6, _))), _) =>
 (L0 ((a4, (a5, ((IntKind.wrap .i64 (a6 + 1)), ()))), ()))) fun J7 =>
 (atc a1 a3 fun a8 =>
 (cnd (decide (a8 < 0))
 (some false)
 (atc a1 a3 fun a9 =>
 (cnd (decide (a2 ≤ a9))
 (some false)
 (cnd (decide (0 < a3))
 (atc a1 (IntKind.wrap .i64 (a3 - 1)) fun a10 =>
 (atc a1 a3 fun a11 =>
 (cnd (decide (a11 ≤ a10))
 (some false)
 (J7 ((a1, (a2, (a3, ()))), ())))))
 (J7 ((a1, (a2, (a3, ()))), ()))))))))
 (some true))) fu ((p0, (p1, (0, ()))), ()))
def r25_Set_g (fu : Nat) : Sig := mkSig [.one (.lst .int), nI] [] [.one (.boo)] [] [] (Bool) (fun q => ((q, ()), ())) (fun x y => r25_Set fu x.1 x.2.1)
theorem r25_Set_ok (fu : Nat) : FnOK Tryz.prog 95 (r25_Set_g fu) :=
 FnOK.intro (ty := ty) (E := envL []) (fu := fu) (an := .two .go (.two (.two .go (.one (.loop [(0, .one (.lst .int)), (1, nI), (5, nI)] [] (.two .go (.two (.join [(0, .one (.lst .int)), (1, nI), (5, nI)] [] .go) .go))))) .go)) (fun a b => a.1) (fun _ _ => rfl) (envL_ok (l := []) trivial) Tryz.func95 rfl rfl (fun x y => by kernel_rfl)
def r29_starts (fu : Nat) (p0 : D.Page) : Option (Bool) :=
 (iterF (X := (P3 × (D.Page × Unit))) (fun L0 ((a1, (a2, (a3, _))), (a4, _)) =>
 (cnd (decide (a3 < (((List.length (D.Page.Starts a4)) : Nat) : Int)))
 (join (Y := (P3 × (D.Page × Unit))) (fun ((a5, (a6, (a7, _))), (a8, _)) =>
 (L0 ((a5, (a6, ((IntKind.wrap .i64 (a7 + 1)), ()))), (a8, ())))) fun J9 =>
 (atc (D.Page.Starts a4) a3 fun a10 =>
 (join (Y := ((Int × (Int × Unit)) × (D.Page × (D.Start × Unit)))) (fun ((a11, (a12, _)), (a13, (a14, _))) =>
 (cnd (decide (0 ≤ (D.Start.K a14)))
 (J9 (((D.Start.K a14), ((D.Start.At a14), (a12, ()))), (a13, ())))
 (J9 ((a11, ((D.Start.At a14), (a12, ()))), (a13, ()))))) fun J15 =>
 (cnd (decide ((D.Start.At a10) < a2))
 (some false)
 (cnd (decide ((D.Start.K a10) < (-1)))
 (some false)
 (cnd (decide (0 ≤ (D.Start.K a10)))
 (cnd (decide ((D.Start.K a10) ≤ a1))
 (some false)
 (cnd (decide ((D.Page.Next a4) ≤ (D.Start.K a10)))
 (some false)
 (optc (r25_Set fu (D.Start.People a10) 32) fun a16 =>
 (cnd a16
 (J15 ((a1, (a3, ())), (a4, (a10, ()))))
 (some false)))))
 (optc (r25_Set fu (D.Start.People a10) 32) fun a17 =>
 (cnd a17
 (J15 ((a1, (a3, ())), (a4, (a10, ()))))
 (some false)))))))))
 (some (decide ((((List.length (D.Page.Starts a4)) : Nat) : Int) ≤ 200))))) fu (((-1), ((D.Page.Start p0), (0, ()))), (p0, ())))
def r29_starts_g (fu : Nat) : Sig := mkSig [.st .Page] [] [.one (.boo)] [] [] (Bool) (fun q => ((q, ()), ())) (fun x y => r29_starts fu x.1)
theorem r29_starts_ok (fu : Nat) : FnOK Tryz.prog 94 (r29_starts_g fu) :=
 FnOK.intro (ty := ty) (E := envL [(95, 0, r25_Set_g fu)]) (fu := fu) (an := .two .go (.two .go (.two (.two .go (.one (.loop [(1, .one (.ref 1001)), (3, nI), (4, nI), (5, nI)] [(1001, .boxst .Page)] (.two .go (.two (.join [(1, .one (.ref 1001)), (3, nI), (4, nI), (5, nI)] [(1001, .boxst .Page)] (.one (.two .go (.two (.join [(1, .one (.ref 1001)), (3, nI), (5, nI), (6, .one (.ref 1006))] [(1001, .boxst .Page), (1006, .boxst .Start)] .go) .go)))) .go))))) .go))) (fun a b => a.1) (fun _ _ => rfl) (envL_ok ⟨r25_Set_ok fu, trivial⟩) Tryz.func94 rfl rfl (fun x y => by kernel_rfl)
def r29_Check (fu : Nat) (p0 : D.Book) (p1 : D.Page) : Option (Bool) :=
 (join (Y := (Unit × (D.Page × Unit))) (fun (_, (a0, _)) =>
 (join (Y := (Unit × (D.Page × Unit))) (fun (_, (a1, _)) =>
 (join (Y := (Unit × (D.Page × Unit))) (fun (_, (a2, _)) =>
 (iterF (X := ((Int × Unit) × (D.Page × Unit))) (fun L3 ((a4, _), (a5, _)) =>
 (cnd (decide (a4 < (((List.length (D.Page.Seen a5)) : Nat) : Int)))
 (natc a4 fun a6 =>
 (lec a6 (List.length (D.Page.Seen a5)) (atc (D.Page.Seen a5) a4 fun a7 =>
 (optc (r25_Has fu (List.take a6 (D.Page.Seen a5)) a7) fun a8 =>
 (cnd a8
 (some false)
 (L3 (((IntKind.wrap .i64 (a4 + 1)), ()), (a5, ()))))))))
 (some true))) fu ((0, ()), (a2, ())))) fun J9 =>
 (optc (r25_In fu (D.Page.Snoozes a1) 0 4) fun a10 =>
 (cnd a10
 (optc (r25_In fu (D.Page.Hands a1) 0 4) fun a11 =>
 (cnd a11
 (optc (r29_starts fu a1) fun a12 =>
 (cnd a12
 (optc (r25_Set fu (D.Page.Declined a1) 32) fun a13 =>
 (cnd a13
 (cnd (decide (64 < (((List.length (D.Page.Seen a1)) : Nat) : Int)))
 (some false)
 (J9 ((), (a1, ()))))
 (some false)))
 (some false)))
 (some false)))
 (some false))))) fun J14 =>
 (optc (r25_In fu (D.Page.State a0) 0 4) fun a15 =>
 (cnd a15
 (optc (r25_In fu (D.Page.By a0) (-1) 31) fun a16 =>
 (cnd a16
 (optc (r25_In fu (D.Page.Last a0) (D.Page.Start a0) 17179869184) fun a17 =>
 (cnd a17
 (optc (r25_In fu (D.Page.Due a0) 0 17179869184) fun a18 =>
 (cnd a18
 (optc (r25_In fu (D.Page.Until a0) 0 17179869184) fun a19 =>
 (cnd a19
 (J14 ((), (a0, ())))
 (some false)))
 (some false)))
 (some false)))
 (some false)))
 (some false))))) fun J20 =>
 (optc (r29_New fu p0 (D.Page.ID p1) (D.Page.Policy p1) (D.Page.Start p1)) fun (a21, a22) =>
 (cnd (decide (a22 ≠ 0))
 (some false)
 (atc (D.Book.Policies p0) (D.Page.Policy p1) fun a23 =>
 (optc (r25_Waits fu a23) fun a24 =>
 (cnd a24
 (atc (D.Book.Policies p0) (D.Page.Policy p1) fun a25 =>
 (optc (r25_Count fu a25) fun a26 =>
 (optc (r25_In fu (D.Page.Next p1) 0 a26) fun a27 =>
 (cnd a27
 (J20 ((), (p1, ())))
 (some false)))))
 (some false)))))))
def r29_Check_g (fu : Nat) : Sig := mkSig [.st .Book, .st .Page] [] [.one (.boo)] [] [] (Bool) (fun q => ((q, ()), ())) (fun x y => r29_Check fu x.1 x.2.1)
theorem r29_Check_ok (fu : Nat) : FnOK Tryz.prog 45 (r29_Check_g fu) :=
 FnOK.intro (ty := ty) (E := envL [(24, 0, r25_Count_g fu), (25, 0, r25_Has_g fu), (50, 0, r29_New_g fu), (67, 0, r25_In_g fu), (93, 0, r25_Waits_g fu), (94, 0, r29_starts_g fu), (95, 0, r25_Set_g fu)]) (fu := fu) (an := .two .go (.two (.join [(3, .one (.ref 1003))] [(1003, .boxst .Page)] .go) (.two (.join [(3, .one (.ref 1003))] [(1003, .boxst .Page)] .go) (.two (.join [(3, .one (.ref 1003))] [(1003, .boxst .Page)] .go) (.two (.two .go (.one (.loop [(3, .one (.ref 1003)), (7, nI)] [(1003, .boxst .Page)] .go))) .go))))) (fun a b => a.1) (fun _ _ => rfl) (envL_ok ⟨r25_Count_ok fu, r25_Has_ok fu, r29_New_ok fu, r25_In_ok fu, r25_Waits_ok fu, r29_starts_ok fu, r25_Set_ok fu, trivial⟩) Tryz.func45 rfl rfl (fun x y => by kernel_rfl)
def r25_Part (fu : Nat) (p0 : D.Policy) (p1 : Int) : Option (Int × Int × Bool) :=
 (join (Y := ((Int × Unit) × (D.Policy × Unit))) (fun ((a0, _), (a1, _)) =>
 (nzc (((List.length (D.Policy.Steps a1)) : Nat) : Int) (nzc (((List.length (D.Policy.Steps a1)) : Nat) : Int) (some ((Int.tmod a0 (((List.length (D.Policy.Steps a1)) : Nat) : Int)), ((IntKind.wrap .i64 (Int.tdiv a0 (((List.length (D.Policy.Steps a1)) : Nat) : Int))), true)))))) fun J2 =>
 (cnd (decide (p1 < 0))
 (some (0, (0, false)))
 (optc (r25_Count fu p0) fun a3 =>
 (cnd (decide (a3 ≤ p1))
 (some (0, (0, false)))
 (J2 ((p1, ()), (p0, ())))))))
def r25_Part_g (fu : Nat) : Sig := mkSig [.st .Policy, nI] [] [nI, nI, .one (.boo)] [] [] (Int × Int × Bool) (fun q => ((q.1, q.2.1, q.2.2, ()), ())) (fun x y => r25_Part fu x.1 x.2.1)
theorem r25_Part_ok (fu : Nat) : FnOK Tryz.prog 52 (r25_Part_g fu) :=
 FnOK.intro (ty := ty) (E := envL [(24, 0, r25_Count_g fu)]) (fu := fu) (an := .two .go (.two (.join [(1, nI), (2, .one (.ref 1002))] [(1002, .boxst .Policy)] .go) .go)) (fun a b => (a.1, a.2.1, a.2.2.1)) (fun _ _ => rfl) (envL_ok ⟨r25_Count_ok fu, trivial⟩) Tryz.func52 rfl rfl (fun x y => by kernel_rfl)
def r25_People (fu : Nat) (p0 : D.Config) (p1 : D.Book) (p2 : List D.Target) (p3 : Int) : Option (List Int) :=
 (iterF (X := ((List D.Target × (Int × (List Int × (Int × Unit)))) × (D.Config × (D.Book × Unit)))) (fun L0 ((a1, (a2, (a3, (a4, _)))), (a5, (a6, _))) =>
 (cnd (decide (a4 < (((List.length a1) : Nat) : Int)))
 (join (Y := ((List D.Target × (Int × (List Int × (Int × Unit)))) × (D.Config × (D.Book × Unit)))) (fun ((a7, (a8, (a9, (a10, _)))), (a11, (a12, _))) =>
 (L0 ((a7, (a8, (a9, ((IntKind.wrap .i64 (a10 + 1)), ())))), (a11, (a12, ()))))) fun J13 =>
 (atc a1 a4 fun a14 =>
 (cnd (decide ((D.Target.Kind a14) = 0))
 (optc (r25_In fu (D.Target.Index a14) 0 (IntKind.wrap .i64 ((((List.length (D.Config.People a5)) : Nat) : Int) - 1))) fun a15 =>
 (cnd a15
 (optc (r25_With fu a3 (D.Target.Index a14)) fun a16 =>
 (J13 ((a1, (a2, (a16, (a4, ())))), (a5, (a6, ())))))
 (cnd (decide ((D.Target.Kind a14) = 1))
 (optc (r25_In fu (D.Target.Index a14) 0 (IntKind.wrap .i64 ((((List.length (D.Config.Schedules a5)) : Nat) : Int) - 1))) fun a17 =>
 (cnd a17
 (optc (r14_Who fu a5 (D.Target.Index a14) a2) fun a18 =>
 (cnd (decide (0 ≤ a18))
 (optc (r25_With fu a3 a18) fun a19 =>
 (J13 ((a1, (a2, (a19, (a4, ())))), (a5, (a6, ())))))
 (J13 ((a1, (a2, (a3, (a4, ())))), (a5, (a6, ()))))))
 (cnd (decide ((D.Target.Kind a14) = 2))
 (optc (r25_In fu (D.Target.Index a14) 0 (IntKind.wrap .i64 ((((List.length (D.Book.Teams a6)) : Nat) : Int) - 1))) fun a20 =>
 (cnd a20
 (iterF (X := ((List D.Target × (Int × (List Int × (Int × (Int × Unit))))) × (D.Config × (D.Book × (D.Target × Unit))))) (fun L21 ((a22, (a23, (a24, (a25, (a26, _))))), (a27, (a28, (a29, _)))) =>
 (atc (D.Book.Teams a28) (D.Target.Index a29) fun a30 =>
 (cnd (decide (a26 < (((List.length (D.Team.Members a30)) : Nat) : Int)))
 (join (Y := ((List D.Target × (Int × (List Int × (Int × (Int × Unit))))) × (D.Config × (D.Book × (D.Target × Unit))))) (fun ((a31, (a32, (a33, (a34, (a35, _))))), (a36, (a37, (a38, _)))) =>
 (L21 ((a31, (a32, (a33, (a34, ((IntKind.wrap .i64 (a35 + 1)), ()))))), (a36, (a37, (a38, ())))))) fun J39 =>
 (atc (D.Book.Teams a28) (D.Target.Index a29) fun a40 =>
 (atc (D.Team.Members a40) a26 fun a41 =>
 (optc (r25_In fu a41 0 (IntKind.wrap .i64 ((((List.length (D.Config.People a27)) : Nat) : Int) - 1))) fun a42 =>
 (cnd a42
 (atc (D.Book.Teams a28) (D.Target.Index a29) fun a43 =>
 (atc (D.Team.Members a43) a26 fun a44 =>
 (optc (r25_With fu a24 a44) fun a45 =>
 (J39 ((a22, (a23, (a45, (a25, (a26, ()))))), (a27, (a28, (a29, ()))))))))
 (J39 ((a22, (a23, (a24, (a25, (a26, ()))))), (a27, (a28, (a29, ()))))))))))
 (J13 ((a22, (a23, (a24, (a25, ())))), (a27, (a28, ()))))))) fu ((a1, (a2, (a3, (a4, (0, ()))))), (a5, (a6, (a14, ())))))
 (J13 ((a1, (a2, (a3, (a4, ())))), (a5, (a6, ()))))))
 (J13 ((a1, (a2, (a3, (a4, ())))), (a5, (a6, ())))))))
 (cnd (decide ((D.Target.Kind a14) = 2))
 (optc (r25_In fu (D.Target.Index a14) 0 (IntKind.wrap .i64 ((((List.length (D.Book.Teams a6)) : Nat) : Int) - 1))) fun a46 =>
 (cnd a46
 (iterF (X := ((List D.Target × (Int × (List Int × (Int × (Int × Unit))))) × (D.Config × (D.Book × (D.Target × Unit))))) (fun L47 ((a48, (a49, (a50, (a51, (a52, _))))), (a53, (a54, (a55, _)))) =>
 (atc (D.Book.Teams a54) (D.Target.Index a55) fun a56 =>
 (cnd (decide (a52 < (((List.length (D.Team.Members a56)) : Nat) : Int)))
 (join (Y := ((List D.Target × (Int × (List Int × (Int × (Int × Unit))))) × (D.Config × (D.Book × (D.Target × Unit))))) (fun ((a57, (a58, (a59, (a60, (a61, _))))), (a62, (a63, (a64, _)))) =>
 (L47 ((a57, (a58, (a59, (a60, ((IntKind.wrap .i64 (a61 + 1)), ()))))), (a62, (a63, (a64, ())))))) fun J65 =>
 (atc (D.Book.Teams a54) (D.Target.Index a55) fun a66 =>
 (atc (D.Team.Members a66) a52 fun a67 =>
 (optc (r25_In fu a67 0 (IntKind.wrap .i64 ((((List.length (D.Config.People a53)) : Nat) : Int) - 1))) fun a68 =>
 (cnd a68
 (atc (D.Book.Teams a54) (D.Target.Index a55) fun a69 =>
 (atc (D.Team.Members a69) a52 fun a70 =>
 (optc (r25_With fu a50 a70) fun a71 =>
 (J65 ((a48, (a49, (a71, (a51, (a52, ()))))), (a53, (a54, (a55, ()))))))))
 (J65 ((a48, (a49, (a50, (a51, (a52, ()))))), (a53, (a54, (a55, ()))))))))))
 (J13 ((a48, (a49, (a50, (a51, ())))), (a53, (a54, ()))))))) fu ((a1, (a2, (a3, (a4, (0, ()))))), (a5, (a6, (a14, ())))))
 (J13 ((a1, (a2, (a3, (a4, ())))), (a5, (a6, ()))))))
 (J13 ((a1, (a2, (a3, (a4, ())))), (a5, (a6, ()))))))))
 (cnd (decide ((D.Target.Kind a14) = 1))
 (optc (r25_In fu (D.Target.Index a14) 0 (IntKind.wrap .i64 ((((List.length (D.Config.Schedules a5)) : Nat) : Int) - 1))) fun a72 =>
 (cnd a72
 (optc (r14_Who fu a5 (D.Target.Index a14) a2) fun a73 =>
 (cnd (decide (0 ≤ a73))
 (optc (r25_With fu a3 a73) fun a74 =>
 (J13 ((a1, (a2, (a74, (a4, ())))), (a5, (a6, ())))))
 (J13 ((a1, (a2, (a3, (a4, ())))), (a5, (a6, ()))))))
 (cnd (decide ((D.Target.Kind a14) = 2))
 (optc (r25_In fu (D.Target.Index a14) 0 (IntKind.wrap .i64 ((((List.length (D.Book.Teams a6)) : Nat) : Int) - 1))) fun a75 =>
 (cnd a75
 (iterF (X := ((List D.Target × (Int × (List Int × (Int × (Int × Unit))))) × (D.Config × (D.Book × (D.Target × Unit))))) (fun L76 ((a77, (a78, (a79, (a80, (a81, _))))), (a82, (a83, (a84, _)))) =>
 (atc (D.Book.Teams a83) (D.Target.Index a84) fun a85 =>
 (cnd (decide (a81 < (((List.length (D.Team.Members a85)) : Nat) : Int)))
 (join (Y := ((List D.Target × (Int × (List Int × (Int × (Int × Unit))))) × (D.Config × (D.Book × (D.Target × Unit))))) (fun ((a86, (a87, (a88, (a89, (a90, _))))), (a91, (a92, (a93, _)))) =>
 (L76 ((a86, (a87, (a88, (a89, ((IntKind.wrap .i64 (a90 + 1)), ()))))), (a91, (a92, (a93, ())))))) fun J94 =>
 (atc (D.Book.Teams a83) (D.Target.Index a84) fun a95 =>
 (atc (D.Team.Members a95) a81 fun a96 =>
 (optc (r25_In fu a96 0 (IntKind.wrap .i64 ((((List.length (D.Config.People a82)) : Nat) : Int) - 1))) fun a97 =>
 (cnd a97
 (atc (D.Book.Teams a83) (D.Target.Index a84) fun a98 =>
 (atc (D.Team.Members a98) a81 fun a99 =>
 (optc (r25_With fu a79 a99) fun a100 =>
 (J94 ((a77, (a78, (a100, (a80, (a81, ()))))), (a82, (a83, (a84, ()))))))))
 (J94 ((a77, (a78, (a79, (a80, (a81, ()))))), (a82, (a83, (a84, ()))))))))))
 (J13 ((a77, (a78, (a79, (a80, ())))), (a82, (a83, ()))))))) fu ((a1, (a2, (a3, (a4, (0, ()))))), (a5, (a6, (a14, ())))))
 (J13 ((a1, (a2, (a3, (a4, ())))), (a5, (a6, ()))))))
 (J13 ((a1, (a2, (a3, (a4, ())))), (a5, (a6, ())))))))
 (cnd (decide ((D.Target.Kind a14) = 2))
 (optc (r25_In fu (D.Target.Index a14) 0 (IntKind.wrap .i64 ((((List.length (D.Book.Teams a6)) : Nat) : Int) - 1))) fun a101 =>
 (cnd a101
 (iterF (X := ((List D.Target × (Int × (List Int × (Int × (Int × Unit))))) × (D.Config × (D.Book × (D.Target × Unit))))) (fun L102 ((a103, (a104, (a105, (a106, (a107, _))))), (a108, (a109, (a110, _)))) =>
 (atc (D.Book.Teams a109) (D.Target.Index a110) fun a111 =>
 (cnd (decide (a107 < (((List.length (D.Team.Members a111)) : Nat) : Int)))
 (join (Y := ((List D.Target × (Int × (List Int × (Int × (Int × Unit))))) × (D.Config × (D.Book × (D.Target × Unit))))) (fun ((a112, (a113, (a114, (a115, (a116, _))))), (a117, (a118, (a119, _)))) =>
 (L102 ((a112, (a113, (a114, (a115, ((IntKind.wrap .i64 (a116 + 1)), ()))))), (a117, (a118, (a119, ())))))) fun J120 =>
 (atc (D.Book.Teams a109) (D.Target.Index a110) fun a121 =>
 (atc (D.Team.Members a121) a107 fun a122 =>
 (optc (r25_In fu a122 0 (IntKind.wrap .i64 ((((List.length (D.Config.People a108)) : Nat) : Int) - 1))) fun a123 =>
 (cnd a123
 (atc (D.Book.Teams a109) (D.Target.Index a110) fun a124 =>
 (atc (D.Team.Members a124) a107 fun a125 =>
 (optc (r25_With fu a105 a125) fun a126 =>
 (J120 ((a103, (a104, (a126, (a106, (a107, ()))))), (a108, (a109, (a110, ()))))))))
 (J120 ((a103, (a104, (a105, (a106, (a107, ()))))), (a108, (a109, (a110, ()))))))))))
 (J13 ((a103, (a104, (a105, (a106, ())))), (a108, (a109, ()))))))) fu ((a1, (a2, (a3, (a4, (0, ()))))), (a5, (a6, (a14, ())))))
 (J13 ((a1, (a2, (a3, (a4, ())))), (a5, (a6, ()))))))
 (J13 ((a1, (a2, (a3, (a4, ())))), (a5, (a6, ())))))))))
 (some a3))) fu ((p2, (p3, ([], (0, ())))), (p0, (p1, ()))))
def r25_People_g (fu : Nat) : Sig := mkSig [.st .Config, .st .Book, .one (.lst .Target), nI] [] [.one (.lst .int)] [] [] (List Int) (fun q => ((q, ()), ())) (fun x y => r25_People fu x.1 x.2.1 x.2.2.1 x.2.2.2.1)
theorem r25_People_ok (fu : Nat) : FnOK Tryz.prog 53 (r25_People_g fu) :=
 FnOK.intro (ty := ty) (E := envL [(35, 0, r25_With_g fu), (36, 0, r14_Who_g fu), (67, 0, r25_In_g fu)]) (fu := fu) (an := .two .go (.two .go (.two (.two .go (.one (.loop [(2, .one (.lst .Target)), (3, nI), (4, .one (.ref 1004)), (5, .one (.ref 1005)), (9, .one (.lst .int)), (10, nI)] [(1004, .boxst .Config), (1005, .boxst .Book)] (.two .go (.two (.join [(2, .one (.lst .Target)), (3, nI), (4, .one (.ref 1004)), (5, .one (.ref 1005)), (9, .one (.lst .int)), (10, nI)] [(1004, .boxst .Config), (1005, .boxst .Book)] (.one (.two .go (.one (.two .go (.two .go (.two .go (.two .go (.two .go (.two (.two .go (.one (.loop [(2, .one (.lst .Target)), (3, nI), (4, .one (.ref 1004)), (5, .one (.ref 1005)), (9, .one (.lst .int)), (10, nI), (11, .one (.ref 1011)), (13, nI)] [(1004, .boxst .Config), (1005, .boxst .Book), (1011, .boxst .Target)] (.two .go (.two (.join [(2, .one (.lst .Target)), (3, nI), (4, .one (.ref 1004)), (5, .one (.ref 1005)), (9, .one (.lst .int)), (10, nI), (11, .one (.ref 1011)), (13, nI)] [(1004, .boxst .Config), (1005, .boxst .Book), (1011, .boxst .Target)] .go) .go))))) .go)))))))))) .go))))) .go))) (fun a b => a.1) (fun _ _ => rfl) (envL_ok ⟨r25_With_ok fu, r14_Who_ok fu, r25_In_ok fu, trivial⟩) Tryz.func53 rfl rfl (fun x y => by kernel_rfl)
def r05_Range (fu : Nat) (p0 : Int) (p1 : Int) : Option (Bool) :=
 (cnd (decide (0 ≤ p0))
 (cnd (decide (p0 ≤ 8589934592))
 (cnd (decide (p0 ≤ p1))
 (cnd (decide (p1 ≤ 8589934592))
 (cnd (decide ((IntKind.wrap .i64 (p1 - p0)) ≤ 34560000))
 (some true)
 (some false))
 (some false))
 (some false))
 (some false))
 (some false))
def r05_Range_g (fu : Nat) : Sig := mkSig [nI, nI] [] [.one (.boo)] [] [] (Bool) (fun q => ((q, ()), ())) (fun x y => r05_Range fu x.1 x.2.1)
theorem r05_Range_ok (fu : Nat) : FnOK Tryz.prog 142 (r05_Range_g fu) :=
 FnOK.intro (ty := ty) (E := envL []) (fu := fu) (an := .go) (fun a b => a.1) (fun _ _ => rfl) (envL_ok (l := []) trivial) Tryz.func142 rfl rfl (fun x y => by kernel_rfl)
def r18_Wrong (fu : Nat) (p0 : D.Config) (p1 : Int) (p2 : Int) (p3 : Int) : Option (Int) :=
 (join (Y := (Unit × Unit)) (fun (_, _) =>
 (some 0)) fun J0 =>
 (optc (r08_Check fu p0) fun a1 =>
 (cnd (decide (a1 ≠ 0))
 (some 8)
 (cnd (decide (p1 < 0))
 (some 3)
 (cnd (decide ((((List.length (D.Config.People p0)) : Nat) : Int) ≤ p1))
 (some 3)
 (optc (r05_Range fu p2 p3) fun a2 =>
 (cnd (!a2)
 (some 1)
 (J0 ((), ())))))))))
def r18_Wrong_g (fu : Nat) : Sig := mkSig [.st .Config, nI, nI, nI] [] [nI] [] [] (Int) (fun q => ((q, ()), ())) (fun x y => r18_Wrong fu x.1 x.2.1 x.2.2.1 x.2.2.2.1)
theorem r18_Wrong_ok (fu : Nat) : FnOK Tryz.prog 99 (r18_Wrong_g fu) :=
 FnOK.intro (ty := ty) (E := envL [(141, 0, r08_Check_g fu), (142, 0, r05_Range_g fu)]) (fu := fu) (an := .two .go (.two (.join [] [] .go) .go)) (fun a b => a.1) (fun _ _ => rfl) (envL_ok ⟨r08_Check_ok fu, r05_Range_ok fu, trivial⟩) Tryz.func99 rfl rfl (fun x y => by kernel_rfl)
def r18_Reachable (fu : Nat) (p0 : D.Config) (p1 : Int) (p2 : Int) (p3 : Bool) : Option (Bool) :=
 (optc (r18_Wrong fu p0 p1 p2 p2) fun a0 =>
 (cnd (decide (a0 ≠ 0))
 (some false)
 (atc (D.Config.People p0) p1 fun a1 =>
 (atc (D.Config.Zones p0) (D.Person.Zone a1) fun a2 =>
 (optc (r05_In fu a2 (D.Person.Quiet a1) p2) fun a3 =>
 (cnd a3
 (cnd p3
 (cnd (D.Person.Consent a1)
 (some true)
 (some false))
 (some false))
 (some true)))))))
def r18_Reachable_g (fu : Nat) : Sig := mkSig [.st .Config, nI, nI, .one (.boo)] [] [.one (.boo)] [] [] (Bool) (fun q => ((q, ()), ())) (fun x y => r18_Reachable fu x.1 x.2.1 x.2.2.1 x.2.2.2.1)
theorem r18_Reachable_ok (fu : Nat) : FnOK Tryz.prog 54 (r18_Reachable_g fu) :=
 FnOK.intro (ty := ty) (E := envL [(99, 0, r18_Wrong_g fu), (100, 0, r05_In_g fu)]) (fu := fu) (an := .go) (fun a b => a.1) (fun _ _ => rfl) (envL_ok ⟨r18_Wrong_ok fu, r05_In_ok fu, trivial⟩) Tryz.func54 rfl rfl (fun x y => by kernel_rfl)
def r29_Copy (fu : Nat) (p0 : D.Page) : Option (D.Page) :=
 (iterF (X := ((Int × Unit) × (D.Page × (D.Page × (List D.Start × Unit))))) (fun L0 ((a1, _), (a2, (a3, (a4, _)))) =>
 (cnd (decide (a1 < (((List.length (D.Page.Starts a2)) : Nat) : Int)))
 (atc (D.Page.Starts a2) a1 fun a5 =>
 (lec (List.length (D.Start.People a5)) 34359738368 (lec ((List.length a4) + (List.length (a5 :: []))) 34359738368 (L0 (((IntKind.wrap .i64 (a1 + 1)), ()), (a2, (a3, ((a4 ++ (a5 :: [])), ()))))))))
 (lec (List.length (D.Page.Declined a2)) 34359738368 (lec (List.length (D.Page.Seen a2)) 34359738368 (some (D.Page.mk (D.Page.ID a2) (D.Page.Policy a2) (D.Page.Start a2) (D.Page.Next a2) (D.Page.Due a2) (D.Page.State a2) (D.Page.By a2) (D.Page.Until a2) (D.Page.Last a2) (D.Page.Snoozes a2) (D.Page.Hands a2) a4 (D.Page.Declined a2) (D.Page.Seen a2))))))) fu ((0, ()), (p0, ((D.Page.mk 0 0 0 0 0 0 0 0 0 0 0 [] [] []), ([], ())))))
def r29_Copy_g (fu : Nat) : Sig := mkSig [.st .Page] [] [.agg [.num .i64, .num .i64, .num .i64, .num .i64, .num .i64, .num .i64, .num .i64, .num .i64, .num .i64, .num .i64, .num .i64, .own 1025, .own 1030, .own 1033]] [(1025, .arr .Start), (1030, .arr .int), (1033, .arr .int)] [] (D.Page) (fun q => (((q.ID, q.Policy, q.Start, q.Next, q.Due, q.State, q.By, q.Until, q.Last, q.Snoozes, q.Hands, ()), ()), (q.Starts, q.Declined, q.Seen, ()))) (fun x y => r29_Copy fu x.1)
theorem r29_Copy_ok (fu : Nat) : FnOK Tryz.prog 66 (r29_Copy_g fu) :=
 FnOK.intro (ty := ty) (E := envL []) (fu := fu) (an := .two .go (.two .go (.two (.two .go (.one (.loop [(1, .one (.ref 1001)), (2, .one (.ref 1002)), (3, .one (.own 1025)), (4, nI)] [(1001, .boxst .Page), (1002, .boxst .Page), (1025, .arr .Start)] .go))) .go))) (fun a b => (D.Page.mk a.1.1 a.1.2.1 a.1.2.2.1 a.1.2.2.2.1 a.1.2.2.2.2.1 a.1.2.2.2.2.2.1 a.1.2.2.2.2.2.2.1 a.1.2.2.2.2.2.2.2.1 a.1.2.2.2.2.2.2.2.2.1 a.1.2.2.2.2.2.2.2.2.2.1 a.1.2.2.2.2.2.2.2.2.2.2.1 b.1 b.2.1 b.2.2.1)) (fun _ _ => rfl) (envL_ok (l := []) trivial) Tryz.func66 rfl rfl (fun x y => by kernel_rfl)
def r29_Step (fu : Nat) (p0 : D.Config) (p1 : D.Book) (p2 : D.Page) : Option (D.Page × Int) :=
 (optc (r29_Check fu p1 p2) fun a0 =>
 (cnd (!a0)
 (some ((D.Page.mk 0 0 0 0 0 0 0 0 0 0 0 [] [] []), 8))
 (optc (r29_Due fu p2) fun (a1, a2) =>
 (cnd (!a2)
 (some ((D.Page.mk 0 0 0 0 0 0 0 0 0 0 0 [] [] []), 9))
 (cnd (decide (200 ≤ (((List.length (D.Page.Starts p2)) : Nat) : Int)))
 (some ((D.Page.mk 0 0 0 0 0 0 0 0 0 0 0 [] [] []), 5))
 (optc (r29_Copy fu p2) fun a3 =>
 (cnd (decide ((D.Page.State p2) = 2))
 (some ((D.Page.mk (D.Page.ID a3) (D.Page.Policy a3) (D.Page.Start a3) (D.Page.Next a3) a1 0 (D.Page.By a3) (D.Page.Until a3) (max a1 (D.Page.Last p2)) (D.Page.Snoozes a3) (D.Page.Hands a3) (D.Page.Starts a3) (D.Page.Declined a3) (D.Page.Seen a3)), 0))
 (atc (D.Book.Policies p1) (D.Page.Policy p2) fun a4 =>
 (optc (r25_Part fu a4 (D.Page.Next p2)) fun (a5, (a6, a7)) =>
 (cnd (!a7)
 (some ((D.Page.mk (D.Page.ID a3) (D.Page.Policy a3) (D.Page.Start a3) (D.Page.Next a3) (D.Page.Due a3) 3 (D.Page.By a3) (D.Page.Until a3) (max a1 (D.Page.Last p2)) (D.Page.Snoozes a3) (D.Page.Hands a3) (D.Page.Starts a3) (D.Page.Declined a3) (D.Page.Seen a3)), 0))
 (atc (D.Policy.Steps a4) a5 fun a8 =>
 (optc (r25_People fu p0 p1 (D.PolicyStep.Targets a8) a1) fun a9 =>
 (iterF (X := ((Int × (Int × (List Int × (Int × Unit)))) × (D.Config × (D.Page × (D.Page × (P11 × (D.Policy × ((Int × (Int × Unit)) × (List D.Start × (List Int × (List Int × (List Int × Unit)))))))))))) (fun L10 ((a11, (a12, (a13, (a14, _)))), (a15, (a16, (a17, ((a18, (a19, (a20, (a21, (a22, (a23, (a24, (a25, (a26, (a27, (a28, _))))))))))), (a29, ((a30, (a31, _)), (a32, (a33, (a34, (a35, _))))))))))) =>
 (cnd (decide (a14 < (((List.length a13) : Nat) : Int)))
 (join (Y := ((Int × (Int × (List Int × (Int × Unit)))) × (D.Config × (D.Page × (D.Page × (P11 × (D.Policy × ((Int × (Int × Unit)) × (List D.Start × (List Int × (List Int × (List Int × Unit)))))))))))) (fun ((a36, (a37, (a38, (a39, _)))), (a40, (a41, (a42, ((a43, (a44, (a45, (a46, (a47, (a48, (a49, (a50, (a51, (a52, (a53, _))))))))))), (a54, ((a55, (a56, _)), (a57, (a58, (a59, (a60, _))))))))))) =>
 (L10 ((a36, (a37, (a38, ((IntKind.wrap .i64 (a39 + 1)), ())))), (a40, (a41, (a42, ((a43, (a44, (a45, (a46, (a47, (a48, (a49, (a50, (a51, (a52, (a53, ()))))))))))), (a54, ((a55, (a56, ())), (a57, (a58, (a59, (a60, ()))))))))))))) fun J61 =>
 (atc a13 a14 fun a62 =>
 (atc (D.Policy.Steps a29) a12 fun a63 =>
 (optc (r18_Reachable fu a15 a62 a11 (D.PolicyStep.Urgent a63)) fun a64 =>
 (cnd a64
 (atc a13 a14 fun a65 =>
 (lec ((List.length a35) + (List.length (a65 :: []))) 34359738368 (J61 ((a11, (a12, (a13, (a14, ())))), (a15, (a16, (a17, ((a18, (a19, (a20, (a21, (a22, (a23, (a24, (a25, (a26, (a27, (a28, ()))))))))))), (a29, ((a30, (a31, ())), (a32, (a33, (a34, ((a35 ++ (a65 :: [])), ()))))))))))))))
 (J61 ((a11, (a12, (a13, (a14, ())))), (a15, (a16, (a17, ((a18, (a19, (a20, (a21, (a22, (a23, (a24, (a25, (a26, (a27, (a28, ()))))))))))), (a29, ((a30, (a31, ())), (a32, (a33, (a34, (a35, ())))))))))))))))))
 (lec ((List.length a32) + (List.length ((D.Start.mk a30 a31 a35) :: []))) 34359738368 (join (Y := (Unit × (D.Page × ((Int × (Int × (Int × (Int × (Int × (Int × (Int × (Int × (Int × (Int × (Int × (List Int × Unit)))))))))))) × (List D.Start × (List Int × Unit)))))) (fun (_, (a66, ((a67, (a68, (a69, (a70, (a71, (a72, (a73, (a74, (a75, (a76, (a77, (a78, _)))))))))))), (a79, (a80, _))))) =>
 (some ((D.Page.mk a67 a68 a69 a70 a71 a72 a73 a74 a75 a76 a77 a79 a78 a80), 0))) fun J81 =>
 (cnd (decide (0 < (((List.length a35) : Nat) : Int)))
 (atc (D.Policy.Steps a29) a12 fun a82 =>
 (J81 ((), (a17, ((a18, (a19, (a20, ((IntKind.wrap .i64 ((D.Page.Next a16) + 1)), ((IntKind.wrap .i64 (a22 + (D.PolicyStep.Wait a82))), (a23, (a24, (a25, (a26, (a27, (a28, ([], ())))))))))))), ((a32 ++ ((D.Start.mk a30 a31 a35) :: [])), (a34, ())))))))
 (J81 ((), (a17, ((a18, (a19, (a20, ((IntKind.wrap .i64 ((D.Page.Next a16) + 1)), (a22, (a23, (a24, (a25, (a26, (a27, (a28, ([], ())))))))))))), ((a32 ++ ((D.Start.mk a30 a31 a35) :: [])), (a34, ()))))))))))) fu ((a1, (a5, (a9, (0, ())))), (p0, (p2, ((D.Page.mk 0 0 0 0 0 0 0 0 0 0 0 [] [] []), (((D.Page.ID a3), ((D.Page.Policy a3), ((D.Page.Start a3), ((D.Page.Next a3), ((D.Page.Due a3), ((D.Page.State a3), ((D.Page.By a3), ((D.Page.Until a3), ((max a1 (D.Page.Last p2)), ((D.Page.Snoozes a3), ((D.Page.Hands a3), ()))))))))))), (a4, (((D.Page.Next p2), (a1, ())), ((D.Page.Starts a3), ((D.Page.Declined a3), ((D.Page.Seen a3), ([], ()))))))))))))))))))))))))
def r29_Step_g (fu : Nat) : Sig := mkSig [.st .Config, .st .Book, .st .Page] [] [.st .Page, nI] [] [] (D.Page × Int) (fun q => ((q.1, q.2, ()), ())) (fun x y => r29_Step fu x.1 x.2.1 x.2.2.1)
theorem r29_Step_ok (fu : Nat) : FnOK Tryz.prog 59 (r29_Step_g fu) :=
 FnOK.intro (ty := ty) (E := envL [(23, 0, r29_Due_g fu), (45, 0, r29_Check_g fu), (52, 0, r25_Part_g fu), (53, 0, r25_People_g fu), (54, 0, r18_Reachable_g fu), (66, 0, r29_Copy_g fu)]) (fu := fu) (an := .two .go (.two .go (.two .go (.two .go (.two .go (.two .go (.two .go (.two .go (.two .go (.two .go (.two .go (.two .go (.two .go (.two (.two .go (.one (.loop [(3, .one (.ref 1003)), (5, .one (.ref 1005)), (6, .one (.ref 1006)), (8, nI), (10, .one (.ref 1010)), (11, .one (.ref 1011)), (12, nI), (15, .one (.ref 1015)), (16, .one (.lst .int)), (17, nI)] [(1003, .boxst .Config), (1005, .boxst .Page), (1006, .boxst .Page), (1010, .box [.num .i64, .num .i64, .num .i64, .num .i64, .num .i64, .num .i64, .num .i64, .num .i64, .num .i64, .num .i64, .num .i64, .own 1038025, .own 1038030, .own 1038033]), (1011, .boxst .Policy), (1015, .box [.num .i64, .num .i64, .own 1108]), (1038025, .arr .Start), (1038030, .arr .int), (1038033, .arr .int), (1108, .arr .int)] (.two .go (.two (.join [(3, .one (.ref 1003)), (5, .one (.ref 1005)), (6, .one (.ref 1006)), (8, nI), (10, .one (.ref 1010)), (11, .one (.ref 1011)), (12, nI), (15, .one (.ref 1015)), (16, .one (.lst .int)), (17, nI)] [(1003, .boxst .Config), (1005, .boxst .Page), (1006, .boxst .Page), (1010, .box [.num .i64, .num .i64, .num .i64, .num .i64, .num .i64, .num .i64, .num .i64, .num .i64, .num .i64, .num .i64, .num .i64, .own 1038025, .own 1038030, .own 1038033]), (1011, .boxst .Policy), (1015, .box [.num .i64, .num .i64, .own 1108]), (1038025, .arr .Start), (1038030, .arr .int), (1038033, .arr .int), (1108, .arr .int)] .go) .go))))) (.two (.frz [1108] .go) (.two (.join [(6, .one (.ref 1006)), (10, .one (.ref 1010))] [(1006, .boxst .Page), (1010, .box [.num .i64, .num .i64, .num .i64, .num .i64, .num .i64, .num .i64, .num .i64, .num .i64, .num .i64, .num .i64, .num .i64, .own 1038025, .lst .int, .own 1038033]), (1038025, .arr .Start), (1038033, .arr .int)] .go) .go)))))))))))))))) (fun a b => (a.1, a.2.1)) (fun _ _ => rfl) (envL_ok ⟨r29_Due_ok fu, r29_Check_ok fu, r25_Part_ok fu, r25_People_ok fu, r18_Reachable_ok fu, r29_Copy_ok fu, trivial⟩) Tryz.func59 rfl rfl (fun x y => by kernel_rfl)
def r29_Run (fu : Nat) (p0 : D.Config) (p1 : D.Book) (p2 : D.Page) (p3 : Int) : Option (D.Page × Int) :=
 (optc (r29_Check fu p1 p2) fun a0 =>
 (cnd (!a0)
 (some ((D.Page.mk 0 0 0 0 0 0 0 0 0 0 0 [] [] []), 8))
 (optc (r29_Copy fu p2) fun a1 =>
 (iterF (X := ((Int × Unit) × (D.Config × (D.Book × (D.Page × (D.Page × Unit)))))) (fun L2 ((a3, _), (a4, (a5, (a6, (a7, _))))) =>
 (optc (r29_Due fu a6) fun (a8, a9) =>
 (join (Y := ((Int × Unit) × (D.Config × (D.Book × (D.Page × (D.Page × Unit)))))) (fun ((a10, _), (a11, (a12, (a13, (a14, _))))) =>
 (optc (r29_Step fu a11 a12 a13) fun (a15, a16) =>
 (cnd (decide (a16 ≠ 0))
 (some ((D.Page.mk 0 0 0 0 0 0 0 0 0 0 0 [] [] []), a16))
 (L2 ((a10, ()), (a11, (a12, (a15, (a14, ()))))))))) fun J17 =>
 (cnd a9
 (cnd (decide (a3 < a8))
 (some (a6, 0))
 (J17 ((a3, ()), (a4, (a5, (a6, (a7, ())))))))
 (some (a6, 0)))))) fu ((p3, ()), (p0, (p1, (a1, ((D.Page.mk 0 0 0 0 0 0 0 0 0 0 0 [] [] []), ())))))))))
def r29_Run_g (fu : Nat) : Sig := mkSig [.st .Config, .st .Book, .st .Page, nI] [] [.st .Page, nI] [] [] (D.Page × Int) (fun q => ((q.1, q.2, ()), ())) (fun x y => r29_Run fu x.1 x.2.1 x.2.2.1 x.2.2.2.1)
theorem r29_Run_ok (fu : Nat) : FnOK Tryz.prog 27 (r29_Run_g fu) :=
 FnOK.intro (ty := ty) (E := envL [(23, 0, r29_Due_g fu), (45, 0, r29_Check_g fu), (59, 0, r29_Step_g fu), (66, 0, r29_Copy_g fu)]) (fu := fu) (an := .two .go (.two .go (.two .go (.one (.loop [(3, nI), (4, .one (.ref 1004)), (5, .one (.ref 1005)), (6, .one (.ref 1006)), (8, .one (.ref 1008))] [(1004, .boxst .Config), (1005, .boxst .Book), (1006, .boxst .Page), (1008, .boxst .Page)] (.one (.two .go (.two (.join [(3, nI), (4, .one (.ref 1004)), (5, .one (.ref 1005)), (6, .one (.ref 1006)), (8, .one (.ref 1008))] [(1004, .boxst .Config), (1005, .boxst .Book), (1006, .boxst .Page), (1008, .boxst .Page)] .go) .go)))))))) (fun a b => (a.1, a.2.1)) (fun _ _ => rfl) (envL_ok ⟨r29_Due_ok fu, r29_Check_ok fu, r29_Step_ok fu, r29_Copy_ok fu, trivial⟩) Tryz.func27 rfl rfl (fun x y => by kernel_rfl)
def made_Dice_Answer (fu : Nat) (p0 : D.Dice) (p1 : Int) (p2 : Int) (p3 : Int) : Option (D.Answer × D.Dice) :=
 (optc (made_Dice_Next fu p0 5) fun (a0, a1) =>
 (optc (made_Dice_Next fu a1 5) fun (a2, a3) =>
 (join (Y := (Unit × (D.Answer × (D.Answer × (D.Dice × Unit))))) (fun (_, (a4, (a5, (a6, _)))) =>
 (some (a5, a6))) fun J7 =>
 (cnd (decide ((IntKind.wrap .i64 (1 + a2)) = 3))
 (optc (made_Dice_One fu a3 (1 :: (60 :: (600 :: (5000 :: []))))) fun (a8, a9) =>
 (J7 ((), ((D.Answer.mk 0 0 0 0 0 0), ((D.Answer.mk p1 p2 (IntKind.wrap .i64 (a0 - 1)) (IntKind.wrap .i64 (1 + a2)) a8 p3), (a9, ()))))))
 (cnd (decide ((IntKind.wrap .i64 (1 + a2)) = 4))
 (optc (made_Dice_Next fu a3 4) fun (a10, a11) =>
 (J7 ((), ((D.Answer.mk 0 0 0 0 0 0), ((D.Answer.mk p1 p2 (IntKind.wrap .i64 (a0 - 1)) (IntKind.wrap .i64 (1 + a2)) a10 p3), (a11, ()))))))
 (J7 ((), ((D.Answer.mk 0 0 0 0 0 0), ((D.Answer.mk p1 p2 (IntKind.wrap .i64 (a0 - 1)) (IntKind.wrap .i64 (1 + a2)) 0 p3), (a3, ()))))))))))
def made_Dice_Answer_g (fu : Nat) : Sig := mkSig [.one (.ref 1), nI, nI, nI] [(1, .boxst .Dice)] [.st .Answer] [(1, .boxst .Dice)] [] (D.Answer × D.Dice) (fun q => ((q.1, ()), (q.2, ()))) (fun x y => made_Dice_Answer fu y.1 x.1 x.2.1 x.2.2.1)
theorem made_Dice_Answer_ok (fu : Nat) : FnOK Tryz.prog 51 (made_Dice_Answer_g fu) :=
 FnOK.intro (ty := ty) (E := envL [(32, 0, made_Dice_Next_g fu), (48, 0, made_Dice_One_g fu)]) (fu := fu) (an := .two .go (.two .go (.two (.join [(8, .one (.ref 1008)), (9, .one (.ref 1009))] [(1008, .boxst .Answer), (1009, .boxst .Answer), (1, .boxst .Dice)] .go) .go))) (fun a b => (a.1, b.1)) (fun _ _ => rfl) (envL_ok ⟨made_Dice_Next_ok fu, made_Dice_One_ok fu, trivial⟩) Tryz.func51 rfl rfl (fun x y => by kernel_rfl)
def r29_Called (fu : Nat) (p0 : D.Page) : Option (List Int) :=
 (cnd (decide ((((List.length (D.Page.Starts p0)) : Nat) : Int) = 0))
 (some [])
 (atc (D.Page.Starts p0) (IntKind.wrap .i64 ((((List.length (D.Page.Starts p0)) : Nat) : Int) - 1)) fun a0 =>
 (lec (List.length (D.Start.People a0)) 34359738368 (some (D.Start.People a0)))))
def r29_Called_g (fu : Nat) : Sig := mkSig [.st .Page] [] [.one (.lst .int)] [] [] (List Int) (fun q => ((q, ()), ())) (fun x y => r29_Called fu x.1)
theorem r29_Called_ok (fu : Nat) : FnOK Tryz.prog 58 (r29_Called_g fu) :=
 FnOK.intro (ty := ty) (E := envL []) (fu := fu) (an := .go) (fun a b => a.1) (fun _ _ => rfl) (envL_ok (l := []) trivial) Tryz.func58 rfl rfl (fun x y => by kernel_rfl)
def r28_Valid (fu : Nat) (p0 : D.Answer) : Option (Bool) :=
 (join (Y := (Unit × (D.Answer × Unit))) (fun (_, (a0, _)) =>
 (join (Y := ((Int × (Bool × Unit)) × (D.Answer × Unit))) (fun ((a1, (a2, _)), (a3, _)) =>
 (cnd a2
 (some (decide ((D.Answer.Arg a3) = 0)))
 (cnd (decide (a1 = 3))
 (optc (r25_In fu (D.Answer.Arg a3) 1 86400) fun a4 =>
 (some a4))
 (cnd (decide (a1 = 4))
 (optc (r25_In fu (D.Answer.Arg a3) 0 31) fun a5 =>
 (some a5))
 (some false))))) fun J6 =>
 (cnd (decide ((D.Answer.Kind a0) = 1))
 (J6 (((D.Answer.Kind a0), ((decide ((D.Answer.Kind a0) = 1)), ())), (a0, ())))
 (cnd (decide ((D.Answer.Kind a0) = 2))
 (J6 (((D.Answer.Kind a0), ((decide ((D.Answer.Kind a0) = 2)), ())), (a0, ())))
 (J6 (((D.Answer.Kind a0), ((decide ((D.Answer.Kind a0) = 5)), ())), (a0, ()))))))) fun J7 =>
 (optc (r25_In fu (D.Answer.ID p0) 1 999999) fun a8 =>
 (cnd a8
 (optc (r25_In fu (D.Answer.Page p0) 1 999999) fun a9 =>
 (cnd a9
 (optc (r25_In fu (D.Answer.Person p0) (-1) 31) fun a10 =>
 (cnd a10
 (optc (r25_In fu (D.Answer.At p0) 0 8589934592) fun a11 =>
 (cnd a11
 (J7 ((), (p0, ())))
 (some false)))
 (some false)))
 (some false)))
 (some false))))
def r28_Valid_g (fu : Nat) : Sig := mkSig [.st .Answer] [] [.one (.boo)] [] [] (Bool) (fun q => ((q, ()), ())) (fun x y => r28_Valid fu x.1)
theorem r28_Valid_ok (fu : Nat) : FnOK Tryz.prog 108 (r28_Valid_g fu) :=
 FnOK.intro (ty := ty) (E := envL [(67, 0, r25_In_g fu)]) (fu := fu) (an := .two .go (.two (.join [(1, .one (.ref 1001))] [(1001, .boxst .Answer)] .go) (.two (.two .go (.one (.two (.join [(1, .one (.ref 1001)), (26, nI), (27, .one (.boo))] [(1001, .boxst .Answer)] .go) .go))) .go))) (fun a b => a.1) (fun _ _ => rfl) (envL_ok ⟨r25_In_ok fu, trivial⟩) Tryz.func108 rfl rfl (fun x y => by kernel_rfl)
def r29_refused (fu : Nat) (p0 : D.Page) (p1 : D.Answer) : Option (Int) :=
 (optc (r29_Due fu p0) fun (a0, a1) =>
 (join (Y := (Unit × Unit)) (fun (_, _) =>
 (some 0)) fun J2 =>
 (cnd (decide ((D.Answer.At p1) < (D.Page.Last p0)))
 (some 6)
 (cnd a1
 (cnd (decide (a0 ≤ (D.Answer.At p1)))
 (some 6)
 (join (Y := ((Bool × Unit) × (D.Page × (D.Answer × Unit)))) (fun ((a3, _), (a4, (a5, _))) =>
 (cnd a3
 (some 9)
 (join (Y := ((Bool × Unit) × Unit)) (fun ((a6, _), _) =>
 (cnd a6
 (some 5)
 (J2 ((), ())))) fun J7 =>
 (cnd (decide (64 ≤ (((List.length (D.Page.Seen a4)) : Nat) : Int)))
 (J7 (((decide (64 ≤ (((List.length (D.Page.Seen a4)) : Nat) : Int))), ()), ()))
 (cnd (decide ((D.Answer.Kind a5) = 3))
 (cnd (decide (4 ≤ (D.Page.Snoozes a4)))
 (J7 ((true, ()), ()))
 (cnd (decide ((D.Answer.Kind a5) = 4))
 (cnd (decide (4 ≤ (D.Page.Hands a4)))
 (J7 ((true, ()), ()))
 (cnd (decide (200 ≤ (((List.length (D.Page.Starts a4)) : Nat) : Int)))
 (J7 ((true, ()), ()))
 (J7 ((false, ()), ()))))
 (J7 ((false, ()), ()))))
 (cnd (decide ((D.Answer.Kind a5) = 4))
 (cnd (decide (4 ≤ (D.Page.Hands a4)))
 (J7 ((true, ()), ()))
 (cnd (decide (200 ≤ (((List.length (D.Page.Starts a4)) : Nat) : Int)))
 (J7 ((true, ()), ()))
 (J7 ((false, ()), ()))))
 (J7 ((false, ()), ())))))))) fun J8 =>
 (cnd (decide ((D.Page.State p0) = 4))
 (J8 (((decide ((D.Page.State p0) = 4)), ()), (p0, (p1, ()))))
 (cnd (decide ((D.Page.State p0) = 3))
 (cnd (decide ((D.Answer.Kind p1) ≠ 5))
 (J8 ((true, ()), (p0, (p1, ()))))
 (cnd (decide ((D.Page.State p0) = 1))
 (cnd (decide ((D.Answer.Kind p1) = 2))
 (J8 ((true, ()), (p0, (p1, ()))))
 (J8 ((false, ()), (p0, (p1, ())))))
 (J8 ((false, ()), (p0, (p1, ()))))))
 (cnd (decide ((D.Page.State p0) = 1))
 (cnd (decide ((D.Answer.Kind p1) = 2))
 (J8 ((true, ()), (p0, (p1, ()))))
 (J8 ((false, ()), (p0, (p1, ())))))
 (J8 ((false, ()), (p0, (p1, ())))))))))
 (join (Y := ((Bool × Unit) × (D.Page × (D.Answer × Unit)))) (fun ((a9, _), (a10, (a11, _))) =>
 (cnd a9
 (some 9)
 (join (Y := ((Bool × Unit) × Unit)) (fun ((a12, _), _) =>
 (cnd a12
 (some 5)
 (J2 ((), ())))) fun J13 =>
 (cnd (decide (64 ≤ (((List.length (D.Page.Seen a10)) : Nat) : Int)))
 (J13 (((decide (64 ≤ (((List.length (D.Page.Seen a10)) : Nat) : Int))), ()), ()))
 (cnd (decide ((D.Answer.Kind a11) = 3))
 (cnd (decide (4 ≤ (D.Page.Snoozes a10)))
 (J13 ((true, ()), ()))
 (cnd (decide ((D.Answer.Kind a11) = 4))
 (cnd (decide (4 ≤ (D.Page.Hands a10)))
 (J13 ((true, ()), ()))
 (cnd (decide (200 ≤ (((List.length (D.Page.Starts a10)) : Nat) : Int)))
 (J13 ((true, ()), ()))
 (J13 ((false, ()), ()))))
 (J13 ((false, ()), ()))))
 (cnd (decide ((D.Answer.Kind a11) = 4))
 (cnd (decide (4 ≤ (D.Page.Hands a10)))
 (J13 ((true, ()), ()))
 (cnd (decide (200 ≤ (((List.length (D.Page.Starts a10)) : Nat) : Int)))
 (J13 ((true, ()), ()))
 (J13 ((false, ()), ()))))
 (J13 ((false, ()), ())))))))) fun J14 =>
 (cnd (decide ((D.Page.State p0) = 4))
 (J14 (((decide ((D.Page.State p0) = 4)), ()), (p0, (p1, ()))))
 (cnd (decide ((D.Page.State p0) = 3))
 (cnd (decide ((D.Answer.Kind p1) ≠ 5))
 (J14 ((true, ()), (p0, (p1, ()))))
 (cnd (decide ((D.Page.State p0) = 1))
 (cnd (decide ((D.Answer.Kind p1) = 2))
 (J14 ((true, ()), (p0, (p1, ()))))
 (J14 ((false, ()), (p0, (p1, ())))))
 (J14 ((false, ()), (p0, (p1, ()))))))
 (cnd (decide ((D.Page.State p0) = 1))
 (cnd (decide ((D.Answer.Kind p1) = 2))
 (J14 ((true, ()), (p0, (p1, ()))))
 (J14 ((false, ()), (p0, (p1, ())))))
 (J14 ((false, ()), (p0, (p1, ()))))))))))))
def r29_refused_g (fu : Nat) : Sig := mkSig [.st .Page, .st .Answer] [] [nI] [] [] (Int) (fun q => ((q, ()), ())) (fun x y => r29_refused fu x.1 x.2.1)
theorem r29_refused_ok (fu : Nat) : FnOK Tryz.prog 109 (r29_refused_g fu) :=
 FnOK.intro (ty := ty) (E := envL [(23, 0, r29_Due_g fu)]) (fu := fu) (an := .two .go (.two .go (.two (.join [] [] (.one (.two .go (.two .go (.two (.join [(2, .one (.ref 1002)), (3, .one (.ref 1003)), (27, .one (.boo))] [(1002, .boxst .Page), (1003, .boxst .Answer)] .go) (.two .go (.two (.join [(47, .one (.boo))] [] .go) .go))))))) .go))) (fun a b => a.1) (fun _ _ => rfl) (envL_ok ⟨r29_Due_ok fu, trivial⟩) Tryz.func109 rfl rfl (fun x y => by kernel_rfl)
def r29_Answer (fu : Nat) (p0 : D.Config) (p1 : D.Book) (p2 : D.Page) (p3 : D.Answer) : Option (D.Page × Int) :=
 (join (Y := (Unit × (D.Page × (D.Answer × (D.Page × Unit))))) (fun (_, (a0, (a1, (a2, _)))) =>
 (cnd (decide ((D.Answer.Page a1) ≠ (D.Page.ID a0)))
 (some ((D.Page.mk 0 0 0 0 0 0 0 0 0 0 0 [] [] []), 3))
 (optc (r29_Copy fu a0) fun a3 =>
 (optc (r25_Has fu (D.Page.Seen a0) (D.Answer.ID a1)) fun a4 =>
 (cnd a4
 (some (a3, 0))
 (optc (r29_refused fu a0 a1) fun a5 =>
 (cnd (decide (a5 ≠ 0))
 (some ((D.Page.mk 0 0 0 0 0 0 0 0 0 0 0 [] [] []), a5))
 (lec ((List.length (D.Page.Seen a3)) + (List.length ((D.Answer.ID a1) :: []))) 34359738368 (join (Y := (Unit × (D.Page × ((Int × (Int × (Int × (Int × (Int × (Int × (Int × (Int × (Int × (Int × (Int × (List Int × Unit)))))))))))) × (List D.Start × (List Int × Unit)))))) (fun (_, (a6, ((a7, (a8, (a9, (a10, (a11, (a12, (a13, (a14, (a15, (a16, (a17, (a18, _)))))))))))), (a19, (a20, _))))) =>
 (some ((D.Page.mk a7 a8 a9 a10 a11 a12 a13 a14 a15 a16 a17 a19 a18 a20), 0))) fun J21 =>
 (cnd (decide ((D.Answer.Kind a1) = 1))
 (cnd (decide ((D.Page.State a0) = 1))
 (J21 ((), (a2, (((D.Page.ID a3), ((D.Page.Policy a3), ((D.Page.Start a3), ((D.Page.Next a3), ((D.Page.Due a3), ((D.Page.State a3), ((D.Page.By a3), ((D.Page.Until a3), ((D.Page.Last a0), ((D.Page.Snoozes a3), ((D.Page.Hands a3), ((D.Page.Declined a3), ())))))))))))), ((D.Page.Starts a3), (((D.Page.Seen a3) ++ ((D.Answer.ID a1) :: [])), ()))))))
 (J21 ((), (a2, (((D.Page.ID a3), ((D.Page.Policy a3), ((D.Page.Start a3), ((D.Page.Next a3), ((D.Page.Due a3), (1, ((D.Answer.Person a1), ((D.Page.Until a3), ((D.Answer.At a1), ((D.Page.Snoozes a3), ((D.Page.Hands a3), ((D.Page.Declined a3), ())))))))))))), ((D.Page.Starts a3), (((D.Page.Seen a3) ++ ((D.Answer.ID a1) :: [])), ())))))))
 (cnd (decide ((D.Answer.Kind a1) = 2))
 (optc (r29_Called fu a0) fun a22 =>
 (join (Y := ((List Int × Unit) × (D.Page × (D.Answer × (D.Page × ((Int × (Int × (Int × (Int × (Int × (Int × (Int × (Int × (Int × (Int × (Int × (List Int × Unit)))))))))))) × (List D.Start × (List Int × Unit)))))))) (fun ((a23, _), (a24, (a25, (a26, ((a27, (a28, (a29, (a30, (a31, (a32, (a33, (a34, (a35, (a36, (a37, (a38, _)))))))))))), (a39, (a40, _))))))) =>
 (iterF (X := ((List Int × (Bool × (Int × Unit))) × (D.Page × (D.Answer × (D.Page × ((Int × (Int × (Int × (Int × (Int × (Int × (Int × (Int × (Int × (Int × (Int × (List Int × Unit)))))))))))) × (List D.Start × (List Int × Unit)))))))) (fun L41 ((a42, (a43, (a44, _))), (a45, (a46, (a47, ((a48, (a49, (a50, (a51, (a52, (a53, (a54, (a55, (a56, (a57, (a58, (a59, _)))))))))))), (a60, (a61, _))))))) =>
 (cnd (decide (a44 < (((List.length a42) : Nat) : Int)))
 (join (Y := ((List Int × (Bool × (Int × Unit))) × (D.Page × (D.Answer × (D.Page × ((Int × (Int × (Int × (Int × (Int × (Int × (Int × (Int × (Int × (Int × (Int × (List Int × Unit)))))))))))) × (List D.Start × (List Int × Unit)))))))) (fun ((a62, (a63, (a64, _))), (a65, (a66, (a67, ((a68, (a69, (a70, (a71, (a72, (a73, (a74, (a75, (a76, (a77, (a78, (a79, _)))))))))))), (a80, (a81, _))))))) =>
 (L41 ((a62, (a63, ((IntKind.wrap .i64 (a64 + 1)), ()))), (a65, (a66, (a67, ((a68, (a69, (a70, (a71, (a72, (a73, (a74, (a75, (a76, (a77, (a78, (a79, ())))))))))))), (a80, (a81, ()))))))))) fun J82 =>
 (cnd a43
 (atc a42 a44 fun a83 =>
 (optc (r25_Has fu a59 a83) fun a84 =>
 (cnd a84
 (J82 ((a42, (true, (a44, ()))), (a45, (a46, (a47, ((a48, (a49, (a50, (a51, (a52, (a53, (a54, (a55, (a56, (a57, (a58, (a59, ())))))))))))), (a60, (a61, ()))))))))
 (J82 ((a42, (false, (a44, ()))), (a45, (a46, (a47, ((a48, (a49, (a50, (a51, (a52, (a53, (a54, (a55, (a56, (a57, (a58, (a59, ())))))))))))), (a60, (a61, ())))))))))))
 (J82 ((a42, (false, (a44, ()))), (a45, (a46, (a47, ((a48, (a49, (a50, (a51, (a52, (a53, (a54, (a55, (a56, (a57, (a58, (a59, ())))))))))))), (a60, (a61, ()))))))))))
 (cnd a43
 (cnd (decide ((D.Page.State a45) = 0))
 (J21 ((), (a47, ((a48, (a49, (a50, (a51, ((D.Answer.At a46), (a53, (a54, (a55, (a56, (a57, (a58, (a59, ())))))))))))), (a60, (a61, ()))))))
 (J21 ((), (a47, ((a48, (a49, (a50, (a51, (a52, (a53, (a54, (a55, (a56, (a57, (a58, (a59, ())))))))))))), (a60, (a61, ())))))))
 (J21 ((), (a47, ((a48, (a49, (a50, (a51, (a52, (a53, (a54, (a55, (a56, (a57, (a58, (a59, ())))))))))))), (a60, (a61, ()))))))))) fu ((a23, ((decide (0 < (((List.length a23) : Nat) : Int))), (0, ()))), (a24, (a25, (a26, ((a27, (a28, (a29, (a30, (a31, (a32, (a33, (a34, (a35, (a36, (a37, (a38, ())))))))))))), (a39, (a40, ()))))))))) fun J85 =>
 (optc (r25_Has fu a22 (D.Answer.Person a1)) fun a86 =>
 (cnd a86
 (optc (r25_With fu (D.Page.Declined a3) (D.Answer.Person a1)) fun a87 =>
 (J85 ((a22, ()), (a0, (a1, (a2, (((D.Page.ID a3), ((D.Page.Policy a3), ((D.Page.Start a3), ((D.Page.Next a3), ((D.Page.Due a3), ((D.Page.State a3), ((D.Page.By a3), ((D.Page.Until a3), ((D.Answer.At a1), ((D.Page.Snoozes a3), ((D.Page.Hands a3), (a87, ())))))))))))), ((D.Page.Starts a3), (((D.Page.Seen a3) ++ ((D.Answer.ID a1) :: [])), ())))))))))
 (J85 ((a22, ()), (a0, (a1, (a2, (((D.Page.ID a3), ((D.Page.Policy a3), ((D.Page.Start a3), ((D.Page.Next a3), ((D.Page.Due a3), ((D.Page.State a3), ((D.Page.By a3), ((D.Page.Until a3), ((D.Answer.At a1), ((D.Page.Snoozes a3), ((D.Page.Hands a3), ((D.Page.Declined a3), ())))))))))))), ((D.Page.Starts a3), (((D.Page.Seen a3) ++ ((D.Answer.ID a1) :: [])), ()))))))))))))
 (cnd (decide ((D.Answer.Kind a1) = 3))
 (J21 ((), (a2, (((D.Page.ID a3), ((D.Page.Policy a3), ((D.Page.Start a3), ((D.Page.Next a3), ((D.Page.Due a3), (2, ((D.Answer.Person a1), ((IntKind.wrap .i64 ((D.Answer.At a1) + (D.Answer.Arg a1))), ((D.Answer.At a1), ((IntKind.wrap .i64 ((D.Page.Snoozes a0) + 1)), ((D.Page.Hands a3), ((D.Page.Declined a3), ())))))))))))), ((D.Page.Starts a3), (((D.Page.Seen a3) ++ ((D.Answer.ID a1) :: [])), ()))))))
 (cnd (decide ((D.Answer.Kind a1) = 4))
 (lec ((List.length (D.Page.Starts a3)) + (List.length ((D.Start.mk (-1) (D.Answer.At a1) ((D.Answer.Arg a1) :: [])) :: []))) 34359738368 (J21 ((), (a2, (((D.Page.ID a3), ((D.Page.Policy a3), ((D.Page.Start a3), ((D.Page.Next a3), ((IntKind.wrap .i64 ((D.Answer.At a1) + 600)), (0, ((D.Page.By a3), ((D.Page.Until a3), ((D.Answer.At a1), ((D.Page.Snoozes a3), ((IntKind.wrap .i64 ((D.Page.Hands a0) + 1)), ([], ())))))))))))), (((D.Page.Starts a3) ++ ((D.Start.mk (-1) (D.Answer.At a1) ((D.Answer.Arg a1) :: [])) :: [])), (((D.Page.Seen a3) ++ ((D.Answer.ID a1) :: [])), ())))))))
 (cnd (decide ((D.Answer.Kind a1) = 5))
 (J21 ((), (a2, (((D.Page.ID a3), ((D.Page.Policy a3), ((D.Page.Start a3), ((D.Page.Next a3), ((D.Page.Due a3), (4, ((D.Answer.Person a1), ((D.Page.Until a3), ((D.Answer.At a1), ((D.Page.Snoozes a3), ((D.Page.Hands a3), ((D.Page.Declined a3), ())))))))))))), ((D.Page.Starts a3), (((D.Page.Seen a3) ++ ((D.Answer.ID a1) :: [])), ()))))))
 (J21 ((), (a2, (((D.Page.ID a3), ((D.Page.Policy a3), ((D.Page.Start a3), ((D.Page.Next a3), ((D.Page.Due a3), ((D.Page.State a3), ((D.Page.By a3), ((D.Page.Until a3), ((D.Answer.At a1), ((D.Page.Snoozes a3), ((D.Page.Hands a3), ((D.Page.Declined a3), ())))))))))))), ((D.Page.Starts a3), (((D.Page.Seen a3) ++ ((D.Answer.ID a1) :: [])), ())))))))))))))))))))) fun J88 =>
 (optc (r29_Check fu p1 p2) fun a89 =>
 (cnd a89
 (optc (r28_Valid fu p3) fun a90 =>
 (cnd a90
 (J88 ((), (p2, (p3, ((D.Page.mk 0 0 0 0 0 0 0 0 0 0 0 [] [] []), ())))))
 (some ((D.Page.mk 0 0 0 0 0 0 0 0 0 0 0 [] [] []), 8))))
 (some ((D.Page.mk 0 0 0 0 0 0 0 0 0 0 0 [] [] []), 8)))))
def r29_Answer_g (fu : Nat) : Sig := mkSig [.st .Config, .st .Book, .st .Page, .st .Answer] [] [.st .Page, nI] [] [] (D.Page × Int) (fun q => ((q.1, q.2, ()), ())) (fun x y => r29_Answer fu x.1 x.2.1 x.2.2.1 x.2.2.2.1)
theorem r29_Answer_ok (fu : Nat) : FnOK Tryz.prog 60 (r29_Answer_g fu) :=
 FnOK.intro (ty := ty) (E := envL [(25, 0, r25_Has_g fu), (35, 0, r25_With_g fu), (45, 0, r29_Check_g fu), (58, 0, r29_Called_g fu), (66, 0, r29_Copy_g fu), (108, 0, r28_Valid_g fu), (109, 0, r29_refused_g fu)]) (fu := fu) (an := .two .go (.two (.join [(6, .one (.ref 1006)), (7, .one (.ref 1007)), (8, .one (.ref 1008))] [(1006, .boxst .Page), (1007, .boxst .Answer), (1008, .boxst .Page)] .go) (.two .go (.two .go (.two .go (.two .go (.two .go (.two (.join [(8, .one (.ref 1008)), (10, .one (.ref 1010))] [(1008, .boxst .Page), (1010, .box [.num .i64, .num .i64, .num .i64, .num .i64, .num .i64, .num .i64, .num .i64, .num .i64, .num .i64, .num .i64, .num .i64, .own 1033025, .lst .int, .own 1033033]), (1033025, .arr .Start), (1033033, .arr .int)] (.two .go (.one (.two .go (.two .go (.two .go (.two (.two .go (.two (.join [(6, .one (.ref 1006)), (7, .one (.ref 1007)), (8, .one (.ref 1008)), (10, .one (.ref 1010)), (12, .one (.lst .int))] [(1006, .boxst .Page), (1007, .boxst .Answer), (1008, .boxst .Page), (1010, .box [.num .i64, .num .i64, .num .i64, .num .i64, .num .i64, .num .i64, .num .i64, .num .i64, .num .i64, .num .i64, .num .i64, .own 1033025, .lst .int, .own 1033033]), (1033025, .arr .Start), (1033033, .arr .int)] .go) (.two .go (.two (.two .go (.one (.loop [(6, .one (.ref 1006)), (7, .one (.ref 1007)), (8, .one (.ref 1008)), (10, .one (.ref 1010)), (12, .one (.lst .int)), (13, .one (.boo)), (14, nI)] [(1006, .boxst .Page), (1007, .boxst .Answer), (1008, .boxst .Page), (1010, .box [.num .i64, .num .i64, .num .i64, .num .i64, .num .i64, .num .i64, .num .i64, .num .i64, .num .i64, .num .i64, .num .i64, .own 1033025, .lst .int, .own 1033033]), (1033025, .arr .Start), (1033033, .arr .int)] (.two .go (.two (.join [(6, .one (.ref 1006)), (7, .one (.ref 1007)), (8, .one (.ref 1008)), (10, .one (.ref 1010)), (12, .one (.lst .int)), (13, .one (.boo)), (14, nI)] [(1006, .boxst .Page), (1007, .boxst .Answer), (1008, .boxst .Page), (1010, .box [.num .i64, .num .i64, .num .i64, .num .i64, .num .i64, .num .i64, .num .i64, .num .i64, .num .i64, .num .i64, .num .i64, .own 1033025, .lst .int, .own 1033033]), (1033025, .arr .Start), (1033033, .arr .int)] .go) .go))))) .go)))) .go))))))) .go)))))))) (fun a b => (a.1, a.2.1)) (fun _ _ => rfl) (envL_ok ⟨r25_Has_ok fu, r25_With_ok fu, r29_Check_ok fu, r29_Called_ok fu, r29_Copy_ok fu, r28_Valid_ok fu, r29_refused_ok fu, trivial⟩) Tryz.func60 rfl rfl (fun x y => by kernel_rfl)
def escalate_Due (fu : Nat) (p0 : D.Page) : Option (Int × Bool) :=
 (cnd (decide ((D.Page.State p0) = 0))
 (some ((D.Page.Due p0), true))
 (cnd (decide ((D.Page.State p0) = 2))
 (some ((D.Page.Until p0), true))
 (some (0, false))))
def escalate_Due_g (fu : Nat) : Sig := mkSig [.st .Page] [] [nI, .one (.boo)] [] [] (Int × Bool) (fun q => ((q.1, q.2, ()), ())) (fun x y => escalate_Due fu x.1)
theorem escalate_Due_ok (fu : Nat) : FnOK Tryz.prog 43 (escalate_Due_g fu) :=
 FnOK.intro (ty := ty) (E := envL []) (fu := fu) (an := .go) (fun a b => (a.1, a.2.1)) (fun _ _ => rfl) (envL_ok (l := []) trivial) Tryz.func43 rfl rfl (fun x y => by kernel_rfl)
def escalate_in (fu : Nat) (p0 : Int) (p1 : Int) (p2 : Int) : Option (Bool) :=
 (cnd (decide (p1 ≤ p0))
 (cnd (decide (p0 ≤ p2))
 (some true)
 (some false))
 (some false))
def escalate_in_g (fu : Nat) : Sig := mkSig [nI, nI, nI] [] [.one (.boo)] [] [] (Bool) (fun q => ((q, ()), ())) (fun x y => escalate_in fu x.1 x.2.1 x.2.2.1)
theorem escalate_in_ok (fu : Nat) : FnOK Tryz.prog 98 (escalate_in_g fu) :=
 FnOK.intro (ty := ty) (E := envL []) (fu := fu) (an := .go) (fun a b => a.1) (fun _ _ => rfl) (envL_ok (l := []) trivial) Tryz.func98 rfl rfl (fun x y => by kernel_rfl)
def escalate_times (fu : Nat) (p0 : D.Page) : Option (Bool) :=
 (optc (escalate_in fu (D.Page.Last p0) (D.Page.Start p0) 17179869184) fun a0 =>
 (cnd a0
 (optc (escalate_in fu (D.Page.Due p0) 0 17179869184) fun a1 =>
 (cnd a1
 (optc (escalate_in fu (D.Page.Until p0) 0 17179869184) fun a2 =>
 (cnd a2
 (optc (escalate_in fu (D.Page.Snoozes p0) 0 4) fun a3 =>
 (cnd a3
 (optc (escalate_in fu (D.Page.Hands p0) 0 4) fun a4 =>
 (cnd a4
 (some true)
 (some false)))
 (some false)))
 (some false)))
 (some false)))
 (some false)))
def escalate_times_g (fu : Nat) : Sig := mkSig [.st .Page] [] [.one (.boo)] [] [] (Bool) (fun q => ((q, ()), ())) (fun x y => escalate_times fu x.1)
theorem escalate_times_ok (fu : Nat) : FnOK Tryz.prog 104 (escalate_times_g fu) :=
 FnOK.intro (ty := ty) (E := envL [(98, 0, escalate_in_g fu)]) (fu := fu) (an := .go) (fun a b => a.1) (fun _ _ => rfl) (envL_ok ⟨escalate_in_ok fu, trivial⟩) Tryz.func104 rfl rfl (fun x y => by kernel_rfl)
def escalate_set (fu : Nat) (p0 : List Int) : Option (Bool) :=
 (iterF (X := ((List Int × (List Int × (Int × (Int × Unit)))) × Unit)) (fun L0 ((a1, (a2, (a3, (a4, _)))), _) =>
 (cnd (decide (a4 < a3))
 (join (Y := ((List Int × (List Int × (Int × (Int × Unit)))) × Unit)) (fun ((a5, (a6, (a7, (a8, _)))), _) =>
 (L0 ((a5, (a6, (a7, ((IntKind.wrap .i64 (a8 + 1)), ())))), ()))) fun J9 =>
 (atc a2 a4 fun a10 =>
 (optc (escalate_in fu a10 0 31) fun a11 =>
 (cnd a11
 (cnd (decide (0 < a4))
 (atc a1 (IntKind.wrap .i64 (a4 - 1)) fun a12 =>
 (cnd (decide (a10 ≤ a12))
 (some false)
 (J9 ((a1, (a2, (a3, (a4, ())))), ()))))
 (J9 ((a1, (a2, (a3, (a4, ())))), ())))
 (some false)))))
 (some true))) fu ((p0, (p0, ((((List.length p0) : Nat) : Int), (0, ())))), ()))
def escalate_set_g (fu : Nat) : Sig := mkSig [.one (.lst .int)] [] [.one (.boo)] [] [] (Bool) (fun q => ((q, ()), ())) (fun x y => escalate_set fu x.1)
theorem escalate_set_ok (fu : Nat) : FnOK Tryz.prog 106 (escalate_set_g fu) :=
 FnOK.intro (ty := ty) (E := envL [(98, 0, escalate_in_g fu)]) (fu := fu) (an := .two .go (.two (.two .go (.one (.loop [(0, .one (.lst .int)), (5, .one (.lst .int)), (6, nI), (7, nI)] [] (.two .go (.two .go (.two (.join [(0, .one (.lst .int)), (5, .one (.lst .int)), (6, nI), (7, nI)] [] .go) .go)))))) .go)) (fun a b => a.1) (fun _ _ => rfl) (envL_ok ⟨escalate_in_ok fu, trivial⟩) Tryz.func106 rfl rfl (fun x y => by kernel_rfl)
def escalate_started (fu : Nat) (p0 : D.Page) : Option (Bool) :=
 (iterF (X := ((Int × (Int × (List D.Start × (Int × (Int × Unit))))) × (D.Page × Unit))) (fun L0 ((a1, (a2, (a3, (a4, (a5, _))))), (a6, _)) =>
 (cnd (decide (a5 < a4))
 (atc a3 a5 fun a7 =>
 (join (Y := ((Int × (List D.Start × (Int × (Int × Unit)))) × (D.Page × (D.Start × Unit)))) (fun ((a8, (a9, (a10, (a11, _)))), (a12, (a13, _))) =>
 (L0 (((D.Start.At a13), ((max a8 (D.Start.K a13)), (a9, (a10, ((IntKind.wrap .i64 (a11 + 1)), ()))))), (a12, ())))) fun J14 =>
 (cnd (decide ((D.Start.At a7) < a1))
 (some false)
 (optc (escalate_set fu (D.Start.People a7)) fun a15 =>
 (cnd a15
 (cnd (decide ((D.Start.K a7) ≠ (-1)))
 (optc (escalate_in fu (D.Start.K a7) (IntKind.wrap .i64 (a2 + 1)) (IntKind.wrap .i64 ((D.Page.Next a6) - 1))) fun a16 =>
 (cnd a16
 (J14 ((a2, (a3, (a4, (a5, ())))), (a6, (a7, ()))))
 (some false)))
 (J14 ((a2, (a3, (a4, (a5, ())))), (a6, (a7, ())))))
 (some false))))))
 (some (decide ((((List.length (D.Page.Starts a6)) : Nat) : Int) ≤ 200))))) fu (((D.Page.Start p0), ((-1), ((D.Page.Starts p0), ((((List.length (D.Page.Starts p0)) : Nat) : Int), (0, ()))))), (p0, ())))
def escalate_started_g (fu : Nat) : Sig := mkSig [.st .Page] [] [.one (.boo)] [] [] (Bool) (fun q => ((q, ()), ())) (fun x y => escalate_started fu x.1)
theorem escalate_started_ok (fu : Nat) : FnOK Tryz.prog 105 (escalate_started_g fu) :=
 FnOK.intro (ty := ty) (E := envL [(98, 0, escalate_in_g fu), (106, 0, escalate_set_g fu)]) (fu := fu) (an := .two .go (.two .go (.two (.two .go (.one (.loop [(1, .one (.ref 1001)), (3, nI), (4, nI), (10, .one (.lst .Start)), (11, nI), (12, nI)] [(1001, .boxst .Page)] (.two .go (.two .go (.two (.one (.two .go (.two (.join [(1, .one (.ref 1001)), (4, nI), (6, .one (.ref 1006)), (10, .one (.lst .Start)), (11, nI), (12, nI)] [(1001, .boxst .Page), (1006, .boxst .Start)] .go) .go))) .go)))))) .go))) (fun a b => a.1) (fun _ _ => rfl) (envL_ok ⟨escalate_in_ok fu, escalate_set_ok fu, trivial⟩) Tryz.func105 rfl rfl (fun x y => by kernel_rfl)
def slices_Index_int (fu : Nat) (p0 : List Int) (p1 : Int) : Option (Int) :=
 (iterF (X := ((List Int × P3) × Unit)) (fun L0 ((a1, (a2, (a3, (a4, _)))), _) =>
 (cnd (decide (a4 < a3))
 (atc a1 a4 fun a5 =>
 (cnd (decide (a2 = a5))
 (some a4)
 (L0 ((a1, (a2, (a3, ((IntKind.wrap .i64 (a4 + 1)), ())))), ()))))
 (some (-1)))) fu ((p0, (p1, ((((List.length p0) : Nat) : Int), (0, ())))), ()))
def slices_Index_int_g (fu : Nat) : Sig := mkSig [.one (.lst .int), nI] [] [nI] [] [] (Int) (fun q => ((q, ()), ())) (fun x y => slices_Index_int fu x.1 x.2.1)
theorem slices_Index_int_ok (fu : Nat) : FnOK Tryz.prog 137 (slices_Index_int_g fu) :=
 FnOK.intro (ty := ty) (E := envL []) (fu := fu) (an := .two .go (.two (.two .go (.one (.loop [(0, .one (.lst .int)), (1, nI), (7, nI), (8, nI)] [] .go))) .go)) (fun a b => a.1) (fun _ _ => rfl) (envL_ok (l := []) trivial) Tryz.func137 rfl rfl (fun x y => by kernel_rfl)
def slices_Contains_int (fu : Nat) (p0 : List Int) (p1 : Int) : Option (Bool) :=
 (optc (slices_Index_int fu p0 p1) fun a0 =>
 (some (decide (0 ≤ a0))))
def slices_Contains_int_g (fu : Nat) : Sig := mkSig [.one (.lst .int), nI] [] [.one (.boo)] [] [] (Bool) (fun q => ((q, ()), ())) (fun x y => slices_Contains_int fu x.1 x.2.1)
theorem slices_Contains_int_ok (fu : Nat) : FnOK Tryz.prog 90 (slices_Contains_int_g fu) :=
 FnOK.intro (ty := ty) (E := envL [(137, 0, slices_Index_int_g fu)]) (fu := fu) (an := .go) (fun a b => a.1) (fun _ _ => rfl) (envL_ok ⟨slices_Index_int_ok fu, trivial⟩) Tryz.func90 rfl rfl (fun x y => by kernel_rfl)
def escalate_seen (fu : Nat) (p0 : List Int) : Option (Bool) :=
 (iterF (X := ((List Int × (List Int × (Int × (Int × Unit)))) × Unit)) (fun L0 ((a1, (a2, (a3, (a4, _)))), _) =>
 (cnd (decide (a4 < a3))
 (atc a2 a4 fun a5 =>
 (natc a4 fun a6 =>
 (lec a6 (List.length a1) (optc (slices_Contains_int fu (List.take a6 a1) a5) fun a7 =>
 (cnd a7
 (some false)
 (L0 ((a1, (a2, (a3, ((IntKind.wrap .i64 (a4 + 1)), ())))), ())))))))
 (some (decide ((((List.length a1) : Nat) : Int) ≤ 64))))) fu ((p0, (p0, ((((List.length p0) : Nat) : Int), (0, ())))), ()))
def escalate_seen_g (fu : Nat) : Sig := mkSig [.one (.lst .int)] [] [.one (.boo)] [] [] (Bool) (fun q => ((q, ()), ())) (fun x y => escalate_seen fu x.1)
theorem escalate_seen_ok (fu : Nat) : FnOK Tryz.prog 107 (escalate_seen_g fu) :=
 FnOK.intro (ty := ty) (E := envL [(90, 0, slices_Contains_int_g fu)]) (fu := fu) (an := .two .go (.two (.two .go (.one (.loop [(0, .one (.lst .int)), (5, .one (.lst .int)), (6, nI), (7, nI)] [] .go))) .go)) (fun a b => a.1) (fun _ _ => rfl) (envL_ok ⟨slices_Contains_int_ok fu, trivial⟩) Tryz.func107 rfl rfl (fun x y => by kernel_rfl)
def escalate_Check_1 (fu : Nat) (p0 : D.PolicyStep) : Option (Bool) :=
 (optc (escalate_in fu (D.PolicyStep.Wait p0) 0 86400) fun a0 =>
 (some (!a0)))
def escalate_Check_1_g (fu : Nat) : Sig := mkSig [.st .PolicyStep] [] [.one (.boo)] [] [] (Bool) (fun q => ((q, ()), ())) (fun x y => escalate_Check_1 fu x.1)
theorem escalate_Check_1_ok (fu : Nat) : FnOK Tryz.prog 103 (escalate_Check_1_g fu) :=
 FnOK.intro (ty := ty) (E := envL [(98, 0, escalate_in_g fu)]) (fu := fu) (an := .go) (fun a b => a.1) (fun _ _ => rfl) (envL_ok ⟨escalate_in_ok fu, trivial⟩) Tryz.func103 rfl rfl (fun x y => by kernel_rfl)
def slices_IndexFunc_PolicyStep_1Fescalate_Check_1 (fu : Nat) (p0 : List D.PolicyStep) : Option (Int) :=
 (iterF (X := ((List D.PolicyStep × (Int × (Int × Unit))) × Unit)) (fun L0 ((a1, (a2, (a3, _))), _) =>
 (cnd (decide (a3 < a2))
 (atc a1 a3 fun a4 =>
 (optc (escalate_Check_1 fu a4) fun a5 =>
 (cnd a5
 (some a3)
 (L0 ((a1, (a2, ((IntKind.wrap .i64 (a3 + 1)), ()))), ())))))
 (some (-1)))) fu ((p0, ((((List.length p0) : Nat) : Int), (0, ()))), ()))
def slices_IndexFunc_PolicyStep_1Fescalate_Check_1_g (fu : Nat) : Sig := mkSig [.one (.lst .PolicyStep), .one (.fv 103)] [] [nI] [] [] (Int) (fun q => ((q, ()), ())) (fun x y => slices_IndexFunc_PolicyStep_1Fescalate_Check_1 fu x.1)
theorem slices_IndexFunc_PolicyStep_1Fescalate_Check_1_ok (fu : Nat) : FnOK Tryz.prog 146 (slices_IndexFunc_PolicyStep_1Fescalate_Check_1_g fu) :=
 FnOK.intro (ty := ty) (E := envL [(103, 0, escalate_Check_1_g fu)]) (fu := fu) (an := .two .go (.two (.two .go (.one (.loop [(0, .one (.lst .PolicyStep)), (1, .one (.fv 103)), (7, nI), (8, nI)] [] .go))) .go)) (fun a b => a.1) (fun _ _ => rfl) (envL_ok ⟨escalate_Check_1_ok fu, trivial⟩) Tryz.func146 rfl rfl (fun x y => by kernel_rfl)
def slices_ContainsFunc_PolicyStep_1Fescalate_Check_1 (fu : Nat) (p0 : List D.PolicyStep) : Option (Bool) :=
 (optc (slices_IndexFunc_PolicyStep_1Fescalate_Check_1 fu p0) fun a0 =>
 (some (decide (0 ≤ a0))))
def slices_ContainsFunc_PolicyStep_1Fescalate_Check_1_g (fu : Nat) : Sig := mkSig [.one (.lst .PolicyStep), .one (.fv 103)] [] [.one (.boo)] [] [] (Bool) (fun q => ((q, ()), ())) (fun x y => slices_ContainsFunc_PolicyStep_1Fescalate_Check_1 fu x.1)
theorem slices_ContainsFunc_PolicyStep_1Fescalate_Check_1_ok (fu : Nat) : FnOK Tryz.prog 102 (slices_ContainsFunc_PolicyStep_1Fescalate_Check_1_g fu) :=
 FnOK.intro (ty := ty) (E := envL [(146, 0, slices_IndexFunc_PolicyStep_1Fescalate_Check_1_g fu)]) (fu := fu) (an := .go) (fun a b => a.1) (fun _ _ => rfl) (envL_ok ⟨slices_IndexFunc_PolicyStep_1Fescalate_Check_1_ok fu, trivial⟩) Tryz.func102 rfl rfl (fun x y => by kernel_rfl)
def escalate_Check (fu : Nat) (p0 : D.Book) (p1 : D.Page) : Option (Bool) :=
 (join (Y := (Unit × (D.Book × (D.Page × Unit)))) (fun (_, (a0, (a1, _))) =>
 (atc (D.Book.Policies a0) (D.Page.Policy a1) fun a2 =>
 (join (Y := (Unit × (D.Page × Unit))) (fun (_, (a3, _)) =>
 (optc (escalate_in fu (D.Page.State a3) 0 4) fun a4 =>
 (cnd a4
 (optc (escalate_in fu (D.Page.By a3) (-1) 31) fun a5 =>
 (cnd a5
 (optc (escalate_times fu a3) fun a6 =>
 (cnd a6
 (optc (escalate_started fu a3) fun a7 =>
 (cnd a7
 (optc (escalate_set fu (D.Page.Declined a3)) fun a8 =>
 (cnd a8
 (optc (escalate_seen fu (D.Page.Seen a3)) fun a9 =>
 (cnd a9
 (some true)
 (some false)))
 (some false)))
 (some false)))
 (some false)))
 (some false)))
 (some false)))) fun J10 =>
 (optc (slices_ContainsFunc_PolicyStep_1Fescalate_Check_1 fu (D.Policy.Steps a2)) fun a11 =>
 (cnd a11
 (some false)
 (optc (policy_Count fu a2) fun a12 =>
 (optc (escalate_in fu (D.Page.Next a1) 0 a12) fun a13 =>
 (cnd a13
 (J10 ((), (a1, ())))
 (some false))))))))) fun J14 =>
 (optc (escalate_in fu (D.Page.ID p1) 1 999999) fun a15 =>
 (cnd a15
 (optc (escalate_in fu (D.Page.Policy p1) 0 (IntKind.wrap .i64 ((((List.length (D.Book.Policies p0)) : Nat) : Int) - 1))) fun a16 =>
 (cnd a16
 (optc (escalate_in fu (D.Page.Start p1) 0 8589934592) fun a17 =>
 (cnd a17
 (J14 ((), (p0, (p1, ()))))
 (some false)))
 (some false)))
 (some false))))
def escalate_Check_g (fu : Nat) : Sig := mkSig [.st .Book, .st .Page] [] [.one (.boo)] [] [] (Bool) (fun q => ((q, ()), ())) (fun x y => escalate_Check fu x.1 x.2.1)
theorem escalate_Check_ok (fu : Nat) : FnOK Tryz.prog 56 (escalate_Check_g fu) :=
 FnOK.intro (ty := ty) (E := envL [(73, 0, policy_Count_g fu), (98, 0, escalate_in_g fu), (102, 0, slices_ContainsFunc_PolicyStep_1Fescalate_Check_1_g fu), (104, 0, escalate_times_g fu), (105, 0, escalate_started_g fu), (106, 0, escalate_set_g fu), (107, 0, escalate_seen_g fu)]) (fu := fu) (an := .two .go (.two (.join [(2, .one (.ref 1002)), (3, .one (.ref 1003))] [(1002, .boxst .Book), (1003, .boxst .Page)] .go) (.two .go (.two (.join [(3, .one (.ref 1003))] [(1003, .boxst .Page)] .go) .go)))) (fun a b => a.1) (fun _ _ => rfl) (envL_ok ⟨policy_Count_ok fu, escalate_in_ok fu, slices_ContainsFunc_PolicyStep_1Fescalate_Check_1_ok fu, escalate_times_ok fu, escalate_started_ok fu, escalate_set_ok fu, escalate_seen_ok fu, trivial⟩) Tryz.func56 rfl rfl (fun x y => by kernel_rfl)
def duty_Range (fu : Nat) (p0 : Int) (p1 : Int) : Option (Bool) :=
 (cnd (decide (0 ≤ p0))
 (cnd (decide (p0 ≤ 8589934592))
 (cnd (decide (p0 ≤ p1))
 (cnd (decide (p1 ≤ 8589934592))
 (cnd (decide ((IntKind.wrap .i64 (p1 - p0)) ≤ 34560000))
 (some true)
 (some false))
 (some false))
 (some false))
 (some false))
 (some false))
def slices_insertionSortOrdered_int_0 (fu : Nat) (p0 : List (Int)) (p1 : Int) (p2 : Int) : Option (List (Int)) :=
 (iterF (X := (P3 × (List Int × Unit))) (fun L0 ((a1, (a2, (a3, _))), (a4, _)) =>
 (cnd (decide (a3 < a2))
 (join (Y := (P3 × (List Int × Unit))) (fun ((a5, (a6, (a7, _))), (a8, _)) =>
 (L0 ((a5, (a6, ((IntKind.wrap .i64 (a7 + 1)), ()))), (a8, ())))) fun J9 =>
 (iterF (X := (P4 × (List Int × Unit))) (fun L10 ((a11, (a12, (a13, (a14, _)))), (a15, _)) =>
 (join (Y := (P4 × (List Int × Unit))) (fun ((a16, (a17, (a18, (a19, _)))), (a20, _)) =>
 (natc (IntKind.wrap .i64 (a19 - 1)) fun a21 =>
 (ltc a21 (List.length a20) (optc (GetElem?.getElem? a20 a21) fun a22 =>
 (natc a19 fun a23 =>
 (ltc a23 (List.length a20) (optc (GetElem?.getElem? a20 a23) fun a24 =>
 (natc a19 fun a25 =>
 (ltc a25 (List.length a20) (optc (GetElem?.getElem? a20 a25) fun a26 =>
 (natc (IntKind.wrap .i64 (a19 - 1)) fun a27 =>
 (ltc a27 (List.length (List.set a20 a25 a22)) (optc (GetElem?.getElem? (List.set a20 a25 a22) a27) fun a28 =>
 (L10 ((a16, (a17, (a18, ((IntKind.wrap .i64 (a19 - 1)), ())))), ((List.set (List.set a20 a25 a22) a27 a24), ())))))))))))))))) fun J29 =>
 (cnd (decide (a11 < a14))
 (natc a14 fun a30 =>
 (ltc a30 (List.length a15) (optc (GetElem?.getElem? a15 a30) fun a31 =>
 (natc (IntKind.wrap .i64 (a14 - 1)) fun a32 =>
 (ltc a32 (List.length a15) (optc (GetElem?.getElem? a15 a32) fun a33 =>
 (optc (cmp_Less_int fu a31 a33) fun a34 =>
 (cnd a34
 (J29 ((a11, (a12, (a13, (a14, ())))), (a15, ())))
 (J9 ((a11, (a12, (a13, ()))), (a15, ())))))))))))
 (J9 ((a11, (a12, (a13, ()))), (a15, ())))))) fu ((a1, (a2, (a3, (a3, ())))), (a4, ()))))
 (some a4))) fu ((p1, (p2, ((IntKind.wrap .i64 (p1 + 1)), ()))), (p0, ())))
def slices_insertionSortOrdered_int_0_g (fu : Nat) : Sig := mkSig [.one (.own 101), nI, nI] [(101, .arr .int)] [] [(101, .arrs .int)] [] (List (Int)) (fun q => ((), (q, ()))) (fun x y => slices_insertionSortOrdered_int_0 fu y.1 x.1 x.2.1)
theorem slices_insertionSortOrdered_int_0_ok (fu : Nat) : FnOK Tryz.prog 156 (slices_insertionSortOrdered_int_0_g fu) :=
 FnOK.intro (ty := ty) (E := envL [(162, 0, cmp_Less_int_g fu)]) (fu := fu) (an := .two .go (.one (.loop [(0, .one (.own 101)), (1, nI), (2, nI), (6, nI)] [(101, .arr .int)] (.two .go (.two (.join [(0, .one (.own 101)), (1, nI), (2, nI), (6, nI)] [(101, .arr .int)] (.one (.two .go (.one (.loop [(0, .one (.own 101)), (1, nI), (2, nI), (6, nI), (7, nI)] [(101, .arr .int)] (.two (.join [(0, .one (.own 101)), (1, nI), (2, nI), (6, nI), (7, nI)] [(101, .arr .int)] .go) .go)))))) .go))))) (fun a b => b.1) (fun _ _ => rfl) (envL_ok ⟨cmp_Less_int_ok fu, trivial⟩) Tryz.func156 rfl rfl (fun x y => by kernel_rfl)
def slices_pdqsortOrdered_int_0 (fu : Nat) (p0 : List (Int)) (p1 : Int) (p2 : Int) (p3 : Int) : Option (List (Int)) :=
 (iterF (X := ((Int × (Int × (Int × (Bool × (Bool × Unit))))) × (List Int × Unit))) (fun L0 ((a1, (a2, (a3, (a4, (a5, _))))), (a6, _)) =>
 (cnd (decide ((IntKind.wrap .i64 (a2 - a1)) ≤ 12))
 (optc (slices_insertionSortOrdered_int_0 fu a6 a1 a2) fun a7 =>
 (chk (List.length a7) (List.length a6) (some a7)))
 (cnd (decide (a3 = 0))
 none
 (cnd (!a4)
 none
 none)))) fu ((p1, (p2, (p3, (true, (true, ()))))), (p0, ())))
def slices_pdqsortOrdered_int_0_g (fu : Nat) : Sig := mkSig [.one (.own 101), nI, nI, nI] [(101, .arr .int)] [] [(101, .arrs .int)] [] (List (Int)) (fun q => ((), (q, ()))) (fun x y => slices_pdqsortOrdered_int_0 fu y.1 x.1 x.2.1 x.2.2.1)
theorem slices_pdqsortOrdered_int_0_ok (fu : Nat) : FnOK Tryz.prog 115 (slices_pdqsortOrdered_int_0_g fu) :=
 FnOK.intro (ty := ty) (E := envL [(156, 0, slices_insertionSortOrdered_int_0_g fu)]) (fu := fu) (an := .two .go (.two .go (.one (.loop [(0, .one (.own 101)), (1, nI), (2, nI), (3, nI), (8, .one (.boo)), (9, .one (.boo))] [(101, .arr .int)] .go)))) (fun a b => b.1) (fun _ _ => rfl) (envL_ok ⟨slices_insertionSortOrdered_int_0_ok fu, trivial⟩) Tryz.func115 rfl rfl (fun x y => by kernel_rfl)
def slices_Sort_int_0 (fu : Nat) (p0 : List (Int)) : Option (List (Int)) :=
 (optc (math_bits_Len fu (IntKind.wrap .u64 (((List.length p0) : Nat) : Int))) fun a0 =>
 (optc (slices_pdqsortOrdered_int_0 fu p0 0 (((List.length p0) : Nat) : Int) a0) fun a1 =>
 (chk (List.length a1) (List.length p0) (some a1))))
def slices_Sort_int_0_g (fu : Nat) : Sig := mkSig [.one (.own 101)] [(101, .arr .int)] [] [(101, .arrs .int)] [] (List (Int)) (fun q => ((), (q, ()))) (fun x y => slices_Sort_int_0 fu y.1)
theorem slices_Sort_int_0_ok (fu : Nat) : FnOK Tryz.prog 65 (slices_Sort_int_0_g fu) :=
 FnOK.intro (ty := ty) (E := envL [(115, 0, slices_pdqsortOrdered_int_0_g fu), (116, 0, math_bits_Len_g fu)]) (fu := fu) (an := .go) (fun a b => b.1) (fun _ _ => rfl) (envL_ok ⟨slices_pdqsortOrdered_int_0_ok fu, math_bits_Len_ok fu, trivial⟩) Tryz.func65 rfl rfl (fun x y => by kernel_rfl)
end
end Go.Proofs.YtfhcigjkfelnfaaGreat
