/-
  What functions do, reckoned from their code, and their contracts. Printed by wip/gen/brun.py.
-/
import Derived.Test.YtfhcigjkfelnfaaGreatQRowAuditRostersJ
import Derived.Test.YtfhcigjkfelnfaaGreatQRowAuditRostersG
import Derived.Test.YtfhcigjkfelnfaaGreatQRowAuditRostersH
set_option maxRecDepth 100000
set_option linter.unusedVariables false
namespace Go.Proofs.YtfhcigjkfelnfaaGreat
open Go AM
noncomputable section
def audit_Steps (fu : Nat) (p0 : D.Book) (p1 : D.Page) : Option (Bool) :=
 (optc (escalate_Check fu p0 p1) fun a0 =>
 (cnd (!a0)
 (some false)
 (iterF (X := ((Int × (Int × (List D.Start × (Int × (Int × Unit))))) × (D.Page × Unit))) (fun L1 ((a2, (a3, (a4, (a5, (a6, _))))), (a7, _)) =>
 (cnd (decide (a6 < a5))
 (join (Y := ((Int × (Int × (List D.Start × (Int × (Int × Unit))))) × (D.Page × Unit))) (fun ((a8, (a9, (a10, (a11, (a12, _))))), (a13, _)) =>
 (L1 ((a8, (a9, (a10, (a11, ((IntKind.wrap .i64 (a12 + 1)), ()))))), (a13, ())))) fun J14 =>
 (atc a4 a6 fun a15 =>
 (join (Y := ((Int × (List D.Start × (Int × (Int × Unit)))) × (D.Page × (D.Start × Unit)))) (fun ((a16, (a17, (a18, (a19, _)))), (a20, (a21, _))) =>
 (cnd (decide ((D.Start.K a21) ≠ (-1)))
 (J14 (((IntKind.wrap .i64 (a16 + 1)), ((D.Start.At a21), (a17, (a18, (a19, ()))))), (a20, ())))
 (J14 ((a16, ((D.Start.At a21), (a17, (a18, (a19, ()))))), (a20, ()))))) fun J22 =>
 (cnd (decide ((D.Start.At a15) < a3))
 (some false)
 (cnd (decide (a6 = 0))
 (cnd (decide ((D.Start.At a15) ≠ a3))
 (some false)
 (cnd (decide ((D.Start.K a15) ≠ (-1)))
 (cnd (decide ((D.Start.K a15) ≠ a2))
 (some false)
 (J22 ((a2, (a4, (a5, (a6, ())))), (a7, (a15, ())))))
 (J22 ((a2, (a4, (a5, (a6, ())))), (a7, (a15, ()))))))
 (cnd (decide ((D.Start.K a15) ≠ (-1)))
 (cnd (decide ((D.Start.K a15) ≠ a2))
 (some false)
 (J22 ((a2, (a4, (a5, (a6, ())))), (a7, (a15, ())))))
 (J22 ((a2, (a4, (a5, (a6, ())))), (a7, (a15, ()))))))))))
 (some (decide (a2 = (D.Page.Next a7)))))) fu ((0, ((D.Page.Start p1), ((D.Page.Starts p1), ((((List.length (D.Page.Starts p1)) : Nat) : Int), (0, ()))))), (p1, ())))))
def audit_Steps_g (fu : Nat) : Sig := mkSig [.st .Book, .st .Page] [] [.one (.boo)] [] [] (Bool) (fun q => ((q, ()), ())) (fun x y => audit_Steps fu x.1 x.2.1)
theorem audit_Steps_ok (fu : Nat) : FnOK Tryz.prog 39 (audit_Steps_g fu) :=
 FnOK.intro (ty := ty) (E := envL [(56, 0, escalate_Check_g fu)]) (fu := fu) (an := .two .go (.two .go (.two .go (.two (.two .go (.one (.loop [(3, .one (.ref 1003)), (5, nI), (6, nI), (16, .one (.lst .Start)), (17, nI), (18, nI)] [(1003, .boxst .Page)] (.two .go (.two .go (.two (.join [(3, .one (.ref 1003)), (5, nI), (6, nI), (16, .one (.lst .Start)), (17, nI), (18, nI)] [(1003, .boxst .Page)] (.one (.two .go (.two (.join [(3, .one (.ref 1003)), (5, nI), (8, .one (.ref 1008)), (16, .one (.lst .Start)), (17, nI), (18, nI)] [(1003, .boxst .Page), (1008, .boxst .Start)] .go) .go)))) .go)))))) .go)))) (fun a b => a.1) (fun _ _ => rfl) (envL_ok ⟨escalate_Check_ok fu, trivial⟩) Tryz.func39 rfl rfl (fun x y => by kernel_rfl)
def audit_findings_0 (fu : Nat) (p0 : List (Int)) (p1 : Int) (p2 : List Bool) : Option (List (Int)) :=
 (iterF (X := ((Int × (List Bool × (Int × (Int × Unit)))) × (List Int × Unit))) (fun L0 ((a1, (a2, (a3, (a4, _)))), (a5, _)) =>
 (cnd (decide (a4 < a3))
 (join (Y := ((Int × (List Bool × (Int × (Int × Unit)))) × (List Int × Unit))) (fun ((a6, (a7, (a8, (a9, _)))), (a10, _)) =>
 (L0 ((a6, (a7, (a8, ((IntKind.wrap .i64 (a9 + 1)), ())))), (a10, ())))) fun J11 =>
 (atc a2 a4 fun a12 =>
 (cnd a12
 (lec ((List.length a5) + (List.length (a1 :: []))) 34359738368 (J11 ((a1, (a2, (a3, (a4, ())))), ((a5 ++ (a1 :: [])), ()))))
 (J11 ((a1, (a2, (a3, (a4, ())))), (a5, ()))))))
 (some a5))) fu ((p1, (p2, ((((List.length p2) : Nat) : Int), (0, ())))), (p0, ())))
def audit_findings_0_g (fu : Nat) : Sig := mkSig [.one (.own 101), nI, .one (.lst .bool)] [(101, .arr .int)] [.one (.own 101)] [(101, .arr .int)] [] (List (Int)) (fun q => ((), (q, ()))) (fun x y => audit_findings_0 fu y.1 x.1 x.2.1)
theorem audit_findings_0_ok (fu : Nat) : FnOK Tryz.prog 64 (audit_findings_0_g fu) :=
 FnOK.intro (ty := ty) (E := envL []) (fu := fu) (an := .two .go (.two (.two .go (.one (.loop [(0, .one (.own 101)), (1, nI), (9, .one (.lst .bool)), (10, nI), (11, nI)] [(101, .arr .int)] (.two .go (.two .go (.two (.join [(0, .one (.own 101)), (1, nI), (9, .one (.lst .bool)), (10, nI), (11, nI)] [(101, .arr .int)] .go) .go)))))) .go)) (fun a b => b.1) (fun _ _ => rfl) (envL_ok (l := []) trivial) Tryz.func64 rfl rfl (fun x y => by kernel_rfl)
def r25_team (fu : Nat) (p0 : D.Config) (p1 : D.Book) (p2 : Int) : Option (Int) :=
 (atc (D.Book.Teams p1) p2 fun a0 =>
 (optc (r06_Name fu (D.Team.Name a0)) fun a1 =>
 (cnd (!a1)
 (some 8)
 (iterF (X := ((Int × (Int × Unit)) × (D.Config × (D.Book × (D.Team × Unit))))) (fun L2 ((a3, (a4, _)), (a5, (a6, (a7, _)))) =>
 (cnd (decide (a4 < a3))
 (atc (D.Book.Teams a6) a4 fun a8 =>
 (cnd (decide ((D.Team.Name a8) = (D.Team.Name a7)))
 (some 4)
 (L2 ((a3, ((IntKind.wrap .i64 (a4 + 1)), ())), (a5, (a6, (a7, ())))))))
 (cnd (decide ((((List.length (D.Team.Members a7)) : Nat) : Int) = 0))
 (some 7)
 (iterF (X := ((Int × Unit) × (D.Config × (D.Team × Unit)))) (fun L9 ((a10, _), (a11, (a12, _))) =>
 (cnd (decide (a10 < (((List.length (D.Team.Members a12)) : Nat) : Int)))
 (atc (D.Team.Members a12) (IntKind.wrap .i64 (a10 - 1)) fun a13 =>
 (atc (D.Team.Members a12) a10 fun a14 =>
 (cnd (decide (a14 ≤ a13))
 (some 6)
 (L9 (((IntKind.wrap .i64 (a10 + 1)), ()), (a11, (a12, ())))))))
 (optc (r25_Set fu (D.Team.Members a12) (((List.length (D.Config.People a11)) : Nat) : Int)) fun a15 =>
 (cnd (!a15)
 (some 3)
 (some 0))))) fu ((1, ()), (a5, (a7, ()))))))) fu ((p2, (0, ())), (p0, (p1, (a0, ()))))))))
def r25_team_g (fu : Nat) : Sig := mkSig [.st .Config, .st .Book, nI] [] [nI] [] [] (Int) (fun q => ((q, ()), ())) (fun x y => r25_team fu x.1 x.2.1 x.2.2.1)
theorem r25_team_ok (fu : Nat) : FnOK Tryz.prog 191 (r25_team_g fu) :=
 FnOK.intro (ty := ty) (E := envL [(95, 0, r25_Set_g fu), (237, 0, r06_Name_g fu)]) (fu := fu) (an := .two .go (.two .go (.two .go (.two (.two .go (.one (.loop [(2, nI), (3, .one (.ref 1003)), (4, .one (.ref 1004)), (7, .one (.ref 1007)), (8, nI)] [(1003, .boxst .Config), (1004, .boxst .Book), (1007, .boxst .Team)] .go))) (.two .go (.two (.two .go (.one (.loop [(3, .one (.ref 1003)), (7, .one (.ref 1007)), (9, nI)] [(1003, .boxst .Config), (1007, .boxst .Team)] .go))) .go)))))) (fun a b => a.1) (fun _ _ => rfl) (envL_ok ⟨r25_Set_ok fu, r06_Name_ok fu, trivial⟩) Tryz.func191 rfl rfl (fun x y => by kernel_rfl)
def r25_targets (fu : Nat) (p0 : D.Config) (p1 : D.Book) (p2 : List D.Target) : Option (Int) :=
 (cnd (decide (6 < (((List.length p2) : Nat) : Int)))
 (some 5)
 (iterF (X := ((List D.Target × (Int × Unit)) × (D.Config × (D.Book × Unit)))) (fun L0 ((a1, (a2, _)), (a3, (a4, _))) =>
 (cnd (decide (a2 < (((List.length a1) : Nat) : Int)))
 (join (Y := ((List D.Target × (Int × Unit)) × (D.Config × (D.Book × Unit)))) (fun ((a5, (a6, _)), (a7, (a8, _))) =>
 (L0 ((a5, ((IntKind.wrap .i64 (a6 + 1)), ())), (a7, (a8, ()))))) fun J9 =>
 (join (Y := ((List D.Target × (Int × (Int × Unit))) × (D.Config × (D.Book × Unit)))) (fun ((a10, (a11, (a12, _))), (a13, (a14, _))) =>
 (atc a10 a11 fun a15 =>
 (cnd (decide ((D.Target.Index a15) < 0))
 (some 3)
 (atc a10 a11 fun a16 =>
 (cnd (decide (a12 ≤ (D.Target.Index a16)))
 (some 3)
 (J9 ((a10, (a11, ())), (a13, (a14, ()))))))))) fun J17 =>
 (atc a1 a2 fun a18 =>
 (cnd (decide ((D.Target.Kind a18) = 0))
 (J17 ((a1, (a2, ((((List.length (D.Config.People a3)) : Nat) : Int), ()))), (a3, (a4, ()))))
 (cnd (decide ((D.Target.Kind a18) = 1))
 (J17 ((a1, (a2, ((((List.length (D.Config.Schedules a3)) : Nat) : Int), ()))), (a3, (a4, ()))))
 (cnd (decide ((D.Target.Kind a18) = 2))
 (J17 ((a1, (a2, ((((List.length (D.Book.Teams a4)) : Nat) : Int), ()))), (a3, (a4, ()))))
 (J17 ((a1, (a2, ((-1), ()))), (a3, (a4, ()))))))))))
 (some 0))) fu ((p2, (0, ())), (p0, (p1, ())))))
def r25_targets_g (fu : Nat) : Sig := mkSig [.st .Config, .st .Book, .one (.lst .Target)] [] [nI] [] [] (Int) (fun q => ((q, ()), ())) (fun x y => r25_targets fu x.1 x.2.1 x.2.2.1)
theorem r25_targets_ok (fu : Nat) : FnOK Tryz.prog 238 (r25_targets_g fu) :=
 FnOK.intro (ty := ty) (E := envL []) (fu := fu) (an := .two .go (.two .go (.two (.two .go (.one (.loop [(2, .one (.lst .Target)), (3, .one (.ref 1003)), (4, .one (.ref 1004)), (7, nI)] [(1003, .boxst .Config), (1004, .boxst .Book)] (.two .go (.two (.join [(2, .one (.lst .Target)), (3, .one (.ref 1003)), (4, .one (.ref 1004)), (7, nI)] [(1003, .boxst .Config), (1004, .boxst .Book)] (.one (.two .go (.two (.join [(2, .one (.lst .Target)), (3, .one (.ref 1003)), (4, .one (.ref 1004)), (7, nI), (8, nI)] [(1003, .boxst .Config), (1004, .boxst .Book)] .go) .go)))) .go))))) .go))) (fun a b => a.1) (fun _ _ => rfl) (envL_ok (l := []) trivial) Tryz.func238 rfl rfl (fun x y => by kernel_rfl)
def r25_policy (fu : Nat) (p0 : D.Config) (p1 : D.Book) (p2 : Int) : Option (Int) :=
 (atc (D.Book.Policies p1) p2 fun a0 =>
 (optc (r06_Name fu (D.Policy.Name a0)) fun a1 =>
 (cnd (!a1)
 (some 8)
 (iterF (X := ((Int × (Int × Unit)) × (D.Config × (D.Book × (D.Policy × Unit))))) (fun L2 ((a3, (a4, _)), (a5, (a6, (a7, _)))) =>
 (cnd (decide (a4 < a3))
 (atc (D.Book.Policies a6) a4 fun a8 =>
 (cnd (decide ((D.Policy.Name a8) = (D.Policy.Name a7)))
 (some 4)
 (L2 ((a3, ((IntKind.wrap .i64 (a4 + 1)), ())), (a5, (a6, (a7, ())))))))
 (cnd (decide ((((List.length (D.Policy.Steps a7)) : Nat) : Int) = 0))
 (some 7)
 (cnd (decide (8 < (((List.length (D.Policy.Steps a7)) : Nat) : Int)))
 (some 5)
 (optc (r25_In fu (D.Policy.Repeat a7) 0 8) fun a9 =>
 (cnd (!a9)
 (some 1)
 (iterF (X := ((Int × Unit) × (D.Config × (D.Book × (D.Policy × Unit))))) (fun L10 ((a11, _), (a12, (a13, (a14, _)))) =>
 (cnd (decide (a11 < (((List.length (D.Policy.Steps a14)) : Nat) : Int)))
 (atc (D.Policy.Steps a14) a11 fun a15 =>
 (optc (r25_In fu (D.PolicyStep.Wait a15) 0 86400) fun a16 =>
 (cnd (!a16)
 (some 1)
 (atc (D.Policy.Steps a14) a11 fun a17 =>
 (optc (r25_targets fu a12 a13 (D.PolicyStep.Targets a17)) fun a18 =>
 (cnd (decide (a18 ≠ 0))
 (some a18)
 (L10 (((IntKind.wrap .i64 (a11 + 1)), ()), (a12, (a13, (a14, ())))))))))))
 (some 0))) fu ((0, ()), (a5, (a6, (a7, ()))))))))))) fu ((p2, (0, ())), (p0, (p1, (a0, ()))))))))
def r25_policy_g (fu : Nat) : Sig := mkSig [.st .Config, .st .Book, nI] [] [nI] [] [] (Int) (fun q => ((q, ()), ())) (fun x y => r25_policy fu x.1 x.2.1 x.2.2.1)
theorem r25_policy_ok (fu : Nat) : FnOK Tryz.prog 192 (r25_policy_g fu) :=
 FnOK.intro (ty := ty) (E := envL [(67, 0, r25_In_g fu), (237, 0, r06_Name_g fu), (238, 0, r25_targets_g fu)]) (fu := fu) (an := .two .go (.two .go (.two .go (.two (.two .go (.one (.loop [(2, nI), (3, .one (.ref 1003)), (4, .one (.ref 1004)), (7, .one (.ref 1007)), (8, nI)] [(1003, .boxst .Config), (1004, .boxst .Book), (1007, .boxst .Policy)] .go))) (.two .go (.two (.two .go (.one (.loop [(3, .one (.ref 1003)), (4, .one (.ref 1004)), (7, .one (.ref 1007)), (9, nI)] [(1003, .boxst .Config), (1004, .boxst .Book), (1007, .boxst .Policy)] .go))) .go)))))) (fun a b => a.1) (fun _ _ => rfl) (envL_ok ⟨r25_In_ok fu, r06_Name_ok fu, r25_targets_ok fu, trivial⟩) Tryz.func192 rfl rfl (fun x y => by kernel_rfl)
def r25_book (fu : Nat) (p0 : D.Config) (p1 : D.Book) : Option (Int) :=
 (join (Y := (Unit × (D.Config × (D.Book × Unit)))) (fun (_, (a0, (a1, _))) =>
 (iterF (X := ((Int × Unit) × (D.Config × (D.Book × Unit)))) (fun L2 ((a3, _), (a4, (a5, _))) =>
 (cnd (decide (a3 < (((List.length (D.Book.Teams a5)) : Nat) : Int)))
 (optc (r25_team fu a4 a5 a3) fun a6 =>
 (cnd (decide (a6 ≠ 0))
 (some a6)
 (L2 (((IntKind.wrap .i64 (a3 + 1)), ()), (a4, (a5, ()))))))
 (iterF (X := ((Int × Unit) × (D.Config × (D.Book × Unit)))) (fun L7 ((a8, _), (a9, (a10, _))) =>
 (cnd (decide (a8 < (((List.length (D.Book.Policies a10)) : Nat) : Int)))
 (optc (r25_policy fu a9 a10 a8) fun a11 =>
 (cnd (decide (a11 ≠ 0))
 (some a11)
 (L7 (((IntKind.wrap .i64 (a8 + 1)), ()), (a9, (a10, ()))))))
 (some 0))) fu ((0, ()), (a4, (a5, ())))))) fu ((0, ()), (a0, (a1, ()))))) fun J12 =>
 (cnd (decide (8 < (((List.length (D.Book.Teams p1)) : Nat) : Int)))
 (some 5)
 (cnd (decide (12 < (((List.length (D.Book.Policies p1)) : Nat) : Int)))
 (some 5)
 (J12 ((), (p0, (p1, ())))))))
def r25_book_g (fu : Nat) : Sig := mkSig [.st .Config, .st .Book] [] [nI] [] [] (Int) (fun q => ((q, ()), ())) (fun x y => r25_book fu x.1 x.2.1)
theorem r25_book_ok (fu : Nat) : FnOK Tryz.prog 147 (r25_book_g fu) :=
 FnOK.intro (ty := ty) (E := envL [(191, 0, r25_team_g fu), (192, 0, r25_policy_g fu)]) (fu := fu) (an := .two .go (.two (.join [(2, .one (.ref 1002)), (3, .one (.ref 1003))] [(1002, .boxst .Config), (1003, .boxst .Book)] .go) (.two (.two .go (.one (.loop [(2, .one (.ref 1002)), (3, .one (.ref 1003)), (5, nI)] [(1002, .boxst .Config), (1003, .boxst .Book)] .go))) (.two (.two .go (.one (.loop [(2, .one (.ref 1002)), (3, .one (.ref 1003)), (7, nI)] [(1002, .boxst .Config), (1003, .boxst .Book)] .go))) .go)))) (fun a b => a.1) (fun _ _ => rfl) (envL_ok ⟨r25_team_ok fu, r25_policy_ok fu, trivial⟩) Tryz.func147 rfl rfl (fun x y => by kernel_rfl)
def r25_Check (fu : Nat) (p0 : D.Config) (p1 : D.Book) : Option (Int) :=
 (optc (r08_Check fu p0) fun a0 =>
 (cnd (decide (a0 ≠ 0))
 (some 8)
 (optc (r25_book fu p0 p1) fun a1 =>
 (some a1))))
def r25_Check_g (fu : Nat) : Sig := mkSig [.st .Config, .st .Book] [] [nI] [] [] (Int) (fun q => ((q, ()), ())) (fun x y => r25_Check fu x.1 x.2.1)
theorem r25_Check_ok (fu : Nat) : FnOK Tryz.prog 110 (r25_Check_g fu) :=
 FnOK.intro (ty := ty) (E := envL [(141, 0, r08_Check_g fu), (147, 0, r25_book_g fu)]) (fu := fu) (an := .go) (fun a b => a.1) (fun _ _ => rfl) (envL_ok ⟨r08_Check_ok fu, r25_book_ok fu, trivial⟩) Tryz.func110 rfl rfl (fun x y => by kernel_rfl)
def r31_New (fu : Nat) (p0 : D.Config) (p1 : D.Book) : Option (D.Ledger × Int) :=
 (optc (r25_Check fu p0 p1) fun a0 =>
 (cnd (decide (a0 ≠ 0))
 (some ((D.Ledger.mk 0 (D.Config.mk [] [] [] []) (D.Book.mk [] []) [] 0 0 [] []), a0))
 (some ((D.Ledger.mk 0 p0 p1 [] (-1) 0 [] []), 0))))
def r31_New_g (fu : Nat) : Sig := mkSig [.st .Config, .st .Book] [] [.st .Ledger, nI] [] [] (D.Ledger × Int) (fun q => ((q.1, q.2, ()), ())) (fun x y => r31_New fu x.1 x.2.1)
theorem r31_New_ok (fu : Nat) : FnOK Tryz.prog 61 (r31_New_g fu) :=
 FnOK.intro (ty := ty) (E := envL [(110, 0, r25_Check_g fu)]) (fu := fu) (an := .go) (fun a b => (a.1, a.2.1)) (fun _ _ => rfl) (envL_ok ⟨r25_Check_ok fu, trivial⟩) Tryz.func61 rfl rfl (fun x y => by kernel_rfl)
def r31_Copy (fu : Nat) (p0 : D.Ledger) : Option (D.Ledger) :=
 (iterF (X := ((Int × Unit) × (D.Ledger × (D.Ledger × (List D.Page × Unit))))) (fun L0 ((a1, _), (a2, (a3, (a4, _)))) =>
 (cnd (decide (a1 < (((List.length (D.Ledger.Pages a2)) : Nat) : Int)))
 (atc (D.Ledger.Pages a2) a1 fun a5 =>
 (optc (r29_Copy fu a5) fun a6 =>
 (lec ((List.length a4) + (List.length (a6 :: []))) 34359738368 (L0 (((IntKind.wrap .i64 (a1 + 1)), ()), (a2, (a3, ((a4 ++ (a6 :: [])), ()))))))))
 (lec (List.length (D.Ledger.Seen a2)) 34359738368 (lec (List.length (D.Ledger.Calls a2)) 34359738368 (some (D.Ledger.mk (D.Ledger.Now a2) (D.Ledger.Config a2) (D.Ledger.Book a2) a4 (D.Ledger.Owner a2) (D.Ledger.Fence a2) (D.Ledger.Seen a2) (D.Ledger.Calls a2))))))) fu ((0, ()), (p0, ((D.Ledger.mk 0 (D.Config.mk [] [] [] []) (D.Book.mk [] []) [] 0 0 [] []), ([], ())))))
def r31_Copy_g (fu : Nat) : Sig := mkSig [.st .Ledger] [] [.agg [.num .i64, .lst .Zone, .lst .Person, .lst .Calendar, .lst .Schedule, .lst .Team, .lst .Policy, .own 1020, .num .i64, .num .i64, .own 1025, .own 1028]] [(1020, .arr .Page), (1025, .arr .int), (1028, .arr .Call)] [] (D.Ledger) (fun q => (((q.Now, q.Config.Zones, q.Config.People, q.Config.Calendars, q.Config.Schedules, q.Book.Teams, q.Book.Policies, q.Owner, q.Fence, ()), ()), (q.Pages, q.Seen, q.Calls, ()))) (fun x y => r31_Copy fu x.1)
theorem r31_Copy_ok (fu : Nat) : FnOK Tryz.prog 21 (r31_Copy_g fu) :=
 FnOK.intro (ty := ty) (E := envL [(66, 0, r29_Copy_g fu)]) (fu := fu) (an := .two .go (.two .go (.two (.two .go (.one (.loop [(1, .one (.ref 1001)), (2, .one (.ref 1002)), (3, .one (.own 1020)), (4, nI)] [(1001, .boxst .Ledger), (1002, .boxst .Ledger), (1020, .arr .Page)] .go))) .go))) (fun a b => (D.Ledger.mk a.1.1 (D.Config.mk a.1.2.1 a.1.2.2.1 a.1.2.2.2.1 a.1.2.2.2.2.1) (D.Book.mk a.1.2.2.2.2.2.1 a.1.2.2.2.2.2.2.1) b.1 a.1.2.2.2.2.2.2.2.1 a.1.2.2.2.2.2.2.2.2.1 b.2.1 b.2.2.1)) (fun _ _ => rfl) (envL_ok ⟨r29_Copy_ok fu, trivial⟩) Tryz.func21 rfl rfl (fun x y => by kernel_rfl)
def r31_calls (fu : Nat) (p0 : D.Page) (p1 : Int) (p2 : Int) : Option (List D.Call) :=
 (iterF (X := ((Int × (Int × Unit)) × (D.Page × (List D.Call × Unit)))) (fun L0 ((a1, (a2, _)), (a3, (a4, _))) =>
 (cnd (decide (a2 < (((List.length (D.Page.Starts a3)) : Nat) : Int)))
 (atc (D.Page.Starts a3) a2 fun a5 =>
 (iterF (X := (P3 × (D.Page × (D.Start × (List D.Call × Unit))))) (fun L6 ((a7, (a8, (a9, _))), (a10, (a11, (a12, _)))) =>
 (cnd (decide (a9 < (((List.length (D.Start.People a11)) : Nat) : Int)))
 (atc (D.Start.People a11) a9 fun a13 =>
 (lec ((List.length a12) + (List.length ((D.Call.mk (D.Page.ID a10) (D.Start.K a11) (D.Start.At a11) a13 a7) :: []))) 34359738368 (L6 ((a7, (a8, ((IntKind.wrap .i64 (a9 + 1)), ()))), (a10, (a11, ((a12 ++ ((D.Call.mk (D.Page.ID a10) (D.Start.K a11) (D.Start.At a11) a13 a7) :: [])), ())))))))
 (L0 ((a7, ((IntKind.wrap .i64 (a8 + 1)), ())), (a10, (a12, ())))))) fu ((a1, (a2, (0, ()))), (a3, (a5, (a4, ()))))))
 (some a4))) fu ((p2, (p1, ())), (p0, ([], ()))))
def r31_calls_g (fu : Nat) : Sig := mkSig [.st .Page, nI, nI] [] [.one (.lst .Call)] [] [] (List D.Call) (fun q => ((q, ()), ())) (fun x y => r31_calls fu x.1 x.2.1 x.2.2.1)
theorem r31_calls_ok (fu : Nat) : FnOK Tryz.prog 149 (r31_calls_g fu) :=
 FnOK.intro (ty := ty) (E := envL []) (fu := fu) (an := .two .go (.two .go (.two (.two .go (.one (.loop [(2, nI), (3, .one (.ref 1003)), (7, .one (.own 1046)), (8, nI)] [(1003, .boxst .Page), (1046, .arr .Call)] (.two .go (.two (.one (.two .go (.two .go (.one (.loop [(2, nI), (3, .one (.ref 1003)), (7, .one (.own 1046)), (8, nI), (9, .one (.ref 1009)), (10, nI)] [(1003, .boxst .Page), (1009, .boxst .Start), (1046, .arr .Call)] .go))))) .go))))) .go))) (fun a b => a.1) (fun _ _ => rfl) (envL_ok (l := []) trivial) Tryz.func149 rfl rfl (fun x y => by kernel_rfl)
def r31_told (fu : Nat) (p0 : D.Ledger) (p1 : D.Page) : Option (Bool) :=
 (optc (r31_calls fu p1 0 0) fun a0 =>
 (iterF (X := ((List D.Call × P3) × (D.Ledger × (D.Page × Unit)))) (fun L1 ((a2, (a3, (a4, (a5, _)))), (a6, (a7, _))) =>
 (cnd (decide (a5 < (((List.length (D.Ledger.Calls a6)) : Nat) : Int)))
 (join (Y := ((List D.Call × P3) × (D.Ledger × (D.Page × Unit)))) (fun ((a8, (a9, (a10, (a11, _)))), (a12, (a13, _))) =>
 (L1 ((a8, (a9, (a10, ((IntKind.wrap .i64 (a11 + 1)), ())))), (a12, (a13, ()))))) fun J14 =>
 (atc (D.Ledger.Calls a6) a5 fun a15 =>
 (cnd (decide ((D.Call.Page a15) ≠ (D.Page.ID a7)))
 (J14 ((a2, (a3, (a4, (a5, ())))), (a6, (a7, ()))))
 (join (Y := ((List D.Call × (Int × (Int × Unit))) × (D.Ledger × (D.Page × (D.Call × Unit))))) (fun ((a16, (a17, (a18, _))), (a19, (a20, (a21, _)))) =>
 (atc a16 a17 fun a22 =>
 (cnd (decide (((D.Call.Page a21) :: ((D.Call.K a21) :: ((D.Call.At a21) :: ((D.Call.Person a21) :: (0 :: []))))) ≠ ((D.Call.Page a22) :: ((D.Call.K a22) :: ((D.Call.At a22) :: ((D.Call.Person a22) :: ((D.Call.Fence a22) :: [])))))))
 (some false)
 (J14 ((a16, ((IntKind.wrap .i64 (a17 + 1)), ((D.Call.Fence a21), (a18, ())))), (a19, (a20, ()))))))) fun J23 =>
 (cnd (decide ((((List.length a2) : Nat) : Int) ≤ a3))
 (some false)
 (cnd (decide ((D.Call.Fence a15) < a4))
 (some false)
 (cnd (decide ((D.Ledger.Fence a6) < (D.Call.Fence a15)))
 (some false)
 (J23 ((a2, (a3, (a5, ()))), (a6, (a7, (a15, ()))))))))))))
 (some (decide (a3 = (((List.length a2) : Nat) : Int)))))) fu ((a0, (0, (0, (0, ())))), (p0, (p1, ())))))
def r31_told_g (fu : Nat) : Sig := mkSig [.st .Ledger, .st .Page] [] [.one (.boo)] [] [] (Bool) (fun q => ((q, ()), ())) (fun x y => r31_told fu x.1 x.2.1)
theorem r31_told_ok (fu : Nat) : FnOK Tryz.prog 148 (r31_told_g fu) :=
 FnOK.intro (ty := ty) (E := envL [(149, 0, r31_calls_g fu)]) (fu := fu) (an := .two .go (.two .go (.two .go (.two (.two .go (.one (.loop [(2, .one (.ref 1002)), (3, .one (.ref 1003)), (5, .one (.lst .Call)), (6, nI), (7, nI), (8, nI)] [(1002, .boxst .Ledger), (1003, .boxst .Page)] (.two .go (.two (.join [(2, .one (.ref 1002)), (3, .one (.ref 1003)), (5, .one (.lst .Call)), (6, nI), (7, nI), (8, nI)] [(1002, .boxst .Ledger), (1003, .boxst .Page)] (.one (.two .go (.two .go (.two (.join [(2, .one (.ref 1002)), (3, .one (.ref 1003)), (5, .one (.lst .Call)), (6, nI), (8, nI), (9, .one (.ref 1009))] [(1002, .boxst .Ledger), (1003, .boxst .Page), (1009, .boxst .Call)] .go) .go))))) .go))))) .go)))) (fun a b => a.1) (fun _ _ => rfl) (envL_ok ⟨r31_calls_ok fu, trivial⟩) Tryz.func148 rfl rfl (fun x y => by kernel_rfl)
def r31_Check (fu : Nat) (p0 : D.Ledger) : Option (Bool) :=
 (join (Y := (Unit × (D.Ledger × Unit))) (fun (_, (a0, _)) =>
 (iterF (X := ((Int × (Int × Unit)) × (D.Ledger × Unit))) (fun L1 ((a2, (a3, _)), (a4, _)) =>
 (cnd (decide (a3 < (((List.length (D.Ledger.Pages a4)) : Nat) : Int)))
 (atc (D.Ledger.Pages a4) a3 fun a5 =>
 (join (Y := ((Int × (Int × Unit)) × (D.Ledger × (D.Page × Unit)))) (fun ((a6, (a7, _)), (a8, (a9, _))) =>
 (optc (r31_calls fu a9 0 0) fun a10 =>
 (L1 (((IntKind.wrap .i64 (a6 + (((List.length a10) : Nat) : Int))), ((IntKind.wrap .i64 (a7 + 1)), ())), (a8, ()))))) fun J11 =>
 (cnd (decide (0 < a3))
 (atc (D.Ledger.Pages a4) (IntKind.wrap .i64 (a3 - 1)) fun a12 =>
 (cnd (decide ((D.Page.ID a5) ≤ (D.Page.ID a12)))
 (some false)
 (optc (r29_Check fu (D.Ledger.Book a4) a5) fun a13 =>
 (cnd a13
 (cnd (decide ((D.Ledger.Now a4) < (D.Page.Last a5)))
 (some false)
 (optc (r31_told fu a4 a5) fun a14 =>
 (cnd a14
 (J11 ((a2, (a3, ())), (a4, (a5, ()))))
 (some false))))
 (some false)))))
 (optc (r29_Check fu (D.Ledger.Book a4) a5) fun a15 =>
 (cnd a15
 (cnd (decide ((D.Ledger.Now a4) < (D.Page.Last a5)))
 (some false)
 (optc (r31_told fu a4 a5) fun a16 =>
 (cnd a16
 (J11 ((a2, (a3, ())), (a4, (a5, ()))))
 (some false))))
 (some false))))))
 (iterF (X := ((Int × (Int × Unit)) × (D.Ledger × Unit))) (fun L17 ((a18, (a19, _)), (a20, _)) =>
 (cnd (decide (a19 < (((List.length (D.Ledger.Seen a20)) : Nat) : Int)))
 (join (Y := ((Int × (Int × Unit)) × (D.Ledger × Unit))) (fun ((a21, (a22, _)), (a23, _)) =>
 (L17 ((a21, ((IntKind.wrap .i64 (a22 + 1)), ())), (a23, ())))) fun J24 =>
 (atc (D.Ledger.Seen a20) a19 fun a25 =>
 (optc (r25_In fu a25 1 1099511627776) fun a26 =>
 (cnd a26
 (natc a19 fun a27 =>
 (lec a27 (List.length (D.Ledger.Seen a20)) (atc (D.Ledger.Seen a20) a19 fun a28 =>
 (optc (r25_Has fu (List.take a27 (D.Ledger.Seen a20)) a28) fun a29 =>
 (cnd a29
 (some false)
 (J24 ((a18, (a19, ())), (a20, ()))))))))
 (some false)))))
 (some (decide (a18 = (((List.length (D.Ledger.Calls a20)) : Nat) : Int)))))) fu ((a2, (0, ())), (a4, ()))))) fu ((0, (0, ())), (a0, ())))) fun J30 =>
 (optc (r25_Check fu (D.Ledger.Config p0) (D.Ledger.Book p0)) fun a31 =>
 (cnd (decide (a31 ≠ 0))
 (some false)
 (optc (r25_In fu (D.Ledger.Now p0) 0 8589934592) fun a32 =>
 (cnd a32
 (cnd (decide (64 < (((List.length (D.Ledger.Pages p0)) : Nat) : Int)))
 (some false)
 (optc (r25_In fu (D.Ledger.Owner p0) (-1) 4) fun a33 =>
 (cnd a33
 (optc (r25_In fu (D.Ledger.Fence p0) 0 1048576) fun a34 =>
 (cnd a34
 (cnd (decide (256 < (((List.length (D.Ledger.Seen p0)) : Nat) : Int)))
 (some false)
 (J30 ((), (p0, ()))))
 (some false)))
 (some false))))
 (some false))))))
def r31_Check_g (fu : Nat) : Sig := mkSig [.st .Ledger] [] [.one (.boo)] [] [] (Bool) (fun q => ((q, ()), ())) (fun x y => r31_Check fu x.1)
theorem r31_Check_ok (fu : Nat) : FnOK Tryz.prog 111 (r31_Check_g fu) :=
 FnOK.intro (ty := ty) (E := envL [(25, 0, r25_Has_g fu), (45, 0, r29_Check_g fu), (67, 0, r25_In_g fu), (110, 0, r25_Check_g fu), (148, 0, r31_told_g fu), (149, 0, r31_calls_g fu)]) (fu := fu) (an := .two .go (.two (.join [(1, .one (.ref 1001))] [(1001, .boxst .Ledger)] .go) (.two .go (.two (.two .go (.one (.loop [(1, .one (.ref 1001)), (3, nI), (4, nI)] [(1001, .boxst .Ledger)] (.two .go (.two (.one (.two .go (.two (.join [(1, .one (.ref 1001)), (3, nI), (4, nI), (5, .one (.ref 1005))] [(1001, .boxst .Ledger), (1005, .boxst .Page)] .go) .go))) .go))))) (.two (.two .go (.one (.loop [(1, .one (.ref 1001)), (3, nI), (6, nI)] [(1001, .boxst .Ledger)] (.two .go (.two (.join [(1, .one (.ref 1001)), (3, nI), (6, nI)] [(1001, .boxst .Ledger)] .go) .go))))) .go))))) (fun a b => a.1) (fun _ _ => rfl) (envL_ok ⟨r25_Has_ok fu, r29_Check_ok fu, r25_In_ok fu, r25_Check_ok fu, r31_told_ok fu, r31_calls_ok fu, trivial⟩) Tryz.func111 rfl rfl (fun x y => by kernel_rfl)
def r31_Valid (fu : Nat) (p0 : D.Op) : Option (Bool) :=
 (optc (r25_In fu (D.Op.ID p0) 1 1099511627776) fun a0 =>
 (cnd a0
 (optc (r25_In fu (D.Op.Kind p0) 1 5) fun a1 =>
 (cnd a1
 (optc (r25_In fu (D.Op.Region p0) 0 4) fun a2 =>
 (cnd a2
 (optc (r25_In fu (D.Op.Fence p0) 0 1048576) fun a3 =>
 (cnd a3
 (optc (r25_In fu (D.Op.At p0) 0 8589934592) fun a4 =>
 (cnd a4
 (optc (r25_In fu (D.Op.Page p0) 0 999999) fun a5 =>
 (cnd a5
 (optc (r25_In fu (D.Op.K p0) (-1) 1000) fun a6 =>
 (cnd a6
 (cnd (decide ((D.Op.Kind p0) ≠ 4))
 (some true)
 (optc (r28_Valid fu (D.Op.Answer p0)) fun a7 =>
 (cnd a7
 (some true)
 (some false))))
 (some false)))
 (some false)))
 (some false)))
 (some false)))
 (some false)))
 (some false)))
 (some false)))
def r31_Valid_g (fu : Nat) : Sig := mkSig [.st .Op] [] [.one (.boo)] [] [] (Bool) (fun q => ((q, ()), ())) (fun x y => r31_Valid fu x.1)
theorem r31_Valid_ok (fu : Nat) : FnOK Tryz.prog 112 (r31_Valid_g fu) :=
 FnOK.intro (ty := ty) (E := envL [(67, 0, r25_In_g fu), (108, 0, r28_Valid_g fu)]) (fu := fu) (an := .go) (fun a b => a.1) (fun _ _ => rfl) (envL_ok ⟨r25_In_ok fu, r28_Valid_ok fu, trivial⟩) Tryz.func112 rfl rfl (fun x y => by kernel_rfl)
def r13_with (fu : Nat) (p0 : D.Config) (p1 : Int) (p2 : List D.Edit) : Option (D.Config) :=
 (lec (List.length (D.Config.Schedules p0)) 34359738368 (natc p1 fun a0 =>
 (ltc a0 (List.length (D.Config.Schedules p0)) (optc (GetElem?.getElem? (D.Config.Schedules p0) a0) fun a1 =>
 (some (D.Config.mk (D.Config.Zones p0) (D.Config.People p0) (D.Config.Calendars p0) (List.set (D.Config.Schedules p0) a0 (D.Schedule.mk (D.Schedule.Name a1) (D.Schedule.Layers a1) p2))))))))
def r13_with_g (fu : Nat) : Sig := mkSig [.st .Config, nI, .one (.lst .Edit)] [] [.st .Config] [] [] (D.Config) (fun q => ((q, ()), ())) (fun x y => r13_with fu x.1 x.2.1 x.2.2.1)
theorem r13_with_ok (fu : Nat) : FnOK Tryz.prog 194 (r13_with_g fu) :=
 FnOK.intro (ty := ty) (E := envL []) (fu := fu) (an := .go) (fun a b => a.1) (fun _ _ => rfl) (envL_ok (l := []) trivial) Tryz.func194 rfl rfl (fun x y => by kernel_rfl)
def r13_Apply (fu : Nat) (p0 : D.Config) (p1 : Int) (p2 : D.Edit) : Option (D.Config × Int) :=
 (join (Y := ((Int × Unit) × (D.Config × (D.Edit × (D.Config × Unit))))) (fun ((a0, _), (a1, (a2, (a3, _)))) =>
 (atc (D.Config.Schedules a1) a0 fun a4 =>
 (lec (List.length (D.Schedule.Edits a4)) 34359738368 (lec ((List.length (D.Schedule.Edits a4)) + (List.length (a2 :: []))) 34359738368 (optc (r13_with fu a1 a0 ((D.Schedule.Edits a4) ++ (a2 :: []))) fun a5 =>
 (optc (r08_Check fu a5) fun a6 =>
 (cnd (decide (a6 ≠ 0))
 (some ((D.Config.mk [] [] [] []), a6))
 (some (a5, 0))))))))) fun J7 =>
 (optc (r08_Check fu p0) fun a8 =>
 (cnd (decide (a8 ≠ 0))
 (some ((D.Config.mk [] [] [] []), 8))
 (cnd (decide (p1 < 0))
 (some ((D.Config.mk [] [] [] []), 3))
 (cnd (decide ((((List.length (D.Config.Schedules p0)) : Nat) : Int) ≤ p1))
 (some ((D.Config.mk [] [] [] []), 3))
 (J7 ((p1, ()), (p0, (p2, ((D.Config.mk [] [] [] []), ()))))))))))
def r13_Apply_g (fu : Nat) : Sig := mkSig [.st .Config, nI, .st .Edit] [] [.st .Config, nI] [] [] (D.Config × Int) (fun q => ((q.1, q.2, ()), ())) (fun x y => r13_Apply fu x.1 x.2.1 x.2.2.1)
theorem r13_Apply_ok (fu : Nat) : FnOK Tryz.prog 154 (r13_Apply_g fu) :=
 FnOK.intro (ty := ty) (E := envL [(141, 0, r08_Check_g fu), (194, 0, r13_with_g fu)]) (fu := fu) (an := .two .go (.two (.join [(1, nI), (3, .one (.ref 1003)), (5, .one (.ref 1005)), (6, .one (.ref 1006))] [(1003, .boxst .Config), (1005, .boxst .Edit), (1006, .boxst .Config)] .go) .go)) (fun a b => (a.1, a.2.1)) (fun _ _ => rfl) (envL_ok ⟨r08_Check_ok fu, r13_with_ok fu, trivial⟩) Tryz.func154 rfl rfl (fun x y => by kernel_rfl)
def r31_Find_0c7c10c11 (fu : Nat) (p0 : D.Ledger) (p1 : Int) : Option (D.Page × Bool) :=
 (iterF (X := ((Int × (Int × Unit)) × ((Int × (List D.Zone × (List D.Person × (List D.Calendar × (List D.Schedule × (List D.Team × (List D.Policy × (Int × (Int × Unit))))))))) × (D.Page × (List D.Page × (List Int × (List D.Call × Unit))))))) (fun L0 ((a1, (a2, _)), ((a3, (a4, (a5, (a6, (a7, (a8, (a9, (a10, (a11, _))))))))), (a12, (a13, (a14, (a15, _)))))) =>
 (cnd (decide (a2 < (((List.length a13) : Nat) : Int)))
 (natc a2 fun a16 =>
 (ltc a16 (List.length a13) (optc (GetElem?.getElem? a13 a16) fun a17 =>
 (cnd (decide ((D.Page.ID a17) = a1))
 (natc a2 fun a18 =>
 (ltc a18 (List.length a13) (optc (GetElem?.getElem? a13 a18) fun a19 =>
 (optc (r29_Copy fu a19) fun a20 =>
 (sameC a13 (D.Ledger.Pages p0) (sameC a14 (D.Ledger.Seen p0) (sameC a15 (D.Ledger.Calls p0) (some (a20, true)))))))))
 (L0 ((a1, ((IntKind.wrap .i64 (a2 + 1)), ())), ((a3, (a4, (a5, (a6, (a7, (a8, (a9, (a10, (a11, ()))))))))), (a12, (a13, (a14, (a15, ())))))))))))
 (sameC a13 (D.Ledger.Pages p0) (sameC a14 (D.Ledger.Seen p0) (sameC a15 (D.Ledger.Calls p0) (some ((D.Page.mk 0 0 0 0 0 0 0 0 0 0 0 [] [] []), false))))))) fu ((p1, (0, ())), (((D.Ledger.Now p0), ((D.Config.Zones (D.Ledger.Config p0)), ((D.Config.People (D.Ledger.Config p0)), ((D.Config.Calendars (D.Ledger.Config p0)), ((D.Config.Schedules (D.Ledger.Config p0)), ((D.Book.Teams (D.Ledger.Book p0)), ((D.Book.Policies (D.Ledger.Book p0)), ((D.Ledger.Owner p0), ((D.Ledger.Fence p0), ()))))))))), ((D.Page.mk 0 0 0 0 0 0 0 0 0 0 0 [] [] []), ((D.Ledger.Pages p0), ((D.Ledger.Seen p0), ((D.Ledger.Calls p0), ())))))))
def r31_Find_0c7c10c11_g (fu : Nat) : Sig := mkSig [.agg [.num .i64, .lst .Zone, .lst .Person, .lst .Calendar, .lst .Schedule, .lst .Team, .lst .Policy, .own 101, .num .i64, .num .i64, .own 102, .own 103], nI] [(101, .arr .Page), (102, .arr .int), (103, .arr .Call)] [.st .Page, .one (.boo)] [] [101, 102, 103] (D.Page × Bool) (fun q => ((q.1, q.2, ()), ())) (fun x y => r31_Find_0c7c10c11 fu (D.Ledger.mk x.1.1 (D.Config.mk x.1.2.1 x.1.2.2.1 x.1.2.2.2.1 x.1.2.2.2.2.1) (D.Book.mk x.1.2.2.2.2.2.1 x.1.2.2.2.2.2.2.1) y.1 x.1.2.2.2.2.2.2.2.1 x.1.2.2.2.2.2.2.2.2.1 y.2.1 y.2.2.1) x.2.1)
theorem r31_Find_0c7c10c11_ok (fu : Nat) : FnOK Tryz.prog 150 (r31_Find_0c7c10c11_g fu) :=
 FnOK.intro (ty := ty) (E := envL [(66, 0, r29_Copy_g fu)]) (fu := fu) (an := .two .go (.two (.two .go (.one (.loop [(1, nI), (2, .one (.ref 1002)), (4, .one (.ref 1004)), (6, nI)] [(1002, .box [.num .i64, .lst .Zone, .lst .Person, .lst .Calendar, .lst .Schedule, .lst .Team, .lst .Policy, .own 101, .num .i64, .num .i64, .own 102, .own 103]), (1004, .boxst .Page), (101, .arr .Page), (102, .arr .int), (103, .arr .Call)] .go))) .go)) (fun a b => (a.1, a.2.1)) (fun _ _ => rfl) (envL_ok ⟨r29_Copy_ok fu, trivial⟩) Tryz.func150 rfl rfl (fun x y => by kernel_rfl)
def r31_put_0c7c10c11 (fu : Nat) (p0 : D.Ledger) (p1 : D.Page) : Option (D.Ledger) :=
 (iterF (X := ((Int × Unit) × ((Int × (List D.Zone × (List D.Person × (List D.Calendar × (List D.Schedule × (List D.Team × (List D.Policy × (Int × (Int × Unit))))))))) × (D.Page × (D.Ledger × (List D.Page × (List Int × (List D.Call × Unit)))))))) (fun L0 ((a1, _), ((a2, (a3, (a4, (a5, (a6, (a7, (a8, (a9, (a10, _))))))))), (a11, (a12, (a13, (a14, (a15, _))))))) =>
 (cnd (decide (a1 < (((List.length a13) : Nat) : Int)))
 (join (Y := ((Int × Unit) × ((Int × (List D.Zone × (List D.Person × (List D.Calendar × (List D.Schedule × (List D.Team × (List D.Policy × (Int × (Int × Unit))))))))) × (D.Page × (D.Ledger × (List D.Page × (List Int × (List D.Call × Unit)))))))) (fun ((a16, _), ((a17, (a18, (a19, (a20, (a21, (a22, (a23, (a24, (a25, _))))))))), (a26, (a27, (a28, (a29, (a30, _))))))) =>
 (L0 (((IntKind.wrap .i64 (a16 + 1)), ()), ((a17, (a18, (a19, (a20, (a21, (a22, (a23, (a24, (a25, ()))))))))), (a26, (a27, (a28, (a29, (a30, ()))))))))) fun J31 =>
 (natc a1 fun a32 =>
 (ltc a32 (List.length a13) (optc (GetElem?.getElem? a13 a32) fun a33 =>
 (cnd (decide ((D.Page.ID a33) = (D.Page.ID a11)))
 (natc a1 fun a34 =>
 (ltc a34 (List.length a13) (optc (GetElem?.getElem? a13 a34) fun a35 =>
 (optc (r31_calls fu a11 (((List.length (D.Page.Starts a35)) : Nat) : Int) a10) fun a36 =>
 (lec ((List.length a15) + (List.length a36)) 34359738368 (natc a1 fun a37 =>
 (ltc a37 (List.length a13) (optc (GetElem?.getElem? a13 a37) fun a38 =>
 (J31 ((a1, ()), ((a2, (a3, (a4, (a5, (a6, (a7, (a8, (a9, (a10, ()))))))))), (a11, (a12, ((List.set a13 a37 a11), (a14, ((a15 ++ a36), ()))))))))))))))))
 (J31 ((a1, ()), ((a2, (a3, (a4, (a5, (a6, (a7, (a8, (a9, (a10, ()))))))))), (a11, (a12, (a13, (a14, (a15, ())))))))))))))
 (some (D.Ledger.mk a2 (D.Config.mk a3 a4 a5 a6) (D.Book.mk a7 a8) a13 a9 a10 a14 a15)))) fu ((0, ()), (((D.Ledger.Now p0), ((D.Config.Zones (D.Ledger.Config p0)), ((D.Config.People (D.Ledger.Config p0)), ((D.Config.Calendars (D.Ledger.Config p0)), ((D.Config.Schedules (D.Ledger.Config p0)), ((D.Book.Teams (D.Ledger.Book p0)), ((D.Book.Policies (D.Ledger.Book p0)), ((D.Ledger.Owner p0), ((D.Ledger.Fence p0), ()))))))))), (p1, ((D.Ledger.mk 0 (D.Config.mk [] [] [] []) (D.Book.mk [] []) [] 0 0 [] []), ((D.Ledger.Pages p0), ((D.Ledger.Seen p0), ((D.Ledger.Calls p0), ()))))))))
def r31_put_0c7c10c11_g (fu : Nat) : Sig := mkSig [.agg [.num .i64, .lst .Zone, .lst .Person, .lst .Calendar, .lst .Schedule, .lst .Team, .lst .Policy, .own 101, .num .i64, .num .i64, .own 102, .own 103], .st .Page] [(101, .arr .Page), (102, .arr .int), (103, .arr .Call)] [.agg [.num .i64, .lst .Zone, .lst .Person, .lst .Calendar, .lst .Schedule, .lst .Team, .lst .Policy, .own 101, .num .i64, .num .i64, .own 102, .own 103]] [(101, .arr .Page), (102, .arr .int), (103, .arr .Call)] [] (D.Ledger) (fun q => (((q.Now, q.Config.Zones, q.Config.People, q.Config.Calendars, q.Config.Schedules, q.Book.Teams, q.Book.Policies, q.Owner, q.Fence, ()), ()), (q.Pages, q.Seen, q.Calls, ()))) (fun x y => r31_put_0c7c10c11 fu (D.Ledger.mk x.1.1 (D.Config.mk x.1.2.1 x.1.2.2.1 x.1.2.2.2.1 x.1.2.2.2.2.1) (D.Book.mk x.1.2.2.2.2.2.1 x.1.2.2.2.2.2.2.1) y.1 x.1.2.2.2.2.2.2.2.1 x.1.2.2.2.2.2.2.2.2.1 y.2.1 y.2.2.1) x.2.1)
theorem r31_put_0c7c10c11_ok (fu : Nat) : FnOK Tryz.prog 193 (r31_put_0c7c10c11_g fu) :=
 FnOK.intro (ty := ty) (E := envL [(149, 0, r31_calls_g fu)]) (fu := fu) (an := .two .go (.two (.two .go (.one (.loop [(2, .one (.ref 1002)), (3, .one (.ref 1003)), (4, .one (.ref 1004)), (5, nI)] [(1002, .box [.num .i64, .lst .Zone, .lst .Person, .lst .Calendar, .lst .Schedule, .lst .Team, .lst .Policy, .own 101, .num .i64, .num .i64, .own 102, .own 103]), (1003, .boxst .Page), (1004, .boxst .Ledger), (101, .arr .Page), (102, .arr .int), (103, .arr .Call)] (.two .go (.two (.join [(2, .one (.ref 1002)), (3, .one (.ref 1003)), (4, .one (.ref 1004)), (5, nI)] [(1002, .box [.num .i64, .lst .Zone, .lst .Person, .lst .Calendar, .lst .Schedule, .lst .Team, .lst .Policy, .own 101, .num .i64, .num .i64, .own 102, .own 103]), (1003, .boxst .Page), (1004, .boxst .Ledger), (101, .arr .Page), (102, .arr .int), (103, .arr .Call)] .go) .go))))) .go)) (fun a b => (D.Ledger.mk a.1.1 (D.Config.mk a.1.2.1 a.1.2.2.1 a.1.2.2.2.1 a.1.2.2.2.2.1) (D.Book.mk a.1.2.2.2.2.2.1 a.1.2.2.2.2.2.2.1) b.1 a.1.2.2.2.2.2.2.2.1 a.1.2.2.2.2.2.2.2.2.1 b.2.1 b.2.2.1)) (fun _ _ => rfl) (envL_ok ⟨r31_calls_ok fu, trivial⟩) Tryz.func193 rfl rfl (fun x y => by kernel_rfl)
def r31_run_0c7c10c11 (fu : Nat) (p0 : D.Ledger) (p1 : Int) (p2 : Int) : Option (D.Ledger) :=
 (optc (r31_Find_0c7c10c11 fu p0 p1) fun (a0, a1) =>
 (cnd (!a1)
 (some p0)
 (optc (r29_Run fu (D.Ledger.Config p0) (D.Ledger.Book p0) a0 p2) fun (a2, a3) =>
 (cnd (decide (a3 ≠ 0))
 (some p0)
 (optc (r31_put_0c7c10c11 fu p0 a2) fun a4 =>
 (some a4))))))
def r31_run_0c7c10c11_g (fu : Nat) : Sig := mkSig [.agg [.num .i64, .lst .Zone, .lst .Person, .lst .Calendar, .lst .Schedule, .lst .Team, .lst .Policy, .own 101, .num .i64, .num .i64, .own 102, .own 103], nI, nI] [(101, .arr .Page), (102, .arr .int), (103, .arr .Call)] [.agg [.num .i64, .lst .Zone, .lst .Person, .lst .Calendar, .lst .Schedule, .lst .Team, .lst .Policy, .own 101, .num .i64, .num .i64, .own 102, .own 103]] [(101, .arr .Page), (102, .arr .int), (103, .arr .Call)] [] (D.Ledger) (fun q => (((q.Now, q.Config.Zones, q.Config.People, q.Config.Calendars, q.Config.Schedules, q.Book.Teams, q.Book.Policies, q.Owner, q.Fence, ()), ()), (q.Pages, q.Seen, q.Calls, ()))) (fun x y => r31_run_0c7c10c11 fu (D.Ledger.mk x.1.1 (D.Config.mk x.1.2.1 x.1.2.2.1 x.1.2.2.2.1 x.1.2.2.2.2.1) (D.Book.mk x.1.2.2.2.2.2.1 x.1.2.2.2.2.2.2.1) y.1 x.1.2.2.2.2.2.2.2.1 x.1.2.2.2.2.2.2.2.2.1 y.2.1 y.2.2.1) x.2.1 x.2.2.1)
theorem r31_run_0c7c10c11_ok (fu : Nat) : FnOK Tryz.prog 152 (r31_run_0c7c10c11_g fu) :=
 FnOK.intro (ty := ty) (E := envL [(27, 0, r29_Run_g fu), (150, 0, r31_Find_0c7c10c11_g fu), (193, 0, r31_put_0c7c10c11_g fu)]) (fu := fu) (an := .go) (fun a b => (D.Ledger.mk a.1.1 (D.Config.mk a.1.2.1 a.1.2.2.1 a.1.2.2.2.1 a.1.2.2.2.2.1) (D.Book.mk a.1.2.2.2.2.2.1 a.1.2.2.2.2.2.2.1) b.1 a.1.2.2.2.2.2.2.2.1 a.1.2.2.2.2.2.2.2.2.1 b.2.1 b.2.2.1)) (fun _ _ => rfl) (envL_ok ⟨r29_Run_ok fu, r31_Find_0c7c10c11_ok fu, r31_put_0c7c10c11_ok fu, trivial⟩) Tryz.func152 rfl rfl (fun x y => by kernel_rfl)
def r31_open_0c7c10c11 (fu : Nat) (p0 : D.Ledger) (p1 : D.Op) (p2 : Int) (p3 : Bool) : Option (D.Ledger × Int) :=
 (cnd p3
 (some (p0, 4))
 (cnd (decide (64 ≤ (((List.length (D.Ledger.Pages p0)) : Nat) : Int)))
 (some (p0, 5))
 (optc (r29_New fu (D.Ledger.Book p0) (D.Op.Page p1) (D.Op.Policy p1) p2) fun (a0, a1) =>
 (cnd (decide (a1 ≠ 0))
 (some (p0, a1))
 (join (Y := ((Int × (Int × Unit)) × ((Int × (List D.Zone × (List D.Person × (List D.Calendar × (List D.Schedule × (List D.Team × (List D.Policy × (Int × (Int × Unit))))))))) × (D.Ledger × (D.Page × (List D.Page × (List Int × (List D.Call × Unit)))))))) (fun ((a2, (a3, _)), ((a4, (a5, (a6, (a7, (a8, (a9, (a10, (a11, (a12, _))))))))), (a13, (a14, (a15, (a16, (a17, _))))))) =>
 (lec ((List.length a15) + (List.length (a14 :: []))) 34359738368 (natc (IntKind.wrap .i64 (a3 + 1)) fun a18 =>
 (lec a18 (List.length (a15 ++ (a14 :: []))) (natc a3 fun a19 =>
 (lec a19 (List.length (a15 ++ (a14 :: []))) (chk (List.length (a15 ++ (a14 :: []))) (List.length (a15 ++ (a14 :: []))) (chk (List.length (a15 ++ (a14 :: []))) (List.length (a15 ++ (a14 :: []))) (lec a18 (List.length (a15 ++ (a14 :: []))) (lec a19 a18 (natc a3 fun a20 =>
 (ltc a20 (List.length ((List.take a18 (a15 ++ (a14 :: []))) ++ (List.take ((List.length (a15 ++ (a14 :: []))) - a18) (List.drop a19 (a15 ++ (a14 :: [])))))) (optc (GetElem?.getElem? ((List.take a18 (a15 ++ (a14 :: []))) ++ (List.take ((List.length (a15 ++ (a14 :: []))) - a18) (List.drop a19 (a15 ++ (a14 :: []))))) a20) fun a21 =>
 (optc (r31_run_0c7c10c11 fu (D.Ledger.mk a4 (D.Config.mk a5 a6 a7 a8) (D.Book.mk a9 a10) (List.set ((List.take a18 (a15 ++ (a14 :: []))) ++ (List.take ((List.length (a15 ++ (a14 :: []))) - a18) (List.drop a19 (a15 ++ (a14 :: []))))) a20 a14) a11 a12 a16 a17) (D.Page.ID a14) a2) fun a22 =>
 (some (a22, 0)))))))))))))))) fun J23 =>
 (iterF (X := ((Int × (Int × Unit)) × ((Int × (List D.Zone × (List D.Person × (List D.Calendar × (List D.Schedule × (List D.Team × (List D.Policy × (Int × (Int × Unit))))))))) × (D.Ledger × (D.Page × (List D.Page × (List Int × (List D.Call × Unit)))))))) (fun L24 ((a25, (a26, _)), ((a27, (a28, (a29, (a30, (a31, (a32, (a33, (a34, (a35, _))))))))), (a36, (a37, (a38, (a39, (a40, _))))))) =>
 (join (Y := ((Int × (Int × Unit)) × ((Int × (List D.Zone × (List D.Person × (List D.Calendar × (List D.Schedule × (List D.Team × (List D.Policy × (Int × (Int × Unit))))))))) × (D.Ledger × (D.Page × (List D.Page × (List Int × (List D.Call × Unit)))))))) (fun ((a41, (a42, _)), ((a43, (a44, (a45, (a46, (a47, (a48, (a49, (a50, (a51, _))))))))), (a52, (a53, (a54, (a55, (a56, _))))))) =>
 (L24 ((a41, ((IntKind.wrap .i64 (a42 + 1)), ())), ((a43, (a44, (a45, (a46, (a47, (a48, (a49, (a50, (a51, ()))))))))), (a52, (a53, (a54, (a55, (a56, ()))))))))) fun J57 =>
 (cnd (decide (a26 < (((List.length a38) : Nat) : Int)))
 (natc a26 fun a58 =>
 (ltc a58 (List.length a38) (optc (GetElem?.getElem? a38 a58) fun a59 =>
 (cnd (decide ((D.Page.ID a59) < (D.Page.ID a37)))
 (J57 ((a25, (a26, ())), ((a27, (a28, (a29, (a30, (a31, (a32, (a33, (a34, (a35, ()))))))))), (a36, (a37, (a38, (a39, (a40, ()))))))))
 (J23 ((a25, (a26, ())), ((a27, (a28, (a29, (a30, (a31, (a32, (a33, (a34, (a35, ()))))))))), (a36, (a37, (a38, (a39, (a40, ()))))))))))))
 (J23 ((a25, (a26, ())), ((a27, (a28, (a29, (a30, (a31, (a32, (a33, (a34, (a35, ()))))))))), (a36, (a37, (a38, (a39, (a40, ()))))))))))) fu ((p2, (0, ())), (((D.Ledger.Now p0), ((D.Config.Zones (D.Ledger.Config p0)), ((D.Config.People (D.Ledger.Config p0)), ((D.Config.Calendars (D.Ledger.Config p0)), ((D.Config.Schedules (D.Ledger.Config p0)), ((D.Book.Teams (D.Ledger.Book p0)), ((D.Book.Policies (D.Ledger.Book p0)), ((D.Ledger.Owner p0), ((D.Ledger.Fence p0), ()))))))))), ((D.Ledger.mk 0 (D.Config.mk [] [] [] []) (D.Book.mk [] []) [] 0 0 [] []), (a0, ((D.Ledger.Pages p0), ((D.Ledger.Seen p0), ((D.Ledger.Calls p0), ())))))))))))))
def r31_open_0c7c10c11_g (fu : Nat) : Sig := mkSig [.agg [.num .i64, .lst .Zone, .lst .Person, .lst .Calendar, .lst .Schedule, .lst .Team, .lst .Policy, .own 101, .num .i64, .num .i64, .own 102, .own 103], .st .Op, nI, .one (.boo)] [(101, .arr .Page), (102, .arr .int), (103, .arr .Call)] [.agg [.num .i64, .lst .Zone, .lst .Person, .lst .Calendar, .lst .Schedule, .lst .Team, .lst .Policy, .own 101, .num .i64, .num .i64, .own 102, .own 103], nI] [(101, .arr .Page), (102, .arr .int), (103, .arr .Call)] [] (D.Ledger × Int) (fun q => (((q.1.Now, q.1.Config.Zones, q.1.Config.People, q.1.Config.Calendars, q.1.Config.Schedules, q.1.Book.Teams, q.1.Book.Policies, q.1.Owner, q.1.Fence, ()), q.2, ()), (q.1.Pages, q.1.Seen, q.1.Calls, ()))) (fun x y => r31_open_0c7c10c11 fu (D.Ledger.mk x.1.1 (D.Config.mk x.1.2.1 x.1.2.2.1 x.1.2.2.2.1 x.1.2.2.2.2.1) (D.Book.mk x.1.2.2.2.2.2.1 x.1.2.2.2.2.2.2.1) y.1 x.1.2.2.2.2.2.2.2.1 x.1.2.2.2.2.2.2.2.2.1 y.2.1 y.2.2.1) x.2.1 x.2.2.1 x.2.2.2.1)
theorem r31_open_0c7c10c11_ok (fu : Nat) : FnOK Tryz.prog 151 (r31_open_0c7c10c11_g fu) :=
 FnOK.intro (ty := ty) (E := envL [(50, 0, r29_New_g fu), (152, 0, r31_run_0c7c10c11_g fu)]) (fu := fu) (an := .two .go (.two .go (.two .go (.two .go (.two .go (.two .go (.two (.join [(2, nI), (4, .one (.ref 1004)), (8, .one (.ref 1008)), (10, .one (.ref 1010)), (12, nI)] [(1004, .box [.num .i64, .lst .Zone, .lst .Person, .lst .Calendar, .lst .Schedule, .lst .Team, .lst .Policy, .own 101, .num .i64, .num .i64, .own 102, .own 103]), (1008, .boxst .Ledger), (1010, .boxst .Page), (101, .arr .Page), (102, .arr .int), (103, .arr .Call)] (.one (.loop [(2, nI), (4, .one (.ref 1004)), (8, .one (.ref 1008)), (10, .one (.ref 1010)), (12, nI)] [(1004, .box [.num .i64, .lst .Zone, .lst .Person, .lst .Calendar, .lst .Schedule, .lst .Team, .lst .Policy, .own 101, .num .i64, .num .i64, .own 102, .own 103]), (1008, .boxst .Ledger), (1010, .boxst .Page), (101, .arr .Page), (102, .arr .int), (103, .arr .Call)] (.two (.join [(2, nI), (4, .one (.ref 1004)), (8, .one (.ref 1008)), (10, .one (.ref 1010)), (12, nI)] [(1004, .box [.num .i64, .lst .Zone, .lst .Person, .lst .Calendar, .lst .Schedule, .lst .Team, .lst .Policy, .own 101, .num .i64, .num .i64, .own 102, .own 103]), (1008, .boxst .Ledger), (1010, .boxst .Page), (101, .arr .Page), (102, .arr .int), (103, .arr .Call)] .go) .go)))) .go))))))) (fun a b => ((D.Ledger.mk a.1.1 (D.Config.mk a.1.2.1 a.1.2.2.1 a.1.2.2.2.1 a.1.2.2.2.2.1) (D.Book.mk a.1.2.2.2.2.2.1 a.1.2.2.2.2.2.2.1) b.1 a.1.2.2.2.2.2.2.2.1 a.1.2.2.2.2.2.2.2.2.1 b.2.1 b.2.2.1), a.2.1)) (fun _ _ => rfl) (envL_ok ⟨r29_New_ok fu, r31_run_0c7c10c11_ok fu, trivial⟩) Tryz.func151 rfl rfl (fun x y => by kernel_rfl)
def r31_reply_0c7c10c11 (fu : Nat) (p0 : D.Ledger) (p1 : D.Answer) (p2 : Int) : Option (D.Ledger × Int) :=
 (optc (r31_Find_0c7c10c11 fu p0 (D.Answer.Page p1)) fun (a0, a1) =>
 (cnd (!a1)
 (some (p0, 3))
 (optc (r31_run_0c7c10c11 fu p0 (D.Answer.Page p1) p2) fun a2 =>
 (optc (r31_Find_0c7c10c11 fu a2 (D.Answer.Page p1)) fun (a3, a4) =>
 (optc (r29_Answer fu (D.Ledger.Config a2) (D.Ledger.Book a2) a3 (D.Answer.mk (D.Answer.ID p1) (D.Answer.Page p1) (D.Answer.Person p1) (D.Answer.Kind p1) (D.Answer.Arg p1) p2)) fun (a5, a6) =>
 (cnd (decide (a6 ≠ 0))
 (some (a2, a6))
 (optc (r31_put_0c7c10c11 fu a2 a5) fun a7 =>
 (some (a7, 0)))))))))
def r31_reply_0c7c10c11_g (fu : Nat) : Sig := mkSig [.agg [.num .i64, .lst .Zone, .lst .Person, .lst .Calendar, .lst .Schedule, .lst .Team, .lst .Policy, .own 101, .num .i64, .num .i64, .own 102, .own 103], .st .Answer, nI] [(101, .arr .Page), (102, .arr .int), (103, .arr .Call)] [.agg [.num .i64, .lst .Zone, .lst .Person, .lst .Calendar, .lst .Schedule, .lst .Team, .lst .Policy, .own 101, .num .i64, .num .i64, .own 102, .own 103], nI] [(101, .arr .Page), (102, .arr .int), (103, .arr .Call)] [] (D.Ledger × Int) (fun q => (((q.1.Now, q.1.Config.Zones, q.1.Config.People, q.1.Config.Calendars, q.1.Config.Schedules, q.1.Book.Teams, q.1.Book.Policies, q.1.Owner, q.1.Fence, ()), q.2, ()), (q.1.Pages, q.1.Seen, q.1.Calls, ()))) (fun x y => r31_reply_0c7c10c11 fu (D.Ledger.mk x.1.1 (D.Config.mk x.1.2.1 x.1.2.2.1 x.1.2.2.2.1 x.1.2.2.2.2.1) (D.Book.mk x.1.2.2.2.2.2.1 x.1.2.2.2.2.2.2.1) y.1 x.1.2.2.2.2.2.2.2.1 x.1.2.2.2.2.2.2.2.2.1 y.2.1 y.2.2.1) x.2.1 x.2.2.1)
theorem r31_reply_0c7c10c11_ok (fu : Nat) : FnOK Tryz.prog 153 (r31_reply_0c7c10c11_g fu) :=
 FnOK.intro (ty := ty) (E := envL [(60, 0, r29_Answer_g fu), (150, 0, r31_Find_0c7c10c11_g fu), (152, 0, r31_run_0c7c10c11_g fu), (193, 0, r31_put_0c7c10c11_g fu)]) (fu := fu) (an := .go) (fun a b => ((D.Ledger.mk a.1.1 (D.Config.mk a.1.2.1 a.1.2.2.1 a.1.2.2.2.1 a.1.2.2.2.2.1) (D.Book.mk a.1.2.2.2.2.2.1 a.1.2.2.2.2.2.2.1) b.1 a.1.2.2.2.2.2.2.2.1 a.1.2.2.2.2.2.2.2.2.1 b.2.1 b.2.2.1), a.2.1)) (fun _ _ => rfl) (envL_ok ⟨r29_Answer_ok fu, r31_Find_0c7c10c11_ok fu, r31_run_0c7c10c11_ok fu, r31_put_0c7c10c11_ok fu, trivial⟩) Tryz.func153 rfl rfl (fun x y => by kernel_rfl)
def r31_apply_0c7c10c11 (fu : Nat) (p0 : D.Ledger) (p1 : D.Op) (p2 : Int) : Option (D.Ledger × Int) :=
 (optc (r31_Find_0c7c10c11 fu p0 (D.Op.Page p1)) fun (a0, a1) =>
 (join (Y := (Unit × ((Int × (List D.Zone × (List D.Person × (List D.Calendar × (List D.Schedule × (List D.Team × (List D.Policy × (Int × (Int × Unit))))))))) × (D.Ledger × (List D.Page × (List Int × (List D.Call × Unit))))))) (fun (_, ((a2, (a3, (a4, (a5, (a6, (a7, (a8, (a9, (a10, _))))))))), (a11, (a12, (a13, (a14, _)))))) =>
 (some ((D.Ledger.mk a2 (D.Config.mk a3 a4 a5 a6) (D.Book.mk a7 a8) a12 a9 a10 a13 a14), 0))) fun J15 =>
 (cnd (decide ((D.Op.Kind p1) = 1))
 (optc (r31_open_0c7c10c11 fu p0 p1 p2 a1) fun (a16, a17) =>
 (some (a16, a17)))
 (cnd (decide ((D.Op.Kind p1) = 2))
 (cnd (decide ((D.Op.Fence p1) ≠ (IntKind.wrap .i64 ((D.Ledger.Fence p0) + 1))))
 (some (p0, 23))
 (J15 ((), (((D.Ledger.Now p0), ((D.Config.Zones (D.Ledger.Config p0)), ((D.Config.People (D.Ledger.Config p0)), ((D.Config.Calendars (D.Ledger.Config p0)), ((D.Config.Schedules (D.Ledger.Config p0)), ((D.Book.Teams (D.Ledger.Book p0)), ((D.Book.Policies (D.Ledger.Book p0)), ((D.Op.Region p1), ((D.Op.Fence p1), ()))))))))), ((D.Ledger.mk 0 (D.Config.mk [] [] [] []) (D.Book.mk [] []) [] 0 0 [] []), ((D.Ledger.Pages p0), ((D.Ledger.Seen p0), ((D.Ledger.Calls p0), ()))))))))
 (cnd (decide ((D.Op.Kind p1) = 3))
 (join (Y := ((Int × (Bool × Unit)) × ((Int × (List D.Zone × (List D.Person × (List D.Calendar × (List D.Schedule × (List D.Team × (List D.Policy × (Int × (Int × Unit))))))))) × (D.Op × (D.Ledger × (D.Page × (List D.Page × (List Int × (List D.Call × Unit))))))))) (fun ((a18, (a19, _)), ((a20, (a21, (a22, (a23, (a24, (a25, (a26, (a27, (a28, _))))))))), (a29, (a30, (a31, (a32, (a33, (a34, _)))))))) =>
 (cnd (!a19)
 (some ((D.Ledger.mk a20 (D.Config.mk a21 a22 a23 a24) (D.Book.mk a25 a26) a32 a27 a28 a33 a34), 3))
 (optc (r29_Due fu a31) fun (a35, a36) =>
 (join (Y := ((Int × (Int × (Bool × (Int × Unit)))) × ((Int × (List D.Zone × (List D.Person × (List D.Calendar × (List D.Schedule × (List D.Team × (List D.Policy × (Int × (Int × Unit))))))))) × (D.Op × (D.Ledger × (List D.Page × (List Int × (List D.Call × Unit)))))))) (fun ((a37, (a38, (a39, (a40, _)))), ((a41, (a42, (a43, (a44, (a45, (a46, (a47, (a48, (a49, _))))))))), (a50, (a51, (a52, (a53, (a54, _))))))) =>
 (join (Y := ((Int × Unit) × ((Int × (List D.Zone × (List D.Person × (List D.Calendar × (List D.Schedule × (List D.Team × (List D.Policy × (Int × (Int × Unit))))))))) × (D.Op × (D.Ledger × (List D.Page × (List Int × (List D.Call × Unit)))))))) (fun ((a55, _), ((a56, (a57, (a58, (a59, (a60, (a61, (a62, (a63, (a64, _))))))))), (a65, (a66, (a67, (a68, (a69, _))))))) =>
 (optc (r31_run_0c7c10c11 fu (D.Ledger.mk a56 (D.Config.mk a57 a58 a59 a60) (D.Book.mk a61 a62) a67 a63 a64 a68 a69) (D.Op.Page a65) a55) fun a70 =>
 (some (a70, 0)))) fun J71 =>
 (cnd a39
 (cnd (decide (a37 < a38))
 (some ((D.Ledger.mk a41 (D.Config.mk a42 a43 a44 a45) (D.Book.mk a46 a47) a52 a48 a49 a53 a54), 9))
 (cnd (decide (a40 ≠ (D.Op.K a50)))
 (some ((D.Ledger.mk a41 (D.Config.mk a42 a43 a44 a45) (D.Book.mk a46 a47) a52 a48 a49 a53 a54), 9))
 (J71 ((a37, ()), ((a41, (a42, (a43, (a44, (a45, (a46, (a47, (a48, (a49, ()))))))))), (a50, (a51, (a52, (a53, (a54, ()))))))))))
 (some ((D.Ledger.mk a41 (D.Config.mk a42 a43 a44 a45) (D.Book.mk a46 a47) a52 a48 a49 a53 a54), 9))))) fun J72 =>
 (cnd (decide ((D.Page.State a31) = 2))
 (J72 ((a18, (a35, (a36, ((-1), ())))), ((a20, (a21, (a22, (a23, (a24, (a25, (a26, (a27, (a28, ()))))))))), (a29, (a30, (a32, (a33, (a34, ()))))))))
 (J72 ((a18, (a35, (a36, ((D.Page.Next a31), ())))), ((a20, (a21, (a22, (a23, (a24, (a25, (a26, (a27, (a28, ()))))))))), (a29, (a30, (a32, (a33, (a34, ()))))))))))))) fun J73 =>
 (cnd (decide ((D.Op.Region p1) ≠ (D.Ledger.Owner p0)))
 (some (p0, 23))
 (cnd (decide ((D.Op.Fence p1) ≠ (D.Ledger.Fence p0)))
 (some (p0, 23))
 (J73 ((p2, (a1, ())), (((D.Ledger.Now p0), ((D.Config.Zones (D.Ledger.Config p0)), ((D.Config.People (D.Ledger.Config p0)), ((D.Config.Calendars (D.Ledger.Config p0)), ((D.Config.Schedules (D.Ledger.Config p0)), ((D.Book.Teams (D.Ledger.Book p0)), ((D.Book.Policies (D.Ledger.Book p0)), ((D.Ledger.Owner p0), ((D.Ledger.Fence p0), ()))))))))), (p1, ((D.Ledger.mk 0 (D.Config.mk [] [] [] []) (D.Book.mk [] []) [] 0 0 [] []), (a0, ((D.Ledger.Pages p0), ((D.Ledger.Seen p0), ((D.Ledger.Calls p0), ()))))))))))))
 (cnd (decide ((D.Op.Kind p1) = 4))
 (optc (r31_reply_0c7c10c11 fu p0 (D.Op.Answer p1) p2) fun (a74, a75) =>
 (some (a74, a75)))
 (cnd (decide ((D.Op.Kind p1) = 5))
 (iterF (X := ((Int × (Int × Unit)) × ((Int × (List D.Zone × (List D.Person × (List D.Calendar × (List D.Schedule × (List D.Team × (List D.Policy × (Int × (Int × Unit))))))))) × (D.Op × (D.Ledger × (List D.Page × (List Int × (List D.Call × Unit)))))))) (fun L76 ((a77, (a78, _)), ((a79, (a80, (a81, (a82, (a83, (a84, (a85, (a86, (a87, _))))))))), (a88, (a89, (a90, (a91, (a92, _))))))) =>
 (cnd (decide (a78 < (((List.length a90) : Nat) : Int)))
 (natc a78 fun a93 =>
 (ltc a93 (List.length a90) (optc (GetElem?.getElem? a90 a93) fun a94 =>
 (optc (r31_run_0c7c10c11 fu (D.Ledger.mk a79 (D.Config.mk a80 a81 a82 a83) (D.Book.mk a84 a85) a90 a86 a87 a91 a92) (D.Page.ID a94) a77) fun a95 =>
 (L76 ((a77, ((IntKind.wrap .i64 (a78 + 1)), ())), (((D.Ledger.Now a95), ((D.Config.Zones (D.Ledger.Config a95)), ((D.Config.People (D.Ledger.Config a95)), ((D.Config.Calendars (D.Ledger.Config a95)), ((D.Config.Schedules (D.Ledger.Config a95)), ((D.Book.Teams (D.Ledger.Book a95)), ((D.Book.Policies (D.Ledger.Book a95)), ((D.Ledger.Owner a95), ((D.Ledger.Fence a95), ()))))))))), (a88, (a89, ((D.Ledger.Pages a95), ((D.Ledger.Seen a95), ((D.Ledger.Calls a95), ()))))))))))))
 (optc (r13_Apply fu (D.Config.mk a80 a81 a82 a83) (D.Op.Schedule a88) (D.Op.Edit a88)) fun (a96, a97) =>
 (cnd (decide (a97 ≠ 0))
 (some ((D.Ledger.mk a79 (D.Config.mk a80 a81 a82 a83) (D.Book.mk a84 a85) a90 a86 a87 a91 a92), a97))
 (J15 ((), ((a79, ((D.Config.Zones a96), ((D.Config.People a96), ((D.Config.Calendars a96), ((D.Config.Schedules a96), (a84, (a85, (a86, (a87, ()))))))))), (a89, (a90, (a91, (a92, ()))))))))))) fu ((p2, (0, ())), (((D.Ledger.Now p0), ((D.Config.Zones (D.Ledger.Config p0)), ((D.Config.People (D.Ledger.Config p0)), ((D.Config.Calendars (D.Ledger.Config p0)), ((D.Config.Schedules (D.Ledger.Config p0)), ((D.Book.Teams (D.Ledger.Book p0)), ((D.Book.Policies (D.Ledger.Book p0)), ((D.Ledger.Owner p0), ((D.Ledger.Fence p0), ()))))))))), (p1, ((D.Ledger.mk 0 (D.Config.mk [] [] [] []) (D.Book.mk [] []) [] 0 0 [] []), ((D.Ledger.Pages p0), ((D.Ledger.Seen p0), ((D.Ledger.Calls p0), ()))))))))
 (J15 ((), (((D.Ledger.Now p0), ((D.Config.Zones (D.Ledger.Config p0)), ((D.Config.People (D.Ledger.Config p0)), ((D.Config.Calendars (D.Ledger.Config p0)), ((D.Config.Schedules (D.Ledger.Config p0)), ((D.Book.Teams (D.Ledger.Book p0)), ((D.Book.Policies (D.Ledger.Book p0)), ((D.Ledger.Owner p0), ((D.Ledger.Fence p0), ()))))))))), ((D.Ledger.mk 0 (D.Config.mk [] [] [] []) (D.Book.mk [] []) [] 0 0 [] []), ((D.Ledger.Pages p0), ((D.Ledger.Seen p0), ((D.Ledger.Calls p0), ()))))))))))))))
def r31_apply_0c7c10c11_g (fu : Nat) : Sig := mkSig [.agg [.num .i64, .lst .Zone, .lst .Person, .lst .Calendar, .lst .Schedule, .lst .Team, .lst .Policy, .own 101, .num .i64, .num .i64, .own 102, .own 103], .st .Op, nI] [(101, .arr .Page), (102, .arr .int), (103, .arr .Call)] [.agg [.num .i64, .lst .Zone, .lst .Person, .lst .Calendar, .lst .Schedule, .lst .Team, .lst .Policy, .own 101, .num .i64, .num .i64, .own 102, .own 103], nI] [(101, .arr .Page), (102, .arr .int), (103, .arr .Call)] [] (D.Ledger × Int) (fun q => (((q.1.Now, q.1.Config.Zones, q.1.Config.People, q.1.Config.Calendars, q.1.Config.Schedules, q.1.Book.Teams, q.1.Book.Policies, q.1.Owner, q.1.Fence, ()), q.2, ()), (q.1.Pages, q.1.Seen, q.1.Calls, ()))) (fun x y => r31_apply_0c7c10c11 fu (D.Ledger.mk x.1.1 (D.Config.mk x.1.2.1 x.1.2.2.1 x.1.2.2.2.1 x.1.2.2.2.2.1) (D.Book.mk x.1.2.2.2.2.2.1 x.1.2.2.2.2.2.2.1) y.1 x.1.2.2.2.2.2.2.2.1 x.1.2.2.2.2.2.2.2.2.1 y.2.1 y.2.2.1) x.2.1 x.2.2.1)
theorem r31_apply_0c7c10c11_ok (fu : Nat) : FnOK Tryz.prog 113 (r31_apply_0c7c10c11_g fu) :=
 FnOK.intro (ty := ty) (E := envL [(23, 0, r29_Due_g fu), (150, 0, r31_Find_0c7c10c11_g fu), (151, 0, r31_open_0c7c10c11_g fu), (152, 0, r31_run_0c7c10c11_g fu), (153, 0, r31_reply_0c7c10c11_g fu), (154, 0, r13_Apply_g fu)]) (fu := fu) (an := .two .go (.two .go (.two (.join [(3, .one (.ref 1003)), (6, .one (.ref 1006))] [(1003, .box [.num .i64, .lst .Zone, .lst .Person, .lst .Calendar, .lst .Schedule, .lst .Team, .lst .Policy, .own 101, .num .i64, .num .i64, .own 102, .own 103]), (1006, .boxst .Ledger), (101, .arr .Page), (102, .arr .int), (103, .arr .Call)] (.two .go (.one (.two .go (.two .go (.two .go (.two .go (.two .go (.two (.two (.join [(2, nI), (3, .one (.ref 1003)), (4, .one (.ref 1004)), (6, .one (.ref 1006)), (8, .one (.ref 1008)), (9, .one (.boo))] [(1003, .box [.num .i64, .lst .Zone, .lst .Person, .lst .Calendar, .lst .Schedule, .lst .Team, .lst .Policy, .own 101, .num .i64, .num .i64, .own 102, .own 103]), (1004, .boxst .Op), (1006, .boxst .Ledger), (1008, .boxst .Page), (101, .arr .Page), (102, .arr .int), (103, .arr .Call)] .go) (.two .go (.two .go (.two .go (.two (.join [(2, nI), (3, .one (.ref 1003)), (4, .one (.ref 1004)), (6, .one (.ref 1006)), (10, nI), (11, .one (.boo)), (12, nI)] [(1003, .box [.num .i64, .lst .Zone, .lst .Person, .lst .Calendar, .lst .Schedule, .lst .Team, .lst .Policy, .own 101, .num .i64, .num .i64, .own 102, .own 103]), (1004, .boxst .Op), (1006, .boxst .Ledger), (101, .arr .Page), (102, .arr .int), (103, .arr .Call)] .go) (.two (.join [(2, nI), (3, .one (.ref 1003)), (4, .one (.ref 1004)), (6, .one (.ref 1006))] [(1003, .box [.num .i64, .lst .Zone, .lst .Person, .lst .Calendar, .lst .Schedule, .lst .Team, .lst .Policy, .own 101, .num .i64, .num .i64, .own 102, .own 103]), (1004, .boxst .Op), (1006, .boxst .Ledger), (101, .arr .Page), (102, .arr .int), (103, .arr .Call)] .go) .go)))))) (.two .go (.two .go (.two .go (.two (.two (.two .go (.one (.loop [(2, nI), (3, .one (.ref 1003)), (4, .one (.ref 1004)), (6, .one (.ref 1006)), (13, nI)] [(1003, .box [.num .i64, .lst .Zone, .lst .Person, .lst .Calendar, .lst .Schedule, .lst .Team, .lst .Policy, .own 101, .num .i64, .num .i64, .own 102, .own 103]), (1004, .boxst .Op), (1006, .boxst .Ledger), (101, .arr .Page), (102, .arr .int), (103, .arr .Call)] .go))) .go) .go))))))))))))) .go))) (fun a b => ((D.Ledger.mk a.1.1 (D.Config.mk a.1.2.1 a.1.2.2.1 a.1.2.2.2.1 a.1.2.2.2.2.1) (D.Book.mk a.1.2.2.2.2.2.1 a.1.2.2.2.2.2.2.1) b.1 a.1.2.2.2.2.2.2.2.1 a.1.2.2.2.2.2.2.2.2.1 b.2.1 b.2.2.1), a.2.1)) (fun _ _ => rfl) (envL_ok ⟨r29_Due_ok fu, r31_Find_0c7c10c11_ok fu, r31_open_0c7c10c11_ok fu, r31_run_0c7c10c11_ok fu, r31_reply_0c7c10c11_ok fu, r13_Apply_ok fu, trivial⟩) Tryz.func113 rfl rfl (fun x y => by kernel_rfl)
def r31_Apply (fu : Nat) (p0 : D.Ledger) (p1 : D.Op) : Option (D.Ledger × Int) :=
 (join (Y := (Unit × (D.Ledger × (D.Op × (D.Ledger × Unit))))) (fun (_, (a0, (a1, (a2, _)))) =>
 (optc (r31_Copy fu a0) fun a3 =>
 (optc (r25_Has fu (D.Ledger.Seen a0) (D.Op.ID a1)) fun a4 =>
 (cnd a4
 (some (a3, 0))
 (cnd (decide (256 ≤ (((List.length (D.Ledger.Seen a0)) : Nat) : Int)))
 none
 (lec ((List.length (D.Ledger.Seen a3)) + (List.length ((D.Op.ID a1) :: []))) 34359738368 (optc (r31_apply_0c7c10c11 fu (D.Ledger.mk (max (D.Ledger.Now a0) (D.Op.At a1)) (D.Ledger.Config a3) (D.Ledger.Book a3) (D.Ledger.Pages a3) (D.Ledger.Owner a3) (D.Ledger.Fence a3) ((D.Ledger.Seen a3) ++ ((D.Op.ID a1) :: [])) (D.Ledger.Calls a3)) a1 (max (D.Ledger.Now a0) (D.Op.At a1))) fun (a5, a6) =>
 (some (a5, a6))))))))) fun J7 =>
 (optc (r31_Check fu p0) fun a8 =>
 (cnd a8
 (optc (r31_Valid fu p1) fun a9 =>
 (cnd a9
 (J7 ((), (p0, (p1, ((D.Ledger.mk 0 (D.Config.mk [] [] [] []) (D.Book.mk [] []) [] 0 0 [] []), ())))))
 none))
 none)))
def r31_Apply_g (fu : Nat) : Sig := mkSig [.st .Ledger, .st .Op] [] [.agg [.num .i64, .lst .Zone, .lst .Person, .lst .Calendar, .lst .Schedule, .lst .Team, .lst .Policy, .own 1018020, .num .i64, .num .i64, .own 1018025, .own 1018028], nI] [(1018020, .arr .Page), (1018025, .arr .int), (1018028, .arr .Call)] [] (D.Ledger × Int) (fun q => (((q.1.Now, q.1.Config.Zones, q.1.Config.People, q.1.Config.Calendars, q.1.Config.Schedules, q.1.Book.Teams, q.1.Book.Policies, q.1.Owner, q.1.Fence, ()), q.2, ()), (q.1.Pages, q.1.Seen, q.1.Calls, ()))) (fun x y => r31_Apply fu x.1 x.2.1)
theorem r31_Apply_ok (fu : Nat) : FnOK Tryz.prog 62 (r31_Apply_g fu) :=
 FnOK.intro (ty := ty) (E := envL [(21, 0, r31_Copy_g fu), (25, 0, r25_Has_g fu), (111, 0, r31_Check_g fu), (112, 0, r31_Valid_g fu), (113, 0, r31_apply_0c7c10c11_g fu)]) (fu := fu) (an := .two .go (.two (.join [(2, .one (.ref 1002)), (3, .one (.ref 1003)), (4, .one (.ref 1004))] [(1002, .boxst .Ledger), (1003, .boxst .Op), (1004, .boxst .Ledger)] .go) .go)) (fun a b => ((D.Ledger.mk a.1.1 (D.Config.mk a.1.2.1 a.1.2.2.1 a.1.2.2.2.1 a.1.2.2.2.2.1) (D.Book.mk a.1.2.2.2.2.2.1 a.1.2.2.2.2.2.2.1) b.1 a.1.2.2.2.2.2.2.2.1 a.1.2.2.2.2.2.2.2.2.1 b.2.1 b.2.2.1), a.2.1)) (fun _ _ => rfl) (envL_ok ⟨r31_Copy_ok fu, r25_Has_ok fu, r31_Check_ok fu, r31_Valid_ok fu, r31_apply_0c7c10c11_ok fu, trivial⟩) Tryz.func62 rfl rfl (fun x y => by kernel_rfl)
def audit_Pages_0c7c10c11 (fu : Nat) (p0 : D.Ledger) : Option (List Int) :=
 (iterF (X := ((Int × (Int × Unit)) × ((Int × (List D.Zone × (List D.Person × (List D.Calendar × (List D.Schedule × (List D.Team × (List D.Policy × (Int × (Int × Unit))))))))) × (List D.Page × (List Int × (List D.Call × (List Int × Unit))))))) (fun L0 ((a1, (a2, _)), ((a3, (a4, (a5, (a6, (a7, (a8, (a9, (a10, (a11, _))))))))), (a12, (a13, (a14, (a15, _)))))) =>
 (cnd (decide (a2 < a1))
 (natc a2 fun a16 =>
 (ltc a16 (List.length a12) (optc (GetElem?.getElem? a12 a16) fun a17 =>
 (optc (audit_Steps fu (D.Book.mk a8 a9) a17) fun a18 =>
 (optc (audit_findings_0 fu a15 (D.Page.ID a17) ((!a18) :: [])) fun a19 =>
 (L0 ((a1, ((IntKind.wrap .i64 (a2 + 1)), ())), ((a3, (a4, (a5, (a6, (a7, (a8, (a9, (a10, (a11, ()))))))))), (a12, (a13, (a14, (a19, ()))))))))))))
 (optc (slices_Sort_int_0 fu a15) fun a20 =>
 (chk (List.length a20) (List.length a15) (sameC a12 (D.Ledger.Pages p0) (sameC a13 (D.Ledger.Seen p0) (sameC a14 (D.Ledger.Calls p0) (some a20)))))))) fu (((((List.length (D.Ledger.Pages p0)) : Nat) : Int), (0, ())), (((D.Ledger.Now p0), ((D.Config.Zones (D.Ledger.Config p0)), ((D.Config.People (D.Ledger.Config p0)), ((D.Config.Calendars (D.Ledger.Config p0)), ((D.Config.Schedules (D.Ledger.Config p0)), ((D.Book.Teams (D.Ledger.Book p0)), ((D.Book.Policies (D.Ledger.Book p0)), ((D.Ledger.Owner p0), ((D.Ledger.Fence p0), ()))))))))), ((D.Ledger.Pages p0), ((D.Ledger.Seen p0), ((D.Ledger.Calls p0), ([], ())))))))
def audit_Pages_0c7c10c11_g (fu : Nat) : Sig := mkSig [.agg [.num .i64, .lst .Zone, .lst .Person, .lst .Calendar, .lst .Schedule, .lst .Team, .lst .Policy, .own 101, .num .i64, .num .i64, .own 102, .own 103]] [(101, .arr .Page), (102, .arr .int), (103, .arr .Call)] [.one (.lst .int)] [] [101, 102, 103] (List Int) (fun q => ((q, ()), ())) (fun x y => audit_Pages_0c7c10c11 fu (D.Ledger.mk x.1.1 (D.Config.mk x.1.2.1 x.1.2.2.1 x.1.2.2.2.1 x.1.2.2.2.2.1) (D.Book.mk x.1.2.2.2.2.2.1 x.1.2.2.2.2.2.2.1) y.1 x.1.2.2.2.2.2.2.2.1 x.1.2.2.2.2.2.2.2.2.1 y.2.1 y.2.2.1))
theorem audit_Pages_0c7c10c11_ok (fu : Nat) : FnOK Tryz.prog 20 (audit_Pages_0c7c10c11_g fu) :=
 FnOK.intro (ty := ty) (E := envL [(39, 0, audit_Steps_g fu), (64, 0, audit_findings_0_g fu), (65, 0, slices_Sort_int_0_g fu)]) (fu := fu) (an := .two .go (.two .go (.two (.two .go (.one (.loop [(1, .one (.ref 1001)), (3, .one (.own 2022101)), (7, .one (.own 101)), (8, nI), (9, nI)] [(1001, .box [.num .i64, .lst .Zone, .lst .Person, .lst .Calendar, .lst .Schedule, .lst .Team, .lst .Policy, .own 101, .num .i64, .num .i64, .own 102, .own 103]), (101, .arr .Page), (102, .arr .int), (103, .arr .Call), (2022101, .arr .int)] .go))) .go))) (fun a b => a.1) (fun _ _ => rfl) (envL_ok ⟨audit_Steps_ok fu, audit_findings_0_ok fu, slices_Sort_int_0_ok fu, trivial⟩) Tryz.func20 rfl rfl (fun x y => by kernel_rfl)
def law45_sane (fu : Nat) : Option (Bool) :=
 (optc (made_Roll fu []) fun a0 =>
 (optc (made_Dice_Crew fu a0) fun (a1, a2) =>
 (optc (made_Roll fu (0 :: (0 :: (0 :: (0 :: (0 :: (0 :: []))))))) fun a3 =>
 (optc (made_Dice_Book fu a3) fun (a4, a5) =>
 (optc (r31_New fu a1 a4) fun (a6, a7) =>
 (optc (r31_Apply fu a6 (D.Op.mk 1 1 0 0 864000 4 0 0 0 (D.Answer.mk 0 0 0 0 0 0) (D.Edit.mk 0 0 0 0 0))) fun (a8, a9) =>
 (join (Y := (Unit × ((Int × (List D.Zone × (List D.Person × (List D.Calendar × (List D.Schedule × (List D.Team × (List D.Policy × (Int × (Int × Unit))))))))) × (List D.Page × (List Int × (List D.Call × Unit)))))) (fun (_, ((a10, (a11, (a12, (a13, (a14, (a15, (a16, (a17, (a18, _))))))))), (a19, (a20, (a21, _))))) =>
 (join (Y := ((Bool × Unit) × ((Int × (List D.Zone × (List D.Person × (List D.Calendar × (List D.Schedule × (List D.Team × (List D.Policy × (Int × (Int × Unit))))))))) × (List D.Page × (List Int × (List D.Call × Unit)))))) (fun ((a22, _), ((a23, (a24, (a25, (a26, (a27, (a28, (a29, (a30, (a31, _))))))))), (a32, (a33, (a34, _))))) =>
 (natc 0 fun a35 =>
 (ltc a35 (List.length a32) (optc (GetElem?.getElem? a32 a35) fun a36 =>
 (natc 0 fun a37 =>
 (ltc a37 (List.length (List.set a32 a35 (D.Page.mk (D.Page.ID a36) (D.Page.Policy a36) (D.Page.Start a36) (D.Page.Next a36) (D.Page.Due a36) (D.Page.State a36) (D.Page.By a36) (D.Page.Until a36) (D.Page.Last a36) (D.Page.Snoozes a36) (D.Page.Hands a36) ((D.Start.mk 0 864000 []) :: ((D.Start.mk 2 864000 []) :: [])) (D.Page.Declined a36) (D.Page.Seen a36)))) (optc (GetElem?.getElem? (List.set a32 a35 (D.Page.mk (D.Page.ID a36) (D.Page.Policy a36) (D.Page.Start a36) (D.Page.Next a36) (D.Page.Due a36) (D.Page.State a36) (D.Page.By a36) (D.Page.Until a36) (D.Page.Last a36) (D.Page.Snoozes a36) (D.Page.Hands a36) ((D.Start.mk 0 864000 []) :: ((D.Start.mk 2 864000 []) :: [])) (D.Page.Declined a36) (D.Page.Seen a36))) a37) fun a38 =>
 (cnd a22
 (optc (audit_Pages_0c7c10c11 fu (D.Ledger.mk a23 (D.Config.mk a24 a25 a26 a27) (D.Book.mk a28 a29) (List.set (List.set a32 a35 (D.Page.mk (D.Page.ID a36) (D.Page.Policy a36) (D.Page.Start a36) (D.Page.Next a36) (D.Page.Due a36) (D.Page.State a36) (D.Page.By a36) (D.Page.Until a36) (D.Page.Last a36) (D.Page.Snoozes a36) (D.Page.Hands a36) ((D.Start.mk 0 864000 []) :: ((D.Start.mk 2 864000 []) :: [])) (D.Page.Declined a36) (D.Page.Seen a36))) a37 (D.Page.mk (D.Page.ID a38) (D.Page.Policy a38) (D.Page.Start a38) 1 (D.Page.Due a38) (D.Page.State a38) (D.Page.By a38) (D.Page.Until a38) (D.Page.Last a38) (D.Page.Snoozes a38) (D.Page.Hands a38) (D.Page.Starts a38) (D.Page.Declined a38) (D.Page.Seen a38))) a30 a31 a33 a34)) fun a39 =>
 (optc (r25_Same fu a39 (4 :: [])) fun a40 =>
 (cnd a40
 (some true)
 (some false))))
 (some false))))))))) fun J41 =>
 (optc (audit_Pages_0c7c10c11 fu (D.Ledger.mk a10 (D.Config.mk a11 a12 a13 a14) (D.Book.mk a15 a16) a19 a17 a18 a20 a21)) fun a42 =>
 (cnd (decide ((((List.length a42) : Nat) : Int) = 0))
 (natc 0 fun a43 =>
 (ltc a43 (List.length a19) (optc (GetElem?.getElem? a19 a43) fun a44 =>
 (optc (audit_Steps fu (D.Book.mk a15 a16) a44) fun a45 =>
 (cnd a45
 (J41 ((true, ()), ((a10, (a11, (a12, (a13, (a14, (a15, (a16, (a17, (a18, ()))))))))), (a19, (a20, (a21, ()))))))
 (J41 ((false, ()), ((a10, (a11, (a12, (a13, (a14, (a15, (a16, (a17, (a18, ()))))))))), (a19, (a20, (a21, ())))))))))))
 (J41 ((false, ()), ((a10, (a11, (a12, (a13, (a14, (a15, (a16, (a17, (a18, ()))))))))), (a19, (a20, (a21, ())))))))))) fun J46 =>
 (cnd (decide (a9 ≠ 0))
 (some false)
 (cnd (decide ((((List.length (D.Ledger.Pages a8)) : Nat) : Int) ≠ 1))
 (some false)
 (J46 ((), (((D.Ledger.Now a8), ((D.Config.Zones (D.Ledger.Config a8)), ((D.Config.People (D.Ledger.Config a8)), ((D.Config.Calendars (D.Ledger.Config a8)), ((D.Config.Schedules (D.Ledger.Config a8)), ((D.Book.Teams (D.Ledger.Book a8)), ((D.Book.Policies (D.Ledger.Book a8)), ((D.Ledger.Owner a8), ((D.Ledger.Fence a8), ()))))))))), ((D.Ledger.Pages a8), ((D.Ledger.Seen a8), ((D.Ledger.Calls a8), ())))))))))))))))
def law45_sane_g (fu : Nat) : Sig := mkSig [] [] [.one (.boo)] [] [] (Bool) (fun q => ((q, ()), ())) (fun x y => law45_sane fu)
theorem law45_sane_ok (fu : Nat) : FnOK Tryz.prog 16 (law45_sane_g fu) :=
 FnOK.intro (ty := ty) (E := envL [(17, 0, made_Roll_g fu), (20, 0, audit_Pages_0c7c10c11_g fu), (22, 0, r25_Same_g fu), (30, 0, made_Dice_Crew_g fu), (31, 0, made_Dice_Book_g fu), (39, 0, audit_Steps_g fu), (61, 0, r31_New_g fu), (62, 0, r31_Apply_g fu)]) (fu := fu) (an := .two .go (.two .go (.two .go (.two (.join [(1, .one (.ref 1001))] [(1001, .box [.num .i64, .lst .Zone, .lst .Person, .lst .Calendar, .lst .Schedule, .lst .Team, .lst .Policy, .own 2035020, .num .i64, .num .i64, .own 2035025, .own 2035028]), (2035020, .arr .Page), (2035025, .arr .int), (2035028, .arr .Call)] .go) (.two (.join [(1, .one (.ref 1001)), (4, .one (.boo))] [(1001, .box [.num .i64, .lst .Zone, .lst .Person, .lst .Calendar, .lst .Schedule, .lst .Team, .lst .Policy, .own 2035020, .num .i64, .num .i64, .own 2035025, .own 2035028]), (2035020, .arr .Page), (2035025, .arr .int), (2035028, .arr .Call)] .go) .go))))) (fun a b => a.1) (fun _ _ => rfl) (envL_ok ⟨made_Roll_ok fu, audit_Pages_0c7c10c11_ok fu, r25_Same_ok fu, made_Dice_Crew_ok fu, made_Dice_Book_ok fu, audit_Steps_ok fu, r31_New_ok fu, r31_Apply_ok fu, trivial⟩) Tryz.func16 rfl rfl (fun x y => by kernel_rfl)
def slices_Equal_int (fu : Nat) (p0 : List Int) (p1 : List Int) : Option (Bool) :=
 (cnd (decide ((((List.length p0) : Nat) : Int) ≠ (((List.length p1) : Nat) : Int)))
 (some false)
 (iterF (X := ((List Int × (List Int × (Int × (Int × Unit)))) × Unit)) (fun L0 ((a1, (a2, (a3, (a4, _)))), _) =>
 (cnd (decide (a4 < a3))
 (atc a1 a4 fun a5 =>
 (atc a2 a4 fun a6 =>
 (cnd (decide (a5 ≠ a6))
 (some false)
 (L0 ((a1, (a2, (a3, ((IntKind.wrap .i64 (a4 + 1)), ())))), ())))))
 (some true))) fu ((p0, (p1, ((((List.length p0) : Nat) : Int), (0, ())))), ())))
def slices_Equal_int_g (fu : Nat) : Sig := mkSig [.one (.lst .int), .one (.lst .int)] [] [.one (.boo)] [] [] (Bool) (fun q => ((q, ()), ())) (fun x y => slices_Equal_int fu x.1 x.2.1)
theorem slices_Equal_int_ok (fu : Nat) : FnOK Tryz.prog 84 (slices_Equal_int_g fu) :=
 FnOK.intro (ty := ty) (E := envL []) (fu := fu) (an := .two .go (.two .go (.two (.two .go (.one (.loop [(0, .one (.lst .int)), (1, .one (.lst .int)), (12, nI), (13, nI)] [] .go))) .go))) (fun a b => a.1) (fun _ _ => rfl) (envL_ok (l := []) trivial) Tryz.func84 rfl rfl (fun x y => by kernel_rfl)
def audit_Rosters_1 (fu : Nat) (p0 : Int) (p1 : D.Config) (p2 : D.Start) (p3 : D.PolicyStep) : Option (Bool) :=
 (optc (limits_Reachable fu p1 p0 (D.Start.At p2) (D.PolicyStep.Urgent p3)) fun a0 =>
 (sameC p1 p1 (sameC p2 p2 (sameC p3 p3 (some (!a0))))))
def audit_Rosters_1_g (fu : Nat) : Sig := mkSig [nI, .one (.ref 101), .one (.ref 102), .one (.ref 103)] [(101, .boxst .Config), (102, .boxst .Start), (103, .boxst .PolicyStep)] [.one (.boo)] [] [101, 102, 103] (Bool) (fun q => ((q, ()), ())) (fun x y => audit_Rosters_1 fu x.1 y.1 y.2.1 y.2.2.1)
theorem audit_Rosters_1_ok (fu : Nat) : FnOK Tryz.prog 82 (audit_Rosters_1_g fu) :=
 FnOK.intro (ty := ty) (E := envL [(83, 0, limits_Reachable_g fu)]) (fu := fu) (an := .go) (fun a b => a.1) (fun _ _ => rfl) (envL_ok ⟨limits_Reachable_ok fu, trivial⟩) Tryz.func82 rfl rfl (fun x y => by kernel_rfl)
def slices_IndexFunc_int_1Faudit_Rosters_1_0v (fu : Nat) (l0 : Nat) (h0 : Nat) (p0 : List (Int)) (c102 : D.Config) (c103 : D.Start) (c104 : D.PolicyStep) : Option (Int) :=
 (iterF (X := ((Nat × (Nat × (Int × (Int × Unit)))) × (D.Config × (D.Start × (D.PolicyStep × (List Int × Unit)))))) (fun L0 ((a1, (a2, (a3, (a4, _)))), (a5, (a6, (a7, (a8, _))))) =>
 (cnd (decide (a4 < a3))
 (natc a4 fun a9 =>
 (ltc a9 (a2 - a1) (optc (GetElem?.getElem? a8 (a1 + a9)) fun a10 =>
 (optc (audit_Rosters_1 fu a10 a5 a6 a7) fun a11 =>
 (cnd a11
 (sameC a8 p0 (sameC a5 c102 (sameC a6 c103 (sameC a7 c104 (some a4)))))
 (L0 ((a1, (a2, (a3, ((IntKind.wrap .i64 (a4 + 1)), ())))), (a5, (a6, (a7, (a8, ())))))))))))
 (sameC a8 p0 (sameC a5 c102 (sameC a6 c103 (sameC a7 c104 (some (-1)))))))) fu ((l0, (h0, ((((h0 - l0) : Nat) : Int), (0, ())))), (c102, (c103, (c104, (p0, ()))))))
def slices_IndexFunc_int_1Faudit_Rosters_1_0v_g (fu : Nat) : Sig := mkSig [.one (.view 101), .one (.clo 82 [102, 103, 104])] [(101, .arr .int), (102, .boxst .Config), (103, .boxst .Start), (104, .boxst .PolicyStep)] [nI] [] [101, 102, 103, 104] (Int) (fun q => ((q, ()), ())) (fun x y => slices_IndexFunc_int_1Faudit_Rosters_1_0v fu x.1 x.2.1 y.1 y.2.1 y.2.2.1 y.2.2.2.1)
theorem slices_IndexFunc_int_1Faudit_Rosters_1_0v_ok (fu : Nat) : FnOK Tryz.prog 126 (slices_IndexFunc_int_1Faudit_Rosters_1_0v_g fu) :=
 FnOK.intro (ty := ty) (E := envL [(82, 0, audit_Rosters_1_g fu)]) (fu := fu) (an := .two .go (.two (.two .go (.one (.loop [(0, .one (.view 101)), (1, .one (.clo 82 [102, 103, 104])), (7, nI), (8, nI)] [(102, .boxst .Config), (103, .boxst .Start), (104, .boxst .PolicyStep), (101, .arr .int)] .go))) .go)) (fun a b => a.1) (fun _ _ => rfl) (envL_ok ⟨audit_Rosters_1_ok fu, trivial⟩) Tryz.func126 rfl rfl (fun x y => by kernel_rfl)
end
end Go.Proofs.YtfhcigjkfelnfaaGreat
/-
  What functions do, reckoned from their code, and their contracts. Printed by wip/gen/brun.py.
-/
set_option maxRecDepth 100000
set_option linter.unusedVariables false
namespace Go.Proofs.YtfhcigjkfelnfaaGreat
open Go AM
noncomputable section
def slices_DeleteFunc_int_1Faudit_Rosters_1_0v (fu : Nat) (l0 : Nat) (h0 : Nat) (p0 : List (Int)) (c102 : D.Config) (c103 : D.Start) (c104 : D.PolicyStep) : Option (Nat × Nat × List (Int)) :=
 (optc (slices_IndexFunc_int_1Faudit_Rosters_1_0v fu l0 h0 p0 c102 c103 c104) fun a0 =>
 (cnd (decide (a0 = (-1)))
 (sameC c102 c102 (sameC c103 c103 (sameC c104 c104 (some (l0, (h0, p0))))))
 (iterF (X := ((Nat × (Nat × (Int × (Int × Unit)))) × (D.Config × (D.Start × (D.PolicyStep × (List Int × Unit)))))) (fun L1 ((a2, (a3, (a4, (a5, _)))), (a6, (a7, (a8, (a9, _))))) =>
 (cnd (decide (a5 < (((a3 - a2) : Nat) : Int)))
 (join (Y := ((Nat × (Nat × (Int × (Int × Unit)))) × (D.Config × (D.Start × (D.PolicyStep × (List Int × Unit)))))) (fun ((a10, (a11, (a12, (a13, _)))), (a14, (a15, (a16, (a17, _))))) =>
 (L1 ((a10, (a11, (a12, ((IntKind.wrap .i64 (a13 + 1)), ())))), (a14, (a15, (a16, (a17, ()))))))) fun J18 =>
 (natc a5 fun a19 =>
 (ltc a19 (a3 - a2) (optc (GetElem?.getElem? a9 (a2 + a19)) fun a20 =>
 (optc (audit_Rosters_1 fu a20 a6 a7 a8) fun a21 =>
 (cnd (!a21)
 (natc a4 fun a22 =>
 (ltc a22 (a3 - a2) (optc (GetElem?.getElem? a9 (a2 + a22)) fun a23 =>
 (J18 ((a2, (a3, ((IntKind.wrap .i64 (a4 + 1)), (a5, ())))), (a6, (a7, (a8, ((List.set a9 (a2 + a22) a20), ())))))))))
 (J18 ((a2, (a3, (a4, (a5, ())))), (a6, (a7, (a8, (a9, ()))))))))))))
 (natc a4 fun a24 =>
 (ltc a24 (a3 - a2) (lec (a2 + a24) (a2 + (a3 - a2)) (lec (a2 + (a3 - a2)) (List.length a9) (natc a4 fun a25 =>
 (lec a25 (a3 - a2) (sameC a6 c102 (sameC a7 c103 (sameC a8 c104 (some ((a2 + 0), ((a2 + a25), (((List.take (a2 + a24) a9) ++ (List.replicate ((a2 + (a3 - a2)) - (a2 + a24)) 0)) ++ (List.drop (a2 + (a3 - a2)) a9)))))))))))))))) fu ((l0, (h0, (a0, ((IntKind.wrap .i64 (a0 + 1)), ())))), (c102, (c103, (c104, (p0, ()))))))))
def slices_DeleteFunc_int_1Faudit_Rosters_1_0v_g (fu : Nat) : Sig := mkSig [.one (.view 101), .one (.clo 82 [102, 103, 104])] [(101, .arr .int), (102, .boxst .Config), (103, .boxst .Start), (104, .boxst .PolicyStep)] [.one (.view 101)] [(101, .arr .int)] [102, 103, 104] (Nat × Nat × List (Int)) (fun q => ((q.1, q.2.1, ()), (q.2.2, ()))) (fun x y => slices_DeleteFunc_int_1Faudit_Rosters_1_0v fu x.1 x.2.1 y.1 y.2.1 y.2.2.1 y.2.2.2.1)
theorem slices_DeleteFunc_int_1Faudit_Rosters_1_0v_ok (fu : Nat) : FnOK Tryz.prog 76 (slices_DeleteFunc_int_1Faudit_Rosters_1_0v_g fu) :=
 FnOK.intro (ty := ty) (E := envL [(82, 0, audit_Rosters_1_g fu), (126, 0, slices_IndexFunc_int_1Faudit_Rosters_1_0v_g fu)]) (fu := fu) (an := .two .go (.two .go (.two .go (.two (.two .go (.one (.loop [(0, .one (.view 101)), (1, .one (.clo 82 [102, 103, 104])), (5, nI), (6, nI)] [(102, .boxst .Config), (103, .boxst .Start), (104, .boxst .PolicyStep), (101, .arr .int)] (.two .go (.two (.join [(0, .one (.view 101)), (1, .one (.clo 82 [102, 103, 104])), (5, nI), (6, nI)] [(102, .boxst .Config), (103, .boxst .Start), (104, .boxst .PolicyStep), (101, .arr .int)] .go) .go))))) .go)))) (fun a b => (a.1, a.2.1, b.1)) (fun _ _ => rfl) (envL_ok ⟨audit_Rosters_1_ok fu, slices_IndexFunc_int_1Faudit_Rosters_1_0v_ok fu, trivial⟩) Tryz.func76 rfl rfl (fun x y => by kernel_rfl)
def audit_Rosters (fu : Nat) (p0 : D.Config) (p1 : D.Book) (p2 : D.Page) : Option (List Int) :=
 (optc (escalate_Check fu p1 p2) fun a0 =>
 (cnd (!a0)
 (some [])
 (atc (D.Book.Policies p1) (D.Page.Policy p2) fun a1 =>
 (iterF (X := ((List D.Start × (Int × (Int × Unit))) × (D.Config × (D.Book × (D.Policy × (List Int × Unit)))))) (fun L2 ((a3, (a4, (a5, _))), (a6, (a7, (a8, (a9, _))))) =>
 (cnd (decide (a5 < a4))
 (join (Y := ((List D.Start × (Int × (Int × Unit))) × (D.Config × (D.Book × (D.Policy × (List Int × Unit)))))) (fun ((a10, (a11, (a12, _))), (a13, (a14, (a15, (a16, _))))) =>
 (L2 ((a10, (a11, ((IntKind.wrap .i64 (a12 + 1)), ()))), (a13, (a14, (a15, (a16, ()))))))) fun J17 =>
 (atc a3 a5 fun a18 =>
 (optc (policy_Part fu a8 (D.Start.K a18)) fun (a19, (a20, a21)) =>
 (cnd (!a21)
 (J17 ((a3, (a4, (a5, ()))), (a6, (a7, (a8, (a9, ()))))))
 (atc (D.Policy.Steps a8) a19 fun a22 =>
 (optc (policy_People fu a6 a7 (D.PolicyStep.Targets a22) (D.Start.At a18)) fun (a23, (a24, a25)) =>
 (optc (slices_DeleteFunc_int_1Faudit_Rosters_1_0v fu a23 a24 a25 a6 a18 a22) fun (a26, (a27, a28)) =>
 (optc (slices_Equal_int fu (List.drop a26 (List.take a27 a28)) (D.Start.People a18)) fun a29 =>
 (optc (audit_findings_0 fu a9 (D.Start.K a18) ((!a29) :: [])) fun a30 =>
 (J17 ((a3, (a4, (a5, ()))), (a6, (a7, (a8, (a30, ())))))))))))))))
 (some a9))) fu (((D.Page.Starts p2), ((((List.length (D.Page.Starts p2)) : Nat) : Int), (0, ()))), (p0, (p1, (a1, ([], ())))))))))
def audit_Rosters_g (fu : Nat) : Sig := mkSig [.st .Config, .st .Book, .st .Page] [] [.one (.lst .int)] [] [] (List Int) (fun q => ((q, ()), ())) (fun x y => audit_Rosters fu x.1 x.2.1 x.2.2.1)
theorem audit_Rosters_ok (fu : Nat) : FnOK Tryz.prog 38 (audit_Rosters_g fu) :=
 FnOK.intro (ty := ty) (E := envL [(34, 0, policy_People_g fu), (56, 0, escalate_Check_g fu), (64, 0, audit_findings_0_g fu), (76, 0, slices_DeleteFunc_int_1Faudit_Rosters_1_0v_g fu), (81, 0, policy_Part_g fu), (84, 0, slices_Equal_int_g fu)]) (fu := fu) (an := .two .go (.two .go (.two .go (.two .go (.two (.two .go (.one (.loop [(3, .one (.ref 1003)), (4, .one (.ref 1004)), (7, .one (.own 2066101)), (8, .one (.ref 1008)), (27, .one (.lst .Start)), (28, nI), (29, nI)] [(1003, .boxst .Config), (1004, .boxst .Book), (1008, .boxst .Policy), (2066101, .arr .int)] (.two .go (.two .go (.two (.join [(3, .one (.ref 1003)), (4, .one (.ref 1004)), (7, .one (.own 2066101)), (8, .one (.ref 1008)), (27, .one (.lst .Start)), (28, nI), (29, nI)] [(1003, .boxst .Config), (1004, .boxst .Book), (1008, .boxst .Policy), (2066101, .arr .int)] (.one (.two .go (.two .go (.two .go (.two .go (.two .go (.frz [1055024] .go)))))))) .go)))))) .go))))) (fun a b => a.1) (fun _ _ => rfl) (envL_ok ⟨policy_People_ok fu, escalate_Check_ok fu, audit_findings_0_ok fu, slices_DeleteFunc_int_1Faudit_Rosters_1_0v_ok fu, policy_Part_ok fu, slices_Equal_int_ok fu, trivial⟩) Tryz.func38 rfl rfl (fun x y => by kernel_rfl)
def law45_AuditRosters (fu : Nat) (p0 : List Int) : Option (Bool) :=
 (optc (made_Light fu p0) fun a0 =>
 (cnd (!a0)
 (optc (law45_sane fu) fun a1 =>
 (some a1))
 (optc (made_Roll fu p0) fun a2 =>
 (optc (made_Dice_Crew fu a2) fun (a3, a4) =>
 (optc (made_Dice_Book fu a4) fun (a5, a6) =>
 (optc (made_Dice_Page fu a6 a3 a5 6) fun (a7, (a8, a9)) =>
 (optc (audit_Rosters fu a3 a5 a7) fun a10 =>
 (cnd (decide ((((List.length a10) : Nat) : Int) = 0))
 (optc (audit_Steps fu a5 a7) fun a11 =>
 (cnd a11
 (optc (law45_sane fu) fun a12 =>
 (cnd a12
 (some true)
 (some false)))
 (some false)))
 (some false)))))))))
def law45_AuditRosters_g (fu : Nat) : Sig := mkSig [.one (.lst .int)] [] [.one (.boo)] [] [] (Bool) (fun q => ((q, ()), ())) (fun x y => law45_AuditRosters fu x.1)
theorem law45_AuditRosters_ok (fu : Nat) : FnOK Tryz.prog 6 (law45_AuditRosters_g fu) :=
 FnOK.intro (ty := ty) (E := envL [(15, 0, made_Light_g fu), (16, 0, law45_sane_g fu), (17, 0, made_Roll_g fu), (30, 0, made_Dice_Crew_g fu), (31, 0, made_Dice_Book_g fu), (37, 0, made_Dice_Page_g fu), (38, 0, audit_Rosters_g fu), (39, 0, audit_Steps_g fu)]) (fu := fu) (an := .go) (fun a b => a.1) (fun _ _ => rfl) (envL_ok ⟨made_Light_ok fu, law45_sane_ok fu, made_Roll_ok fu, made_Dice_Crew_ok fu, made_Dice_Book_ok fu, made_Dice_Page_ok fu, audit_Rosters_ok fu, audit_Steps_ok fu, trivial⟩) Tryz.func6 rfl rfl (fun x y => by kernel_rfl)
end
end Go.Proofs.YtfhcigjkfelnfaaGreat
/-
  What functions do: all parts.
-/
/-
  What package pagewatchmade makes (dice, targets, books, crews, answers), of what is reckoned of its code.
-/
set_option maxRecDepth 100000
set_option linter.unusedVariables false
set_option linter.unusedSimpArgs false
namespace Go.Proofs.YtfhcigjkfelnfaaGreat
open Go AM
theorem tmod_within {a n : Int} (hn : 1 ≤ n) : -n < a.tmod n ∧ a.tmod n < n := by
  rcases (show a < 0 ∨ 0 ≤ a by omega) with h | h
  · have e : a.tmod n = - ((-a).tmod n) := by rw [Int.neg_tmod, Int.neg_neg]
    rw [e, Int.tmod_eq_emod_of_nonneg (by omega)]
    have h1 := Int.emod_lt_of_pos (-a) (b := n) (by omega)
    have h2 := Int.emod_nonneg (-a) (b := n) (by omega)
    omega
  · rw [Int.tmod_eq_emod_of_nonneg h]
    have h1 := Int.emod_lt_of_pos a (b := n) (by omega)
    have h2 := Int.emod_nonneg a (b := n) (by omega)
    omega
structure DiceOK (L : List Int) (d : D.Dice) : Prop where
  l : d.L = L
  lo : 0 ≤ d.At
  hi : d.At ≤ (L.length : Int)
variable {fu : Nat} {L : List Int}
theorem next_ok {d : D.Dice} {n : Int} (hL : L.length ≤ 500) (hd : DiceOK L d) (hn : n ≤ 1000000) :
    Ok (made_Dice_Next fu d n) fun r => DiceOK L r.2 ∧ 0 ≤ r.1 ∧ (1 ≤ n → r.1 < n) ∧ (n < 1 → r.1 = 0) := by
  unfold made_Dice_Next AM.join
  have h0 := hd.lo
  have h1 := hd.hi
  have hl : ((d.L.length : Nat) : Int) = (L.length : Int) := by rw [hd.l]
  refine Ok.ite (fun h => Ok.s ⟨hd, Int.le_refl _, fun h => by show (0 : Int) < n; omega, fun _ => rfl⟩) fun h2 => Ok.ite (fun h => Ok.s ⟨hd, Int.le_refl _, fun h => by show (0 : Int) < n; omega, fun _ => rfl⟩) fun h3 => ?_
  dsimp only
  refine Ok.at hd.lo (by omega) (Ok.nzc (by omega) ?_)
  have ht := tmod_within (a := nth d.L d.At.toNat) (n := n) (by omega)
  rw [wrap_p (x := d.At + 1) (by omega) (by omega)]
  refine Ok.ite (fun h4 => ?_) (fun h4 => ?_)
  · rw [wrap_p (by omega) (by omega)]
    exact Ok.s ⟨⟨hd.l, by show 0 ≤ d.At + 1; omega, by show d.At + 1 ≤ _; omega⟩, by dsimp only; omega, fun _ => by dsimp only; omega, fun h => by omega⟩
  · exact Ok.s ⟨⟨hd.l, by show 0 ≤ d.At + 1; omega, by show d.At + 1 ≤ _; omega⟩, by dsimp only; omega, fun _ => by dsimp only; omega, fun h => by omega⟩
theorem nx {d : D.Dice} {n : Int} (hL : L.length ≤ 500) (hd : DiceOK L d) (h1 : 1 ≤ n) (hn : n ≤ 1000000) :
    Ok (made_Dice_Next fu d n) fun r => DiceOK L r.2 ∧ 0 ≤ r.1 ∧ r.1 < n := (next_ok hL hd hn).mono fun r h => ⟨h.1, h.2.1, h.2.2.1 h1⟩
theorem one_ok {d : D.Dice} {l : List Int} (hL : L.length ≤ 500) (hd : DiceOK L d) (hl : 1 ≤ l.length) (hl2 : l.length ≤ 1000) :
    Ok (made_Dice_One fu d l) fun r => DiceOK L r.2 ∧ r.1 ∈ l := by
  unfold made_Dice_One
  refine Ok.opt (next_ok hL hd (by omega)) fun ⟨v, d1⟩ ⟨h1, h2, h3, _⟩ => ?_
  have h4 := h3 (by omega)
  dsimp only at h2 h4 ⊢
  exact Ok.at h2 h4 (Ok.s ⟨h1, nth_mem (by omega)⟩)
theorem override_ok {d : D.Dice} (hL : L.length ≤ 500) (hd : DiceOK L d) : Ok (made_Dice_Override fu d) fun r => DiceOK L r.2 ∧ EditOK r.1 := by
  unfold made_Dice_Override
  refine Ok.opt (one_ok hL hd (by simp) (by simp)) fun ⟨a0, d1⟩ ⟨h1, m1⟩ => ?_
  dsimp only at h1 m1 ⊢
  refine Ok.opt (nx hL h1 (by omega) (by omega)) fun ⟨a2, d2⟩ ⟨h2, l2, u2⟩ => ?_
  dsimp only at h2 l2 u2 ⊢
  refine Ok.opt (nx hL h2 (by omega) (by omega)) fun ⟨a4, d3⟩ ⟨h3, l3, u3⟩ => ?_
  dsimp only at h3 l3 u3 ⊢
  refine Ok.opt (one_ok hL h3 (by simp) (by simp)) fun ⟨a6, d4⟩ ⟨h4, m4⟩ => ?_
  dsimp only at h4 m4 ⊢
  simp only [List.mem_cons, List.not_mem_nil, or_false] at m1 m4
  rw [wrap_id (x := 864000 + a0) (by omega), wrap_id (x := 864000 + a0 + a6) (by omega)]
  refine Ok.j (Ok.ite (fun h => ?_) (fun h => Ok.ite (fun h' => ?_) (fun h' => ?_)))
  · refine Ok.opt (nx hL h4 (by omega) (by omega)) fun ⟨a7, d5⟩ ⟨h5, l5, u5⟩ => ?_
    dsimp only at h5 l5 u5 ⊢
    rw [wrap_id (x := a4 + 1) (by omega), wrap_id (x := a4 + 1 + a7) (by omega), Int.tmod_eq_emod_of_nonneg (by omega)]
    exact Ok.nzc (by omega) (Ok.s ⟨h5, ⟨by dsimp only; omega, .inl (by dsimp only; omega), fun _ => by dsimp only; omega, fun h => by dsimp only at h; omega, by dsimp only; omega⟩⟩)
  · refine Ok.opt (nx hL h4 (by omega) (by omega)) fun ⟨a7, d5⟩ ⟨h5, l5, u5⟩ => ?_
    dsimp only at h5 l5 u5 ⊢
    rw [wrap_id (x := a7 - 1) (by omega)]
    exact Ok.s ⟨h5, ⟨by dsimp only; omega, by dsimp only; omega, fun h => by dsimp only at h; omega, fun _ => rfl, by dsimp only; omega⟩⟩
  · exact Ok.s ⟨h4, ⟨by dsimp only; omega, .inl (by dsimp only; omega), fun h => by dsimp only at h; omega, fun _ => rfl, by dsimp only; omega⟩⟩
theorem take_snoc' {α : Type} [Inhabited α] {l : List α} {i : Nat} (h : i < l.length) : l.take i ++ [nth l i] = l.take (i + 1) := by
  rw [List.take_succ_eq_append_getElem h]
  simp [nth, List.getD_eq_getElem?_getD, List.getElem?_eq_getElem h]
theorem mem_snoc {α : Type} {P : α → Prop} {l : List α} {x : α} (h : ∀ y ∈ l, P y) (hx : P x) : ∀ y ∈ l ++ [x], P y := fun y hy => by
  rcases List.mem_append.1 hy with hy | hy
  · exact h y hy
  · rw [List.mem_singleton.1 hy]; exact hx
theorem crew_ok {d : D.Dice} (hL : L.length ≤ 500) (hd : DiceOK L d) (hf : 10 ≤ fu) : Ok (made_Dice_Crew fu d) fun r => DiceOK L r.2 ∧ CfgOK 2 r.1 := by
  unfold made_Dice_Crew
  refine Ok.opt (one_ok hL hd (by simp) (by simp)) fun ⟨a0, d1⟩ ⟨h1, m1⟩ => ?_
  dsimp only at h1 m1 ⊢
  simp only [List.mem_cons, List.not_mem_nil, or_false] at m1
  refine Ok.loop (fun m x => x.1.1 = crewNames ∧ 0 ≤ x.1.2.1 ∧ x.1.2.1 ≤ 4 ∧ DiceOK L x.2.1 ∧ x.2.2.2.1.1 = [⟨bZ, a0, []⟩] ∧ x.2.2.2.2.1.map (·.Name) = crewNames.take x.1.2.1.toNat ∧ (∀ p ∈ x.2.2.2.2.1, PersonOK p) ∧ (4 - x.1.2.1).toNat = m) (m := 4) (by omega)
    ⟨rfl, by dsimp only; omega, by dsimp only; omega, h1, rfl, rfl, by simp, rfl⟩ ?_
  rintro m ⟨⟨a3, a4, ⟨⟩⟩, a5, ⟨⟩, ⟨a6, ⟨⟩⟩, a7, ⟨⟩⟩ ⟨i1, i2, i3, i4, i5, i6, i7, i8⟩ k hk
  dsimp only at i1 i2 i3 i4 i5 i6 i7 i8 ⊢
  subst i1; subst i5
  refine Ok.ite (fun h4 => ?_) (fun h4 => ?_)
  · have hlen : crewNames.length = 4 := rfl
    have hal : a7.length = a4.toNat := by have := congrArg List.length i6; rw [List.length_map, List.length_take, hlen] at this; omega
    refine Ok.at (by omega) (by omega) ?_
    refine Ok.opt (nx hL i4 (by omega) (by omega)) fun ⟨a9, d2⟩ ⟨h2, _⟩ => ?_
    dsimp only at h2 ⊢
    refine Ok.join (fun y => y.1.1 = crewNames ∧ y.1.2.1 = a4 ∧ DiceOK L y.2.1 ∧ y.2.2.2.1.1 = [⟨bZ, a0, []⟩] ∧ y.2.2.2.2.1.Name = nth crewNames a4.toNat ∧ PersonOK y.2.2.2.2.1 ∧ y.2.2.2.2.2.1 = a7) (fun y hy => ?_) (fun J hJ => ?_)
    · obtain ⟨⟨a11, a12, ⟨⟩⟩, a13, ⟨⟩, ⟨a14, ⟨⟩⟩, a15, a16, ⟨⟩⟩ := y
      obtain ⟨g1, g2, g3, g4, g5, g6, g7⟩ := hy
      dsimp only at g1 g2 g3 g4 g5 g6 g7 ⊢
      subst g1; subst g2; subst g4; subst g7
      refine Ok.lec (by simp; omega) ?_
      rw [wrap_id (by omega)]
      refine hk (4 - (a12 + 1)).toNat _ (by omega) ⟨rfl, by dsimp only; omega, by dsimp only; omega, g3, rfl, ?_, mem_snoc i7 g6, rfl⟩
      dsimp only
      rw [List.map_append, i6, List.map_cons, List.map_nil, g5, take_snoc' (by rw [hlen]; omega), show (a12 + 1).toNat = a12.toNat + 1 by omega]
    · refine Ok.opt (nx hL h2 (by omega) (by omega)) fun ⟨a18, d3⟩ ⟨h3, _⟩ => ?_
      dsimp only at h3 ⊢
      refine Ok.ite (fun h5 => ?_) (fun h5 => hJ _ ⟨rfl, rfl, h3, rfl, rfl, ⟨rfl, ⟨rfl, rfl⟩, .inl rfl⟩, rfl⟩)
      refine Ok.opt (one_ok hL h3 (by simp) (by simp)) fun ⟨a20, d4⟩ ⟨h6, m6⟩ => ?_
      dsimp only at h6 m6 ⊢
      refine Ok.opt (one_ok hL h6 (by simp) (by simp)) fun ⟨a22, d5⟩ ⟨h7, m7⟩ => ?_
      dsimp only at h7 m7 ⊢
      simp only [List.mem_cons, List.not_mem_nil, or_false] at m6 m7
      exact hJ _ ⟨rfl, rfl, h7, rfl, rfl, ⟨rfl, ⟨rfl, rfl⟩, .inr ⟨a20, a22, rfl, m6, m7⟩⟩, rfl⟩
  · have e4 : a4 = 4 := by omega
    subst e4
    refine Ok.loop (fun m x => 0 ≤ x.1.1 ∧ x.1.1 ≤ 2 ∧ DiceOK L x.2.1 ∧ x.2.2.2.1.1 = [⟨bZ, a0, []⟩] ∧ x.2.2.2.2.1 = a7 ∧ x.2.2.2.2.2.1.map (·.Name) = schNames.take x.1.1.toNat ∧ (∀ s ∈ x.2.2.2.2.2.1, SchedOK 2 s) ∧ (2 - x.1.1).toNat = m) (m := 2) (by omega)
      ⟨by dsimp only; omega, by dsimp only; omega, i4, rfl, rfl, rfl, by simp, rfl⟩ ?_
    rintro m2 ⟨⟨a25, ⟨⟩⟩, a26, ⟨⟩, ⟨a27, ⟨⟩⟩, a28, a29, ⟨⟩⟩ ⟨j1, j2, j3, j4, j5, j6, j7, j8⟩ k2 hk2
    dsimp only at j1 j2 j3 j4 j5 j6 j7 j8 ⊢
    subst j4; subst j5
    refine Ok.ite (fun h5 => ?_) (fun h5 => ?_)
    · have hlen : schNames.length = 2 := rfl
      have hal : a29.length = a25.toNat := by have := congrArg List.length j6; rw [List.length_map, List.length_take, hlen] at this; omega
      refine Ok.opt (one_ok hL j3 (by simp) (by simp)) fun ⟨a30, d2⟩ ⟨h2, m2⟩ => ?_
      dsimp only at h2 m2 ⊢
      refine Ok.opt (one_ok hL h2 (by simp) (by simp)) fun ⟨a32, d3⟩ ⟨h3, m3⟩ => ?_
      dsimp only at h3 m3 ⊢
      refine Ok.opt (one_ok hL h3 (by simp) (by simp)) fun ⟨a34, d4⟩ ⟨h4', m4⟩ => ?_
      dsimp only at h4' m4 ⊢
      refine Ok.opt (nx hL h4' (by omega) (by omega)) fun ⟨a36, d5⟩ ⟨h6, l6, u6⟩ => ?_
      dsimp only at h6 l6 u6 ⊢
      refine Ok.opt (nx hL h6 (by omega) (by omega)) fun ⟨a38, d6⟩ ⟨h7, l7, u7⟩ => ?_
      dsimp only at h7 l7 u7 ⊢
      simp only [List.mem_cons, List.not_mem_nil, or_false] at m2 m3 m4
      rw [wrap_id (x := 1 + a36) (by omega), wrap_id (x := 1 + a38) (by omega)]
      refine Ok.loop (fun m x => x.1.1 = a25 ∧ 0 ≤ x.1.2.1 ∧ DiceOK L x.2.1 ∧ x.2.2.2.1.1 = [⟨bZ, a0, []⟩] ∧ x.2.2.2.2.1 = (ByteArray.mk #[108], 0, a30, a32, a34, 1 + a36, 0, 0, ()) ∧ x.2.2.2.2.2.1 = a28 ∧ x.2.2.2.2.2.2.1 = a29 ∧
        (∀ z ∈ x.2.2.2.2.2.2.2.1, 0 ≤ z ∧ z < 4) ∧ x.1.2.1 + (x.2.2.2.2.2.2.2.1.length : Int) = 1 + a38 ∧ x.1.2.1.toNat = m) (m := (1 + a38).toNat) (by omega) ⟨rfl, by dsimp only; omega, h7, rfl, rfl, rfl, rfl, by simp, by dsimp only; simp, rfl⟩ ?_
      rintro m3' ⟨⟨a41, a42, ⟨⟩⟩, a43, ⟨⟩, ⟨a44, ⟨⟩⟩, ⟨a45, a46, a47, a48, a49, a50, a51, a52, ⟨⟩⟩, a53, a54, a55, ⟨⟩⟩ ⟨n1, n2, n3, n4, n5, n6, n7, n8, n9, n10⟩ k3 hk3
      dsimp only at n1 n2 n3 n4 n5 n6 n7 n8 n9 n10 ⊢
      cases n5; subst n1; subst n4; subst n6; subst n7
      refine Ok.ite (fun h8 => ?_) (fun h8 => ?_)
      · refine Ok.opt (nx hL n3 (by omega) (by omega)) fun ⟨a56, d7⟩ ⟨h9, l9, u9⟩ => ?_
        dsimp only at h9 l9 u9 ⊢
        refine Ok.lec (by simp; omega) ?_
        rw [wrap_id (by omega)]
        exact hk3 (a42 - 1).toNat _ (by omega) ⟨rfl, by dsimp only; omega, h9, rfl, rfl, rfl, rfl, mem_snoc n8 ⟨l9, u9⟩, by dsimp only; rw [List.length_append]; simp only [List.length_cons, List.length_nil]; omega, rfl⟩
      · refine Ok.at (by omega) (by simp only [List.length_cons, List.length_nil]; omega) ?_
        refine Ok.opt (nx hL n3 (by omega) (by omega)) fun ⟨a59, d7⟩ ⟨h9, l9, u9⟩ => ?_
        dsimp only at h9 l9 u9 ⊢
        refine Ok.loop (fun m x => x.1.1 = a41 ∧ 0 ≤ x.1.2.1 ∧ DiceOK L x.2.1 ∧ x.2.2.2.1.1 = [⟨bZ, a0, []⟩] ∧ x.2.2.2.2.1 = (nth schNames a41.toNat, [(⟨ByteArray.mk #[108], 0, ⟨a30, a32⟩, a34, 1 + a36, a55, [], 0, 0⟩ : D.Layer)], ()) ∧ x.2.2.2.2.2.1 = a53 ∧ x.2.2.2.2.2.2.1 = a54 ∧
          (∀ z ∈ x.2.2.2.2.2.2.2.1, EditOK z) ∧ x.1.2.1 + (x.2.2.2.2.2.2.2.1.length : Int) = a59 ∧ x.1.2.1.toNat = m) (m := a59.toNat) (by omega) ⟨rfl, by dsimp only; omega, h9, rfl, rfl, rfl, rfl, by simp, by dsimp only; simp, rfl⟩ ?_
        rintro m4' ⟨⟨a62, a63, ⟨⟩⟩, a64, ⟨⟩, ⟨a65, ⟨⟩⟩, ⟨a66, a67, ⟨⟩⟩, a68, a69, a70, ⟨⟩⟩ ⟨p1, p2, p3, p4, p5, p6, p7, p8, p9, p10⟩ k4 hk4
        dsimp only at p1 p2 p3 p4 p5 p6 p7 p8 p9 p10 ⊢
        cases p5; subst p1; subst p4; subst p6; subst p7
        refine Ok.ite (fun h10 => ?_) (fun h10 => ?_)
        · refine Ok.opt (override_ok hL p3) fun ⟨a71, d8⟩ ⟨h11, e11⟩ => ?_
          dsimp only at h11 e11 ⊢
          refine Ok.lec (by simp; omega) ?_
          rw [wrap_id (by omega)]
          exact hk4 (a63 - 1).toNat _ (by omega) ⟨rfl, by dsimp only; omega, h11, rfl, rfl, rfl, rfl, mem_snoc p8 e11, by dsimp only; rw [List.length_append]; simp only [List.length_cons, List.length_nil]; omega, rfl⟩
        · refine Ok.lec (by simp; omega) ?_
          rw [wrap_id (by omega)]
          refine hk2 (2 - (a62 + 1)).toNat _ (by omega) ⟨by dsimp only; omega, by dsimp only; omega, p3, rfl, rfl, ?_, mem_snoc j7 ⟨⟨_, rfl, ⟨rfl, rfl, m2, by dsimp only; omega, by dsimp only; omega, by dsimp only; omega, by dsimp only; omega, n8, rfl, ⟨rfl, rfl⟩⟩⟩, by dsimp only; omega, p8⟩, rfl⟩
          dsimp only
          rw [List.map_append, j6, List.map_cons, List.map_nil, take_snoc' (by rw [hlen]; omega), show (a62 + 1).toNat = a62.toNat + 1 by omega]
    · have e2 : a25 = 2 := by omega
      subst e2
      exact Ok.s ⟨j3, ⟨⟨a0, rfl, m1⟩, i6, i7, rfl, j6, j7⟩⟩
theorem target_ok {d : D.Dice} {b : D.Book} (hL : L.length ≤ 500) (hd : DiceOK L d) (hb : b.Teams.length ≤ 100) :
    Ok (made_Dice_Target_1c0c1 fu d b) fun r => DiceOK L r.2 ∧ TargetOK b.Teams.length r.1 := by
  unfold made_Dice_Target_1c0c1
  refine Ok.opt (nx hL hd (by omega) (by omega)) fun ⟨v, d1⟩ ⟨h1, h2, h4⟩ => ?_
  dsimp only at h1 h2 h4 ⊢
  refine Ok.join (fun y => 0 ≤ y.1.1 ∧ y.1.1 < 3 ∧ (y.1.1 = 2 → 1 ≤ b.Teams.length) ∧ DiceOK L y.2.1 ∧ y.2.2.2.2.1 = b.Teams ∧ y.2.2.2.2.2.1 = b.Policies) (fun y hy => ?_) (fun J hJ => ?_)
  · obtain ⟨⟨a2, ⟨⟩⟩, d2, ⟨⟩, tg, ts, ps, ⟨⟩⟩ := y
    obtain ⟨g1, g2, g0, g3, g4, g5⟩ := hy
    dsimp only at g1 g2 g0 g3 g4 g5 ⊢
    subst g4; subst g5
    refine Ok.at g1 (by simp; omega) ?_
    have h3 : a2 = 0 ∨ a2 = 1 ∨ a2 = 2 := by omega
    have e : nth [4, 2, ((b.Teams.length : Nat) : Int)] a2.toNat = if a2 = 0 then 4 else if a2 = 1 then 2 else ((b.Teams.length : Nat) : Int) := by rcases h3 with h3 | h3 | h3 <;> subst h3 <;> rfl
    rw [e]
    refine Ok.opt (nx hL g3 (by (repeat' split) <;> omega) (by (repeat' split) <;> omega)) fun ⟨v2, d3⟩ ⟨k1, k2, k3⟩ => ?_
    dsimp only at k1 k2 k3 ⊢
    refine Ok.sameC (Ok.sameC (Ok.s ⟨k1, ⟨h3, k2, fun h => ?_, fun h => ?_, fun h => ?_⟩⟩)) <;> dsimp only at h ⊢ <;> subst h <;> simpa using k3
  · refine Ok.ite (fun h5 => Ok.ite (fun h6 => hJ _ ⟨by dsimp only; omega, by dsimp only; omega, fun h => by dsimp only at h; omega, h1, rfl, rfl⟩) (fun h6 => hJ _ ⟨h2, h4, fun h => by omega, h1, rfl, rfl⟩)) (fun h5 => hJ _ ⟨h2, h4, fun h => absurd h h5, h1, rfl, rfl⟩)
theorem book_ok {d : D.Dice} (hL : L.length ≤ 500) (hd : DiceOK L d) (hf : 10 ≤ fu) :
    Ok (made_Dice_Book fu d) fun r => DiceOK L r.2 ∧ BookOK r.1 := by
  unfold made_Dice_Book
  refine Ok.opt (nx hL hd (by omega) (by omega)) fun ⟨v, d1⟩ ⟨h1, h2, h4⟩ => ?_
  dsimp only at h1 h2 h4 ⊢
  refine Ok.loop (fun m x => DiceOK L x.2.1 ∧ 0 ≤ x.1.1 ∧ x.1.1 + (x.2.2.2.2.1.length : Int) ≤ 2 ∧ x.2.2.2.2.1.map (·.Name) = bTeams.take x.2.2.2.2.1.length ∧ (∀ t ∈ x.2.2.2.2.1, TeamOK t) ∧ x.1.1.toNat = m) (m := v.toNat) (by omega) ⟨h1, h2, by dsimp only; simp; omega, rfl, by simp, rfl⟩ ?_
  rintro m ⟨⟨a3, ⟨⟩⟩, d2, ⟨⟩, ⟨⟩, ts, ⟨⟩⟩ ⟨i1, i2, i3, i5, i6, i4⟩ k hk
  dsimp only at i1 i2 i3 i5 i6 i4 ⊢
  refine Ok.ite (fun h5 => ?_) (fun h5 => ?_)
  · refine Ok.at (by omega) (by simp only [List.length_cons, List.length_nil]; omega) ?_
    refine Ok.opt (nx hL i1 (by omega) (by omega)) fun ⟨v2, d3⟩ ⟨j1, j2, j3⟩ => ?_
    dsimp only at j1 j2 j3 ⊢
    refine Ok.join (fun y => DiceOK L y.2.1 ∧ y.1.1 = a3 ∧ y.2.2.2.2.2.1 = ts ∧ y.2.2.2.2.1.Name = nth bTeams ts.length ∧ TeamOK y.2.2.2.2.1) (fun y hy => ?_) (fun J hJ => ?_)
    · obtain ⟨⟨a9, ⟨⟩⟩, d4, ⟨⟩, ⟨⟩, tm, ts2, ⟨⟩⟩ := y
      obtain ⟨q1, q2, q3, q4, q5⟩ := hy
      dsimp only at q1 q2 q3 q4 q5 ⊢
      subst q2; subst q3
      refine Ok.lec (by simp; omega) ?_
      rw [wrap_p (by omega) (by omega)]
      refine hk (a9 - 1).toNat _ (by omega) ⟨q1, by dsimp only; omega, by dsimp only; rw [List.length_append]; simp only [List.length_cons, List.length_nil]; omega, ?_, mem_snoc i6 q5, rfl⟩
      dsimp only
      rw [List.map_append, i5, List.map_cons, List.map_nil, q4, take_snoc' (by show _ < 2; omega), List.length_append]; rfl
    · refine Ok.opt (nx hL j1 (by omega) (by omega)) fun ⟨v3, d4⟩ ⟨k1, _⟩ => ?_
      dsimp only at k1 ⊢
      refine Ok.ite (fun _ => ?_) (fun _ => hJ _ ⟨k1, rfl, rfl, rfl, ⟨by simp [Asc], by simp, by simp; omega⟩⟩)
      refine Ok.opt (nx hL k1 (by omega) (by omega)) fun ⟨v4, d5⟩ ⟨l1, l2, l3⟩ => ?_
      dsimp only at l1 l2 l3 ⊢
      rw [wrap_id (by omega)]
      exact Ok.lec (by simp) (hJ _ ⟨l1, rfl, rfl, rfl, ⟨by simp [Asc]; omega, by simp, by simp; omega⟩⟩)
  · refine Ok.opt (nx hL i1 (by omega) (by omega)) fun ⟨v2, d3⟩ ⟨j1, j2, j4⟩ => ?_
    dsimp only at j1 j2 j4 ⊢
    rw [wrap_p (by omega) (by omega)]
    refine Ok.loop (fun m x => DiceOK L x.2.1 ∧ 0 ≤ x.1.1 ∧ x.2.2.2.2.1 = ts ∧ x.1.1 + (x.2.2.2.2.2.1.length : Int) = 1 + v2 ∧ x.2.2.2.2.2.1.map (·.Name) = bPols.take x.2.2.2.2.2.1.length ∧ (∀ p ∈ x.2.2.2.2.2.1, PolOK ts.length p) ∧ x.1.1.toNat = m) (m := (1 + v2).toNat) (by omega) ⟨j1, by dsimp only; omega, rfl, by dsimp only; simp, rfl, by simp, rfl⟩ ?_
    rintro m ⟨⟨a21, ⟨⟩⟩, d4, ⟨⟩, ⟨⟩, ts2, ps, ⟨⟩⟩ ⟨n1, n2, n3, n4, n6, n7, n5⟩ k2 hk2
    dsimp only at n1 n2 n3 n4 n5 n6 n7 ⊢
    subst n3
    refine Ok.ite (fun h6 => ?_) (fun h6 => Ok.s ⟨n1, ⟨by dsimp only; omega, i5, i6, by dsimp only; omega, n6, n7⟩⟩)
    refine Ok.at (by omega) (by simp only [List.length_cons, List.length_nil]; omega) ?_
    refine Ok.opt (one_ok hL n1 (by simp) (by simp)) fun ⟨v3, d5⟩ ⟨o1, r1⟩ => ?_
    dsimp only at o1 r1 ⊢
    refine Ok.opt (nx hL o1 (by omega) (by omega)) fun ⟨v4, d6⟩ ⟨o2, o3, o5⟩ => ?_
    dsimp only at o2 o3 o5 ⊢
    simp only [List.mem_cons, List.not_mem_nil, or_false] at r1
    rw [wrap_p (x := 1 + v4) (by omega) (by omega)]
    refine Ok.loop (fun m x => DiceOK L x.2.1 ∧ x.1.1 = a21 ∧ 0 ≤ x.1.2.1 ∧ x.2.2.2.2.1 = (nth bPols ps.length, v3, ()) ∧ x.2.2.2.2.2.1 = ts2 ∧ x.2.2.2.2.2.2.1 = ps ∧ x.1.2.1 + (x.2.2.2.2.2.2.2.1.length : Int) = 1 + v4 ∧ (∀ s ∈ x.2.2.2.2.2.2.2.1, StepOK' ts2.length s) ∧ x.1.2.1.toNat = m) (m := (1 + v4).toNat) (by omega) ⟨o2, rfl, by dsimp only; omega, rfl, rfl, rfl, by dsimp only; simp, by simp, rfl⟩ ?_
    rintro m3 ⟨⟨a31, a32, ⟨⟩⟩, d7, ⟨⟩, ⟨⟩, ⟨nm, rp, ⟨⟩⟩, ts3, ps3, ss, ⟨⟩⟩ ⟨p1, p2, p3, p0, p4, p5, p6, p8, p7⟩ k3 hk3
    dsimp only at p1 p2 p3 p0 p4 p5 p6 p7 p8 ⊢
    cases p0
    subst p2; subst p4; subst p5
    refine Ok.ite (fun h7 => ?_) (fun h7 => ?_)
    · refine Ok.opt (one_ok hL p1 (by simp) (by simp)) fun ⟨v5, d8⟩ ⟨s1, s2⟩ => ?_
      dsimp only at s1 s2 ⊢
      refine Ok.opt (nx hL s1 (by omega) (by omega)) fun ⟨v6, d9⟩ ⟨r2, _⟩ => ?_
      dsimp only at r2 ⊢
      refine Ok.opt (nx hL r2 (by omega) (by omega)) fun ⟨v7, d10⟩ ⟨r3, r4, r6⟩ => ?_
      dsimp only at r3 r4 r6 ⊢
      simp only [List.mem_cons, List.not_mem_nil, or_false] at s2
      refine Ok.loop (fun m x => DiceOK L x.2.1 ∧ x.1.1 = a31 ∧ x.1.2.1 = a32 ∧ 0 ≤ x.1.2.2.1 ∧ x.2.2.2.2.1 = (nth bPols ps3.length, v3, ()) ∧ x.2.2.2.2.2.1 = (v5, decide (v6 = 0), ()) ∧ x.2.2.2.2.2.2.1 = ts3 ∧ x.2.2.2.2.2.2.2.1 = ps3 ∧ x.2.2.2.2.2.2.2.2.1 = ss ∧ x.1.2.2.1 + (x.2.2.2.2.2.2.2.2.2.1.length : Int) ≤ 2 ∧ (∀ t ∈ x.2.2.2.2.2.2.2.2.2.1, TargetOK ts3.length t) ∧ x.1.2.2.1.toNat = m) (m := v7.toNat) (by omega) ⟨r3, rfl, rfl, by dsimp only; omega, rfl, rfl, rfl, rfl, rfl, by dsimp only; simp; omega, by simp, rfl⟩ ?_
      rintro m4 ⟨⟨a46, a47, a48, ⟨⟩⟩, d11, ⟨⟩, ⟨⟩, ⟨nm2, rp2, ⟨⟩⟩, ⟨wt, ur, ⟨⟩⟩, ts4, ps4, ss4, tg, ⟨⟩⟩ ⟨u1, u2, u3, u4, w1, w2, u5, u6, u7, u8, w3, u9⟩ k4 hk4
      dsimp only at u1 u2 u3 u4 u5 u6 u7 u8 u9 w1 w2 w3 ⊢
      cases w1; cases w2
      subst u2; subst u3; subst u5; subst u6; subst u7
      refine Ok.ite (fun h8 => ?_) (fun h8 => ?_)
      · refine Ok.opt (target_ok hL u1 (by dsimp only; omega)) fun ⟨v8, d12⟩ ⟨x1, x2⟩ => ?_
        dsimp only at x1 x2 ⊢
        refine Ok.lec (by simp; omega) ?_
        rw [wrap_p (by omega) (by omega)]
        exact hk4 (a48 - 1).toNat _ (by omega) ⟨x1, rfl, rfl, by dsimp only; omega, rfl, rfl, rfl, rfl, rfl, by dsimp only; rw [List.length_append]; simp only [List.length_cons, List.length_nil]; omega, mem_snoc w3 x2, rfl⟩
      · refine Ok.lec (by simp; omega) ?_
        rw [wrap_p (by omega) (by omega)]
        exact hk3 (a47 - 1).toNat _ (by omega) ⟨u1, rfl, by dsimp only; omega, rfl, rfl, rfl, by dsimp only; rw [List.length_append]; simp only [List.length_cons, List.length_nil]; omega, mem_snoc p8 ⟨by dsimp only; omega, by dsimp only; omega, w3⟩, rfl⟩
    · refine Ok.lec (by simp; omega) ?_
      rw [wrap_p (by omega) (by omega)]
      refine hk2 (a31 - 1).toNat _ (by omega) ⟨p1, by dsimp only; omega, rfl, by dsimp only; rw [List.length_append]; simp only [List.length_cons, List.length_nil]; omega, ?_, mem_snoc n7 ⟨by dsimp only; omega, by dsimp only; omega, p8⟩, rfl⟩
      dsimp only
      rw [List.map_append, n6, List.map_cons, List.map_nil, take_snoc' (by show _ < 3; omega), List.length_append]; rfl
end Go.Proofs.YtfhcigjkfelnfaaGreat
