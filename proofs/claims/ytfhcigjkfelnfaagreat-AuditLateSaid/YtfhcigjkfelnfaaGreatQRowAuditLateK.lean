/-
  What functions do, reckoned from their code, and their contracts. Printed by wip/gen/brun.py.
-/
import Derived.Test.YtfhcigjkfelnfaaGreatQRowAuditLateJ
set_option maxRecDepth 100000
set_option linter.unusedVariables false
namespace Go.Proofs.YtfhcigjkfelnfaaGreat
open Go AM
noncomputable section
def audit_Steps (fu : Nat) (p0 : D.Book) (p1 : D.Page) : Option (Bool) :=
 (optc (escalate_Check fu p0 p1) fun a0 =>
 (cnd (!a0)
 (some false)
 (iterF (X := ((Int × (Int × (List D.Start × (Int × (Int × Unit))))) × (D.Page × Unit))) (fun L1 ((a2, (a3, (a4, (a5, (a6, _))))), (a7, _)) =>
 (cnd (decide (a6 < a5))
 (join (Y := ((Int × (Int × (List D.Start × (Int × (Int × Unit))))) × (D.Page × Unit))) (fun ((a8, (a9, (a10, (a11, (a12, _))))), (a13, _)) =>
 (L1 ((a8, (a9, (a10, (a11, ((IntKind.wrap .i64 (a12 + 1)), ()))))), (a13, ())))) fun J14 =>
 (atc a4 a6 fun a15 =>
 (join (Y := ((Int × (List D.Start × (Int × (Int × Unit)))) × (D.Page × (D.Start × Unit)))) (fun ((a16, (a17, (a18, (a19, _)))), (a20, (a21, _))) =>
 (cnd (decide ((D.Start.K a21) ≠ (-1)))
 (J14 (((IntKind.wrap .i64 (a16 + 1)), ((D.Start.At a21), (a17, (a18, (a19, ()))))), (a20, ())))
 (J14 ((a16, ((D.Start.At a21), (a17, (a18, (a19, ()))))), (a20, ()))))) fun J22 =>
 (cnd (decide ((D.Start.At a15) < a3))
 (some false)
 (cnd (decide (a6 = 0))
 (cnd (decide ((D.Start.At a15) ≠ a3))
 (some false)
 (cnd (decide ((D.Start.K a15) ≠ (-1)))
 (cnd (decide ((D.Start.K a15) ≠ a2))
 (some false)
 (J22 ((a2, (a4, (a5, (a6, ())))), (a7, (a15, ())))))
 (J22 ((a2, (a4, (a5, (a6, ())))), (a7, (a15, ()))))))
 (cnd (decide ((D.Start.K a15) ≠ (-1)))
 (cnd (decide ((D.Start.K a15) ≠ a2))
 (some false)
 (J22 ((a2, (a4, (a5, (a6, ())))), (a7, (a15, ())))))
 (J22 ((a2, (a4, (a5, (a6, ())))), (a7, (a15, ()))))))))))
 (some (decide (a2 = (D.Page.Next a7)))))) fu ((0, ((D.Page.Start p1), ((D.Page.Starts p1), ((((List.length (D.Page.Starts p1)) : Nat) : Int), (0, ()))))), (p1, ())))))
def audit_Steps_g (fu : Nat) : Sig := mkSig [.st .Book, .st .Page] [] [.one (.boo)] [] [] (Bool) (fun q => ((q, ()), ())) (fun x y => audit_Steps fu x.1 x.2.1)
theorem audit_Steps_ok (fu : Nat) : FnOK Tryz.prog 39 (audit_Steps_g fu) :=
 FnOK.intro (ty := ty) (E := envL [(56, 0, escalate_Check_g fu)]) (fu := fu) (an := .two .go (.two .go (.two .go (.two (.two .go (.one (.loop [(3, .one (.ref 1003)), (5, nI), (6, nI), (16, .one (.lst .Start)), (17, nI), (18, nI)] [(1003, .boxst .Page)] (.two .go (.two .go (.two (.join [(3, .one (.ref 1003)), (5, nI), (6, nI), (16, .one (.lst .Start)), (17, nI), (18, nI)] [(1003, .boxst .Page)] (.one (.two .go (.two (.join [(3, .one (.ref 1003)), (5, nI), (8, .one (.ref 1008)), (16, .one (.lst .Start)), (17, nI), (18, nI)] [(1003, .boxst .Page), (1008, .boxst .Start)] .go) .go)))) .go)))))) .go)))) (fun a b => a.1) (fun _ _ => rfl) (envL_ok ⟨escalate_Check_ok fu, trivial⟩) Tryz.func39 rfl rfl (fun x y => by kernel_rfl)
def audit_findings_0 (fu : Nat) (p0 : List (Int)) (p1 : Int) (p2 : List Bool) : Option (List (Int)) :=
 (iterF (X := ((Int × (List Bool × (Int × (Int × Unit)))) × (List Int × Unit))) (fun L0 ((a1, (a2, (a3, (a4, _)))), (a5, _)) =>
 (cnd (decide (a4 < a3))
 (join (Y := ((Int × (List Bool × (Int × (Int × Unit)))) × (List Int × Unit))) (fun ((a6, (a7, (a8, (a9, _)))), (a10, _)) =>
 (L0 ((a6, (a7, (a8, ((IntKind.wrap .i64 (a9 + 1)), ())))), (a10, ())))) fun J11 =>
 (atc a2 a4 fun a12 =>
 (cnd a12
 (lec ((List.length a5) + (List.length (a1 :: []))) 34359738368 (J11 ((a1, (a2, (a3, (a4, ())))), ((a5 ++ (a1 :: [])), ()))))
 (J11 ((a1, (a2, (a3, (a4, ())))), (a5, ()))))))
 (some a5))) fu ((p1, (p2, ((((List.length p2) : Nat) : Int), (0, ())))), (p0, ())))
def audit_findings_0_g (fu : Nat) : Sig := mkSig [.one (.own 101), nI, .one (.lst .bool)] [(101, .arr .int)] [.one (.own 101)] [(101, .arr .int)] [] (List (Int)) (fun q => ((), (q, ()))) (fun x y => audit_findings_0 fu y.1 x.1 x.2.1)
theorem audit_findings_0_ok (fu : Nat) : FnOK Tryz.prog 64 (audit_findings_0_g fu) :=
 FnOK.intro (ty := ty) (E := envL []) (fu := fu) (an := .two .go (.two (.two .go (.one (.loop [(0, .one (.own 101)), (1, nI), (9, .one (.lst .bool)), (10, nI), (11, nI)] [(101, .arr .int)] (.two .go (.two .go (.two (.join [(0, .one (.own 101)), (1, nI), (9, .one (.lst .bool)), (10, nI), (11, nI)] [(101, .arr .int)] .go) .go)))))) .go)) (fun a b => b.1) (fun _ _ => rfl) (envL_ok (l := []) trivial) Tryz.func64 rfl rfl (fun x y => by kernel_rfl)
def r25_team (fu : Nat) (p0 : D.Config) (p1 : D.Book) (p2 : Int) : Option (Int) :=
 (atc (D.Book.Teams p1) p2 fun a0 =>
 (optc (r06_Name fu (D.Team.Name a0)) fun a1 =>
 (cnd (!a1)
 (some 8)
 (iterF (X := ((Int × (Int × Unit)) × (D.Config × (D.Book × (D.Team × Unit))))) (fun L2 ((a3, (a4, _)), (a5, (a6, (a7, _)))) =>
 (cnd (decide (a4 < a3))
 (atc (D.Book.Teams a6) a4 fun a8 =>
 (cnd (decide ((D.Team.Name a8) = (D.Team.Name a7)))
 (some 4)
 (L2 ((a3, ((IntKind.wrap .i64 (a4 + 1)), ())), (a5, (a6, (a7, ())))))))
 (cnd (decide ((((List.length (D.Team.Members a7)) : Nat) : Int) = 0))
 (some 7)
 (iterF (X := ((Int × Unit) × (D.Config × (D.Team × Unit)))) (fun L9 ((a10, _), (a11, (a12, _))) =>
 (cnd (decide (a10 < (((List.length (D.Team.Members a12)) : Nat) : Int)))
 (atc (D.Team.Members a12) (IntKind.wrap .i64 (a10 - 1)) fun a13 =>
 (atc (D.Team.Members a12) a10 fun a14 =>
 (cnd (decide (a14 ≤ a13))
 (some 6)
 (L9 (((IntKind.wrap .i64 (a10 + 1)), ()), (a11, (a12, ())))))))
 (optc (r25_Set fu (D.Team.Members a12) (((List.length (D.Config.People a11)) : Nat) : Int)) fun a15 =>
 (cnd (!a15)
 (some 3)
 (some 0))))) fu ((1, ()), (a5, (a7, ()))))))) fu ((p2, (0, ())), (p0, (p1, (a0, ()))))))))
def r25_team_g (fu : Nat) : Sig := mkSig [.st .Config, .st .Book, nI] [] [nI] [] [] (Int) (fun q => ((q, ()), ())) (fun x y => r25_team fu x.1 x.2.1 x.2.2.1)
theorem r25_team_ok (fu : Nat) : FnOK Tryz.prog 191 (r25_team_g fu) :=
 FnOK.intro (ty := ty) (E := envL [(95, 0, r25_Set_g fu), (237, 0, r06_Name_g fu)]) (fu := fu) (an := .two .go (.two .go (.two .go (.two (.two .go (.one (.loop [(2, nI), (3, .one (.ref 1003)), (4, .one (.ref 1004)), (7, .one (.ref 1007)), (8, nI)] [(1003, .boxst .Config), (1004, .boxst .Book), (1007, .boxst .Team)] .go))) (.two .go (.two (.two .go (.one (.loop [(3, .one (.ref 1003)), (7, .one (.ref 1007)), (9, nI)] [(1003, .boxst .Config), (1007, .boxst .Team)] .go))) .go)))))) (fun a b => a.1) (fun _ _ => rfl) (envL_ok ⟨r25_Set_ok fu, r06_Name_ok fu, trivial⟩) Tryz.func191 rfl rfl (fun x y => by kernel_rfl)
def r25_targets (fu : Nat) (p0 : D.Config) (p1 : D.Book) (p2 : List D.Target) : Option (Int) :=
 (cnd (decide (6 < (((List.length p2) : Nat) : Int)))
 (some 5)
 (iterF (X := ((List D.Target × (Int × Unit)) × (D.Config × (D.Book × Unit)))) (fun L0 ((a1, (a2, _)), (a3, (a4, _))) =>
 (cnd (decide (a2 < (((List.length a1) : Nat) : Int)))
 (join (Y := ((List D.Target × (Int × Unit)) × (D.Config × (D.Book × Unit)))) (fun ((a5, (a6, _)), (a7, (a8, _))) =>
 (L0 ((a5, ((IntKind.wrap .i64 (a6 + 1)), ())), (a7, (a8, ()))))) fun J9 =>
 (join (Y := ((List D.Target × (Int × (Int × Unit))) × (D.Config × (D.Book × Unit)))) (fun ((a10, (a11, (a12, _))), (a13, (a14, _))) =>
 (atc a10 a11 fun a15 =>
 (cnd (decide ((D.Target.Index a15) < 0))
 (some 3)
 (atc a10 a11 fun a16 =>
 (cnd (decide (a12 ≤ (D.Target.Index a16)))
 (some 3)
 (J9 ((a10, (a11, ())), (a13, (a14, ()))))))))) fun J17 =>
 (atc a1 a2 fun a18 =>
 (cnd (decide ((D.Target.Kind a18) = 0))
 (J17 ((a1, (a2, ((((List.length (D.Config.People a3)) : Nat) : Int), ()))), (a3, (a4, ()))))
 (cnd (decide ((D.Target.Kind a18) = 1))
 (J17 ((a1, (a2, ((((List.length (D.Config.Schedules a3)) : Nat) : Int), ()))), (a3, (a4, ()))))
 (cnd (decide ((D.Target.Kind a18) = 2))
 (J17 ((a1, (a2, ((((List.length (D.Book.Teams a4)) : Nat) : Int), ()))), (a3, (a4, ()))))
 (J17 ((a1, (a2, ((-1), ()))), (a3, (a4, ()))))))))))
 (some 0))) fu ((p2, (0, ())), (p0, (p1, ())))))
def r25_targets_g (fu : Nat) : Sig := mkSig [.st .Config, .st .Book, .one (.lst .Target)] [] [nI] [] [] (Int) (fun q => ((q, ()), ())) (fun x y => r25_targets fu x.1 x.2.1 x.2.2.1)
theorem r25_targets_ok (fu : Nat) : FnOK Tryz.prog 238 (r25_targets_g fu) :=
 FnOK.intro (ty := ty) (E := envL []) (fu := fu) (an := .two .go (.two .go (.two (.two .go (.one (.loop [(2, .one (.lst .Target)), (3, .one (.ref 1003)), (4, .one (.ref 1004)), (7, nI)] [(1003, .boxst .Config), (1004, .boxst .Book)] (.two .go (.two (.join [(2, .one (.lst .Target)), (3, .one (.ref 1003)), (4, .one (.ref 1004)), (7, nI)] [(1003, .boxst .Config), (1004, .boxst .Book)] (.one (.two .go (.two (.join [(2, .one (.lst .Target)), (3, .one (.ref 1003)), (4, .one (.ref 1004)), (7, nI), (8, nI)] [(1003, .boxst .Config), (1004, .boxst .Book)] .go) .go)))) .go))))) .go))) (fun a b => a.1) (fun _ _ => rfl) (envL_ok (l := []) trivial) Tryz.func238 rfl rfl (fun x y => by kernel_rfl)
def r25_policy (fu : Nat) (p0 : D.Config) (p1 : D.Book) (p2 : Int) : Option (Int) :=
 (atc (D.Book.Policies p1) p2 fun a0 =>
 (optc (r06_Name fu (D.Policy.Name a0)) fun a1 =>
 (cnd (!a1)
 (some 8)
 (iterF (X := ((Int × (Int × Unit)) × (D.Config × (D.Book × (D.Policy × Unit))))) (fun L2 ((a3, (a4, _)), (a5, (a6, (a7, _)))) =>
 (cnd (decide (a4 < a3))
 (atc (D.Book.Policies a6) a4 fun a8 =>
 (cnd (decide ((D.Policy.Name a8) = (D.Policy.Name a7)))
 (some 4)
 (L2 ((a3, ((IntKind.wrap .i64 (a4 + 1)), ())), (a5, (a6, (a7, ())))))))
 (cnd (decide ((((List.length (D.Policy.Steps a7)) : Nat) : Int) = 0))
 (some 7)
 (cnd (decide (8 < (((List.length (D.Policy.Steps a7)) : Nat) : Int)))
 (some 5)
 (optc (r25_In fu (D.Policy.Repeat a7) 0 8) fun a9 =>
 (cnd (!a9)
 (some 1)
 (iterF (X := ((Int × Unit) × (D.Config × (D.Book × (D.Policy × Unit))))) (fun L10 ((a11, _), (a12, (a13, (a14, _)))) =>
 (cnd (decide (a11 < (((List.length (D.Policy.Steps a14)) : Nat) : Int)))
 (atc (D.Policy.Steps a14) a11 fun a15 =>
 (optc (r25_In fu (D.PolicyStep.Wait a15) 0 86400) fun a16 =>
 (cnd (!a16)
 (some 1)
 (atc (D.Policy.Steps a14) a11 fun a17 =>
 (optc (r25_targets fu a12 a13 (D.PolicyStep.Targets a17)) fun a18 =>
 (cnd (decide (a18 ≠ 0))
 (some a18)
 (L10 (((IntKind.wrap .i64 (a11 + 1)), ()), (a12, (a13, (a14, ())))))))))))
 (some 0))) fu ((0, ()), (a5, (a6, (a7, ()))))))))))) fu ((p2, (0, ())), (p0, (p1, (a0, ()))))))))
def r25_policy_g (fu : Nat) : Sig := mkSig [.st .Config, .st .Book, nI] [] [nI] [] [] (Int) (fun q => ((q, ()), ())) (fun x y => r25_policy fu x.1 x.2.1 x.2.2.1)
theorem r25_policy_ok (fu : Nat) : FnOK Tryz.prog 192 (r25_policy_g fu) :=
 FnOK.intro (ty := ty) (E := envL [(67, 0, r25_In_g fu), (237, 0, r06_Name_g fu), (238, 0, r25_targets_g fu)]) (fu := fu) (an := .two .go (.two .go (.two .go (.two (.two .go (.one (.loop [(2, nI), (3, .one (.ref 1003)), (4, .one (.ref 1004)), (7, .one (.ref 1007)), (8, nI)] [(1003, .boxst .Config), (1004, .boxst .Book), (1007, .boxst .Policy)] .go))) (.two .go (.two (.two .go (.one (.loop [(3, .one (.ref 1003)), (4, .one (.ref 1004)), (7, .one (.ref 1007)), (9, nI)] [(1003, .boxst .Config), (1004, .boxst .Book), (1007, .boxst .Policy)] .go))) .go)))))) (fun a b => a.1) (fun _ _ => rfl) (envL_ok ⟨r25_In_ok fu, r06_Name_ok fu, r25_targets_ok fu, trivial⟩) Tryz.func192 rfl rfl (fun x y => by kernel_rfl)
def r25_book (fu : Nat) (p0 : D.Config) (p1 : D.Book) : Option (Int) :=
 (join (Y := (Unit × (D.Config × (D.Book × Unit)))) (fun (_, (a0, (a1, _))) =>
 (iterF (X := ((Int × Unit) × (D.Config × (D.Book × Unit)))) (fun L2 ((a3, _), (a4, (a5, _))) =>
 (cnd (decide (a3 < (((List.length (D.Book.Teams a5)) : Nat) : Int)))
 (optc (r25_team fu a4 a5 a3) fun a6 =>
 (cnd (decide (a6 ≠ 0))
 (some a6)
 (L2 (((IntKind.wrap .i64 (a3 + 1)), ()), (a4, (a5, ()))))))
 (iterF (X := ((Int × Unit) × (D.Config × (D.Book × Unit)))) (fun L7 ((a8, _), (a9, (a10, _))) =>
 (cnd (decide (a8 < (((List.length (D.Book.Policies a10)) : Nat) : Int)))
 (optc (r25_policy fu a9 a10 a8) fun a11 =>
 (cnd (decide (a11 ≠ 0))
 (some a11)
 (L7 (((IntKind.wrap .i64 (a8 + 1)), ()), (a9, (a10, ()))))))
 (some 0))) fu ((0, ()), (a4, (a5, ())))))) fu ((0, ()), (a0, (a1, ()))))) fun J12 =>
 (cnd (decide (8 < (((List.length (D.Book.Teams p1)) : Nat) : Int)))
 (some 5)
 (cnd (decide (12 < (((List.length (D.Book.Policies p1)) : Nat) : Int)))
 (some 5)
 (J12 ((), (p0, (p1, ())))))))
def r25_book_g (fu : Nat) : Sig := mkSig [.st .Config, .st .Book] [] [nI] [] [] (Int) (fun q => ((q, ()), ())) (fun x y => r25_book fu x.1 x.2.1)
theorem r25_book_ok (fu : Nat) : FnOK Tryz.prog 147 (r25_book_g fu) :=
 FnOK.intro (ty := ty) (E := envL [(191, 0, r25_team_g fu), (192, 0, r25_policy_g fu)]) (fu := fu) (an := .two .go (.two (.join [(2, .one (.ref 1002)), (3, .one (.ref 1003))] [(1002, .boxst .Config), (1003, .boxst .Book)] .go) (.two (.two .go (.one (.loop [(2, .one (.ref 1002)), (3, .one (.ref 1003)), (5, nI)] [(1002, .boxst .Config), (1003, .boxst .Book)] .go))) (.two (.two .go (.one (.loop [(2, .one (.ref 1002)), (3, .one (.ref 1003)), (7, nI)] [(1002, .boxst .Config), (1003, .boxst .Book)] .go))) .go)))) (fun a b => a.1) (fun _ _ => rfl) (envL_ok ⟨r25_team_ok fu, r25_policy_ok fu, trivial⟩) Tryz.func147 rfl rfl (fun x y => by kernel_rfl)
def r25_Check (fu : Nat) (p0 : D.Config) (p1 : D.Book) : Option (Int) :=
 (optc (r08_Check fu p0) fun a0 =>
 (cnd (decide (a0 ≠ 0))
 (some 8)
 (optc (r25_book fu p0 p1) fun a1 =>
 (some a1))))
def r25_Check_g (fu : Nat) : Sig := mkSig [.st .Config, .st .Book] [] [nI] [] [] (Int) (fun q => ((q, ()), ())) (fun x y => r25_Check fu x.1 x.2.1)
theorem r25_Check_ok (fu : Nat) : FnOK Tryz.prog 110 (r25_Check_g fu) :=
 FnOK.intro (ty := ty) (E := envL [(141, 0, r08_Check_g fu), (147, 0, r25_book_g fu)]) (fu := fu) (an := .go) (fun a b => a.1) (fun _ _ => rfl) (envL_ok ⟨r08_Check_ok fu, r25_book_ok fu, trivial⟩) Tryz.func110 rfl rfl (fun x y => by kernel_rfl)
def r31_New (fu : Nat) (p0 : D.Config) (p1 : D.Book) : Option (D.Ledger × Int) :=
 (optc (r25_Check fu p0 p1) fun a0 =>
 (cnd (decide (a0 ≠ 0))
 (some ((D.Ledger.mk 0 (D.Config.mk [] [] [] []) (D.Book.mk [] []) [] 0 0 [] []), a0))
 (some ((D.Ledger.mk 0 p0 p1 [] (-1) 0 [] []), 0))))
def r31_New_g (fu : Nat) : Sig := mkSig [.st .Config, .st .Book] [] [.st .Ledger, nI] [] [] (D.Ledger × Int) (fun q => ((q.1, q.2, ()), ())) (fun x y => r31_New fu x.1 x.2.1)
theorem r31_New_ok (fu : Nat) : FnOK Tryz.prog 61 (r31_New_g fu) :=
 FnOK.intro (ty := ty) (E := envL [(110, 0, r25_Check_g fu)]) (fu := fu) (an := .go) (fun a b => (a.1, a.2.1)) (fun _ _ => rfl) (envL_ok ⟨r25_Check_ok fu, trivial⟩) Tryz.func61 rfl rfl (fun x y => by kernel_rfl)
def r31_Copy (fu : Nat) (p0 : D.Ledger) : Option (D.Ledger) :=
 (iterF (X := ((Int × Unit) × (D.Ledger × (D.Ledger × (List D.Page × Unit))))) (fun L0 ((a1, _), (a2, (a3, (a4, _)))) =>
 (cnd (decide (a1 < (((List.length (D.Ledger.Pages a2)) : Nat) : Int)))
 (atc (D.Ledger.Pages a2) a1 fun a5 =>
 (optc (r29_Copy fu a5) fun a6 =>
 (lec ((List.length a4) + (List.length (a6 :: []))) 34359738368 (L0 (((IntKind.wrap .i64 (a1 + 1)), ()), (a2, (a3, ((a4 ++ (a6 :: [])), ()))))))))
 (lec (List.length (D.Ledger.Seen a2)) 34359738368 (lec (List.length (D.Ledger.Calls a2)) 34359738368 (some (D.Ledger.mk (D.Ledger.Now a2) (D.Ledger.Config a2) (D.Ledger.Book a2) a4 (D.Ledger.Owner a2) (D.Ledger.Fence a2) (D.Ledger.Seen a2) (D.Ledger.Calls a2))))))) fu ((0, ()), (p0, ((D.Ledger.mk 0 (D.Config.mk [] [] [] []) (D.Book.mk [] []) [] 0 0 [] []), ([], ())))))
def r31_Copy_g (fu : Nat) : Sig := mkSig [.st .Ledger] [] [.agg [.num .i64, .lst .Zone, .lst .Person, .lst .Calendar, .lst .Schedule, .lst .Team, .lst .Policy, .own 1020, .num .i64, .num .i64, .own 1025, .own 1028]] [(1020, .arr .Page), (1025, .arr .int), (1028, .arr .Call)] [] (D.Ledger) (fun q => (((q.Now, q.Config.Zones, q.Config.People, q.Config.Calendars, q.Config.Schedules, q.Book.Teams, q.Book.Policies, q.Owner, q.Fence, ()), ()), (q.Pages, q.Seen, q.Calls, ()))) (fun x y => r31_Copy fu x.1)
theorem r31_Copy_ok (fu : Nat) : FnOK Tryz.prog 21 (r31_Copy_g fu) :=
 FnOK.intro (ty := ty) (E := envL [(66, 0, r29_Copy_g fu)]) (fu := fu) (an := .two .go (.two .go (.two (.two .go (.one (.loop [(1, .one (.ref 1001)), (2, .one (.ref 1002)), (3, .one (.own 1020)), (4, nI)] [(1001, .boxst .Ledger), (1002, .boxst .Ledger), (1020, .arr .Page)] .go))) .go))) (fun a b => (D.Ledger.mk a.1.1 (D.Config.mk a.1.2.1 a.1.2.2.1 a.1.2.2.2.1 a.1.2.2.2.2.1) (D.Book.mk a.1.2.2.2.2.2.1 a.1.2.2.2.2.2.2.1) b.1 a.1.2.2.2.2.2.2.2.1 a.1.2.2.2.2.2.2.2.2.1 b.2.1 b.2.2.1)) (fun _ _ => rfl) (envL_ok ⟨r29_Copy_ok fu, trivial⟩) Tryz.func21 rfl rfl (fun x y => by kernel_rfl)
def r31_calls (fu : Nat) (p0 : D.Page) (p1 : Int) (p2 : Int) : Option (List D.Call) :=
 (iterF (X := ((Int × (Int × Unit)) × (D.Page × (List D.Call × Unit)))) (fun L0 ((a1, (a2, _)), (a3, (a4, _))) =>
 (cnd (decide (a2 < (((List.length (D.Page.Starts a3)) : Nat) : Int)))
 (atc (D.Page.Starts a3) a2 fun a5 =>
 (iterF (X := (P3 × (D.Page × (D.Start × (List D.Call × Unit))))) (fun L6 ((a7, (a8, (a9, _))), (a10, (a11, (a12, _)))) =>
 (cnd (decide (a9 < (((List.length (D.Start.People a11)) : Nat) : Int)))
 (atc (D.Start.People a11) a9 fun a13 =>
 (lec ((List.length a12) + (List.length ((D.Call.mk (D.Page.ID a10) (D.Start.K a11) (D.Start.At a11) a13 a7) :: []))) 34359738368 (L6 ((a7, (a8, ((IntKind.wrap .i64 (a9 + 1)), ()))), (a10, (a11, ((a12 ++ ((D.Call.mk (D.Page.ID a10) (D.Start.K a11) (D.Start.At a11) a13 a7) :: [])), ())))))))
 (L0 ((a7, ((IntKind.wrap .i64 (a8 + 1)), ())), (a10, (a12, ())))))) fu ((a1, (a2, (0, ()))), (a3, (a5, (a4, ()))))))
 (some a4))) fu ((p2, (p1, ())), (p0, ([], ()))))
def r31_calls_g (fu : Nat) : Sig := mkSig [.st .Page, nI, nI] [] [.one (.lst .Call)] [] [] (List D.Call) (fun q => ((q, ()), ())) (fun x y => r31_calls fu x.1 x.2.1 x.2.2.1)
theorem r31_calls_ok (fu : Nat) : FnOK Tryz.prog 149 (r31_calls_g fu) :=
 FnOK.intro (ty := ty) (E := envL []) (fu := fu) (an := .two .go (.two .go (.two (.two .go (.one (.loop [(2, nI), (3, .one (.ref 1003)), (7, .one (.own 1046)), (8, nI)] [(1003, .boxst .Page), (1046, .arr .Call)] (.two .go (.two (.one (.two .go (.two .go (.one (.loop [(2, nI), (3, .one (.ref 1003)), (7, .one (.own 1046)), (8, nI), (9, .one (.ref 1009)), (10, nI)] [(1003, .boxst .Page), (1009, .boxst .Start), (1046, .arr .Call)] .go))))) .go))))) .go))) (fun a b => a.1) (fun _ _ => rfl) (envL_ok (l := []) trivial) Tryz.func149 rfl rfl (fun x y => by kernel_rfl)
def r31_told (fu : Nat) (p0 : D.Ledger) (p1 : D.Page) : Option (Bool) :=
 (optc (r31_calls fu p1 0 0) fun a0 =>
 (iterF (X := ((List D.Call × P3) × (D.Ledger × (D.Page × Unit)))) (fun L1 ((a2, (a3, (a4, (a5, _)))), (a6, (a7, _))) =>
 (cnd (decide (a5 < (((List.length (D.Ledger.Calls a6)) : Nat) : Int)))
 (join (Y := ((List D.Call × P3) × (D.Ledger × (D.Page × Unit)))) (fun ((a8, (a9, (a10, (a11, _)))), (a12, (a13, _))) =>
 (L1 ((a8, (a9, (a10, ((IntKind.wrap .i64 (a11 + 1)), ())))), (a12, (a13, ()))))) fun J14 =>
 (atc (D.Ledger.Calls a6) a5 fun a15 =>
 (cnd (decide ((D.Call.Page a15) ≠ (D.Page.ID a7)))
 (J14 ((a2, (a3, (a4, (a5, ())))), (a6, (a7, ()))))
 (join (Y := ((List D.Call × (Int × (Int × Unit))) × (D.Ledger × (D.Page × (D.Call × Unit))))) (fun ((a16, (a17, (a18, _))), (a19, (a20, (a21, _)))) =>
 (atc a16 a17 fun a22 =>
 (cnd (decide (((D.Call.Page a21) :: ((D.Call.K a21) :: ((D.Call.At a21) :: ((D.Call.Person a21) :: (0 :: []))))) ≠ ((D.Call.Page a22) :: ((D.Call.K a22) :: ((D.Call.At a22) :: ((D.Call.Person a22) :: ((D.Call.Fence a22) :: [])))))))
 (some false)
 (J14 ((a16, ((IntKind.wrap .i64 (a17 + 1)), ((D.Call.Fence a21), (a18, ())))), (a19, (a20, ()))))))) fun J23 =>
 (cnd (decide ((((List.length a2) : Nat) : Int) ≤ a3))
 (some false)
 (cnd (decide ((D.Call.Fence a15) < a4))
 (some false)
 (cnd (decide ((D.Ledger.Fence a6) < (D.Call.Fence a15)))
 (some false)
 (J23 ((a2, (a3, (a5, ()))), (a6, (a7, (a15, ()))))))))))))
 (some (decide (a3 = (((List.length a2) : Nat) : Int)))))) fu ((a0, (0, (0, (0, ())))), (p0, (p1, ())))))
def r31_told_g (fu : Nat) : Sig := mkSig [.st .Ledger, .st .Page] [] [.one (.boo)] [] [] (Bool) (fun q => ((q, ()), ())) (fun x y => r31_told fu x.1 x.2.1)
theorem r31_told_ok (fu : Nat) : FnOK Tryz.prog 148 (r31_told_g fu) :=
 FnOK.intro (ty := ty) (E := envL [(149, 0, r31_calls_g fu)]) (fu := fu) (an := .two .go (.two .go (.two .go (.two (.two .go (.one (.loop [(2, .one (.ref 1002)), (3, .one (.ref 1003)), (5, .one (.lst .Call)), (6, nI), (7, nI), (8, nI)] [(1002, .boxst .Ledger), (1003, .boxst .Page)] (.two .go (.two (.join [(2, .one (.ref 1002)), (3, .one (.ref 1003)), (5, .one (.lst .Call)), (6, nI), (7, nI), (8, nI)] [(1002, .boxst .Ledger), (1003, .boxst .Page)] (.one (.two .go (.two .go (.two (.join [(2, .one (.ref 1002)), (3, .one (.ref 1003)), (5, .one (.lst .Call)), (6, nI), (8, nI), (9, .one (.ref 1009))] [(1002, .boxst .Ledger), (1003, .boxst .Page), (1009, .boxst .Call)] .go) .go))))) .go))))) .go)))) (fun a b => a.1) (fun _ _ => rfl) (envL_ok ⟨r31_calls_ok fu, trivial⟩) Tryz.func148 rfl rfl (fun x y => by kernel_rfl)
def r31_Check (fu : Nat) (p0 : D.Ledger) : Option (Bool) :=
 (join (Y := (Unit × (D.Ledger × Unit))) (fun (_, (a0, _)) =>
 (iterF (X := ((Int × (Int × Unit)) × (D.Ledger × Unit))) (fun L1 ((a2, (a3, _)), (a4, _)) =>
 (cnd (decide (a3 < (((List.length (D.Ledger.Pages a4)) : Nat) : Int)))
 (atc (D.Ledger.Pages a4) a3 fun a5 =>
 (join (Y := ((Int × (Int × Unit)) × (D.Ledger × (D.Page × Unit)))) (fun ((a6, (a7, _)), (a8, (a9, _))) =>
 (optc (r31_calls fu a9 0 0) fun a10 =>
 (L1 (((IntKind.wrap .i64 (a6 + (((List.length a10) : Nat) : Int))), ((IntKind.wrap .i64 (a7 + 1)), ())), (a8, ()))))) fun J11 =>
 (cnd (decide (0 < a3))
 (atc (D.Ledger.Pages a4) (IntKind.wrap .i64 (a3 - 1)) fun a12 =>
 (cnd (decide ((D.Page.ID a5) ≤ (D.Page.ID a12)))
 (some false)
 (optc (r29_Check fu (D.Ledger.Book a4) a5) fun a13 =>
 (cnd a13
 (cnd (decide ((D.Ledger.Now a4) < (D.Page.Last a5)))
 (some false)
 (optc (r31_told fu a4 a5) fun a14 =>
 (cnd a14
 (J11 ((a2, (a3, ())), (a4, (a5, ()))))
 (some false))))
 (some false)))))
 (optc (r29_Check fu (D.Ledger.Book a4) a5) fun a15 =>
 (cnd a15
 (cnd (decide ((D.Ledger.Now a4) < (D.Page.Last a5)))
 (some false)
 (optc (r31_told fu a4 a5) fun a16 =>
 (cnd a16
 (J11 ((a2, (a3, ())), (a4, (a5, ()))))
 (some false))))
 (some false))))))
 (iterF (X := ((Int × (Int × Unit)) × (D.Ledger × Unit))) (fun L17 ((a18, (a19, _)), (a20, _)) =>
 (cnd (decide (a19 < (((List.length (D.Ledger.Seen a20)) : Nat) : Int)))
 (join (Y := ((Int × (Int × Unit)) × (D.Ledger × Unit))) (fun ((a21, (a22, _)), (a23, _)) =>
 (L17 ((a21, ((IntKind.wrap .i64 (a22 + 1)), ())), (a23, ())))) fun J24 =>
 (atc (D.Ledger.Seen a20) a19 fun a25 =>
 (optc (r25_In fu a25 1 1099511627776) fun a26 =>
 (cnd a26
 (natc a19 fun a27 =>
 (lec a27 (List.length (D.Ledger.Seen a20)) (atc (D.Ledger.Seen a20) a19 fun a28 =>
 (optc (r25_Has fu (List.take a27 (D.Ledger.Seen a20)) a28) fun a29 =>
 (cnd a29
 (some false)
 (J24 ((a18, (a19, ())), (a20, ()))))))))
 (some false)))))
 (some (decide (a18 = (((List.length (D.Ledger.Calls a20)) : Nat) : Int)))))) fu ((a2, (0, ())), (a4, ()))))) fu ((0, (0, ())), (a0, ())))) fun J30 =>
 (optc (r25_Check fu (D.Ledger.Config p0) (D.Ledger.Book p0)) fun a31 =>
 (cnd (decide (a31 ≠ 0))
 (some false)
 (optc (r25_In fu (D.Ledger.Now p0) 0 8589934592) fun a32 =>
 (cnd a32
 (cnd (decide (64 < (((List.length (D.Ledger.Pages p0)) : Nat) : Int)))
 (some false)
 (optc (r25_In fu (D.Ledger.Owner p0) (-1) 4) fun a33 =>
 (cnd a33
 (optc (r25_In fu (D.Ledger.Fence p0) 0 1048576) fun a34 =>
 (cnd a34
 (cnd (decide (256 < (((List.length (D.Ledger.Seen p0)) : Nat) : Int)))
 (some false)
 (J30 ((), (p0, ()))))
 (some false)))
 (some false))))
 (some false))))))
def r31_Check_g (fu : Nat) : Sig := mkSig [.st .Ledger] [] [.one (.boo)] [] [] (Bool) (fun q => ((q, ()), ())) (fun x y => r31_Check fu x.1)
theorem r31_Check_ok (fu : Nat) : FnOK Tryz.prog 111 (r31_Check_g fu) :=
 FnOK.intro (ty := ty) (E := envL [(25, 0, r25_Has_g fu), (45, 0, r29_Check_g fu), (67, 0, r25_In_g fu), (110, 0, r25_Check_g fu), (148, 0, r31_told_g fu), (149, 0, r31_calls_g fu)]) (fu := fu) (an := .two .go (.two (.join [(1, .one (.ref 1001))] [(1001, .boxst .Ledger)] .go) (.two .go (.two (.two .go (.one (.loop [(1, .one (.ref 1001)), (3, nI), (4, nI)] [(1001, .boxst .Ledger)] (.two .go (.two (.one (.two .go (.two (.join [(1, .one (.ref 1001)), (3, nI), (4, nI), (5, .one (.ref 1005))] [(1001, .boxst .Ledger), (1005, .boxst .Page)] .go) .go))) .go))))) (.two (.two .go (.one (.loop [(1, .one (.ref 1001)), (3, nI), (6, nI)] [(1001, .boxst .Ledger)] (.two .go (.two (.join [(1, .one (.ref 1001)), (3, nI), (6, nI)] [(1001, .boxst .Ledger)] .go) .go))))) .go))))) (fun a b => a.1) (fun _ _ => rfl) (envL_ok ⟨r25_Has_ok fu, r29_Check_ok fu, r25_In_ok fu, r25_Check_ok fu, r31_told_ok fu, r31_calls_ok fu, trivial⟩) Tryz.func111 rfl rfl (fun x y => by kernel_rfl)
def r31_Valid (fu : Nat) (p0 : D.Op) : Option (Bool) :=
 (optc (r25_In fu (D.Op.ID p0) 1 1099511627776) fun a0 =>
 (cnd a0
 (optc (r25_In fu (D.Op.Kind p0) 1 5) fun a1 =>
 (cnd a1
 (optc (r25_In fu (D.Op.Region p0) 0 4) fun a2 =>
 (cnd a2
 (optc (r25_In fu (D.Op.Fence p0) 0 1048576) fun a3 =>
 (cnd a3
 (optc (r25_In fu (D.Op.At p0) 0 8589934592) fun a4 =>
 (cnd a4
 (optc (r25_In fu (D.Op.Page p0) 0 999999) fun a5 =>
 (cnd a5
 (optc (r25_In fu (D.Op.K p0) (-1) 1000) fun a6 =>
 (cnd a6
 (cnd (decide ((D.Op.Kind p0) ≠ 4))
 (some true)
 (optc (r28_Valid fu (D.Op.Answer p0)) fun a7 =>
 (cnd a7
 (some true)
 (some false))))
 (some false)))
 (some false)))
 (some false)))
 (some false)))
 (some false)))
 (some false)))
 (some false)))
def r31_Valid_g (fu : Nat) : Sig := mkSig [.st .Op] [] [.one (.boo)] [] [] (Bool) (fun q => ((q, ()), ())) (fun x y => r31_Valid fu x.1)
theorem r31_Valid_ok (fu : Nat) : FnOK Tryz.prog 112 (r31_Valid_g fu) :=
 FnOK.intro (ty := ty) (E := envL [(67, 0, r25_In_g fu), (108, 0, r28_Valid_g fu)]) (fu := fu) (an := .go) (fun a b => a.1) (fun _ _ => rfl) (envL_ok ⟨r25_In_ok fu, r28_Valid_ok fu, trivial⟩) Tryz.func112 rfl rfl (fun x y => by kernel_rfl)
def r31_Find (fu : Nat) (p0 : D.Ledger) (p1 : Int) : Option (D.Page × Bool) :=
 (iterF (X := ((Int × (Int × Unit)) × (D.Ledger × (D.Page × Unit)))) (fun L0 ((a1, (a2, _)), (a3, (a4, _))) =>
 (cnd (decide (a2 < (((List.length (D.Ledger.Pages a3)) : Nat) : Int)))
 (atc (D.Ledger.Pages a3) a2 fun a5 =>
 (cnd (decide ((D.Page.ID a5) = a1))
 (atc (D.Ledger.Pages a3) a2 fun a6 =>
 (optc (r29_Copy fu a6) fun a7 =>
 (some (a7, true))))
 (L0 ((a1, ((IntKind.wrap .i64 (a2 + 1)), ())), (a3, (a4, ()))))))
 (some ((D.Page.mk 0 0 0 0 0 0 0 0 0 0 0 [] [] []), false)))) fu ((p1, (0, ())), (p0, ((D.Page.mk 0 0 0 0 0 0 0 0 0 0 0 [] [] []), ()))))
def r31_Find_g (fu : Nat) : Sig := mkSig [.st .Ledger, nI] [] [.st .Page, .one (.boo)] [] [] (D.Page × Bool) (fun q => ((q.1, q.2, ()), ())) (fun x y => r31_Find fu x.1 x.2.1)
theorem r31_Find_ok (fu : Nat) : FnOK Tryz.prog 150 (r31_Find_g fu) :=
 FnOK.intro (ty := ty) (E := envL [(66, 0, r29_Copy_g fu)]) (fu := fu) (an := .two .go (.two (.two .go (.one (.loop [(1, nI), (2, .one (.ref 1002)), (4, .one (.ref 1004)), (6, nI)] [(1002, .boxst .Ledger), (1004, .boxst .Page)] .go))) .go)) (fun a b => (a.1, a.2.1)) (fun _ _ => rfl) (envL_ok ⟨r29_Copy_ok fu, trivial⟩) Tryz.func150 rfl rfl (fun x y => by kernel_rfl)
def r13_with (fu : Nat) (p0 : D.Config) (p1 : Int) (p2 : List D.Edit) : Option (D.Config) :=
 (lec (List.length (D.Config.Schedules p0)) 34359738368 (natc p1 fun a0 =>
 (ltc a0 (List.length (D.Config.Schedules p0)) (optc (GetElem?.getElem? (D.Config.Schedules p0) a0) fun a1 =>
 (some (D.Config.mk (D.Config.Zones p0) (D.Config.People p0) (D.Config.Calendars p0) (List.set (D.Config.Schedules p0) a0 (D.Schedule.mk (D.Schedule.Name a1) (D.Schedule.Layers a1) p2))))))))
def r13_with_g (fu : Nat) : Sig := mkSig [.st .Config, nI, .one (.lst .Edit)] [] [.st .Config] [] [] (D.Config) (fun q => ((q, ()), ())) (fun x y => r13_with fu x.1 x.2.1 x.2.2.1)
theorem r13_with_ok (fu : Nat) : FnOK Tryz.prog 194 (r13_with_g fu) :=
 FnOK.intro (ty := ty) (E := envL []) (fu := fu) (an := .go) (fun a b => a.1) (fun _ _ => rfl) (envL_ok (l := []) trivial) Tryz.func194 rfl rfl (fun x y => by kernel_rfl)
def r13_Apply (fu : Nat) (p0 : D.Config) (p1 : Int) (p2 : D.Edit) : Option (D.Config × Int) :=
 (join (Y := ((Int × Unit) × (D.Config × (D.Edit × (D.Config × Unit))))) (fun ((a0, _), (a1, (a2, (a3, _)))) =>
 (atc (D.Config.Schedules a1) a0 fun a4 =>
 (lec (List.length (D.Schedule.Edits a4)) 34359738368 (lec ((List.length (D.Schedule.Edits a4)) + (List.length (a2 :: []))) 34359738368 (optc (r13_with fu a1 a0 ((D.Schedule.Edits a4) ++ (a2 :: []))) fun a5 =>
 (optc (r08_Check fu a5) fun a6 =>
 (cnd (decide (a6 ≠ 0))
 (some ((D.Config.mk [] [] [] []), a6))
 (some (a5, 0))))))))) fun J7 =>
 (optc (r08_Check fu p0) fun a8 =>
 (cnd (decide (a8 ≠ 0))
 (some ((D.Config.mk [] [] [] []), 8))
 (cnd (decide (p1 < 0))
 (some ((D.Config.mk [] [] [] []), 3))
 (cnd (decide ((((List.length (D.Config.Schedules p0)) : Nat) : Int) ≤ p1))
 (some ((D.Config.mk [] [] [] []), 3))
 (J7 ((p1, ()), (p0, (p2, ((D.Config.mk [] [] [] []), ()))))))))))
def r13_Apply_g (fu : Nat) : Sig := mkSig [.st .Config, nI, .st .Edit] [] [.st .Config, nI] [] [] (D.Config × Int) (fun q => ((q.1, q.2, ()), ())) (fun x y => r13_Apply fu x.1 x.2.1 x.2.2.1)
theorem r13_Apply_ok (fu : Nat) : FnOK Tryz.prog 154 (r13_Apply_g fu) :=
 FnOK.intro (ty := ty) (E := envL [(141, 0, r08_Check_g fu), (194, 0, r13_with_g fu)]) (fu := fu) (an := .two .go (.two (.join [(1, nI), (3, .one (.ref 1003)), (5, .one (.ref 1005)), (6, .one (.ref 1006))] [(1003, .boxst .Config), (1005, .boxst .Edit), (1006, .boxst .Config)] .go) .go)) (fun a b => (a.1, a.2.1)) (fun _ _ => rfl) (envL_ok ⟨r08_Check_ok fu, r13_with_ok fu, trivial⟩) Tryz.func154 rfl rfl (fun x y => by kernel_rfl)
def r31_Find_0c7c10c11 (fu : Nat) (p0 : D.Ledger) (p1 : Int) : Option (D.Page × Bool) :=
 (iterF (X := ((Int × (Int × Unit)) × ((Int × (List D.Zone × (List D.Person × (List D.Calendar × (List D.Schedule × (List D.Team × (List D.Policy × (Int × (Int × Unit))))))))) × (D.Page × (List D.Page × (List Int × (List D.Call × Unit))))))) (fun L0 ((a1, (a2, _)), ((a3, (a4, (a5, (a6, (a7, (a8, (a9, (a10, (a11, _))))))))), (a12, (a13, (a14, (a15, _)))))) =>
 (cnd (decide (a2 < (((List.length a13) : Nat) : Int)))
 (natc a2 fun a16 =>
 (ltc a16 (List.length a13) (optc (GetElem?.getElem? a13 a16) fun a17 =>
 (cnd (decide ((D.Page.ID a17) = a1))
 (natc a2 fun a18 =>
 (ltc a18 (List.length a13) (optc (GetElem?.getElem? a13 a18) fun a19 =>
 (optc (r29_Copy fu a19) fun a20 =>
 (sameC a13 (D.Ledger.Pages p0) (sameC a14 (D.Ledger.Seen p0) (sameC a15 (D.Ledger.Calls p0) (some (a20, true)))))))))
 (L0 ((a1, ((IntKind.wrap .i64 (a2 + 1)), ())), ((a3, (a4, (a5, (a6, (a7, (a8, (a9, (a10, (a11, ()))))))))), (a12, (a13, (a14, (a15, ())))))))))))
 (sameC a13 (D.Ledger.Pages p0) (sameC a14 (D.Ledger.Seen p0) (sameC a15 (D.Ledger.Calls p0) (some ((D.Page.mk 0 0 0 0 0 0 0 0 0 0 0 [] [] []), false))))))) fu ((p1, (0, ())), (((D.Ledger.Now p0), ((D.Config.Zones (D.Ledger.Config p0)), ((D.Config.People (D.Ledger.Config p0)), ((D.Config.Calendars (D.Ledger.Config p0)), ((D.Config.Schedules (D.Ledger.Config p0)), ((D.Book.Teams (D.Ledger.Book p0)), ((D.Book.Policies (D.Ledger.Book p0)), ((D.Ledger.Owner p0), ((D.Ledger.Fence p0), ()))))))))), ((D.Page.mk 0 0 0 0 0 0 0 0 0 0 0 [] [] []), ((D.Ledger.Pages p0), ((D.Ledger.Seen p0), ((D.Ledger.Calls p0), ())))))))
def r31_Find_0c7c10c11_g (fu : Nat) : Sig := mkSig [.agg [.num .i64, .lst .Zone, .lst .Person, .lst .Calendar, .lst .Schedule, .lst .Team, .lst .Policy, .own 101, .num .i64, .num .i64, .own 102, .own 103], nI] [(101, .arr .Page), (102, .arr .int), (103, .arr .Call)] [.st .Page, .one (.boo)] [] [101, 102, 103] (D.Page × Bool) (fun q => ((q.1, q.2, ()), ())) (fun x y => r31_Find_0c7c10c11 fu (D.Ledger.mk x.1.1 (D.Config.mk x.1.2.1 x.1.2.2.1 x.1.2.2.2.1 x.1.2.2.2.2.1) (D.Book.mk x.1.2.2.2.2.2.1 x.1.2.2.2.2.2.2.1) y.1 x.1.2.2.2.2.2.2.2.1 x.1.2.2.2.2.2.2.2.2.1 y.2.1 y.2.2.1) x.2.1)
theorem r31_Find_0c7c10c11_ok (fu : Nat) : FnOK Tryz.prog 150 (r31_Find_0c7c10c11_g fu) :=
 FnOK.intro (ty := ty) (E := envL [(66, 0, r29_Copy_g fu)]) (fu := fu) (an := .two .go (.two (.two .go (.one (.loop [(1, nI), (2, .one (.ref 1002)), (4, .one (.ref 1004)), (6, nI)] [(1002, .box [.num .i64, .lst .Zone, .lst .Person, .lst .Calendar, .lst .Schedule, .lst .Team, .lst .Policy, .own 101, .num .i64, .num .i64, .own 102, .own 103]), (1004, .boxst .Page), (101, .arr .Page), (102, .arr .int), (103, .arr .Call)] .go))) .go)) (fun a b => (a.1, a.2.1)) (fun _ _ => rfl) (envL_ok ⟨r29_Copy_ok fu, trivial⟩) Tryz.func150 rfl rfl (fun x y => by kernel_rfl)
def r31_put_0c7c10c11 (fu : Nat) (p0 : D.Ledger) (p1 : D.Page) : Option (D.Ledger) :=
 (iterF (X := ((Int × Unit) × ((Int × (List D.Zone × (List D.Person × (List D.Calendar × (List D.Schedule × (List D.Team × (List D.Policy × (Int × (Int × Unit))))))))) × (D.Page × (D.Ledger × (List D.Page × (List Int × (List D.Call × Unit)))))))) (fun L0 ((a1, _), ((a2, (a3, (a4, (a5, (a6, (a7, (a8, (a9, (a10, _))))))))), (a11, (a12, (a13, (a14, (a15, _))))))) =>
 (cnd (decide (a1 < (((List.length a13) : Nat) : Int)))
 (join (Y := ((Int × Unit) × ((Int × (List D.Zone × (List D.Person × (List D.Calendar × (List D.Schedule × (List D.Team × (List D.Policy × (Int × (Int × Unit))))))))) × (D.Page × (D.Ledger × (List D.Page × (List Int × (List D.Call × Unit)))))))) (fun ((a16, _), ((a17, (a18, (a19, (a20, (a21, (a22, (a23, (a24, (a25, _))))))))), (a26, (a27, (a28, (a29, (a30, _))))))) =>
 (L0 (((IntKind.wrap .i64 (a16 + 1)), ()), ((a17, (a18, (a19, (a20, (a21, (a22, (a23, (a24, (a25, ()))))))))), (a26, (a27, (a28, (a29, (a30, ()))))))))) fun J31 =>
 (natc a1 fun a32 =>
 (ltc a32 (List.length a13) (optc (GetElem?.getElem? a13 a32) fun a33 =>
 (cnd (decide ((D.Page.ID a33) = (D.Page.ID a11)))
 (natc a1 fun a34 =>
 (ltc a34 (List.length a13) (optc (GetElem?.getElem? a13 a34) fun a35 =>
 (optc (r31_calls fu a11 (((List.length (D.Page.Starts a35)) : Nat) : Int) a10) fun a36 =>
 (lec ((List.length a15) + (List.length a36)) 34359738368 (natc a1 fun a37 =>
 (ltc a37 (List.length a13) (optc (GetElem?.getElem? a13 a37) fun a38 =>
 (J31 ((a1, ()), ((a2, (a3, (a4, (a5, (a6, (a7, (a8, (a9, (a10, ()))))))))), (a11, (a12, ((List.set a13 a37 a11), (a14, ((a15 ++ a36), ()))))))))))))))))
 (J31 ((a1, ()), ((a2, (a3, (a4, (a5, (a6, (a7, (a8, (a9, (a10, ()))))))))), (a11, (a12, (a13, (a14, (a15, ())))))))))))))
 (some (D.Ledger.mk a2 (D.Config.mk a3 a4 a5 a6) (D.Book.mk a7 a8) a13 a9 a10 a14 a15)))) fu ((0, ()), (((D.Ledger.Now p0), ((D.Config.Zones (D.Ledger.Config p0)), ((D.Config.People (D.Ledger.Config p0)), ((D.Config.Calendars (D.Ledger.Config p0)), ((D.Config.Schedules (D.Ledger.Config p0)), ((D.Book.Teams (D.Ledger.Book p0)), ((D.Book.Policies (D.Ledger.Book p0)), ((D.Ledger.Owner p0), ((D.Ledger.Fence p0), ()))))))))), (p1, ((D.Ledger.mk 0 (D.Config.mk [] [] [] []) (D.Book.mk [] []) [] 0 0 [] []), ((D.Ledger.Pages p0), ((D.Ledger.Seen p0), ((D.Ledger.Calls p0), ()))))))))
def r31_put_0c7c10c11_g (fu : Nat) : Sig := mkSig [.agg [.num .i64, .lst .Zone, .lst .Person, .lst .Calendar, .lst .Schedule, .lst .Team, .lst .Policy, .own 101, .num .i64, .num .i64, .own 102, .own 103], .st .Page] [(101, .arr .Page), (102, .arr .int), (103, .arr .Call)] [.agg [.num .i64, .lst .Zone, .lst .Person, .lst .Calendar, .lst .Schedule, .lst .Team, .lst .Policy, .own 101, .num .i64, .num .i64, .own 102, .own 103]] [(101, .arr .Page), (102, .arr .int), (103, .arr .Call)] [] (D.Ledger) (fun q => (((q.Now, q.Config.Zones, q.Config.People, q.Config.Calendars, q.Config.Schedules, q.Book.Teams, q.Book.Policies, q.Owner, q.Fence, ()), ()), (q.Pages, q.Seen, q.Calls, ()))) (fun x y => r31_put_0c7c10c11 fu (D.Ledger.mk x.1.1 (D.Config.mk x.1.2.1 x.1.2.2.1 x.1.2.2.2.1 x.1.2.2.2.2.1) (D.Book.mk x.1.2.2.2.2.2.1 x.1.2.2.2.2.2.2.1) y.1 x.1.2.2.2.2.2.2.2.1 x.1.2.2.2.2.2.2.2.2.1 y.2.1 y.2.2.1) x.2.1)
theorem r31_put_0c7c10c11_ok (fu : Nat) : FnOK Tryz.prog 193 (r31_put_0c7c10c11_g fu) :=
 FnOK.intro (ty := ty) (E := envL [(149, 0, r31_calls_g fu)]) (fu := fu) (an := .two .go (.two (.two .go (.one (.loop [(2, .one (.ref 1002)), (3, .one (.ref 1003)), (4, .one (.ref 1004)), (5, nI)] [(1002, .box [.num .i64, .lst .Zone, .lst .Person, .lst .Calendar, .lst .Schedule, .lst .Team, .lst .Policy, .own 101, .num .i64, .num .i64, .own 102, .own 103]), (1003, .boxst .Page), (1004, .boxst .Ledger), (101, .arr .Page), (102, .arr .int), (103, .arr .Call)] (.two .go (.two (.join [(2, .one (.ref 1002)), (3, .one (.ref 1003)), (4, .one (.ref 1004)), (5, nI)] [(1002, .box [.num .i64, .lst .Zone, .lst .Person, .lst .Calendar, .lst .Schedule, .lst .Team, .lst .Policy, .own 101, .num .i64, .num .i64, .own 102, .own 103]), (1003, .boxst .Page), (1004, .boxst .Ledger), (101, .arr .Page), (102, .arr .int), (103, .arr .Call)] .go) .go))))) .go)) (fun a b => (D.Ledger.mk a.1.1 (D.Config.mk a.1.2.1 a.1.2.2.1 a.1.2.2.2.1 a.1.2.2.2.2.1) (D.Book.mk a.1.2.2.2.2.2.1 a.1.2.2.2.2.2.2.1) b.1 a.1.2.2.2.2.2.2.2.1 a.1.2.2.2.2.2.2.2.2.1 b.2.1 b.2.2.1)) (fun _ _ => rfl) (envL_ok ⟨r31_calls_ok fu, trivial⟩) Tryz.func193 rfl rfl (fun x y => by kernel_rfl)
def r31_run_0c7c10c11 (fu : Nat) (p0 : D.Ledger) (p1 : Int) (p2 : Int) : Option (D.Ledger) :=
 (optc (r31_Find_0c7c10c11 fu p0 p1) fun (a0, a1) =>
 (cnd (!a1)
 (some p0)
 (optc (r29_Run fu (D.Ledger.Config p0) (D.Ledger.Book p0) a0 p2) fun (a2, a3) =>
 (cnd (decide (a3 ≠ 0))
 (some p0)
 (optc (r31_put_0c7c10c11 fu p0 a2) fun a4 =>
 (some a4))))))
def r31_run_0c7c10c11_g (fu : Nat) : Sig := mkSig [.agg [.num .i64, .lst .Zone, .lst .Person, .lst .Calendar, .lst .Schedule, .lst .Team, .lst .Policy, .own 101, .num .i64, .num .i64, .own 102, .own 103], nI, nI] [(101, .arr .Page), (102, .arr .int), (103, .arr .Call)] [.agg [.num .i64, .lst .Zone, .lst .Person, .lst .Calendar, .lst .Schedule, .lst .Team, .lst .Policy, .own 101, .num .i64, .num .i64, .own 102, .own 103]] [(101, .arr .Page), (102, .arr .int), (103, .arr .Call)] [] (D.Ledger) (fun q => (((q.Now, q.Config.Zones, q.Config.People, q.Config.Calendars, q.Config.Schedules, q.Book.Teams, q.Book.Policies, q.Owner, q.Fence, ()), ()), (q.Pages, q.Seen, q.Calls, ()))) (fun x y => r31_run_0c7c10c11 fu (D.Ledger.mk x.1.1 (D.Config.mk x.1.2.1 x.1.2.2.1 x.1.2.2.2.1 x.1.2.2.2.2.1) (D.Book.mk x.1.2.2.2.2.2.1 x.1.2.2.2.2.2.2.1) y.1 x.1.2.2.2.2.2.2.2.1 x.1.2.2.2.2.2.2.2.2.1 y.2.1 y.2.2.1) x.2.1 x.2.2.1)
theorem r31_run_0c7c10c11_ok (fu : Nat) : FnOK Tryz.prog 152 (r31_run_0c7c10c11_g fu) :=
 FnOK.intro (ty := ty) (E := envL [(27, 0, r29_Run_g fu), (150, 0, r31_Find_0c7c10c11_g fu), (193, 0, r31_put_0c7c10c11_g fu)]) (fu := fu) (an := .go) (fun a b => (D.Ledger.mk a.1.1 (D.Config.mk a.1.2.1 a.1.2.2.1 a.1.2.2.2.1 a.1.2.2.2.2.1) (D.Book.mk a.1.2.2.2.2.2.1 a.1.2.2.2.2.2.2.1) b.1 a.1.2.2.2.2.2.2.2.1 a.1.2.2.2.2.2.2.2.2.1 b.2.1 b.2.2.1)) (fun _ _ => rfl) (envL_ok ⟨r29_Run_ok fu, r31_Find_0c7c10c11_ok fu, r31_put_0c7c10c11_ok fu, trivial⟩) Tryz.func152 rfl rfl (fun x y => by kernel_rfl)
def r31_open_0c7c10c11 (fu : Nat) (p0 : D.Ledger) (p1 : D.Op) (p2 : Int) (p3 : Bool) : Option (D.Ledger × Int) :=
 (cnd p3
 (some (p0, 4))
 (cnd (decide (64 ≤ (((List.length (D.Ledger.Pages p0)) : Nat) : Int)))
 (some (p0, 5))
 (optc (r29_New fu (D.Ledger.Book p0) (D.Op.Page p1) (D.Op.Policy p1) p2) fun (a0, a1) =>
 (cnd (decide (a1 ≠ 0))
 (some (p0, a1))
 (join (Y := ((Int × (Int × Unit)) × ((Int × (List D.Zone × (List D.Person × (List D.Calendar × (List D.Schedule × (List D.Team × (List D.Policy × (Int × (Int × Unit))))))))) × (D.Ledger × (D.Page × (List D.Page × (List Int × (List D.Call × Unit)))))))) (fun ((a2, (a3, _)), ((a4, (a5, (a6, (a7, (a8, (a9, (a10, (a11, (a12, _))))))))), (a13, (a14, (a15, (a16, (a17, _))))))) =>
 (lec ((List.length a15) + (List.length (a14 :: []))) 34359738368 (natc (IntKind.wrap .i64 (a3 + 1)) fun a18 =>
 (lec a18 (List.length (a15 ++ (a14 :: []))) (natc a3 fun a19 =>
 (lec a19 (List.length (a15 ++ (a14 :: []))) (chk (List.length (a15 ++ (a14 :: []))) (List.length (a15 ++ (a14 :: []))) (chk (List.length (a15 ++ (a14 :: []))) (List.length (a15 ++ (a14 :: []))) (lec a18 (List.length (a15 ++ (a14 :: []))) (lec a19 a18 (natc a3 fun a20 =>
 (ltc a20 (List.length ((List.take a18 (a15 ++ (a14 :: []))) ++ (List.take ((List.length (a15 ++ (a14 :: []))) - a18) (List.drop a19 (a15 ++ (a14 :: [])))))) (optc (GetElem?.getElem? ((List.take a18 (a15 ++ (a14 :: []))) ++ (List.take ((List.length (a15 ++ (a14 :: []))) - a18) (List.drop a19 (a15 ++ (a14 :: []))))) a20) fun a21 =>
 (optc (r31_run_0c7c10c11 fu (D.Ledger.mk a4 (D.Config.mk a5 a6 a7 a8) (D.Book.mk a9 a10) (List.set ((List.take a18 (a15 ++ (a14 :: []))) ++ (List.take ((List.length (a15 ++ (a14 :: []))) - a18) (List.drop a19 (a15 ++ (a14 :: []))))) a20 a14) a11 a12 a16 a17) (D.Page.ID a14) a2) fun a22 =>
 (some (a22, 0)))))))))))))))) fun J23 =>
 (iterF (X := ((Int × (Int × Unit)) × ((Int × (List D.Zone × (List D.Person × (List D.Calendar × (List D.Schedule × (List D.Team × (List D.Policy × (Int × (Int × Unit))))))))) × (D.Ledger × (D.Page × (List D.Page × (List Int × (List D.Call × Unit)))))))) (fun L24 ((a25, (a26, _)), ((a27, (a28, (a29, (a30, (a31, (a32, (a33, (a34, (a35, _))))))))), (a36, (a37, (a38, (a39, (a40, _))))))) =>
 (join (Y := ((Int × (Int × Unit)) × ((Int × (List D.Zone × (List D.Person × (List D.Calendar × (List D.Schedule × (List D.Team × (List D.Policy × (Int × (Int × Unit))))))))) × (D.Ledger × (D.Page × (List D.Page × (List Int × (List D.Call × Unit)))))))) (fun ((a41, (a42, _)), ((a43, (a44, (a45, (a46, (a47, (a48, (a49, (a50, (a51, _))))))))), (a52, (a53, (a54, (a55, (a56, _))))))) =>
 (L24 ((a41, ((IntKind.wrap .i64 (a42 + 1)), ())), ((a43, (a44, (a45, (a46, (a47, (a48, (a49, (a50, (a51, ()))))))))), (a52, (a53, (a54, (a55, (a56, ()))))))))) fun J57 =>
 (cnd (decide (a26 < (((List.length a38) : Nat) : Int)))
 (natc a26 fun a58 =>
 (ltc a58 (List.length a38) (optc (GetElem?.getElem? a38 a58) fun a59 =>
 (cnd (decide ((D.Page.ID a59) < (D.Page.ID a37)))
 (J57 ((a25, (a26, ())), ((a27, (a28, (a29, (a30, (a31, (a32, (a33, (a34, (a35, ()))))))))), (a36, (a37, (a38, (a39, (a40, ()))))))))
 (J23 ((a25, (a26, ())), ((a27, (a28, (a29, (a30, (a31, (a32, (a33, (a34, (a35, ()))))))))), (a36, (a37, (a38, (a39, (a40, ()))))))))))))
 (J23 ((a25, (a26, ())), ((a27, (a28, (a29, (a30, (a31, (a32, (a33, (a34, (a35, ()))))))))), (a36, (a37, (a38, (a39, (a40, ()))))))))))) fu ((p2, (0, ())), (((D.Ledger.Now p0), ((D.Config.Zones (D.Ledger.Config p0)), ((D.Config.People (D.Ledger.Config p0)), ((D.Config.Calendars (D.Ledger.Config p0)), ((D.Config.Schedules (D.Ledger.Config p0)), ((D.Book.Teams (D.Ledger.Book p0)), ((D.Book.Policies (D.Ledger.Book p0)), ((D.Ledger.Owner p0), ((D.Ledger.Fence p0), ()))))))))), ((D.Ledger.mk 0 (D.Config.mk [] [] [] []) (D.Book.mk [] []) [] 0 0 [] []), (a0, ((D.Ledger.Pages p0), ((D.Ledger.Seen p0), ((D.Ledger.Calls p0), ())))))))))))))
def r31_open_0c7c10c11_g (fu : Nat) : Sig := mkSig [.agg [.num .i64, .lst .Zone, .lst .Person, .lst .Calendar, .lst .Schedule, .lst .Team, .lst .Policy, .own 101, .num .i64, .num .i64, .own 102, .own 103], .st .Op, nI, .one (.boo)] [(101, .arr .Page), (102, .arr .int), (103, .arr .Call)] [.agg [.num .i64, .lst .Zone, .lst .Person, .lst .Calendar, .lst .Schedule, .lst .Team, .lst .Policy, .own 101, .num .i64, .num .i64, .own 102, .own 103], nI] [(101, .arr .Page), (102, .arr .int), (103, .arr .Call)] [] (D.Ledger × Int) (fun q => (((q.1.Now, q.1.Config.Zones, q.1.Config.People, q.1.Config.Calendars, q.1.Config.Schedules, q.1.Book.Teams, q.1.Book.Policies, q.1.Owner, q.1.Fence, ()), q.2, ()), (q.1.Pages, q.1.Seen, q.1.Calls, ()))) (fun x y => r31_open_0c7c10c11 fu (D.Ledger.mk x.1.1 (D.Config.mk x.1.2.1 x.1.2.2.1 x.1.2.2.2.1 x.1.2.2.2.2.1) (D.Book.mk x.1.2.2.2.2.2.1 x.1.2.2.2.2.2.2.1) y.1 x.1.2.2.2.2.2.2.2.1 x.1.2.2.2.2.2.2.2.2.1 y.2.1 y.2.2.1) x.2.1 x.2.2.1 x.2.2.2.1)
theorem r31_open_0c7c10c11_ok (fu : Nat) : FnOK Tryz.prog 151 (r31_open_0c7c10c11_g fu) :=
 FnOK.intro (ty := ty) (E := envL [(50, 0, r29_New_g fu), (152, 0, r31_run_0c7c10c11_g fu)]) (fu := fu) (an := .two .go (.two .go (.two .go (.two .go (.two .go (.two .go (.two (.join [(2, nI), (4, .one (.ref 1004)), (8, .one (.ref 1008)), (10, .one (.ref 1010)), (12, nI)] [(1004, .box [.num .i64, .lst .Zone, .lst .Person, .lst .Calendar, .lst .Schedule, .lst .Team, .lst .Policy, .own 101, .num .i64, .num .i64, .own 102, .own 103]), (1008, .boxst .Ledger), (1010, .boxst .Page), (101, .arr .Page), (102, .arr .int), (103, .arr .Call)] (.one (.loop [(2, nI), (4, .one (.ref 1004)), (8, .one (.ref 1008)), (10, .one (.ref 1010)), (12, nI)] [(1004, .box [.num .i64, .lst .Zone, .lst .Person, .lst .Calendar, .lst .Schedule, .lst .Team, .lst .Policy, .own 101, .num .i64, .num .i64, .own 102, .own 103]), (1008, .boxst .Ledger), (1010, .boxst .Page), (101, .arr .Page), (102, .arr .int), (103, .arr .Call)] (.two (.join [(2, nI), (4, .one (.ref 1004)), (8, .one (.ref 1008)), (10, .one (.ref 1010)), (12, nI)] [(1004, .box [.num .i64, .lst .Zone, .lst .Person, .lst .Calendar, .lst .Schedule, .lst .Team, .lst .Policy, .own 101, .num .i64, .num .i64, .own 102, .own 103]), (1008, .boxst .Ledger), (1010, .boxst .Page), (101, .arr .Page), (102, .arr .int), (103, .arr .Call)] .go) .go)))) .go))))))) (fun a b => ((D.Ledger.mk a.1.1 (D.Config.mk a.1.2.1 a.1.2.2.1 a.1.2.2.2.1 a.1.2.2.2.2.1) (D.Book.mk a.1.2.2.2.2.2.1 a.1.2.2.2.2.2.2.1) b.1 a.1.2.2.2.2.2.2.2.1 a.1.2.2.2.2.2.2.2.2.1 b.2.1 b.2.2.1), a.2.1)) (fun _ _ => rfl) (envL_ok ⟨r29_New_ok fu, r31_run_0c7c10c11_ok fu, trivial⟩) Tryz.func151 rfl rfl (fun x y => by kernel_rfl)
def r31_reply_0c7c10c11 (fu : Nat) (p0 : D.Ledger) (p1 : D.Answer) (p2 : Int) : Option (D.Ledger × Int) :=
 (optc (r31_Find_0c7c10c11 fu p0 (D.Answer.Page p1)) fun (a0, a1) =>
 (cnd (!a1)
 (some (p0, 3))
 (optc (r31_run_0c7c10c11 fu p0 (D.Answer.Page p1) p2) fun a2 =>
 (optc (r31_Find_0c7c10c11 fu a2 (D.Answer.Page p1)) fun (a3, a4) =>
 (optc (r29_Answer fu (D.Ledger.Config a2) (D.Ledger.Book a2) a3 (D.Answer.mk (D.Answer.ID p1) (D.Answer.Page p1) (D.Answer.Person p1) (D.Answer.Kind p1) (D.Answer.Arg p1) p2)) fun (a5, a6) =>
 (cnd (decide (a6 ≠ 0))
 (some (a2, a6))
 (optc (r31_put_0c7c10c11 fu a2 a5) fun a7 =>
 (some (a7, 0)))))))))
def r31_reply_0c7c10c11_g (fu : Nat) : Sig := mkSig [.agg [.num .i64, .lst .Zone, .lst .Person, .lst .Calendar, .lst .Schedule, .lst .Team, .lst .Policy, .own 101, .num .i64, .num .i64, .own 102, .own 103], .st .Answer, nI] [(101, .arr .Page), (102, .arr .int), (103, .arr .Call)] [.agg [.num .i64, .lst .Zone, .lst .Person, .lst .Calendar, .lst .Schedule, .lst .Team, .lst .Policy, .own 101, .num .i64, .num .i64, .own 102, .own 103], nI] [(101, .arr .Page), (102, .arr .int), (103, .arr .Call)] [] (D.Ledger × Int) (fun q => (((q.1.Now, q.1.Config.Zones, q.1.Config.People, q.1.Config.Calendars, q.1.Config.Schedules, q.1.Book.Teams, q.1.Book.Policies, q.1.Owner, q.1.Fence, ()), q.2, ()), (q.1.Pages, q.1.Seen, q.1.Calls, ()))) (fun x y => r31_reply_0c7c10c11 fu (D.Ledger.mk x.1.1 (D.Config.mk x.1.2.1 x.1.2.2.1 x.1.2.2.2.1 x.1.2.2.2.2.1) (D.Book.mk x.1.2.2.2.2.2.1 x.1.2.2.2.2.2.2.1) y.1 x.1.2.2.2.2.2.2.2.1 x.1.2.2.2.2.2.2.2.2.1 y.2.1 y.2.2.1) x.2.1 x.2.2.1)
theorem r31_reply_0c7c10c11_ok (fu : Nat) : FnOK Tryz.prog 153 (r31_reply_0c7c10c11_g fu) :=
 FnOK.intro (ty := ty) (E := envL [(60, 0, r29_Answer_g fu), (150, 0, r31_Find_0c7c10c11_g fu), (152, 0, r31_run_0c7c10c11_g fu), (193, 0, r31_put_0c7c10c11_g fu)]) (fu := fu) (an := .go) (fun a b => ((D.Ledger.mk a.1.1 (D.Config.mk a.1.2.1 a.1.2.2.1 a.1.2.2.2.1 a.1.2.2.2.2.1) (D.Book.mk a.1.2.2.2.2.2.1 a.1.2.2.2.2.2.2.1) b.1 a.1.2.2.2.2.2.2.2.1 a.1.2.2.2.2.2.2.2.2.1 b.2.1 b.2.2.1), a.2.1)) (fun _ _ => rfl) (envL_ok ⟨r29_Answer_ok fu, r31_Find_0c7c10c11_ok fu, r31_run_0c7c10c11_ok fu, r31_put_0c7c10c11_ok fu, trivial⟩) Tryz.func153 rfl rfl (fun x y => by kernel_rfl)
def r31_apply_0c7c10c11 (fu : Nat) (p0 : D.Ledger) (p1 : D.Op) (p2 : Int) : Option (D.Ledger × Int) :=
 (optc (r31_Find_0c7c10c11 fu p0 (D.Op.Page p1)) fun (a0, a1) =>
 (join (Y := (Unit × ((Int × (List D.Zone × (List D.Person × (List D.Calendar × (List D.Schedule × (List D.Team × (List D.Policy × (Int × (Int × Unit))))))))) × (D.Ledger × (List D.Page × (List Int × (List D.Call × Unit))))))) (fun (_, ((a2, (a3, (a4, (a5, (a6, (a7, (a8, (a9, (a10, _))))))))), (a11, (a12, (a13, (a14, _)))))) =>
 (some ((D.Ledger.mk a2 (D.Config.mk a3 a4 a5 a6) (D.Book.mk a7 a8) a12 a9 a10 a13 a14), 0))) fun J15 =>
 (cnd (decide ((D.Op.Kind p1) = 1))
 (optc (r31_open_0c7c10c11 fu p0 p1 p2 a1) fun (a16, a17) =>
 (some (a16, a17)))
 (cnd (decide ((D.Op.Kind p1) = 2))
 (cnd (decide ((D.Op.Fence p1) ≠ (IntKind.wrap .i64 ((D.Ledger.Fence p0) + 1))))
 (some (p0, 23))
 (J15 ((), (((D.Ledger.Now p0), ((D.Config.Zones (D.Ledger.Config p0)), ((D.Config.People (D.Ledger.Config p0)), ((D.Config.Calendars (D.Ledger.Config p0)), ((D.Config.Schedules (D.Ledger.Config p0)), ((D.Book.Teams (D.Ledger.Book p0)), ((D.Book.Policies (D.Ledger.Book p0)), ((D.Op.Region p1), ((D.Op.Fence p1), ()))))))))), ((D.Ledger.mk 0 (D.Config.mk [] [] [] []) (D.Book.mk [] []) [] 0 0 [] []), ((D.Ledger.Pages p0), ((D.Ledger.Seen p0), ((D.Ledger.Calls p0), ()))))))))
 (cnd (decide ((D.Op.Kind p1) = 3))
 (join (Y := ((Int × (Bool × Unit)) × ((Int × (List D.Zone × (List D.Person × (List D.Calendar × (List D.Schedule × (List D.Team × (List D.Policy × (Int × (Int × Unit))))))))) × (D.Op × (D.Ledger × (D.Page × (List D.Page × (List Int × (List D.Call × Unit))))))))) (fun ((a18, (a19, _)), ((a20, (a21, (a22, (a23, (a24, (a25, (a26, (a27, (a28, _))))))))), (a29, (a30, (a31, (a32, (a33, (a34, _)))))))) =>
 (cnd (!a19)
 (some ((D.Ledger.mk a20 (D.Config.mk a21 a22 a23 a24) (D.Book.mk a25 a26) a32 a27 a28 a33 a34), 3))
 (optc (r29_Due fu a31) fun (a35, a36) =>
 (join (Y := ((Int × (Int × (Bool × (Int × Unit)))) × ((Int × (List D.Zone × (List D.Person × (List D.Calendar × (List D.Schedule × (List D.Team × (List D.Policy × (Int × (Int × Unit))))))))) × (D.Op × (D.Ledger × (List D.Page × (List Int × (List D.Call × Unit)))))))) (fun ((a37, (a38, (a39, (a40, _)))), ((a41, (a42, (a43, (a44, (a45, (a46, (a47, (a48, (a49, _))))))))), (a50, (a51, (a52, (a53, (a54, _))))))) =>
 (join (Y := ((Int × Unit) × ((Int × (List D.Zone × (List D.Person × (List D.Calendar × (List D.Schedule × (List D.Team × (List D.Policy × (Int × (Int × Unit))))))))) × (D.Op × (D.Ledger × (List D.Page × (List Int × (List D.Call × Unit)))))))) (fun ((a55, _), ((a56, (a57, (a58, (a59, (a60, (a61, (a62, (a63, (a64, _))))))))), (a65, (a66, (a67, (a68, (a69, _))))))) =>
 (optc (r31_run_0c7c10c11 fu (D.Ledger.mk a56 (D.Config.mk a57 a58 a59 a60) (D.Book.mk a61 a62) a67 a63 a64 a68 a69) (D.Op.Page a65) a55) fun a70 =>
 (some (a70, 0)))) fun J71 =>
 (cnd a39
 (cnd (decide (a37 < a38))
 (some ((D.Ledger.mk a41 (D.Config.mk a42 a43 a44 a45) (D.Book.mk a46 a47) a52 a48 a49 a53 a54), 9))
 (cnd (decide (a40 ≠ (D.Op.K a50)))
 (some ((D.Ledger.mk a41 (D.Config.mk a42 a43 a44 a45) (D.Book.mk a46 a47) a52 a48 a49 a53 a54), 9))
 (J71 ((a37, ()), ((a41, (a42, (a43, (a44, (a45, (a46, (a47, (a48, (a49, ()))))))))), (a50, (a51, (a52, (a53, (a54, ()))))))))))
 (some ((D.Ledger.mk a41 (D.Config.mk a42 a43 a44 a45) (D.Book.mk a46 a47) a52 a48 a49 a53 a54), 9))))) fun J72 =>
 (cnd (decide ((D.Page.State a31) = 2))
 (J72 ((a18, (a35, (a36, ((-1), ())))), ((a20, (a21, (a22, (a23, (a24, (a25, (a26, (a27, (a28, ()))))))))), (a29, (a30, (a32, (a33, (a34, ()))))))))
 (J72 ((a18, (a35, (a36, ((D.Page.Next a31), ())))), ((a20, (a21, (a22, (a23, (a24, (a25, (a26, (a27, (a28, ()))))))))), (a29, (a30, (a32, (a33, (a34, ()))))))))))))) fun J73 =>
 (cnd (decide ((D.Op.Region p1) ≠ (D.Ledger.Owner p0)))
 (some (p0, 23))
 (cnd (decide ((D.Op.Fence p1) ≠ (D.Ledger.Fence p0)))
 (some (p0, 23))
 (J73 ((p2, (a1, ())), (((D.Ledger.Now p0), ((D.Config.Zones (D.Ledger.Config p0)), ((D.Config.People (D.Ledger.Config p0)), ((D.Config.Calendars (D.Ledger.Config p0)), ((D.Config.Schedules (D.Ledger.Config p0)), ((D.Book.Teams (D.Ledger.Book p0)), ((D.Book.Policies (D.Ledger.Book p0)), ((D.Ledger.Owner p0), ((D.Ledger.Fence p0), ()))))))))), (p1, ((D.Ledger.mk 0 (D.Config.mk [] [] [] []) (D.Book.mk [] []) [] 0 0 [] []), (a0, ((D.Ledger.Pages p0), ((D.Ledger.Seen p0), ((D.Ledger.Calls p0), ()))))))))))))
 (cnd (decide ((D.Op.Kind p1) = 4))
 (optc (r31_reply_0c7c10c11 fu p0 (D.Op.Answer p1) p2) fun (a74, a75) =>
 (some (a74, a75)))
 (cnd (decide ((D.Op.Kind p1) = 5))
 (iterF (X := ((Int × (Int × Unit)) × ((Int × (List D.Zone × (List D.Person × (List D.Calendar × (List D.Schedule × (List D.Team × (List D.Policy × (Int × (Int × Unit))))))))) × (D.Op × (D.Ledger × (List D.Page × (List Int × (List D.Call × Unit)))))))) (fun L76 ((a77, (a78, _)), ((a79, (a80, (a81, (a82, (a83, (a84, (a85, (a86, (a87, _))))))))), (a88, (a89, (a90, (a91, (a92, _))))))) =>
 (cnd (decide (a78 < (((List.length a90) : Nat) : Int)))
 (natc a78 fun a93 =>
 (ltc a93 (List.length a90) (optc (GetElem?.getElem? a90 a93) fun a94 =>
 (optc (r31_run_0c7c10c11 fu (D.Ledger.mk a79 (D.Config.mk a80 a81 a82 a83) (D.Book.mk a84 a85) a90 a86 a87 a91 a92) (D.Page.ID a94) a77) fun a95 =>
 (L76 ((a77, ((IntKind.wrap .i64 (a78 + 1)), ())), (((D.Ledger.Now a95), ((D.Config.Zones (D.Ledger.Config a95)), ((D.Config.People (D.Ledger.Config a95)), ((D.Config.Calendars (D.Ledger.Config a95)), ((D.Config.Schedules (D.Ledger.Config a95)), ((D.Book.Teams (D.Ledger.Book a95)), ((D.Book.Policies (D.Ledger.Book a95)), ((D.Ledger.Owner a95), ((D.Ledger.Fence a95), ()))))))))), (a88, (a89, ((D.Ledger.Pages a95), ((D.Ledger.Seen a95), ((D.Ledger.Calls a95), ()))))))))))))
 (optc (r13_Apply fu (D.Config.mk a80 a81 a82 a83) (D.Op.Schedule a88) (D.Op.Edit a88)) fun (a96, a97) =>
 (cnd (decide (a97 ≠ 0))
 (some ((D.Ledger.mk a79 (D.Config.mk a80 a81 a82 a83) (D.Book.mk a84 a85) a90 a86 a87 a91 a92), a97))
 (J15 ((), ((a79, ((D.Config.Zones a96), ((D.Config.People a96), ((D.Config.Calendars a96), ((D.Config.Schedules a96), (a84, (a85, (a86, (a87, ()))))))))), (a89, (a90, (a91, (a92, ()))))))))))) fu ((p2, (0, ())), (((D.Ledger.Now p0), ((D.Config.Zones (D.Ledger.Config p0)), ((D.Config.People (D.Ledger.Config p0)), ((D.Config.Calendars (D.Ledger.Config p0)), ((D.Config.Schedules (D.Ledger.Config p0)), ((D.Book.Teams (D.Ledger.Book p0)), ((D.Book.Policies (D.Ledger.Book p0)), ((D.Ledger.Owner p0), ((D.Ledger.Fence p0), ()))))))))), (p1, ((D.Ledger.mk 0 (D.Config.mk [] [] [] []) (D.Book.mk [] []) [] 0 0 [] []), ((D.Ledger.Pages p0), ((D.Ledger.Seen p0), ((D.Ledger.Calls p0), ()))))))))
 (J15 ((), (((D.Ledger.Now p0), ((D.Config.Zones (D.Ledger.Config p0)), ((D.Config.People (D.Ledger.Config p0)), ((D.Config.Calendars (D.Ledger.Config p0)), ((D.Config.Schedules (D.Ledger.Config p0)), ((D.Book.Teams (D.Ledger.Book p0)), ((D.Book.Policies (D.Ledger.Book p0)), ((D.Ledger.Owner p0), ((D.Ledger.Fence p0), ()))))))))), ((D.Ledger.mk 0 (D.Config.mk [] [] [] []) (D.Book.mk [] []) [] 0 0 [] []), ((D.Ledger.Pages p0), ((D.Ledger.Seen p0), ((D.Ledger.Calls p0), ()))))))))))))))
def r31_apply_0c7c10c11_g (fu : Nat) : Sig := mkSig [.agg [.num .i64, .lst .Zone, .lst .Person, .lst .Calendar, .lst .Schedule, .lst .Team, .lst .Policy, .own 101, .num .i64, .num .i64, .own 102, .own 103], .st .Op, nI] [(101, .arr .Page), (102, .arr .int), (103, .arr .Call)] [.agg [.num .i64, .lst .Zone, .lst .Person, .lst .Calendar, .lst .Schedule, .lst .Team, .lst .Policy, .own 101, .num .i64, .num .i64, .own 102, .own 103], nI] [(101, .arr .Page), (102, .arr .int), (103, .arr .Call)] [] (D.Ledger × Int) (fun q => (((q.1.Now, q.1.Config.Zones, q.1.Config.People, q.1.Config.Calendars, q.1.Config.Schedules, q.1.Book.Teams, q.1.Book.Policies, q.1.Owner, q.1.Fence, ()), q.2, ()), (q.1.Pages, q.1.Seen, q.1.Calls, ()))) (fun x y => r31_apply_0c7c10c11 fu (D.Ledger.mk x.1.1 (D.Config.mk x.1.2.1 x.1.2.2.1 x.1.2.2.2.1 x.1.2.2.2.2.1) (D.Book.mk x.1.2.2.2.2.2.1 x.1.2.2.2.2.2.2.1) y.1 x.1.2.2.2.2.2.2.2.1 x.1.2.2.2.2.2.2.2.2.1 y.2.1 y.2.2.1) x.2.1 x.2.2.1)
theorem r31_apply_0c7c10c11_ok (fu : Nat) : FnOK Tryz.prog 113 (r31_apply_0c7c10c11_g fu) :=
 FnOK.intro (ty := ty) (E := envL [(23, 0, r29_Due_g fu), (150, 0, r31_Find_0c7c10c11_g fu), (151, 0, r31_open_0c7c10c11_g fu), (152, 0, r31_run_0c7c10c11_g fu), (153, 0, r31_reply_0c7c10c11_g fu), (154, 0, r13_Apply_g fu)]) (fu := fu) (an := .two .go (.two .go (.two (.join [(3, .one (.ref 1003)), (6, .one (.ref 1006))] [(1003, .box [.num .i64, .lst .Zone, .lst .Person, .lst .Calendar, .lst .Schedule, .lst .Team, .lst .Policy, .own 101, .num .i64, .num .i64, .own 102, .own 103]), (1006, .boxst .Ledger), (101, .arr .Page), (102, .arr .int), (103, .arr .Call)] (.two .go (.one (.two .go (.two .go (.two .go (.two .go (.two .go (.two (.two (.join [(2, nI), (3, .one (.ref 1003)), (4, .one (.ref 1004)), (6, .one (.ref 1006)), (8, .one (.ref 1008)), (9, .one (.boo))] [(1003, .box [.num .i64, .lst .Zone, .lst .Person, .lst .Calendar, .lst .Schedule, .lst .Team, .lst .Policy, .own 101, .num .i64, .num .i64, .own 102, .own 103]), (1004, .boxst .Op), (1006, .boxst .Ledger), (1008, .boxst .Page), (101, .arr .Page), (102, .arr .int), (103, .arr .Call)] .go) (.two .go (.two .go (.two .go (.two (.join [(2, nI), (3, .one (.ref 1003)), (4, .one (.ref 1004)), (6, .one (.ref 1006)), (10, nI), (11, .one (.boo)), (12, nI)] [(1003, .box [.num .i64, .lst .Zone, .lst .Person, .lst .Calendar, .lst .Schedule, .lst .Team, .lst .Policy, .own 101, .num .i64, .num .i64, .own 102, .own 103]), (1004, .boxst .Op), (1006, .boxst .Ledger), (101, .arr .Page), (102, .arr .int), (103, .arr .Call)] .go) (.two (.join [(2, nI), (3, .one (.ref 1003)), (4, .one (.ref 1004)), (6, .one (.ref 1006))] [(1003, .box [.num .i64, .lst .Zone, .lst .Person, .lst .Calendar, .lst .Schedule, .lst .Team, .lst .Policy, .own 101, .num .i64, .num .i64, .own 102, .own 103]), (1004, .boxst .Op), (1006, .boxst .Ledger), (101, .arr .Page), (102, .arr .int), (103, .arr .Call)] .go) .go)))))) (.two .go (.two .go (.two .go (.two (.two (.two .go (.one (.loop [(2, nI), (3, .one (.ref 1003)), (4, .one (.ref 1004)), (6, .one (.ref 1006)), (13, nI)] [(1003, .box [.num .i64, .lst .Zone, .lst .Person, .lst .Calendar, .lst .Schedule, .lst .Team, .lst .Policy, .own 101, .num .i64, .num .i64, .own 102, .own 103]), (1004, .boxst .Op), (1006, .boxst .Ledger), (101, .arr .Page), (102, .arr .int), (103, .arr .Call)] .go))) .go) .go))))))))))))) .go))) (fun a b => ((D.Ledger.mk a.1.1 (D.Config.mk a.1.2.1 a.1.2.2.1 a.1.2.2.2.1 a.1.2.2.2.2.1) (D.Book.mk a.1.2.2.2.2.2.1 a.1.2.2.2.2.2.2.1) b.1 a.1.2.2.2.2.2.2.2.1 a.1.2.2.2.2.2.2.2.2.1 b.2.1 b.2.2.1), a.2.1)) (fun _ _ => rfl) (envL_ok ⟨r29_Due_ok fu, r31_Find_0c7c10c11_ok fu, r31_open_0c7c10c11_ok fu, r31_run_0c7c10c11_ok fu, r31_reply_0c7c10c11_ok fu, r13_Apply_ok fu, trivial⟩) Tryz.func113 rfl rfl (fun x y => by kernel_rfl)
def r31_Apply (fu : Nat) (p0 : D.Ledger) (p1 : D.Op) : Option (D.Ledger × Int) :=
 (join (Y := (Unit × (D.Ledger × (D.Op × (D.Ledger × Unit))))) (fun (_, (a0, (a1, (a2, _)))) =>
 (optc (r31_Copy fu a0) fun a3 =>
 (optc (r25_Has fu (D.Ledger.Seen a0) (D.Op.ID a1)) fun a4 =>
 (cnd a4
 (some (a3, 0))
 (cnd (decide (256 ≤ (((List.length (D.Ledger.Seen a0)) : Nat) : Int)))
 none
 (lec ((List.length (D.Ledger.Seen a3)) + (List.length ((D.Op.ID a1) :: []))) 34359738368 (optc (r31_apply_0c7c10c11 fu (D.Ledger.mk (max (D.Ledger.Now a0) (D.Op.At a1)) (D.Ledger.Config a3) (D.Ledger.Book a3) (D.Ledger.Pages a3) (D.Ledger.Owner a3) (D.Ledger.Fence a3) ((D.Ledger.Seen a3) ++ ((D.Op.ID a1) :: [])) (D.Ledger.Calls a3)) a1 (max (D.Ledger.Now a0) (D.Op.At a1))) fun (a5, a6) =>
 (some (a5, a6))))))))) fun J7 =>
 (optc (r31_Check fu p0) fun a8 =>
 (cnd a8
 (optc (r31_Valid fu p1) fun a9 =>
 (cnd a9
 (J7 ((), (p0, (p1, ((D.Ledger.mk 0 (D.Config.mk [] [] [] []) (D.Book.mk [] []) [] 0 0 [] []), ())))))
 none))
 none)))
def r31_Apply_g (fu : Nat) : Sig := mkSig [.st .Ledger, .st .Op] [] [.agg [.num .i64, .lst .Zone, .lst .Person, .lst .Calendar, .lst .Schedule, .lst .Team, .lst .Policy, .own 1018020, .num .i64, .num .i64, .own 1018025, .own 1018028], nI] [(1018020, .arr .Page), (1018025, .arr .int), (1018028, .arr .Call)] [] (D.Ledger × Int) (fun q => (((q.1.Now, q.1.Config.Zones, q.1.Config.People, q.1.Config.Calendars, q.1.Config.Schedules, q.1.Book.Teams, q.1.Book.Policies, q.1.Owner, q.1.Fence, ()), q.2, ()), (q.1.Pages, q.1.Seen, q.1.Calls, ()))) (fun x y => r31_Apply fu x.1 x.2.1)
theorem r31_Apply_ok (fu : Nat) : FnOK Tryz.prog 62 (r31_Apply_g fu) :=
 FnOK.intro (ty := ty) (E := envL [(21, 0, r31_Copy_g fu), (25, 0, r25_Has_g fu), (111, 0, r31_Check_g fu), (112, 0, r31_Valid_g fu), (113, 0, r31_apply_0c7c10c11_g fu)]) (fu := fu) (an := .two .go (.two (.join [(2, .one (.ref 1002)), (3, .one (.ref 1003)), (4, .one (.ref 1004))] [(1002, .boxst .Ledger), (1003, .boxst .Op), (1004, .boxst .Ledger)] .go) .go)) (fun a b => ((D.Ledger.mk a.1.1 (D.Config.mk a.1.2.1 a.1.2.2.1 a.1.2.2.2.1 a.1.2.2.2.2.1) (D.Book.mk a.1.2.2.2.2.2.1 a.1.2.2.2.2.2.2.1) b.1 a.1.2.2.2.2.2.2.2.1 a.1.2.2.2.2.2.2.2.2.1 b.2.1 b.2.2.1), a.2.1)) (fun _ _ => rfl) (envL_ok ⟨r31_Copy_ok fu, r25_Has_ok fu, r31_Check_ok fu, r31_Valid_ok fu, r31_apply_0c7c10c11_ok fu, trivial⟩) Tryz.func62 rfl rfl (fun x y => by kernel_rfl)
def audit_Pages_0c7c10c11 (fu : Nat) (p0 : D.Ledger) : Option (List Int) :=
 (iterF (X := ((Int × (Int × Unit)) × ((Int × (List D.Zone × (List D.Person × (List D.Calendar × (List D.Schedule × (List D.Team × (List D.Policy × (Int × (Int × Unit))))))))) × (List D.Page × (List Int × (List D.Call × (List Int × Unit))))))) (fun L0 ((a1, (a2, _)), ((a3, (a4, (a5, (a6, (a7, (a8, (a9, (a10, (a11, _))))))))), (a12, (a13, (a14, (a15, _)))))) =>
 (cnd (decide (a2 < a1))
 (natc a2 fun a16 =>
 (ltc a16 (List.length a12) (optc (GetElem?.getElem? a12 a16) fun a17 =>
 (optc (audit_Steps fu (D.Book.mk a8 a9) a17) fun a18 =>
 (optc (audit_findings_0 fu a15 (D.Page.ID a17) ((!a18) :: [])) fun a19 =>
 (L0 ((a1, ((IntKind.wrap .i64 (a2 + 1)), ())), ((a3, (a4, (a5, (a6, (a7, (a8, (a9, (a10, (a11, ()))))))))), (a12, (a13, (a14, (a19, ()))))))))))))
 (optc (slices_Sort_int_0 fu a15) fun a20 =>
 (chk (List.length a20) (List.length a15) (sameC a12 (D.Ledger.Pages p0) (sameC a13 (D.Ledger.Seen p0) (sameC a14 (D.Ledger.Calls p0) (some a20)))))))) fu (((((List.length (D.Ledger.Pages p0)) : Nat) : Int), (0, ())), (((D.Ledger.Now p0), ((D.Config.Zones (D.Ledger.Config p0)), ((D.Config.People (D.Ledger.Config p0)), ((D.Config.Calendars (D.Ledger.Config p0)), ((D.Config.Schedules (D.Ledger.Config p0)), ((D.Book.Teams (D.Ledger.Book p0)), ((D.Book.Policies (D.Ledger.Book p0)), ((D.Ledger.Owner p0), ((D.Ledger.Fence p0), ()))))))))), ((D.Ledger.Pages p0), ((D.Ledger.Seen p0), ((D.Ledger.Calls p0), ([], ())))))))
def audit_Pages_0c7c10c11_g (fu : Nat) : Sig := mkSig [.agg [.num .i64, .lst .Zone, .lst .Person, .lst .Calendar, .lst .Schedule, .lst .Team, .lst .Policy, .own 101, .num .i64, .num .i64, .own 102, .own 103]] [(101, .arr .Page), (102, .arr .int), (103, .arr .Call)] [.one (.lst .int)] [] [101, 102, 103] (List Int) (fun q => ((q, ()), ())) (fun x y => audit_Pages_0c7c10c11 fu (D.Ledger.mk x.1.1 (D.Config.mk x.1.2.1 x.1.2.2.1 x.1.2.2.2.1 x.1.2.2.2.2.1) (D.Book.mk x.1.2.2.2.2.2.1 x.1.2.2.2.2.2.2.1) y.1 x.1.2.2.2.2.2.2.2.1 x.1.2.2.2.2.2.2.2.2.1 y.2.1 y.2.2.1))
theorem audit_Pages_0c7c10c11_ok (fu : Nat) : FnOK Tryz.prog 20 (audit_Pages_0c7c10c11_g fu) :=
 FnOK.intro (ty := ty) (E := envL [(39, 0, audit_Steps_g fu), (64, 0, audit_findings_0_g fu), (65, 0, slices_Sort_int_0_g fu)]) (fu := fu) (an := .two .go (.two .go (.two (.two .go (.one (.loop [(1, .one (.ref 1001)), (3, .one (.own 2022101)), (7, .one (.own 101)), (8, nI), (9, nI)] [(1001, .box [.num .i64, .lst .Zone, .lst .Person, .lst .Calendar, .lst .Schedule, .lst .Team, .lst .Policy, .own 101, .num .i64, .num .i64, .own 102, .own 103]), (101, .arr .Page), (102, .arr .int), (103, .arr .Call), (2022101, .arr .int)] .go))) .go))) (fun a b => a.1) (fun _ _ => rfl) (envL_ok ⟨audit_Steps_ok fu, audit_findings_0_ok fu, slices_Sort_int_0_ok fu, trivial⟩) Tryz.func20 rfl rfl (fun x y => by kernel_rfl)
def law45_sane (fu : Nat) : Option (Bool) :=
 (optc (made_Roll fu []) fun a0 =>
 (optc (made_Dice_Crew fu a0) fun (a1, a2) =>
 (optc (made_Roll fu (0 :: (0 :: (0 :: (0 :: (0 :: (0 :: []))))))) fun a3 =>
 (optc (made_Dice_Book fu a3) fun (a4, a5) =>
 (optc (r31_New fu a1 a4) fun (a6, a7) =>
 (optc (r31_Apply fu a6 (D.Op.mk 1 1 0 0 864000 4 0 0 0 (D.Answer.mk 0 0 0 0 0 0) (D.Edit.mk 0 0 0 0 0))) fun (a8, a9) =>
 (join (Y := (Unit × ((Int × (List D.Zone × (List D.Person × (List D.Calendar × (List D.Schedule × (List D.Team × (List D.Policy × (Int × (Int × Unit))))))))) × (List D.Page × (List Int × (List D.Call × Unit)))))) (fun (_, ((a10, (a11, (a12, (a13, (a14, (a15, (a16, (a17, (a18, _))))))))), (a19, (a20, (a21, _))))) =>
 (join (Y := ((Bool × Unit) × ((Int × (List D.Zone × (List D.Person × (List D.Calendar × (List D.Schedule × (List D.Team × (List D.Policy × (Int × (Int × Unit))))))))) × (List D.Page × (List Int × (List D.Call × Unit)))))) (fun ((a22, _), ((a23, (a24, (a25, (a26, (a27, (a28, (a29, (a30, (a31, _))))))))), (a32, (a33, (a34, _))))) =>
 (natc 0 fun a35 =>
 (ltc a35 (List.length a32) (optc (GetElem?.getElem? a32 a35) fun a36 =>
 (natc 0 fun a37 =>
 (ltc a37 (List.length (List.set a32 a35 (D.Page.mk (D.Page.ID a36) (D.Page.Policy a36) (D.Page.Start a36) (D.Page.Next a36) (D.Page.Due a36) (D.Page.State a36) (D.Page.By a36) (D.Page.Until a36) (D.Page.Last a36) (D.Page.Snoozes a36) (D.Page.Hands a36) ((D.Start.mk 0 864000 []) :: ((D.Start.mk 2 864000 []) :: [])) (D.Page.Declined a36) (D.Page.Seen a36)))) (optc (GetElem?.getElem? (List.set a32 a35 (D.Page.mk (D.Page.ID a36) (D.Page.Policy a36) (D.Page.Start a36) (D.Page.Next a36) (D.Page.Due a36) (D.Page.State a36) (D.Page.By a36) (D.Page.Until a36) (D.Page.Last a36) (D.Page.Snoozes a36) (D.Page.Hands a36) ((D.Start.mk 0 864000 []) :: ((D.Start.mk 2 864000 []) :: [])) (D.Page.Declined a36) (D.Page.Seen a36))) a37) fun a38 =>
 (cnd a22
 (optc (audit_Pages_0c7c10c11 fu (D.Ledger.mk a23 (D.Config.mk a24 a25 a26 a27) (D.Book.mk a28 a29) (List.set (List.set a32 a35 (D.Page.mk (D.Page.ID a36) (D.Page.Policy a36) (D.Page.Start a36) (D.Page.Next a36) (D.Page.Due a36) (D.Page.State a36) (D.Page.By a36) (D.Page.Until a36) (D.Page.Last a36) (D.Page.Snoozes a36) (D.Page.Hands a36) ((D.Start.mk 0 864000 []) :: ((D.Start.mk 2 864000 []) :: [])) (D.Page.Declined a36) (D.Page.Seen a36))) a37 (D.Page.mk (D.Page.ID a38) (D.Page.Policy a38) (D.Page.Start a38) 1 (D.Page.Due a38) (D.Page.State a38) (D.Page.By a38) (D.Page.Until a38) (D.Page.Last a38) (D.Page.Snoozes a38) (D.Page.Hands a38) (D.Page.Starts a38) (D.Page.Declined a38) (D.Page.Seen a38))) a30 a31 a33 a34)) fun a39 =>
 (optc (r25_Same fu a39 (4 :: [])) fun a40 =>
 (cnd a40
 (some true)
 (some false))))
 (some false))))))))) fun J41 =>
 (optc (audit_Pages_0c7c10c11 fu (D.Ledger.mk a10 (D.Config.mk a11 a12 a13 a14) (D.Book.mk a15 a16) a19 a17 a18 a20 a21)) fun a42 =>
 (cnd (decide ((((List.length a42) : Nat) : Int) = 0))
 (natc 0 fun a43 =>
 (ltc a43 (List.length a19) (optc (GetElem?.getElem? a19 a43) fun a44 =>
 (optc (audit_Steps fu (D.Book.mk a15 a16) a44) fun a45 =>
 (cnd a45
 (J41 ((true, ()), ((a10, (a11, (a12, (a13, (a14, (a15, (a16, (a17, (a18, ()))))))))), (a19, (a20, (a21, ()))))))
 (J41 ((false, ()), ((a10, (a11, (a12, (a13, (a14, (a15, (a16, (a17, (a18, ()))))))))), (a19, (a20, (a21, ())))))))))))
 (J41 ((false, ()), ((a10, (a11, (a12, (a13, (a14, (a15, (a16, (a17, (a18, ()))))))))), (a19, (a20, (a21, ())))))))))) fun J46 =>
 (cnd (decide (a9 ≠ 0))
 (some false)
 (cnd (decide ((((List.length (D.Ledger.Pages a8)) : Nat) : Int) ≠ 1))
 (some false)
 (J46 ((), (((D.Ledger.Now a8), ((D.Config.Zones (D.Ledger.Config a8)), ((D.Config.People (D.Ledger.Config a8)), ((D.Config.Calendars (D.Ledger.Config a8)), ((D.Config.Schedules (D.Ledger.Config a8)), ((D.Book.Teams (D.Ledger.Book a8)), ((D.Book.Policies (D.Ledger.Book a8)), ((D.Ledger.Owner a8), ((D.Ledger.Fence a8), ()))))))))), ((D.Ledger.Pages a8), ((D.Ledger.Seen a8), ((D.Ledger.Calls a8), ())))))))))))))))
def law45_sane_g (fu : Nat) : Sig := mkSig [] [] [.one (.boo)] [] [] (Bool) (fun q => ((q, ()), ())) (fun x y => law45_sane fu)
theorem law45_sane_ok (fu : Nat) : FnOK Tryz.prog 16 (law45_sane_g fu) :=
 FnOK.intro (ty := ty) (E := envL [(17, 0, made_Roll_g fu), (20, 0, audit_Pages_0c7c10c11_g fu), (22, 0, r25_Same_g fu), (30, 0, made_Dice_Crew_g fu), (31, 0, made_Dice_Book_g fu), (39, 0, audit_Steps_g fu), (61, 0, r31_New_g fu), (62, 0, r31_Apply_g fu)]) (fu := fu) (an := .two .go (.two .go (.two .go (.two (.join [(1, .one (.ref 1001))] [(1001, .box [.num .i64, .lst .Zone, .lst .Person, .lst .Calendar, .lst .Schedule, .lst .Team, .lst .Policy, .own 2035020, .num .i64, .num .i64, .own 2035025, .own 2035028]), (2035020, .arr .Page), (2035025, .arr .int), (2035028, .arr .Call)] .go) (.two (.join [(1, .one (.ref 1001)), (4, .one (.boo))] [(1001, .box [.num .i64, .lst .Zone, .lst .Person, .lst .Calendar, .lst .Schedule, .lst .Team, .lst .Policy, .own 2035020, .num .i64, .num .i64, .own 2035025, .own 2035028]), (2035020, .arr .Page), (2035025, .arr .int), (2035028, .arr .Call)] .go) .go))))) (fun a b => a.1) (fun _ _ => rfl) (envL_ok ⟨made_Roll_ok fu, audit_Pages_0c7c10c11_ok fu, r25_Same_ok fu, made_Dice_Crew_ok fu, made_Dice_Book_ok fu, audit_Steps_ok fu, r31_New_ok fu, r31_Apply_ok fu, trivial⟩) Tryz.func16 rfl rfl (fun x y => by kernel_rfl)
def r31_Waiting (fu : Nat) (p0 : D.Ledger) (p1 : Int) : Option (List D.Start) :=
 (join (Y := (Unit × (List D.Start × Unit))) (fun (_, (a0, _)) =>
 (some a0)) fun J1 =>
 (iterF (X := ((Int × (Int × Unit)) × (D.Ledger × (List D.Start × Unit)))) (fun L2 ((a3, (a4, _)), (a5, (a6, _))) =>
 (join (Y := ((Int × (Int × Unit)) × (D.Ledger × (List D.Start × Unit)))) (fun ((a7, (a8, _)), (a9, (a10, _))) =>
 (join (Y := ((Int × (Int × Unit)) × (D.Ledger × (List D.Start × Unit)))) (fun ((a11, (a12, _)), (a13, (a14, _))) =>
 (L2 ((a11, ((IntKind.wrap .i64 (a12 + 1)), ())), (a13, (a14, ()))))) fun J15 =>
 (atc (D.Ledger.Pages a9) a8 fun a16 =>
 (optc (r29_Due fu a16) fun (a17, a18) =>
 (cnd a18
 (cnd (decide (a17 ≤ a7))
 (atc (D.Ledger.Pages a9) a8 fun a19 =>
 (lec ((List.length a10) + (List.length ((D.Start.mk (D.Page.ID a19) a17 []) :: []))) 34359738368 (J15 ((a7, (a8, ())), (a9, ((a10 ++ ((D.Start.mk (D.Page.ID a19) a17 []) :: [])), ()))))))
 (J15 ((a7, (a8, ())), (a9, (a10, ())))))
 (J15 ((a7, (a8, ())), (a9, (a10, ()))))))))) fun J20 =>
 (cnd (decide (a4 < (((List.length (D.Ledger.Pages a5)) : Nat) : Int)))
 (optc (r31_Check fu a5) fun a21 =>
 (cnd a21
 (J20 ((a3, (a4, ())), (a5, (a6, ()))))
 (J1 ((), (a6, ())))))
 (J1 ((), (a6, ())))))) fu ((p1, (0, ())), (p0, ([], ())))))
def r31_Waiting_g (fu : Nat) : Sig := mkSig [.st .Ledger, nI] [] [.one (.lst .Start)] [] [] (List D.Start) (fun q => ((q, ()), ())) (fun x y => r31_Waiting fu x.1 x.2.1)
theorem r31_Waiting_ok (fu : Nat) : FnOK Tryz.prog 155 (r31_Waiting_g fu) :=
 FnOK.intro (ty := ty) (E := envL [(23, 0, r29_Due_g fu), (111, 0, r31_Check_g fu)]) (fu := fu) (an := .two .go (.two .go (.two (.join [(5, .one (.own 1045))] [(1045, .arr .Start)] (.two .go (.one (.loop [(1, nI), (2, .one (.ref 1002)), (5, .one (.own 1045)), (6, nI)] [(1002, .boxst .Ledger), (1045, .arr .Start)] (.two (.join [(1, nI), (2, .one (.ref 1002)), (5, .one (.own 1045)), (6, nI)] [(1002, .boxst .Ledger), (1045, .arr .Start)] .go) (.two (.join [(1, nI), (2, .one (.ref 1002)), (5, .one (.own 1045)), (6, nI)] [(1002, .boxst .Ledger), (1045, .arr .Start)] .go) .go)))))) .go))) (fun a b => a.1) (fun _ _ => rfl) (envL_ok ⟨r29_Due_ok fu, r31_Check_ok fu, trivial⟩) Tryz.func155 rfl rfl (fun x y => by kernel_rfl)
def made_Dice_Op (fu : Nat) (p0 : D.Dice) (p1 : D.Ledger) (p2 : Int) (p3 : Int) : Option (D.Op × D.Dice) :=
 (optc (made_Dice_Next fu p0 5) fun (a0, a1) =>
 (optc (made_Dice_Next fu a1 3) fun (a2, a3) =>
 (optc (made_Dice_Next fu a3 3) fun (a4, a5) =>
 (join (Y := (Unit × (D.Op × (D.Op × (D.Dice × Unit))))) (fun (_, (a6, (a7, (a8, _)))) =>
 (some (a7, a8))) fun J9 =>
 (cnd (decide ((IntKind.wrap .i64 (1 + a0)) = 1))
 (optc (made_Dice_Next fu a5 2) fun (a10, a11) =>
 (optc (made_Dice_Next fu a11 (IntKind.wrap .i64 ((IntKind.wrap .i64 ((((List.length (D.Book.Policies (D.Ledger.Book p1))) : Nat) : Int) + 1)) - a10))) fun (a12, a13) =>
 (J9 ((), ((D.Op.mk 0 0 0 0 0 0 0 0 0 (D.Answer.mk 0 0 0 0 0 0) (D.Edit.mk 0 0 0 0 0)), ((D.Op.mk p2 (IntKind.wrap .i64 (1 + a0)) a2 (D.Ledger.Fence p1) p3 (IntKind.wrap .i64 (1 + a4)) 0 a12 0 (D.Answer.mk 0 0 0 0 0 0) (D.Edit.mk 0 0 0 0 0)), (a13, ())))))))
 (cnd (decide ((IntKind.wrap .i64 (1 + a0)) = 2))
 (optc (made_Dice_One fu a5 (1 :: (1 :: (1 :: (0 :: []))))) fun (a14, a15) =>
 (J9 ((), ((D.Op.mk 0 0 0 0 0 0 0 0 0 (D.Answer.mk 0 0 0 0 0 0) (D.Edit.mk 0 0 0 0 0)), ((D.Op.mk p2 (IntKind.wrap .i64 (1 + a0)) a2 (IntKind.wrap .i64 ((D.Ledger.Fence p1) + a14)) p3 0 0 0 0 (D.Answer.mk 0 0 0 0 0 0) (D.Edit.mk 0 0 0 0 0)), (a15, ()))))))
 (cnd (decide ((IntKind.wrap .i64 (1 + a0)) = 3))
 (join (Y := ((Int × (Int × Unit)) × (D.Dice × (D.Ledger × (D.Op × (D.Op × Unit)))))) (fun ((a16, (a17, _)), (a18, (a19, (a20, (a21, _))))) =>
 (join (Y := ((Int × (Int × Unit)) × (D.Dice × (D.Ledger × (D.Op × (D.Op × Unit)))))) (fun ((a22, (a23, _)), (a24, (a25, (a26, (a27, _))))) =>
 (join (Y := (Unit × (D.Ledger × (D.Op × (D.Op × (D.Dice × Unit)))))) (fun (_, (a28, (a29, (a30, (a31, _))))) =>
 (optc (r31_Find fu a28 (D.Op.Page a30)) fun (a32, a33) =>
 (cnd a33
 (cnd (decide ((D.Page.State a32) = 2))
 (J9 ((), (a29, ((D.Op.mk (D.Op.ID a30) (D.Op.Kind a30) (D.Op.Region a30) (D.Op.Fence a30) (D.Op.At a30) (D.Op.Page a30) (-1) (D.Op.Policy a30) (D.Op.Schedule a30) (D.Op.Answer a30) (D.Op.Edit a30)), (a31, ())))))
 (J9 ((), (a29, ((D.Op.mk (D.Op.ID a30) (D.Op.Kind a30) (D.Op.Region a30) (D.Op.Fence a30) (D.Op.At a30) (D.Op.Page a30) (D.Page.Next a32) (D.Op.Policy a30) (D.Op.Schedule a30) (D.Op.Answer a30) (D.Op.Edit a30)), (a31, ()))))))
 (J9 ((), (a29, (a30, (a31, ())))))))) fun J34 =>
 (optc (r31_Waiting fu a25 a22) fun a35 =>
 (cnd (decide (0 < (((List.length a35) : Nat) : Int)))
 (optc (made_Dice_Next fu a24 (((List.length a35) : Nat) : Int)) fun (a36, a37) =>
 (atc a35 a36 fun a38 =>
 (J34 ((), (a25, (a26, ((D.Op.mk (D.Op.ID a27) (D.Op.Kind a27) (D.Op.Region a27) (D.Op.Fence a27) (D.Op.At a27) (D.Start.K a38) (D.Op.K a27) (D.Op.Policy a27) (D.Op.Schedule a27) (D.Op.Answer a27) (D.Op.Edit a27)), (a37, ()))))))))
 (J34 ((), (a25, (a26, ((D.Op.mk (D.Op.ID a27) (D.Op.Kind a27) (D.Op.Region a27) (D.Op.Fence a27) (D.Op.At a27) a23 (D.Op.K a27) (D.Op.Policy a27) (D.Op.Schedule a27) (D.Op.Answer a27) (D.Op.Edit a27)), (a24, ())))))))))) fun J39 =>
 (optc (made_Dice_Next fu a18 8) fun (a40, a41) =>
 (cnd (decide (a40 = 0))
 (optc (made_Dice_Next fu a41 3) fun (a42, a43) =>
 (J39 ((a16, (a17, ())), (a43, (a19, (a20, ((D.Op.mk (D.Op.ID a21) (D.Op.Kind a21) (D.Op.Region a21) a42 (D.Op.At a21) (D.Op.Page a21) (D.Op.K a21) (D.Op.Policy a21) (D.Op.Schedule a21) (D.Op.Answer a21) (D.Op.Edit a21)), ())))))))
 (J39 ((a16, (a17, ())), (a41, (a19, (a20, (a21, ())))))))))) fun J44 =>
 (optc (made_Dice_Next fu a5 6) fun (a45, a46) =>
 (cnd (decide (a45 = 0))
 (optc (made_Dice_Next fu a46 3) fun (a47, a48) =>
 (J44 ((p3, ((IntKind.wrap .i64 (1 + a4)), ())), (a48, (p1, ((D.Op.mk 0 0 0 0 0 0 0 0 0 (D.Answer.mk 0 0 0 0 0 0) (D.Edit.mk 0 0 0 0 0)), ((D.Op.mk p2 (IntKind.wrap .i64 (1 + a0)) a47 (D.Ledger.Fence p1) p3 0 0 0 0 (D.Answer.mk 0 0 0 0 0 0) (D.Edit.mk 0 0 0 0 0)), ())))))))
 (J44 ((p3, ((IntKind.wrap .i64 (1 + a4)), ())), (a46, (p1, ((D.Op.mk 0 0 0 0 0 0 0 0 0 (D.Answer.mk 0 0 0 0 0 0) (D.Edit.mk 0 0 0 0 0)), ((D.Op.mk p2 (IntKind.wrap .i64 (1 + a0)) (max (D.Ledger.Owner p1) 0) (D.Ledger.Fence p1) p3 0 0 0 0 (D.Answer.mk 0 0 0 0 0 0) (D.Edit.mk 0 0 0 0 0)), ())))))))))
 (cnd (decide ((IntKind.wrap .i64 (1 + a0)) = 4))
 (optc (made_Dice_Next fu a5 30) fun (a49, a50) =>
 (optc (made_Dice_Answer fu a50 (IntKind.wrap .i64 (1 + a49)) (IntKind.wrap .i64 (1 + a4)) p3) fun (a51, a52) =>
 (J9 ((), ((D.Op.mk 0 0 0 0 0 0 0 0 0 (D.Answer.mk 0 0 0 0 0 0) (D.Edit.mk 0 0 0 0 0)), ((D.Op.mk p2 (IntKind.wrap .i64 (1 + a0)) a2 (D.Ledger.Fence p1) p3 0 0 0 0 a51 (D.Edit.mk 0 0 0 0 0)), (a52, ())))))))
 (cnd (decide ((IntKind.wrap .i64 (1 + a0)) = 5))
 (optc (made_Dice_Next fu a5 3) fun (a53, a54) =>
 (optc (made_Dice_Override fu a54) fun (a55, a56) =>
 (J9 ((), ((D.Op.mk 0 0 0 0 0 0 0 0 0 (D.Answer.mk 0 0 0 0 0 0) (D.Edit.mk 0 0 0 0 0)), ((D.Op.mk p2 (IntKind.wrap .i64 (1 + a0)) a2 (D.Ledger.Fence p1) p3 0 0 0 a53 (D.Answer.mk 0 0 0 0 0 0) a55), (a56, ())))))))
 (J9 ((), ((D.Op.mk 0 0 0 0 0 0 0 0 0 (D.Answer.mk 0 0 0 0 0 0) (D.Edit.mk 0 0 0 0 0)), ((D.Op.mk p2 (IntKind.wrap .i64 (1 + a0)) a2 (D.Ledger.Fence p1) p3 0 0 0 0 (D.Answer.mk 0 0 0 0 0 0) (D.Edit.mk 0 0 0 0 0)), (a5, ()))))))))))))))
def made_Dice_Op_g (fu : Nat) : Sig := mkSig [.one (.ref 1), .st .Ledger, nI, nI] [(1, .boxst .Dice)] [.st .Op] [(1, .boxst .Dice)] [] (D.Op × D.Dice) (fun q => ((q.1, ()), (q.2, ()))) (fun x y => made_Dice_Op fu y.1 x.1 x.2.1 x.2.2.1)
theorem made_Dice_Op_ok (fu : Nat) : FnOK Tryz.prog 114 (made_Dice_Op_g fu) :=
 FnOK.intro (ty := ty) (E := envL [(32, 0, made_Dice_Next_g fu), (48, 0, made_Dice_One_g fu), (51, 0, made_Dice_Answer_g fu), (74, 0, made_Dice_Override_g fu), (150, 0, r31_Find_g fu), (155, 0, r31_Waiting_g fu)]) (fu := fu) (an := .two .go (.two .go (.two .go (.two (.join [(8, .one (.ref 1008)), (9, .one (.ref 1009))] [(1008, .boxst .Op), (1009, .boxst .Op), (1, .boxst .Dice)] (.two .go (.one (.two .go (.two .go (.two .go (.two .go (.two .go (.two (.two .go (.two (.join [(0, .one (.ref 1)), (3, nI), (5, .one (.ref 1005)), (8, .one (.ref 1008)), (9, .one (.ref 1009)), (10, nI)] [(1, .boxst .Dice), (1005, .boxst .Ledger), (1008, .boxst .Op), (1009, .boxst .Op)] .go) (.two (.join [(0, .one (.ref 1)), (3, nI), (5, .one (.ref 1005)), (8, .one (.ref 1008)), (9, .one (.ref 1009)), (10, nI)] [(1, .boxst .Dice), (1005, .boxst .Ledger), (1008, .boxst .Op), (1009, .boxst .Op)] .go) (.two .go (.two (.join [(5, .one (.ref 1005)), (8, .one (.ref 1008)), (9, .one (.ref 1009))] [(1005, .boxst .Ledger), (1008, .boxst .Op), (1009, .boxst .Op), (1, .boxst .Dice)] .go) .go))))) .go))))))))) .go)))) (fun a b => (a.1, b.1)) (fun _ _ => rfl) (envL_ok ⟨made_Dice_Next_ok fu, made_Dice_One_ok fu, made_Dice_Answer_ok fu, made_Dice_Override_ok fu, r31_Find_ok fu, r31_Waiting_ok fu, trivial⟩) Tryz.func114 rfl rfl (fun x y => by kernel_rfl)
def made_Dice_Grow (fu : Nat) (p0 : D.Dice) (p1 : D.Ledger) (p2 : Int) : Option (D.Ledger × List D.Op × D.Dice) :=
 (iterF (X := (P4 × (D.Dice × (D.Ledger × (P3 × Unit))))) (fun L0 ((a1, (a2, (a3, (a4, _)))), (a5, (a6, ((a7, (a8, (a9, _))), _)))) =>
 (cnd (decide (a4 < (((List.length (D.Ledger.Seen a6)) : Nat) : Int)))
 (atc (D.Ledger.Seen a6) a4 fun a10 =>
 (L0 ((a1, (a2, ((max a3 (IntKind.wrap .i64 (a10 + 1))), ((IntKind.wrap .i64 (a4 + 1)), ())))), (a5, (a6, ((a7, (a8, (a9, ()))), ()))))))
 (optc (made_Dice_Next fu a5 (IntKind.wrap .i64 (a1 + 1))) fun (a11, a12) =>
 (iterF (X := (P3 × (D.Dice × (D.Ledger × (P3 × (List D.Op × Unit)))))) (fun L13 ((a14, (a15, (a16, _))), (a17, (a18, ((a19, (a20, (a21, _))), (a22, _))))) =>
 (cnd (decide (0 < a16))
 (optc (made_Dice_One fu a17 (0 :: (10 :: (60 :: (300 :: (700 :: [])))))) fun (a23, a24) =>
 (optc (made_Dice_Op fu a24 a18 a15 (IntKind.wrap .i64 (a14 + a23))) fun (a25, a26) =>
 (join (Y := (P3 × (D.Dice × (D.Ledger × (P3 × (D.Op × (List D.Op × Unit))))))) (fun ((a27, (a28, (a29, _))), (a30, (a31, ((a32, (a33, (a34, _))), (a35, (a36, _)))))) =>
 (lec ((List.length a36) + (List.length (a35 :: []))) 34359738368 (L13 ((a27, (a28, ((IntKind.wrap .i64 (a29 - 1)), ()))), (a30, (a31, ((a32, (a33, (a34, ()))), ((a36 ++ (a35 :: [])), ())))))))) fun J37 =>
 (optc (r31_Apply fu a18 a25) fun (a38, a39) =>
 (optc (r31_Check fu a38) fun a40 =>
 (cnd a40
 (J37 (((IntKind.wrap .i64 (a14 + a23)), ((IntKind.wrap .i64 (a15 + 1)), (a16, ()))), (a26, (a38, ((a19, (a20, (a21, ()))), (a25, (a22, ())))))))
 (J37 (((IntKind.wrap .i64 (a14 + a23)), ((IntKind.wrap .i64 (a15 + 1)), (a16, ()))), (a26, (a18, ((a19, (a20, (a21, ()))), (a25, (a22, ())))))))))))))
 (some (a18, (a22, a17))))) fu ((a2, (a3, (a11, ()))), (a12, (a6, ((a7, (a8, (a9, ()))), ([], ()))))))))) fu ((p2, ((max (D.Ledger.Now p1) 864000), (1, (0, ())))), (p0, (p1, ((0, (0, (0, ()))), ())))))
def made_Dice_Grow_g (fu : Nat) : Sig := mkSig [.one (.ref 1), .st .Ledger, nI] [(1, .boxst .Dice)] [.st .Ledger, .one (.lst .Op)] [(1, .boxst .Dice)] [] (D.Ledger × List D.Op × D.Dice) (fun q => ((q.1, q.2.1, ()), (q.2.2, ()))) (fun x y => made_Dice_Grow fu y.1 x.1 x.2.1)
theorem made_Dice_Grow_ok (fu : Nat) : FnOK Tryz.prog 63 (made_Dice_Grow_g fu) :=
 FnOK.intro (ty := ty) (E := envL [(32, 0, made_Dice_Next_g fu), (48, 0, made_Dice_One_g fu), (62, 0, r31_Apply_g fu), (111, 0, r31_Check_g fu), (114, 0, made_Dice_Op_g fu)]) (fu := fu) (an := .two .go (.two .go (.two .go (.two .go (.two (.two .go (.one (.loop [(0, .one (.ref 1)), (2, nI), (4, .one (.ref 1004)), (6, .one (.ref 1006)), (8, .one (.nul)), (9, nI), (10, nI), (11, nI)] [(1, .boxst .Dice), (1004, .boxst .Ledger), (1006, .box [.num .i64, .nul, .nul, .nul, .nul, .nul, .nul, .nul, .num .i64, .num .i64, .nul, .nul])] .go))) (.two (.two .go (.one (.loop [(0, .one (.ref 1)), (4, .one (.ref 1004)), (6, .one (.ref 1006)), (8, .one (.own 1066)), (9, nI), (10, nI), (12, nI)] [(1, .boxst .Dice), (1004, .boxst .Ledger), (1006, .box [.num .i64, .nul, .nul, .nul, .nul, .nul, .nul, .nul, .num .i64, .num .i64, .nul, .nul]), (1066, .arr .Op)] (.two .go (.two (.one (.two .go (.two .go (.two .go (.two (.join [(0, .one (.ref 1)), (4, .one (.ref 1004)), (6, .one (.ref 1006)), (8, .one (.own 1066)), (9, nI), (10, nI), (12, nI), (13, .one (.ref 1013))] [(1, .boxst .Dice), (1004, .boxst .Ledger), (1006, .box [.num .i64, .nul, .nul, .nul, .nul, .nul, .nul, .nul, .num .i64, .num .i64, .nul, .nul]), (1013, .boxst .Op), (1066, .arr .Op)] .go) .go))))) .go))))) .go)))))) (fun a b => (a.1, a.2.1, b.1)) (fun _ _ => rfl) (envL_ok ⟨made_Dice_Next_ok fu, made_Dice_One_ok fu, r31_Apply_ok fu, r31_Check_ok fu, made_Dice_Op_ok fu, trivial⟩) Tryz.func63 rfl rfl (fun x y => by kernel_rfl)
def made_Dice_Ledger (fu : Nat) (p0 : D.Dice) (p1 : Int) : Option (D.Ledger × List D.Op × D.Dice) :=
 (optc (made_Dice_Crew fu p0) fun (a0, a1) =>
 (optc (made_Dice_Book fu a1) fun (a2, a3) =>
 (optc (r31_New fu a0 a2) fun (a4, a5) =>
 (optc (made_Dice_Grow fu a3 a4 p1) fun (a6, (a7, a8)) =>
 (some (a6, (a7, a8)))))))
def made_Dice_Ledger_g (fu : Nat) : Sig := mkSig [.one (.ref 1), nI] [(1, .boxst .Dice)] [.st .Ledger, .one (.lst .Op)] [(1, .boxst .Dice)] [] (D.Ledger × List D.Op × D.Dice) (fun q => ((q.1, q.2.1, ()), (q.2.2, ()))) (fun x y => made_Dice_Ledger fu y.1 x.1)
theorem made_Dice_Ledger_ok (fu : Nat) : FnOK Tryz.prog 18 (made_Dice_Ledger_g fu) :=
 FnOK.intro (ty := ty) (E := envL [(30, 0, made_Dice_Crew_g fu), (31, 0, made_Dice_Book_g fu), (61, 0, r31_New_g fu), (63, 0, made_Dice_Grow_g fu)]) (fu := fu) (an := .go) (fun a b => (a.1, a.2.1, b.1)) (fun _ _ => rfl) (envL_ok ⟨made_Dice_Crew_ok fu, made_Dice_Book_ok fu, r31_New_ok fu, made_Dice_Grow_ok fu, trivial⟩) Tryz.func18 rfl rfl (fun x y => by kernel_rfl)
def oplog_in (fu : Nat) (p0 : Int) (p1 : Int) (p2 : Int) : Option (Bool) :=
 (cnd (decide (p1 ≤ p0))
 (cnd (decide (p0 ≤ p2))
 (some true)
 (some false))
 (some false))
def oplog_in_g (fu : Nat) : Sig := mkSig [nI, nI, nI] [] [.one (.boo)] [] [] (Bool) (fun q => ((q, ()), ())) (fun x y => oplog_in fu x.1 x.2.1 x.2.2.1)
theorem oplog_in_ok (fu : Nat) : FnOK Tryz.prog 117 (oplog_in_g fu) :=
 FnOK.intro (ty := ty) (E := envL []) (fu := fu) (an := .go) (fun a b => a.1) (fun _ _ => rfl) (envL_ok (l := []) trivial) Tryz.func117 rfl rfl (fun x y => by kernel_rfl)
def oplog_seen (fu : Nat) (p0 : List Int) : Option (Bool) :=
 (iterF (X := ((List Int × (List Int × (Int × (Int × Unit)))) × Unit)) (fun L0 ((a1, (a2, (a3, (a4, _)))), _) =>
 (cnd (decide (a4 < a3))
 (join (Y := ((List Int × (List Int × (Int × (Int × Unit)))) × Unit)) (fun ((a5, (a6, (a7, (a8, _)))), _) =>
 (L0 ((a5, (a6, (a7, ((IntKind.wrap .i64 (a8 + 1)), ())))), ()))) fun J9 =>
 (atc a2 a4 fun a10 =>
 (optc (oplog_in fu a10 1 1099511627776) fun a11 =>
 (cnd a11
 (natc a4 fun a12 =>
 (lec a12 (List.length a1) (optc (slices_Contains_int fu (List.take a12 a1) a10) fun a13 =>
 (cnd a13
 (some false)
 (J9 ((a1, (a2, (a3, (a4, ())))), ()))))))
 (some false)))))
 (some (decide ((((List.length a1) : Nat) : Int) ≤ 256))))) fu ((p0, (p0, ((((List.length p0) : Nat) : Int), (0, ())))), ()))
def oplog_seen_g (fu : Nat) : Sig := mkSig [.one (.lst .int)] [] [.one (.boo)] [] [] (Bool) (fun q => ((q, ()), ())) (fun x y => oplog_seen fu x.1)
theorem oplog_seen_ok (fu : Nat) : FnOK Tryz.prog 118 (oplog_seen_g fu) :=
 FnOK.intro (ty := ty) (E := envL [(90, 0, slices_Contains_int_g fu), (117, 0, oplog_in_g fu)]) (fu := fu) (an := .two .go (.two (.two .go (.one (.loop [(0, .one (.lst .int)), (5, .one (.lst .int)), (6, nI), (7, nI)] [] (.two .go (.two .go (.two (.join [(0, .one (.lst .int)), (5, .one (.lst .int)), (6, nI), (7, nI)] [] .go) .go)))))) .go)) (fun a b => a.1) (fun _ _ => rfl) (envL_ok ⟨slices_Contains_int_ok fu, oplog_in_ok fu, trivial⟩) Tryz.func118 rfl rfl (fun x y => by kernel_rfl)
def policy_set (fu : Nat) (p0 : D.Config) (p1 : List Int) : Option (Int) :=
 (cnd (decide ((((List.length p1) : Nat) : Int) = 0))
 (some 7)
 (iterF (X := ((List Int × (Int × Unit)) × (D.Config × Unit))) (fun L0 ((a1, (a2, _)), (a3, _)) =>
 (cnd (decide (a2 < (((List.length a1) : Nat) : Int)))
 (atc a1 a2 fun a4 =>
 (atc a1 (IntKind.wrap .i64 (a2 - 1)) fun a5 =>
 (cnd (decide (a4 ≤ a5))
 (some 6)
 (L0 ((a1, ((IntKind.wrap .i64 (a2 + 1)), ())), (a3, ()))))))
 (join (Y := (Unit × Unit)) (fun (_, _) =>
 (some 0)) fun J6 =>
 (atc a1 0 fun a7 =>
 (optc (policy_in fu a7 0 (IntKind.wrap .i64 ((((List.length (D.Config.People a3)) : Nat) : Int) - 1))) fun a8 =>
 (cnd a8
 (atc a1 (IntKind.wrap .i64 ((((List.length a1) : Nat) : Int) - 1)) fun a9 =>
 (optc (policy_in fu a9 0 (IntKind.wrap .i64 ((((List.length (D.Config.People a3)) : Nat) : Int) - 1))) fun a10 =>
 (cnd a10
 (J6 ((), ()))
 (some 3))))
 (some 3))))))) fu ((p1, (1, ())), (p0, ()))))
def policy_set_g (fu : Nat) : Sig := mkSig [.st .Config, .one (.lst .int)] [] [nI] [] [] (Int) (fun q => ((q, ()), ())) (fun x y => policy_set fu x.1 x.2.1)
theorem policy_set_ok (fu : Nat) : FnOK Tryz.prog 171 (policy_set_g fu) :=
 FnOK.intro (ty := ty) (E := envL [(78, 0, policy_in_g fu)]) (fu := fu) (an := .two .go (.two .go (.two (.two .go (.one (.loop [(1, .one (.lst .int)), (2, .one (.ref 1002)), (5, nI)] [(1002, .boxst .Config)] .go))) (.two (.join [] [] .go) .go)))) (fun a b => a.1) (fun _ _ => rfl) (envL_ok ⟨policy_in_ok fu, trivial⟩) Tryz.func171 rfl rfl (fun x y => by kernel_rfl)
def policy_step (fu : Nat) (p0 : D.Config) (p1 : D.Book) (p2 : D.PolicyStep) : Option (Int) :=
 (optc (policy_in fu (D.PolicyStep.Wait p2) 0 86400) fun a0 =>
 (cnd (!a0)
 (some 1)
 (cnd (decide (6 < (((List.length (D.PolicyStep.Targets p2)) : Nat) : Int)))
 (some 5)
 (optc (policy_sizes fu p0 p1) fun a1 =>
 (iterF (X := ((List D.Target × (Int × (Int × Unit))) × (P3 × Unit))) (fun L2 ((a3, (a4, (a5, _))), ((a6, (a7, (a8, _))), _)) =>
 (cnd (decide (a5 < a4))
 (join (Y := ((List D.Target × (Int × (Int × Unit))) × (P3 × Unit))) (fun ((a9, (a10, (a11, _))), ((a12, (a13, (a14, _))), _)) =>
 (L2 ((a9, (a10, ((IntKind.wrap .i64 (a11 + 1)), ()))), ((a12, (a13, (a14, ()))), ())))) fun J15 =>
 (atc a3 a5 fun a16 =>
 (optc (policy_in fu (D.Target.Kind a16) 0 2) fun a17 =>
 (cnd a17
 (cnd (decide ((D.Target.Kind a16) = ((0 : Nat) : Int)))
 (optc (policy_in fu (D.Target.Index a16) 0 (IntKind.wrap .i64 (a6 - 1))) fun a18 =>
 (cnd a18
 (J15 ((a3, (a4, (a5, ()))), ((a6, (a7, (a8, ()))), ())))
 (some 3)))
 (cnd (decide ((D.Target.Kind a16) = (((0 + 1) : Nat) : Int)))
 (optc (policy_in fu (D.Target.Index a16) 0 (IntKind.wrap .i64 (a7 - 1))) fun a19 =>
 (cnd a19
 (J15 ((a3, (a4, (a5, ()))), ((a6, (a7, (a8, ()))), ())))
 (some 3)))
 (cnd (decide ((D.Target.Kind a16) = ((((0 + 1) + 1) : Nat) : Int)))
 (optc (policy_in fu (D.Target.Index a16) 0 (IntKind.wrap .i64 (a8 - 1))) fun a20 =>
 (cnd a20
 (J15 ((a3, (a4, (a5, ()))), ((a6, (a7, (a8, ()))), ())))
 (some 3)))
 none)))
 (some 3)))))
 (some 0))) fu (((D.PolicyStep.Targets p2), ((((List.length (D.PolicyStep.Targets p2)) : Nat) : Int), (0, ()))), (((D.Arr3Int.a0 a1), ((D.Arr3Int.a1 a1), ((D.Arr3Int.a2 a1), ()))), ())))))))
def policy_step_g (fu : Nat) : Sig := mkSig [.st .Config, .st .Book, .st .PolicyStep] [] [nI] [] [] (Int) (fun q => ((q, ()), ())) (fun x y => policy_step fu x.1 x.2.1 x.2.2.1)
theorem policy_step_ok (fu : Nat) : FnOK Tryz.prog 217 (policy_step_g fu) :=
 FnOK.intro (ty := ty) (E := envL [(78, 0, policy_in_g fu), (124, 0, policy_sizes_g fu)]) (fu := fu) (an := .two .go (.two .go (.two .go (.two .go (.two (.two .go (.one (.loop [(7, .one (.ref 1007)), (22, .one (.lst .Target)), (23, nI), (24, nI)] [(1007, .box [.num .i64, .num .i64, .num .i64])] (.two .go (.two .go (.two (.join [(7, .one (.ref 1007)), (22, .one (.lst .Target)), (23, nI), (24, nI)] [(1007, .box [.num .i64, .num .i64, .num .i64])] .go) .go)))))) .go))))) (fun a b => a.1) (fun _ _ => rfl) (envL_ok ⟨policy_in_ok fu, policy_sizes_ok fu, trivial⟩) Tryz.func217 rfl rfl (fun x y => by kernel_rfl)
def policy_check_1 (fu : Nat) (p0 : Int) (p1 : D.Book) : Option (ByteArray) :=
 (atc (D.Book.Policies p1) p0 fun a0 =>
 (sameC p1 p1 (some (D.Policy.Name a0))))
def policy_check_1_g (fu : Nat) : Sig := mkSig [nI, .one (.ref 101)] [(101, .boxst .Book)] [.one (.str)] [] [101] (ByteArray) (fun q => ((q, ()), ())) (fun x y => policy_check_1 fu x.1 y.1)
theorem policy_check_1_ok (fu : Nat) : FnOK Tryz.prog 216 (policy_check_1_g fu) :=
 FnOK.intro (ty := ty) (E := envL []) (fu := fu) (an := .go) (fun a b => a.1) (fun _ _ => rfl) (envL_ok (l := []) trivial) Tryz.func216 rfl rfl (fun x y => by kernel_rfl)
def policy_earlier_1Fpolicy_check_1 (fu : Nat) (p0 : Int) (c101 : D.Book) : Option (Bool) :=
 (iterF (X := (P3 × (D.Book × Unit))) (fun L0 ((a1, (a2, (a3, _))), (a4, _)) =>
 (cnd (decide (a3 < a2))
 (optc (policy_check_1 fu a3 a4) fun a5 =>
 (optc (policy_check_1 fu a1 a4) fun a6 =>
 (cnd (decide (a5 = a6))
 (sameC a4 c101 (some true))
 (L0 ((a1, (a2, ((IntKind.wrap .i64 (a3 + 1)), ()))), (a4, ()))))))
 (sameC a4 c101 (some false)))) fu ((p0, (p0, (0, ()))), (c101, ())))
def policy_earlier_1Fpolicy_check_1_g (fu : Nat) : Sig := mkSig [nI, .one (.clo 216 [101])] [(101, .boxst .Book)] [.one (.boo)] [] [101] (Bool) (fun q => ((q, ()), ())) (fun x y => policy_earlier_1Fpolicy_check_1 fu x.1 y.1)
theorem policy_earlier_1Fpolicy_check_1_ok (fu : Nat) : FnOK Tryz.prog 169 (policy_earlier_1Fpolicy_check_1_g fu) :=
 FnOK.intro (ty := ty) (E := envL [(216, 0, policy_check_1_g fu)]) (fu := fu) (an := .two .go (.two (.two .go (.one (.loop [(0, nI), (1, .one (.clo 216 [101])), (6, nI), (7, nI)] [(101, .boxst .Book)] .go))) .go)) (fun a b => a.1) (fun _ _ => rfl) (envL_ok ⟨policy_check_1_ok fu, trivial⟩) Tryz.func169 rfl rfl (fun x y => by kernel_rfl)
def policy_check (fu : Nat) (p0 : D.Config) (p1 : D.Book) (p2 : Int) : Option (Int) :=
 (atc (D.Book.Policies p1) p2 fun a0 =>
 (optc (lexer_Name fu (D.Policy.Name a0)) fun a1 =>
 (cnd (!a1)
 (some 8)
 (optc (policy_earlier_1Fpolicy_check_1 fu p2 p1) fun a2 =>
 (cnd a2
 (some 4)
 (cnd (decide ((((List.length (D.Policy.Steps a0)) : Nat) : Int) = 0))
 (some 7)
 (cnd (decide (8 < (((List.length (D.Policy.Steps a0)) : Nat) : Int)))
 (some 5)
 (optc (policy_in fu (D.Policy.Repeat a0) 0 8) fun a3 =>
 (cnd (!a3)
 (some 1)
 (iterF (X := ((List D.PolicyStep × (Int × (Int × Unit))) × (D.Config × (D.Book × Unit)))) (fun L4 ((a5, (a6, (a7, _))), (a8, (a9, _))) =>
 (cnd (decide (a7 < a6))
 (atc a5 a7 fun a10 =>
 (optc (policy_step fu a8 a9 a10) fun a11 =>
 (cnd (decide (a11 ≠ 0))
 (some a11)
 (L4 ((a5, (a6, ((IntKind.wrap .i64 (a7 + 1)), ()))), (a8, (a9, ())))))))
 (some 0))) fu (((D.Policy.Steps a0), ((((List.length (D.Policy.Steps a0)) : Nat) : Int), (0, ()))), (p0, (p1, ())))))))))))))
def policy_check_g (fu : Nat) : Sig := mkSig [.st .Config, .st .Book, nI] [] [nI] [] [] (Int) (fun q => ((q, ()), ())) (fun x y => policy_check fu x.1 x.2.1 x.2.2.1)
theorem policy_check_ok (fu : Nat) : FnOK Tryz.prog 172 (policy_check_g fu) :=
 FnOK.intro (ty := ty) (E := envL [(78, 0, policy_in_g fu), (168, 0, lexer_Name_g fu), (169, 0, policy_earlier_1Fpolicy_check_1_g fu), (217, 0, policy_step_g fu)]) (fu := fu) (an := .two .go (.two .go (.two .go (.two (.two .go (.one (.loop [(3, .one (.ref 1003)), (4, .one (.ref 1004)), (41, .one (.lst .PolicyStep)), (42, nI), (43, nI)] [(1003, .boxst .Config), (1004, .boxst .Book)] .go))) .go)))) (fun a b => a.1) (fun _ _ => rfl) (envL_ok ⟨policy_in_ok fu, lexer_Name_ok fu, policy_earlier_1Fpolicy_check_1_ok fu, policy_step_ok fu, trivial⟩) Tryz.func172 rfl rfl (fun x y => by kernel_rfl)
def policy_Check_1 (fu : Nat) (p0 : Int) (p1 : D.Book) : Option (ByteArray) :=
 (atc (D.Book.Teams p1) p0 fun a0 =>
 (sameC p1 p1 (some (D.Team.Name a0))))
def policy_Check_1_g (fu : Nat) : Sig := mkSig [nI, .one (.ref 101)] [(101, .boxst .Book)] [.one (.str)] [] [101] (ByteArray) (fun q => ((q, ()), ())) (fun x y => policy_Check_1 fu x.1 y.1)
theorem policy_Check_1_ok (fu : Nat) : FnOK Tryz.prog 170 (policy_Check_1_g fu) :=
 FnOK.intro (ty := ty) (E := envL []) (fu := fu) (an := .go) (fun a b => a.1) (fun _ _ => rfl) (envL_ok (l := []) trivial) Tryz.func170 rfl rfl (fun x y => by kernel_rfl)
def policy_earlier_1Fpolicy_Check_1 (fu : Nat) (p0 : Int) (c101 : D.Book) : Option (Bool) :=
 (iterF (X := (P3 × (D.Book × Unit))) (fun L0 ((a1, (a2, (a3, _))), (a4, _)) =>
 (cnd (decide (a3 < a2))
 (optc (policy_Check_1 fu a3 a4) fun a5 =>
 (optc (policy_Check_1 fu a1 a4) fun a6 =>
 (cnd (decide (a5 = a6))
 (sameC a4 c101 (some true))
 (L0 ((a1, (a2, ((IntKind.wrap .i64 (a3 + 1)), ()))), (a4, ()))))))
 (sameC a4 c101 (some false)))) fu ((p0, (p0, (0, ()))), (c101, ())))
def policy_earlier_1Fpolicy_Check_1_g (fu : Nat) : Sig := mkSig [nI, .one (.clo 170 [101])] [(101, .boxst .Book)] [.one (.boo)] [] [101] (Bool) (fun q => ((q, ()), ())) (fun x y => policy_earlier_1Fpolicy_Check_1 fu x.1 y.1)
theorem policy_earlier_1Fpolicy_Check_1_ok (fu : Nat) : FnOK Tryz.prog 169 (policy_earlier_1Fpolicy_Check_1_g fu) :=
 FnOK.intro (ty := ty) (E := envL [(170, 0, policy_Check_1_g fu)]) (fu := fu) (an := .two .go (.two (.two .go (.one (.loop [(0, nI), (1, .one (.clo 170 [101])), (6, nI), (7, nI)] [(101, .boxst .Book)] .go))) .go)) (fun a b => a.1) (fun _ _ => rfl) (envL_ok ⟨policy_Check_1_ok fu, trivial⟩) Tryz.func169 rfl rfl (fun x y => by kernel_rfl)
def policy_Check (fu : Nat) (p0 : D.Config) (p1 : D.Book) : Option (Int) :=
 (optc (resolve_Check fu p0) fun a0 =>
 (cnd (decide (a0 ≠ 0))
 (some 8)
 (join (Y := (Unit × (D.Config × (D.Book × Unit)))) (fun (_, (a1, (a2, _))) =>
 (iterF (X := ((List D.Team × (Int × (Int × Unit))) × (D.Config × (D.Book × Unit)))) (fun L3 ((a4, (a5, (a6, _))), (a7, (a8, _))) =>
 (cnd (decide (a6 < a5))
 (atc a4 a6 fun a9 =>
 (optc (lexer_Name fu (D.Team.Name a9)) fun a10 =>
 (cnd (!a10)
 (some 8)
 (optc (policy_earlier_1Fpolicy_Check_1 fu a6 a8) fun a11 =>
 (cnd a11
 (some 4)
 (optc (policy_set fu a7 (D.Team.Members a9)) fun a12 =>
 (cnd (decide (a12 ≠ 0))
 (some a12)
 (L3 ((a4, (a5, ((IntKind.wrap .i64 (a6 + 1)), ()))), (a7, (a8, ())))))))))))
 (iterF (X := ((Int × (Int × Unit)) × (D.Config × (D.Book × Unit)))) (fun L13 ((a14, (a15, _)), (a16, (a17, _))) =>
 (cnd (decide (a15 < a14))
 (optc (policy_check fu a16 a17 a15) fun a18 =>
 (cnd (decide (a18 ≠ 0))
 (some a18)
 (L13 ((a14, ((IntKind.wrap .i64 (a15 + 1)), ())), (a16, (a17, ()))))))
 (some 0))) fu (((((List.length (D.Book.Policies a8)) : Nat) : Int), (0, ())), (a7, (a8, ())))))) fu (((D.Book.Teams a2), ((((List.length (D.Book.Teams a2)) : Nat) : Int), (0, ()))), (a1, (a2, ()))))) fun J19 =>
 (cnd (decide (8 < (((List.length (D.Book.Teams p1)) : Nat) : Int)))
 (some 5)
 (cnd (decide (12 < (((List.length (D.Book.Policies p1)) : Nat) : Int)))
 (some 5)
 (J19 ((), (p0, (p1, ())))))))))
def policy_Check_g (fu : Nat) : Sig := mkSig [.st .Config, .st .Book] [] [nI] [] [] (Int) (fun q => ((q, ()), ())) (fun x y => policy_Check fu x.1 x.2.1)
theorem policy_Check_ok (fu : Nat) : FnOK Tryz.prog 119 (policy_Check_g fu) :=
 FnOK.intro (ty := ty) (E := envL [(167, 0, resolve_Check_g fu), (168, 0, lexer_Name_g fu), (169, 0, policy_earlier_1Fpolicy_Check_1_g fu), (171, 0, policy_set_g fu), (172, 0, policy_check_g fu)]) (fu := fu) (an := .two .go (.two .go (.two (.join [(2, .one (.ref 1002)), (3, .one (.ref 1003))] [(1002, .boxst .Config), (1003, .boxst .Book)] .go) (.two (.two .go (.one (.loop [(2, .one (.ref 1002)), (3, .one (.ref 1003)), (24, .one (.lst .Team)), (25, nI), (26, nI)] [(1002, .boxst .Config), (1003, .boxst .Book)] .go))) (.two (.two .go (.one (.loop [(2, .one (.ref 1002)), (3, .one (.ref 1003)), (48, nI), (49, nI)] [(1002, .boxst .Config), (1003, .boxst .Book)] .go))) .go))))) (fun a b => a.1) (fun _ _ => rfl) (envL_ok ⟨resolve_Check_ok fu, lexer_Name_ok fu, policy_earlier_1Fpolicy_Check_1_ok fu, policy_set_ok fu, policy_check_ok fu, trivial⟩) Tryz.func119 rfl rfl (fun x y => by kernel_rfl)
def slices_Clone_Call (fu : Nat) (p0 : List D.Call) : Option (List (D.Call)) :=
 (nilC p0
 (both
 (some [])
 (lec (List.length p0) 34359738368 (some p0)))
 (lec (List.length p0) 34359738368 (some p0)))
def slices_Clone_Call_g (fu : Nat) : Sig := mkSig [.one (.lst .Call)] [] [.one (.own 1007)] [(1007, .arr .Call)] [] (List (D.Call)) (fun q => ((), (q, ()))) (fun x y => slices_Clone_Call fu x.1)
theorem slices_Clone_Call_ok (fu : Nat) : FnOK Tryz.prog 174 (slices_Clone_Call_g fu) :=
 FnOK.intro (ty := ty) (E := envL []) (fu := fu) (an := .go) (fun a b => b.1) (fun _ _ => rfl) (envL_ok (l := []) trivial) Tryz.func174 rfl rfl (fun x y => by kernel_rfl)
def oplog_calls (fu : Nat) (p0 : D.Page) (p1 : List D.Call) (p2 : Int) : Option (Bool) :=
 (iterF (X := ((List D.Call × (Int × (Int × (Int × (List D.Start × (Int × (Int × Unit))))))) × (D.Page × Unit))) (fun L0 ((a1, (a2, (a3, (a4, (a5, (a6, (a7, _))))))), (a8, _)) =>
 (cnd (decide (a7 < a6))
 (atc a5 a7 fun a9 =>
 (iterF (X := ((List D.Call × (Int × (Int × (Int × (List D.Start × (Int × (Int × (List Int × (Int × (Int × Unit)))))))))) × (D.Page × (D.Start × Unit)))) (fun L10 ((a11, (a12, (a13, (a14, (a15, (a16, (a17, (a18, (a19, (a20, _)))))))))), (a21, (a22, _))) =>
 (cnd (decide (a20 < a19))
 (atc a18 a20 fun a23 =>
 (join (Y := ((List D.Call × (Int × (Int × (List D.Start × (Int × (Int × (List Int × (Int × (Int × Unit))))))))) × (D.Page × (D.Start × Unit)))) (fun ((a24, (a25, (a26, (a27, (a28, (a29, (a30, (a31, (a32, _))))))))), (a33, (a34, _))) =>
 (atc a24 a26 fun a35 =>
 (L10 ((a24, (a25, ((IntKind.wrap .i64 (a26 + 1)), ((D.Call.Fence a35), (a27, (a28, (a29, (a30, (a31, ((IntKind.wrap .i64 (a32 + 1)), ())))))))))), (a33, (a34, ())))))) fun J36 =>
 (cnd (decide (a13 = (((List.length a11) : Nat) : Int)))
 (some false)
 (atc a11 a13 fun a37 =>
 (optc (oplog_in fu (D.Call.Fence a37) a14 a12) fun a38 =>
 (cnd a38
 (atc a11 a13 fun a39 =>
 (atc a11 a13 fun a40 =>
 (cnd (decide (((D.Call.Page a39) :: ((D.Call.K a39) :: ((D.Call.At a39) :: ((D.Call.Person a39) :: ((D.Call.Fence a39) :: []))))) ≠ ((D.Page.ID a21) :: ((D.Start.K a22) :: ((D.Start.At a22) :: (a23 :: ((D.Call.Fence a40) :: [])))))))
 (some false)
 (J36 ((a11, (a12, (a13, (a15, (a16, (a17, (a18, (a19, (a20, ()))))))))), (a21, (a22, ())))))))
 (some false)))))))
 (L0 ((a11, (a12, (a13, (a14, (a15, (a16, ((IntKind.wrap .i64 (a17 + 1)), ()))))))), (a21, ()))))) fu ((a1, (a2, (a3, (a4, (a5, (a6, (a7, ((D.Start.People a9), ((((List.length (D.Start.People a9)) : Nat) : Int), (0, ())))))))))), (a8, (a9, ())))))
 (some (decide (a3 = (((List.length a1) : Nat) : Int)))))) fu ((p1, (p2, (0, (0, ((D.Page.Starts p0), ((((List.length (D.Page.Starts p0)) : Nat) : Int), (0, ()))))))), (p0, ())))
def oplog_calls_g (fu : Nat) : Sig := mkSig [.st .Page, .one (.lst .Call), nI] [] [.one (.boo)] [] [] (Bool) (fun q => ((q, ()), ())) (fun x y => oplog_calls fu x.1 x.2.1 x.2.2.1)
theorem oplog_calls_ok (fu : Nat) : FnOK Tryz.prog 176 (oplog_calls_g fu) :=
 FnOK.intro (ty := ty) (E := envL [(117, 0, oplog_in_g fu)]) (fu := fu) (an := .two .go (.two .go (.two (.two .go (.one (.loop [(1, .one (.lst .Call)), (2, nI), (3, .one (.ref 1003)), (7, nI), (8, nI), (14, .one (.lst .Start)), (15, nI), (16, nI)] [(1003, .boxst .Page)] (.two .go (.two .go (.two (.one (.two .go (.two .go (.one (.loop [(1, .one (.lst .Call)), (2, nI), (3, .one (.ref 1003)), (7, nI), (8, nI), (10, .one (.ref 1010)), (14, .one (.lst .Start)), (15, nI), (16, nI), (21, .one (.lst .int)), (22, nI), (23, nI)] [(1003, .boxst .Page), (1010, .boxst .Start)] (.two .go (.two .go (.two (.one (.two .go (.two (.join [(1, .one (.lst .Call)), (2, nI), (3, .one (.ref 1003)), (7, nI), (10, .one (.ref 1010)), (14, .one (.lst .Start)), (15, nI), (16, nI), (21, .one (.lst .int)), (22, nI), (23, nI)] [(1003, .boxst .Page), (1010, .boxst .Start)] .go) .go))) .go)))))))) .go)))))) .go))) (fun a b => a.1) (fun _ _ => rfl) (envL_ok ⟨oplog_in_ok fu, trivial⟩) Tryz.func176 rfl rfl (fun x y => by kernel_rfl)
def oplog_paged_1 (fu : Nat) (p0 : D.Call) (p1 : D.Page) : Option (Bool) :=
 (sameC p1 p1 (some (decide ((D.Call.Page p0) ≠ (D.Page.ID p1)))))
def oplog_paged_1_g (fu : Nat) : Sig := mkSig [.st .Call, .one (.ref 101)] [(101, .boxst .Page)] [.one (.boo)] [] [101] (Bool) (fun q => ((q, ()), ())) (fun x y => oplog_paged_1 fu x.1 y.1)
theorem oplog_paged_1_ok (fu : Nat) : FnOK Tryz.prog 175 (oplog_paged_1_g fu) :=
 FnOK.intro (ty := ty) (E := envL []) (fu := fu) (an := .go) (fun a b => a.1) (fun _ _ => rfl) (envL_ok (l := []) trivial) Tryz.func175 rfl rfl (fun x y => by kernel_rfl)
def slices_IndexFunc_Call_1Foplog_paged_1_0 (fu : Nat) (p0 : List (D.Call)) (c102 : D.Page) : Option (Int) :=
 (iterF (X := ((Int × (Int × Unit)) × (D.Page × (List D.Call × Unit)))) (fun L0 ((a1, (a2, _)), (a3, (a4, _))) =>
 (cnd (decide (a2 < a1))
 (natc a2 fun a5 =>
 (ltc a5 (List.length a4) (optc (GetElem?.getElem? a4 a5) fun a6 =>
 (optc (oplog_paged_1 fu a6 a3) fun a7 =>
 (cnd a7
 (sameC a4 p0 (sameC a3 c102 (some a2)))
 (L0 ((a1, ((IntKind.wrap .i64 (a2 + 1)), ())), (a3, (a4, ())))))))))
 (sameC a4 p0 (sameC a3 c102 (some (-1)))))) fu (((((List.length p0) : Nat) : Int), (0, ())), (c102, (p0, ()))))
def slices_IndexFunc_Call_1Foplog_paged_1_0_g (fu : Nat) : Sig := mkSig [.one (.own 101), .one (.clo 175 [102])] [(101, .arr .Call), (102, .boxst .Page)] [nI] [] [101, 102] (Int) (fun q => ((q, ()), ())) (fun x y => slices_IndexFunc_Call_1Foplog_paged_1_0 fu y.1 y.2.1)
theorem slices_IndexFunc_Call_1Foplog_paged_1_0_ok (fu : Nat) : FnOK Tryz.prog 218 (slices_IndexFunc_Call_1Foplog_paged_1_0_g fu) :=
 FnOK.intro (ty := ty) (E := envL [(175, 0, oplog_paged_1_g fu)]) (fu := fu) (an := .two .go (.two (.two .go (.one (.loop [(0, .one (.own 101)), (1, .one (.clo 175 [102])), (7, nI), (8, nI)] [(102, .boxst .Page), (101, .arr .Call)] .go))) .go)) (fun a b => a.1) (fun _ _ => rfl) (envL_ok ⟨oplog_paged_1_ok fu, trivial⟩) Tryz.func218 rfl rfl (fun x y => by kernel_rfl)
def slices_DeleteFunc_Call_1Foplog_paged_1_0 (fu : Nat) (p0 : List (D.Call)) (c102 : D.Page) : Option (Nat × Nat × List (D.Call)) :=
 (optc (slices_IndexFunc_Call_1Foplog_paged_1_0 fu p0 c102) fun a0 =>
 (cnd (decide (a0 = (-1)))
 (sameC c102 c102 (some (0, ((List.length p0), p0))))
 (iterF (X := ((Int × (Int × Unit)) × (D.Page × (List D.Call × Unit)))) (fun L1 ((a2, (a3, _)), (a4, (a5, _))) =>
 (cnd (decide (a3 < (((List.length a5) : Nat) : Int)))
 (join (Y := ((Int × (Int × Unit)) × (D.Page × (List D.Call × Unit)))) (fun ((a6, (a7, _)), (a8, (a9, _))) =>
 (L1 ((a6, ((IntKind.wrap .i64 (a7 + 1)), ())), (a8, (a9, ()))))) fun J10 =>
 (natc a3 fun a11 =>
 (ltc a11 (List.length a5) (optc (GetElem?.getElem? a5 a11) fun a12 =>
 (optc (oplog_paged_1 fu a12 a4) fun a13 =>
 (cnd (!a13)
 (natc a2 fun a14 =>
 (ltc a14 (List.length a5) (optc (GetElem?.getElem? a5 a14) fun a15 =>
 (J10 (((IntKind.wrap .i64 (a2 + 1)), (a3, ())), (a4, ((List.set a5 a14 a12), ())))))))
 (J10 ((a2, (a3, ())), (a4, (a5, ()))))))))))
 (natc a2 fun a16 =>
 (lec a16 (List.length a5) (lec a16 (List.length a5) (lec (List.length a5) (List.length a5) (natc a2 fun a17 =>
 (lec a17 (List.length (((List.take a16 a5) ++ (List.replicate ((List.length a5) - a16) (D.Call.mk 0 0 0 0 0))) ++ (List.drop (List.length a5) a5))) (sameC a4 c102 (some (0, (a17, (((List.take a16 a5) ++ (List.replicate ((List.length a5) - a16) (D.Call.mk 0 0 0 0 0))) ++ (List.drop (List.length a5) a5)))))))))))))) fu ((a0, ((IntKind.wrap .i64 (a0 + 1)), ())), (c102, (p0, ()))))))
def slices_DeleteFunc_Call_1Foplog_paged_1_0_g (fu : Nat) : Sig := mkSig [.one (.own 101), .one (.clo 175 [102])] [(101, .arr .Call), (102, .boxst .Page)] [.one (.view 101)] [(101, .arr .Call)] [102] (Nat × Nat × List (D.Call)) (fun q => ((q.1, q.2.1, ()), (q.2.2, ()))) (fun x y => slices_DeleteFunc_Call_1Foplog_paged_1_0 fu y.1 y.2.1)
theorem slices_DeleteFunc_Call_1Foplog_paged_1_0_ok (fu : Nat) : FnOK Tryz.prog 173 (slices_DeleteFunc_Call_1Foplog_paged_1_0_g fu) :=
 FnOK.intro (ty := ty) (E := envL [(175, 0, oplog_paged_1_g fu), (218, 0, slices_IndexFunc_Call_1Foplog_paged_1_0_g fu)]) (fu := fu) (an := .two .go (.two .go (.two .go (.two (.two .go (.one (.loop [(0, .one (.own 101)), (1, .one (.clo 175 [102])), (5, nI), (6, nI)] [(102, .boxst .Page), (101, .arr .Call)] (.two .go (.two (.join [(0, .one (.own 101)), (1, .one (.clo 175 [102])), (5, nI), (6, nI)] [(102, .boxst .Page), (101, .arr .Call)] .go) .go))))) .go)))) (fun a b => (a.1, a.2.1, b.1)) (fun _ _ => rfl) (envL_ok ⟨oplog_paged_1_ok fu, slices_IndexFunc_Call_1Foplog_paged_1_0_ok fu, trivial⟩) Tryz.func173 rfl rfl (fun x y => by kernel_rfl)
def oplog_paged (fu : Nat) (p0 : D.Ledger) : Option (Bool) :=
 (iterF (X := ((Int × (List D.Page × (Int × (Int × Unit)))) × (D.Ledger × Unit))) (fun L0 ((a1, (a2, (a3, (a4, _)))), (a5, _)) =>
 (cnd (decide (a4 < a3))
 (atc a2 a4 fun a6 =>
 (join (Y := ((Int × (List D.Page × (Int × (Int × Unit)))) × (D.Ledger × (D.Page × Unit)))) (fun ((a7, (a8, (a9, (a10, _)))), (a11, (a12, _))) =>
 (optc (slices_Clone_Call fu (D.Ledger.Calls a11)) fun a13 =>
 (optc (slices_DeleteFunc_Call_1Foplog_paged_1_0 fu a13 a12) fun (a14, (a15, a16)) =>
 (optc (oplog_calls fu a12 (List.drop a14 (List.take a15 a16)) (D.Ledger.Fence a11)) fun a17 =>
 (cnd (!a17)
 (some false)
 (L0 (((IntKind.wrap .i64 (a7 + (((List.length (List.drop a14 (List.take a15 a16))) : Nat) : Int))), (a8, (a9, ((IntKind.wrap .i64 (a10 + 1)), ())))), (a11, ())))))))) fun J18 =>
 (cnd (decide (0 < a4))
 (atc (D.Ledger.Pages a5) (IntKind.wrap .i64 (a4 - 1)) fun a19 =>
 (cnd (decide ((D.Page.ID a6) ≤ (D.Page.ID a19)))
 (some false)
 (optc (escalate_Check fu (D.Ledger.Book a5) a6) fun a20 =>
 (cnd a20
 (cnd (decide ((D.Ledger.Now a5) < (D.Page.Last a6)))
 (some false)
 (J18 ((a1, (a2, (a3, (a4, ())))), (a5, (a6, ())))))
 (some false)))))
 (optc (escalate_Check fu (D.Ledger.Book a5) a6) fun a21 =>
 (cnd a21
 (cnd (decide ((D.Ledger.Now a5) < (D.Page.Last a6)))
 (some false)
 (J18 ((a1, (a2, (a3, (a4, ())))), (a5, (a6, ())))))
 (some false))))))
 (some (decide (a1 = (((List.length (D.Ledger.Calls a5)) : Nat) : Int)))))) fu ((0, ((D.Ledger.Pages p0), ((((List.length (D.Ledger.Pages p0)) : Nat) : Int), (0, ())))), (p0, ())))
def oplog_paged_g (fu : Nat) : Sig := mkSig [.st .Ledger] [] [.one (.boo)] [] [] (Bool) (fun q => ((q, ()), ())) (fun x y => oplog_paged fu x.1)
theorem oplog_paged_ok (fu : Nat) : FnOK Tryz.prog 120 (oplog_paged_g fu) :=
 FnOK.intro (ty := ty) (E := envL [(56, 0, escalate_Check_g fu), (173, 0, slices_DeleteFunc_Call_1Foplog_paged_1_0_g fu), (174, 0, slices_Clone_Call_g fu), (176, 0, oplog_calls_g fu)]) (fu := fu) (an := .two .go (.two .go (.two (.two .go (.one (.loop [(1, .one (.ref 1001)), (3, nI), (8, .one (.lst .Page)), (9, nI), (10, nI)] [(1001, .boxst .Ledger)] (.two .go (.two .go (.two (.one (.two .go (.two (.join [(1, .one (.ref 1001)), (3, nI), (5, .one (.ref 1005)), (8, .one (.lst .Page)), (9, nI), (10, nI)] [(1001, .boxst .Ledger), (1005, .boxst .Page)] .go) .go))) .go)))))) .go))) (fun a b => a.1) (fun _ _ => rfl) (envL_ok ⟨escalate_Check_ok fu, slices_DeleteFunc_Call_1Foplog_paged_1_0_ok fu, slices_Clone_Call_ok fu, oplog_calls_ok fu, trivial⟩) Tryz.func120 rfl rfl (fun x y => by kernel_rfl)
def oplog_Check (fu : Nat) (p0 : D.Ledger) : Option (Bool) :=
 (join (Y := (Unit × (D.Ledger × Unit))) (fun (_, (a0, _)) =>
 (optc (policy_Check fu (D.Ledger.Config a0) (D.Ledger.Book a0)) fun a1 =>
 (cnd (decide (a1 = 0))
 (optc (oplog_paged fu a0) fun a2 =>
 (cnd a2
 (some true)
 (some false)))
 (some false)))) fun J3 =>
 (optc (oplog_in fu (D.Ledger.Now p0) 0 8589934592) fun a4 =>
 (cnd a4
 (cnd (decide (64 < (((List.length (D.Ledger.Pages p0)) : Nat) : Int)))
 (some false)
 (optc (oplog_in fu (D.Ledger.Owner p0) (-1) 4) fun a5 =>
 (cnd a5
 (optc (oplog_in fu (D.Ledger.Fence p0) 0 1048576) fun a6 =>
 (cnd a6
 (optc (oplog_seen fu (D.Ledger.Seen p0)) fun a7 =>
 (cnd a7
 (J3 ((), (p0, ())))
 (some false)))
 (some false)))
 (some false))))
 (some false))))
def oplog_Check_g (fu : Nat) : Sig := mkSig [.st .Ledger] [] [.one (.boo)] [] [] (Bool) (fun q => ((q, ()), ())) (fun x y => oplog_Check fu x.1)
theorem oplog_Check_ok (fu : Nat) : FnOK Tryz.prog 68 (oplog_Check_g fu) :=
 FnOK.intro (ty := ty) (E := envL [(117, 0, oplog_in_g fu), (118, 0, oplog_seen_g fu), (119, 0, policy_Check_g fu), (120, 0, oplog_paged_g fu)]) (fu := fu) (an := .two .go (.two (.join [(1, .one (.ref 1001))] [(1001, .boxst .Ledger)] .go) .go)) (fun a b => a.1) (fun _ _ => rfl) (envL_ok ⟨oplog_in_ok fu, oplog_seen_ok fu, policy_Check_ok fu, oplog_paged_ok fu, trivial⟩) Tryz.func68 rfl rfl (fun x y => by kernel_rfl)
def bound_sum (fu : Nat) (p0 : List Int) : Option (Int) :=
 (iterF (X := ((Int × (List Int × (Int × (Int × Unit)))) × Unit)) (fun L0 ((a1, (a2, (a3, (a4, _)))), _) =>
 (cnd (decide (a4 < a3))
 (atc a2 a4 fun a5 =>
 (L0 (((IntKind.wrap .i64 (a1 + a5)), (a2, (a3, ((IntKind.wrap .i64 (a4 + 1)), ())))), ())))
 (some a1))) fu ((0, (p0, ((((List.length p0) : Nat) : Int), (0, ())))), ()))
def bound_sum_g (fu : Nat) : Sig := mkSig [.one (.lst .int)] [] [nI] [] [] (Int) (fun q => ((q, ()), ())) (fun x y => bound_sum fu x.1)
theorem bound_sum_ok (fu : Nat) : FnOK Tryz.prog 122 (bound_sum_g fu) :=
 FnOK.intro (ty := ty) (E := envL []) (fu := fu) (an := .two .go (.two .go (.two (.two .go (.one (.loop [(3, nI), (6, .one (.lst .int)), (7, nI), (8, nI)] [] .go))) .go))) (fun a b => a.1) (fun _ _ => rfl) (envL_ok (l := []) trivial) Tryz.func122 rfl rfl (fun x y => by kernel_rfl)
def bound_Rest (fu : Nat) (p0 : D.Book) (p1 : D.Page) : Option (Int × Bool) :=
 (optc (escalate_Check fu p0 p1) fun a0 =>
 (cnd (!a0)
 (some (0, false))
 (atc (D.Book.Policies p0) (D.Page.Policy p1) fun a1 =>
 (optc (policy_Offset fu a1 (D.Page.Next p1)) fun (a2, a3) =>
 (optc (policy_End fu a1) fun a4 =>
 (optc (bound_sum fu (a4 :: ((IntKind.wrap .i64 (0 - a2)) :: []))) fun a5 =>
 (some (a5, true))))))))
def bound_Rest_g (fu : Nat) : Sig := mkSig [.st .Book, .st .Page] [] [nI, .one (.boo)] [] [] (Int × Bool) (fun q => ((q.1, q.2, ()), ())) (fun x y => bound_Rest fu x.1 x.2.1)
theorem bound_Rest_ok (fu : Nat) : FnOK Tryz.prog 121 (bound_Rest_g fu) :=
 FnOK.intro (ty := ty) (E := envL [(56, 0, escalate_Check_g fu), (70, 0, policy_Offset_g fu), (71, 0, policy_End_g fu), (122, 0, bound_sum_g fu)]) (fu := fu) (an := .go) (fun a b => (a.1, a.2.1)) (fun _ _ => rfl) (envL_ok ⟨escalate_Check_ok fu, policy_Offset_ok fu, policy_End_ok fu, bound_sum_ok fu, trivial⟩) Tryz.func121 rfl rfl (fun x y => by kernel_rfl)
def bound_Latest (fu : Nat) (p0 : D.Book) (p1 : D.Page) : Option (Int × Bool) :=
 (optc (bound_Rest fu p0 p1) fun (a0, a1) =>
 (cnd (!a1)
 (some (0, false))
 (optc (escalate_Due fu p1) fun (a2, a3) =>
 (cnd (!a3)
 (some ((D.Page.Last p1), true))
 (optc (bound_sum fu (a2 :: (a0 :: []))) fun a4 =>
 (some (a4, true)))))))
def bound_Latest_g (fu : Nat) : Sig := mkSig [.st .Book, .st .Page] [] [nI, .one (.boo)] [] [] (Int × Bool) (fun q => ((q.1, q.2, ()), ())) (fun x y => bound_Latest fu x.1 x.2.1)
theorem bound_Latest_ok (fu : Nat) : FnOK Tryz.prog 69 (bound_Latest_g fu) :=
 FnOK.intro (ty := ty) (E := envL [(43, 0, escalate_Due_g fu), (121, 0, bound_Rest_g fu), (122, 0, bound_sum_g fu)]) (fu := fu) (an := .go) (fun a b => (a.1, a.2.1)) (fun _ _ => rfl) (envL_ok ⟨escalate_Due_ok fu, bound_Rest_ok fu, bound_sum_ok fu, trivial⟩) Tryz.func69 rfl rfl (fun x y => by kernel_rfl)
def audit_Late (fu : Nat) (p0 : D.Book) (p1 : D.Ledger) (p2 : Int) : Option (List Int) :=
 (optc (oplog_Check fu p1) fun a0 =>
 (cnd (!a0)
 (some [])
 (iterF (X := ((Int × (List D.Page × (Int × (Int × Unit)))) × (D.Book × (List Int × Unit)))) (fun L1 ((a2, (a3, (a4, (a5, _)))), (a6, (a7, _))) =>
 (cnd (decide (a5 < a4))
 (join (Y := ((Int × (List D.Page × (Int × (Int × Unit)))) × (D.Book × (List Int × Unit)))) (fun ((a8, (a9, (a10, (a11, _)))), (a12, (a13, _))) =>
 (L1 ((a8, (a9, (a10, ((IntKind.wrap .i64 (a11 + 1)), ())))), (a12, (a13, ()))))) fun J14 =>
 (atc a3 a5 fun a15 =>
 (optc (bound_Latest fu a6 a15) fun (a16, a17) =>
 (optc (escalate_Due fu a15) fun (a18, a19) =>
 (cnd a17
 (cnd a19
 (cnd (decide (a16 < a2))
 (optc (audit_findings_0 fu a7 (D.Page.ID a15) (true :: [])) fun a20 =>
 (J14 ((a2, (a3, (a4, (a5, ())))), (a6, (a20, ())))))
 (optc (audit_findings_0 fu a7 (D.Page.ID a15) (false :: [])) fun a21 =>
 (J14 ((a2, (a3, (a4, (a5, ())))), (a6, (a21, ()))))))
 (optc (audit_findings_0 fu a7 (D.Page.ID a15) (false :: [])) fun a22 =>
 (J14 ((a2, (a3, (a4, (a5, ())))), (a6, (a22, ()))))))
 (optc (audit_findings_0 fu a7 (D.Page.ID a15) (false :: [])) fun a23 =>
 (J14 ((a2, (a3, (a4, (a5, ())))), (a6, (a23, ()))))))))))
 (some a7))) fu ((p2, ((D.Ledger.Pages p1), ((((List.length (D.Ledger.Pages p1)) : Nat) : Int), (0, ())))), (p0, ([], ()))))))
def audit_Late_g (fu : Nat) : Sig := mkSig [.st .Book, .st .Ledger, nI] [] [.one (.lst .int)] [] [] (List Int) (fun q => ((q, ()), ())) (fun x y => audit_Late fu x.1 x.2.1 x.2.2.1)
theorem audit_Late_ok (fu : Nat) : FnOK Tryz.prog 26 (audit_Late_g fu) :=
 FnOK.intro (ty := ty) (E := envL [(43, 0, escalate_Due_g fu), (64, 0, audit_findings_0_g fu), (68, 0, oplog_Check_g fu), (69, 0, bound_Latest_g fu)]) (fu := fu) (an := .two .go (.two .go (.two .go (.two (.two .go (.one (.loop [(2, nI), (3, .one (.ref 1003)), (7, .one (.own 2048101)), (18, .one (.lst .Page)), (19, nI), (20, nI)] [(1003, .boxst .Book), (2048101, .arr .int)] (.two .go (.two .go (.two (.join [(2, nI), (3, .one (.ref 1003)), (7, .one (.own 2048101)), (18, .one (.lst .Page)), (19, nI), (20, nI)] [(1003, .boxst .Book), (2048101, .arr .int)] .go) .go)))))) .go)))) (fun a b => a.1) (fun _ _ => rfl) (envL_ok ⟨escalate_Due_ok fu, audit_findings_0_ok fu, oplog_Check_ok fu, bound_Latest_ok fu, trivial⟩) Tryz.func26 rfl rfl (fun x y => by kernel_rfl)
def r29_Closed (fu : Nat) (p0 : D.Page) : Option (Bool) :=
 (cnd (decide ((D.Page.State p0) = 3))
 (some true)
 (cnd (decide ((D.Page.State p0) = 4))
 (some true)
 (some false)))
def r29_Closed_g (fu : Nat) : Sig := mkSig [.st .Page] [] [.one (.boo)] [] [] (Bool) (fun q => ((q, ()), ())) (fun x y => r29_Closed fu x.1)
theorem r29_Closed_ok (fu : Nat) : FnOK Tryz.prog 28 (r29_Closed_g fu) :=
 FnOK.intro (ty := ty) (E := envL []) (fu := fu) (an := .go) (fun a b => a.1) (fun _ _ => rfl) (envL_ok (l := []) trivial) Tryz.func28 rfl rfl (fun x y => by kernel_rfl)
def law45_AuditLate (fu : Nat) (p0 : List Int) : Option (Bool) :=
 (optc (made_Light fu p0) fun a0 =>
 (cnd (!a0)
 (optc (law45_sane fu) fun a1 =>
 (some a1))
 (optc (made_Roll fu p0) fun a2 =>
 (optc (made_Dice_Ledger fu a2 8) fun (a3, (a4, a5)) =>
 (iterF (X := ((List D.Page × (Int × (Int × Unit))) × (D.Ledger × Unit))) (fun L6 ((a7, (a8, (a9, _))), (a10, _)) =>
 (cnd (decide (a9 < a8))
 (join (Y := ((List D.Page × (Int × (Int × Unit))) × (D.Ledger × Unit))) (fun ((a11, (a12, (a13, _))), (a14, _)) =>
 (L6 ((a11, (a12, ((IntKind.wrap .i64 (a13 + 1)), ()))), (a14, ())))) fun J15 =>
 (atc a7 a9 fun a16 =>
 (optc (r29_Due fu a16) fun (a17, a18) =>
 (atc (D.Book.Policies (D.Ledger.Book a10)) (D.Page.Policy a16) fun a19 =>
 (iterF (X := ((Int × (Bool × (Int × (Int × (List D.Page × (Int × (Int × Unit))))))) × (D.Ledger × (D.Page × (D.Policy × Unit))))) (fun L20 ((a21, (a22, (a23, (a24, (a25, (a26, (a27, _))))))), (a28, (a29, (a30, _)))) =>
 (optc (r25_Count fu a30) fun a31 =>
 (cnd (decide (a24 < a31))
 (nzc (((List.length (D.Policy.Steps a30)) : Nat) : Int) (atc (D.Policy.Steps a30) (Int.tmod a24 (((List.length (D.Policy.Steps a30)) : Nat) : Int)) fun a32 =>
 (L20 ((a21, (a22, ((IntKind.wrap .i64 (a23 + (D.PolicyStep.Wait a32))), ((IntKind.wrap .i64 (a24 + 1)), (a25, (a26, (a27, ()))))))), (a28, (a29, (a30, ())))))))
 (join (Y := ((Int × (Bool × (Int × (List D.Page × (Int × (Int × Unit)))))) × (D.Ledger × (D.Page × Unit)))) (fun ((a33, (a34, (a35, (a36, (a37, (a38, _)))))), (a39, (a40, _))) =>
 (optc (r29_Run fu (D.Ledger.Config a39) (D.Ledger.Book a39) a40 (IntKind.wrap .i64 (a33 + a35))) fun (a41, a42) =>
 (cnd (decide (a42 ≠ 0))
 (some false)
 (cnd a34
 (optc (r29_Closed fu a41) fun a43 =>
 (cnd a43
 (J15 ((a36, (a37, (a38, ()))), (a39, ())))
 (some false)))
 (J15 ((a36, (a37, (a38, ()))), (a39, ()))))))) fun J44 =>
 (optc (audit_Late fu (D.Ledger.Book a28) a28 (IntKind.wrap .i64 (a21 + a23))) fun a45 =>
 (optc (r25_Has fu a45 (D.Page.ID a29)) fun a46 =>
 (cnd a46
 (some false)
 (optc (audit_Late fu (D.Ledger.Book a28) a28 (IntKind.wrap .i64 ((IntKind.wrap .i64 (a21 + a23)) + 1))) fun a47 =>
 (optc (r25_Has fu a47 (D.Page.ID a29)) fun a48 =>
 (cnd a48
 (cnd a22
 (J44 ((a21, (a22, (a23, (a25, (a26, (a27, ())))))), (a28, (a29, ()))))
 (some false))
 (cnd a22
 (some false)
 (J44 ((a21, (a22, (a23, (a25, (a26, (a27, ())))))), (a28, (a29, ()))))))))))))))) fu ((a17, (a18, (0, ((D.Page.Next a16), (a7, (a8, (a9, ()))))))), (a10, (a16, (a19, ())))))))))
 (optc (law45_sane fu) fun a49 =>
 (some a49)))) fu (((D.Ledger.Pages a3), ((((List.length (D.Ledger.Pages a3)) : Nat) : Int), (0, ()))), (a3, ())))))))
def law45_AuditLate_g (fu : Nat) : Sig := mkSig [.one (.lst .int)] [] [.one (.boo)] [] [] (Bool) (fun q => ((q, ()), ())) (fun x y => law45_AuditLate fu x.1)
theorem law45_AuditLate_ok (fu : Nat) : FnOK Tryz.prog 4 (law45_AuditLate_g fu) :=
 FnOK.intro (ty := ty) (E := envL [(15, 0, made_Light_g fu), (16, 0, law45_sane_g fu), (17, 0, made_Roll_g fu), (18, 0, made_Dice_Ledger_g fu), (23, 0, r29_Due_g fu), (24, 0, r25_Count_g fu), (25, 0, r25_Has_g fu), (26, 0, audit_Late_g fu), (27, 0, r29_Run_g fu), (28, 0, r29_Closed_g fu)]) (fu := fu) (an := .two .go (.two .go (.two .go (.two .go (.two (.two .go (.one (.loop [(4, .one (.ref 1004)), (27, .one (.lst .Page)), (28, nI), (29, nI)] [(1004, .boxst .Ledger)] (.two .go (.two .go (.two (.join [(4, .one (.ref 1004)), (27, .one (.lst .Page)), (28, nI), (29, nI)] [(1004, .boxst .Ledger)] (.one (.two .go (.two .go (.two .go (.two .go (.two (.two .go (.one (.loop [(4, .one (.ref 1004)), (7, .one (.ref 1007)), (8, nI), (9, .one (.boo)), (10, nI), (11, .one (.ref 1011)), (12, nI), (27, .one (.lst .Page)), (28, nI), (29, nI)] [(1004, .boxst .Ledger), (1007, .boxst .Page), (1011, .boxst .Policy)] .go))) (.two (.join [(4, .one (.ref 1004)), (7, .one (.ref 1007)), (8, nI), (9, .one (.boo)), (10, nI), (27, .one (.lst .Page)), (28, nI), (29, nI)] [(1004, .boxst .Ledger), (1007, .boxst .Page)] .go) .go)))))))) .go)))))) .go))))) (fun a b => a.1) (fun _ _ => rfl) (envL_ok ⟨made_Light_ok fu, law45_sane_ok fu, made_Roll_ok fu, made_Dice_Ledger_ok fu, r29_Due_ok fu, r25_Count_ok fu, r25_Has_ok fu, audit_Late_ok fu, r29_Run_ok fu, r29_Closed_ok fu, trivial⟩) Tryz.func4 rfl rfl (fun x y => by kernel_rfl)
end
end Go.Proofs.YtfhcigjkfelnfaaGreat
