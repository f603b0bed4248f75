/-
  What functions do, reckoned from their code, and their contracts. Printed by wip/gen/brun.py.
-/
import Derived.Test.YtfhcigjkfelnfaaGreatQRowAuditDoublesH
set_option maxRecDepth 100000
set_option linter.unusedVariables false
namespace Go.Proofs.YtfhcigjkfelnfaaGreat
open Go AM
noncomputable section
def made_Light (fu : Nat) (p0 : List Int) : Option (Bool) :=
 (some (decide ((((List.length p0) : Nat) : Int) ≤ 500)))
def made_Light_g (fu : Nat) : Sig := mkSig [.one (.lst .int)] [] [.one (.boo)] [] [] (Bool) (fun q => ((q, ()), ())) (fun x y => made_Light fu x.1)
theorem made_Light_ok (fu : Nat) : FnOK Tryz.prog 15 (made_Light_g fu) :=
 FnOK.intro (ty := ty) (E := envL []) (fu := fu) (an := .go) (fun a b => a.1) (fun _ _ => rfl) (envL_ok (l := []) trivial) Tryz.func15 rfl rfl (fun x y => by kernel_rfl)
def made_Roll (fu : Nat) (p0 : List Int) : Option (D.Dice) :=
 (some (D.Dice.mk p0 0))
def made_Roll_g (fu : Nat) : Sig := mkSig [.one (.lst .int)] [] [.one (.ref 1005)] [(1005, .boxst .Dice)] [] (D.Dice) (fun q => ((), (q, ()))) (fun x y => made_Roll fu x.1)
theorem made_Roll_ok (fu : Nat) : FnOK Tryz.prog 17 (made_Roll_g fu) :=
 FnOK.intro (ty := ty) (E := envL []) (fu := fu) (an := .go) (fun a b => b.1) (fun _ _ => rfl) (envL_ok (l := []) trivial) Tryz.func17 rfl rfl (fun x y => by kernel_rfl)
def policy_in (fu : Nat) (p0 : Int) (p1 : Int) (p2 : Int) : Option (Bool) :=
 (cnd (decide (p1 ≤ p0))
 (cnd (decide (p0 ≤ p2))
 (some true)
 (some false))
 (some false))
def policy_in_g (fu : Nat) : Sig := mkSig [nI, nI, nI] [] [.one (.boo)] [] [] (Bool) (fun q => ((q, ()), ())) (fun x y => policy_in fu x.1 x.2.1 x.2.2.1)
theorem policy_in_ok (fu : Nat) : FnOK Tryz.prog 78 (policy_in_g fu) :=
 FnOK.intro (ty := ty) (E := envL []) (fu := fu) (an := .go) (fun a b => a.1) (fun _ _ => rfl) (envL_ok (l := []) trivial) Tryz.func78 rfl rfl (fun x y => by kernel_rfl)
def policy_Count (fu : Nat) (p0 : D.Policy) : Option (Int) :=
 (join (Y := (Unit × (D.Policy × Unit))) (fun (_, (a0, _)) =>
 (some (IntKind.wrap .i64 ((((List.length (D.Policy.Steps a0)) : Nat) : Int) * (IntKind.wrap .i64 ((D.Policy.Repeat a0) + 1)))))) fun J1 =>
 (optc (policy_in fu (D.Policy.Repeat p0) 0 8) fun a2 =>
 (cnd a2
 (cnd (decide (8 < (((List.length (D.Policy.Steps p0)) : Nat) : Int)))
 (some 0)
 (J1 ((), (p0, ()))))
 (some 0))))
def policy_Count_g (fu : Nat) : Sig := mkSig [.st .Policy] [] [nI] [] [] (Int) (fun q => ((q, ()), ())) (fun x y => policy_Count fu x.1)
theorem policy_Count_ok (fu : Nat) : FnOK Tryz.prog 73 (policy_Count_g fu) :=
 FnOK.intro (ty := ty) (E := envL [(78, 0, policy_in_g fu)]) (fu := fu) (an := .two .go (.two (.join [(1, .one (.ref 1001))] [(1001, .boxst .Policy)] .go) .go)) (fun a b => a.1) (fun _ _ => rfl) (envL_ok ⟨policy_in_ok fu, trivial⟩) Tryz.func73 rfl rfl (fun x y => by kernel_rfl)
def escalate_in (fu : Nat) (p0 : Int) (p1 : Int) (p2 : Int) : Option (Bool) :=
 (cnd (decide (p1 ≤ p0))
 (cnd (decide (p0 ≤ p2))
 (some true)
 (some false))
 (some false))
def escalate_in_g (fu : Nat) : Sig := mkSig [nI, nI, nI] [] [.one (.boo)] [] [] (Bool) (fun q => ((q, ()), ())) (fun x y => escalate_in fu x.1 x.2.1 x.2.2.1)
theorem escalate_in_ok (fu : Nat) : FnOK Tryz.prog 98 (escalate_in_g fu) :=
 FnOK.intro (ty := ty) (E := envL []) (fu := fu) (an := .go) (fun a b => a.1) (fun _ _ => rfl) (envL_ok (l := []) trivial) Tryz.func98 rfl rfl (fun x y => by kernel_rfl)
def escalate_times (fu : Nat) (p0 : D.Page) : Option (Bool) :=
 (optc (escalate_in fu (D.Page.Last p0) (D.Page.Start p0) 17179869184) fun a0 =>
 (cnd a0
 (optc (escalate_in fu (D.Page.Due p0) 0 17179869184) fun a1 =>
 (cnd a1
 (optc (escalate_in fu (D.Page.Until p0) 0 17179869184) fun a2 =>
 (cnd a2
 (optc (escalate_in fu (D.Page.Snoozes p0) 0 4) fun a3 =>
 (cnd a3
 (optc (escalate_in fu (D.Page.Hands p0) 0 4) fun a4 =>
 (cnd a4
 (some true)
 (some false)))
 (some false)))
 (some false)))
 (some false)))
 (some false)))
def escalate_times_g (fu : Nat) : Sig := mkSig [.st .Page] [] [.one (.boo)] [] [] (Bool) (fun q => ((q, ()), ())) (fun x y => escalate_times fu x.1)
theorem escalate_times_ok (fu : Nat) : FnOK Tryz.prog 104 (escalate_times_g fu) :=
 FnOK.intro (ty := ty) (E := envL [(98, 0, escalate_in_g fu)]) (fu := fu) (an := .go) (fun a b => a.1) (fun _ _ => rfl) (envL_ok ⟨escalate_in_ok fu, trivial⟩) Tryz.func104 rfl rfl (fun x y => by kernel_rfl)
def escalate_set (fu : Nat) (p0 : List Int) : Option (Bool) :=
 (iterF (X := ((List Int × (List Int × (Int × (Int × Unit)))) × Unit)) (fun L0 ((a1, (a2, (a3, (a4, _)))), _) =>
 (cnd (decide (a4 < a3))
 (join (Y := ((List Int × (List Int × (Int × (Int × Unit)))) × Unit)) (fun ((a5, (a6, (a7, (a8, _)))), _) =>
 (L0 ((a5, (a6, (a7, ((IntKind.wrap .i64 (a8 + 1)), ())))), ()))) fun J9 =>
 (atc a2 a4 fun a10 =>
 (optc (escalate_in fu a10 0 31) fun a11 =>
 (cnd a11
 (cnd (decide (0 < a4))
 (atc a1 (IntKind.wrap .i64 (a4 - 1)) fun a12 =>
 (cnd (decide (a10 ≤ a12))
 (some false)
 (J9 ((a1, (a2, (a3, (a4, ())))), ()))))
 (J9 ((a1, (a2, (a3, (a4, ())))), ())))
 (some false)))))
 (some true))) fu ((p0, (p0, ((((List.length p0) : Nat) : Int), (0, ())))), ()))
def escalate_set_g (fu : Nat) : Sig := mkSig [.one (.lst .int)] [] [.one (.boo)] [] [] (Bool) (fun q => ((q, ()), ())) (fun x y => escalate_set fu x.1)
theorem escalate_set_ok (fu : Nat) : FnOK Tryz.prog 106 (escalate_set_g fu) :=
 FnOK.intro (ty := ty) (E := envL [(98, 0, escalate_in_g fu)]) (fu := fu) (an := .two .go (.two (.two .go (.one (.loop [(0, .one (.lst .int)), (5, .one (.lst .int)), (6, nI), (7, nI)] [] (.two .go (.two .go (.two (.join [(0, .one (.lst .int)), (5, .one (.lst .int)), (6, nI), (7, nI)] [] .go) .go)))))) .go)) (fun a b => a.1) (fun _ _ => rfl) (envL_ok ⟨escalate_in_ok fu, trivial⟩) Tryz.func106 rfl rfl (fun x y => by kernel_rfl)
def escalate_started (fu : Nat) (p0 : D.Page) : Option (Bool) :=
 (iterF (X := ((Int × (Int × (List D.Start × (Int × (Int × Unit))))) × (D.Page × Unit))) (fun L0 ((a1, (a2, (a3, (a4, (a5, _))))), (a6, _)) =>
 (cnd (decide (a5 < a4))
 (atc a3 a5 fun a7 =>
 (join (Y := ((Int × (List D.Start × (Int × (Int × Unit)))) × (D.Page × (D.Start × Unit)))) (fun ((a8, (a9, (a10, (a11, _)))), (a12, (a13, _))) =>
 (L0 (((D.Start.At a13), ((max a8 (D.Start.K a13)), (a9, (a10, ((IntKind.wrap .i64 (a11 + 1)), ()))))), (a12, ())))) fun J14 =>
 (cnd (decide ((D.Start.At a7) < a1))
 (some false)
 (optc (escalate_set fu (D.Start.People a7)) fun a15 =>
 (cnd a15
 (cnd (decide ((D.Start.K a7) ≠ (-1)))
 (optc (escalate_in fu (D.Start.K a7) (IntKind.wrap .i64 (a2 + 1)) (IntKind.wrap .i64 ((D.Page.Next a6) - 1))) fun a16 =>
 (cnd a16
 (J14 ((a2, (a3, (a4, (a5, ())))), (a6, (a7, ()))))
 (some false)))
 (J14 ((a2, (a3, (a4, (a5, ())))), (a6, (a7, ())))))
 (some false))))))
 (some (decide ((((List.length (D.Page.Starts a6)) : Nat) : Int) ≤ 200))))) fu (((D.Page.Start p0), ((-1), ((D.Page.Starts p0), ((((List.length (D.Page.Starts p0)) : Nat) : Int), (0, ()))))), (p0, ())))
def escalate_started_g (fu : Nat) : Sig := mkSig [.st .Page] [] [.one (.boo)] [] [] (Bool) (fun q => ((q, ()), ())) (fun x y => escalate_started fu x.1)
theorem escalate_started_ok (fu : Nat) : FnOK Tryz.prog 105 (escalate_started_g fu) :=
 FnOK.intro (ty := ty) (E := envL [(98, 0, escalate_in_g fu), (106, 0, escalate_set_g fu)]) (fu := fu) (an := .two .go (.two .go (.two (.two .go (.one (.loop [(1, .one (.ref 1001)), (3, nI), (4, nI), (10, .one (.lst .Start)), (11, nI), (12, nI)] [(1001, .boxst .Page)] (.two .go (.two .go (.two (.one (.two .go (.two (.join [(1, .one (.ref 1001)), (4, nI), (6, .one (.ref 1006)), (10, .one (.lst .Start)), (11, nI), (12, nI)] [(1001, .boxst .Page), (1006, .boxst .Start)] .go) .go))) .go)))))) .go))) (fun a b => a.1) (fun _ _ => rfl) (envL_ok ⟨escalate_in_ok fu, escalate_set_ok fu, trivial⟩) Tryz.func105 rfl rfl (fun x y => by kernel_rfl)
def slices_Index_int (fu : Nat) (p0 : List Int) (p1 : Int) : Option (Int) :=
 (iterF (X := ((List Int × P3) × Unit)) (fun L0 ((a1, (a2, (a3, (a4, _)))), _) =>
 (cnd (decide (a4 < a3))
 (atc a1 a4 fun a5 =>
 (cnd (decide (a2 = a5))
 (some a4)
 (L0 ((a1, (a2, (a3, ((IntKind.wrap .i64 (a4 + 1)), ())))), ()))))
 (some (-1)))) fu ((p0, (p1, ((((List.length p0) : Nat) : Int), (0, ())))), ()))
def slices_Index_int_g (fu : Nat) : Sig := mkSig [.one (.lst .int), nI] [] [nI] [] [] (Int) (fun q => ((q, ()), ())) (fun x y => slices_Index_int fu x.1 x.2.1)
theorem slices_Index_int_ok (fu : Nat) : FnOK Tryz.prog 137 (slices_Index_int_g fu) :=
 FnOK.intro (ty := ty) (E := envL []) (fu := fu) (an := .two .go (.two (.two .go (.one (.loop [(0, .one (.lst .int)), (1, nI), (7, nI), (8, nI)] [] .go))) .go)) (fun a b => a.1) (fun _ _ => rfl) (envL_ok (l := []) trivial) Tryz.func137 rfl rfl (fun x y => by kernel_rfl)
def slices_Contains_int (fu : Nat) (p0 : List Int) (p1 : Int) : Option (Bool) :=
 (optc (slices_Index_int fu p0 p1) fun a0 =>
 (some (decide (0 ≤ a0))))
def slices_Contains_int_g (fu : Nat) : Sig := mkSig [.one (.lst .int), nI] [] [.one (.boo)] [] [] (Bool) (fun q => ((q, ()), ())) (fun x y => slices_Contains_int fu x.1 x.2.1)
theorem slices_Contains_int_ok (fu : Nat) : FnOK Tryz.prog 90 (slices_Contains_int_g fu) :=
 FnOK.intro (ty := ty) (E := envL [(137, 0, slices_Index_int_g fu)]) (fu := fu) (an := .go) (fun a b => a.1) (fun _ _ => rfl) (envL_ok ⟨slices_Index_int_ok fu, trivial⟩) Tryz.func90 rfl rfl (fun x y => by kernel_rfl)
def escalate_seen (fu : Nat) (p0 : List Int) : Option (Bool) :=
 (iterF (X := ((List Int × (List Int × (Int × (Int × Unit)))) × Unit)) (fun L0 ((a1, (a2, (a3, (a4, _)))), _) =>
 (cnd (decide (a4 < a3))
 (atc a2 a4 fun a5 =>
 (natc a4 fun a6 =>
 (lec a6 (List.length a1) (optc (slices_Contains_int fu (List.take a6 a1) a5) fun a7 =>
 (cnd a7
 (some false)
 (L0 ((a1, (a2, (a3, ((IntKind.wrap .i64 (a4 + 1)), ())))), ())))))))
 (some (decide ((((List.length a1) : Nat) : Int) ≤ 64))))) fu ((p0, (p0, ((((List.length p0) : Nat) : Int), (0, ())))), ()))
def escalate_seen_g (fu : Nat) : Sig := mkSig [.one (.lst .int)] [] [.one (.boo)] [] [] (Bool) (fun q => ((q, ()), ())) (fun x y => escalate_seen fu x.1)
theorem escalate_seen_ok (fu : Nat) : FnOK Tryz.prog 107 (escalate_seen_g fu) :=
 FnOK.intro (ty := ty) (E := envL [(90, 0, slices_Contains_int_g fu)]) (fu := fu) (an := .two .go (.two (.two .go (.one (.loop [(0, .one (.lst .int)), (5, .one (.lst .int)), (6, nI), (7, nI)] [] .go))) .go)) (fun a b => a.1) (fun _ _ => rfl) (envL_ok ⟨slices_Contains_int_ok fu, trivial⟩) Tryz.func107 rfl rfl (fun x y => by kernel_rfl)
def escalate_Check_1 (fu : Nat) (p0 : D.PolicyStep) : Option (Bool) :=
 (optc (escalate_in fu (D.PolicyStep.Wait p0) 0 86400) fun a0 =>
 (some (!a0)))
def escalate_Check_1_g (fu : Nat) : Sig := mkSig [.st .PolicyStep] [] [.one (.boo)] [] [] (Bool) (fun q => ((q, ()), ())) (fun x y => escalate_Check_1 fu x.1)
theorem escalate_Check_1_ok (fu : Nat) : FnOK Tryz.prog 103 (escalate_Check_1_g fu) :=
 FnOK.intro (ty := ty) (E := envL [(98, 0, escalate_in_g fu)]) (fu := fu) (an := .go) (fun a b => a.1) (fun _ _ => rfl) (envL_ok ⟨escalate_in_ok fu, trivial⟩) Tryz.func103 rfl rfl (fun x y => by kernel_rfl)
def slices_IndexFunc_PolicyStep_1Fescalate_Check_1 (fu : Nat) (p0 : List D.PolicyStep) : Option (Int) :=
 (iterF (X := ((List D.PolicyStep × (Int × (Int × Unit))) × Unit)) (fun L0 ((a1, (a2, (a3, _))), _) =>
 (cnd (decide (a3 < a2))
 (atc a1 a3 fun a4 =>
 (optc (escalate_Check_1 fu a4) fun a5 =>
 (cnd a5
 (some a3)
 (L0 ((a1, (a2, ((IntKind.wrap .i64 (a3 + 1)), ()))), ())))))
 (some (-1)))) fu ((p0, ((((List.length p0) : Nat) : Int), (0, ()))), ()))
def slices_IndexFunc_PolicyStep_1Fescalate_Check_1_g (fu : Nat) : Sig := mkSig [.one (.lst .PolicyStep), .one (.fv 103)] [] [nI] [] [] (Int) (fun q => ((q, ()), ())) (fun x y => slices_IndexFunc_PolicyStep_1Fescalate_Check_1 fu x.1)
theorem slices_IndexFunc_PolicyStep_1Fescalate_Check_1_ok (fu : Nat) : FnOK Tryz.prog 146 (slices_IndexFunc_PolicyStep_1Fescalate_Check_1_g fu) :=
 FnOK.intro (ty := ty) (E := envL [(103, 0, escalate_Check_1_g fu)]) (fu := fu) (an := .two .go (.two (.two .go (.one (.loop [(0, .one (.lst .PolicyStep)), (1, .one (.fv 103)), (7, nI), (8, nI)] [] .go))) .go)) (fun a b => a.1) (fun _ _ => rfl) (envL_ok ⟨escalate_Check_1_ok fu, trivial⟩) Tryz.func146 rfl rfl (fun x y => by kernel_rfl)
def slices_ContainsFunc_PolicyStep_1Fescalate_Check_1 (fu : Nat) (p0 : List D.PolicyStep) : Option (Bool) :=
 (optc (slices_IndexFunc_PolicyStep_1Fescalate_Check_1 fu p0) fun a0 =>
 (some (decide (0 ≤ a0))))
def slices_ContainsFunc_PolicyStep_1Fescalate_Check_1_g (fu : Nat) : Sig := mkSig [.one (.lst .PolicyStep), .one (.fv 103)] [] [.one (.boo)] [] [] (Bool) (fun q => ((q, ()), ())) (fun x y => slices_ContainsFunc_PolicyStep_1Fescalate_Check_1 fu x.1)
theorem slices_ContainsFunc_PolicyStep_1Fescalate_Check_1_ok (fu : Nat) : FnOK Tryz.prog 102 (slices_ContainsFunc_PolicyStep_1Fescalate_Check_1_g fu) :=
 FnOK.intro (ty := ty) (E := envL [(146, 0, slices_IndexFunc_PolicyStep_1Fescalate_Check_1_g fu)]) (fu := fu) (an := .go) (fun a b => a.1) (fun _ _ => rfl) (envL_ok ⟨slices_IndexFunc_PolicyStep_1Fescalate_Check_1_ok fu, trivial⟩) Tryz.func102 rfl rfl (fun x y => by kernel_rfl)
def escalate_Check (fu : Nat) (p0 : D.Book) (p1 : D.Page) : Option (Bool) :=
 (join (Y := (Unit × (D.Book × (D.Page × Unit)))) (fun (_, (a0, (a1, _))) =>
 (atc (D.Book.Policies a0) (D.Page.Policy a1) fun a2 =>
 (join (Y := (Unit × (D.Page × Unit))) (fun (_, (a3, _)) =>
 (optc (escalate_in fu (D.Page.State a3) 0 4) fun a4 =>
 (cnd a4
 (optc (escalate_in fu (D.Page.By a3) (-1) 31) fun a5 =>
 (cnd a5
 (optc (escalate_times fu a3) fun a6 =>
 (cnd a6
 (optc (escalate_started fu a3) fun a7 =>
 (cnd a7
 (optc (escalate_set fu (D.Page.Declined a3)) fun a8 =>
 (cnd a8
 (optc (escalate_seen fu (D.Page.Seen a3)) fun a9 =>
 (cnd a9
 (some true)
 (some false)))
 (some false)))
 (some false)))
 (some false)))
 (some false)))
 (some false)))) fun J10 =>
 (optc (slices_ContainsFunc_PolicyStep_1Fescalate_Check_1 fu (D.Policy.Steps a2)) fun a11 =>
 (cnd a11
 (some false)
 (optc (policy_Count fu a2) fun a12 =>
 (optc (escalate_in fu (D.Page.Next a1) 0 a12) fun a13 =>
 (cnd a13
 (J10 ((), (a1, ())))
 (some false))))))))) fun J14 =>
 (optc (escalate_in fu (D.Page.ID p1) 1 999999) fun a15 =>
 (cnd a15
 (optc (escalate_in fu (D.Page.Policy p1) 0 (IntKind.wrap .i64 ((((List.length (D.Book.Policies p0)) : Nat) : Int) - 1))) fun a16 =>
 (cnd a16
 (optc (escalate_in fu (D.Page.Start p1) 0 8589934592) fun a17 =>
 (cnd a17
 (J14 ((), (p0, (p1, ()))))
 (some false)))
 (some false)))
 (some false))))
def escalate_Check_g (fu : Nat) : Sig := mkSig [.st .Book, .st .Page] [] [.one (.boo)] [] [] (Bool) (fun q => ((q, ()), ())) (fun x y => escalate_Check fu x.1 x.2.1)
theorem escalate_Check_ok (fu : Nat) : FnOK Tryz.prog 56 (escalate_Check_g fu) :=
 FnOK.intro (ty := ty) (E := envL [(73, 0, policy_Count_g fu), (98, 0, escalate_in_g fu), (102, 0, slices_ContainsFunc_PolicyStep_1Fescalate_Check_1_g fu), (104, 0, escalate_times_g fu), (105, 0, escalate_started_g fu), (106, 0, escalate_set_g fu), (107, 0, escalate_seen_g fu)]) (fu := fu) (an := .two .go (.two (.join [(2, .one (.ref 1002)), (3, .one (.ref 1003))] [(1002, .boxst .Book), (1003, .boxst .Page)] .go) (.two .go (.two (.join [(3, .one (.ref 1003))] [(1003, .boxst .Page)] .go) .go)))) (fun a b => a.1) (fun _ _ => rfl) (envL_ok ⟨policy_Count_ok fu, escalate_in_ok fu, slices_ContainsFunc_PolicyStep_1Fescalate_Check_1_ok fu, escalate_times_ok fu, escalate_started_ok fu, escalate_set_ok fu, escalate_seen_ok fu, trivial⟩) Tryz.func56 rfl rfl (fun x y => by kernel_rfl)
def audit_Steps (fu : Nat) (p0 : D.Book) (p1 : D.Page) : Option (Bool) :=
 (optc (escalate_Check fu p0 p1) fun a0 =>
 (cnd (!a0)
 (some false)
 (iterF (X := ((Int × (Int × (List D.Start × (Int × (Int × Unit))))) × (D.Page × Unit))) (fun L1 ((a2, (a3, (a4, (a5, (a6, _))))), (a7, _)) =>
 (cnd (decide (a6 < a5))
 (join (Y := ((Int × (Int × (List D.Start × (Int × (Int × Unit))))) × (D.Page × Unit))) (fun ((a8, (a9, (a10, (a11, (a12, _))))), (a13, _)) =>
 (L1 ((a8, (a9, (a10, (a11, ((IntKind.wrap .i64 (a12 + 1)), ()))))), (a13, ())))) fun J14 =>
 (atc a4 a6 fun a15 =>
 (join (Y := ((Int × (List D.Start × (Int × (Int × Unit)))) × (D.Page × (D.Start × Unit)))) (fun ((a16, (a17, (a18, (a19, _)))), (a20, (a21, _))) =>
 (cnd (decide ((D.Start.K a21) ≠ (-1)))
 (J14 (((IntKind.wrap .i64 (a16 + 1)), ((D.Start.At a21), (a17, (a18, (a19, ()))))), (a20, ())))
 (J14 ((a16, ((D.Start.At a21), (a17, (a18, (a19, ()))))), (a20, ()))))) fun J22 =>
 (cnd (decide ((D.Start.At a15) < a3))
 (some false)
 (cnd (decide (a6 = 0))
 (cnd (decide ((D.Start.At a15) ≠ a3))
 (some false)
 (cnd (decide ((D.Start.K a15) ≠ (-1)))
 (cnd (decide ((D.Start.K a15) ≠ a2))
 (some false)
 (J22 ((a2, (a4, (a5, (a6, ())))), (a7, (a15, ())))))
 (J22 ((a2, (a4, (a5, (a6, ())))), (a7, (a15, ()))))))
 (cnd (decide ((D.Start.K a15) ≠ (-1)))
 (cnd (decide ((D.Start.K a15) ≠ a2))
 (some false)
 (J22 ((a2, (a4, (a5, (a6, ())))), (a7, (a15, ())))))
 (J22 ((a2, (a4, (a5, (a6, ())))), (a7, (a15, ()))))))))))
 (some (decide (a2 = (D.Page.Next a7)))))) fu ((0, ((D.Page.Start p1), ((D.Page.Starts p1), ((((List.length (D.Page.Starts p1)) : Nat) : Int), (0, ()))))), (p1, ())))))
def audit_Steps_g (fu : Nat) : Sig := mkSig [.st .Book, .st .Page] [] [.one (.boo)] [] [] (Bool) (fun q => ((q, ()), ())) (fun x y => audit_Steps fu x.1 x.2.1)
theorem audit_Steps_ok (fu : Nat) : FnOK Tryz.prog 39 (audit_Steps_g fu) :=
 FnOK.intro (ty := ty) (E := envL [(56, 0, escalate_Check_g fu)]) (fu := fu) (an := .two .go (.two .go (.two .go (.two (.two .go (.one (.loop [(3, .one (.ref 1003)), (5, nI), (6, nI), (16, .one (.lst .Start)), (17, nI), (18, nI)] [(1003, .boxst .Page)] (.two .go (.two .go (.two (.join [(3, .one (.ref 1003)), (5, nI), (6, nI), (16, .one (.lst .Start)), (17, nI), (18, nI)] [(1003, .boxst .Page)] (.one (.two .go (.two (.join [(3, .one (.ref 1003)), (5, nI), (8, .one (.ref 1008)), (16, .one (.lst .Start)), (17, nI), (18, nI)] [(1003, .boxst .Page), (1008, .boxst .Start)] .go) .go)))) .go)))))) .go)))) (fun a b => a.1) (fun _ _ => rfl) (envL_ok ⟨escalate_Check_ok fu, trivial⟩) Tryz.func39 rfl rfl (fun x y => by kernel_rfl)
def math_bits_Len64 (fu : Nat) (p0 : Int) : Option (Int) :=
 (join (Y := ((Int × (Int × Unit)) × Unit)) (fun ((a0, (a1, _)), _) =>
 (join (Y := ((Int × (Int × Unit)) × Unit)) (fun ((a2, (a3, _)), _) =>
 (join (Y := ((Int × (Int × Unit)) × Unit)) (fun ((a4, (a5, _)), _) =>
 (natc (IntKind.wrap .u8 a4) fun a6 =>
 (ltc a6 (ByteArray.size (ByteArray.mk (List.toArray (List.append (List.append (0 :: (1 :: (2 :: (2 :: (3 :: (3 :: (3 :: (3 :: (4 :: (4 :: (4 :: (4 :: (4 :: (4 :: (4 :: (4 :: (5 :: (5 :: (5 :: (5 :: (5 :: (5 :: (5 :: (5 :: (5 :: (5 :: (5 :: (5 :: (5 :: (5 :: (5 :: (5 :: (6 :: (6 :: (6 :: (6 :: (6 :: (6 :: (6 :: (6 :: (6 :: (6 :: (6 :: (6 :: (6 :: (6 :: (6 :: (6 :: (6 :: (6 :: (6 :: (6 :: (6 :: (6 :: (6 :: (6 :: (6 :: (6 :: (6 :: (6 :: (6 :: (6 :: (6 :: (6 :: [])))))))))))))))))))))))))))))))))))))))))))))))))))))))))))))))) (7 :: (7 :: (7 :: (7 :: (7 :: (7 :: (7 :: (7 :: (7 :: (7 :: (7 :: (7 :: (7 :: (7 :: (7 :: (7 :: (7 :: (7 :: (7 :: (7 :: (7 :: (7 :: (7 :: (7 :: (7 :: (7 :: (7 :: (7 :: (7 :: (7 :: (7 :: (7 :: (7 :: (7 :: (7 :: (7 :: (7 :: (7 :: (7 :: (7 :: (7 :: (7 :: (7 :: (7 :: (7 :: (7 :: (7 :: (7 :: (7 :: (7 :: (7 :: (7 :: (7 :: (7 :: (7 :: (7 :: (7 :: (7 :: (7 :: (7 :: (7 :: (7 :: (7 :: (7 :: []))))))))))))))))))))))))))))))))))))))))))))))))))))))))))))))))) (List.append (8 :: (8 :: (8 :: (8 :: (8 :: (8 :: (8 :: (8 :: (8 :: (8 :: (8 :: (8 :: (8 :: (8 :: (8 :: (8 :: (8 :: (8 :: (8 :: (8 :: (8 :: (8 :: (8 :: (8 :: (8 :: (8 :: (8 :: (8 :: (8 :: (8 :: (8 :: (8 :: (8 :: (8 :: (8 :: (8 :: (8 :: (8 :: (8 :: (8 :: (8 :: (8 :: (8 :: (8 :: (8 :: (8 :: (8 :: (8 :: (8 :: (8 :: (8 :: (8 :: (8 :: (8 :: (8 :: (8 :: (8 :: (8 :: (8 :: (8 :: (8 :: (8 :: (8 :: (8 :: [])))))))))))))))))))))))))))))))))))))))))))))))))))))))))))))))) (8 :: (8 :: (8 :: (8 :: (8 :: (8 :: (8 :: (8 :: (8 :: (8 :: (8 :: (8 :: (8 :: (8 :: (8 :: (8 :: (8 :: (8 :: (8 :: (8 :: (8 :: (8 :: (8 :: (8 :: (8 :: (8 :: (8 :: (8 :: (8 :: (8 :: (8 :: (8 :: (8 :: (8 :: (8 :: (8 :: (8 :: (8 :: (8 :: (8 :: (8 :: (8 :: (8 :: (8 :: (8 :: (8 :: (8 :: (8 :: (8 :: (8 :: (8 :: (8 :: (8 :: (8 :: (8 :: (8 :: (8 :: (8 :: (8 :: (8 :: (8 :: (8 :: (8 :: (8 :: []))))))))))))))))))))))))))))))))))))))))))))))))))))))))))))))))))))) (some (IntKind.wrap .i64 (a5 + (IntKind.wrap .i64 (((bAt (ByteArray.mk (List.toArray (List.append (List.append (0 :: (1 :: (2 :: (2 :: (3 :: (3 :: (3 :: (3 :: (4 :: (4 :: (4 :: (4 :: (4 :: (4 :: (4 :: (4 :: (5 :: (5 :: (5 :: (5 :: (5 :: (5 :: (5 :: (5 :: (5 :: (5 :: (5 :: (5 :: (5 :: (5 :: (5 :: (5 :: (6 :: (6 :: (6 :: (6 :: (6 :: (6 :: (6 :: (6 :: (6 :: (6 :: (6 :: (6 :: (6 :: (6 :: (6 :: (6 :: (6 :: (6 :: (6 :: (6 :: (6 :: (6 :: (6 :: (6 :: (6 :: (6 :: (6 :: (6 :: (6 :: (6 :: (6 :: (6 :: [])))))))))))))))))))))))))))))))))))))))))))))))))))))))))))))))) (7 :: (7 :: (7 :: (7 :: (7 :: (7 :: (7 :: (7 :: (7 :: (7 :: (7 :: (7 :: (7 :: (7 :: (7 :: (7 :: (7 :: (7 :: (7 :: (7 :: (7 :: (7 :: (7 :: (7 :: (7 :: (7 :: (7 :: (7 :: (7 :: (7 :: (7 :: (7 :: (7 :: (7 :: (7 :: (7 :: (7 :: (7 :: (7 :: (7 :: (7 :: (7 :: (7 :: (7 :: (7 :: (7 :: (7 :: (7 :: (7 :: (7 :: (7 :: (7 :: (7 :: (7 :: (7 :: (7 :: (7 :: (7 :: (7 :: (7 :: (7 :: (7 :: (7 :: (7 :: []))))))))))))))))))))))))))))))))))))))))))))))))))))))))))))))))) (List.append (8 :: (8 :: (8 :: (8 :: (8 :: (8 :: (8 :: (8 :: (8 :: (8 :: (8 :: (8 :: (8 :: (8 :: (8 :: (8 :: (8 :: (8 :: (8 :: (8 :: (8 :: (8 :: (8 :: (8 :: (8 :: (8 :: (8 :: (8 :: (8 :: (8 :: (8 :: (8 :: (8 :: (8 :: (8 :: (8 :: (8 :: (8 :: (8 :: (8 :: (8 :: (8 :: (8 :: (8 :: (8 :: (8 :: (8 :: (8 :: (8 :: (8 :: (8 :: (8 :: (8 :: (8 :: (8 :: (8 :: (8 :: (8 :: (8 :: (8 :: (8 :: (8 :: (8 :: (8 :: [])))))))))))))))))))))))))))))))))))))))))))))))))))))))))))))))) (8 :: (8 :: (8 :: (8 :: (8 :: (8 :: (8 :: (8 :: (8 :: (8 :: (8 :: (8 :: (8 :: (8 :: (8 :: (8 :: (8 :: (8 :: (8 :: (8 :: (8 :: (8 :: (8 :: (8 :: (8 :: (8 :: (8 :: (8 :: (8 :: (8 :: (8 :: (8 :: (8 :: (8 :: (8 :: (8 :: (8 :: (8 :: (8 :: (8 :: (8 :: (8 :: (8 :: (8 :: (8 :: (8 :: (8 :: (8 :: (8 :: (8 :: (8 :: (8 :: (8 :: (8 :: (8 :: (8 :: (8 :: (8 :: (8 :: (8 :: (8 :: (8 :: (8 :: (8 :: [])))))))))))))))))))))))))))))))))))))))))))))))))))))))))))))))))))) a6) : Nat) : Int)))))))) fun J7 =>
 (cnd (decide (256 ≤ a2))
 none
 (J7 ((a2, (a3, ())), ()))))) fun J8 =>
 (cnd (decide (65536 ≤ a0))
 none
 (J8 ((a0, (a1, ())), ()))))) fun J9 =>
 (cnd (decide (4294967296 ≤ p0))
 none
 (J9 ((p0, (0, ())), ()))))
def math_bits_Len64_g (fu : Nat) : Sig := mkSig [.one (.num .u64)] [] [nI] [] [] (Int) (fun q => ((q, ()), ())) (fun x y => math_bits_Len64 fu x.1)
theorem math_bits_Len64_ok (fu : Nat) : FnOK Tryz.prog 166 (math_bits_Len64_g fu) :=
 FnOK.intro (ty := ty) (E := envL []) (fu := fu) (an := .two .go (.two (.join [(0, .one (.num .u64)), (2, nI)] [] .go) (.two (.join [(0, .one (.num .u64)), (2, nI)] [] .go) (.two (.join [(0, .one (.num .u64)), (2, nI)] [] .go) .go)))) (fun a b => a.1) (fun _ _ => rfl) (envL_ok (l := []) trivial) Tryz.func166 rfl rfl (fun x y => by kernel_rfl)
def math_bits_Len (fu : Nat) (p0 : Int) : Option (Int) :=
 (optc (math_bits_Len64 fu p0) fun a0 =>
 (some a0))
def math_bits_Len_g (fu : Nat) : Sig := mkSig [.one (.num .u64)] [] [nI] [] [] (Int) (fun q => ((q, ()), ())) (fun x y => math_bits_Len fu x.1)
theorem math_bits_Len_ok (fu : Nat) : FnOK Tryz.prog 116 (math_bits_Len_g fu) :=
 FnOK.intro (ty := ty) (E := envL [(166, 0, math_bits_Len64_g fu)]) (fu := fu) (an := .go) (fun a b => a.1) (fun _ _ => rfl) (envL_ok ⟨math_bits_Len64_ok fu, trivial⟩) Tryz.func116 rfl rfl (fun x y => by kernel_rfl)
def audit_findings_0 (fu : Nat) (p0 : List (Int)) (p1 : Int) (p2 : List Bool) : Option (List (Int)) :=
 (iterF (X := ((Int × (List Bool × (Int × (Int × Unit)))) × (List Int × Unit))) (fun L0 ((a1, (a2, (a3, (a4, _)))), (a5, _)) =>
 (cnd (decide (a4 < a3))
 (join (Y := ((Int × (List Bool × (Int × (Int × Unit)))) × (List Int × Unit))) (fun ((a6, (a7, (a8, (a9, _)))), (a10, _)) =>
 (L0 ((a6, (a7, (a8, ((IntKind.wrap .i64 (a9 + 1)), ())))), (a10, ())))) fun J11 =>
 (atc a2 a4 fun a12 =>
 (cnd a12
 (lec ((List.length a5) + (List.length (a1 :: []))) 34359738368 (J11 ((a1, (a2, (a3, (a4, ())))), ((a5 ++ (a1 :: [])), ()))))
 (J11 ((a1, (a2, (a3, (a4, ())))), (a5, ()))))))
 (some a5))) fu ((p1, (p2, ((((List.length p2) : Nat) : Int), (0, ())))), (p0, ())))
def audit_findings_0_g (fu : Nat) : Sig := mkSig [.one (.own 101), nI, .one (.lst .bool)] [(101, .arr .int)] [.one (.own 101)] [(101, .arr .int)] [] (List (Int)) (fun q => ((), (q, ()))) (fun x y => audit_findings_0 fu y.1 x.1 x.2.1)
theorem audit_findings_0_ok (fu : Nat) : FnOK Tryz.prog 64 (audit_findings_0_g fu) :=
 FnOK.intro (ty := ty) (E := envL []) (fu := fu) (an := .two .go (.two (.two .go (.one (.loop [(0, .one (.own 101)), (1, nI), (9, .one (.lst .bool)), (10, nI), (11, nI)] [(101, .arr .int)] (.two .go (.two .go (.two (.join [(0, .one (.own 101)), (1, nI), (9, .one (.lst .bool)), (10, nI), (11, nI)] [(101, .arr .int)] .go) .go)))))) .go)) (fun a b => b.1) (fun _ _ => rfl) (envL_ok (l := []) trivial) Tryz.func64 rfl rfl (fun x y => by kernel_rfl)
def slices_insertionSortOrdered_int_0 (fu : Nat) (p0 : List (Int)) (p1 : Int) (p2 : Int) : Option (List (Int)) :=
 (iterF (X := (P3 × (List Int × Unit))) (fun L0 ((a1, (a2, (a3, _))), (a4, _)) =>
 (cnd (decide (a3 < a2))
 (join (Y := (P3 × (List Int × Unit))) (fun ((a5, (a6, (a7, _))), (a8, _)) =>
 (L0 ((a5, (a6, ((IntKind.wrap .i64 (a7 + 1)), ()))), (a8, ())))) fun J9 =>
 (iterF (X := (P4 × (List Int × Unit))) (fun L10 ((a11, (a12, (a13, (a14, _)))), (a15, _)) =>
 (join (Y := (P4 × (List Int × Unit))) (fun ((a16, (a17, (a18, (a19, _)))), (a20, _)) =>
 (natc (IntKind.wrap .i64 (a19 - 1)) fun a21 =>
 (ltc a21 (List.length a20) (optc (GetElem?.getElem? a20 a21) fun a22 =>
 (natc a19 fun a23 =>
 (ltc a23 (List.length a20) (optc (GetElem?.getElem? a20 a23) fun a24 =>
 (natc a19 fun a25 =>
 (ltc a25 (List.length a20) (optc (GetElem?.getElem? a20 a25) fun a26 =>
 (natc (IntKind.wrap .i64 (a19 - 1)) fun a27 =>
 (ltc a27 (List.length (List.set a20 a25 a22)) (optc (GetElem?.getElem? (List.set a20 a25 a22) a27) fun a28 =>
 (L10 ((a16, (a17, (a18, ((IntKind.wrap .i64 (a19 - 1)), ())))), ((List.set (List.set a20 a25 a22) a27 a24), ())))))))))))))))) fun J29 =>
 (cnd (decide (a11 < a14))
 (natc a14 fun a30 =>
 (ltc a30 (List.length a15) (optc (GetElem?.getElem? a15 a30) fun a31 =>
 (natc (IntKind.wrap .i64 (a14 - 1)) fun a32 =>
 (ltc a32 (List.length a15) (optc (GetElem?.getElem? a15 a32) fun a33 =>
 (optc (cmp_Less_int fu a31 a33) fun a34 =>
 (cnd a34
 (J29 ((a11, (a12, (a13, (a14, ())))), (a15, ())))
 (J9 ((a11, (a12, (a13, ()))), (a15, ())))))))))))
 (J9 ((a11, (a12, (a13, ()))), (a15, ())))))) fu ((a1, (a2, (a3, (a3, ())))), (a4, ()))))
 (some a4))) fu ((p1, (p2, ((IntKind.wrap .i64 (p1 + 1)), ()))), (p0, ())))
def slices_insertionSortOrdered_int_0_g (fu : Nat) : Sig := mkSig [.one (.own 101), nI, nI] [(101, .arr .int)] [] [(101, .arrs .int)] [] (List (Int)) (fun q => ((), (q, ()))) (fun x y => slices_insertionSortOrdered_int_0 fu y.1 x.1 x.2.1)
theorem slices_insertionSortOrdered_int_0_ok (fu : Nat) : FnOK Tryz.prog 156 (slices_insertionSortOrdered_int_0_g fu) :=
 FnOK.intro (ty := ty) (E := envL [(162, 0, cmp_Less_int_g fu)]) (fu := fu) (an := .two .go (.one (.loop [(0, .one (.own 101)), (1, nI), (2, nI), (6, nI)] [(101, .arr .int)] (.two .go (.two (.join [(0, .one (.own 101)), (1, nI), (2, nI), (6, nI)] [(101, .arr .int)] (.one (.two .go (.one (.loop [(0, .one (.own 101)), (1, nI), (2, nI), (6, nI), (7, nI)] [(101, .arr .int)] (.two (.join [(0, .one (.own 101)), (1, nI), (2, nI), (6, nI), (7, nI)] [(101, .arr .int)] .go) .go)))))) .go))))) (fun a b => b.1) (fun _ _ => rfl) (envL_ok ⟨cmp_Less_int_ok fu, trivial⟩) Tryz.func156 rfl rfl (fun x y => by kernel_rfl)
def slices_pdqsortOrdered_int_0 (fu : Nat) (p0 : List (Int)) (p1 : Int) (p2 : Int) (p3 : Int) : Option (List (Int)) :=
 (iterF (X := ((Int × (Int × (Int × (Bool × (Bool × Unit))))) × (List Int × Unit))) (fun L0 ((a1, (a2, (a3, (a4, (a5, _))))), (a6, _)) =>
 (cnd (decide ((IntKind.wrap .i64 (a2 - a1)) ≤ 12))
 (optc (slices_insertionSortOrdered_int_0 fu a6 a1 a2) fun a7 =>
 (chk (List.length a7) (List.length a6) (some a7)))
 (cnd (decide (a3 = 0))
 none
 (cnd (!a4)
 none
 none)))) fu ((p1, (p2, (p3, (true, (true, ()))))), (p0, ())))
def slices_pdqsortOrdered_int_0_g (fu : Nat) : Sig := mkSig [.one (.own 101), nI, nI, nI] [(101, .arr .int)] [] [(101, .arrs .int)] [] (List (Int)) (fun q => ((), (q, ()))) (fun x y => slices_pdqsortOrdered_int_0 fu y.1 x.1 x.2.1 x.2.2.1)
theorem slices_pdqsortOrdered_int_0_ok (fu : Nat) : FnOK Tryz.prog 115 (slices_pdqsortOrdered_int_0_g fu) :=
 FnOK.intro (ty := ty) (E := envL [(156, 0, slices_insertionSortOrdered_int_0_g fu)]) (fu := fu) (an := .two .go (.two .go (.one (.loop [(0, .one (.own 101)), (1, nI), (2, nI), (3, nI), (8, .one (.boo)), (9, .one (.boo))] [(101, .arr .int)] .go)))) (fun a b => b.1) (fun _ _ => rfl) (envL_ok ⟨slices_insertionSortOrdered_int_0_ok fu, trivial⟩) Tryz.func115 rfl rfl (fun x y => by kernel_rfl)
def slices_Sort_int_0 (fu : Nat) (p0 : List (Int)) : Option (List (Int)) :=
 (optc (math_bits_Len fu (IntKind.wrap .u64 (((List.length p0) : Nat) : Int))) fun a0 =>
 (optc (slices_pdqsortOrdered_int_0 fu p0 0 (((List.length p0) : Nat) : Int) a0) fun a1 =>
 (chk (List.length a1) (List.length p0) (some a1))))
def slices_Sort_int_0_g (fu : Nat) : Sig := mkSig [.one (.own 101)] [(101, .arr .int)] [] [(101, .arrs .int)] [] (List (Int)) (fun q => ((), (q, ()))) (fun x y => slices_Sort_int_0 fu y.1)
theorem slices_Sort_int_0_ok (fu : Nat) : FnOK Tryz.prog 65 (slices_Sort_int_0_g fu) :=
 FnOK.intro (ty := ty) (E := envL [(115, 0, slices_pdqsortOrdered_int_0_g fu), (116, 0, math_bits_Len_g fu)]) (fu := fu) (an := .go) (fun a b => b.1) (fun _ _ => rfl) (envL_ok ⟨slices_pdqsortOrdered_int_0_ok fu, math_bits_Len_ok fu, trivial⟩) Tryz.func65 rfl rfl (fun x y => by kernel_rfl)
def audit_Pages (fu : Nat) (p0 : D.Ledger) : Option (List Int) :=
 (iterF (X := ((List D.Page × (Int × (Int × Unit))) × (D.Ledger × (List Int × Unit)))) (fun L0 ((a1, (a2, (a3, _))), (a4, (a5, _))) =>
 (cnd (decide (a3 < a2))
 (atc a1 a3 fun a6 =>
 (optc (audit_Steps fu (D.Ledger.Book a4) a6) fun a7 =>
 (optc (audit_findings_0 fu a5 (D.Page.ID a6) ((!a7) :: [])) fun a8 =>
 (L0 ((a1, (a2, ((IntKind.wrap .i64 (a3 + 1)), ()))), (a4, (a8, ())))))))
 (optc (slices_Sort_int_0 fu a5) fun a9 =>
 (chk (List.length a9) (List.length a5) (some a9))))) fu (((D.Ledger.Pages p0), ((((List.length (D.Ledger.Pages p0)) : Nat) : Int), (0, ()))), (p0, ([], ()))))
def audit_Pages_g (fu : Nat) : Sig := mkSig [.st .Ledger] [] [.one (.lst .int)] [] [] (List Int) (fun q => ((q, ()), ())) (fun x y => audit_Pages fu x.1)
theorem audit_Pages_ok (fu : Nat) : FnOK Tryz.prog 20 (audit_Pages_g fu) :=
 FnOK.intro (ty := ty) (E := envL [(39, 0, audit_Steps_g fu), (64, 0, audit_findings_0_g fu), (65, 0, slices_Sort_int_0_g fu)]) (fu := fu) (an := .two .go (.two .go (.two (.two .go (.one (.loop [(1, .one (.ref 1001)), (3, .one (.own 2022101)), (7, .one (.lst .Page)), (8, nI), (9, nI)] [(1001, .boxst .Ledger), (2022101, .arr .int)] .go))) .go))) (fun a b => a.1) (fun _ _ => rfl) (envL_ok ⟨audit_Steps_ok fu, audit_findings_0_ok fu, slices_Sort_int_0_ok fu, trivial⟩) Tryz.func20 rfl rfl (fun x y => by kernel_rfl)
def r25_Same (fu : Nat) (p0 : List Int) (p1 : List Int) : Option (Bool) :=
 (cnd (decide ((((List.length p0) : Nat) : Int) ≠ (((List.length p1) : Nat) : Int)))
 (some false)
 (iterF (X := ((List Int × (List Int × (Int × Unit))) × Unit)) (fun L0 ((a1, (a2, (a3, _))), _) =>
 (cnd (decide (a3 < (((List.length a1) : Nat) : Int)))
 (atc a1 a3 fun a4 =>
 (atc a2 a3 fun a5 =>
 (cnd (decide (a4 ≠ a5))
 (some false)
 (L0 ((a1, (a2, ((IntKind.wrap .i64 (a3 + 1)), ()))), ())))))
 (some true))) fu ((p0, (p1, (0, ()))), ())))
def r25_Same_g (fu : Nat) : Sig := mkSig [.one (.lst .int), .one (.lst .int)] [] [.one (.boo)] [] [] (Bool) (fun q => ((q, ()), ())) (fun x y => r25_Same fu x.1 x.2.1)
theorem r25_Same_ok (fu : Nat) : FnOK Tryz.prog 22 (r25_Same_g fu) :=
 FnOK.intro (ty := ty) (E := envL []) (fu := fu) (an := .two .go (.two .go (.two (.two .go (.one (.loop [(0, .one (.lst .int)), (1, .one (.lst .int)), (5, nI)] [] .go))) .go))) (fun a b => a.1) (fun _ _ => rfl) (envL_ok (l := []) trivial) Tryz.func22 rfl rfl (fun x y => by kernel_rfl)
def made_Dice_Next (fu : Nat) (p0 : D.Dice) (p1 : Int) : Option (Int × D.Dice) :=
 (join (Y := ((Int × Unit) × (D.Dice × Unit))) (fun ((a0, _), (a1, _)) =>
 (atc (D.Dice.L a1) (D.Dice.At a1) fun a2 =>
 (nzc a0 (join (Y := ((Int × Unit) × (D.Dice × Unit))) (fun ((a3, _), (a4, _)) =>
 (some (a3, a4))) fun J5 =>
 (cnd (decide ((Int.tmod a2 a0) < 0))
 (J5 (((IntKind.wrap .i64 ((Int.tmod a2 a0) + a0)), ()), ((D.Dice.mk (D.Dice.L a1) (IntKind.wrap .i64 ((D.Dice.At a1) + 1))), ())))
 (J5 (((Int.tmod a2 a0), ()), ((D.Dice.mk (D.Dice.L a1) (IntKind.wrap .i64 ((D.Dice.At a1) + 1))), ())))))))) fun J6 =>
 (cnd (decide ((((List.length (D.Dice.L p0)) : Nat) : Int) ≤ (D.Dice.At p0)))
 (some (0, p0))
 (cnd (decide (p1 < 1))
 (some (0, p0))
 (J6 ((p1, ()), (p0, ()))))))
def made_Dice_Next_g (fu : Nat) : Sig := mkSig [.one (.ref 1), nI] [(1, .boxst .Dice)] [nI] [(1, .boxst .Dice)] [] (Int × D.Dice) (fun q => ((q.1, ()), (q.2, ()))) (fun x y => made_Dice_Next fu y.1 x.1)
theorem made_Dice_Next_ok (fu : Nat) : FnOK Tryz.prog 32 (made_Dice_Next_g fu) :=
 FnOK.intro (ty := ty) (E := envL []) (fu := fu) (an := .two .go (.two (.join [(0, .one (.ref 1)), (1, nI)] [(1, .boxst .Dice)] .go) (.two .go (.two .go (.two (.join [(5, nI)] [(1, .boxst .Dice)] .go) .go))))) (fun a b => (a.1, b.1)) (fun _ _ => rfl) (envL_ok (l := []) trivial) Tryz.func32 rfl rfl (fun x y => by kernel_rfl)
def made_Dice_One (fu : Nat) (p0 : D.Dice) (p1 : List Int) : Option (Int × D.Dice) :=
 (optc (made_Dice_Next fu p0 (((List.length p1) : Nat) : Int)) fun (a0, a1) =>
 (atc p1 a0 fun a2 =>
 (some (a2, a1))))
def made_Dice_One_g (fu : Nat) : Sig := mkSig [.one (.ref 1), .one (.lst .int)] [(1, .boxst .Dice)] [nI] [(1, .boxst .Dice)] [] (Int × D.Dice) (fun q => ((q.1, ()), (q.2, ()))) (fun x y => made_Dice_One fu y.1 x.1)
theorem made_Dice_One_ok (fu : Nat) : FnOK Tryz.prog 48 (made_Dice_One_g fu) :=
 FnOK.intro (ty := ty) (E := envL [(32, 0, made_Dice_Next_g fu)]) (fu := fu) (an := .go) (fun a b => (a.1, b.1)) (fun _ _ => rfl) (envL_ok ⟨made_Dice_Next_ok fu, trivial⟩) Tryz.func48 rfl rfl (fun x y => by kernel_rfl)
def made_Dice_Override (fu : Nat) (p0 : D.Dice) : Option (D.Edit × D.Dice) :=
 (optc (made_Dice_One fu p0 (0 :: (300 :: (1200 :: (3600 :: []))))) fun (a0, a1) =>
 (optc (made_Dice_Next fu a1 3) fun (a2, a3) =>
 (optc (made_Dice_Next fu a3 4) fun (a4, a5) =>
 (optc (made_Dice_One fu a5 (300 :: (1800 :: (7200 :: [])))) fun (a6, a7) =>
 (join (Y := (Unit × (D.Edit × (D.Edit × (D.Dice × Unit))))) (fun (_, (a8, (a9, (a10, _)))) =>
 (some (a9, a10))) fun J11 =>
 (cnd (decide (a2 = 2))
 (optc (made_Dice_Next fu a7 3) fun (a12, a13) =>
 (nzc 4 (J11 ((), ((D.Edit.mk 0 0 0 0 0), ((D.Edit.mk a2 a4 (Int.tmod (IntKind.wrap .i64 ((IntKind.wrap .i64 (a4 + 1)) + a12)) 4) (IntKind.wrap .i64 (864000 + a0)) (IntKind.wrap .i64 ((IntKind.wrap .i64 (864000 + a0)) + a6))), (a13, ())))))))
 (cnd (decide (a2 = 1))
 (optc (made_Dice_Next fu a7 5) fun (a14, a15) =>
 (J11 ((), ((D.Edit.mk 0 0 0 0 0), ((D.Edit.mk a2 (IntKind.wrap .i64 (a14 - 1)) 0 (IntKind.wrap .i64 (864000 + a0)) (IntKind.wrap .i64 ((IntKind.wrap .i64 (864000 + a0)) + a6))), (a15, ()))))))
 (J11 ((), ((D.Edit.mk 0 0 0 0 0), ((D.Edit.mk a2 a4 0 (IntKind.wrap .i64 (864000 + a0)) (IntKind.wrap .i64 ((IntKind.wrap .i64 (864000 + a0)) + a6))), (a7, ()))))))))))))
def made_Dice_Override_g (fu : Nat) : Sig := mkSig [.one (.ref 1)] [(1, .boxst .Dice)] [.st .Edit] [(1, .boxst .Dice)] [] (D.Edit × D.Dice) (fun q => ((q.1, ()), (q.2, ()))) (fun x y => made_Dice_Override fu y.1)
theorem made_Dice_Override_ok (fu : Nat) : FnOK Tryz.prog 74 (made_Dice_Override_g fu) :=
 FnOK.intro (ty := ty) (E := envL [(32, 0, made_Dice_Next_g fu), (48, 0, made_Dice_One_g fu)]) (fu := fu) (an := .two .go (.two .go (.two .go (.two (.join [(2, .one (.ref 1002)), (4, .one (.ref 1004))] [(1002, .boxst .Edit), (1004, .boxst .Edit), (1, .boxst .Dice)] .go) .go)))) (fun a b => (a.1, b.1)) (fun _ _ => rfl) (envL_ok ⟨made_Dice_Next_ok fu, made_Dice_One_ok fu, trivial⟩) Tryz.func74 rfl rfl (fun x y => by kernel_rfl)
def made_Dice_Crew (fu : Nat) (p0 : D.Dice) : Option (D.Config × D.Dice) :=
 (optc (made_Dice_One fu p0 (0 :: (3600 :: ((-7200) :: [])))) fun (a0, a1) =>
 (iterF (X := ((List ByteArray × (Int × Unit)) × (D.Dice × (Unit × ((List D.Zone × Unit) × (List D.Person × Unit)))))) (fun L2 ((a3, (a4, _)), (a5, (_, ((a6, _), (a7, _))))) =>
 (cnd (decide (a4 < 4))
 (atc a3 a4 fun a8 =>
 (optc (made_Dice_Next fu a5 2) fun (a9, a10) =>
 (join (Y := ((List ByteArray × (Int × Unit)) × (D.Dice × (Unit × ((List D.Zone × Unit) × (D.Person × (List D.Person × Unit))))))) (fun ((a11, (a12, _)), (a13, (_, ((a14, _), (a15, (a16, _)))))) =>
 (lec ((List.length a16) + (List.length (a15 :: []))) 34359738368 (L2 ((a11, ((IntKind.wrap .i64 (a12 + 1)), ())), (a13, ((), ((a14, ()), ((a16 ++ (a15 :: [])), ())))))))) fun J17 =>
 (optc (made_Dice_Next fu a10 4) fun (a18, a19) =>
 (cnd (decide (a18 = 0))
 (optc (made_Dice_One fu a19 (0 :: (3600 :: []))) fun (a20, a21) =>
 (optc (made_Dice_One fu a21 (7200 :: (86400 :: (604800 :: [])))) fun (a22, a23) =>
 (J17 ((a3, (a4, ())), (a23, ((), ((a6, ()), ((D.Person.mk a8 0 ((D.Window.mk a20 a22) :: []) 0 0 (decide (a9 = 0))), (a7, ())))))))))
 (J17 ((a3, (a4, ())), (a19, ((), ((a6, ()), ((D.Person.mk a8 0 [] 0 0 (decide (a9 = 0))), (a7, ()))))))))))))
 (iterF (X := ((Int × Unit) × (D.Dice × (Unit × ((List D.Zone × Unit) × (List D.Person × (List D.Schedule × Unit))))))) (fun L24 ((a25, _), (a26, (_, ((a27, _), (a28, (a29, _)))))) =>
 (cnd (decide (a25 < 2))
 (optc (made_Dice_One fu a26 (1 :: (9 :: (10 :: [])))) fun (a30, a31) =>
 (optc (made_Dice_One fu a31 (0 :: (1800 :: (43200 :: [])))) fun (a32, a33) =>
 (optc (made_Dice_One fu a33 (0 :: (0 :: (1 :: [])))) fun (a34, a35) =>
 (optc (made_Dice_Next fu a35 3) fun (a36, a37) =>
 (optc (made_Dice_Next fu a37 3) fun (a38, a39) =>
 (iterF (X := ((Int × (Int × Unit)) × (D.Dice × (Unit × ((List D.Zone × Unit) × ((ByteArray × P7) × (List D.Person × (List D.Schedule × (List Int × Unit))))))))) (fun L40 ((a41, (a42, _)), (a43, (_, ((a44, _), ((a45, (a46, (a47, (a48, (a49, (a50, (a51, (a52, _)))))))), (a53, (a54, (a55, _)))))))) =>
 (cnd (decide (0 < a42))
 (optc (made_Dice_Next fu a43 4) fun (a56, a57) =>
 (lec ((List.length a55) + (List.length (a56 :: []))) 34359738368 (L40 ((a41, ((IntKind.wrap .i64 (a42 - 1)), ())), (a57, ((), ((a44, ()), ((a45, (a46, (a47, (a48, (a49, (a50, (a51, (a52, ())))))))), (a53, (a54, ((a55 ++ (a56 :: [])), ())))))))))))
 (atc ((ByteArray.mk (List.toArray (102 :: (105 :: (114 :: (115 :: (116 :: []))))))) :: ((ByteArray.mk (List.toArray (115 :: (101 :: (99 :: (111 :: (110 :: (100 :: [])))))))) :: [])) a41 fun a58 =>
 (optc (made_Dice_Next fu a43 3) fun (a59, a60) =>
 (iterF (X := ((Int × (Int × Unit)) × (D.Dice × (Unit × ((List D.Zone × Unit) × ((ByteArray × (List D.Layer × Unit)) × (List D.Person × (List D.Schedule × (List D.Edit × Unit))))))))) (fun L61 ((a62, (a63, _)), (a64, (_, ((a65, _), ((a66, (a67, _)), (a68, (a69, (a70, _)))))))) =>
 (cnd (decide (0 < a63))
 (optc (made_Dice_Override fu a64) fun (a71, a72) =>
 (lec ((List.length a70) + (List.length (a71 :: []))) 34359738368 (L61 ((a62, ((IntKind.wrap .i64 (a63 - 1)), ())), (a72, ((), ((a65, ()), ((a66, (a67, ())), (a68, (a69, ((a70 ++ (a71 :: [])), ())))))))))))
 (lec ((List.length a69) + (List.length ((D.Schedule.mk a66 a67 a70) :: []))) 34359738368 (L24 (((IntKind.wrap .i64 (a62 + 1)), ()), (a64, ((), ((a65, ()), (a68, ((a69 ++ ((D.Schedule.mk a66 a67 a70) :: [])), ())))))))))) fu ((a41, (a59, ())), (a60, ((), ((a44, ()), ((a58, (((D.Layer.mk a45 a46 (D.Local.mk a47 a48) a49 a50 a55 [] a51 a52) :: []), ())), (a53, (a54, ([], ()))))))))))))) fu ((a25, ((IntKind.wrap .i64 (1 + a38)), ())), (a39, ((), ((a27, ()), (((ByteArray.mk (List.toArray (108 :: []))), (0, (a30, (a32, (a34, ((IntKind.wrap .i64 (1 + a36)), (0, (0, ())))))))), (a28, (a29, ([], ()))))))))))))))
 (some ((D.Config.mk a27 a28 [] a29), a26)))) fu ((0, ()), (a5, ((), ((a6, ()), (a7, ([], ()))))))))) fu ((((ByteArray.mk (List.toArray (97 :: (110 :: (110 :: []))))) :: ((ByteArray.mk (List.toArray (98 :: (111 :: (98 :: []))))) :: ((ByteArray.mk (List.toArray (99 :: (97 :: (116 :: []))))) :: ((ByteArray.mk (List.toArray (100 :: (97 :: (110 :: []))))) :: [])))), (0, ())), (a1, ((), ((((D.Zone.mk (ByteArray.mk (List.toArray (122 :: []))) a0 []) :: []), ()), ([], ())))))))
def made_Dice_Crew_g (fu : Nat) : Sig := mkSig [.one (.ref 1)] [(1, .boxst .Dice)] [.st .Config] [(1, .boxst .Dice)] [] (D.Config × D.Dice) (fun q => ((q.1, ()), (q.2, ()))) (fun x y => made_Dice_Crew fu y.1)
theorem made_Dice_Crew_ok (fu : Nat) : FnOK Tryz.prog 30 (made_Dice_Crew_g fu) :=
 FnOK.intro (ty := ty) (E := envL [(32, 0, made_Dice_Next_g fu), (48, 0, made_Dice_One_g fu), (74, 0, made_Dice_Override_g fu)]) (fu := fu) (an := .two .go (.two .go (.two .go (.two (.two .go (.one (.loop [(0, .one (.ref 1)), (2, .one (.ref 1002)), (3, .one (.ref 1003)), (4, .one (.lst .str)), (5, nI)] [(1, .boxst .Dice), (1002, .box [.nul, .nul, .nul, .nul]), (1003, .box [.lst .Zone, .own 1047, .nul, .nul]), (1047, .arr .Person)] (.two .go (.two (.one (.two .go (.two (.join [(0, .one (.ref 1)), (2, .one (.ref 1002)), (3, .one (.ref 1003)), (4, .one (.lst .str)), (5, nI), (6, .one (.ref 1006))] [(1, .boxst .Dice), (1002, .box [.nul, .nul, .nul, .nul]), (1003, .box [.lst .Zone, .own 1047, .nul, .nul]), (1006, .boxst .Person), (1047, .arr .Person)] .go) .go))) .go))))) (.two (.two .go (.one (.loop [(0, .one (.ref 1)), (2, .one (.ref 1002)), (3, .one (.ref 1003)), (7, nI)] [(1, .boxst .Dice), (1002, .box [.nul, .nul, .nul, .nul]), (1003, .box [.lst .Zone, .own 1047, .nul, .own 1105]), (1047, .arr .Person), (1105, .arr .Schedule)] (.two .go (.two (.one (.two .go (.two (.two .go (.one (.loop [(0, .one (.ref 1)), (2, .one (.ref 1002)), (3, .one (.ref 1003)), (7, nI), (8, .one (.ref 1008)), (9, nI)] [(1, .boxst .Dice), (1002, .box [.nul, .nul, .nul, .nul]), (1003, .box [.lst .Zone, .own 1047, .nul, .own 1105]), (1008, .box [.str, .num .i64, .num .i64, .num .i64, .num .i64, .num .i64, .own 1079, .nul, .num .i64, .num .i64]), (1047, .arr .Person), (1105, .arr .Schedule), (1079, .arr .int)] .go))) (.two (.frz [1079] .go) (.two (.two .go (.one (.loop [(0, .one (.ref 1)), (2, .one (.ref 1002)), (3, .one (.ref 1003)), (7, nI), (10, .one (.ref 1010)), (11, nI)] [(1, .boxst .Dice), (1002, .box [.nul, .nul, .nul, .nul]), (1003, .box [.lst .Zone, .own 1047, .nul, .own 1105]), (1010, .box [.str, .lst .Layer, .own 1099]), (1047, .arr .Person), (1105, .arr .Schedule), (1099, .arr .Edit)] .go))) .go))))) .go))))) .go))))) (fun a b => (a.1, b.1)) (fun _ _ => rfl) (envL_ok ⟨made_Dice_Next_ok fu, made_Dice_One_ok fu, made_Dice_Override_ok fu, trivial⟩) Tryz.func30 rfl rfl (fun x y => by kernel_rfl)
def made_Dice_Target_1c0 (fu : Nat) (p0 : D.Dice) (p1 : D.Book) : Option (D.Target × D.Dice) :=
 (optc (made_Dice_Next fu p0 3) fun (a0, a1) =>
 (join (Y := ((Int × Unit) × (D.Dice × ((List D.Policy × Unit) × (D.Target × (List D.Team × Unit)))))) (fun ((a2, _), (a3, ((a4, _), (a5, (a6, _))))) =>
 (atc (4 :: (2 :: ((((List.length a6) : Nat) : Int) :: []))) a2 fun a7 =>
 (optc (made_Dice_Next fu a3 a7) fun (a8, a9) =>
 (sameC a6 (D.Book.Teams p1) (some ((D.Target.mk a2 a8), a9)))))) fun J10 =>
 (cnd (decide (a0 = 2))
 (cnd (decide ((((List.length (D.Book.Teams p1)) : Nat) : Int) = 0))
 (J10 ((0, ()), (a1, (((D.Book.Policies p1), ()), ((D.Target.mk 0 0), ((D.Book.Teams p1), ()))))))
 (J10 ((a0, ()), (a1, (((D.Book.Policies p1), ()), ((D.Target.mk 0 0), ((D.Book.Teams p1), ())))))))
 (J10 ((a0, ()), (a1, (((D.Book.Policies p1), ()), ((D.Target.mk 0 0), ((D.Book.Teams p1), ())))))))))
def made_Dice_Target_1c0_g (fu : Nat) : Sig := mkSig [.one (.ref 1), .agg [.own 101, .lst .Policy]] [(1, .boxst .Dice), (101, .arr .Team)] [.st .Target] [(1, .boxst .Dice)] [101] (D.Target × D.Dice) (fun q => ((q.1, ()), (q.2, ()))) (fun x y => made_Dice_Target_1c0 fu y.1 (D.Book.mk y.2.1 x.1.1))
theorem made_Dice_Target_1c0_ok (fu : Nat) : FnOK Tryz.prog 33 (made_Dice_Target_1c0_g fu) :=
 FnOK.intro (ty := ty) (E := envL [(32, 0, made_Dice_Next_g fu)]) (fu := fu) (an := .two .go (.two .go (.two (.join [(0, .one (.ref 1)), (3, .one (.ref 1003)), (4, .one (.ref 1004)), (5, nI)] [(1, .boxst .Dice), (1003, .box [.own 101, .lst .Policy]), (1004, .boxst .Target), (101, .arr .Team)] .go) .go))) (fun a b => (a.1, b.1)) (fun _ _ => rfl) (envL_ok ⟨made_Dice_Next_ok fu, trivial⟩) Tryz.func33 rfl rfl (fun x y => by kernel_rfl)
def made_Dice_Target_1c0c1 (fu : Nat) (p0 : D.Dice) (p1 : D.Book) : Option (D.Target × D.Dice) :=
 (optc (made_Dice_Next fu p0 3) fun (a0, a1) =>
 (join (Y := ((Int × Unit) × (D.Dice × (Unit × (D.Target × (List D.Team × (List D.Policy × Unit))))))) (fun ((a2, _), (a3, (_, (a4, (a5, (a6, _)))))) =>
 (atc (4 :: (2 :: ((((List.length a5) : Nat) : Int) :: []))) a2 fun a7 =>
 (optc (made_Dice_Next fu a3 a7) fun (a8, a9) =>
 (sameC a5 (D.Book.Teams p1) (sameC a6 (D.Book.Policies p1) (some ((D.Target.mk a2 a8), a9))))))) fun J10 =>
 (cnd (decide (a0 = 2))
 (cnd (decide ((((List.length (D.Book.Teams p1)) : Nat) : Int) = 0))
 (J10 ((0, ()), (a1, ((), ((D.Target.mk 0 0), ((D.Book.Teams p1), ((D.Book.Policies p1), ())))))))
 (J10 ((a0, ()), (a1, ((), ((D.Target.mk 0 0), ((D.Book.Teams p1), ((D.Book.Policies p1), ()))))))))
 (J10 ((a0, ()), (a1, ((), ((D.Target.mk 0 0), ((D.Book.Teams p1), ((D.Book.Policies p1), ()))))))))))
def made_Dice_Target_1c0c1_g (fu : Nat) : Sig := mkSig [.one (.ref 1), .agg [.own 101, .own 102]] [(1, .boxst .Dice), (101, .arr .Team), (102, .arr .Policy)] [.st .Target] [(1, .boxst .Dice)] [101, 102] (D.Target × D.Dice) (fun q => ((q.1, ()), (q.2, ()))) (fun x y => made_Dice_Target_1c0c1 fu y.1 (D.Book.mk y.2.1 y.2.2.1))
theorem made_Dice_Target_1c0c1_ok (fu : Nat) : FnOK Tryz.prog 33 (made_Dice_Target_1c0c1_g fu) :=
 FnOK.intro (ty := ty) (E := envL [(32, 0, made_Dice_Next_g fu)]) (fu := fu) (an := .two .go (.two .go (.two (.join [(0, .one (.ref 1)), (3, .one (.ref 1003)), (4, .one (.ref 1004)), (5, nI)] [(1, .boxst .Dice), (1003, .box [.own 101, .own 102]), (1004, .boxst .Target), (101, .arr .Team), (102, .arr .Policy)] .go) .go))) (fun a b => (a.1, b.1)) (fun _ _ => rfl) (envL_ok ⟨made_Dice_Next_ok fu, trivial⟩) Tryz.func33 rfl rfl (fun x y => by kernel_rfl)
def made_Dice_Book (fu : Nat) (p0 : D.Dice) : Option (D.Book × D.Dice) :=
 (optc (made_Dice_Next fu p0 3) fun (a0, a1) =>
 (iterF (X := ((Int × Unit) × (D.Dice × (Unit × (Unit × (List D.Team × Unit)))))) (fun L2 ((a3, _), (a4, (_, (_, (a5, _))))) =>
 (cnd (decide (0 < a3))
 (atc ((ByteArray.mk (List.toArray (99 :: (111 :: (114 :: (101 :: [])))))) :: ((ByteArray.mk (List.toArray (119 :: (101 :: (98 :: []))))) :: [])) (((List.length a5) : Nat) : Int) fun a6 =>
 (optc (made_Dice_Next fu a4 2) fun (a7, a8) =>
 (join (Y := ((Int × Unit) × (D.Dice × (Unit × (Unit × (D.Team × (List D.Team × Unit))))))) (fun ((a9, _), (a10, (_, (_, (a11, (a12, _)))))) =>
 (lec ((List.length a12) + (List.length (a11 :: []))) 34359738368 (L2 (((IntKind.wrap .i64 (a9 - 1)), ()), (a10, ((), ((), ((a12 ++ (a11 :: [])), ())))))))) fun J13 =>
 (optc (made_Dice_Next fu a8 2) fun (a14, a15) =>
 (cnd (decide (a14 = 0))
 (optc (made_Dice_Next fu a15 2) fun (a16, a17) =>
 (lec ((List.length (a7 :: [])) + (List.length ((IntKind.wrap .i64 (2 + a16)) :: []))) 34359738368 (J13 ((a3, ()), (a17, ((), ((), ((D.Team.mk a6 ((a7 :: []) ++ ((IntKind.wrap .i64 (2 + a16)) :: []))), (a5, ())))))))))
 (J13 ((a3, ()), (a15, ((), ((), ((D.Team.mk a6 (a7 :: [])), (a5, ()))))))))))))
 (optc (made_Dice_Next fu a4 3) fun (a18, a19) =>
 (iterF (X := ((Int × Unit) × (D.Dice × (Unit × (Unit × (List D.Team × (List D.Policy × Unit))))))) (fun L20 ((a21, _), (a22, (_, (_, (a23, (a24, _)))))) =>
 (cnd (decide (0 < a21))
 (atc ((ByteArray.mk (List.toArray (112 :: []))) :: ((ByteArray.mk (List.toArray (113 :: []))) :: ((ByteArray.mk (List.toArray (114 :: []))) :: []))) (((List.length a24) : Nat) : Int) fun a25 =>
 (optc (made_Dice_One fu a22 (0 :: (0 :: (1 :: (2 :: []))))) fun (a26, a27) =>
 (optc (made_Dice_Next fu a27 3) fun (a28, a29) =>
 (iterF (X := ((Int × (Int × Unit)) × (D.Dice × (Unit × (Unit × ((ByteArray × (Int × Unit)) × (List D.Team × (List D.Policy × (List D.PolicyStep × Unit))))))))) (fun L30 ((a31, (a32, _)), (a33, (_, (_, ((a34, (a35, _)), (a36, (a37, (a38, _)))))))) =>
 (cnd (decide (0 < a32))
 (optc (made_Dice_One fu a33 (0 :: (60 :: (300 :: (600 :: (900 :: [])))))) fun (a39, a40) =>
 (optc (made_Dice_Next fu a40 2) fun (a41, a42) =>
 (optc (made_Dice_Next fu a42 3) fun (a43, a44) =>
 (iterF (X := (P3 × (D.Dice × (Unit × (Unit × ((ByteArray × (Int × Unit)) × ((Int × (Bool × Unit)) × (List D.Team × (List D.Policy × (List D.PolicyStep × (List D.Target × Unit))))))))))) (fun L45 ((a46, (a47, (a48, _))), (a49, (_, (_, ((a50, (a51, _)), ((a52, (a53, _)), (a54, (a55, (a56, (a57, _)))))))))) =>
 (cnd (decide (0 < a48))
 (optc (made_Dice_Target_1c0c1 fu a49 (D.Book.mk a54 a55)) fun (a58, a59) =>
 (lec ((List.length a57) + (List.length (a58 :: []))) 34359738368 (L45 ((a46, (a47, ((IntKind.wrap .i64 (a48 - 1)), ()))), (a59, ((), ((), ((a50, (a51, ())), ((a52, (a53, ())), (a54, (a55, (a56, ((a57 ++ (a58 :: [])), ())))))))))))))
 (lec ((List.length a56) + (List.length ((D.PolicyStep.mk a52 a53 a57) :: []))) 34359738368 (L30 ((a46, ((IntKind.wrap .i64 (a47 - 1)), ())), (a49, ((), ((), ((a50, (a51, ())), (a54, (a55, ((a56 ++ ((D.PolicyStep.mk a52 a53 a57) :: [])), ())))))))))))) fu ((a31, (a32, (a43, ()))), (a44, ((), ((), ((a34, (a35, ())), ((a39, ((decide (a41 = 0)), ())), (a36, (a37, (a38, ([], ()))))))))))))))
 (lec ((List.length a37) + (List.length ((D.Policy.mk a34 a38 a35) :: []))) 34359738368 (L20 (((IntKind.wrap .i64 (a31 - 1)), ()), (a33, ((), ((), (a36, ((a37 ++ ((D.Policy.mk a34 a38 a35) :: [])), ())))))))))) fu ((a21, ((IntKind.wrap .i64 (1 + a28)), ())), (a29, ((), ((), ((a25, (a26, ())), (a23, (a24, ([], ()))))))))))))
 (some ((D.Book.mk a23 a24), a22)))) fu (((IntKind.wrap .i64 (1 + a18)), ()), (a19, ((), ((), (a5, ([], ())))))))))) fu ((a0, ()), (a1, ((), ((), ([], ())))))))
def made_Dice_Book_g (fu : Nat) : Sig := mkSig [.one (.ref 1)] [(1, .boxst .Dice)] [.st .Book] [(1, .boxst .Dice)] [] (D.Book × D.Dice) (fun q => ((q.1, ()), (q.2, ()))) (fun x y => made_Dice_Book fu y.1)
theorem made_Dice_Book_ok (fu : Nat) : FnOK Tryz.prog 31 (made_Dice_Book_g fu) :=
 FnOK.intro (ty := ty) (E := envL [(32, 0, made_Dice_Next_g fu), (33, 0, made_Dice_Target_1c0c1_g fu), (33, 0, made_Dice_Target_1c0_g fu), (48, 0, made_Dice_One_g fu)]) (fu := fu) (an := .two .go (.two .go (.two (.two .go (.one (.loop [(0, .one (.ref 1)), (2, .one (.ref 1002)), (3, .one (.ref 1003)), (4, nI)] [(1, .boxst .Dice), (1002, .box [.nul, .nul]), (1003, .box [.own 1042, .nul]), (1042, .arr .Team)] (.two .go (.two (.one (.two .go (.two (.join [(0, .one (.ref 1)), (2, .one (.ref 1002)), (3, .one (.ref 1003)), (4, nI), (5, .one (.ref 1005))] [(1, .boxst .Dice), (1002, .box [.nul, .nul]), (1003, .box [.own 1042, .nul]), (1005, .boxst .Team), (1042, .arr .Team)] .go) .go))) .go))))) (.two (.two .go (.one (.loop [(0, .one (.ref 1)), (2, .one (.ref 1002)), (3, .one (.ref 1003)), (6, nI)] [(1, .boxst .Dice), (1002, .box [.nul, .nul]), (1003, .box [.own 1042, .own 1099]), (1042, .arr .Team), (1099, .arr .Policy)] (.two .go (.two (.one (.two .go (.two (.two .go (.one (.loop [(0, .one (.ref 1)), (2, .one (.ref 1002)), (3, .one (.ref 1003)), (6, nI), (7, .one (.ref 1007)), (8, nI)] [(1, .boxst .Dice), (1002, .box [.nul, .nul]), (1003, .box [.own 1042, .own 1099]), (1007, .box [.str, .own 1093, .num .i64]), (1042, .arr .Team), (1099, .arr .Policy), (1093, .arr .PolicyStep)] (.two .go (.two (.one (.two .go (.two (.two .go (.one (.loop [(0, .one (.ref 1)), (2, .one (.ref 1002)), (3, .one (.ref 1003)), (6, nI), (7, .one (.ref 1007)), (8, nI), (9, .one (.ref 1009)), (10, nI)] [(1, .boxst .Dice), (1002, .box [.nul, .nul]), (1003, .box [.own 1042, .own 1099]), (1007, .box [.str, .own 1093, .num .i64]), (1009, .box [.num .i64, .boo, .own 1087]), (1042, .arr .Team), (1099, .arr .Policy), (1093, .arr .PolicyStep), (1087, .arr .Target)] .go))) .go))) .go))))) .go))) .go))))) .go)))) (fun a b => (a.1, b.1)) (fun _ _ => rfl) (envL_ok ⟨made_Dice_Next_ok fu, made_Dice_Target_1c0c1_ok fu, made_Dice_Target_1c0_ok fu, made_Dice_One_ok fu, trivial⟩) Tryz.func31 rfl rfl (fun x y => by kernel_rfl)
def r06_digit (fu : Nat) (p0 : Int) : Option (Bool) :=
 (cnd (decide (48 ≤ p0))
 (cnd (decide (p0 ≤ 57))
 (some true)
 (some false))
 (some false))
def r06_digit_g (fu : Nat) : Sig := mkSig [.one (.num .u8)] [] [.one (.boo)] [] [] (Bool) (fun q => ((q, ()), ())) (fun x y => r06_digit fu x.1)
theorem r06_digit_ok (fu : Nat) : FnOK Tryz.prog 263 (r06_digit_g fu) :=
 FnOK.intro (ty := ty) (E := envL []) (fu := fu) (an := .go) (fun a b => a.1) (fun _ _ => rfl) (envL_ok (l := []) trivial) Tryz.func263 rfl rfl (fun x y => by kernel_rfl)
def r06_Name (fu : Nat) (p0 : ByteArray) : Option (Bool) :=
 (join (Y := ((ByteArray × Unit) × Unit)) (fun ((a0, _), _) =>
 (iterF (X := ((ByteArray × (Int × Unit)) × Unit)) (fun L1 ((a2, (a3, _)), _) =>
 (cnd (decide (a3 < (((ByteArray.size a2) : Nat) : Int)))
 (join (Y := ((ByteArray × (Int × Unit)) × Unit)) (fun ((a4, (a5, _)), _) =>
 (L1 ((a4, ((IntKind.wrap .i64 (a5 + 1)), ())), ()))) fun J6 =>
 (natc a3 fun a7 =>
 (ltc a7 (ByteArray.size a2) (cnd (decide ((((bAt a2 a7) : Nat) : Int) < 97))
 (natc a3 fun a8 =>
 (ltc a8 (ByteArray.size a2) (optc (r06_digit fu (((bAt a2 a8) : Nat) : Int)) fun a9 =>
 (cnd a9
 (J6 ((a2, (a3, ())), ()))
 (natc a3 fun a10 =>
 (ltc a10 (ByteArray.size a2) (cnd (decide ((((bAt a2 a10) : Nat) : Int) ≠ 95))
 (natc a3 fun a11 =>
 (ltc a11 (ByteArray.size a2) (cnd (decide ((((bAt a2 a11) : Nat) : Int) ≠ 45))
 (some false)
 (J6 ((a2, (a3, ())), ())))))
 (J6 ((a2, (a3, ())), ())))))))))
 (natc a3 fun a12 =>
 (ltc a12 (ByteArray.size a2) (cnd (decide (122 < (((bAt a2 a12) : Nat) : Int)))
 (natc a3 fun a13 =>
 (ltc a13 (ByteArray.size a2) (optc (r06_digit fu (((bAt a2 a13) : Nat) : Int)) fun a14 =>
 (cnd a14
 (J6 ((a2, (a3, ())), ()))
 (natc a3 fun a15 =>
 (ltc a15 (ByteArray.size a2) (cnd (decide ((((bAt a2 a15) : Nat) : Int) ≠ 95))
 (natc a3 fun a16 =>
 (ltc a16 (ByteArray.size a2) (cnd (decide ((((bAt a2 a16) : Nat) : Int) ≠ 45))
 (some false)
 (J6 ((a2, (a3, ())), ())))))
 (J6 ((a2, (a3, ())), ())))))))))
 (J6 ((a2, (a3, ())), ())))))))))
 (some true))) fu ((a0, (0, ())), ()))) fun J17 =>
 (cnd (decide ((((ByteArray.size p0) : Nat) : Int) < 1))
 (some false)
 (cnd (decide (24 < (((ByteArray.size p0) : Nat) : Int)))
 (some false)
 (natc 0 fun a18 =>
 (ltc a18 (ByteArray.size p0) (cnd (decide ((((bAt p0 a18) : Nat) : Int) < 97))
 (some false)
 (natc 0 fun a19 =>
 (ltc a19 (ByteArray.size p0) (cnd (decide (122 < (((bAt p0 a19) : Nat) : Int)))
 (some false)
 (J17 ((p0, ()), ())))))))))))
def r06_Name_g (fu : Nat) : Sig := mkSig [.one (.str)] [] [.one (.boo)] [] [] (Bool) (fun q => ((q, ()), ())) (fun x y => r06_Name fu x.1)
theorem r06_Name_ok (fu : Nat) : FnOK Tryz.prog 237 (r06_Name_g fu) :=
 FnOK.intro (ty := ty) (E := envL [(263, 0, r06_digit_g fu)]) (fu := fu) (an := .two .go (.two (.join [(0, .one (.str))] [] .go) (.two (.two .go (.one (.loop [(0, .one (.str)), (3, nI)] [] (.two .go (.two (.join [(0, .one (.str)), (3, nI)] [] .go) .go))))) .go))) (fun a b => a.1) (fun _ _ => rfl) (envL_ok ⟨r06_digit_ok fu, trivial⟩) Tryz.func237 rfl rfl (fun x y => by kernel_rfl)
def r04_in (fu : Nat) (p0 : Int) (p1 : Int) (p2 : Int) : Option (Bool) :=
 (cnd (decide (p1 ≤ p0))
 (cnd (decide (p0 ≤ p2))
 (some true)
 (some false))
 (some false))
def r04_in_g (fu : Nat) : Sig := mkSig [nI, nI, nI] [] [.one (.boo)] [] [] (Bool) (fun q => ((q, ()), ())) (fun x y => r04_in fu x.1 x.2.1 x.2.2.1)
theorem r04_in_ok (fu : Nat) : FnOK Tryz.prog 261 (r04_in_g fu) :=
 FnOK.intro (ty := ty) (E := envL []) (fu := fu) (an := .go) (fun a b => a.1) (fun _ _ => rfl) (envL_ok (l := []) trivial) Tryz.func261 rfl rfl (fun x y => by kernel_rfl)
def r04_right (fu : Nat) (p0 : D.YearRule) : Option (Bool) :=
 (optc (r04_in fu (D.YearRule.From p0) 1970 2240) fun a0 =>
 (cnd a0
 (optc (r04_in fu (D.YearRule.To p0) (D.YearRule.From p0) 2240) fun a1 =>
 (cnd a1
 (optc (r04_in fu (D.YearRule.Month p0) 1 12) fun a2 =>
 (cnd a2
 (optc (r04_in fu (D.YearRule.Week p0) 1 5) fun a3 =>
 (cnd a3
 (optc (r04_in fu (D.YearRule.Weekday p0) 0 6) fun a4 =>
 (cnd a4
 (optc (r04_in fu (D.YearRule.Second p0) 0 86399) fun a5 =>
 (cnd a5
 (optc (r04_in fu (D.YearRule.Offset p0) (-64800) 64800) fun a6 =>
 (cnd a6
 (some true)
 (some false)))
 (some false)))
 (some false)))
 (some false)))
 (some false)))
 (some false)))
 (some false)))
def r04_right_g (fu : Nat) : Sig := mkSig [.st .YearRule] [] [.one (.boo)] [] [] (Bool) (fun q => ((q, ()), ())) (fun x y => r04_right fu x.1)
theorem r04_right_ok (fu : Nat) : FnOK Tryz.prog 275 (r04_right_g fu) :=
 FnOK.intro (ty := ty) (E := envL [(261, 0, r04_in_g fu)]) (fu := fu) (an := .go) (fun a b => a.1) (fun _ _ => rfl) (envL_ok ⟨r04_in_ok fu, trivial⟩) Tryz.func275 rfl rfl (fun x y => by kernel_rfl)
def r01_Weekday (fu : Nat) (p0 : Int) : Option (Int) :=
 (nzc 7 (nzc 7 (some (Int.tmod (IntKind.wrap .i64 ((Int.tmod p0 7) + 10)) 7))))
def r01_Weekday_g (fu : Nat) : Sig := mkSig [nI] [] [nI] [] [] (Int) (fun q => ((q, ()), ())) (fun x y => r01_Weekday fu x.1)
theorem r01_Weekday_ok (fu : Nat) : FnOK Tryz.prog 236 (r01_Weekday_g fu) :=
 FnOK.intro (ty := ty) (E := envL []) (fu := fu) (an := .go) (fun a b => a.1) (fun _ _ => rfl) (envL_ok (l := []) trivial) Tryz.func236 rfl rfl (fun x y => by kernel_rfl)
def r01_year (fu : Nat) (p0 : Int) : Option (Int) :=
 (nzc 4 (nzc 100 (nzc 400 (some (IntKind.wrap .i64 ((IntKind.wrap .i64 ((IntKind.wrap .i64 ((IntKind.wrap .i64 ((IntKind.wrap .i64 (p0 - 1970)) * 365)) + (IntKind.wrap .i64 (Int.tdiv (IntKind.wrap .i64 (p0 - 1969)) 4)))) - (IntKind.wrap .i64 (Int.tdiv (IntKind.wrap .i64 (p0 - 1901)) 100)))) + (IntKind.wrap .i64 (Int.tdiv (IntKind.wrap .i64 (p0 - 1601)) 400))))))))
def r01_year_g (fu : Nat) : Sig := mkSig [nI] [] [nI] [] [] (Int) (fun q => ((q, ()), ())) (fun x y => r01_year fu x.1)
theorem r01_year_ok (fu : Nat) : FnOK Tryz.prog 260 (r01_year_g fu) :=
 FnOK.intro (ty := ty) (E := envL []) (fu := fu) (an := .go) (fun a b => a.1) (fun _ _ => rfl) (envL_ok (l := []) trivial) Tryz.func260 rfl rfl (fun x y => by kernel_rfl)
def r01_Leap (fu : Nat) (p0 : Int) : Option (Bool) :=
 (nzc 4 (cnd (decide ((Int.tmod p0 4) = 0))
 (nzc 100 (cnd (decide ((Int.tmod p0 100) ≠ 0))
 (some true)
 (nzc 400 (cnd (decide ((Int.tmod p0 400) = 0))
 (some true)
 (some false)))))
 (some false)))
def r01_Leap_g (fu : Nat) : Sig := mkSig [nI] [] [.one (.boo)] [] [] (Bool) (fun q => ((q, ()), ())) (fun x y => r01_Leap fu x.1)
theorem r01_Leap_ok (fu : Nat) : FnOK Tryz.prog 310 (r01_Leap_g fu) :=
 FnOK.intro (ty := ty) (E := envL []) (fu := fu) (an := .go) (fun a b => a.1) (fun _ _ => rfl) (envL_ok (l := []) trivial) Tryz.func310 rfl rfl (fun x y => by kernel_rfl)
def r01_Days (fu : Nat) (p0 : Int) (p1 : Int) : Option (Int) :=
 (join (Y := ((Int × (Int × (Bool × Unit))) × Unit)) (fun ((a0, (a1, (a2, _))), _) =>
 (cnd a2
 (some 31)
 (join (Y := ((Int × (Int × (Bool × Unit))) × Unit)) (fun ((a3, (a4, (a5, _))), _) =>
 (cnd a5
 (some 30)
 (cnd (decide (a4 = 2))
 (optc (r01_Leap fu a3) fun a6 =>
 (cnd a6
 (some 29)
 (some 28)))
 (some 0)))) fun J7 =>
 (cnd (decide (a1 = 4))
 (J7 ((a0, (a1, ((decide (a1 = 4)), ()))), ()))
 (cnd (decide (a1 = 6))
 (J7 ((a0, (a1, ((decide (a1 = 6)), ()))), ()))
 (cnd (decide (a1 = 9))
 (J7 ((a0, (a1, ((decide (a1 = 9)), ()))), ()))
 (J7 ((a0, (a1, ((decide (a1 = 11)), ()))), ())))))))) fun J8 =>
 (cnd (decide (p1 = 1))
 (J8 ((p0, (p1, ((decide (p1 = 1)), ()))), ()))
 (cnd (decide (p1 = 3))
 (J8 ((p0, (p1, ((decide (p1 = 3)), ()))), ()))
 (cnd (decide (p1 = 5))
 (J8 ((p0, (p1, ((decide (p1 = 5)), ()))), ()))
 (cnd (decide (p1 = 7))
 (J8 ((p0, (p1, ((decide (p1 = 7)), ()))), ()))
 (cnd (decide (p1 = 8))
 (J8 ((p0, (p1, ((decide (p1 = 8)), ()))), ()))
 (cnd (decide (p1 = 10))
 (J8 ((p0, (p1, ((decide (p1 = 10)), ()))), ()))
 (J8 ((p0, (p1, ((decide (p1 = 12)), ()))), ())))))))))
def r01_Days_g (fu : Nat) : Sig := mkSig [nI, nI] [] [nI] [] [] (Int) (fun q => ((q, ()), ())) (fun x y => r01_Days fu x.1 x.2.1)
theorem r01_Days_ok (fu : Nat) : FnOK Tryz.prog 301 (r01_Days_g fu) :=
 FnOK.intro (ty := ty) (E := envL [(310, 0, r01_Leap_g fu)]) (fu := fu) (an := .two .go (.two (.two .go (.one (.two (.join [(0, nI), (5, nI), (6, .one (.boo))] [] .go) (.two .go (.two (.join [(0, nI), (5, nI), (14, .one (.boo))] [] .go) .go))))) .go)) (fun a b => a.1) (fun _ _ => rfl) (envL_ok ⟨r01_Leap_ok fu, trivial⟩) Tryz.func301 rfl rfl (fun x y => by kernel_rfl)
def r01_Valid (fu : Nat) (p0 : D.Date) : Option (Bool) :=
 (cnd (decide (1970 ≤ (D.Date.Year p0)))
 (cnd (decide ((D.Date.Year p0) ≤ 2240))
 (cnd (decide (1 ≤ (D.Date.Month p0)))
 (cnd (decide ((D.Date.Month p0) ≤ 12))
 (cnd (decide (1 ≤ (D.Date.Day p0)))
 (optc (r01_Days fu (D.Date.Year p0) (D.Date.Month p0)) fun a0 =>
 (cnd (decide ((D.Date.Day p0) ≤ a0))
 (some true)
 (some false)))
 (some false))
 (some false))
 (some false))
 (some false))
 (some false))
def r01_Valid_g (fu : Nat) : Sig := mkSig [.st .Date] [] [.one (.boo)] [] [] (Bool) (fun q => ((q, ()), ())) (fun x y => r01_Valid fu x.1)
theorem r01_Valid_ok (fu : Nat) : FnOK Tryz.prog 309 (r01_Valid_g fu) :=
 FnOK.intro (ty := ty) (E := envL [(301, 0, r01_Days_g fu)]) (fu := fu) (an := .go) (fun a b => a.1) (fun _ _ => rfl) (envL_ok ⟨r01_Days_ok fu, trivial⟩) Tryz.func309 rfl rfl (fun x y => by kernel_rfl)
def r01_Day (fu : Nat) (p0 : D.Date) : Option (Int × Int) :=
 (optc (r01_Valid fu p0) fun a0 =>
 (cnd (!a0)
 (some (0, 1))
 (optc (r01_year fu (D.Date.Year p0)) fun a1 =>
 (iterF (X := ((Int × (Int × Unit)) × (D.Date × Unit))) (fun L2 ((a3, (a4, _)), (a5, _)) =>
 (cnd (decide (a4 < (D.Date.Month a5)))
 (optc (r01_Days fu (D.Date.Year a5) a4) fun a6 =>
 (L2 (((IntKind.wrap .i64 (a3 + a6)), ((IntKind.wrap .i64 (a4 + 1)), ())), (a5, ()))))
 (some ((IntKind.wrap .i64 ((IntKind.wrap .i64 (a3 + (D.Date.Day a5))) - 1)), 0)))) fu ((a1, (1, ())), (p0, ()))))))
def r01_Day_g (fu : Nat) : Sig := mkSig [.st .Date] [] [nI, nI] [] [] (Int × Int) (fun q => ((q.1, q.2, ()), ())) (fun x y => r01_Day fu x.1)
theorem r01_Day_ok (fu : Nat) : FnOK Tryz.prog 300 (r01_Day_g fu) :=
 FnOK.intro (ty := ty) (E := envL [(260, 0, r01_year_g fu), (301, 0, r01_Days_g fu), (309, 0, r01_Valid_g fu)]) (fu := fu) (an := .two .go (.two .go (.two .go (.two (.two .go (.one (.loop [(1, .one (.ref 1001)), (4, nI), (5, nI)] [(1001, .boxst .Date)] .go))) .go)))) (fun a b => (a.1, a.2.1)) (fun _ _ => rfl) (envL_ok ⟨r01_year_ok fu, r01_Days_ok fu, r01_Valid_ok fu, trivial⟩) Tryz.func300 rfl rfl (fun x y => by kernel_rfl)
def r01_Nth (fu : Nat) (p0 : Int) (p1 : Int) (p2 : Int) (p3 : Int) : Option (Int × Int) :=
 (optc (r01_Day fu (D.Date.mk p0 p1 1)) fun (a0, a1) =>
 (join (Y := (P5 × Unit)) (fun ((a2, (a3, (a4, (a5, (a6, _))))), _) =>
 (iterF (X := (P6 × Unit)) (fun L7 ((a8, (a9, (a10, (a11, (a12, (a13, _)))))), _) =>
 (optc (r01_Weekday fu a13) fun a14 =>
 (cnd (decide (a14 ≠ a11))
 (L7 ((a8, (a9, (a10, (a11, (a12, ((IntKind.wrap .i64 (a13 + 1)), ())))))), ()))
 (cnd (decide (a10 < 5))
 (some ((IntKind.wrap .i64 (a13 + (IntKind.wrap .i64 (7 * (IntKind.wrap .i64 (a10 - 1)))))), 0))
 (iterF (X := (P4 × Unit)) (fun L15 ((a16, (a17, (a18, (a19, _)))), _) =>
 (optc (r01_Days fu a16 a17) fun a20 =>
 (cnd (decide ((IntKind.wrap .i64 (a19 + 7)) < (IntKind.wrap .i64 (a18 + a20))))
 (L15 ((a16, (a17, (a18, ((IntKind.wrap .i64 (a19 + 7)), ())))), ()))
 (some (a19, 0))))) fu ((a8, (a9, (a12, (a13, ())))), ())))))) fu ((a2, (a3, (a4, (a5, (a6, (a6, ())))))), ()))) fun J21 =>
 (cnd (decide (a1 ≠ 0))
 (some (0, 1))
 (cnd (decide (p2 < 1))
 (some (0, 1))
 (cnd (decide (5 < p2))
 (some (0, 1))
 (cnd (decide (p3 < 0))
 (some (0, 1))
 (cnd (decide (6 < p3))
 (some (0, 1))
 (J21 ((p0, (p1, (p2, (p3, (a0, ()))))), ())))))))))
def r01_Nth_g (fu : Nat) : Sig := mkSig [nI, nI, nI, nI] [] [nI, nI] [] [] (Int × Int) (fun q => ((q.1, q.2, ()), ())) (fun x y => r01_Nth fu x.1 x.2.1 x.2.2.1 x.2.2.2.1)
theorem r01_Nth_ok (fu : Nat) : FnOK Tryz.prog 288 (r01_Nth_g fu) :=
 FnOK.intro (ty := ty) (E := envL [(236, 0, r01_Weekday_g fu), (300, 0, r01_Day_g fu), (301, 0, r01_Days_g fu)]) (fu := fu) (an := .two .go (.two .go (.two (.join [(0, nI), (1, nI), (2, nI), (3, nI), (10, nI)] [] .go) (.two .go (.two (.one (.loop [(0, nI), (1, nI), (2, nI), (3, nI), (10, nI), (12, nI)] [] .go)) (.two .go (.two (.one (.loop [(0, nI), (1, nI), (10, nI), (12, nI)] [] .go)) .go))))))) (fun a b => (a.1, a.2.1)) (fun _ _ => rfl) (envL_ok ⟨r01_Weekday_ok fu, r01_Day_ok fu, r01_Days_ok fu, trivial⟩) Tryz.func288 rfl rfl (fun x y => by kernel_rfl)
def r04_occurrences (fu : Nat) (p0 : List D.YearRule) : Option (List D.Occurrence) :=
 (iterF (X := ((List D.YearRule × (Int × Unit)) × (List D.Occurrence × Unit))) (fun L0 ((a1, (a2, _)), (a3, _)) =>
 (cnd (decide (a2 < (((List.length a1) : Nat) : Int)))
 (atc a1 a2 fun a4 =>
 (iterF (X := ((List D.YearRule × (Int × (Int × Unit))) × (List D.Occurrence × Unit))) (fun L5 ((a6, (a7, (a8, _))), (a9, _)) =>
 (atc a6 a7 fun a10 =>
 (cnd (decide (a8 ≤ (D.YearRule.To a10)))
 (atc a6 a7 fun a11 =>
 (atc a6 a7 fun a12 =>
 (atc a6 a7 fun a13 =>
 (optc (r01_Nth fu a8 (D.YearRule.Month a11) (D.YearRule.Week a12) (D.YearRule.Weekday a13)) fun (a14, a15) =>
 (atc a6 a7 fun a16 =>
 (atc a6 a7 fun a17 =>
 (join (Y := ((List D.YearRule × P3) × (D.Occurrence × (List D.Occurrence × Unit)))) (fun ((a18, (a19, (a20, (a21, _)))), (a22, (a23, _))) =>
 (lec ((List.length a23) + (List.length (a22 :: []))) 34359738368 (natc (IntKind.wrap .i64 (a21 + 1)) fun a24 =>
 (lec a24 (List.length (a23 ++ (a22 :: []))) (natc a21 fun a25 =>
 (lec a25 (List.length (a23 ++ (a22 :: []))) (chk (List.length (a23 ++ (a22 :: []))) (List.length (a23 ++ (a22 :: []))) (chk (List.length (a23 ++ (a22 :: []))) (List.length (a23 ++ (a22 :: []))) (lec a24 (List.length (a23 ++ (a22 :: []))) (lec a25 a24 (natc a21 fun a26 =>
 (ltc a26 (List.length ((List.take a24 (a23 ++ (a22 :: []))) ++ (List.take ((List.length (a23 ++ (a22 :: []))) - a24) (List.drop a25 (a23 ++ (a22 :: [])))))) (optc (GetElem?.getElem? ((List.take a24 (a23 ++ (a22 :: []))) ++ (List.take ((List.length (a23 ++ (a22 :: []))) - a24) (List.drop a25 (a23 ++ (a22 :: []))))) a26) fun a27 =>
 (L5 ((a18, (a19, ((IntKind.wrap .i64 (a20 + 1)), ()))), ((List.set ((List.take a24 (a23 ++ (a22 :: []))) ++ (List.take ((List.length (a23 ++ (a22 :: []))) - a24) (List.drop a25 (a23 ++ (a22 :: []))))) a26 a22), ())))))))))))))))) fun J28 =>
 (iterF (X := ((List D.YearRule × P3) × (D.Occurrence × (List D.Occurrence × Unit)))) (fun L29 ((a30, (a31, (a32, (a33, _)))), (a34, (a35, _))) =>
 (join (Y := ((List D.YearRule × P3) × (D.Occurrence × (List D.Occurrence × Unit)))) (fun ((a36, (a37, (a38, (a39, _)))), (a40, (a41, _))) =>
 (L29 ((a36, (a37, (a38, ((IntKind.wrap .i64 (a39 - 1)), ())))), (a40, (a41, ()))))) fun J42 =>
 (cnd (decide (0 < a33))
 (natc (IntKind.wrap .i64 (a33 - 1)) fun a43 =>
 (ltc a43 (List.length a35) (optc (GetElem?.getElem? a35 a43) fun a44 =>
 (cnd (decide ((D.Occurrence.At a34) < (D.Occurrence.At a44)))
 (J42 ((a30, (a31, (a32, (a33, ())))), (a34, (a35, ()))))
 (J28 ((a30, (a31, (a32, (a33, ())))), (a34, (a35, ()))))))))
 (J28 ((a30, (a31, (a32, (a33, ())))), (a34, (a35, ()))))))) fu ((a6, (a7, (a8, ((((List.length a9) : Nat) : Int), ())))), ((D.Occurrence.mk (IntKind.wrap .i64 ((IntKind.wrap .i64 (a14 * 86400)) + (D.YearRule.Second a16))) (D.YearRule.Offset a17)), (a9, ())))))))))))
 (L0 ((a6, ((IntKind.wrap .i64 (a7 + 1)), ())), (a9, ())))))) fu ((a1, (a2, ((D.YearRule.From a4), ()))), (a3, ()))))
 (some a3))) fu ((p0, (0, ())), ([], ())))
def r04_occurrences_g (fu : Nat) : Sig := mkSig [.one (.lst .YearRule)] [] [.one (.lst .Occurrence)] [] [] (List D.Occurrence) (fun q => ((q, ()), ())) (fun x y => r04_occurrences fu x.1)
theorem r04_occurrences_ok (fu : Nat) : FnOK Tryz.prog 276 (r04_occurrences_g fu) :=
 FnOK.intro (ty := ty) (E := envL [(288, 0, r01_Nth_g fu)]) (fu := fu) (an := .two .go (.two .go (.two (.two .go (.one (.loop [(0, .one (.lst .YearRule)), (3, .one (.own 1084)), (4, nI)] [(1084, .arr .Occurrence)] (.two .go (.two (.one (.two .go (.one (.loop [(0, .one (.lst .YearRule)), (3, .one (.own 1084)), (4, nI), (5, nI)] [(1084, .arr .Occurrence)] (.two .go (.two (.one (.two .go (.two .go (.two .go (.two (.join [(0, .one (.lst .YearRule)), (3, .one (.own 1084)), (4, nI), (5, nI), (8, .one (.ref 1008)), (9, nI)] [(1008, .boxst .Occurrence), (1084, .arr .Occurrence)] (.one (.loop [(0, .one (.lst .YearRule)), (3, .one (.own 1084)), (4, nI), (5, nI), (8, .one (.ref 1008)), (9, nI)] [(1008, .boxst .Occurrence), (1084, .arr .Occurrence)] (.two (.join [(0, .one (.lst .YearRule)), (3, .one (.own 1084)), (4, nI), (5, nI), (8, .one (.ref 1008)), (9, nI)] [(1008, .boxst .Occurrence), (1084, .arr .Occurrence)] .go) .go)))) .go))))) .go)))))) .go))))) .go))) (fun a b => a.1) (fun _ _ => rfl) (envL_ok ⟨r01_Nth_ok fu, trivial⟩) Tryz.func276 rfl rfl (fun x y => by kernel_rfl)
def r04_Transitions (fu : Nat) (p0 : D.Zone) : Option (List D.Transition × Int) :=
 (optc (r04_in fu (D.Zone.Offset p0) (-64800) 64800) fun a0 =>
 (cnd (!a0)
 (some ([], 1))
 (cnd (decide (16 < (((List.length (D.Zone.Rules p0)) : Nat) : Int)))
 (some ([], 5))
 (iterF (X := ((Int × (Int × Unit)) × (D.Zone × Unit))) (fun L1 ((a2, (a3, _)), (a4, _)) =>
 (cnd (decide (a3 < (((List.length (D.Zone.Rules a4)) : Nat) : Int)))
 (atc (D.Zone.Rules a4) a3 fun a5 =>
 (optc (r04_right fu a5) fun a6 =>
 (cnd (!a6)
 (some ([], 1))
 (atc (D.Zone.Rules a4) a3 fun a7 =>
 (atc (D.Zone.Rules a4) a3 fun a8 =>
 (L1 (((IntKind.wrap .i64 (a2 + (IntKind.wrap .i64 ((IntKind.wrap .i64 ((D.YearRule.To a7) - (D.YearRule.From a8))) + 1)))), ((IntKind.wrap .i64 (a3 + 1)), ())), (a4, ()))))))))
 (cnd (decide (640 < a2))
 (some ([], 5))
 (optc (r04_occurrences fu (D.Zone.Rules a4)) fun a9 =>
 (iterF (X := ((List D.Occurrence × (Int × (Int × Unit))) × (List D.Transition × Unit))) (fun L10 ((a11, (a12, (a13, _))), (a14, _)) =>
 (cnd (decide (a13 < (((List.length a11) : Nat) : Int)))
 (join (Y := ((List D.Occurrence × (Int × (Int × Unit))) × (List D.Transition × Unit))) (fun ((a15, (a16, (a17, _))), (a18, _)) =>
 (L10 ((a15, (a16, ((IntKind.wrap .i64 (a17 + 1)), ()))), (a18, ())))) fun J19 =>
 (atc a11 a13 fun a20 =>
 (cnd (decide ((D.Occurrence.Offset a20) = a12))
 (J19 ((a11, (a12, (a13, ()))), (a14, ())))
 (atc a11 a13 fun a21 =>
 (atc a11 a13 fun a22 =>
 (join (Y := ((List D.Occurrence × (Int × Unit)) × (D.Transition × (List D.Transition × Unit)))) (fun ((a23, (a24, _)), (a25, (a26, _))) =>
 (lec ((List.length a26) + (List.length (a25 :: []))) 34359738368 (J19 ((a23, ((D.Transition.Offset a25), (a24, ()))), ((a26 ++ (a25 :: [])), ()))))) fun J27 =>
 (optc (r04_in fu (IntKind.wrap .i64 ((D.Occurrence.Offset a22) - a12)) (-86399) 86399) fun a28 =>
 (cnd a28
 (optc (r04_in fu (IntKind.wrap .i64 ((D.Occurrence.At a21) - a12)) 0 8589934592) fun a29 =>
 (cnd a29
 (cnd (decide (0 < (((List.length a14) : Nat) : Int)))
 (natc (IntKind.wrap .i64 ((((List.length a14) : Nat) : Int) - 1)) fun a30 =>
 (ltc a30 (List.length a14) (optc (GetElem?.getElem? a14 a30) fun a31 =>
 (cnd (decide ((IntKind.wrap .i64 ((IntKind.wrap .i64 ((D.Occurrence.At a21) - a12)) - (D.Transition.At a31))) < 604800))
 (some ([], 6))
 (J27 ((a11, (a13, ())), ((D.Transition.mk (IntKind.wrap .i64 ((D.Occurrence.At a21) - a12)) (D.Occurrence.Offset a22)), (a14, ()))))))))
 (J27 ((a11, (a13, ())), ((D.Transition.mk (IntKind.wrap .i64 ((D.Occurrence.At a21) - a12)) (D.Occurrence.Offset a22)), (a14, ())))))
 (some ([], 6))))
 (some ([], 6))))))))))
 (some (a14, 0)))) fu ((a9, ((D.Zone.Offset a4), (0, ()))), ([], ()))))))) fu ((0, (0, ())), (p0, ()))))))
def r04_Transitions_g (fu : Nat) : Sig := mkSig [.st .Zone] [] [.one (.lst .Transition), nI] [] [] (List D.Transition × Int) (fun q => ((q.1, q.2, ()), ())) (fun x y => r04_Transitions fu x.1)
theorem r04_Transitions_ok (fu : Nat) : FnOK Tryz.prog 259 (r04_Transitions_g fu) :=
 FnOK.intro (ty := ty) (E := envL [(261, 0, r04_in_g fu), (275, 0, r04_right_g fu), (276, 0, r04_occurrences_g fu)]) (fu := fu) (an := .two .go (.two .go (.two .go (.two .go (.two (.two .go (.one (.loop [(1, .one (.ref 1001)), (4, nI), (5, nI)] [(1001, .boxst .Zone)] .go))) (.two .go (.two .go (.two .go (.two .go (.two (.two .go (.one (.loop [(6, .one (.own 1115)), (7, .one (.lst .Occurrence)), (8, nI), (9, nI)] [(1115, .arr .Transition)] (.two .go (.two (.join [(6, .one (.own 1115)), (7, .one (.lst .Occurrence)), (8, nI), (9, nI)] [(1115, .arr .Transition)] (.one (.two .go (.two .go (.two (.join [(6, .one (.own 1115)), (7, .one (.lst .Occurrence)), (9, nI), (10, .one (.ref 1010))] [(1010, .boxst .Transition), (1115, .arr .Transition)] .go) .go))))) .go))))) .go)))))))))) (fun a b => (a.1, a.2.1)) (fun _ _ => rfl) (envL_ok ⟨r04_in_ok fu, r04_right_ok fu, r04_occurrences_ok fu, trivial⟩) Tryz.func259 rfl rfl (fun x y => by kernel_rfl)
def r04_Check (fu : Nat) (p0 : D.Zone) : Option (Int) :=
 (optc (r04_Transitions fu p0) fun (a0, a1) =>
 (some a1))
def r04_Check_g (fu : Nat) : Sig := mkSig [.st .Zone] [] [nI] [] [] (Int) (fun q => ((q, ()), ())) (fun x y => r04_Check fu x.1)
theorem r04_Check_ok (fu : Nat) : FnOK Tryz.prog 227 (r04_Check_g fu) :=
 FnOK.intro (ty := ty) (E := envL [(259, 0, r04_Transitions_g fu)]) (fu := fu) (an := .go) (fun a b => a.1) (fun _ _ => rfl) (envL_ok ⟨r04_Transitions_ok fu, trivial⟩) Tryz.func227 rfl rfl (fun x y => by kernel_rfl)
def r08_minutes (fu : Nat) (p0 : D.Zone) : Option (Bool) :=
 (nzc 60 (iterF (X := ((Bool × (Int × Unit)) × (D.Zone × Unit))) (fun L0 ((a1, (a2, _)), (a3, _)) =>
 (cnd (decide (a2 < (((List.length (D.Zone.Rules a3)) : Nat) : Int)))
 (join (Y := ((Bool × (Int × Unit)) × (D.Zone × Unit))) (fun ((a4, (a5, _)), (a6, _)) =>
 (L0 ((a4, ((IntKind.wrap .i64 (a5 + 1)), ())), (a6, ())))) fun J7 =>
 (cnd a1
 (atc (D.Zone.Rules a3) a2 fun a8 =>
 (nzc 60 (cnd (decide ((Int.tmod (D.YearRule.Offset a8) 60) = 0))
 (J7 ((true, (a2, ())), (a3, ())))
 (J7 ((false, (a2, ())), (a3, ()))))))
 (J7 ((false, (a2, ())), (a3, ())))))
 (some a1))) fu (((decide ((Int.tmod (D.Zone.Offset p0) 60) = 0)), (0, ())), (p0, ()))))
def r08_minutes_g (fu : Nat) : Sig := mkSig [.st .Zone] [] [.one (.boo)] [] [] (Bool) (fun q => ((q, ()), ())) (fun x y => r08_minutes fu x.1)
theorem r08_minutes_ok (fu : Nat) : FnOK Tryz.prog 228 (r08_minutes_g fu) :=
 FnOK.intro (ty := ty) (E := envL []) (fu := fu) (an := .two .go (.two .go (.two (.two .go (.one (.loop [(1, .one (.ref 1001)), (3, .one (.boo)), (4, nI)] [(1001, .boxst .Zone)] (.two .go (.two (.join [(1, .one (.ref 1001)), (3, .one (.boo)), (4, nI)] [(1001, .boxst .Zone)] .go) .go))))) .go))) (fun a b => a.1) (fun _ _ => rfl) (envL_ok (l := []) trivial) Tryz.func228 rfl rfl (fun x y => by kernel_rfl)
def r08_name_0 (fu : Nat) (p0 : List (ByteArray)) (p1 : Int) : Option (Int) :=
 (natc p1 fun a0 =>
 (ltc a0 (List.length p0) (optc (GetElem?.getElem? p0 a0) fun a1 =>
 (optc (r06_Name fu a1) fun a2 =>
 (cnd (!a2)
 (sameC p0 p0 (some 2))
 (iterF (X := ((Int × (Int × Unit)) × (List ByteArray × Unit))) (fun L3 ((a4, (a5, _)), (a6, _)) =>
 (cnd (decide (a5 < a4))
 (natc a5 fun a7 =>
 (ltc a7 (List.length a6) (optc (GetElem?.getElem? a6 a7) fun a8 =>
 (natc a4 fun a9 =>
 (ltc a9 (List.length a6) (optc (GetElem?.getElem? a6 a9) fun a10 =>
 (cnd (decide (a8 = a10))
 (sameC a6 p0 (some 4))
 (L3 ((a4, ((IntKind.wrap .i64 (a5 + 1)), ())), (a6, ()))))))))))
 (sameC a6 p0 (some 0)))) fu ((p1, (0, ())), (p0, ()))))))))
def r08_name_0_g (fu : Nat) : Sig := mkSig [.one (.own 101), nI] [(101, .arr .str)] [nI] [] [101] (Int) (fun q => ((q, ()), ())) (fun x y => r08_name_0 fu y.1 x.1)
theorem r08_name_0_ok (fu : Nat) : FnOK Tryz.prog 226 (r08_name_0_g fu) :=
 FnOK.intro (ty := ty) (E := envL [(237, 0, r06_Name_g fu)]) (fu := fu) (an := .two .go (.two .go (.two (.two .go (.one (.loop [(0, .one (.own 101)), (1, nI), (5, nI)] [(101, .arr .str)] .go))) .go))) (fun a b => a.1) (fun _ _ => rfl) (envL_ok ⟨r06_Name_ok fu, trivial⟩) Tryz.func226 rfl rfl (fun x y => by kernel_rfl)
def r08_zones (fu : Nat) (p0 : D.Config) : Option (Int) :=
 (iterF (X := ((Int × Unit) × (D.Config × (List ByteArray × Unit)))) (fun L0 ((a1, _), (a2, (a3, _))) =>
 (cnd (decide (a1 < (((List.length (D.Config.Zones a2)) : Nat) : Int)))
 (join (Y := ((Int × Unit) × (D.Config × (List ByteArray × Unit)))) (fun ((a4, _), (a5, (a6, _))) =>
 (L0 (((IntKind.wrap .i64 (a4 + 1)), ()), (a5, (a6, ()))))) fun J7 =>
 (atc (D.Config.Zones a2) a1 fun a8 =>
 (lec ((List.length a3) + (List.length ((D.Zone.Name a8) :: []))) 34359738368 (optc (r08_name_0 fu (a3 ++ ((D.Zone.Name a8) :: [])) a1) fun a9 =>
 (cnd (decide (a9 ≠ 0))
 (some a9)
 (atc (D.Config.Zones a2) a1 fun a10 =>
 (optc (r04_Check fu a10) fun a11 =>
 (cnd (decide (a11 ≠ 0))
 (some 8)
 (atc (D.Config.Zones a2) a1 fun a12 =>
 (optc (r08_minutes fu a12) fun a13 =>
 (cnd a13
 (J7 ((a1, ()), (a2, ((a3 ++ ((D.Zone.Name a8) :: [])), ()))))
 (some 8))))))))))))
 (some 0))) fu ((0, ()), (p0, ([], ()))))
def r08_zones_g (fu : Nat) : Sig := mkSig [.st .Config] [] [nI] [] [] (Int) (fun q => ((q, ()), ())) (fun x y => r08_zones fu x.1)
theorem r08_zones_ok (fu : Nat) : FnOK Tryz.prog 185 (r08_zones_g fu) :=
 FnOK.intro (ty := ty) (E := envL [(226, 0, r08_name_0_g fu), (227, 0, r04_Check_g fu), (228, 0, r08_minutes_g fu)]) (fu := fu) (an := .two .go (.two .go (.two (.two .go (.one (.loop [(1, .one (.ref 1001)), (3, .one (.own 1021)), (4, nI)] [(1001, .boxst .Config), (1021, .arr .str)] (.two .go (.two (.join [(1, .one (.ref 1001)), (3, .one (.own 1021)), (4, nI)] [(1001, .boxst .Config), (1021, .arr .str)] .go) .go))))) .go))) (fun a b => a.1) (fun _ _ => rfl) (envL_ok ⟨r08_name_0_ok fu, r04_Check_ok fu, r08_minutes_ok fu, trivial⟩) Tryz.func185 rfl rfl (fun x y => by kernel_rfl)
def r05_Check (fu : Nat) (p0 : List D.Window) : Option (Int) :=
 (cnd (decide (14 < (((List.length p0) : Nat) : Int)))
 (some 5)
 (iterF (X := ((List D.Window × (Int × Unit)) × Unit)) (fun L0 ((a1, (a2, _)), _) =>
 (cnd (decide (a2 < (((List.length a1) : Nat) : Int)))
 (join (Y := ((List D.Window × (Int × Unit)) × Unit)) (fun ((a3, (a4, _)), _) =>
 (L0 ((a3, ((IntKind.wrap .i64 (a4 + 1)), ())), ()))) fun J5 =>
 (join (Y := ((List D.Window × (Int × Unit)) × Unit)) (fun ((a6, (a7, _)), _) =>
 (cnd (decide (0 < a7))
 (atc a6 a7 fun a8 =>
 (atc a6 (IntKind.wrap .i64 (a7 - 1)) fun a9 =>
 (cnd (decide ((D.Window.From a8) < (D.Window.To a9)))
 (some 6)
 (J5 ((a6, (a7, ())), ())))))
 (J5 ((a6, (a7, ())), ())))) fun J10 =>
 (atc a1 a2 fun a11 =>
 (cnd (decide ((D.Window.From a11) < 0))
 (some 1)
 (atc a1 a2 fun a12 =>
 (atc a1 a2 fun a13 =>
 (cnd (decide ((D.Window.To a13) ≤ (D.Window.From a12)))
 (some 1)
 (atc a1 a2 fun a14 =>
 (cnd (decide (604800 < (D.Window.To a14)))
 (some 1)
 (J10 ((a1, (a2, ())), ())))))))))))
 (some 0))) fu ((p0, (0, ())), ())))
def r05_Check_g (fu : Nat) : Sig := mkSig [.one (.lst .Window)] [] [nI] [] [] (Int) (fun q => ((q, ()), ())) (fun x y => r05_Check fu x.1)
theorem r05_Check_ok (fu : Nat) : FnOK Tryz.prog 144 (r05_Check_g fu) :=
 FnOK.intro (ty := ty) (E := envL []) (fu := fu) (an := .two .go (.two .go (.two (.two .go (.one (.loop [(0, .one (.lst .Window)), (3, nI)] [] (.two .go (.two (.join [(0, .one (.lst .Window)), (3, nI)] [] (.one (.two (.join [(0, .one (.lst .Window)), (3, nI)] [] .go) .go))) .go))))) .go))) (fun a b => a.1) (fun _ _ => rfl) (envL_ok (l := []) trivial) Tryz.func144 rfl rfl (fun x y => by kernel_rfl)
def r08_in (fu : Nat) (p0 : Int) (p1 : Int) (p2 : Int) : Option (Bool) :=
 (cnd (decide (p1 ≤ p0))
 (cnd (decide (p0 ≤ p2))
 (some true)
 (some false))
 (some false))
def r08_in_g (fu : Nat) : Sig := mkSig [nI, nI, nI] [] [.one (.boo)] [] [] (Bool) (fun q => ((q, ()), ())) (fun x y => r08_in fu x.1 x.2.1 x.2.2.1)
theorem r08_in_ok (fu : Nat) : FnOK Tryz.prog 229 (r08_in_g fu) :=
 FnOK.intro (ty := ty) (E := envL []) (fu := fu) (an := .go) (fun a b => a.1) (fun _ _ => rfl) (envL_ok (l := []) trivial) Tryz.func229 rfl rfl (fun x y => by kernel_rfl)
def r08_hours (fu : Nat) (p0 : Int) : Option (Bool) :=
 (optc (r08_in fu p0 0 604800) fun a0 =>
 (cnd a0
 (nzc 3600 (cnd (decide ((Int.tmod p0 3600) = 0))
 (some true)
 (some false)))
 (some false)))
def r08_hours_g (fu : Nat) : Sig := mkSig [nI] [] [.one (.boo)] [] [] (Bool) (fun q => ((q, ()), ())) (fun x y => r08_hours fu x.1)
theorem r08_hours_ok (fu : Nat) : FnOK Tryz.prog 230 (r08_hours_g fu) :=
 FnOK.intro (ty := ty) (E := envL [(229, 0, r08_in_g fu)]) (fu := fu) (an := .go) (fun a b => a.1) (fun _ _ => rfl) (envL_ok ⟨r08_in_ok fu, trivial⟩) Tryz.func230 rfl rfl (fun x y => by kernel_rfl)
def r08_people (fu : Nat) (p0 : D.Config) : Option (Int) :=
 (iterF (X := ((Int × Unit) × (D.Config × (List ByteArray × Unit)))) (fun L0 ((a1, _), (a2, (a3, _))) =>
 (cnd (decide (a1 < (((List.length (D.Config.People a2)) : Nat) : Int)))
 (join (Y := ((Int × Unit) × (D.Config × (List ByteArray × Unit)))) (fun ((a4, _), (a5, (a6, _))) =>
 (L0 (((IntKind.wrap .i64 (a4 + 1)), ()), (a5, (a6, ()))))) fun J7 =>
 (atc (D.Config.People a2) a1 fun a8 =>
 (lec ((List.length a3) + (List.length ((D.Person.Name a8) :: []))) 34359738368 (cnd (decide ((D.Person.Name a8) = (ByteArray.mk (List.toArray (110 :: (111 :: (98 :: (111 :: (100 :: (121 :: []))))))))))
 (some 2)
 (optc (r08_name_0 fu (a3 ++ ((D.Person.Name a8) :: [])) a1) fun a9 =>
 (cnd (decide (a9 ≠ 0))
 (some a9)
 (optc (r08_in fu (D.Person.Zone a8) 0 (IntKind.wrap .i64 ((((List.length (D.Config.Zones a2)) : Nat) : Int) - 1))) fun a10 =>
 (cnd (!a10)
 (some 3)
 (optc (r05_Check fu (D.Person.Quiet a8)) fun a11 =>
 (cnd (decide (a11 ≠ 0))
 (some 8)
 (optc (r08_hours fu (D.Person.MaxWeek a8)) fun a12 =>
 (cnd a12
 (optc (r08_hours fu (D.Person.MinRest a8)) fun a13 =>
 (cnd a13
 (J7 ((a1, ()), (a2, ((a3 ++ ((D.Person.Name a8) :: [])), ()))))
 (some 1)))
 (some 1)))))))))))))
 (some 0))) fu ((0, ()), (p0, ([], ()))))
def r08_people_g (fu : Nat) : Sig := mkSig [.st .Config] [] [nI] [] [] (Int) (fun q => ((q, ()), ())) (fun x y => r08_people fu x.1)
theorem r08_people_ok (fu : Nat) : FnOK Tryz.prog 186 (r08_people_g fu) :=
 FnOK.intro (ty := ty) (E := envL [(144, 0, r05_Check_g fu), (226, 0, r08_name_0_g fu), (229, 0, r08_in_g fu), (230, 0, r08_hours_g fu)]) (fu := fu) (an := .two .go (.two .go (.two (.two .go (.one (.loop [(1, .one (.ref 1001)), (3, .one (.own 1023)), (4, nI)] [(1001, .boxst .Config), (1023, .arr .str)] (.two .go (.two (.join [(1, .one (.ref 1001)), (3, .one (.own 1023)), (4, nI)] [(1001, .boxst .Config), (1023, .arr .str)] .go) .go))))) .go))) (fun a b => a.1) (fun _ _ => rfl) (envL_ok ⟨r05_Check_ok fu, r08_name_0_ok fu, r08_in_ok fu, r08_hours_ok fu, trivial⟩) Tryz.func186 rfl rfl (fun x y => by kernel_rfl)
def r01_MaxDay (fu : Nat) : Option (Int) :=
 (optc (r01_year fu 2241) fun a0 =>
 (some (IntKind.wrap .i64 (a0 - 1))))
def r01_MaxDay_g (fu : Nat) : Sig := mkSig [] [] [nI] [] [] (Int) (fun q => ((q, ()), ())) (fun x y => r01_MaxDay fu)
theorem r01_MaxDay_ok (fu : Nat) : FnOK Tryz.prog 231 (r01_MaxDay_g fu) :=
 FnOK.intro (ty := ty) (E := envL [(260, 0, r01_year_g fu)]) (fu := fu) (an := .go) (fun a b => a.1) (fun _ _ => rfl) (envL_ok ⟨r01_year_ok fu, trivial⟩) Tryz.func231 rfl rfl (fun x y => by kernel_rfl)
def r08_calendars (fu : Nat) (p0 : D.Config) : Option (Int) :=
 (iterF (X := ((Int × Unit) × (D.Config × (List ByteArray × Unit)))) (fun L0 ((a1, _), (a2, (a3, _))) =>
 (cnd (decide (a1 < (((List.length (D.Config.Calendars a2)) : Nat) : Int)))
 (atc (D.Config.Calendars a2) a1 fun a4 =>
 (lec ((List.length a3) + (List.length ((D.Calendar.Name a4) :: []))) 34359738368 (optc (r08_name_0 fu (a3 ++ ((D.Calendar.Name a4) :: [])) a1) fun a5 =>
 (cnd (decide (a5 ≠ 0))
 (some a5)
 (optc (r08_in fu (D.Calendar.Zone a4) 0 (IntKind.wrap .i64 ((((List.length (D.Config.Zones a2)) : Nat) : Int) - 1))) fun a6 =>
 (cnd (!a6)
 (some 3)
 (cnd (decide (64 < (((List.length (D.Calendar.Days a4)) : Nat) : Int)))
 (some 5)
 (iterF (X := ((Int × (Int × Unit)) × (D.Config × (D.Calendar × (List ByteArray × Unit))))) (fun L7 ((a8, (a9, _)), (a10, (a11, (a12, _)))) =>
 (cnd (decide (a9 < (((List.length (D.Calendar.Days a11)) : Nat) : Int)))
 (atc (D.Calendar.Days a11) a9 fun a13 =>
 (optc (r01_MaxDay fu) fun a14 =>
 (optc (r08_in fu a13 0 a14) fun a15 =>
 (cnd (!a15)
 (some 1)
 (L7 ((a8, ((IntKind.wrap .i64 (a9 + 1)), ())), (a10, (a11, (a12, ())))))))))
 (iterF (X := ((Int × (Int × Unit)) × (D.Config × (D.Calendar × (List ByteArray × Unit))))) (fun L16 ((a17, (a18, _)), (a19, (a20, (a21, _)))) =>
 (cnd (decide (a18 < (((List.length (D.Calendar.Days a20)) : Nat) : Int)))
 (atc (D.Calendar.Days a20) a18 fun a22 =>
 (atc (D.Calendar.Days a20) (IntKind.wrap .i64 (a18 - 1)) fun a23 =>
 (cnd (decide (a22 ≤ a23))
 (some 6)
 (L16 ((a17, ((IntKind.wrap .i64 (a18 + 1)), ())), (a19, (a20, (a21, ()))))))))
 (L0 (((IntKind.wrap .i64 (a17 + 1)), ()), (a19, (a21, ())))))) fu ((a8, (1, ())), (a10, (a11, (a12, ()))))))) fu ((a1, (0, ())), (a2, (a4, ((a3 ++ ((D.Calendar.Name a4) :: [])), ()))))))))))))
 (some 0))) fu ((0, ()), (p0, ([], ()))))
def r08_calendars_g (fu : Nat) : Sig := mkSig [.st .Config] [] [nI] [] [] (Int) (fun q => ((q, ()), ())) (fun x y => r08_calendars fu x.1)
theorem r08_calendars_ok (fu : Nat) : FnOK Tryz.prog 187 (r08_calendars_g fu) :=
 FnOK.intro (ty := ty) (E := envL [(226, 0, r08_name_0_g fu), (229, 0, r08_in_g fu), (231, 0, r01_MaxDay_g fu)]) (fu := fu) (an := .two .go (.two .go (.two (.two .go (.one (.loop [(1, .one (.ref 1001)), (3, .one (.own 1025)), (4, nI)] [(1001, .boxst .Config), (1025, .arr .str)] (.two .go (.two (.one (.two .go (.two .go (.two .go (.two .go (.two .go (.two (.two .go (.one (.loop [(1, .one (.ref 1001)), (3, .one (.own 1025)), (4, nI), (5, .one (.ref 1005)), (7, nI)] [(1001, .boxst .Config), (1005, .boxst .Calendar), (1025, .arr .str)] .go))) (.two .go (.one (.loop [(1, .one (.ref 1001)), (3, .one (.own 1025)), (4, nI), (5, .one (.ref 1005)), (8, nI)] [(1001, .boxst .Config), (1005, .boxst .Calendar), (1025, .arr .str)] .go)))))))))) .go))))) .go))) (fun a b => a.1) (fun _ _ => rfl) (envL_ok ⟨r08_name_0_ok fu, r08_in_ok fu, r01_MaxDay_ok fu, trivial⟩) Tryz.func187 rfl rfl (fun x y => by kernel_rfl)
def r08_layer (fu : Nat) (p0 : D.Config) (p1 : D.Layer) : Option (Int) :=
 (join (Y := (Unit × (D.Config × (D.Layer × Unit)))) (fun (_, (a0, (a1, _))) =>
 (iterF (X := ((Int × Unit) × (D.Config × (D.Layer × Unit)))) (fun L2 ((a3, _), (a4, (a5, _))) =>
 (cnd (decide (a3 < (((List.length (D.Layer.Members a5)) : Nat) : Int)))
 (atc (D.Layer.Members a5) a3 fun a6 =>
 (optc (r08_in fu a6 0 (IntKind.wrap .i64 ((((List.length (D.Config.People a4)) : Nat) : Int) - 1))) fun a7 =>
 (cnd (!a7)
 (some 3)
 (L2 (((IntKind.wrap .i64 (a3 + 1)), ()), (a4, (a5, ())))))))
 (join (Y := (Unit × Unit)) (fun (_, _) =>
 (some 0)) fun J8 =>
 (optc (r05_Check fu (D.Layer.Windows a5)) fun a9 =>
 (cnd (decide (a9 ≠ 0))
 (some 8)
 (optc (r08_in fu (D.Layer.Mode a5) 0 2) fun a10 =>
 (cnd (!a10)
 (some 1)
 (cnd (decide ((D.Layer.Mode a5) ≠ 0))
 (optc (r08_in fu (D.Layer.Calendar a5) 0 (IntKind.wrap .i64 ((((List.length (D.Config.Calendars a4)) : Nat) : Int) - 1))) fun a11 =>
 (cnd a11
 (cnd (decide ((D.Layer.Mode a5) = 0))
 (cnd (decide ((D.Layer.Calendar a5) ≠ 0))
 (some 1)
 (J8 ((), ())))
 (J8 ((), ())))
 (some 3)))
 (cnd (decide ((D.Layer.Mode a5) = 0))
 (cnd (decide ((D.Layer.Calendar a5) ≠ 0))
 (some 1)
 (J8 ((), ())))
 (J8 ((), ()))))))))))) fu ((0, ()), (a0, (a1, ()))))) fun J12 =>
 (optc (r08_in fu (D.Layer.Zone p1) 0 (IntKind.wrap .i64 ((((List.length (D.Config.Zones p0)) : Nat) : Int) - 1))) fun a13 =>
 (cnd (!a13)
 (some 3)
 (optc (r01_MaxDay fu) fun a14 =>
 (optc (r08_in fu (D.Local.Day (D.Layer.Start p1)) 1 a14) fun a15 =>
 (cnd a15
 (optc (r08_in fu (D.Local.Second (D.Layer.Start p1)) 0 86399) fun a16 =>
 (cnd a16
 (optc (r08_in fu (D.Layer.Unit p1) 0 2) fun a17 =>
 (cnd a17
 (optc (r08_in fu (D.Layer.Every p1) 1 400) fun a18 =>
 (cnd a18
 (cnd (decide ((((List.length (D.Layer.Members p1)) : Nat) : Int) = 0))
 (some 7)
 (cnd (decide (12 < (((List.length (D.Layer.Members p1)) : Nat) : Int)))
 (some 5)
 (J12 ((), (p0, (p1, ()))))))
 (some 1)))
 (some 1)))
 (some 1)))
 (some 1)))))))
def r08_layer_g (fu : Nat) : Sig := mkSig [.st .Config, .st .Layer] [] [nI] [] [] (Int) (fun q => ((q, ()), ())) (fun x y => r08_layer fu x.1 x.2.1)
theorem r08_layer_ok (fu : Nat) : FnOK Tryz.prog 232 (r08_layer_g fu) :=
 FnOK.intro (ty := ty) (E := envL [(144, 0, r05_Check_g fu), (229, 0, r08_in_g fu), (231, 0, r01_MaxDay_g fu)]) (fu := fu) (an := .two .go (.two (.join [(2, .one (.ref 1002)), (3, .one (.ref 1003))] [(1002, .boxst .Config), (1003, .boxst .Layer)] .go) (.two (.two .go (.one (.loop [(2, .one (.ref 1002)), (3, .one (.ref 1003)), (5, nI)] [(1002, .boxst .Config), (1003, .boxst .Layer)] .go))) (.two (.join [] [] .go) .go)))) (fun a b => a.1) (fun _ _ => rfl) (envL_ok ⟨r05_Check_ok fu, r08_in_ok fu, r01_MaxDay_ok fu, trivial⟩) Tryz.func232 rfl rfl (fun x y => by kernel_rfl)
def r08_edit (fu : Nat) (p0 : D.Config) (p1 : D.Edit) : Option (Int) :=
 (join (Y := (Unit × Unit)) (fun (_, _) =>
 (some 0)) fun J0 =>
 (optc (r08_in fu (D.Edit.Kind p1) 0 2) fun a1 =>
 (cnd (!a1)
 (some 1)
 (optc (r08_in fu (D.Edit.A p1) 0 (IntKind.wrap .i64 ((((List.length (D.Config.People p0)) : Nat) : Int) - 1))) fun a2 =>
 (cnd a2
 (cnd (decide ((D.Edit.Kind p1) = 2))
 (optc (r08_in fu (D.Edit.B p1) 0 (IntKind.wrap .i64 ((((List.length (D.Config.People p0)) : Nat) : Int) - 1))) fun a3 =>
 (cnd a3
 (cnd (decide ((D.Edit.Kind p1) ≠ 2))
 (cnd (decide ((D.Edit.B p1) ≠ 0))
 (some 1)
 (cnd (decide ((D.Edit.Kind p1) = 2))
 (cnd (decide ((D.Edit.A p1) = (D.Edit.B p1)))
 (some 4)
 (cnd (decide ((D.Edit.From p1) < 0))
 (some 1)
 (cnd (decide ((D.Edit.To p1) < 0))
 (some 1)
 (nzc 86400 (optc (r01_MaxDay fu) fun a4 =>
 (cnd (decide (a4 < (IntKind.wrap .i64 (Int.tdiv (D.Edit.To p1) 86400))))
 (some 1)
 (cnd (decide ((D.Edit.To p1) ≤ (D.Edit.From p1)))
 (some 6)
 (J0 ((), ())))))))))
 (cnd (decide ((D.Edit.From p1) < 0))
 (some 1)
 (cnd (decide ((D.Edit.To p1) < 0))
 (some 1)
 (nzc 86400 (optc (r01_MaxDay fu) fun a5 =>
 (cnd (decide (a5 < (IntKind.wrap .i64 (Int.tdiv (D.Edit.To p1) 86400))))
 (some 1)
 (cnd (decide ((D.Edit.To p1) ≤ (D.Edit.From p1)))
 (some 6)
 (J0 ((), ()))))))))))
 (cnd (decide ((D.Edit.Kind p1) = 2))
 (cnd (decide ((D.Edit.A p1) = (D.Edit.B p1)))
 (some 4)
 (cnd (decide ((D.Edit.From p1) < 0))
 (some 1)
 (cnd (decide ((D.Edit.To p1) < 0))
 (some 1)
 (nzc 86400 (optc (r01_MaxDay fu) fun a6 =>
 (cnd (decide (a6 < (IntKind.wrap .i64 (Int.tdiv (D.Edit.To p1) 86400))))
 (some 1)
 (cnd (decide ((D.Edit.To p1) ≤ (D.Edit.From p1)))
 (some 6)
 (J0 ((), ())))))))))
 (cnd (decide ((D.Edit.From p1) < 0))
 (some 1)
 (cnd (decide ((D.Edit.To p1) < 0))
 (some 1)
 (nzc 86400 (optc (r01_MaxDay fu) fun a7 =>
 (cnd (decide (a7 < (IntKind.wrap .i64 (Int.tdiv (D.Edit.To p1) 86400))))
 (some 1)
 (cnd (decide ((D.Edit.To p1) ≤ (D.Edit.From p1)))
 (some 6)
 (J0 ((), ()))))))))))
 (some 3)))
 (cnd (decide ((D.Edit.Kind p1) ≠ 2))
 (cnd (decide ((D.Edit.B p1) ≠ 0))
 (some 1)
 (cnd (decide ((D.Edit.Kind p1) = 2))
 (cnd (decide ((D.Edit.A p1) = (D.Edit.B p1)))
 (some 4)
 (cnd (decide ((D.Edit.From p1) < 0))
 (some 1)
 (cnd (decide ((D.Edit.To p1) < 0))
 (some 1)
 (nzc 86400 (optc (r01_MaxDay fu) fun a8 =>
 (cnd (decide (a8 < (IntKind.wrap .i64 (Int.tdiv (D.Edit.To p1) 86400))))
 (some 1)
 (cnd (decide ((D.Edit.To p1) ≤ (D.Edit.From p1)))
 (some 6)
 (J0 ((), ())))))))))
 (cnd (decide ((D.Edit.From p1) < 0))
 (some 1)
 (cnd (decide ((D.Edit.To p1) < 0))
 (some 1)
 (nzc 86400 (optc (r01_MaxDay fu) fun a9 =>
 (cnd (decide (a9 < (IntKind.wrap .i64 (Int.tdiv (D.Edit.To p1) 86400))))
 (some 1)
 (cnd (decide ((D.Edit.To p1) ≤ (D.Edit.From p1)))
 (some 6)
 (J0 ((), ()))))))))))
 (cnd (decide ((D.Edit.Kind p1) = 2))
 (cnd (decide ((D.Edit.A p1) = (D.Edit.B p1)))
 (some 4)
 (cnd (decide ((D.Edit.From p1) < 0))
 (some 1)
 (cnd (decide ((D.Edit.To p1) < 0))
 (some 1)
 (nzc 86400 (optc (r01_MaxDay fu) fun a10 =>
 (cnd (decide (a10 < (IntKind.wrap .i64 (Int.tdiv (D.Edit.To p1) 86400))))
 (some 1)
 (cnd (decide ((D.Edit.To p1) ≤ (D.Edit.From p1)))
 (some 6)
 (J0 ((), ())))))))))
 (cnd (decide ((D.Edit.From p1) < 0))
 (some 1)
 (cnd (decide ((D.Edit.To p1) < 0))
 (some 1)
 (nzc 86400 (optc (r01_MaxDay fu) fun a11 =>
 (cnd (decide (a11 < (IntKind.wrap .i64 (Int.tdiv (D.Edit.To p1) 86400))))
 (some 1)
 (cnd (decide ((D.Edit.To p1) ≤ (D.Edit.From p1)))
 (some 6)
 (J0 ((), ())))))))))))
 (cnd (decide ((D.Edit.Kind p1) ≠ 1))
 (some 3)
 (cnd (decide ((D.Edit.A p1) ≠ (-1)))
 (some 3)
 (cnd (decide ((D.Edit.Kind p1) = 2))
 (optc (r08_in fu (D.Edit.B p1) 0 (IntKind.wrap .i64 ((((List.length (D.Config.People p0)) : Nat) : Int) - 1))) fun a12 =>
 (cnd a12
 (cnd (decide ((D.Edit.Kind p1) ≠ 2))
 (cnd (decide ((D.Edit.B p1) ≠ 0))
 (some 1)
 (cnd (decide ((D.Edit.Kind p1) = 2))
 (cnd (decide ((D.Edit.A p1) = (D.Edit.B p1)))
 (some 4)
 (cnd (decide ((D.Edit.From p1) < 0))
 (some 1)
 (cnd (decide ((D.Edit.To p1) < 0))
 (some 1)
 (nzc 86400 (optc (r01_MaxDay fu) fun a13 =>
 (cnd (decide (a13 < (IntKind.wrap .i64 (Int.tdiv (D.Edit.To p1) 86400))))
 (some 1)
 (cnd (decide ((D.Edit.To p1) ≤ (D.Edit.From p1)))
 (some 6)
 (J0 ((), ())))))))))
 (cnd (decide ((D.Edit.From p1) < 0))
 (some 1)
 (cnd (decide ((D.Edit.To p1) < 0))
 (some 1)
 (nzc 86400 (optc (r01_MaxDay fu) fun a14 =>
 (cnd (decide (a14 < (IntKind.wrap .i64 (Int.tdiv (D.Edit.To p1) 86400))))
 (some 1)
 (cnd (decide ((D.Edit.To p1) ≤ (D.Edit.From p1)))
 (some 6)
 (J0 ((), ()))))))))))
 (cnd (decide ((D.Edit.Kind p1) = 2))
 (cnd (decide ((D.Edit.A p1) = (D.Edit.B p1)))
 (some 4)
 (cnd (decide ((D.Edit.From p1) < 0))
 (some 1)
 (cnd (decide ((D.Edit.To p1) < 0))
 (some 1)
 (nzc 86400 (optc (r01_MaxDay fu) fun a15 =>
 (cnd (decide (a15 < (IntKind.wrap .i64 (Int.tdiv (D.Edit.To p1) 86400))))
 (some 1)
 (cnd (decide ((D.Edit.To p1) ≤ (D.Edit.From p1)))
 (some 6)
 (J0 ((), ())))))))))
 (cnd (decide ((D.Edit.From p1) < 0))
 (some 1)
 (cnd (decide ((D.Edit.To p1) < 0))
 (some 1)
 (nzc 86400 (optc (r01_MaxDay fu) fun a16 =>
 (cnd (decide (a16 < (IntKind.wrap .i64 (Int.tdiv (D.Edit.To p1) 86400))))
 (some 1)
 (cnd (decide ((D.Edit.To p1) ≤ (D.Edit.From p1)))
 (some 6)
 (J0 ((), ()))))))))))
 (some 3)))
 (cnd (decide ((D.Edit.Kind p1) ≠ 2))
 (cnd (decide ((D.Edit.B p1) ≠ 0))
 (some 1)
 (cnd (decide ((D.Edit.Kind p1) = 2))
 (cnd (decide ((D.Edit.A p1) = (D.Edit.B p1)))
 (some 4)
 (cnd (decide ((D.Edit.From p1) < 0))
 (some 1)
 (cnd (decide ((D.Edit.To p1) < 0))
 (some 1)
 (nzc 86400 (optc (r01_MaxDay fu) fun a17 =>
 (cnd (decide (a17 < (IntKind.wrap .i64 (Int.tdiv (D.Edit.To p1) 86400))))
 (some 1)
 (cnd (decide ((D.Edit.To p1) ≤ (D.Edit.From p1)))
 (some 6)
 (J0 ((), ())))))))))
 (cnd (decide ((D.Edit.From p1) < 0))
 (some 1)
 (cnd (decide ((D.Edit.To p1) < 0))
 (some 1)
 (nzc 86400 (optc (r01_MaxDay fu) fun a18 =>
 (cnd (decide (a18 < (IntKind.wrap .i64 (Int.tdiv (D.Edit.To p1) 86400))))
 (some 1)
 (cnd (decide ((D.Edit.To p1) ≤ (D.Edit.From p1)))
 (some 6)
 (J0 ((), ()))))))))))
 (cnd (decide ((D.Edit.Kind p1) = 2))
 (cnd (decide ((D.Edit.A p1) = (D.Edit.B p1)))
 (some 4)
 (cnd (decide ((D.Edit.From p1) < 0))
 (some 1)
 (cnd (decide ((D.Edit.To p1) < 0))
 (some 1)
 (nzc 86400 (optc (r01_MaxDay fu) fun a19 =>
 (cnd (decide (a19 < (IntKind.wrap .i64 (Int.tdiv (D.Edit.To p1) 86400))))
 (some 1)
 (cnd (decide ((D.Edit.To p1) ≤ (D.Edit.From p1)))
 (some 6)
 (J0 ((), ())))))))))
 (cnd (decide ((D.Edit.From p1) < 0))
 (some 1)
 (cnd (decide ((D.Edit.To p1) < 0))
 (some 1)
 (nzc 86400 (optc (r01_MaxDay fu) fun a20 =>
 (cnd (decide (a20 < (IntKind.wrap .i64 (Int.tdiv (D.Edit.To p1) 86400))))
 (some 1)
 (cnd (decide ((D.Edit.To p1) ≤ (D.Edit.From p1)))
 (some 6)
 (J0 ((), ()))))))))))))))))))
def r08_edit_g (fu : Nat) : Sig := mkSig [.st .Config, .st .Edit] [] [nI] [] [] (Int) (fun q => ((q, ()), ())) (fun x y => r08_edit fu x.1 x.2.1)
theorem r08_edit_ok (fu : Nat) : FnOK Tryz.prog 233 (r08_edit_g fu) :=
 FnOK.intro (ty := ty) (E := envL [(229, 0, r08_in_g fu), (231, 0, r01_MaxDay_g fu)]) (fu := fu) (an := .two .go (.two .go (.two (.join [] [] .go) .go))) (fun a b => a.1) (fun _ _ => rfl) (envL_ok ⟨r08_in_ok fu, r01_MaxDay_ok fu, trivial⟩) Tryz.func233 rfl rfl (fun x y => by kernel_rfl)
def r08_schedules (fu : Nat) (p0 : D.Config) : Option (Int) :=
 (iterF (X := ((Int × Unit) × (D.Config × (List ByteArray × Unit)))) (fun L0 ((a1, _), (a2, (a3, _))) =>
 (cnd (decide (a1 < (((List.length (D.Config.Schedules a2)) : Nat) : Int)))
 (atc (D.Config.Schedules a2) a1 fun a4 =>
 (lec ((List.length a3) + (List.length ((D.Schedule.Name a4) :: []))) 34359738368 (optc (r08_name_0 fu (a3 ++ ((D.Schedule.Name a4) :: [])) a1) fun a5 =>
 (cnd (decide (a5 ≠ 0))
 (some a5)
 (join (Y := ((Int × Unit) × (D.Config × (D.Schedule × (List ByteArray × Unit))))) (fun ((a6, _), (a7, (a8, (a9, _)))) =>
 (iterF (X := ((Int × (Int × Unit)) × (D.Config × (D.Schedule × (List ByteArray × (List ByteArray × Unit)))))) (fun L10 ((a11, (a12, _)), (a13, (a14, (a15, (a16, _))))) =>
 (cnd (decide (a12 < (((List.length (D.Schedule.Layers a14)) : Nat) : Int)))
 (atc (D.Schedule.Layers a14) a12 fun a17 =>
 (lec ((List.length a16) + (List.length ((D.Layer.Name a17) :: []))) 34359738368 (optc (r08_name_0 fu (a16 ++ ((D.Layer.Name a17) :: [])) a12) fun a18 =>
 (cnd (decide (a18 ≠ 0))
 (some a18)
 (atc (D.Schedule.Layers a14) a12 fun a19 =>
 (optc (r08_layer fu a13 a19) fun a20 =>
 (cnd (decide (a20 ≠ 0))
 (some a20)
 (L10 ((a11, ((IntKind.wrap .i64 (a12 + 1)), ())), (a13, (a14, (a15, ((a16 ++ ((D.Layer.Name a17) :: [])), ())))))))))))))
 (iterF (X := ((Int × (Int × Unit)) × (D.Config × (D.Schedule × (List ByteArray × Unit))))) (fun L21 ((a22, (a23, _)), (a24, (a25, (a26, _)))) =>
 (cnd (decide (a23 < (((List.length (D.Schedule.Edits a25)) : Nat) : Int)))
 (atc (D.Schedule.Edits a25) a23 fun a27 =>
 (optc (r08_edit fu a24 a27) fun a28 =>
 (cnd (decide (a28 ≠ 0))
 (some a28)
 (L21 ((a22, ((IntKind.wrap .i64 (a23 + 1)), ())), (a24, (a25, (a26, ()))))))))
 (L0 (((IntKind.wrap .i64 (a22 + 1)), ()), (a24, (a26, ())))))) fu ((a11, (0, ())), (a13, (a14, (a15, ()))))))) fu ((a6, (0, ())), (a7, (a8, (a9, ([], ()))))))) fun J29 =>
 (cnd (decide (6 < (((List.length (D.Schedule.Layers a4)) : Nat) : Int)))
 (some 5)
 (cnd (decide (48 < (((List.length (D.Schedule.Edits a4)) : Nat) : Int)))
 (some 5)
 (J29 ((a1, ()), (a2, (a4, ((a3 ++ ((D.Schedule.Name a4) :: [])), ()))))))))))))
 (some 0))) fu ((0, ()), (p0, ([], ()))))
def r08_schedules_g (fu : Nat) : Sig := mkSig [.st .Config] [] [nI] [] [] (Int) (fun q => ((q, ()), ())) (fun x y => r08_schedules fu x.1)
theorem r08_schedules_ok (fu : Nat) : FnOK Tryz.prog 188 (r08_schedules_g fu) :=
 FnOK.intro (ty := ty) (E := envL [(226, 0, r08_name_0_g fu), (232, 0, r08_layer_g fu), (233, 0, r08_edit_g fu)]) (fu := fu) (an := .two .go (.two .go (.two (.two .go (.one (.loop [(1, .one (.ref 1001)), (3, .one (.own 1029)), (4, nI)] [(1001, .boxst .Config), (1029, .arr .str)] (.two .go (.two (.one (.two .go (.two .go (.two .go (.two (.join [(1, .one (.ref 1001)), (3, .one (.own 1029)), (4, nI), (5, .one (.ref 1005))] [(1001, .boxst .Config), (1005, .boxst .Schedule), (1029, .arr .str)] .go) (.two .go (.two (.two .go (.one (.loop [(1, .one (.ref 1001)), (3, .one (.own 1029)), (4, nI), (5, .one (.ref 1005)), (7, .one (.own 1061)), (8, nI)] [(1001, .boxst .Config), (1005, .boxst .Schedule), (1029, .arr .str), (1061, .arr .str)] .go))) (.two .go (.one (.loop [(1, .one (.ref 1001)), (3, .one (.own 1029)), (4, nI), (5, .one (.ref 1005)), (11, nI)] [(1001, .boxst .Config), (1005, .boxst .Schedule), (1029, .arr .str)] .go)))))))))) .go))))) .go))) (fun a b => a.1) (fun _ _ => rfl) (envL_ok ⟨r08_name_0_ok fu, r08_layer_ok fu, r08_edit_ok fu, trivial⟩) Tryz.func188 rfl rfl (fun x y => by kernel_rfl)
def r08_Check (fu : Nat) (p0 : D.Config) : Option (Int) :=
 (join (Y := (Unit × (D.Config × Unit))) (fun (_, (a0, _)) =>
 (optc (r08_zones fu a0) fun a1 =>
 (cnd (decide (a1 ≠ 0))
 (some a1)
 (optc (r08_people fu a0) fun a2 =>
 (cnd (decide (a2 ≠ 0))
 (some a2)
 (optc (r08_calendars fu a0) fun a3 =>
 (cnd (decide (a3 ≠ 0))
 (some a3)
 (optc (r08_schedules fu a0) fun a4 =>
 (some a4))))))))) fun J5 =>
 (cnd (decide (16 < (((List.length (D.Config.Zones p0)) : Nat) : Int)))
 (some 5)
 (cnd (decide (32 < (((List.length (D.Config.People p0)) : Nat) : Int)))
 (some 5)
 (cnd (decide (8 < (((List.length (D.Config.Calendars p0)) : Nat) : Int)))
 (some 5)
 (cnd (decide (12 < (((List.length (D.Config.Schedules p0)) : Nat) : Int)))
 (some 5)
 (J5 ((), (p0, ()))))))))
def r08_Check_g (fu : Nat) : Sig := mkSig [.st .Config] [] [nI] [] [] (Int) (fun q => ((q, ()), ())) (fun x y => r08_Check fu x.1)
theorem r08_Check_ok (fu : Nat) : FnOK Tryz.prog 141 (r08_Check_g fu) :=
 FnOK.intro (ty := ty) (E := envL [(185, 0, r08_zones_g fu), (186, 0, r08_people_g fu), (187, 0, r08_calendars_g fu), (188, 0, r08_schedules_g fu)]) (fu := fu) (an := .two .go (.two (.join [(1, .one (.ref 1001))] [(1001, .boxst .Config)] .go) .go)) (fun a b => a.1) (fun _ _ => rfl) (envL_ok ⟨r08_zones_ok fu, r08_people_ok fu, r08_calendars_ok fu, r08_schedules_ok fu, trivial⟩) Tryz.func141 rfl rfl (fun x y => by kernel_rfl)
def r25_Set (fu : Nat) (p0 : List Int) (p1 : Int) : Option (Bool) :=
 (iterF (X := ((List Int × (Int × (Int × Unit))) × Unit)) (fun L0 ((a1, (a2, (a3, _))), _) =>
 (cnd (decide (a3 < (((List.length a1) : Nat) : Int)))
 (join (Y := ((List Int × (Int × (Int × Unit))) × Unit)) (fun ((a4, (a5, (a6, _))), _) =>
 (L0 ((a4, (a5, ((IntKind.wrap .i64 (a6 + 1)), ()))), ()))) fun J7 =>
 (atc a1 a3 fun a8 =>
 (cnd (decide (a8 < 0))
 (some false)
 (atc a1 a3 fun a9 =>
 (cnd (decide (a2 ≤ a9))
 (some false)
 (cnd (decide (0 < a3))
 (atc a1 (IntKind.wrap .i64 (a3 - 1)) fun a10 =>
 (atc a1 a3 fun a11 =>
 (cnd (decide (a11 ≤ a10))
 (some false)
 (J7 ((a1, (a2, (a3, ()))), ())))))
 (J7 ((a1, (a2, (a3, ()))), ()))))))))
 (some true))) fu ((p0, (p1, (0, ()))), ()))
def r25_Set_g (fu : Nat) : Sig := mkSig [.one (.lst .int), nI] [] [.one (.boo)] [] [] (Bool) (fun q => ((q, ()), ())) (fun x y => r25_Set fu x.1 x.2.1)
theorem r25_Set_ok (fu : Nat) : FnOK Tryz.prog 95 (r25_Set_g fu) :=
 FnOK.intro (ty := ty) (E := envL []) (fu := fu) (an := .two .go (.two (.two .go (.one (.loop [(0, .one (.lst .int)), (1, nI), (5, nI)] [] (.two .go (.two (.join [(0, .one (.lst .int)), (1, nI), (5, nI)] [] .go) .go))))) .go)) (fun a b => a.1) (fun _ _ => rfl) (envL_ok (l := []) trivial) Tryz.func95 rfl rfl (fun x y => by kernel_rfl)
def r25_team (fu : Nat) (p0 : D.Config) (p1 : D.Book) (p2 : Int) : Option (Int) :=
 (atc (D.Book.Teams p1) p2 fun a0 =>
 (optc (r06_Name fu (D.Team.Name a0)) fun a1 =>
 (cnd (!a1)
 (some 8)
 (iterF (X := ((Int × (Int × Unit)) × (D.Config × (D.Book × (D.Team × Unit))))) (fun L2 ((a3, (a4, _)), (a5, (a6, (a7, _)))) =>
 (cnd (decide (a4 < a3))
 (atc (D.Book.Teams a6) a4 fun a8 =>
 (cnd (decide ((D.Team.Name a8) = (D.Team.Name a7)))
 (some 4)
 (L2 ((a3, ((IntKind.wrap .i64 (a4 + 1)), ())), (a5, (a6, (a7, ())))))))
 (cnd (decide ((((List.length (D.Team.Members a7)) : Nat) : Int) = 0))
 (some 7)
 (iterF (X := ((Int × Unit) × (D.Config × (D.Team × Unit)))) (fun L9 ((a10, _), (a11, (a12, _))) =>
 (cnd (decide (a10 < (((List.length (D.Team.Members a12)) : Nat) : Int)))
 (atc (D.Team.Members a12) (IntKind.wrap .i64 (a10 - 1)) fun a13 =>
 (atc (D.Team.Members a12) a10 fun a14 =>
 (cnd (decide (a14 ≤ a13))
 (some 6)
 (L9 (((IntKind.wrap .i64 (a10 + 1)), ()), (a11, (a12, ())))))))
 (optc (r25_Set fu (D.Team.Members a12) (((List.length (D.Config.People a11)) : Nat) : Int)) fun a15 =>
 (cnd (!a15)
 (some 3)
 (some 0))))) fu ((1, ()), (a5, (a7, ()))))))) fu ((p2, (0, ())), (p0, (p1, (a0, ()))))))))
def r25_team_g (fu : Nat) : Sig := mkSig [.st .Config, .st .Book, nI] [] [nI] [] [] (Int) (fun q => ((q, ()), ())) (fun x y => r25_team fu x.1 x.2.1 x.2.2.1)
theorem r25_team_ok (fu : Nat) : FnOK Tryz.prog 191 (r25_team_g fu) :=
 FnOK.intro (ty := ty) (E := envL [(95, 0, r25_Set_g fu), (237, 0, r06_Name_g fu)]) (fu := fu) (an := .two .go (.two .go (.two .go (.two (.two .go (.one (.loop [(2, nI), (3, .one (.ref 1003)), (4, .one (.ref 1004)), (7, .one (.ref 1007)), (8, nI)] [(1003, .boxst .Config), (1004, .boxst .Book), (1007, .boxst .Team)] .go))) (.two .go (.two (.two .go (.one (.loop [(3, .one (.ref 1003)), (7, .one (.ref 1007)), (9, nI)] [(1003, .boxst .Config), (1007, .boxst .Team)] .go))) .go)))))) (fun a b => a.1) (fun _ _ => rfl) (envL_ok ⟨r25_Set_ok fu, r06_Name_ok fu, trivial⟩) Tryz.func191 rfl rfl (fun x y => by kernel_rfl)
def r25_In (fu : Nat) (p0 : Int) (p1 : Int) (p2 : Int) : Option (Bool) :=
 (cnd (decide (p1 ≤ p0))
 (cnd (decide (p0 ≤ p2))
 (some true)
 (some false))
 (some false))
def r25_In_g (fu : Nat) : Sig := mkSig [nI, nI, nI] [] [.one (.boo)] [] [] (Bool) (fun q => ((q, ()), ())) (fun x y => r25_In fu x.1 x.2.1 x.2.2.1)
theorem r25_In_ok (fu : Nat) : FnOK Tryz.prog 67 (r25_In_g fu) :=
 FnOK.intro (ty := ty) (E := envL []) (fu := fu) (an := .go) (fun a b => a.1) (fun _ _ => rfl) (envL_ok (l := []) trivial) Tryz.func67 rfl rfl (fun x y => by kernel_rfl)
def r25_targets (fu : Nat) (p0 : D.Config) (p1 : D.Book) (p2 : List D.Target) : Option (Int) :=
 (cnd (decide (6 < (((List.length p2) : Nat) : Int)))
 (some 5)
 (iterF (X := ((List D.Target × (Int × Unit)) × (D.Config × (D.Book × Unit)))) (fun L0 ((a1, (a2, _)), (a3, (a4, _))) =>
 (cnd (decide (a2 < (((List.length a1) : Nat) : Int)))
 (join (Y := ((List D.Target × (Int × Unit)) × (D.Config × (D.Book × Unit)))) (fun ((a5, (a6, _)), (a7, (a8, _))) =>
 (L0 ((a5, ((IntKind.wrap .i64 (a6 + 1)), ())), (a7, (a8, ()))))) fun J9 =>
 (join (Y := ((List D.Target × (Int × (Int × Unit))) × (D.Config × (D.Book × Unit)))) (fun ((a10, (a11, (a12, _))), (a13, (a14, _))) =>
 (atc a10 a11 fun a15 =>
 (cnd (decide ((D.Target.Index a15) < 0))
 (some 3)
 (atc a10 a11 fun a16 =>
 (cnd (decide (a12 ≤ (D.Target.Index a16)))
 (some 3)
 (J9 ((a10, (a11, ())), (a13, (a14, ()))))))))) fun J17 =>
 (atc a1 a2 fun a18 =>
 (cnd (decide ((D.Target.Kind a18) = 0))
 (J17 ((a1, (a2, ((((List.length (D.Config.People a3)) : Nat) : Int), ()))), (a3, (a4, ()))))
 (cnd (decide ((D.Target.Kind a18) = 1))
 (J17 ((a1, (a2, ((((List.length (D.Config.Schedules a3)) : Nat) : Int), ()))), (a3, (a4, ()))))
 (cnd (decide ((D.Target.Kind a18) = 2))
 (J17 ((a1, (a2, ((((List.length (D.Book.Teams a4)) : Nat) : Int), ()))), (a3, (a4, ()))))
 (J17 ((a1, (a2, ((-1), ()))), (a3, (a4, ()))))))))))
 (some 0))) fu ((p2, (0, ())), (p0, (p1, ())))))
def r25_targets_g (fu : Nat) : Sig := mkSig [.st .Config, .st .Book, .one (.lst .Target)] [] [nI] [] [] (Int) (fun q => ((q, ()), ())) (fun x y => r25_targets fu x.1 x.2.1 x.2.2.1)
theorem r25_targets_ok (fu : Nat) : FnOK Tryz.prog 238 (r25_targets_g fu) :=
 FnOK.intro (ty := ty) (E := envL []) (fu := fu) (an := .two .go (.two .go (.two (.two .go (.one (.loop [(2, .one (.lst .Target)), (3, .one (.ref 1003)), (4, .one (.ref 1004)), (7, nI)] [(1003, .boxst .Config), (1004, .boxst .Book)] (.two .go (.two (.join [(2, .one (.lst .Target)), (3, .one (.ref 1003)), (4, .one (.ref 1004)), (7, nI)] [(1003, .boxst .Config), (1004, .boxst .Book)] (.one (.two .go (.two (.join [(2, .one (.lst .Target)), (3, .one (.ref 1003)), (4, .one (.ref 1004)), (7, nI), (8, nI)] [(1003, .boxst .Config), (1004, .boxst .Book)] .go) .go)))) .go))))) .go))) (fun a b => a.1) (fun _ _ => rfl) (envL_ok (l := []) trivial) Tryz.func238 rfl rfl (fun x y => by kernel_rfl)
def r25_policy (fu : Nat) (p0 : D.Config) (p1 : D.Book) (p2 : Int) : Option (Int) :=
 (atc (D.Book.Policies p1) p2 fun a0 =>
 (optc (r06_Name fu (D.Policy.Name a0)) fun a1 =>
 (cnd (!a1)
 (some 8)
 (iterF (X := ((Int × (Int × Unit)) × (D.Config × (D.Book × (D.Policy × Unit))))) (fun L2 ((a3, (a4, _)), (a5, (a6, (a7, _)))) =>
 (cnd (decide (a4 < a3))
 (atc (D.Book.Policies a6) a4 fun a8 =>
 (cnd (decide ((D.Policy.Name a8) = (D.Policy.Name a7)))
 (some 4)
 (L2 ((a3, ((IntKind.wrap .i64 (a4 + 1)), ())), (a5, (a6, (a7, ())))))))
 (cnd (decide ((((List.length (D.Policy.Steps a7)) : Nat) : Int) = 0))
 (some 7)
 (cnd (decide (8 < (((List.length (D.Policy.Steps a7)) : Nat) : Int)))
 (some 5)
 (optc (r25_In fu (D.Policy.Repeat a7) 0 8) fun a9 =>
 (cnd (!a9)
 (some 1)
 (iterF (X := ((Int × Unit) × (D.Config × (D.Book × (D.Policy × Unit))))) (fun L10 ((a11, _), (a12, (a13, (a14, _)))) =>
 (cnd (decide (a11 < (((List.length (D.Policy.Steps a14)) : Nat) : Int)))
 (atc (D.Policy.Steps a14) a11 fun a15 =>
 (optc (r25_In fu (D.PolicyStep.Wait a15) 0 86400) fun a16 =>
 (cnd (!a16)
 (some 1)
 (atc (D.Policy.Steps a14) a11 fun a17 =>
 (optc (r25_targets fu a12 a13 (D.PolicyStep.Targets a17)) fun a18 =>
 (cnd (decide (a18 ≠ 0))
 (some a18)
 (L10 (((IntKind.wrap .i64 (a11 + 1)), ()), (a12, (a13, (a14, ())))))))))))
 (some 0))) fu ((0, ()), (a5, (a6, (a7, ()))))))))))) fu ((p2, (0, ())), (p0, (p1, (a0, ()))))))))
def r25_policy_g (fu : Nat) : Sig := mkSig [.st .Config, .st .Book, nI] [] [nI] [] [] (Int) (fun q => ((q, ()), ())) (fun x y => r25_policy fu x.1 x.2.1 x.2.2.1)
theorem r25_policy_ok (fu : Nat) : FnOK Tryz.prog 192 (r25_policy_g fu) :=
 FnOK.intro (ty := ty) (E := envL [(67, 0, r25_In_g fu), (237, 0, r06_Name_g fu), (238, 0, r25_targets_g fu)]) (fu := fu) (an := .two .go (.two .go (.two .go (.two (.two .go (.one (.loop [(2, nI), (3, .one (.ref 1003)), (4, .one (.ref 1004)), (7, .one (.ref 1007)), (8, nI)] [(1003, .boxst .Config), (1004, .boxst .Book), (1007, .boxst .Policy)] .go))) (.two .go (.two (.two .go (.one (.loop [(3, .one (.ref 1003)), (4, .one (.ref 1004)), (7, .one (.ref 1007)), (9, nI)] [(1003, .boxst .Config), (1004, .boxst .Book), (1007, .boxst .Policy)] .go))) .go)))))) (fun a b => a.1) (fun _ _ => rfl) (envL_ok ⟨r25_In_ok fu, r06_Name_ok fu, r25_targets_ok fu, trivial⟩) Tryz.func192 rfl rfl (fun x y => by kernel_rfl)
def r25_book (fu : Nat) (p0 : D.Config) (p1 : D.Book) : Option (Int) :=
 (join (Y := (Unit × (D.Config × (D.Book × Unit)))) (fun (_, (a0, (a1, _))) =>
 (iterF (X := ((Int × Unit) × (D.Config × (D.Book × Unit)))) (fun L2 ((a3, _), (a4, (a5, _))) =>
 (cnd (decide (a3 < (((List.length (D.Book.Teams a5)) : Nat) : Int)))
 (optc (r25_team fu a4 a5 a3) fun a6 =>
 (cnd (decide (a6 ≠ 0))
 (some a6)
 (L2 (((IntKind.wrap .i64 (a3 + 1)), ()), (a4, (a5, ()))))))
 (iterF (X := ((Int × Unit) × (D.Config × (D.Book × Unit)))) (fun L7 ((a8, _), (a9, (a10, _))) =>
 (cnd (decide (a8 < (((List.length (D.Book.Policies a10)) : Nat) : Int)))
 (optc (r25_policy fu a9 a10 a8) fun a11 =>
 (cnd (decide (a11 ≠ 0))
 (some a11)
 (L7 (((IntKind.wrap .i64 (a8 + 1)), ()), (a9, (a10, ()))))))
 (some 0))) fu ((0, ()), (a4, (a5, ())))))) fu ((0, ()), (a0, (a1, ()))))) fun J12 =>
 (cnd (decide (8 < (((List.length (D.Book.Teams p1)) : Nat) : Int)))
 (some 5)
 (cnd (decide (12 < (((List.length (D.Book.Policies p1)) : Nat) : Int)))
 (some 5)
 (J12 ((), (p0, (p1, ())))))))
def r25_book_g (fu : Nat) : Sig := mkSig [.st .Config, .st .Book] [] [nI] [] [] (Int) (fun q => ((q, ()), ())) (fun x y => r25_book fu x.1 x.2.1)
theorem r25_book_ok (fu : Nat) : FnOK Tryz.prog 147 (r25_book_g fu) :=
 FnOK.intro (ty := ty) (E := envL [(191, 0, r25_team_g fu), (192, 0, r25_policy_g fu)]) (fu := fu) (an := .two .go (.two (.join [(2, .one (.ref 1002)), (3, .one (.ref 1003))] [(1002, .boxst .Config), (1003, .boxst .Book)] .go) (.two (.two .go (.one (.loop [(2, .one (.ref 1002)), (3, .one (.ref 1003)), (5, nI)] [(1002, .boxst .Config), (1003, .boxst .Book)] .go))) (.two (.two .go (.one (.loop [(2, .one (.ref 1002)), (3, .one (.ref 1003)), (7, nI)] [(1002, .boxst .Config), (1003, .boxst .Book)] .go))) .go)))) (fun a b => a.1) (fun _ _ => rfl) (envL_ok ⟨r25_team_ok fu, r25_policy_ok fu, trivial⟩) Tryz.func147 rfl rfl (fun x y => by kernel_rfl)
def r25_Check (fu : Nat) (p0 : D.Config) (p1 : D.Book) : Option (Int) :=
 (optc (r08_Check fu p0) fun a0 =>
 (cnd (decide (a0 ≠ 0))
 (some 8)
 (optc (r25_book fu p0 p1) fun a1 =>
 (some a1))))
def r25_Check_g (fu : Nat) : Sig := mkSig [.st .Config, .st .Book] [] [nI] [] [] (Int) (fun q => ((q, ()), ())) (fun x y => r25_Check fu x.1 x.2.1)
theorem r25_Check_ok (fu : Nat) : FnOK Tryz.prog 110 (r25_Check_g fu) :=
 FnOK.intro (ty := ty) (E := envL [(141, 0, r08_Check_g fu), (147, 0, r25_book_g fu)]) (fu := fu) (an := .go) (fun a b => a.1) (fun _ _ => rfl) (envL_ok ⟨r08_Check_ok fu, r25_book_ok fu, trivial⟩) Tryz.func110 rfl rfl (fun x y => by kernel_rfl)
def r31_New (fu : Nat) (p0 : D.Config) (p1 : D.Book) : Option (D.Ledger × Int) :=
 (optc (r25_Check fu p0 p1) fun a0 =>
 (cnd (decide (a0 ≠ 0))
 (some ((D.Ledger.mk 0 (D.Config.mk [] [] [] []) (D.Book.mk [] []) [] 0 0 [] []), a0))
 (some ((D.Ledger.mk 0 p0 p1 [] (-1) 0 [] []), 0))))
def r31_New_g (fu : Nat) : Sig := mkSig [.st .Config, .st .Book] [] [.st .Ledger, nI] [] [] (D.Ledger × Int) (fun q => ((q.1, q.2, ()), ())) (fun x y => r31_New fu x.1 x.2.1)
theorem r31_New_ok (fu : Nat) : FnOK Tryz.prog 61 (r31_New_g fu) :=
 FnOK.intro (ty := ty) (E := envL [(110, 0, r25_Check_g fu)]) (fu := fu) (an := .go) (fun a b => (a.1, a.2.1)) (fun _ _ => rfl) (envL_ok ⟨r25_Check_ok fu, trivial⟩) Tryz.func61 rfl rfl (fun x y => by kernel_rfl)
def r29_Copy (fu : Nat) (p0 : D.Page) : Option (D.Page) :=
 (iterF (X := ((Int × Unit) × (D.Page × (D.Page × (List D.Start × Unit))))) (fun L0 ((a1, _), (a2, (a3, (a4, _)))) =>
 (cnd (decide (a1 < (((List.length (D.Page.Starts a2)) : Nat) : Int)))
 (atc (D.Page.Starts a2) a1 fun a5 =>
 (lec (List.length (D.Start.People a5)) 34359738368 (lec ((List.length a4) + (List.length (a5 :: []))) 34359738368 (L0 (((IntKind.wrap .i64 (a1 + 1)), ()), (a2, (a3, ((a4 ++ (a5 :: [])), ()))))))))
 (lec (List.length (D.Page.Declined a2)) 34359738368 (lec (List.length (D.Page.Seen a2)) 34359738368 (some (D.Page.mk (D.Page.ID a2) (D.Page.Policy a2) (D.Page.Start a2) (D.Page.Next a2) (D.Page.Due a2) (D.Page.State a2) (D.Page.By a2) (D.Page.Until a2) (D.Page.Last a2) (D.Page.Snoozes a2) (D.Page.Hands a2) a4 (D.Page.Declined a2) (D.Page.Seen a2))))))) fu ((0, ()), (p0, ((D.Page.mk 0 0 0 0 0 0 0 0 0 0 0 [] [] []), ([], ())))))
def r29_Copy_g (fu : Nat) : Sig := mkSig [.st .Page] [] [.agg [.num .i64, .num .i64, .num .i64, .num .i64, .num .i64, .num .i64, .num .i64, .num .i64, .num .i64, .num .i64, .num .i64, .own 1025, .own 1030, .own 1033]] [(1025, .arr .Start), (1030, .arr .int), (1033, .arr .int)] [] (D.Page) (fun q => (((q.ID, q.Policy, q.Start, q.Next, q.Due, q.State, q.By, q.Until, q.Last, q.Snoozes, q.Hands, ()), ()), (q.Starts, q.Declined, q.Seen, ()))) (fun x y => r29_Copy fu x.1)
theorem r29_Copy_ok (fu : Nat) : FnOK Tryz.prog 66 (r29_Copy_g fu) :=
 FnOK.intro (ty := ty) (E := envL []) (fu := fu) (an := .two .go (.two .go (.two (.two .go (.one (.loop [(1, .one (.ref 1001)), (2, .one (.ref 1002)), (3, .one (.own 1025)), (4, nI)] [(1001, .boxst .Page), (1002, .boxst .Page), (1025, .arr .Start)] .go))) .go))) (fun a b => (D.Page.mk a.1.1 a.1.2.1 a.1.2.2.1 a.1.2.2.2.1 a.1.2.2.2.2.1 a.1.2.2.2.2.2.1 a.1.2.2.2.2.2.2.1 a.1.2.2.2.2.2.2.2.1 a.1.2.2.2.2.2.2.2.2.1 a.1.2.2.2.2.2.2.2.2.2.1 a.1.2.2.2.2.2.2.2.2.2.2.1 b.1 b.2.1 b.2.2.1)) (fun _ _ => rfl) (envL_ok (l := []) trivial) Tryz.func66 rfl rfl (fun x y => by kernel_rfl)
def r31_Copy (fu : Nat) (p0 : D.Ledger) : Option (D.Ledger) :=
 (iterF (X := ((Int × Unit) × (D.Ledger × (D.Ledger × (List D.Page × Unit))))) (fun L0 ((a1, _), (a2, (a3, (a4, _)))) =>
 (cnd (decide (a1 < (((List.length (D.Ledger.Pages a2)) : Nat) : Int)))
 (atc (D.Ledger.Pages a2) a1 fun a5 =>
 (optc (r29_Copy fu a5) fun a6 =>
 (lec ((List.length a4) + (List.length (a6 :: []))) 34359738368 (L0 (((IntKind.wrap .i64 (a1 + 1)), ()), (a2, (a3, ((a4 ++ (a6 :: [])), ()))))))))
 (lec (List.length (D.Ledger.Seen a2)) 34359738368 (lec (List.length (D.Ledger.Calls a2)) 34359738368 (some (D.Ledger.mk (D.Ledger.Now a2) (D.Ledger.Config a2) (D.Ledger.Book a2) a4 (D.Ledger.Owner a2) (D.Ledger.Fence a2) (D.Ledger.Seen a2) (D.Ledger.Calls a2))))))) fu ((0, ()), (p0, ((D.Ledger.mk 0 (D.Config.mk [] [] [] []) (D.Book.mk [] []) [] 0 0 [] []), ([], ())))))
def r31_Copy_g (fu : Nat) : Sig := mkSig [.st .Ledger] [] [.agg [.num .i64, .lst .Zone, .lst .Person, .lst .Calendar, .lst .Schedule, .lst .Team, .lst .Policy, .own 1020, .num .i64, .num .i64, .own 1025, .own 1028]] [(1020, .arr .Page), (1025, .arr .int), (1028, .arr .Call)] [] (D.Ledger) (fun q => (((q.Now, q.Config.Zones, q.Config.People, q.Config.Calendars, q.Config.Schedules, q.Book.Teams, q.Book.Policies, q.Owner, q.Fence, ()), ()), (q.Pages, q.Seen, q.Calls, ()))) (fun x y => r31_Copy fu x.1)
theorem r31_Copy_ok (fu : Nat) : FnOK Tryz.prog 21 (r31_Copy_g fu) :=
 FnOK.intro (ty := ty) (E := envL [(66, 0, r29_Copy_g fu)]) (fu := fu) (an := .two .go (.two .go (.two (.two .go (.one (.loop [(1, .one (.ref 1001)), (2, .one (.ref 1002)), (3, .one (.own 1020)), (4, nI)] [(1001, .boxst .Ledger), (1002, .boxst .Ledger), (1020, .arr .Page)] .go))) .go))) (fun a b => (D.Ledger.mk a.1.1 (D.Config.mk a.1.2.1 a.1.2.2.1 a.1.2.2.2.1 a.1.2.2.2.2.1) (D.Book.mk a.1.2.2.2.2.2.1 a.1.2.2.2.2.2.2.1) b.1 a.1.2.2.2.2.2.2.2.1 a.1.2.2.2.2.2.2.2.2.1 b.2.1 b.2.2.1)) (fun _ _ => rfl) (envL_ok ⟨r29_Copy_ok fu, trivial⟩) Tryz.func21 rfl rfl (fun x y => by kernel_rfl)
def r25_Has (fu : Nat) (p0 : List Int) (p1 : Int) : Option (Bool) :=
 (iterF (X := ((List Int × (Int × (Int × Unit))) × Unit)) (fun L0 ((a1, (a2, (a3, _))), _) =>
 (cnd (decide (a3 < (((List.length a1) : Nat) : Int)))
 (atc a1 a3 fun a4 =>
 (cnd (decide (a4 = a2))
 (some true)
 (L0 ((a1, (a2, ((IntKind.wrap .i64 (a3 + 1)), ()))), ()))))
 (some false))) fu ((p0, (p1, (0, ()))), ()))
def r25_Has_g (fu : Nat) : Sig := mkSig [.one (.lst .int), nI] [] [.one (.boo)] [] [] (Bool) (fun q => ((q, ()), ())) (fun x y => r25_Has fu x.1 x.2.1)
theorem r25_Has_ok (fu : Nat) : FnOK Tryz.prog 25 (r25_Has_g fu) :=
 FnOK.intro (ty := ty) (E := envL []) (fu := fu) (an := .two .go (.two (.two .go (.one (.loop [(0, .one (.lst .int)), (1, nI), (5, nI)] [] .go))) .go)) (fun a b => a.1) (fun _ _ => rfl) (envL_ok (l := []) trivial) Tryz.func25 rfl rfl (fun x y => by kernel_rfl)
def r25_Count (fu : Nat) (p0 : D.Policy) : Option (Int) :=
 (join (Y := (Unit × (D.Policy × Unit))) (fun (_, (a0, _)) =>
 (some (IntKind.wrap .i64 ((((List.length (D.Policy.Steps a0)) : Nat) : Int) * (IntKind.wrap .i64 ((D.Policy.Repeat a0) + 1)))))) fun J1 =>
 (optc (r25_In fu (D.Policy.Repeat p0) 0 8) fun a2 =>
 (cnd a2
 (cnd (decide (8 < (((List.length (D.Policy.Steps p0)) : Nat) : Int)))
 (some 0)
 (J1 ((), (p0, ()))))
 (some 0))))
def r25_Count_g (fu : Nat) : Sig := mkSig [.st .Policy] [] [nI] [] [] (Int) (fun q => ((q, ()), ())) (fun x y => r25_Count fu x.1)
theorem r25_Count_ok (fu : Nat) : FnOK Tryz.prog 24 (r25_Count_g fu) :=
 FnOK.intro (ty := ty) (E := envL [(67, 0, r25_In_g fu)]) (fu := fu) (an := .two .go (.two (.join [(1, .one (.ref 1001))] [(1001, .boxst .Policy)] .go) .go)) (fun a b => a.1) (fun _ _ => rfl) (envL_ok ⟨r25_In_ok fu, trivial⟩) Tryz.func24 rfl rfl (fun x y => by kernel_rfl)
def r29_New (fu : Nat) (p0 : D.Book) (p1 : Int) (p2 : Int) (p3 : Int) : Option (D.Page × Int) :=
 (join (Y := (P3 × (D.Book × (D.Page × Unit)))) (fun ((a0, (a1, (a2, _))), (a3, (a4, _))) =>
 (optc (r25_In fu a1 0 (IntKind.wrap .i64 ((((List.length (D.Book.Policies a3)) : Nat) : Int) - 1))) fun a5 =>
 (cnd (!a5)
 (some ((D.Page.mk 0 0 0 0 0 0 0 0 0 0 0 [] [] []), 3))
 (some ((D.Page.mk a0 a1 a2 0 a2 0 (-1) 0 a2 0 0 [] [] []), 0))))) fun J6 =>
 (optc (r25_In fu p1 1 999999) fun a7 =>
 (cnd a7
 (optc (r25_In fu p3 0 8589934592) fun a8 =>
 (cnd a8
 (J6 ((p1, (p2, (p3, ()))), (p0, ((D.Page.mk 0 0 0 0 0 0 0 0 0 0 0 [] [] []), ()))))
 (some ((D.Page.mk 0 0 0 0 0 0 0 0 0 0 0 [] [] []), 1))))
 (some ((D.Page.mk 0 0 0 0 0 0 0 0 0 0 0 [] [] []), 1)))))
def r29_New_g (fu : Nat) : Sig := mkSig [.st .Book, nI, nI, nI] [] [.st .Page, nI] [] [] (D.Page × Int) (fun q => ((q.1, q.2, ()), ())) (fun x y => r29_New fu x.1 x.2.1 x.2.2.1 x.2.2.2.1)
theorem r29_New_ok (fu : Nat) : FnOK Tryz.prog 50 (r29_New_g fu) :=
 FnOK.intro (ty := ty) (E := envL [(67, 0, r25_In_g fu)]) (fu := fu) (an := .two .go (.two (.join [(1, nI), (2, nI), (3, nI), (4, .one (.ref 1004)), (8, .one (.ref 1008))] [(1004, .boxst .Book), (1008, .boxst .Page)] .go) .go)) (fun a b => (a.1, a.2.1)) (fun _ _ => rfl) (envL_ok ⟨r25_In_ok fu, trivial⟩) Tryz.func50 rfl rfl (fun x y => by kernel_rfl)
def r25_Waits (fu : Nat) (p0 : D.Policy) : Option (Bool) :=
 (iterF (X := ((Int × Unit) × (D.Policy × Unit))) (fun L0 ((a1, _), (a2, _)) =>
 (cnd (decide (a1 < (((List.length (D.Policy.Steps a2)) : Nat) : Int)))
 (atc (D.Policy.Steps a2) a1 fun a3 =>
 (optc (r25_In fu (D.PolicyStep.Wait a3) 0 86400) fun a4 =>
 (cnd (!a4)
 (some false)
 (L0 (((IntKind.wrap .i64 (a1 + 1)), ()), (a2, ()))))))
 (some true))) fu ((0, ()), (p0, ())))
def r25_Waits_g (fu : Nat) : Sig := mkSig [.st .Policy] [] [.one (.boo)] [] [] (Bool) (fun q => ((q, ()), ())) (fun x y => r25_Waits fu x.1)
theorem r25_Waits_ok (fu : Nat) : FnOK Tryz.prog 93 (r25_Waits_g fu) :=
 FnOK.intro (ty := ty) (E := envL [(67, 0, r25_In_g fu)]) (fu := fu) (an := .two .go (.two (.two .go (.one (.loop [(1, .one (.ref 1001)), (3, nI)] [(1001, .boxst .Policy)] .go))) .go)) (fun a b => a.1) (fun _ _ => rfl) (envL_ok ⟨r25_In_ok fu, trivial⟩) Tryz.func93 rfl rfl (fun x y => by kernel_rfl)
def r29_starts (fu : Nat) (p0 : D.Page) : Option (Bool) :=
 (iterF (X := (P3 × (D.Page × Unit))) (fun L0 ((a1, (a2, (a3, _))), (a4, _)) =>
 (cnd (decide (a3 < (((List.length (D.Page.Starts a4)) : Nat) : Int)))
 (join (Y := (P3 × (D.Page × Unit))) (fun ((a5, (a6, (a7, _))), (a8, _)) =>
 (L0 ((a5, (a6, ((IntKind.wrap .i64 (a7 + 1)), ()))), (a8, ())))) fun J9 =>
 (atc (D.Page.Starts a4) a3 fun a10 =>
 (join (Y := ((Int × (Int × Unit)) × (D.Page × (D.Start × Unit)))) (fun ((a11, (a12, _)), (a13, (a14, _))) =>
 (cnd (decide (0 ≤ (D.Start.K a14)))
 (J9 (((D.Start.K a14), ((D.Start.At a14), (a12, ()))), (a13, ())))
 (J9 ((a11, ((D.Start.At a14), (a12, ()))), (a13, ()))))) fun J15 =>
 (cnd (decide ((D.Start.At a10) < a2))
 (some false)
 (cnd (decide ((D.Start.K a10) < (-1)))
 (some false)
 (cnd (decide (0 ≤ (D.Start.K a10)))
 (cnd (decide ((D.Start.K a10) ≤ a1))
 (some false)
 (cnd (decide ((D.Page.Next a4) ≤ (D.Start.K a10)))
 (some false)
 (optc (r25_Set fu (D.Start.People a10) 32) fun a16 =>
 (cnd a16
 (J15 ((a1, (a3, ())), (a4, (a10, ()))))
 (some false)))))
 (optc (r25_Set fu (D.Start.People a10) 32) fun a17 =>
 (cnd a17
 (J15 ((a1, (a3, ())), (a4, (a10, ()))))
 (some false)))))))))
 (some (decide ((((List.length (D.Page.Starts a4)) : Nat) : Int) ≤ 200))))) fu (((-1), ((D.Page.Start p0), (0, ()))), (p0, ())))
def r29_starts_g (fu : Nat) : Sig := mkSig [.st .Page] [] [.one (.boo)] [] [] (Bool) (fun q => ((q, ()), ())) (fun x y => r29_starts fu x.1)
theorem r29_starts_ok (fu : Nat) : FnOK Tryz.prog 94 (r29_starts_g fu) :=
 FnOK.intro (ty := ty) (E := envL [(95, 0, r25_Set_g fu)]) (fu := fu) (an := .two .go (.two .go (.two (.two .go (.one (.loop [(1, .one (.ref 1001)), (3, nI), (4, nI), (5, nI)] [(1001, .boxst .Page)] (.two .go (.two (.join [(1, .one (.ref 1001)), (3, nI), (4, nI), (5, nI)] [(1001, .boxst .Page)] (.one (.two .go (.two (.join [(1, .one (.ref 1001)), (3, nI), (5, nI), (6, .one (.ref 1006))] [(1001, .boxst .Page), (1006, .boxst .Start)] .go) .go)))) .go))))) .go))) (fun a b => a.1) (fun _ _ => rfl) (envL_ok ⟨r25_Set_ok fu, trivial⟩) Tryz.func94 rfl rfl (fun x y => by kernel_rfl)
def r29_Check (fu : Nat) (p0 : D.Book) (p1 : D.Page) : Option (Bool) :=
 (join (Y := (Unit × (D.Page × Unit))) (fun (_, (a0, _)) =>
 (join (Y := (Unit × (D.Page × Unit))) (fun (_, (a1, _)) =>
 (join (Y := (Unit × (D.Page × Unit))) (fun (_, (a2, _)) =>
 (iterF (X := ((Int × Unit) × (D.Page × Unit))) (fun L3 ((a4, _), (a5, _)) =>
 (cnd (decide (a4 < (((List.length (D.Page.Seen a5)) : Nat) : Int)))
 (natc a4 fun a6 =>
 (lec a6 (List.length (D.Page.Seen a5)) (atc (D.Page.Seen a5) a4 fun a7 =>
 (optc (r25_Has fu (List.take a6 (D.Page.Seen a5)) a7) fun a8 =>
 (cnd a8
 (some false)
 (L3 (((IntKind.wrap .i64 (a4 + 1)), ()), (a5, ()))))))))
 (some true))) fu ((0, ()), (a2, ())))) fun J9 =>
 (optc (r25_In fu (D.Page.Snoozes a1) 0 4) fun a10 =>
 (cnd a10
 (optc (r25_In fu (D.Page.Hands a1) 0 4) fun a11 =>
 (cnd a11
 (optc (r29_starts fu a1) fun a12 =>
 (cnd a12
 (optc (r25_Set fu (D.Page.Declined a1) 32) fun a13 =>
 (cnd a13
 (cnd (decide (64 < (((List.length (D.Page.Seen a1)) : Nat) : Int)))
 (some false)
 (J9 ((), (a1, ()))))
 (some false)))
 (some false)))
 (some false)))
 (some false))))) fun J14 =>
 (optc (r25_In fu (D.Page.State a0) 0 4) fun a15 =>
 (cnd a15
 (optc (r25_In fu (D.Page.By a0) (-1) 31) fun a16 =>
 (cnd a16
 (optc (r25_In fu (D.Page.Last a0) (D.Page.Start a0) 17179869184) fun a17 =>
 (cnd a17
 (optc (r25_In fu (D.Page.Due a0) 0 17179869184) fun a18 =>
 (cnd a18
 (optc (r25_In fu (D.Page.Until a0) 0 17179869184) fun a19 =>
 (cnd a19
 (J14 ((), (a0, ())))
 (some false)))
 (some false)))
 (some false)))
 (some false)))
 (some false))))) fun J20 =>
 (optc (r29_New fu p0 (D.Page.ID p1) (D.Page.Policy p1) (D.Page.Start p1)) fun (a21, a22) =>
 (cnd (decide (a22 ≠ 0))
 (some false)
 (atc (D.Book.Policies p0) (D.Page.Policy p1) fun a23 =>
 (optc (r25_Waits fu a23) fun a24 =>
 (cnd a24
 (atc (D.Book.Policies p0) (D.Page.Policy p1) fun a25 =>
 (optc (r25_Count fu a25) fun a26 =>
 (optc (r25_In fu (D.Page.Next p1) 0 a26) fun a27 =>
 (cnd a27
 (J20 ((), (p1, ())))
 (some false)))))
 (some false)))))))
def r29_Check_g (fu : Nat) : Sig := mkSig [.st .Book, .st .Page] [] [.one (.boo)] [] [] (Bool) (fun q => ((q, ()), ())) (fun x y => r29_Check fu x.1 x.2.1)
theorem r29_Check_ok (fu : Nat) : FnOK Tryz.prog 45 (r29_Check_g fu) :=
 FnOK.intro (ty := ty) (E := envL [(24, 0, r25_Count_g fu), (25, 0, r25_Has_g fu), (50, 0, r29_New_g fu), (67, 0, r25_In_g fu), (93, 0, r25_Waits_g fu), (94, 0, r29_starts_g fu), (95, 0, r25_Set_g fu)]) (fu := fu) (an := .two .go (.two (.join [(3, .one (.ref 1003))] [(1003, .boxst .Page)] .go) (.two (.join [(3, .one (.ref 1003))] [(1003, .boxst .Page)] .go) (.two (.join [(3, .one (.ref 1003))] [(1003, .boxst .Page)] .go) (.two (.two .go (.one (.loop [(3, .one (.ref 1003)), (7, nI)] [(1003, .boxst .Page)] .go))) .go))))) (fun a b => a.1) (fun _ _ => rfl) (envL_ok ⟨r25_Count_ok fu, r25_Has_ok fu, r29_New_ok fu, r25_In_ok fu, r25_Waits_ok fu, r29_starts_ok fu, r25_Set_ok fu, trivial⟩) Tryz.func45 rfl rfl (fun x y => by kernel_rfl)
def r31_calls (fu : Nat) (p0 : D.Page) (p1 : Int) (p2 : Int) : Option (List D.Call) :=
 (iterF (X := ((Int × (Int × Unit)) × (D.Page × (List D.Call × Unit)))) (fun L0 ((a1, (a2, _)), (a3, (a4, _))) =>
 (cnd (decide (a2 < (((List.length (D.Page.Starts a3)) : Nat) : Int)))
 (atc (D.Page.Starts a3) a2 fun a5 =>
 (iterF (X := (P3 × (D.Page × (D.Start × (List D.Call × Unit))))) (fun L6 ((a7, (a8, (a9, _))), (a10, (a11, (a12, _)))) =>
 (cnd (decide (a9 < (((List.length (D.Start.People a11)) : Nat) : Int)))
 (atc (D.Start.People a11) a9 fun a13 =>
 (lec ((List.length a12) + (List.length ((D.Call.mk (D.Page.ID a10) (D.Start.K a11) (D.Start.At a11) a13 a7) :: []))) 34359738368 (L6 ((a7, (a8, ((IntKind.wrap .i64 (a9 + 1)), ()))), (a10, (a11, ((a12 ++ ((D.Call.mk (D.Page.ID a10) (D.Start.K a11) (D.Start.At a11) a13 a7) :: [])), ())))))))
 (L0 ((a7, ((IntKind.wrap .i64 (a8 + 1)), ())), (a10, (a12, ())))))) fu ((a1, (a2, (0, ()))), (a3, (a5, (a4, ()))))))
 (some a4))) fu ((p2, (p1, ())), (p0, ([], ()))))
def r31_calls_g (fu : Nat) : Sig := mkSig [.st .Page, nI, nI] [] [.one (.lst .Call)] [] [] (List D.Call) (fun q => ((q, ()), ())) (fun x y => r31_calls fu x.1 x.2.1 x.2.2.1)
theorem r31_calls_ok (fu : Nat) : FnOK Tryz.prog 149 (r31_calls_g fu) :=
 FnOK.intro (ty := ty) (E := envL []) (fu := fu) (an := .two .go (.two .go (.two (.two .go (.one (.loop [(2, nI), (3, .one (.ref 1003)), (7, .one (.own 1046)), (8, nI)] [(1003, .boxst .Page), (1046, .arr .Call)] (.two .go (.two (.one (.two .go (.two .go (.one (.loop [(2, nI), (3, .one (.ref 1003)), (7, .one (.own 1046)), (8, nI), (9, .one (.ref 1009)), (10, nI)] [(1003, .boxst .Page), (1009, .boxst .Start), (1046, .arr .Call)] .go))))) .go))))) .go))) (fun a b => a.1) (fun _ _ => rfl) (envL_ok (l := []) trivial) Tryz.func149 rfl rfl (fun x y => by kernel_rfl)
def r31_told (fu : Nat) (p0 : D.Ledger) (p1 : D.Page) : Option (Bool) :=
 (optc (r31_calls fu p1 0 0) fun a0 =>
 (iterF (X := ((List D.Call × P3) × (D.Ledger × (D.Page × Unit)))) (fun L1 ((a2, (a3, (a4, (a5, _)))), (a6, (a7, _))) =>
 (cnd (decide (a5 < (((List.length (D.Ledger.Calls a6)) : Nat) : Int)))
 (join (Y := ((List D.Call × P3) × (D.Ledger × (D.Page × Unit)))) (fun ((a8, (a9, (a10, (a11, _)))), (a12, (a13, _))) =>
 (L1 ((a8, (a9, (a10, ((IntKind.wrap .i64 (a11 + 1)), ())))), (a12, (a13, ()))))) fun J14 =>
 (atc (D.Ledger.Calls a6) a5 fun a15 =>
 (cnd (decide ((D.Call.Page a15) ≠ (D.Page.ID a7)))
 (J14 ((a2, (a3, (a4, (a5, ())))), (a6, (a7, ()))))
 (join (Y := ((List D.Call × (Int × (Int × Unit))) × (D.Ledger × (D.Page × (D.Call × Unit))))) (fun ((a16, (a17, (a18, _))), (a19, (a20, (a21, _)))) =>
 (atc a16 a17 fun a22 =>
 (cnd (decide (((D.Call.Page a21) :: ((D.Call.K a21) :: ((D.Call.At a21) :: ((D.Call.Person a21) :: (0 :: []))))) ≠ ((D.Call.Page a22) :: ((D.Call.K a22) :: ((D.Call.At a22) :: ((D.Call.Person a22) :: ((D.Call.Fence a22) :: [])))))))
 (some false)
 (J14 ((a16, ((IntKind.wrap .i64 (a17 + 1)), ((D.Call.Fence a21), (a18, ())))), (a19, (a20, ()))))))) fun J23 =>
 (cnd (decide ((((List.length a2) : Nat) : Int) ≤ a3))
 (some false)
 (cnd (decide ((D.Call.Fence a15) < a4))
 (some false)
 (cnd (decide ((D.Ledger.Fence a6) < (D.Call.Fence a15)))
 (some false)
 (J23 ((a2, (a3, (a5, ()))), (a6, (a7, (a15, ()))))))))))))
 (some (decide (a3 = (((List.length a2) : Nat) : Int)))))) fu ((a0, (0, (0, (0, ())))), (p0, (p1, ())))))
def r31_told_g (fu : Nat) : Sig := mkSig [.st .Ledger, .st .Page] [] [.one (.boo)] [] [] (Bool) (fun q => ((q, ()), ())) (fun x y => r31_told fu x.1 x.2.1)
theorem r31_told_ok (fu : Nat) : FnOK Tryz.prog 148 (r31_told_g fu) :=
 FnOK.intro (ty := ty) (E := envL [(149, 0, r31_calls_g fu)]) (fu := fu) (an := .two .go (.two .go (.two .go (.two (.two .go (.one (.loop [(2, .one (.ref 1002)), (3, .one (.ref 1003)), (5, .one (.lst .Call)), (6, nI), (7, nI), (8, nI)] [(1002, .boxst .Ledger), (1003, .boxst .Page)] (.two .go (.two (.join [(2, .one (.ref 1002)), (3, .one (.ref 1003)), (5, .one (.lst .Call)), (6, nI), (7, nI), (8, nI)] [(1002, .boxst .Ledger), (1003, .boxst .Page)] (.one (.two .go (.two .go (.two (.join [(2, .one (.ref 1002)), (3, .one (.ref 1003)), (5, .one (.lst .Call)), (6, nI), (8, nI), (9, .one (.ref 1009))] [(1002, .boxst .Ledger), (1003, .boxst .Page), (1009, .boxst .Call)] .go) .go))))) .go))))) .go)))) (fun a b => a.1) (fun _ _ => rfl) (envL_ok ⟨r31_calls_ok fu, trivial⟩) Tryz.func148 rfl rfl (fun x y => by kernel_rfl)
def r31_Check (fu : Nat) (p0 : D.Ledger) : Option (Bool) :=
 (join (Y := (Unit × (D.Ledger × Unit))) (fun (_, (a0, _)) =>
 (iterF (X := ((Int × (Int × Unit)) × (D.Ledger × Unit))) (fun L1 ((a2, (a3, _)), (a4, _)) =>
 (cnd (decide (a3 < (((List.length (D.Ledger.Pages a4)) : Nat) : Int)))
 (atc (D.Ledger.Pages a4) a3 fun a5 =>
 (join (Y := ((Int × (Int × Unit)) × (D.Ledger × (D.Page × Unit)))) (fun ((a6, (a7, _)), (a8, (a9, _))) =>
 (optc (r31_calls fu a9 0 0) fun a10 =>
 (L1 (((IntKind.wrap .i64 (a6 + (((List.length a10) : Nat) : Int))), ((IntKind.wrap .i64 (a7 + 1)), ())), (a8, ()))))) fun J11 =>
 (cnd (decide (0 < a3))
 (atc (D.Ledger.Pages a4) (IntKind.wrap .i64 (a3 - 1)) fun a12 =>
 (cnd (decide ((D.Page.ID a5) ≤ (D.Page.ID a12)))
 (some false)
 (optc (r29_Check fu (D.Ledger.Book a4) a5) fun a13 =>
 (cnd a13
 (cnd (decide ((D.Ledger.Now a4) < (D.Page.Last a5)))
 (some false)
 (optc (r31_told fu a4 a5) fun a14 =>
 (cnd a14
 (J11 ((a2, (a3, ())), (a4, (a5, ()))))
 (some false))))
 (some false)))))
 (optc (r29_Check fu (D.Ledger.Book a4) a5) fun a15 =>
 (cnd a15
 (cnd (decide ((D.Ledger.Now a4) < (D.Page.Last a5)))
 (some false)
 (optc (r31_told fu a4 a5) fun a16 =>
 (cnd a16
 (J11 ((a2, (a3, ())), (a4, (a5, ()))))
 (some false))))
 (some false))))))
 (iterF (X := ((Int × (Int × Unit)) × (D.Ledger × Unit))) (fun L17 ((a18, (a19, _)), (a20, _)) =>
 (cnd (decide (a19 < (((List.length (D.Ledger.Seen a20)) : Nat) : Int)))
 (join (Y := ((Int × (Int × Unit)) × (D.Ledger × Unit))) (fun ((a21, (a22, _)), (a23, _)) =>
 (L17 ((a21, ((IntKind.wrap .i64 (a22 + 1)), ())), (a23, ())))) fun J24 =>
 (atc (D.Ledger.Seen a20) a19 fun a25 =>
 (optc (r25_In fu a25 1 1099511627776) fun a26 =>
 (cnd a26
 (natc a19 fun a27 =>
 (lec a27 (List.length (D.Ledger.Seen a20)) (atc (D.Ledger.Seen a20) a19 fun a28 =>
 (optc (r25_Has fu (List.take a27 (D.Ledger.Seen a20)) a28) fun a29 =>
 (cnd a29
 (some false)
 (J24 ((a18, (a19, ())), (a20, ()))))))))
 (some false)))))
 (some (decide (a18 = (((List.length (D.Ledger.Calls a20)) : Nat) : Int)))))) fu ((a2, (0, ())), (a4, ()))))) fu ((0, (0, ())), (a0, ())))) fun J30 =>
 (optc (r25_Check fu (D.Ledger.Config p0) (D.Ledger.Book p0)) fun a31 =>
 (cnd (decide (a31 ≠ 0))
 (some false)
 (optc (r25_In fu (D.Ledger.Now p0) 0 8589934592) fun a32 =>
 (cnd a32
 (cnd (decide (64 < (((List.length (D.Ledger.Pages p0)) : Nat) : Int)))
 (some false)
 (optc (r25_In fu (D.Ledger.Owner p0) (-1) 4) fun a33 =>
 (cnd a33
 (optc (r25_In fu (D.Ledger.Fence p0) 0 1048576) fun a34 =>
 (cnd a34
 (cnd (decide (256 < (((List.length (D.Ledger.Seen p0)) : Nat) : Int)))
 (some false)
 (J30 ((), (p0, ()))))
 (some false)))
 (some false))))
 (some false))))))
def r31_Check_g (fu : Nat) : Sig := mkSig [.st .Ledger] [] [.one (.boo)] [] [] (Bool) (fun q => ((q, ()), ())) (fun x y => r31_Check fu x.1)
theorem r31_Check_ok (fu : Nat) : FnOK Tryz.prog 111 (r31_Check_g fu) :=
 FnOK.intro (ty := ty) (E := envL [(25, 0, r25_Has_g fu), (45, 0, r29_Check_g fu), (67, 0, r25_In_g fu), (110, 0, r25_Check_g fu), (148, 0, r31_told_g fu), (149, 0, r31_calls_g fu)]) (fu := fu) (an := .two .go (.two (.join [(1, .one (.ref 1001))] [(1001, .boxst .Ledger)] .go) (.two .go (.two (.two .go (.one (.loop [(1, .one (.ref 1001)), (3, nI), (4, nI)] [(1001, .boxst .Ledger)] (.two .go (.two (.one (.two .go (.two (.join [(1, .one (.ref 1001)), (3, nI), (4, nI), (5, .one (.ref 1005))] [(1001, .boxst .Ledger), (1005, .boxst .Page)] .go) .go))) .go))))) (.two (.two .go (.one (.loop [(1, .one (.ref 1001)), (3, nI), (6, nI)] [(1001, .boxst .Ledger)] (.two .go (.two (.join [(1, .one (.ref 1001)), (3, nI), (6, nI)] [(1001, .boxst .Ledger)] .go) .go))))) .go))))) (fun a b => a.1) (fun _ _ => rfl) (envL_ok ⟨r25_Has_ok fu, r29_Check_ok fu, r25_In_ok fu, r25_Check_ok fu, r31_told_ok fu, r31_calls_ok fu, trivial⟩) Tryz.func111 rfl rfl (fun x y => by kernel_rfl)
def r28_Valid (fu : Nat) (p0 : D.Answer) : Option (Bool) :=
 (join (Y := (Unit × (D.Answer × Unit))) (fun (_, (a0, _)) =>
 (join (Y := ((Int × (Bool × Unit)) × (D.Answer × Unit))) (fun ((a1, (a2, _)), (a3, _)) =>
 (cnd a2
 (some (decide ((D.Answer.Arg a3) = 0)))
 (cnd (decide (a1 = 3))
 (optc (r25_In fu (D.Answer.Arg a3) 1 86400) fun a4 =>
 (some a4))
 (cnd (decide (a1 = 4))
 (optc (r25_In fu (D.Answer.Arg a3) 0 31) fun a5 =>
 (some a5))
 (some false))))) fun J6 =>
 (cnd (decide ((D.Answer.Kind a0) = 1))
 (J6 (((D.Answer.Kind a0), ((decide ((D.Answer.Kind a0) = 1)), ())), (a0, ())))
 (cnd (decide ((D.Answer.Kind a0) = 2))
 (J6 (((D.Answer.Kind a0), ((decide ((D.Answer.Kind a0) = 2)), ())), (a0, ())))
 (J6 (((D.Answer.Kind a0), ((decide ((D.Answer.Kind a0) = 5)), ())), (a0, ()))))))) fun J7 =>
 (optc (r25_In fu (D.Answer.ID p0) 1 999999) fun a8 =>
 (cnd a8
 (optc (r25_In fu (D.Answer.Page p0) 1 999999) fun a9 =>
 (cnd a9
 (optc (r25_In fu (D.Answer.Person p0) (-1) 31) fun a10 =>
 (cnd a10
 (optc (r25_In fu (D.Answer.At p0) 0 8589934592) fun a11 =>
 (cnd a11
 (J7 ((), (p0, ())))
 (some false)))
 (some false)))
 (some false)))
 (some false))))
def r28_Valid_g (fu : Nat) : Sig := mkSig [.st .Answer] [] [.one (.boo)] [] [] (Bool) (fun q => ((q, ()), ())) (fun x y => r28_Valid fu x.1)
theorem r28_Valid_ok (fu : Nat) : FnOK Tryz.prog 108 (r28_Valid_g fu) :=
 FnOK.intro (ty := ty) (E := envL [(67, 0, r25_In_g fu)]) (fu := fu) (an := .two .go (.two (.join [(1, .one (.ref 1001))] [(1001, .boxst .Answer)] .go) (.two (.two .go (.one (.two (.join [(1, .one (.ref 1001)), (26, nI), (27, .one (.boo))] [(1001, .boxst .Answer)] .go) .go))) .go))) (fun a b => a.1) (fun _ _ => rfl) (envL_ok ⟨r25_In_ok fu, trivial⟩) Tryz.func108 rfl rfl (fun x y => by kernel_rfl)
def r31_Valid (fu : Nat) (p0 : D.Op) : Option (Bool) :=
 (optc (r25_In fu (D.Op.ID p0) 1 1099511627776) fun a0 =>
 (cnd a0
 (optc (r25_In fu (D.Op.Kind p0) 1 5) fun a1 =>
 (cnd a1
 (optc (r25_In fu (D.Op.Region p0) 0 4) fun a2 =>
 (cnd a2
 (optc (r25_In fu (D.Op.Fence p0) 0 1048576) fun a3 =>
 (cnd a3
 (optc (r25_In fu (D.Op.At p0) 0 8589934592) fun a4 =>
 (cnd a4
 (optc (r25_In fu (D.Op.Page p0) 0 999999) fun a5 =>
 (cnd a5
 (optc (r25_In fu (D.Op.K p0) (-1) 1000) fun a6 =>
 (cnd a6
 (cnd (decide ((D.Op.Kind p0) ≠ 4))
 (some true)
 (optc (r28_Valid fu (D.Op.Answer p0)) fun a7 =>
 (cnd a7
 (some true)
 (some false))))
 (some false)))
 (some false)))
 (some false)))
 (some false)))
 (some false)))
 (some false)))
 (some false)))
def r31_Valid_g (fu : Nat) : Sig := mkSig [.st .Op] [] [.one (.boo)] [] [] (Bool) (fun q => ((q, ()), ())) (fun x y => r31_Valid fu x.1)
theorem r31_Valid_ok (fu : Nat) : FnOK Tryz.prog 112 (r31_Valid_g fu) :=
 FnOK.intro (ty := ty) (E := envL [(67, 0, r25_In_g fu), (108, 0, r28_Valid_g fu)]) (fu := fu) (an := .go) (fun a b => a.1) (fun _ _ => rfl) (envL_ok ⟨r25_In_ok fu, r28_Valid_ok fu, trivial⟩) Tryz.func112 rfl rfl (fun x y => by kernel_rfl)
def r29_Due (fu : Nat) (p0 : D.Page) : Option (Int × Bool) :=
 (cnd (decide ((D.Page.State p0) = 0))
 (some ((D.Page.Due p0), true))
 (cnd (decide ((D.Page.State p0) = 2))
 (some ((D.Page.Until p0), true))
 (some (0, false))))
def r29_Due_g (fu : Nat) : Sig := mkSig [.st .Page] [] [nI, .one (.boo)] [] [] (Int × Bool) (fun q => ((q.1, q.2, ()), ())) (fun x y => r29_Due fu x.1)
theorem r29_Due_ok (fu : Nat) : FnOK Tryz.prog 23 (r29_Due_g fu) :=
 FnOK.intro (ty := ty) (E := envL []) (fu := fu) (an := .go) (fun a b => (a.1, a.2.1)) (fun _ _ => rfl) (envL_ok (l := []) trivial) Tryz.func23 rfl rfl (fun x y => by kernel_rfl)
def r31_Find (fu : Nat) (p0 : D.Ledger) (p1 : Int) : Option (D.Page × Bool) :=
 (iterF (X := ((Int × (Int × Unit)) × (D.Ledger × (D.Page × Unit)))) (fun L0 ((a1, (a2, _)), (a3, (a4, _))) =>
 (cnd (decide (a2 < (((List.length (D.Ledger.Pages a3)) : Nat) : Int)))
 (atc (D.Ledger.Pages a3) a2 fun a5 =>
 (cnd (decide ((D.Page.ID a5) = a1))
 (atc (D.Ledger.Pages a3) a2 fun a6 =>
 (optc (r29_Copy fu a6) fun a7 =>
 (some (a7, true))))
 (L0 ((a1, ((IntKind.wrap .i64 (a2 + 1)), ())), (a3, (a4, ()))))))
 (some ((D.Page.mk 0 0 0 0 0 0 0 0 0 0 0 [] [] []), false)))) fu ((p1, (0, ())), (p0, ((D.Page.mk 0 0 0 0 0 0 0 0 0 0 0 [] [] []), ()))))
def r31_Find_g (fu : Nat) : Sig := mkSig [.st .Ledger, nI] [] [.st .Page, .one (.boo)] [] [] (D.Page × Bool) (fun q => ((q.1, q.2, ()), ())) (fun x y => r31_Find fu x.1 x.2.1)
theorem r31_Find_ok (fu : Nat) : FnOK Tryz.prog 150 (r31_Find_g fu) :=
 FnOK.intro (ty := ty) (E := envL [(66, 0, r29_Copy_g fu)]) (fu := fu) (an := .two .go (.two (.two .go (.one (.loop [(1, nI), (2, .one (.ref 1002)), (4, .one (.ref 1004)), (6, nI)] [(1002, .boxst .Ledger), (1004, .boxst .Page)] .go))) .go)) (fun a b => (a.1, a.2.1)) (fun _ _ => rfl) (envL_ok ⟨r29_Copy_ok fu, trivial⟩) Tryz.func150 rfl rfl (fun x y => by kernel_rfl)
def r25_Part (fu : Nat) (p0 : D.Policy) (p1 : Int) : Option (Int × Int × Bool) :=
 (join (Y := ((Int × Unit) × (D.Policy × Unit))) (fun ((a0, _), (a1, _)) =>
 (nzc (((List.length (D.Policy.Steps a1)) : Nat) : Int) (nzc (((List.length (D.Policy.Steps a1)) : Nat) : Int) (some ((Int.tmod a0 (((List.length (D.Policy.Steps a1)) : Nat) : Int)), ((IntKind.wrap .i64 (Int.tdiv a0 (((List.length (D.Policy.Steps a1)) : Nat) : Int))), true)))))) fun J2 =>
 (cnd (decide (p1 < 0))
 (some (0, (0, false)))
 (optc (r25_Count fu p0) fun a3 =>
 (cnd (decide (a3 ≤ p1))
 (some (0, (0, false)))
 (J2 ((p1, ()), (p0, ())))))))
def r25_Part_g (fu : Nat) : Sig := mkSig [.st .Policy, nI] [] [nI, nI, .one (.boo)] [] [] (Int × Int × Bool) (fun q => ((q.1, q.2.1, q.2.2, ()), ())) (fun x y => r25_Part fu x.1 x.2.1)
theorem r25_Part_ok (fu : Nat) : FnOK Tryz.prog 52 (r25_Part_g fu) :=
 FnOK.intro (ty := ty) (E := envL [(24, 0, r25_Count_g fu)]) (fu := fu) (an := .two .go (.two (.join [(1, nI), (2, .one (.ref 1002))] [(1002, .boxst .Policy)] .go) .go)) (fun a b => (a.1, a.2.1, a.2.2.1)) (fun _ _ => rfl) (envL_ok ⟨r25_Count_ok fu, trivial⟩) Tryz.func52 rfl rfl (fun x y => by kernel_rfl)
def r25_With (fu : Nat) (p0 : List Int) (p1 : Int) : Option (List Int) :=
 (iterF (X := ((List Int × (Int × (Bool × (Int × Unit)))) × (List Int × Unit))) (fun L0 ((a1, (a2, (a3, (a4, _)))), (a5, _)) =>
 (cnd (decide (a4 < (((List.length a1) : Nat) : Int)))
 (join (Y := ((List Int × (Int × (Bool × (Int × Unit)))) × (List Int × Unit))) (fun ((a6, (a7, (a8, (a9, _)))), (a10, _)) =>
 (L0 ((a6, (a7, (a8, ((IntKind.wrap .i64 (a9 + 1)), ())))), (a10, ())))) fun J11 =>
 (join (Y := ((List Int × (Int × (Bool × (Int × Unit)))) × (List Int × Unit))) (fun ((a12, (a13, (a14, (a15, _)))), (a16, _)) =>
 (atc a12 a15 fun a17 =>
 (cnd (decide (a17 ≠ a13))
 (atc a12 a15 fun a18 =>
 (lec ((List.length a16) + (List.length (a18 :: []))) 34359738368 (J11 ((a12, (a13, (a14, (a15, ())))), ((a16 ++ (a18 :: [])), ())))))
 (J11 ((a12, (a13, (a14, (a15, ())))), (a16, ())))))) fun J19 =>
 (cnd a3
 (J19 ((a1, (a2, (a3, (a4, ())))), (a5, ())))
 (atc a1 a4 fun a20 =>
 (cnd (decide (a2 ≤ a20))
 (lec ((List.length a5) + (List.length (a2 :: []))) 34359738368 (J19 ((a1, (a2, (true, (a4, ())))), ((a5 ++ (a2 :: [])), ()))))
 (J19 ((a1, (a2, (a3, (a4, ())))), (a5, ()))))))))
 (join (Y := (Unit × (List Int × Unit))) (fun (_, (a21, _)) =>
 (some a21)) fun J22 =>
 (cnd (!a3)
 (lec ((List.length a5) + (List.length (a2 :: []))) 34359738368 (J22 ((), ((a5 ++ (a2 :: [])), ()))))
 (J22 ((), (a5, ()))))))) fu ((p0, (p1, (false, (0, ())))), ([], ())))
def r25_With_g (fu : Nat) : Sig := mkSig [.one (.lst .int), nI] [] [.one (.lst .int)] [] [] (List Int) (fun q => ((q, ()), ())) (fun x y => r25_With fu x.1 x.2.1)
theorem r25_With_ok (fu : Nat) : FnOK Tryz.prog 35 (r25_With_g fu) :=
 FnOK.intro (ty := ty) (E := envL []) (fu := fu) (an := .two .go (.two .go (.two .go (.two (.two .go (.one (.loop [(0, .one (.lst .int)), (1, nI), (5, .one (.own 1027)), (6, .one (.boo)), (7, nI)] [(1027, .arr .int)] (.two .go (.two (.join [(0, .one (.lst .int)), (1, nI), (5, .one (.own 1027)), (6, .one (.boo)), (7, nI)] [(1027, .arr .int)] (.one (.two (.join [(0, .one (.lst .int)), (1, nI), (5, .one (.own 1027)), (6, .one (.boo)), (7, nI)] [(1027, .arr .int)] .go) .go))) .go))))) (.two (.join [(5, .one (.own 1027))] [(1027, .arr .int)] .go) .go))))) (fun a b => a.1) (fun _ _ => rfl) (envL_ok (l := []) trivial) Tryz.func35 rfl rfl (fun x y => by kernel_rfl)
def r12_Ok (fu : Nat) (p0 : D.Config) (p1 : Int) (p2 : Int) : Option (Bool) :=
 (cnd (decide (0 ≤ p1))
 (cnd (decide (p1 < (((List.length (D.Config.Schedules p0)) : Nat) : Int)))
 (cnd (decide (0 ≤ p2))
 (cnd (decide (p2 ≤ 8589934592))
 (optc (r08_Check fu p0) fun a0 =>
 (cnd (decide (a0 = 0))
 (some true)
 (some false)))
 (some false))
 (some false))
 (some false))
 (some false))
def r12_Ok_g (fu : Nat) : Sig := mkSig [.st .Config, nI, nI] [] [.one (.boo)] [] [] (Bool) (fun q => ((q, ()), ())) (fun x y => r12_Ok fu x.1 x.2.1 x.2.2.1)
theorem r12_Ok_ok (fu : Nat) : FnOK Tryz.prog 127 (r12_Ok_g fu) :=
 FnOK.intro (ty := ty) (E := envL [(141, 0, r08_Check_g fu)]) (fu := fu) (an := .go) (fun a b => a.1) (fun _ _ => rfl) (envL_ok ⟨r08_Check_ok fu, trivial⟩) Tryz.func127 rfl rfl (fun x y => by kernel_rfl)
def r04_offset (fu : Nat) (p0 : D.Zone) (p1 : List D.Transition) (p2 : Int) : Option (Int) :=
 (join (Y := ((Int × Unit) × Unit)) (fun ((a0, _), _) =>
 (some a0)) fun J1 =>
 (iterF (X := ((List D.Transition × P3) × Unit)) (fun L2 ((a3, (a4, (a5, (a6, _)))), _) =>
 (join (Y := ((List D.Transition × (Int × (Int × Unit))) × Unit)) (fun ((a7, (a8, (a9, _))), _) =>
 (atc a7 a9 fun a10 =>
 (L2 ((a7, (a8, ((D.Transition.Offset a10), ((IntKind.wrap .i64 (a9 + 1)), ())))), ())))) fun J11 =>
 (cnd (decide (a6 < (((List.length a3) : Nat) : Int)))
 (atc a3 a6 fun a12 =>
 (cnd (decide ((D.Transition.At a12) ≤ a4))
 (J11 ((a3, (a4, (a6, ()))), ()))
 (J1 ((a5, ()), ()))))
 (J1 ((a5, ()), ()))))) fu ((p1, (p2, ((D.Zone.Offset p0), (0, ())))), ())))
def r04_offset_g (fu : Nat) : Sig := mkSig [.st .Zone, .one (.lst .Transition), nI] [] [nI] [] [] (Int) (fun q => ((q, ()), ())) (fun x y => r04_offset fu x.1 x.2.1 x.2.2.1)
theorem r04_offset_ok (fu : Nat) : FnOK Tryz.prog 262 (r04_offset_g fu) :=
 FnOK.intro (ty := ty) (E := envL []) (fu := fu) (an := .two .go (.two .go (.two (.join [(7, nI)] [] (.two .go (.one (.loop [(1, .one (.lst .Transition)), (2, nI), (7, nI), (8, nI)] [] (.two (.join [(1, .one (.lst .Transition)), (2, nI), (8, nI)] [] .go) .go))))) .go))) (fun a b => a.1) (fun _ _ => rfl) (envL_ok (l := []) trivial) Tryz.func262 rfl rfl (fun x y => by kernel_rfl)
def r04_OffsetAt (fu : Nat) (p0 : D.Zone) (p1 : Int) : Option (Int × Int) :=
 (optc (r04_Transitions fu p0) fun (a0, a1) =>
 (cnd (decide (a1 ≠ 0))
 (some (0, 8))
 (optc (r04_in fu p1 0 8589934592) fun a2 =>
 (cnd (!a2)
 (some (0, 1))
 (optc (r04_offset fu p0 a0 p1) fun a3 =>
 (some (a3, 0)))))))
def r04_OffsetAt_g (fu : Nat) : Sig := mkSig [.st .Zone, nI] [] [nI, nI] [] [] (Int × Int) (fun q => ((q.1, q.2, ()), ())) (fun x y => r04_OffsetAt fu x.1 x.2.1)
theorem r04_OffsetAt_ok (fu : Nat) : FnOK Tryz.prog 234 (r04_OffsetAt_g fu) :=
 FnOK.intro (ty := ty) (E := envL [(259, 0, r04_Transitions_g fu), (261, 0, r04_in_g fu), (262, 0, r04_offset_g fu)]) (fu := fu) (an := .go) (fun a b => (a.1, a.2.1)) (fun _ _ => rfl) (envL_ok ⟨r04_Transitions_ok fu, r04_in_ok fu, r04_offset_ok fu, trivial⟩) Tryz.func234 rfl rfl (fun x y => by kernel_rfl)
def r04_local (fu : Nat) (p0 : Int) (p1 : Int) : Option (D.Local) :=
 (nzc 86400 (nzc 86400 (some (D.Local.mk (IntKind.wrap .i64 ((IntKind.wrap .i64 (Int.tdiv (IntKind.wrap .i64 ((IntKind.wrap .i64 (p0 + p1)) + 864000)) 86400)) - 10)) (Int.tmod (IntKind.wrap .i64 ((IntKind.wrap .i64 (p0 + p1)) + 864000)) 86400)))))
def r04_local_g (fu : Nat) : Sig := mkSig [nI, nI] [] [.st .Local] [] [] (D.Local) (fun q => ((q, ()), ())) (fun x y => r04_local fu x.1 x.2.1)
theorem r04_local_ok (fu : Nat) : FnOK Tryz.prog 235 (r04_local_g fu) :=
 FnOK.intro (ty := ty) (E := envL []) (fu := fu) (an := .go) (fun a b => a.1) (fun _ _ => rfl) (envL_ok (l := []) trivial) Tryz.func235 rfl rfl (fun x y => by kernel_rfl)
def r04_ToLocal (fu : Nat) (p0 : D.Zone) (p1 : Int) : Option (D.Local × Int) :=
 (optc (r04_OffsetAt fu p0 p1) fun (a0, a1) =>
 (cnd (decide (a1 ≠ 0))
 (some ((D.Local.mk 0 0), a1))
 (optc (r04_local fu p1 a0) fun a2 =>
 (some (a2, 0)))))
def r04_ToLocal_g (fu : Nat) : Sig := mkSig [.st .Zone, nI] [] [.st .Local, nI] [] [] (D.Local × Int) (fun q => ((q.1, q.2, ()), ())) (fun x y => r04_ToLocal fu x.1 x.2.1)
theorem r04_ToLocal_ok (fu : Nat) : FnOK Tryz.prog 189 (r04_ToLocal_g fu) :=
 FnOK.intro (ty := ty) (E := envL [(234, 0, r04_OffsetAt_g fu), (235, 0, r04_local_g fu)]) (fu := fu) (an := .go) (fun a b => (a.1, a.2.1)) (fun _ _ => rfl) (envL_ok ⟨r04_OffsetAt_ok fu, r04_local_ok fu, trivial⟩) Tryz.func189 rfl rfl (fun x y => by kernel_rfl)
def r05_second (fu : Nat) (p0 : D.Local) : Option (Int) :=
 (optc (r01_Weekday fu (D.Local.Day p0)) fun a0 =>
 (some (IntKind.wrap .i64 ((IntKind.wrap .i64 (a0 * 86400)) + (D.Local.Second p0)))))
def r05_second_g (fu : Nat) : Sig := mkSig [.st .Local] [] [nI] [] [] (Int) (fun q => ((q, ()), ())) (fun x y => r05_second fu x.1)
theorem r05_second_ok (fu : Nat) : FnOK Tryz.prog 190 (r05_second_g fu) :=
 FnOK.intro (ty := ty) (E := envL [(236, 0, r01_Weekday_g fu)]) (fu := fu) (an := .go) (fun a b => a.1) (fun _ _ => rfl) (envL_ok ⟨r01_Weekday_ok fu, trivial⟩) Tryz.func190 rfl rfl (fun x y => by kernel_rfl)
def r05_Second (fu : Nat) (p0 : D.Zone) (p1 : Int) : Option (Int × Int) :=
 (optc (r04_ToLocal fu p0 p1) fun (a0, a1) =>
 (cnd (decide (a1 ≠ 0))
 (some (0, a1))
 (optc (r05_second fu a0) fun a2 =>
 (some (a2, 0)))))
def r05_Second_g (fu : Nat) : Sig := mkSig [.st .Zone, nI] [] [nI, nI] [] [] (Int × Int) (fun q => ((q.1, q.2, ()), ())) (fun x y => r05_Second fu x.1 x.2.1)
theorem r05_Second_ok (fu : Nat) : FnOK Tryz.prog 143 (r05_Second_g fu) :=
 FnOK.intro (ty := ty) (E := envL [(189, 0, r04_ToLocal_g fu), (190, 0, r05_second_g fu)]) (fu := fu) (an := .go) (fun a b => (a.1, a.2.1)) (fun _ _ => rfl) (envL_ok ⟨r04_ToLocal_ok fu, r05_second_ok fu, trivial⟩) Tryz.func143 rfl rfl (fun x y => by kernel_rfl)
def r05_Within (fu : Nat) (p0 : List D.Window) (p1 : Int) : Option (Bool) :=
 (iterF (X := ((List D.Window × (Int × (Int × Unit))) × Unit)) (fun L0 ((a1, (a2, (a3, _))), _) =>
 (cnd (decide (a3 < (((List.length a1) : Nat) : Int)))
 (join (Y := ((List D.Window × (Int × (Int × Unit))) × Unit)) (fun ((a4, (a5, (a6, _))), _) =>
 (L0 ((a4, (a5, ((IntKind.wrap .i64 (a6 + 1)), ()))), ()))) fun J7 =>
 (atc a1 a3 fun a8 =>
 (cnd (decide ((D.Window.From a8) ≤ a2))
 (atc a1 a3 fun a9 =>
 (cnd (decide (a2 < (D.Window.To a9)))
 (some true)
 (J7 ((a1, (a2, (a3, ()))), ()))))
 (J7 ((a1, (a2, (a3, ()))), ())))))
 (some false))) fu ((p0, (p1, (0, ()))), ()))
def r05_Within_g (fu : Nat) : Sig := mkSig [.one (.lst .Window), nI] [] [.one (.boo)] [] [] (Bool) (fun q => ((q, ()), ())) (fun x y => r05_Within fu x.1 x.2.1)
theorem r05_Within_ok (fu : Nat) : FnOK Tryz.prog 145 (r05_Within_g fu) :=
 FnOK.intro (ty := ty) (E := envL []) (fu := fu) (an := .two .go (.two (.two .go (.one (.loop [(0, .one (.lst .Window)), (1, nI), (5, nI)] [] (.two .go (.two (.join [(0, .one (.lst .Window)), (1, nI), (5, nI)] [] .go) .go))))) .go)) (fun a b => a.1) (fun _ _ => rfl) (envL_ok (l := []) trivial) Tryz.func145 rfl rfl (fun x y => by kernel_rfl)
def r05_In (fu : Nat) (p0 : D.Zone) (p1 : List D.Window) (p2 : Int) : Option (Bool) :=
 (optc (r05_Second fu p0 p2) fun (a0, a1) =>
 (cnd (decide (a1 = 0))
 (optc (r05_Check fu p1) fun a2 =>
 (cnd (decide (a2 = 0))
 (optc (r05_Within fu p1 a0) fun a3 =>
 (cnd a3
 (some true)
 (some false)))
 (some false)))
 (some false)))
def r05_In_g (fu : Nat) : Sig := mkSig [.st .Zone, .one (.lst .Window), nI] [] [.one (.boo)] [] [] (Bool) (fun q => ((q, ()), ())) (fun x y => r05_In fu x.1 x.2.1 x.2.2.1)
theorem r05_In_ok (fu : Nat) : FnOK Tryz.prog 100 (r05_In_g fu) :=
 FnOK.intro (ty := ty) (E := envL [(143, 0, r05_Second_g fu), (144, 0, r05_Check_g fu), (145, 0, r05_Within_g fu)]) (fu := fu) (an := .go) (fun a b => a.1) (fun _ _ => rfl) (envL_ok ⟨r05_Second_ok fu, r05_Check_ok fu, r05_Within_ok fu, trivial⟩) Tryz.func100 rfl rfl (fun x y => by kernel_rfl)
def r10_Check (fu : Nat) (p0 : D.Zone) (p1 : D.Layer) : Option (Int) :=
 (join (Y := (Unit × Unit)) (fun (_, _) =>
 (some 0)) fun J0 =>
 (optc (r04_Check fu p0) fun a1 =>
 (cnd (decide (a1 ≠ 0))
 (some 8)
 (cnd (decide ((D.Local.Day (D.Layer.Start p1)) < 1))
 (some 8)
 (cnd (decide (100000 < (D.Local.Day (D.Layer.Start p1))))
 (some 8)
 (cnd (decide ((D.Local.Second (D.Layer.Start p1)) < 0))
 (some 8)
 (cnd (decide (86400 ≤ (D.Local.Second (D.Layer.Start p1))))
 (some 8)
 (cnd (decide ((D.Layer.Unit p1) < 0))
 (some 8)
 (cnd (decide (2 < (D.Layer.Unit p1)))
 (some 8)
 (cnd (decide ((D.Layer.Every p1) < 1))
 (some 8)
 (cnd (decide (400 < (D.Layer.Every p1)))
 (some 8)
 (cnd (decide ((((List.length (D.Layer.Members p1)) : Nat) : Int) = 0))
 (some 8)
 (J0 ((), ()))))))))))))))
def r10_Check_g (fu : Nat) : Sig := mkSig [.st .Zone, .st .Layer] [] [nI] [] [] (Int) (fun q => ((q, ()), ())) (fun x y => r10_Check fu x.1 x.2.1)
theorem r10_Check_ok (fu : Nat) : FnOK Tryz.prog 286 (r10_Check_g fu) :=
 FnOK.intro (ty := ty) (E := envL [(227, 0, r04_Check_g fu)]) (fu := fu) (an := .two .go (.two (.join [] [] .go) .go)) (fun a b => a.1) (fun _ _ => rfl) (envL_ok ⟨r04_Check_ok fu, trivial⟩) Tryz.func286 rfl rfl (fun x y => by kernel_rfl)
def r04_small (fu : Nat) (p0 : Int) : Option (Bool) :=
 (optc (r04_in fu p0 (-2) 99422) fun a0 =>
 (some a0))
def r04_small_g (fu : Nat) : Sig := mkSig [nI] [] [.one (.boo)] [] [] (Bool) (fun q => ((q, ()), ())) (fun x y => r04_small fu x.1)
theorem r04_small_ok (fu : Nat) : FnOK Tryz.prog 308 (r04_small_g fu) :=
 FnOK.intro (ty := ty) (E := envL [(261, 0, r04_in_g fu)]) (fu := fu) (an := .go) (fun a b => a.1) (fun _ _ => rfl) (envL_ok ⟨r04_in_ok fu, trivial⟩) Tryz.func308 rfl rfl (fun x y => by kernel_rfl)
def r04_First (fu : Nat) (p0 : D.Zone) (p1 : D.Local) : Option (Int × Int) :=
 (optc (r04_Transitions fu p0) fun (a0, a1) =>
 (cnd (decide (a1 ≠ 0))
 (some (0, 8))
 (optc (r04_in fu (D.Local.Second p1) 0 86399) fun a2 =>
 (cnd (!a2)
 (some (0, 1))
 (cnd (decide ((D.Local.Day p1) < (-2)))
 (some (0, 0))
 (optc (r04_small fu (D.Local.Day p1)) fun a3 =>
 (cnd (!a3)
 (some (0, 10))
 (iterF (X := ((List D.Transition × (Int × Unit)) × (D.Zone × (D.Local × Unit)))) (fun L4 ((a5, (a6, _)), (a7, (a8, _))) =>
 (cnd (decide (a6 < (((List.length a5) : Nat) : Int)))
 (join (Y := ((List D.Transition × P4) × (D.Zone × (D.Local × Unit)))) (fun ((a9, (a10, (a11, (a12, (a13, _))))), (a14, (a15, _))) =>
 (join (Y := ((List D.Transition × P4) × (D.Zone × (D.Local × Unit)))) (fun ((a16, (a17, (a18, (a19, (a20, _))))), (a21, (a22, _))) =>
 (cnd (decide ((max a19 (IntKind.wrap .i64 ((IntKind.wrap .i64 ((IntKind.wrap .i64 ((D.Local.Day a22) * 86400)) + (D.Local.Second a22))) - a18))) < a20))
 (some ((max a19 (IntKind.wrap .i64 ((IntKind.wrap .i64 ((IntKind.wrap .i64 ((D.Local.Day a22) * 86400)) + (D.Local.Second a22))) - a18))), 0))
 (L4 ((a16, ((IntKind.wrap .i64 (a17 + 1)), ())), (a21, (a22, ())))))) fun J23 =>
 (cnd (decide ((IntKind.wrap .i64 (a10 + 1)) < (((List.length a9) : Nat) : Int)))
 (atc a9 (IntKind.wrap .i64 (a10 + 1)) fun a24 =>
 (J23 ((a9, (a10, (a11, (a12, ((D.Transition.At a24), ()))))), (a14, (a15, ())))))
 (J23 ((a9, (a10, (a11, (a12, (a13, ()))))), (a14, (a15, ()))))))) fun J25 =>
 (cnd (decide (0 ≤ a6))
 (atc a5 a6 fun a26 =>
 (atc a5 a6 fun a27 =>
 (J25 ((a5, (a6, ((D.Transition.Offset a26), ((D.Transition.At a27), (8589934593, ()))))), (a7, (a8, ()))))))
 (J25 ((a5, (a6, ((D.Zone.Offset a7), (0, (8589934593, ()))))), (a7, (a8, ()))))))
 (some (0, 10)))) fu ((a0, ((-1), ())), (p0, (p1, ())))))))))))
def r04_First_g (fu : Nat) : Sig := mkSig [.st .Zone, .st .Local] [] [nI, nI] [] [] (Int × Int) (fun q => ((q.1, q.2, ()), ())) (fun x y => r04_First fu x.1 x.2.1)
theorem r04_First_ok (fu : Nat) : FnOK Tryz.prog 298 (r04_First_g fu) :=
 FnOK.intro (ty := ty) (E := envL [(259, 0, r04_Transitions_g fu), (261, 0, r04_in_g fu), (308, 0, r04_small_g fu)]) (fu := fu) (an := .two .go (.two .go (.two .go (.two .go (.two .go (.two .go (.two (.two .go (.one (.loop [(2, .one (.ref 1002)), (3, .one (.ref 1003)), (6, .one (.lst .Transition)), (8, nI)] [(1002, .boxst .Zone), (1003, .boxst .Local)] (.two .go (.two (.one (.two .go (.two (.join [(2, .one (.ref 1002)), (3, .one (.ref 1003)), (6, .one (.lst .Transition)), (8, nI), (9, nI), (10, nI), (11, nI)] [(1002, .boxst .Zone), (1003, .boxst .Local)] .go) (.two (.join [(2, .one (.ref 1002)), (3, .one (.ref 1003)), (6, .one (.lst .Transition)), (8, nI), (9, nI), (10, nI), (11, nI)] [(1002, .boxst .Zone), (1003, .boxst .Local)] .go) .go)))) .go))))) .go))))))) (fun a b => (a.1, a.2.1)) (fun _ _ => rfl) (envL_ok ⟨r04_Transitions_ok fu, r04_in_ok fu, r04_small_ok fu, trivial⟩) Tryz.func298 rfl rfl (fun x y => by kernel_rfl)
def r10_handover (fu : Nat) (p0 : D.Zone) (p1 : D.Layer) (p2 : Int) : Option (Int × Bool) :=
 (cnd (decide ((D.Layer.Unit p1) = 0))
 (optc (r04_First fu p0 (D.Layer.Start p1)) fun (a0, a1) =>
 (cnd (decide (a1 = 0))
 (cnd (decide ((IntKind.wrap .i64 (a0 + (IntKind.wrap .i64 ((IntKind.wrap .i64 (p2 * (D.Layer.Every p1))) * 3600)))) ≤ 8589934592))
 (some ((IntKind.wrap .i64 (a0 + (IntKind.wrap .i64 ((IntKind.wrap .i64 (p2 * (D.Layer.Every p1))) * 3600)))), true))
 (some ((IntKind.wrap .i64 (a0 + (IntKind.wrap .i64 ((IntKind.wrap .i64 (p2 * (D.Layer.Every p1))) * 3600)))), false)))
 (some ((IntKind.wrap .i64 (a0 + (IntKind.wrap .i64 ((IntKind.wrap .i64 (p2 * (D.Layer.Every p1))) * 3600)))), false))))
 (join (Y := ((Int × Unit) × (D.Zone × (D.Layer × Unit)))) (fun ((a2, _), (a3, (a4, _))) =>
 (optc (r04_First fu a3 (D.Local.mk (IntKind.wrap .i64 ((D.Local.Day (D.Layer.Start a4)) + a2)) (D.Local.Second (D.Layer.Start a4)))) fun (a5, a6) =>
 (some (a5, (decide (a6 = 0)))))) fun J7 =>
 (cnd (decide ((D.Layer.Unit p1) = 2))
 (J7 (((IntKind.wrap .i64 ((IntKind.wrap .i64 (p2 * (D.Layer.Every p1))) * 7)), ()), (p0, (p1, ()))))
 (J7 (((IntKind.wrap .i64 (p2 * (D.Layer.Every p1))), ()), (p0, (p1, ())))))))
def r10_handover_g (fu : Nat) : Sig := mkSig [.st .Zone, .st .Layer, nI] [] [nI, .one (.boo)] [] [] (Int × Bool) (fun q => ((q.1, q.2, ()), ())) (fun x y => r10_handover fu x.1 x.2.1 x.2.2.1)
theorem r10_handover_ok (fu : Nat) : FnOK Tryz.prog 299 (r10_handover_g fu) :=
 FnOK.intro (ty := ty) (E := envL [(298, 0, r04_First_g fu)]) (fu := fu) (an := .two .go (.two .go (.two .go (.two (.join [(3, .one (.ref 1003)), (4, .one (.ref 1004)), (11, nI)] [(1003, .boxst .Zone), (1004, .boxst .Layer)] .go) .go)))) (fun a b => (a.1, a.2.1)) (fun _ _ => rfl) (envL_ok ⟨r04_First_ok fu, trivial⟩) Tryz.func299 rfl rfl (fun x y => by kernel_rfl)
def r10_shift (fu : Nat) (p0 : D.Zone) (p1 : D.Layer) (p2 : Int) : Option (Int) :=
 (cnd (decide ((D.Layer.Unit p1) = 0))
 (join (Y := ((Int × Unit) × Unit)) (fun ((a0, _), _) =>
 (some a0)) fun J1 =>
 (optc (r04_First fu p0 (D.Layer.Start p1)) fun (a2, a3) =>
 (cnd (decide (a3 = 0))
 (cnd (decide (a2 ≤ p2))
 (nzc (IntKind.wrap .i64 (3600 * (D.Layer.Every p1))) (J1 (((IntKind.wrap .i64 (Int.tdiv (IntKind.wrap .i64 (p2 - a2)) (IntKind.wrap .i64 (3600 * (D.Layer.Every p1))))), ()), ())))
 (J1 (((-1), ()), ())))
 (J1 (((-1), ()), ())))))
 (optc (r04_ToLocal fu p0 p2) fun (a4, a5) =>
 (join (Y := ((Int × (Int × Unit)) × (D.Zone × (D.Layer × (D.Local × Unit))))) (fun ((a6, (a7, _)), (a8, (a9, (a10, _)))) =>
 (join (Y := ((Int × Unit) × Unit)) (fun ((a11, _), _) =>
 (some a11)) fun J12 =>
 (nzc a7 (iterF (X := ((Int × (Int × Unit)) × (D.Zone × (D.Layer × Unit)))) (fun L13 ((a14, (a15, _)), (a16, (a17, _))) =>
 (cnd (decide (0 ≤ a15))
 (join (Y := ((Int × (Int × Unit)) × (D.Zone × (D.Layer × Unit)))) (fun ((a18, (a19, _)), (a20, (a21, _))) =>
 (L13 ((a18, ((IntKind.wrap .i64 (a19 - 1)), ())), (a20, (a21, ()))))) fun J22 =>
 (optc (r10_handover fu a16 a17 a15) fun (a23, a24) =>
 (cnd a24
 (cnd (decide (a23 ≤ a14))
 (J12 ((a15, ()), ()))
 (J22 ((a14, (a15, ())), (a16, (a17, ())))))
 (J22 ((a14, (a15, ())), (a16, (a17, ())))))))
 (J12 ((a15, ()), ())))) fu ((a6, ((IntKind.wrap .i64 (Int.tdiv (max (IntKind.wrap .i64 ((IntKind.wrap .i64 ((D.Local.Day a10) + 2)) - (D.Local.Day (D.Layer.Start a9)))) 0) a7)), ())), (a8, (a9, ()))))))) fun J25 =>
 (cnd (decide ((D.Layer.Unit p1) = 2))
 (J25 ((p2, ((IntKind.wrap .i64 ((D.Layer.Every p1) * 7)), ())), (p0, (p1, (a4, ())))))
 (J25 ((p2, ((D.Layer.Every p1), ())), (p0, (p1, (a4, ())))))))))
def r10_shift_g (fu : Nat) : Sig := mkSig [.st .Zone, .st .Layer, nI] [] [nI] [] [] (Int) (fun q => ((q, ()), ())) (fun x y => r10_shift fu x.1 x.2.1 x.2.2.1)
theorem r10_shift_ok (fu : Nat) : FnOK Tryz.prog 287 (r10_shift_g fu) :=
 FnOK.intro (ty := ty) (E := envL [(189, 0, r04_ToLocal_g fu), (298, 0, r04_First_g fu), (299, 0, r10_handover_g fu)]) (fu := fu) (an := .two .go (.two .go (.two (.two .go (.two (.two (.join [(7, nI)] [] .go) .go) .go)) (.two .go (.two .go (.two (.join [(2, nI), (3, .one (.ref 1003)), (4, .one (.ref 1004)), (10, .one (.ref 1010)), (12, nI)] [(1003, .boxst .Zone), (1004, .boxst .Layer), (1010, .boxst .Local)] .go) (.two (.join [(7, nI)] [] (.two .go (.one (.loop [(2, nI), (3, .one (.ref 1003)), (4, .one (.ref 1004)), (7, nI)] [(1003, .boxst .Zone), (1004, .boxst .Layer)] (.two .go (.two (.join [(2, nI), (3, .one (.ref 1003)), (4, .one (.ref 1004)), (7, nI)] [(1003, .boxst .Zone), (1004, .boxst .Layer)] .go) .go)))))) .go))))))) (fun a b => a.1) (fun _ _ => rfl) (envL_ok ⟨r04_ToLocal_ok fu, r04_First_ok fu, r10_handover_ok fu, trivial⟩) Tryz.func287 rfl rfl (fun x y => by kernel_rfl)
def r10_Shift (fu : Nat) (p0 : D.Zone) (p1 : D.Layer) (p2 : Int) : Option (Int × Int) :=
 (optc (r10_Check fu p0 p1) fun a0 =>
 (cnd (decide (a0 ≠ 0))
 (some (0, 8))
 (join (Y := ((Int × Unit) × (D.Zone × (D.Layer × Unit)))) (fun ((a1, _), (a2, (a3, _))) =>
 (optc (r10_shift fu a2 a3 a1) fun a4 =>
 (some (a4, 0)))) fun J5 =>
 (cnd (decide (p2 < 0))
 (some (0, 1))
 (cnd (decide (8589934592 < p2))
 (some (0, 1))
 (J5 ((p2, ()), (p0, (p1, ())))))))))
def r10_Shift_g (fu : Nat) : Sig := mkSig [.st .Zone, .st .Layer, nI] [] [nI, nI] [] [] (Int × Int) (fun q => ((q.1, q.2, ()), ())) (fun x y => r10_Shift fu x.1 x.2.1 x.2.2.1)
theorem r10_Shift_ok (fu : Nat) : FnOK Tryz.prog 273 (r10_Shift_g fu) :=
 FnOK.intro (ty := ty) (E := envL [(286, 0, r10_Check_g fu), (287, 0, r10_shift_g fu)]) (fu := fu) (an := .two .go (.two .go (.two (.join [(2, nI), (3, .one (.ref 1003)), (4, .one (.ref 1004))] [(1003, .boxst .Zone), (1004, .boxst .Layer)] .go) .go))) (fun a b => (a.1, a.2.1)) (fun _ _ => rfl) (envL_ok ⟨r10_Check_ok fu, r10_shift_ok fu, trivial⟩) Tryz.func273 rfl rfl (fun x y => by kernel_rfl)
def r11_look (fu : Nat) (p0 : D.Config) (p1 : D.Layer) (p2 : Int) : Option (Int × Bool) :=
 (atc (D.Config.Zones p0) (D.Layer.Zone p1) fun a0 =>
 (optc (r10_Shift fu a0 p1 p2) fun (a1, a2) =>
 (join (Y := ((Int × (Int × Unit)) × (D.Config × (D.Layer × Unit)))) (fun ((a3, (a4, _)), (a5, (a6, _))) =>
 (cnd (decide ((D.Layer.Mode a6) = 0))
 (some (a4, true))
 (atc (D.Config.Calendars a5) (D.Layer.Calendar a6) fun a7 =>
 (atc (D.Config.Zones a5) (D.Calendar.Zone a7) fun a8 =>
 (optc (r04_ToLocal fu a8 a3) fun (a9, a10) =>
 (iterF (X := ((Int × (Bool × (Int × Unit))) × (D.Layer × (D.Calendar × (D.Local × Unit))))) (fun L11 ((a12, (a13, (a14, _))), (a15, (a16, (a17, _)))) =>
 (cnd (decide (a14 < (((List.length (D.Calendar.Days a16)) : Nat) : Int)))
 (join (Y := ((Int × (Bool × (Int × Unit))) × (D.Layer × (D.Calendar × (D.Local × Unit))))) (fun ((a18, (a19, (a20, _))), (a21, (a22, (a23, _)))) =>
 (L11 ((a18, (a19, ((IntKind.wrap .i64 (a20 + 1)), ()))), (a21, (a22, (a23, ())))))) fun J24 =>
 (cnd a13
 (J24 ((a12, (true, (a14, ()))), (a15, (a16, (a17, ())))))
 (atc (D.Calendar.Days a16) a14 fun a25 =>
 (cnd (decide (a25 = (D.Local.Day a17)))
 (J24 ((a12, (true, (a14, ()))), (a15, (a16, (a17, ())))))
 (J24 ((a12, (false, (a14, ()))), (a15, (a16, (a17, ())))))))))
 (some (a12, (decide (a13 = (decide ((D.Layer.Mode a15) = 2)))))))) fu ((a4, (false, (0, ()))), (a6, (a7, (a9, ())))))))))) fun J26 =>
 (cnd (decide (a2 ≠ 0))
 (some (0, false))
 (cnd (decide (a1 < 0))
 (some (0, false))
 (cnd (decide (0 < (((List.length (D.Layer.Windows p1)) : Nat) : Int)))
 (optc (r05_In fu a0 (D.Layer.Windows p1) p2) fun a27 =>
 (cnd a27
 (J26 ((p2, (a1, ())), (p0, (p1, ()))))
 (some (0, false))))
 (J26 ((p2, (a1, ())), (p0, (p1, ()))))))))))
def r11_look_g (fu : Nat) : Sig := mkSig [.st .Config, .st .Layer, nI] [] [nI, .one (.boo)] [] [] (Int × Bool) (fun q => ((q.1, q.2, ()), ())) (fun x y => r11_look fu x.1 x.2.1 x.2.2.1)
theorem r11_look_ok (fu : Nat) : FnOK Tryz.prog 255 (r11_look_g fu) :=
 FnOK.intro (ty := ty) (E := envL [(100, 0, r05_In_g fu), (189, 0, r04_ToLocal_g fu), (273, 0, r10_Shift_g fu)]) (fu := fu) (an := .two .go (.two .go (.two .go (.two (.join [(2, nI), (3, .one (.ref 1003)), (4, .one (.ref 1004)), (9, nI)] [(1003, .boxst .Config), (1004, .boxst .Layer)] .go) (.two .go (.two .go (.two .go (.two .go (.two (.two .go (.one (.loop [(4, .one (.ref 1004)), (9, nI), (11, .one (.ref 1011)), (12, .one (.ref 1012)), (14, .one (.boo)), (15, nI)] [(1004, .boxst .Layer), (1011, .boxst .Calendar), (1012, .boxst .Local)] (.two .go (.two (.join [(4, .one (.ref 1004)), (9, nI), (11, .one (.ref 1011)), (12, .one (.ref 1012)), (14, .one (.boo)), (15, nI)] [(1004, .boxst .Layer), (1011, .boxst .Calendar), (1012, .boxst .Local)] .go) .go))))) .go))))))))) (fun a b => (a.1, a.2.1)) (fun _ _ => rfl) (envL_ok ⟨r05_In_ok fu, r04_ToLocal_ok fu, r10_Shift_ok fu, trivial⟩) Tryz.func255 rfl rfl (fun x y => by kernel_rfl)
def r11_Raw (fu : Nat) (p0 : D.Config) (p1 : D.Layer) (p2 : Int) : Option (Int) :=
 (optc (r11_look fu p0 p1 p2) fun (a0, a1) =>
 (cnd (!a1)
 (some (-1))
 (nzc (((List.length (D.Layer.Members p1)) : Nat) : Int) (atc (D.Layer.Members p1) (Int.tmod a0 (((List.length (D.Layer.Members p1)) : Nat) : Int)) fun a2 =>
 (some a2)))))
def r11_Raw_g (fu : Nat) : Sig := mkSig [.st .Config, .st .Layer, nI] [] [nI] [] [] (Int) (fun q => ((q, ()), ())) (fun x y => r11_Raw fu x.1 x.2.1 x.2.2.1)
theorem r11_Raw_ok (fu : Nat) : FnOK Tryz.prog 221 (r11_Raw_g fu) :=
 FnOK.intro (ty := ty) (E := envL [(255, 0, r11_look_g fu)]) (fu := fu) (an := .go) (fun a b => a.1) (fun _ _ => rfl) (envL_ok ⟨r11_look_ok fu, trivial⟩) Tryz.func221 rfl rfl (fun x y => by kernel_rfl)
def r12_Away (fu : Nat) (p0 : D.Schedule) (p1 : Int) (p2 : Int) : Option (Bool) :=
 (iterF (X := (P3 × (D.Schedule × Unit))) (fun L0 ((a1, (a2, (a3, _))), (a4, _)) =>
 (cnd (decide (a3 < (((List.length (D.Schedule.Edits a4)) : Nat) : Int)))
 (join (Y := (P3 × (D.Schedule × Unit))) (fun ((a5, (a6, (a7, _))), (a8, _)) =>
 (L0 ((a5, (a6, ((IntKind.wrap .i64 (a7 + 1)), ()))), (a8, ())))) fun J9 =>
 (atc (D.Schedule.Edits a4) a3 fun a10 =>
 (cnd (decide ((D.Edit.Kind a10) = 0))
 (cnd (decide ((D.Edit.A a10) = a1))
 (cnd (decide ((D.Edit.From a10) ≤ a2))
 (cnd (decide (a2 < (D.Edit.To a10)))
 (some true)
 (J9 ((a1, (a2, (a3, ()))), (a4, ()))))
 (J9 ((a1, (a2, (a3, ()))), (a4, ()))))
 (J9 ((a1, (a2, (a3, ()))), (a4, ()))))
 (J9 ((a1, (a2, (a3, ()))), (a4, ()))))))
 (some false))) fu ((p1, (p2, (0, ()))), (p0, ())))
def r12_Away_g (fu : Nat) : Sig := mkSig [.st .Schedule, nI, nI] [] [.one (.boo)] [] [] (Bool) (fun q => ((q, ()), ())) (fun x y => r12_Away fu x.1 x.2.1 x.2.2.1)
theorem r12_Away_ok (fu : Nat) : FnOK Tryz.prog 222 (r12_Away_g fu) :=
 FnOK.intro (ty := ty) (E := envL []) (fu := fu) (an := .two .go (.two (.two .go (.one (.loop [(1, nI), (2, nI), (3, .one (.ref 1003)), (7, nI)] [(1003, .boxst .Schedule)] (.two .go (.two (.join [(1, nI), (2, nI), (3, .one (.ref 1003)), (7, nI)] [(1003, .boxst .Schedule)] .go) .go))))) .go)) (fun a b => a.1) (fun _ _ => rfl) (envL_ok (l := []) trivial) Tryz.func222 rfl rfl (fun x y => by kernel_rfl)
def r12_Top (fu : Nat) (p0 : D.Config) (p1 : Int) (p2 : Int) : Option (Int × Int) :=
 (atc (D.Config.Schedules p0) p1 fun a0 =>
 (iterF (X := ((Int × (Int × Unit)) × (D.Config × (D.Schedule × Unit)))) (fun L1 ((a2, (a3, _)), (a4, (a5, _))) =>
 (cnd (decide (0 ≤ a3))
 (join (Y := ((Int × (Int × Unit)) × (D.Config × (D.Schedule × Unit)))) (fun ((a6, (a7, _)), (a8, (a9, _))) =>
 (L1 ((a6, ((IntKind.wrap .i64 (a7 - 1)), ())), (a8, (a9, ()))))) fun J10 =>
 (atc (D.Schedule.Layers a5) a3 fun a11 =>
 (optc (r11_Raw fu a4 a11 a2) fun a12 =>
 (cnd (decide (0 ≤ a12))
 (optc (r12_Away fu a5 a12 a2) fun a13 =>
 (cnd a13
 (J10 ((a2, (a3, ())), (a4, (a5, ()))))
 (some (a3, a12))))
 (J10 ((a2, (a3, ())), (a4, (a5, ()))))))))
 (some ((-1), (-1))))) fu ((p2, ((IntKind.wrap .i64 ((((List.length (D.Schedule.Layers a0)) : Nat) : Int) - 1)), ())), (p0, (a0, ())))))
def r12_Top_g (fu : Nat) : Sig := mkSig [.st .Config, nI, nI] [] [nI, nI] [] [] (Int × Int) (fun q => ((q.1, q.2, ()), ())) (fun x y => r12_Top fu x.1 x.2.1 x.2.2.1)
theorem r12_Top_ok (fu : Nat) : FnOK Tryz.prog 178 (r12_Top_g fu) :=
 FnOK.intro (ty := ty) (E := envL [(221, 0, r11_Raw_g fu), (222, 0, r12_Away_g fu)]) (fu := fu) (an := .two .go (.two .go (.two (.two .go (.one (.loop [(2, nI), (3, .one (.ref 1003)), (8, .one (.ref 1008)), (9, nI)] [(1003, .boxst .Config), (1008, .boxst .Schedule)] (.two .go (.two (.join [(2, nI), (3, .one (.ref 1003)), (8, .one (.ref 1008)), (9, nI)] [(1003, .boxst .Config), (1008, .boxst .Schedule)] .go) .go))))) .go))) (fun a b => (a.1, a.2.1)) (fun _ _ => rfl) (envL_ok ⟨r11_Raw_ok fu, r12_Away_ok fu, trivial⟩) Tryz.func178 rfl rfl (fun x y => by kernel_rfl)
def r13_Fold (fu : Nat) (p0 : List D.Edit) (p1 : Int) (p2 : Int) : Option (Int) :=
 (iterF (X := ((List D.Edit × P3) × Unit)) (fun L0 ((a1, (a2, (a3, (a4, _)))), _) =>
 (cnd (decide (a4 < (((List.length a1) : Nat) : Int)))
 (join (Y := ((List D.Edit × P3) × Unit)) (fun ((a5, (a6, (a7, (a8, _)))), _) =>
 (L0 ((a5, (a6, (a7, ((IntKind.wrap .i64 (a8 + 1)), ())))), ()))) fun J9 =>
 (atc a1 a4 fun a10 =>
 (cnd (decide (a3 < (D.Edit.From a10)))
 (J9 ((a1, (a2, (a3, (a4, ())))), ()))
 (cnd (decide ((D.Edit.To a10) ≤ a3))
 (J9 ((a1, (a2, (a3, (a4, ())))), ()))
 (cnd (decide ((D.Edit.Kind a10) = 1))
 (J9 ((a1, ((D.Edit.A a10), (a3, (a4, ())))), ()))
 (cnd (decide ((D.Edit.Kind a10) = 2))
 (cnd (decide (a2 = (D.Edit.A a10)))
 (J9 ((a1, ((D.Edit.B a10), (a3, (a4, ())))), ()))
 (cnd (decide ((D.Edit.Kind a10) = 2))
 (cnd (decide (a2 = (D.Edit.B a10)))
 (J9 ((a1, ((D.Edit.A a10), (a3, (a4, ())))), ()))
 (J9 ((a1, (a2, (a3, (a4, ())))), ())))
 (J9 ((a1, (a2, (a3, (a4, ())))), ()))))
 (cnd (decide ((D.Edit.Kind a10) = 2))
 (cnd (decide (a2 = (D.Edit.B a10)))
 (J9 ((a1, ((D.Edit.A a10), (a3, (a4, ())))), ()))
 (J9 ((a1, (a2, (a3, (a4, ())))), ())))
 (J9 ((a1, (a2, (a3, (a4, ())))), ())))))))))
 (some a2))) fu ((p0, (p1, (p2, (0, ())))), ()))
def r13_Fold_g (fu : Nat) : Sig := mkSig [.one (.lst .Edit), nI, nI] [] [nI] [] [] (Int) (fun q => ((q, ()), ())) (fun x y => r13_Fold fu x.1 x.2.1 x.2.2.1)
theorem r13_Fold_ok (fu : Nat) : FnOK Tryz.prog 179 (r13_Fold_g fu) :=
 FnOK.intro (ty := ty) (E := envL []) (fu := fu) (an := .two .go (.two (.two .go (.one (.loop [(0, .one (.lst .Edit)), (1, nI), (2, nI), (7, nI)] [] (.two .go (.two (.join [(0, .one (.lst .Edit)), (1, nI), (2, nI), (7, nI)] [] .go) .go))))) .go)) (fun a b => a.1) (fun _ _ => rfl) (envL_ok (l := []) trivial) Tryz.func179 rfl rfl (fun x y => by kernel_rfl)
def r13_Raw (fu : Nat) (p0 : D.Config) (p1 : Int) (p2 : Int) : Option (Int) :=
 (optc (r12_Top fu p0 p1 p2) fun (a0, a1) =>
 (atc (D.Config.Schedules p0) p1 fun a2 =>
 (optc (r13_Fold fu (D.Schedule.Edits a2) a1 p2) fun a3 =>
 (some a3))))
def r13_Raw_g (fu : Nat) : Sig := mkSig [.st .Config, nI, nI] [] [nI] [] [] (Int) (fun q => ((q, ()), ())) (fun x y => r13_Raw fu x.1 x.2.1 x.2.2.1)
theorem r13_Raw_ok (fu : Nat) : FnOK Tryz.prog 128 (r13_Raw_g fu) :=
 FnOK.intro (ty := ty) (E := envL [(178, 0, r12_Top_g fu), (179, 0, r13_Fold_g fu)]) (fu := fu) (an := .go) (fun a b => a.1) (fun _ _ => rfl) (envL_ok ⟨r12_Top_ok fu, r13_Fold_ok fu, trivial⟩) Tryz.func128 rfl rfl (fun x y => by kernel_rfl)
def r13_Who (fu : Nat) (p0 : D.Config) (p1 : Int) (p2 : Int) : Option (Int) :=
 (optc (r12_Ok fu p0 p1 p2) fun a0 =>
 (cnd (!a0)
 (some (-1))
 (optc (r13_Raw fu p0 p1 p2) fun a1 =>
 (some a1))))
def r13_Who_g (fu : Nat) : Sig := mkSig [.st .Config, nI, nI] [] [nI] [] [] (Int) (fun q => ((q, ()), ())) (fun x y => r13_Who fu x.1 x.2.1 x.2.2.1)
theorem r13_Who_ok (fu : Nat) : FnOK Tryz.prog 80 (r13_Who_g fu) :=
 FnOK.intro (ty := ty) (E := envL [(127, 0, r12_Ok_g fu), (128, 0, r13_Raw_g fu)]) (fu := fu) (an := .go) (fun a b => a.1) (fun _ _ => rfl) (envL_ok ⟨r12_Ok_ok fu, r13_Raw_ok fu, trivial⟩) Tryz.func80 rfl rfl (fun x y => by kernel_rfl)
def r14_Who (fu : Nat) (p0 : D.Config) (p1 : Int) (p2 : Int) : Option (Int) :=
 (optc (r13_Who fu p0 p1 p2) fun a0 =>
 (some a0))
def r14_Who_g (fu : Nat) : Sig := mkSig [.st .Config, nI, nI] [] [nI] [] [] (Int) (fun q => ((q, ()), ())) (fun x y => r14_Who fu x.1 x.2.1 x.2.2.1)
theorem r14_Who_ok (fu : Nat) : FnOK Tryz.prog 36 (r14_Who_g fu) :=
 FnOK.intro (ty := ty) (E := envL [(80, 0, r13_Who_g fu)]) (fu := fu) (an := .go) (fun a b => a.1) (fun _ _ => rfl) (envL_ok ⟨r13_Who_ok fu, trivial⟩) Tryz.func36 rfl rfl (fun x y => by kernel_rfl)
def r25_People (fu : Nat) (p0 : D.Config) (p1 : D.Book) (p2 : List D.Target) (p3 : Int) : Option (List Int) :=
 (iterF (X := ((List D.Target × (Int × (List Int × (Int × Unit)))) × (D.Config × (D.Book × Unit)))) (fun L0 ((a1, (a2, (a3, (a4, _)))), (a5, (a6, _))) =>
 (cnd (decide (a4 < (((List.length a1) : Nat) : Int)))
 (join (Y := ((List D.Target × (Int × (List Int × (Int × Unit)))) × (D.Config × (D.Book × Unit)))) (fun ((a7, (a8, (a9, (a10, _)))), (a11, (a12, _))) =>
 (L0 ((a7, (a8, (a9, ((IntKind.wrap .i64 (a10 + 1)), ())))), (a11, (a12, ()))))) fun J13 =>
 (atc a1 a4 fun a14 =>
 (cnd (decide ((D.Target.Kind a14) = 0))
 (optc (r25_In fu (D.Target.Index a14) 0 (IntKind.wrap .i64 ((((List.length (D.Config.People a5)) : Nat) : Int) - 1))) fun a15 =>
 (cnd a15
 (optc (r25_With fu a3 (D.Target.Index a14)) fun a16 =>
 (J13 ((a1, (a2, (a16, (a4, ())))), (a5, (a6, ())))))
 (cnd (decide ((D.Target.Kind a14) = 1))
 (optc (r25_In fu (D.Target.Index a14) 0 (IntKind.wrap .i64 ((((List.length (D.Config.Schedules a5)) : Nat) : Int) - 1))) fun a17 =>
 (cnd a17
 (optc (r14_Who fu a5 (D.Target.Index a14) a2) fun a18 =>
 (cnd (decide (0 ≤ a18))
 (optc (r25_With fu a3 a18) fun a19 =>
 (J13 ((a1, (a2, (a19, (a4, ())))), (a5, (a6, ())))))
 (J13 ((a1, (a2, (a3, (a4, ())))), (a5, (a6, ()))))))
 (cnd (decide ((D.Target.Kind a14) = 2))
 (optc (r25_In fu (D.Target.Index a14) 0 (IntKind.wrap .i64 ((((List.length (D.Book.Teams a6)) : Nat) : Int) - 1))) fun a20 =>
 (cnd a20
 (iterF (X := ((List D.Target × (Int × (List Int × (Int × (Int × Unit))))) × (D.Config × (D.Book × (D.Target × Unit))))) (fun L21 ((a22, (a23, (a24, (a25, (a26, _))))), (a27, (a28, (a29, _)))) =>
 (atc (D.Book.Teams a28) (D.Target.Index a29) fun a30 =>
 (cnd (decide (a26 < (((List.length (D.Team.Members a30)) : Nat) : Int)))
 (join (Y := ((List D.Target × (Int × (List Int × (Int × (Int × Unit))))) × (D.Config × (D.Book × (D.Target × Unit))))) (fun ((a31, (a32, (a33, (a34, (a35, _))))), (a36, (a37, (a38, _)))) =>
 (L21 ((a31, (a32, (a33, (a34, ((IntKind.wrap .i64 (a35 + 1)), ()))))), (a36, (a37, (a38, ())))))) fun J39 =>
 (atc (D.Book.Teams a28) (D.Target.Index a29) fun a40 =>
 (atc (D.Team.Members a40) a26 fun a41 =>
 (optc (r25_In fu a41 0 (IntKind.wrap .i64 ((((List.length (D.Config.People a27)) : Nat) : Int) - 1))) fun a42 =>
 (cnd a42
 (atc (D.Book.Teams a28) (D.Target.Index a29) fun a43 =>
 (atc (D.Team.Members a43) a26 fun a44 =>
 (optc (r25_With fu a24 a44) fun a45 =>
 (J39 ((a22, (a23, (a45, (a25, (a26, ()))))), (a27, (a28, (a29, ()))))))))
 (J39 ((a22, (a23, (a24, (a25, (a26, ()))))), (a27, (a28, (a29, ()))))))))))
 (J13 ((a22, (a23, (a24, (a25, ())))), (a27, (a28, ()))))))) fu ((a1, (a2, (a3, (a4, (0, ()))))), (a5, (a6, (a14, ())))))
 (J13 ((a1, (a2, (a3, (a4, ())))), (a5, (a6, ()))))))
 (J13 ((a1, (a2, (a3, (a4, ())))), (a5, (a6, ())))))))
 (cnd (decide ((D.Target.Kind a14) = 2))
 (optc (r25_In fu (D.Target.Index a14) 0 (IntKind.wrap .i64 ((((List.length (D.Book.Teams a6)) : Nat) : Int) - 1))) fun a46 =>
 (cnd a46
 (iterF (X := ((List D.Target × (Int × (List Int × (Int × (Int × Unit))))) × (D.Config × (D.Book × (D.Target × Unit))))) (fun L47 ((a48, (a49, (a50, (a51, (a52, _))))), (a53, (a54, (a55, _)))) =>
 (atc (D.Book.Teams a54) (D.Target.Index a55) fun a56 =>
 (cnd (decide (a52 < (((List.length (D.Team.Members a56)) : Nat) : Int)))
 (join (Y := ((List D.Target × (Int × (List Int × (Int × (Int × Unit))))) × (D.Config × (D.Book × (D.Target × Unit))))) (fun ((a57, (a58, (a59, (a60, (a61, _))))), (a62, (a63, (a64, _)))) =>
 (L47 ((a57, (a58, (a59, (a60, ((IntKind.wrap .i64 (a61 + 1)), ()))))), (a62, (a63, (a64, ())))))) fun J65 =>
 (atc (D.Book.Teams a54) (D.Target.Index a55) fun a66 =>
 (atc (D.Team.Members a66) a52 fun a67 =>
 (optc (r25_In fu a67 0 (IntKind.wrap .i64 ((((List.length (D.Config.People a53)) : Nat) : Int) - 1))) fun a68 =>
 (cnd a68
 (atc (D.Book.Teams a54) (D.Target.Index a55) fun a69 =>
 (atc (D.Team.Members a69) a52 fun a70 =>
 (optc (r25_With fu a50 a70) fun a71 =>
 (J65 ((a48, (a49, (a71, (a51, (a52, ()))))), (a53, (a54, (a55, ()))))))))
 (J65 ((a48, (a49, (a50, (a51, (a52, ()))))), (a53, (a54, (a55, ()))))))))))
 (J13 ((a48, (a49, (a50, (a51, ())))), (a53, (a54, ()))))))) fu ((a1, (a2, (a3, (a4, (0, ()))))), (a5, (a6, (a14, ())))))
 (J13 ((a1, (a2, (a3, (a4, ())))), (a5, (a6, ()))))))
 (J13 ((a1, (a2, (a3, (a4, ())))), (a5, (a6, ()))))))))
 (cnd (decide ((D.Target.Kind a14) = 1))
 (optc (r25_In fu (D.Target.Index a14) 0 (IntKind.wrap .i64 ((((List.length (D.Config.Schedules a5)) : Nat) : Int) - 1))) fun a72 =>
 (cnd a72
 (optc (r14_Who fu a5 (D.Target.Index a14) a2) fun a73 =>
 (cnd (decide (0 ≤ a73))
 (optc (r25_With fu a3 a73) fun a74 =>
 (J13 ((a1, (a2, (a74, (a4, ())))), (a5, (a6, ())))))
 (J13 ((a1, (a2, (a3, (a4, ())))), (a5, (a6, ()))))))
 (cnd (decide ((D.Target.Kind a14) = 2))
 (optc (r25_In fu (D.Target.Index a14) 0 (IntKind.wrap .i64 ((((List.length (D.Book.Teams a6)) : Nat) : Int) - 1))) fun a75 =>
 (cnd a75
 (iterF (X := ((List D.Target × (Int × (List Int × (Int × (Int × Unit))))) × (D.Config × (D.Book × (D.Target × Unit))))) (fun L76 ((a77, (a78, (a79, (a80, (a81, _))))), (a82, (a83, (a84, _)))) =>
 (atc (D.Book.Teams a83) (D.Target.Index a84) fun a85 =>
 (cnd (decide (a81 < (((List.length (D.Team.Members a85)) : Nat) : Int)))
 (join (Y := ((List D.Target × (Int × (List Int × (Int × (Int × Unit))))) × (D.Config × (D.Book × (D.Target × Unit))))) (fun ((a86, (a87, (a88, (a89, (a90, _))))), (a91, (a92, (a93, _)))) =>
 (L76 ((a86, (a87, (a88, (a89, ((IntKind.wrap .i64 (a90 + 1)), ()))))), (a91, (a92, (a93, ())))))) fun J94 =>
 (atc (D.Book.Teams a83) (D.Target.Index a84) fun a95 =>
 (atc (D.Team.Members a95) a81 fun a96 =>
 (optc (r25_In fu a96 0 (IntKind.wrap .i64 ((((List.length (D.Config.People a82)) : Nat) : Int) - 1))) fun a97 =>
 (cnd a97
 (atc (D.Book.Teams a83) (D.Target.Index a84) fun a98 =>
 (atc (D.Team.Members a98) a81 fun a99 =>
 (optc (r25_With fu a79 a99) fun a100 =>
 (J94 ((a77, (a78, (a100, (a80, (a81, ()))))), (a82, (a83, (a84, ()))))))))
 (J94 ((a77, (a78, (a79, (a80, (a81, ()))))), (a82, (a83, (a84, ()))))))))))
 (J13 ((a77, (a78, (a79, (a80, ())))), (a82, (a83, ()))))))) fu ((a1, (a2, (a3, (a4, (0, ()))))), (a5, (a6, (a14, ())))))
 (J13 ((a1, (a2, (a3, (a4, ())))), (a5, (a6, ()))))))
 (J13 ((a1, (a2, (a3, (a4, ())))), (a5, (a6, ())))))))
 (cnd (decide ((D.Target.Kind a14) = 2))
 (optc (r25_In fu (D.Target.Index a14) 0 (IntKind.wrap .i64 ((((List.length (D.Book.Teams a6)) : Nat) : Int) - 1))) fun a101 =>
 (cnd a101
 (iterF (X := ((List D.Target × (Int × (List Int × (Int × (Int × Unit))))) × (D.Config × (D.Book × (D.Target × Unit))))) (fun L102 ((a103, (a104, (a105, (a106, (a107, _))))), (a108, (a109, (a110, _)))) =>
 (atc (D.Book.Teams a109) (D.Target.Index a110) fun a111 =>
 (cnd (decide (a107 < (((List.length (D.Team.Members a111)) : Nat) : Int)))
 (join (Y := ((List D.Target × (Int × (List Int × (Int × (Int × Unit))))) × (D.Config × (D.Book × (D.Target × Unit))))) (fun ((a112, (a113, (a114, (a115, (a116, _))))), (a117, (a118, (a119, _)))) =>
 (L102 ((a112, (a113, (a114, (a115, ((IntKind.wrap .i64 (a116 + 1)), ()))))), (a117, (a118, (a119, ())))))) fun J120 =>
 (atc (D.Book.Teams a109) (D.Target.Index a110) fun a121 =>
 (atc (D.Team.Members a121) a107 fun a122 =>
 (optc (r25_In fu a122 0 (IntKind.wrap .i64 ((((List.length (D.Config.People a108)) : Nat) : Int) - 1))) fun a123 =>
 (cnd a123
 (atc (D.Book.Teams a109) (D.Target.Index a110) fun a124 =>
 (atc (D.Team.Members a124) a107 fun a125 =>
 (optc (r25_With fu a105 a125) fun a126 =>
 (J120 ((a103, (a104, (a126, (a106, (a107, ()))))), (a108, (a109, (a110, ()))))))))
 (J120 ((a103, (a104, (a105, (a106, (a107, ()))))), (a108, (a109, (a110, ()))))))))))
 (J13 ((a103, (a104, (a105, (a106, ())))), (a108, (a109, ()))))))) fu ((a1, (a2, (a3, (a4, (0, ()))))), (a5, (a6, (a14, ())))))
 (J13 ((a1, (a2, (a3, (a4, ())))), (a5, (a6, ()))))))
 (J13 ((a1, (a2, (a3, (a4, ())))), (a5, (a6, ())))))))))
 (some a3))) fu ((p2, (p3, ([], (0, ())))), (p0, (p1, ()))))
def r25_People_g (fu : Nat) : Sig := mkSig [.st .Config, .st .Book, .one (.lst .Target), nI] [] [.one (.lst .int)] [] [] (List Int) (fun q => ((q, ()), ())) (fun x y => r25_People fu x.1 x.2.1 x.2.2.1 x.2.2.2.1)
theorem r25_People_ok (fu : Nat) : FnOK Tryz.prog 53 (r25_People_g fu) :=
 FnOK.intro (ty := ty) (E := envL [(35, 0, r25_With_g fu), (36, 0, r14_Who_g fu), (67, 0, r25_In_g fu)]) (fu := fu) (an := .two .go (.two .go (.two (.two .go (.one (.loop [(2, .one (.lst .Target)), (3, nI), (4, .one (.ref 1004)), (5, .one (.ref 1005)), (9, .one (.lst .int)), (10, nI)] [(1004, .boxst .Config), (1005, .boxst .Book)] (.two .go (.two (.join [(2, .one (.lst .Target)), (3, nI), (4, .one (.ref 1004)), (5, .one (.ref 1005)), (9, .one (.lst .int)), (10, nI)] [(1004, .boxst .Config), (1005, .boxst .Book)] (.one (.two .go (.one (.two .go (.two .go (.two .go (.two .go (.two .go (.two (.two .go (.one (.loop [(2, .one (.lst .Target)), (3, nI), (4, .one (.ref 1004)), (5, .one (.ref 1005)), (9, .one (.lst .int)), (10, nI), (11, .one (.ref 1011)), (13, nI)] [(1004, .boxst .Config), (1005, .boxst .Book), (1011, .boxst .Target)] (.two .go (.two (.join [(2, .one (.lst .Target)), (3, nI), (4, .one (.ref 1004)), (5, .one (.ref 1005)), (9, .one (.lst .int)), (10, nI), (11, .one (.ref 1011)), (13, nI)] [(1004, .boxst .Config), (1005, .boxst .Book), (1011, .boxst .Target)] .go) .go))))) .go)))))))))) .go))))) .go))) (fun a b => a.1) (fun _ _ => rfl) (envL_ok ⟨r25_With_ok fu, r14_Who_ok fu, r25_In_ok fu, trivial⟩) Tryz.func53 rfl rfl (fun x y => by kernel_rfl)
def r05_Range (fu : Nat) (p0 : Int) (p1 : Int) : Option (Bool) :=
 (cnd (decide (0 ≤ p0))
 (cnd (decide (p0 ≤ 8589934592))
 (cnd (decide (p0 ≤ p1))
 (cnd (decide (p1 ≤ 8589934592))
 (cnd (decide ((IntKind.wrap .i64 (p1 - p0)) ≤ 34560000))
 (some true)
 (some false))
 (some false))
 (some false))
 (some false))
 (some false))
def r05_Range_g (fu : Nat) : Sig := mkSig [nI, nI] [] [.one (.boo)] [] [] (Bool) (fun q => ((q, ()), ())) (fun x y => r05_Range fu x.1 x.2.1)
theorem r05_Range_ok (fu : Nat) : FnOK Tryz.prog 142 (r05_Range_g fu) :=
 FnOK.intro (ty := ty) (E := envL []) (fu := fu) (an := .go) (fun a b => a.1) (fun _ _ => rfl) (envL_ok (l := []) trivial) Tryz.func142 rfl rfl (fun x y => by kernel_rfl)
def r18_Wrong (fu : Nat) (p0 : D.Config) (p1 : Int) (p2 : Int) (p3 : Int) : Option (Int) :=
 (join (Y := (Unit × Unit)) (fun (_, _) =>
 (some 0)) fun J0 =>
 (optc (r08_Check fu p0) fun a1 =>
 (cnd (decide (a1 ≠ 0))
 (some 8)
 (cnd (decide (p1 < 0))
 (some 3)
 (cnd (decide ((((List.length (D.Config.People p0)) : Nat) : Int) ≤ p1))
 (some 3)
 (optc (r05_Range fu p2 p3) fun a2 =>
 (cnd (!a2)
 (some 1)
 (J0 ((), ())))))))))
def r18_Wrong_g (fu : Nat) : Sig := mkSig [.st .Config, nI, nI, nI] [] [nI] [] [] (Int) (fun q => ((q, ()), ())) (fun x y => r18_Wrong fu x.1 x.2.1 x.2.2.1 x.2.2.2.1)
theorem r18_Wrong_ok (fu : Nat) : FnOK Tryz.prog 99 (r18_Wrong_g fu) :=
 FnOK.intro (ty := ty) (E := envL [(141, 0, r08_Check_g fu), (142, 0, r05_Range_g fu)]) (fu := fu) (an := .two .go (.two (.join [] [] .go) .go)) (fun a b => a.1) (fun _ _ => rfl) (envL_ok ⟨r08_Check_ok fu, r05_Range_ok fu, trivial⟩) Tryz.func99 rfl rfl (fun x y => by kernel_rfl)
def r18_Reachable (fu : Nat) (p0 : D.Config) (p1 : Int) (p2 : Int) (p3 : Bool) : Option (Bool) :=
 (optc (r18_Wrong fu p0 p1 p2 p2) fun a0 =>
 (cnd (decide (a0 ≠ 0))
 (some false)
 (atc (D.Config.People p0) p1 fun a1 =>
 (atc (D.Config.Zones p0) (D.Person.Zone a1) fun a2 =>
 (optc (r05_In fu a2 (D.Person.Quiet a1) p2) fun a3 =>
 (cnd a3
 (cnd p3
 (cnd (D.Person.Consent a1)
 (some true)
 (some false))
 (some false))
 (some true)))))))
def r18_Reachable_g (fu : Nat) : Sig := mkSig [.st .Config, nI, nI, .one (.boo)] [] [.one (.boo)] [] [] (Bool) (fun q => ((q, ()), ())) (fun x y => r18_Reachable fu x.1 x.2.1 x.2.2.1 x.2.2.2.1)
theorem r18_Reachable_ok (fu : Nat) : FnOK Tryz.prog 54 (r18_Reachable_g fu) :=
 FnOK.intro (ty := ty) (E := envL [(99, 0, r18_Wrong_g fu), (100, 0, r05_In_g fu)]) (fu := fu) (an := .go) (fun a b => a.1) (fun _ _ => rfl) (envL_ok ⟨r18_Wrong_ok fu, r05_In_ok fu, trivial⟩) Tryz.func54 rfl rfl (fun x y => by kernel_rfl)
end
end Go.Proofs.YtfhcigjkfelnfaaGreat
