/-
  What functions do, reckoned from their code, and their contracts. Printed by wip/gen/brun.py.
-/
import Derived.Test.YtfhcigjkfelnfaaGreatQRowAuditDoublesI
set_option maxRecDepth 100000
set_option linter.unusedVariables false
namespace Go.Proofs.YtfhcigjkfelnfaaGreat
open Go AM
noncomputable section
def r29_Step (fu : Nat) (p0 : D.Config) (p1 : D.Book) (p2 : D.Page) : Option (D.Page × Int) :=
 (optc (r29_Check fu p1 p2) fun a0 =>
 (cnd (!a0)
 (some ((D.Page.mk 0 0 0 0 0 0 0 0 0 0 0 [] [] []), 8))
 (optc (r29_Due fu p2) fun (a1, a2) =>
 (cnd (!a2)
 (some ((D.Page.mk 0 0 0 0 0 0 0 0 0 0 0 [] [] []), 9))
 (cnd (decide (200 ≤ (((List.length (D.Page.Starts p2)) : Nat) : Int)))
 (some ((D.Page.mk 0 0 0 0 0 0 0 0 0 0 0 [] [] []), 5))
 (optc (r29_Copy fu p2) fun a3 =>
 (cnd (decide ((D.Page.State p2) = 2))
 (some ((D.Page.mk (D.Page.ID a3) (D.Page.Policy a3) (D.Page.Start a3) (D.Page.Next a3) a1 0 (D.Page.By a3) (D.Page.Until a3) (max a1 (D.Page.Last p2)) (D.Page.Snoozes a3) (D.Page.Hands a3) (D.Page.Starts a3) (D.Page.Declined a3) (D.Page.Seen a3)), 0))
 (atc (D.Book.Policies p1) (D.Page.Policy p2) fun a4 =>
 (optc (r25_Part fu a4 (D.Page.Next p2)) fun (a5, (a6, a7)) =>
 (cnd (!a7)
 (some ((D.Page.mk (D.Page.ID a3) (D.Page.Policy a3) (D.Page.Start a3) (D.Page.Next a3) (D.Page.Due a3) 3 (D.Page.By a3) (D.Page.Until a3) (max a1 (D.Page.Last p2)) (D.Page.Snoozes a3) (D.Page.Hands a3) (D.Page.Starts a3) (D.Page.Declined a3) (D.Page.Seen a3)), 0))
 (atc (D.Policy.Steps a4) a5 fun a8 =>
 (optc (r25_People fu p0 p1 (D.PolicyStep.Targets a8) a1) fun a9 =>
 (iterF (X := ((Int × (Int × (List Int × (Int × Unit)))) × (D.Config × (D.Page × (D.Page × (P11 × (D.Policy × ((Int × (Int × Unit)) × (List D.Start × (List Int × (List Int × (List Int × Unit)))))))))))) (fun L10 ((a11, (a12, (a13, (a14, _)))), (a15, (a16, (a17, ((a18, (a19, (a20, (a21, (a22, (a23, (a24, (a25, (a26, (a27, (a28, _))))))))))), (a29, ((a30, (a31, _)), (a32, (a33, (a34, (a35, _))))))))))) =>
 (cnd (decide (a14 < (((List.length a13) : Nat) : Int)))
 (join (Y := ((Int × (Int × (List Int × (Int × Unit)))) × (D.Config × (D.Page × (D.Page × (P11 × (D.Policy × ((Int × (Int × Unit)) × (List D.Start × (List Int × (List Int × (List Int × Unit)))))))))))) (fun ((a36, (a37, (a38, (a39, _)))), (a40, (a41, (a42, ((a43, (a44, (a45, (a46, (a47, (a48, (a49, (a50, (a51, (a52, (a53, _))))))))))), (a54, ((a55, (a56, _)), (a57, (a58, (a59, (a60, _))))))))))) =>
 (L10 ((a36, (a37, (a38, ((IntKind.wrap .i64 (a39 + 1)), ())))), (a40, (a41, (a42, ((a43, (a44, (a45, (a46, (a47, (a48, (a49, (a50, (a51, (a52, (a53, ()))))))))))), (a54, ((a55, (a56, ())), (a57, (a58, (a59, (a60, ()))))))))))))) fun J61 =>
 (atc a13 a14 fun a62 =>
 (atc (D.Policy.Steps a29) a12 fun a63 =>
 (optc (r18_Reachable fu a15 a62 a11 (D.PolicyStep.Urgent a63)) fun a64 =>
 (cnd a64
 (atc a13 a14 fun a65 =>
 (lec ((List.length a35) + (List.length (a65 :: []))) 34359738368 (J61 ((a11, (a12, (a13, (a14, ())))), (a15, (a16, (a17, ((a18, (a19, (a20, (a21, (a22, (a23, (a24, (a25, (a26, (a27, (a28, ()))))))))))), (a29, ((a30, (a31, ())), (a32, (a33, (a34, ((a35 ++ (a65 :: [])), ()))))))))))))))
 (J61 ((a11, (a12, (a13, (a14, ())))), (a15, (a16, (a17, ((a18, (a19, (a20, (a21, (a22, (a23, (a24, (a25, (a26, (a27, (a28, ()))))))))))), (a29, ((a30, (a31, ())), (a32, (a33, (a34, (a35, ())))))))))))))))))
 (lec ((List.length a32) + (List.length ((D.Start.mk a30 a31 a35) :: []))) 34359738368 (join (Y := (Unit × (D.Page × ((Int × (Int × (Int × (Int × (Int × (Int × (Int × (Int × (Int × (Int × (Int × (List Int × Unit)))))))))))) × (List D.Start × (List Int × Unit)))))) (fun (_, (a66, ((a67, (a68, (a69, (a70, (a71, (a72, (a73, (a74, (a75, (a76, (a77, (a78, _)))))))))))), (a79, (a80, _))))) =>
 (some ((D.Page.mk a67 a68 a69 a70 a71 a72 a73 a74 a75 a76 a77 a79 a78 a80), 0))) fun J81 =>
 (cnd (decide (0 < (((List.length a35) : Nat) : Int)))
 (atc (D.Policy.Steps a29) a12 fun a82 =>
 (J81 ((), (a17, ((a18, (a19, (a20, ((IntKind.wrap .i64 ((D.Page.Next a16) + 1)), ((IntKind.wrap .i64 (a22 + (D.PolicyStep.Wait a82))), (a23, (a24, (a25, (a26, (a27, (a28, ([], ())))))))))))), ((a32 ++ ((D.Start.mk a30 a31 a35) :: [])), (a34, ())))))))
 (J81 ((), (a17, ((a18, (a19, (a20, ((IntKind.wrap .i64 ((D.Page.Next a16) + 1)), (a22, (a23, (a24, (a25, (a26, (a27, (a28, ([], ())))))))))))), ((a32 ++ ((D.Start.mk a30 a31 a35) :: [])), (a34, ()))))))))))) fu ((a1, (a5, (a9, (0, ())))), (p0, (p2, ((D.Page.mk 0 0 0 0 0 0 0 0 0 0 0 [] [] []), (((D.Page.ID a3), ((D.Page.Policy a3), ((D.Page.Start a3), ((D.Page.Next a3), ((D.Page.Due a3), ((D.Page.State a3), ((D.Page.By a3), ((D.Page.Until a3), ((max a1 (D.Page.Last p2)), ((D.Page.Snoozes a3), ((D.Page.Hands a3), ()))))))))))), (a4, (((D.Page.Next p2), (a1, ())), ((D.Page.Starts a3), ((D.Page.Declined a3), ((D.Page.Seen a3), ([], ()))))))))))))))))))))))))
def r29_Step_g (fu : Nat) : Sig := mkSig [.st .Config, .st .Book, .st .Page] [] [.st .Page, nI] [] [] (D.Page × Int) (fun q => ((q.1, q.2, ()), ())) (fun x y => r29_Step fu x.1 x.2.1 x.2.2.1)
theorem r29_Step_ok (fu : Nat) : FnOK Tryz.prog 59 (r29_Step_g fu) :=
 FnOK.intro (ty := ty) (E := envL [(23, 0, r29_Due_g fu), (45, 0, r29_Check_g fu), (52, 0, r25_Part_g fu), (53, 0, r25_People_g fu), (54, 0, r18_Reachable_g fu), (66, 0, r29_Copy_g fu)]) (fu := fu) (an := .two .go (.two .go (.two .go (.two .go (.two .go (.two .go (.two .go (.two .go (.two .go (.two .go (.two .go (.two .go (.two .go (.two (.two .go (.one (.loop [(3, .one (.ref 1003)), (5, .one (.ref 1005)), (6, .one (.ref 1006)), (8, nI), (10, .one (.ref 1010)), (11, .one (.ref 1011)), (12, nI), (15, .one (.ref 1015)), (16, .one (.lst .int)), (17, nI)] [(1003, .boxst .Config), (1005, .boxst .Page), (1006, .boxst .Page), (1010, .box [.num .i64, .num .i64, .num .i64, .num .i64, .num .i64, .num .i64, .num .i64, .num .i64, .num .i64, .num .i64, .num .i64, .own 1038025, .own 1038030, .own 1038033]), (1011, .boxst .Policy), (1015, .box [.num .i64, .num .i64, .own 1108]), (1038025, .arr .Start), (1038030, .arr .int), (1038033, .arr .int), (1108, .arr .int)] (.two .go (.two (.join [(3, .one (.ref 1003)), (5, .one (.ref 1005)), (6, .one (.ref 1006)), (8, nI), (10, .one (.ref 1010)), (11, .one (.ref 1011)), (12, nI), (15, .one (.ref 1015)), (16, .one (.lst .int)), (17, nI)] [(1003, .boxst .Config), (1005, .boxst .Page), (1006, .boxst .Page), (1010, .box [.num .i64, .num .i64, .num .i64, .num .i64, .num .i64, .num .i64, .num .i64, .num .i64, .num .i64, .num .i64, .num .i64, .own 1038025, .own 1038030, .own 1038033]), (1011, .boxst .Policy), (1015, .box [.num .i64, .num .i64, .own 1108]), (1038025, .arr .Start), (1038030, .arr .int), (1038033, .arr .int), (1108, .arr .int)] .go) .go))))) (.two (.frz [1108] .go) (.two (.join [(6, .one (.ref 1006)), (10, .one (.ref 1010))] [(1006, .boxst .Page), (1010, .box [.num .i64, .num .i64, .num .i64, .num .i64, .num .i64, .num .i64, .num .i64, .num .i64, .num .i64, .num .i64, .num .i64, .own 1038025, .lst .int, .own 1038033]), (1038025, .arr .Start), (1038033, .arr .int)] .go) .go)))))))))))))))) (fun a b => (a.1, a.2.1)) (fun _ _ => rfl) (envL_ok ⟨r29_Due_ok fu, r29_Check_ok fu, r25_Part_ok fu, r25_People_ok fu, r18_Reachable_ok fu, r29_Copy_ok fu, trivial⟩) Tryz.func59 rfl rfl (fun x y => by kernel_rfl)
def r29_Run (fu : Nat) (p0 : D.Config) (p1 : D.Book) (p2 : D.Page) (p3 : Int) : Option (D.Page × Int) :=
 (optc (r29_Check fu p1 p2) fun a0 =>
 (cnd (!a0)
 (some ((D.Page.mk 0 0 0 0 0 0 0 0 0 0 0 [] [] []), 8))
 (optc (r29_Copy fu p2) fun a1 =>
 (iterF (X := ((Int × Unit) × (D.Config × (D.Book × (D.Page × (D.Page × Unit)))))) (fun L2 ((a3, _), (a4, (a5, (a6, (a7, _))))) =>
 (optc (r29_Due fu a6) fun (a8, a9) =>
 (join (Y := ((Int × Unit) × (D.Config × (D.Book × (D.Page × (D.Page × Unit)))))) (fun ((a10, _), (a11, (a12, (a13, (a14, _))))) =>
 (optc (r29_Step fu a11 a12 a13) fun (a15, a16) =>
 (cnd (decide (a16 ≠ 0))
 (some ((D.Page.mk 0 0 0 0 0 0 0 0 0 0 0 [] [] []), a16))
 (L2 ((a10, ()), (a11, (a12, (a15, (a14, ()))))))))) fun J17 =>
 (cnd a9
 (cnd (decide (a3 < a8))
 (some (a6, 0))
 (J17 ((a3, ()), (a4, (a5, (a6, (a7, ())))))))
 (some (a6, 0)))))) fu ((p3, ()), (p0, (p1, (a1, ((D.Page.mk 0 0 0 0 0 0 0 0 0 0 0 [] [] []), ())))))))))
def r29_Run_g (fu : Nat) : Sig := mkSig [.st .Config, .st .Book, .st .Page, nI] [] [.st .Page, nI] [] [] (D.Page × Int) (fun q => ((q.1, q.2, ()), ())) (fun x y => r29_Run fu x.1 x.2.1 x.2.2.1 x.2.2.2.1)
theorem r29_Run_ok (fu : Nat) : FnOK Tryz.prog 27 (r29_Run_g fu) :=
 FnOK.intro (ty := ty) (E := envL [(23, 0, r29_Due_g fu), (45, 0, r29_Check_g fu), (59, 0, r29_Step_g fu), (66, 0, r29_Copy_g fu)]) (fu := fu) (an := .two .go (.two .go (.two .go (.one (.loop [(3, nI), (4, .one (.ref 1004)), (5, .one (.ref 1005)), (6, .one (.ref 1006)), (8, .one (.ref 1008))] [(1004, .boxst .Config), (1005, .boxst .Book), (1006, .boxst .Page), (1008, .boxst .Page)] (.one (.two .go (.two (.join [(3, nI), (4, .one (.ref 1004)), (5, .one (.ref 1005)), (6, .one (.ref 1006)), (8, .one (.ref 1008))] [(1004, .boxst .Config), (1005, .boxst .Book), (1006, .boxst .Page), (1008, .boxst .Page)] .go) .go)))))))) (fun a b => (a.1, a.2.1)) (fun _ _ => rfl) (envL_ok ⟨r29_Due_ok fu, r29_Check_ok fu, r29_Step_ok fu, r29_Copy_ok fu, trivial⟩) Tryz.func27 rfl rfl (fun x y => by kernel_rfl)
def r29_Called (fu : Nat) (p0 : D.Page) : Option (List Int) :=
 (cnd (decide ((((List.length (D.Page.Starts p0)) : Nat) : Int) = 0))
 (some [])
 (atc (D.Page.Starts p0) (IntKind.wrap .i64 ((((List.length (D.Page.Starts p0)) : Nat) : Int) - 1)) fun a0 =>
 (lec (List.length (D.Start.People a0)) 34359738368 (some (D.Start.People a0)))))
def r29_Called_g (fu : Nat) : Sig := mkSig [.st .Page] [] [.one (.lst .int)] [] [] (List Int) (fun q => ((q, ()), ())) (fun x y => r29_Called fu x.1)
theorem r29_Called_ok (fu : Nat) : FnOK Tryz.prog 58 (r29_Called_g fu) :=
 FnOK.intro (ty := ty) (E := envL []) (fu := fu) (an := .go) (fun a b => a.1) (fun _ _ => rfl) (envL_ok (l := []) trivial) Tryz.func58 rfl rfl (fun x y => by kernel_rfl)
def r29_refused (fu : Nat) (p0 : D.Page) (p1 : D.Answer) : Option (Int) :=
 (optc (r29_Due fu p0) fun (a0, a1) =>
 (join (Y := (Unit × Unit)) (fun (_, _) =>
 (some 0)) fun J2 =>
 (cnd (decide ((D.Answer.At p1) < (D.Page.Last p0)))
 (some 6)
 (cnd a1
 (cnd (decide (a0 ≤ (D.Answer.At p1)))
 (some 6)
 (join (Y := ((Bool × Unit) × (D.Page × (D.Answer × Unit)))) (fun ((a3, _), (a4, (a5, _))) =>
 (cnd a3
 (some 9)
 (join (Y := ((Bool × Unit) × Unit)) (fun ((a6, _), _) =>
 (cnd a6
 (some 5)
 (J2 ((), ())))) fun J7 =>
 (cnd (decide (64 ≤ (((List.length (D.Page.Seen a4)) : Nat) : Int)))
 (J7 (((decide (64 ≤ (((List.length (D.Page.Seen a4)) : Nat) : Int))), ()), ()))
 (cnd (decide ((D.Answer.Kind a5) = 3))
 (cnd (decide (4 ≤ (D.Page.Snoozes a4)))
 (J7 ((true, ()), ()))
 (cnd (decide ((D.Answer.Kind a5) = 4))
 (cnd (decide (4 ≤ (D.Page.Hands a4)))
 (J7 ((true, ()), ()))
 (cnd (decide (200 ≤ (((List.length (D.Page.Starts a4)) : Nat) : Int)))
 (J7 ((true, ()), ()))
 (J7 ((false, ()), ()))))
 (J7 ((false, ()), ()))))
 (cnd (decide ((D.Answer.Kind a5) = 4))
 (cnd (decide (4 ≤ (D.Page.Hands a4)))
 (J7 ((true, ()), ()))
 (cnd (decide (200 ≤ (((List.length (D.Page.Starts a4)) : Nat) : Int)))
 (J7 ((true, ()), ()))
 (J7 ((false, ()), ()))))
 (J7 ((false, ()), ())))))))) fun J8 =>
 (cnd (decide ((D.Page.State p0) = 4))
 (J8 (((decide ((D.Page.State p0) = 4)), ()), (p0, (p1, ()))))
 (cnd (decide ((D.Page.State p0) = 3))
 (cnd (decide ((D.Answer.Kind p1) ≠ 5))
 (J8 ((true, ()), (p0, (p1, ()))))
 (cnd (decide ((D.Page.State p0) = 1))
 (cnd (decide ((D.Answer.Kind p1) = 2))
 (J8 ((true, ()), (p0, (p1, ()))))
 (J8 ((false, ()), (p0, (p1, ())))))
 (J8 ((false, ()), (p0, (p1, ()))))))
 (cnd (decide ((D.Page.State p0) = 1))
 (cnd (decide ((D.Answer.Kind p1) = 2))
 (J8 ((true, ()), (p0, (p1, ()))))
 (J8 ((false, ()), (p0, (p1, ())))))
 (J8 ((false, ()), (p0, (p1, ())))))))))
 (join (Y := ((Bool × Unit) × (D.Page × (D.Answer × Unit)))) (fun ((a9, _), (a10, (a11, _))) =>
 (cnd a9
 (some 9)
 (join (Y := ((Bool × Unit) × Unit)) (fun ((a12, _), _) =>
 (cnd a12
 (some 5)
 (J2 ((), ())))) fun J13 =>
 (cnd (decide (64 ≤ (((List.length (D.Page.Seen a10)) : Nat) : Int)))
 (J13 (((decide (64 ≤ (((List.length (D.Page.Seen a10)) : Nat) : Int))), ()), ()))
 (cnd (decide ((D.Answer.Kind a11) = 3))
 (cnd (decide (4 ≤ (D.Page.Snoozes a10)))
 (J13 ((true, ()), ()))
 (cnd (decide ((D.Answer.Kind a11) = 4))
 (cnd (decide (4 ≤ (D.Page.Hands a10)))
 (J13 ((true, ()), ()))
 (cnd (decide (200 ≤ (((List.length (D.Page.Starts a10)) : Nat) : Int)))
 (J13 ((true, ()), ()))
 (J13 ((false, ()), ()))))
 (J13 ((false, ()), ()))))
 (cnd (decide ((D.Answer.Kind a11) = 4))
 (cnd (decide (4 ≤ (D.Page.Hands a10)))
 (J13 ((true, ()), ()))
 (cnd (decide (200 ≤ (((List.length (D.Page.Starts a10)) : Nat) : Int)))
 (J13 ((true, ()), ()))
 (J13 ((false, ()), ()))))
 (J13 ((false, ()), ())))))))) fun J14 =>
 (cnd (decide ((D.Page.State p0) = 4))
 (J14 (((decide ((D.Page.State p0) = 4)), ()), (p0, (p1, ()))))
 (cnd (decide ((D.Page.State p0) = 3))
 (cnd (decide ((D.Answer.Kind p1) ≠ 5))
 (J14 ((true, ()), (p0, (p1, ()))))
 (cnd (decide ((D.Page.State p0) = 1))
 (cnd (decide ((D.Answer.Kind p1) = 2))
 (J14 ((true, ()), (p0, (p1, ()))))
 (J14 ((false, ()), (p0, (p1, ())))))
 (J14 ((false, ()), (p0, (p1, ()))))))
 (cnd (decide ((D.Page.State p0) = 1))
 (cnd (decide ((D.Answer.Kind p1) = 2))
 (J14 ((true, ()), (p0, (p1, ()))))
 (J14 ((false, ()), (p0, (p1, ())))))
 (J14 ((false, ()), (p0, (p1, ()))))))))))))
def r29_refused_g (fu : Nat) : Sig := mkSig [.st .Page, .st .Answer] [] [nI] [] [] (Int) (fun q => ((q, ()), ())) (fun x y => r29_refused fu x.1 x.2.1)
theorem r29_refused_ok (fu : Nat) : FnOK Tryz.prog 109 (r29_refused_g fu) :=
 FnOK.intro (ty := ty) (E := envL [(23, 0, r29_Due_g fu)]) (fu := fu) (an := .two .go (.two .go (.two (.join [] [] (.one (.two .go (.two .go (.two (.join [(2, .one (.ref 1002)), (3, .one (.ref 1003)), (27, .one (.boo))] [(1002, .boxst .Page), (1003, .boxst .Answer)] .go) (.two .go (.two (.join [(47, .one (.boo))] [] .go) .go))))))) .go))) (fun a b => a.1) (fun _ _ => rfl) (envL_ok ⟨r29_Due_ok fu, trivial⟩) Tryz.func109 rfl rfl (fun x y => by kernel_rfl)
def r29_Answer (fu : Nat) (p0 : D.Config) (p1 : D.Book) (p2 : D.Page) (p3 : D.Answer) : Option (D.Page × Int) :=
 (join (Y := (Unit × (D.Page × (D.Answer × (D.Page × Unit))))) (fun (_, (a0, (a1, (a2, _)))) =>
 (cnd (decide ((D.Answer.Page a1) ≠ (D.Page.ID a0)))
 (some ((D.Page.mk 0 0 0 0 0 0 0 0 0 0 0 [] [] []), 3))
 (optc (r29_Copy fu a0) fun a3 =>
 (optc (r25_Has fu (D.Page.Seen a0) (D.Answer.ID a1)) fun a4 =>
 (cnd a4
 (some (a3, 0))
 (optc (r29_refused fu a0 a1) fun a5 =>
 (cnd (decide (a5 ≠ 0))
 (some ((D.Page.mk 0 0 0 0 0 0 0 0 0 0 0 [] [] []), a5))
 (lec ((List.length (D.Page.Seen a3)) + (List.length ((D.Answer.ID a1) :: []))) 34359738368 (join (Y := (Unit × (D.Page × ((Int × (Int × (Int × (Int × (Int × (Int × (Int × (Int × (Int × (Int × (Int × (List Int × Unit)))))))))))) × (List D.Start × (List Int × Unit)))))) (fun (_, (a6, ((a7, (a8, (a9, (a10, (a11, (a12, (a13, (a14, (a15, (a16, (a17, (a18, _)))))))))))), (a19, (a20, _))))) =>
 (some ((D.Page.mk a7 a8 a9 a10 a11 a12 a13 a14 a15 a16 a17 a19 a18 a20), 0))) fun J21 =>
 (cnd (decide ((D.Answer.Kind a1) = 1))
 (cnd (decide ((D.Page.State a0) = 1))
 (J21 ((), (a2, (((D.Page.ID a3), ((D.Page.Policy a3), ((D.Page.Start a3), ((D.Page.Next a3), ((D.Page.Due a3), ((D.Page.State a3), ((D.Page.By a3), ((D.Page.Until a3), ((D.Page.Last a0), ((D.Page.Snoozes a3), ((D.Page.Hands a3), ((D.Page.Declined a3), ())))))))))))), ((D.Page.Starts a3), (((D.Page.Seen a3) ++ ((D.Answer.ID a1) :: [])), ()))))))
 (J21 ((), (a2, (((D.Page.ID a3), ((D.Page.Policy a3), ((D.Page.Start a3), ((D.Page.Next a3), ((D.Page.Due a3), (1, ((D.Answer.Person a1), ((D.Page.Until a3), ((D.Answer.At a1), ((D.Page.Snoozes a3), ((D.Page.Hands a3), ((D.Page.Declined a3), ())))))))))))), ((D.Page.Starts a3), (((D.Page.Seen a3) ++ ((D.Answer.ID a1) :: [])), ())))))))
 (cnd (decide ((D.Answer.Kind a1) = 2))
 (optc (r29_Called fu a0) fun a22 =>
 (join (Y := ((List Int × Unit) × (D.Page × (D.Answer × (D.Page × ((Int × (Int × (Int × (Int × (Int × (Int × (Int × (Int × (Int × (Int × (Int × (List Int × Unit)))))))))))) × (List D.Start × (List Int × Unit)))))))) (fun ((a23, _), (a24, (a25, (a26, ((a27, (a28, (a29, (a30, (a31, (a32, (a33, (a34, (a35, (a36, (a37, (a38, _)))))))))))), (a39, (a40, _))))))) =>
 (iterF (X := ((List Int × (Bool × (Int × Unit))) × (D.Page × (D.Answer × (D.Page × ((Int × (Int × (Int × (Int × (Int × (Int × (Int × (Int × (Int × (Int × (Int × (List Int × Unit)))))))))))) × (List D.Start × (List Int × Unit)))))))) (fun L41 ((a42, (a43, (a44, _))), (a45, (a46, (a47, ((a48, (a49, (a50, (a51, (a52, (a53, (a54, (a55, (a56, (a57, (a58, (a59, _)))))))))))), (a60, (a61, _))))))) =>
 (cnd (decide (a44 < (((List.length a42) : Nat) : Int)))
 (join (Y := ((List Int × (Bool × (Int × Unit))) × (D.Page × (D.Answer × (D.Page × ((Int × (Int × (Int × (Int × (Int × (Int × (Int × (Int × (Int × (Int × (Int × (List Int × Unit)))))))))))) × (List D.Start × (List Int × Unit)))))))) (fun ((a62, (a63, (a64, _))), (a65, (a66, (a67, ((a68, (a69, (a70, (a71, (a72, (a73, (a74, (a75, (a76, (a77, (a78, (a79, _)))))))))))), (a80, (a81, _))))))) =>
 (L41 ((a62, (a63, ((IntKind.wrap .i64 (a64 + 1)), ()))), (a65, (a66, (a67, ((a68, (a69, (a70, (a71, (a72, (a73, (a74, (a75, (a76, (a77, (a78, (a79, ())))))))))))), (a80, (a81, ()))))))))) fun J82 =>
 (cnd a43
 (atc a42 a44 fun a83 =>
 (optc (r25_Has fu a59 a83) fun a84 =>
 (cnd a84
 (J82 ((a42, (true, (a44, ()))), (a45, (a46, (a47, ((a48, (a49, (a50, (a51, (a52, (a53, (a54, (a55, (a56, (a57, (a58, (a59, ())))))))))))), (a60, (a61, ()))))))))
 (J82 ((a42, (false, (a44, ()))), (a45, (a46, (a47, ((a48, (a49, (a50, (a51, (a52, (a53, (a54, (a55, (a56, (a57, (a58, (a59, ())))))))))))), (a60, (a61, ())))))))))))
 (J82 ((a42, (false, (a44, ()))), (a45, (a46, (a47, ((a48, (a49, (a50, (a51, (a52, (a53, (a54, (a55, (a56, (a57, (a58, (a59, ())))))))))))), (a60, (a61, ()))))))))))
 (cnd a43
 (cnd (decide ((D.Page.State a45) = 0))
 (J21 ((), (a47, ((a48, (a49, (a50, (a51, ((D.Answer.At a46), (a53, (a54, (a55, (a56, (a57, (a58, (a59, ())))))))))))), (a60, (a61, ()))))))
 (J21 ((), (a47, ((a48, (a49, (a50, (a51, (a52, (a53, (a54, (a55, (a56, (a57, (a58, (a59, ())))))))))))), (a60, (a61, ())))))))
 (J21 ((), (a47, ((a48, (a49, (a50, (a51, (a52, (a53, (a54, (a55, (a56, (a57, (a58, (a59, ())))))))))))), (a60, (a61, ()))))))))) fu ((a23, ((decide (0 < (((List.length a23) : Nat) : Int))), (0, ()))), (a24, (a25, (a26, ((a27, (a28, (a29, (a30, (a31, (a32, (a33, (a34, (a35, (a36, (a37, (a38, ())))))))))))), (a39, (a40, ()))))))))) fun J85 =>
 (optc (r25_Has fu a22 (D.Answer.Person a1)) fun a86 =>
 (cnd a86
 (optc (r25_With fu (D.Page.Declined a3) (D.Answer.Person a1)) fun a87 =>
 (J85 ((a22, ()), (a0, (a1, (a2, (((D.Page.ID a3), ((D.Page.Policy a3), ((D.Page.Start a3), ((D.Page.Next a3), ((D.Page.Due a3), ((D.Page.State a3), ((D.Page.By a3), ((D.Page.Until a3), ((D.Answer.At a1), ((D.Page.Snoozes a3), ((D.Page.Hands a3), (a87, ())))))))))))), ((D.Page.Starts a3), (((D.Page.Seen a3) ++ ((D.Answer.ID a1) :: [])), ())))))))))
 (J85 ((a22, ()), (a0, (a1, (a2, (((D.Page.ID a3), ((D.Page.Policy a3), ((D.Page.Start a3), ((D.Page.Next a3), ((D.Page.Due a3), ((D.Page.State a3), ((D.Page.By a3), ((D.Page.Until a3), ((D.Answer.At a1), ((D.Page.Snoozes a3), ((D.Page.Hands a3), ((D.Page.Declined a3), ())))))))))))), ((D.Page.Starts a3), (((D.Page.Seen a3) ++ ((D.Answer.ID a1) :: [])), ()))))))))))))
 (cnd (decide ((D.Answer.Kind a1) = 3))
 (J21 ((), (a2, (((D.Page.ID a3), ((D.Page.Policy a3), ((D.Page.Start a3), ((D.Page.Next a3), ((D.Page.Due a3), (2, ((D.Answer.Person a1), ((IntKind.wrap .i64 ((D.Answer.At a1) + (D.Answer.Arg a1))), ((D.Answer.At a1), ((IntKind.wrap .i64 ((D.Page.Snoozes a0) + 1)), ((D.Page.Hands a3), ((D.Page.Declined a3), ())))))))))))), ((D.Page.Starts a3), (((D.Page.Seen a3) ++ ((D.Answer.ID a1) :: [])), ()))))))
 (cnd (decide ((D.Answer.Kind a1) = 4))
 (lec ((List.length (D.Page.Starts a3)) + (List.length ((D.Start.mk (-1) (D.Answer.At a1) ((D.Answer.Arg a1) :: [])) :: []))) 34359738368 (J21 ((), (a2, (((D.Page.ID a3), ((D.Page.Policy a3), ((D.Page.Start a3), ((D.Page.Next a3), ((IntKind.wrap .i64 ((D.Answer.At a1) + 600)), (0, ((D.Page.By a3), ((D.Page.Until a3), ((D.Answer.At a1), ((D.Page.Snoozes a3), ((IntKind.wrap .i64 ((D.Page.Hands a0) + 1)), ([], ())))))))))))), (((D.Page.Starts a3) ++ ((D.Start.mk (-1) (D.Answer.At a1) ((D.Answer.Arg a1) :: [])) :: [])), (((D.Page.Seen a3) ++ ((D.Answer.ID a1) :: [])), ())))))))
 (cnd (decide ((D.Answer.Kind a1) = 5))
 (J21 ((), (a2, (((D.Page.ID a3), ((D.Page.Policy a3), ((D.Page.Start a3), ((D.Page.Next a3), ((D.Page.Due a3), (4, ((D.Answer.Person a1), ((D.Page.Until a3), ((D.Answer.At a1), ((D.Page.Snoozes a3), ((D.Page.Hands a3), ((D.Page.Declined a3), ())))))))))))), ((D.Page.Starts a3), (((D.Page.Seen a3) ++ ((D.Answer.ID a1) :: [])), ()))))))
 (J21 ((), (a2, (((D.Page.ID a3), ((D.Page.Policy a3), ((D.Page.Start a3), ((D.Page.Next a3), ((D.Page.Due a3), ((D.Page.State a3), ((D.Page.By a3), ((D.Page.Until a3), ((D.Answer.At a1), ((D.Page.Snoozes a3), ((D.Page.Hands a3), ((D.Page.Declined a3), ())))))))))))), ((D.Page.Starts a3), (((D.Page.Seen a3) ++ ((D.Answer.ID a1) :: [])), ())))))))))))))))))))) fun J88 =>
 (optc (r29_Check fu p1 p2) fun a89 =>
 (cnd a89
 (optc (r28_Valid fu p3) fun a90 =>
 (cnd a90
 (J88 ((), (p2, (p3, ((D.Page.mk 0 0 0 0 0 0 0 0 0 0 0 [] [] []), ())))))
 (some ((D.Page.mk 0 0 0 0 0 0 0 0 0 0 0 [] [] []), 8))))
 (some ((D.Page.mk 0 0 0 0 0 0 0 0 0 0 0 [] [] []), 8)))))
def r29_Answer_g (fu : Nat) : Sig := mkSig [.st .Config, .st .Book, .st .Page, .st .Answer] [] [.st .Page, nI] [] [] (D.Page × Int) (fun q => ((q.1, q.2, ()), ())) (fun x y => r29_Answer fu x.1 x.2.1 x.2.2.1 x.2.2.2.1)
theorem r29_Answer_ok (fu : Nat) : FnOK Tryz.prog 60 (r29_Answer_g fu) :=
 FnOK.intro (ty := ty) (E := envL [(25, 0, r25_Has_g fu), (35, 0, r25_With_g fu), (45, 0, r29_Check_g fu), (58, 0, r29_Called_g fu), (66, 0, r29_Copy_g fu), (108, 0, r28_Valid_g fu), (109, 0, r29_refused_g fu)]) (fu := fu) (an := .two .go (.two (.join [(6, .one (.ref 1006)), (7, .one (.ref 1007)), (8, .one (.ref 1008))] [(1006, .boxst .Page), (1007, .boxst .Answer), (1008, .boxst .Page)] .go) (.two .go (.two .go (.two .go (.two .go (.two .go (.two (.join [(8, .one (.ref 1008)), (10, .one (.ref 1010))] [(1008, .boxst .Page), (1010, .box [.num .i64, .num .i64, .num .i64, .num .i64, .num .i64, .num .i64, .num .i64, .num .i64, .num .i64, .num .i64, .num .i64, .own 1033025, .lst .int, .own 1033033]), (1033025, .arr .Start), (1033033, .arr .int)] (.two .go (.one (.two .go (.two .go (.two .go (.two (.two .go (.two (.join [(6, .one (.ref 1006)), (7, .one (.ref 1007)), (8, .one (.ref 1008)), (10, .one (.ref 1010)), (12, .one (.lst .int))] [(1006, .boxst .Page), (1007, .boxst .Answer), (1008, .boxst .Page), (1010, .box [.num .i64, .num .i64, .num .i64, .num .i64, .num .i64, .num .i64, .num .i64, .num .i64, .num .i64, .num .i64, .num .i64, .own 1033025, .lst .int, .own 1033033]), (1033025, .arr .Start), (1033033, .arr .int)] .go) (.two .go (.two (.two .go (.one (.loop [(6, .one (.ref 1006)), (7, .one (.ref 1007)), (8, .one (.ref 1008)), (10, .one (.ref 1010)), (12, .one (.lst .int)), (13, .one (.boo)), (14, nI)] [(1006, .boxst .Page), (1007, .boxst .Answer), (1008, .boxst .Page), (1010, .box [.num .i64, .num .i64, .num .i64, .num .i64, .num .i64, .num .i64, .num .i64, .num .i64, .num .i64, .num .i64, .num .i64, .own 1033025, .lst .int, .own 1033033]), (1033025, .arr .Start), (1033033, .arr .int)] (.two .go (.two (.join [(6, .one (.ref 1006)), (7, .one (.ref 1007)), (8, .one (.ref 1008)), (10, .one (.ref 1010)), (12, .one (.lst .int)), (13, .one (.boo)), (14, nI)] [(1006, .boxst .Page), (1007, .boxst .Answer), (1008, .boxst .Page), (1010, .box [.num .i64, .num .i64, .num .i64, .num .i64, .num .i64, .num .i64, .num .i64, .num .i64, .num .i64, .num .i64, .num .i64, .own 1033025, .lst .int, .own 1033033]), (1033025, .arr .Start), (1033033, .arr .int)] .go) .go))))) .go)))) .go))))))) .go)))))))) (fun a b => (a.1, a.2.1)) (fun _ _ => rfl) (envL_ok ⟨r25_Has_ok fu, r25_With_ok fu, r29_Check_ok fu, r29_Called_ok fu, r29_Copy_ok fu, r28_Valid_ok fu, r29_refused_ok fu, trivial⟩) Tryz.func60 rfl rfl (fun x y => by kernel_rfl)
def r13_with (fu : Nat) (p0 : D.Config) (p1 : Int) (p2 : List D.Edit) : Option (D.Config) :=
 (lec (List.length (D.Config.Schedules p0)) 34359738368 (natc p1 fun a0 =>
 (ltc a0 (List.length (D.Config.Schedules p0)) (optc (GetElem?.getElem? (D.Config.Schedules p0) a0) fun a1 =>
 (some (D.Config.mk (D.Config.Zones p0) (D.Config.People p0) (D.Config.Calendars p0) (List.set (D.Config.Schedules p0) a0 (D.Schedule.mk (D.Schedule.Name a1) (D.Schedule.Layers a1) p2))))))))
def r13_with_g (fu : Nat) : Sig := mkSig [.st .Config, nI, .one (.lst .Edit)] [] [.st .Config] [] [] (D.Config) (fun q => ((q, ()), ())) (fun x y => r13_with fu x.1 x.2.1 x.2.2.1)
theorem r13_with_ok (fu : Nat) : FnOK Tryz.prog 194 (r13_with_g fu) :=
 FnOK.intro (ty := ty) (E := envL []) (fu := fu) (an := .go) (fun a b => a.1) (fun _ _ => rfl) (envL_ok (l := []) trivial) Tryz.func194 rfl rfl (fun x y => by kernel_rfl)
def r13_Apply (fu : Nat) (p0 : D.Config) (p1 : Int) (p2 : D.Edit) : Option (D.Config × Int) :=
 (join (Y := ((Int × Unit) × (D.Config × (D.Edit × (D.Config × Unit))))) (fun ((a0, _), (a1, (a2, (a3, _)))) =>
 (atc (D.Config.Schedules a1) a0 fun a4 =>
 (lec (List.length (D.Schedule.Edits a4)) 34359738368 (lec ((List.length (D.Schedule.Edits a4)) + (List.length (a2 :: []))) 34359738368 (optc (r13_with fu a1 a0 ((D.Schedule.Edits a4) ++ (a2 :: []))) fun a5 =>
 (optc (r08_Check fu a5) fun a6 =>
 (cnd (decide (a6 ≠ 0))
 (some ((D.Config.mk [] [] [] []), a6))
 (some (a5, 0))))))))) fun J7 =>
 (optc (r08_Check fu p0) fun a8 =>
 (cnd (decide (a8 ≠ 0))
 (some ((D.Config.mk [] [] [] []), 8))
 (cnd (decide (p1 < 0))
 (some ((D.Config.mk [] [] [] []), 3))
 (cnd (decide ((((List.length (D.Config.Schedules p0)) : Nat) : Int) ≤ p1))
 (some ((D.Config.mk [] [] [] []), 3))
 (J7 ((p1, ()), (p0, (p2, ((D.Config.mk [] [] [] []), ()))))))))))
def r13_Apply_g (fu : Nat) : Sig := mkSig [.st .Config, nI, .st .Edit] [] [.st .Config, nI] [] [] (D.Config × Int) (fun q => ((q.1, q.2, ()), ())) (fun x y => r13_Apply fu x.1 x.2.1 x.2.2.1)
theorem r13_Apply_ok (fu : Nat) : FnOK Tryz.prog 154 (r13_Apply_g fu) :=
 FnOK.intro (ty := ty) (E := envL [(141, 0, r08_Check_g fu), (194, 0, r13_with_g fu)]) (fu := fu) (an := .two .go (.two (.join [(1, nI), (3, .one (.ref 1003)), (5, .one (.ref 1005)), (6, .one (.ref 1006))] [(1003, .boxst .Config), (1005, .boxst .Edit), (1006, .boxst .Config)] .go) .go)) (fun a b => (a.1, a.2.1)) (fun _ _ => rfl) (envL_ok ⟨r08_Check_ok fu, r13_with_ok fu, trivial⟩) Tryz.func154 rfl rfl (fun x y => by kernel_rfl)
def r31_Find_0c7c10c11 (fu : Nat) (p0 : D.Ledger) (p1 : Int) : Option (D.Page × Bool) :=
 (iterF (X := ((Int × (Int × Unit)) × ((Int × (List D.Zone × (List D.Person × (List D.Calendar × (List D.Schedule × (List D.Team × (List D.Policy × (Int × (Int × Unit))))))))) × (D.Page × (List D.Page × (List Int × (List D.Call × Unit))))))) (fun L0 ((a1, (a2, _)), ((a3, (a4, (a5, (a6, (a7, (a8, (a9, (a10, (a11, _))))))))), (a12, (a13, (a14, (a15, _)))))) =>
 (cnd (decide (a2 < (((List.length a13) : Nat) : Int)))
 (natc a2 fun a16 =>
 (ltc a16 (List.length a13) (optc (GetElem?.getElem? a13 a16) fun a17 =>
 (cnd (decide ((D.Page.ID a17) = a1))
 (natc a2 fun a18 =>
 (ltc a18 (List.length a13) (optc (GetElem?.getElem? a13 a18) fun a19 =>
 (optc (r29_Copy fu a19) fun a20 =>
 (sameC a13 (D.Ledger.Pages p0) (sameC a14 (D.Ledger.Seen p0) (sameC a15 (D.Ledger.Calls p0) (some (a20, true)))))))))
 (L0 ((a1, ((IntKind.wrap .i64 (a2 + 1)), ())), ((a3, (a4, (a5, (a6, (a7, (a8, (a9, (a10, (a11, ()))))))))), (a12, (a13, (a14, (a15, ())))))))))))
 (sameC a13 (D.Ledger.Pages p0) (sameC a14 (D.Ledger.Seen p0) (sameC a15 (D.Ledger.Calls p0) (some ((D.Page.mk 0 0 0 0 0 0 0 0 0 0 0 [] [] []), false))))))) fu ((p1, (0, ())), (((D.Ledger.Now p0), ((D.Config.Zones (D.Ledger.Config p0)), ((D.Config.People (D.Ledger.Config p0)), ((D.Config.Calendars (D.Ledger.Config p0)), ((D.Config.Schedules (D.Ledger.Config p0)), ((D.Book.Teams (D.Ledger.Book p0)), ((D.Book.Policies (D.Ledger.Book p0)), ((D.Ledger.Owner p0), ((D.Ledger.Fence p0), ()))))))))), ((D.Page.mk 0 0 0 0 0 0 0 0 0 0 0 [] [] []), ((D.Ledger.Pages p0), ((D.Ledger.Seen p0), ((D.Ledger.Calls p0), ())))))))
def r31_Find_0c7c10c11_g (fu : Nat) : Sig := mkSig [.agg [.num .i64, .lst .Zone, .lst .Person, .lst .Calendar, .lst .Schedule, .lst .Team, .lst .Policy, .own 101, .num .i64, .num .i64, .own 102, .own 103], nI] [(101, .arr .Page), (102, .arr .int), (103, .arr .Call)] [.st .Page, .one (.boo)] [] [101, 102, 103] (D.Page × Bool) (fun q => ((q.1, q.2, ()), ())) (fun x y => r31_Find_0c7c10c11 fu (D.Ledger.mk x.1.1 (D.Config.mk x.1.2.1 x.1.2.2.1 x.1.2.2.2.1 x.1.2.2.2.2.1) (D.Book.mk x.1.2.2.2.2.2.1 x.1.2.2.2.2.2.2.1) y.1 x.1.2.2.2.2.2.2.2.1 x.1.2.2.2.2.2.2.2.2.1 y.2.1 y.2.2.1) x.2.1)
theorem r31_Find_0c7c10c11_ok (fu : Nat) : FnOK Tryz.prog 150 (r31_Find_0c7c10c11_g fu) :=
 FnOK.intro (ty := ty) (E := envL [(66, 0, r29_Copy_g fu)]) (fu := fu) (an := .two .go (.two (.two .go (.one (.loop [(1, nI), (2, .one (.ref 1002)), (4, .one (.ref 1004)), (6, nI)] [(1002, .box [.num .i64, .lst .Zone, .lst .Person, .lst .Calendar, .lst .Schedule, .lst .Team, .lst .Policy, .own 101, .num .i64, .num .i64, .own 102, .own 103]), (1004, .boxst .Page), (101, .arr .Page), (102, .arr .int), (103, .arr .Call)] .go))) .go)) (fun a b => (a.1, a.2.1)) (fun _ _ => rfl) (envL_ok ⟨r29_Copy_ok fu, trivial⟩) Tryz.func150 rfl rfl (fun x y => by kernel_rfl)
def r31_put_0c7c10c11 (fu : Nat) (p0 : D.Ledger) (p1 : D.Page) : Option (D.Ledger) :=
 (iterF (X := ((Int × Unit) × ((Int × (List D.Zone × (List D.Person × (List D.Calendar × (List D.Schedule × (List D.Team × (List D.Policy × (Int × (Int × Unit))))))))) × (D.Page × (D.Ledger × (List D.Page × (List Int × (List D.Call × Unit)))))))) (fun L0 ((a1, _), ((a2, (a3, (a4, (a5, (a6, (a7, (a8, (a9, (a10, _))))))))), (a11, (a12, (a13, (a14, (a15, _))))))) =>
 (cnd (decide (a1 < (((List.length a13) : Nat) : Int)))
 (join (Y := ((Int × Unit) × ((Int × (List D.Zone × (List D.Person × (List D.Calendar × (List D.Schedule × (List D.Team × (List D.Policy × (Int × (Int × Unit))))))))) × (D.Page × (D.Ledger × (List D.Page × (List Int × (List D.Call × Unit)))))))) (fun ((a16, _), ((a17, (a18, (a19, (a20, (a21, (a22, (a23, (a24, (a25, _))))))))), (a26, (a27, (a28, (a29, (a30, _))))))) =>
 (L0 (((IntKind.wrap .i64 (a16 + 1)), ()), ((a17, (a18, (a19, (a20, (a21, (a22, (a23, (a24, (a25, ()))))))))), (a26, (a27, (a28, (a29, (a30, ()))))))))) fun J31 =>
 (natc a1 fun a32 =>
 (ltc a32 (List.length a13) (optc (GetElem?.getElem? a13 a32) fun a33 =>
 (cnd (decide ((D.Page.ID a33) = (D.Page.ID a11)))
 (natc a1 fun a34 =>
 (ltc a34 (List.length a13) (optc (GetElem?.getElem? a13 a34) fun a35 =>
 (optc (r31_calls fu a11 (((List.length (D.Page.Starts a35)) : Nat) : Int) a10) fun a36 =>
 (lec ((List.length a15) + (List.length a36)) 34359738368 (natc a1 fun a37 =>
 (ltc a37 (List.length a13) (optc (GetElem?.getElem? a13 a37) fun a38 =>
 (J31 ((a1, ()), ((a2, (a3, (a4, (a5, (a6, (a7, (a8, (a9, (a10, ()))))))))), (a11, (a12, ((List.set a13 a37 a11), (a14, ((a15 ++ a36), ()))))))))))))))))
 (J31 ((a1, ()), ((a2, (a3, (a4, (a5, (a6, (a7, (a8, (a9, (a10, ()))))))))), (a11, (a12, (a13, (a14, (a15, ())))))))))))))
 (some (D.Ledger.mk a2 (D.Config.mk a3 a4 a5 a6) (D.Book.mk a7 a8) a13 a9 a10 a14 a15)))) fu ((0, ()), (((D.Ledger.Now p0), ((D.Config.Zones (D.Ledger.Config p0)), ((D.Config.People (D.Ledger.Config p0)), ((D.Config.Calendars (D.Ledger.Config p0)), ((D.Config.Schedules (D.Ledger.Config p0)), ((D.Book.Teams (D.Ledger.Book p0)), ((D.Book.Policies (D.Ledger.Book p0)), ((D.Ledger.Owner p0), ((D.Ledger.Fence p0), ()))))))))), (p1, ((D.Ledger.mk 0 (D.Config.mk [] [] [] []) (D.Book.mk [] []) [] 0 0 [] []), ((D.Ledger.Pages p0), ((D.Ledger.Seen p0), ((D.Ledger.Calls p0), ()))))))))
def r31_put_0c7c10c11_g (fu : Nat) : Sig := mkSig [.agg [.num .i64, .lst .Zone, .lst .Person, .lst .Calendar, .lst .Schedule, .lst .Team, .lst .Policy, .own 101, .num .i64, .num .i64, .own 102, .own 103], .st .Page] [(101, .arr .Page), (102, .arr .int), (103, .arr .Call)] [.agg [.num .i64, .lst .Zone, .lst .Person, .lst .Calendar, .lst .Schedule, .lst .Team, .lst .Policy, .own 101, .num .i64, .num .i64, .own 102, .own 103]] [(101, .arr .Page), (102, .arr .int), (103, .arr .Call)] [] (D.Ledger) (fun q => (((q.Now, q.Config.Zones, q.Config.People, q.Config.Calendars, q.Config.Schedules, q.Book.Teams, q.Book.Policies, q.Owner, q.Fence, ()), ()), (q.Pages, q.Seen, q.Calls, ()))) (fun x y => r31_put_0c7c10c11 fu (D.Ledger.mk x.1.1 (D.Config.mk x.1.2.1 x.1.2.2.1 x.1.2.2.2.1 x.1.2.2.2.2.1) (D.Book.mk x.1.2.2.2.2.2.1 x.1.2.2.2.2.2.2.1) y.1 x.1.2.2.2.2.2.2.2.1 x.1.2.2.2.2.2.2.2.2.1 y.2.1 y.2.2.1) x.2.1)
theorem r31_put_0c7c10c11_ok (fu : Nat) : FnOK Tryz.prog 193 (r31_put_0c7c10c11_g fu) :=
 FnOK.intro (ty := ty) (E := envL [(149, 0, r31_calls_g fu)]) (fu := fu) (an := .two .go (.two (.two .go (.one (.loop [(2, .one (.ref 1002)), (3, .one (.ref 1003)), (4, .one (.ref 1004)), (5, nI)] [(1002, .box [.num .i64, .lst .Zone, .lst .Person, .lst .Calendar, .lst .Schedule, .lst .Team, .lst .Policy, .own 101, .num .i64, .num .i64, .own 102, .own 103]), (1003, .boxst .Page), (1004, .boxst .Ledger), (101, .arr .Page), (102, .arr .int), (103, .arr .Call)] (.two .go (.two (.join [(2, .one (.ref 1002)), (3, .one (.ref 1003)), (4, .one (.ref 1004)), (5, nI)] [(1002, .box [.num .i64, .lst .Zone, .lst .Person, .lst .Calendar, .lst .Schedule, .lst .Team, .lst .Policy, .own 101, .num .i64, .num .i64, .own 102, .own 103]), (1003, .boxst .Page), (1004, .boxst .Ledger), (101, .arr .Page), (102, .arr .int), (103, .arr .Call)] .go) .go))))) .go)) (fun a b => (D.Ledger.mk a.1.1 (D.Config.mk a.1.2.1 a.1.2.2.1 a.1.2.2.2.1 a.1.2.2.2.2.1) (D.Book.mk a.1.2.2.2.2.2.1 a.1.2.2.2.2.2.2.1) b.1 a.1.2.2.2.2.2.2.2.1 a.1.2.2.2.2.2.2.2.2.1 b.2.1 b.2.2.1)) (fun _ _ => rfl) (envL_ok ⟨r31_calls_ok fu, trivial⟩) Tryz.func193 rfl rfl (fun x y => by kernel_rfl)
def r31_run_0c7c10c11 (fu : Nat) (p0 : D.Ledger) (p1 : Int) (p2 : Int) : Option (D.Ledger) :=
 (optc (r31_Find_0c7c10c11 fu p0 p1) fun (a0, a1) =>
 (cnd (!a1)
 (some p0)
 (optc (r29_Run fu (D.Ledger.Config p0) (D.Ledger.Book p0) a0 p2) fun (a2, a3) =>
 (cnd (decide (a3 ≠ 0))
 (some p0)
 (optc (r31_put_0c7c10c11 fu p0 a2) fun a4 =>
 (some a4))))))
def r31_run_0c7c10c11_g (fu : Nat) : Sig := mkSig [.agg [.num .i64, .lst .Zone, .lst .Person, .lst .Calendar, .lst .Schedule, .lst .Team, .lst .Policy, .own 101, .num .i64, .num .i64, .own 102, .own 103], nI, nI] [(101, .arr .Page), (102, .arr .int), (103, .arr .Call)] [.agg [.num .i64, .lst .Zone, .lst .Person, .lst .Calendar, .lst .Schedule, .lst .Team, .lst .Policy, .own 101, .num .i64, .num .i64, .own 102, .own 103]] [(101, .arr .Page), (102, .arr .int), (103, .arr .Call)] [] (D.Ledger) (fun q => (((q.Now, q.Config.Zones, q.Config.People, q.Config.Calendars, q.Config.Schedules, q.Book.Teams, q.Book.Policies, q.Owner, q.Fence, ()), ()), (q.Pages, q.Seen, q.Calls, ()))) (fun x y => r31_run_0c7c10c11 fu (D.Ledger.mk x.1.1 (D.Config.mk x.1.2.1 x.1.2.2.1 x.1.2.2.2.1 x.1.2.2.2.2.1) (D.Book.mk x.1.2.2.2.2.2.1 x.1.2.2.2.2.2.2.1) y.1 x.1.2.2.2.2.2.2.2.1 x.1.2.2.2.2.2.2.2.2.1 y.2.1 y.2.2.1) x.2.1 x.2.2.1)
theorem r31_run_0c7c10c11_ok (fu : Nat) : FnOK Tryz.prog 152 (r31_run_0c7c10c11_g fu) :=
 FnOK.intro (ty := ty) (E := envL [(27, 0, r29_Run_g fu), (150, 0, r31_Find_0c7c10c11_g fu), (193, 0, r31_put_0c7c10c11_g fu)]) (fu := fu) (an := .go) (fun a b => (D.Ledger.mk a.1.1 (D.Config.mk a.1.2.1 a.1.2.2.1 a.1.2.2.2.1 a.1.2.2.2.2.1) (D.Book.mk a.1.2.2.2.2.2.1 a.1.2.2.2.2.2.2.1) b.1 a.1.2.2.2.2.2.2.2.1 a.1.2.2.2.2.2.2.2.2.1 b.2.1 b.2.2.1)) (fun _ _ => rfl) (envL_ok ⟨r29_Run_ok fu, r31_Find_0c7c10c11_ok fu, r31_put_0c7c10c11_ok fu, trivial⟩) Tryz.func152 rfl rfl (fun x y => by kernel_rfl)
def r31_open_0c7c10c11 (fu : Nat) (p0 : D.Ledger) (p1 : D.Op) (p2 : Int) (p3 : Bool) : Option (D.Ledger × Int) :=
 (cnd p3
 (some (p0, 4))
 (cnd (decide (64 ≤ (((List.length (D.Ledger.Pages p0)) : Nat) : Int)))
 (some (p0, 5))
 (optc (r29_New fu (D.Ledger.Book p0) (D.Op.Page p1) (D.Op.Policy p1) p2) fun (a0, a1) =>
 (cnd (decide (a1 ≠ 0))
 (some (p0, a1))
 (join (Y := ((Int × (Int × Unit)) × ((Int × (List D.Zone × (List D.Person × (List D.Calendar × (List D.Schedule × (List D.Team × (List D.Policy × (Int × (Int × Unit))))))))) × (D.Ledger × (D.Page × (List D.Page × (List Int × (List D.Call × Unit)))))))) (fun ((a2, (a3, _)), ((a4, (a5, (a6, (a7, (a8, (a9, (a10, (a11, (a12, _))))))))), (a13, (a14, (a15, (a16, (a17, _))))))) =>
 (lec ((List.length a15) + (List.length (a14 :: []))) 34359738368 (natc (IntKind.wrap .i64 (a3 + 1)) fun a18 =>
 (lec a18 (List.length (a15 ++ (a14 :: []))) (natc a3 fun a19 =>
 (lec a19 (List.length (a15 ++ (a14 :: []))) (chk (List.length (a15 ++ (a14 :: []))) (List.length (a15 ++ (a14 :: []))) (chk (List.length (a15 ++ (a14 :: []))) (List.length (a15 ++ (a14 :: []))) (lec a18 (List.length (a15 ++ (a14 :: []))) (lec a19 a18 (natc a3 fun a20 =>
 (ltc a20 (List.length ((List.take a18 (a15 ++ (a14 :: []))) ++ (List.take ((List.length (a15 ++ (a14 :: []))) - a18) (List.drop a19 (a15 ++ (a14 :: [])))))) (optc (GetElem?.getElem? ((List.take a18 (a15 ++ (a14 :: []))) ++ (List.take ((List.length (a15 ++ (a14 :: []))) - a18) (List.drop a19 (a15 ++ (a14 :: []))))) a20) fun a21 =>
 (optc (r31_run_0c7c10c11 fu (D.Ledger.mk a4 (D.Config.mk a5 a6 a7 a8) (D.Book.mk a9 a10) (List.set ((List.take a18 (a15 ++ (a14 :: []))) ++ (List.take ((List.length (a15 ++ (a14 :: []))) - a18) (List.drop a19 (a15 ++ (a14 :: []))))) a20 a14) a11 a12 a16 a17) (D.Page.ID a14) a2) fun a22 =>
 (some (a22, 0)))))))))))))))) fun J23 =>
 (iterF (X := ((Int × (Int × Unit)) × ((Int × (List D.Zone × (List D.Person × (List D.Calendar × (List D.Schedule × (List D.Team × (List D.Policy × (Int × (Int × Unit))))))))) × (D.Ledger × (D.Page × (List D.Page × (List Int × (List D.Call × Unit)))))))) (fun L24 ((a25, (a26, _)), ((a27, (a28, (a29, (a30, (a31, (a32, (a33, (a34, (a35, _))))))))), (a36, (a37, (a38, (a39, (a40, _))))))) =>
 (join (Y := ((Int × (Int × Unit)) × ((Int × (List D.Zone × (List D.Person × (List D.Calendar × (List D.Schedule × (List D.Team × (List D.Policy × (Int × (Int × Unit))))))))) × (D.Ledger × (D.Page × (List D.Page × (List Int × (List D.Call × Unit)))))))) (fun ((a41, (a42, _)), ((a43, (a44, (a45, (a46, (a47, (a48, (a49, (a50, (a51, _))))))))), (a52, (a53, (a54, (a55, (a56, _))))))) =>
 (L24 ((a41, ((IntKind.wrap .i64 (a42 + 1)), ())), ((a43, (a44, (a45, (a46, (a47, (a48, (a49, (a50, (a51, ()))))))))), (a52, (a53, (a54, (a55, (a56, ()))))))))) fun J57 =>
 (cnd (decide (a26 < (((List.length a38) : Nat) : Int)))
 (natc a26 fun a58 =>
 (ltc a58 (List.length a38) (optc (GetElem?.getElem? a38 a58) fun a59 =>
 (cnd (decide ((D.Page.ID a59) < (D.Page.ID a37)))
 (J57 ((a25, (a26, ())), ((a27, (a28, (a29, (a30, (a31, (a32, (a33, (a34, (a35, ()))))))))), (a36, (a37, (a38, (a39, (a40, ()))))))))
 (J23 ((a25, (a26, ())), ((a27, (a28, (a29, (a30, (a31, (a32, (a33, (a34, (a35, ()))))))))), (a36, (a37, (a38, (a39, (a40, ()))))))))))))
 (J23 ((a25, (a26, ())), ((a27, (a28, (a29, (a30, (a31, (a32, (a33, (a34, (a35, ()))))))))), (a36, (a37, (a38, (a39, (a40, ()))))))))))) fu ((p2, (0, ())), (((D.Ledger.Now p0), ((D.Config.Zones (D.Ledger.Config p0)), ((D.Config.People (D.Ledger.Config p0)), ((D.Config.Calendars (D.Ledger.Config p0)), ((D.Config.Schedules (D.Ledger.Config p0)), ((D.Book.Teams (D.Ledger.Book p0)), ((D.Book.Policies (D.Ledger.Book p0)), ((D.Ledger.Owner p0), ((D.Ledger.Fence p0), ()))))))))), ((D.Ledger.mk 0 (D.Config.mk [] [] [] []) (D.Book.mk [] []) [] 0 0 [] []), (a0, ((D.Ledger.Pages p0), ((D.Ledger.Seen p0), ((D.Ledger.Calls p0), ())))))))))))))
def r31_open_0c7c10c11_g (fu : Nat) : Sig := mkSig [.agg [.num .i64, .lst .Zone, .lst .Person, .lst .Calendar, .lst .Schedule, .lst .Team, .lst .Policy, .own 101, .num .i64, .num .i64, .own 102, .own 103], .st .Op, nI, .one (.boo)] [(101, .arr .Page), (102, .arr .int), (103, .arr .Call)] [.agg [.num .i64, .lst .Zone, .lst .Person, .lst .Calendar, .lst .Schedule, .lst .Team, .lst .Policy, .own 101, .num .i64, .num .i64, .own 102, .own 103], nI] [(101, .arr .Page), (102, .arr .int), (103, .arr .Call)] [] (D.Ledger × Int) (fun q => (((q.1.Now, q.1.Config.Zones, q.1.Config.People, q.1.Config.Calendars, q.1.Config.Schedules, q.1.Book.Teams, q.1.Book.Policies, q.1.Owner, q.1.Fence, ()), q.2, ()), (q.1.Pages, q.1.Seen, q.1.Calls, ()))) (fun x y => r31_open_0c7c10c11 fu (D.Ledger.mk x.1.1 (D.Config.mk x.1.2.1 x.1.2.2.1 x.1.2.2.2.1 x.1.2.2.2.2.1) (D.Book.mk x.1.2.2.2.2.2.1 x.1.2.2.2.2.2.2.1) y.1 x.1.2.2.2.2.2.2.2.1 x.1.2.2.2.2.2.2.2.2.1 y.2.1 y.2.2.1) x.2.1 x.2.2.1 x.2.2.2.1)
theorem r31_open_0c7c10c11_ok (fu : Nat) : FnOK Tryz.prog 151 (r31_open_0c7c10c11_g fu) :=
 FnOK.intro (ty := ty) (E := envL [(50, 0, r29_New_g fu), (152, 0, r31_run_0c7c10c11_g fu)]) (fu := fu) (an := .two .go (.two .go (.two .go (.two .go (.two .go (.two .go (.two (.join [(2, nI), (4, .one (.ref 1004)), (8, .one (.ref 1008)), (10, .one (.ref 1010)), (12, nI)] [(1004, .box [.num .i64, .lst .Zone, .lst .Person, .lst .Calendar, .lst .Schedule, .lst .Team, .lst .Policy, .own 101, .num .i64, .num .i64, .own 102, .own 103]), (1008, .boxst .Ledger), (1010, .boxst .Page), (101, .arr .Page), (102, .arr .int), (103, .arr .Call)] (.one (.loop [(2, nI), (4, .one (.ref 1004)), (8, .one (.ref 1008)), (10, .one (.ref 1010)), (12, nI)] [(1004, .box [.num .i64, .lst .Zone, .lst .Person, .lst .Calendar, .lst .Schedule, .lst .Team, .lst .Policy, .own 101, .num .i64, .num .i64, .own 102, .own 103]), (1008, .boxst .Ledger), (1010, .boxst .Page), (101, .arr .Page), (102, .arr .int), (103, .arr .Call)] (.two (.join [(2, nI), (4, .one (.ref 1004)), (8, .one (.ref 1008)), (10, .one (.ref 1010)), (12, nI)] [(1004, .box [.num .i64, .lst .Zone, .lst .Person, .lst .Calendar, .lst .Schedule, .lst .Team, .lst .Policy, .own 101, .num .i64, .num .i64, .own 102, .own 103]), (1008, .boxst .Ledger), (1010, .boxst .Page), (101, .arr .Page), (102, .arr .int), (103, .arr .Call)] .go) .go)))) .go))))))) (fun a b => ((D.Ledger.mk a.1.1 (D.Config.mk a.1.2.1 a.1.2.2.1 a.1.2.2.2.1 a.1.2.2.2.2.1) (D.Book.mk a.1.2.2.2.2.2.1 a.1.2.2.2.2.2.2.1) b.1 a.1.2.2.2.2.2.2.2.1 a.1.2.2.2.2.2.2.2.2.1 b.2.1 b.2.2.1), a.2.1)) (fun _ _ => rfl) (envL_ok ⟨r29_New_ok fu, r31_run_0c7c10c11_ok fu, trivial⟩) Tryz.func151 rfl rfl (fun x y => by kernel_rfl)
def r31_reply_0c7c10c11 (fu : Nat) (p0 : D.Ledger) (p1 : D.Answer) (p2 : Int) : Option (D.Ledger × Int) :=
 (optc (r31_Find_0c7c10c11 fu p0 (D.Answer.Page p1)) fun (a0, a1) =>
 (cnd (!a1)
 (some (p0, 3))
 (optc (r31_run_0c7c10c11 fu p0 (D.Answer.Page p1) p2) fun a2 =>
 (optc (r31_Find_0c7c10c11 fu a2 (D.Answer.Page p1)) fun (a3, a4) =>
 (optc (r29_Answer fu (D.Ledger.Config a2) (D.Ledger.Book a2) a3 (D.Answer.mk (D.Answer.ID p1) (D.Answer.Page p1) (D.Answer.Person p1) (D.Answer.Kind p1) (D.Answer.Arg p1) p2)) fun (a5, a6) =>
 (cnd (decide (a6 ≠ 0))
 (some (a2, a6))
 (optc (r31_put_0c7c10c11 fu a2 a5) fun a7 =>
 (some (a7, 0)))))))))
def r31_reply_0c7c10c11_g (fu : Nat) : Sig := mkSig [.agg [.num .i64, .lst .Zone, .lst .Person, .lst .Calendar, .lst .Schedule, .lst .Team, .lst .Policy, .own 101, .num .i64, .num .i64, .own 102, .own 103], .st .Answer, nI] [(101, .arr .Page), (102, .arr .int), (103, .arr .Call)] [.agg [.num .i64, .lst .Zone, .lst .Person, .lst .Calendar, .lst .Schedule, .lst .Team, .lst .Policy, .own 101, .num .i64, .num .i64, .own 102, .own 103], nI] [(101, .arr .Page), (102, .arr .int), (103, .arr .Call)] [] (D.Ledger × Int) (fun q => (((q.1.Now, q.1.Config.Zones, q.1.Config.People, q.1.Config.Calendars, q.1.Config.Schedules, q.1.Book.Teams, q.1.Book.Policies, q.1.Owner, q.1.Fence, ()), q.2, ()), (q.1.Pages, q.1.Seen, q.1.Calls, ()))) (fun x y => r31_reply_0c7c10c11 fu (D.Ledger.mk x.1.1 (D.Config.mk x.1.2.1 x.1.2.2.1 x.1.2.2.2.1 x.1.2.2.2.2.1) (D.Book.mk x.1.2.2.2.2.2.1 x.1.2.2.2.2.2.2.1) y.1 x.1.2.2.2.2.2.2.2.1 x.1.2.2.2.2.2.2.2.2.1 y.2.1 y.2.2.1) x.2.1 x.2.2.1)
theorem r31_reply_0c7c10c11_ok (fu : Nat) : FnOK Tryz.prog 153 (r31_reply_0c7c10c11_g fu) :=
 FnOK.intro (ty := ty) (E := envL [(60, 0, r29_Answer_g fu), (150, 0, r31_Find_0c7c10c11_g fu), (152, 0, r31_run_0c7c10c11_g fu), (193, 0, r31_put_0c7c10c11_g fu)]) (fu := fu) (an := .go) (fun a b => ((D.Ledger.mk a.1.1 (D.Config.mk a.1.2.1 a.1.2.2.1 a.1.2.2.2.1 a.1.2.2.2.2.1) (D.Book.mk a.1.2.2.2.2.2.1 a.1.2.2.2.2.2.2.1) b.1 a.1.2.2.2.2.2.2.2.1 a.1.2.2.2.2.2.2.2.2.1 b.2.1 b.2.2.1), a.2.1)) (fun _ _ => rfl) (envL_ok ⟨r29_Answer_ok fu, r31_Find_0c7c10c11_ok fu, r31_run_0c7c10c11_ok fu, r31_put_0c7c10c11_ok fu, trivial⟩) Tryz.func153 rfl rfl (fun x y => by kernel_rfl)
def r31_apply_0c7c10c11 (fu : Nat) (p0 : D.Ledger) (p1 : D.Op) (p2 : Int) : Option (D.Ledger × Int) :=
 (optc (r31_Find_0c7c10c11 fu p0 (D.Op.Page p1)) fun (a0, a1) =>
 (join (Y := (Unit × ((Int × (List D.Zone × (List D.Person × (List D.Calendar × (List D.Schedule × (List D.Team × (List D.Policy × (Int × (Int × Unit))))))))) × (D.Ledger × (List D.Page × (List Int × (List D.Call × Unit))))))) (fun (_, ((a2, (a3, (a4, (a5, (a6, (a7, (a8, (a9, (a10, _))))))))), (a11, (a12, (a13, (a14, _)))))) =>
 (some ((D.Ledger.mk a2 (D.Config.mk a3 a4 a5 a6) (D.Book.mk a7 a8) a12 a9 a10 a13 a14), 0))) fun J15 =>
 (cnd (decide ((D.Op.Kind p1) = 1))
 (optc (r31_open_0c7c10c11 fu p0 p1 p2 a1) fun (a16, a17) =>
 (some (a16, a17)))
 (cnd (decide ((D.Op.Kind p1) = 2))
 (cnd (decide ((D.Op.Fence p1) ≠ (IntKind.wrap .i64 ((D.Ledger.Fence p0) + 1))))
 (some (p0, 23))
 (J15 ((), (((D.Ledger.Now p0), ((D.Config.Zones (D.Ledger.Config p0)), ((D.Config.People (D.Ledger.Config p0)), ((D.Config.Calendars (D.Ledger.Config p0)), ((D.Config.Schedules (D.Ledger.Config p0)), ((D.Book.Teams (D.Ledger.Book p0)), ((D.Book.Policies (D.Ledger.Book p0)), ((D.Op.Region p1), ((D.Op.Fence p1), ()))))))))), ((D.Ledger.mk 0 (D.Config.mk [] [] [] []) (D.Book.mk [] []) [] 0 0 [] []), ((D.Ledger.Pages p0), ((D.Ledger.Seen p0), ((D.Ledger.Calls p0), ()))))))))
 (cnd (decide ((D.Op.Kind p1) = 3))
 (join (Y := ((Int × (Bool × Unit)) × ((Int × (List D.Zone × (List D.Person × (List D.Calendar × (List D.Schedule × (List D.Team × (List D.Policy × (Int × (Int × Unit))))))))) × (D.Op × (D.Ledger × (D.Page × (List D.Page × (List Int × (List D.Call × Unit))))))))) (fun ((a18, (a19, _)), ((a20, (a21, (a22, (a23, (a24, (a25, (a26, (a27, (a28, _))))))))), (a29, (a30, (a31, (a32, (a33, (a34, _)))))))) =>
 (cnd (!a19)
 (some ((D.Ledger.mk a20 (D.Config.mk a21 a22 a23 a24) (D.Book.mk a25 a26) a32 a27 a28 a33 a34), 3))
 (optc (r29_Due fu a31) fun (a35, a36) =>
 (join (Y := ((Int × (Int × (Bool × (Int × Unit)))) × ((Int × (List D.Zone × (List D.Person × (List D.Calendar × (List D.Schedule × (List D.Team × (List D.Policy × (Int × (Int × Unit))))))))) × (D.Op × (D.Ledger × (List D.Page × (List Int × (List D.Call × Unit)))))))) (fun ((a37, (a38, (a39, (a40, _)))), ((a41, (a42, (a43, (a44, (a45, (a46, (a47, (a48, (a49, _))))))))), (a50, (a51, (a52, (a53, (a54, _))))))) =>
 (join (Y := ((Int × Unit) × ((Int × (List D.Zone × (List D.Person × (List D.Calendar × (List D.Schedule × (List D.Team × (List D.Policy × (Int × (Int × Unit))))))))) × (D.Op × (D.Ledger × (List D.Page × (List Int × (List D.Call × Unit)))))))) (fun ((a55, _), ((a56, (a57, (a58, (a59, (a60, (a61, (a62, (a63, (a64, _))))))))), (a65, (a66, (a67, (a68, (a69, _))))))) =>
 (optc (r31_run_0c7c10c11 fu (D.Ledger.mk a56 (D.Config.mk a57 a58 a59 a60) (D.Book.mk a61 a62) a67 a63 a64 a68 a69) (D.Op.Page a65) a55) fun a70 =>
 (some (a70, 0)))) fun J71 =>
 (cnd a39
 (cnd (decide (a37 < a38))
 (some ((D.Ledger.mk a41 (D.Config.mk a42 a43 a44 a45) (D.Book.mk a46 a47) a52 a48 a49 a53 a54), 9))
 (cnd (decide (a40 ≠ (D.Op.K a50)))
 (some ((D.Ledger.mk a41 (D.Config.mk a42 a43 a44 a45) (D.Book.mk a46 a47) a52 a48 a49 a53 a54), 9))
 (J71 ((a37, ()), ((a41, (a42, (a43, (a44, (a45, (a46, (a47, (a48, (a49, ()))))))))), (a50, (a51, (a52, (a53, (a54, ()))))))))))
 (some ((D.Ledger.mk a41 (D.Config.mk a42 a43 a44 a45) (D.Book.mk a46 a47) a52 a48 a49 a53 a54), 9))))) fun J72 =>
 (cnd (decide ((D.Page.State a31) = 2))
 (J72 ((a18, (a35, (a36, ((-1), ())))), ((a20, (a21, (a22, (a23, (a24, (a25, (a26, (a27, (a28, ()))))))))), (a29, (a30, (a32, (a33, (a34, ()))))))))
 (J72 ((a18, (a35, (a36, ((D.Page.Next a31), ())))), ((a20, (a21, (a22, (a23, (a24, (a25, (a26, (a27, (a28, ()))))))))), (a29, (a30, (a32, (a33, (a34, ()))))))))))))) fun J73 =>
 (cnd (decide ((D.Op.Region p1) ≠ (D.Ledger.Owner p0)))
 (some (p0, 23))
 (cnd (decide ((D.Op.Fence p1) ≠ (D.Ledger.Fence p0)))
 (some (p0, 23))
 (J73 ((p2, (a1, ())), (((D.Ledger.Now p0), ((D.Config.Zones (D.Ledger.Config p0)), ((D.Config.People (D.Ledger.Config p0)), ((D.Config.Calendars (D.Ledger.Config p0)), ((D.Config.Schedules (D.Ledger.Config p0)), ((D.Book.Teams (D.Ledger.Book p0)), ((D.Book.Policies (D.Ledger.Book p0)), ((D.Ledger.Owner p0), ((D.Ledger.Fence p0), ()))))))))), (p1, ((D.Ledger.mk 0 (D.Config.mk [] [] [] []) (D.Book.mk [] []) [] 0 0 [] []), (a0, ((D.Ledger.Pages p0), ((D.Ledger.Seen p0), ((D.Ledger.Calls p0), ()))))))))))))
 (cnd (decide ((D.Op.Kind p1) = 4))
 (optc (r31_reply_0c7c10c11 fu p0 (D.Op.Answer p1) p2) fun (a74, a75) =>
 (some (a74, a75)))
 (cnd (decide ((D.Op.Kind p1) = 5))
 (iterF (X := ((Int × (Int × Unit)) × ((Int × (List D.Zone × (List D.Person × (List D.Calendar × (List D.Schedule × (List D.Team × (List D.Policy × (Int × (Int × Unit))))))))) × (D.Op × (D.Ledger × (List D.Page × (List Int × (List D.Call × Unit)))))))) (fun L76 ((a77, (a78, _)), ((a79, (a80, (a81, (a82, (a83, (a84, (a85, (a86, (a87, _))))))))), (a88, (a89, (a90, (a91, (a92, _))))))) =>
 (cnd (decide (a78 < (((List.length a90) : Nat) : Int)))
 (natc a78 fun a93 =>
 (ltc a93 (List.length a90) (optc (GetElem?.getElem? a90 a93) fun a94 =>
 (optc (r31_run_0c7c10c11 fu (D.Ledger.mk a79 (D.Config.mk a80 a81 a82 a83) (D.Book.mk a84 a85) a90 a86 a87 a91 a92) (D.Page.ID a94) a77) fun a95 =>
 (L76 ((a77, ((IntKind.wrap .i64 (a78 + 1)), ())), (((D.Ledger.Now a95), ((D.Config.Zones (D.Ledger.Config a95)), ((D.Config.People (D.Ledger.Config a95)), ((D.Config.Calendars (D.Ledger.Config a95)), ((D.Config.Schedules (D.Ledger.Config a95)), ((D.Book.Teams (D.Ledger.Book a95)), ((D.Book.Policies (D.Ledger.Book a95)), ((D.Ledger.Owner a95), ((D.Ledger.Fence a95), ()))))))))), (a88, (a89, ((D.Ledger.Pages a95), ((D.Ledger.Seen a95), ((D.Ledger.Calls a95), ()))))))))))))
 (optc (r13_Apply fu (D.Config.mk a80 a81 a82 a83) (D.Op.Schedule a88) (D.Op.Edit a88)) fun (a96, a97) =>
 (cnd (decide (a97 ≠ 0))
 (some ((D.Ledger.mk a79 (D.Config.mk a80 a81 a82 a83) (D.Book.mk a84 a85) a90 a86 a87 a91 a92), a97))
 (J15 ((), ((a79, ((D.Config.Zones a96), ((D.Config.People a96), ((D.Config.Calendars a96), ((D.Config.Schedules a96), (a84, (a85, (a86, (a87, ()))))))))), (a89, (a90, (a91, (a92, ()))))))))))) fu ((p2, (0, ())), (((D.Ledger.Now p0), ((D.Config.Zones (D.Ledger.Config p0)), ((D.Config.People (D.Ledger.Config p0)), ((D.Config.Calendars (D.Ledger.Config p0)), ((D.Config.Schedules (D.Ledger.Config p0)), ((D.Book.Teams (D.Ledger.Book p0)), ((D.Book.Policies (D.Ledger.Book p0)), ((D.Ledger.Owner p0), ((D.Ledger.Fence p0), ()))))))))), (p1, ((D.Ledger.mk 0 (D.Config.mk [] [] [] []) (D.Book.mk [] []) [] 0 0 [] []), ((D.Ledger.Pages p0), ((D.Ledger.Seen p0), ((D.Ledger.Calls p0), ()))))))))
 (J15 ((), (((D.Ledger.Now p0), ((D.Config.Zones (D.Ledger.Config p0)), ((D.Config.People (D.Ledger.Config p0)), ((D.Config.Calendars (D.Ledger.Config p0)), ((D.Config.Schedules (D.Ledger.Config p0)), ((D.Book.Teams (D.Ledger.Book p0)), ((D.Book.Policies (D.Ledger.Book p0)), ((D.Ledger.Owner p0), ((D.Ledger.Fence p0), ()))))))))), ((D.Ledger.mk 0 (D.Config.mk [] [] [] []) (D.Book.mk [] []) [] 0 0 [] []), ((D.Ledger.Pages p0), ((D.Ledger.Seen p0), ((D.Ledger.Calls p0), ()))))))))))))))
def r31_apply_0c7c10c11_g (fu : Nat) : Sig := mkSig [.agg [.num .i64, .lst .Zone, .lst .Person, .lst .Calendar, .lst .Schedule, .lst .Team, .lst .Policy, .own 101, .num .i64, .num .i64, .own 102, .own 103], .st .Op, nI] [(101, .arr .Page), (102, .arr .int), (103, .arr .Call)] [.agg [.num .i64, .lst .Zone, .lst .Person, .lst .Calendar, .lst .Schedule, .lst .Team, .lst .Policy, .own 101, .num .i64, .num .i64, .own 102, .own 103], nI] [(101, .arr .Page), (102, .arr .int), (103, .arr .Call)] [] (D.Ledger × Int) (fun q => (((q.1.Now, q.1.Config.Zones, q.1.Config.People, q.1.Config.Calendars, q.1.Config.Schedules, q.1.Book.Teams, q.1.Book.Policies, q.1.Owner, q.1.Fence, ()), q.2, ()), (q.1.Pages, q.1.Seen, q.1.Calls, ()))) (fun x y => r31_apply_0c7c10c11 fu (D.Ledger.mk x.1.1 (D.Config.mk x.1.2.1 x.1.2.2.1 x.1.2.2.2.1 x.1.2.2.2.2.1) (D.Book.mk x.1.2.2.2.2.2.1 x.1.2.2.2.2.2.2.1) y.1 x.1.2.2.2.2.2.2.2.1 x.1.2.2.2.2.2.2.2.2.1 y.2.1 y.2.2.1) x.2.1 x.2.2.1)
theorem r31_apply_0c7c10c11_ok (fu : Nat) : FnOK Tryz.prog 113 (r31_apply_0c7c10c11_g fu) :=
 FnOK.intro (ty := ty) (E := envL [(23, 0, r29_Due_g fu), (150, 0, r31_Find_0c7c10c11_g fu), (151, 0, r31_open_0c7c10c11_g fu), (152, 0, r31_run_0c7c10c11_g fu), (153, 0, r31_reply_0c7c10c11_g fu), (154, 0, r13_Apply_g fu)]) (fu := fu) (an := .two .go (.two .go (.two (.join [(3, .one (.ref 1003)), (6, .one (.ref 1006))] [(1003, .box [.num .i64, .lst .Zone, .lst .Person, .lst .Calendar, .lst .Schedule, .lst .Team, .lst .Policy, .own 101, .num .i64, .num .i64, .own 102, .own 103]), (1006, .boxst .Ledger), (101, .arr .Page), (102, .arr .int), (103, .arr .Call)] (.two .go (.one (.two .go (.two .go (.two .go (.two .go (.two .go (.two (.two (.join [(2, nI), (3, .one (.ref 1003)), (4, .one (.ref 1004)), (6, .one (.ref 1006)), (8, .one (.ref 1008)), (9, .one (.boo))] [(1003, .box [.num .i64, .lst .Zone, .lst .Person, .lst .Calendar, .lst .Schedule, .lst .Team, .lst .Policy, .own 101, .num .i64, .num .i64, .own 102, .own 103]), (1004, .boxst .Op), (1006, .boxst .Ledger), (1008, .boxst .Page), (101, .arr .Page), (102, .arr .int), (103, .arr .Call)] .go) (.two .go (.two .go (.two .go (.two (.join [(2, nI), (3, .one (.ref 1003)), (4, .one (.ref 1004)), (6, .one (.ref 1006)), (10, nI), (11, .one (.boo)), (12, nI)] [(1003, .box [.num .i64, .lst .Zone, .lst .Person, .lst .Calendar, .lst .Schedule, .lst .Team, .lst .Policy, .own 101, .num .i64, .num .i64, .own 102, .own 103]), (1004, .boxst .Op), (1006, .boxst .Ledger), (101, .arr .Page), (102, .arr .int), (103, .arr .Call)] .go) (.two (.join [(2, nI), (3, .one (.ref 1003)), (4, .one (.ref 1004)), (6, .one (.ref 1006))] [(1003, .box [.num .i64, .lst .Zone, .lst .Person, .lst .Calendar, .lst .Schedule, .lst .Team, .lst .Policy, .own 101, .num .i64, .num .i64, .own 102, .own 103]), (1004, .boxst .Op), (1006, .boxst .Ledger), (101, .arr .Page), (102, .arr .int), (103, .arr .Call)] .go) .go)))))) (.two .go (.two .go (.two .go (.two (.two (.two .go (.one (.loop [(2, nI), (3, .one (.ref 1003)), (4, .one (.ref 1004)), (6, .one (.ref 1006)), (13, nI)] [(1003, .box [.num .i64, .lst .Zone, .lst .Person, .lst .Calendar, .lst .Schedule, .lst .Team, .lst .Policy, .own 101, .num .i64, .num .i64, .own 102, .own 103]), (1004, .boxst .Op), (1006, .boxst .Ledger), (101, .arr .Page), (102, .arr .int), (103, .arr .Call)] .go))) .go) .go))))))))))))) .go))) (fun a b => ((D.Ledger.mk a.1.1 (D.Config.mk a.1.2.1 a.1.2.2.1 a.1.2.2.2.1 a.1.2.2.2.2.1) (D.Book.mk a.1.2.2.2.2.2.1 a.1.2.2.2.2.2.2.1) b.1 a.1.2.2.2.2.2.2.2.1 a.1.2.2.2.2.2.2.2.2.1 b.2.1 b.2.2.1), a.2.1)) (fun _ _ => rfl) (envL_ok ⟨r29_Due_ok fu, r31_Find_0c7c10c11_ok fu, r31_open_0c7c10c11_ok fu, r31_run_0c7c10c11_ok fu, r31_reply_0c7c10c11_ok fu, r13_Apply_ok fu, trivial⟩) Tryz.func113 rfl rfl (fun x y => by kernel_rfl)
def r31_Apply (fu : Nat) (p0 : D.Ledger) (p1 : D.Op) : Option (D.Ledger × Int) :=
 (join (Y := (Unit × (D.Ledger × (D.Op × (D.Ledger × Unit))))) (fun (_, (a0, (a1, (a2, _)))) =>
 (optc (r31_Copy fu a0) fun a3 =>
 (optc (r25_Has fu (D.Ledger.Seen a0) (D.Op.ID a1)) fun a4 =>
 (cnd a4
 (some (a3, 0))
 (cnd (decide (256 ≤ (((List.length (D.Ledger.Seen a0)) : Nat) : Int)))
 none
 (lec ((List.length (D.Ledger.Seen a3)) + (List.length ((D.Op.ID a1) :: []))) 34359738368 (optc (r31_apply_0c7c10c11 fu (D.Ledger.mk (max (D.Ledger.Now a0) (D.Op.At a1)) (D.Ledger.Config a3) (D.Ledger.Book a3) (D.Ledger.Pages a3) (D.Ledger.Owner a3) (D.Ledger.Fence a3) ((D.Ledger.Seen a3) ++ ((D.Op.ID a1) :: [])) (D.Ledger.Calls a3)) a1 (max (D.Ledger.Now a0) (D.Op.At a1))) fun (a5, a6) =>
 (some (a5, a6))))))))) fun J7 =>
 (optc (r31_Check fu p0) fun a8 =>
 (cnd a8
 (optc (r31_Valid fu p1) fun a9 =>
 (cnd a9
 (J7 ((), (p0, (p1, ((D.Ledger.mk 0 (D.Config.mk [] [] [] []) (D.Book.mk [] []) [] 0 0 [] []), ())))))
 none))
 none)))
def r31_Apply_g (fu : Nat) : Sig := mkSig [.st .Ledger, .st .Op] [] [.agg [.num .i64, .lst .Zone, .lst .Person, .lst .Calendar, .lst .Schedule, .lst .Team, .lst .Policy, .own 1018020, .num .i64, .num .i64, .own 1018025, .own 1018028], nI] [(1018020, .arr .Page), (1018025, .arr .int), (1018028, .arr .Call)] [] (D.Ledger × Int) (fun q => (((q.1.Now, q.1.Config.Zones, q.1.Config.People, q.1.Config.Calendars, q.1.Config.Schedules, q.1.Book.Teams, q.1.Book.Policies, q.1.Owner, q.1.Fence, ()), q.2, ()), (q.1.Pages, q.1.Seen, q.1.Calls, ()))) (fun x y => r31_Apply fu x.1 x.2.1)
theorem r31_Apply_ok (fu : Nat) : FnOK Tryz.prog 62 (r31_Apply_g fu) :=
 FnOK.intro (ty := ty) (E := envL [(21, 0, r31_Copy_g fu), (25, 0, r25_Has_g fu), (111, 0, r31_Check_g fu), (112, 0, r31_Valid_g fu), (113, 0, r31_apply_0c7c10c11_g fu)]) (fu := fu) (an := .two .go (.two (.join [(2, .one (.ref 1002)), (3, .one (.ref 1003)), (4, .one (.ref 1004))] [(1002, .boxst .Ledger), (1003, .boxst .Op), (1004, .boxst .Ledger)] .go) .go)) (fun a b => ((D.Ledger.mk a.1.1 (D.Config.mk a.1.2.1 a.1.2.2.1 a.1.2.2.2.1 a.1.2.2.2.2.1) (D.Book.mk a.1.2.2.2.2.2.1 a.1.2.2.2.2.2.2.1) b.1 a.1.2.2.2.2.2.2.2.1 a.1.2.2.2.2.2.2.2.2.1 b.2.1 b.2.2.1), a.2.1)) (fun _ _ => rfl) (envL_ok ⟨r31_Copy_ok fu, r25_Has_ok fu, r31_Check_ok fu, r31_Valid_ok fu, r31_apply_0c7c10c11_ok fu, trivial⟩) Tryz.func62 rfl rfl (fun x y => by kernel_rfl)
def audit_Pages_0c7c10c11 (fu : Nat) (p0 : D.Ledger) : Option (List Int) :=
 (iterF (X := ((Int × (Int × Unit)) × ((Int × (List D.Zone × (List D.Person × (List D.Calendar × (List D.Schedule × (List D.Team × (List D.Policy × (Int × (Int × Unit))))))))) × (List D.Page × (List Int × (List D.Call × (List Int × Unit))))))) (fun L0 ((a1, (a2, _)), ((a3, (a4, (a5, (a6, (a7, (a8, (a9, (a10, (a11, _))))))))), (a12, (a13, (a14, (a15, _)))))) =>
 (cnd (decide (a2 < a1))
 (natc a2 fun a16 =>
 (ltc a16 (List.length a12) (optc (GetElem?.getElem? a12 a16) fun a17 =>
 (optc (audit_Steps fu (D.Book.mk a8 a9) a17) fun a18 =>
 (optc (audit_findings_0 fu a15 (D.Page.ID a17) ((!a18) :: [])) fun a19 =>
 (L0 ((a1, ((IntKind.wrap .i64 (a2 + 1)), ())), ((a3, (a4, (a5, (a6, (a7, (a8, (a9, (a10, (a11, ()))))))))), (a12, (a13, (a14, (a19, ()))))))))))))
 (optc (slices_Sort_int_0 fu a15) fun a20 =>
 (chk (List.length a20) (List.length a15) (sameC a12 (D.Ledger.Pages p0) (sameC a13 (D.Ledger.Seen p0) (sameC a14 (D.Ledger.Calls p0) (some a20)))))))) fu (((((List.length (D.Ledger.Pages p0)) : Nat) : Int), (0, ())), (((D.Ledger.Now p0), ((D.Config.Zones (D.Ledger.Config p0)), ((D.Config.People (D.Ledger.Config p0)), ((D.Config.Calendars (D.Ledger.Config p0)), ((D.Config.Schedules (D.Ledger.Config p0)), ((D.Book.Teams (D.Ledger.Book p0)), ((D.Book.Policies (D.Ledger.Book p0)), ((D.Ledger.Owner p0), ((D.Ledger.Fence p0), ()))))))))), ((D.Ledger.Pages p0), ((D.Ledger.Seen p0), ((D.Ledger.Calls p0), ([], ())))))))
def audit_Pages_0c7c10c11_g (fu : Nat) : Sig := mkSig [.agg [.num .i64, .lst .Zone, .lst .Person, .lst .Calendar, .lst .Schedule, .lst .Team, .lst .Policy, .own 101, .num .i64, .num .i64, .own 102, .own 103]] [(101, .arr .Page), (102, .arr .int), (103, .arr .Call)] [.one (.lst .int)] [] [101, 102, 103] (List Int) (fun q => ((q, ()), ())) (fun x y => audit_Pages_0c7c10c11 fu (D.Ledger.mk x.1.1 (D.Config.mk x.1.2.1 x.1.2.2.1 x.1.2.2.2.1 x.1.2.2.2.2.1) (D.Book.mk x.1.2.2.2.2.2.1 x.1.2.2.2.2.2.2.1) y.1 x.1.2.2.2.2.2.2.2.1 x.1.2.2.2.2.2.2.2.2.1 y.2.1 y.2.2.1))
theorem audit_Pages_0c7c10c11_ok (fu : Nat) : FnOK Tryz.prog 20 (audit_Pages_0c7c10c11_g fu) :=
 FnOK.intro (ty := ty) (E := envL [(39, 0, audit_Steps_g fu), (64, 0, audit_findings_0_g fu), (65, 0, slices_Sort_int_0_g fu)]) (fu := fu) (an := .two .go (.two .go (.two (.two .go (.one (.loop [(1, .one (.ref 1001)), (3, .one (.own 2022101)), (7, .one (.own 101)), (8, nI), (9, nI)] [(1001, .box [.num .i64, .lst .Zone, .lst .Person, .lst .Calendar, .lst .Schedule, .lst .Team, .lst .Policy, .own 101, .num .i64, .num .i64, .own 102, .own 103]), (101, .arr .Page), (102, .arr .int), (103, .arr .Call), (2022101, .arr .int)] .go))) .go))) (fun a b => a.1) (fun _ _ => rfl) (envL_ok ⟨audit_Steps_ok fu, audit_findings_0_ok fu, slices_Sort_int_0_ok fu, trivial⟩) Tryz.func20 rfl rfl (fun x y => by kernel_rfl)
def law45_sane (fu : Nat) : Option (Bool) :=
 (optc (made_Roll fu []) fun a0 =>
 (optc (made_Dice_Crew fu a0) fun (a1, a2) =>
 (optc (made_Roll fu (0 :: (0 :: (0 :: (0 :: (0 :: (0 :: []))))))) fun a3 =>
 (optc (made_Dice_Book fu a3) fun (a4, a5) =>
 (optc (r31_New fu a1 a4) fun (a6, a7) =>
 (optc (r31_Apply fu a6 (D.Op.mk 1 1 0 0 864000 4 0 0 0 (D.Answer.mk 0 0 0 0 0 0) (D.Edit.mk 0 0 0 0 0))) fun (a8, a9) =>
 (join (Y := (Unit × ((Int × (List D.Zone × (List D.Person × (List D.Calendar × (List D.Schedule × (List D.Team × (List D.Policy × (Int × (Int × Unit))))))))) × (List D.Page × (List Int × (List D.Call × Unit)))))) (fun (_, ((a10, (a11, (a12, (a13, (a14, (a15, (a16, (a17, (a18, _))))))))), (a19, (a20, (a21, _))))) =>
 (join (Y := ((Bool × Unit) × ((Int × (List D.Zone × (List D.Person × (List D.Calendar × (List D.Schedule × (List D.Team × (List D.Policy × (Int × (Int × Unit))))))))) × (List D.Page × (List Int × (List D.Call × Unit)))))) (fun ((a22, _), ((a23, (a24, (a25, (a26, (a27, (a28, (a29, (a30, (a31, _))))))))), (a32, (a33, (a34, _))))) =>
 (natc 0 fun a35 =>
 (ltc a35 (List.length a32) (optc (GetElem?.getElem? a32 a35) fun a36 =>
 (natc 0 fun a37 =>
 (ltc a37 (List.length (List.set a32 a35 (D.Page.mk (D.Page.ID a36) (D.Page.Policy a36) (D.Page.Start a36) (D.Page.Next a36) (D.Page.Due a36) (D.Page.State a36) (D.Page.By a36) (D.Page.Until a36) (D.Page.Last a36) (D.Page.Snoozes a36) (D.Page.Hands a36) ((D.Start.mk 0 864000 []) :: ((D.Start.mk 2 864000 []) :: [])) (D.Page.Declined a36) (D.Page.Seen a36)))) (optc (GetElem?.getElem? (List.set a32 a35 (D.Page.mk (D.Page.ID a36) (D.Page.Policy a36) (D.Page.Start a36) (D.Page.Next a36) (D.Page.Due a36) (D.Page.State a36) (D.Page.By a36) (D.Page.Until a36) (D.Page.Last a36) (D.Page.Snoozes a36) (D.Page.Hands a36) ((D.Start.mk 0 864000 []) :: ((D.Start.mk 2 864000 []) :: [])) (D.Page.Declined a36) (D.Page.Seen a36))) a37) fun a38 =>
 (cnd a22
 (optc (audit_Pages_0c7c10c11 fu (D.Ledger.mk a23 (D.Config.mk a24 a25 a26 a27) (D.Book.mk a28 a29) (List.set (List.set a32 a35 (D.Page.mk (D.Page.ID a36) (D.Page.Policy a36) (D.Page.Start a36) (D.Page.Next a36) (D.Page.Due a36) (D.Page.State a36) (D.Page.By a36) (D.Page.Until a36) (D.Page.Last a36) (D.Page.Snoozes a36) (D.Page.Hands a36) ((D.Start.mk 0 864000 []) :: ((D.Start.mk 2 864000 []) :: [])) (D.Page.Declined a36) (D.Page.Seen a36))) a37 (D.Page.mk (D.Page.ID a38) (D.Page.Policy a38) (D.Page.Start a38) 1 (D.Page.Due a38) (D.Page.State a38) (D.Page.By a38) (D.Page.Until a38) (D.Page.Last a38) (D.Page.Snoozes a38) (D.Page.Hands a38) (D.Page.Starts a38) (D.Page.Declined a38) (D.Page.Seen a38))) a30 a31 a33 a34)) fun a39 =>
 (optc (r25_Same fu a39 (4 :: [])) fun a40 =>
 (cnd a40
 (some true)
 (some false))))
 (some false))))))))) fun J41 =>
 (optc (audit_Pages_0c7c10c11 fu (D.Ledger.mk a10 (D.Config.mk a11 a12 a13 a14) (D.Book.mk a15 a16) a19 a17 a18 a20 a21)) fun a42 =>
 (cnd (decide ((((List.length a42) : Nat) : Int) = 0))
 (natc 0 fun a43 =>
 (ltc a43 (List.length a19) (optc (GetElem?.getElem? a19 a43) fun a44 =>
 (optc (audit_Steps fu (D.Book.mk a15 a16) a44) fun a45 =>
 (cnd a45
 (J41 ((true, ()), ((a10, (a11, (a12, (a13, (a14, (a15, (a16, (a17, (a18, ()))))))))), (a19, (a20, (a21, ()))))))
 (J41 ((false, ()), ((a10, (a11, (a12, (a13, (a14, (a15, (a16, (a17, (a18, ()))))))))), (a19, (a20, (a21, ())))))))))))
 (J41 ((false, ()), ((a10, (a11, (a12, (a13, (a14, (a15, (a16, (a17, (a18, ()))))))))), (a19, (a20, (a21, ())))))))))) fun J46 =>
 (cnd (decide (a9 ≠ 0))
 (some false)
 (cnd (decide ((((List.length (D.Ledger.Pages a8)) : Nat) : Int) ≠ 1))
 (some false)
 (J46 ((), (((D.Ledger.Now a8), ((D.Config.Zones (D.Ledger.Config a8)), ((D.Config.People (D.Ledger.Config a8)), ((D.Config.Calendars (D.Ledger.Config a8)), ((D.Config.Schedules (D.Ledger.Config a8)), ((D.Book.Teams (D.Ledger.Book a8)), ((D.Book.Policies (D.Ledger.Book a8)), ((D.Ledger.Owner a8), ((D.Ledger.Fence a8), ()))))))))), ((D.Ledger.Pages a8), ((D.Ledger.Seen a8), ((D.Ledger.Calls a8), ())))))))))))))))
def law45_sane_g (fu : Nat) : Sig := mkSig [] [] [.one (.boo)] [] [] (Bool) (fun q => ((q, ()), ())) (fun x y => law45_sane fu)
theorem law45_sane_ok (fu : Nat) : FnOK Tryz.prog 16 (law45_sane_g fu) :=
 FnOK.intro (ty := ty) (E := envL [(17, 0, made_Roll_g fu), (20, 0, audit_Pages_0c7c10c11_g fu), (22, 0, r25_Same_g fu), (30, 0, made_Dice_Crew_g fu), (31, 0, made_Dice_Book_g fu), (39, 0, audit_Steps_g fu), (61, 0, r31_New_g fu), (62, 0, r31_Apply_g fu)]) (fu := fu) (an := .two .go (.two .go (.two .go (.two (.join [(1, .one (.ref 1001))] [(1001, .box [.num .i64, .lst .Zone, .lst .Person, .lst .Calendar, .lst .Schedule, .lst .Team, .lst .Policy, .own 2035020, .num .i64, .num .i64, .own 2035025, .own 2035028]), (2035020, .arr .Page), (2035025, .arr .int), (2035028, .arr .Call)] .go) (.two (.join [(1, .one (.ref 1001)), (4, .one (.boo))] [(1001, .box [.num .i64, .lst .Zone, .lst .Person, .lst .Calendar, .lst .Schedule, .lst .Team, .lst .Policy, .own 2035020, .num .i64, .num .i64, .own 2035025, .own 2035028]), (2035020, .arr .Page), (2035025, .arr .int), (2035028, .arr .Call)] .go) .go))))) (fun a b => a.1) (fun _ _ => rfl) (envL_ok ⟨made_Roll_ok fu, audit_Pages_0c7c10c11_ok fu, r25_Same_ok fu, made_Dice_Crew_ok fu, made_Dice_Book_ok fu, audit_Steps_ok fu, r31_New_ok fu, r31_Apply_ok fu, trivial⟩) Tryz.func16 rfl rfl (fun x y => by kernel_rfl)
def made_Dice_Answer (fu : Nat) (p0 : D.Dice) (p1 : Int) (p2 : Int) (p3 : Int) : Option (D.Answer × D.Dice) :=
 (optc (made_Dice_Next fu p0 5) fun (a0, a1) =>
 (optc (made_Dice_Next fu a1 5) fun (a2, a3) =>
 (join (Y := (Unit × (D.Answer × (D.Answer × (D.Dice × Unit))))) (fun (_, (a4, (a5, (a6, _)))) =>
 (some (a5, a6))) fun J7 =>
 (cnd (decide ((IntKind.wrap .i64 (1 + a2)) = 3))
 (optc (made_Dice_One fu a3 (1 :: (60 :: (600 :: (5000 :: []))))) fun (a8, a9) =>
 (J7 ((), ((D.Answer.mk 0 0 0 0 0 0), ((D.Answer.mk p1 p2 (IntKind.wrap .i64 (a0 - 1)) (IntKind.wrap .i64 (1 + a2)) a8 p3), (a9, ()))))))
 (cnd (decide ((IntKind.wrap .i64 (1 + a2)) = 4))
 (optc (made_Dice_Next fu a3 4) fun (a10, a11) =>
 (J7 ((), ((D.Answer.mk 0 0 0 0 0 0), ((D.Answer.mk p1 p2 (IntKind.wrap .i64 (a0 - 1)) (IntKind.wrap .i64 (1 + a2)) a10 p3), (a11, ()))))))
 (J7 ((), ((D.Answer.mk 0 0 0 0 0 0), ((D.Answer.mk p1 p2 (IntKind.wrap .i64 (a0 - 1)) (IntKind.wrap .i64 (1 + a2)) 0 p3), (a3, ()))))))))))
def made_Dice_Answer_g (fu : Nat) : Sig := mkSig [.one (.ref 1), nI, nI, nI] [(1, .boxst .Dice)] [.st .Answer] [(1, .boxst .Dice)] [] (D.Answer × D.Dice) (fun q => ((q.1, ()), (q.2, ()))) (fun x y => made_Dice_Answer fu y.1 x.1 x.2.1 x.2.2.1)
theorem made_Dice_Answer_ok (fu : Nat) : FnOK Tryz.prog 51 (made_Dice_Answer_g fu) :=
 FnOK.intro (ty := ty) (E := envL [(32, 0, made_Dice_Next_g fu), (48, 0, made_Dice_One_g fu)]) (fu := fu) (an := .two .go (.two .go (.two (.join [(8, .one (.ref 1008)), (9, .one (.ref 1009))] [(1008, .boxst .Answer), (1009, .boxst .Answer), (1, .boxst .Dice)] .go) .go))) (fun a b => (a.1, b.1)) (fun _ _ => rfl) (envL_ok ⟨made_Dice_Next_ok fu, made_Dice_One_ok fu, trivial⟩) Tryz.func51 rfl rfl (fun x y => by kernel_rfl)
def r31_Waiting (fu : Nat) (p0 : D.Ledger) (p1 : Int) : Option (List D.Start) :=
 (join (Y := (Unit × (List D.Start × Unit))) (fun (_, (a0, _)) =>
 (some a0)) fun J1 =>
 (iterF (X := ((Int × (Int × Unit)) × (D.Ledger × (List D.Start × Unit)))) (fun L2 ((a3, (a4, _)), (a5, (a6, _))) =>
 (join (Y := ((Int × (Int × Unit)) × (D.Ledger × (List D.Start × Unit)))) (fun ((a7, (a8, _)), (a9, (a10, _))) =>
 (join (Y := ((Int × (Int × Unit)) × (D.Ledger × (List D.Start × Unit)))) (fun ((a11, (a12, _)), (a13, (a14, _))) =>
 (L2 ((a11, ((IntKind.wrap .i64 (a12 + 1)), ())), (a13, (a14, ()))))) fun J15 =>
 (atc (D.Ledger.Pages a9) a8 fun a16 =>
 (optc (r29_Due fu a16) fun (a17, a18) =>
 (cnd a18
 (cnd (decide (a17 ≤ a7))
 (atc (D.Ledger.Pages a9) a8 fun a19 =>
 (lec ((List.length a10) + (List.length ((D.Start.mk (D.Page.ID a19) a17 []) :: []))) 34359738368 (J15 ((a7, (a8, ())), (a9, ((a10 ++ ((D.Start.mk (D.Page.ID a19) a17 []) :: [])), ()))))))
 (J15 ((a7, (a8, ())), (a9, (a10, ())))))
 (J15 ((a7, (a8, ())), (a9, (a10, ()))))))))) fun J20 =>
 (cnd (decide (a4 < (((List.length (D.Ledger.Pages a5)) : Nat) : Int)))
 (optc (r31_Check fu a5) fun a21 =>
 (cnd a21
 (J20 ((a3, (a4, ())), (a5, (a6, ()))))
 (J1 ((), (a6, ())))))
 (J1 ((), (a6, ())))))) fu ((p1, (0, ())), (p0, ([], ())))))
def r31_Waiting_g (fu : Nat) : Sig := mkSig [.st .Ledger, nI] [] [.one (.lst .Start)] [] [] (List D.Start) (fun q => ((q, ()), ())) (fun x y => r31_Waiting fu x.1 x.2.1)
theorem r31_Waiting_ok (fu : Nat) : FnOK Tryz.prog 155 (r31_Waiting_g fu) :=
 FnOK.intro (ty := ty) (E := envL [(23, 0, r29_Due_g fu), (111, 0, r31_Check_g fu)]) (fu := fu) (an := .two .go (.two .go (.two (.join [(5, .one (.own 1045))] [(1045, .arr .Start)] (.two .go (.one (.loop [(1, nI), (2, .one (.ref 1002)), (5, .one (.own 1045)), (6, nI)] [(1002, .boxst .Ledger), (1045, .arr .Start)] (.two (.join [(1, nI), (2, .one (.ref 1002)), (5, .one (.own 1045)), (6, nI)] [(1002, .boxst .Ledger), (1045, .arr .Start)] .go) (.two (.join [(1, nI), (2, .one (.ref 1002)), (5, .one (.own 1045)), (6, nI)] [(1002, .boxst .Ledger), (1045, .arr .Start)] .go) .go)))))) .go))) (fun a b => a.1) (fun _ _ => rfl) (envL_ok ⟨r29_Due_ok fu, r31_Check_ok fu, trivial⟩) Tryz.func155 rfl rfl (fun x y => by kernel_rfl)
def made_Dice_Op (fu : Nat) (p0 : D.Dice) (p1 : D.Ledger) (p2 : Int) (p3 : Int) : Option (D.Op × D.Dice) :=
 (optc (made_Dice_Next fu p0 5) fun (a0, a1) =>
 (optc (made_Dice_Next fu a1 3) fun (a2, a3) =>
 (optc (made_Dice_Next fu a3 3) fun (a4, a5) =>
 (join (Y := (Unit × (D.Op × (D.Op × (D.Dice × Unit))))) (fun (_, (a6, (a7, (a8, _)))) =>
 (some (a7, a8))) fun J9 =>
 (cnd (decide ((IntKind.wrap .i64 (1 + a0)) = 1))
 (optc (made_Dice_Next fu a5 2) fun (a10, a11) =>
 (optc (made_Dice_Next fu a11 (IntKind.wrap .i64 ((IntKind.wrap .i64 ((((List.length (D.Book.Policies (D.Ledger.Book p1))) : Nat) : Int) + 1)) - a10))) fun (a12, a13) =>
 (J9 ((), ((D.Op.mk 0 0 0 0 0 0 0 0 0 (D.Answer.mk 0 0 0 0 0 0) (D.Edit.mk 0 0 0 0 0)), ((D.Op.mk p2 (IntKind.wrap .i64 (1 + a0)) a2 (D.Ledger.Fence p1) p3 (IntKind.wrap .i64 (1 + a4)) 0 a12 0 (D.Answer.mk 0 0 0 0 0 0) (D.Edit.mk 0 0 0 0 0)), (a13, ())))))))
 (cnd (decide ((IntKind.wrap .i64 (1 + a0)) = 2))
 (optc (made_Dice_One fu a5 (1 :: (1 :: (1 :: (0 :: []))))) fun (a14, a15) =>
 (J9 ((), ((D.Op.mk 0 0 0 0 0 0 0 0 0 (D.Answer.mk 0 0 0 0 0 0) (D.Edit.mk 0 0 0 0 0)), ((D.Op.mk p2 (IntKind.wrap .i64 (1 + a0)) a2 (IntKind.wrap .i64 ((D.Ledger.Fence p1) + a14)) p3 0 0 0 0 (D.Answer.mk 0 0 0 0 0 0) (D.Edit.mk 0 0 0 0 0)), (a15, ()))))))
 (cnd (decide ((IntKind.wrap .i64 (1 + a0)) = 3))
 (join (Y := ((Int × (Int × Unit)) × (D.Dice × (D.Ledger × (D.Op × (D.Op × Unit)))))) (fun ((a16, (a17, _)), (a18, (a19, (a20, (a21, _))))) =>
 (join (Y := ((Int × (Int × Unit)) × (D.Dice × (D.Ledger × (D.Op × (D.Op × Unit)))))) (fun ((a22, (a23, _)), (a24, (a25, (a26, (a27, _))))) =>
 (join (Y := (Unit × (D.Ledger × (D.Op × (D.Op × (D.Dice × Unit)))))) (fun (_, (a28, (a29, (a30, (a31, _))))) =>
 (optc (r31_Find fu a28 (D.Op.Page a30)) fun (a32, a33) =>
 (cnd a33
 (cnd (decide ((D.Page.State a32) = 2))
 (J9 ((), (a29, ((D.Op.mk (D.Op.ID a30) (D.Op.Kind a30) (D.Op.Region a30) (D.Op.Fence a30) (D.Op.At a30) (D.Op.Page a30) (-1) (D.Op.Policy a30) (D.Op.Schedule a30) (D.Op.Answer a30) (D.Op.Edit a30)), (a31, ())))))
 (J9 ((), (a29, ((D.Op.mk (D.Op.ID a30) (D.Op.Kind a30) (D.Op.Region a30) (D.Op.Fence a30) (D.Op.At a30) (D.Op.Page a30) (D.Page.Next a32) (D.Op.Policy a30) (D.Op.Schedule a30) (D.Op.Answer a30) (D.Op.Edit a30)), (a31, ()))))))
 (J9 ((), (a29, (a30, (a31, ())))))))) fun J34 =>
 (optc (r31_Waiting fu a25 a22) fun a35 =>
 (cnd (decide (0 < (((List.length a35) : Nat) : Int)))
 (optc (made_Dice_Next fu a24 (((List.length a35) : Nat) : Int)) fun (a36, a37) =>
 (atc a35 a36 fun a38 =>
 (J34 ((), (a25, (a26, ((D.Op.mk (D.Op.ID a27) (D.Op.Kind a27) (D.Op.Region a27) (D.Op.Fence a27) (D.Op.At a27) (D.Start.K a38) (D.Op.K a27) (D.Op.Policy a27) (D.Op.Schedule a27) (D.Op.Answer a27) (D.Op.Edit a27)), (a37, ()))))))))
 (J34 ((), (a25, (a26, ((D.Op.mk (D.Op.ID a27) (D.Op.Kind a27) (D.Op.Region a27) (D.Op.Fence a27) (D.Op.At a27) a23 (D.Op.K a27) (D.Op.Policy a27) (D.Op.Schedule a27) (D.Op.Answer a27) (D.Op.Edit a27)), (a24, ())))))))))) fun J39 =>
 (optc (made_Dice_Next fu a18 8) fun (a40, a41) =>
 (cnd (decide (a40 = 0))
 (optc (made_Dice_Next fu a41 3) fun (a42, a43) =>
 (J39 ((a16, (a17, ())), (a43, (a19, (a20, ((D.Op.mk (D.Op.ID a21) (D.Op.Kind a21) (D.Op.Region a21) a42 (D.Op.At a21) (D.Op.Page a21) (D.Op.K a21) (D.Op.Policy a21) (D.Op.Schedule a21) (D.Op.Answer a21) (D.Op.Edit a21)), ())))))))
 (J39 ((a16, (a17, ())), (a41, (a19, (a20, (a21, ())))))))))) fun J44 =>
 (optc (made_Dice_Next fu a5 6) fun (a45, a46) =>
 (cnd (decide (a45 = 0))
 (optc (made_Dice_Next fu a46 3) fun (a47, a48) =>
 (J44 ((p3, ((IntKind.wrap .i64 (1 + a4)), ())), (a48, (p1, ((D.Op.mk 0 0 0 0 0 0 0 0 0 (D.Answer.mk 0 0 0 0 0 0) (D.Edit.mk 0 0 0 0 0)), ((D.Op.mk p2 (IntKind.wrap .i64 (1 + a0)) a47 (D.Ledger.Fence p1) p3 0 0 0 0 (D.Answer.mk 0 0 0 0 0 0) (D.Edit.mk 0 0 0 0 0)), ())))))))
 (J44 ((p3, ((IntKind.wrap .i64 (1 + a4)), ())), (a46, (p1, ((D.Op.mk 0 0 0 0 0 0 0 0 0 (D.Answer.mk 0 0 0 0 0 0) (D.Edit.mk 0 0 0 0 0)), ((D.Op.mk p2 (IntKind.wrap .i64 (1 + a0)) (max (D.Ledger.Owner p1) 0) (D.Ledger.Fence p1) p3 0 0 0 0 (D.Answer.mk 0 0 0 0 0 0) (D.Edit.mk 0 0 0 0 0)), ())))))))))
 (cnd (decide ((IntKind.wrap .i64 (1 + a0)) = 4))
 (optc (made_Dice_Next fu a5 30) fun (a49, a50) =>
 (optc (made_Dice_Answer fu a50 (IntKind.wrap .i64 (1 + a49)) (IntKind.wrap .i64 (1 + a4)) p3) fun (a51, a52) =>
 (J9 ((), ((D.Op.mk 0 0 0 0 0 0 0 0 0 (D.Answer.mk 0 0 0 0 0 0) (D.Edit.mk 0 0 0 0 0)), ((D.Op.mk p2 (IntKind.wrap .i64 (1 + a0)) a2 (D.Ledger.Fence p1) p3 0 0 0 0 a51 (D.Edit.mk 0 0 0 0 0)), (a52, ())))))))
 (cnd (decide ((IntKind.wrap .i64 (1 + a0)) = 5))
 (optc (made_Dice_Next fu a5 3) fun (a53, a54) =>
 (optc (made_Dice_Override fu a54) fun (a55, a56) =>
 (J9 ((), ((D.Op.mk 0 0 0 0 0 0 0 0 0 (D.Answer.mk 0 0 0 0 0 0) (D.Edit.mk 0 0 0 0 0)), ((D.Op.mk p2 (IntKind.wrap .i64 (1 + a0)) a2 (D.Ledger.Fence p1) p3 0 0 0 a53 (D.Answer.mk 0 0 0 0 0 0) a55), (a56, ())))))))
 (J9 ((), ((D.Op.mk 0 0 0 0 0 0 0 0 0 (D.Answer.mk 0 0 0 0 0 0) (D.Edit.mk 0 0 0 0 0)), ((D.Op.mk p2 (IntKind.wrap .i64 (1 + a0)) a2 (D.Ledger.Fence p1) p3 0 0 0 0 (D.Answer.mk 0 0 0 0 0 0) (D.Edit.mk 0 0 0 0 0)), (a5, ()))))))))))))))
def made_Dice_Op_g (fu : Nat) : Sig := mkSig [.one (.ref 1), .st .Ledger, nI, nI] [(1, .boxst .Dice)] [.st .Op] [(1, .boxst .Dice)] [] (D.Op × D.Dice) (fun q => ((q.1, ()), (q.2, ()))) (fun x y => made_Dice_Op fu y.1 x.1 x.2.1 x.2.2.1)
theorem made_Dice_Op_ok (fu : Nat) : FnOK Tryz.prog 114 (made_Dice_Op_g fu) :=
 FnOK.intro (ty := ty) (E := envL [(32, 0, made_Dice_Next_g fu), (48, 0, made_Dice_One_g fu), (51, 0, made_Dice_Answer_g fu), (74, 0, made_Dice_Override_g fu), (150, 0, r31_Find_g fu), (155, 0, r31_Waiting_g fu)]) (fu := fu) (an := .two .go (.two .go (.two .go (.two (.join [(8, .one (.ref 1008)), (9, .one (.ref 1009))] [(1008, .boxst .Op), (1009, .boxst .Op), (1, .boxst .Dice)] (.two .go (.one (.two .go (.two .go (.two .go (.two .go (.two .go (.two (.two .go (.two (.join [(0, .one (.ref 1)), (3, nI), (5, .one (.ref 1005)), (8, .one (.ref 1008)), (9, .one (.ref 1009)), (10, nI)] [(1, .boxst .Dice), (1005, .boxst .Ledger), (1008, .boxst .Op), (1009, .boxst .Op)] .go) (.two (.join [(0, .one (.ref 1)), (3, nI), (5, .one (.ref 1005)), (8, .one (.ref 1008)), (9, .one (.ref 1009)), (10, nI)] [(1, .boxst .Dice), (1005, .boxst .Ledger), (1008, .boxst .Op), (1009, .boxst .Op)] .go) (.two .go (.two (.join [(5, .one (.ref 1005)), (8, .one (.ref 1008)), (9, .one (.ref 1009))] [(1005, .boxst .Ledger), (1008, .boxst .Op), (1009, .boxst .Op), (1, .boxst .Dice)] .go) .go))))) .go))))))))) .go)))) (fun a b => (a.1, b.1)) (fun _ _ => rfl) (envL_ok ⟨made_Dice_Next_ok fu, made_Dice_One_ok fu, made_Dice_Answer_ok fu, made_Dice_Override_ok fu, r31_Find_ok fu, r31_Waiting_ok fu, trivial⟩) Tryz.func114 rfl rfl (fun x y => by kernel_rfl)
def made_Dice_Grow (fu : Nat) (p0 : D.Dice) (p1 : D.Ledger) (p2 : Int) : Option (D.Ledger × List D.Op × D.Dice) :=
 (iterF (X := (P4 × (D.Dice × (D.Ledger × (P3 × Unit))))) (fun L0 ((a1, (a2, (a3, (a4, _)))), (a5, (a6, ((a7, (a8, (a9, _))), _)))) =>
 (cnd (decide (a4 < (((List.length (D.Ledger.Seen a6)) : Nat) : Int)))
 (atc (D.Ledger.Seen a6) a4 fun a10 =>
 (L0 ((a1, (a2, ((max a3 (IntKind.wrap .i64 (a10 + 1))), ((IntKind.wrap .i64 (a4 + 1)), ())))), (a5, (a6, ((a7, (a8, (a9, ()))), ()))))))
 (optc (made_Dice_Next fu a5 (IntKind.wrap .i64 (a1 + 1))) fun (a11, a12) =>
 (iterF (X := (P3 × (D.Dice × (D.Ledger × (P3 × (List D.Op × Unit)))))) (fun L13 ((a14, (a15, (a16, _))), (a17, (a18, ((a19, (a20, (a21, _))), (a22, _))))) =>
 (cnd (decide (0 < a16))
 (optc (made_Dice_One fu a17 (0 :: (10 :: (60 :: (300 :: (700 :: [])))))) fun (a23, a24) =>
 (optc (made_Dice_Op fu a24 a18 a15 (IntKind.wrap .i64 (a14 + a23))) fun (a25, a26) =>
 (join (Y := (P3 × (D.Dice × (D.Ledger × (P3 × (D.Op × (List D.Op × Unit))))))) (fun ((a27, (a28, (a29, _))), (a30, (a31, ((a32, (a33, (a34, _))), (a35, (a36, _)))))) =>
 (lec ((List.length a36) + (List.length (a35 :: []))) 34359738368 (L13 ((a27, (a28, ((IntKind.wrap .i64 (a29 - 1)), ()))), (a30, (a31, ((a32, (a33, (a34, ()))), ((a36 ++ (a35 :: [])), ())))))))) fun J37 =>
 (optc (r31_Apply fu a18 a25) fun (a38, a39) =>
 (optc (r31_Check fu a38) fun a40 =>
 (cnd a40
 (J37 (((IntKind.wrap .i64 (a14 + a23)), ((IntKind.wrap .i64 (a15 + 1)), (a16, ()))), (a26, (a38, ((a19, (a20, (a21, ()))), (a25, (a22, ())))))))
 (J37 (((IntKind.wrap .i64 (a14 + a23)), ((IntKind.wrap .i64 (a15 + 1)), (a16, ()))), (a26, (a18, ((a19, (a20, (a21, ()))), (a25, (a22, ())))))))))))))
 (some (a18, (a22, a17))))) fu ((a2, (a3, (a11, ()))), (a12, (a6, ((a7, (a8, (a9, ()))), ([], ()))))))))) fu ((p2, ((max (D.Ledger.Now p1) 864000), (1, (0, ())))), (p0, (p1, ((0, (0, (0, ()))), ())))))
def made_Dice_Grow_g (fu : Nat) : Sig := mkSig [.one (.ref 1), .st .Ledger, nI] [(1, .boxst .Dice)] [.st .Ledger, .one (.lst .Op)] [(1, .boxst .Dice)] [] (D.Ledger × List D.Op × D.Dice) (fun q => ((q.1, q.2.1, ()), (q.2.2, ()))) (fun x y => made_Dice_Grow fu y.1 x.1 x.2.1)
theorem made_Dice_Grow_ok (fu : Nat) : FnOK Tryz.prog 63 (made_Dice_Grow_g fu) :=
 FnOK.intro (ty := ty) (E := envL [(32, 0, made_Dice_Next_g fu), (48, 0, made_Dice_One_g fu), (62, 0, r31_Apply_g fu), (111, 0, r31_Check_g fu), (114, 0, made_Dice_Op_g fu)]) (fu := fu) (an := .two .go (.two .go (.two .go (.two .go (.two (.two .go (.one (.loop [(0, .one (.ref 1)), (2, nI), (4, .one (.ref 1004)), (6, .one (.ref 1006)), (8, .one (.nul)), (9, nI), (10, nI), (11, nI)] [(1, .boxst .Dice), (1004, .boxst .Ledger), (1006, .box [.num .i64, .nul, .nul, .nul, .nul, .nul, .nul, .nul, .num .i64, .num .i64, .nul, .nul])] .go))) (.two (.two .go (.one (.loop [(0, .one (.ref 1)), (4, .one (.ref 1004)), (6, .one (.ref 1006)), (8, .one (.own 1066)), (9, nI), (10, nI), (12, nI)] [(1, .boxst .Dice), (1004, .boxst .Ledger), (1006, .box [.num .i64, .nul, .nul, .nul, .nul, .nul, .nul, .nul, .num .i64, .num .i64, .nul, .nul]), (1066, .arr .Op)] (.two .go (.two (.one (.two .go (.two .go (.two .go (.two (.join [(0, .one (.ref 1)), (4, .one (.ref 1004)), (6, .one (.ref 1006)), (8, .one (.own 1066)), (9, nI), (10, nI), (12, nI), (13, .one (.ref 1013))] [(1, .boxst .Dice), (1004, .boxst .Ledger), (1006, .box [.num .i64, .nul, .nul, .nul, .nul, .nul, .nul, .nul, .num .i64, .num .i64, .nul, .nul]), (1013, .boxst .Op), (1066, .arr .Op)] .go) .go))))) .go))))) .go)))))) (fun a b => (a.1, a.2.1, b.1)) (fun _ _ => rfl) (envL_ok ⟨made_Dice_Next_ok fu, made_Dice_One_ok fu, r31_Apply_ok fu, r31_Check_ok fu, made_Dice_Op_ok fu, trivial⟩) Tryz.func63 rfl rfl (fun x y => by kernel_rfl)
def made_Dice_Ledger (fu : Nat) (p0 : D.Dice) (p1 : Int) : Option (D.Ledger × List D.Op × D.Dice) :=
 (optc (made_Dice_Crew fu p0) fun (a0, a1) =>
 (optc (made_Dice_Book fu a1) fun (a2, a3) =>
 (optc (r31_New fu a0 a2) fun (a4, a5) =>
 (optc (made_Dice_Grow fu a3 a4 p1) fun (a6, (a7, a8)) =>
 (some (a6, (a7, a8)))))))
def made_Dice_Ledger_g (fu : Nat) : Sig := mkSig [.one (.ref 1), nI] [(1, .boxst .Dice)] [.st .Ledger, .one (.lst .Op)] [(1, .boxst .Dice)] [] (D.Ledger × List D.Op × D.Dice) (fun q => ((q.1, q.2.1, ()), (q.2.2, ()))) (fun x y => made_Dice_Ledger fu y.1 x.1)
theorem made_Dice_Ledger_ok (fu : Nat) : FnOK Tryz.prog 18 (made_Dice_Ledger_g fu) :=
 FnOK.intro (ty := ty) (E := envL [(30, 0, made_Dice_Crew_g fu), (31, 0, made_Dice_Book_g fu), (61, 0, r31_New_g fu), (63, 0, made_Dice_Grow_g fu)]) (fu := fu) (an := .go) (fun a b => (a.1, a.2.1, b.1)) (fun _ _ => rfl) (envL_ok ⟨made_Dice_Crew_ok fu, made_Dice_Book_ok fu, r31_New_ok fu, made_Dice_Grow_ok fu, trivial⟩) Tryz.func18 rfl rfl (fun x y => by kernel_rfl)
def audit_Doubled (fu : Nat) (p0 : D.Ledger) : Option (Bool) :=
 (iterF (X := ((List D.Call × (Int × (Int × Unit))) × (D.Ledger × Unit))) (fun L0 ((a1, (a2, (a3, _))), (a4, _)) =>
 (cnd (decide (a3 < a2))
 (atc a1 a3 fun a5 =>
 (natc a3 fun a6 =>
 (lec a6 (List.length (D.Ledger.Calls a4)) (iterF (X := ((List D.Call × (Int × (Int × (List D.Call × (Int × (Int × Unit)))))) × (D.Ledger × (D.Call × Unit)))) (fun L7 ((a8, (a9, (a10, (a11, (a12, (a13, _)))))), (a14, (a15, _))) =>
 (cnd (decide (a13 < a12))
 (join (Y := ((List D.Call × (Int × (Int × (List D.Call × (Int × (Int × Unit)))))) × (D.Ledger × (D.Call × Unit)))) (fun ((a16, (a17, (a18, (a19, (a20, (a21, _)))))), (a22, (a23, _))) =>
 (L7 ((a16, (a17, (a18, (a19, (a20, ((IntKind.wrap .i64 (a21 + 1)), ())))))), (a22, (a23, ()))))) fun J24 =>
 (atc a11 a13 fun a25 =>
 (cnd (decide ((D.Call.Page a15) = (D.Call.Page a25)))
 (cnd (decide ((D.Call.K a15) = (D.Call.K a25)))
 (cnd (decide ((D.Call.K a15) ≠ (-1)))
 (cnd (decide ((D.Call.Person a15) = (D.Call.Person a25)))
 (some true)
 (J24 ((a8, (a9, (a10, (a11, (a12, (a13, ())))))), (a14, (a15, ())))))
 (J24 ((a8, (a9, (a10, (a11, (a12, (a13, ())))))), (a14, (a15, ())))))
 (J24 ((a8, (a9, (a10, (a11, (a12, (a13, ())))))), (a14, (a15, ())))))
 (J24 ((a8, (a9, (a10, (a11, (a12, (a13, ())))))), (a14, (a15, ())))))))
 (L0 ((a8, (a9, ((IntKind.wrap .i64 (a10 + 1)), ()))), (a14, ()))))) fu ((a1, (a2, (a3, ((List.take a6 (D.Ledger.Calls a4)), ((((List.length (List.take a6 (D.Ledger.Calls a4))) : Nat) : Int), (0, ())))))), (a4, (a5, ())))))))
 (some false))) fu (((D.Ledger.Calls p0), ((((List.length (D.Ledger.Calls p0)) : Nat) : Int), (0, ()))), (p0, ())))
def audit_Doubled_g (fu : Nat) : Sig := mkSig [.st .Ledger] [] [.one (.boo)] [] [] (Bool) (fun q => ((q, ()), ())) (fun x y => audit_Doubled fu x.1)
theorem audit_Doubled_ok (fu : Nat) : FnOK Tryz.prog 19 (audit_Doubled_g fu) :=
 FnOK.intro (ty := ty) (E := envL []) (fu := fu) (an := .two .go (.two (.two .go (.one (.loop [(1, .one (.ref 1001)), (8, .one (.lst .Call)), (9, nI), (10, nI)] [(1001, .boxst .Ledger)] (.two .go (.two .go (.two (.one (.two .go (.two .go (.one (.loop [(1, .one (.ref 1001)), (4, .one (.ref 1004)), (8, .one (.lst .Call)), (9, nI), (10, nI), (18, .one (.lst .Call)), (19, nI), (20, nI)] [(1001, .boxst .Ledger), (1004, .boxst .Call)] (.two .go (.two .go (.two (.join [(1, .one (.ref 1001)), (4, .one (.ref 1004)), (8, .one (.lst .Call)), (9, nI), (10, nI), (18, .one (.lst .Call)), (19, nI), (20, nI)] [(1001, .boxst .Ledger), (1004, .boxst .Call)] .go) .go)))))))) .go)))))) .go)) (fun a b => a.1) (fun _ _ => rfl) (envL_ok (l := []) trivial) Tryz.func19 rfl rfl (fun x y => by kernel_rfl)
def audit_Doubled_0c7c10c11 (fu : Nat) (p0 : D.Ledger) : Option (Bool) :=
 (iterF (X := ((Int × (Int × Unit)) × ((Int × (List D.Zone × (List D.Person × (List D.Calendar × (List D.Schedule × (List D.Team × (List D.Policy × (Int × (Int × Unit))))))))) × (List D.Page × (List Int × (List D.Call × Unit)))))) (fun L0 ((a1, (a2, _)), ((a3, (a4, (a5, (a6, (a7, (a8, (a9, (a10, (a11, _))))))))), (a12, (a13, (a14, _))))) =>
 (cnd (decide (a2 < a1))
 (natc a2 fun a15 =>
 (ltc a15 (List.length a14) (optc (GetElem?.getElem? a14 a15) fun a16 =>
 (natc a2 fun a17 =>
 (lec a17 (List.length a14) (iterF (X := ((Int × (Int × (Nat × (Nat × (Int × (Int × Unit)))))) × ((Int × (List D.Zone × (List D.Person × (List D.Calendar × (List D.Schedule × (List D.Team × (List D.Policy × (Int × (Int × Unit))))))))) × (D.Call × (List D.Page × (List Int × (List D.Call × Unit))))))) (fun L18 ((a19, (a20, (a21, (a22, (a23, (a24, _)))))), ((a25, (a26, (a27, (a28, (a29, (a30, (a31, (a32, (a33, _))))))))), (a34, (a35, (a36, (a37, _)))))) =>
 (cnd (decide (a24 < a23))
 (join (Y := ((Int × (Int × (Nat × (Nat × (Int × (Int × Unit)))))) × ((Int × (List D.Zone × (List D.Person × (List D.Calendar × (List D.Schedule × (List D.Team × (List D.Policy × (Int × (Int × Unit))))))))) × (D.Call × (List D.Page × (List Int × (List D.Call × Unit))))))) (fun ((a38, (a39, (a40, (a41, (a42, (a43, _)))))), ((a44, (a45, (a46, (a47, (a48, (a49, (a50, (a51, (a52, _))))))))), (a53, (a54, (a55, (a56, _)))))) =>
 (L18 ((a38, (a39, (a40, (a41, (a42, ((IntKind.wrap .i64 (a43 + 1)), ())))))), ((a44, (a45, (a46, (a47, (a48, (a49, (a50, (a51, (a52, ()))))))))), (a53, (a54, (a55, (a56, ())))))))) fun J57 =>
 (natc a24 fun a58 =>
 (ltc a58 (a22 - a21) (optc (GetElem?.getElem? a37 (a21 + a58)) fun a59 =>
 (cnd (decide ((D.Call.Page a34) = (D.Call.Page a59)))
 (cnd (decide ((D.Call.K a34) = (D.Call.K a59)))
 (cnd (decide ((D.Call.K a34) ≠ (-1)))
 (cnd (decide ((D.Call.Person a34) = (D.Call.Person a59)))
 (sameC a35 (D.Ledger.Pages p0) (sameC a36 (D.Ledger.Seen p0) (sameC a37 (D.Ledger.Calls p0) (some true))))
 (J57 ((a19, (a20, (a21, (a22, (a23, (a24, ())))))), ((a25, (a26, (a27, (a28, (a29, (a30, (a31, (a32, (a33, ()))))))))), (a34, (a35, (a36, (a37, ()))))))))
 (J57 ((a19, (a20, (a21, (a22, (a23, (a24, ())))))), ((a25, (a26, (a27, (a28, (a29, (a30, (a31, (a32, (a33, ()))))))))), (a34, (a35, (a36, (a37, ()))))))))
 (J57 ((a19, (a20, (a21, (a22, (a23, (a24, ())))))), ((a25, (a26, (a27, (a28, (a29, (a30, (a31, (a32, (a33, ()))))))))), (a34, (a35, (a36, (a37, ()))))))))
 (J57 ((a19, (a20, (a21, (a22, (a23, (a24, ())))))), ((a25, (a26, (a27, (a28, (a29, (a30, (a31, (a32, (a33, ()))))))))), (a34, (a35, (a36, (a37, ()))))))))))))
 (L0 ((a19, ((IntKind.wrap .i64 (a20 + 1)), ())), ((a25, (a26, (a27, (a28, (a29, (a30, (a31, (a32, (a33, ()))))))))), (a35, (a36, (a37, ())))))))) fu ((a1, (a2, (0, (a17, ((((a17 - 0) : Nat) : Int), (0, ())))))), ((a3, (a4, (a5, (a6, (a7, (a8, (a9, (a10, (a11, ()))))))))), (a16, (a12, (a13, (a14, ()))))))))))))
 (sameC a12 (D.Ledger.Pages p0) (sameC a13 (D.Ledger.Seen p0) (sameC a14 (D.Ledger.Calls p0) (some false)))))) fu (((((List.length (D.Ledger.Calls p0)) : Nat) : Int), (0, ())), (((D.Ledger.Now p0), ((D.Config.Zones (D.Ledger.Config p0)), ((D.Config.People (D.Ledger.Config p0)), ((D.Config.Calendars (D.Ledger.Config p0)), ((D.Config.Schedules (D.Ledger.Config p0)), ((D.Book.Teams (D.Ledger.Book p0)), ((D.Book.Policies (D.Ledger.Book p0)), ((D.Ledger.Owner p0), ((D.Ledger.Fence p0), ()))))))))), ((D.Ledger.Pages p0), ((D.Ledger.Seen p0), ((D.Ledger.Calls p0), ()))))))
def audit_Doubled_0c7c10c11_g (fu : Nat) : Sig := mkSig [.agg [.num .i64, .lst .Zone, .lst .Person, .lst .Calendar, .lst .Schedule, .lst .Team, .lst .Policy, .own 101, .num .i64, .num .i64, .own 102, .own 103]] [(101, .arr .Page), (102, .arr .int), (103, .arr .Call)] [.one (.boo)] [] [101, 102, 103] (Bool) (fun q => ((q, ()), ())) (fun x y => audit_Doubled_0c7c10c11 fu (D.Ledger.mk x.1.1 (D.Config.mk x.1.2.1 x.1.2.2.1 x.1.2.2.2.1 x.1.2.2.2.2.1) (D.Book.mk x.1.2.2.2.2.2.1 x.1.2.2.2.2.2.2.1) y.1 x.1.2.2.2.2.2.2.2.1 x.1.2.2.2.2.2.2.2.2.1 y.2.1 y.2.2.1))
theorem audit_Doubled_0c7c10c11_ok (fu : Nat) : FnOK Tryz.prog 19 (audit_Doubled_0c7c10c11_g fu) :=
 FnOK.intro (ty := ty) (E := envL []) (fu := fu) (an := .two .go (.two (.two .go (.one (.loop [(1, .one (.ref 1001)), (8, .one (.own 103)), (9, nI), (10, nI)] [(1001, .box [.num .i64, .lst .Zone, .lst .Person, .lst .Calendar, .lst .Schedule, .lst .Team, .lst .Policy, .own 101, .num .i64, .num .i64, .own 102, .own 103]), (101, .arr .Page), (102, .arr .int), (103, .arr .Call)] (.two .go (.two .go (.two (.one (.two .go (.two .go (.one (.loop [(1, .one (.ref 1001)), (4, .one (.ref 1004)), (8, .one (.own 103)), (9, nI), (10, nI), (18, .one (.view 103)), (19, nI), (20, nI)] [(1001, .box [.num .i64, .lst .Zone, .lst .Person, .lst .Calendar, .lst .Schedule, .lst .Team, .lst .Policy, .own 101, .num .i64, .num .i64, .own 102, .own 103]), (1004, .boxst .Call), (101, .arr .Page), (102, .arr .int), (103, .arr .Call)] (.two .go (.two .go (.two (.join [(1, .one (.ref 1001)), (4, .one (.ref 1004)), (8, .one (.own 103)), (9, nI), (10, nI), (18, .one (.view 103)), (19, nI), (20, nI)] [(1001, .box [.num .i64, .lst .Zone, .lst .Person, .lst .Calendar, .lst .Schedule, .lst .Team, .lst .Policy, .own 101, .num .i64, .num .i64, .own 102, .own 103]), (1004, .boxst .Call), (101, .arr .Page), (102, .arr .int), (103, .arr .Call)] .go) .go)))))))) .go)))))) .go)) (fun a b => a.1) (fun _ _ => rfl) (envL_ok (l := []) trivial) Tryz.func19 rfl rfl (fun x y => by kernel_rfl)
def law45_AuditDoubles (fu : Nat) (p0 : List Int) : Option (Bool) :=
 (optc (made_Light fu p0) fun a0 =>
 (cnd (!a0)
 (optc (law45_sane fu) fun a1 =>
 (some a1))
 (optc (made_Roll fu p0) fun a2 =>
 (optc (made_Dice_Ledger fu a2 8) fun (a3, (a4, a5)) =>
 (join (Y := (Unit × (D.Ledger × Unit))) (fun (_, (a6, _)) =>
 (iterF (X := ((List D.Call × (Int × (Int × Unit))) × (D.Ledger × Unit))) (fun L7 ((a8, (a9, (a10, _))), (a11, _)) =>
 (cnd (decide (a10 < a9))
 (join (Y := ((List D.Call × (Int × (Int × Unit))) × (D.Ledger × Unit))) (fun ((a12, (a13, (a14, _))), (a15, _)) =>
 (L7 ((a12, (a13, ((IntKind.wrap .i64 (a14 + 1)), ()))), (a15, ())))) fun J16 =>
 (atc a8 a10 fun a17 =>
 (cnd (decide ((D.Call.K a17) < 0))
 (J16 ((a8, (a9, (a10, ()))), (a11, ())))
 (optc (r31_Copy fu a11) fun a18 =>
 (lec ((List.length (D.Ledger.Calls a18)) + (List.length (a17 :: []))) 34359738368 (optc (audit_Doubled_0c7c10c11 fu (D.Ledger.mk (D.Ledger.Now a18) (D.Ledger.Config a18) (D.Ledger.Book a18) (D.Ledger.Pages a18) (D.Ledger.Owner a18) (D.Ledger.Fence a18) (D.Ledger.Seen a18) ((D.Ledger.Calls a18) ++ (a17 :: [])))) fun a19 =>
 (cnd (!a19)
 (some false)
 (J16 ((a8, (a9, (a10, ()))), (a11, ()))))))))))
 (iterF (X := ((List D.Page × (Int × (Int × Unit))) × (D.Ledger × Unit))) (fun L20 ((a21, (a22, (a23, _))), (a24, _)) =>
 (cnd (decide (a23 < a22))
 (atc a21 a23 fun a25 =>
 (optc (r31_Copy fu a24) fun a26 =>
 (iterF (X := ((Int × (List D.Page × (Int × (Int × (List D.Start × (Int × (Int × Unit))))))) × (D.Ledger × (D.Page × ((Int × (List D.Zone × (List D.Person × (List D.Calendar × (List D.Schedule × (List D.Team × (List D.Policy × (Int × (Int × Unit))))))))) × (List D.Page × (List Int × (List D.Call × Unit)))))))) (fun L27 ((a28, (a29, (a30, (a31, (a32, (a33, (a34, _))))))), (a35, (a36, ((a37, (a38, (a39, (a40, (a41, (a42, (a43, (a44, (a45, _))))))))), (a46, (a47, (a48, _))))))) =>
 (cnd (decide (a34 < a33))
 (join (Y := ((Int × (List D.Page × (Int × (Int × (List D.Start × (Int × (Int × Unit))))))) × (D.Ledger × (D.Page × ((Int × (List D.Zone × (List D.Person × (List D.Calendar × (List D.Schedule × (List D.Team × (List D.Policy × (Int × (Int × Unit))))))))) × (List D.Page × (List Int × (List D.Call × Unit)))))))) (fun ((a49, (a50, (a51, (a52, (a53, (a54, (a55, _))))))), (a56, (a57, ((a58, (a59, (a60, (a61, (a62, (a63, (a64, (a65, (a66, _))))))))), (a67, (a68, (a69, _))))))) =>
 (L27 ((a49, (a50, (a51, (a52, (a53, (a54, ((IntKind.wrap .i64 (a55 + 1)), ()))))))), (a56, (a57, ((a58, (a59, (a60, (a61, (a62, (a63, (a64, (a65, (a66, ()))))))))), (a67, (a68, (a69, ()))))))))) fun J70 =>
 (atc a32 a34 fun a71 =>
 (cnd (decide (0 ≤ (D.Start.K a71)))
 (natc a34 fun a72 =>
 (lec a72 (List.length (D.Page.Starts a36)) (lec (List.length (List.take a72 (D.Page.Starts a36))) 34359738368 (natc (IntKind.wrap .i64 (a34 + 1)) fun a73 =>
 (lec a73 (List.length (D.Page.Starts a36)) (lec ((List.length (List.take a72 (D.Page.Starts a36))) + (List.length (List.drop a73 (D.Page.Starts a36)))) 34359738368 (natc a28 fun a74 =>
 (ltc a74 (List.length a46) (optc (GetElem?.getElem? a46 a74) fun a75 =>
 (optc (audit_Pages_0c7c10c11 fu (D.Ledger.mk a37 (D.Config.mk a38 a39 a40 a41) (D.Book.mk a42 a43) (List.set a46 a74 (D.Page.mk (D.Page.ID a75) (D.Page.Policy a75) (D.Page.Start a75) (D.Page.Next a75) (D.Page.Due a75) (D.Page.State a75) (D.Page.By a75) (D.Page.Until a75) (D.Page.Last a75) (D.Page.Snoozes a75) (D.Page.Hands a75) ((List.take a72 (D.Page.Starts a36)) ++ (List.drop a73 (D.Page.Starts a36))) (D.Page.Declined a75) (D.Page.Seen a75))) a44 a45 a47 a48)) fun a76 =>
 (optc (r25_Same fu a76 ((D.Page.ID a36) :: [])) fun a77 =>
 (cnd (!a77)
 (some false)
 (J70 ((a28, (a29, (a30, (a31, (a32, (a33, (a34, ()))))))), (a35, (a36, ((a37, (a38, (a39, (a40, (a41, (a42, (a43, (a44, (a45, ()))))))))), ((List.set a46 a74 (D.Page.mk (D.Page.ID a75) (D.Page.Policy a75) (D.Page.Start a75) (D.Page.Next a75) (D.Page.Due a75) (D.Page.State a75) (D.Page.By a75) (D.Page.Until a75) (D.Page.Last a75) (D.Page.Snoozes a75) (D.Page.Hands a75) ((List.take a72 (D.Page.Starts a36)) ++ (List.drop a73 (D.Page.Starts a36))) (D.Page.Declined a75) (D.Page.Seen a75))), (a47, (a48, ()))))))))))))))))))))
 (J70 ((a28, (a29, (a30, (a31, (a32, (a33, (a34, ()))))))), (a35, (a36, ((a37, (a38, (a39, (a40, (a41, (a42, (a43, (a44, (a45, ()))))))))), (a46, (a47, (a48, ())))))))))))
 (L20 ((a29, (a30, ((IntKind.wrap .i64 (a31 + 1)), ()))), (a35, ()))))) fu ((a23, (a21, (a22, (a23, ((D.Page.Starts a25), ((((List.length (D.Page.Starts a25)) : Nat) : Int), (0, ()))))))), (a24, (a25, (((D.Ledger.Now a26), ((D.Config.Zones (D.Ledger.Config a26)), ((D.Config.People (D.Ledger.Config a26)), ((D.Config.Calendars (D.Ledger.Config a26)), ((D.Config.Schedules (D.Ledger.Config a26)), ((D.Book.Teams (D.Ledger.Book a26)), ((D.Book.Policies (D.Ledger.Book a26)), ((D.Ledger.Owner a26), ((D.Ledger.Fence a26), ()))))))))), ((D.Ledger.Pages a26), ((D.Ledger.Seen a26), ((D.Ledger.Calls a26), ()))))))))))
 (optc (law45_sane fu) fun a78 =>
 (some a78)))) fu (((D.Ledger.Pages a11), ((((List.length (D.Ledger.Pages a11)) : Nat) : Int), (0, ()))), (a11, ()))))) fu (((D.Ledger.Calls a6), ((((List.length (D.Ledger.Calls a6)) : Nat) : Int), (0, ()))), (a6, ())))) fun J79 =>
 (optc (audit_Doubled fu a3) fun a80 =>
 (cnd a80
 (some false)
 (optc (audit_Pages fu a3) fun a81 =>
 (cnd (decide (0 < (((List.length a81) : Nat) : Int)))
 (some false)
 (J79 ((), (a3, ()))))))))))))
def law45_AuditDoubles_g (fu : Nat) : Sig := mkSig [.one (.lst .int)] [] [.one (.boo)] [] [] (Bool) (fun q => ((q, ()), ())) (fun x y => law45_AuditDoubles fu x.1)
theorem law45_AuditDoubles_ok (fu : Nat) : FnOK Tryz.prog 3 (law45_AuditDoubles_g fu) :=
 FnOK.intro (ty := ty) (E := envL [(15, 0, made_Light_g fu), (16, 0, law45_sane_g fu), (17, 0, made_Roll_g fu), (18, 0, made_Dice_Ledger_g fu), (19, 0, audit_Doubled_0c7c10c11_g fu), (19, 0, audit_Doubled_g fu), (20, 0, audit_Pages_0c7c10c11_g fu), (20, 0, audit_Pages_g fu), (21, 0, r31_Copy_g fu), (22, 0, r25_Same_g fu)]) (fu := fu) (an := .two .go (.two .go (.two .go (.two .go (.two (.join [(4, .one (.ref 1004))] [(1004, .boxst .Ledger)] .go) (.two (.two .go (.one (.loop [(4, .one (.ref 1004)), (34, .one (.lst .Call)), (35, nI), (36, nI)] [(1004, .boxst .Ledger)] (.two .go (.two .go (.two (.join [(4, .one (.ref 1004)), (34, .one (.lst .Call)), (35, nI), (36, nI)] [(1004, .boxst .Ledger)] .go) .go)))))) (.two (.two .go (.one (.loop [(4, .one (.ref 1004)), (56, .one (.lst .Page)), (57, nI), (58, nI)] [(1004, .boxst .Ledger)] (.two .go (.two .go (.two (.one (.two .go (.two .go (.two .go (.one (.loop [(4, .one (.ref 1004)), (9, nI), (10, .one (.ref 1010)), (11, .one (.ref 1011)), (56, .one (.lst .Page)), (57, nI), (58, nI), (66, .one (.lst .Start)), (67, nI), (68, nI)] [(1004, .boxst .Ledger), (1010, .boxst .Page), (1011, .box [.num .i64, .lst .Zone, .lst .Person, .lst .Calendar, .lst .Schedule, .lst .Team, .lst .Policy, .own 1065020, .num .i64, .num .i64, .own 1065025, .own 1065028]), (1065020, .arr .Page), (1065025, .arr .int), (1065028, .arr .Call)] (.two .go (.two .go (.two (.join [(4, .one (.ref 1004)), (9, nI), (10, .one (.ref 1010)), (11, .one (.ref 1011)), (56, .one (.lst .Page)), (57, nI), (58, nI), (66, .one (.lst .Start)), (67, nI), (68, nI)] [(1004, .boxst .Ledger), (1010, .boxst .Page), (1011, .box [.num .i64, .lst .Zone, .lst .Person, .lst .Calendar, .lst .Schedule, .lst .Team, .lst .Policy, .own 1065020, .num .i64, .num .i64, .own 1065025, .own 1065028]), (1065020, .arr .Page), (1065025, .arr .int), (1065028, .arr .Call)] .go) .go))))))))) .go)))))) .go))))))) (fun a b => a.1) (fun _ _ => rfl) (envL_ok ⟨made_Light_ok fu, law45_sane_ok fu, made_Roll_ok fu, made_Dice_Ledger_ok fu, audit_Doubled_0c7c10c11_ok fu, audit_Doubled_ok fu, audit_Pages_0c7c10c11_ok fu, audit_Pages_ok fu, r31_Copy_ok fu, r25_Same_ok fu, trivial⟩) Tryz.func3 rfl rfl (fun x y => by kernel_rfl)
def escalate_Due (fu : Nat) (p0 : D.Page) : Option (Int × Bool) :=
 (cnd (decide ((D.Page.State p0) = 0))
 (some ((D.Page.Due p0), true))
 (cnd (decide ((D.Page.State p0) = 2))
 (some ((D.Page.Until p0), true))
 (some (0, false))))
end
end Go.Proofs.YtfhcigjkfelnfaaGreat
/-
  What functions do, reckoned from their code, and their contracts. Printed by wip/gen/brun.py.
-/
set_option maxRecDepth 100000
set_option linter.unusedVariables false
namespace Go.Proofs.YtfhcigjkfelnfaaGreat
open Go AM
noncomputable section
def duty_Range (fu : Nat) (p0 : Int) (p1 : Int) : Option (Bool) :=
 (cnd (decide (0 ≤ p0))
 (cnd (decide (p0 ≤ 8589934592))
 (cnd (decide (p0 ≤ p1))
 (cnd (decide (p1 ≤ 8589934592))
 (cnd (decide ((IntKind.wrap .i64 (p1 - p0)) ≤ 34560000))
 (some true)
 (some false))
 (some false))
 (some false))
 (some false))
 (some false))
end
end Go.Proofs.YtfhcigjkfelnfaaGreat
/-
  What functions do, reckoned from their code, and their contracts. Printed by wip/gen/brun.py.
-/
set_option maxRecDepth 100000
set_option linter.unusedVariables false
namespace Go.Proofs.YtfhcigjkfelnfaaGreat
open Go AM
noncomputable section
end
end Go.Proofs.YtfhcigjkfelnfaaGreat
/-
  What functions do: all parts.
-/
