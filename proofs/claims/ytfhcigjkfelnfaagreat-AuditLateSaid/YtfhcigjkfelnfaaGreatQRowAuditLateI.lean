/-
  What functions do, reckoned from their code, and their contracts. Printed by wip/gen/brun.py.
-/
import Derived.Test.YtfhcigjkfelnfaaGreatQRowAuditLateH
set_option maxRecDepth 100000
set_option linter.unusedVariables false
namespace Go.Proofs.YtfhcigjkfelnfaaGreat
open Go AM
noncomputable section
def made_Light (fu : Nat) (p0 : List Int) : Option (Bool) :=
 (some (decide ((((List.length p0) : Nat) : Int) ≤ 500)))
def made_Light_g (fu : Nat) : Sig := mkSig [.one (.lst .int)] [] [.one (.boo)] [] [] (Bool) (fun q => ((q, ()), ())) (fun x y => made_Light fu x.1)
theorem made_Light_ok (fu : Nat) : FnOK Tryz.prog 15 (made_Light_g fu) :=
 FnOK.intro (ty := ty) (E := envL []) (fu := fu) (an := .go) (fun a b => a.1) (fun _ _ => rfl) (envL_ok (l := []) trivial) Tryz.func15 rfl rfl (fun x y => by kernel_rfl)
def made_Roll (fu : Nat) (p0 : List Int) : Option (D.Dice) :=
 (some (D.Dice.mk p0 0))
def made_Roll_g (fu : Nat) : Sig := mkSig [.one (.lst .int)] [] [.one (.ref 1005)] [(1005, .boxst .Dice)] [] (D.Dice) (fun q => ((), (q, ()))) (fun x y => made_Roll fu x.1)
theorem made_Roll_ok (fu : Nat) : FnOK Tryz.prog 17 (made_Roll_g fu) :=
 FnOK.intro (ty := ty) (E := envL []) (fu := fu) (an := .go) (fun a b => b.1) (fun _ _ => rfl) (envL_ok (l := []) trivial) Tryz.func17 rfl rfl (fun x y => by kernel_rfl)
def r25_Same (fu : Nat) (p0 : List Int) (p1 : List Int) : Option (Bool) :=
 (cnd (decide ((((List.length p0) : Nat) : Int) ≠ (((List.length p1) : Nat) : Int)))
 (some false)
 (iterF (X := ((List Int × (List Int × (Int × Unit))) × Unit)) (fun L0 ((a1, (a2, (a3, _))), _) =>
 (cnd (decide (a3 < (((List.length a1) : Nat) : Int)))
 (atc a1 a3 fun a4 =>
 (atc a2 a3 fun a5 =>
 (cnd (decide (a4 ≠ a5))
 (some false)
 (L0 ((a1, (a2, ((IntKind.wrap .i64 (a3 + 1)), ()))), ())))))
 (some true))) fu ((p0, (p1, (0, ()))), ())))
def r25_Same_g (fu : Nat) : Sig := mkSig [.one (.lst .int), .one (.lst .int)] [] [.one (.boo)] [] [] (Bool) (fun q => ((q, ()), ())) (fun x y => r25_Same fu x.1 x.2.1)
theorem r25_Same_ok (fu : Nat) : FnOK Tryz.prog 22 (r25_Same_g fu) :=
 FnOK.intro (ty := ty) (E := envL []) (fu := fu) (an := .two .go (.two .go (.two (.two .go (.one (.loop [(0, .one (.lst .int)), (1, .one (.lst .int)), (5, nI)] [] .go))) .go))) (fun a b => a.1) (fun _ _ => rfl) (envL_ok (l := []) trivial) Tryz.func22 rfl rfl (fun x y => by kernel_rfl)
def policy_in (fu : Nat) (p0 : Int) (p1 : Int) (p2 : Int) : Option (Bool) :=
 (cnd (decide (p1 ≤ p0))
 (cnd (decide (p0 ≤ p2))
 (some true)
 (some false))
 (some false))
def policy_in_g (fu : Nat) : Sig := mkSig [nI, nI, nI] [] [.one (.boo)] [] [] (Bool) (fun q => ((q, ()), ())) (fun x y => policy_in fu x.1 x.2.1 x.2.2.1)
theorem policy_in_ok (fu : Nat) : FnOK Tryz.prog 78 (policy_in_g fu) :=
 FnOK.intro (ty := ty) (E := envL []) (fu := fu) (an := .go) (fun a b => a.1) (fun _ _ => rfl) (envL_ok (l := []) trivial) Tryz.func78 rfl rfl (fun x y => by kernel_rfl)
def policy_Count (fu : Nat) (p0 : D.Policy) : Option (Int) :=
 (join (Y := (Unit × (D.Policy × Unit))) (fun (_, (a0, _)) =>
 (some (IntKind.wrap .i64 ((((List.length (D.Policy.Steps a0)) : Nat) : Int) * (IntKind.wrap .i64 ((D.Policy.Repeat a0) + 1)))))) fun J1 =>
 (optc (policy_in fu (D.Policy.Repeat p0) 0 8) fun a2 =>
 (cnd a2
 (cnd (decide (8 < (((List.length (D.Policy.Steps p0)) : Nat) : Int)))
 (some 0)
 (J1 ((), (p0, ()))))
 (some 0))))
def policy_Count_g (fu : Nat) : Sig := mkSig [.st .Policy] [] [nI] [] [] (Int) (fun q => ((q, ()), ())) (fun x y => policy_Count fu x.1)
theorem policy_Count_ok (fu : Nat) : FnOK Tryz.prog 73 (policy_Count_g fu) :=
 FnOK.intro (ty := ty) (E := envL [(78, 0, policy_in_g fu)]) (fu := fu) (an := .two .go (.two (.join [(1, .one (.ref 1001))] [(1001, .boxst .Policy)] .go) .go)) (fun a b => a.1) (fun _ _ => rfl) (envL_ok ⟨policy_in_ok fu, trivial⟩) Tryz.func73 rfl rfl (fun x y => by kernel_rfl)
def policy_offsets (fu : Nat) (p0 : D.Policy) : Option (List Int) :=
 (optc (policy_Count fu p0) fun a0 =>
 (iterF (X := ((Int × (Int × Unit)) × (D.Policy × (List Int × Unit)))) (fun L1 ((a2, (a3, _)), (a4, (a5, _))) =>
 (cnd (decide (a3 < a2))
 (natc a3 fun a6 =>
 (ltc a6 (List.length a5) (optc (GetElem?.getElem? a5 a6) fun a7 =>
 (nzc (((List.length (D.Policy.Steps a4)) : Nat) : Int) (atc (D.Policy.Steps a4) (Int.tmod a3 (((List.length (D.Policy.Steps a4)) : Nat) : Int)) fun a8 =>
 (lec ((List.length a5) + (List.length ((IntKind.wrap .i64 (a7 + (D.PolicyStep.Wait a8))) :: []))) 34359738368 (L1 ((a2, ((IntKind.wrap .i64 (a3 + 1)), ())), (a4, ((a5 ++ ((IntKind.wrap .i64 (a7 + (D.PolicyStep.Wait a8))) :: [])), ()))))))))))
 (iterF (X := ((List D.PolicyStep × (Int × (Int × Unit))) × (List Int × Unit))) (fun L9 ((a10, (a11, (a12, _))), (a13, _)) =>
 (cnd (decide (a12 < a11))
 (atc a10 a12 fun a14 =>
 (optc (policy_in fu (D.PolicyStep.Wait a14) 0 86400) fun a15 =>
 (cnd (!a15)
 (some [])
 (L9 ((a10, (a11, ((IntKind.wrap .i64 (a12 + 1)), ()))), (a13, ()))))))
 (some a13))) fu (((D.Policy.Steps a4), ((((List.length (D.Policy.Steps a4)) : Nat) : Int), (0, ()))), (a5, ()))))) fu ((a0, (0, ())), (p0, ((0 :: []), ())))))
def policy_offsets_g (fu : Nat) : Sig := mkSig [.st .Policy] [] [.one (.lst .int)] [] [] (List Int) (fun q => ((q, ()), ())) (fun x y => policy_offsets fu x.1)
theorem policy_offsets_ok (fu : Nat) : FnOK Tryz.prog 123 (policy_offsets_g fu) :=
 FnOK.intro (ty := ty) (E := envL [(73, 0, policy_Count_g fu), (78, 0, policy_in_g fu)]) (fu := fu) (an := .two .go (.two .go (.two (.two .go (.one (.loop [(1, .one (.ref 1001)), (3, .one (.own 1007)), (9, nI), (10, nI)] [(1001, .boxst .Policy), (1007, .arr .int)] .go))) (.two (.two .go (.one (.loop [(3, .one (.own 1007)), (33, .one (.lst .PolicyStep)), (34, nI), (35, nI)] [(1007, .arr .int)] .go))) .go)))) (fun a b => a.1) (fun _ _ => rfl) (envL_ok ⟨policy_Count_ok fu, policy_in_ok fu, trivial⟩) Tryz.func123 rfl rfl (fun x y => by kernel_rfl)
def policy_Offset (fu : Nat) (p0 : D.Policy) (p1 : Int) : Option (Int × Bool) :=
 (optc (policy_offsets fu p0) fun a0 =>
 (optc (policy_in fu p1 0 (IntKind.wrap .i64 ((((List.length a0) : Nat) : Int) - 1))) fun a1 =>
 (cnd (!a1)
 (some (0, false))
 (atc a0 p1 fun a2 =>
 (some (a2, true))))))
def policy_Offset_g (fu : Nat) : Sig := mkSig [.st .Policy, nI] [] [nI, .one (.boo)] [] [] (Int × Bool) (fun q => ((q.1, q.2, ()), ())) (fun x y => policy_Offset fu x.1 x.2.1)
theorem policy_Offset_ok (fu : Nat) : FnOK Tryz.prog 70 (policy_Offset_g fu) :=
 FnOK.intro (ty := ty) (E := envL [(78, 0, policy_in_g fu), (123, 0, policy_offsets_g fu)]) (fu := fu) (an := .go) (fun a b => (a.1, a.2.1)) (fun _ _ => rfl) (envL_ok ⟨policy_in_ok fu, policy_offsets_ok fu, trivial⟩) Tryz.func70 rfl rfl (fun x y => by kernel_rfl)
def policy_End (fu : Nat) (p0 : D.Policy) : Option (Int) :=
 (optc (policy_Count fu p0) fun a0 =>
 (optc (policy_Offset fu p0 a0) fun (a1, a2) =>
 (some a1)))
def policy_End_g (fu : Nat) : Sig := mkSig [.st .Policy] [] [nI] [] [] (Int) (fun q => ((q, ()), ())) (fun x y => policy_End fu x.1)
theorem policy_End_ok (fu : Nat) : FnOK Tryz.prog 71 (policy_End_g fu) :=
 FnOK.intro (ty := ty) (E := envL [(70, 0, policy_Offset_g fu), (73, 0, policy_Count_g fu)]) (fu := fu) (an := .go) (fun a b => a.1) (fun _ _ => rfl) (envL_ok ⟨policy_Offset_ok fu, policy_Count_ok fu, trivial⟩) Tryz.func71 rfl rfl (fun x y => by kernel_rfl)
def made_Dice_Next (fu : Nat) (p0 : D.Dice) (p1 : Int) : Option (Int × D.Dice) :=
 (join (Y := ((Int × Unit) × (D.Dice × Unit))) (fun ((a0, _), (a1, _)) =>
 (atc (D.Dice.L a1) (D.Dice.At a1) fun a2 =>
 (nzc a0 (join (Y := ((Int × Unit) × (D.Dice × Unit))) (fun ((a3, _), (a4, _)) =>
 (some (a3, a4))) fun J5 =>
 (cnd (decide ((Int.tmod a2 a0) < 0))
 (J5 (((IntKind.wrap .i64 ((Int.tmod a2 a0) + a0)), ()), ((D.Dice.mk (D.Dice.L a1) (IntKind.wrap .i64 ((D.Dice.At a1) + 1))), ())))
 (J5 (((Int.tmod a2 a0), ()), ((D.Dice.mk (D.Dice.L a1) (IntKind.wrap .i64 ((D.Dice.At a1) + 1))), ())))))))) fun J6 =>
 (cnd (decide ((((List.length (D.Dice.L p0)) : Nat) : Int) ≤ (D.Dice.At p0)))
 (some (0, p0))
 (cnd (decide (p1 < 1))
 (some (0, p0))
 (J6 ((p1, ()), (p0, ()))))))
def made_Dice_Next_g (fu : Nat) : Sig := mkSig [.one (.ref 1), nI] [(1, .boxst .Dice)] [nI] [(1, .boxst .Dice)] [] (Int × D.Dice) (fun q => ((q.1, ()), (q.2, ()))) (fun x y => made_Dice_Next fu y.1 x.1)
theorem made_Dice_Next_ok (fu : Nat) : FnOK Tryz.prog 32 (made_Dice_Next_g fu) :=
 FnOK.intro (ty := ty) (E := envL []) (fu := fu) (an := .two .go (.two (.join [(0, .one (.ref 1)), (1, nI)] [(1, .boxst .Dice)] .go) (.two .go (.two .go (.two (.join [(5, nI)] [(1, .boxst .Dice)] .go) .go))))) (fun a b => (a.1, b.1)) (fun _ _ => rfl) (envL_ok (l := []) trivial) Tryz.func32 rfl rfl (fun x y => by kernel_rfl)
def made_Dice_One (fu : Nat) (p0 : D.Dice) (p1 : List Int) : Option (Int × D.Dice) :=
 (optc (made_Dice_Next fu p0 (((List.length p1) : Nat) : Int)) fun (a0, a1) =>
 (atc p1 a0 fun a2 =>
 (some (a2, a1))))
def made_Dice_One_g (fu : Nat) : Sig := mkSig [.one (.ref 1), .one (.lst .int)] [(1, .boxst .Dice)] [nI] [(1, .boxst .Dice)] [] (Int × D.Dice) (fun q => ((q.1, ()), (q.2, ()))) (fun x y => made_Dice_One fu y.1 x.1)
theorem made_Dice_One_ok (fu : Nat) : FnOK Tryz.prog 48 (made_Dice_One_g fu) :=
 FnOK.intro (ty := ty) (E := envL [(32, 0, made_Dice_Next_g fu)]) (fu := fu) (an := .go) (fun a b => (a.1, b.1)) (fun _ _ => rfl) (envL_ok ⟨made_Dice_Next_ok fu, trivial⟩) Tryz.func48 rfl rfl (fun x y => by kernel_rfl)
def made_Dice_Override (fu : Nat) (p0 : D.Dice) : Option (D.Edit × D.Dice) :=
 (optc (made_Dice_One fu p0 (0 :: (300 :: (1200 :: (3600 :: []))))) fun (a0, a1) =>
 (optc (made_Dice_Next fu a1 3) fun (a2, a3) =>
 (optc (made_Dice_Next fu a3 4) fun (a4, a5) =>
 (optc (made_Dice_One fu a5 (300 :: (1800 :: (7200 :: [])))) fun (a6, a7) =>
 (join (Y := (Unit × (D.Edit × (D.Edit × (D.Dice × Unit))))) (fun (_, (a8, (a9, (a10, _)))) =>
 (some (a9, a10))) fun J11 =>
 (cnd (decide (a2 = 2))
 (optc (made_Dice_Next fu a7 3) fun (a12, a13) =>
 (nzc 4 (J11 ((), ((D.Edit.mk 0 0 0 0 0), ((D.Edit.mk a2 a4 (Int.tmod (IntKind.wrap .i64 ((IntKind.wrap .i64 (a4 + 1)) + a12)) 4) (IntKind.wrap .i64 (864000 + a0)) (IntKind.wrap .i64 ((IntKind.wrap .i64 (864000 + a0)) + a6))), (a13, ())))))))
 (cnd (decide (a2 = 1))
 (optc (made_Dice_Next fu a7 5) fun (a14, a15) =>
 (J11 ((), ((D.Edit.mk 0 0 0 0 0), ((D.Edit.mk a2 (IntKind.wrap .i64 (a14 - 1)) 0 (IntKind.wrap .i64 (864000 + a0)) (IntKind.wrap .i64 ((IntKind.wrap .i64 (864000 + a0)) + a6))), (a15, ()))))))
 (J11 ((), ((D.Edit.mk 0 0 0 0 0), ((D.Edit.mk a2 a4 0 (IntKind.wrap .i64 (864000 + a0)) (IntKind.wrap .i64 ((IntKind.wrap .i64 (864000 + a0)) + a6))), (a7, ()))))))))))))
def made_Dice_Override_g (fu : Nat) : Sig := mkSig [.one (.ref 1)] [(1, .boxst .Dice)] [.st .Edit] [(1, .boxst .Dice)] [] (D.Edit × D.Dice) (fun q => ((q.1, ()), (q.2, ()))) (fun x y => made_Dice_Override fu y.1)
theorem made_Dice_Override_ok (fu : Nat) : FnOK Tryz.prog 74 (made_Dice_Override_g fu) :=
 FnOK.intro (ty := ty) (E := envL [(32, 0, made_Dice_Next_g fu), (48, 0, made_Dice_One_g fu)]) (fu := fu) (an := .two .go (.two .go (.two .go (.two (.join [(2, .one (.ref 1002)), (4, .one (.ref 1004))] [(1002, .boxst .Edit), (1004, .boxst .Edit), (1, .boxst .Dice)] .go) .go)))) (fun a b => (a.1, b.1)) (fun _ _ => rfl) (envL_ok ⟨made_Dice_Next_ok fu, made_Dice_One_ok fu, trivial⟩) Tryz.func74 rfl rfl (fun x y => by kernel_rfl)
def made_Dice_Crew (fu : Nat) (p0 : D.Dice) : Option (D.Config × D.Dice) :=
 (optc (made_Dice_One fu p0 (0 :: (3600 :: ((-7200) :: [])))) fun (a0, a1) =>
 (iterF (X := ((List ByteArray × (Int × Unit)) × (D.Dice × (Unit × ((List D.Zone × Unit) × (List D.Person × Unit)))))) (fun L2 ((a3, (a4, _)), (a5, (_, ((a6, _), (a7, _))))) =>
 (cnd (decide (a4 < 4))
 (atc a3 a4 fun a8 =>
 (optc (made_Dice_Next fu a5 2) fun (a9, a10) =>
 (join (Y := ((List ByteArray × (Int × Unit)) × (D.Dice × (Unit × ((List D.Zone × Unit) × (D.Person × (List D.Person × Unit))))))) (fun ((a11, (a12, _)), (a13, (_, ((a14, _), (a15, (a16, _)))))) =>
 (lec ((List.length a16) + (List.length (a15 :: []))) 34359738368 (L2 ((a11, ((IntKind.wrap .i64 (a12 + 1)), ())), (a13, ((), ((a14, ()), ((a16 ++ (a15 :: [])), ())))))))) fun J17 =>
 (optc (made_Dice_Next fu a10 4) fun (a18, a19) =>
 (cnd (decide (a18 = 0))
 (optc (made_Dice_One fu a19 (0 :: (3600 :: []))) fun (a20, a21) =>
 (optc (made_Dice_One fu a21 (7200 :: (86400 :: (604800 :: [])))) fun (a22, a23) =>
 (J17 ((a3, (a4, ())), (a23, ((), ((a6, ()), ((D.Person.mk a8 0 ((D.Window.mk a20 a22) :: []) 0 0 (decide (a9 = 0))), (a7, ())))))))))
 (J17 ((a3, (a4, ())), (a19, ((), ((a6, ()), ((D.Person.mk a8 0 [] 0 0 (decide (a9 = 0))), (a7, ()))))))))))))
 (iterF (X := ((Int × Unit) × (D.Dice × (Unit × ((List D.Zone × Unit) × (List D.Person × (List D.Schedule × Unit))))))) (fun L24 ((a25, _), (a26, (_, ((a27, _), (a28, (a29, _)))))) =>
 (cnd (decide (a25 < 2))
 (optc (made_Dice_One fu a26 (1 :: (9 :: (10 :: [])))) fun (a30, a31) =>
 (optc (made_Dice_One fu a31 (0 :: (1800 :: (43200 :: [])))) fun (a32, a33) =>
 (optc (made_Dice_One fu a33 (0 :: (0 :: (1 :: [])))) fun (a34, a35) =>
 (optc (made_Dice_Next fu a35 3) fun (a36, a37) =>
 (optc (made_Dice_Next fu a37 3) fun (a38, a39) =>
 (iterF (X := ((Int × (Int × Unit)) × (D.Dice × (Unit × ((List D.Zone × Unit) × ((ByteArray × P7) × (List D.Person × (List D.Schedule × (List Int × Unit))))))))) (fun L40 ((a41, (a42, _)), (a43, (_, ((a44, _), ((a45, (a46, (a47, (a48, (a49, (a50, (a51, (a52, _)))))))), (a53, (a54, (a55, _)))))))) =>
 (cnd (decide (0 < a42))
 (optc (made_Dice_Next fu a43 4) fun (a56, a57) =>
 (lec ((List.length a55) + (List.length (a56 :: []))) 34359738368 (L40 ((a41, ((IntKind.wrap .i64 (a42 - 1)), ())), (a57, ((), ((a44, ()), ((a45, (a46, (a47, (a48, (a49, (a50, (a51, (a52, ())))))))), (a53, (a54, ((a55 ++ (a56 :: [])), ())))))))))))
 (atc ((ByteArray.mk (List.toArray (102 :: (105 :: (114 :: (115 :: (116 :: []))))))) :: ((ByteArray.mk (List.toArray (115 :: (101 :: (99 :: (111 :: (110 :: (100 :: [])))))))) :: [])) a41 fun a58 =>
 (optc (made_Dice_Next fu a43 3) fun (a59, a60) =>
 (iterF (X := ((Int × (Int × Unit)) × (D.Dice × (Unit × ((List D.Zone × Unit) × ((ByteArray × (List D.Layer × Unit)) × (List D.Person × (List D.Schedule × (List D.Edit × Unit))))))))) (fun L61 ((a62, (a63, _)), (a64, (_, ((a65, _), ((a66, (a67, _)), (a68, (a69, (a70, _)))))))) =>
 (cnd (decide (0 < a63))
 (optc (made_Dice_Override fu a64) fun (a71, a72) =>
 (lec ((List.length a70) + (List.length (a71 :: []))) 34359738368 (L61 ((a62, ((IntKind.wrap .i64 (a63 - 1)), ())), (a72, ((), ((a65, ()), ((a66, (a67, ())), (a68, (a69, ((a70 ++ (a71 :: [])), ())))))))))))
 (lec ((List.length a69) + (List.length ((D.Schedule.mk a66 a67 a70) :: []))) 34359738368 (L24 (((IntKind.wrap .i64 (a62 + 1)), ()), (a64, ((), ((a65, ()), (a68, ((a69 ++ ((D.Schedule.mk a66 a67 a70) :: [])), ())))))))))) fu ((a41, (a59, ())), (a60, ((), ((a44, ()), ((a58, (((D.Layer.mk a45 a46 (D.Local.mk a47 a48) a49 a50 a55 [] a51 a52) :: []), ())), (a53, (a54, ([], ()))))))))))))) fu ((a25, ((IntKind.wrap .i64 (1 + a38)), ())), (a39, ((), ((a27, ()), (((ByteArray.mk (List.toArray (108 :: []))), (0, (a30, (a32, (a34, ((IntKind.wrap .i64 (1 + a36)), (0, (0, ())))))))), (a28, (a29, ([], ()))))))))))))))
 (some ((D.Config.mk a27 a28 [] a29), a26)))) fu ((0, ()), (a5, ((), ((a6, ()), (a7, ([], ()))))))))) fu ((((ByteArray.mk (List.toArray (97 :: (110 :: (110 :: []))))) :: ((ByteArray.mk (List.toArray (98 :: (111 :: (98 :: []))))) :: ((ByteArray.mk (List.toArray (99 :: (97 :: (116 :: []))))) :: ((ByteArray.mk (List.toArray (100 :: (97 :: (110 :: []))))) :: [])))), (0, ())), (a1, ((), ((((D.Zone.mk (ByteArray.mk (List.toArray (122 :: []))) a0 []) :: []), ()), ([], ())))))))
def made_Dice_Crew_g (fu : Nat) : Sig := mkSig [.one (.ref 1)] [(1, .boxst .Dice)] [.st .Config] [(1, .boxst .Dice)] [] (D.Config × D.Dice) (fun q => ((q.1, ()), (q.2, ()))) (fun x y => made_Dice_Crew fu y.1)
theorem made_Dice_Crew_ok (fu : Nat) : FnOK Tryz.prog 30 (made_Dice_Crew_g fu) :=
 FnOK.intro (ty := ty) (E := envL [(32, 0, made_Dice_Next_g fu), (48, 0, made_Dice_One_g fu), (74, 0, made_Dice_Override_g fu)]) (fu := fu) (an := .two .go (.two .go (.two .go (.two (.two .go (.one (.loop [(0, .one (.ref 1)), (2, .one (.ref 1002)), (3, .one (.ref 1003)), (4, .one (.lst .str)), (5, nI)] [(1, .boxst .Dice), (1002, .box [.nul, .nul, .nul, .nul]), (1003, .box [.lst .Zone, .own 1047, .nul, .nul]), (1047, .arr .Person)] (.two .go (.two (.one (.two .go (.two (.join [(0, .one (.ref 1)), (2, .one (.ref 1002)), (3, .one (.ref 1003)), (4, .one (.lst .str)), (5, nI), (6, .one (.ref 1006))] [(1, .boxst .Dice), (1002, .box [.nul, .nul, .nul, .nul]), (1003, .box [.lst .Zone, .own 1047, .nul, .nul]), (1006, .boxst .Person), (1047, .arr .Person)] .go) .go))) .go))))) (.two (.two .go (.one (.loop [(0, .one (.ref 1)), (2, .one (.ref 1002)), (3, .one (.ref 1003)), (7, nI)] [(1, .boxst .Dice), (1002, .box [.nul, .nul, .nul, .nul]), (1003, .box [.lst .Zone, .own 1047, .nul, .own 1105]), (1047, .arr .Person), (1105, .arr .Schedule)] (.two .go (.two (.one (.two .go (.two (.two .go (.one (.loop [(0, .one (.ref 1)), (2, .one (.ref 1002)), (3, .one (.ref 1003)), (7, nI), (8, .one (.ref 1008)), (9, nI)] [(1, .boxst .Dice), (1002, .box [.nul, .nul, .nul, .nul]), (1003, .box [.lst .Zone, .own 1047, .nul, .own 1105]), (1008, .box [.str, .num .i64, .num .i64, .num .i64, .num .i64, .num .i64, .own 1079, .nul, .num .i64, .num .i64]), (1047, .arr .Person), (1105, .arr .Schedule), (1079, .arr .int)] .go))) (.two (.frz [1079] .go) (.two (.two .go (.one (.loop [(0, .one (.ref 1)), (2, .one (.ref 1002)), (3, .one (.ref 1003)), (7, nI), (10, .one (.ref 1010)), (11, nI)] [(1, .boxst .Dice), (1002, .box [.nul, .nul, .nul, .nul]), (1003, .box [.lst .Zone, .own 1047, .nul, .own 1105]), (1010, .box [.str, .lst .Layer, .own 1099]), (1047, .arr .Person), (1105, .arr .Schedule), (1099, .arr .Edit)] .go))) .go))))) .go))))) .go))))) (fun a b => (a.1, b.1)) (fun _ _ => rfl) (envL_ok ⟨made_Dice_Next_ok fu, made_Dice_One_ok fu, made_Dice_Override_ok fu, trivial⟩) Tryz.func30 rfl rfl (fun x y => by kernel_rfl)
def made_Dice_Target_1c0 (fu : Nat) (p0 : D.Dice) (p1 : D.Book) : Option (D.Target × D.Dice) :=
 (optc (made_Dice_Next fu p0 3) fun (a0, a1) =>
 (join (Y := ((Int × Unit) × (D.Dice × ((List D.Policy × Unit) × (D.Target × (List D.Team × Unit)))))) (fun ((a2, _), (a3, ((a4, _), (a5, (a6, _))))) =>
 (atc (4 :: (2 :: ((((List.length a6) : Nat) : Int) :: []))) a2 fun a7 =>
 (optc (made_Dice_Next fu a3 a7) fun (a8, a9) =>
 (sameC a6 (D.Book.Teams p1) (some ((D.Target.mk a2 a8), a9)))))) fun J10 =>
 (cnd (decide (a0 = 2))
 (cnd (decide ((((List.length (D.Book.Teams p1)) : Nat) : Int) = 0))
 (J10 ((0, ()), (a1, (((D.Book.Policies p1), ()), ((D.Target.mk 0 0), ((D.Book.Teams p1), ()))))))
 (J10 ((a0, ()), (a1, (((D.Book.Policies p1), ()), ((D.Target.mk 0 0), ((D.Book.Teams p1), ())))))))
 (J10 ((a0, ()), (a1, (((D.Book.Policies p1), ()), ((D.Target.mk 0 0), ((D.Book.Teams p1), ())))))))))
def made_Dice_Target_1c0_g (fu : Nat) : Sig := mkSig [.one (.ref 1), .agg [.own 101, .lst .Policy]] [(1, .boxst .Dice), (101, .arr .Team)] [.st .Target] [(1, .boxst .Dice)] [101] (D.Target × D.Dice) (fun q => ((q.1, ()), (q.2, ()))) (fun x y => made_Dice_Target_1c0 fu y.1 (D.Book.mk y.2.1 x.1.1))
theorem made_Dice_Target_1c0_ok (fu : Nat) : FnOK Tryz.prog 33 (made_Dice_Target_1c0_g fu) :=
 FnOK.intro (ty := ty) (E := envL [(32, 0, made_Dice_Next_g fu)]) (fu := fu) (an := .two .go (.two .go (.two (.join [(0, .one (.ref 1)), (3, .one (.ref 1003)), (4, .one (.ref 1004)), (5, nI)] [(1, .boxst .Dice), (1003, .box [.own 101, .lst .Policy]), (1004, .boxst .Target), (101, .arr .Team)] .go) .go))) (fun a b => (a.1, b.1)) (fun _ _ => rfl) (envL_ok ⟨made_Dice_Next_ok fu, trivial⟩) Tryz.func33 rfl rfl (fun x y => by kernel_rfl)
def made_Dice_Target_1c0c1 (fu : Nat) (p0 : D.Dice) (p1 : D.Book) : Option (D.Target × D.Dice) :=
 (optc (made_Dice_Next fu p0 3) fun (a0, a1) =>
 (join (Y := ((Int × Unit) × (D.Dice × (Unit × (D.Target × (List D.Team × (List D.Policy × Unit))))))) (fun ((a2, _), (a3, (_, (a4, (a5, (a6, _)))))) =>
 (atc (4 :: (2 :: ((((List.length a5) : Nat) : Int) :: []))) a2 fun a7 =>
 (optc (made_Dice_Next fu a3 a7) fun (a8, a9) =>
 (sameC a5 (D.Book.Teams p1) (sameC a6 (D.Book.Policies p1) (some ((D.Target.mk a2 a8), a9))))))) fun J10 =>
 (cnd (decide (a0 = 2))
 (cnd (decide ((((List.length (D.Book.Teams p1)) : Nat) : Int) = 0))
 (J10 ((0, ()), (a1, ((), ((D.Target.mk 0 0), ((D.Book.Teams p1), ((D.Book.Policies p1), ())))))))
 (J10 ((a0, ()), (a1, ((), ((D.Target.mk 0 0), ((D.Book.Teams p1), ((D.Book.Policies p1), ()))))))))
 (J10 ((a0, ()), (a1, ((), ((D.Target.mk 0 0), ((D.Book.Teams p1), ((D.Book.Policies p1), ()))))))))))
def made_Dice_Target_1c0c1_g (fu : Nat) : Sig := mkSig [.one (.ref 1), .agg [.own 101, .own 102]] [(1, .boxst .Dice), (101, .arr .Team), (102, .arr .Policy)] [.st .Target] [(1, .boxst .Dice)] [101, 102] (D.Target × D.Dice) (fun q => ((q.1, ()), (q.2, ()))) (fun x y => made_Dice_Target_1c0c1 fu y.1 (D.Book.mk y.2.1 y.2.2.1))
theorem made_Dice_Target_1c0c1_ok (fu : Nat) : FnOK Tryz.prog 33 (made_Dice_Target_1c0c1_g fu) :=
 FnOK.intro (ty := ty) (E := envL [(32, 0, made_Dice_Next_g fu)]) (fu := fu) (an := .two .go (.two .go (.two (.join [(0, .one (.ref 1)), (3, .one (.ref 1003)), (4, .one (.ref 1004)), (5, nI)] [(1, .boxst .Dice), (1003, .box [.own 101, .own 102]), (1004, .boxst .Target), (101, .arr .Team), (102, .arr .Policy)] .go) .go))) (fun a b => (a.1, b.1)) (fun _ _ => rfl) (envL_ok ⟨made_Dice_Next_ok fu, trivial⟩) Tryz.func33 rfl rfl (fun x y => by kernel_rfl)
def made_Dice_Book (fu : Nat) (p0 : D.Dice) : Option (D.Book × D.Dice) :=
 (optc (made_Dice_Next fu p0 3) fun (a0, a1) =>
 (iterF (X := ((Int × Unit) × (D.Dice × (Unit × (Unit × (List D.Team × Unit)))))) (fun L2 ((a3, _), (a4, (_, (_, (a5, _))))) =>
 (cnd (decide (0 < a3))
 (atc ((ByteArray.mk (List.toArray (99 :: (111 :: (114 :: (101 :: [])))))) :: ((ByteArray.mk (List.toArray (119 :: (101 :: (98 :: []))))) :: [])) (((List.length a5) : Nat) : Int) fun a6 =>
 (optc (made_Dice_Next fu a4 2) fun (a7, a8) =>
 (join (Y := ((Int × Unit) × (D.Dice × (Unit × (Unit × (D.Team × (List D.Team × Unit))))))) (fun ((a9, _), (a10, (_, (_, (a11, (a12, _)))))) =>
 (lec ((List.length a12) + (List.length (a11 :: []))) 34359738368 (L2 (((IntKind.wrap .i64 (a9 - 1)), ()), (a10, ((), ((), ((a12 ++ (a11 :: [])), ())))))))) fun J13 =>
 (optc (made_Dice_Next fu a8 2) fun (a14, a15) =>
 (cnd (decide (a14 = 0))
 (optc (made_Dice_Next fu a15 2) fun (a16, a17) =>
 (lec ((List.length (a7 :: [])) + (List.length ((IntKind.wrap .i64 (2 + a16)) :: []))) 34359738368 (J13 ((a3, ()), (a17, ((), ((), ((D.Team.mk a6 ((a7 :: []) ++ ((IntKind.wrap .i64 (2 + a16)) :: []))), (a5, ())))))))))
 (J13 ((a3, ()), (a15, ((), ((), ((D.Team.mk a6 (a7 :: [])), (a5, ()))))))))))))
 (optc (made_Dice_Next fu a4 3) fun (a18, a19) =>
 (iterF (X := ((Int × Unit) × (D.Dice × (Unit × (Unit × (List D.Team × (List D.Policy × Unit))))))) (fun L20 ((a21, _), (a22, (_, (_, (a23, (a24, _)))))) =>
 (cnd (decide (0 < a21))
 (atc ((ByteArray.mk (List.toArray (112 :: []))) :: ((ByteArray.mk (List.toArray (113 :: []))) :: ((ByteArray.mk (List.toArray (114 :: []))) :: []))) (((List.length a24) : Nat) : Int) fun a25 =>
 (optc (made_Dice_One fu a22 (0 :: (0 :: (1 :: (2 :: []))))) fun (a26, a27) =>
 (optc (made_Dice_Next fu a27 3) fun (a28, a29) =>
 (iterF (X := ((Int × (Int × Unit)) × (D.Dice × (Unit × (Unit × ((ByteArray × (Int × Unit)) × (List D.Team × (List D.Policy × (List D.PolicyStep × Unit))))))))) (fun L30 ((a31, (a32, _)), (a33, (_, (_, ((a34, (a35, _)), (a36, (a37, (a38, _)))))))) =>
 (cnd (decide (0 < a32))
 (optc (made_Dice_One fu a33 (0 :: (60 :: (300 :: (600 :: (900 :: [])))))) fun (a39, a40) =>
 (optc (made_Dice_Next fu a40 2) fun (a41, a42) =>
 (optc (made_Dice_Next fu a42 3) fun (a43, a44) =>
 (iterF (X := (P3 × (D.Dice × (Unit × (Unit × ((ByteArray × (Int × Unit)) × ((Int × (Bool × Unit)) × (List D.Team × (List D.Policy × (List D.PolicyStep × (List D.Target × Unit))))))))))) (fun L45 ((a46, (a47, (a48, _))), (a49, (_, (_, ((a50, (a51, _)), ((a52, (a53, _)), (a54, (a55, (a56, (a57, _)))))))))) =>
 (cnd (decide (0 < a48))
 (optc (made_Dice_Target_1c0c1 fu a49 (D.Book.mk a54 a55)) fun (a58, a59) =>
 (lec ((List.length a57) + (List.length (a58 :: []))) 34359738368 (L45 ((a46, (a47, ((IntKind.wrap .i64 (a48 - 1)), ()))), (a59, ((), ((), ((a50, (a51, ())), ((a52, (a53, ())), (a54, (a55, (a56, ((a57 ++ (a58 :: [])), ())))))))))))))
 (lec ((List.length a56) + (List.length ((D.PolicyStep.mk a52 a53 a57) :: []))) 34359738368 (L30 ((a46, ((IntKind.wrap .i64 (a47 - 1)), ())), (a49, ((), ((), ((a50, (a51, ())), (a54, (a55, ((a56 ++ ((D.PolicyStep.mk a52 a53 a57) :: [])), ())))))))))))) fu ((a31, (a32, (a43, ()))), (a44, ((), ((), ((a34, (a35, ())), ((a39, ((decide (a41 = 0)), ())), (a36, (a37, (a38, ([], ()))))))))))))))
 (lec ((List.length a37) + (List.length ((D.Policy.mk a34 a38 a35) :: []))) 34359738368 (L20 (((IntKind.wrap .i64 (a31 - 1)), ()), (a33, ((), ((), (a36, ((a37 ++ ((D.Policy.mk a34 a38 a35) :: [])), ())))))))))) fu ((a21, ((IntKind.wrap .i64 (1 + a28)), ())), (a29, ((), ((), ((a25, (a26, ())), (a23, (a24, ([], ()))))))))))))
 (some ((D.Book.mk a23 a24), a22)))) fu (((IntKind.wrap .i64 (1 + a18)), ()), (a19, ((), ((), (a5, ([], ())))))))))) fu ((a0, ()), (a1, ((), ((), ([], ())))))))
def made_Dice_Book_g (fu : Nat) : Sig := mkSig [.one (.ref 1)] [(1, .boxst .Dice)] [.st .Book] [(1, .boxst .Dice)] [] (D.Book × D.Dice) (fun q => ((q.1, ()), (q.2, ()))) (fun x y => made_Dice_Book fu y.1)
theorem made_Dice_Book_ok (fu : Nat) : FnOK Tryz.prog 31 (made_Dice_Book_g fu) :=
 FnOK.intro (ty := ty) (E := envL [(32, 0, made_Dice_Next_g fu), (33, 0, made_Dice_Target_1c0c1_g fu), (33, 0, made_Dice_Target_1c0_g fu), (48, 0, made_Dice_One_g fu)]) (fu := fu) (an := .two .go (.two .go (.two (.two .go (.one (.loop [(0, .one (.ref 1)), (2, .one (.ref 1002)), (3, .one (.ref 1003)), (4, nI)] [(1, .boxst .Dice), (1002, .box [.nul, .nul]), (1003, .box [.own 1042, .nul]), (1042, .arr .Team)] (.two .go (.two (.one (.two .go (.two (.join [(0, .one (.ref 1)), (2, .one (.ref 1002)), (3, .one (.ref 1003)), (4, nI), (5, .one (.ref 1005))] [(1, .boxst .Dice), (1002, .box [.nul, .nul]), (1003, .box [.own 1042, .nul]), (1005, .boxst .Team), (1042, .arr .Team)] .go) .go))) .go))))) (.two (.two .go (.one (.loop [(0, .one (.ref 1)), (2, .one (.ref 1002)), (3, .one (.ref 1003)), (6, nI)] [(1, .boxst .Dice), (1002, .box [.nul, .nul]), (1003, .box [.own 1042, .own 1099]), (1042, .arr .Team), (1099, .arr .Policy)] (.two .go (.two (.one (.two .go (.two (.two .go (.one (.loop [(0, .one (.ref 1)), (2, .one (.ref 1002)), (3, .one (.ref 1003)), (6, nI), (7, .one (.ref 1007)), (8, nI)] [(1, .boxst .Dice), (1002, .box [.nul, .nul]), (1003, .box [.own 1042, .own 1099]), (1007, .box [.str, .own 1093, .num .i64]), (1042, .arr .Team), (1099, .arr .Policy), (1093, .arr .PolicyStep)] (.two .go (.two (.one (.two .go (.two (.two .go (.one (.loop [(0, .one (.ref 1)), (2, .one (.ref 1002)), (3, .one (.ref 1003)), (6, nI), (7, .one (.ref 1007)), (8, nI), (9, .one (.ref 1009)), (10, nI)] [(1, .boxst .Dice), (1002, .box [.nul, .nul]), (1003, .box [.own 1042, .own 1099]), (1007, .box [.str, .own 1093, .num .i64]), (1009, .box [.num .i64, .boo, .own 1087]), (1042, .arr .Team), (1099, .arr .Policy), (1093, .arr .PolicyStep), (1087, .arr .Target)] .go))) .go))) .go))))) .go))) .go))))) .go)))) (fun a b => (a.1, b.1)) (fun _ _ => rfl) (envL_ok ⟨made_Dice_Next_ok fu, made_Dice_Target_1c0c1_ok fu, made_Dice_Target_1c0_ok fu, made_Dice_One_ok fu, trivial⟩) Tryz.func31 rfl rfl (fun x y => by kernel_rfl)
def math_bits_Len64 (fu : Nat) (p0 : Int) : Option (Int) :=
 (join (Y := ((Int × (Int × Unit)) × Unit)) (fun ((a0, (a1, _)), _) =>
 (join (Y := ((Int × (Int × Unit)) × Unit)) (fun ((a2, (a3, _)), _) =>
 (join (Y := ((Int × (Int × Unit)) × Unit)) (fun ((a4, (a5, _)), _) =>
 (natc (IntKind.wrap .u8 a4) fun a6 =>
 (ltc a6 (ByteArray.size (ByteArray.mk (List.toArray (List.append (List.append (0 :: (1 :: (2 :: (2 :: (3 :: (3 :: (3 :: (3 :: (4 :: (4 :: (4 :: (4 :: (4 :: (4 :: (4 :: (4 :: (5 :: (5 :: (5 :: (5 :: (5 :: (5 :: (5 :: (5 :: (5 :: (5 :: (5 :: (5 :: (5 :: (5 :: (5 :: (5 :: (6 :: (6 :: (6 :: (6 :: (6 :: (6 :: (6 :: (6 :: (6 :: (6 :: (6 :: (6 :: (6 :: (6 :: (6 :: (6 :: (6 :: (6 :: (6 :: (6 :: (6 :: (6 :: (6 :: (6 :: (6 :: (6 :: (6 :: (6 :: (6 :: (6 :: (6 :: (6 :: [])))))))))))))))))))))))))))))))))))))))))))))))))))))))))))))))) (7 :: (7 :: (7 :: (7 :: (7 :: (7 :: (7 :: (7 :: (7 :: (7 :: (7 :: (7 :: (7 :: (7 :: (7 :: (7 :: (7 :: (7 :: (7 :: (7 :: (7 :: (7 :: (7 :: (7 :: (7 :: (7 :: (7 :: (7 :: (7 :: (7 :: (7 :: (7 :: (7 :: (7 :: (7 :: (7 :: (7 :: (7 :: (7 :: (7 :: (7 :: (7 :: (7 :: (7 :: (7 :: (7 :: (7 :: (7 :: (7 :: (7 :: (7 :: (7 :: (7 :: (7 :: (7 :: (7 :: (7 :: (7 :: (7 :: (7 :: (7 :: (7 :: (7 :: (7 :: []))))))))))))))))))))))))))))))))))))))))))))))))))))))))))))))))) (List.append (8 :: (8 :: (8 :: (8 :: (8 :: (8 :: (8 :: (8 :: (8 :: (8 :: (8 :: (8 :: (8 :: (8 :: (8 :: (8 :: (8 :: (8 :: (8 :: (8 :: (8 :: (8 :: (8 :: (8 :: (8 :: (8 :: (8 :: (8 :: (8 :: (8 :: (8 :: (8 :: (8 :: (8 :: (8 :: (8 :: (8 :: (8 :: (8 :: (8 :: (8 :: (8 :: (8 :: (8 :: (8 :: (8 :: (8 :: (8 :: (8 :: (8 :: (8 :: (8 :: (8 :: (8 :: (8 :: (8 :: (8 :: (8 :: (8 :: (8 :: (8 :: (8 :: (8 :: (8 :: [])))))))))))))))))))))))))))))))))))))))))))))))))))))))))))))))) (8 :: (8 :: (8 :: (8 :: (8 :: (8 :: (8 :: (8 :: (8 :: (8 :: (8 :: (8 :: (8 :: (8 :: (8 :: (8 :: (8 :: (8 :: (8 :: (8 :: (8 :: (8 :: (8 :: (8 :: (8 :: (8 :: (8 :: (8 :: (8 :: (8 :: (8 :: (8 :: (8 :: (8 :: (8 :: (8 :: (8 :: (8 :: (8 :: (8 :: (8 :: (8 :: (8 :: (8 :: (8 :: (8 :: (8 :: (8 :: (8 :: (8 :: (8 :: (8 :: (8 :: (8 :: (8 :: (8 :: (8 :: (8 :: (8 :: (8 :: (8 :: (8 :: (8 :: (8 :: []))))))))))))))))))))))))))))))))))))))))))))))))))))))))))))))))))))) (some (IntKind.wrap .i64 (a5 + (IntKind.wrap .i64 (((bAt (ByteArray.mk (List.toArray (List.append (List.append (0 :: (1 :: (2 :: (2 :: (3 :: (3 :: (3 :: (3 :: (4 :: (4 :: (4 :: (4 :: (4 :: (4 :: (4 :: (4 :: (5 :: (5 :: (5 :: (5 :: (5 :: (5 :: (5 :: (5 :: (5 :: (5 :: (5 :: (5 :: (5 :: (5 :: (5 :: (5 :: (6 :: (6 :: (6 :: (6 :: (6 :: (6 :: (6 :: (6 :: (6 :: (6 :: (6 :: (6 :: (6 :: (6 :: (6 :: (6 :: (6 :: (6 :: (6 :: (6 :: (6 :: (6 :: (6 :: (6 :: (6 :: (6 :: (6 :: (6 :: (6 :: (6 :: (6 :: (6 :: [])))))))))))))))))))))))))))))))))))))))))))))))))))))))))))))))) (7 :: (7 :: (7 :: (7 :: (7 :: (7 :: (7 :: (7 :: (7 :: (7 :: (7 :: (7 :: (7 :: (7 :: (7 :: (7 :: (7 :: (7 :: (7 :: (7 :: (7 :: (7 :: (7 :: (7 :: (7 :: (7 :: (7 :: (7 :: (7 :: (7 :: (7 :: (7 :: (7 :: (7 :: (7 :: (7 :: (7 :: (7 :: (7 :: (7 :: (7 :: (7 :: (7 :: (7 :: (7 :: (7 :: (7 :: (7 :: (7 :: (7 :: (7 :: (7 :: (7 :: (7 :: (7 :: (7 :: (7 :: (7 :: (7 :: (7 :: (7 :: (7 :: (7 :: (7 :: []))))))))))))))))))))))))))))))))))))))))))))))))))))))))))))))))) (List.append (8 :: (8 :: (8 :: (8 :: (8 :: (8 :: (8 :: (8 :: (8 :: (8 :: (8 :: (8 :: (8 :: (8 :: (8 :: (8 :: (8 :: (8 :: (8 :: (8 :: (8 :: (8 :: (8 :: (8 :: (8 :: (8 :: (8 :: (8 :: (8 :: (8 :: (8 :: (8 :: (8 :: (8 :: (8 :: (8 :: (8 :: (8 :: (8 :: (8 :: (8 :: (8 :: (8 :: (8 :: (8 :: (8 :: (8 :: (8 :: (8 :: (8 :: (8 :: (8 :: (8 :: (8 :: (8 :: (8 :: (8 :: (8 :: (8 :: (8 :: (8 :: (8 :: (8 :: (8 :: [])))))))))))))))))))))))))))))))))))))))))))))))))))))))))))))))) (8 :: (8 :: (8 :: (8 :: (8 :: (8 :: (8 :: (8 :: (8 :: (8 :: (8 :: (8 :: (8 :: (8 :: (8 :: (8 :: (8 :: (8 :: (8 :: (8 :: (8 :: (8 :: (8 :: (8 :: (8 :: (8 :: (8 :: (8 :: (8 :: (8 :: (8 :: (8 :: (8 :: (8 :: (8 :: (8 :: (8 :: (8 :: (8 :: (8 :: (8 :: (8 :: (8 :: (8 :: (8 :: (8 :: (8 :: (8 :: (8 :: (8 :: (8 :: (8 :: (8 :: (8 :: (8 :: (8 :: (8 :: (8 :: (8 :: (8 :: (8 :: (8 :: (8 :: (8 :: [])))))))))))))))))))))))))))))))))))))))))))))))))))))))))))))))))))) a6) : Nat) : Int)))))))) fun J7 =>
 (cnd (decide (256 ≤ a2))
 none
 (J7 ((a2, (a3, ())), ()))))) fun J8 =>
 (cnd (decide (65536 ≤ a0))
 none
 (J8 ((a0, (a1, ())), ()))))) fun J9 =>
 (cnd (decide (4294967296 ≤ p0))
 none
 (J9 ((p0, (0, ())), ()))))
def math_bits_Len64_g (fu : Nat) : Sig := mkSig [.one (.num .u64)] [] [nI] [] [] (Int) (fun q => ((q, ()), ())) (fun x y => math_bits_Len64 fu x.1)
theorem math_bits_Len64_ok (fu : Nat) : FnOK Tryz.prog 166 (math_bits_Len64_g fu) :=
 FnOK.intro (ty := ty) (E := envL []) (fu := fu) (an := .two .go (.two (.join [(0, .one (.num .u64)), (2, nI)] [] .go) (.two (.join [(0, .one (.num .u64)), (2, nI)] [] .go) (.two (.join [(0, .one (.num .u64)), (2, nI)] [] .go) .go)))) (fun a b => a.1) (fun _ _ => rfl) (envL_ok (l := []) trivial) Tryz.func166 rfl rfl (fun x y => by kernel_rfl)
def math_bits_Len (fu : Nat) (p0 : Int) : Option (Int) :=
 (optc (math_bits_Len64 fu p0) fun a0 =>
 (some a0))
def math_bits_Len_g (fu : Nat) : Sig := mkSig [.one (.num .u64)] [] [nI] [] [] (Int) (fun q => ((q, ()), ())) (fun x y => math_bits_Len fu x.1)
theorem math_bits_Len_ok (fu : Nat) : FnOK Tryz.prog 116 (math_bits_Len_g fu) :=
 FnOK.intro (ty := ty) (E := envL [(166, 0, math_bits_Len64_g fu)]) (fu := fu) (an := .go) (fun a b => a.1) (fun _ _ => rfl) (envL_ok ⟨math_bits_Len64_ok fu, trivial⟩) Tryz.func116 rfl rfl (fun x y => by kernel_rfl)
def policy_sizes (fu : Nat) (p0 : D.Config) (p1 : D.Book) : Option (D.Arr3Int) :=
 (some (D.Arr3Int.mk (((List.length (D.Config.People p0)) : Nat) : Int) (((List.length (D.Config.Schedules p0)) : Nat) : Int) (((List.length (D.Book.Teams p1)) : Nat) : Int)))
def policy_sizes_g (fu : Nat) : Sig := mkSig [.st .Config, .st .Book] [] [.st .Arr3Int] [] [] (D.Arr3Int) (fun q => ((q, ()), ())) (fun x y => policy_sizes fu x.1 x.2.1)
theorem policy_sizes_ok (fu : Nat) : FnOK Tryz.prog 124 (policy_sizes_g fu) :=
 FnOK.intro (ty := ty) (E := envL []) (fu := fu) (an := .go) (fun a b => a.1) (fun _ _ => rfl) (envL_ok (l := []) trivial) Tryz.func124 rfl rfl (fun x y => by kernel_rfl)
def lexer_small (fu : Nat) (p0 : Int) : Option (Bool) :=
 (cnd (decide (97 ≤ p0))
 (cnd (decide (p0 ≤ 122))
 (some true)
 (some false))
 (some false))
def lexer_small_g (fu : Nat) : Sig := mkSig [.one (.num .u8)] [] [.one (.boo)] [] [] (Bool) (fun q => ((q, ()), ())) (fun x y => lexer_small fu x.1)
theorem lexer_small_ok (fu : Nat) : FnOK Tryz.prog 214 (lexer_small_g fu) :=
 FnOK.intro (ty := ty) (E := envL []) (fu := fu) (an := .go) (fun a b => a.1) (fun _ _ => rfl) (envL_ok (l := []) trivial) Tryz.func214 rfl rfl (fun x y => by kernel_rfl)
def lexer_digit (fu : Nat) (p0 : Int) : Option (Bool) :=
 (cnd (decide (48 ≤ p0))
 (cnd (decide (p0 ≤ 57))
 (some true)
 (some false))
 (some false))
def lexer_digit_g (fu : Nat) : Sig := mkSig [.one (.num .u8)] [] [.one (.boo)] [] [] (Bool) (fun q => ((q, ()), ())) (fun x y => lexer_digit fu x.1)
theorem lexer_digit_ok (fu : Nat) : FnOK Tryz.prog 215 (lexer_digit_g fu) :=
 FnOK.intro (ty := ty) (E := envL []) (fu := fu) (an := .go) (fun a b => a.1) (fun _ _ => rfl) (envL_ok (l := []) trivial) Tryz.func215 rfl rfl (fun x y => by kernel_rfl)
def lexer_Name (fu : Nat) (p0 : ByteArray) : Option (Bool) :=
 (join (Y := ((ByteArray × Unit) × Unit)) (fun ((a0, _), _) =>
 (iterF (X := ((ByteArray × (Int × (Int × Unit))) × Unit)) (fun L1 ((a2, (a3, (a4, _))), _) =>
 (cnd (decide (a4 < a3))
 (join (Y := ((ByteArray × (Int × (Int × Unit))) × Unit)) (fun ((a5, (a6, (a7, _))), _) =>
 (L1 ((a5, (a6, ((IntKind.wrap .i64 (a7 + 1)), ()))), ()))) fun J8 =>
 (natc a4 fun a9 =>
 (ltc a9 (ByteArray.size a2) (optc (lexer_small fu (((bAt a2 a9) : Nat) : Int)) fun a10 =>
 (cnd a10
 (J8 ((a2, (a3, (a4, ()))), ()))
 (optc (lexer_digit fu (((bAt a2 a9) : Nat) : Int)) fun a11 =>
 (cnd a11
 (J8 ((a2, (a3, (a4, ()))), ()))
 (cnd (decide ((((bAt a2 a9) : Nat) : Int) ≠ 95))
 (cnd (decide ((((bAt a2 a9) : Nat) : Int) ≠ 45))
 (some false)
 (J8 ((a2, (a3, (a4, ()))), ())))
 (J8 ((a2, (a3, (a4, ()))), ()))))))))))
 (some true))) fu ((a0, ((((ByteArray.size a0) : Nat) : Int), (0, ()))), ()))) fun J12 =>
 (cnd (decide (p0 = (ByteArray.mk (List.toArray []))))
 (some false)
 (cnd (decide (24 < (((ByteArray.size p0) : Nat) : Int)))
 (some false)
 (natc 0 fun a13 =>
 (ltc a13 (ByteArray.size p0) (optc (lexer_small fu (((bAt p0 a13) : Nat) : Int)) fun a14 =>
 (cnd a14
 (J12 ((p0, ()), ()))
 (some false))))))))
def lexer_Name_g (fu : Nat) : Sig := mkSig [.one (.str)] [] [.one (.boo)] [] [] (Bool) (fun q => ((q, ()), ())) (fun x y => lexer_Name fu x.1)
theorem lexer_Name_ok (fu : Nat) : FnOK Tryz.prog 168 (lexer_Name_g fu) :=
 FnOK.intro (ty := ty) (E := envL [(214, 0, lexer_small_g fu), (215, 0, lexer_digit_g fu)]) (fu := fu) (an := .two .go (.two (.join [(0, .one (.str))] [] .go) (.two (.two .go (.one (.loop [(0, .one (.str)), (19, nI), (20, nI)] [] (.two .go (.two .go (.two (.join [(0, .one (.str)), (19, nI), (20, nI)] [] .go) .go)))))) .go))) (fun a b => a.1) (fun _ _ => rfl) (envL_ok ⟨lexer_small_ok fu, lexer_digit_ok fu, trivial⟩) Tryz.func168 rfl rfl (fun x y => by kernel_rfl)
def resolve_name (fu : Nat) (p0 : ByteArray) (p1 : List (ByteArray × Bool)) : Option (Int × List (ByteArray × Bool)) :=
 (optc (lexer_Name fu p0) fun a0 =>
 (cnd (!a0)
 (some (2, p1))
 (cnd (memB p0 p1)
 (some (4, p1))
 (chk (cntB p0 p1) 0 (some (0, (p1 ++ ((p0, true) :: []))))))))
def resolve_name_g (fu : Nat) : Sig := mkSig [.one (.str), .one (.mref 101)] [(101, .sm)] [nI] [(101, .sm)] [] (Int × List (ByteArray × Bool)) (fun q => ((q.1, ()), (q.2, ()))) (fun x y => resolve_name fu x.1 y.1)
theorem resolve_name_ok (fu : Nat) : FnOK Tryz.prog 204 (resolve_name_g fu) :=
 FnOK.intro (ty := ty) (E := envL [(168, 0, lexer_Name_g fu)]) (fu := fu) (an := .go) (fun a b => (a.1, b.1)) (fun _ _ => rfl) (envL_ok ⟨lexer_Name_ok fu, trivial⟩) Tryz.func204 rfl rfl (fun x y => by kernel_rfl)
def resolve_index (fu : Nat) (p0 : Int) (p1 : Int) : Option (Bool) :=
 (cnd (decide (0 ≤ p0))
 (cnd (decide (p0 < p1))
 (some true)
 (some false))
 (some false))
def resolve_index_g (fu : Nat) : Sig := mkSig [nI, nI] [] [.one (.boo)] [] [] (Bool) (fun q => ((q, ()), ())) (fun x y => resolve_index fu x.1 x.2.1)
theorem resolve_index_ok (fu : Nat) : FnOK Tryz.prog 243 (resolve_index_g fu) :=
 FnOK.intro (ty := ty) (E := envL []) (fu := fu) (an := .go) (fun a b => a.1) (fun _ _ => rfl) (envL_ok (l := []) trivial) Tryz.func243 rfl rfl (fun x y => by kernel_rfl)
def week_Check (fu : Nat) (p0 : List D.Window) : Option (Int) :=
 (cnd (decide (14 < (((List.length p0) : Nat) : Int)))
 (some 5)
 (iterF (X := ((List D.Window × (List D.Window × (Int × (Int × Unit)))) × Unit)) (fun L0 ((a1, (a2, (a3, (a4, _)))), _) =>
 (cnd (decide (a4 < a3))
 (join (Y := ((List D.Window × (List D.Window × (Int × (Int × Unit)))) × Unit)) (fun ((a5, (a6, (a7, (a8, _)))), _) =>
 (L0 ((a5, (a6, (a7, ((IntKind.wrap .i64 (a8 + 1)), ())))), ()))) fun J9 =>
 (atc a2 a4 fun a10 =>
 (cnd (decide ((D.Window.From a10) < 0))
 (some 1)
 (cnd (decide ((D.Window.To a10) ≤ (D.Window.From a10)))
 (some 1)
 (cnd (decide (604800 < (D.Window.To a10)))
 (some 1)
 (cnd (decide (0 < a4))
 (atc a1 (IntKind.wrap .i64 (a4 - 1)) fun a11 =>
 (cnd (decide ((D.Window.From a10) < (D.Window.To a11)))
 (some 6)
 (J9 ((a1, (a2, (a3, (a4, ())))), ()))))
 (J9 ((a1, (a2, (a3, (a4, ())))), ()))))))))
 (some 0))) fu ((p0, (p0, ((((List.length p0) : Nat) : Int), (0, ())))), ())))
def week_Check_g (fu : Nat) : Sig := mkSig [.one (.lst .Window)] [] [nI] [] [] (Int) (fun q => ((q, ()), ())) (fun x y => week_Check fu x.1)
theorem week_Check_ok (fu : Nat) : FnOK Tryz.prog 244 (week_Check_g fu) :=
 FnOK.intro (ty := ty) (E := envL []) (fu := fu) (an := .two .go (.two .go (.two (.two .go (.one (.loop [(0, .one (.lst .Window)), (8, .one (.lst .Window)), (9, nI), (10, nI)] [] (.two .go (.two .go (.two (.join [(0, .one (.lst .Window)), (8, .one (.lst .Window)), (9, nI), (10, nI)] [] .go) .go)))))) .go))) (fun a b => a.1) (fun _ _ => rfl) (envL_ok (l := []) trivial) Tryz.func244 rfl rfl (fun x y => by kernel_rfl)
def resolve_in (fu : Nat) (p0 : Int) (p1 : Int) (p2 : Int) : Option (Bool) :=
 (cnd (decide (p1 ≤ p0))
 (cnd (decide (p0 ≤ p2))
 (some true)
 (some false))
 (some false))
def resolve_in_g (fu : Nat) : Sig := mkSig [nI, nI, nI] [] [.one (.boo)] [] [] (Bool) (fun q => ((q, ()), ())) (fun x y => resolve_in fu x.1 x.2.1 x.2.2.1)
theorem resolve_in_ok (fu : Nat) : FnOK Tryz.prog 266 (resolve_in_g fu) :=
 FnOK.intro (ty := ty) (E := envL []) (fu := fu) (an := .go) (fun a b => a.1) (fun _ _ => rfl) (envL_ok (l := []) trivial) Tryz.func266 rfl rfl (fun x y => by kernel_rfl)
def resolve_hours (fu : Nat) (p0 : Int) : Option (Bool) :=
 (optc (resolve_in fu p0 0 604800) fun a0 =>
 (cnd a0
 (nzc 3600 (cnd (decide ((Int.tmod p0 3600) = 0))
 (some true)
 (some false)))
 (some false)))
def resolve_hours_g (fu : Nat) : Sig := mkSig [nI] [] [.one (.boo)] [] [] (Bool) (fun q => ((q, ()), ())) (fun x y => resolve_hours fu x.1)
theorem resolve_hours_ok (fu : Nat) : FnOK Tryz.prog 245 (resolve_hours_g fu) :=
 FnOK.intro (ty := ty) (E := envL [(266, 0, resolve_in_g fu)]) (fu := fu) (an := .go) (fun a b => a.1) (fun _ _ => rfl) (envL_ok ⟨resolve_in_ok fu, trivial⟩) Tryz.func245 rfl rfl (fun x y => by kernel_rfl)
def resolve_checkPerson (fu : Nat) (p0 : D.Config) (p1 : D.Person) : Option (Int) :=
 (join (Y := (Unit × Unit)) (fun (_, _) =>
 (some 0)) fun J0 =>
 (optc (resolve_index fu (D.Person.Zone p1) (((List.length (D.Config.Zones p0)) : Nat) : Int)) fun a1 =>
 (cnd (!a1)
 (some 3)
 (optc (week_Check fu (D.Person.Quiet p1)) fun a2 =>
 (cnd (decide (a2 ≠ 0))
 (some 8)
 (optc (resolve_hours fu (D.Person.MaxWeek p1)) fun a3 =>
 (cnd a3
 (optc (resolve_hours fu (D.Person.MinRest p1)) fun a4 =>
 (cnd a4
 (J0 ((), ()))
 (some 1)))
 (some 1))))))))
def resolve_checkPerson_g (fu : Nat) : Sig := mkSig [.st .Config, .st .Person] [] [nI] [] [] (Int) (fun q => ((q, ()), ())) (fun x y => resolve_checkPerson fu x.1 x.2.1)
theorem resolve_checkPerson_ok (fu : Nat) : FnOK Tryz.prog 205 (resolve_checkPerson_g fu) :=
 FnOK.intro (ty := ty) (E := envL [(243, 0, resolve_index_g fu), (244, 0, week_Check_g fu), (245, 0, resolve_hours_g fu)]) (fu := fu) (an := .two .go (.two (.join [] [] .go) .go)) (fun a b => a.1) (fun _ _ => rfl) (envL_ok ⟨resolve_index_ok fu, week_Check_ok fu, resolve_hours_ok fu, trivial⟩) Tryz.func205 rfl rfl (fun x y => by kernel_rfl)
def resolve_Check_1 (fu : Nat) (p0 : D.Zone) : Option (ByteArray) :=
 (some (D.Zone.Name p0))
def resolve_Check_1_g (fu : Nat) : Sig := mkSig [.st .Zone] [] [.one (.str)] [] [] (ByteArray) (fun q => ((q, ()), ())) (fun x y => resolve_Check_1 fu x.1)
theorem resolve_Check_1_ok (fu : Nat) : FnOK Tryz.prog 202 (resolve_Check_1_g fu) :=
 FnOK.intro (ty := ty) (E := envL []) (fu := fu) (an := .go) (fun a b => a.1) (fun _ _ => rfl) (envL_ok (l := []) trivial) Tryz.func202 rfl rfl (fun x y => by kernel_rfl)
def zone_in (fu : Nat) (p0 : Int) (p1 : Int) (p2 : Int) : Option (Bool) :=
 (cnd (decide (p1 ≤ p0))
 (cnd (decide (p0 ≤ p2))
 (some true)
 (some false))
 (some false))
def zone_in_g (fu : Nat) : Sig := mkSig [nI, nI, nI] [] [.one (.boo)] [] [] (Bool) (fun q => ((q, ()), ())) (fun x y => zone_in fu x.1 x.2.1 x.2.2.1)
theorem zone_in_ok (fu : Nat) : FnOK Tryz.prog 278 (zone_in_g fu) :=
 FnOK.intro (ty := ty) (E := envL []) (fu := fu) (an := .go) (fun a b => a.1) (fun _ _ => rfl) (envL_ok (l := []) trivial) Tryz.func278 rfl rfl (fun x y => by kernel_rfl)
def zone_rule (fu : Nat) (p0 : D.YearRule) : Option (Int) :=
 (join (Y := (Unit × Unit)) (fun (_, _) =>
 (some 0)) fun J0 =>
 (optc (zone_in fu (D.YearRule.From p0) 1970 2240) fun a1 =>
 (cnd a1
 (optc (zone_in fu (D.YearRule.To p0) (D.YearRule.From p0) 2240) fun a2 =>
 (cnd a2
 (optc (zone_in fu (D.YearRule.Month p0) 1 12) fun a3 =>
 (cnd a3
 (optc (zone_in fu (D.YearRule.Week p0) 1 5) fun a4 =>
 (cnd a4
 (optc (zone_in fu (D.YearRule.Weekday p0) 0 6) fun a5 =>
 (cnd a5
 (optc (zone_in fu (D.YearRule.Second p0) 0 86399) fun a6 =>
 (cnd a6
 (optc (zone_in fu (D.YearRule.Offset p0) (-64800) 64800) fun a7 =>
 (cnd a7
 (J0 ((), ()))
 (some 1)))
 (some 1)))
 (some 1)))
 (some 1)))
 (some 1)))
 (some 1)))
 (some 1))))
def zone_rule_g (fu : Nat) : Sig := mkSig [.st .YearRule] [] [nI] [] [] (Int) (fun q => ((q, ()), ())) (fun x y => zone_rule fu x.1)
theorem zone_rule_ok (fu : Nat) : FnOK Tryz.prog 289 (zone_rule_g fu) :=
 FnOK.intro (ty := ty) (E := envL [(278, 0, zone_in_g fu)]) (fu := fu) (an := .two .go (.two (.join [] [] .go) .go)) (fun a b => a.1) (fun _ _ => rfl) (envL_ok ⟨zone_in_ok fu, trivial⟩) Tryz.func289 rfl rfl (fun x y => by kernel_rfl)
def civil_Leap (fu : Nat) (p0 : Int) : Option (Bool) :=
 (nzc 4 (cnd (decide ((Int.tmod p0 4) = 0))
 (nzc 100 (cnd (decide ((Int.tmod p0 100) ≠ 0))
 (some true)
 (nzc 400 (cnd (decide ((Int.tmod p0 400) = 0))
 (some true)
 (some false)))))
 (some false)))
def civil_Leap_g (fu : Nat) : Sig := mkSig [nI] [] [.one (.boo)] [] [] (Bool) (fun q => ((q, ()), ())) (fun x y => civil_Leap fu x.1)
theorem civil_Leap_ok (fu : Nat) : FnOK Tryz.prog 294 (civil_Leap_g fu) :=
 FnOK.intro (ty := ty) (E := envL []) (fu := fu) (an := .go) (fun a b => a.1) (fun _ _ => rfl) (envL_ok (l := []) trivial) Tryz.func294 rfl rfl (fun x y => by kernel_rfl)
def civil_Days (fu : Nat) (p0 : Int) (p1 : Int) : Option (Int) :=
 (join (Y := ((Int × (Int × Unit)) × Unit)) (fun ((a0, (a1, _)), _) =>
 (join (Y := ((Int × Unit) × (P12 × Unit))) (fun ((a2, _), ((a3, (a4, (a5, (a6, (a7, (a8, (a9, (a10, (a11, (a12, (a13, (a14, _)))))))))))), _)) =>
 (cnd (decide ((IntKind.wrap .i64 (a2 - 1)) = ((0 : Nat) : Int)))
 (some a3)
 (cnd (decide ((IntKind.wrap .i64 (a2 - 1)) = (((0 + 1) : Nat) : Int)))
 (some a4)
 (cnd (decide ((IntKind.wrap .i64 (a2 - 1)) = ((((0 + 1) + 1) : Nat) : Int)))
 (some a5)
 (cnd (decide ((IntKind.wrap .i64 (a2 - 1)) = (((((0 + 1) + 1) + 1) : Nat) : Int)))
 (some a6)
 (cnd (decide ((IntKind.wrap .i64 (a2 - 1)) = ((((((0 + 1) + 1) + 1) + 1) : Nat) : Int)))
 (some a7)
 (cnd (decide ((IntKind.wrap .i64 (a2 - 1)) = (((((((0 + 1) + 1) + 1) + 1) + 1) : Nat) : Int)))
 (some a8)
 (cnd (decide ((IntKind.wrap .i64 (a2 - 1)) = ((((((((0 + 1) + 1) + 1) + 1) + 1) + 1) : Nat) : Int)))
 (some a9)
 (cnd (decide ((IntKind.wrap .i64 (a2 - 1)) = (((((((((0 + 1) + 1) + 1) + 1) + 1) + 1) + 1) : Nat) : Int)))
 (some a10)
 (cnd (decide ((IntKind.wrap .i64 (a2 - 1)) = ((((((((((0 + 1) + 1) + 1) + 1) + 1) + 1) + 1) + 1) : Nat) : Int)))
 (some a11)
 (cnd (decide ((IntKind.wrap .i64 (a2 - 1)) = (((((((((((0 + 1) + 1) + 1) + 1) + 1) + 1) + 1) + 1) + 1) : Nat) : Int)))
 (some a12)
 (cnd (decide ((IntKind.wrap .i64 (a2 - 1)) = ((((((((((((0 + 1) + 1) + 1) + 1) + 1) + 1) + 1) + 1) + 1) + 1) : Nat) : Int)))
 (some a13)
 (cnd (decide ((IntKind.wrap .i64 (a2 - 1)) = (((((((((((((0 + 1) + 1) + 1) + 1) + 1) + 1) + 1) + 1) + 1) + 1) + 1) : Nat) : Int)))
 (some a14)
 none))))))))))))) fun J15 =>
 (cnd (decide (a1 = 2))
 (optc (civil_Leap fu a0) fun a16 =>
 (cnd a16
 (some 29)
 (J15 ((a1, ()), ((31, (28, (31, (30, (31, (30, (31, (31, (30, (31, (30, (31, ())))))))))))), ())))))
 (J15 ((a1, ()), ((31, (28, (31, (30, (31, (30, (31, (31, (30, (31, (30, (31, ())))))))))))), ())))))) fun J17 =>
 (cnd (decide (p1 < 1))
 (some 0)
 (cnd (decide (12 < p1))
 (some 0)
 (J17 ((p0, (p1, ())), ())))))
def civil_Days_g (fu : Nat) : Sig := mkSig [nI, nI] [] [nI] [] [] (Int) (fun q => ((q, ()), ())) (fun x y => civil_Days fu x.1 x.2.1)
theorem civil_Days_ok (fu : Nat) : FnOK Tryz.prog 281 (civil_Days_g fu) :=
 FnOK.intro (ty := ty) (E := envL [(294, 0, civil_Leap_g fu)]) (fu := fu) (an := .two .go (.two (.join [(0, nI), (1, nI)] [] .go) (.two .go (.two (.join [(1, nI), (5, .one (.ref 1005))] [(1005, .box [.num .i64, .num .i64, .num .i64, .num .i64, .num .i64, .num .i64, .num .i64, .num .i64, .num .i64, .num .i64, .num .i64, .num .i64])] .go) .go)))) (fun a b => a.1) (fun _ _ => rfl) (envL_ok ⟨civil_Leap_ok fu, trivial⟩) Tryz.func281 rfl rfl (fun x y => by kernel_rfl)
def civil_Valid (fu : Nat) (p0 : D.Date) : Option (Bool) :=
 (cnd (decide (1970 ≤ (D.Date.Year p0)))
 (cnd (decide ((D.Date.Year p0) ≤ 2240))
 (cnd (decide (1 ≤ (D.Date.Day p0)))
 (optc (civil_Days fu (D.Date.Year p0) (D.Date.Month p0)) fun a0 =>
 (cnd (decide ((D.Date.Day p0) ≤ a0))
 (some true)
 (some false)))
 (some false))
 (some false))
 (some false))
def civil_Valid_g (fu : Nat) : Sig := mkSig [.st .Date] [] [.one (.boo)] [] [] (Bool) (fun q => ((q, ()), ())) (fun x y => civil_Valid fu x.1)
theorem civil_Valid_ok (fu : Nat) : FnOK Tryz.prog 302 (civil_Valid_g fu) :=
 FnOK.intro (ty := ty) (E := envL [(281, 0, civil_Days_g fu)]) (fu := fu) (an := .go) (fun a b => a.1) (fun _ _ => rfl) (envL_ok ⟨civil_Days_ok fu, trivial⟩) Tryz.func302 rfl rfl (fun x y => by kernel_rfl)
def civil_floor (fu : Nat) (p0 : Int) (p1 : Int) : Option (Int) :=
 (nzc p1 (join (Y := ((Int × Unit) × Unit)) (fun ((a0, _), _) =>
 (some a0)) fun J1 =>
 (nzc p1 (cnd (decide ((Int.tmod p0 p1) < 0))
 (J1 (((IntKind.wrap .i64 ((IntKind.wrap .i64 (Int.tdiv p0 p1)) - 1)), ()), ()))
 (J1 (((IntKind.wrap .i64 (Int.tdiv p0 p1)), ()), ()))))))
def civil_floor_g (fu : Nat) : Sig := mkSig [nI, nI] [] [nI] [] [] (Int) (fun q => ((q, ()), ())) (fun x y => civil_floor fu x.1 x.2.1)
theorem civil_floor_ok (fu : Nat) : FnOK Tryz.prog 293 (civil_floor_g fu) :=
 FnOK.intro (ty := ty) (E := envL []) (fu := fu) (an := .two .go (.two .go (.two (.join [(5, nI)] [] .go) .go))) (fun a b => a.1) (fun _ _ => rfl) (envL_ok (l := []) trivial) Tryz.func293 rfl rfl (fun x y => by kernel_rfl)
def civil_count (fu : Nat) (p0 : Int) : Option (Int) :=
 (optc (civil_floor fu (IntKind.wrap .i64 (p0 - 1)) 4) fun a0 =>
 (optc (civil_floor fu (IntKind.wrap .i64 (p0 - 1)) 100) fun a1 =>
 (optc (civil_floor fu (IntKind.wrap .i64 (p0 - 1)) 400) fun a2 =>
 (some (IntKind.wrap .i64 ((IntKind.wrap .i64 ((IntKind.wrap .i64 ((IntKind.wrap .i64 ((IntKind.wrap .i64 (365 * (IntKind.wrap .i64 (p0 - 1970)))) + a0)) - a1)) + a2)) - 477))))))
def civil_count_g (fu : Nat) : Sig := mkSig [nI] [] [nI] [] [] (Int) (fun q => ((q, ()), ())) (fun x y => civil_count fu x.1)
theorem civil_count_ok (fu : Nat) : FnOK Tryz.prog 279 (civil_count_g fu) :=
 FnOK.intro (ty := ty) (E := envL [(293, 0, civil_floor_g fu)]) (fu := fu) (an := .go) (fun a b => a.1) (fun _ _ => rfl) (envL_ok ⟨civil_floor_ok fu, trivial⟩) Tryz.func279 rfl rfl (fun x y => by kernel_rfl)
def civil_number (fu : Nat) (p0 : D.Date) : Option (Int) :=
 (optc (civil_count fu (D.Date.Year p0)) fun a0 =>
 (iterF (X := ((Int × (Int × Unit)) × (D.Date × Unit))) (fun L1 ((a2, (a3, _)), (a4, _)) =>
 (cnd (decide (a3 < (D.Date.Month a4)))
 (optc (civil_Days fu (D.Date.Year a4) a3) fun a5 =>
 (L1 (((IntKind.wrap .i64 (a2 + a5)), ((IntKind.wrap .i64 (a3 + 1)), ())), (a4, ()))))
 (some a2))) fu (((IntKind.wrap .i64 ((IntKind.wrap .i64 (a0 + (D.Date.Day p0))) - 1)), (1, ())), (p0, ()))))
def civil_number_g (fu : Nat) : Sig := mkSig [.st .Date] [] [nI] [] [] (Int) (fun q => ((q, ()), ())) (fun x y => civil_number fu x.1)
theorem civil_number_ok (fu : Nat) : FnOK Tryz.prog 303 (civil_number_g fu) :=
 FnOK.intro (ty := ty) (E := envL [(279, 0, civil_count_g fu), (281, 0, civil_Days_g fu)]) (fu := fu) (an := .two .go (.two .go (.two (.two .go (.one (.loop [(1, .one (.ref 1001)), (3, nI), (4, nI)] [(1001, .boxst .Date)] .go))) .go))) (fun a b => a.1) (fun _ _ => rfl) (envL_ok ⟨civil_count_ok fu, civil_Days_ok fu, trivial⟩) Tryz.func303 rfl rfl (fun x y => by kernel_rfl)
def civil_Nth (fu : Nat) (p0 : Int) (p1 : Int) (p2 : Int) (p3 : Int) : Option (Int × Int) :=
 (join (Y := (P4 × (D.Date × Unit))) (fun ((a0, (a1, (a2, (a3, _)))), (a4, _)) =>
 (optc (civil_number fu a4) fun a5 =>
 (optc (civil_Weekday fu a5) fun a6 =>
 (nzc 7 (join (Y := ((Int × Unit) × Unit)) (fun ((a7, _), _) =>
 (some (a7, 0))) fun J8 =>
 (optc (civil_Days fu a0 a1) fun a9 =>
 (cnd (decide ((IntKind.wrap .i64 (a5 + a9)) ≤ (IntKind.wrap .i64 ((IntKind.wrap .i64 (a5 + (Int.tmod (IntKind.wrap .i64 ((IntKind.wrap .i64 (a3 - a6)) + 7)) 7))) + (IntKind.wrap .i64 (7 * (IntKind.wrap .i64 (a2 - 1))))))))
 (J8 (((IntKind.wrap .i64 ((IntKind.wrap .i64 ((IntKind.wrap .i64 (a5 + (Int.tmod (IntKind.wrap .i64 ((IntKind.wrap .i64 (a3 - a6)) + 7)) 7))) + (IntKind.wrap .i64 (7 * (IntKind.wrap .i64 (a2 - 1)))))) - 7)), ()), ()))
 (J8 (((IntKind.wrap .i64 ((IntKind.wrap .i64 (a5 + (Int.tmod (IntKind.wrap .i64 ((IntKind.wrap .i64 (a3 - a6)) + 7)) 7))) + (IntKind.wrap .i64 (7 * (IntKind.wrap .i64 (a2 - 1)))))), ()), ()))))))))) fun J10 =>
 (optc (civil_Valid fu (D.Date.mk p0 p1 1)) fun a11 =>
 (cnd a11
 (cnd (decide (p2 < 1))
 (some (0, 1))
 (cnd (decide (5 < p2))
 (some (0, 1))
 (cnd (decide (p3 < 0))
 (some (0, 1))
 (cnd (decide (6 < p3))
 (some (0, 1))
 (J10 ((p0, (p1, (p2, (p3, ())))), ((D.Date.mk p0 p1 1), ())))))))
 (some (0, 1)))))
def civil_Nth_g (fu : Nat) : Sig := mkSig [nI, nI, nI, nI] [] [nI, nI] [] [] (Int × Int) (fun q => ((q.1, q.2, ()), ())) (fun x y => civil_Nth fu x.1 x.2.1 x.2.2.1 x.2.2.2.1)
theorem civil_Nth_ok (fu : Nat) : FnOK Tryz.prog 290 (civil_Nth_g fu) :=
 FnOK.intro (ty := ty) (E := envL [(182, 0, civil_Weekday_g fu), (281, 0, civil_Days_g fu), (302, 0, civil_Valid_g fu), (303, 0, civil_number_g fu)]) (fu := fu) (an := .two .go (.two .go (.two (.join [(0, nI), (1, nI), (2, nI), (3, nI), (10, .one (.ref 1010))] [(1010, .boxst .Date)] .go) (.two .go (.two .go (.two (.join [(12, nI)] [] .go) .go)))))) (fun a b => (a.1, a.2.1)) (fun _ _ => rfl) (envL_ok ⟨civil_Weekday_ok fu, civil_Days_ok fu, civil_Valid_ok fu, civil_number_ok fu, trivial⟩) Tryz.func290 rfl rfl (fun x y => by kernel_rfl)
def zone_occurrences_1 (fu : Nat) (p0 : D.occurrence) (p1 : D.occurrence) : Option (Int) :=
 (some (IntKind.wrap .i64 ((D.occurrence.local_ p0) - (D.occurrence.local_ p1))))
def zone_occurrences_1_g (fu : Nat) : Sig := mkSig [.st .occurrence, .st .occurrence] [] [nI] [] [] (Int) (fun q => ((q, ()), ())) (fun x y => zone_occurrences_1 fu x.1 x.2.1)
theorem zone_occurrences_1_ok (fu : Nat) : FnOK Tryz.prog 292 (zone_occurrences_1_g fu) :=
 FnOK.intro (ty := ty) (E := envL []) (fu := fu) (an := .go) (fun a b => a.1) (fun _ _ => rfl) (envL_ok (l := []) trivial) Tryz.func292 rfl rfl (fun x y => by kernel_rfl)
def slices_insertionSortCmpFunc_occurrence_3Fzone_occurrences_1_0 (fu : Nat) (p0 : List (D.occurrence)) (p1 : Int) (p2 : Int) : Option (List (D.occurrence)) :=
 (iterF (X := (P3 × (List D.occurrence × Unit))) (fun L0 ((a1, (a2, (a3, _))), (a4, _)) =>
 (cnd (decide (a3 < a2))
 (join (Y := (P3 × (List D.occurrence × Unit))) (fun ((a5, (a6, (a7, _))), (a8, _)) =>
 (L0 ((a5, (a6, ((IntKind.wrap .i64 (a7 + 1)), ()))), (a8, ())))) fun J9 =>
 (iterF (X := (P4 × (List D.occurrence × Unit))) (fun L10 ((a11, (a12, (a13, (a14, _)))), (a15, _)) =>
 (join (Y := (P4 × (List D.occurrence × Unit))) (fun ((a16, (a17, (a18, (a19, _)))), (a20, _)) =>
 (natc (IntKind.wrap .i64 (a19 - 1)) fun a21 =>
 (ltc a21 (List.length a20) (optc (GetElem?.getElem? a20 a21) fun a22 =>
 (natc a19 fun a23 =>
 (ltc a23 (List.length a20) (optc (GetElem?.getElem? a20 a23) fun a24 =>
 (natc a19 fun a25 =>
 (ltc a25 (List.length a20) (optc (GetElem?.getElem? a20 a25) fun a26 =>
 (natc (IntKind.wrap .i64 (a19 - 1)) fun a27 =>
 (ltc a27 (List.length (List.set a20 a25 a22)) (optc (GetElem?.getElem? (List.set a20 a25 a22) a27) fun a28 =>
 (L10 ((a16, (a17, (a18, ((IntKind.wrap .i64 (a19 - 1)), ())))), ((List.set (List.set a20 a25 a22) a27 a24), ())))))))))))))))) fun J29 =>
 (cnd (decide (a11 < a14))
 (natc a14 fun a30 =>
 (ltc a30 (List.length a15) (optc (GetElem?.getElem? a15 a30) fun a31 =>
 (natc (IntKind.wrap .i64 (a14 - 1)) fun a32 =>
 (ltc a32 (List.length a15) (optc (GetElem?.getElem? a15 a32) fun a33 =>
 (optc (zone_occurrences_1 fu a31 a33) fun a34 =>
 (cnd (decide (a34 < 0))
 (J29 ((a11, (a12, (a13, (a14, ())))), (a15, ())))
 (J9 ((a11, (a12, (a13, ()))), (a15, ())))))))))))
 (J9 ((a11, (a12, (a13, ()))), (a15, ())))))) fu ((a1, (a2, (a3, (a3, ())))), (a4, ()))))
 (some a4))) fu ((p1, (p2, ((IntKind.wrap .i64 (p1 + 1)), ()))), (p0, ())))
def slices_insertionSortCmpFunc_occurrence_3Fzone_occurrences_1_0_g (fu : Nat) : Sig := mkSig [.one (.own 101), nI, nI, .one (.fv 292)] [(101, .arr .occurrence)] [] [(101, .arrs .occurrence)] [] (List (D.occurrence)) (fun q => ((), (q, ()))) (fun x y => slices_insertionSortCmpFunc_occurrence_3Fzone_occurrences_1_0 fu y.1 x.1 x.2.1)
theorem slices_insertionSortCmpFunc_occurrence_3Fzone_occurrences_1_0_ok (fu : Nat) : FnOK Tryz.prog 311 (slices_insertionSortCmpFunc_occurrence_3Fzone_occurrences_1_0_g fu) :=
 FnOK.intro (ty := ty) (E := envL [(292, 0, zone_occurrences_1_g fu)]) (fu := fu) (an := .two .go (.one (.loop [(0, .one (.own 101)), (1, nI), (2, nI), (3, .one (.fv 292)), (8, nI)] [(101, .arr .occurrence)] (.two .go (.two (.join [(0, .one (.own 101)), (1, nI), (2, nI), (3, .one (.fv 292)), (8, nI)] [(101, .arr .occurrence)] (.one (.two .go (.one (.loop [(0, .one (.own 101)), (1, nI), (2, nI), (3, .one (.fv 292)), (8, nI), (9, nI)] [(101, .arr .occurrence)] (.two (.join [(0, .one (.own 101)), (1, nI), (2, nI), (3, .one (.fv 292)), (8, nI), (9, nI)] [(101, .arr .occurrence)] .go) .go)))))) .go))))) (fun a b => b.1) (fun _ _ => rfl) (envL_ok ⟨zone_occurrences_1_ok fu, trivial⟩) Tryz.func311 rfl rfl (fun x y => by kernel_rfl)
def slices_stableCmpFunc_occurrence_2Fzone_occurrences_1_0 (fu : Nat) (p0 : List (D.occurrence)) (p1 : Int) : Option (List (D.occurrence)) :=
 (iterF (X := (P4 × (List D.occurrence × Unit))) (fun L0 ((a1, (a2, (a3, (a4, _)))), (a5, _)) =>
 (cnd (decide (a4 ≤ a1))
 (optc (slices_insertionSortCmpFunc_occurrence_3Fzone_occurrences_1_0 fu a5 a3 a4) fun a6 =>
 (chk (List.length a6) (List.length a5) (L0 ((a1, (a2, (a4, ((IntKind.wrap .i64 (a4 + a2)), ())))), (a6, ())))))
 (optc (slices_insertionSortCmpFunc_occurrence_3Fzone_occurrences_1_0 fu a5 a3 a1) fun a7 =>
 (chk (List.length a7) (List.length a5) (iterF (X := ((Int × (Int × Unit)) × (List D.occurrence × Unit))) (fun L8 ((a9, (a10, _)), (a11, _)) =>
 (cnd (decide (a10 < a9))
 (iterF (X := (P4 × (List D.occurrence × Unit))) (fun L12 ((a13, (a14, (a15, (a16, _)))), (a17, _)) =>
 (cnd (decide (a16 ≤ a13))
 none
 (cnd (decide ((IntKind.wrap .i64 (a15 + a14)) < a13))
 none
 (L8 ((a13, ((IntKind.wrap .i64 (a14 * 2)), ())), (a17, ())))))) fu ((a9, (a10, (0, ((IntKind.wrap .i64 (2 * a10)), ())))), (a11, ())))
 (some a11))) fu ((a1, (a2, ())), (a7, ()))))))) fu ((p1, (20, (0, (20, ())))), (p0, ())))
def slices_stableCmpFunc_occurrence_2Fzone_occurrences_1_0_g (fu : Nat) : Sig := mkSig [.one (.own 101), nI, .one (.fv 292)] [(101, .arr .occurrence)] [] [(101, .arrs .occurrence)] [] (List (D.occurrence)) (fun q => ((), (q, ()))) (fun x y => slices_stableCmpFunc_occurrence_2Fzone_occurrences_1_0 fu y.1 x.1)
theorem slices_stableCmpFunc_occurrence_2Fzone_occurrences_1_0_ok (fu : Nat) : FnOK Tryz.prog 304 (slices_stableCmpFunc_occurrence_2Fzone_occurrences_1_0_g fu) :=
 FnOK.intro (ty := ty) (E := envL [(311, 0, slices_insertionSortCmpFunc_occurrence_3Fzone_occurrences_1_0_g fu)]) (fu := fu) (an := .two .go (.two .go (.two (.one (.loop [(0, .one (.own 101)), (1, nI), (2, .one (.fv 292)), (6, nI), (7, nI), (8, nI)] [(101, .arr .occurrence)] .go)) (.two .go (.one (.loop [(0, .one (.own 101)), (1, nI), (2, .one (.fv 292)), (6, nI)] [(101, .arr .occurrence)] (.two .go (.one (.two .go (.two (.one (.loop [(0, .one (.own 101)), (1, nI), (2, .one (.fv 292)), (6, nI), (7, nI), (8, nI)] [(101, .arr .occurrence)] .go)) .go)))))))))) (fun a b => b.1) (fun _ _ => rfl) (envL_ok ⟨slices_insertionSortCmpFunc_occurrence_3Fzone_occurrences_1_0_ok fu, trivial⟩) Tryz.func304 rfl rfl (fun x y => by kernel_rfl)
def slices_SortStableFunc_occurrence_1Fzone_occurrences_1_0 (fu : Nat) (p0 : List (D.occurrence)) : Option (List (D.occurrence)) :=
 (optc (slices_stableCmpFunc_occurrence_2Fzone_occurrences_1_0 fu p0 (((List.length p0) : Nat) : Int)) fun a0 =>
 (chk (List.length a0) (List.length p0) (some a0)))
def slices_SortStableFunc_occurrence_1Fzone_occurrences_1_0_g (fu : Nat) : Sig := mkSig [.one (.own 101), .one (.fv 292)] [(101, .arr .occurrence)] [] [(101, .arrs .occurrence)] [] (List (D.occurrence)) (fun q => ((), (q, ()))) (fun x y => slices_SortStableFunc_occurrence_1Fzone_occurrences_1_0 fu y.1)
theorem slices_SortStableFunc_occurrence_1Fzone_occurrences_1_0_ok (fu : Nat) : FnOK Tryz.prog 291 (slices_SortStableFunc_occurrence_1Fzone_occurrences_1_0_g fu) :=
 FnOK.intro (ty := ty) (E := envL [(304, 0, slices_stableCmpFunc_occurrence_2Fzone_occurrences_1_0_g fu)]) (fu := fu) (an := .go) (fun a b => b.1) (fun _ _ => rfl) (envL_ok ⟨slices_stableCmpFunc_occurrence_2Fzone_occurrences_1_0_ok fu, trivial⟩) Tryz.func291 rfl rfl (fun x y => by kernel_rfl)
def zone_occurrences (fu : Nat) (p0 : D.Zone) : Option (List D.occurrence × Int) :=
 (optc (zone_in fu (D.Zone.Offset p0) (-64800) 64800) fun a0 =>
 (cnd (!a0)
 (some ([], 1))
 (cnd (decide (16 < (((List.length (D.Zone.Rules p0)) : Nat) : Int)))
 (some ([], 5))
 (iterF (X := ((Int × (List D.YearRule × (Int × (Int × Unit)))) × (D.Zone × Unit))) (fun L1 ((a2, (a3, (a4, (a5, _)))), (a6, _)) =>
 (cnd (decide (a5 < a4))
 (atc a3 a5 fun a7 =>
 (optc (zone_rule fu a7) fun a8 =>
 (cnd (decide (a8 ≠ 0))
 (some ([], a8))
 (L1 (((IntKind.wrap .i64 (a2 + (IntKind.wrap .i64 ((IntKind.wrap .i64 ((D.YearRule.To a7) - (D.YearRule.From a7))) + 1)))), (a3, (a4, ((IntKind.wrap .i64 (a5 + 1)), ())))), (a6, ()))))))
 (cnd (decide (640 < a2))
 (some ([], 5))
 (iterF (X := ((List D.YearRule × (Int × (Int × Unit))) × (List D.occurrence × Unit))) (fun L9 ((a10, (a11, (a12, _))), (a13, _)) =>
 (cnd (decide (a12 < a11))
 (atc a10 a12 fun a14 =>
 (iterF (X := ((Int × (List D.YearRule × (Int × (Int × Unit)))) × (D.YearRule × (List D.occurrence × Unit)))) (fun L15 ((a16, (a17, (a18, (a19, _)))), (a20, (a21, _))) =>
 (cnd (decide (a16 ≤ (D.YearRule.To a20)))
 (optc (civil_Nth fu a16 (D.YearRule.Month a20) (D.YearRule.Week a20) (D.YearRule.Weekday a20)) fun (a22, a23) =>
 (lec ((List.length a21) + (List.length ((D.occurrence.mk (IntKind.wrap .i64 ((IntKind.wrap .i64 (a22 * 86400)) + (D.YearRule.Second a20))) (D.YearRule.Offset a20)) :: []))) 34359738368 (L15 (((IntKind.wrap .i64 (a16 + 1)), (a17, (a18, (a19, ())))), (a20, ((a21 ++ ((D.occurrence.mk (IntKind.wrap .i64 ((IntKind.wrap .i64 (a22 * 86400)) + (D.YearRule.Second a20))) (D.YearRule.Offset a20)) :: [])), ()))))))
 (L9 ((a17, (a18, ((IntKind.wrap .i64 (a19 + 1)), ()))), (a21, ()))))) fu (((D.YearRule.From a14), (a10, (a11, (a12, ())))), (a14, (a13, ())))))
 (optc (slices_SortStableFunc_occurrence_1Fzone_occurrences_1_0 fu a13) fun a24 =>
 (chk (List.length a24) (List.length a13) (some (a24, 0)))))) fu (((D.Zone.Rules a6), ((((List.length (D.Zone.Rules a6)) : Nat) : Int), (0, ()))), ([], ())))))) fu ((0, ((D.Zone.Rules p0), ((((List.length (D.Zone.Rules p0)) : Nat) : Int), (0, ())))), (p0, ()))))))
def zone_occurrences_g (fu : Nat) : Sig := mkSig [.st .Zone] [] [.one (.lst .occurrence), nI] [] [] (List D.occurrence × Int) (fun q => ((q.1, q.2, ()), ())) (fun x y => zone_occurrences fu x.1)
theorem zone_occurrences_ok (fu : Nat) : FnOK Tryz.prog 277 (zone_occurrences_g fu) :=
 FnOK.intro (ty := ty) (E := envL [(278, 0, zone_in_g fu), (289, 0, zone_rule_g fu), (290, 0, civil_Nth_g fu), (291, 0, slices_SortStableFunc_occurrence_1Fzone_occurrences_1_0_g fu)]) (fu := fu) (an := .two .go (.two .go (.two .go (.two .go (.two (.two .go (.one (.loop [(1, .one (.ref 1001)), (4, nI), (23, .one (.lst .YearRule)), (24, nI), (25, nI)] [(1001, .boxst .Zone)] .go))) (.two .go (.two .go (.two (.two .go (.one (.loop [(8, .one (.own 1081)), (46, .one (.lst .YearRule)), (47, nI), (48, nI)] [(1081, .arr .occurrence)] (.two .go (.two .go (.two (.one (.two .go (.two .go (.one (.loop [(8, .one (.own 1081)), (10, .one (.ref 1010)), (11, nI), (46, .one (.lst .YearRule)), (47, nI), (48, nI)] [(1010, .boxst .YearRule), (1081, .arr .occurrence)] .go))))) .go)))))) .go)))))))) (fun a b => (a.1, a.2.1)) (fun _ _ => rfl) (envL_ok ⟨zone_in_ok fu, zone_rule_ok fu, civil_Nth_ok fu, slices_SortStableFunc_occurrence_1Fzone_occurrences_1_0_ok fu, trivial⟩) Tryz.func277 rfl rfl (fun x y => by kernel_rfl)
def zone_Transitions (fu : Nat) (p0 : D.Zone) : Option (List D.Transition × Int) :=
 (optc (zone_occurrences fu p0) fun (a0, a1) =>
 (cnd (decide (a1 ≠ 0))
 (some ([], a1))
 (iterF (X := ((Int × (List D.occurrence × (Int × (Int × Unit)))) × (List D.Transition × Unit))) (fun L2 ((a3, (a4, (a5, (a6, _)))), (a7, _)) =>
 (cnd (decide (a6 < a5))
 (join (Y := ((Int × (List D.occurrence × (Int × (Int × Unit)))) × (List D.Transition × Unit))) (fun ((a8, (a9, (a10, (a11, _)))), (a12, _)) =>
 (L2 ((a8, (a9, (a10, ((IntKind.wrap .i64 (a11 + 1)), ())))), (a12, ())))) fun J13 =>
 (atc a4 a6 fun a14 =>
 (cnd (decide ((D.occurrence.offset a14) = a3))
 (J13 ((a3, (a4, (a5, (a6, ())))), (a7, ())))
 (join (Y := ((Int × (List D.occurrence × (Int × (Int × Unit)))) × (D.occurrence × (List D.Transition × Unit)))) (fun ((a15, (a16, (a17, (a18, _)))), (a19, (a20, _))) =>
 (lec ((List.length a20) + (List.length ((D.Transition.mk a15 (D.occurrence.offset a19)) :: []))) 34359738368 (J13 (((D.occurrence.offset a19), (a16, (a17, (a18, ())))), ((a20 ++ ((D.Transition.mk a15 (D.occurrence.offset a19)) :: [])), ()))))) fun J21 =>
 (cnd (decide (86400 ≤ (IntKind.wrap .i64 ((D.occurrence.offset a14) - a3))))
 (some ([], 6))
 (cnd (decide ((IntKind.wrap .i64 ((D.occurrence.offset a14) - a3)) ≤ (-86400)))
 (some ([], 6))
 (optc (zone_in fu (IntKind.wrap .i64 ((D.occurrence.local_ a14) - a3)) 0 8589934592) fun a22 =>
 (cnd a22
 (cnd (decide (0 < (((List.length a7) : Nat) : Int)))
 (natc (IntKind.wrap .i64 ((((List.length a7) : Nat) : Int) - 1)) fun a23 =>
 (ltc a23 (List.length a7) (optc (GetElem?.getElem? a7 a23) fun a24 =>
 (cnd (decide ((IntKind.wrap .i64 ((D.occurrence.local_ a14) - a3)) < (IntKind.wrap .i64 ((D.Transition.At a24) + 604800))))
 (some ([], 6))
 (J21 (((IntKind.wrap .i64 ((D.occurrence.local_ a14) - a3)), (a4, (a5, (a6, ())))), (a14, (a7, ()))))))))
 (J21 (((IntKind.wrap .i64 ((D.occurrence.local_ a14) - a3)), (a4, (a5, (a6, ())))), (a14, (a7, ())))))
 (some ([], 6))))))))))
 (some (a7, 0)))) fu (((D.Zone.Offset p0), (a0, ((((List.length a0) : Nat) : Int), (0, ())))), ([], ())))))
def zone_Transitions_g (fu : Nat) : Sig := mkSig [.st .Zone] [] [.one (.lst .Transition), nI] [] [] (List D.Transition × Int) (fun q => ((q.1, q.2, ()), ())) (fun x y => zone_Transitions fu x.1)
theorem zone_Transitions_ok (fu : Nat) : FnOK Tryz.prog 264 (zone_Transitions_g fu) :=
 FnOK.intro (ty := ty) (E := envL [(277, 0, zone_occurrences_g fu), (278, 0, zone_in_g fu)]) (fu := fu) (an := .two .go (.two .go (.two .go (.two .go (.two .go (.two (.two .go (.one (.loop [(6, .one (.own 1074)), (7, nI), (22, .one (.lst .occurrence)), (23, nI), (24, nI)] [(1074, .arr .Transition)] (.two .go (.two .go (.two (.join [(6, .one (.own 1074)), (7, nI), (22, .one (.lst .occurrence)), (23, nI), (24, nI)] [(1074, .arr .Transition)] (.one (.two .go (.two .go (.two .go (.two (.join [(6, .one (.own 1074)), (9, .one (.ref 1009)), (10, nI), (22, .one (.lst .occurrence)), (23, nI), (24, nI)] [(1009, .boxst .occurrence), (1074, .arr .Transition)] .go) .go)))))) .go)))))) .go)))))) (fun a b => (a.1, a.2.1)) (fun _ _ => rfl) (envL_ok ⟨zone_occurrences_ok fu, zone_in_ok fu, trivial⟩) Tryz.func264 rfl rfl (fun x y => by kernel_rfl)
def zone_Check (fu : Nat) (p0 : D.Zone) : Option (Int) :=
 (optc (zone_Transitions fu p0) fun (a0, a1) =>
 (some a1))
def zone_Check_g (fu : Nat) : Sig := mkSig [.st .Zone] [] [nI] [] [] (Int) (fun q => ((q, ()), ())) (fun x y => zone_Check fu x.1)
theorem zone_Check_ok (fu : Nat) : FnOK Tryz.prog 240 (zone_Check_g fu) :=
 FnOK.intro (ty := ty) (E := envL [(264, 0, zone_Transitions_g fu)]) (fu := fu) (an := .go) (fun a b => a.1) (fun _ _ => rfl) (envL_ok ⟨zone_Transitions_ok fu, trivial⟩) Tryz.func240 rfl rfl (fun x y => by kernel_rfl)
def resolve_checkZone_1 (fu : Nat) (p0 : D.YearRule) : Option (Bool) :=
 (nzc 60 (some (decide ((Int.tmod (D.YearRule.Offset p0) 60) ≠ 0))))
def resolve_checkZone_1_g (fu : Nat) : Sig := mkSig [.st .YearRule] [] [.one (.boo)] [] [] (Bool) (fun q => ((q, ()), ())) (fun x y => resolve_checkZone_1 fu x.1)
theorem resolve_checkZone_1_ok (fu : Nat) : FnOK Tryz.prog 242 (resolve_checkZone_1_g fu) :=
 FnOK.intro (ty := ty) (E := envL []) (fu := fu) (an := .go) (fun a b => a.1) (fun _ _ => rfl) (envL_ok (l := []) trivial) Tryz.func242 rfl rfl (fun x y => by kernel_rfl)
def slices_IndexFunc_YearRule_1Fresolve_checkZone_1 (fu : Nat) (p0 : List D.YearRule) : Option (Int) :=
 (iterF (X := ((List D.YearRule × (Int × (Int × Unit))) × Unit)) (fun L0 ((a1, (a2, (a3, _))), _) =>
 (cnd (decide (a3 < a2))
 (atc a1 a3 fun a4 =>
 (optc (resolve_checkZone_1 fu a4) fun a5 =>
 (cnd a5
 (some a3)
 (L0 ((a1, (a2, ((IntKind.wrap .i64 (a3 + 1)), ()))), ())))))
 (some (-1)))) fu ((p0, ((((List.length p0) : Nat) : Int), (0, ()))), ()))
def slices_IndexFunc_YearRule_1Fresolve_checkZone_1_g (fu : Nat) : Sig := mkSig [.one (.lst .YearRule), .one (.fv 242)] [] [nI] [] [] (Int) (fun q => ((q, ()), ())) (fun x y => slices_IndexFunc_YearRule_1Fresolve_checkZone_1 fu x.1)
theorem slices_IndexFunc_YearRule_1Fresolve_checkZone_1_ok (fu : Nat) : FnOK Tryz.prog 265 (slices_IndexFunc_YearRule_1Fresolve_checkZone_1_g fu) :=
 FnOK.intro (ty := ty) (E := envL [(242, 0, resolve_checkZone_1_g fu)]) (fu := fu) (an := .two .go (.two (.two .go (.one (.loop [(0, .one (.lst .YearRule)), (1, .one (.fv 242)), (7, nI), (8, nI)] [] .go))) .go)) (fun a b => a.1) (fun _ _ => rfl) (envL_ok ⟨resolve_checkZone_1_ok fu, trivial⟩) Tryz.func265 rfl rfl (fun x y => by kernel_rfl)
def slices_ContainsFunc_YearRule_1Fresolve_checkZone_1 (fu : Nat) (p0 : List D.YearRule) : Option (Bool) :=
 (optc (slices_IndexFunc_YearRule_1Fresolve_checkZone_1 fu p0) fun a0 =>
 (some (decide (0 ≤ a0))))
def slices_ContainsFunc_YearRule_1Fresolve_checkZone_1_g (fu : Nat) : Sig := mkSig [.one (.lst .YearRule), .one (.fv 242)] [] [.one (.boo)] [] [] (Bool) (fun q => ((q, ()), ())) (fun x y => slices_ContainsFunc_YearRule_1Fresolve_checkZone_1 fu x.1)
theorem slices_ContainsFunc_YearRule_1Fresolve_checkZone_1_ok (fu : Nat) : FnOK Tryz.prog 241 (slices_ContainsFunc_YearRule_1Fresolve_checkZone_1_g fu) :=
 FnOK.intro (ty := ty) (E := envL [(265, 0, slices_IndexFunc_YearRule_1Fresolve_checkZone_1_g fu)]) (fu := fu) (an := .go) (fun a b => a.1) (fun _ _ => rfl) (envL_ok ⟨slices_IndexFunc_YearRule_1Fresolve_checkZone_1_ok fu, trivial⟩) Tryz.func241 rfl rfl (fun x y => by kernel_rfl)
def resolve_checkZone (fu : Nat) (p0 : D.Zone) : Option (Int) :=
 (join (Y := (Unit × Unit)) (fun (_, _) =>
 (some 0)) fun J0 =>
 (optc (zone_Check fu p0) fun a1 =>
 (cnd (decide (a1 ≠ 0))
 (some 8)
 (nzc 60 (cnd (decide ((Int.tmod (D.Zone.Offset p0) 60) ≠ 0))
 (some 8)
 (optc (slices_ContainsFunc_YearRule_1Fresolve_checkZone_1 fu (D.Zone.Rules p0)) fun a2 =>
 (cnd a2
 (some 8)
 (J0 ((), ())))))))))
def resolve_checkZone_g (fu : Nat) : Sig := mkSig [.st .Zone] [] [nI] [] [] (Int) (fun q => ((q, ()), ())) (fun x y => resolve_checkZone fu x.1)
theorem resolve_checkZone_ok (fu : Nat) : FnOK Tryz.prog 203 (resolve_checkZone_g fu) :=
 FnOK.intro (ty := ty) (E := envL [(240, 0, zone_Check_g fu), (241, 0, slices_ContainsFunc_YearRule_1Fresolve_checkZone_1_g fu)]) (fu := fu) (an := .two .go (.two (.join [] [] .go) .go)) (fun a b => a.1) (fun _ _ => rfl) (envL_ok ⟨zone_Check_ok fu, slices_ContainsFunc_YearRule_1Fresolve_checkZone_1_ok fu, trivial⟩) Tryz.func203 rfl rfl (fun x y => by kernel_rfl)
def resolve_named_Zone_1Fresolve_Check_1_2Fresolve_checkZone (fu : Nat) (p0 : List D.Zone) : Option (Int) :=
 (iterF (X := ((List D.Zone × (Int × (Int × Unit))) × (List ((ByteArray × Bool)) × Unit))) (fun L0 ((a1, (a2, (a3, _))), (a4, _)) =>
 (cnd (decide (a3 < a2))
 (atc a1 a3 fun a5 =>
 (optc (resolve_Check_1 fu a5) fun a6 =>
 (optc (resolve_name fu a6 a4) fun (a7, a8) =>
 (cnd (decide (a7 ≠ 0))
 (some a7)
 (optc (resolve_checkZone fu a5) fun a9 =>
 (cnd (decide (a9 ≠ 0))
 (some a9)
 (L0 ((a1, (a2, ((IntKind.wrap .i64 (a3 + 1)), ()))), (a8, ())))))))))
 (some 0))) fu ((p0, ((((List.length p0) : Nat) : Int), (0, ()))), ([], ())))
def resolve_named_Zone_1Fresolve_Check_1_2Fresolve_checkZone_g (fu : Nat) : Sig := mkSig [.one (.lst .Zone), .one (.fv 202), .one (.fv 203)] [] [nI] [] [] (Int) (fun q => ((q, ()), ())) (fun x y => resolve_named_Zone_1Fresolve_Check_1_2Fresolve_checkZone fu x.1)
theorem resolve_named_Zone_1Fresolve_Check_1_2Fresolve_checkZone_ok (fu : Nat) : FnOK Tryz.prog 201 (resolve_named_Zone_1Fresolve_Check_1_2Fresolve_checkZone_g fu) :=
 FnOK.intro (ty := ty) (E := envL [(202, 0, resolve_Check_1_g fu), (203, 0, resolve_checkZone_g fu), (204, 0, resolve_name_g fu)]) (fu := fu) (an := .two .go (.two .go (.two (.two .go (.one (.loop [(1, .one (.fv 202)), (2, .one (.fv 203)), (7, .one (.mref 1012)), (13, .one (.lst .Zone)), (14, nI), (15, nI)] [(1012, .sm)] .go))) .go))) (fun a b => a.1) (fun _ _ => rfl) (envL_ok ⟨resolve_Check_1_ok fu, resolve_checkZone_ok fu, resolve_name_ok fu, trivial⟩) Tryz.func201 rfl rfl (fun x y => by kernel_rfl)
def resolve_Check_2 (fu : Nat) (p0 : D.Calendar) : Option (ByteArray) :=
 (some (D.Calendar.Name p0))
def resolve_Check_2_g (fu : Nat) : Sig := mkSig [.st .Calendar] [] [.one (.str)] [] [] (ByteArray) (fun q => ((q, ()), ())) (fun x y => resolve_Check_2 fu x.1)
theorem resolve_Check_2_ok (fu : Nat) : FnOK Tryz.prog 207 (resolve_Check_2_g fu) :=
 FnOK.intro (ty := ty) (E := envL []) (fu := fu) (an := .go) (fun a b => a.1) (fun _ _ => rfl) (envL_ok (l := []) trivial) Tryz.func207 rfl rfl (fun x y => by kernel_rfl)
def civil_year (fu : Nat) (p0 : Int) : Option (Int) :=
 (optc (civil_floor fu p0 366) fun a0 =>
 (iterF (X := ((Int × (Int × Unit)) × Unit)) (fun L1 ((a2, (a3, _)), _) =>
 (optc (civil_count fu (IntKind.wrap .i64 (a3 + 1))) fun a4 =>
 (cnd (decide (a4 ≤ a2))
 (L1 ((a2, ((IntKind.wrap .i64 (a3 + 1)), ())), ()))
 (some a3)))) fu ((p0, ((IntKind.wrap .i64 (1970 + a0)), ())), ())))
def civil_year_g (fu : Nat) : Sig := mkSig [nI] [] [nI] [] [] (Int) (fun q => ((q, ()), ())) (fun x y => civil_year fu x.1)
theorem civil_year_ok (fu : Nat) : FnOK Tryz.prog 280 (civil_year_g fu) :=
 FnOK.intro (ty := ty) (E := envL [(279, 0, civil_count_g fu), (293, 0, civil_floor_g fu)]) (fu := fu) (an := .two .go (.two .go (.two (.one (.loop [(0, nI), (3, nI)] [] .go)) .go))) (fun a b => a.1) (fun _ _ => rfl) (envL_ok ⟨civil_count_ok fu, civil_floor_ok fu, trivial⟩) Tryz.func280 rfl rfl (fun x y => by kernel_rfl)
def civil_DateOf (fu : Nat) (p0 : Int) : Option (D.Date × Int) :=
 (join (Y := ((Int × Unit) × (D.Date × Unit))) (fun ((a0, _), (a1, _)) =>
 (optc (civil_year fu a0) fun a2 =>
 (optc (civil_count fu a2) fun a3 =>
 (iterF (X := ((Int × Unit) × (D.Date × (D.Date × Unit)))) (fun L4 ((a5, _), (a6, (a7, _))) =>
 (optc (civil_Days fu (D.Date.Year a7) (D.Date.Month a7)) fun a8 =>
 (cnd (decide (a8 ≤ a5))
 (optc (civil_Days fu (D.Date.Year a7) (D.Date.Month a7)) fun a9 =>
 (L4 (((IntKind.wrap .i64 (a5 - a9)), ()), (a6, ((D.Date.mk (D.Date.Year a7) (IntKind.wrap .i64 ((D.Date.Month a7) + 1)) (D.Date.Day a7)), ())))))
 (some ((D.Date.mk (D.Date.Year a7) (D.Date.Month a7) (IntKind.wrap .i64 (a5 + 1))), 0))))) fu (((IntKind.wrap .i64 (a0 - a3)), ()), (a1, ((D.Date.mk a2 1 0), ()))))))) fun J10 =>
 (optc (civil_count fu 1970) fun a11 =>
 (cnd (decide (p0 < a11))
 (some ((D.Date.mk 0 0 0), 1))
 (optc (civil_count fu 2241) fun a12 =>
 (cnd (decide (a12 ≤ p0))
 (some ((D.Date.mk 0 0 0), 1))
 (J10 ((p0, ()), ((D.Date.mk 0 0 0), ()))))))))
def civil_DateOf_g (fu : Nat) : Sig := mkSig [nI] [] [.st .Date, nI] [] [] (D.Date × Int) (fun q => ((q.1, q.2, ()), ())) (fun x y => civil_DateOf fu x.1)
theorem civil_DateOf_ok (fu : Nat) : FnOK Tryz.prog 267 (civil_DateOf_g fu) :=
 FnOK.intro (ty := ty) (E := envL [(279, 0, civil_count_g fu), (280, 0, civil_year_g fu), (281, 0, civil_Days_g fu)]) (fu := fu) (an := .two .go (.two (.join [(0, nI), (2, .one (.ref 1002))] [(1002, .boxst .Date)] .go) (.two .go (.two .go (.two (.one (.loop [(2, .one (.ref 1002)), (4, .one (.ref 1004)), (5, nI)] [(1002, .boxst .Date), (1004, .boxst .Date)] .go)) .go))))) (fun a b => (a.1, a.2.1)) (fun _ _ => rfl) (envL_ok ⟨civil_count_ok fu, civil_year_ok fu, civil_Days_ok fu, trivial⟩) Tryz.func267 rfl rfl (fun x y => by kernel_rfl)
def resolve_day (fu : Nat) (p0 : Int) : Option (Bool) :=
 (optc (civil_DateOf fu p0) fun (a0, a1) =>
 (some (decide (a1 = 0))))
def resolve_day_g (fu : Nat) : Sig := mkSig [nI] [] [.one (.boo)] [] [] (Bool) (fun q => ((q, ()), ())) (fun x y => resolve_day fu x.1)
theorem resolve_day_ok (fu : Nat) : FnOK Tryz.prog 247 (resolve_day_g fu) :=
 FnOK.intro (ty := ty) (E := envL [(267, 0, civil_DateOf_g fu)]) (fu := fu) (an := .go) (fun a b => a.1) (fun _ _ => rfl) (envL_ok ⟨civil_DateOf_ok fu, trivial⟩) Tryz.func247 rfl rfl (fun x y => by kernel_rfl)
def resolve_checkCalendar_1 (fu : Nat) (p0 : Int) : Option (Bool) :=
 (optc (resolve_day fu p0) fun a0 =>
 (some (!a0)))
def resolve_checkCalendar_1_g (fu : Nat) : Sig := mkSig [nI] [] [.one (.boo)] [] [] (Bool) (fun q => ((q, ()), ())) (fun x y => resolve_checkCalendar_1 fu x.1)
theorem resolve_checkCalendar_1_ok (fu : Nat) : FnOK Tryz.prog 246 (resolve_checkCalendar_1_g fu) :=
 FnOK.intro (ty := ty) (E := envL [(247, 0, resolve_day_g fu)]) (fu := fu) (an := .go) (fun a b => a.1) (fun _ _ => rfl) (envL_ok ⟨resolve_day_ok fu, trivial⟩) Tryz.func246 rfl rfl (fun x y => by kernel_rfl)
def slices_IndexFunc_int_1Fresolve_checkCalendar_1 (fu : Nat) (p0 : List Int) : Option (Int) :=
 (iterF (X := ((List Int × (Int × (Int × Unit))) × Unit)) (fun L0 ((a1, (a2, (a3, _))), _) =>
 (cnd (decide (a3 < a2))
 (atc a1 a3 fun a4 =>
 (optc (resolve_checkCalendar_1 fu a4) fun a5 =>
 (cnd a5
 (some a3)
 (L0 ((a1, (a2, ((IntKind.wrap .i64 (a3 + 1)), ()))), ())))))
 (some (-1)))) fu ((p0, ((((List.length p0) : Nat) : Int), (0, ()))), ()))
def slices_IndexFunc_int_1Fresolve_checkCalendar_1_g (fu : Nat) : Sig := mkSig [.one (.lst .int), .one (.fv 246)] [] [nI] [] [] (Int) (fun q => ((q, ()), ())) (fun x y => slices_IndexFunc_int_1Fresolve_checkCalendar_1 fu x.1)
theorem slices_IndexFunc_int_1Fresolve_checkCalendar_1_ok (fu : Nat) : FnOK Tryz.prog 126 (slices_IndexFunc_int_1Fresolve_checkCalendar_1_g fu) :=
 FnOK.intro (ty := ty) (E := envL [(246, 0, resolve_checkCalendar_1_g fu)]) (fu := fu) (an := .two .go (.two (.two .go (.one (.loop [(0, .one (.lst .int)), (1, .one (.fv 246)), (7, nI), (8, nI)] [] .go))) .go)) (fun a b => a.1) (fun _ _ => rfl) (envL_ok ⟨resolve_checkCalendar_1_ok fu, trivial⟩) Tryz.func126 rfl rfl (fun x y => by kernel_rfl)
def slices_ContainsFunc_int_1Fresolve_checkCalendar_1 (fu : Nat) (p0 : List Int) : Option (Bool) :=
 (optc (slices_IndexFunc_int_1Fresolve_checkCalendar_1 fu p0) fun a0 =>
 (some (decide (0 ≤ a0))))
def slices_ContainsFunc_int_1Fresolve_checkCalendar_1_g (fu : Nat) : Sig := mkSig [.one (.lst .int), .one (.fv 246)] [] [.one (.boo)] [] [] (Bool) (fun q => ((q, ()), ())) (fun x y => slices_ContainsFunc_int_1Fresolve_checkCalendar_1 fu x.1)
theorem slices_ContainsFunc_int_1Fresolve_checkCalendar_1_ok (fu : Nat) : FnOK Tryz.prog 138 (slices_ContainsFunc_int_1Fresolve_checkCalendar_1_g fu) :=
 FnOK.intro (ty := ty) (E := envL [(126, 0, slices_IndexFunc_int_1Fresolve_checkCalendar_1_g fu)]) (fu := fu) (an := .go) (fun a b => a.1) (fun _ _ => rfl) (envL_ok ⟨slices_IndexFunc_int_1Fresolve_checkCalendar_1_ok fu, trivial⟩) Tryz.func138 rfl rfl (fun x y => by kernel_rfl)
def resolve_checkCalendar (fu : Nat) (p0 : D.Config) (p1 : D.Calendar) : Option (Int) :=
 (optc (resolve_index fu (D.Calendar.Zone p1) (((List.length (D.Config.Zones p0)) : Nat) : Int)) fun a0 =>
 (cnd (!a0)
 (some 3)
 (cnd (decide (64 < (((List.length (D.Calendar.Days p1)) : Nat) : Int)))
 (some 5)
 (optc (slices_ContainsFunc_int_1Fresolve_checkCalendar_1 fu (D.Calendar.Days p1)) fun a1 =>
 (cnd a1
 (some 1)
 (iterF (X := ((Int × (Int × Unit)) × (D.Calendar × Unit))) (fun L2 ((a3, (a4, _)), (a5, _)) =>
 (cnd (decide (a4 < a3))
 (join (Y := ((Int × (Int × Unit)) × (D.Calendar × Unit))) (fun ((a6, (a7, _)), (a8, _)) =>
 (L2 ((a6, ((IntKind.wrap .i64 (a7 + 1)), ())), (a8, ())))) fun J9 =>
 (cnd (decide (0 < a4))
 (atc (D.Calendar.Days a5) a4 fun a10 =>
 (atc (D.Calendar.Days a5) (IntKind.wrap .i64 (a4 - 1)) fun a11 =>
 (cnd (decide (a10 ≤ a11))
 (some 6)
 (J9 ((a3, (a4, ())), (a5, ()))))))
 (J9 ((a3, (a4, ())), (a5, ())))))
 (some 0))) fu (((((List.length (D.Calendar.Days p1)) : Nat) : Int), (0, ())), (p1, ()))))))))
def resolve_checkCalendar_g (fu : Nat) : Sig := mkSig [.st .Config, .st .Calendar] [] [nI] [] [] (Int) (fun q => ((q, ()), ())) (fun x y => resolve_checkCalendar fu x.1 x.2.1)
theorem resolve_checkCalendar_ok (fu : Nat) : FnOK Tryz.prog 209 (resolve_checkCalendar_g fu) :=
 FnOK.intro (ty := ty) (E := envL [(138, 0, slices_ContainsFunc_int_1Fresolve_checkCalendar_1_g fu), (243, 0, resolve_index_g fu)]) (fu := fu) (an := .two .go (.two .go (.two (.two .go (.one (.loop [(3, .one (.ref 1003)), (25, nI), (26, nI)] [(1003, .boxst .Calendar)] (.two .go (.two .go (.two (.join [(3, .one (.ref 1003)), (25, nI), (26, nI)] [(1003, .boxst .Calendar)] .go) .go)))))) .go))) (fun a b => a.1) (fun _ _ => rfl) (envL_ok ⟨slices_ContainsFunc_int_1Fresolve_checkCalendar_1_ok fu, resolve_index_ok fu, trivial⟩) Tryz.func209 rfl rfl (fun x y => by kernel_rfl)
def resolve_Check_3 (fu : Nat) (p0 : D.Calendar) (p1 : D.Config) : Option (Int) :=
 (optc (resolve_checkCalendar fu p1 p0) fun a0 =>
 (sameC p1 p1 (some a0)))
def resolve_Check_3_g (fu : Nat) : Sig := mkSig [.st .Calendar, .one (.ref 101)] [(101, .boxst .Config)] [nI] [] [101] (Int) (fun q => ((q, ()), ())) (fun x y => resolve_Check_3 fu x.1 y.1)
theorem resolve_Check_3_ok (fu : Nat) : FnOK Tryz.prog 208 (resolve_Check_3_g fu) :=
 FnOK.intro (ty := ty) (E := envL [(209, 0, resolve_checkCalendar_g fu)]) (fu := fu) (an := .go) (fun a b => a.1) (fun _ _ => rfl) (envL_ok ⟨resolve_checkCalendar_ok fu, trivial⟩) Tryz.func208 rfl rfl (fun x y => by kernel_rfl)
def resolve_named_Calendar_1Fresolve_Check_2_2Fresolve_Check_3 (fu : Nat) (p0 : List D.Calendar) (c101 : D.Config) : Option (Int) :=
 (iterF (X := ((List D.Calendar × (Int × (Int × Unit))) × (D.Config × (List ((ByteArray × Bool)) × Unit)))) (fun L0 ((a1, (a2, (a3, _))), (a4, (a5, _))) =>
 (cnd (decide (a3 < a2))
 (atc a1 a3 fun a6 =>
 (optc (resolve_Check_2 fu a6) fun a7 =>
 (optc (resolve_name fu a7 a5) fun (a8, a9) =>
 (cnd (decide (a8 ≠ 0))
 (sameC a4 c101 (some a8))
 (optc (resolve_Check_3 fu a6 a4) fun a10 =>
 (cnd (decide (a10 ≠ 0))
 (sameC a4 c101 (some a10))
 (L0 ((a1, (a2, ((IntKind.wrap .i64 (a3 + 1)), ()))), (a4, (a9, ()))))))))))
 (sameC a4 c101 (some 0)))) fu ((p0, ((((List.length p0) : Nat) : Int), (0, ()))), (c101, ([], ()))))
def resolve_named_Calendar_1Fresolve_Check_2_2Fresolve_Check_3_g (fu : Nat) : Sig := mkSig [.one (.lst .Calendar), .one (.fv 207), .one (.clo 208 [101])] [(101, .boxst .Config)] [nI] [] [101] (Int) (fun q => ((q, ()), ())) (fun x y => resolve_named_Calendar_1Fresolve_Check_2_2Fresolve_Check_3 fu x.1 y.1)
theorem resolve_named_Calendar_1Fresolve_Check_2_2Fresolve_Check_3_ok (fu : Nat) : FnOK Tryz.prog 206 (resolve_named_Calendar_1Fresolve_Check_2_2Fresolve_Check_3_g fu) :=
 FnOK.intro (ty := ty) (E := envL [(204, 0, resolve_name_g fu), (207, 0, resolve_Check_2_g fu), (208, 0, resolve_Check_3_g fu)]) (fu := fu) (an := .two .go (.two .go (.two (.two .go (.one (.loop [(1, .one (.fv 207)), (2, .one (.clo 208 [101])), (7, .one (.mref 1012)), (13, .one (.lst .Calendar)), (14, nI), (15, nI)] [(101, .boxst .Config), (1012, .sm)] .go))) .go))) (fun a b => a.1) (fun _ _ => rfl) (envL_ok ⟨resolve_name_ok fu, resolve_Check_2_ok fu, resolve_Check_3_ok fu, trivial⟩) Tryz.func206 rfl rfl (fun x y => by kernel_rfl)
def resolve_Check_4 (fu : Nat) (p0 : D.Schedule) : Option (ByteArray) :=
 (some (D.Schedule.Name p0))
def resolve_Check_4_g (fu : Nat) : Sig := mkSig [.st .Schedule] [] [.one (.str)] [] [] (ByteArray) (fun q => ((q, ()), ())) (fun x y => resolve_Check_4 fu x.1)
theorem resolve_Check_4_ok (fu : Nat) : FnOK Tryz.prog 211 (resolve_Check_4_g fu) :=
 FnOK.intro (ty := ty) (E := envL []) (fu := fu) (an := .go) (fun a b => a.1) (fun _ _ => rfl) (envL_ok (l := []) trivial) Tryz.func211 rfl rfl (fun x y => by kernel_rfl)
def resolve_checkSchedule_1 (fu : Nat) (p0 : D.Layer) : Option (ByteArray) :=
 (some (D.Layer.Name p0))
def resolve_checkSchedule_1_g (fu : Nat) : Sig := mkSig [.st .Layer] [] [.one (.str)] [] [] (ByteArray) (fun q => ((q, ()), ())) (fun x y => resolve_checkSchedule_1 fu x.1)
theorem resolve_checkSchedule_1_ok (fu : Nat) : FnOK Tryz.prog 249 (resolve_checkSchedule_1_g fu) :=
 FnOK.intro (ty := ty) (E := envL []) (fu := fu) (an := .go) (fun a b => a.1) (fun _ _ => rfl) (envL_ok (l := []) trivial) Tryz.func249 rfl rfl (fun x y => by kernel_rfl)
def resolve_checkLayer_1 (fu : Nat) (p0 : Int) (p1 : D.Config) : Option (Bool) :=
 (optc (resolve_index fu p0 (((List.length (D.Config.People p1)) : Nat) : Int)) fun a0 =>
 (sameC p1 p1 (some (!a0))))
def resolve_checkLayer_1_g (fu : Nat) : Sig := mkSig [nI, .one (.ref 101)] [(101, .boxst .Config)] [.one (.boo)] [] [101] (Bool) (fun q => ((q, ()), ())) (fun x y => resolve_checkLayer_1 fu x.1 y.1)
theorem resolve_checkLayer_1_ok (fu : Nat) : FnOK Tryz.prog 268 (resolve_checkLayer_1_g fu) :=
 FnOK.intro (ty := ty) (E := envL [(243, 0, resolve_index_g fu)]) (fu := fu) (an := .go) (fun a b => a.1) (fun _ _ => rfl) (envL_ok ⟨resolve_index_ok fu, trivial⟩) Tryz.func268 rfl rfl (fun x y => by kernel_rfl)
def slices_IndexFunc_int_1Fresolve_checkLayer_1 (fu : Nat) (p0 : List Int) (c101 : D.Config) : Option (Int) :=
 (iterF (X := ((List Int × (Int × (Int × Unit))) × (D.Config × Unit))) (fun L0 ((a1, (a2, (a3, _))), (a4, _)) =>
 (cnd (decide (a3 < a2))
 (atc a1 a3 fun a5 =>
 (optc (resolve_checkLayer_1 fu a5 a4) fun a6 =>
 (cnd a6
 (sameC a4 c101 (some a3))
 (L0 ((a1, (a2, ((IntKind.wrap .i64 (a3 + 1)), ()))), (a4, ()))))))
 (sameC a4 c101 (some (-1))))) fu ((p0, ((((List.length p0) : Nat) : Int), (0, ()))), (c101, ())))
def slices_IndexFunc_int_1Fresolve_checkLayer_1_g (fu : Nat) : Sig := mkSig [.one (.lst .int), .one (.clo 268 [101])] [(101, .boxst .Config)] [nI] [] [101] (Int) (fun q => ((q, ()), ())) (fun x y => slices_IndexFunc_int_1Fresolve_checkLayer_1 fu x.1 y.1)
theorem slices_IndexFunc_int_1Fresolve_checkLayer_1_ok (fu : Nat) : FnOK Tryz.prog 126 (slices_IndexFunc_int_1Fresolve_checkLayer_1_g fu) :=
 FnOK.intro (ty := ty) (E := envL [(268, 0, resolve_checkLayer_1_g fu)]) (fu := fu) (an := .two .go (.two (.two .go (.one (.loop [(0, .one (.lst .int)), (1, .one (.clo 268 [101])), (7, nI), (8, nI)] [(101, .boxst .Config)] .go))) .go)) (fun a b => a.1) (fun _ _ => rfl) (envL_ok ⟨resolve_checkLayer_1_ok fu, trivial⟩) Tryz.func126 rfl rfl (fun x y => by kernel_rfl)
def slices_ContainsFunc_int_1Fresolve_checkLayer_1 (fu : Nat) (p0 : List Int) (c101 : D.Config) : Option (Bool) :=
 (optc (slices_IndexFunc_int_1Fresolve_checkLayer_1 fu p0 c101) fun a0 =>
 (sameC c101 c101 (some (decide (0 ≤ a0)))))
def slices_ContainsFunc_int_1Fresolve_checkLayer_1_g (fu : Nat) : Sig := mkSig [.one (.lst .int), .one (.clo 268 [101])] [(101, .boxst .Config)] [.one (.boo)] [] [101] (Bool) (fun q => ((q, ()), ())) (fun x y => slices_ContainsFunc_int_1Fresolve_checkLayer_1 fu x.1 y.1)
theorem slices_ContainsFunc_int_1Fresolve_checkLayer_1_ok (fu : Nat) : FnOK Tryz.prog 138 (slices_ContainsFunc_int_1Fresolve_checkLayer_1_g fu) :=
 FnOK.intro (ty := ty) (E := envL [(126, 0, slices_IndexFunc_int_1Fresolve_checkLayer_1_g fu)]) (fu := fu) (an := .go) (fun a b => a.1) (fun _ _ => rfl) (envL_ok ⟨slices_IndexFunc_int_1Fresolve_checkLayer_1_ok fu, trivial⟩) Tryz.func138 rfl rfl (fun x y => by kernel_rfl)
def resolve_checkLayer (fu : Nat) (p0 : D.Config) (p1 : D.Layer) : Option (Int) :=
 (join (Y := (Unit × Unit)) (fun (_, _) =>
 (some 0)) fun J0 =>
 (optc (resolve_index fu (D.Layer.Zone p1) (((List.length (D.Config.Zones p0)) : Nat) : Int)) fun a1 =>
 (cnd (!a1)
 (some 3)
 (cnd (decide ((D.Local.Day (D.Layer.Start p1)) < 1))
 (some 1)
 (optc (resolve_day fu (D.Local.Day (D.Layer.Start p1))) fun a2 =>
 (cnd a2
 (optc (resolve_in fu (D.Local.Second (D.Layer.Start p1)) 0 86399) fun a3 =>
 (cnd a3
 (optc (resolve_in fu (D.Layer.Unit p1) 0 2) fun a4 =>
 (cnd a4
 (optc (resolve_in fu (D.Layer.Every p1) 1 400) fun a5 =>
 (cnd a5
 (cnd (decide ((((List.length (D.Layer.Members p1)) : Nat) : Int) = 0))
 (some 7)
 (cnd (decide (12 < (((List.length (D.Layer.Members p1)) : Nat) : Int)))
 (some 5)
 (optc (slices_ContainsFunc_int_1Fresolve_checkLayer_1 fu (D.Layer.Members p1) p0) fun a6 =>
 (cnd a6
 (some 3)
 (optc (week_Check fu (D.Layer.Windows p1)) fun a7 =>
 (cnd (decide (a7 ≠ 0))
 (some 8)
 (optc (resolve_in fu (D.Layer.Mode p1) 0 2) fun a8 =>
 (cnd (!a8)
 (some 1)
 (cnd (decide ((D.Layer.Mode p1) ≠ 0))
 (optc (resolve_index fu (D.Layer.Calendar p1) (((List.length (D.Config.Calendars p0)) : Nat) : Int)) fun a9 =>
 (cnd a9
 (cnd (decide ((D.Layer.Mode p1) = 0))
 (cnd (decide ((D.Layer.Calendar p1) ≠ 0))
 (some 1)
 (J0 ((), ())))
 (J0 ((), ())))
 (some 3)))
 (cnd (decide ((D.Layer.Mode p1) = 0))
 (cnd (decide ((D.Layer.Calendar p1) ≠ 0))
 (some 1)
 (J0 ((), ())))
 (J0 ((), ()))))))))))))
 (some 1)))
 (some 1)))
 (some 1)))
 (some 1)))))))
def resolve_checkLayer_g (fu : Nat) : Sig := mkSig [.st .Config, .st .Layer] [] [nI] [] [] (Int) (fun q => ((q, ()), ())) (fun x y => resolve_checkLayer fu x.1 x.2.1)
theorem resolve_checkLayer_ok (fu : Nat) : FnOK Tryz.prog 251 (resolve_checkLayer_g fu) :=
 FnOK.intro (ty := ty) (E := envL [(138, 0, slices_ContainsFunc_int_1Fresolve_checkLayer_1_g fu), (243, 0, resolve_index_g fu), (244, 0, week_Check_g fu), (247, 0, resolve_day_g fu), (266, 0, resolve_in_g fu)]) (fu := fu) (an := .two .go (.two (.join [] [] .go) .go)) (fun a b => a.1) (fun _ _ => rfl) (envL_ok ⟨slices_ContainsFunc_int_1Fresolve_checkLayer_1_ok fu, resolve_index_ok fu, week_Check_ok fu, resolve_day_ok fu, resolve_in_ok fu, trivial⟩) Tryz.func251 rfl rfl (fun x y => by kernel_rfl)
def resolve_checkSchedule_2 (fu : Nat) (p0 : D.Layer) (p1 : D.Config) : Option (Int) :=
 (optc (resolve_checkLayer fu p1 p0) fun a0 =>
 (sameC p1 p1 (some a0)))
def resolve_checkSchedule_2_g (fu : Nat) : Sig := mkSig [.st .Layer, .one (.ref 101)] [(101, .boxst .Config)] [nI] [] [101] (Int) (fun q => ((q, ()), ())) (fun x y => resolve_checkSchedule_2 fu x.1 y.1)
theorem resolve_checkSchedule_2_ok (fu : Nat) : FnOK Tryz.prog 250 (resolve_checkSchedule_2_g fu) :=
 FnOK.intro (ty := ty) (E := envL [(251, 0, resolve_checkLayer_g fu)]) (fu := fu) (an := .go) (fun a b => a.1) (fun _ _ => rfl) (envL_ok ⟨resolve_checkLayer_ok fu, trivial⟩) Tryz.func250 rfl rfl (fun x y => by kernel_rfl)
def resolve_named_Layer_1Fresolve_checkSchedule_1_2Fresolve_checkSchedule_2 (fu : Nat) (p0 : List D.Layer) (c101 : D.Config) : Option (Int) :=
 (iterF (X := ((List D.Layer × (Int × (Int × Unit))) × (D.Config × (List ((ByteArray × Bool)) × Unit)))) (fun L0 ((a1, (a2, (a3, _))), (a4, (a5, _))) =>
 (cnd (decide (a3 < a2))
 (atc a1 a3 fun a6 =>
 (optc (resolve_checkSchedule_1 fu a6) fun a7 =>
 (optc (resolve_name fu a7 a5) fun (a8, a9) =>
 (cnd (decide (a8 ≠ 0))
 (sameC a4 c101 (some a8))
 (optc (resolve_checkSchedule_2 fu a6 a4) fun a10 =>
 (cnd (decide (a10 ≠ 0))
 (sameC a4 c101 (some a10))
 (L0 ((a1, (a2, ((IntKind.wrap .i64 (a3 + 1)), ()))), (a4, (a9, ()))))))))))
 (sameC a4 c101 (some 0)))) fu ((p0, ((((List.length p0) : Nat) : Int), (0, ()))), (c101, ([], ()))))
def resolve_named_Layer_1Fresolve_checkSchedule_1_2Fresolve_checkSchedule_2_g (fu : Nat) : Sig := mkSig [.one (.lst .Layer), .one (.fv 249), .one (.clo 250 [101])] [(101, .boxst .Config)] [nI] [] [101] (Int) (fun q => ((q, ()), ())) (fun x y => resolve_named_Layer_1Fresolve_checkSchedule_1_2Fresolve_checkSchedule_2 fu x.1 y.1)
theorem resolve_named_Layer_1Fresolve_checkSchedule_1_2Fresolve_checkSchedule_2_ok (fu : Nat) : FnOK Tryz.prog 248 (resolve_named_Layer_1Fresolve_checkSchedule_1_2Fresolve_checkSchedule_2_g fu) :=
 FnOK.intro (ty := ty) (E := envL [(204, 0, resolve_name_g fu), (249, 0, resolve_checkSchedule_1_g fu), (250, 0, resolve_checkSchedule_2_g fu)]) (fu := fu) (an := .two .go (.two .go (.two (.two .go (.one (.loop [(1, .one (.fv 249)), (2, .one (.clo 250 [101])), (7, .one (.mref 1012)), (13, .one (.lst .Layer)), (14, nI), (15, nI)] [(101, .boxst .Config), (1012, .sm)] .go))) .go))) (fun a b => a.1) (fun _ _ => rfl) (envL_ok ⟨resolve_name_ok fu, resolve_checkSchedule_1_ok fu, resolve_checkSchedule_2_ok fu, trivial⟩) Tryz.func248 rfl rfl (fun x y => by kernel_rfl)
def resolve_checkEdit (fu : Nat) (p0 : D.Config) (p1 : D.Edit) : Option (Int) :=
 (join (Y := (Unit × Unit)) (fun (_, _) =>
 (some 0)) fun J0 =>
 (optc (resolve_in fu (D.Edit.Kind p1) 0 2) fun a1 =>
 (cnd (!a1)
 (some 1)
 (join (Y := ((Bool × Unit) × (D.Edit × Unit))) (fun ((a2, _), (a3, _)) =>
 (cnd a2
 (some 3)
 (cnd (decide ((D.Edit.Kind a3) ≠ 2))
 (cnd (decide ((D.Edit.B a3) ≠ 0))
 (some 1)
 (cnd (decide ((D.Edit.Kind a3) = 2))
 (cnd (decide ((D.Edit.A a3) = (D.Edit.B a3)))
 (some 4)
 (cnd (decide ((D.Edit.From a3) < 0))
 (some 1)
 (cnd (decide ((D.Edit.To a3) < 0))
 (some 1)
 (nzc 86400 (optc (resolve_day fu (IntKind.wrap .i64 (Int.tdiv (D.Edit.To a3) 86400))) fun a4 =>
 (cnd a4
 (cnd (decide ((D.Edit.To a3) ≤ (D.Edit.From a3)))
 (some 6)
 (J0 ((), ())))
 (some 1)))))))
 (cnd (decide ((D.Edit.From a3) < 0))
 (some 1)
 (cnd (decide ((D.Edit.To a3) < 0))
 (some 1)
 (nzc 86400 (optc (resolve_day fu (IntKind.wrap .i64 (Int.tdiv (D.Edit.To a3) 86400))) fun a5 =>
 (cnd a5
 (cnd (decide ((D.Edit.To a3) ≤ (D.Edit.From a3)))
 (some 6)
 (J0 ((), ())))
 (some 1))))))))
 (cnd (decide ((D.Edit.Kind a3) = 2))
 (cnd (decide ((D.Edit.A a3) = (D.Edit.B a3)))
 (some 4)
 (cnd (decide ((D.Edit.From a3) < 0))
 (some 1)
 (cnd (decide ((D.Edit.To a3) < 0))
 (some 1)
 (nzc 86400 (optc (resolve_day fu (IntKind.wrap .i64 (Int.tdiv (D.Edit.To a3) 86400))) fun a6 =>
 (cnd a6
 (cnd (decide ((D.Edit.To a3) ≤ (D.Edit.From a3)))
 (some 6)
 (J0 ((), ())))
 (some 1)))))))
 (cnd (decide ((D.Edit.From a3) < 0))
 (some 1)
 (cnd (decide ((D.Edit.To a3) < 0))
 (some 1)
 (nzc 86400 (optc (resolve_day fu (IntKind.wrap .i64 (Int.tdiv (D.Edit.To a3) 86400))) fun a7 =>
 (cnd a7
 (cnd (decide ((D.Edit.To a3) ≤ (D.Edit.From a3)))
 (some 6)
 (J0 ((), ())))
 (some 1)))))))))) fun J8 =>
 (optc (resolve_index fu (D.Edit.A p1) (((List.length (D.Config.People p0)) : Nat) : Int)) fun a9 =>
 (cnd a9
 (cnd (decide ((D.Edit.Kind p1) = 2))
 (optc (resolve_index fu (D.Edit.B p1) (((List.length (D.Config.People p0)) : Nat) : Int)) fun a10 =>
 (cnd a10
 (J8 ((false, ()), (p1, ())))
 (J8 ((true, ()), (p1, ())))))
 (J8 ((false, ()), (p1, ()))))
 (cnd (decide ((D.Edit.Kind p1) = 1))
 (cnd (decide ((D.Edit.A p1) = (-1)))
 (cnd (decide ((D.Edit.Kind p1) = 2))
 (optc (resolve_index fu (D.Edit.B p1) (((List.length (D.Config.People p0)) : Nat) : Int)) fun a11 =>
 (cnd a11
 (J8 ((false, ()), (p1, ())))
 (J8 ((true, ()), (p1, ())))))
 (J8 ((false, ()), (p1, ()))))
 (J8 ((true, ()), (p1, ()))))
 (J8 ((true, ()), (p1, ()))))))))))
def resolve_checkEdit_g (fu : Nat) : Sig := mkSig [.st .Config, .st .Edit] [] [nI] [] [] (Int) (fun q => ((q, ()), ())) (fun x y => resolve_checkEdit fu x.1 x.2.1)
theorem resolve_checkEdit_ok (fu : Nat) : FnOK Tryz.prog 252 (resolve_checkEdit_g fu) :=
 FnOK.intro (ty := ty) (E := envL [(243, 0, resolve_index_g fu), (247, 0, resolve_day_g fu), (266, 0, resolve_in_g fu)]) (fu := fu) (an := .two .go (.two .go (.two (.join [] [] (.one (.two .go (.two .go (.two (.join [(3, .one (.ref 1003)), (14, .one (.boo))] [(1003, .boxst .Edit)] .go) .go))))) .go))) (fun a b => a.1) (fun _ _ => rfl) (envL_ok ⟨resolve_index_ok fu, resolve_day_ok fu, resolve_in_ok fu, trivial⟩) Tryz.func252 rfl rfl (fun x y => by kernel_rfl)
def resolve_checkSchedule (fu : Nat) (p0 : D.Config) (p1 : D.Schedule) : Option (Int) :=
 (join (Y := (Unit × (D.Config × (D.Schedule × Unit)))) (fun (_, (a0, (a1, _))) =>
 (optc (resolve_named_Layer_1Fresolve_checkSchedule_1_2Fresolve_checkSchedule_2 fu (D.Schedule.Layers a1) a0) fun a2 =>
 (cnd (decide (a2 ≠ 0))
 (some a2)
 (iterF (X := ((List D.Edit × (Int × (Int × Unit))) × (D.Config × Unit))) (fun L3 ((a4, (a5, (a6, _))), (a7, _)) =>
 (cnd (decide (a6 < a5))
 (atc a4 a6 fun a8 =>
 (optc (resolve_checkEdit fu a7 a8) fun a9 =>
 (cnd (decide (a9 ≠ 0))
 (some a9)
 (L3 ((a4, (a5, ((IntKind.wrap .i64 (a6 + 1)), ()))), (a7, ()))))))
 (some 0))) fu (((D.Schedule.Edits a1), ((((List.length (D.Schedule.Edits a1)) : Nat) : Int), (0, ()))), (a0, ())))))) fun J10 =>
 (cnd (decide (6 < (((List.length (D.Schedule.Layers p1)) : Nat) : Int)))
 (some 5)
 (cnd (decide (48 < (((List.length (D.Schedule.Edits p1)) : Nat) : Int)))
 (some 5)
 (J10 ((), (p0, (p1, ())))))))
def resolve_checkSchedule_g (fu : Nat) : Sig := mkSig [.st .Config, .st .Schedule] [] [nI] [] [] (Int) (fun q => ((q, ()), ())) (fun x y => resolve_checkSchedule fu x.1 x.2.1)
theorem resolve_checkSchedule_ok (fu : Nat) : FnOK Tryz.prog 213 (resolve_checkSchedule_g fu) :=
 FnOK.intro (ty := ty) (E := envL [(248, 0, resolve_named_Layer_1Fresolve_checkSchedule_1_2Fresolve_checkSchedule_2_g fu), (252, 0, resolve_checkEdit_g fu)]) (fu := fu) (an := .two .go (.two (.join [(2, .one (.ref 1002)), (3, .one (.ref 1003))] [(1002, .boxst .Config), (1003, .boxst .Schedule)] .go) (.two .go (.two .go (.two (.two .go (.one (.loop [(2, .one (.ref 1002)), (27, .one (.lst .Edit)), (28, nI), (29, nI)] [(1002, .boxst .Config)] .go))) .go))))) (fun a b => a.1) (fun _ _ => rfl) (envL_ok ⟨resolve_named_Layer_1Fresolve_checkSchedule_1_2Fresolve_checkSchedule_2_ok fu, resolve_checkEdit_ok fu, trivial⟩) Tryz.func213 rfl rfl (fun x y => by kernel_rfl)
def resolve_Check_5 (fu : Nat) (p0 : D.Schedule) (p1 : D.Config) : Option (Int) :=
 (optc (resolve_checkSchedule fu p1 p0) fun a0 =>
 (sameC p1 p1 (some a0)))
def resolve_Check_5_g (fu : Nat) : Sig := mkSig [.st .Schedule, .one (.ref 101)] [(101, .boxst .Config)] [nI] [] [101] (Int) (fun q => ((q, ()), ())) (fun x y => resolve_Check_5 fu x.1 y.1)
theorem resolve_Check_5_ok (fu : Nat) : FnOK Tryz.prog 212 (resolve_Check_5_g fu) :=
 FnOK.intro (ty := ty) (E := envL [(213, 0, resolve_checkSchedule_g fu)]) (fu := fu) (an := .go) (fun a b => a.1) (fun _ _ => rfl) (envL_ok ⟨resolve_checkSchedule_ok fu, trivial⟩) Tryz.func212 rfl rfl (fun x y => by kernel_rfl)
def resolve_named_Schedule_1Fresolve_Check_4_2Fresolve_Check_5 (fu : Nat) (p0 : List D.Schedule) (c101 : D.Config) : Option (Int) :=
 (iterF (X := ((List D.Schedule × (Int × (Int × Unit))) × (D.Config × (List ((ByteArray × Bool)) × Unit)))) (fun L0 ((a1, (a2, (a3, _))), (a4, (a5, _))) =>
 (cnd (decide (a3 < a2))
 (atc a1 a3 fun a6 =>
 (optc (resolve_Check_4 fu a6) fun a7 =>
 (optc (resolve_name fu a7 a5) fun (a8, a9) =>
 (cnd (decide (a8 ≠ 0))
 (sameC a4 c101 (some a8))
 (optc (resolve_Check_5 fu a6 a4) fun a10 =>
 (cnd (decide (a10 ≠ 0))
 (sameC a4 c101 (some a10))
 (L0 ((a1, (a2, ((IntKind.wrap .i64 (a3 + 1)), ()))), (a4, (a9, ()))))))))))
 (sameC a4 c101 (some 0)))) fu ((p0, ((((List.length p0) : Nat) : Int), (0, ()))), (c101, ([], ()))))
def resolve_named_Schedule_1Fresolve_Check_4_2Fresolve_Check_5_g (fu : Nat) : Sig := mkSig [.one (.lst .Schedule), .one (.fv 211), .one (.clo 212 [101])] [(101, .boxst .Config)] [nI] [] [101] (Int) (fun q => ((q, ()), ())) (fun x y => resolve_named_Schedule_1Fresolve_Check_4_2Fresolve_Check_5 fu x.1 y.1)
theorem resolve_named_Schedule_1Fresolve_Check_4_2Fresolve_Check_5_ok (fu : Nat) : FnOK Tryz.prog 210 (resolve_named_Schedule_1Fresolve_Check_4_2Fresolve_Check_5_g fu) :=
 FnOK.intro (ty := ty) (E := envL [(204, 0, resolve_name_g fu), (211, 0, resolve_Check_4_g fu), (212, 0, resolve_Check_5_g fu)]) (fu := fu) (an := .two .go (.two .go (.two (.two .go (.one (.loop [(1, .one (.fv 211)), (2, .one (.clo 212 [101])), (7, .one (.mref 1012)), (13, .one (.lst .Schedule)), (14, nI), (15, nI)] [(101, .boxst .Config), (1012, .sm)] .go))) .go))) (fun a b => a.1) (fun _ _ => rfl) (envL_ok ⟨resolve_name_ok fu, resolve_Check_4_ok fu, resolve_Check_5_ok fu, trivial⟩) Tryz.func210 rfl rfl (fun x y => by kernel_rfl)
def resolve_Check (fu : Nat) (p0 : D.Config) : Option (Int) :=
 (join (Y := (Unit × (D.Config × Unit))) (fun (_, (a0, _)) =>
 (optc (resolve_named_Zone_1Fresolve_Check_1_2Fresolve_checkZone fu (D.Config.Zones a0)) fun a1 =>
 (cnd (decide (a1 ≠ 0))
 (some a1)
 (iterF (X := ((List D.Person × (Int × (Int × Unit))) × (D.Config × (List ((ByteArray × Bool)) × Unit)))) (fun L2 ((a3, (a4, (a5, _))), (a6, (a7, _))) =>
 (cnd (decide (a5 < a4))
 (atc a3 a5 fun a8 =>
 (optc (resolve_name fu (D.Person.Name a8) a7) fun (a9, a10) =>
 (join (Y := ((Int × (List D.Person × (Int × (Int × Unit)))) × (D.Config × (D.Person × (List ((ByteArray × Bool)) × Unit))))) (fun ((a11, (a12, (a13, (a14, _)))), (a15, (a16, (a17, _)))) =>
 (join (Y := ((Int × (List D.Person × (Int × (Int × Unit)))) × (D.Config × (List ((ByteArray × Bool)) × Unit)))) (fun ((a18, (a19, (a20, (a21, _)))), (a22, (a23, _))) =>
 (cnd (decide (a18 ≠ 0))
 (some a18)
 (L2 ((a19, (a20, ((IntKind.wrap .i64 (a21 + 1)), ()))), (a22, (a23, ())))))) fun J24 =>
 (cnd (decide (a11 = 0))
 (optc (resolve_checkPerson fu a15 a16) fun a25 =>
 (J24 ((a25, (a12, (a13, (a14, ())))), (a15, (a17, ())))))
 (J24 ((a11, (a12, (a13, (a14, ())))), (a15, (a17, ()))))))) fun J26 =>
 (cnd (decide ((D.Person.Name a8) = (ByteArray.mk (List.toArray (110 :: (111 :: (98 :: (111 :: (100 :: (121 :: []))))))))))
 (J26 ((2, (a3, (a4, (a5, ())))), (a6, (a8, (a10, ())))))
 (J26 ((a9, (a3, (a4, (a5, ())))), (a6, (a8, (a10, ())))))))))
 (optc (resolve_named_Calendar_1Fresolve_Check_2_2Fresolve_Check_3 fu (D.Config.Calendars a6) a6) fun a27 =>
 (cnd (decide (a27 ≠ 0))
 (some a27)
 (optc (resolve_named_Schedule_1Fresolve_Check_4_2Fresolve_Check_5 fu (D.Config.Schedules a6) a6) fun a28 =>
 (some a28)))))) fu (((D.Config.People a0), ((((List.length (D.Config.People a0)) : Nat) : Int), (0, ()))), (a0, ([], ()))))))) fun J29 =>
 (cnd (decide (16 < (((List.length (D.Config.Zones p0)) : Nat) : Int)))
 (some 5)
 (cnd (decide (32 < (((List.length (D.Config.People p0)) : Nat) : Int)))
 (some 5)
 (cnd (decide (8 < (((List.length (D.Config.Calendars p0)) : Nat) : Int)))
 (some 5)
 (cnd (decide (12 < (((List.length (D.Config.Schedules p0)) : Nat) : Int)))
 (some 5)
 (J29 ((), (p0, ()))))))))
def resolve_Check_g (fu : Nat) : Sig := mkSig [.st .Config] [] [nI] [] [] (Int) (fun q => ((q, ()), ())) (fun x y => resolve_Check fu x.1)
theorem resolve_Check_ok (fu : Nat) : FnOK Tryz.prog 167 (resolve_Check_g fu) :=
 FnOK.intro (ty := ty) (E := envL [(201, 0, resolve_named_Zone_1Fresolve_Check_1_2Fresolve_checkZone_g fu), (204, 0, resolve_name_g fu), (205, 0, resolve_checkPerson_g fu), (206, 0, resolve_named_Calendar_1Fresolve_Check_2_2Fresolve_Check_3_g fu), (210, 0, resolve_named_Schedule_1Fresolve_Check_4_2Fresolve_Check_5_g fu)]) (fu := fu) (an := .two .go (.two (.join [(1, .one (.ref 1001))] [(1001, .boxst .Config)] .go) (.two .go (.two .go (.two (.two .go (.one (.loop [(1, .one (.ref 1001)), (4, .one (.mref 1037)), (39, .one (.lst .Person)), (40, nI), (41, nI)] [(1001, .boxst .Config), (1037, .sm)] (.two .go (.two .go (.two (.one (.two .go (.two .go (.two (.join [(1, .one (.ref 1001)), (4, .one (.mref 1037)), (6, .one (.ref 1006)), (7, nI), (39, .one (.lst .Person)), (40, nI), (41, nI)] [(1001, .boxst .Config), (1006, .boxst .Person), (1037, .sm)] .go) (.two (.join [(1, .one (.ref 1001)), (4, .one (.mref 1037)), (7, nI), (39, .one (.lst .Person)), (40, nI), (41, nI)] [(1001, .boxst .Config), (1037, .sm)] .go) .go))))) .go)))))) .go))))) (fun a b => a.1) (fun _ _ => rfl) (envL_ok ⟨resolve_named_Zone_1Fresolve_Check_1_2Fresolve_checkZone_ok fu, resolve_name_ok fu, resolve_checkPerson_ok fu, resolve_named_Calendar_1Fresolve_Check_2_2Fresolve_Check_3_ok fu, resolve_named_Schedule_1Fresolve_Check_4_2Fresolve_Check_5_ok fu, trivial⟩) Tryz.func167 rfl rfl (fun x y => by kernel_rfl)
def r25_With (fu : Nat) (p0 : List Int) (p1 : Int) : Option (List Int) :=
 (iterF (X := ((List Int × (Int × (Bool × (Int × Unit)))) × (List Int × Unit))) (fun L0 ((a1, (a2, (a3, (a4, _)))), (a5, _)) =>
 (cnd (decide (a4 < (((List.length a1) : Nat) : Int)))
 (join (Y := ((List Int × (Int × (Bool × (Int × Unit)))) × (List Int × Unit))) (fun ((a6, (a7, (a8, (a9, _)))), (a10, _)) =>
 (L0 ((a6, (a7, (a8, ((IntKind.wrap .i64 (a9 + 1)), ())))), (a10, ())))) fun J11 =>
 (join (Y := ((List Int × (Int × (Bool × (Int × Unit)))) × (List Int × Unit))) (fun ((a12, (a13, (a14, (a15, _)))), (a16, _)) =>
 (atc a12 a15 fun a17 =>
 (cnd (decide (a17 ≠ a13))
 (atc a12 a15 fun a18 =>
 (lec ((List.length a16) + (List.length (a18 :: []))) 34359738368 (J11 ((a12, (a13, (a14, (a15, ())))), ((a16 ++ (a18 :: [])), ())))))
 (J11 ((a12, (a13, (a14, (a15, ())))), (a16, ())))))) fun J19 =>
 (cnd a3
 (J19 ((a1, (a2, (a3, (a4, ())))), (a5, ())))
 (atc a1 a4 fun a20 =>
 (cnd (decide (a2 ≤ a20))
 (lec ((List.length a5) + (List.length (a2 :: []))) 34359738368 (J19 ((a1, (a2, (true, (a4, ())))), ((a5 ++ (a2 :: [])), ()))))
 (J19 ((a1, (a2, (a3, (a4, ())))), (a5, ()))))))))
 (join (Y := (Unit × (List Int × Unit))) (fun (_, (a21, _)) =>
 (some a21)) fun J22 =>
 (cnd (!a3)
 (lec ((List.length a5) + (List.length (a2 :: []))) 34359738368 (J22 ((), ((a5 ++ (a2 :: [])), ()))))
 (J22 ((), (a5, ()))))))) fu ((p0, (p1, (false, (0, ())))), ([], ())))
def r25_With_g (fu : Nat) : Sig := mkSig [.one (.lst .int), nI] [] [.one (.lst .int)] [] [] (List Int) (fun q => ((q, ()), ())) (fun x y => r25_With fu x.1 x.2.1)
theorem r25_With_ok (fu : Nat) : FnOK Tryz.prog 35 (r25_With_g fu) :=
 FnOK.intro (ty := ty) (E := envL []) (fu := fu) (an := .two .go (.two .go (.two .go (.two (.two .go (.one (.loop [(0, .one (.lst .int)), (1, nI), (5, .one (.own 1027)), (6, .one (.boo)), (7, nI)] [(1027, .arr .int)] (.two .go (.two (.join [(0, .one (.lst .int)), (1, nI), (5, .one (.own 1027)), (6, .one (.boo)), (7, nI)] [(1027, .arr .int)] (.one (.two (.join [(0, .one (.lst .int)), (1, nI), (5, .one (.own 1027)), (6, .one (.boo)), (7, nI)] [(1027, .arr .int)] .go) .go))) .go))))) (.two (.join [(5, .one (.own 1027))] [(1027, .arr .int)] .go) .go))))) (fun a b => a.1) (fun _ _ => rfl) (envL_ok (l := []) trivial) Tryz.func35 rfl rfl (fun x y => by kernel_rfl)
def r06_digit (fu : Nat) (p0 : Int) : Option (Bool) :=
 (cnd (decide (48 ≤ p0))
 (cnd (decide (p0 ≤ 57))
 (some true)
 (some false))
 (some false))
def r06_digit_g (fu : Nat) : Sig := mkSig [.one (.num .u8)] [] [.one (.boo)] [] [] (Bool) (fun q => ((q, ()), ())) (fun x y => r06_digit fu x.1)
theorem r06_digit_ok (fu : Nat) : FnOK Tryz.prog 263 (r06_digit_g fu) :=
 FnOK.intro (ty := ty) (E := envL []) (fu := fu) (an := .go) (fun a b => a.1) (fun _ _ => rfl) (envL_ok (l := []) trivial) Tryz.func263 rfl rfl (fun x y => by kernel_rfl)
def r06_Name (fu : Nat) (p0 : ByteArray) : Option (Bool) :=
 (join (Y := ((ByteArray × Unit) × Unit)) (fun ((a0, _), _) =>
 (iterF (X := ((ByteArray × (Int × Unit)) × Unit)) (fun L1 ((a2, (a3, _)), _) =>
 (cnd (decide (a3 < (((ByteArray.size a2) : Nat) : Int)))
 (join (Y := ((ByteArray × (Int × Unit)) × Unit)) (fun ((a4, (a5, _)), _) =>
 (L1 ((a4, ((IntKind.wrap .i64 (a5 + 1)), ())), ()))) fun J6 =>
 (natc a3 fun a7 =>
 (ltc a7 (ByteArray.size a2) (cnd (decide ((((bAt a2 a7) : Nat) : Int) < 97))
 (natc a3 fun a8 =>
 (ltc a8 (ByteArray.size a2) (optc (r06_digit fu (((bAt a2 a8) : Nat) : Int)) fun a9 =>
 (cnd a9
 (J6 ((a2, (a3, ())), ()))
 (natc a3 fun a10 =>
 (ltc a10 (ByteArray.size a2) (cnd (decide ((((bAt a2 a10) : Nat) : Int) ≠ 95))
 (natc a3 fun a11 =>
 (ltc a11 (ByteArray.size a2) (cnd (decide ((((bAt a2 a11) : Nat) : Int) ≠ 45))
 (some false)
 (J6 ((a2, (a3, ())), ())))))
 (J6 ((a2, (a3, ())), ())))))))))
 (natc a3 fun a12 =>
 (ltc a12 (ByteArray.size a2) (cnd (decide (122 < (((bAt a2 a12) : Nat) : Int)))
 (natc a3 fun a13 =>
 (ltc a13 (ByteArray.size a2) (optc (r06_digit fu (((bAt a2 a13) : Nat) : Int)) fun a14 =>
 (cnd a14
 (J6 ((a2, (a3, ())), ()))
 (natc a3 fun a15 =>
 (ltc a15 (ByteArray.size a2) (cnd (decide ((((bAt a2 a15) : Nat) : Int) ≠ 95))
 (natc a3 fun a16 =>
 (ltc a16 (ByteArray.size a2) (cnd (decide ((((bAt a2 a16) : Nat) : Int) ≠ 45))
 (some false)
 (J6 ((a2, (a3, ())), ())))))
 (J6 ((a2, (a3, ())), ())))))))))
 (J6 ((a2, (a3, ())), ())))))))))
 (some true))) fu ((a0, (0, ())), ()))) fun J17 =>
 (cnd (decide ((((ByteArray.size p0) : Nat) : Int) < 1))
 (some false)
 (cnd (decide (24 < (((ByteArray.size p0) : Nat) : Int)))
 (some false)
 (natc 0 fun a18 =>
 (ltc a18 (ByteArray.size p0) (cnd (decide ((((bAt p0 a18) : Nat) : Int) < 97))
 (some false)
 (natc 0 fun a19 =>
 (ltc a19 (ByteArray.size p0) (cnd (decide (122 < (((bAt p0 a19) : Nat) : Int)))
 (some false)
 (J17 ((p0, ()), ())))))))))))
def r06_Name_g (fu : Nat) : Sig := mkSig [.one (.str)] [] [.one (.boo)] [] [] (Bool) (fun q => ((q, ()), ())) (fun x y => r06_Name fu x.1)
theorem r06_Name_ok (fu : Nat) : FnOK Tryz.prog 237 (r06_Name_g fu) :=
 FnOK.intro (ty := ty) (E := envL [(263, 0, r06_digit_g fu)]) (fu := fu) (an := .two .go (.two (.join [(0, .one (.str))] [] .go) (.two (.two .go (.one (.loop [(0, .one (.str)), (3, nI)] [] (.two .go (.two (.join [(0, .one (.str)), (3, nI)] [] .go) .go))))) .go))) (fun a b => a.1) (fun _ _ => rfl) (envL_ok ⟨r06_digit_ok fu, trivial⟩) Tryz.func237 rfl rfl (fun x y => by kernel_rfl)
def r04_in (fu : Nat) (p0 : Int) (p1 : Int) (p2 : Int) : Option (Bool) :=
 (cnd (decide (p1 ≤ p0))
 (cnd (decide (p0 ≤ p2))
 (some true)
 (some false))
 (some false))
def r04_in_g (fu : Nat) : Sig := mkSig [nI, nI, nI] [] [.one (.boo)] [] [] (Bool) (fun q => ((q, ()), ())) (fun x y => r04_in fu x.1 x.2.1 x.2.2.1)
theorem r04_in_ok (fu : Nat) : FnOK Tryz.prog 261 (r04_in_g fu) :=
 FnOK.intro (ty := ty) (E := envL []) (fu := fu) (an := .go) (fun a b => a.1) (fun _ _ => rfl) (envL_ok (l := []) trivial) Tryz.func261 rfl rfl (fun x y => by kernel_rfl)
def r04_right (fu : Nat) (p0 : D.YearRule) : Option (Bool) :=
 (optc (r04_in fu (D.YearRule.From p0) 1970 2240) fun a0 =>
 (cnd a0
 (optc (r04_in fu (D.YearRule.To p0) (D.YearRule.From p0) 2240) fun a1 =>
 (cnd a1
 (optc (r04_in fu (D.YearRule.Month p0) 1 12) fun a2 =>
 (cnd a2
 (optc (r04_in fu (D.YearRule.Week p0) 1 5) fun a3 =>
 (cnd a3
 (optc (r04_in fu (D.YearRule.Weekday p0) 0 6) fun a4 =>
 (cnd a4
 (optc (r04_in fu (D.YearRule.Second p0) 0 86399) fun a5 =>
 (cnd a5
 (optc (r04_in fu (D.YearRule.Offset p0) (-64800) 64800) fun a6 =>
 (cnd a6
 (some true)
 (some false)))
 (some false)))
 (some false)))
 (some false)))
 (some false)))
 (some false)))
 (some false)))
def r04_right_g (fu : Nat) : Sig := mkSig [.st .YearRule] [] [.one (.boo)] [] [] (Bool) (fun q => ((q, ()), ())) (fun x y => r04_right fu x.1)
theorem r04_right_ok (fu : Nat) : FnOK Tryz.prog 275 (r04_right_g fu) :=
 FnOK.intro (ty := ty) (E := envL [(261, 0, r04_in_g fu)]) (fu := fu) (an := .go) (fun a b => a.1) (fun _ _ => rfl) (envL_ok ⟨r04_in_ok fu, trivial⟩) Tryz.func275 rfl rfl (fun x y => by kernel_rfl)
def r01_Weekday (fu : Nat) (p0 : Int) : Option (Int) :=
 (nzc 7 (nzc 7 (some (Int.tmod (IntKind.wrap .i64 ((Int.tmod p0 7) + 10)) 7))))
def r01_Weekday_g (fu : Nat) : Sig := mkSig [nI] [] [nI] [] [] (Int) (fun q => ((q, ()), ())) (fun x y => r01_Weekday fu x.1)
theorem r01_Weekday_ok (fu : Nat) : FnOK Tryz.prog 236 (r01_Weekday_g fu) :=
 FnOK.intro (ty := ty) (E := envL []) (fu := fu) (an := .go) (fun a b => a.1) (fun _ _ => rfl) (envL_ok (l := []) trivial) Tryz.func236 rfl rfl (fun x y => by kernel_rfl)
def r01_year (fu : Nat) (p0 : Int) : Option (Int) :=
 (nzc 4 (nzc 100 (nzc 400 (some (IntKind.wrap .i64 ((IntKind.wrap .i64 ((IntKind.wrap .i64 ((IntKind.wrap .i64 ((IntKind.wrap .i64 (p0 - 1970)) * 365)) + (IntKind.wrap .i64 (Int.tdiv (IntKind.wrap .i64 (p0 - 1969)) 4)))) - (IntKind.wrap .i64 (Int.tdiv (IntKind.wrap .i64 (p0 - 1901)) 100)))) + (IntKind.wrap .i64 (Int.tdiv (IntKind.wrap .i64 (p0 - 1601)) 400))))))))
def r01_year_g (fu : Nat) : Sig := mkSig [nI] [] [nI] [] [] (Int) (fun q => ((q, ()), ())) (fun x y => r01_year fu x.1)
theorem r01_year_ok (fu : Nat) : FnOK Tryz.prog 260 (r01_year_g fu) :=
 FnOK.intro (ty := ty) (E := envL []) (fu := fu) (an := .go) (fun a b => a.1) (fun _ _ => rfl) (envL_ok (l := []) trivial) Tryz.func260 rfl rfl (fun x y => by kernel_rfl)
def r01_Leap (fu : Nat) (p0 : Int) : Option (Bool) :=
 (nzc 4 (cnd (decide ((Int.tmod p0 4) = 0))
 (nzc 100 (cnd (decide ((Int.tmod p0 100) ≠ 0))
 (some true)
 (nzc 400 (cnd (decide ((Int.tmod p0 400) = 0))
 (some true)
 (some false)))))
 (some false)))
def r01_Leap_g (fu : Nat) : Sig := mkSig [nI] [] [.one (.boo)] [] [] (Bool) (fun q => ((q, ()), ())) (fun x y => r01_Leap fu x.1)
theorem r01_Leap_ok (fu : Nat) : FnOK Tryz.prog 310 (r01_Leap_g fu) :=
 FnOK.intro (ty := ty) (E := envL []) (fu := fu) (an := .go) (fun a b => a.1) (fun _ _ => rfl) (envL_ok (l := []) trivial) Tryz.func310 rfl rfl (fun x y => by kernel_rfl)
def r01_Days (fu : Nat) (p0 : Int) (p1 : Int) : Option (Int) :=
 (join (Y := ((Int × (Int × (Bool × Unit))) × Unit)) (fun ((a0, (a1, (a2, _))), _) =>
 (cnd a2
 (some 31)
 (join (Y := ((Int × (Int × (Bool × Unit))) × Unit)) (fun ((a3, (a4, (a5, _))), _) =>
 (cnd a5
 (some 30)
 (cnd (decide (a4 = 2))
 (optc (r01_Leap fu a3) fun a6 =>
 (cnd a6
 (some 29)
 (some 28)))
 (some 0)))) fun J7 =>
 (cnd (decide (a1 = 4))
 (J7 ((a0, (a1, ((decide (a1 = 4)), ()))), ()))
 (cnd (decide (a1 = 6))
 (J7 ((a0, (a1, ((decide (a1 = 6)), ()))), ()))
 (cnd (decide (a1 = 9))
 (J7 ((a0, (a1, ((decide (a1 = 9)), ()))), ()))
 (J7 ((a0, (a1, ((decide (a1 = 11)), ()))), ())))))))) fun J8 =>
 (cnd (decide (p1 = 1))
 (J8 ((p0, (p1, ((decide (p1 = 1)), ()))), ()))
 (cnd (decide (p1 = 3))
 (J8 ((p0, (p1, ((decide (p1 = 3)), ()))), ()))
 (cnd (decide (p1 = 5))
 (J8 ((p0, (p1, ((decide (p1 = 5)), ()))), ()))
 (cnd (decide (p1 = 7))
 (J8 ((p0, (p1, ((decide (p1 = 7)), ()))), ()))
 (cnd (decide (p1 = 8))
 (J8 ((p0, (p1, ((decide (p1 = 8)), ()))), ()))
 (cnd (decide (p1 = 10))
 (J8 ((p0, (p1, ((decide (p1 = 10)), ()))), ()))
 (J8 ((p0, (p1, ((decide (p1 = 12)), ()))), ())))))))))
def r01_Days_g (fu : Nat) : Sig := mkSig [nI, nI] [] [nI] [] [] (Int) (fun q => ((q, ()), ())) (fun x y => r01_Days fu x.1 x.2.1)
theorem r01_Days_ok (fu : Nat) : FnOK Tryz.prog 301 (r01_Days_g fu) :=
 FnOK.intro (ty := ty) (E := envL [(310, 0, r01_Leap_g fu)]) (fu := fu) (an := .two .go (.two (.two .go (.one (.two (.join [(0, nI), (5, nI), (6, .one (.boo))] [] .go) (.two .go (.two (.join [(0, nI), (5, nI), (14, .one (.boo))] [] .go) .go))))) .go)) (fun a b => a.1) (fun _ _ => rfl) (envL_ok ⟨r01_Leap_ok fu, trivial⟩) Tryz.func301 rfl rfl (fun x y => by kernel_rfl)
def r01_Valid (fu : Nat) (p0 : D.Date) : Option (Bool) :=
 (cnd (decide (1970 ≤ (D.Date.Year p0)))
 (cnd (decide ((D.Date.Year p0) ≤ 2240))
 (cnd (decide (1 ≤ (D.Date.Month p0)))
 (cnd (decide ((D.Date.Month p0) ≤ 12))
 (cnd (decide (1 ≤ (D.Date.Day p0)))
 (optc (r01_Days fu (D.Date.Year p0) (D.Date.Month p0)) fun a0 =>
 (cnd (decide ((D.Date.Day p0) ≤ a0))
 (some true)
 (some false)))
 (some false))
 (some false))
 (some false))
 (some false))
 (some false))
def r01_Valid_g (fu : Nat) : Sig := mkSig [.st .Date] [] [.one (.boo)] [] [] (Bool) (fun q => ((q, ()), ())) (fun x y => r01_Valid fu x.1)
theorem r01_Valid_ok (fu : Nat) : FnOK Tryz.prog 309 (r01_Valid_g fu) :=
 FnOK.intro (ty := ty) (E := envL [(301, 0, r01_Days_g fu)]) (fu := fu) (an := .go) (fun a b => a.1) (fun _ _ => rfl) (envL_ok ⟨r01_Days_ok fu, trivial⟩) Tryz.func309 rfl rfl (fun x y => by kernel_rfl)
def r01_Day (fu : Nat) (p0 : D.Date) : Option (Int × Int) :=
 (optc (r01_Valid fu p0) fun a0 =>
 (cnd (!a0)
 (some (0, 1))
 (optc (r01_year fu (D.Date.Year p0)) fun a1 =>
 (iterF (X := ((Int × (Int × Unit)) × (D.Date × Unit))) (fun L2 ((a3, (a4, _)), (a5, _)) =>
 (cnd (decide (a4 < (D.Date.Month a5)))
 (optc (r01_Days fu (D.Date.Year a5) a4) fun a6 =>
 (L2 (((IntKind.wrap .i64 (a3 + a6)), ((IntKind.wrap .i64 (a4 + 1)), ())), (a5, ()))))
 (some ((IntKind.wrap .i64 ((IntKind.wrap .i64 (a3 + (D.Date.Day a5))) - 1)), 0)))) fu ((a1, (1, ())), (p0, ()))))))
def r01_Day_g (fu : Nat) : Sig := mkSig [.st .Date] [] [nI, nI] [] [] (Int × Int) (fun q => ((q.1, q.2, ()), ())) (fun x y => r01_Day fu x.1)
theorem r01_Day_ok (fu : Nat) : FnOK Tryz.prog 300 (r01_Day_g fu) :=
 FnOK.intro (ty := ty) (E := envL [(260, 0, r01_year_g fu), (301, 0, r01_Days_g fu), (309, 0, r01_Valid_g fu)]) (fu := fu) (an := .two .go (.two .go (.two .go (.two (.two .go (.one (.loop [(1, .one (.ref 1001)), (4, nI), (5, nI)] [(1001, .boxst .Date)] .go))) .go)))) (fun a b => (a.1, a.2.1)) (fun _ _ => rfl) (envL_ok ⟨r01_year_ok fu, r01_Days_ok fu, r01_Valid_ok fu, trivial⟩) Tryz.func300 rfl rfl (fun x y => by kernel_rfl)
def r01_Nth (fu : Nat) (p0 : Int) (p1 : Int) (p2 : Int) (p3 : Int) : Option (Int × Int) :=
 (optc (r01_Day fu (D.Date.mk p0 p1 1)) fun (a0, a1) =>
 (join (Y := (P5 × Unit)) (fun ((a2, (a3, (a4, (a5, (a6, _))))), _) =>
 (iterF (X := (P6 × Unit)) (fun L7 ((a8, (a9, (a10, (a11, (a12, (a13, _)))))), _) =>
 (optc (r01_Weekday fu a13) fun a14 =>
 (cnd (decide (a14 ≠ a11))
 (L7 ((a8, (a9, (a10, (a11, (a12, ((IntKind.wrap .i64 (a13 + 1)), ())))))), ()))
 (cnd (decide (a10 < 5))
 (some ((IntKind.wrap .i64 (a13 + (IntKind.wrap .i64 (7 * (IntKind.wrap .i64 (a10 - 1)))))), 0))
 (iterF (X := (P4 × Unit)) (fun L15 ((a16, (a17, (a18, (a19, _)))), _) =>
 (optc (r01_Days fu a16 a17) fun a20 =>
 (cnd (decide ((IntKind.wrap .i64 (a19 + 7)) < (IntKind.wrap .i64 (a18 + a20))))
 (L15 ((a16, (a17, (a18, ((IntKind.wrap .i64 (a19 + 7)), ())))), ()))
 (some (a19, 0))))) fu ((a8, (a9, (a12, (a13, ())))), ())))))) fu ((a2, (a3, (a4, (a5, (a6, (a6, ())))))), ()))) fun J21 =>
 (cnd (decide (a1 ≠ 0))
 (some (0, 1))
 (cnd (decide (p2 < 1))
 (some (0, 1))
 (cnd (decide (5 < p2))
 (some (0, 1))
 (cnd (decide (p3 < 0))
 (some (0, 1))
 (cnd (decide (6 < p3))
 (some (0, 1))
 (J21 ((p0, (p1, (p2, (p3, (a0, ()))))), ())))))))))
def r01_Nth_g (fu : Nat) : Sig := mkSig [nI, nI, nI, nI] [] [nI, nI] [] [] (Int × Int) (fun q => ((q.1, q.2, ()), ())) (fun x y => r01_Nth fu x.1 x.2.1 x.2.2.1 x.2.2.2.1)
theorem r01_Nth_ok (fu : Nat) : FnOK Tryz.prog 288 (r01_Nth_g fu) :=
 FnOK.intro (ty := ty) (E := envL [(236, 0, r01_Weekday_g fu), (300, 0, r01_Day_g fu), (301, 0, r01_Days_g fu)]) (fu := fu) (an := .two .go (.two .go (.two (.join [(0, nI), (1, nI), (2, nI), (3, nI), (10, nI)] [] .go) (.two .go (.two (.one (.loop [(0, nI), (1, nI), (2, nI), (3, nI), (10, nI), (12, nI)] [] .go)) (.two .go (.two (.one (.loop [(0, nI), (1, nI), (10, nI), (12, nI)] [] .go)) .go))))))) (fun a b => (a.1, a.2.1)) (fun _ _ => rfl) (envL_ok ⟨r01_Weekday_ok fu, r01_Day_ok fu, r01_Days_ok fu, trivial⟩) Tryz.func288 rfl rfl (fun x y => by kernel_rfl)
def r04_occurrences (fu : Nat) (p0 : List D.YearRule) : Option (List D.Occurrence) :=
 (iterF (X := ((List D.YearRule × (Int × Unit)) × (List D.Occurrence × Unit))) (fun L0 ((a1, (a2, _)), (a3, _)) =>
 (cnd (decide (a2 < (((List.length a1) : Nat) : Int)))
 (atc a1 a2 fun a4 =>
 (iterF (X := ((List D.YearRule × (Int × (Int × Unit))) × (List D.Occurrence × Unit))) (fun L5 ((a6, (a7, (a8, _))), (a9, _)) =>
 (atc a6 a7 fun a10 =>
 (cnd (decide (a8 ≤ (D.YearRule.To a10)))
 (atc a6 a7 fun a11 =>
 (atc a6 a7 fun a12 =>
 (atc a6 a7 fun a13 =>
 (optc (r01_Nth fu a8 (D.YearRule.Month a11) (D.YearRule.Week a12) (D.YearRule.Weekday a13)) fun (a14, a15) =>
 (atc a6 a7 fun a16 =>
 (atc a6 a7 fun a17 =>
 (join (Y := ((List D.YearRule × P3) × (D.Occurrence × (List D.Occurrence × Unit)))) (fun ((a18, (a19, (a20, (a21, _)))), (a22, (a23, _))) =>
 (lec ((List.length a23) + (List.length (a22 :: []))) 34359738368 (natc (IntKind.wrap .i64 (a21 + 1)) fun a24 =>
 (lec a24 (List.length (a23 ++ (a22 :: []))) (natc a21 fun a25 =>
 (lec a25 (List.length (a23 ++ (a22 :: []))) (chk (List.length (a23 ++ (a22 :: []))) (List.length (a23 ++ (a22 :: []))) (chk (List.length (a23 ++ (a22 :: []))) (List.length (a23 ++ (a22 :: []))) (lec a24 (List.length (a23 ++ (a22 :: []))) (lec a25 a24 (natc a21 fun a26 =>
 (ltc a26 (List.length ((List.take a24 (a23 ++ (a22 :: []))) ++ (List.take ((List.length (a23 ++ (a22 :: []))) - a24) (List.drop a25 (a23 ++ (a22 :: [])))))) (optc (GetElem?.getElem? ((List.take a24 (a23 ++ (a22 :: []))) ++ (List.take ((List.length (a23 ++ (a22 :: []))) - a24) (List.drop a25 (a23 ++ (a22 :: []))))) a26) fun a27 =>
 (L5 ((a18, (a19, ((IntKind.wrap .i64 (a20 + 1)), ()))), ((List.set ((List.take a24 (a23 ++ (a22 :: []))) ++ (List.take ((List.length (a23 ++ (a22 :: []))) - a24) (List.drop a25 (a23 ++ (a22 :: []))))) a26 a22), ())))))))))))))))) fun J28 =>
 (iterF (X := ((List D.YearRule × P3) × (D.Occurrence × (List D.Occurrence × Unit)))) (fun L29 ((a30, (a31, (a32, (a33, _)))), (a34, (a35, _))) =>
 (join (Y := ((List D.YearRule × P3) × (D.Occurrence × (List D.Occurrence × Unit)))) (fun ((a36, (a37, (a38, (a39, _)))), (a40, (a41, _))) =>
 (L29 ((a36, (a37, (a38, ((IntKind.wrap .i64 (a39 - 1)), ())))), (a40, (a41, ()))))) fun J42 =>
 (cnd (decide (0 < a33))
 (natc (IntKind.wrap .i64 (a33 - 1)) fun a43 =>
 (ltc a43 (List.length a35) (optc (GetElem?.getElem? a35 a43) fun a44 =>
 (cnd (decide ((D.Occurrence.At a34) < (D.Occurrence.At a44)))
 (J42 ((a30, (a31, (a32, (a33, ())))), (a34, (a35, ()))))
 (J28 ((a30, (a31, (a32, (a33, ())))), (a34, (a35, ()))))))))
 (J28 ((a30, (a31, (a32, (a33, ())))), (a34, (a35, ()))))))) fu ((a6, (a7, (a8, ((((List.length a9) : Nat) : Int), ())))), ((D.Occurrence.mk (IntKind.wrap .i64 ((IntKind.wrap .i64 (a14 * 86400)) + (D.YearRule.Second a16))) (D.YearRule.Offset a17)), (a9, ())))))))))))
 (L0 ((a6, ((IntKind.wrap .i64 (a7 + 1)), ())), (a9, ())))))) fu ((a1, (a2, ((D.YearRule.From a4), ()))), (a3, ()))))
 (some a3))) fu ((p0, (0, ())), ([], ())))
def r04_occurrences_g (fu : Nat) : Sig := mkSig [.one (.lst .YearRule)] [] [.one (.lst .Occurrence)] [] [] (List D.Occurrence) (fun q => ((q, ()), ())) (fun x y => r04_occurrences fu x.1)
theorem r04_occurrences_ok (fu : Nat) : FnOK Tryz.prog 276 (r04_occurrences_g fu) :=
 FnOK.intro (ty := ty) (E := envL [(288, 0, r01_Nth_g fu)]) (fu := fu) (an := .two .go (.two .go (.two (.two .go (.one (.loop [(0, .one (.lst .YearRule)), (3, .one (.own 1084)), (4, nI)] [(1084, .arr .Occurrence)] (.two .go (.two (.one (.two .go (.one (.loop [(0, .one (.lst .YearRule)), (3, .one (.own 1084)), (4, nI), (5, nI)] [(1084, .arr .Occurrence)] (.two .go (.two (.one (.two .go (.two .go (.two .go (.two (.join [(0, .one (.lst .YearRule)), (3, .one (.own 1084)), (4, nI), (5, nI), (8, .one (.ref 1008)), (9, nI)] [(1008, .boxst .Occurrence), (1084, .arr .Occurrence)] (.one (.loop [(0, .one (.lst .YearRule)), (3, .one (.own 1084)), (4, nI), (5, nI), (8, .one (.ref 1008)), (9, nI)] [(1008, .boxst .Occurrence), (1084, .arr .Occurrence)] (.two (.join [(0, .one (.lst .YearRule)), (3, .one (.own 1084)), (4, nI), (5, nI), (8, .one (.ref 1008)), (9, nI)] [(1008, .boxst .Occurrence), (1084, .arr .Occurrence)] .go) .go)))) .go))))) .go)))))) .go))))) .go))) (fun a b => a.1) (fun _ _ => rfl) (envL_ok ⟨r01_Nth_ok fu, trivial⟩) Tryz.func276 rfl rfl (fun x y => by kernel_rfl)
def r04_Transitions (fu : Nat) (p0 : D.Zone) : Option (List D.Transition × Int) :=
 (optc (r04_in fu (D.Zone.Offset p0) (-64800) 64800) fun a0 =>
 (cnd (!a0)
 (some ([], 1))
 (cnd (decide (16 < (((List.length (D.Zone.Rules p0)) : Nat) : Int)))
 (some ([], 5))
 (iterF (X := ((Int × (Int × Unit)) × (D.Zone × Unit))) (fun L1 ((a2, (a3, _)), (a4, _)) =>
 (cnd (decide (a3 < (((List.length (D.Zone.Rules a4)) : Nat) : Int)))
 (atc (D.Zone.Rules a4) a3 fun a5 =>
 (optc (r04_right fu a5) fun a6 =>
 (cnd (!a6)
 (some ([], 1))
 (atc (D.Zone.Rules a4) a3 fun a7 =>
 (atc (D.Zone.Rules a4) a3 fun a8 =>
 (L1 (((IntKind.wrap .i64 (a2 + (IntKind.wrap .i64 ((IntKind.wrap .i64 ((D.YearRule.To a7) - (D.YearRule.From a8))) + 1)))), ((IntKind.wrap .i64 (a3 + 1)), ())), (a4, ()))))))))
 (cnd (decide (640 < a2))
 (some ([], 5))
 (optc (r04_occurrences fu (D.Zone.Rules a4)) fun a9 =>
 (iterF (X := ((List D.Occurrence × (Int × (Int × Unit))) × (List D.Transition × Unit))) (fun L10 ((a11, (a12, (a13, _))), (a14, _)) =>
 (cnd (decide (a13 < (((List.length a11) : Nat) : Int)))
 (join (Y := ((List D.Occurrence × (Int × (Int × Unit))) × (List D.Transition × Unit))) (fun ((a15, (a16, (a17, _))), (a18, _)) =>
 (L10 ((a15, (a16, ((IntKind.wrap .i64 (a17 + 1)), ()))), (a18, ())))) fun J19 =>
 (atc a11 a13 fun a20 =>
 (cnd (decide ((D.Occurrence.Offset a20) = a12))
 (J19 ((a11, (a12, (a13, ()))), (a14, ())))
 (atc a11 a13 fun a21 =>
 (atc a11 a13 fun a22 =>
 (join (Y := ((List D.Occurrence × (Int × Unit)) × (D.Transition × (List D.Transition × Unit)))) (fun ((a23, (a24, _)), (a25, (a26, _))) =>
 (lec ((List.length a26) + (List.length (a25 :: []))) 34359738368 (J19 ((a23, ((D.Transition.Offset a25), (a24, ()))), ((a26 ++ (a25 :: [])), ()))))) fun J27 =>
 (optc (r04_in fu (IntKind.wrap .i64 ((D.Occurrence.Offset a22) - a12)) (-86399) 86399) fun a28 =>
 (cnd a28
 (optc (r04_in fu (IntKind.wrap .i64 ((D.Occurrence.At a21) - a12)) 0 8589934592) fun a29 =>
 (cnd a29
 (cnd (decide (0 < (((List.length a14) : Nat) : Int)))
 (natc (IntKind.wrap .i64 ((((List.length a14) : Nat) : Int) - 1)) fun a30 =>
 (ltc a30 (List.length a14) (optc (GetElem?.getElem? a14 a30) fun a31 =>
 (cnd (decide ((IntKind.wrap .i64 ((IntKind.wrap .i64 ((D.Occurrence.At a21) - a12)) - (D.Transition.At a31))) < 604800))
 (some ([], 6))
 (J27 ((a11, (a13, ())), ((D.Transition.mk (IntKind.wrap .i64 ((D.Occurrence.At a21) - a12)) (D.Occurrence.Offset a22)), (a14, ()))))))))
 (J27 ((a11, (a13, ())), ((D.Transition.mk (IntKind.wrap .i64 ((D.Occurrence.At a21) - a12)) (D.Occurrence.Offset a22)), (a14, ())))))
 (some ([], 6))))
 (some ([], 6))))))))))
 (some (a14, 0)))) fu ((a9, ((D.Zone.Offset a4), (0, ()))), ([], ()))))))) fu ((0, (0, ())), (p0, ()))))))
def r04_Transitions_g (fu : Nat) : Sig := mkSig [.st .Zone] [] [.one (.lst .Transition), nI] [] [] (List D.Transition × Int) (fun q => ((q.1, q.2, ()), ())) (fun x y => r04_Transitions fu x.1)
theorem r04_Transitions_ok (fu : Nat) : FnOK Tryz.prog 259 (r04_Transitions_g fu) :=
 FnOK.intro (ty := ty) (E := envL [(261, 0, r04_in_g fu), (275, 0, r04_right_g fu), (276, 0, r04_occurrences_g fu)]) (fu := fu) (an := .two .go (.two .go (.two .go (.two .go (.two (.two .go (.one (.loop [(1, .one (.ref 1001)), (4, nI), (5, nI)] [(1001, .boxst .Zone)] .go))) (.two .go (.two .go (.two .go (.two .go (.two (.two .go (.one (.loop [(6, .one (.own 1115)), (7, .one (.lst .Occurrence)), (8, nI), (9, nI)] [(1115, .arr .Transition)] (.two .go (.two (.join [(6, .one (.own 1115)), (7, .one (.lst .Occurrence)), (8, nI), (9, nI)] [(1115, .arr .Transition)] (.one (.two .go (.two .go (.two (.join [(6, .one (.own 1115)), (7, .one (.lst .Occurrence)), (9, nI), (10, .one (.ref 1010))] [(1010, .boxst .Transition), (1115, .arr .Transition)] .go) .go))))) .go))))) .go)))))))))) (fun a b => (a.1, a.2.1)) (fun _ _ => rfl) (envL_ok ⟨r04_in_ok fu, r04_right_ok fu, r04_occurrences_ok fu, trivial⟩) Tryz.func259 rfl rfl (fun x y => by kernel_rfl)
def r04_Check (fu : Nat) (p0 : D.Zone) : Option (Int) :=
 (optc (r04_Transitions fu p0) fun (a0, a1) =>
 (some a1))
def r04_Check_g (fu : Nat) : Sig := mkSig [.st .Zone] [] [nI] [] [] (Int) (fun q => ((q, ()), ())) (fun x y => r04_Check fu x.1)
theorem r04_Check_ok (fu : Nat) : FnOK Tryz.prog 227 (r04_Check_g fu) :=
 FnOK.intro (ty := ty) (E := envL [(259, 0, r04_Transitions_g fu)]) (fu := fu) (an := .go) (fun a b => a.1) (fun _ _ => rfl) (envL_ok ⟨r04_Transitions_ok fu, trivial⟩) Tryz.func227 rfl rfl (fun x y => by kernel_rfl)
def r08_minutes (fu : Nat) (p0 : D.Zone) : Option (Bool) :=
 (nzc 60 (iterF (X := ((Bool × (Int × Unit)) × (D.Zone × Unit))) (fun L0 ((a1, (a2, _)), (a3, _)) =>
 (cnd (decide (a2 < (((List.length (D.Zone.Rules a3)) : Nat) : Int)))
 (join (Y := ((Bool × (Int × Unit)) × (D.Zone × Unit))) (fun ((a4, (a5, _)), (a6, _)) =>
 (L0 ((a4, ((IntKind.wrap .i64 (a5 + 1)), ())), (a6, ())))) fun J7 =>
 (cnd a1
 (atc (D.Zone.Rules a3) a2 fun a8 =>
 (nzc 60 (cnd (decide ((Int.tmod (D.YearRule.Offset a8) 60) = 0))
 (J7 ((true, (a2, ())), (a3, ())))
 (J7 ((false, (a2, ())), (a3, ()))))))
 (J7 ((false, (a2, ())), (a3, ())))))
 (some a1))) fu (((decide ((Int.tmod (D.Zone.Offset p0) 60) = 0)), (0, ())), (p0, ()))))
def r08_minutes_g (fu : Nat) : Sig := mkSig [.st .Zone] [] [.one (.boo)] [] [] (Bool) (fun q => ((q, ()), ())) (fun x y => r08_minutes fu x.1)
theorem r08_minutes_ok (fu : Nat) : FnOK Tryz.prog 228 (r08_minutes_g fu) :=
 FnOK.intro (ty := ty) (E := envL []) (fu := fu) (an := .two .go (.two .go (.two (.two .go (.one (.loop [(1, .one (.ref 1001)), (3, .one (.boo)), (4, nI)] [(1001, .boxst .Zone)] (.two .go (.two (.join [(1, .one (.ref 1001)), (3, .one (.boo)), (4, nI)] [(1001, .boxst .Zone)] .go) .go))))) .go))) (fun a b => a.1) (fun _ _ => rfl) (envL_ok (l := []) trivial) Tryz.func228 rfl rfl (fun x y => by kernel_rfl)
def r08_name_0 (fu : Nat) (p0 : List (ByteArray)) (p1 : Int) : Option (Int) :=
 (natc p1 fun a0 =>
 (ltc a0 (List.length p0) (optc (GetElem?.getElem? p0 a0) fun a1 =>
 (optc (r06_Name fu a1) fun a2 =>
 (cnd (!a2)
 (sameC p0 p0 (some 2))
 (iterF (X := ((Int × (Int × Unit)) × (List ByteArray × Unit))) (fun L3 ((a4, (a5, _)), (a6, _)) =>
 (cnd (decide (a5 < a4))
 (natc a5 fun a7 =>
 (ltc a7 (List.length a6) (optc (GetElem?.getElem? a6 a7) fun a8 =>
 (natc a4 fun a9 =>
 (ltc a9 (List.length a6) (optc (GetElem?.getElem? a6 a9) fun a10 =>
 (cnd (decide (a8 = a10))
 (sameC a6 p0 (some 4))
 (L3 ((a4, ((IntKind.wrap .i64 (a5 + 1)), ())), (a6, ()))))))))))
 (sameC a6 p0 (some 0)))) fu ((p1, (0, ())), (p0, ()))))))))
def r08_name_0_g (fu : Nat) : Sig := mkSig [.one (.own 101), nI] [(101, .arr .str)] [nI] [] [101] (Int) (fun q => ((q, ()), ())) (fun x y => r08_name_0 fu y.1 x.1)
theorem r08_name_0_ok (fu : Nat) : FnOK Tryz.prog 226 (r08_name_0_g fu) :=
 FnOK.intro (ty := ty) (E := envL [(237, 0, r06_Name_g fu)]) (fu := fu) (an := .two .go (.two .go (.two (.two .go (.one (.loop [(0, .one (.own 101)), (1, nI), (5, nI)] [(101, .arr .str)] .go))) .go))) (fun a b => a.1) (fun _ _ => rfl) (envL_ok ⟨r06_Name_ok fu, trivial⟩) Tryz.func226 rfl rfl (fun x y => by kernel_rfl)
def r08_zones (fu : Nat) (p0 : D.Config) : Option (Int) :=
 (iterF (X := ((Int × Unit) × (D.Config × (List ByteArray × Unit)))) (fun L0 ((a1, _), (a2, (a3, _))) =>
 (cnd (decide (a1 < (((List.length (D.Config.Zones a2)) : Nat) : Int)))
 (join (Y := ((Int × Unit) × (D.Config × (List ByteArray × Unit)))) (fun ((a4, _), (a5, (a6, _))) =>
 (L0 (((IntKind.wrap .i64 (a4 + 1)), ()), (a5, (a6, ()))))) fun J7 =>
 (atc (D.Config.Zones a2) a1 fun a8 =>
 (lec ((List.length a3) + (List.length ((D.Zone.Name a8) :: []))) 34359738368 (optc (r08_name_0 fu (a3 ++ ((D.Zone.Name a8) :: [])) a1) fun a9 =>
 (cnd (decide (a9 ≠ 0))
 (some a9)
 (atc (D.Config.Zones a2) a1 fun a10 =>
 (optc (r04_Check fu a10) fun a11 =>
 (cnd (decide (a11 ≠ 0))
 (some 8)
 (atc (D.Config.Zones a2) a1 fun a12 =>
 (optc (r08_minutes fu a12) fun a13 =>
 (cnd a13
 (J7 ((a1, ()), (a2, ((a3 ++ ((D.Zone.Name a8) :: [])), ()))))
 (some 8))))))))))))
 (some 0))) fu ((0, ()), (p0, ([], ()))))
def r08_zones_g (fu : Nat) : Sig := mkSig [.st .Config] [] [nI] [] [] (Int) (fun q => ((q, ()), ())) (fun x y => r08_zones fu x.1)
theorem r08_zones_ok (fu : Nat) : FnOK Tryz.prog 185 (r08_zones_g fu) :=
 FnOK.intro (ty := ty) (E := envL [(226, 0, r08_name_0_g fu), (227, 0, r04_Check_g fu), (228, 0, r08_minutes_g fu)]) (fu := fu) (an := .two .go (.two .go (.two (.two .go (.one (.loop [(1, .one (.ref 1001)), (3, .one (.own 1021)), (4, nI)] [(1001, .boxst .Config), (1021, .arr .str)] (.two .go (.two (.join [(1, .one (.ref 1001)), (3, .one (.own 1021)), (4, nI)] [(1001, .boxst .Config), (1021, .arr .str)] .go) .go))))) .go))) (fun a b => a.1) (fun _ _ => rfl) (envL_ok ⟨r08_name_0_ok fu, r04_Check_ok fu, r08_minutes_ok fu, trivial⟩) Tryz.func185 rfl rfl (fun x y => by kernel_rfl)
def r05_Check (fu : Nat) (p0 : List D.Window) : Option (Int) :=
 (cnd (decide (14 < (((List.length p0) : Nat) : Int)))
 (some 5)
 (iterF (X := ((List D.Window × (Int × Unit)) × Unit)) (fun L0 ((a1, (a2, _)), _) =>
 (cnd (decide (a2 < (((List.length a1) : Nat) : Int)))
 (join (Y := ((List D.Window × (Int × Unit)) × Unit)) (fun ((a3, (a4, _)), _) =>
 (L0 ((a3, ((IntKind.wrap .i64 (a4 + 1)), ())), ()))) fun J5 =>
 (join (Y := ((List D.Window × (Int × Unit)) × Unit)) (fun ((a6, (a7, _)), _) =>
 (cnd (decide (0 < a7))
 (atc a6 a7 fun a8 =>
 (atc a6 (IntKind.wrap .i64 (a7 - 1)) fun a9 =>
 (cnd (decide ((D.Window.From a8) < (D.Window.To a9)))
 (some 6)
 (J5 ((a6, (a7, ())), ())))))
 (J5 ((a6, (a7, ())), ())))) fun J10 =>
 (atc a1 a2 fun a11 =>
 (cnd (decide ((D.Window.From a11) < 0))
 (some 1)
 (atc a1 a2 fun a12 =>
 (atc a1 a2 fun a13 =>
 (cnd (decide ((D.Window.To a13) ≤ (D.Window.From a12)))
 (some 1)
 (atc a1 a2 fun a14 =>
 (cnd (decide (604800 < (D.Window.To a14)))
 (some 1)
 (J10 ((a1, (a2, ())), ())))))))))))
 (some 0))) fu ((p0, (0, ())), ())))
def r05_Check_g (fu : Nat) : Sig := mkSig [.one (.lst .Window)] [] [nI] [] [] (Int) (fun q => ((q, ()), ())) (fun x y => r05_Check fu x.1)
theorem r05_Check_ok (fu : Nat) : FnOK Tryz.prog 144 (r05_Check_g fu) :=
 FnOK.intro (ty := ty) (E := envL []) (fu := fu) (an := .two .go (.two .go (.two (.two .go (.one (.loop [(0, .one (.lst .Window)), (3, nI)] [] (.two .go (.two (.join [(0, .one (.lst .Window)), (3, nI)] [] (.one (.two (.join [(0, .one (.lst .Window)), (3, nI)] [] .go) .go))) .go))))) .go))) (fun a b => a.1) (fun _ _ => rfl) (envL_ok (l := []) trivial) Tryz.func144 rfl rfl (fun x y => by kernel_rfl)
def r08_in (fu : Nat) (p0 : Int) (p1 : Int) (p2 : Int) : Option (Bool) :=
 (cnd (decide (p1 ≤ p0))
 (cnd (decide (p0 ≤ p2))
 (some true)
 (some false))
 (some false))
def r08_in_g (fu : Nat) : Sig := mkSig [nI, nI, nI] [] [.one (.boo)] [] [] (Bool) (fun q => ((q, ()), ())) (fun x y => r08_in fu x.1 x.2.1 x.2.2.1)
theorem r08_in_ok (fu : Nat) : FnOK Tryz.prog 229 (r08_in_g fu) :=
 FnOK.intro (ty := ty) (E := envL []) (fu := fu) (an := .go) (fun a b => a.1) (fun _ _ => rfl) (envL_ok (l := []) trivial) Tryz.func229 rfl rfl (fun x y => by kernel_rfl)
def r08_hours (fu : Nat) (p0 : Int) : Option (Bool) :=
 (optc (r08_in fu p0 0 604800) fun a0 =>
 (cnd a0
 (nzc 3600 (cnd (decide ((Int.tmod p0 3600) = 0))
 (some true)
 (some false)))
 (some false)))
def r08_hours_g (fu : Nat) : Sig := mkSig [nI] [] [.one (.boo)] [] [] (Bool) (fun q => ((q, ()), ())) (fun x y => r08_hours fu x.1)
theorem r08_hours_ok (fu : Nat) : FnOK Tryz.prog 230 (r08_hours_g fu) :=
 FnOK.intro (ty := ty) (E := envL [(229, 0, r08_in_g fu)]) (fu := fu) (an := .go) (fun a b => a.1) (fun _ _ => rfl) (envL_ok ⟨r08_in_ok fu, trivial⟩) Tryz.func230 rfl rfl (fun x y => by kernel_rfl)
def r08_people (fu : Nat) (p0 : D.Config) : Option (Int) :=
 (iterF (X := ((Int × Unit) × (D.Config × (List ByteArray × Unit)))) (fun L0 ((a1, _), (a2, (a3, _))) =>
 (cnd (decide (a1 < (((List.length (D.Config.People a2)) : Nat) : Int)))
 (join (Y := ((Int × Unit) × (D.Config × (List ByteArray × Unit)))) (fun ((a4, _), (a5, (a6, _))) =>
 (L0 (((IntKind.wrap .i64 (a4 + 1)), ()), (a5, (a6, ()))))) fun J7 =>
 (atc (D.Config.People a2) a1 fun a8 =>
 (lec ((List.length a3) + (List.length ((D.Person.Name a8) :: []))) 34359738368 (cnd (decide ((D.Person.Name a8) = (ByteArray.mk (List.toArray (110 :: (111 :: (98 :: (111 :: (100 :: (121 :: []))))))))))
 (some 2)
 (optc (r08_name_0 fu (a3 ++ ((D.Person.Name a8) :: [])) a1) fun a9 =>
 (cnd (decide (a9 ≠ 0))
 (some a9)
 (optc (r08_in fu (D.Person.Zone a8) 0 (IntKind.wrap .i64 ((((List.length (D.Config.Zones a2)) : Nat) : Int) - 1))) fun a10 =>
 (cnd (!a10)
 (some 3)
 (optc (r05_Check fu (D.Person.Quiet a8)) fun a11 =>
 (cnd (decide (a11 ≠ 0))
 (some 8)
 (optc (r08_hours fu (D.Person.MaxWeek a8)) fun a12 =>
 (cnd a12
 (optc (r08_hours fu (D.Person.MinRest a8)) fun a13 =>
 (cnd a13
 (J7 ((a1, ()), (a2, ((a3 ++ ((D.Person.Name a8) :: [])), ()))))
 (some 1)))
 (some 1)))))))))))))
 (some 0))) fu ((0, ()), (p0, ([], ()))))
def r08_people_g (fu : Nat) : Sig := mkSig [.st .Config] [] [nI] [] [] (Int) (fun q => ((q, ()), ())) (fun x y => r08_people fu x.1)
theorem r08_people_ok (fu : Nat) : FnOK Tryz.prog 186 (r08_people_g fu) :=
 FnOK.intro (ty := ty) (E := envL [(144, 0, r05_Check_g fu), (226, 0, r08_name_0_g fu), (229, 0, r08_in_g fu), (230, 0, r08_hours_g fu)]) (fu := fu) (an := .two .go (.two .go (.two (.two .go (.one (.loop [(1, .one (.ref 1001)), (3, .one (.own 1023)), (4, nI)] [(1001, .boxst .Config), (1023, .arr .str)] (.two .go (.two (.join [(1, .one (.ref 1001)), (3, .one (.own 1023)), (4, nI)] [(1001, .boxst .Config), (1023, .arr .str)] .go) .go))))) .go))) (fun a b => a.1) (fun _ _ => rfl) (envL_ok ⟨r05_Check_ok fu, r08_name_0_ok fu, r08_in_ok fu, r08_hours_ok fu, trivial⟩) Tryz.func186 rfl rfl (fun x y => by kernel_rfl)
def r01_MaxDay (fu : Nat) : Option (Int) :=
 (optc (r01_year fu 2241) fun a0 =>
 (some (IntKind.wrap .i64 (a0 - 1))))
def r01_MaxDay_g (fu : Nat) : Sig := mkSig [] [] [nI] [] [] (Int) (fun q => ((q, ()), ())) (fun x y => r01_MaxDay fu)
theorem r01_MaxDay_ok (fu : Nat) : FnOK Tryz.prog 231 (r01_MaxDay_g fu) :=
 FnOK.intro (ty := ty) (E := envL [(260, 0, r01_year_g fu)]) (fu := fu) (an := .go) (fun a b => a.1) (fun _ _ => rfl) (envL_ok ⟨r01_year_ok fu, trivial⟩) Tryz.func231 rfl rfl (fun x y => by kernel_rfl)
def r08_calendars (fu : Nat) (p0 : D.Config) : Option (Int) :=
 (iterF (X := ((Int × Unit) × (D.Config × (List ByteArray × Unit)))) (fun L0 ((a1, _), (a2, (a3, _))) =>
 (cnd (decide (a1 < (((List.length (D.Config.Calendars a2)) : Nat) : Int)))
 (atc (D.Config.Calendars a2) a1 fun a4 =>
 (lec ((List.length a3) + (List.length ((D.Calendar.Name a4) :: []))) 34359738368 (optc (r08_name_0 fu (a3 ++ ((D.Calendar.Name a4) :: [])) a1) fun a5 =>
 (cnd (decide (a5 ≠ 0))
 (some a5)
 (optc (r08_in fu (D.Calendar.Zone a4) 0 (IntKind.wrap .i64 ((((List.length (D.Config.Zones a2)) : Nat) : Int) - 1))) fun a6 =>
 (cnd (!a6)
 (some 3)
 (cnd (decide (64 < (((List.length (D.Calendar.Days a4)) : Nat) : Int)))
 (some 5)
 (iterF (X := ((Int × (Int × Unit)) × (D.Config × (D.Calendar × (List ByteArray × Unit))))) (fun L7 ((a8, (a9, _)), (a10, (a11, (a12, _)))) =>
 (cnd (decide (a9 < (((List.length (D.Calendar.Days a11)) : Nat) : Int)))
 (atc (D.Calendar.Days a11) a9 fun a13 =>
 (optc (r01_MaxDay fu) fun a14 =>
 (optc (r08_in fu a13 0 a14) fun a15 =>
 (cnd (!a15)
 (some 1)
 (L7 ((a8, ((IntKind.wrap .i64 (a9 + 1)), ())), (a10, (a11, (a12, ())))))))))
 (iterF (X := ((Int × (Int × Unit)) × (D.Config × (D.Calendar × (List ByteArray × Unit))))) (fun L16 ((a17, (a18, _)), (a19, (a20, (a21, _)))) =>
 (cnd (decide (a18 < (((List.length (D.Calendar.Days a20)) : Nat) : Int)))
 (atc (D.Calendar.Days a20) a18 fun a22 =>
 (atc (D.Calendar.Days a20) (IntKind.wrap .i64 (a18 - 1)) fun a23 =>
 (cnd (decide (a22 ≤ a23))
 (some 6)
 (L16 ((a17, ((IntKind.wrap .i64 (a18 + 1)), ())), (a19, (a20, (a21, ()))))))))
 (L0 (((IntKind.wrap .i64 (a17 + 1)), ()), (a19, (a21, ())))))) fu ((a8, (1, ())), (a10, (a11, (a12, ()))))))) fu ((a1, (0, ())), (a2, (a4, ((a3 ++ ((D.Calendar.Name a4) :: [])), ()))))))))))))
 (some 0))) fu ((0, ()), (p0, ([], ()))))
def r08_calendars_g (fu : Nat) : Sig := mkSig [.st .Config] [] [nI] [] [] (Int) (fun q => ((q, ()), ())) (fun x y => r08_calendars fu x.1)
theorem r08_calendars_ok (fu : Nat) : FnOK Tryz.prog 187 (r08_calendars_g fu) :=
 FnOK.intro (ty := ty) (E := envL [(226, 0, r08_name_0_g fu), (229, 0, r08_in_g fu), (231, 0, r01_MaxDay_g fu)]) (fu := fu) (an := .two .go (.two .go (.two (.two .go (.one (.loop [(1, .one (.ref 1001)), (3, .one (.own 1025)), (4, nI)] [(1001, .boxst .Config), (1025, .arr .str)] (.two .go (.two (.one (.two .go (.two .go (.two .go (.two .go (.two .go (.two (.two .go (.one (.loop [(1, .one (.ref 1001)), (3, .one (.own 1025)), (4, nI), (5, .one (.ref 1005)), (7, nI)] [(1001, .boxst .Config), (1005, .boxst .Calendar), (1025, .arr .str)] .go))) (.two .go (.one (.loop [(1, .one (.ref 1001)), (3, .one (.own 1025)), (4, nI), (5, .one (.ref 1005)), (8, nI)] [(1001, .boxst .Config), (1005, .boxst .Calendar), (1025, .arr .str)] .go)))))))))) .go))))) .go))) (fun a b => a.1) (fun _ _ => rfl) (envL_ok ⟨r08_name_0_ok fu, r08_in_ok fu, r01_MaxDay_ok fu, trivial⟩) Tryz.func187 rfl rfl (fun x y => by kernel_rfl)
def r08_layer (fu : Nat) (p0 : D.Config) (p1 : D.Layer) : Option (Int) :=
 (join (Y := (Unit × (D.Config × (D.Layer × Unit)))) (fun (_, (a0, (a1, _))) =>
 (iterF (X := ((Int × Unit) × (D.Config × (D.Layer × Unit)))) (fun L2 ((a3, _), (a4, (a5, _))) =>
 (cnd (decide (a3 < (((List.length (D.Layer.Members a5)) : Nat) : Int)))
 (atc (D.Layer.Members a5) a3 fun a6 =>
 (optc (r08_in fu a6 0 (IntKind.wrap .i64 ((((List.length (D.Config.People a4)) : Nat) : Int) - 1))) fun a7 =>
 (cnd (!a7)
 (some 3)
 (L2 (((IntKind.wrap .i64 (a3 + 1)), ()), (a4, (a5, ())))))))
 (join (Y := (Unit × Unit)) (fun (_, _) =>
 (some 0)) fun J8 =>
 (optc (r05_Check fu (D.Layer.Windows a5)) fun a9 =>
 (cnd (decide (a9 ≠ 0))
 (some 8)
 (optc (r08_in fu (D.Layer.Mode a5) 0 2) fun a10 =>
 (cnd (!a10)
 (some 1)
 (cnd (decide ((D.Layer.Mode a5) ≠ 0))
 (optc (r08_in fu (D.Layer.Calendar a5) 0 (IntKind.wrap .i64 ((((List.length (D.Config.Calendars a4)) : Nat) : Int) - 1))) fun a11 =>
 (cnd a11
 (cnd (decide ((D.Layer.Mode a5) = 0))
 (cnd (decide ((D.Layer.Calendar a5) ≠ 0))
 (some 1)
 (J8 ((), ())))
 (J8 ((), ())))
 (some 3)))
 (cnd (decide ((D.Layer.Mode a5) = 0))
 (cnd (decide ((D.Layer.Calendar a5) ≠ 0))
 (some 1)
 (J8 ((), ())))
 (J8 ((), ()))))))))))) fu ((0, ()), (a0, (a1, ()))))) fun J12 =>
 (optc (r08_in fu (D.Layer.Zone p1) 0 (IntKind.wrap .i64 ((((List.length (D.Config.Zones p0)) : Nat) : Int) - 1))) fun a13 =>
 (cnd (!a13)
 (some 3)
 (optc (r01_MaxDay fu) fun a14 =>
 (optc (r08_in fu (D.Local.Day (D.Layer.Start p1)) 1 a14) fun a15 =>
 (cnd a15
 (optc (r08_in fu (D.Local.Second (D.Layer.Start p1)) 0 86399) fun a16 =>
 (cnd a16
 (optc (r08_in fu (D.Layer.Unit p1) 0 2) fun a17 =>
 (cnd a17
 (optc (r08_in fu (D.Layer.Every p1) 1 400) fun a18 =>
 (cnd a18
 (cnd (decide ((((List.length (D.Layer.Members p1)) : Nat) : Int) = 0))
 (some 7)
 (cnd (decide (12 < (((List.length (D.Layer.Members p1)) : Nat) : Int)))
 (some 5)
 (J12 ((), (p0, (p1, ()))))))
 (some 1)))
 (some 1)))
 (some 1)))
 (some 1)))))))
def r08_layer_g (fu : Nat) : Sig := mkSig [.st .Config, .st .Layer] [] [nI] [] [] (Int) (fun q => ((q, ()), ())) (fun x y => r08_layer fu x.1 x.2.1)
theorem r08_layer_ok (fu : Nat) : FnOK Tryz.prog 232 (r08_layer_g fu) :=
 FnOK.intro (ty := ty) (E := envL [(144, 0, r05_Check_g fu), (229, 0, r08_in_g fu), (231, 0, r01_MaxDay_g fu)]) (fu := fu) (an := .two .go (.two (.join [(2, .one (.ref 1002)), (3, .one (.ref 1003))] [(1002, .boxst .Config), (1003, .boxst .Layer)] .go) (.two (.two .go (.one (.loop [(2, .one (.ref 1002)), (3, .one (.ref 1003)), (5, nI)] [(1002, .boxst .Config), (1003, .boxst .Layer)] .go))) (.two (.join [] [] .go) .go)))) (fun a b => a.1) (fun _ _ => rfl) (envL_ok ⟨r05_Check_ok fu, r08_in_ok fu, r01_MaxDay_ok fu, trivial⟩) Tryz.func232 rfl rfl (fun x y => by kernel_rfl)
def r08_edit (fu : Nat) (p0 : D.Config) (p1 : D.Edit) : Option (Int) :=
 (join (Y := (Unit × Unit)) (fun (_, _) =>
 (some 0)) fun J0 =>
 (optc (r08_in fu (D.Edit.Kind p1) 0 2) fun a1 =>
 (cnd (!a1)
 (some 1)
 (optc (r08_in fu (D.Edit.A p1) 0 (IntKind.wrap .i64 ((((List.length (D.Config.People p0)) : Nat) : Int) - 1))) fun a2 =>
 (cnd a2
 (cnd (decide ((D.Edit.Kind p1) = 2))
 (optc (r08_in fu (D.Edit.B p1) 0 (IntKind.wrap .i64 ((((List.length (D.Config.People p0)) : Nat) : Int) - 1))) fun a3 =>
 (cnd a3
 (cnd (decide ((D.Edit.Kind p1) ≠ 2))
 (cnd (decide ((D.Edit.B p1) ≠ 0))
 (some 1)
 (cnd (decide ((D.Edit.Kind p1) = 2))
 (cnd (decide ((D.Edit.A p1) = (D.Edit.B p1)))
 (some 4)
 (cnd (decide ((D.Edit.From p1) < 0))
 (some 1)
 (cnd (decide ((D.Edit.To p1) < 0))
 (some 1)
 (nzc 86400 (optc (r01_MaxDay fu) fun a4 =>
 (cnd (decide (a4 < (IntKind.wrap .i64 (Int.tdiv (D.Edit.To p1) 86400))))
 (some 1)
 (cnd (decide ((D.Edit.To p1) ≤ (D.Edit.From p1)))
 (some 6)
 (J0 ((), ())))))))))
 (cnd (decide ((D.Edit.From p1) < 0))
 (some 1)
 (cnd (decide ((D.Edit.To p1) < 0))
 (some 1)
 (nzc 86400 (optc (r01_MaxDay fu) fun a5 =>
 (cnd (decide (a5 < (IntKind.wrap .i64 (Int.tdiv (D.Edit.To p1) 86400))))
 (some 1)
 (cnd (decide ((D.Edit.To p1) ≤ (D.Edit.From p1)))
 (some 6)
 (J0 ((), ()))))))))))
 (cnd (decide ((D.Edit.Kind p1) = 2))
 (cnd (decide ((D.Edit.A p1) = (D.Edit.B p1)))
 (some 4)
 (cnd (decide ((D.Edit.From p1) < 0))
 (some 1)
 (cnd (decide ((D.Edit.To p1) < 0))
 (some 1)
 (nzc 86400 (optc (r01_MaxDay fu) fun a6 =>
 (cnd (decide (a6 < (IntKind.wrap .i64 (Int.tdiv (D.Edit.To p1) 86400))))
 (some 1)
 (cnd (decide ((D.Edit.To p1) ≤ (D.Edit.From p1)))
 (some 6)
 (J0 ((), ())))))))))
 (cnd (decide ((D.Edit.From p1) < 0))
 (some 1)
 (cnd (decide ((D.Edit.To p1) < 0))
 (some 1)
 (nzc 86400 (optc (r01_MaxDay fu) fun a7 =>
 (cnd (decide (a7 < (IntKind.wrap .i64 (Int.tdiv (D.Edit.To p1) 86400))))
 (some 1)
 (cnd (decide ((D.Edit.To p1) ≤ (D.Edit.From p1)))
 (some 6)
 (J0 ((), ()))))))))))
 (some 3)))
 (cnd (decide ((D.Edit.Kind p1) ≠ 2))
 (cnd (decide ((D.Edit.B p1) ≠ 0))
 (some 1)
 (cnd (decide ((D.Edit.Kind p1) = 2))
 (cnd (decide ((D.Edit.A p1) = (D.Edit.B p1)))
 (some 4)
 (cnd (decide ((D.Edit.From p1) < 0))
 (some 1)
 (cnd (decide ((D.Edit.To p1) < 0))
 (some 1)
 (nzc 86400 (optc (r01_MaxDay fu) fun a8 =>
 (cnd (decide (a8 < (IntKind.wrap .i64 (Int.tdiv (D.Edit.To p1) 86400))))
 (some 1)
 (cnd (decide ((D.Edit.To p1) ≤ (D.Edit.From p1)))
 (some 6)
 (J0 ((), ())))))))))
 (cnd (decide ((D.Edit.From p1) < 0))
 (some 1)
 (cnd (decide ((D.Edit.To p1) < 0))
 (some 1)
 (nzc 86400 (optc (r01_MaxDay fu) fun a9 =>
 (cnd (decide (a9 < (IntKind.wrap .i64 (Int.tdiv (D.Edit.To p1) 86400))))
 (some 1)
 (cnd (decide ((D.Edit.To p1) ≤ (D.Edit.From p1)))
 (some 6)
 (J0 ((), ()))))))))))
 (cnd (decide ((D.Edit.Kind p1) = 2))
 (cnd (decide ((D.Edit.A p1) = (D.Edit.B p1)))
 (some 4)
 (cnd (decide ((D.Edit.From p1) < 0))
 (some 1)
 (cnd (decide ((D.Edit.To p1) < 0))
 (some 1)
 (nzc 86400 (optc (r01_MaxDay fu) fun a10 =>
 (cnd (decide (a10 < (IntKind.wrap .i64 (Int.tdiv (D.Edit.To p1) 86400))))
 (some 1)
 (cnd (decide ((D.Edit.To p1) ≤ (D.Edit.From p1)))
 (some 6)
 (J0 ((), ())))))))))
 (cnd (decide ((D.Edit.From p1) < 0))
 (some 1)
 (cnd (decide ((D.Edit.To p1) < 0))
 (some 1)
 (nzc 86400 (optc (r01_MaxDay fu) fun a11 =>
 (cnd (decide (a11 < (IntKind.wrap .i64 (Int.tdiv (D.Edit.To p1) 86400))))
 (some 1)
 (cnd (decide ((D.Edit.To p1) ≤ (D.Edit.From p1)))
 (some 6)
 (J0 ((), ())))))))))))
 (cnd (decide ((D.Edit.Kind p1) ≠ 1))
 (some 3)
 (cnd (decide ((D.Edit.A p1) ≠ (-1)))
 (some 3)
 (cnd (decide ((D.Edit.Kind p1) = 2))
 (optc (r08_in fu (D.Edit.B p1) 0 (IntKind.wrap .i64 ((((List.length (D.Config.People p0)) : Nat) : Int) - 1))) fun a12 =>
 (cnd a12
 (cnd (decide ((D.Edit.Kind p1) ≠ 2))
 (cnd (decide ((D.Edit.B p1) ≠ 0))
 (some 1)
 (cnd (decide ((D.Edit.Kind p1) = 2))
 (cnd (decide ((D.Edit.A p1) = (D.Edit.B p1)))
 (some 4)
 (cnd (decide ((D.Edit.From p1) < 0))
 (some 1)
 (cnd (decide ((D.Edit.To p1) < 0))
 (some 1)
 (nzc 86400 (optc (r01_MaxDay fu) fun a13 =>
 (cnd (decide (a13 < (IntKind.wrap .i64 (Int.tdiv (D.Edit.To p1) 86400))))
 (some 1)
 (cnd (decide ((D.Edit.To p1) ≤ (D.Edit.From p1)))
 (some 6)
 (J0 ((), ())))))))))
 (cnd (decide ((D.Edit.From p1) < 0))
 (some 1)
 (cnd (decide ((D.Edit.To p1) < 0))
 (some 1)
 (nzc 86400 (optc (r01_MaxDay fu) fun a14 =>
 (cnd (decide (a14 < (IntKind.wrap .i64 (Int.tdiv (D.Edit.To p1) 86400))))
 (some 1)
 (cnd (decide ((D.Edit.To p1) ≤ (D.Edit.From p1)))
 (some 6)
 (J0 ((), ()))))))))))
 (cnd (decide ((D.Edit.Kind p1) = 2))
 (cnd (decide ((D.Edit.A p1) = (D.Edit.B p1)))
 (some 4)
 (cnd (decide ((D.Edit.From p1) < 0))
 (some 1)
 (cnd (decide ((D.Edit.To p1) < 0))
 (some 1)
 (nzc 86400 (optc (r01_MaxDay fu) fun a15 =>
 (cnd (decide (a15 < (IntKind.wrap .i64 (Int.tdiv (D.Edit.To p1) 86400))))
 (some 1)
 (cnd (decide ((D.Edit.To p1) ≤ (D.Edit.From p1)))
 (some 6)
 (J0 ((), ())))))))))
 (cnd (decide ((D.Edit.From p1) < 0))
 (some 1)
 (cnd (decide ((D.Edit.To p1) < 0))
 (some 1)
 (nzc 86400 (optc (r01_MaxDay fu) fun a16 =>
 (cnd (decide (a16 < (IntKind.wrap .i64 (Int.tdiv (D.Edit.To p1) 86400))))
 (some 1)
 (cnd (decide ((D.Edit.To p1) ≤ (D.Edit.From p1)))
 (some 6)
 (J0 ((), ()))))))))))
 (some 3)))
 (cnd (decide ((D.Edit.Kind p1) ≠ 2))
 (cnd (decide ((D.Edit.B p1) ≠ 0))
 (some 1)
 (cnd (decide ((D.Edit.Kind p1) = 2))
 (cnd (decide ((D.Edit.A p1) = (D.Edit.B p1)))
 (some 4)
 (cnd (decide ((D.Edit.From p1) < 0))
 (some 1)
 (cnd (decide ((D.Edit.To p1) < 0))
 (some 1)
 (nzc 86400 (optc (r01_MaxDay fu) fun a17 =>
 (cnd (decide (a17 < (IntKind.wrap .i64 (Int.tdiv (D.Edit.To p1) 86400))))
 (some 1)
 (cnd (decide ((D.Edit.To p1) ≤ (D.Edit.From p1)))
 (some 6)
 (J0 ((), ())))))))))
 (cnd (decide ((D.Edit.From p1) < 0))
 (some 1)
 (cnd (decide ((D.Edit.To p1) < 0))
 (some 1)
 (nzc 86400 (optc (r01_MaxDay fu) fun a18 =>
 (cnd (decide (a18 < (IntKind.wrap .i64 (Int.tdiv (D.Edit.To p1) 86400))))
 (some 1)
 (cnd (decide ((D.Edit.To p1) ≤ (D.Edit.From p1)))
 (some 6)
 (J0 ((), ()))))))))))
 (cnd (decide ((D.Edit.Kind p1) = 2))
 (cnd (decide ((D.Edit.A p1) = (D.Edit.B p1)))
 (some 4)
 (cnd (decide ((D.Edit.From p1) < 0))
 (some 1)
 (cnd (decide ((D.Edit.To p1) < 0))
 (some 1)
 (nzc 86400 (optc (r01_MaxDay fu) fun a19 =>
 (cnd (decide (a19 < (IntKind.wrap .i64 (Int.tdiv (D.Edit.To p1) 86400))))
 (some 1)
 (cnd (decide ((D.Edit.To p1) ≤ (D.Edit.From p1)))
 (some 6)
 (J0 ((), ())))))))))
 (cnd (decide ((D.Edit.From p1) < 0))
 (some 1)
 (cnd (decide ((D.Edit.To p1) < 0))
 (some 1)
 (nzc 86400 (optc (r01_MaxDay fu) fun a20 =>
 (cnd (decide (a20 < (IntKind.wrap .i64 (Int.tdiv (D.Edit.To p1) 86400))))
 (some 1)
 (cnd (decide ((D.Edit.To p1) ≤ (D.Edit.From p1)))
 (some 6)
 (J0 ((), ()))))))))))))))))))
def r08_edit_g (fu : Nat) : Sig := mkSig [.st .Config, .st .Edit] [] [nI] [] [] (Int) (fun q => ((q, ()), ())) (fun x y => r08_edit fu x.1 x.2.1)
theorem r08_edit_ok (fu : Nat) : FnOK Tryz.prog 233 (r08_edit_g fu) :=
 FnOK.intro (ty := ty) (E := envL [(229, 0, r08_in_g fu), (231, 0, r01_MaxDay_g fu)]) (fu := fu) (an := .two .go (.two .go (.two (.join [] [] .go) .go))) (fun a b => a.1) (fun _ _ => rfl) (envL_ok ⟨r08_in_ok fu, r01_MaxDay_ok fu, trivial⟩) Tryz.func233 rfl rfl (fun x y => by kernel_rfl)
def r08_schedules (fu : Nat) (p0 : D.Config) : Option (Int) :=
 (iterF (X := ((Int × Unit) × (D.Config × (List ByteArray × Unit)))) (fun L0 ((a1, _), (a2, (a3, _))) =>
 (cnd (decide (a1 < (((List.length (D.Config.Schedules a2)) : Nat) : Int)))
 (atc (D.Config.Schedules a2) a1 fun a4 =>
 (lec ((List.length a3) + (List.length ((D.Schedule.Name a4) :: []))) 34359738368 (optc (r08_name_0 fu (a3 ++ ((D.Schedule.Name a4) :: [])) a1) fun a5 =>
 (cnd (decide (a5 ≠ 0))
 (some a5)
 (join (Y := ((Int × Unit) × (D.Config × (D.Schedule × (List ByteArray × Unit))))) (fun ((a6, _), (a7, (a8, (a9, _)))) =>
 (iterF (X := ((Int × (Int × Unit)) × (D.Config × (D.Schedule × (List ByteArray × (List ByteArray × Unit)))))) (fun L10 ((a11, (a12, _)), (a13, (a14, (a15, (a16, _))))) =>
 (cnd (decide (a12 < (((List.length (D.Schedule.Layers a14)) : Nat) : Int)))
 (atc (D.Schedule.Layers a14) a12 fun a17 =>
 (lec ((List.length a16) + (List.length ((D.Layer.Name a17) :: []))) 34359738368 (optc (r08_name_0 fu (a16 ++ ((D.Layer.Name a17) :: [])) a12) fun a18 =>
 (cnd (decide (a18 ≠ 0))
 (some a18)
 (atc (D.Schedule.Layers a14) a12 fun a19 =>
 (optc (r08_layer fu a13 a19) fun a20 =>
 (cnd (decide (a20 ≠ 0))
 (some a20)
 (L10 ((a11, ((IntKind.wrap .i64 (a12 + 1)), ())), (a13, (a14, (a15, ((a16 ++ ((D.Layer.Name a17) :: [])), ())))))))))))))
 (iterF (X := ((Int × (Int × Unit)) × (D.Config × (D.Schedule × (List ByteArray × Unit))))) (fun L21 ((a22, (a23, _)), (a24, (a25, (a26, _)))) =>
 (cnd (decide (a23 < (((List.length (D.Schedule.Edits a25)) : Nat) : Int)))
 (atc (D.Schedule.Edits a25) a23 fun a27 =>
 (optc (r08_edit fu a24 a27) fun a28 =>
 (cnd (decide (a28 ≠ 0))
 (some a28)
 (L21 ((a22, ((IntKind.wrap .i64 (a23 + 1)), ())), (a24, (a25, (a26, ()))))))))
 (L0 (((IntKind.wrap .i64 (a22 + 1)), ()), (a24, (a26, ())))))) fu ((a11, (0, ())), (a13, (a14, (a15, ()))))))) fu ((a6, (0, ())), (a7, (a8, (a9, ([], ()))))))) fun J29 =>
 (cnd (decide (6 < (((List.length (D.Schedule.Layers a4)) : Nat) : Int)))
 (some 5)
 (cnd (decide (48 < (((List.length (D.Schedule.Edits a4)) : Nat) : Int)))
 (some 5)
 (J29 ((a1, ()), (a2, (a4, ((a3 ++ ((D.Schedule.Name a4) :: [])), ()))))))))))))
 (some 0))) fu ((0, ()), (p0, ([], ()))))
def r08_schedules_g (fu : Nat) : Sig := mkSig [.st .Config] [] [nI] [] [] (Int) (fun q => ((q, ()), ())) (fun x y => r08_schedules fu x.1)
theorem r08_schedules_ok (fu : Nat) : FnOK Tryz.prog 188 (r08_schedules_g fu) :=
 FnOK.intro (ty := ty) (E := envL [(226, 0, r08_name_0_g fu), (232, 0, r08_layer_g fu), (233, 0, r08_edit_g fu)]) (fu := fu) (an := .two .go (.two .go (.two (.two .go (.one (.loop [(1, .one (.ref 1001)), (3, .one (.own 1029)), (4, nI)] [(1001, .boxst .Config), (1029, .arr .str)] (.two .go (.two (.one (.two .go (.two .go (.two .go (.two (.join [(1, .one (.ref 1001)), (3, .one (.own 1029)), (4, nI), (5, .one (.ref 1005))] [(1001, .boxst .Config), (1005, .boxst .Schedule), (1029, .arr .str)] .go) (.two .go (.two (.two .go (.one (.loop [(1, .one (.ref 1001)), (3, .one (.own 1029)), (4, nI), (5, .one (.ref 1005)), (7, .one (.own 1061)), (8, nI)] [(1001, .boxst .Config), (1005, .boxst .Schedule), (1029, .arr .str), (1061, .arr .str)] .go))) (.two .go (.one (.loop [(1, .one (.ref 1001)), (3, .one (.own 1029)), (4, nI), (5, .one (.ref 1005)), (11, nI)] [(1001, .boxst .Config), (1005, .boxst .Schedule), (1029, .arr .str)] .go)))))))))) .go))))) .go))) (fun a b => a.1) (fun _ _ => rfl) (envL_ok ⟨r08_name_0_ok fu, r08_layer_ok fu, r08_edit_ok fu, trivial⟩) Tryz.func188 rfl rfl (fun x y => by kernel_rfl)
def r08_Check (fu : Nat) (p0 : D.Config) : Option (Int) :=
 (join (Y := (Unit × (D.Config × Unit))) (fun (_, (a0, _)) =>
 (optc (r08_zones fu a0) fun a1 =>
 (cnd (decide (a1 ≠ 0))
 (some a1)
 (optc (r08_people fu a0) fun a2 =>
 (cnd (decide (a2 ≠ 0))
 (some a2)
 (optc (r08_calendars fu a0) fun a3 =>
 (cnd (decide (a3 ≠ 0))
 (some a3)
 (optc (r08_schedules fu a0) fun a4 =>
 (some a4))))))))) fun J5 =>
 (cnd (decide (16 < (((List.length (D.Config.Zones p0)) : Nat) : Int)))
 (some 5)
 (cnd (decide (32 < (((List.length (D.Config.People p0)) : Nat) : Int)))
 (some 5)
 (cnd (decide (8 < (((List.length (D.Config.Calendars p0)) : Nat) : Int)))
 (some 5)
 (cnd (decide (12 < (((List.length (D.Config.Schedules p0)) : Nat) : Int)))
 (some 5)
 (J5 ((), (p0, ()))))))))
def r08_Check_g (fu : Nat) : Sig := mkSig [.st .Config] [] [nI] [] [] (Int) (fun q => ((q, ()), ())) (fun x y => r08_Check fu x.1)
theorem r08_Check_ok (fu : Nat) : FnOK Tryz.prog 141 (r08_Check_g fu) :=
 FnOK.intro (ty := ty) (E := envL [(185, 0, r08_zones_g fu), (186, 0, r08_people_g fu), (187, 0, r08_calendars_g fu), (188, 0, r08_schedules_g fu)]) (fu := fu) (an := .two .go (.two (.join [(1, .one (.ref 1001))] [(1001, .boxst .Config)] .go) .go)) (fun a b => a.1) (fun _ _ => rfl) (envL_ok ⟨r08_zones_ok fu, r08_people_ok fu, r08_calendars_ok fu, r08_schedules_ok fu, trivial⟩) Tryz.func141 rfl rfl (fun x y => by kernel_rfl)
def r12_Ok (fu : Nat) (p0 : D.Config) (p1 : Int) (p2 : Int) : Option (Bool) :=
 (cnd (decide (0 ≤ p1))
 (cnd (decide (p1 < (((List.length (D.Config.Schedules p0)) : Nat) : Int)))
 (cnd (decide (0 ≤ p2))
 (cnd (decide (p2 ≤ 8589934592))
 (optc (r08_Check fu p0) fun a0 =>
 (cnd (decide (a0 = 0))
 (some true)
 (some false)))
 (some false))
 (some false))
 (some false))
 (some false))
def r12_Ok_g (fu : Nat) : Sig := mkSig [.st .Config, nI, nI] [] [.one (.boo)] [] [] (Bool) (fun q => ((q, ()), ())) (fun x y => r12_Ok fu x.1 x.2.1 x.2.2.1)
theorem r12_Ok_ok (fu : Nat) : FnOK Tryz.prog 127 (r12_Ok_g fu) :=
 FnOK.intro (ty := ty) (E := envL [(141, 0, r08_Check_g fu)]) (fu := fu) (an := .go) (fun a b => a.1) (fun _ _ => rfl) (envL_ok ⟨r08_Check_ok fu, trivial⟩) Tryz.func127 rfl rfl (fun x y => by kernel_rfl)
def r04_offset (fu : Nat) (p0 : D.Zone) (p1 : List D.Transition) (p2 : Int) : Option (Int) :=
 (join (Y := ((Int × Unit) × Unit)) (fun ((a0, _), _) =>
 (some a0)) fun J1 =>
 (iterF (X := ((List D.Transition × P3) × Unit)) (fun L2 ((a3, (a4, (a5, (a6, _)))), _) =>
 (join (Y := ((List D.Transition × (Int × (Int × Unit))) × Unit)) (fun ((a7, (a8, (a9, _))), _) =>
 (atc a7 a9 fun a10 =>
 (L2 ((a7, (a8, ((D.Transition.Offset a10), ((IntKind.wrap .i64 (a9 + 1)), ())))), ())))) fun J11 =>
 (cnd (decide (a6 < (((List.length a3) : Nat) : Int)))
 (atc a3 a6 fun a12 =>
 (cnd (decide ((D.Transition.At a12) ≤ a4))
 (J11 ((a3, (a4, (a6, ()))), ()))
 (J1 ((a5, ()), ()))))
 (J1 ((a5, ()), ()))))) fu ((p1, (p2, ((D.Zone.Offset p0), (0, ())))), ())))
def r04_offset_g (fu : Nat) : Sig := mkSig [.st .Zone, .one (.lst .Transition), nI] [] [nI] [] [] (Int) (fun q => ((q, ()), ())) (fun x y => r04_offset fu x.1 x.2.1 x.2.2.1)
theorem r04_offset_ok (fu : Nat) : FnOK Tryz.prog 262 (r04_offset_g fu) :=
 FnOK.intro (ty := ty) (E := envL []) (fu := fu) (an := .two .go (.two .go (.two (.join [(7, nI)] [] (.two .go (.one (.loop [(1, .one (.lst .Transition)), (2, nI), (7, nI), (8, nI)] [] (.two (.join [(1, .one (.lst .Transition)), (2, nI), (8, nI)] [] .go) .go))))) .go))) (fun a b => a.1) (fun _ _ => rfl) (envL_ok (l := []) trivial) Tryz.func262 rfl rfl (fun x y => by kernel_rfl)
def r04_OffsetAt (fu : Nat) (p0 : D.Zone) (p1 : Int) : Option (Int × Int) :=
 (optc (r04_Transitions fu p0) fun (a0, a1) =>
 (cnd (decide (a1 ≠ 0))
 (some (0, 8))
 (optc (r04_in fu p1 0 8589934592) fun a2 =>
 (cnd (!a2)
 (some (0, 1))
 (optc (r04_offset fu p0 a0 p1) fun a3 =>
 (some (a3, 0)))))))
def r04_OffsetAt_g (fu : Nat) : Sig := mkSig [.st .Zone, nI] [] [nI, nI] [] [] (Int × Int) (fun q => ((q.1, q.2, ()), ())) (fun x y => r04_OffsetAt fu x.1 x.2.1)
theorem r04_OffsetAt_ok (fu : Nat) : FnOK Tryz.prog 234 (r04_OffsetAt_g fu) :=
 FnOK.intro (ty := ty) (E := envL [(259, 0, r04_Transitions_g fu), (261, 0, r04_in_g fu), (262, 0, r04_offset_g fu)]) (fu := fu) (an := .go) (fun a b => (a.1, a.2.1)) (fun _ _ => rfl) (envL_ok ⟨r04_Transitions_ok fu, r04_in_ok fu, r04_offset_ok fu, trivial⟩) Tryz.func234 rfl rfl (fun x y => by kernel_rfl)
def r04_local (fu : Nat) (p0 : Int) (p1 : Int) : Option (D.Local) :=
 (nzc 86400 (nzc 86400 (some (D.Local.mk (IntKind.wrap .i64 ((IntKind.wrap .i64 (Int.tdiv (IntKind.wrap .i64 ((IntKind.wrap .i64 (p0 + p1)) + 864000)) 86400)) - 10)) (Int.tmod (IntKind.wrap .i64 ((IntKind.wrap .i64 (p0 + p1)) + 864000)) 86400)))))
def r04_local_g (fu : Nat) : Sig := mkSig [nI, nI] [] [.st .Local] [] [] (D.Local) (fun q => ((q, ()), ())) (fun x y => r04_local fu x.1 x.2.1)
theorem r04_local_ok (fu : Nat) : FnOK Tryz.prog 235 (r04_local_g fu) :=
 FnOK.intro (ty := ty) (E := envL []) (fu := fu) (an := .go) (fun a b => a.1) (fun _ _ => rfl) (envL_ok (l := []) trivial) Tryz.func235 rfl rfl (fun x y => by kernel_rfl)
def r04_ToLocal (fu : Nat) (p0 : D.Zone) (p1 : Int) : Option (D.Local × Int) :=
 (optc (r04_OffsetAt fu p0 p1) fun (a0, a1) =>
 (cnd (decide (a1 ≠ 0))
 (some ((D.Local.mk 0 0), a1))
 (optc (r04_local fu p1 a0) fun a2 =>
 (some (a2, 0)))))
def r04_ToLocal_g (fu : Nat) : Sig := mkSig [.st .Zone, nI] [] [.st .Local, nI] [] [] (D.Local × Int) (fun q => ((q.1, q.2, ()), ())) (fun x y => r04_ToLocal fu x.1 x.2.1)
theorem r04_ToLocal_ok (fu : Nat) : FnOK Tryz.prog 189 (r04_ToLocal_g fu) :=
 FnOK.intro (ty := ty) (E := envL [(234, 0, r04_OffsetAt_g fu), (235, 0, r04_local_g fu)]) (fu := fu) (an := .go) (fun a b => (a.1, a.2.1)) (fun _ _ => rfl) (envL_ok ⟨r04_OffsetAt_ok fu, r04_local_ok fu, trivial⟩) Tryz.func189 rfl rfl (fun x y => by kernel_rfl)
def r05_second (fu : Nat) (p0 : D.Local) : Option (Int) :=
 (optc (r01_Weekday fu (D.Local.Day p0)) fun a0 =>
 (some (IntKind.wrap .i64 ((IntKind.wrap .i64 (a0 * 86400)) + (D.Local.Second p0)))))
def r05_second_g (fu : Nat) : Sig := mkSig [.st .Local] [] [nI] [] [] (Int) (fun q => ((q, ()), ())) (fun x y => r05_second fu x.1)
theorem r05_second_ok (fu : Nat) : FnOK Tryz.prog 190 (r05_second_g fu) :=
 FnOK.intro (ty := ty) (E := envL [(236, 0, r01_Weekday_g fu)]) (fu := fu) (an := .go) (fun a b => a.1) (fun _ _ => rfl) (envL_ok ⟨r01_Weekday_ok fu, trivial⟩) Tryz.func190 rfl rfl (fun x y => by kernel_rfl)
def r05_Second (fu : Nat) (p0 : D.Zone) (p1 : Int) : Option (Int × Int) :=
 (optc (r04_ToLocal fu p0 p1) fun (a0, a1) =>
 (cnd (decide (a1 ≠ 0))
 (some (0, a1))
 (optc (r05_second fu a0) fun a2 =>
 (some (a2, 0)))))
def r05_Second_g (fu : Nat) : Sig := mkSig [.st .Zone, nI] [] [nI, nI] [] [] (Int × Int) (fun q => ((q.1, q.2, ()), ())) (fun x y => r05_Second fu x.1 x.2.1)
theorem r05_Second_ok (fu : Nat) : FnOK Tryz.prog 143 (r05_Second_g fu) :=
 FnOK.intro (ty := ty) (E := envL [(189, 0, r04_ToLocal_g fu), (190, 0, r05_second_g fu)]) (fu := fu) (an := .go) (fun a b => (a.1, a.2.1)) (fun _ _ => rfl) (envL_ok ⟨r04_ToLocal_ok fu, r05_second_ok fu, trivial⟩) Tryz.func143 rfl rfl (fun x y => by kernel_rfl)
def r05_Within (fu : Nat) (p0 : List D.Window) (p1 : Int) : Option (Bool) :=
 (iterF (X := ((List D.Window × (Int × (Int × Unit))) × Unit)) (fun L0 ((a1, (a2, (a3, _))), _) =>
 (cnd (decide (a3 < (((List.length a1) : Nat) : Int)))
 (join (Y := ((List D.Window × (Int × (Int × Unit))) × Unit)) (fun ((a4, (a5, (a6, _))), _) =>
 (L0 ((a4, (a5, ((IntKind.wrap .i64 (a6 + 1)), ()))), ()))) fun J7 =>
 (atc a1 a3 fun a8 =>
 (cnd (decide ((D.Window.From a8) ≤ a2))
 (atc a1 a3 fun a9 =>
 (cnd (decide (a2 < (D.Window.To a9)))
 (some true)
 (J7 ((a1, (a2, (a3, ()))), ()))))
 (J7 ((a1, (a2, (a3, ()))), ())))))
 (some false))) fu ((p0, (p1, (0, ()))), ()))
def r05_Within_g (fu : Nat) : Sig := mkSig [.one (.lst .Window), nI] [] [.one (.boo)] [] [] (Bool) (fun q => ((q, ()), ())) (fun x y => r05_Within fu x.1 x.2.1)
theorem r05_Within_ok (fu : Nat) : FnOK Tryz.prog 145 (r05_Within_g fu) :=
 FnOK.intro (ty := ty) (E := envL []) (fu := fu) (an := .two .go (.two (.two .go (.one (.loop [(0, .one (.lst .Window)), (1, nI), (5, nI)] [] (.two .go (.two (.join [(0, .one (.lst .Window)), (1, nI), (5, nI)] [] .go) .go))))) .go)) (fun a b => a.1) (fun _ _ => rfl) (envL_ok (l := []) trivial) Tryz.func145 rfl rfl (fun x y => by kernel_rfl)
def r05_In (fu : Nat) (p0 : D.Zone) (p1 : List D.Window) (p2 : Int) : Option (Bool) :=
 (optc (r05_Second fu p0 p2) fun (a0, a1) =>
 (cnd (decide (a1 = 0))
 (optc (r05_Check fu p1) fun a2 =>
 (cnd (decide (a2 = 0))
 (optc (r05_Within fu p1 a0) fun a3 =>
 (cnd a3
 (some true)
 (some false)))
 (some false)))
 (some false)))
def r05_In_g (fu : Nat) : Sig := mkSig [.st .Zone, .one (.lst .Window), nI] [] [.one (.boo)] [] [] (Bool) (fun q => ((q, ()), ())) (fun x y => r05_In fu x.1 x.2.1 x.2.2.1)
theorem r05_In_ok (fu : Nat) : FnOK Tryz.prog 100 (r05_In_g fu) :=
 FnOK.intro (ty := ty) (E := envL [(143, 0, r05_Second_g fu), (144, 0, r05_Check_g fu), (145, 0, r05_Within_g fu)]) (fu := fu) (an := .go) (fun a b => a.1) (fun _ _ => rfl) (envL_ok ⟨r05_Second_ok fu, r05_Check_ok fu, r05_Within_ok fu, trivial⟩) Tryz.func100 rfl rfl (fun x y => by kernel_rfl)
def r10_Check (fu : Nat) (p0 : D.Zone) (p1 : D.Layer) : Option (Int) :=
 (join (Y := (Unit × Unit)) (fun (_, _) =>
 (some 0)) fun J0 =>
 (optc (r04_Check fu p0) fun a1 =>
 (cnd (decide (a1 ≠ 0))
 (some 8)
 (cnd (decide ((D.Local.Day (D.Layer.Start p1)) < 1))
 (some 8)
 (cnd (decide (100000 < (D.Local.Day (D.Layer.Start p1))))
 (some 8)
 (cnd (decide ((D.Local.Second (D.Layer.Start p1)) < 0))
 (some 8)
 (cnd (decide (86400 ≤ (D.Local.Second (D.Layer.Start p1))))
 (some 8)
 (cnd (decide ((D.Layer.Unit p1) < 0))
 (some 8)
 (cnd (decide (2 < (D.Layer.Unit p1)))
 (some 8)
 (cnd (decide ((D.Layer.Every p1) < 1))
 (some 8)
 (cnd (decide (400 < (D.Layer.Every p1)))
 (some 8)
 (cnd (decide ((((List.length (D.Layer.Members p1)) : Nat) : Int) = 0))
 (some 8)
 (J0 ((), ()))))))))))))))
def r10_Check_g (fu : Nat) : Sig := mkSig [.st .Zone, .st .Layer] [] [nI] [] [] (Int) (fun q => ((q, ()), ())) (fun x y => r10_Check fu x.1 x.2.1)
theorem r10_Check_ok (fu : Nat) : FnOK Tryz.prog 286 (r10_Check_g fu) :=
 FnOK.intro (ty := ty) (E := envL [(227, 0, r04_Check_g fu)]) (fu := fu) (an := .two .go (.two (.join [] [] .go) .go)) (fun a b => a.1) (fun _ _ => rfl) (envL_ok ⟨r04_Check_ok fu, trivial⟩) Tryz.func286 rfl rfl (fun x y => by kernel_rfl)
def r04_small (fu : Nat) (p0 : Int) : Option (Bool) :=
 (optc (r04_in fu p0 (-2) 99422) fun a0 =>
 (some a0))
def r04_small_g (fu : Nat) : Sig := mkSig [nI] [] [.one (.boo)] [] [] (Bool) (fun q => ((q, ()), ())) (fun x y => r04_small fu x.1)
theorem r04_small_ok (fu : Nat) : FnOK Tryz.prog 308 (r04_small_g fu) :=
 FnOK.intro (ty := ty) (E := envL [(261, 0, r04_in_g fu)]) (fu := fu) (an := .go) (fun a b => a.1) (fun _ _ => rfl) (envL_ok ⟨r04_in_ok fu, trivial⟩) Tryz.func308 rfl rfl (fun x y => by kernel_rfl)
end
end Go.Proofs.YtfhcigjkfelnfaaGreat
