/-
  What functions do, reckoned from their code, and their contracts. Printed by wip/gen/brun.py.
-/
import Derived.Test.YtbcginibldjnaaaGreatProg
import Derived.Test.YtbcginibldjnaaaGreatBP
set_option maxRecDepth 100000
set_option linter.unusedVariables false
namespace Go.Proofs.YtbcginibldjnaaaGreat
open Go AM
noncomputable section

def tyL : List (Nat × TC) := [(2, .int), (3, .int), (4, .bool), (5, .u8), (6, .u8), (9, .str), (10, .str), (11, .str), (30, .Book), (32, .Arr3Int), (38, .Page), (39, .int), (49, .Config), (55, .Answer), (61, .Dice), (64, .Team), (67, .Policy), (70, .PolicyStep), (72, .Target), (87, .Start), (91, .Zone), (94, .Person), (96, .Window), (98, .Local), (100, .Layer), (104, .Schedule), (106, .Edit), (131, .View), (138, .Table), (142, .int), (178, .Calendar), (188, .Transition), (194, .YearRule), (216, .Date), (227, .occurrence), (249, .Piece), (257, .u8), (258, .u8)]
def ty (t : Nat) : Option TC := AM.look t tyL
def made_Light (fu : Nat) (p0 : List Int) : Option (Bool) :=
  (some (decide ((((List.length p0) : Nat) : Int) ≤ 500)))
def made_Light_g (fu : Nat) : Sig := mkSig [.one (.lst .int)] [] [.one (.boo)] [] [] (Bool) (fun q => ((q, ()), ())) (fun x y => made_Light fu x.1)
theorem made_Light_ok (fu : Nat) : FnOK Tryz.prog 4 (made_Light_g fu) :=
  FnOK.intro (ty := ty) (E := envL []) (fu := fu) (an := .go) (fun a b => a.1) (fun _ _ => rfl) (envL_ok (l := []) trivial) Tryz.func4 rfl rfl (fun x y => by kernel_rfl)
def escalate_in (fu : Nat) (p0 : Int) (p1 : Int) (p2 : Int) : Option (Bool) :=
  (cnd (decide (p1 ≤ p0))
   (cnd (decide (p0 ≤ p2))
    (some true)
    (some false))
   (some false))
def escalate_in_g (fu : Nat) : Sig := mkSig [.one (.num .i64), .one (.num .i64), .one (.num .i64)] [] [.one (.boo)] [] [] (Bool) (fun q => ((q, ()), ())) (fun x y => escalate_in fu x.1 x.2.1 x.2.2.1)
theorem escalate_in_ok (fu : Nat) : FnOK Tryz.prog 20 (escalate_in_g fu) :=
  FnOK.intro (ty := ty) (E := envL []) (fu := fu) (an := .go) (fun a b => a.1) (fun _ _ => rfl) (envL_ok (l := []) trivial) Tryz.func20 rfl rfl (fun x y => by kernel_rfl)
def escalate_New (fu : Nat) (p0 : D.Book) (p1 : Int) (p2 : Int) (p3 : Int) : Option (D.Page × Int) :=
  (join (Y := ((Int × (Int × (Int × Unit))) × (D.Book × (D.Page × Unit)))) (fun ((a0, (a1, (a2, _))), (a3, (a4, _))) =>
    (optc (escalate_in fu a1 0 (IntKind.wrap .i64 ((((List.length (D.Book.Policies a3)) : Nat) : Int) - 1))) fun a5 =>
     (cnd (!a5)
      (some ((D.Page.mk 0 0 0 0 0 0 0 0 0 0 0 [] [] []), 3))
      (some ((D.Page.mk a0 a1 a2 0 a2 0 (-1) 0 a2 0 0 [] [] []), 0))))) fun J6 =>
   (optc (escalate_in fu p1 1 999999) fun a7 =>
    (cnd a7
     (optc (escalate_in fu p3 0 8589934592) fun a8 =>
      (cnd a8
       (J6 ((p1, (p2, (p3, ()))), (p0, ((D.Page.mk 0 0 0 0 0 0 0 0 0 0 0 [] [] []), ()))))
       (some ((D.Page.mk 0 0 0 0 0 0 0 0 0 0 0 [] [] []), 1))))
     (some ((D.Page.mk 0 0 0 0 0 0 0 0 0 0 0 [] [] []), 1)))))
def escalate_New_g (fu : Nat) : Sig := mkSig [.st .Book, .one (.num .i64), .one (.num .i64), .one (.num .i64)] [] [.st .Page, .one (.num .i64)] [] [] (D.Page × Int) (fun q => ((q.1, q.2, ()), ())) (fun x y => escalate_New fu x.1 x.2.1 x.2.2.1 x.2.2.2.1)
theorem escalate_New_ok (fu : Nat) : FnOK Tryz.prog 10 (escalate_New_g fu) :=
  FnOK.intro (ty := ty) (E := envL [(20, 0, escalate_in_g fu)]) (fu := fu) (an := .two (.go) (.two (.join [(1, .one (.num .i64)), (2, .one (.num .i64)), (3, .one (.num .i64)), (4, .one (.ref 1004)), (8, .one (.ref 1008))] [(1004, .boxst .Book), (1008, .boxst .Page)] (.go)) (.go))) (fun a b => (a.1, a.2.1)) (fun _ _ => rfl) (envL_ok (l := [(20, 0, escalate_in_g fu)]) ⟨escalate_in_ok fu, trivial⟩) Tryz.func10 rfl rfl (fun x y => by kernel_rfl)
def made_Roll (fu : Nat) (p0 : List Int) : Option (D.Dice) :=
  (some (D.Dice.mk p0 0))
def made_Roll_g (fu : Nat) : Sig := mkSig [.one (.lst .int)] [] [.one (.ref 1005)] [(1005, .boxst .Dice)] [] (D.Dice) (fun q => ((), (q, ()))) (fun x y => made_Roll fu x.1)
theorem made_Roll_ok (fu : Nat) : FnOK Tryz.prog 6 (made_Roll_g fu) :=
  FnOK.intro (ty := ty) (E := envL []) (fu := fu) (an := .go) (fun a b => b.1) (fun _ _ => rfl) (envL_ok (l := []) trivial) Tryz.func6 rfl rfl (fun x y => by kernel_rfl)
def made_Dice_Next (fu : Nat) (p0 : D.Dice) (p1 : Int) : Option (Int × D.Dice) :=
  (join (Y := ((Int × Unit) × (D.Dice × Unit))) (fun ((a0, _), (a1, _)) =>
    (atc (D.Dice.L a1) (D.Dice.At a1) fun a2 =>
     (nzc a0 (join (Y := ((Int × Unit) × (D.Dice × Unit))) (fun ((a3, _), (a4, _)) =>
       (some (a3, a4))) fun J5 =>
      (cnd (decide ((Int.tmod a2 a0) < 0))
       (J5 (((IntKind.wrap .i64 ((Int.tmod a2 a0) + a0)), ()), ((D.Dice.mk (D.Dice.L a1) (IntKind.wrap .i64 ((D.Dice.At a1) + 1))), ())))
       (J5 (((Int.tmod a2 a0), ()), ((D.Dice.mk (D.Dice.L a1) (IntKind.wrap .i64 ((D.Dice.At a1) + 1))), ())))))))) fun J6 =>
   (cnd (decide ((((List.length (D.Dice.L p0)) : Nat) : Int) ≤ (D.Dice.At p0)))
    (some (0, p0))
    (cnd (decide (p1 < 1))
     (some (0, p0))
     (J6 ((p1, ()), (p0, ()))))))
def made_Dice_Next_g (fu : Nat) : Sig := mkSig [.one (.ref 1), .one (.num .i64)] [(1, .boxst .Dice)] [.one (.num .i64)] [(1, .boxst .Dice)] [] (Int × D.Dice) (fun q => ((q.1, ()), (q.2, ()))) (fun x y => made_Dice_Next fu y.1 x.1)
theorem made_Dice_Next_ok (fu : Nat) : FnOK Tryz.prog 9 (made_Dice_Next_g fu) :=
  FnOK.intro (ty := ty) (E := envL []) (fu := fu) (an := .two (.go) (.two (.join [(0, .one (.ref 1)), (1, .one (.num .i64))] [(1, .boxst .Dice)] (.go)) (.two (.go) (.two (.go) (.two (.join [(5, .one (.num .i64))] [(1, .boxst .Dice)] (.go)) (.go)))))) (fun a b => (a.1, b.1)) (fun _ _ => rfl) (envL_ok (l := []) trivial) Tryz.func9 rfl rfl (fun x y => by kernel_rfl)
def made_Dice_One (fu : Nat) (p0 : D.Dice) (p1 : List Int) : Option (Int × D.Dice) :=
  (optc (made_Dice_Next fu p0 (((List.length p1) : Nat) : Int)) fun (a0, a1) =>
   (atc p1 a0 fun a2 =>
    (some (a2, a1))))
def made_Dice_One_g (fu : Nat) : Sig := mkSig [.one (.ref 1), .one (.lst .int)] [(1, .boxst .Dice)] [.one (.num .i64)] [(1, .boxst .Dice)] [] (Int × D.Dice) (fun q => ((q.1, ()), (q.2, ()))) (fun x y => made_Dice_One fu y.1 x.1)
theorem made_Dice_One_ok (fu : Nat) : FnOK Tryz.prog 8 (made_Dice_One_g fu) :=
  FnOK.intro (ty := ty) (E := envL [(9, 0, made_Dice_Next_g fu)]) (fu := fu) (an := .go) (fun a b => (a.1, b.1)) (fun _ _ => rfl) (envL_ok (l := [(9, 0, made_Dice_Next_g fu)]) ⟨made_Dice_Next_ok fu, trivial⟩) Tryz.func8 rfl rfl (fun x y => by kernel_rfl)
def made_Dice_Override (fu : Nat) (p0 : D.Dice) : Option (D.Edit × D.Dice) :=
  (optc (made_Dice_One fu p0 (0 :: (300 :: (1200 :: (3600 :: []))))) fun (a0, a1) =>
   (optc (made_Dice_Next fu a1 3) fun (a2, a3) =>
    (optc (made_Dice_Next fu a3 4) fun (a4, a5) =>
     (optc (made_Dice_One fu a5 (300 :: (1800 :: (7200 :: [])))) fun (a6, a7) =>
      (join (Y := (Unit × (D.Edit × (D.Edit × (D.Dice × Unit))))) (fun (_, (a8, (a9, (a10, _)))) =>
        (some (a9, a10))) fun J11 =>
       (cnd (decide (a2 = 2))
        (optc (made_Dice_Next fu a7 3) fun (a12, a13) =>
         (nzc 4 (J11 ((), ((D.Edit.mk 0 0 0 0 0), ((D.Edit.mk a2 a4 (Int.tmod (IntKind.wrap .i64 ((IntKind.wrap .i64 (a4 + 1)) + a12)) 4) (IntKind.wrap .i64 (864000 + a0)) (IntKind.wrap .i64 ((IntKind.wrap .i64 (864000 + a0)) + a6))), (a13, ())))))))
        (cnd (decide (a2 = 1))
         (optc (made_Dice_Next fu a7 5) fun (a14, a15) =>
          (J11 ((), ((D.Edit.mk 0 0 0 0 0), ((D.Edit.mk a2 (IntKind.wrap .i64 (a14 - 1)) 0 (IntKind.wrap .i64 (864000 + a0)) (IntKind.wrap .i64 ((IntKind.wrap .i64 (864000 + a0)) + a6))), (a15, ()))))))
         (J11 ((), ((D.Edit.mk 0 0 0 0 0), ((D.Edit.mk a2 a4 0 (IntKind.wrap .i64 (864000 + a0)) (IntKind.wrap .i64 ((IntKind.wrap .i64 (864000 + a0)) + a6))), (a7, ()))))))))))))
def made_Dice_Override_g (fu : Nat) : Sig := mkSig [.one (.ref 1)] [(1, .boxst .Dice)] [.st .Edit] [(1, .boxst .Dice)] [] (D.Edit × D.Dice) (fun q => ((q.1, ()), (q.2, ()))) (fun x y => made_Dice_Override fu y.1)
theorem made_Dice_Override_ok (fu : Nat) : FnOK Tryz.prog 34 (made_Dice_Override_g fu) :=
  FnOK.intro (ty := ty) (E := envL [(8, 0, made_Dice_One_g fu), (9, 0, made_Dice_Next_g fu)]) (fu := fu) (an := .two (.go) (.two (.go) (.two (.go) (.two (.join [(2, .one (.ref 1002)), (4, .one (.ref 1004))] [(1002, .boxst .Edit), (1004, .boxst .Edit), (1, .boxst .Dice)] (.go)) (.go))))) (fun a b => (a.1, b.1)) (fun _ _ => rfl) (envL_ok (l := [(8, 0, made_Dice_One_g fu), (9, 0, made_Dice_Next_g fu)]) ⟨made_Dice_One_ok fu, made_Dice_Next_ok fu, trivial⟩) Tryz.func34 rfl rfl (fun x y => by kernel_rfl)
def made_Dice_Crew (fu : Nat) (p0 : D.Dice) : Option (D.Config × D.Dice) :=
  (optc (made_Dice_One fu p0 (0 :: (3600 :: ((-7200) :: [])))) fun (a0, a1) =>
   (iterF (X := ((List ByteArray × (Int × Unit)) × (D.Dice × (Unit × ((List D.Zone × Unit) × (List D.Person × Unit)))))) (fun L2 ((a3, (a4, _)), (a5, (_, ((a6, _), (a7, _))))) =>
    (cnd (decide (a4 < 4))
     (atc a3 a4 fun a8 =>
      (optc (made_Dice_Next fu a5 2) fun (a9, a10) =>
       (join (Y := ((List ByteArray × (Int × Unit)) × (D.Dice × (Unit × ((List D.Zone × Unit) × (D.Person × (List D.Person × Unit))))))) (fun ((a11, (a12, _)), (a13, (_, ((a14, _), (a15, (a16, _)))))) =>
         (lec ((List.length a16) + (List.length (a15 :: []))) 34359738368 (L2 ((a11, ((IntKind.wrap .i64 (a12 + 1)), ())), (a13, ((), ((a14, ()), ((a16 ++ (a15 :: [])), ())))))))) fun J17 =>
        (optc (made_Dice_Next fu a10 4) fun (a18, a19) =>
         (cnd (decide (a18 = 0))
          (optc (made_Dice_One fu a19 (0 :: (3600 :: []))) fun (a20, a21) =>
           (optc (made_Dice_One fu a21 (7200 :: (86400 :: (604800 :: [])))) fun (a22, a23) =>
            (J17 ((a3, (a4, ())), (a23, ((), ((a6, ()), ((D.Person.mk a8 0 ((D.Window.mk a20 a22) :: []) 0 0 (decide (a9 = 0))), (a7, ())))))))))
          (J17 ((a3, (a4, ())), (a19, ((), ((a6, ()), ((D.Person.mk a8 0 [] 0 0 (decide (a9 = 0))), (a7, ()))))))))))))
     (iterF (X := ((Int × Unit) × (D.Dice × (Unit × ((List D.Zone × Unit) × (List D.Person × (List D.Schedule × Unit))))))) (fun L24 ((a25, _), (a26, (_, ((a27, _), (a28, (a29, _)))))) =>
      (cnd (decide (a25 < 2))
       (optc (made_Dice_One fu a26 (1 :: (9 :: (10 :: [])))) fun (a30, a31) =>
        (optc (made_Dice_One fu a31 (0 :: (1800 :: (43200 :: [])))) fun (a32, a33) =>
         (optc (made_Dice_One fu a33 (0 :: (0 :: (1 :: [])))) fun (a34, a35) =>
          (optc (made_Dice_Next fu a35 3) fun (a36, a37) =>
           (optc (made_Dice_Next fu a37 3) fun (a38, a39) =>
            (iterF (X := ((Int × (Int × Unit)) × (D.Dice × (Unit × ((List D.Zone × Unit) × ((ByteArray × (Int × (Int × (Int × (Int × (Int × (Int × (Int × Unit)))))))) × (List D.Person × (List D.Schedule × (List Int × Unit))))))))) (fun L40 ((a41, (a42, _)), (a43, (_, ((a44, _), ((a45, (a46, (a47, (a48, (a49, (a50, (a51, (a52, _)))))))), (a53, (a54, (a55, _)))))))) =>
             (cnd (decide (0 < a42))
              (optc (made_Dice_Next fu a43 4) fun (a56, a57) =>
               (lec ((List.length a55) + (List.length (a56 :: []))) 34359738368 (L40 ((a41, ((IntKind.wrap .i64 (a42 - 1)), ())), (a57, ((), ((a44, ()), ((a45, (a46, (a47, (a48, (a49, (a50, (a51, (a52, ())))))))), (a53, (a54, ((a55 ++ (a56 :: [])), ())))))))))))
              (atc ((ByteArray.mk (List.toArray (102 :: (105 :: (114 :: (115 :: (116 :: []))))))) :: ((ByteArray.mk (List.toArray (115 :: (101 :: (99 :: (111 :: (110 :: (100 :: [])))))))) :: [])) a41 fun a58 =>
               (optc (made_Dice_Next fu a43 3) fun (a59, a60) =>
                (iterF (X := ((Int × (Int × Unit)) × (D.Dice × (Unit × ((List D.Zone × Unit) × ((ByteArray × (List D.Layer × Unit)) × (List D.Person × (List D.Schedule × (List D.Edit × Unit))))))))) (fun L61 ((a62, (a63, _)), (a64, (_, ((a65, _), ((a66, (a67, _)), (a68, (a69, (a70, _)))))))) =>
                 (cnd (decide (0 < a63))
                  (optc (made_Dice_Override fu a64) fun (a71, a72) =>
                   (lec ((List.length a70) + (List.length (a71 :: []))) 34359738368 (L61 ((a62, ((IntKind.wrap .i64 (a63 - 1)), ())), (a72, ((), ((a65, ()), ((a66, (a67, ())), (a68, (a69, ((a70 ++ (a71 :: [])), ())))))))))))
                  (lec ((List.length a69) + (List.length ((D.Schedule.mk a66 a67 a70) :: []))) 34359738368 (L24 (((IntKind.wrap .i64 (a62 + 1)), ()), (a64, ((), ((a65, ()), (a68, ((a69 ++ ((D.Schedule.mk a66 a67 a70) :: [])), ())))))))))) fu ((a41, (a59, ())), (a60, ((), ((a44, ()), ((a58, (((D.Layer.mk a45 a46 (D.Local.mk a47 a48) a49 a50 a55 [] a51 a52) :: []), ())), (a53, (a54, ([], ()))))))))))))) fu ((a25, ((IntKind.wrap .i64 (1 + a38)), ())), (a39, ((), ((a27, ()), (((ByteArray.mk (List.toArray (108 :: []))), (0, (a30, (a32, (a34, ((IntKind.wrap .i64 (1 + a36)), (0, (0, ())))))))), (a28, (a29, ([], ()))))))))))))))
       (some ((D.Config.mk a27 a28 [] a29), a26)))) fu ((0, ()), (a5, ((), ((a6, ()), (a7, ([], ()))))))))) fu ((((ByteArray.mk (List.toArray (97 :: (110 :: (110 :: []))))) :: ((ByteArray.mk (List.toArray (98 :: (111 :: (98 :: []))))) :: ((ByteArray.mk (List.toArray (99 :: (97 :: (116 :: []))))) :: ((ByteArray.mk (List.toArray (100 :: (97 :: (110 :: []))))) :: [])))), (0, ())), (a1, ((), ((((D.Zone.mk (ByteArray.mk (List.toArray (122 :: []))) a0 []) :: []), ()), ([], ())))))))
def made_Dice_Crew_g (fu : Nat) : Sig := mkSig [.one (.ref 1)] [(1, .boxst .Dice)] [.st .Config] [(1, .boxst .Dice)] [] (D.Config × D.Dice) (fun q => ((q.1, ()), (q.2, ()))) (fun x y => made_Dice_Crew fu y.1)
theorem made_Dice_Crew_ok (fu : Nat) : FnOK Tryz.prog 24 (made_Dice_Crew_g fu) :=
  FnOK.intro (ty := ty) (E := envL [(8, 0, made_Dice_One_g fu), (9, 0, made_Dice_Next_g fu), (34, 0, made_Dice_Override_g fu)]) (fu := fu) (an := .two (.go) (.two (.go) (.two (.go) (.two (.two (.go) (.one (.loop [(0, .one (.ref 1)), (2, .one (.ref 1002)), (3, .one (.ref 1003)), (4, .one (.lst .str)), (5, .one (.num .i64))] [(1, .boxst .Dice), (1002, .box [.nul, .nul, .nul, .nul]), (1003, .box [.lst .Zone, .own 1047, .nul, .nul]), (1047, .arr .Person)] (.two (.go) (.two (.one (.two (.go) (.two (.join [(0, .one (.ref 1)), (2, .one (.ref 1002)), (3, .one (.ref 1003)), (4, .one (.lst .str)), (5, .one (.num .i64)), (6, .one (.ref 1006))] [(1, .boxst .Dice), (1002, .box [.nul, .nul, .nul, .nul]), (1003, .box [.lst .Zone, .own 1047, .nul, .nul]), (1006, .boxst .Person), (1047, .arr .Person)] (.go)) (.go)))) (.go)))))) (.two (.two (.go) (.one (.loop [(0, .one (.ref 1)), (2, .one (.ref 1002)), (3, .one (.ref 1003)), (7, .one (.num .i64))] [(1, .boxst .Dice), (1002, .box [.nul, .nul, .nul, .nul]), (1003, .box [.lst .Zone, .own 1047, .nul, .own 1105]), (1047, .arr .Person), (1105, .arr .Schedule)] (.two (.go) (.two (.one (.two (.go) (.two (.two (.go) (.one (.loop [(0, .one (.ref 1)), (2, .one (.ref 1002)), (3, .one (.ref 1003)), (7, .one (.num .i64)), (8, .one (.ref 1008)), (9, .one (.num .i64))] [(1, .boxst .Dice), (1002, .box [.nul, .nul, .nul, .nul]), (1003, .box [.lst .Zone, .own 1047, .nul, .own 1105]), (1008, .box [.str, .num .i64, .num .i64, .num .i64, .num .i64, .num .i64, .own 1079, .nul, .num .i64, .num .i64]), (1047, .arr .Person), (1105, .arr .Schedule), (1079, .arr .int)] (.go)))) (.two (.frz [1079] .go) (.two (.two (.go) (.one (.loop [(0, .one (.ref 1)), (2, .one (.ref 1002)), (3, .one (.ref 1003)), (7, .one (.num .i64)), (10, .one (.ref 1010)), (11, .one (.num .i64))] [(1, .boxst .Dice), (1002, .box [.nul, .nul, .nul, .nul]), (1003, .box [.lst .Zone, .own 1047, .nul, .own 1105]), (1010, .box [.str, .lst .Layer, .own 1099]), (1047, .arr .Person), (1105, .arr .Schedule), (1099, .arr .Edit)] (.go)))) (.go)))))) (.go)))))) (.go)))))) (fun a b => (a.1, b.1)) (fun _ _ => rfl) (envL_ok (l := [(8, 0, made_Dice_One_g fu), (9, 0, made_Dice_Next_g fu), (34, 0, made_Dice_Override_g fu)]) ⟨made_Dice_One_ok fu, made_Dice_Next_ok fu, made_Dice_Override_ok fu, trivial⟩) Tryz.func24 rfl rfl (fun x y => by kernel_rfl)
def law29_plain_1 (fu : Nat) (p0 : Int) : Option (D.PolicyStep) :=
  (some (D.PolicyStep.mk 300 true ((D.Target.mk 0 p0) :: [])))
def law29_plain_1_g (fu : Nat) : Sig := mkSig [.one (.num .i64)] [] [.st .PolicyStep] [] [] (D.PolicyStep) (fun q => ((q, ()), ())) (fun x y => law29_plain_1 fu x.1)
theorem law29_plain_1_ok (fu : Nat) : FnOK Tryz.prog 23 (law29_plain_1_g fu) :=
  FnOK.intro (ty := ty) (E := envL []) (fu := fu) (an := .go) (fun a b => a.1) (fun _ _ => rfl) (envL_ok (l := []) trivial) Tryz.func23 rfl rfl (fun x y => by kernel_rfl)
def law29_plain (fu : Nat) : Option (D.Config × D.Book) :=
  (optc (made_Roll fu (0 :: (0 :: (1 :: (0 :: (1 :: (0 :: (1 :: (0 :: (1 :: [])))))))))) fun a0 =>
   (optc (made_Dice_Crew fu a0) fun (a1, a2) =>
    (optc (law29_plain_1 fu 0) fun a3 =>
     (optc (law29_plain_1 fu 1) fun a4 =>
      (some (a1, (D.Book.mk [] ((D.Policy.mk (ByteArray.mk (List.toArray (112 :: []))) (a3 :: (a4 :: [])) 0) :: []))))))))
def law29_plain_g (fu : Nat) : Sig := mkSig [] [] [.st .Config, .st .Book] [] [] (D.Config × D.Book) (fun q => ((q.1, q.2, ()), ())) (fun x y => law29_plain fu)
theorem law29_plain_ok (fu : Nat) : FnOK Tryz.prog 13 (law29_plain_g fu) :=
  FnOK.intro (ty := ty) (E := envL [(6, 0, made_Roll_g fu), (23, 0, law29_plain_1_g fu), (24, 0, made_Dice_Crew_g fu)]) (fu := fu) (an := .go) (fun a b => (a.1, a.2.1)) (fun _ _ => rfl) (envL_ok (l := [(6, 0, made_Roll_g fu), (23, 0, law29_plain_1_g fu), (24, 0, made_Dice_Crew_g fu)]) ⟨made_Roll_ok fu, law29_plain_1_ok fu, made_Dice_Crew_ok fu, trivial⟩) Tryz.func13 rfl rfl (fun x y => by kernel_rfl)
def policy_in (fu : Nat) (p0 : Int) (p1 : Int) (p2 : Int) : Option (Bool) :=
  (cnd (decide (p1 ≤ p0))
   (cnd (decide (p0 ≤ p2))
    (some true)
    (some false))
   (some false))
def policy_in_g (fu : Nat) : Sig := mkSig [.one (.num .i64), .one (.num .i64), .one (.num .i64)] [] [.one (.boo)] [] [] (Bool) (fun q => ((q, ()), ())) (fun x y => policy_in fu x.1 x.2.1 x.2.2.1)
theorem policy_in_ok (fu : Nat) : FnOK Tryz.prog 50 (policy_in_g fu) :=
  FnOK.intro (ty := ty) (E := envL []) (fu := fu) (an := .go) (fun a b => a.1) (fun _ _ => rfl) (envL_ok (l := []) trivial) Tryz.func50 rfl rfl (fun x y => by kernel_rfl)
def policy_Count (fu : Nat) (p0 : D.Policy) : Option (Int) :=
  (join (Y := (Unit × (D.Policy × Unit))) (fun (_, (a0, _)) =>
    (some (IntKind.wrap .i64 ((((List.length (D.Policy.Steps a0)) : Nat) : Int) * (IntKind.wrap .i64 ((D.Policy.Repeat a0) + 1)))))) fun J1 =>
   (optc (policy_in fu (D.Policy.Repeat p0) 0 8) fun a2 =>
    (cnd a2
     (cnd (decide (8 < (((List.length (D.Policy.Steps p0)) : Nat) : Int)))
      (some 0)
      (J1 ((), (p0, ()))))
     (some 0))))
def policy_Count_g (fu : Nat) : Sig := mkSig [.st .Policy] [] [.one (.num .i64)] [] [] (Int) (fun q => ((q, ()), ())) (fun x y => policy_Count fu x.1)
theorem policy_Count_ok (fu : Nat) : FnOK Tryz.prog 37 (policy_Count_g fu) :=
  FnOK.intro (ty := ty) (E := envL [(50, 0, policy_in_g fu)]) (fu := fu) (an := .two (.go) (.two (.join [(1, .one (.ref 1001))] [(1001, .boxst .Policy)] (.go)) (.go))) (fun a b => a.1) (fun _ _ => rfl) (envL_ok (l := [(50, 0, policy_in_g fu)]) ⟨policy_in_ok fu, trivial⟩) Tryz.func37 rfl rfl (fun x y => by kernel_rfl)
def escalate_times (fu : Nat) (p0 : D.Page) : Option (Bool) :=
  (optc (escalate_in fu (D.Page.Last p0) (D.Page.Start p0) 17179869184) fun a0 =>
   (cnd a0
    (optc (escalate_in fu (D.Page.Due p0) 0 17179869184) fun a1 =>
     (cnd a1
      (optc (escalate_in fu (D.Page.Until p0) 0 17179869184) fun a2 =>
       (cnd a2
        (optc (escalate_in fu (D.Page.Snoozes p0) 0 4) fun a3 =>
         (cnd a3
          (optc (escalate_in fu (D.Page.Hands p0) 0 4) fun a4 =>
           (cnd a4
            (some true)
            (some false)))
          (some false)))
        (some false)))
      (some false)))
    (some false)))
def escalate_times_g (fu : Nat) : Sig := mkSig [.st .Page] [] [.one (.boo)] [] [] (Bool) (fun q => ((q, ()), ())) (fun x y => escalate_times fu x.1)
theorem escalate_times_ok (fu : Nat) : FnOK Tryz.prog 38 (escalate_times_g fu) :=
  FnOK.intro (ty := ty) (E := envL [(20, 0, escalate_in_g fu)]) (fu := fu) (an := .go) (fun a b => a.1) (fun _ _ => rfl) (envL_ok (l := [(20, 0, escalate_in_g fu)]) ⟨escalate_in_ok fu, trivial⟩) Tryz.func38 rfl rfl (fun x y => by kernel_rfl)
def escalate_set (fu : Nat) (p0 : List Int) : Option (Bool) :=
  (iterF (X := ((List Int × (List Int × (Int × (Int × Unit)))) × Unit)) (fun L0 ((a1, (a2, (a3, (a4, _)))), _) =>
   (cnd (decide (a4 < a3))
    (join (Y := ((List Int × (List Int × (Int × (Int × Unit)))) × Unit)) (fun ((a5, (a6, (a7, (a8, _)))), _) =>
      (L0 ((a5, (a6, (a7, ((IntKind.wrap .i64 (a8 + 1)), ())))), ()))) fun J9 =>
     (atc a2 a4 fun a10 =>
      (optc (escalate_in fu a10 0 31) fun a11 =>
       (cnd a11
        (cnd (decide (0 < a4))
         (atc a1 (IntKind.wrap .i64 (a4 - 1)) fun a12 =>
          (cnd (decide (a10 ≤ a12))
           (some false)
           (J9 ((a1, (a2, (a3, (a4, ())))), ()))))
         (J9 ((a1, (a2, (a3, (a4, ())))), ())))
        (some false)))))
    (some true))) fu ((p0, (p0, ((((List.length p0) : Nat) : Int), (0, ())))), ()))
def escalate_set_g (fu : Nat) : Sig := mkSig [.one (.lst .int)] [] [.one (.boo)] [] [] (Bool) (fun q => ((q, ()), ())) (fun x y => escalate_set fu x.1)
theorem escalate_set_ok (fu : Nat) : FnOK Tryz.prog 40 (escalate_set_g fu) :=
  FnOK.intro (ty := ty) (E := envL [(20, 0, escalate_in_g fu)]) (fu := fu) (an := .two (.go) (.two (.two (.go) (.one (.loop [(0, .one (.lst .int)), (5, .one (.lst .int)), (6, .one (.num .i64)), (7, .one (.num .i64))] [] (.two (.go) (.two (.go) (.two (.join [(0, .one (.lst .int)), (5, .one (.lst .int)), (6, .one (.num .i64)), (7, .one (.num .i64))] [] (.go)) (.go))))))) (.go))) (fun a b => a.1) (fun _ _ => rfl) (envL_ok (l := [(20, 0, escalate_in_g fu)]) ⟨escalate_in_ok fu, trivial⟩) Tryz.func40 rfl rfl (fun x y => by kernel_rfl)
def escalate_started (fu : Nat) (p0 : D.Page) : Option (Bool) :=
  (iterF (X := ((Int × (Int × (List D.Start × (Int × (Int × Unit))))) × (D.Page × Unit))) (fun L0 ((a1, (a2, (a3, (a4, (a5, _))))), (a6, _)) =>
   (cnd (decide (a5 < a4))
    (atc a3 a5 fun a7 =>
     (join (Y := ((Int × (List D.Start × (Int × (Int × Unit)))) × (D.Page × (D.Start × Unit)))) (fun ((a8, (a9, (a10, (a11, _)))), (a12, (a13, _))) =>
       (L0 (((D.Start.At a13), ((max a8 (D.Start.K a13)), (a9, (a10, ((IntKind.wrap .i64 (a11 + 1)), ()))))), (a12, ())))) fun J14 =>
      (cnd (decide ((D.Start.At a7) < a1))
       (some false)
       (optc (escalate_set fu (D.Start.People a7)) fun a15 =>
        (cnd a15
         (cnd (decide ((D.Start.K a7) ≠ (-1)))
          (optc (escalate_in fu (D.Start.K a7) (IntKind.wrap .i64 (a2 + 1)) (IntKind.wrap .i64 ((D.Page.Next a6) - 1))) fun a16 =>
           (cnd a16
            (J14 ((a2, (a3, (a4, (a5, ())))), (a6, (a7, ()))))
            (some false)))
          (J14 ((a2, (a3, (a4, (a5, ())))), (a6, (a7, ())))))
         (some false))))))
    (some (decide ((((List.length (D.Page.Starts a6)) : Nat) : Int) ≤ 200))))) fu (((D.Page.Start p0), ((-1), ((D.Page.Starts p0), ((((List.length (D.Page.Starts p0)) : Nat) : Int), (0, ()))))), (p0, ())))
def escalate_started_g (fu : Nat) : Sig := mkSig [.st .Page] [] [.one (.boo)] [] [] (Bool) (fun q => ((q, ()), ())) (fun x y => escalate_started fu x.1)
theorem escalate_started_ok (fu : Nat) : FnOK Tryz.prog 39 (escalate_started_g fu) :=
  FnOK.intro (ty := ty) (E := envL [(20, 0, escalate_in_g fu), (40, 0, escalate_set_g fu)]) (fu := fu) (an := .two (.go) (.two (.go) (.two (.two (.go) (.one (.loop [(1, .one (.ref 1001)), (3, .one (.num .i64)), (4, .one (.num .i64)), (10, .one (.lst .Start)), (11, .one (.num .i64)), (12, .one (.num .i64))] [(1001, .boxst .Page)] (.two (.go) (.two (.go) (.two (.one (.two (.go) (.two (.join [(1, .one (.ref 1001)), (4, .one (.num .i64)), (6, .one (.ref 1006)), (10, .one (.lst .Start)), (11, .one (.num .i64)), (12, .one (.num .i64))] [(1001, .boxst .Page), (1006, .boxst .Start)] (.go)) (.go)))) (.go))))))) (.go)))) (fun a b => a.1) (fun _ _ => rfl) (envL_ok (l := [(20, 0, escalate_in_g fu), (40, 0, escalate_set_g fu)]) ⟨escalate_in_ok fu, escalate_set_ok fu, trivial⟩) Tryz.func39 rfl rfl (fun x y => by kernel_rfl)
def slices_Index_int (fu : Nat) (p0 : List Int) (p1 : Int) : Option (Int) :=
  (iterF (X := ((List Int × (Int × (Int × (Int × Unit)))) × Unit)) (fun L0 ((a1, (a2, (a3, (a4, _)))), _) =>
   (cnd (decide (a4 < a3))
    (atc a1 a4 fun a5 =>
     (cnd (decide (a2 = a5))
      (some a4)
      (L0 ((a1, (a2, (a3, ((IntKind.wrap .i64 (a4 + 1)), ())))), ()))))
    (some (-1)))) fu ((p0, (p1, ((((List.length p0) : Nat) : Int), (0, ())))), ()))
def slices_Index_int_g (fu : Nat) : Sig := mkSig [.one (.lst .int), .one (.num .i64)] [] [.one (.num .i64)] [] [] (Int) (fun q => ((q, ()), ())) (fun x y => slices_Index_int fu x.1 x.2.1)
theorem slices_Index_int_ok (fu : Nat) : FnOK Tryz.prog 45 (slices_Index_int_g fu) :=
  FnOK.intro (ty := ty) (E := envL []) (fu := fu) (an := .two (.go) (.two (.two (.go) (.one (.loop [(0, .one (.lst .int)), (1, .one (.num .i64)), (7, .one (.num .i64)), (8, .one (.num .i64))] [] (.go)))) (.go))) (fun a b => a.1) (fun _ _ => rfl) (envL_ok (l := []) trivial) Tryz.func45 rfl rfl (fun x y => by kernel_rfl)
def slices_Contains_int (fu : Nat) (p0 : List Int) (p1 : Int) : Option (Bool) :=
  (optc (slices_Index_int fu p0 p1) fun a0 =>
   (some (decide (0 ≤ a0))))
def slices_Contains_int_g (fu : Nat) : Sig := mkSig [.one (.lst .int), .one (.num .i64)] [] [.one (.boo)] [] [] (Bool) (fun q => ((q, ()), ())) (fun x y => slices_Contains_int fu x.1 x.2.1)
theorem slices_Contains_int_ok (fu : Nat) : FnOK Tryz.prog 30 (slices_Contains_int_g fu) :=
  FnOK.intro (ty := ty) (E := envL [(45, 0, slices_Index_int_g fu)]) (fu := fu) (an := .go) (fun a b => a.1) (fun _ _ => rfl) (envL_ok (l := [(45, 0, slices_Index_int_g fu)]) ⟨slices_Index_int_ok fu, trivial⟩) Tryz.func30 rfl rfl (fun x y => by kernel_rfl)
def escalate_seen (fu : Nat) (p0 : List Int) : Option (Bool) :=
  (iterF (X := ((List Int × (List Int × (Int × (Int × Unit)))) × Unit)) (fun L0 ((a1, (a2, (a3, (a4, _)))), _) =>
   (cnd (decide (a4 < a3))
    (atc a2 a4 fun a5 =>
     (natc a4 fun a6 =>
      (lec a6 (List.length a1) (optc (slices_Contains_int fu (List.take a6 a1) a5) fun a7 =>
       (cnd a7
        (some false)
        (L0 ((a1, (a2, (a3, ((IntKind.wrap .i64 (a4 + 1)), ())))), ())))))))
    (some (decide ((((List.length a1) : Nat) : Int) ≤ 64))))) fu ((p0, (p0, ((((List.length p0) : Nat) : Int), (0, ())))), ()))
def escalate_seen_g (fu : Nat) : Sig := mkSig [.one (.lst .int)] [] [.one (.boo)] [] [] (Bool) (fun q => ((q, ()), ())) (fun x y => escalate_seen fu x.1)
theorem escalate_seen_ok (fu : Nat) : FnOK Tryz.prog 41 (escalate_seen_g fu) :=
  FnOK.intro (ty := ty) (E := envL [(30, 0, slices_Contains_int_g fu)]) (fu := fu) (an := .two (.go) (.two (.two (.go) (.one (.loop [(0, .one (.lst .int)), (5, .one (.lst .int)), (6, .one (.num .i64)), (7, .one (.num .i64))] [] (.go)))) (.go))) (fun a b => a.1) (fun _ _ => rfl) (envL_ok (l := [(30, 0, slices_Contains_int_g fu)]) ⟨slices_Contains_int_ok fu, trivial⟩) Tryz.func41 rfl rfl (fun x y => by kernel_rfl)
def escalate_Check_1 (fu : Nat) (p0 : D.PolicyStep) : Option (Bool) :=
  (optc (escalate_in fu (D.PolicyStep.Wait p0) 0 86400) fun a0 =>
   (some (!a0)))
def escalate_Check_1_g (fu : Nat) : Sig := mkSig [.st .PolicyStep] [] [.one (.boo)] [] [] (Bool) (fun q => ((q, ()), ())) (fun x y => escalate_Check_1 fu x.1)
theorem escalate_Check_1_ok (fu : Nat) : FnOK Tryz.prog 36 (escalate_Check_1_g fu) :=
  FnOK.intro (ty := ty) (E := envL [(20, 0, escalate_in_g fu)]) (fu := fu) (an := .go) (fun a b => a.1) (fun _ _ => rfl) (envL_ok (l := [(20, 0, escalate_in_g fu)]) ⟨escalate_in_ok fu, trivial⟩) Tryz.func36 rfl rfl (fun x y => by kernel_rfl)
def slices_IndexFunc_PolicyStep_1f36 (fu : Nat) (p0 : List D.PolicyStep) : Option (Int) :=
  (iterF (X := ((List D.PolicyStep × (Int × (Int × Unit))) × Unit)) (fun L0 ((a1, (a2, (a3, _))), _) =>
   (cnd (decide (a3 < a2))
    (atc a1 a3 fun a4 =>
     (optc (escalate_Check_1 fu a4) fun a5 =>
      (cnd a5
       (some a3)
       (L0 ((a1, (a2, ((IntKind.wrap .i64 (a3 + 1)), ()))), ())))))
    (some (-1)))) fu ((p0, ((((List.length p0) : Nat) : Int), (0, ()))), ()))
def slices_IndexFunc_PolicyStep_1f36_g (fu : Nat) : Sig := mkSig [.one (.lst .PolicyStep), .one (.fv 36)] [] [.one (.num .i64)] [] [] (Int) (fun q => ((q, ()), ())) (fun x y => slices_IndexFunc_PolicyStep_1f36 fu x.1)
theorem slices_IndexFunc_PolicyStep_1f36_ok (fu : Nat) : FnOK Tryz.prog 49 (slices_IndexFunc_PolicyStep_1f36_g fu) :=
  FnOK.intro (ty := ty) (E := envL [(36, 0, escalate_Check_1_g fu)]) (fu := fu) (an := .two (.go) (.two (.two (.go) (.one (.loop [(0, .one (.lst .PolicyStep)), (1, .one (.fv 36)), (7, .one (.num .i64)), (8, .one (.num .i64))] [] (.go)))) (.go))) (fun a b => a.1) (fun _ _ => rfl) (envL_ok (l := [(36, 0, escalate_Check_1_g fu)]) ⟨escalate_Check_1_ok fu, trivial⟩) Tryz.func49 rfl rfl (fun x y => by kernel_rfl)
def slices_ContainsFunc_PolicyStep_1f36 (fu : Nat) (p0 : List D.PolicyStep) : Option (Bool) :=
  (optc (slices_IndexFunc_PolicyStep_1f36 fu p0) fun a0 =>
   (some (decide (0 ≤ a0))))
def slices_ContainsFunc_PolicyStep_1f36_g (fu : Nat) : Sig := mkSig [.one (.lst .PolicyStep), .one (.fv 36)] [] [.one (.boo)] [] [] (Bool) (fun q => ((q, ()), ())) (fun x y => slices_ContainsFunc_PolicyStep_1f36 fu x.1)
theorem slices_ContainsFunc_PolicyStep_1f36_ok (fu : Nat) : FnOK Tryz.prog 35 (slices_ContainsFunc_PolicyStep_1f36_g fu) :=
  FnOK.intro (ty := ty) (E := envL [(49, 0, slices_IndexFunc_PolicyStep_1f36_g fu)]) (fu := fu) (an := .go) (fun a b => a.1) (fun _ _ => rfl) (envL_ok (l := [(49, 0, slices_IndexFunc_PolicyStep_1f36_g fu)]) ⟨slices_IndexFunc_PolicyStep_1f36_ok fu, trivial⟩) Tryz.func35 rfl rfl (fun x y => by kernel_rfl)
def escalate_Check (fu : Nat) (p0 : D.Book) (p1 : D.Page) : Option (Bool) :=
  (join (Y := (Unit × (D.Book × (D.Page × Unit)))) (fun (_, (a0, (a1, _))) =>
    (atc (D.Book.Policies a0) (D.Page.Policy a1) fun a2 =>
     (join (Y := (Unit × (D.Page × Unit))) (fun (_, (a3, _)) =>
       (optc (escalate_in fu (D.Page.State a3) 0 4) fun a4 =>
        (cnd a4
         (optc (escalate_in fu (D.Page.By a3) (-1) 31) fun a5 =>
          (cnd a5
           (optc (escalate_times fu a3) fun a6 =>
            (cnd a6
             (optc (escalate_started fu a3) fun a7 =>
              (cnd a7
               (optc (escalate_set fu (D.Page.Declined a3)) fun a8 =>
                (cnd a8
                 (optc (escalate_seen fu (D.Page.Seen a3)) fun a9 =>
                  (cnd a9
                   (some true)
                   (some false)))
                 (some false)))
               (some false)))
             (some false)))
           (some false)))
         (some false)))) fun J10 =>
      (optc (slices_ContainsFunc_PolicyStep_1f36 fu (D.Policy.Steps a2)) fun a11 =>
       (cnd a11
        (some false)
        (optc (policy_Count fu a2) fun a12 =>
         (optc (escalate_in fu (D.Page.Next a1) 0 a12) fun a13 =>
          (cnd a13
           (J10 ((), (a1, ())))
           (some false))))))))) fun J14 =>
   (optc (escalate_in fu (D.Page.ID p1) 1 999999) fun a15 =>
    (cnd a15
     (optc (escalate_in fu (D.Page.Policy p1) 0 (IntKind.wrap .i64 ((((List.length (D.Book.Policies p0)) : Nat) : Int) - 1))) fun a16 =>
      (cnd a16
       (optc (escalate_in fu (D.Page.Start p1) 0 8589934592) fun a17 =>
        (cnd a17
         (J14 ((), (p0, (p1, ()))))
         (some false)))
       (some false)))
     (some false))))
def escalate_Check_g (fu : Nat) : Sig := mkSig [.st .Book, .st .Page] [] [.one (.boo)] [] [] (Bool) (fun q => ((q, ()), ())) (fun x y => escalate_Check fu x.1 x.2.1)
theorem escalate_Check_ok (fu : Nat) : FnOK Tryz.prog 25 (escalate_Check_g fu) :=
  FnOK.intro (ty := ty) (E := envL [(20, 0, escalate_in_g fu), (35, 0, slices_ContainsFunc_PolicyStep_1f36_g fu), (37, 0, policy_Count_g fu), (38, 0, escalate_times_g fu), (39, 0, escalate_started_g fu), (40, 0, escalate_set_g fu), (41, 0, escalate_seen_g fu)]) (fu := fu) (an := .two (.go) (.two (.join [(2, .one (.ref 1002)), (3, .one (.ref 1003))] [(1002, .boxst .Book), (1003, .boxst .Page)] (.go)) (.two (.go) (.two (.join [(3, .one (.ref 1003))] [(1003, .boxst .Page)] (.go)) (.go))))) (fun a b => a.1) (fun _ _ => rfl) (envL_ok (l := [(20, 0, escalate_in_g fu), (35, 0, slices_ContainsFunc_PolicyStep_1f36_g fu), (37, 0, policy_Count_g fu), (38, 0, escalate_times_g fu), (39, 0, escalate_started_g fu), (40, 0, escalate_set_g fu), (41, 0, escalate_seen_g fu)]) ⟨escalate_in_ok fu, slices_ContainsFunc_PolicyStep_1f36_ok fu, policy_Count_ok fu, escalate_times_ok fu, escalate_started_ok fu, escalate_set_ok fu, escalate_seen_ok fu, trivial⟩) Tryz.func25 rfl rfl (fun x y => by kernel_rfl)
def slices_Clone_int (fu : Nat) (p0 : List Int) : Option (List (Int)) :=
  (nilC p0
   (both
    (some [])
    (lec (List.length p0) 34359738368 (some p0)))
   (lec (List.length p0) 34359738368 (some p0)))
def slices_Clone_int_g (fu : Nat) : Sig := mkSig [.one (.lst .int)] [] [.one (.own 1007)] [(1007, .arr .int)] [] (List (Int)) (fun q => ((), (q, ()))) (fun x y => slices_Clone_int fu x.1)
theorem slices_Clone_int_ok (fu : Nat) : FnOK Tryz.prog 33 (slices_Clone_int_g fu) :=
  FnOK.intro (ty := ty) (E := envL []) (fu := fu) (an := .go) (fun a b => b.1) (fun _ _ => rfl) (envL_ok (l := []) trivial) Tryz.func33 rfl rfl (fun x y => by kernel_rfl)
def slices_Clone_Start (fu : Nat) (p0 : List D.Start) : Option (List (D.Start)) :=
  (nilC p0
   (both
    (some [])
    (lec (List.length p0) 34359738368 (some p0)))
   (lec (List.length p0) 34359738368 (some p0)))
def slices_Clone_Start_g (fu : Nat) : Sig := mkSig [.one (.lst .Start)] [] [.one (.own 1007)] [(1007, .arr .Start)] [] (List (D.Start)) (fun q => ((), (q, ()))) (fun x y => slices_Clone_Start fu x.1)
theorem slices_Clone_Start_ok (fu : Nat) : FnOK Tryz.prog 42 (slices_Clone_Start_g fu) :=
  FnOK.intro (ty := ty) (E := envL []) (fu := fu) (an := .go) (fun a b => b.1) (fun _ _ => rfl) (envL_ok (l := []) trivial) Tryz.func42 rfl rfl (fun x y => by kernel_rfl)
def slices_Clone_int_p (fu : Nat) (p0 : List Int) : Option (List Int) :=
  (nilC p0
   (both
    (some [])
    (lec (List.length p0) 34359738368 (some p0)))
   (lec (List.length p0) 34359738368 (some p0)))
def slices_Clone_int_p_g (fu : Nat) : Sig := mkSig [.one (.lst .int)] [] [.one (.lst .int)] [] [] (List Int) (fun q => ((q, ()), ())) (fun x y => slices_Clone_int_p fu x.1)
theorem slices_Clone_int_p_ok (fu : Nat) : FnOK Tryz.prog 33 (slices_Clone_int_p_g fu) :=
  FnOK.intro (ty := ty) (E := envL []) (fu := fu) (an := .go) (fun a b => a.1) (fun _ _ => rfl) (envL_ok (l := []) trivial) Tryz.func33 rfl rfl (fun x y => by kernel_rfl)
def escalate_copied (fu : Nat) (p0 : D.Page) : Option (D.Page) :=
  (optc (slices_Clone_Start fu (D.Page.Starts p0)) fun a0 =>
   (iterF (X := ((Int × (Int × Unit)) × ((Int × (Int × (Int × (Int × (Int × (Int × (Int × (Int × (Int × (Int × (Int × (List Int × (List Int × Unit))))))))))))) × (D.Page × (List D.Start × Unit))))) (fun L1 ((a2, (a3, _)), ((a4, (a5, (a6, (a7, (a8, (a9, (a10, (a11, (a12, (a13, (a14, (a15, (a16, _))))))))))))), (a17, (a18, _)))) =>
    (cnd (decide (a3 < a2))
     (natc a3 fun a19 =>
      (ltc a19 (List.length a18) (optc (GetElem?.getElem? a18 a19) fun a20 =>
       (optc (slices_Clone_int_p fu (D.Start.People a20)) fun a21 =>
        (natc a3 fun a22 =>
         (ltc a22 (List.length a18) (optc (GetElem?.getElem? a18 a22) fun a23 =>
          (L1 ((a2, ((IntKind.wrap .i64 (a3 + 1)), ())), ((a4, (a5, (a6, (a7, (a8, (a9, (a10, (a11, (a12, (a13, (a14, (a15, (a16, ()))))))))))))), (a17, ((List.set a18 a22 (D.Start.mk (D.Start.K a23) (D.Start.At a23) a21)), ()))))))))))))
     (optc (slices_Clone_int fu a15) fun a24 =>
      (optc (slices_Clone_int fu a16) fun a25 =>
       (some (D.Page.mk a4 a5 a6 a7 a8 a9 a10 a11 a12 a13 a14 a18 a24 a25)))))) fu (((((List.length a0) : Nat) : Int), (0, ())), (((D.Page.ID p0), ((D.Page.Policy p0), ((D.Page.Start p0), ((D.Page.Next p0), ((D.Page.Due p0), ((D.Page.State p0), ((D.Page.By p0), ((D.Page.Until p0), ((D.Page.Last p0), ((D.Page.Snoozes p0), ((D.Page.Hands p0), ((D.Page.Declined p0), ((D.Page.Seen p0), ()))))))))))))), ((D.Page.mk 0 0 0 0 0 0 0 0 0 0 0 [] [] []), (a0, ()))))))
def escalate_copied_g (fu : Nat) : Sig := mkSig [.st .Page] [] [.agg [.num .i64, .num .i64, .num .i64, .num .i64, .num .i64, .num .i64, .num .i64, .num .i64, .num .i64, .num .i64, .num .i64, .own 1007007, .own 1030007, .own 1033007]] [(1007007, .arr .Start), (1030007, .arr .int), (1033007, .arr .int)] [] (D.Page) (fun q => (((q.ID, q.Policy, q.Start, q.Next, q.Due, q.State, q.By, q.Until, q.Last, q.Snoozes, q.Hands, ()), ()), (q.Starts, q.Declined, q.Seen, ()))) (fun x y => escalate_copied fu x.1)
theorem escalate_copied_ok (fu : Nat) : FnOK Tryz.prog 26 (escalate_copied_g fu) :=
  FnOK.intro (ty := ty) (E := envL [(33, 24, slices_Clone_int_p_g fu), (33, 0, slices_Clone_int_g fu), (42, 0, slices_Clone_Start_g fu)]) (fu := fu) (an := .two (.go) (.two (.go) (.two (.two (.go) (.one (.loop [(1, .one (.ref 1001)), (2, .one (.ref 1002)), (10, .one (.num .i64)), (11, .one (.num .i64))] [(1001, .box [.num .i64, .num .i64, .num .i64, .num .i64, .num .i64, .num .i64, .num .i64, .num .i64, .num .i64, .num .i64, .num .i64, .own 1007007, .lst .int, .lst .int]), (1002, .boxst .Page), (1007007, .arr .Start)] (.go)))) (.go)))) (fun a b => (D.Page.mk a.1.1 a.1.2.1 a.1.2.2.1 a.1.2.2.2.1 a.1.2.2.2.2.1 a.1.2.2.2.2.2.1 a.1.2.2.2.2.2.2.1 a.1.2.2.2.2.2.2.2.1 a.1.2.2.2.2.2.2.2.2.1 a.1.2.2.2.2.2.2.2.2.2.1 a.1.2.2.2.2.2.2.2.2.2.2.1 b.1 b.2.1 b.2.2.1)) (fun _ _ => rfl) (envL_ok (l := [(33, 24, slices_Clone_int_p_g fu), (33, 0, slices_Clone_int_g fu), (42, 0, slices_Clone_Start_g fu)]) ⟨slices_Clone_int_p_ok fu, slices_Clone_int_ok fu, slices_Clone_Start_ok fu, trivial⟩) Tryz.func26 rfl rfl (fun x y => by kernel_rfl)
def escalate_Due (fu : Nat) (p0 : D.Page) : Option (Int × Bool) :=
  (cnd (decide ((D.Page.State p0) = 0))
   (some ((D.Page.Due p0), true))
   (cnd (decide ((D.Page.State p0) = 2))
    (some ((D.Page.Until p0), true))
    (some (0, false))))
def escalate_Due_g (fu : Nat) : Sig := mkSig [.st .Page] [] [.one (.num .i64), .one (.boo)] [] [] (Int × Bool) (fun q => ((q.1, q.2, ()), ())) (fun x y => escalate_Due fu x.1)
theorem escalate_Due_ok (fu : Nat) : FnOK Tryz.prog 16 (escalate_Due_g fu) :=
  FnOK.intro (ty := ty) (E := envL []) (fu := fu) (an := .go) (fun a b => (a.1, a.2.1)) (fun _ _ => rfl) (envL_ok (l := []) trivial) Tryz.func16 rfl rfl (fun x y => by kernel_rfl)
def escalate_waits (fu : Nat) (p0 : D.Page) (p1 : Int) : Option (Bool) :=
  (optc (escalate_Due fu p0) fun (a0, a1) =>
   (cnd a1
    (cnd (decide (a0 ≤ p1))
     (some true)
     (some false))
    (some false)))
def escalate_waits_g (fu : Nat) : Sig := mkSig [.st .Page, .one (.num .i64)] [] [.one (.boo)] [] [] (Bool) (fun q => ((q, ()), ())) (fun x y => escalate_waits fu x.1 x.2.1)
theorem escalate_waits_ok (fu : Nat) : FnOK Tryz.prog 27 (escalate_waits_g fu) :=
  FnOK.intro (ty := ty) (E := envL [(16, 0, escalate_Due_g fu)]) (fu := fu) (an := .go) (fun a b => a.1) (fun _ _ => rfl) (envL_ok (l := [(16, 0, escalate_Due_g fu)]) ⟨escalate_Due_ok fu, trivial⟩) Tryz.func27 rfl rfl (fun x y => by kernel_rfl)
def policy_Part (fu : Nat) (p0 : D.Policy) (p1 : Int) : Option (Int × Int × Bool) :=
  (optc (policy_Count fu p0) fun a0 =>
   (optc (policy_in fu p1 0 (IntKind.wrap .i64 (a0 - 1))) fun a1 =>
    (cnd (!a1)
     (some (0, (0, false)))
     (nzc (((List.length (D.Policy.Steps p0)) : Nat) : Int) (nzc (((List.length (D.Policy.Steps p0)) : Nat) : Int) (some ((Int.tmod p1 (((List.length (D.Policy.Steps p0)) : Nat) : Int)), ((IntKind.wrap .i64 (Int.tdiv p1 (((List.length (D.Policy.Steps p0)) : Nat) : Int))), true))))))))
def policy_Part_g (fu : Nat) : Sig := mkSig [.st .Policy, .one (.num .i64)] [] [.one (.num .i64), .one (.num .i64), .one (.boo)] [] [] (Int × Int × Bool) (fun q => ((q.1, q.2.1, q.2.2, ()), ())) (fun x y => policy_Part fu x.1 x.2.1)
theorem policy_Part_ok (fu : Nat) : FnOK Tryz.prog 51 (policy_Part_g fu) :=
  FnOK.intro (ty := ty) (E := envL [(37, 0, policy_Count_g fu), (50, 0, policy_in_g fu)]) (fu := fu) (an := .go) (fun a b => (a.1, a.2.1, a.2.2.1)) (fun _ _ => rfl) (envL_ok (l := [(37, 0, policy_Count_g fu), (50, 0, policy_in_g fu)]) ⟨policy_Count_ok fu, policy_in_ok fu, trivial⟩) Tryz.func51 rfl rfl (fun x y => by kernel_rfl)
def cmp_isNaN_int (fu : Nat) (p0 : Int) : Option (Bool) :=
  (some (decide (p0 ≠ p0)))
def cmp_isNaN_int_g (fu : Nat) : Sig := mkSig [.one (.num .i64)] [] [.one (.boo)] [] [] (Bool) (fun q => ((q, ()), ())) (fun x y => cmp_isNaN_int fu x.1)
theorem cmp_isNaN_int_ok (fu : Nat) : FnOK Tryz.prog 90 (cmp_isNaN_int_g fu) :=
  FnOK.intro (ty := ty) (E := envL []) (fu := fu) (an := .go) (fun a b => a.1) (fun _ _ => rfl) (envL_ok (l := []) trivial) Tryz.func90 rfl rfl (fun x y => by kernel_rfl)
def cmp_Less_int (fu : Nat) (p0 : Int) (p1 : Int) : Option (Bool) :=
  (optc (cmp_isNaN_int fu p0) fun a0 =>
   (cnd a0
    (optc (cmp_isNaN_int fu p1) fun a1 =>
     (cnd a1
      (cnd (decide (p0 < p1))
       (some true)
       (some false))
      (some true)))
    (cnd (decide (p0 < p1))
     (some true)
     (some false))))
def cmp_Less_int_g (fu : Nat) : Sig := mkSig [.one (.num .i64), .one (.num .i64)] [] [.one (.boo)] [] [] (Bool) (fun q => ((q, ()), ())) (fun x y => cmp_Less_int fu x.1 x.2.1)
theorem cmp_Less_int_ok (fu : Nat) : FnOK Tryz.prog 73 (cmp_Less_int_g fu) :=
  FnOK.intro (ty := ty) (E := envL [(90, 0, cmp_isNaN_int_g fu)]) (fu := fu) (an := .go) (fun a b => a.1) (fun _ _ => rfl) (envL_ok (l := [(90, 0, cmp_isNaN_int_g fu)]) ⟨cmp_isNaN_int_ok fu, trivial⟩) Tryz.func73 rfl rfl (fun x y => by kernel_rfl)
def slices_insertionSortOrdered_int (fu : Nat) (p0 : List Int) (p1 : Int) (p2 : Int) : Option (Unit) :=
  (iterF (X := ((List Int × (Int × (Int × (Int × Unit)))) × Unit)) (fun L0 ((a1, (a2, (a3, (a4, _)))), _) =>
   (cnd (decide (a4 < a3))
    (join (Y := ((List Int × (Int × (Int × (Int × Unit)))) × Unit)) (fun ((a5, (a6, (a7, (a8, _)))), _) =>
      (L0 ((a5, (a6, (a7, ((IntKind.wrap .i64 (a8 + 1)), ())))), ()))) fun J9 =>
     (iterF (X := ((List Int × (Int × (Int × (Int × (Int × Unit))))) × Unit)) (fun L10 ((a11, (a12, (a13, (a14, (a15, _))))), _) =>
      (join (Y := ((List Int × (Int × (Int × (Int × (Int × Unit))))) × Unit)) (fun ((a16, (a17, (a18, (a19, (a20, _))))), _) =>
        (atc a16 (IntKind.wrap .i64 (a20 - 1)) fun a21 =>
         (atc a16 a20 fun a22 =>
          (atc a16 a20 fun a23 =>
           none)))) fun J24 =>
       (cnd (decide (a12 < a15))
        (atc a11 a15 fun a25 =>
         (atc a11 (IntKind.wrap .i64 (a15 - 1)) fun a26 =>
          (optc (cmp_Less_int fu a25 a26) fun a27 =>
           (cnd a27
            (J24 ((a11, (a12, (a13, (a14, (a15, ()))))), ()))
            (J9 ((a11, (a12, (a13, (a14, ())))), ()))))))
        (J9 ((a11, (a12, (a13, (a14, ())))), ()))))) fu ((a1, (a2, (a3, (a4, (a4, ()))))), ())))
    (some ()))) fu ((p0, (p1, (p2, ((IntKind.wrap .i64 (p1 + 1)), ())))), ()))
def slices_insertionSortOrdered_int_g (fu : Nat) : Sig := mkSig [.one (.lst .int), .one (.num .i64), .one (.num .i64)] [] [] [] [] (Unit) (fun q => ((), ())) (fun x y => slices_insertionSortOrdered_int fu x.1 x.2.1 x.2.2.1)
theorem slices_insertionSortOrdered_int_ok (fu : Nat) : FnOK Tryz.prog 67 (slices_insertionSortOrdered_int_g fu) :=
  FnOK.intro (ty := ty) (E := envL [(73, 0, cmp_Less_int_g fu)]) (fu := fu) (an := .two (.go) (.one (.loop [(0, .one (.lst .int)), (1, .one (.num .i64)), (2, .one (.num .i64)), (6, .one (.num .i64))] [] (.two (.go) (.two (.join [(0, .one (.lst .int)), (1, .one (.num .i64)), (2, .one (.num .i64)), (6, .one (.num .i64))] [] (.one (.two (.go) (.one (.loop [(0, .one (.lst .int)), (1, .one (.num .i64)), (2, .one (.num .i64)), (6, .one (.num .i64)), (7, .one (.num .i64))] [] (.two (.join [(0, .one (.lst .int)), (1, .one (.num .i64)), (2, .one (.num .i64)), (6, .one (.num .i64)), (7, .one (.num .i64))] [] (.go)) (.go))))))) (.go)))))) (fun _ _ => ()) (fun _ _ => rfl) (envL_ok (l := [(73, 0, cmp_Less_int_g fu)]) ⟨cmp_Less_int_ok fu, trivial⟩) Tryz.func67 rfl rfl (fun x y => by kernel_rfl)
def math_bits_Len32 (fu : Nat) (p0 : Int) : Option (Int) :=
  (join (Y := ((Int × (Int × Unit)) × Unit)) (fun ((a0, (a1, _)), _) =>
    (join (Y := ((Int × (Int × Unit)) × Unit)) (fun ((a2, (a3, _)), _) =>
      (natc (IntKind.wrap .u8 a2) fun a4 =>
       (ltc a4 (ByteArray.size (ByteArray.mk (List.toArray (List.append (List.append (0 :: (1 :: (2 :: (2 :: (3 :: (3 :: (3 :: (3 :: (4 :: (4 :: (4 :: (4 :: (4 :: (4 :: (4 :: (4 :: (5 :: (5 :: (5 :: (5 :: (5 :: (5 :: (5 :: (5 :: (5 :: (5 :: (5 :: (5 :: (5 :: (5 :: (5 :: (5 :: (6 :: (6 :: (6 :: (6 :: (6 :: (6 :: (6 :: (6 :: (6 :: (6 :: (6 :: (6 :: (6 :: (6 :: (6 :: (6 :: (6 :: (6 :: (6 :: (6 :: (6 :: (6 :: (6 :: (6 :: (6 :: (6 :: (6 :: (6 :: (6 :: (6 :: (6 :: (6 :: [])))))))))))))))))))))))))))))))))))))))))))))))))))))))))))))))) (7 :: (7 :: (7 :: (7 :: (7 :: (7 :: (7 :: (7 :: (7 :: (7 :: (7 :: (7 :: (7 :: (7 :: (7 :: (7 :: (7 :: (7 :: (7 :: (7 :: (7 :: (7 :: (7 :: (7 :: (7 :: (7 :: (7 :: (7 :: (7 :: (7 :: (7 :: (7 :: (7 :: (7 :: (7 :: (7 :: (7 :: (7 :: (7 :: (7 :: (7 :: (7 :: (7 :: (7 :: (7 :: (7 :: (7 :: (7 :: (7 :: (7 :: (7 :: (7 :: (7 :: (7 :: (7 :: (7 :: (7 :: (7 :: (7 :: (7 :: (7 :: (7 :: (7 :: (7 :: []))))))))))))))))))))))))))))))))))))))))))))))))))))))))))))))))) (List.append (8 :: (8 :: (8 :: (8 :: (8 :: (8 :: (8 :: (8 :: (8 :: (8 :: (8 :: (8 :: (8 :: (8 :: (8 :: (8 :: (8 :: (8 :: (8 :: (8 :: (8 :: (8 :: (8 :: (8 :: (8 :: (8 :: (8 :: (8 :: (8 :: (8 :: (8 :: (8 :: (8 :: (8 :: (8 :: (8 :: (8 :: (8 :: (8 :: (8 :: (8 :: (8 :: (8 :: (8 :: (8 :: (8 :: (8 :: (8 :: (8 :: (8 :: (8 :: (8 :: (8 :: (8 :: (8 :: (8 :: (8 :: (8 :: (8 :: (8 :: (8 :: (8 :: (8 :: (8 :: [])))))))))))))))))))))))))))))))))))))))))))))))))))))))))))))))) (8 :: (8 :: (8 :: (8 :: (8 :: (8 :: (8 :: (8 :: (8 :: (8 :: (8 :: (8 :: (8 :: (8 :: (8 :: (8 :: (8 :: (8 :: (8 :: (8 :: (8 :: (8 :: (8 :: (8 :: (8 :: (8 :: (8 :: (8 :: (8 :: (8 :: (8 :: (8 :: (8 :: (8 :: (8 :: (8 :: (8 :: (8 :: (8 :: (8 :: (8 :: (8 :: (8 :: (8 :: (8 :: (8 :: (8 :: (8 :: (8 :: (8 :: (8 :: (8 :: (8 :: (8 :: (8 :: (8 :: (8 :: (8 :: (8 :: (8 :: (8 :: (8 :: (8 :: (8 :: []))))))))))))))))))))))))))))))))))))))))))))))))))))))))))))))))))))) (some (IntKind.wrap .i64 (a3 + (IntKind.wrap .i64 (((bAt (ByteArray.mk (List.toArray (List.append (List.append (0 :: (1 :: (2 :: (2 :: (3 :: (3 :: (3 :: (3 :: (4 :: (4 :: (4 :: (4 :: (4 :: (4 :: (4 :: (4 :: (5 :: (5 :: (5 :: (5 :: (5 :: (5 :: (5 :: (5 :: (5 :: (5 :: (5 :: (5 :: (5 :: (5 :: (5 :: (5 :: (6 :: (6 :: (6 :: (6 :: (6 :: (6 :: (6 :: (6 :: (6 :: (6 :: (6 :: (6 :: (6 :: (6 :: (6 :: (6 :: (6 :: (6 :: (6 :: (6 :: (6 :: (6 :: (6 :: (6 :: (6 :: (6 :: (6 :: (6 :: (6 :: (6 :: (6 :: (6 :: [])))))))))))))))))))))))))))))))))))))))))))))))))))))))))))))))) (7 :: (7 :: (7 :: (7 :: (7 :: (7 :: (7 :: (7 :: (7 :: (7 :: (7 :: (7 :: (7 :: (7 :: (7 :: (7 :: (7 :: (7 :: (7 :: (7 :: (7 :: (7 :: (7 :: (7 :: (7 :: (7 :: (7 :: (7 :: (7 :: (7 :: (7 :: (7 :: (7 :: (7 :: (7 :: (7 :: (7 :: (7 :: (7 :: (7 :: (7 :: (7 :: (7 :: (7 :: (7 :: (7 :: (7 :: (7 :: (7 :: (7 :: (7 :: (7 :: (7 :: (7 :: (7 :: (7 :: (7 :: (7 :: (7 :: (7 :: (7 :: (7 :: (7 :: (7 :: []))))))))))))))))))))))))))))))))))))))))))))))))))))))))))))))))) (List.append (8 :: (8 :: (8 :: (8 :: (8 :: (8 :: (8 :: (8 :: (8 :: (8 :: (8 :: (8 :: (8 :: (8 :: (8 :: (8 :: (8 :: (8 :: (8 :: (8 :: (8 :: (8 :: (8 :: (8 :: (8 :: (8 :: (8 :: (8 :: (8 :: (8 :: (8 :: (8 :: (8 :: (8 :: (8 :: (8 :: (8 :: (8 :: (8 :: (8 :: (8 :: (8 :: (8 :: (8 :: (8 :: (8 :: (8 :: (8 :: (8 :: (8 :: (8 :: (8 :: (8 :: (8 :: (8 :: (8 :: (8 :: (8 :: (8 :: (8 :: (8 :: (8 :: (8 :: (8 :: [])))))))))))))))))))))))))))))))))))))))))))))))))))))))))))))))) (8 :: (8 :: (8 :: (8 :: (8 :: (8 :: (8 :: (8 :: (8 :: (8 :: (8 :: (8 :: (8 :: (8 :: (8 :: (8 :: (8 :: (8 :: (8 :: (8 :: (8 :: (8 :: (8 :: (8 :: (8 :: (8 :: (8 :: (8 :: (8 :: (8 :: (8 :: (8 :: (8 :: (8 :: (8 :: (8 :: (8 :: (8 :: (8 :: (8 :: (8 :: (8 :: (8 :: (8 :: (8 :: (8 :: (8 :: (8 :: (8 :: (8 :: (8 :: (8 :: (8 :: (8 :: (8 :: (8 :: (8 :: (8 :: (8 :: (8 :: (8 :: (8 :: (8 :: (8 :: [])))))))))))))))))))))))))))))))))))))))))))))))))))))))))))))))))))) a4) : Nat) : Int)))))))) fun J5 =>
     (cnd (decide (256 ≤ a0))
      none
      (J5 ((a0, (a1, ())), ()))))) fun J6 =>
   (cnd (decide (65536 ≤ p0))
    none
    (J6 ((p0, (0, ())), ()))))
def math_bits_Len32_g (fu : Nat) : Sig := mkSig [.one (.num .u32)] [] [.one (.num .i64)] [] [] (Int) (fun q => ((q, ()), ())) (fun x y => math_bits_Len32 fu x.1)
theorem math_bits_Len32_ok (fu : Nat) : FnOK Tryz.prog 76 (math_bits_Len32_g fu) :=
  FnOK.intro (ty := ty) (E := envL []) (fu := fu) (an := .two (.go) (.two (.join [(0, .one (.num .u32)), (2, .one (.num .i64))] [] (.go)) (.two (.join [(0, .one (.num .u32)), (2, .one (.num .i64))] [] (.go)) (.go)))) (fun a b => a.1) (fun _ _ => rfl) (envL_ok (l := []) trivial) Tryz.func76 rfl rfl (fun x y => by kernel_rfl)
def math_bits_Len64 (fu : Nat) (p0 : Int) : Option (Int) :=
  (join (Y := ((Int × (Int × Unit)) × Unit)) (fun ((a0, (a1, _)), _) =>
    (join (Y := ((Int × (Int × Unit)) × Unit)) (fun ((a2, (a3, _)), _) =>
      (join (Y := ((Int × (Int × Unit)) × Unit)) (fun ((a4, (a5, _)), _) =>
        (natc (IntKind.wrap .u8 a4) fun a6 =>
         (ltc a6 (ByteArray.size (ByteArray.mk (List.toArray (List.append (List.append (0 :: (1 :: (2 :: (2 :: (3 :: (3 :: (3 :: (3 :: (4 :: (4 :: (4 :: (4 :: (4 :: (4 :: (4 :: (4 :: (5 :: (5 :: (5 :: (5 :: (5 :: (5 :: (5 :: (5 :: (5 :: (5 :: (5 :: (5 :: (5 :: (5 :: (5 :: (5 :: (6 :: (6 :: (6 :: (6 :: (6 :: (6 :: (6 :: (6 :: (6 :: (6 :: (6 :: (6 :: (6 :: (6 :: (6 :: (6 :: (6 :: (6 :: (6 :: (6 :: (6 :: (6 :: (6 :: (6 :: (6 :: (6 :: (6 :: (6 :: (6 :: (6 :: (6 :: (6 :: [])))))))))))))))))))))))))))))))))))))))))))))))))))))))))))))))) (7 :: (7 :: (7 :: (7 :: (7 :: (7 :: (7 :: (7 :: (7 :: (7 :: (7 :: (7 :: (7 :: (7 :: (7 :: (7 :: (7 :: (7 :: (7 :: (7 :: (7 :: (7 :: (7 :: (7 :: (7 :: (7 :: (7 :: (7 :: (7 :: (7 :: (7 :: (7 :: (7 :: (7 :: (7 :: (7 :: (7 :: (7 :: (7 :: (7 :: (7 :: (7 :: (7 :: (7 :: (7 :: (7 :: (7 :: (7 :: (7 :: (7 :: (7 :: (7 :: (7 :: (7 :: (7 :: (7 :: (7 :: (7 :: (7 :: (7 :: (7 :: (7 :: (7 :: (7 :: []))))))))))))))))))))))))))))))))))))))))))))))))))))))))))))))))) (List.append (8 :: (8 :: (8 :: (8 :: (8 :: (8 :: (8 :: (8 :: (8 :: (8 :: (8 :: (8 :: (8 :: (8 :: (8 :: (8 :: (8 :: (8 :: (8 :: (8 :: (8 :: (8 :: (8 :: (8 :: (8 :: (8 :: (8 :: (8 :: (8 :: (8 :: (8 :: (8 :: (8 :: (8 :: (8 :: (8 :: (8 :: (8 :: (8 :: (8 :: (8 :: (8 :: (8 :: (8 :: (8 :: (8 :: (8 :: (8 :: (8 :: (8 :: (8 :: (8 :: (8 :: (8 :: (8 :: (8 :: (8 :: (8 :: (8 :: (8 :: (8 :: (8 :: (8 :: (8 :: [])))))))))))))))))))))))))))))))))))))))))))))))))))))))))))))))) (8 :: (8 :: (8 :: (8 :: (8 :: (8 :: (8 :: (8 :: (8 :: (8 :: (8 :: (8 :: (8 :: (8 :: (8 :: (8 :: (8 :: (8 :: (8 :: (8 :: (8 :: (8 :: (8 :: (8 :: (8 :: (8 :: (8 :: (8 :: (8 :: (8 :: (8 :: (8 :: (8 :: (8 :: (8 :: (8 :: (8 :: (8 :: (8 :: (8 :: (8 :: (8 :: (8 :: (8 :: (8 :: (8 :: (8 :: (8 :: (8 :: (8 :: (8 :: (8 :: (8 :: (8 :: (8 :: (8 :: (8 :: (8 :: (8 :: (8 :: (8 :: (8 :: (8 :: (8 :: []))))))))))))))))))))))))))))))))))))))))))))))))))))))))))))))))))))) (some (IntKind.wrap .i64 (a5 + (IntKind.wrap .i64 (((bAt (ByteArray.mk (List.toArray (List.append (List.append (0 :: (1 :: (2 :: (2 :: (3 :: (3 :: (3 :: (3 :: (4 :: (4 :: (4 :: (4 :: (4 :: (4 :: (4 :: (4 :: (5 :: (5 :: (5 :: (5 :: (5 :: (5 :: (5 :: (5 :: (5 :: (5 :: (5 :: (5 :: (5 :: (5 :: (5 :: (5 :: (6 :: (6 :: (6 :: (6 :: (6 :: (6 :: (6 :: (6 :: (6 :: (6 :: (6 :: (6 :: (6 :: (6 :: (6 :: (6 :: (6 :: (6 :: (6 :: (6 :: (6 :: (6 :: (6 :: (6 :: (6 :: (6 :: (6 :: (6 :: (6 :: (6 :: (6 :: (6 :: [])))))))))))))))))))))))))))))))))))))))))))))))))))))))))))))))) (7 :: (7 :: (7 :: (7 :: (7 :: (7 :: (7 :: (7 :: (7 :: (7 :: (7 :: (7 :: (7 :: (7 :: (7 :: (7 :: (7 :: (7 :: (7 :: (7 :: (7 :: (7 :: (7 :: (7 :: (7 :: (7 :: (7 :: (7 :: (7 :: (7 :: (7 :: (7 :: (7 :: (7 :: (7 :: (7 :: (7 :: (7 :: (7 :: (7 :: (7 :: (7 :: (7 :: (7 :: (7 :: (7 :: (7 :: (7 :: (7 :: (7 :: (7 :: (7 :: (7 :: (7 :: (7 :: (7 :: (7 :: (7 :: (7 :: (7 :: (7 :: (7 :: (7 :: (7 :: []))))))))))))))))))))))))))))))))))))))))))))))))))))))))))))))))) (List.append (8 :: (8 :: (8 :: (8 :: (8 :: (8 :: (8 :: (8 :: (8 :: (8 :: (8 :: (8 :: (8 :: (8 :: (8 :: (8 :: (8 :: (8 :: (8 :: (8 :: (8 :: (8 :: (8 :: (8 :: (8 :: (8 :: (8 :: (8 :: (8 :: (8 :: (8 :: (8 :: (8 :: (8 :: (8 :: (8 :: (8 :: (8 :: (8 :: (8 :: (8 :: (8 :: (8 :: (8 :: (8 :: (8 :: (8 :: (8 :: (8 :: (8 :: (8 :: (8 :: (8 :: (8 :: (8 :: (8 :: (8 :: (8 :: (8 :: (8 :: (8 :: (8 :: (8 :: (8 :: [])))))))))))))))))))))))))))))))))))))))))))))))))))))))))))))))) (8 :: (8 :: (8 :: (8 :: (8 :: (8 :: (8 :: (8 :: (8 :: (8 :: (8 :: (8 :: (8 :: (8 :: (8 :: (8 :: (8 :: (8 :: (8 :: (8 :: (8 :: (8 :: (8 :: (8 :: (8 :: (8 :: (8 :: (8 :: (8 :: (8 :: (8 :: (8 :: (8 :: (8 :: (8 :: (8 :: (8 :: (8 :: (8 :: (8 :: (8 :: (8 :: (8 :: (8 :: (8 :: (8 :: (8 :: (8 :: (8 :: (8 :: (8 :: (8 :: (8 :: (8 :: (8 :: (8 :: (8 :: (8 :: (8 :: (8 :: (8 :: (8 :: (8 :: (8 :: [])))))))))))))))))))))))))))))))))))))))))))))))))))))))))))))))))))) a6) : Nat) : Int)))))))) fun J7 =>
       (cnd (decide (256 ≤ a2))
        none
        (J7 ((a2, (a3, ())), ()))))) fun J8 =>
     (cnd (decide (65536 ≤ a0))
      none
      (J8 ((a0, (a1, ())), ()))))) fun J9 =>
   (cnd (decide (4294967296 ≤ p0))
    none
    (J9 ((p0, (0, ())), ()))))
def math_bits_Len64_g (fu : Nat) : Sig := mkSig [.one (.num .u64)] [] [.one (.num .i64)] [] [] (Int) (fun q => ((q, ()), ())) (fun x y => math_bits_Len64 fu x.1)
theorem math_bits_Len64_ok (fu : Nat) : FnOK Tryz.prog 77 (math_bits_Len64_g fu) :=
  FnOK.intro (ty := ty) (E := envL []) (fu := fu) (an := .two (.go) (.two (.join [(0, .one (.num .u64)), (2, .one (.num .i64))] [] (.go)) (.two (.join [(0, .one (.num .u64)), (2, .one (.num .i64))] [] (.go)) (.two (.join [(0, .one (.num .u64)), (2, .one (.num .i64))] [] (.go)) (.go))))) (fun a b => a.1) (fun _ _ => rfl) (envL_ok (l := []) trivial) Tryz.func77 rfl rfl (fun x y => by kernel_rfl)
def math_bits_Len (fu : Nat) (p0 : Int) : Option (Int) :=
  (optc (math_bits_Len64 fu p0) fun a0 =>
   (some a0))
def math_bits_Len_g (fu : Nat) : Sig := mkSig [.one (.num .u64)] [] [.one (.num .i64)] [] [] (Int) (fun q => ((q, ()), ())) (fun x y => math_bits_Len fu x.1)
theorem math_bits_Len_ok (fu : Nat) : FnOK Tryz.prog 57 (math_bits_Len_g fu) :=
  FnOK.intro (ty := ty) (E := envL [(77, 0, math_bits_Len64_g fu)]) (fu := fu) (an := .go) (fun a b => a.1) (fun _ _ => rfl) (envL_ok (l := [(77, 0, math_bits_Len64_g fu)]) ⟨math_bits_Len64_ok fu, trivial⟩) Tryz.func57 rfl rfl (fun x y => by kernel_rfl)
def slices_nextPowerOfTwo (fu : Nat) (p0 : Int) : Option (Int) :=
  (optc (math_bits_Len fu (IntKind.wrap .u64 p0)) fun a0 =>
   none)
def slices_nextPowerOfTwo_g (fu : Nat) : Sig := mkSig [.one (.num .i64)] [] [.one (.num .u64)] [] [] (Int) (fun q => ((q, ()), ())) (fun x y => slices_nextPowerOfTwo fu x.1)
theorem slices_nextPowerOfTwo_ok (fu : Nat) : FnOK Tryz.prog 86 (slices_nextPowerOfTwo_g fu) :=
  FnOK.intro (ty := ty) (E := envL [(57, 0, math_bits_Len_g fu)]) (fu := fu) (an := .go) (fun a b => a.1) (fun _ _ => rfl) (envL_ok (l := [(57, 0, math_bits_Len_g fu)]) ⟨math_bits_Len_ok fu, trivial⟩) Tryz.func86 rfl rfl (fun x y => by kernel_rfl)
def slices_pdqsortOrdered_int (fu : Nat) (p0 : List Int) (p1 : Int) (p2 : Int) (p3 : Int) : Option (Unit) :=
  (iterF (X := ((List Int × (Int × (Int × (Int × (Bool × (Bool × Unit)))))) × Unit)) (fun L0 ((a1, (a2, (a3, (a4, (a5, (a6, _)))))), _) =>
   (cnd (decide ((IntKind.wrap .i64 (a3 - a2)) ≤ 12))
    (optc (slices_insertionSortOrdered_int fu a1 a2 a3) fun _ =>
     (some ()))
    (cnd (decide (a4 = 0))
     none
     (cnd (!a5)
      none
      none)))) fu ((p0, (p1, (p2, (p3, (true, (true, ())))))), ()))
def slices_pdqsortOrdered_int_g (fu : Nat) : Sig := mkSig [.one (.lst .int), .one (.num .i64), .one (.num .i64), .one (.num .i64)] [] [] [] [] (Unit) (fun q => ((), ())) (fun x y => slices_pdqsortOrdered_int fu x.1 x.2.1 x.2.2.1 x.2.2.2.1)
theorem slices_pdqsortOrdered_int_ok (fu : Nat) : FnOK Tryz.prog 56 (slices_pdqsortOrdered_int_g fu) :=
  FnOK.intro (ty := ty) (E := envL [(67, 0, slices_insertionSortOrdered_int_g fu)]) (fu := fu) (an := .two (.go) (.two (.go) (.one (.loop [(0, .one (.lst .int)), (1, .one (.num .i64)), (2, .one (.num .i64)), (3, .one (.num .i64)), (8, .one (.boo)), (9, .one (.boo))] [] (.go))))) (fun _ _ => ()) (fun _ _ => rfl) (envL_ok (l := [(67, 0, slices_insertionSortOrdered_int_g fu)]) ⟨slices_insertionSortOrdered_int_ok fu, trivial⟩) Tryz.func56 rfl rfl (fun x y => by kernel_rfl)
def slices_Sort_int (fu : Nat) (p0 : List Int) : Option (Unit) :=
  (optc (math_bits_Len fu (IntKind.wrap .u64 (((List.length p0) : Nat) : Int))) fun a0 =>
   (optc (slices_pdqsortOrdered_int fu p0 0 (((List.length p0) : Nat) : Int) a0) fun _ =>
    (some ())))
def slices_Sort_int_g (fu : Nat) : Sig := mkSig [.one (.lst .int)] [] [] [] [] (Unit) (fun q => ((), ())) (fun x y => slices_Sort_int fu x.1)
theorem slices_Sort_int_ok (fu : Nat) : FnOK Tryz.prog 46 (slices_Sort_int_g fu) :=
  FnOK.intro (ty := ty) (E := envL [(56, 0, slices_pdqsortOrdered_int_g fu), (57, 0, math_bits_Len_g fu)]) (fu := fu) (an := .go) (fun _ _ => ()) (fun _ _ => rfl) (envL_ok (l := [(56, 0, slices_pdqsortOrdered_int_g fu), (57, 0, math_bits_Len_g fu)]) ⟨slices_pdqsortOrdered_int_ok fu, math_bits_Len_ok fu, trivial⟩) Tryz.func46 rfl rfl (fun x y => by kernel_rfl)
def policy_sizes (fu : Nat) (p0 : D.Config) (p1 : D.Book) : Option (D.Arr3Int) :=
  (some (D.Arr3Int.mk (((List.length (D.Config.People p0)) : Nat) : Int) (((List.length (D.Config.Schedules p0)) : Nat) : Int) (((List.length (D.Book.Teams p1)) : Nat) : Int)))
def policy_sizes_g (fu : Nat) : Sig := mkSig [.st .Config, .st .Book] [] [.st .Arr3Int] [] [] (D.Arr3Int) (fun q => ((q, ()), ())) (fun x y => policy_sizes fu x.1 x.2.1)
theorem policy_sizes_ok (fu : Nat) : FnOK Tryz.prog 78 (policy_sizes_g fu) :=
  FnOK.intro (ty := ty) (E := envL []) (fu := fu) (an := .go) (fun a b => a.1) (fun _ _ => rfl) (envL_ok (l := []) trivial) Tryz.func78 rfl rfl (fun x y => by kernel_rfl)
def lexer_small (fu : Nat) (p0 : Int) : Option (Bool) :=
  (cnd (decide (97 ≤ p0))
   (cnd (decide (p0 ≤ 122))
    (some true)
    (some false))
   (some false))
def lexer_small_g (fu : Nat) : Sig := mkSig [.one (.num .u8)] [] [.one (.boo)] [] [] (Bool) (fun q => ((q, ()), ())) (fun x y => lexer_small fu x.1)
theorem lexer_small_ok (fu : Nat) : FnOK Tryz.prog 138 (lexer_small_g fu) :=
  FnOK.intro (ty := ty) (E := envL []) (fu := fu) (an := .go) (fun a b => a.1) (fun _ _ => rfl) (envL_ok (l := []) trivial) Tryz.func138 rfl rfl (fun x y => by kernel_rfl)
def lexer_digit (fu : Nat) (p0 : Int) : Option (Bool) :=
  (cnd (decide (48 ≤ p0))
   (cnd (decide (p0 ≤ 57))
    (some true)
    (some false))
   (some false))
def lexer_digit_g (fu : Nat) : Sig := mkSig [.one (.num .u8)] [] [.one (.boo)] [] [] (Bool) (fun q => ((q, ()), ())) (fun x y => lexer_digit fu x.1)
theorem lexer_digit_ok (fu : Nat) : FnOK Tryz.prog 139 (lexer_digit_g fu) :=
  FnOK.intro (ty := ty) (E := envL []) (fu := fu) (an := .go) (fun a b => a.1) (fun _ _ => rfl) (envL_ok (l := []) trivial) Tryz.func139 rfl rfl (fun x y => by kernel_rfl)
def lexer_Name (fu : Nat) (p0 : ByteArray) : Option (Bool) :=
  (join (Y := ((ByteArray × Unit) × Unit)) (fun ((a0, _), _) =>
    (iterF (X := ((ByteArray × (Int × (Int × Unit))) × Unit)) (fun L1 ((a2, (a3, (a4, _))), _) =>
     (cnd (decide (a4 < a3))
      (join (Y := ((ByteArray × (Int × (Int × Unit))) × Unit)) (fun ((a5, (a6, (a7, _))), _) =>
        (L1 ((a5, (a6, ((IntKind.wrap .i64 (a7 + 1)), ()))), ()))) fun J8 =>
       (natc a4 fun a9 =>
        (ltc a9 (ByteArray.size a2) (optc (lexer_small fu (((bAt a2 a9) : Nat) : Int)) fun a10 =>
         (cnd a10
          (J8 ((a2, (a3, (a4, ()))), ()))
          (optc (lexer_digit fu (((bAt a2 a9) : Nat) : Int)) fun a11 =>
           (cnd a11
            (J8 ((a2, (a3, (a4, ()))), ()))
            (cnd (decide ((((bAt a2 a9) : Nat) : Int) ≠ 95))
             (cnd (decide ((((bAt a2 a9) : Nat) : Int) ≠ 45))
              (some false)
              (J8 ((a2, (a3, (a4, ()))), ())))
             (J8 ((a2, (a3, (a4, ()))), ()))))))))))
      (some true))) fu ((a0, ((((ByteArray.size a0) : Nat) : Int), (0, ()))), ()))) fun J12 =>
   (cnd (decide (p0 = (ByteArray.mk (List.toArray []))))
    (some false)
    (cnd (decide (24 < (((ByteArray.size p0) : Nat) : Int)))
     (some false)
     (natc 0 fun a13 =>
      (ltc a13 (ByteArray.size p0) (optc (lexer_small fu (((bAt p0 a13) : Nat) : Int)) fun a14 =>
       (cnd a14
        (J12 ((p0, ()), ()))
        (some false))))))))
def lexer_Name_g (fu : Nat) : Sig := mkSig [.one (.str)] [] [.one (.boo)] [] [] (Bool) (fun q => ((q, ()), ())) (fun x y => lexer_Name fu x.1)
theorem lexer_Name_ok (fu : Nat) : FnOK Tryz.prog 120 (lexer_Name_g fu) :=
  FnOK.intro (ty := ty) (E := envL [(138, 0, lexer_small_g fu), (139, 0, lexer_digit_g fu)]) (fu := fu) (an := .two (.go) (.two (.join [(0, .one (.str))] [] (.go)) (.two (.two (.go) (.one (.loop [(0, .one (.str)), (19, .one (.num .i64)), (20, .one (.num .i64))] [] (.two (.go) (.two (.go) (.two (.join [(0, .one (.str)), (19, .one (.num .i64)), (20, .one (.num .i64))] [] (.go)) (.go))))))) (.go)))) (fun a b => a.1) (fun _ _ => rfl) (envL_ok (l := [(138, 0, lexer_small_g fu), (139, 0, lexer_digit_g fu)]) ⟨lexer_small_ok fu, lexer_digit_ok fu, trivial⟩) Tryz.func120 rfl rfl (fun x y => by kernel_rfl)
def resolve_name (fu : Nat) (p0 : ByteArray) (p1 : List (ByteArray × Bool)) : Option (Int × List (ByteArray × Bool)) :=
  (optc (lexer_Name fu p0) fun a0 =>
   (cnd (!a0)
    (some (2, p1))
    (cnd (memB p0 p1)
     (some (4, p1))
     (chk (cntB p0 p1) 0 (some (0, (p1 ++ ((p0, true) :: []))))))))
def resolve_name_g (fu : Nat) : Sig := mkSig [.one (.str), .one (.mref 101)] [(101, .sm)] [.one (.num .i64)] [(101, .sm)] [] (Int × List (ByteArray × Bool)) (fun q => ((q.1, ()), (q.2, ()))) (fun x y => resolve_name fu x.1 y.1)
theorem resolve_name_ok (fu : Nat) : FnOK Tryz.prog 102 (resolve_name_g fu) :=
  FnOK.intro (ty := ty) (E := envL [(120, 0, lexer_Name_g fu)]) (fu := fu) (an := .go) (fun a b => (a.1, b.1)) (fun _ _ => rfl) (envL_ok (l := [(120, 0, lexer_Name_g fu)]) ⟨lexer_Name_ok fu, trivial⟩) Tryz.func102 rfl rfl (fun x y => by kernel_rfl)
def resolve_index (fu : Nat) (p0 : Int) (p1 : Int) : Option (Bool) :=
  (cnd (decide (0 ≤ p0))
   (cnd (decide (p0 < p1))
    (some true)
    (some false))
   (some false))
def resolve_index_g (fu : Nat) : Sig := mkSig [.one (.num .i64), .one (.num .i64)] [] [.one (.boo)] [] [] (Bool) (fun q => ((q, ()), ())) (fun x y => resolve_index fu x.1 x.2.1)
theorem resolve_index_ok (fu : Nat) : FnOK Tryz.prog 121 (resolve_index_g fu) :=
  FnOK.intro (ty := ty) (E := envL []) (fu := fu) (an := .go) (fun a b => a.1) (fun _ _ => rfl) (envL_ok (l := []) trivial) Tryz.func121 rfl rfl (fun x y => by kernel_rfl)
def week_Check (fu : Nat) (p0 : List D.Window) : Option (Int) :=
  (cnd (decide (14 < (((List.length p0) : Nat) : Int)))
   (some 5)
   (iterF (X := ((List D.Window × (List D.Window × (Int × (Int × Unit)))) × Unit)) (fun L0 ((a1, (a2, (a3, (a4, _)))), _) =>
    (cnd (decide (a4 < a3))
     (join (Y := ((List D.Window × (List D.Window × (Int × (Int × Unit)))) × Unit)) (fun ((a5, (a6, (a7, (a8, _)))), _) =>
       (L0 ((a5, (a6, (a7, ((IntKind.wrap .i64 (a8 + 1)), ())))), ()))) fun J9 =>
      (atc a2 a4 fun a10 =>
       (cnd (decide ((D.Window.From a10) < 0))
        (some 1)
        (cnd (decide ((D.Window.To a10) ≤ (D.Window.From a10)))
         (some 1)
         (cnd (decide (604800 < (D.Window.To a10)))
          (some 1)
          (cnd (decide (0 < a4))
           (atc a1 (IntKind.wrap .i64 (a4 - 1)) fun a11 =>
            (cnd (decide ((D.Window.From a10) < (D.Window.To a11)))
             (some 6)
             (J9 ((a1, (a2, (a3, (a4, ())))), ()))))
           (J9 ((a1, (a2, (a3, (a4, ())))), ()))))))))
     (some 0))) fu ((p0, (p0, ((((List.length p0) : Nat) : Int), (0, ())))), ())))
def week_Check_g (fu : Nat) : Sig := mkSig [.one (.lst .Window)] [] [.one (.num .i64)] [] [] (Int) (fun q => ((q, ()), ())) (fun x y => week_Check fu x.1)
theorem week_Check_ok (fu : Nat) : FnOK Tryz.prog 122 (week_Check_g fu) :=
  FnOK.intro (ty := ty) (E := envL []) (fu := fu) (an := .two (.go) (.two (.go) (.two (.two (.go) (.one (.loop [(0, .one (.lst .Window)), (8, .one (.lst .Window)), (9, .one (.num .i64)), (10, .one (.num .i64))] [] (.two (.go) (.two (.go) (.two (.join [(0, .one (.lst .Window)), (8, .one (.lst .Window)), (9, .one (.num .i64)), (10, .one (.num .i64))] [] (.go)) (.go))))))) (.go)))) (fun a b => a.1) (fun _ _ => rfl) (envL_ok (l := []) trivial) Tryz.func122 rfl rfl (fun x y => by kernel_rfl)
def resolve_in (fu : Nat) (p0 : Int) (p1 : Int) (p2 : Int) : Option (Bool) :=
  (cnd (decide (p1 ≤ p0))
   (cnd (decide (p0 ≤ p2))
    (some true)
    (some false))
   (some false))
def resolve_in_g (fu : Nat) : Sig := mkSig [.one (.num .i64), .one (.num .i64), .one (.num .i64)] [] [.one (.boo)] [] [] (Bool) (fun q => ((q, ()), ())) (fun x y => resolve_in fu x.1 x.2.1 x.2.2.1)
theorem resolve_in_ok (fu : Nat) : FnOK Tryz.prog 140 (resolve_in_g fu) :=
  FnOK.intro (ty := ty) (E := envL []) (fu := fu) (an := .go) (fun a b => a.1) (fun _ _ => rfl) (envL_ok (l := []) trivial) Tryz.func140 rfl rfl (fun x y => by kernel_rfl)
def resolve_hours (fu : Nat) (p0 : Int) : Option (Bool) :=
  (optc (resolve_in fu p0 0 604800) fun a0 =>
   (cnd a0
    (nzc 3600 (cnd (decide ((Int.tmod p0 3600) = 0))
     (some true)
     (some false)))
    (some false)))
def resolve_hours_g (fu : Nat) : Sig := mkSig [.one (.num .i64)] [] [.one (.boo)] [] [] (Bool) (fun q => ((q, ()), ())) (fun x y => resolve_hours fu x.1)
theorem resolve_hours_ok (fu : Nat) : FnOK Tryz.prog 123 (resolve_hours_g fu) :=
  FnOK.intro (ty := ty) (E := envL [(140, 0, resolve_in_g fu)]) (fu := fu) (an := .go) (fun a b => a.1) (fun _ _ => rfl) (envL_ok (l := [(140, 0, resolve_in_g fu)]) ⟨resolve_in_ok fu, trivial⟩) Tryz.func123 rfl rfl (fun x y => by kernel_rfl)
def resolve_checkPerson (fu : Nat) (p0 : D.Config) (p1 : D.Person) : Option (Int) :=
  (join (Y := (Unit × Unit)) (fun (_, _) =>
    (some 0)) fun J0 =>
   (optc (resolve_index fu (D.Person.Zone p1) (((List.length (D.Config.Zones p0)) : Nat) : Int)) fun a1 =>
    (cnd (!a1)
     (some 3)
     (optc (week_Check fu (D.Person.Quiet p1)) fun a2 =>
      (cnd (decide (a2 ≠ 0))
       (some 8)
       (optc (resolve_hours fu (D.Person.MaxWeek p1)) fun a3 =>
        (cnd a3
         (optc (resolve_hours fu (D.Person.MinRest p1)) fun a4 =>
          (cnd a4
           (J0 ((), ()))
           (some 1)))
         (some 1))))))))
def resolve_checkPerson_g (fu : Nat) : Sig := mkSig [.st .Config, .st .Person] [] [.one (.num .i64)] [] [] (Int) (fun q => ((q, ()), ())) (fun x y => resolve_checkPerson fu x.1 x.2.1)
theorem resolve_checkPerson_ok (fu : Nat) : FnOK Tryz.prog 103 (resolve_checkPerson_g fu) :=
  FnOK.intro (ty := ty) (E := envL [(121, 0, resolve_index_g fu), (122, 0, week_Check_g fu), (123, 0, resolve_hours_g fu)]) (fu := fu) (an := .two (.go) (.two (.join [] [] (.go)) (.go))) (fun a b => a.1) (fun _ _ => rfl) (envL_ok (l := [(121, 0, resolve_index_g fu), (122, 0, week_Check_g fu), (123, 0, resolve_hours_g fu)]) ⟨resolve_index_ok fu, week_Check_ok fu, resolve_hours_ok fu, trivial⟩) Tryz.func103 rfl rfl (fun x y => by kernel_rfl)
def resolve_Check_1 (fu : Nat) (p0 : D.Zone) : Option (ByteArray) :=
  (some (D.Zone.Name p0))
def resolve_Check_1_g (fu : Nat) : Sig := mkSig [.st .Zone] [] [.one (.str)] [] [] (ByteArray) (fun q => ((q, ()), ())) (fun x y => resolve_Check_1 fu x.1)
theorem resolve_Check_1_ok (fu : Nat) : FnOK Tryz.prog 100 (resolve_Check_1_g fu) :=
  FnOK.intro (ty := ty) (E := envL []) (fu := fu) (an := .go) (fun a b => a.1) (fun _ _ => rfl) (envL_ok (l := []) trivial) Tryz.func100 rfl rfl (fun x y => by kernel_rfl)
def zone_in (fu : Nat) (p0 : Int) (p1 : Int) (p2 : Int) : Option (Bool) :=
  (cnd (decide (p1 ≤ p0))
   (cnd (decide (p0 ≤ p2))
    (some true)
    (some false))
   (some false))
def zone_in_g (fu : Nat) : Sig := mkSig [.one (.num .i64), .one (.num .i64), .one (.num .i64)] [] [.one (.boo)] [] [] (Bool) (fun q => ((q, ()), ())) (fun x y => zone_in fu x.1 x.2.1 x.2.2.1)
theorem zone_in_ok (fu : Nat) : FnOK Tryz.prog 148 (zone_in_g fu) :=
  FnOK.intro (ty := ty) (E := envL []) (fu := fu) (an := .go) (fun a b => a.1) (fun _ _ => rfl) (envL_ok (l := []) trivial) Tryz.func148 rfl rfl (fun x y => by kernel_rfl)
def zone_rule (fu : Nat) (p0 : D.YearRule) : Option (Int) :=
  (join (Y := (Unit × Unit)) (fun (_, _) =>
    (some 0)) fun J0 =>
   (optc (zone_in fu (D.YearRule.From p0) 1970 2240) fun a1 =>
    (cnd a1
     (optc (zone_in fu (D.YearRule.To p0) (D.YearRule.From p0) 2240) fun a2 =>
      (cnd a2
       (optc (zone_in fu (D.YearRule.Month p0) 1 12) fun a3 =>
        (cnd a3
         (optc (zone_in fu (D.YearRule.Week p0) 1 5) fun a4 =>
          (cnd a4
           (optc (zone_in fu (D.YearRule.Weekday p0) 0 6) fun a5 =>
            (cnd a5
             (optc (zone_in fu (D.YearRule.Second p0) 0 86399) fun a6 =>
              (cnd a6
               (optc (zone_in fu (D.YearRule.Offset p0) (-64800) 64800) fun a7 =>
                (cnd a7
                 (J0 ((), ()))
                 (some 1)))
               (some 1)))
             (some 1)))
           (some 1)))
         (some 1)))
       (some 1)))
     (some 1))))
def zone_rule_g (fu : Nat) : Sig := mkSig [.st .YearRule] [] [.one (.num .i64)] [] [] (Int) (fun q => ((q, ()), ())) (fun x y => zone_rule fu x.1)
theorem zone_rule_ok (fu : Nat) : FnOK Tryz.prog 155 (zone_rule_g fu) :=
  FnOK.intro (ty := ty) (E := envL [(148, 0, zone_in_g fu)]) (fu := fu) (an := .two (.go) (.two (.join [] [] (.go)) (.go))) (fun a b => a.1) (fun _ _ => rfl) (envL_ok (l := [(148, 0, zone_in_g fu)]) ⟨zone_in_ok fu, trivial⟩) Tryz.func155 rfl rfl (fun x y => by kernel_rfl)
def civil_Leap (fu : Nat) (p0 : Int) : Option (Bool) :=
  (nzc 4 (cnd (decide ((Int.tmod p0 4) = 0))
   (nzc 100 (cnd (decide ((Int.tmod p0 100) ≠ 0))
    (some true)
    (nzc 400 (cnd (decide ((Int.tmod p0 400) = 0))
     (some true)
     (some false)))))
   (some false)))
def civil_Leap_g (fu : Nat) : Sig := mkSig [.one (.num .i64)] [] [.one (.boo)] [] [] (Bool) (fun q => ((q, ()), ())) (fun x y => civil_Leap fu x.1)
theorem civil_Leap_ok (fu : Nat) : FnOK Tryz.prog 160 (civil_Leap_g fu) :=
  FnOK.intro (ty := ty) (E := envL []) (fu := fu) (an := .go) (fun a b => a.1) (fun _ _ => rfl) (envL_ok (l := []) trivial) Tryz.func160 rfl rfl (fun x y => by kernel_rfl)
def civil_Days (fu : Nat) (p0 : Int) (p1 : Int) : Option (Int) :=
  (join (Y := ((Int × (Int × Unit)) × Unit)) (fun ((a0, (a1, _)), _) =>
    (join (Y := ((Int × Unit) × ((Int × (Int × (Int × (Int × (Int × (Int × (Int × (Int × (Int × (Int × (Int × (Int × Unit)))))))))))) × Unit))) (fun ((a2, _), ((a3, (a4, (a5, (a6, (a7, (a8, (a9, (a10, (a11, (a12, (a13, (a14, _)))))))))))), _)) =>
      (cnd (decide ((IntKind.wrap .i64 (a2 - 1)) = ((0 : Nat) : Int)))
       (some a3)
       (cnd (decide ((IntKind.wrap .i64 (a2 - 1)) = (((0 + 1) : Nat) : Int)))
        (some a4)
        (cnd (decide ((IntKind.wrap .i64 (a2 - 1)) = ((((0 + 1) + 1) : Nat) : Int)))
         (some a5)
         (cnd (decide ((IntKind.wrap .i64 (a2 - 1)) = (((((0 + 1) + 1) + 1) : Nat) : Int)))
          (some a6)
          (cnd (decide ((IntKind.wrap .i64 (a2 - 1)) = ((((((0 + 1) + 1) + 1) + 1) : Nat) : Int)))
           (some a7)
           (cnd (decide ((IntKind.wrap .i64 (a2 - 1)) = (((((((0 + 1) + 1) + 1) + 1) + 1) : Nat) : Int)))
            (some a8)
            (cnd (decide ((IntKind.wrap .i64 (a2 - 1)) = ((((((((0 + 1) + 1) + 1) + 1) + 1) + 1) : Nat) : Int)))
             (some a9)
             (cnd (decide ((IntKind.wrap .i64 (a2 - 1)) = (((((((((0 + 1) + 1) + 1) + 1) + 1) + 1) + 1) : Nat) : Int)))
              (some a10)
              (cnd (decide ((IntKind.wrap .i64 (a2 - 1)) = ((((((((((0 + 1) + 1) + 1) + 1) + 1) + 1) + 1) + 1) : Nat) : Int)))
               (some a11)
               (cnd (decide ((IntKind.wrap .i64 (a2 - 1)) = (((((((((((0 + 1) + 1) + 1) + 1) + 1) + 1) + 1) + 1) + 1) : Nat) : Int)))
                (some a12)
                (cnd (decide ((IntKind.wrap .i64 (a2 - 1)) = ((((((((((((0 + 1) + 1) + 1) + 1) + 1) + 1) + 1) + 1) + 1) + 1) : Nat) : Int)))
                 (some a13)
                 (cnd (decide ((IntKind.wrap .i64 (a2 - 1)) = (((((((((((((0 + 1) + 1) + 1) + 1) + 1) + 1) + 1) + 1) + 1) + 1) + 1) : Nat) : Int)))
                  (some a14)
                  none))))))))))))) fun J15 =>
     (cnd (decide (a1 = 2))
      (optc (civil_Leap fu a0) fun a16 =>
       (cnd a16
        (some 29)
        (J15 ((a1, ()), ((31, (28, (31, (30, (31, (30, (31, (31, (30, (31, (30, (31, ())))))))))))), ())))))
      (J15 ((a1, ()), ((31, (28, (31, (30, (31, (30, (31, (31, (30, (31, (30, (31, ())))))))))))), ())))))) fun J17 =>
   (cnd (decide (p1 < 1))
    (some 0)
    (cnd (decide (12 < p1))
     (some 0)
     (J17 ((p0, (p1, ())), ())))))
def civil_Days_g (fu : Nat) : Sig := mkSig [.one (.num .i64), .one (.num .i64)] [] [.one (.num .i64)] [] [] (Int) (fun q => ((q, ()), ())) (fun x y => civil_Days fu x.1 x.2.1)
theorem civil_Days_ok (fu : Nat) : FnOK Tryz.prog 151 (civil_Days_g fu) :=
  FnOK.intro (ty := ty) (E := envL [(160, 0, civil_Leap_g fu)]) (fu := fu) (an := .two (.go) (.two (.join [(0, .one (.num .i64)), (1, .one (.num .i64))] [] (.go)) (.two (.go) (.two (.join [(1, .one (.num .i64)), (5, .one (.ref 1005))] [(1005, .box [.num .i64, .num .i64, .num .i64, .num .i64, .num .i64, .num .i64, .num .i64, .num .i64, .num .i64, .num .i64, .num .i64, .num .i64])] (.go)) (.go))))) (fun a b => a.1) (fun _ _ => rfl) (envL_ok (l := [(160, 0, civil_Leap_g fu)]) ⟨civil_Leap_ok fu, trivial⟩) Tryz.func151 rfl rfl (fun x y => by kernel_rfl)
def civil_Valid (fu : Nat) (p0 : D.Date) : Option (Bool) :=
  (cnd (decide (1970 ≤ (D.Date.Year p0)))
   (cnd (decide ((D.Date.Year p0) ≤ 2240))
    (cnd (decide (1 ≤ (D.Date.Day p0)))
     (optc (civil_Days fu (D.Date.Year p0) (D.Date.Month p0)) fun a0 =>
      (cnd (decide ((D.Date.Day p0) ≤ a0))
       (some true)
       (some false)))
     (some false))
    (some false))
   (some false))
def civil_Valid_g (fu : Nat) : Sig := mkSig [.st .Date] [] [.one (.boo)] [] [] (Bool) (fun q => ((q, ()), ())) (fun x y => civil_Valid fu x.1)
theorem civil_Valid_ok (fu : Nat) : FnOK Tryz.prog 164 (civil_Valid_g fu) :=
  FnOK.intro (ty := ty) (E := envL [(151, 0, civil_Days_g fu)]) (fu := fu) (an := .go) (fun a b => a.1) (fun _ _ => rfl) (envL_ok (l := [(151, 0, civil_Days_g fu)]) ⟨civil_Days_ok fu, trivial⟩) Tryz.func164 rfl rfl (fun x y => by kernel_rfl)
def civil_floor (fu : Nat) (p0 : Int) (p1 : Int) : Option (Int) :=
  (nzc p1 (join (Y := ((Int × Unit) × Unit)) (fun ((a0, _), _) =>
    (some a0)) fun J1 =>
   (nzc p1 (cnd (decide ((Int.tmod p0 p1) < 0))
    (J1 (((IntKind.wrap .i64 ((IntKind.wrap .i64 (Int.tdiv p0 p1)) - 1)), ()), ()))
    (J1 (((IntKind.wrap .i64 (Int.tdiv p0 p1)), ()), ()))))))
def civil_floor_g (fu : Nat) : Sig := mkSig [.one (.num .i64), .one (.num .i64)] [] [.one (.num .i64)] [] [] (Int) (fun q => ((q, ()), ())) (fun x y => civil_floor fu x.1 x.2.1)
theorem civil_floor_ok (fu : Nat) : FnOK Tryz.prog 159 (civil_floor_g fu) :=
  FnOK.intro (ty := ty) (E := envL []) (fu := fu) (an := .two (.go) (.two (.go) (.two (.join [(5, .one (.num .i64))] [] (.go)) (.go)))) (fun a b => a.1) (fun _ _ => rfl) (envL_ok (l := []) trivial) Tryz.func159 rfl rfl (fun x y => by kernel_rfl)
def civil_count (fu : Nat) (p0 : Int) : Option (Int) :=
  (optc (civil_floor fu (IntKind.wrap .i64 (p0 - 1)) 4) fun a0 =>
   (optc (civil_floor fu (IntKind.wrap .i64 (p0 - 1)) 100) fun a1 =>
    (optc (civil_floor fu (IntKind.wrap .i64 (p0 - 1)) 400) fun a2 =>
     (some (IntKind.wrap .i64 ((IntKind.wrap .i64 ((IntKind.wrap .i64 ((IntKind.wrap .i64 ((IntKind.wrap .i64 (365 * (IntKind.wrap .i64 (p0 - 1970)))) + a0)) - a1)) + a2)) - 477))))))
def civil_count_g (fu : Nat) : Sig := mkSig [.one (.num .i64)] [] [.one (.num .i64)] [] [] (Int) (fun q => ((q, ()), ())) (fun x y => civil_count fu x.1)
theorem civil_count_ok (fu : Nat) : FnOK Tryz.prog 149 (civil_count_g fu) :=
  FnOK.intro (ty := ty) (E := envL [(159, 0, civil_floor_g fu)]) (fu := fu) (an := .go) (fun a b => a.1) (fun _ _ => rfl) (envL_ok (l := [(159, 0, civil_floor_g fu)]) ⟨civil_floor_ok fu, trivial⟩) Tryz.func149 rfl rfl (fun x y => by kernel_rfl)
def civil_number (fu : Nat) (p0 : D.Date) : Option (Int) :=
  (optc (civil_count fu (D.Date.Year p0)) fun a0 =>
   (iterF (X := ((Int × (Int × Unit)) × (D.Date × Unit))) (fun L1 ((a2, (a3, _)), (a4, _)) =>
    (cnd (decide (a3 < (D.Date.Month a4)))
     (optc (civil_Days fu (D.Date.Year a4) a3) fun a5 =>
      (L1 (((IntKind.wrap .i64 (a2 + a5)), ((IntKind.wrap .i64 (a3 + 1)), ())), (a4, ()))))
     (some a2))) fu (((IntKind.wrap .i64 ((IntKind.wrap .i64 (a0 + (D.Date.Day p0))) - 1)), (1, ())), (p0, ()))))
def civil_number_g (fu : Nat) : Sig := mkSig [.st .Date] [] [.one (.num .i64)] [] [] (Int) (fun q => ((q, ()), ())) (fun x y => civil_number fu x.1)
theorem civil_number_ok (fu : Nat) : FnOK Tryz.prog 165 (civil_number_g fu) :=
  FnOK.intro (ty := ty) (E := envL [(149, 0, civil_count_g fu), (151, 0, civil_Days_g fu)]) (fu := fu) (an := .two (.go) (.two (.go) (.two (.two (.go) (.one (.loop [(1, .one (.ref 1001)), (3, .one (.num .i64)), (4, .one (.num .i64))] [(1001, .boxst .Date)] (.go)))) (.go)))) (fun a b => a.1) (fun _ _ => rfl) (envL_ok (l := [(149, 0, civil_count_g fu), (151, 0, civil_Days_g fu)]) ⟨civil_count_ok fu, civil_Days_ok fu, trivial⟩) Tryz.func165 rfl rfl (fun x y => by kernel_rfl)
def civil_Weekday (fu : Nat) (p0 : Int) : Option (Int) :=
  (nzc 7 (nzc 7 (some (Int.tmod (IntKind.wrap .i64 ((Int.tmod p0 7) + 10)) 7))))
def civil_Weekday_g (fu : Nat) : Sig := mkSig [.one (.num .i64)] [] [.one (.num .i64)] [] [] (Int) (fun q => ((q, ()), ())) (fun x y => civil_Weekday fu x.1)
theorem civil_Weekday_ok (fu : Nat) : FnOK Tryz.prog 82 (civil_Weekday_g fu) :=
  FnOK.intro (ty := ty) (E := envL []) (fu := fu) (an := .go) (fun a b => a.1) (fun _ _ => rfl) (envL_ok (l := []) trivial) Tryz.func82 rfl rfl (fun x y => by kernel_rfl)
def civil_Nth (fu : Nat) (p0 : Int) (p1 : Int) (p2 : Int) (p3 : Int) : Option (Int × Int) :=
  (join (Y := ((Int × (Int × (Int × (Int × Unit)))) × (D.Date × Unit))) (fun ((a0, (a1, (a2, (a3, _)))), (a4, _)) =>
    (optc (civil_number fu a4) fun a5 =>
     (optc (civil_Weekday fu a5) fun a6 =>
      (nzc 7 (join (Y := ((Int × Unit) × Unit)) (fun ((a7, _), _) =>
        (some (a7, 0))) fun J8 =>
       (optc (civil_Days fu a0 a1) fun a9 =>
        (cnd (decide ((IntKind.wrap .i64 (a5 + a9)) ≤ (IntKind.wrap .i64 ((IntKind.wrap .i64 (a5 + (Int.tmod (IntKind.wrap .i64 ((IntKind.wrap .i64 (a3 - a6)) + 7)) 7))) + (IntKind.wrap .i64 (7 * (IntKind.wrap .i64 (a2 - 1))))))))
         (J8 (((IntKind.wrap .i64 ((IntKind.wrap .i64 ((IntKind.wrap .i64 (a5 + (Int.tmod (IntKind.wrap .i64 ((IntKind.wrap .i64 (a3 - a6)) + 7)) 7))) + (IntKind.wrap .i64 (7 * (IntKind.wrap .i64 (a2 - 1)))))) - 7)), ()), ()))
         (J8 (((IntKind.wrap .i64 ((IntKind.wrap .i64 (a5 + (Int.tmod (IntKind.wrap .i64 ((IntKind.wrap .i64 (a3 - a6)) + 7)) 7))) + (IntKind.wrap .i64 (7 * (IntKind.wrap .i64 (a2 - 1)))))), ()), ()))))))))) fun J10 =>
   (optc (civil_Valid fu (D.Date.mk p0 p1 1)) fun a11 =>
    (cnd a11
     (cnd (decide (p2 < 1))
      (some (0, 1))
      (cnd (decide (5 < p2))
       (some (0, 1))
       (cnd (decide (p3 < 0))
        (some (0, 1))
        (cnd (decide (6 < p3))
         (some (0, 1))
         (J10 ((p0, (p1, (p2, (p3, ())))), ((D.Date.mk p0 p1 1), ())))))))
     (some (0, 1)))))
def civil_Nth_g (fu : Nat) : Sig := mkSig [.one (.num .i64), .one (.num .i64), .one (.num .i64), .one (.num .i64)] [] [.one (.num .i64), .one (.num .i64)] [] [] (Int × Int) (fun q => ((q.1, q.2, ()), ())) (fun x y => civil_Nth fu x.1 x.2.1 x.2.2.1 x.2.2.2.1)
theorem civil_Nth_ok (fu : Nat) : FnOK Tryz.prog 156 (civil_Nth_g fu) :=
  FnOK.intro (ty := ty) (E := envL [(82, 0, civil_Weekday_g fu), (151, 0, civil_Days_g fu), (164, 0, civil_Valid_g fu), (165, 0, civil_number_g fu)]) (fu := fu) (an := .two (.go) (.two (.go) (.two (.join [(0, .one (.num .i64)), (1, .one (.num .i64)), (2, .one (.num .i64)), (3, .one (.num .i64)), (10, .one (.ref 1010))] [(1010, .boxst .Date)] (.go)) (.two (.go) (.two (.go) (.two (.join [(12, .one (.num .i64))] [] (.go)) (.go))))))) (fun a b => (a.1, a.2.1)) (fun _ _ => rfl) (envL_ok (l := [(82, 0, civil_Weekday_g fu), (151, 0, civil_Days_g fu), (164, 0, civil_Valid_g fu), (165, 0, civil_number_g fu)]) ⟨civil_Weekday_ok fu, civil_Days_ok fu, civil_Valid_ok fu, civil_number_ok fu, trivial⟩) Tryz.func156 rfl rfl (fun x y => by kernel_rfl)
def zone_occurrences_1 (fu : Nat) (p0 : D.occurrence) (p1 : D.occurrence) : Option (Int) :=
  (some (IntKind.wrap .i64 ((D.occurrence.local_ p0) - (D.occurrence.local_ p1))))
def zone_occurrences_1_g (fu : Nat) : Sig := mkSig [.st .occurrence, .st .occurrence] [] [.one (.num .i64)] [] [] (Int) (fun q => ((q, ()), ())) (fun x y => zone_occurrences_1 fu x.1 x.2.1)
theorem zone_occurrences_1_ok (fu : Nat) : FnOK Tryz.prog 158 (zone_occurrences_1_g fu) :=
  FnOK.intro (ty := ty) (E := envL []) (fu := fu) (an := .go) (fun a b => a.1) (fun _ _ => rfl) (envL_ok (l := []) trivial) Tryz.func158 rfl rfl (fun x y => by kernel_rfl)
def slices_insertionSortCmpFunc_occurrence_3f158_0 (fu : Nat) (p0 : List (D.occurrence)) (p1 : Int) (p2 : Int) : Option (List (D.occurrence)) :=
  (iterF (X := ((Int × (Int × (Int × Unit))) × (List D.occurrence × Unit))) (fun L0 ((a1, (a2, (a3, _))), (a4, _)) =>
   (cnd (decide (a3 < a2))
    (join (Y := ((Int × (Int × (Int × Unit))) × (List D.occurrence × Unit))) (fun ((a5, (a6, (a7, _))), (a8, _)) =>
      (L0 ((a5, (a6, ((IntKind.wrap .i64 (a7 + 1)), ()))), (a8, ())))) fun J9 =>
     (iterF (X := ((Int × (Int × (Int × (Int × Unit)))) × (List D.occurrence × Unit))) (fun L10 ((a11, (a12, (a13, (a14, _)))), (a15, _)) =>
      (join (Y := ((Int × (Int × (Int × (Int × Unit)))) × (List D.occurrence × Unit))) (fun ((a16, (a17, (a18, (a19, _)))), (a20, _)) =>
        (natc (IntKind.wrap .i64 (a19 - 1)) fun a21 =>
         (ltc a21 (List.length a20) (optc (GetElem?.getElem? a20 a21) fun a22 =>
          (natc a19 fun a23 =>
           (ltc a23 (List.length a20) (optc (GetElem?.getElem? a20 a23) fun a24 =>
            (natc a19 fun a25 =>
             (ltc a25 (List.length a20) (optc (GetElem?.getElem? a20 a25) fun a26 =>
              (natc (IntKind.wrap .i64 (a19 - 1)) fun a27 =>
               (ltc a27 (List.length (List.set a20 a25 a22)) (optc (GetElem?.getElem? (List.set a20 a25 a22) a27) fun a28 =>
                (L10 ((a16, (a17, (a18, ((IntKind.wrap .i64 (a19 - 1)), ())))), ((List.set (List.set a20 a25 a22) a27 a24), ())))))))))))))))) fun J29 =>
       (cnd (decide (a11 < a14))
        (natc a14 fun a30 =>
         (ltc a30 (List.length a15) (optc (GetElem?.getElem? a15 a30) fun a31 =>
          (natc (IntKind.wrap .i64 (a14 - 1)) fun a32 =>
           (ltc a32 (List.length a15) (optc (GetElem?.getElem? a15 a32) fun a33 =>
            (optc (zone_occurrences_1 fu a31 a33) fun a34 =>
             (cnd (decide (a34 < 0))
              (J29 ((a11, (a12, (a13, (a14, ())))), (a15, ())))
              (J9 ((a11, (a12, (a13, ()))), (a15, ())))))))))))
        (J9 ((a11, (a12, (a13, ()))), (a15, ())))))) fu ((a1, (a2, (a3, (a3, ())))), (a4, ()))))
    (some a4))) fu ((p1, (p2, ((IntKind.wrap .i64 (p1 + 1)), ()))), (p0, ())))
def slices_insertionSortCmpFunc_occurrence_3f158_0_g (fu : Nat) : Sig := mkSig [.one (.own 101), .one (.num .i64), .one (.num .i64), .one (.fv 158)] [(101, .arr .occurrence)] [] [(101, .arrs .occurrence)] [] (List (D.occurrence)) (fun q => ((), (q, ()))) (fun x y => slices_insertionSortCmpFunc_occurrence_3f158_0 fu y.1 x.1 x.2.1)
theorem slices_insertionSortCmpFunc_occurrence_3f158_0_ok (fu : Nat) : FnOK Tryz.prog 168 (slices_insertionSortCmpFunc_occurrence_3f158_0_g fu) :=
  FnOK.intro (ty := ty) (E := envL [(158, 0, zone_occurrences_1_g fu)]) (fu := fu) (an := .two (.go) (.one (.loop [(0, .one (.own 101)), (1, .one (.num .i64)), (2, .one (.num .i64)), (3, .one (.fv 158)), (8, .one (.num .i64))] [(101, .arr .occurrence)] (.two (.go) (.two (.join [(0, .one (.own 101)), (1, .one (.num .i64)), (2, .one (.num .i64)), (3, .one (.fv 158)), (8, .one (.num .i64))] [(101, .arr .occurrence)] (.one (.two (.go) (.one (.loop [(0, .one (.own 101)), (1, .one (.num .i64)), (2, .one (.num .i64)), (3, .one (.fv 158)), (8, .one (.num .i64)), (9, .one (.num .i64))] [(101, .arr .occurrence)] (.two (.join [(0, .one (.own 101)), (1, .one (.num .i64)), (2, .one (.num .i64)), (3, .one (.fv 158)), (8, .one (.num .i64)), (9, .one (.num .i64))] [(101, .arr .occurrence)] (.go)) (.go))))))) (.go)))))) (fun a b => b.1) (fun _ _ => rfl) (envL_ok (l := [(158, 0, zone_occurrences_1_g fu)]) ⟨zone_occurrences_1_ok fu, trivial⟩) Tryz.func168 rfl rfl (fun x y => by kernel_rfl)
def slices_stableCmpFunc_occurrence_2f158_0 (fu : Nat) (p0 : List (D.occurrence)) (p1 : Int) : Option (List (D.occurrence)) :=
  (iterF (X := ((Int × (Int × (Int × (Int × Unit)))) × (List D.occurrence × Unit))) (fun L0 ((a1, (a2, (a3, (a4, _)))), (a5, _)) =>
   (cnd (decide (a4 ≤ a1))
    (optc (slices_insertionSortCmpFunc_occurrence_3f158_0 fu a5 a3 a4) fun a6 =>
     (chk (List.length a6) (List.length a5) (L0 ((a1, (a2, (a4, ((IntKind.wrap .i64 (a4 + a2)), ())))), (a6, ())))))
    (optc (slices_insertionSortCmpFunc_occurrence_3f158_0 fu a5 a3 a1) fun a7 =>
     (chk (List.length a7) (List.length a5) (iterF (X := ((Int × (Int × Unit)) × (List D.occurrence × Unit))) (fun L8 ((a9, (a10, _)), (a11, _)) =>
      (cnd (decide (a10 < a9))
       (iterF (X := ((Int × (Int × (Int × (Int × Unit)))) × (List D.occurrence × Unit))) (fun L12 ((a13, (a14, (a15, (a16, _)))), (a17, _)) =>
        (cnd (decide (a16 ≤ a13))
         none
         (cnd (decide ((IntKind.wrap .i64 (a15 + a14)) < a13))
          none
          (L8 ((a13, ((IntKind.wrap .i64 (a14 * 2)), ())), (a17, ())))))) fu ((a9, (a10, (0, ((IntKind.wrap .i64 (2 * a10)), ())))), (a11, ())))
       (some a11))) fu ((a1, (a2, ())), (a7, ()))))))) fu ((p1, (20, (0, (20, ())))), (p0, ())))
def slices_stableCmpFunc_occurrence_2f158_0_g (fu : Nat) : Sig := mkSig [.one (.own 101), .one (.num .i64), .one (.fv 158)] [(101, .arr .occurrence)] [] [(101, .arrs .occurrence)] [] (List (D.occurrence)) (fun q => ((), (q, ()))) (fun x y => slices_stableCmpFunc_occurrence_2f158_0 fu y.1 x.1)
theorem slices_stableCmpFunc_occurrence_2f158_0_ok (fu : Nat) : FnOK Tryz.prog 166 (slices_stableCmpFunc_occurrence_2f158_0_g fu) :=
  FnOK.intro (ty := ty) (E := envL [(168, 0, slices_insertionSortCmpFunc_occurrence_3f158_0_g fu)]) (fu := fu) (an := .two (.go) (.two (.go) (.two (.one (.loop [(0, .one (.own 101)), (1, .one (.num .i64)), (2, .one (.fv 158)), (6, .one (.num .i64)), (7, .one (.num .i64)), (8, .one (.num .i64))] [(101, .arr .occurrence)] (.go))) (.two (.go) (.one (.loop [(0, .one (.own 101)), (1, .one (.num .i64)), (2, .one (.fv 158)), (6, .one (.num .i64))] [(101, .arr .occurrence)] (.two (.go) (.one (.two (.go) (.two (.one (.loop [(0, .one (.own 101)), (1, .one (.num .i64)), (2, .one (.fv 158)), (6, .one (.num .i64)), (7, .one (.num .i64)), (8, .one (.num .i64))] [(101, .arr .occurrence)] (.go))) (.go))))))))))) (fun a b => b.1) (fun _ _ => rfl) (envL_ok (l := [(168, 0, slices_insertionSortCmpFunc_occurrence_3f158_0_g fu)]) ⟨slices_insertionSortCmpFunc_occurrence_3f158_0_ok fu, trivial⟩) Tryz.func166 rfl rfl (fun x y => by kernel_rfl)
def slices_SortStableFunc_occurrence_1f158_0 (fu : Nat) (p0 : List (D.occurrence)) : Option (List (D.occurrence)) :=
  (optc (slices_stableCmpFunc_occurrence_2f158_0 fu p0 (((List.length p0) : Nat) : Int)) fun a0 =>
   (chk (List.length a0) (List.length p0) (some a0)))
def slices_SortStableFunc_occurrence_1f158_0_g (fu : Nat) : Sig := mkSig [.one (.own 101), .one (.fv 158)] [(101, .arr .occurrence)] [] [(101, .arrs .occurrence)] [] (List (D.occurrence)) (fun q => ((), (q, ()))) (fun x y => slices_SortStableFunc_occurrence_1f158_0 fu y.1)
theorem slices_SortStableFunc_occurrence_1f158_0_ok (fu : Nat) : FnOK Tryz.prog 157 (slices_SortStableFunc_occurrence_1f158_0_g fu) :=
  FnOK.intro (ty := ty) (E := envL [(166, 0, slices_stableCmpFunc_occurrence_2f158_0_g fu)]) (fu := fu) (an := .go) (fun a b => b.1) (fun _ _ => rfl) (envL_ok (l := [(166, 0, slices_stableCmpFunc_occurrence_2f158_0_g fu)]) ⟨slices_stableCmpFunc_occurrence_2f158_0_ok fu, trivial⟩) Tryz.func157 rfl rfl (fun x y => by kernel_rfl)
def zone_occurrences (fu : Nat) (p0 : D.Zone) : Option (List D.occurrence × Int) :=
  (optc (zone_in fu (D.Zone.Offset p0) (-64800) 64800) fun a0 =>
   (cnd (!a0)
    (some ([], 1))
    (cnd (decide (16 < (((List.length (D.Zone.Rules p0)) : Nat) : Int)))
     (some ([], 5))
     (iterF (X := ((Int × (List D.YearRule × (Int × (Int × Unit)))) × (D.Zone × Unit))) (fun L1 ((a2, (a3, (a4, (a5, _)))), (a6, _)) =>
      (cnd (decide (a5 < a4))
       (atc a3 a5 fun a7 =>
        (optc (zone_rule fu a7) fun a8 =>
         (cnd (decide (a8 ≠ 0))
          (some ([], a8))
          (L1 (((IntKind.wrap .i64 (a2 + (IntKind.wrap .i64 ((IntKind.wrap .i64 ((D.YearRule.To a7) - (D.YearRule.From a7))) + 1)))), (a3, (a4, ((IntKind.wrap .i64 (a5 + 1)), ())))), (a6, ()))))))
       (cnd (decide (640 < a2))
        (some ([], 5))
        (iterF (X := ((List D.YearRule × (Int × (Int × Unit))) × (List D.occurrence × Unit))) (fun L9 ((a10, (a11, (a12, _))), (a13, _)) =>
         (cnd (decide (a12 < a11))
          (atc a10 a12 fun a14 =>
           (iterF (X := ((Int × (List D.YearRule × (Int × (Int × Unit)))) × (D.YearRule × (List D.occurrence × Unit)))) (fun L15 ((a16, (a17, (a18, (a19, _)))), (a20, (a21, _))) =>
            (cnd (decide (a16 ≤ (D.YearRule.To a20)))
             (optc (civil_Nth fu a16 (D.YearRule.Month a20) (D.YearRule.Week a20) (D.YearRule.Weekday a20)) fun (a22, a23) =>
              (lec ((List.length a21) + (List.length ((D.occurrence.mk (IntKind.wrap .i64 ((IntKind.wrap .i64 (a22 * 86400)) + (D.YearRule.Second a20))) (D.YearRule.Offset a20)) :: []))) 34359738368 (L15 (((IntKind.wrap .i64 (a16 + 1)), (a17, (a18, (a19, ())))), (a20, ((a21 ++ ((D.occurrence.mk (IntKind.wrap .i64 ((IntKind.wrap .i64 (a22 * 86400)) + (D.YearRule.Second a20))) (D.YearRule.Offset a20)) :: [])), ()))))))
             (L9 ((a17, (a18, ((IntKind.wrap .i64 (a19 + 1)), ()))), (a21, ()))))) fu (((D.YearRule.From a14), (a10, (a11, (a12, ())))), (a14, (a13, ())))))
          (optc (slices_SortStableFunc_occurrence_1f158_0 fu a13) fun a24 =>
           (chk (List.length a24) (List.length a13) (some (a24, 0)))))) fu (((D.Zone.Rules a6), ((((List.length (D.Zone.Rules a6)) : Nat) : Int), (0, ()))), ([], ())))))) fu ((0, ((D.Zone.Rules p0), ((((List.length (D.Zone.Rules p0)) : Nat) : Int), (0, ())))), (p0, ()))))))
def zone_occurrences_g (fu : Nat) : Sig := mkSig [.st .Zone] [] [.one (.lst .occurrence), .one (.num .i64)] [] [] (List D.occurrence × Int) (fun q => ((q.1, q.2, ()), ())) (fun x y => zone_occurrences fu x.1)
theorem zone_occurrences_ok (fu : Nat) : FnOK Tryz.prog 147 (zone_occurrences_g fu) :=
  FnOK.intro (ty := ty) (E := envL [(148, 0, zone_in_g fu), (155, 0, zone_rule_g fu), (156, 0, civil_Nth_g fu), (157, 0, slices_SortStableFunc_occurrence_1f158_0_g fu)]) (fu := fu) (an := .two (.go) (.two (.go) (.two (.go) (.two (.go) (.two (.two (.go) (.one (.loop [(1, .one (.ref 1001)), (4, .one (.num .i64)), (23, .one (.lst .YearRule)), (24, .one (.num .i64)), (25, .one (.num .i64))] [(1001, .boxst .Zone)] (.go)))) (.two (.go) (.two (.go) (.two (.two (.go) (.one (.loop [(8, .one (.own 1081)), (46, .one (.lst .YearRule)), (47, .one (.num .i64)), (48, .one (.num .i64))] [(1081, .arr .occurrence)] (.two (.go) (.two (.go) (.two (.one (.two (.go) (.two (.go) (.one (.loop [(8, .one (.own 1081)), (10, .one (.ref 1010)), (11, .one (.num .i64)), (46, .one (.lst .YearRule)), (47, .one (.num .i64)), (48, .one (.num .i64))] [(1010, .boxst .YearRule), (1081, .arr .occurrence)] (.go)))))) (.go))))))) (.go))))))))) (fun a b => (a.1, a.2.1)) (fun _ _ => rfl) (envL_ok (l := [(148, 0, zone_in_g fu), (155, 0, zone_rule_g fu), (156, 0, civil_Nth_g fu), (157, 0, slices_SortStableFunc_occurrence_1f158_0_g fu)]) ⟨zone_in_ok fu, zone_rule_ok fu, civil_Nth_ok fu, slices_SortStableFunc_occurrence_1f158_0_ok fu, trivial⟩) Tryz.func147 rfl rfl (fun x y => by kernel_rfl)
def zone_Transitions (fu : Nat) (p0 : D.Zone) : Option (List D.Transition × Int) :=
  (optc (zone_occurrences fu p0) fun (a0, a1) =>
   (cnd (decide (a1 ≠ 0))
    (some ([], a1))
    (iterF (X := ((Int × (List D.occurrence × (Int × (Int × Unit)))) × (List D.Transition × Unit))) (fun L2 ((a3, (a4, (a5, (a6, _)))), (a7, _)) =>
     (cnd (decide (a6 < a5))
      (join (Y := ((Int × (List D.occurrence × (Int × (Int × Unit)))) × (List D.Transition × Unit))) (fun ((a8, (a9, (a10, (a11, _)))), (a12, _)) =>
        (L2 ((a8, (a9, (a10, ((IntKind.wrap .i64 (a11 + 1)), ())))), (a12, ())))) fun J13 =>
       (atc a4 a6 fun a14 =>
        (cnd (decide ((D.occurrence.offset a14) = a3))
         (J13 ((a3, (a4, (a5, (a6, ())))), (a7, ())))
         (join (Y := ((Int × (List D.occurrence × (Int × (Int × Unit)))) × (D.occurrence × (List D.Transition × Unit)))) (fun ((a15, (a16, (a17, (a18, _)))), (a19, (a20, _))) =>
           (lec ((List.length a20) + (List.length ((D.Transition.mk a15 (D.occurrence.offset a19)) :: []))) 34359738368 (J13 (((D.occurrence.offset a19), (a16, (a17, (a18, ())))), ((a20 ++ ((D.Transition.mk a15 (D.occurrence.offset a19)) :: [])), ()))))) fun J21 =>
          (cnd (decide (86400 ≤ (IntKind.wrap .i64 ((D.occurrence.offset a14) - a3))))
           (some ([], 6))
           (cnd (decide ((IntKind.wrap .i64 ((D.occurrence.offset a14) - a3)) ≤ (-86400)))
            (some ([], 6))
            (optc (zone_in fu (IntKind.wrap .i64 ((D.occurrence.local_ a14) - a3)) 0 8589934592) fun a22 =>
             (cnd a22
              (cnd (decide (0 < (((List.length a7) : Nat) : Int)))
               (natc (IntKind.wrap .i64 ((((List.length a7) : Nat) : Int) - 1)) fun a23 =>
                (ltc a23 (List.length a7) (optc (GetElem?.getElem? a7 a23) fun a24 =>
                 (cnd (decide ((IntKind.wrap .i64 ((D.occurrence.local_ a14) - a3)) < (IntKind.wrap .i64 ((D.Transition.At a24) + 604800))))
                  (some ([], 6))
                  (J21 (((IntKind.wrap .i64 ((D.occurrence.local_ a14) - a3)), (a4, (a5, (a6, ())))), (a14, (a7, ()))))))))
               (J21 (((IntKind.wrap .i64 ((D.occurrence.local_ a14) - a3)), (a4, (a5, (a6, ())))), (a14, (a7, ())))))
              (some ([], 6))))))))))
      (some (a7, 0)))) fu (((D.Zone.Offset p0), (a0, ((((List.length a0) : Nat) : Int), (0, ())))), ([], ())))))
def zone_Transitions_g (fu : Nat) : Sig := mkSig [.st .Zone] [] [.one (.lst .Transition), .one (.num .i64)] [] [] (List D.Transition × Int) (fun q => ((q.1, q.2, ()), ())) (fun x y => zone_Transitions fu x.1)
theorem zone_Transitions_ok (fu : Nat) : FnOK Tryz.prog 136 (zone_Transitions_g fu) :=
  FnOK.intro (ty := ty) (E := envL [(147, 0, zone_occurrences_g fu), (148, 0, zone_in_g fu)]) (fu := fu) (an := .two (.go) (.two (.go) (.two (.go) (.two (.go) (.two (.go) (.two (.two (.go) (.one (.loop [(6, .one (.own 1074)), (7, .one (.num .i64)), (22, .one (.lst .occurrence)), (23, .one (.num .i64)), (24, .one (.num .i64))] [(1074, .arr .Transition)] (.two (.go) (.two (.go) (.two (.join [(6, .one (.own 1074)), (7, .one (.num .i64)), (22, .one (.lst .occurrence)), (23, .one (.num .i64)), (24, .one (.num .i64))] [(1074, .arr .Transition)] (.one (.two (.go) (.two (.go) (.two (.go) (.two (.join [(6, .one (.own 1074)), (9, .one (.ref 1009)), (10, .one (.num .i64)), (22, .one (.lst .occurrence)), (23, .one (.num .i64)), (24, .one (.num .i64))] [(1009, .boxst .occurrence), (1074, .arr .Transition)] (.go)) (.go))))))) (.go))))))) (.go))))))) (fun a b => (a.1, a.2.1)) (fun _ _ => rfl) (envL_ok (l := [(147, 0, zone_occurrences_g fu), (148, 0, zone_in_g fu)]) ⟨zone_occurrences_ok fu, zone_in_ok fu, trivial⟩) Tryz.func136 rfl rfl (fun x y => by kernel_rfl)
def zone_Check (fu : Nat) (p0 : D.Zone) : Option (Int) :=
  (optc (zone_Transitions fu p0) fun (a0, a1) =>
   (some a1))
def zone_Check_g (fu : Nat) : Sig := mkSig [.st .Zone] [] [.one (.num .i64)] [] [] (Int) (fun q => ((q, ()), ())) (fun x y => zone_Check fu x.1)
theorem zone_Check_ok (fu : Nat) : FnOK Tryz.prog 117 (zone_Check_g fu) :=
  FnOK.intro (ty := ty) (E := envL [(136, 0, zone_Transitions_g fu)]) (fu := fu) (an := .go) (fun a b => a.1) (fun _ _ => rfl) (envL_ok (l := [(136, 0, zone_Transitions_g fu)]) ⟨zone_Transitions_ok fu, trivial⟩) Tryz.func117 rfl rfl (fun x y => by kernel_rfl)
def resolve_checkZone_1 (fu : Nat) (p0 : D.YearRule) : Option (Bool) :=
  (nzc 60 (some (decide ((Int.tmod (D.YearRule.Offset p0) 60) ≠ 0))))
def resolve_checkZone_1_g (fu : Nat) : Sig := mkSig [.st .YearRule] [] [.one (.boo)] [] [] (Bool) (fun q => ((q, ()), ())) (fun x y => resolve_checkZone_1 fu x.1)
theorem resolve_checkZone_1_ok (fu : Nat) : FnOK Tryz.prog 119 (resolve_checkZone_1_g fu) :=
  FnOK.intro (ty := ty) (E := envL []) (fu := fu) (an := .go) (fun a b => a.1) (fun _ _ => rfl) (envL_ok (l := []) trivial) Tryz.func119 rfl rfl (fun x y => by kernel_rfl)
def slices_IndexFunc_YearRule_1f119 (fu : Nat) (p0 : List D.YearRule) : Option (Int) :=
  (iterF (X := ((List D.YearRule × (Int × (Int × Unit))) × Unit)) (fun L0 ((a1, (a2, (a3, _))), _) =>
   (cnd (decide (a3 < a2))
    (atc a1 a3 fun a4 =>
     (optc (resolve_checkZone_1 fu a4) fun a5 =>
      (cnd a5
       (some a3)
       (L0 ((a1, (a2, ((IntKind.wrap .i64 (a3 + 1)), ()))), ())))))
    (some (-1)))) fu ((p0, ((((List.length p0) : Nat) : Int), (0, ()))), ()))
def slices_IndexFunc_YearRule_1f119_g (fu : Nat) : Sig := mkSig [.one (.lst .YearRule), .one (.fv 119)] [] [.one (.num .i64)] [] [] (Int) (fun q => ((q, ()), ())) (fun x y => slices_IndexFunc_YearRule_1f119 fu x.1)
theorem slices_IndexFunc_YearRule_1f119_ok (fu : Nat) : FnOK Tryz.prog 137 (slices_IndexFunc_YearRule_1f119_g fu) :=
  FnOK.intro (ty := ty) (E := envL [(119, 0, resolve_checkZone_1_g fu)]) (fu := fu) (an := .two (.go) (.two (.two (.go) (.one (.loop [(0, .one (.lst .YearRule)), (1, .one (.fv 119)), (7, .one (.num .i64)), (8, .one (.num .i64))] [] (.go)))) (.go))) (fun a b => a.1) (fun _ _ => rfl) (envL_ok (l := [(119, 0, resolve_checkZone_1_g fu)]) ⟨resolve_checkZone_1_ok fu, trivial⟩) Tryz.func137 rfl rfl (fun x y => by kernel_rfl)
def slices_ContainsFunc_YearRule_1f119 (fu : Nat) (p0 : List D.YearRule) : Option (Bool) :=
  (optc (slices_IndexFunc_YearRule_1f119 fu p0) fun a0 =>
   (some (decide (0 ≤ a0))))
def slices_ContainsFunc_YearRule_1f119_g (fu : Nat) : Sig := mkSig [.one (.lst .YearRule), .one (.fv 119)] [] [.one (.boo)] [] [] (Bool) (fun q => ((q, ()), ())) (fun x y => slices_ContainsFunc_YearRule_1f119 fu x.1)
theorem slices_ContainsFunc_YearRule_1f119_ok (fu : Nat) : FnOK Tryz.prog 118 (slices_ContainsFunc_YearRule_1f119_g fu) :=
  FnOK.intro (ty := ty) (E := envL [(137, 0, slices_IndexFunc_YearRule_1f119_g fu)]) (fu := fu) (an := .go) (fun a b => a.1) (fun _ _ => rfl) (envL_ok (l := [(137, 0, slices_IndexFunc_YearRule_1f119_g fu)]) ⟨slices_IndexFunc_YearRule_1f119_ok fu, trivial⟩) Tryz.func118 rfl rfl (fun x y => by kernel_rfl)
def resolve_checkZone (fu : Nat) (p0 : D.Zone) : Option (Int) :=
  (join (Y := (Unit × Unit)) (fun (_, _) =>
    (some 0)) fun J0 =>
   (optc (zone_Check fu p0) fun a1 =>
    (cnd (decide (a1 ≠ 0))
     (some 8)
     (nzc 60 (cnd (decide ((Int.tmod (D.Zone.Offset p0) 60) ≠ 0))
      (some 8)
      (optc (slices_ContainsFunc_YearRule_1f119 fu (D.Zone.Rules p0)) fun a2 =>
       (cnd a2
        (some 8)
        (J0 ((), ())))))))))
def resolve_checkZone_g (fu : Nat) : Sig := mkSig [.st .Zone] [] [.one (.num .i64)] [] [] (Int) (fun q => ((q, ()), ())) (fun x y => resolve_checkZone fu x.1)
theorem resolve_checkZone_ok (fu : Nat) : FnOK Tryz.prog 101 (resolve_checkZone_g fu) :=
  FnOK.intro (ty := ty) (E := envL [(117, 0, zone_Check_g fu), (118, 0, slices_ContainsFunc_YearRule_1f119_g fu)]) (fu := fu) (an := .two (.go) (.two (.join [] [] (.go)) (.go))) (fun a b => a.1) (fun _ _ => rfl) (envL_ok (l := [(117, 0, zone_Check_g fu), (118, 0, slices_ContainsFunc_YearRule_1f119_g fu)]) ⟨zone_Check_ok fu, slices_ContainsFunc_YearRule_1f119_ok fu, trivial⟩) Tryz.func101 rfl rfl (fun x y => by kernel_rfl)
def resolve_named_Zone_1f100_2f101 (fu : Nat) (p0 : List D.Zone) : Option (Int) :=
  (iterF (X := ((List D.Zone × (Int × (Int × Unit))) × (List ((ByteArray × Bool)) × Unit))) (fun L0 ((a1, (a2, (a3, _))), (a4, _)) =>
   (cnd (decide (a3 < a2))
    (atc a1 a3 fun a5 =>
     (optc (resolve_Check_1 fu a5) fun a6 =>
      (optc (resolve_name fu a6 a4) fun (a7, a8) =>
       (cnd (decide (a7 ≠ 0))
        (some a7)
        (optc (resolve_checkZone fu a5) fun a9 =>
         (cnd (decide (a9 ≠ 0))
          (some a9)
          (L0 ((a1, (a2, ((IntKind.wrap .i64 (a3 + 1)), ()))), (a8, ())))))))))
    (some 0))) fu ((p0, ((((List.length p0) : Nat) : Int), (0, ()))), ([], ())))
def resolve_named_Zone_1f100_2f101_g (fu : Nat) : Sig := mkSig [.one (.lst .Zone), .one (.fv 100), .one (.fv 101)] [] [.one (.num .i64)] [] [] (Int) (fun q => ((q, ()), ())) (fun x y => resolve_named_Zone_1f100_2f101 fu x.1)
theorem resolve_named_Zone_1f100_2f101_ok (fu : Nat) : FnOK Tryz.prog 99 (resolve_named_Zone_1f100_2f101_g fu) :=
  FnOK.intro (ty := ty) (E := envL [(100, 0, resolve_Check_1_g fu), (101, 0, resolve_checkZone_g fu), (102, 0, resolve_name_g fu)]) (fu := fu) (an := .two (.go) (.two (.go) (.two (.two (.go) (.one (.loop [(1, .one (.fv 100)), (2, .one (.fv 101)), (7, .one (.mref 1012)), (13, .one (.lst .Zone)), (14, .one (.num .i64)), (15, .one (.num .i64))] [(1012, .sm)] (.go)))) (.go)))) (fun a b => a.1) (fun _ _ => rfl) (envL_ok (l := [(100, 0, resolve_Check_1_g fu), (101, 0, resolve_checkZone_g fu), (102, 0, resolve_name_g fu)]) ⟨resolve_Check_1_ok fu, resolve_checkZone_ok fu, resolve_name_ok fu, trivial⟩) Tryz.func99 rfl rfl (fun x y => by kernel_rfl)
def resolve_Check_2 (fu : Nat) (p0 : D.Calendar) : Option (ByteArray) :=
  (some (D.Calendar.Name p0))
def resolve_Check_2_g (fu : Nat) : Sig := mkSig [.st .Calendar] [] [.one (.str)] [] [] (ByteArray) (fun q => ((q, ()), ())) (fun x y => resolve_Check_2 fu x.1)
theorem resolve_Check_2_ok (fu : Nat) : FnOK Tryz.prog 105 (resolve_Check_2_g fu) :=
  FnOK.intro (ty := ty) (E := envL []) (fu := fu) (an := .go) (fun a b => a.1) (fun _ _ => rfl) (envL_ok (l := []) trivial) Tryz.func105 rfl rfl (fun x y => by kernel_rfl)
def civil_year (fu : Nat) (p0 : Int) : Option (Int) :=
  (optc (civil_floor fu p0 366) fun a0 =>
   (iterF (X := ((Int × (Int × Unit)) × Unit)) (fun L1 ((a2, (a3, _)), _) =>
    (optc (civil_count fu (IntKind.wrap .i64 (a3 + 1))) fun a4 =>
     (cnd (decide (a4 ≤ a2))
      (L1 ((a2, ((IntKind.wrap .i64 (a3 + 1)), ())), ()))
      (some a3)))) fu ((p0, ((IntKind.wrap .i64 (1970 + a0)), ())), ())))
def civil_year_g (fu : Nat) : Sig := mkSig [.one (.num .i64)] [] [.one (.num .i64)] [] [] (Int) (fun q => ((q, ()), ())) (fun x y => civil_year fu x.1)
theorem civil_year_ok (fu : Nat) : FnOK Tryz.prog 150 (civil_year_g fu) :=
  FnOK.intro (ty := ty) (E := envL [(149, 0, civil_count_g fu), (159, 0, civil_floor_g fu)]) (fu := fu) (an := .two (.go) (.two (.go) (.two (.one (.loop [(0, .one (.num .i64)), (3, .one (.num .i64))] [] (.go))) (.go)))) (fun a b => a.1) (fun _ _ => rfl) (envL_ok (l := [(149, 0, civil_count_g fu), (159, 0, civil_floor_g fu)]) ⟨civil_count_ok fu, civil_floor_ok fu, trivial⟩) Tryz.func150 rfl rfl (fun x y => by kernel_rfl)
def civil_DateOf (fu : Nat) (p0 : Int) : Option (D.Date × Int) :=
  (join (Y := ((Int × Unit) × (D.Date × Unit))) (fun ((a0, _), (a1, _)) =>
    (optc (civil_year fu a0) fun a2 =>
     (optc (civil_count fu a2) fun a3 =>
      (iterF (X := ((Int × Unit) × (D.Date × (D.Date × Unit)))) (fun L4 ((a5, _), (a6, (a7, _))) =>
       (optc (civil_Days fu (D.Date.Year a7) (D.Date.Month a7)) fun a8 =>
        (cnd (decide (a8 ≤ a5))
         (optc (civil_Days fu (D.Date.Year a7) (D.Date.Month a7)) fun a9 =>
          (L4 (((IntKind.wrap .i64 (a5 - a9)), ()), (a6, ((D.Date.mk (D.Date.Year a7) (IntKind.wrap .i64 ((D.Date.Month a7) + 1)) (D.Date.Day a7)), ())))))
         (some ((D.Date.mk (D.Date.Year a7) (D.Date.Month a7) (IntKind.wrap .i64 (a5 + 1))), 0))))) fu (((IntKind.wrap .i64 (a0 - a3)), ()), (a1, ((D.Date.mk a2 1 0), ()))))))) fun J10 =>
   (optc (civil_count fu 1970) fun a11 =>
    (cnd (decide (p0 < a11))
     (some ((D.Date.mk 0 0 0), 1))
     (optc (civil_count fu 2241) fun a12 =>
      (cnd (decide (a12 ≤ p0))
       (some ((D.Date.mk 0 0 0), 1))
       (J10 ((p0, ()), ((D.Date.mk 0 0 0), ()))))))))
def civil_DateOf_g (fu : Nat) : Sig := mkSig [.one (.num .i64)] [] [.st .Date, .one (.num .i64)] [] [] (D.Date × Int) (fun q => ((q.1, q.2, ()), ())) (fun x y => civil_DateOf fu x.1)
theorem civil_DateOf_ok (fu : Nat) : FnOK Tryz.prog 141 (civil_DateOf_g fu) :=
  FnOK.intro (ty := ty) (E := envL [(149, 0, civil_count_g fu), (150, 0, civil_year_g fu), (151, 0, civil_Days_g fu)]) (fu := fu) (an := .two (.go) (.two (.join [(0, .one (.num .i64)), (2, .one (.ref 1002))] [(1002, .boxst .Date)] (.go)) (.two (.go) (.two (.go) (.two (.one (.loop [(2, .one (.ref 1002)), (4, .one (.ref 1004)), (5, .one (.num .i64))] [(1002, .boxst .Date), (1004, .boxst .Date)] (.go))) (.go)))))) (fun a b => (a.1, a.2.1)) (fun _ _ => rfl) (envL_ok (l := [(149, 0, civil_count_g fu), (150, 0, civil_year_g fu), (151, 0, civil_Days_g fu)]) ⟨civil_count_ok fu, civil_year_ok fu, civil_Days_ok fu, trivial⟩) Tryz.func141 rfl rfl (fun x y => by kernel_rfl)
def resolve_day (fu : Nat) (p0 : Int) : Option (Bool) :=
  (optc (civil_DateOf fu p0) fun (a0, a1) =>
   (some (decide (a1 = 0))))
def resolve_day_g (fu : Nat) : Sig := mkSig [.one (.num .i64)] [] [.one (.boo)] [] [] (Bool) (fun q => ((q, ()), ())) (fun x y => resolve_day fu x.1)
theorem resolve_day_ok (fu : Nat) : FnOK Tryz.prog 125 (resolve_day_g fu) :=
  FnOK.intro (ty := ty) (E := envL [(141, 0, civil_DateOf_g fu)]) (fu := fu) (an := .go) (fun a b => a.1) (fun _ _ => rfl) (envL_ok (l := [(141, 0, civil_DateOf_g fu)]) ⟨civil_DateOf_ok fu, trivial⟩) Tryz.func125 rfl rfl (fun x y => by kernel_rfl)
def resolve_checkCalendar_1 (fu : Nat) (p0 : Int) : Option (Bool) :=
  (optc (resolve_day fu p0) fun a0 =>
   (some (!a0)))
def resolve_checkCalendar_1_g (fu : Nat) : Sig := mkSig [.one (.num .i64)] [] [.one (.boo)] [] [] (Bool) (fun q => ((q, ()), ())) (fun x y => resolve_checkCalendar_1 fu x.1)
theorem resolve_checkCalendar_1_ok (fu : Nat) : FnOK Tryz.prog 124 (resolve_checkCalendar_1_g fu) :=
  FnOK.intro (ty := ty) (E := envL [(125, 0, resolve_day_g fu)]) (fu := fu) (an := .go) (fun a b => a.1) (fun _ _ => rfl) (envL_ok (l := [(125, 0, resolve_day_g fu)]) ⟨resolve_day_ok fu, trivial⟩) Tryz.func124 rfl rfl (fun x y => by kernel_rfl)
def slices_IndexFunc_int_1f124 (fu : Nat) (p0 : List Int) : Option (Int) :=
  (iterF (X := ((List Int × (Int × (Int × Unit))) × Unit)) (fun L0 ((a1, (a2, (a3, _))), _) =>
   (cnd (decide (a3 < a2))
    (atc a1 a3 fun a4 =>
     (optc (resolve_checkCalendar_1 fu a4) fun a5 =>
      (cnd a5
       (some a3)
       (L0 ((a1, (a2, ((IntKind.wrap .i64 (a3 + 1)), ()))), ())))))
    (some (-1)))) fu ((p0, ((((List.length p0) : Nat) : Int), (0, ()))), ()))
def slices_IndexFunc_int_1f124_g (fu : Nat) : Sig := mkSig [.one (.lst .int), .one (.fv 124)] [] [.one (.num .i64)] [] [] (Int) (fun q => ((q, ()), ())) (fun x y => slices_IndexFunc_int_1f124 fu x.1)
theorem slices_IndexFunc_int_1f124_ok (fu : Nat) : FnOK Tryz.prog 58 (slices_IndexFunc_int_1f124_g fu) :=
  FnOK.intro (ty := ty) (E := envL [(124, 0, resolve_checkCalendar_1_g fu)]) (fu := fu) (an := .two (.go) (.two (.two (.go) (.one (.loop [(0, .one (.lst .int)), (1, .one (.fv 124)), (7, .one (.num .i64)), (8, .one (.num .i64))] [] (.go)))) (.go))) (fun a b => a.1) (fun _ _ => rfl) (envL_ok (l := [(124, 0, resolve_checkCalendar_1_g fu)]) ⟨resolve_checkCalendar_1_ok fu, trivial⟩) Tryz.func58 rfl rfl (fun x y => by kernel_rfl)
def slices_ContainsFunc_int_1f124 (fu : Nat) (p0 : List Int) : Option (Bool) :=
  (optc (slices_IndexFunc_int_1f124 fu p0) fun a0 =>
   (some (decide (0 ≤ a0))))
def slices_ContainsFunc_int_1f124_g (fu : Nat) : Sig := mkSig [.one (.lst .int), .one (.fv 124)] [] [.one (.boo)] [] [] (Bool) (fun q => ((q, ()), ())) (fun x y => slices_ContainsFunc_int_1f124 fu x.1)
theorem slices_ContainsFunc_int_1f124_ok (fu : Nat) : FnOK Tryz.prog 47 (slices_ContainsFunc_int_1f124_g fu) :=
  FnOK.intro (ty := ty) (E := envL [(58, 0, slices_IndexFunc_int_1f124_g fu)]) (fu := fu) (an := .go) (fun a b => a.1) (fun _ _ => rfl) (envL_ok (l := [(58, 0, slices_IndexFunc_int_1f124_g fu)]) ⟨slices_IndexFunc_int_1f124_ok fu, trivial⟩) Tryz.func47 rfl rfl (fun x y => by kernel_rfl)
def resolve_checkCalendar (fu : Nat) (p0 : D.Config) (p1 : D.Calendar) : Option (Int) :=
  (optc (resolve_index fu (D.Calendar.Zone p1) (((List.length (D.Config.Zones p0)) : Nat) : Int)) fun a0 =>
   (cnd (!a0)
    (some 3)
    (cnd (decide (64 < (((List.length (D.Calendar.Days p1)) : Nat) : Int)))
     (some 5)
     (optc (slices_ContainsFunc_int_1f124 fu (D.Calendar.Days p1)) fun a1 =>
      (cnd a1
       (some 1)
       (iterF (X := ((Int × (Int × Unit)) × (D.Calendar × Unit))) (fun L2 ((a3, (a4, _)), (a5, _)) =>
        (cnd (decide (a4 < a3))
         (join (Y := ((Int × (Int × Unit)) × (D.Calendar × Unit))) (fun ((a6, (a7, _)), (a8, _)) =>
           (L2 ((a6, ((IntKind.wrap .i64 (a7 + 1)), ())), (a8, ())))) fun J9 =>
          (cnd (decide (0 < a4))
           (atc (D.Calendar.Days a5) a4 fun a10 =>
            (atc (D.Calendar.Days a5) (IntKind.wrap .i64 (a4 - 1)) fun a11 =>
             (cnd (decide (a10 ≤ a11))
              (some 6)
              (J9 ((a3, (a4, ())), (a5, ()))))))
           (J9 ((a3, (a4, ())), (a5, ())))))
         (some 0))) fu (((((List.length (D.Calendar.Days p1)) : Nat) : Int), (0, ())), (p1, ()))))))))
def resolve_checkCalendar_g (fu : Nat) : Sig := mkSig [.st .Config, .st .Calendar] [] [.one (.num .i64)] [] [] (Int) (fun q => ((q, ()), ())) (fun x y => resolve_checkCalendar fu x.1 x.2.1)
theorem resolve_checkCalendar_ok (fu : Nat) : FnOK Tryz.prog 107 (resolve_checkCalendar_g fu) :=
  FnOK.intro (ty := ty) (E := envL [(47, 0, slices_ContainsFunc_int_1f124_g fu), (121, 0, resolve_index_g fu)]) (fu := fu) (an := .two (.go) (.two (.go) (.two (.two (.go) (.one (.loop [(3, .one (.ref 1003)), (25, .one (.num .i64)), (26, .one (.num .i64))] [(1003, .boxst .Calendar)] (.two (.go) (.two (.go) (.two (.join [(3, .one (.ref 1003)), (25, .one (.num .i64)), (26, .one (.num .i64))] [(1003, .boxst .Calendar)] (.go)) (.go))))))) (.go)))) (fun a b => a.1) (fun _ _ => rfl) (envL_ok (l := [(47, 0, slices_ContainsFunc_int_1f124_g fu), (121, 0, resolve_index_g fu)]) ⟨slices_ContainsFunc_int_1f124_ok fu, resolve_index_ok fu, trivial⟩) Tryz.func107 rfl rfl (fun x y => by kernel_rfl)
def resolve_Check_3 (fu : Nat) (p0 : D.Calendar) (p1 : D.Config) : Option (Int) :=
  (optc (resolve_checkCalendar fu p1 p0) fun a0 =>
   (sameC p1 p1 (some a0)))
def resolve_Check_3_g (fu : Nat) : Sig := mkSig [.st .Calendar, .one (.ref 101)] [(101, .boxst .Config)] [.one (.num .i64)] [] [101] (Int) (fun q => ((q, ()), ())) (fun x y => resolve_Check_3 fu x.1 y.1)
theorem resolve_Check_3_ok (fu : Nat) : FnOK Tryz.prog 106 (resolve_Check_3_g fu) :=
  FnOK.intro (ty := ty) (E := envL [(107, 0, resolve_checkCalendar_g fu)]) (fu := fu) (an := .go) (fun a b => a.1) (fun _ _ => rfl) (envL_ok (l := [(107, 0, resolve_checkCalendar_g fu)]) ⟨resolve_checkCalendar_ok fu, trivial⟩) Tryz.func106 rfl rfl (fun x y => by kernel_rfl)
def resolve_named_Calendar_1f105_2f106 (fu : Nat) (p0 : List D.Calendar) (c101 : D.Config) : Option (Int) :=
  (iterF (X := ((List D.Calendar × (Int × (Int × Unit))) × (D.Config × (List ((ByteArray × Bool)) × Unit)))) (fun L0 ((a1, (a2, (a3, _))), (a4, (a5, _))) =>
   (cnd (decide (a3 < a2))
    (atc a1 a3 fun a6 =>
     (optc (resolve_Check_2 fu a6) fun a7 =>
      (optc (resolve_name fu a7 a5) fun (a8, a9) =>
       (cnd (decide (a8 ≠ 0))
        (sameC a4 c101 (some a8))
        (optc (resolve_Check_3 fu a6 a4) fun a10 =>
         (cnd (decide (a10 ≠ 0))
          (sameC a4 c101 (some a10))
          (L0 ((a1, (a2, ((IntKind.wrap .i64 (a3 + 1)), ()))), (a4, (a9, ()))))))))))
    (sameC a4 c101 (some 0)))) fu ((p0, ((((List.length p0) : Nat) : Int), (0, ()))), (c101, ([], ()))))
def resolve_named_Calendar_1f105_2f106_g (fu : Nat) : Sig := mkSig [.one (.lst .Calendar), .one (.fv 105), .one (.clo 106 [101])] [(101, .boxst .Config)] [.one (.num .i64)] [] [101] (Int) (fun q => ((q, ()), ())) (fun x y => resolve_named_Calendar_1f105_2f106 fu x.1 y.1)
theorem resolve_named_Calendar_1f105_2f106_ok (fu : Nat) : FnOK Tryz.prog 104 (resolve_named_Calendar_1f105_2f106_g fu) :=
  FnOK.intro (ty := ty) (E := envL [(102, 0, resolve_name_g fu), (105, 0, resolve_Check_2_g fu), (106, 0, resolve_Check_3_g fu)]) (fu := fu) (an := .two (.go) (.two (.go) (.two (.two (.go) (.one (.loop [(1, .one (.fv 105)), (2, .one (.clo 106 [101])), (7, .one (.mref 1012)), (13, .one (.lst .Calendar)), (14, .one (.num .i64)), (15, .one (.num .i64))] [(101, .boxst .Config), (1012, .sm)] (.go)))) (.go)))) (fun a b => a.1) (fun _ _ => rfl) (envL_ok (l := [(102, 0, resolve_name_g fu), (105, 0, resolve_Check_2_g fu), (106, 0, resolve_Check_3_g fu)]) ⟨resolve_name_ok fu, resolve_Check_2_ok fu, resolve_Check_3_ok fu, trivial⟩) Tryz.func104 rfl rfl (fun x y => by kernel_rfl)
def resolve_Check_4 (fu : Nat) (p0 : D.Schedule) : Option (ByteArray) :=
  (some (D.Schedule.Name p0))
def resolve_Check_4_g (fu : Nat) : Sig := mkSig [.st .Schedule] [] [.one (.str)] [] [] (ByteArray) (fun q => ((q, ()), ())) (fun x y => resolve_Check_4 fu x.1)
theorem resolve_Check_4_ok (fu : Nat) : FnOK Tryz.prog 109 (resolve_Check_4_g fu) :=
  FnOK.intro (ty := ty) (E := envL []) (fu := fu) (an := .go) (fun a b => a.1) (fun _ _ => rfl) (envL_ok (l := []) trivial) Tryz.func109 rfl rfl (fun x y => by kernel_rfl)
def resolve_checkSchedule_1 (fu : Nat) (p0 : D.Layer) : Option (ByteArray) :=
  (some (D.Layer.Name p0))
def resolve_checkSchedule_1_g (fu : Nat) : Sig := mkSig [.st .Layer] [] [.one (.str)] [] [] (ByteArray) (fun q => ((q, ()), ())) (fun x y => resolve_checkSchedule_1 fu x.1)
theorem resolve_checkSchedule_1_ok (fu : Nat) : FnOK Tryz.prog 127 (resolve_checkSchedule_1_g fu) :=
  FnOK.intro (ty := ty) (E := envL []) (fu := fu) (an := .go) (fun a b => a.1) (fun _ _ => rfl) (envL_ok (l := []) trivial) Tryz.func127 rfl rfl (fun x y => by kernel_rfl)
def resolve_checkLayer_1 (fu : Nat) (p0 : Int) (p1 : D.Config) : Option (Bool) :=
  (optc (resolve_index fu p0 (((List.length (D.Config.People p1)) : Nat) : Int)) fun a0 =>
   (sameC p1 p1 (some (!a0))))
def resolve_checkLayer_1_g (fu : Nat) : Sig := mkSig [.one (.num .i64), .one (.ref 101)] [(101, .boxst .Config)] [.one (.boo)] [] [101] (Bool) (fun q => ((q, ()), ())) (fun x y => resolve_checkLayer_1 fu x.1 y.1)
theorem resolve_checkLayer_1_ok (fu : Nat) : FnOK Tryz.prog 142 (resolve_checkLayer_1_g fu) :=
  FnOK.intro (ty := ty) (E := envL [(121, 0, resolve_index_g fu)]) (fu := fu) (an := .go) (fun a b => a.1) (fun _ _ => rfl) (envL_ok (l := [(121, 0, resolve_index_g fu)]) ⟨resolve_index_ok fu, trivial⟩) Tryz.func142 rfl rfl (fun x y => by kernel_rfl)
def slices_IndexFunc_int_1f142 (fu : Nat) (p0 : List Int) (c101 : D.Config) : Option (Int) :=
  (iterF (X := ((List Int × (Int × (Int × Unit))) × (D.Config × Unit))) (fun L0 ((a1, (a2, (a3, _))), (a4, _)) =>
   (cnd (decide (a3 < a2))
    (atc a1 a3 fun a5 =>
     (optc (resolve_checkLayer_1 fu a5 a4) fun a6 =>
      (cnd a6
       (sameC a4 c101 (some a3))
       (L0 ((a1, (a2, ((IntKind.wrap .i64 (a3 + 1)), ()))), (a4, ()))))))
    (sameC a4 c101 (some (-1))))) fu ((p0, ((((List.length p0) : Nat) : Int), (0, ()))), (c101, ())))
def slices_IndexFunc_int_1f142_g (fu : Nat) : Sig := mkSig [.one (.lst .int), .one (.clo 142 [101])] [(101, .boxst .Config)] [.one (.num .i64)] [] [101] (Int) (fun q => ((q, ()), ())) (fun x y => slices_IndexFunc_int_1f142 fu x.1 y.1)
theorem slices_IndexFunc_int_1f142_ok (fu : Nat) : FnOK Tryz.prog 58 (slices_IndexFunc_int_1f142_g fu) :=
  FnOK.intro (ty := ty) (E := envL [(142, 0, resolve_checkLayer_1_g fu)]) (fu := fu) (an := .two (.go) (.two (.two (.go) (.one (.loop [(0, .one (.lst .int)), (1, .one (.clo 142 [101])), (7, .one (.num .i64)), (8, .one (.num .i64))] [(101, .boxst .Config)] (.go)))) (.go))) (fun a b => a.1) (fun _ _ => rfl) (envL_ok (l := [(142, 0, resolve_checkLayer_1_g fu)]) ⟨resolve_checkLayer_1_ok fu, trivial⟩) Tryz.func58 rfl rfl (fun x y => by kernel_rfl)
def slices_ContainsFunc_int_1f142 (fu : Nat) (p0 : List Int) (c101 : D.Config) : Option (Bool) :=
  (optc (slices_IndexFunc_int_1f142 fu p0 c101) fun a0 =>
   (sameC c101 c101 (some (decide (0 ≤ a0)))))
def slices_ContainsFunc_int_1f142_g (fu : Nat) : Sig := mkSig [.one (.lst .int), .one (.clo 142 [101])] [(101, .boxst .Config)] [.one (.boo)] [] [101] (Bool) (fun q => ((q, ()), ())) (fun x y => slices_ContainsFunc_int_1f142 fu x.1 y.1)
theorem slices_ContainsFunc_int_1f142_ok (fu : Nat) : FnOK Tryz.prog 47 (slices_ContainsFunc_int_1f142_g fu) :=
  FnOK.intro (ty := ty) (E := envL [(58, 0, slices_IndexFunc_int_1f142_g fu)]) (fu := fu) (an := .go) (fun a b => a.1) (fun _ _ => rfl) (envL_ok (l := [(58, 0, slices_IndexFunc_int_1f142_g fu)]) ⟨slices_IndexFunc_int_1f142_ok fu, trivial⟩) Tryz.func47 rfl rfl (fun x y => by kernel_rfl)
def resolve_checkLayer (fu : Nat) (p0 : D.Config) (p1 : D.Layer) : Option (Int) :=
  (join (Y := (Unit × Unit)) (fun (_, _) =>
    (some 0)) fun J0 =>
   (optc (resolve_index fu (D.Layer.Zone p1) (((List.length (D.Config.Zones p0)) : Nat) : Int)) fun a1 =>
    (cnd (!a1)
     (some 3)
     (cnd (decide ((D.Local.Day (D.Layer.Start p1)) < 1))
      (some 1)
      (optc (resolve_day fu (D.Local.Day (D.Layer.Start p1))) fun a2 =>
       (cnd a2
        (optc (resolve_in fu (D.Local.Second (D.Layer.Start p1)) 0 86399) fun a3 =>
         (cnd a3
          (optc (resolve_in fu (D.Layer.Unit p1) 0 2) fun a4 =>
           (cnd a4
            (optc (resolve_in fu (D.Layer.Every p1) 1 400) fun a5 =>
             (cnd a5
              (cnd (decide ((((List.length (D.Layer.Members p1)) : Nat) : Int) = 0))
               (some 7)
               (cnd (decide (12 < (((List.length (D.Layer.Members p1)) : Nat) : Int)))
                (some 5)
                (optc (slices_ContainsFunc_int_1f142 fu (D.Layer.Members p1) p0) fun a6 =>
                 (cnd a6
                  (some 3)
                  (optc (week_Check fu (D.Layer.Windows p1)) fun a7 =>
                   (cnd (decide (a7 ≠ 0))
                    (some 8)
                    (optc (resolve_in fu (D.Layer.Mode p1) 0 2) fun a8 =>
                     (cnd (!a8)
                      (some 1)
                      (cnd (decide ((D.Layer.Mode p1) ≠ 0))
                       (optc (resolve_index fu (D.Layer.Calendar p1) (((List.length (D.Config.Calendars p0)) : Nat) : Int)) fun a9 =>
                        (cnd a9
                         (cnd (decide ((D.Layer.Mode p1) = 0))
                          (cnd (decide ((D.Layer.Calendar p1) ≠ 0))
                           (some 1)
                           (J0 ((), ())))
                          (J0 ((), ())))
                         (some 3)))
                       (cnd (decide ((D.Layer.Mode p1) = 0))
                        (cnd (decide ((D.Layer.Calendar p1) ≠ 0))
                         (some 1)
                         (J0 ((), ())))
                        (J0 ((), ()))))))))))))
              (some 1)))
            (some 1)))
          (some 1)))
        (some 1)))))))
def resolve_checkLayer_g (fu : Nat) : Sig := mkSig [.st .Config, .st .Layer] [] [.one (.num .i64)] [] [] (Int) (fun q => ((q, ()), ())) (fun x y => resolve_checkLayer fu x.1 x.2.1)
theorem resolve_checkLayer_ok (fu : Nat) : FnOK Tryz.prog 129 (resolve_checkLayer_g fu) :=
  FnOK.intro (ty := ty) (E := envL [(47, 0, slices_ContainsFunc_int_1f142_g fu), (121, 0, resolve_index_g fu), (122, 0, week_Check_g fu), (125, 0, resolve_day_g fu), (140, 0, resolve_in_g fu)]) (fu := fu) (an := .two (.go) (.two (.join [] [] (.go)) (.go))) (fun a b => a.1) (fun _ _ => rfl) (envL_ok (l := [(47, 0, slices_ContainsFunc_int_1f142_g fu), (121, 0, resolve_index_g fu), (122, 0, week_Check_g fu), (125, 0, resolve_day_g fu), (140, 0, resolve_in_g fu)]) ⟨slices_ContainsFunc_int_1f142_ok fu, resolve_index_ok fu, week_Check_ok fu, resolve_day_ok fu, resolve_in_ok fu, trivial⟩) Tryz.func129 rfl rfl (fun x y => by kernel_rfl)
def resolve_checkSchedule_2 (fu : Nat) (p0 : D.Layer) (p1 : D.Config) : Option (Int) :=
  (optc (resolve_checkLayer fu p1 p0) fun a0 =>
   (sameC p1 p1 (some a0)))
def resolve_checkSchedule_2_g (fu : Nat) : Sig := mkSig [.st .Layer, .one (.ref 101)] [(101, .boxst .Config)] [.one (.num .i64)] [] [101] (Int) (fun q => ((q, ()), ())) (fun x y => resolve_checkSchedule_2 fu x.1 y.1)
theorem resolve_checkSchedule_2_ok (fu : Nat) : FnOK Tryz.prog 128 (resolve_checkSchedule_2_g fu) :=
  FnOK.intro (ty := ty) (E := envL [(129, 0, resolve_checkLayer_g fu)]) (fu := fu) (an := .go) (fun a b => a.1) (fun _ _ => rfl) (envL_ok (l := [(129, 0, resolve_checkLayer_g fu)]) ⟨resolve_checkLayer_ok fu, trivial⟩) Tryz.func128 rfl rfl (fun x y => by kernel_rfl)
def resolve_named_Layer_1f127_2f128 (fu : Nat) (p0 : List D.Layer) (c101 : D.Config) : Option (Int) :=
  (iterF (X := ((List D.Layer × (Int × (Int × Unit))) × (D.Config × (List ((ByteArray × Bool)) × Unit)))) (fun L0 ((a1, (a2, (a3, _))), (a4, (a5, _))) =>
   (cnd (decide (a3 < a2))
    (atc a1 a3 fun a6 =>
     (optc (resolve_checkSchedule_1 fu a6) fun a7 =>
      (optc (resolve_name fu a7 a5) fun (a8, a9) =>
       (cnd (decide (a8 ≠ 0))
        (sameC a4 c101 (some a8))
        (optc (resolve_checkSchedule_2 fu a6 a4) fun a10 =>
         (cnd (decide (a10 ≠ 0))
          (sameC a4 c101 (some a10))
          (L0 ((a1, (a2, ((IntKind.wrap .i64 (a3 + 1)), ()))), (a4, (a9, ()))))))))))
    (sameC a4 c101 (some 0)))) fu ((p0, ((((List.length p0) : Nat) : Int), (0, ()))), (c101, ([], ()))))
def resolve_named_Layer_1f127_2f128_g (fu : Nat) : Sig := mkSig [.one (.lst .Layer), .one (.fv 127), .one (.clo 128 [101])] [(101, .boxst .Config)] [.one (.num .i64)] [] [101] (Int) (fun q => ((q, ()), ())) (fun x y => resolve_named_Layer_1f127_2f128 fu x.1 y.1)
theorem resolve_named_Layer_1f127_2f128_ok (fu : Nat) : FnOK Tryz.prog 126 (resolve_named_Layer_1f127_2f128_g fu) :=
  FnOK.intro (ty := ty) (E := envL [(102, 0, resolve_name_g fu), (127, 0, resolve_checkSchedule_1_g fu), (128, 0, resolve_checkSchedule_2_g fu)]) (fu := fu) (an := .two (.go) (.two (.go) (.two (.two (.go) (.one (.loop [(1, .one (.fv 127)), (2, .one (.clo 128 [101])), (7, .one (.mref 1012)), (13, .one (.lst .Layer)), (14, .one (.num .i64)), (15, .one (.num .i64))] [(101, .boxst .Config), (1012, .sm)] (.go)))) (.go)))) (fun a b => a.1) (fun _ _ => rfl) (envL_ok (l := [(102, 0, resolve_name_g fu), (127, 0, resolve_checkSchedule_1_g fu), (128, 0, resolve_checkSchedule_2_g fu)]) ⟨resolve_name_ok fu, resolve_checkSchedule_1_ok fu, resolve_checkSchedule_2_ok fu, trivial⟩) Tryz.func126 rfl rfl (fun x y => by kernel_rfl)
def resolve_checkEdit (fu : Nat) (p0 : D.Config) (p1 : D.Edit) : Option (Int) :=
  (join (Y := (Unit × Unit)) (fun (_, _) =>
    (some 0)) fun J0 =>
   (optc (resolve_in fu (D.Edit.Kind p1) 0 2) fun a1 =>
    (cnd (!a1)
     (some 1)
     (join (Y := ((Bool × Unit) × (D.Edit × Unit))) (fun ((a2, _), (a3, _)) =>
       (cnd a2
        (some 3)
        (cnd (decide ((D.Edit.Kind a3) ≠ 2))
         (cnd (decide ((D.Edit.B a3) ≠ 0))
          (some 1)
          (cnd (decide ((D.Edit.Kind a3) = 2))
           (cnd (decide ((D.Edit.A a3) = (D.Edit.B a3)))
            (some 4)
            (cnd (decide ((D.Edit.From a3) < 0))
             (some 1)
             (cnd (decide ((D.Edit.To a3) < 0))
              (some 1)
              (nzc 86400 (optc (resolve_day fu (IntKind.wrap .i64 (Int.tdiv (D.Edit.To a3) 86400))) fun a4 =>
               (cnd a4
                (cnd (decide ((D.Edit.To a3) ≤ (D.Edit.From a3)))
                 (some 6)
                 (J0 ((), ())))
                (some 1)))))))
           (cnd (decide ((D.Edit.From a3) < 0))
            (some 1)
            (cnd (decide ((D.Edit.To a3) < 0))
             (some 1)
             (nzc 86400 (optc (resolve_day fu (IntKind.wrap .i64 (Int.tdiv (D.Edit.To a3) 86400))) fun a5 =>
              (cnd a5
               (cnd (decide ((D.Edit.To a3) ≤ (D.Edit.From a3)))
                (some 6)
                (J0 ((), ())))
               (some 1))))))))
         (cnd (decide ((D.Edit.Kind a3) = 2))
          (cnd (decide ((D.Edit.A a3) = (D.Edit.B a3)))
           (some 4)
           (cnd (decide ((D.Edit.From a3) < 0))
            (some 1)
            (cnd (decide ((D.Edit.To a3) < 0))
             (some 1)
             (nzc 86400 (optc (resolve_day fu (IntKind.wrap .i64 (Int.tdiv (D.Edit.To a3) 86400))) fun a6 =>
              (cnd a6
               (cnd (decide ((D.Edit.To a3) ≤ (D.Edit.From a3)))
                (some 6)
                (J0 ((), ())))
               (some 1)))))))
          (cnd (decide ((D.Edit.From a3) < 0))
           (some 1)
           (cnd (decide ((D.Edit.To a3) < 0))
            (some 1)
            (nzc 86400 (optc (resolve_day fu (IntKind.wrap .i64 (Int.tdiv (D.Edit.To a3) 86400))) fun a7 =>
             (cnd a7
              (cnd (decide ((D.Edit.To a3) ≤ (D.Edit.From a3)))
               (some 6)
               (J0 ((), ())))
              (some 1)))))))))) fun J8 =>
      (optc (resolve_index fu (D.Edit.A p1) (((List.length (D.Config.People p0)) : Nat) : Int)) fun a9 =>
       (cnd a9
        (cnd (decide ((D.Edit.Kind p1) = 2))
         (optc (resolve_index fu (D.Edit.B p1) (((List.length (D.Config.People p0)) : Nat) : Int)) fun a10 =>
          (cnd a10
           (J8 ((false, ()), (p1, ())))
           (J8 ((true, ()), (p1, ())))))
         (J8 ((false, ()), (p1, ()))))
        (cnd (decide ((D.Edit.Kind p1) = 1))
         (cnd (decide ((D.Edit.A p1) = (-1)))
          (cnd (decide ((D.Edit.Kind p1) = 2))
           (optc (resolve_index fu (D.Edit.B p1) (((List.length (D.Config.People p0)) : Nat) : Int)) fun a11 =>
            (cnd a11
             (J8 ((false, ()), (p1, ())))
             (J8 ((true, ()), (p1, ())))))
           (J8 ((false, ()), (p1, ()))))
          (J8 ((true, ()), (p1, ()))))
         (J8 ((true, ()), (p1, ()))))))))))
def resolve_checkEdit_g (fu : Nat) : Sig := mkSig [.st .Config, .st .Edit] [] [.one (.num .i64)] [] [] (Int) (fun q => ((q, ()), ())) (fun x y => resolve_checkEdit fu x.1 x.2.1)
theorem resolve_checkEdit_ok (fu : Nat) : FnOK Tryz.prog 130 (resolve_checkEdit_g fu) :=
  FnOK.intro (ty := ty) (E := envL [(121, 0, resolve_index_g fu), (125, 0, resolve_day_g fu), (140, 0, resolve_in_g fu)]) (fu := fu) (an := .two (.go) (.two (.go) (.two (.join [] [] (.one (.two (.go) (.two (.go) (.two (.join [(3, .one (.ref 1003)), (14, .one (.boo))] [(1003, .boxst .Edit)] (.go)) (.go)))))) (.go)))) (fun a b => a.1) (fun _ _ => rfl) (envL_ok (l := [(121, 0, resolve_index_g fu), (125, 0, resolve_day_g fu), (140, 0, resolve_in_g fu)]) ⟨resolve_index_ok fu, resolve_day_ok fu, resolve_in_ok fu, trivial⟩) Tryz.func130 rfl rfl (fun x y => by kernel_rfl)
def resolve_checkSchedule (fu : Nat) (p0 : D.Config) (p1 : D.Schedule) : Option (Int) :=
  (join (Y := (Unit × (D.Config × (D.Schedule × Unit)))) (fun (_, (a0, (a1, _))) =>
    (optc (resolve_named_Layer_1f127_2f128 fu (D.Schedule.Layers a1) a0) fun a2 =>
     (cnd (decide (a2 ≠ 0))
      (some a2)
      (iterF (X := ((List D.Edit × (Int × (Int × Unit))) × (D.Config × Unit))) (fun L3 ((a4, (a5, (a6, _))), (a7, _)) =>
       (cnd (decide (a6 < a5))
        (atc a4 a6 fun a8 =>
         (optc (resolve_checkEdit fu a7 a8) fun a9 =>
          (cnd (decide (a9 ≠ 0))
           (some a9)
           (L3 ((a4, (a5, ((IntKind.wrap .i64 (a6 + 1)), ()))), (a7, ()))))))
        (some 0))) fu (((D.Schedule.Edits a1), ((((List.length (D.Schedule.Edits a1)) : Nat) : Int), (0, ()))), (a0, ())))))) fun J10 =>
   (cnd (decide (6 < (((List.length (D.Schedule.Layers p1)) : Nat) : Int)))
    (some 5)
    (cnd (decide (48 < (((List.length (D.Schedule.Edits p1)) : Nat) : Int)))
     (some 5)
     (J10 ((), (p0, (p1, ())))))))
def resolve_checkSchedule_g (fu : Nat) : Sig := mkSig [.st .Config, .st .Schedule] [] [.one (.num .i64)] [] [] (Int) (fun q => ((q, ()), ())) (fun x y => resolve_checkSchedule fu x.1 x.2.1)
theorem resolve_checkSchedule_ok (fu : Nat) : FnOK Tryz.prog 111 (resolve_checkSchedule_g fu) :=
  FnOK.intro (ty := ty) (E := envL [(126, 0, resolve_named_Layer_1f127_2f128_g fu), (130, 0, resolve_checkEdit_g fu)]) (fu := fu) (an := .two (.go) (.two (.join [(2, .one (.ref 1002)), (3, .one (.ref 1003))] [(1002, .boxst .Config), (1003, .boxst .Schedule)] (.go)) (.two (.go) (.two (.go) (.two (.two (.go) (.one (.loop [(2, .one (.ref 1002)), (27, .one (.lst .Edit)), (28, .one (.num .i64)), (29, .one (.num .i64))] [(1002, .boxst .Config)] (.go)))) (.go)))))) (fun a b => a.1) (fun _ _ => rfl) (envL_ok (l := [(126, 0, resolve_named_Layer_1f127_2f128_g fu), (130, 0, resolve_checkEdit_g fu)]) ⟨resolve_named_Layer_1f127_2f128_ok fu, resolve_checkEdit_ok fu, trivial⟩) Tryz.func111 rfl rfl (fun x y => by kernel_rfl)
def resolve_Check_5 (fu : Nat) (p0 : D.Schedule) (p1 : D.Config) : Option (Int) :=
  (optc (resolve_checkSchedule fu p1 p0) fun a0 =>
   (sameC p1 p1 (some a0)))
def resolve_Check_5_g (fu : Nat) : Sig := mkSig [.st .Schedule, .one (.ref 101)] [(101, .boxst .Config)] [.one (.num .i64)] [] [101] (Int) (fun q => ((q, ()), ())) (fun x y => resolve_Check_5 fu x.1 y.1)
theorem resolve_Check_5_ok (fu : Nat) : FnOK Tryz.prog 110 (resolve_Check_5_g fu) :=
  FnOK.intro (ty := ty) (E := envL [(111, 0, resolve_checkSchedule_g fu)]) (fu := fu) (an := .go) (fun a b => a.1) (fun _ _ => rfl) (envL_ok (l := [(111, 0, resolve_checkSchedule_g fu)]) ⟨resolve_checkSchedule_ok fu, trivial⟩) Tryz.func110 rfl rfl (fun x y => by kernel_rfl)
def resolve_named_Schedule_1f109_2f110 (fu : Nat) (p0 : List D.Schedule) (c101 : D.Config) : Option (Int) :=
  (iterF (X := ((List D.Schedule × (Int × (Int × Unit))) × (D.Config × (List ((ByteArray × Bool)) × Unit)))) (fun L0 ((a1, (a2, (a3, _))), (a4, (a5, _))) =>
   (cnd (decide (a3 < a2))
    (atc a1 a3 fun a6 =>
     (optc (resolve_Check_4 fu a6) fun a7 =>
      (optc (resolve_name fu a7 a5) fun (a8, a9) =>
       (cnd (decide (a8 ≠ 0))
        (sameC a4 c101 (some a8))
        (optc (resolve_Check_5 fu a6 a4) fun a10 =>
         (cnd (decide (a10 ≠ 0))
          (sameC a4 c101 (some a10))
          (L0 ((a1, (a2, ((IntKind.wrap .i64 (a3 + 1)), ()))), (a4, (a9, ()))))))))))
    (sameC a4 c101 (some 0)))) fu ((p0, ((((List.length p0) : Nat) : Int), (0, ()))), (c101, ([], ()))))
def resolve_named_Schedule_1f109_2f110_g (fu : Nat) : Sig := mkSig [.one (.lst .Schedule), .one (.fv 109), .one (.clo 110 [101])] [(101, .boxst .Config)] [.one (.num .i64)] [] [101] (Int) (fun q => ((q, ()), ())) (fun x y => resolve_named_Schedule_1f109_2f110 fu x.1 y.1)
theorem resolve_named_Schedule_1f109_2f110_ok (fu : Nat) : FnOK Tryz.prog 108 (resolve_named_Schedule_1f109_2f110_g fu) :=
  FnOK.intro (ty := ty) (E := envL [(102, 0, resolve_name_g fu), (109, 0, resolve_Check_4_g fu), (110, 0, resolve_Check_5_g fu)]) (fu := fu) (an := .two (.go) (.two (.go) (.two (.two (.go) (.one (.loop [(1, .one (.fv 109)), (2, .one (.clo 110 [101])), (7, .one (.mref 1012)), (13, .one (.lst .Schedule)), (14, .one (.num .i64)), (15, .one (.num .i64))] [(101, .boxst .Config), (1012, .sm)] (.go)))) (.go)))) (fun a b => a.1) (fun _ _ => rfl) (envL_ok (l := [(102, 0, resolve_name_g fu), (109, 0, resolve_Check_4_g fu), (110, 0, resolve_Check_5_g fu)]) ⟨resolve_name_ok fu, resolve_Check_4_ok fu, resolve_Check_5_ok fu, trivial⟩) Tryz.func108 rfl rfl (fun x y => by kernel_rfl)
def resolve_Check (fu : Nat) (p0 : D.Config) : Option (Int) :=
  (join (Y := (Unit × (D.Config × Unit))) (fun (_, (a0, _)) =>
    (optc (resolve_named_Zone_1f100_2f101 fu (D.Config.Zones a0)) fun a1 =>
     (cnd (decide (a1 ≠ 0))
      (some a1)
      (iterF (X := ((List D.Person × (Int × (Int × Unit))) × (D.Config × (List ((ByteArray × Bool)) × Unit)))) (fun L2 ((a3, (a4, (a5, _))), (a6, (a7, _))) =>
       (cnd (decide (a5 < a4))
        (atc a3 a5 fun a8 =>
         (optc (resolve_name fu (D.Person.Name a8) a7) fun (a9, a10) =>
          (join (Y := ((Int × (List D.Person × (Int × (Int × Unit)))) × (D.Config × (D.Person × (List ((ByteArray × Bool)) × Unit))))) (fun ((a11, (a12, (a13, (a14, _)))), (a15, (a16, (a17, _)))) =>
            (join (Y := ((Int × (List D.Person × (Int × (Int × Unit)))) × (D.Config × (List ((ByteArray × Bool)) × Unit)))) (fun ((a18, (a19, (a20, (a21, _)))), (a22, (a23, _))) =>
              (cnd (decide (a18 ≠ 0))
               (some a18)
               (L2 ((a19, (a20, ((IntKind.wrap .i64 (a21 + 1)), ()))), (a22, (a23, ())))))) fun J24 =>
             (cnd (decide (a11 = 0))
              (optc (resolve_checkPerson fu a15 a16) fun a25 =>
               (J24 ((a25, (a12, (a13, (a14, ())))), (a15, (a17, ())))))
              (J24 ((a11, (a12, (a13, (a14, ())))), (a15, (a17, ()))))))) fun J26 =>
           (cnd (decide ((D.Person.Name a8) = (ByteArray.mk (List.toArray (110 :: (111 :: (98 :: (111 :: (100 :: (121 :: []))))))))))
            (J26 ((2, (a3, (a4, (a5, ())))), (a6, (a8, (a10, ())))))
            (J26 ((a9, (a3, (a4, (a5, ())))), (a6, (a8, (a10, ())))))))))
        (optc (resolve_named_Calendar_1f105_2f106 fu (D.Config.Calendars a6) a6) fun a27 =>
         (cnd (decide (a27 ≠ 0))
          (some a27)
          (optc (resolve_named_Schedule_1f109_2f110 fu (D.Config.Schedules a6) a6) fun a28 =>
           (some a28)))))) fu (((D.Config.People a0), ((((List.length (D.Config.People a0)) : Nat) : Int), (0, ()))), (a0, ([], ()))))))) fun J29 =>
   (cnd (decide (16 < (((List.length (D.Config.Zones p0)) : Nat) : Int)))
    (some 5)
    (cnd (decide (32 < (((List.length (D.Config.People p0)) : Nat) : Int)))
     (some 5)
     (cnd (decide (8 < (((List.length (D.Config.Calendars p0)) : Nat) : Int)))
      (some 5)
      (cnd (decide (12 < (((List.length (D.Config.Schedules p0)) : Nat) : Int)))
       (some 5)
       (J29 ((), (p0, ()))))))))
def resolve_Check_g (fu : Nat) : Sig := mkSig [.st .Config] [] [.one (.num .i64)] [] [] (Int) (fun q => ((q, ()), ())) (fun x y => resolve_Check fu x.1)
theorem resolve_Check_ok (fu : Nat) : FnOK Tryz.prog 92 (resolve_Check_g fu) :=
  FnOK.intro (ty := ty) (E := envL [(99, 0, resolve_named_Zone_1f100_2f101_g fu), (102, 0, resolve_name_g fu), (103, 0, resolve_checkPerson_g fu), (104, 0, resolve_named_Calendar_1f105_2f106_g fu), (108, 0, resolve_named_Schedule_1f109_2f110_g fu)]) (fu := fu) (an := .two (.go) (.two (.join [(1, .one (.ref 1001))] [(1001, .boxst .Config)] (.go)) (.two (.go) (.two (.go) (.two (.two (.go) (.one (.loop [(1, .one (.ref 1001)), (4, .one (.mref 1037)), (39, .one (.lst .Person)), (40, .one (.num .i64)), (41, .one (.num .i64))] [(1001, .boxst .Config), (1037, .sm)] (.two (.go) (.two (.go) (.two (.one (.two (.go) (.two (.go) (.two (.join [(1, .one (.ref 1001)), (4, .one (.mref 1037)), (6, .one (.ref 1006)), (7, .one (.num .i64)), (39, .one (.lst .Person)), (40, .one (.num .i64)), (41, .one (.num .i64))] [(1001, .boxst .Config), (1006, .boxst .Person), (1037, .sm)] (.go)) (.two (.join [(1, .one (.ref 1001)), (4, .one (.mref 1037)), (7, .one (.num .i64)), (39, .one (.lst .Person)), (40, .one (.num .i64)), (41, .one (.num .i64))] [(1001, .boxst .Config), (1037, .sm)] (.go)) (.go)))))) (.go))))))) (.go)))))) (fun a b => a.1) (fun _ _ => rfl) (envL_ok (l := [(99, 0, resolve_named_Zone_1f100_2f101_g fu), (102, 0, resolve_name_g fu), (103, 0, resolve_checkPerson_g fu), (104, 0, resolve_named_Calendar_1f105_2f106_g fu), (108, 0, resolve_named_Schedule_1f109_2f110_g fu)]) ⟨resolve_named_Zone_1f100_2f101_ok fu, resolve_name_ok fu, resolve_checkPerson_ok fu, resolve_named_Calendar_1f105_2f106_ok fu, resolve_named_Schedule_1f109_2f110_ok fu, trivial⟩) Tryz.func92 rfl rfl (fun x y => by kernel_rfl)
def zone_Of (fu : Nat) (p0 : D.Zone) : Option (D.Table × Int) :=
  (optc (zone_Transitions fu p0) fun (a0, a1) =>
   (some ((D.Table.mk (D.Zone.Offset p0) a0), a1)))
def zone_Of_g (fu : Nat) : Sig := mkSig [.st .Zone] [] [.st .Table, .one (.num .i64)] [] [] (D.Table × Int) (fun q => ((q.1, q.2, ()), ())) (fun x y => zone_Of fu x.1)
theorem zone_Of_ok (fu : Nat) : FnOK Tryz.prog 131 (zone_Of_g fu) :=
  FnOK.intro (ty := ty) (E := envL [(136, 0, zone_Transitions_g fu)]) (fu := fu) (an := .go) (fun a b => (a.1, a.2.1)) (fun _ _ => rfl) (envL_ok (l := [(136, 0, zone_Transitions_g fu)]) ⟨zone_Transitions_ok fu, trivial⟩) Tryz.func131 rfl rfl (fun x y => by kernel_rfl)
def zone_Tables (fu : Nat) (p0 : List D.Zone) : Option (List D.Table) :=
  (iterF (X := ((List D.Zone × (Int × (Int × Unit))) × (List D.Table × Unit))) (fun L0 ((a1, (a2, (a3, _))), (a4, _)) =>
   (cnd (decide (a3 < a2))
    (atc a1 a3 fun a5 =>
     (optc (zone_Of fu a5) fun (a6, a7) =>
      (lec ((List.length a4) + (List.length (a6 :: []))) 34359738368 (L0 ((a1, (a2, ((IntKind.wrap .i64 (a3 + 1)), ()))), ((a4 ++ (a6 :: [])), ()))))))
    (some a4))) fu ((p0, ((((List.length p0) : Nat) : Int), (0, ()))), ([], ())))
def zone_Tables_g (fu : Nat) : Sig := mkSig [.one (.lst .Zone)] [] [.one (.lst .Table)] [] [] (List D.Table) (fun q => ((q, ()), ())) (fun x y => zone_Tables fu x.1)
theorem zone_Tables_ok (fu : Nat) : FnOK Tryz.prog 112 (zone_Tables_g fu) :=
  FnOK.intro (ty := ty) (E := envL [(131, 0, zone_Of_g fu)]) (fu := fu) (an := .two (.go) (.two (.go) (.two (.two (.go) (.one (.loop [(3, .one (.own 1022)), (8, .one (.lst .Zone)), (9, .one (.num .i64)), (10, .one (.num .i64))] [(1022, .arr .Table)] (.go)))) (.go)))) (fun a b => a.1) (fun _ _ => rfl) (envL_ok (l := [(131, 0, zone_Of_g fu)]) ⟨zone_Of_ok fu, trivial⟩) Tryz.func112 rfl rfl (fun x y => by kernel_rfl)
def duty_view (fu : Nat) (p0 : D.Config) : Option (D.View) :=
  (optc (zone_Tables fu (D.Config.Zones p0)) fun a0 =>
   (some (D.View.mk p0 a0)))
def duty_view_g (fu : Nat) : Sig := mkSig [.st .Config] [] [.st .View] [] [] (D.View) (fun q => ((q, ()), ())) (fun x y => duty_view fu x.1)
theorem duty_view_ok (fu : Nat) : FnOK Tryz.prog 93 (duty_view_g fu) :=
  FnOK.intro (ty := ty) (E := envL [(112, 0, zone_Tables_g fu)]) (fu := fu) (an := .go) (fun a b => a.1) (fun _ _ => rfl) (envL_ok (l := [(112, 0, zone_Tables_g fu)]) ⟨zone_Tables_ok fu, trivial⟩) Tryz.func93 rfl rfl (fun x y => by kernel_rfl)
def duty_Of (fu : Nat) (p0 : D.Config) : Option (D.View × Bool) :=
  (optc (resolve_Check fu p0) fun a0 =>
   (cnd (decide (a0 ≠ 0))
    (some ((D.View.mk (D.Config.mk [] [] [] []) []), false))
    (optc (duty_view fu p0) fun a1 =>
     (some (a1, true)))))
def duty_Of_g (fu : Nat) : Sig := mkSig [.st .Config] [] [.st .View, .one (.boo)] [] [] (D.View × Bool) (fun q => ((q.1, q.2, ()), ())) (fun x y => duty_Of fu x.1)
theorem duty_Of_ok (fu : Nat) : FnOK Tryz.prog 80 (duty_Of_g fu) :=
  FnOK.intro (ty := ty) (E := envL [(92, 0, resolve_Check_g fu), (93, 0, duty_view_g fu)]) (fu := fu) (an := .go) (fun a b => (a.1, a.2.1)) (fun _ _ => rfl) (envL_ok (l := [(92, 0, resolve_Check_g fu), (93, 0, duty_view_g fu)]) ⟨resolve_Check_ok fu, duty_view_ok fu, trivial⟩) Tryz.func80 rfl rfl (fun x y => by kernel_rfl)
def stack_Index (fu : Nat) (p0 : D.Config) (p1 : Int) : Option (Bool) :=
  (cnd (decide (0 ≤ p1))
   (cnd (decide (p1 < (((List.length (D.Config.Schedules p0)) : Nat) : Int)))
    (some true)
    (some false))
   (some false))
def stack_Index_g (fu : Nat) : Sig := mkSig [.st .Config, .one (.num .i64)] [] [.one (.boo)] [] [] (Bool) (fun q => ((q, ()), ())) (fun x y => stack_Index fu x.1 x.2.1)
theorem stack_Index_ok (fu : Nat) : FnOK Tryz.prog 97 (stack_Index_g fu) :=
  FnOK.intro (ty := ty) (E := envL []) (fu := fu) (an := .go) (fun a b => a.1) (fun _ _ => rfl) (envL_ok (l := []) trivial) Tryz.func97 rfl rfl (fun x y => by kernel_rfl)
def edit_active (fu : Nat) (p0 : D.Edit) (p1 : Int) : Option (Bool) :=
  (cnd (decide ((D.Edit.From p0) ≤ p1))
   (cnd (decide (p1 < (D.Edit.To p0)))
    (some true)
    (some false))
   (some false))
def edit_active_g (fu : Nat) : Sig := mkSig [.st .Edit, .one (.num .i64)] [] [.one (.boo)] [] [] (Bool) (fun q => ((q, ()), ())) (fun x y => edit_active fu x.1 x.2.1)
theorem edit_active_ok (fu : Nat) : FnOK Tryz.prog 135 (edit_active_g fu) :=
  FnOK.intro (ty := ty) (E := envL []) (fu := fu) (an := .go) (fun a b => a.1) (fun _ _ => rfl) (envL_ok (l := []) trivial) Tryz.func135 rfl rfl (fun x y => by kernel_rfl)
def edit_Fold (fu : Nat) (p0 : List D.Edit) (p1 : Int) (p2 : Int) : Option (Int) :=
  (iterF (X := ((Int × (Int × (List D.Edit × (Int × (Int × Unit))))) × Unit)) (fun L0 ((a1, (a2, (a3, (a4, (a5, _))))), _) =>
   (cnd (decide (a5 < a4))
    (join (Y := ((Int × (Int × (List D.Edit × (Int × (Int × Unit))))) × Unit)) (fun ((a6, (a7, (a8, (a9, (a10, _))))), _) =>
      (L0 ((a6, (a7, (a8, (a9, ((IntKind.wrap .i64 (a10 + 1)), ()))))), ()))) fun J11 =>
     (atc a3 a5 fun a12 =>
      (optc (edit_active fu a12 a2) fun a13 =>
       (cnd a13
        (cnd (decide ((D.Edit.Kind a12) = 0))
         (J11 ((a1, (a2, (a3, (a4, (a5, ()))))), ()))
         (cnd (decide ((D.Edit.Kind a12) = 1))
          (J11 (((D.Edit.A a12), (a2, (a3, (a4, (a5, ()))))), ()))
          (cnd (decide ((D.Edit.Kind a12) ≠ 2))
           (J11 ((a1, (a2, (a3, (a4, (a5, ()))))), ()))
           (cnd (decide (a1 = (D.Edit.A a12)))
            (J11 (((D.Edit.B a12), (a2, (a3, (a4, (a5, ()))))), ()))
            (cnd (decide (a1 = (D.Edit.B a12)))
             (J11 (((D.Edit.A a12), (a2, (a3, (a4, (a5, ()))))), ()))
             (J11 ((a1, (a2, (a3, (a4, (a5, ()))))), ())))))))
        (J11 ((a1, (a2, (a3, (a4, (a5, ()))))), ()))))))
    (some a1))) fu ((p1, (p2, (p0, ((((List.length p0) : Nat) : Int), (0, ()))))), ()))
def edit_Fold_g (fu : Nat) : Sig := mkSig [.one (.lst .Edit), .one (.num .i64), .one (.num .i64)] [] [.one (.num .i64)] [] [] (Int) (fun q => ((q, ()), ())) (fun x y => edit_Fold fu x.1 x.2.1 x.2.2.1)
theorem edit_Fold_ok (fu : Nat) : FnOK Tryz.prog 116 (edit_Fold_g fu) :=
  FnOK.intro (ty := ty) (E := envL [(135, 0, edit_active_g fu)]) (fu := fu) (an := .two (.go) (.two (.two (.go) (.one (.loop [(1, .one (.num .i64)), (2, .one (.num .i64)), (9, .one (.lst .Edit)), (10, .one (.num .i64)), (11, .one (.num .i64))] [] (.two (.go) (.two (.go) (.two (.join [(1, .one (.num .i64)), (2, .one (.num .i64)), (9, .one (.lst .Edit)), (10, .one (.num .i64)), (11, .one (.num .i64))] [] (.go)) (.go))))))) (.go))) (fun a b => a.1) (fun _ _ => rfl) (envL_ok (l := [(135, 0, edit_active_g fu)]) ⟨edit_active_ok fu, trivial⟩) Tryz.func116 rfl rfl (fun x y => by kernel_rfl)
def edit_WhoOf (fu : Nat) (p0 : D.View) (p1 : D.Schedule) (p2 : Int) : Option (Int) :=
  (join (Y := ((Int × Unit) × (D.View × (D.Schedule × Unit)))) (fun ((a0, _), (a1, (a2, _))) =>
    none) fun J3 =>
   (cnd (decide (p2 < 0))
    (some (-1))
    (cnd (decide (8589934592 < p2))
     (some (-1))
     (J3 ((p2, ()), (p0, (p1, ())))))))
def edit_WhoOf_g (fu : Nat) : Sig := mkSig [.st .View, .st .Schedule, .one (.num .i64)] [] [.one (.num .i64)] [] [] (Int) (fun q => ((q, ()), ())) (fun x y => edit_WhoOf fu x.1 x.2.1 x.2.2.1)
theorem edit_WhoOf_ok (fu : Nat) : FnOK Tryz.prog 98 (edit_WhoOf_g fu) :=
  FnOK.intro (ty := ty) (E := envL []) (fu := fu) (an := .two (.go) (.two (.join [(2, .one (.num .i64)), (3, .one (.ref 1003)), (4, .one (.ref 1004))] [(1003, .boxst .View), (1004, .boxst .Schedule)] (.go)) (.go))) (fun a b => a.1) (fun _ _ => rfl) (envL_ok (l := []) trivial) Tryz.func98 rfl rfl (fun x y => by kernel_rfl)
def edit_Who (fu : Nat) (p0 : D.Config) (p1 : Int) (p2 : Int) : Option (Int) :=
  (optc (duty_Of fu p0) fun (a0, a1) =>
   (join (Y := ((Int × (Int × Unit)) × (D.Config × (D.View × Unit)))) (fun ((a2, (a3, _)), (a4, (a5, _))) =>
     (atc (D.Config.Schedules a4) a2 fun a6 =>
      (optc (edit_WhoOf fu a5 a6 a3) fun a7 =>
       (some a7)))) fun J8 =>
    (cnd a1
     (optc (stack_Index fu p0 p1) fun a9 =>
      (cnd a9
       (J8 ((p1, (p2, ())), (p0, (a0, ()))))
       (some (-1))))
     (some (-1)))))
def edit_Who_g (fu : Nat) : Sig := mkSig [.st .Config, .one (.num .i64), .one (.num .i64)] [] [.one (.num .i64)] [] [] (Int) (fun q => ((q, ()), ())) (fun x y => edit_Who fu x.1 x.2.1 x.2.2.1)
theorem edit_Who_ok (fu : Nat) : FnOK Tryz.prog 91 (edit_Who_g fu) :=
  FnOK.intro (ty := ty) (E := envL [(80, 0, duty_Of_g fu), (97, 0, stack_Index_g fu), (98, 0, edit_WhoOf_g fu)]) (fu := fu) (an := .two (.go) (.two (.go) (.two (.join [(1, .one (.num .i64)), (2, .one (.num .i64)), (3, .one (.ref 1003)), (7, .one (.ref 1007))] [(1003, .boxst .Config), (1007, .boxst .View)] (.go)) (.go)))) (fun a b => a.1) (fun _ _ => rfl) (envL_ok (l := [(80, 0, duty_Of_g fu), (97, 0, stack_Index_g fu), (98, 0, edit_WhoOf_g fu)]) ⟨duty_Of_ok fu, stack_Index_ok fu, edit_WhoOf_ok fu, trivial⟩) Tryz.func91 rfl rfl (fun x y => by kernel_rfl)
def roster_Who (fu : Nat) (p0 : D.Config) (p1 : Int) (p2 : Int) : Option (Int) :=
  (optc (edit_Who fu p0 p1 p2) fun a0 =>
   (some a0))
def roster_Who_g (fu : Nat) : Sig := mkSig [.st .Config, .one (.num .i64), .one (.num .i64)] [] [.one (.num .i64)] [] [] (Int) (fun q => ((q, ()), ())) (fun x y => roster_Who fu x.1 x.2.1 x.2.2.1)
theorem roster_Who_ok (fu : Nat) : FnOK Tryz.prog 79 (roster_Who_g fu) :=
  FnOK.intro (ty := ty) (E := envL [(91, 0, edit_Who_g fu)]) (fu := fu) (an := .go) (fun a b => a.1) (fun _ _ => rfl) (envL_ok (l := [(91, 0, edit_Who_g fu)]) ⟨edit_Who_ok fu, trivial⟩) Tryz.func79 rfl rfl (fun x y => by kernel_rfl)
def policy_meant (fu : Nat) (p0 : D.Config) (p1 : D.Book) (p2 : D.Target) (p3 : Int) : Option (List Int) :=
  (join (Y := ((Int × Unit) × (D.Config × (D.Book × (D.Target × Unit))))) (fun ((a0, _), (a1, (a2, (a3, _)))) =>
    (cnd (decide ((D.Target.Kind a3) = 1))
     (optc (roster_Who fu a1 (D.Target.Index a3) a0) fun a4 =>
      (some (a4 :: [])))
     (cnd (decide ((D.Target.Kind a3) = 2))
      (atc (D.Book.Teams a2) (D.Target.Index a3) fun a5 =>
       (some (D.Team.Members a5)))
      (some ((D.Target.Index a3) :: []))))) fun J6 =>
   (optc (policy_in fu (D.Target.Kind p2) 0 2) fun a7 =>
    (cnd a7
     (optc (policy_sizes fu p0 p1) fun a8 =>
      (cnd (decide ((D.Target.Kind p2) = ((0 : Nat) : Int)))
       (optc (policy_in fu (D.Target.Index p2) 0 (IntKind.wrap .i64 ((D.Arr3Int.a0 a8) - 1))) fun a9 =>
        (cnd a9
         (J6 ((p3, ()), (p0, (p1, (p2, ())))))
         (some [])))
       (cnd (decide ((D.Target.Kind p2) = (((0 + 1) : Nat) : Int)))
        (optc (policy_in fu (D.Target.Index p2) 0 (IntKind.wrap .i64 ((D.Arr3Int.a1 a8) - 1))) fun a10 =>
         (cnd a10
          (J6 ((p3, ()), (p0, (p1, (p2, ())))))
          (some [])))
        (cnd (decide ((D.Target.Kind p2) = ((((0 + 1) + 1) : Nat) : Int)))
         (optc (policy_in fu (D.Target.Index p2) 0 (IntKind.wrap .i64 ((D.Arr3Int.a2 a8) - 1))) fun a11 =>
          (cnd a11
           (J6 ((p3, ()), (p0, (p1, (p2, ())))))
           (some [])))
         none))))
     (some []))))
def policy_meant_g (fu : Nat) : Sig := mkSig [.st .Config, .st .Book, .st .Target, .one (.num .i64)] [] [.one (.lst .int)] [] [] (List Int) (fun q => ((q, ()), ())) (fun x y => policy_meant fu x.1 x.2.1 x.2.2.1 x.2.2.2.1)
theorem policy_meant_ok (fu : Nat) : FnOK Tryz.prog 59 (policy_meant_g fu) :=
  FnOK.intro (ty := ty) (E := envL [(50, 0, policy_in_g fu), (78, 0, policy_sizes_g fu), (79, 0, roster_Who_g fu)]) (fu := fu) (an := .two (.go) (.two (.join [(3, .one (.num .i64)), (4, .one (.ref 1004)), (5, .one (.ref 1005)), (6, .one (.ref 1006))] [(1004, .boxst .Config), (1005, .boxst .Book), (1006, .boxst .Target)] (.go)) (.go))) (fun a b => a.1) (fun _ _ => rfl) (envL_ok (l := [(50, 0, policy_in_g fu), (78, 0, policy_sizes_g fu), (79, 0, roster_Who_g fu)]) ⟨policy_in_ok fu, policy_sizes_ok fu, roster_Who_ok fu, trivial⟩) Tryz.func59 rfl rfl (fun x y => by kernel_rfl)
def slices_Compact_int (fu : Nat) (p0 : List Int) : Option (List Int) :=
  (cnd (decide ((((List.length p0) : Nat) : Int) < 2))
   (some p0)
   (iterF (X := ((List Int × (Int × Unit)) × Unit)) (fun L0 ((a1, (a2, _)), _) =>
    (cnd (decide (a2 < (((List.length a1) : Nat) : Int)))
     (atc a1 a2 fun a3 =>
      (atc a1 (IntKind.wrap .i64 (a2 - 1)) fun a4 =>
       (cnd (decide (a3 = a4))
        (natc a2 fun a5 =>
         (lec a5 (List.length a1) (iterF (X := ((List Int × (Int × (List Int × (Int × Unit)))) × Unit)) (fun L6 ((a7, (a8, (a9, (a10, _)))), _) =>
          (cnd (decide (a10 < (((List.length a9) : Nat) : Int)))
           (join (Y := ((List Int × (Int × (List Int × (Int × Unit)))) × Unit)) (fun ((a11, (a12, (a13, (a14, _)))), _) =>
             (L6 ((a11, (a12, (a13, ((IntKind.wrap .i64 (a14 + 1)), ())))), ()))) fun J15 =>
            (atc a9 a10 fun a16 =>
             (atc a9 (IntKind.wrap .i64 (a10 - 1)) fun a17 =>
              (cnd (decide (a16 ≠ a17))
               (atc a9 a10 fun a18 =>
                (atc a7 a8 fun a19 =>
                 none))
               (J15 ((a7, (a8, (a9, (a10, ())))), ()))))))
           (natc a8 fun a20 =>
            (lec a20 (List.length a7) none)))) fu ((a1, (a2, ((List.drop a5 a1), (1, ())))), ()))))
        (L0 ((a1, ((IntKind.wrap .i64 (a2 + 1)), ())), ())))))
     (some a1))) fu ((p0, (1, ())), ())))
def slices_Compact_int_g (fu : Nat) : Sig := mkSig [.one (.lst .int)] [] [.one (.lst .int)] [] [] (List Int) (fun q => ((q, ()), ())) (fun x y => slices_Compact_int fu x.1)
theorem slices_Compact_int_ok (fu : Nat) : FnOK Tryz.prog 61 (slices_Compact_int_g fu) :=
  FnOK.intro (ty := ty) (E := envL []) (fu := fu) (an := .two (.go) (.two (.go) (.two (.two (.go) (.one (.loop [(0, .one (.lst .int)), (3, .one (.num .i64))] [] (.two (.go) (.two (.one (.two (.go) (.two (.two (.go) (.two (.two (.go) (.one (.loop [(0, .one (.lst .int)), (3, .one (.num .i64)), (4, .one (.lst .int)), (5, .one (.num .i64))] [] (.two (.go) (.two (.join [(0, .one (.lst .int)), (3, .one (.num .i64)), (4, .one (.lst .int)), (5, .one (.num .i64))] [] (.go)) (.go)))))) (.go))) (.go)))) (.go)))))) (.go)))) (fun a b => a.1) (fun _ _ => rfl) (envL_ok (l := []) trivial) Tryz.func61 rfl rfl (fun x y => by kernel_rfl)
def policy_People_1 (fu : Nat) (p0 : Int) (p1 : D.Config) : Option (Bool) :=
  (optc (policy_in fu p0 0 (IntKind.wrap .i64 ((((List.length (D.Config.People p1)) : Nat) : Int) - 1))) fun a0 =>
   (sameC p1 p1 (some (!a0))))
def policy_People_1_g (fu : Nat) : Sig := mkSig [.one (.num .i64), .one (.ref 101)] [(101, .boxst .Config)] [.one (.boo)] [] [101] (Bool) (fun q => ((q, ()), ())) (fun x y => policy_People_1 fu x.1 y.1)
theorem policy_People_1_ok (fu : Nat) : FnOK Tryz.prog 60 (policy_People_1_g fu) :=
  FnOK.intro (ty := ty) (E := envL [(50, 0, policy_in_g fu)]) (fu := fu) (an := .go) (fun a b => a.1) (fun _ _ => rfl) (envL_ok (l := [(50, 0, policy_in_g fu)]) ⟨policy_in_ok fu, trivial⟩) Tryz.func60 rfl rfl (fun x y => by kernel_rfl)
def slices_IndexFunc_int_1f60 (fu : Nat) (p0 : List Int) (c101 : D.Config) : Option (Int) :=
  (iterF (X := ((List Int × (Int × (Int × Unit))) × (D.Config × Unit))) (fun L0 ((a1, (a2, (a3, _))), (a4, _)) =>
   (cnd (decide (a3 < a2))
    (atc a1 a3 fun a5 =>
     (optc (policy_People_1 fu a5 a4) fun a6 =>
      (cnd a6
       (sameC a4 c101 (some a3))
       (L0 ((a1, (a2, ((IntKind.wrap .i64 (a3 + 1)), ()))), (a4, ()))))))
    (sameC a4 c101 (some (-1))))) fu ((p0, ((((List.length p0) : Nat) : Int), (0, ()))), (c101, ())))
def slices_IndexFunc_int_1f60_g (fu : Nat) : Sig := mkSig [.one (.lst .int), .one (.clo 60 [101])] [(101, .boxst .Config)] [.one (.num .i64)] [] [101] (Int) (fun q => ((q, ()), ())) (fun x y => slices_IndexFunc_int_1f60 fu x.1 y.1)
theorem slices_IndexFunc_int_1f60_ok (fu : Nat) : FnOK Tryz.prog 58 (slices_IndexFunc_int_1f60_g fu) :=
  FnOK.intro (ty := ty) (E := envL [(60, 0, policy_People_1_g fu)]) (fu := fu) (an := .two (.go) (.two (.two (.go) (.one (.loop [(0, .one (.lst .int)), (1, .one (.clo 60 [101])), (7, .one (.num .i64)), (8, .one (.num .i64))] [(101, .boxst .Config)] (.go)))) (.go))) (fun a b => a.1) (fun _ _ => rfl) (envL_ok (l := [(60, 0, policy_People_1_g fu)]) ⟨policy_People_1_ok fu, trivial⟩) Tryz.func58 rfl rfl (fun x y => by kernel_rfl)
def slices_IndexFunc_int_1f60_0 (fu : Nat) (p0 : List (Int)) (c102 : D.Config) : Option (Int) :=
  (iterF (X := ((Int × (Int × Unit)) × (D.Config × (List Int × Unit)))) (fun L0 ((a1, (a2, _)), (a3, (a4, _))) =>
   (cnd (decide (a2 < a1))
    (natc a2 fun a5 =>
     (ltc a5 (List.length a4) (optc (GetElem?.getElem? a4 a5) fun a6 =>
      (optc (policy_People_1 fu a6 a3) fun a7 =>
       (cnd a7
        (sameC a4 p0 (sameC a3 c102 (some a2)))
        (L0 ((a1, ((IntKind.wrap .i64 (a2 + 1)), ())), (a3, (a4, ())))))))))
    (sameC a4 p0 (sameC a3 c102 (some (-1)))))) fu (((((List.length p0) : Nat) : Int), (0, ())), (c102, (p0, ()))))
def slices_IndexFunc_int_1f60_0_g (fu : Nat) : Sig := mkSig [.one (.own 101), .one (.clo 60 [102])] [(101, .arr .int), (102, .boxst .Config)] [.one (.num .i64)] [] [101, 102] (Int) (fun q => ((q, ()), ())) (fun x y => slices_IndexFunc_int_1f60_0 fu y.1 y.2.1)
theorem slices_IndexFunc_int_1f60_0_ok (fu : Nat) : FnOK Tryz.prog 58 (slices_IndexFunc_int_1f60_0_g fu) :=
  FnOK.intro (ty := ty) (E := envL [(60, 0, policy_People_1_g fu)]) (fu := fu) (an := .two (.go) (.two (.two (.go) (.one (.loop [(0, .one (.own 101)), (1, .one (.clo 60 [102])), (7, .one (.num .i64)), (8, .one (.num .i64))] [(102, .boxst .Config), (101, .arr .int)] (.go)))) (.go))) (fun a b => a.1) (fun _ _ => rfl) (envL_ok (l := [(60, 0, policy_People_1_g fu)]) ⟨policy_People_1_ok fu, trivial⟩) Tryz.func58 rfl rfl (fun x y => by kernel_rfl)
def slices_DeleteFunc_int_1f60_0 (fu : Nat) (p0 : List (Int)) (c102 : D.Config) : Option (Nat × Nat × List (Int)) :=
  (optc (slices_IndexFunc_int_1f60_0 fu p0 c102) fun a0 =>
   (cnd (decide (a0 = (-1)))
    (sameC c102 c102 (some (0, ((List.length p0), p0))))
    (iterF (X := ((Int × (Int × Unit)) × (D.Config × (List Int × Unit)))) (fun L1 ((a2, (a3, _)), (a4, (a5, _))) =>
     (cnd (decide (a3 < (((List.length a5) : Nat) : Int)))
      (join (Y := ((Int × (Int × Unit)) × (D.Config × (List Int × Unit)))) (fun ((a6, (a7, _)), (a8, (a9, _))) =>
        (L1 ((a6, ((IntKind.wrap .i64 (a7 + 1)), ())), (a8, (a9, ()))))) fun J10 =>
       (natc a3 fun a11 =>
        (ltc a11 (List.length a5) (optc (GetElem?.getElem? a5 a11) fun a12 =>
         (optc (policy_People_1 fu a12 a4) fun a13 =>
          (cnd (!a13)
           (natc a2 fun a14 =>
            (ltc a14 (List.length a5) (optc (GetElem?.getElem? a5 a14) fun a15 =>
             (J10 (((IntKind.wrap .i64 (a2 + 1)), (a3, ())), (a4, ((List.set a5 a14 a12), ())))))))
           (J10 ((a2, (a3, ())), (a4, (a5, ()))))))))))
      (natc a2 fun a16 =>
       (lec a16 (List.length a5) (lec a16 (List.length a5) (lec (List.length a5) (List.length a5) (natc a2 fun a17 =>
        (lec a17 (List.length (((List.take a16 a5) ++ (List.replicate ((List.length a5) - a16) 0)) ++ (List.drop (List.length a5) a5))) (sameC a4 c102 (some (0, (a17, (((List.take a16 a5) ++ (List.replicate ((List.length a5) - a16) 0)) ++ (List.drop (List.length a5) a5)))))))))))))) fu ((a0, ((IntKind.wrap .i64 (a0 + 1)), ())), (c102, (p0, ()))))))
def slices_DeleteFunc_int_1f60_0_g (fu : Nat) : Sig := mkSig [.one (.own 101), .one (.clo 60 [102])] [(101, .arr .int), (102, .boxst .Config)] [.one (.view 101)] [(101, .arr .int)] [102] (Nat × Nat × List (Int)) (fun q => ((q.1, q.2.1, ()), (q.2.2, ()))) (fun x y => slices_DeleteFunc_int_1f60_0 fu y.1 y.2.1)
theorem slices_DeleteFunc_int_1f60_0_ok (fu : Nat) : FnOK Tryz.prog 52 (slices_DeleteFunc_int_1f60_0_g fu) :=
  FnOK.intro (ty := ty) (E := envL [(58, 0, slices_IndexFunc_int_1f60_0_g fu), (60, 0, policy_People_1_g fu)]) (fu := fu) (an := .two (.go) (.two (.go) (.two (.go) (.two (.two (.go) (.one (.loop [(0, .one (.own 101)), (1, .one (.clo 60 [102])), (5, .one (.num .i64)), (6, .one (.num .i64))] [(102, .boxst .Config), (101, .arr .int)] (.two (.go) (.two (.join [(0, .one (.own 101)), (1, .one (.clo 60 [102])), (5, .one (.num .i64)), (6, .one (.num .i64))] [(102, .boxst .Config), (101, .arr .int)] (.go)) (.go)))))) (.go))))) (fun a b => (a.1, a.2.1, b.1)) (fun _ _ => rfl) (envL_ok (l := [(58, 0, slices_IndexFunc_int_1f60_0_g fu), (60, 0, policy_People_1_g fu)]) ⟨slices_IndexFunc_int_1f60_0_ok fu, policy_People_1_ok fu, trivial⟩) Tryz.func52 rfl rfl (fun x y => by kernel_rfl)
def slices_insertionSortOrdered_int_0v (fu : Nat) (l0 : Nat) (h0 : Nat) (p0 : List (Int)) (p1 : Int) (p2 : Int) : Option (List (Int)) :=
  (iterF (X := ((Nat × (Nat × (Int × (Int × (Int × Unit))))) × (List Int × Unit))) (fun L0 ((a1, (a2, (a3, (a4, (a5, _))))), (a6, _)) =>
   (cnd (decide (a5 < a4))
    (join (Y := ((Nat × (Nat × (Int × (Int × (Int × Unit))))) × (List Int × Unit))) (fun ((a7, (a8, (a9, (a10, (a11, _))))), (a12, _)) =>
      (L0 ((a7, (a8, (a9, (a10, ((IntKind.wrap .i64 (a11 + 1)), ()))))), (a12, ())))) fun J13 =>
     (iterF (X := ((Nat × (Nat × (Int × (Int × (Int × (Int × Unit)))))) × (List Int × Unit))) (fun L14 ((a15, (a16, (a17, (a18, (a19, (a20, _)))))), (a21, _)) =>
      (join (Y := ((Nat × (Nat × (Int × (Int × (Int × (Int × Unit)))))) × (List Int × Unit))) (fun ((a22, (a23, (a24, (a25, (a26, (a27, _)))))), (a28, _)) =>
        (natc (IntKind.wrap .i64 (a27 - 1)) fun a29 =>
         (ltc a29 (a23 - a22) (optc (GetElem?.getElem? a28 (a22 + a29)) fun a30 =>
          (natc a27 fun a31 =>
           (ltc a31 (a23 - a22) (optc (GetElem?.getElem? a28 (a22 + a31)) fun a32 =>
            (natc a27 fun a33 =>
             (ltc a33 (a23 - a22) (optc (GetElem?.getElem? a28 (a22 + a33)) fun a34 =>
              (natc (IntKind.wrap .i64 (a27 - 1)) fun a35 =>
               (ltc a35 (a23 - a22) (optc (GetElem?.getElem? (List.set a28 (a22 + a33) a30) (a22 + a35)) fun a36 =>
                (L14 ((a22, (a23, (a24, (a25, (a26, ((IntKind.wrap .i64 (a27 - 1)), ())))))), ((List.set (List.set a28 (a22 + a33) a30) (a22 + a35) a32), ())))))))))))))))) fun J37 =>
       (cnd (decide (a17 < a20))
        (natc a20 fun a38 =>
         (ltc a38 (a16 - a15) (optc (GetElem?.getElem? a21 (a15 + a38)) fun a39 =>
          (natc (IntKind.wrap .i64 (a20 - 1)) fun a40 =>
           (ltc a40 (a16 - a15) (optc (GetElem?.getElem? a21 (a15 + a40)) fun a41 =>
            (optc (cmp_Less_int fu a39 a41) fun a42 =>
             (cnd a42
              (J37 ((a15, (a16, (a17, (a18, (a19, (a20, ())))))), (a21, ())))
              (J13 ((a15, (a16, (a17, (a18, (a19, ()))))), (a21, ())))))))))))
        (J13 ((a15, (a16, (a17, (a18, (a19, ()))))), (a21, ())))))) fu ((a1, (a2, (a3, (a4, (a5, (a5, ())))))), (a6, ()))))
    (some a6))) fu ((l0, (h0, (p1, (p2, ((IntKind.wrap .i64 (p1 + 1)), ()))))), (p0, ())))
def slices_insertionSortOrdered_int_0v_g (fu : Nat) : Sig := mkSig [.one (.view 101), .one (.num .i64), .one (.num .i64)] [(101, .arr .int)] [] [(101, .arrs .int)] [] (List (Int)) (fun q => ((), (q, ()))) (fun x y => slices_insertionSortOrdered_int_0v fu x.1 x.2.1 y.1 x.2.2.1 x.2.2.2.1)
theorem slices_insertionSortOrdered_int_0v_ok (fu : Nat) : FnOK Tryz.prog 67 (slices_insertionSortOrdered_int_0v_g fu) :=
  FnOK.intro (ty := ty) (E := envL [(73, 0, cmp_Less_int_g fu)]) (fu := fu) (an := .two (.go) (.one (.loop [(0, .one (.view 101)), (1, .one (.num .i64)), (2, .one (.num .i64)), (6, .one (.num .i64))] [(101, .arr .int)] (.two (.go) (.two (.join [(0, .one (.view 101)), (1, .one (.num .i64)), (2, .one (.num .i64)), (6, .one (.num .i64))] [(101, .arr .int)] (.one (.two (.go) (.one (.loop [(0, .one (.view 101)), (1, .one (.num .i64)), (2, .one (.num .i64)), (6, .one (.num .i64)), (7, .one (.num .i64))] [(101, .arr .int)] (.two (.join [(0, .one (.view 101)), (1, .one (.num .i64)), (2, .one (.num .i64)), (6, .one (.num .i64)), (7, .one (.num .i64))] [(101, .arr .int)] (.go)) (.go))))))) (.go)))))) (fun a b => b.1) (fun _ _ => rfl) (envL_ok (l := [(73, 0, cmp_Less_int_g fu)]) ⟨cmp_Less_int_ok fu, trivial⟩) Tryz.func67 rfl rfl (fun x y => by kernel_rfl)
def slices_pdqsortOrdered_int_0v (fu : Nat) (l0 : Nat) (h0 : Nat) (p0 : List (Int)) (p1 : Int) (p2 : Int) (p3 : Int) : Option (List (Int)) :=
  (iterF (X := ((Nat × (Nat × (Int × (Int × (Int × (Bool × (Bool × Unit))))))) × (List Int × Unit))) (fun L0 ((a1, (a2, (a3, (a4, (a5, (a6, (a7, _))))))), (a8, _)) =>
   (cnd (decide ((IntKind.wrap .i64 (a4 - a3)) ≤ 12))
    (optc (slices_insertionSortOrdered_int_0v fu a1 a2 a8 a3 a4) fun a9 =>
     (chk (List.length a9) (List.length a8) (some a9)))
    (cnd (decide (a5 = 0))
     none
     (cnd (!a6)
      none
      none)))) fu ((l0, (h0, (p1, (p2, (p3, (true, (true, ()))))))), (p0, ())))
def slices_pdqsortOrdered_int_0v_g (fu : Nat) : Sig := mkSig [.one (.view 101), .one (.num .i64), .one (.num .i64), .one (.num .i64)] [(101, .arr .int)] [] [(101, .arrs .int)] [] (List (Int)) (fun q => ((), (q, ()))) (fun x y => slices_pdqsortOrdered_int_0v fu x.1 x.2.1 y.1 x.2.2.1 x.2.2.2.1 x.2.2.2.2.1)
theorem slices_pdqsortOrdered_int_0v_ok (fu : Nat) : FnOK Tryz.prog 56 (slices_pdqsortOrdered_int_0v_g fu) :=
  FnOK.intro (ty := ty) (E := envL [(67, 0, slices_insertionSortOrdered_int_0v_g fu)]) (fu := fu) (an := .two (.go) (.two (.go) (.one (.loop [(0, .one (.view 101)), (1, .one (.num .i64)), (2, .one (.num .i64)), (3, .one (.num .i64)), (8, .one (.boo)), (9, .one (.boo))] [(101, .arr .int)] (.go))))) (fun a b => b.1) (fun _ _ => rfl) (envL_ok (l := [(67, 0, slices_insertionSortOrdered_int_0v_g fu)]) ⟨slices_insertionSortOrdered_int_0v_ok fu, trivial⟩) Tryz.func56 rfl rfl (fun x y => by kernel_rfl)
def slices_Sort_int_0v (fu : Nat) (l0 : Nat) (h0 : Nat) (p0 : List (Int)) : Option (List (Int)) :=
  (optc (math_bits_Len fu (IntKind.wrap .u64 (((h0 - l0) : Nat) : Int))) fun a0 =>
   (optc (slices_pdqsortOrdered_int_0v fu l0 h0 p0 0 (((h0 - l0) : Nat) : Int) a0) fun a1 =>
    (chk (List.length a1) (List.length p0) (some a1))))
def slices_Sort_int_0v_g (fu : Nat) : Sig := mkSig [.one (.view 101)] [(101, .arr .int)] [] [(101, .arrs .int)] [] (List (Int)) (fun q => ((), (q, ()))) (fun x y => slices_Sort_int_0v fu x.1 x.2.1 y.1)
theorem slices_Sort_int_0v_ok (fu : Nat) : FnOK Tryz.prog 46 (slices_Sort_int_0v_g fu) :=
  FnOK.intro (ty := ty) (E := envL [(56, 0, slices_pdqsortOrdered_int_0v_g fu), (57, 0, math_bits_Len_g fu)]) (fu := fu) (an := .go) (fun a b => b.1) (fun _ _ => rfl) (envL_ok (l := [(56, 0, slices_pdqsortOrdered_int_0v_g fu), (57, 0, math_bits_Len_g fu)]) ⟨slices_pdqsortOrdered_int_0v_ok fu, math_bits_Len_ok fu, trivial⟩) Tryz.func46 rfl rfl (fun x y => by kernel_rfl)
def slices_Compact_int_0v (fu : Nat) (l0 : Nat) (h0 : Nat) (p0 : List (Int)) : Option (Nat × Nat × List (Int)) :=
  (cnd (decide ((((h0 - l0) : Nat) : Int) < 2))
   (some (l0, (h0, p0)))
   (iterF (X := ((Nat × (Nat × (Int × Unit))) × (List Int × Unit))) (fun L0 ((a1, (a2, (a3, _))), (a4, _)) =>
    (cnd (decide (a3 < (((a2 - a1) : Nat) : Int)))
     (natc a3 fun a5 =>
      (ltc a5 (a2 - a1) (optc (GetElem?.getElem? a4 (a1 + a5)) fun a6 =>
       (natc (IntKind.wrap .i64 (a3 - 1)) fun a7 =>
        (ltc a7 (a2 - a1) (optc (GetElem?.getElem? a4 (a1 + a7)) fun a8 =>
         (cnd (decide (a6 = a8))
          (natc a3 fun a9 =>
           (ltc a9 (a2 - a1) (iterF (X := ((Nat × (Nat × (Int × (Nat × (Nat × (Int × Unit)))))) × (List Int × Unit))) (fun L10 ((a11, (a12, (a13, (a14, (a15, (a16, _)))))), (a17, _)) =>
            (cnd (decide (a16 < (((a15 - a14) : Nat) : Int)))
             (join (Y := ((Nat × (Nat × (Int × (Nat × (Nat × (Int × Unit)))))) × (List Int × Unit))) (fun ((a18, (a19, (a20, (a21, (a22, (a23, _)))))), (a24, _)) =>
               (L10 ((a18, (a19, (a20, (a21, (a22, ((IntKind.wrap .i64 (a23 + 1)), ())))))), (a24, ())))) fun J25 =>
              (natc a16 fun a26 =>
               (ltc a26 (a15 - a14) (optc (GetElem?.getElem? a17 (a14 + a26)) fun a27 =>
                (natc (IntKind.wrap .i64 (a16 - 1)) fun a28 =>
                 (ltc a28 (a15 - a14) (optc (GetElem?.getElem? a17 (a14 + a28)) fun a29 =>
                  (cnd (decide (a27 ≠ a29))
                   (natc a16 fun a30 =>
                    (ltc a30 (a15 - a14) (optc (GetElem?.getElem? a17 (a14 + a30)) fun a31 =>
                     (natc a13 fun a32 =>
                      (ltc a32 (a12 - a11) (optc (GetElem?.getElem? a17 (a11 + a32)) fun a33 =>
                       (J25 ((a11, (a12, ((IntKind.wrap .i64 (a13 + 1)), (a14, (a15, (a16, ())))))), ((List.set a17 (a11 + a32) a31), ())))))))))
                   (J25 ((a11, (a12, (a13, (a14, (a15, (a16, ())))))), (a17, ())))))))))))
             (natc a13 fun a34 =>
              (ltc a34 (a12 - a11) (lec (a11 + a34) (a11 + (a12 - a11)) (lec (a11 + (a12 - a11)) (List.length a17) (natc a13 fun a35 =>
               (lec a35 (a12 - a11) (some ((a11 + 0), ((a11 + a35), (((List.take (a11 + a34) a17) ++ (List.replicate ((a11 + (a12 - a11)) - (a11 + a34)) 0)) ++ (List.drop (a11 + (a12 - a11)) a17))))))))))))) fu ((a1, (a2, (a3, ((a1 + a9), ((a1 + (a2 - a1)), (1, ())))))), (a4, ())))))
          (L0 ((a1, (a2, ((IntKind.wrap .i64 (a3 + 1)), ()))), (a4, ()))))))))))
     (some (a1, (a2, a4))))) fu ((l0, (h0, (1, ()))), (p0, ()))))
def slices_Compact_int_0v_g (fu : Nat) : Sig := mkSig [.one (.view 101)] [(101, .arr .int)] [.one (.view 101)] [(101, .arr .int)] [] (Nat × Nat × List (Int)) (fun q => ((q.1, q.2.1, ()), (q.2.2, ()))) (fun x y => slices_Compact_int_0v fu x.1 x.2.1 y.1)
theorem slices_Compact_int_0v_ok (fu : Nat) : FnOK Tryz.prog 61 (slices_Compact_int_0v_g fu) :=
  FnOK.intro (ty := ty) (E := envL []) (fu := fu) (an := .two (.go) (.two (.go) (.two (.two (.go) (.one (.loop [(0, .one (.view 101)), (3, .one (.num .i64))] [(101, .arr .int)] (.two (.go) (.two (.one (.two (.go) (.two (.two (.go) (.two (.two (.go) (.one (.loop [(0, .one (.view 101)), (3, .one (.num .i64)), (4, .one (.view 101)), (5, .one (.num .i64))] [(101, .arr .int)] (.two (.go) (.two (.join [(0, .one (.view 101)), (3, .one (.num .i64)), (4, .one (.view 101)), (5, .one (.num .i64))] [(101, .arr .int)] (.go)) (.go)))))) (.go))) (.go)))) (.go)))))) (.go)))) (fun a b => (a.1, a.2.1, b.1)) (fun _ _ => rfl) (envL_ok (l := []) trivial) Tryz.func61 rfl rfl (fun x y => by kernel_rfl)
def policy_People (fu : Nat) (p0 : D.Config) (p1 : D.Book) (p2 : List D.Target) (p3 : Int) : Option (Nat × Nat × List (Int)) :=
  (iterF (X := ((Int × (List D.Target × (Int × (Int × Unit)))) × (D.Config × (D.Book × (List Int × Unit))))) (fun L0 ((a1, (a2, (a3, (a4, _)))), (a5, (a6, (a7, _)))) =>
   (cnd (decide (a4 < a3))
    (atc a2 a4 fun a8 =>
     (optc (policy_meant fu a5 a6 a8 a1) fun a9 =>
      (lec ((List.length a7) + (List.length a9)) 34359738368 (L0 ((a1, (a2, (a3, ((IntKind.wrap .i64 (a4 + 1)), ())))), (a5, (a6, ((a7 ++ a9), ()))))))))
    (optc (slices_DeleteFunc_int_1f60_0 fu a7 a5) fun (a10, (a11, a12)) =>
     (optc (slices_Sort_int_0v fu a10 a11 a12) fun a13 =>
      (chk (List.length a13) (List.length a12) (optc (slices_Compact_int_0v fu a10 a11 a13) fun (a14, (a15, a16)) =>
       (some (a14, (a15, a16))))))))) fu ((p3, (p2, ((((List.length p2) : Nat) : Int), (0, ())))), (p0, (p1, ([], ())))))
def policy_People_g (fu : Nat) : Sig := mkSig [.st .Config, .st .Book, .one (.lst .Target), .one (.num .i64)] [] [.one (.view 1024)] [(1024, .arr .int)] [] (Nat × Nat × List (Int)) (fun q => ((q.1, q.2.1, ()), (q.2.2, ()))) (fun x y => policy_People fu x.1 x.2.1 x.2.2.1 x.2.2.2.1)
theorem policy_People_ok (fu : Nat) : FnOK Tryz.prog 53 (policy_People_g fu) :=
  FnOK.intro (ty := ty) (E := envL [(46, 0, slices_Sort_int_0v_g fu), (52, 0, slices_DeleteFunc_int_1f60_0_g fu), (59, 0, policy_meant_g fu), (61, 0, slices_Compact_int_0v_g fu)]) (fu := fu) (an := .two (.go) (.two (.go) (.two (.two (.go) (.one (.loop [(3, .one (.num .i64)), (4, .one (.ref 1004)), (5, .one (.ref 1005)), (9, .one (.own 1024)), (12, .one (.lst .Target)), (13, .one (.num .i64)), (14, .one (.num .i64))] [(1004, .boxst .Config), (1005, .boxst .Book), (1024, .arr .int)] (.go)))) (.go)))) (fun a b => (a.1, a.2.1, b.1)) (fun _ _ => rfl) (envL_ok (l := [(46, 0, slices_Sort_int_0v_g fu), (52, 0, slices_DeleteFunc_int_1f60_0_g fu), (59, 0, policy_meant_g fu), (61, 0, slices_Compact_int_0v_g fu)]) ⟨slices_Sort_int_0v_ok fu, slices_DeleteFunc_int_1f60_0_ok fu, policy_meant_ok fu, slices_Compact_int_0v_ok fu, trivial⟩) Tryz.func53 rfl rfl (fun x y => by kernel_rfl)
def duty_Range (fu : Nat) (p0 : Int) (p1 : Int) : Option (Bool) :=
  (cnd (decide (0 ≤ p0))
   (cnd (decide (p0 ≤ 8589934592))
    (cnd (decide (p0 ≤ p1))
     (cnd (decide (p1 ≤ 8589934592))
      (cnd (decide ((IntKind.wrap .i64 (p1 - p0)) ≤ 34560000))
       (some true)
       (some false))
      (some false))
     (some false))
    (some false))
   (some false))
def duty_Range_g (fu : Nat) : Sig := mkSig [.one (.num .i64), .one (.num .i64)] [] [.one (.boo)] [] [] (Bool) (fun q => ((q, ()), ())) (fun x y => duty_Range fu x.1 x.2.1)
theorem duty_Range_ok (fu : Nat) : FnOK Tryz.prog 81 (duty_Range_g fu) :=
  FnOK.intro (ty := ty) (E := envL []) (fu := fu) (an := .go) (fun a b => a.1) (fun _ _ => rfl) (envL_ok (l := []) trivial) Tryz.func81 rfl rfl (fun x y => by kernel_rfl)
def limits_open (fu : Nat) (p0 : D.Config) (p1 : Int) (p2 : Int) (p3 : Int) : Option (D.View × Int) :=
  (optc (duty_Of fu p0) fun (a0, a1) =>
   (join (Y := (Unit × (D.View × (D.View × Unit)))) (fun (_, (a2, (a3, _))) =>
     (some (a3, 0))) fun J4 =>
    (cnd (!a1)
     (some (a0, 8))
     (cnd (decide (p1 < 0))
      (some (a0, 3))
      (cnd (decide ((((List.length (D.Config.People p0)) : Nat) : Int) ≤ p1))
       (some (a0, 3))
       (optc (duty_Range fu p2 p3) fun a5 =>
        (cnd (!a5)
         (some (a0, 1))
         (J4 ((), ((D.View.mk (D.Config.mk [] [] [] []) []), (a0, ())))))))))))
def limits_open_g (fu : Nat) : Sig := mkSig [.st .Config, .one (.num .i64), .one (.num .i64), .one (.num .i64)] [] [.st .View, .one (.num .i64)] [] [] (D.View × Int) (fun q => ((q.1, q.2, ()), ())) (fun x y => limits_open fu x.1 x.2.1 x.2.2.1 x.2.2.2.1)
theorem limits_open_ok (fu : Nat) : FnOK Tryz.prog 62 (limits_open_g fu) :=
  FnOK.intro (ty := ty) (E := envL [(80, 0, duty_Of_g fu), (81, 0, duty_Range_g fu)]) (fu := fu) (an := .two (.go) (.two (.go) (.two (.join [(8, .one (.ref 1008)), (10, .one (.ref 1010))] [(1008, .boxst .View), (1010, .boxst .View)] (.go)) (.go)))) (fun a b => (a.1, a.2.1)) (fun _ _ => rfl) (envL_ok (l := [(80, 0, duty_Of_g fu), (81, 0, duty_Range_g fu)]) ⟨duty_Of_ok fu, duty_Range_ok fu, trivial⟩) Tryz.func62 rfl rfl (fun x y => by kernel_rfl)
def duty_View_Table (fu : Nat) (p0 : D.View) (p1 : Int) : Option (D.Table) :=
  (atc (D.View.tables p0) p1 fun a0 =>
   (some a0))
def duty_View_Table_g (fu : Nat) : Sig := mkSig [.st .View, .one (.num .i64)] [] [.st .Table] [] [] (D.Table) (fun q => ((q, ()), ())) (fun x y => duty_View_Table fu x.1 x.2.1)
theorem duty_View_Table_ok (fu : Nat) : FnOK Tryz.prog 65 (duty_View_Table_g fu) :=
  FnOK.intro (ty := ty) (E := envL []) (fu := fu) (an := .go) (fun a b => a.1) (fun _ _ => rfl) (envL_ok (l := []) trivial) Tryz.func65 rfl rfl (fun x y => by kernel_rfl)
def zone_Table_after_1 (fu : Nat) (p0 : Int) (p1 : D.Table) (p2 : Int) : Option (Bool) :=
  (atc (D.Table.list p1) p0 fun a0 =>
   (sameC p1 p1 (sameC p2 p2 (some (decide (p2 < (D.Transition.At a0)))))))
def zone_Table_after_1_g (fu : Nat) : Sig := mkSig [.one (.num .i64), .one (.ref 101), .one (.ref 102)] [(101, .boxst .Table), (102, .boxst .int)] [.one (.boo)] [] [101, 102] (Bool) (fun q => ((q, ()), ())) (fun x y => zone_Table_after_1 fu x.1 y.1 y.2.1)
theorem zone_Table_after_1_ok (fu : Nat) : FnOK Tryz.prog 114 (zone_Table_after_1_g fu) :=
  FnOK.intro (ty := ty) (E := envL []) (fu := fu) (an := .go) (fun a b => a.1) (fun _ _ => rfl) (envL_ok (l := []) trivial) Tryz.func114 rfl rfl (fun x y => by kernel_rfl)
def sort_Search_1f114 (fu : Nat) (p0 : Int) (c101 : D.Table) (c102 : Int) : Option (Int) :=
  (iterF (X := ((Int × (Int × Unit)) × (D.Table × ((Int × Unit) × Unit)))) (fun L0 ((a1, (a2, _)), (a3, ((a4, _), _))) =>
   (cnd (decide (a1 < a2))
    none
    (sameC a3 c101 (sameC a4 c102 (some a1))))) fu ((0, (p0, ())), (c101, ((c102, ()), ()))))
def sort_Search_1f114_g (fu : Nat) : Sig := mkSig [.one (.num .i64), .one (.clo 114 [101, 102])] [(101, .boxst .Table), (102, .boxst .int)] [.one (.num .i64)] [] [101, 102] (Int) (fun q => ((q, ()), ())) (fun x y => sort_Search_1f114 fu x.1 y.1 y.2.1)
theorem sort_Search_1f114_ok (fu : Nat) : FnOK Tryz.prog 113 (sort_Search_1f114_g fu) :=
  FnOK.intro (ty := ty) (E := envL [(114, 0, zone_Table_after_1_g fu)]) (fu := fu) (an := .two (.go) (.two (.go) (.two (.one (.loop [(1, .one (.clo 114 [101, 102])), (5, .one (.num .i64)), (6, .one (.num .i64))] [(101, .boxst .Table), (102, .box [.num .i64])] (.go))) (.go)))) (fun a b => a.1) (fun _ _ => rfl) (envL_ok (l := [(114, 0, zone_Table_after_1_g fu)]) ⟨zone_Table_after_1_ok fu, trivial⟩) Tryz.func113 rfl rfl (fun x y => by kernel_rfl)
def zone_Table_after (fu : Nat) (p0 : D.Table) (p1 : Int) : Option (Int) :=
  (optc (sort_Search_1f114 fu (((List.length (D.Table.list p0)) : Nat) : Int) p0 p1) fun a0 =>
   (some a0))
def zone_Table_after_g (fu : Nat) : Sig := mkSig [.st .Table, .one (.num .i64)] [] [.one (.num .i64)] [] [] (Int) (fun q => ((q, ()), ())) (fun x y => zone_Table_after fu x.1 x.2.1)
theorem zone_Table_after_ok (fu : Nat) : FnOK Tryz.prog 95 (zone_Table_after_g fu) :=
  FnOK.intro (ty := ty) (E := envL [(113, 0, sort_Search_1f114_g fu)]) (fu := fu) (an := .go) (fun a b => a.1) (fun _ _ => rfl) (envL_ok (l := [(113, 0, sort_Search_1f114_g fu)]) ⟨sort_Search_1f114_ok fu, trivial⟩) Tryz.func95 rfl rfl (fun x y => by kernel_rfl)
def zone_Table_before (fu : Nat) (p0 : D.Table) (p1 : Int) : Option (Int) :=
  (cnd (decide (p1 = 0))
   (some (D.Table.offset p0))
   (atc (D.Table.list p0) (IntKind.wrap .i64 (p1 - 1)) fun a0 =>
    (some (D.Transition.Offset a0))))
def zone_Table_before_g (fu : Nat) : Sig := mkSig [.st .Table, .one (.num .i64)] [] [.one (.num .i64)] [] [] (Int) (fun q => ((q, ()), ())) (fun x y => zone_Table_before fu x.1 x.2.1)
theorem zone_Table_before_ok (fu : Nat) : FnOK Tryz.prog 94 (zone_Table_before_g fu) :=
  FnOK.intro (ty := ty) (E := envL []) (fu := fu) (an := .go) (fun a b => a.1) (fun _ _ => rfl) (envL_ok (l := []) trivial) Tryz.func94 rfl rfl (fun x y => by kernel_rfl)
def zone_Table_Offset (fu : Nat) (p0 : D.Table) (p1 : Int) : Option (Int) :=
  (optc (zone_Table_after fu p0 p1) fun a0 =>
   (optc (zone_Table_before fu p0 a0) fun a1 =>
    (some a1)))
def zone_Table_Offset_g (fu : Nat) : Sig := mkSig [.st .Table, .one (.num .i64)] [] [.one (.num .i64)] [] [] (Int) (fun q => ((q, ()), ())) (fun x y => zone_Table_Offset fu x.1 x.2.1)
theorem zone_Table_Offset_ok (fu : Nat) : FnOK Tryz.prog 84 (zone_Table_Offset_g fu) :=
  FnOK.intro (ty := ty) (E := envL [(94, 0, zone_Table_before_g fu), (95, 0, zone_Table_after_g fu)]) (fu := fu) (an := .go) (fun a b => a.1) (fun _ _ => rfl) (envL_ok (l := [(94, 0, zone_Table_before_g fu), (95, 0, zone_Table_after_g fu)]) ⟨zone_Table_before_ok fu, zone_Table_after_ok fu, trivial⟩) Tryz.func84 rfl rfl (fun x y => by kernel_rfl)
def zone_local (fu : Nat) (p0 : Int) : Option (D.Local) :=
  (nzc 86400 (join (Y := ((Int × (Int × Unit)) × (D.Local × Unit))) (fun ((a0, (a1, _)), (a2, _)) =>
    (some (D.Local.mk a1 (IntKind.wrap .i64 (a0 - (IntKind.wrap .i64 (a1 * 86400))))))) fun J3 =>
   (nzc 86400 (cnd (decide ((Int.tmod p0 86400) < 0))
    (J3 ((p0, ((IntKind.wrap .i64 ((IntKind.wrap .i64 (Int.tdiv p0 86400)) - 1)), ())), ((D.Local.mk 0 0), ())))
    (J3 ((p0, ((IntKind.wrap .i64 (Int.tdiv p0 86400)), ())), ((D.Local.mk 0 0), ())))))))
def zone_local_g (fu : Nat) : Sig := mkSig [.one (.num .i64)] [] [.st .Local] [] [] (D.Local) (fun q => ((q, ()), ())) (fun x y => zone_local fu x.1)
theorem zone_local_ok (fu : Nat) : FnOK Tryz.prog 83 (zone_local_g fu) :=
  FnOK.intro (ty := ty) (E := envL []) (fu := fu) (an := .two (.go) (.two (.go) (.two (.join [(0, .one (.num .i64)), (2, .one (.ref 1002)), (3, .one (.num .i64))] [(1002, .boxst .Local)] (.go)) (.go)))) (fun a b => a.1) (fun _ _ => rfl) (envL_ok (l := []) trivial) Tryz.func83 rfl rfl (fun x y => by kernel_rfl)
def zone_Table_Local (fu : Nat) (p0 : D.Table) (p1 : Int) : Option (D.Local) :=
  (optc (zone_Table_Offset fu p0 p1) fun a0 =>
   (optc (zone_local fu (IntKind.wrap .i64 (p1 + a0))) fun a1 =>
    (some a1)))
def zone_Table_Local_g (fu : Nat) : Sig := mkSig [.st .Table, .one (.num .i64)] [] [.st .Local] [] [] (D.Local) (fun q => ((q, ()), ())) (fun x y => zone_Table_Local fu x.1 x.2.1)
theorem zone_Table_Local_ok (fu : Nat) : FnOK Tryz.prog 66 (zone_Table_Local_g fu) :=
  FnOK.intro (ty := ty) (E := envL [(83, 0, zone_local_g fu), (84, 0, zone_Table_Offset_g fu)]) (fu := fu) (an := .go) (fun a b => a.1) (fun _ _ => rfl) (envL_ok (l := [(83, 0, zone_local_g fu), (84, 0, zone_Table_Offset_g fu)]) ⟨zone_local_ok fu, zone_Table_Offset_ok fu, trivial⟩) Tryz.func66 rfl rfl (fun x y => by kernel_rfl)
def week_SecondOf (fu : Nat) (p0 : D.Local) : Option (Int) :=
  (optc (civil_Weekday fu (D.Local.Day p0)) fun a0 =>
   (some (IntKind.wrap .i64 ((IntKind.wrap .i64 (a0 * 86400)) + (D.Local.Second p0)))))
def week_SecondOf_g (fu : Nat) : Sig := mkSig [.st .Local] [] [.one (.num .i64)] [] [] (Int) (fun q => ((q, ()), ())) (fun x y => week_SecondOf fu x.1)
theorem week_SecondOf_ok (fu : Nat) : FnOK Tryz.prog 64 (week_SecondOf_g fu) :=
  FnOK.intro (ty := ty) (E := envL [(82, 0, civil_Weekday_g fu)]) (fu := fu) (an := .go) (fun a b => a.1) (fun _ _ => rfl) (envL_ok (l := [(82, 0, civil_Weekday_g fu)]) ⟨civil_Weekday_ok fu, trivial⟩) Tryz.func64 rfl rfl (fun x y => by kernel_rfl)
def week_Has (fu : Nat) (p0 : List D.Window) (p1 : Int) : Option (Bool) :=
  (iterF (X := ((Int × (List D.Window × (Int × (Int × Unit)))) × Unit)) (fun L0 ((a1, (a2, (a3, (a4, _)))), _) =>
   (cnd (decide (a4 < a3))
    (join (Y := ((Int × (List D.Window × (Int × (Int × Unit)))) × Unit)) (fun ((a5, (a6, (a7, (a8, _)))), _) =>
      (L0 ((a5, (a6, (a7, ((IntKind.wrap .i64 (a8 + 1)), ())))), ()))) fun J9 =>
     (atc a2 a4 fun a10 =>
      (cnd (decide ((D.Window.From a10) ≤ a1))
       (cnd (decide (a1 < (D.Window.To a10)))
        (some true)
        (J9 ((a1, (a2, (a3, (a4, ())))), ())))
       (J9 ((a1, (a2, (a3, (a4, ())))), ())))))
    (some false))) fu ((p1, (p0, ((((List.length p0) : Nat) : Int), (0, ())))), ()))
def week_Has_g (fu : Nat) : Sig := mkSig [.one (.lst .Window), .one (.num .i64)] [] [.one (.boo)] [] [] (Bool) (fun q => ((q, ()), ())) (fun x y => week_Has fu x.1 x.2.1)
theorem week_Has_ok (fu : Nat) : FnOK Tryz.prog 63 (week_Has_g fu) :=
  FnOK.intro (ty := ty) (E := envL []) (fu := fu) (an := .two (.go) (.two (.two (.go) (.one (.loop [(1, .one (.num .i64)), (7, .one (.lst .Window)), (8, .one (.num .i64)), (9, .one (.num .i64))] [] (.two (.go) (.two (.go) (.two (.join [(1, .one (.num .i64)), (7, .one (.lst .Window)), (8, .one (.num .i64)), (9, .one (.num .i64))] [] (.go)) (.go))))))) (.go))) (fun a b => a.1) (fun _ _ => rfl) (envL_ok (l := []) trivial) Tryz.func63 rfl rfl (fun x y => by kernel_rfl)
def limits_Reachable (fu : Nat) (p0 : D.Config) (p1 : Int) (p2 : Int) (p3 : Bool) : Option (Bool) :=
  (optc (limits_open fu p0 p1 p2 p2) fun (a0, a1) =>
   (cnd (decide (a1 ≠ 0))
    (some false)
    (atc (D.Config.People p0) p1 fun a2 =>
     (cnd p3
      (cnd (D.Person.Consent a2)
       (some true)
       (optc (duty_View_Table fu a0 (D.Person.Zone a2)) fun a3 =>
        (optc (zone_Table_Local fu a3 p2) fun a4 =>
         (optc (week_SecondOf fu a4) fun a5 =>
          (optc (week_Has fu (D.Person.Quiet a2) a5) fun a6 =>
           (cnd a6
            (some false)
            (some true)))))))
      (optc (duty_View_Table fu a0 (D.Person.Zone a2)) fun a7 =>
       (optc (zone_Table_Local fu a7 p2) fun a8 =>
        (optc (week_SecondOf fu a8) fun a9 =>
         (optc (week_Has fu (D.Person.Quiet a2) a9) fun a10 =>
          (cnd a10
           (some false)
           (some true))))))))))
def limits_Reachable_g (fu : Nat) : Sig := mkSig [.st .Config, .one (.num .i64), .one (.num .i64), .one (.boo)] [] [.one (.boo)] [] [] (Bool) (fun q => ((q, ()), ())) (fun x y => limits_Reachable fu x.1 x.2.1 x.2.2.1 x.2.2.2.1)
theorem limits_Reachable_ok (fu : Nat) : FnOK Tryz.prog 55 (limits_Reachable_g fu) :=
  FnOK.intro (ty := ty) (E := envL [(62, 0, limits_open_g fu), (63, 0, week_Has_g fu), (64, 0, week_SecondOf_g fu), (65, 0, duty_View_Table_g fu), (66, 0, zone_Table_Local_g fu)]) (fu := fu) (an := .go) (fun a b => a.1) (fun _ _ => rfl) (envL_ok (l := [(62, 0, limits_open_g fu), (63, 0, week_Has_g fu), (64, 0, week_SecondOf_g fu), (65, 0, duty_View_Table_g fu), (66, 0, zone_Table_Local_g fu)]) ⟨limits_open_ok fu, week_Has_ok fu, week_SecondOf_ok fu, duty_View_Table_ok fu, zone_Table_Local_ok fu, trivial⟩) Tryz.func55 rfl rfl (fun x y => by kernel_rfl)
def escalate_begin_1 (fu : Nat) (p0 : Int) (p1 : D.Config) (p2 : D.Page) (p3 : D.PolicyStep) : Option (Bool) :=
  (optc (limits_Reachable fu p1 p0 (D.Page.Due p2) (D.PolicyStep.Urgent p3)) fun a0 =>
   (sameC p1 p1 (sameC p2 p2 (sameC p3 p3 (some (!a0))))))
def escalate_begin_1_g (fu : Nat) : Sig := mkSig [.one (.num .i64), .one (.ref 101), .one (.ref 102), .one (.ref 103)] [(101, .boxst .Config), (102, .boxst .Page), (103, .boxst .PolicyStep)] [.one (.boo)] [] [101, 102, 103] (Bool) (fun q => ((q, ()), ())) (fun x y => escalate_begin_1 fu x.1 y.1 y.2.1 y.2.2.1)
theorem escalate_begin_1_ok (fu : Nat) : FnOK Tryz.prog 54 (escalate_begin_1_g fu) :=
  FnOK.intro (ty := ty) (E := envL [(55, 0, limits_Reachable_g fu)]) (fu := fu) (an := .go) (fun a b => a.1) (fun _ _ => rfl) (envL_ok (l := [(55, 0, limits_Reachable_g fu)]) ⟨limits_Reachable_ok fu, trivial⟩) Tryz.func54 rfl rfl (fun x y => by kernel_rfl)
def slices_IndexFunc_int_1f54 (fu : Nat) (p0 : List Int) (c101 : D.Config) (c102 : D.Page) (c103 : D.PolicyStep) : Option (Int) :=
  (iterF (X := ((List Int × (Int × (Int × Unit))) × (D.Config × (D.Page × (D.PolicyStep × Unit))))) (fun L0 ((a1, (a2, (a3, _))), (a4, (a5, (a6, _)))) =>
   (cnd (decide (a3 < a2))
    (atc a1 a3 fun a7 =>
     (optc (escalate_begin_1 fu a7 a4 a5 a6) fun a8 =>
      (cnd a8
       (sameC a4 c101 (sameC a5 c102 (sameC a6 c103 (some a3))))
       (L0 ((a1, (a2, ((IntKind.wrap .i64 (a3 + 1)), ()))), (a4, (a5, (a6, ()))))))))
    (sameC a4 c101 (sameC a5 c102 (sameC a6 c103 (some (-1))))))) fu ((p0, ((((List.length p0) : Nat) : Int), (0, ()))), (c101, (c102, (c103, ())))))
def slices_IndexFunc_int_1f54_g (fu : Nat) : Sig := mkSig [.one (.lst .int), .one (.clo 54 [101, 102, 103])] [(101, .boxst .Config), (102, .boxst .Page), (103, .boxst .PolicyStep)] [.one (.num .i64)] [] [101, 102, 103] (Int) (fun q => ((q, ()), ())) (fun x y => slices_IndexFunc_int_1f54 fu x.1 y.1 y.2.1 y.2.2.1)
theorem slices_IndexFunc_int_1f54_ok (fu : Nat) : FnOK Tryz.prog 58 (slices_IndexFunc_int_1f54_g fu) :=
  FnOK.intro (ty := ty) (E := envL [(54, 0, escalate_begin_1_g fu)]) (fu := fu) (an := .two (.go) (.two (.two (.go) (.one (.loop [(0, .one (.lst .int)), (1, .one (.clo 54 [101, 102, 103])), (7, .one (.num .i64)), (8, .one (.num .i64))] [(101, .boxst .Config), (102, .boxst .Page), (103, .boxst .PolicyStep)] (.go)))) (.go))) (fun a b => a.1) (fun _ _ => rfl) (envL_ok (l := [(54, 0, escalate_begin_1_g fu)]) ⟨escalate_begin_1_ok fu, trivial⟩) Tryz.func58 rfl rfl (fun x y => by kernel_rfl)
def slices_IndexFunc_int_1f54_0v (fu : Nat) (l0 : Nat) (h0 : Nat) (p0 : List (Int)) (c102 : D.Config) (c103 : D.Page) (c104 : D.PolicyStep) : Option (Int) :=
  (iterF (X := ((Nat × (Nat × (Int × (Int × Unit)))) × (D.Config × (D.Page × (D.PolicyStep × (List Int × Unit)))))) (fun L0 ((a1, (a2, (a3, (a4, _)))), (a5, (a6, (a7, (a8, _))))) =>
   (cnd (decide (a4 < a3))
    (natc a4 fun a9 =>
     (ltc a9 (a2 - a1) (optc (GetElem?.getElem? a8 (a1 + a9)) fun a10 =>
      (optc (escalate_begin_1 fu a10 a5 a6 a7) fun a11 =>
       (cnd a11
        (sameC a8 p0 (sameC a5 c102 (sameC a6 c103 (sameC a7 c104 (some a4)))))
        (L0 ((a1, (a2, (a3, ((IntKind.wrap .i64 (a4 + 1)), ())))), (a5, (a6, (a7, (a8, ())))))))))))
    (sameC a8 p0 (sameC a5 c102 (sameC a6 c103 (sameC a7 c104 (some (-1)))))))) fu ((l0, (h0, ((((h0 - l0) : Nat) : Int), (0, ())))), (c102, (c103, (c104, (p0, ()))))))
def slices_IndexFunc_int_1f54_0v_g (fu : Nat) : Sig := mkSig [.one (.view 101), .one (.clo 54 [102, 103, 104])] [(101, .arr .int), (102, .boxst .Config), (103, .boxst .Page), (104, .boxst .PolicyStep)] [.one (.num .i64)] [] [101, 102, 103, 104] (Int) (fun q => ((q, ()), ())) (fun x y => slices_IndexFunc_int_1f54_0v fu x.1 x.2.1 y.1 y.2.1 y.2.2.1 y.2.2.2.1)
theorem slices_IndexFunc_int_1f54_0v_ok (fu : Nat) : FnOK Tryz.prog 58 (slices_IndexFunc_int_1f54_0v_g fu) :=
  FnOK.intro (ty := ty) (E := envL [(54, 0, escalate_begin_1_g fu)]) (fu := fu) (an := .two (.go) (.two (.two (.go) (.one (.loop [(0, .one (.view 101)), (1, .one (.clo 54 [102, 103, 104])), (7, .one (.num .i64)), (8, .one (.num .i64))] [(102, .boxst .Config), (103, .boxst .Page), (104, .boxst .PolicyStep), (101, .arr .int)] (.go)))) (.go))) (fun a b => a.1) (fun _ _ => rfl) (envL_ok (l := [(54, 0, escalate_begin_1_g fu)]) ⟨escalate_begin_1_ok fu, trivial⟩) Tryz.func58 rfl rfl (fun x y => by kernel_rfl)
def slices_DeleteFunc_int_1f54_0v (fu : Nat) (l0 : Nat) (h0 : Nat) (p0 : List (Int)) (c102 : D.Config) (c103 : D.Page) (c104 : D.PolicyStep) : Option (Nat × Nat × List (Int)) :=
  (optc (slices_IndexFunc_int_1f54_0v fu l0 h0 p0 c102 c103 c104) fun a0 =>
   (cnd (decide (a0 = (-1)))
    (sameC c102 c102 (sameC c103 c103 (sameC c104 c104 (some (l0, (h0, p0))))))
    (iterF (X := ((Nat × (Nat × (Int × (Int × Unit)))) × (D.Config × (D.Page × (D.PolicyStep × (List Int × Unit)))))) (fun L1 ((a2, (a3, (a4, (a5, _)))), (a6, (a7, (a8, (a9, _))))) =>
     (cnd (decide (a5 < (((a3 - a2) : Nat) : Int)))
      (join (Y := ((Nat × (Nat × (Int × (Int × Unit)))) × (D.Config × (D.Page × (D.PolicyStep × (List Int × Unit)))))) (fun ((a10, (a11, (a12, (a13, _)))), (a14, (a15, (a16, (a17, _))))) =>
        (L1 ((a10, (a11, (a12, ((IntKind.wrap .i64 (a13 + 1)), ())))), (a14, (a15, (a16, (a17, ()))))))) fun J18 =>
       (natc a5 fun a19 =>
        (ltc a19 (a3 - a2) (optc (GetElem?.getElem? a9 (a2 + a19)) fun a20 =>
         (optc (escalate_begin_1 fu a20 a6 a7 a8) fun a21 =>
          (cnd (!a21)
           (natc a4 fun a22 =>
            (ltc a22 (a3 - a2) (optc (GetElem?.getElem? a9 (a2 + a22)) fun a23 =>
             (J18 ((a2, (a3, ((IntKind.wrap .i64 (a4 + 1)), (a5, ())))), (a6, (a7, (a8, ((List.set a9 (a2 + a22) a20), ())))))))))
           (J18 ((a2, (a3, (a4, (a5, ())))), (a6, (a7, (a8, (a9, ()))))))))))))
      (natc a4 fun a24 =>
       (ltc a24 (a3 - a2) (lec (a2 + a24) (a2 + (a3 - a2)) (lec (a2 + (a3 - a2)) (List.length a9) (natc a4 fun a25 =>
        (lec a25 (a3 - a2) (sameC a6 c102 (sameC a7 c103 (sameC a8 c104 (some ((a2 + 0), ((a2 + a25), (((List.take (a2 + a24) a9) ++ (List.replicate ((a2 + (a3 - a2)) - (a2 + a24)) 0)) ++ (List.drop (a2 + (a3 - a2)) a9)))))))))))))))) fu ((l0, (h0, (a0, ((IntKind.wrap .i64 (a0 + 1)), ())))), (c102, (c103, (c104, (p0, ()))))))))
def slices_DeleteFunc_int_1f54_0v_g (fu : Nat) : Sig := mkSig [.one (.view 101), .one (.clo 54 [102, 103, 104])] [(101, .arr .int), (102, .boxst .Config), (103, .boxst .Page), (104, .boxst .PolicyStep)] [.one (.view 101)] [(101, .arr .int)] [102, 103, 104] (Nat × Nat × List (Int)) (fun q => ((q.1, q.2.1, ()), (q.2.2, ()))) (fun x y => slices_DeleteFunc_int_1f54_0v fu x.1 x.2.1 y.1 y.2.1 y.2.2.1 y.2.2.2.1)
theorem slices_DeleteFunc_int_1f54_0v_ok (fu : Nat) : FnOK Tryz.prog 52 (slices_DeleteFunc_int_1f54_0v_g fu) :=
  FnOK.intro (ty := ty) (E := envL [(54, 0, escalate_begin_1_g fu), (58, 0, slices_IndexFunc_int_1f54_0v_g fu)]) (fu := fu) (an := .two (.go) (.two (.go) (.two (.go) (.two (.two (.go) (.one (.loop [(0, .one (.view 101)), (1, .one (.clo 54 [102, 103, 104])), (5, .one (.num .i64)), (6, .one (.num .i64))] [(102, .boxst .Config), (103, .boxst .Page), (104, .boxst .PolicyStep), (101, .arr .int)] (.two (.go) (.two (.join [(0, .one (.view 101)), (1, .one (.clo 54 [102, 103, 104])), (5, .one (.num .i64)), (6, .one (.num .i64))] [(102, .boxst .Config), (103, .boxst .Page), (104, .boxst .PolicyStep), (101, .arr .int)] (.go)) (.go)))))) (.go))))) (fun a b => (a.1, a.2.1, b.1)) (fun _ _ => rfl) (envL_ok (l := [(54, 0, escalate_begin_1_g fu), (58, 0, slices_IndexFunc_int_1f54_0v_g fu)]) ⟨escalate_begin_1_ok fu, slices_IndexFunc_int_1f54_0v_ok fu, trivial⟩) Tryz.func52 rfl rfl (fun x y => by kernel_rfl)
def escalate_begin (fu : Nat) (p0 : D.Config) (p1 : D.Book) (p2 : D.Page) : Option (D.Page) :=
  (atc (D.Book.Policies p1) (D.Page.Policy p2) fun a0 =>
   (optc (policy_Part fu a0 (D.Page.Next p2)) fun (a1, (a2, a3)) =>
    (atc (D.Policy.Steps a0) a1 fun a4 =>
     (optc (policy_People fu p0 p1 (D.PolicyStep.Targets a4) (D.Page.Due p2)) fun (a5, (a6, a7)) =>
      (optc (slices_DeleteFunc_int_1f54_0v fu a5 a6 a7 p0 p2 a4) fun (a8, (a9, a10)) =>
       none)))))
def escalate_begin_g (fu : Nat) : Sig := mkSig [.st .Config, .st .Book, .st .Page] [] [.st .Page] [] [] (D.Page) (fun q => ((q, ()), ())) (fun x y => escalate_begin fu x.1 x.2.1 x.2.2.1)
theorem escalate_begin_ok (fu : Nat) : FnOK Tryz.prog 43 (escalate_begin_g fu) :=
  FnOK.intro (ty := ty) (E := envL [(51, 0, policy_Part_g fu), (52, 0, slices_DeleteFunc_int_1f54_0v_g fu), (53, 0, policy_People_g fu)]) (fu := fu) (an := .go) (fun a b => a.1) (fun _ _ => rfl) (envL_ok (l := [(51, 0, policy_Part_g fu), (52, 0, slices_DeleteFunc_int_1f54_0v_g fu), (53, 0, policy_People_g fu)]) ⟨policy_Part_ok fu, slices_DeleteFunc_int_1f54_0v_ok fu, policy_People_ok fu, trivial⟩) Tryz.func43 rfl rfl (fun x y => by kernel_rfl)
def escalate_begin_1_b11_12_13 (fu : Nat) (p0 : Int) (p1 : D.Config) (p2 : D.Page) (p3 : D.PolicyStep) : Option (Bool × D.Page) :=
  (optc (limits_Reachable fu p1 p0 (D.Page.Due p2) (D.PolicyStep.Urgent p3)) fun a0 =>
   (sameC p1 p1 (sameC p3 p3 (some ((!a0), p2)))))
def escalate_begin_1_b11_12_13_g (fu : Nat) : Sig := mkSig [.one (.num .i64), .one (.ref 101), .one (.ref 102), .one (.ref 106)] [(101, .boxst .Config), (102, .box [.num .i64, .num .i64, .num .i64, .num .i64, .num .i64, .num .i64, .num .i64, .num .i64, .num .i64, .num .i64, .num .i64, .own 103, .own 104, .own 105]), (103, .arr .Start), (104, .arr .int), (105, .arr .int), (106, .boxst .PolicyStep)] [.one (.boo)] [(102, .box [.num .i64, .num .i64, .num .i64, .num .i64, .num .i64, .num .i64, .num .i64, .num .i64, .num .i64, .num .i64, .num .i64, .own 103, .own 104, .own 105]), (103, .arr .Start), (104, .arr .int), (105, .arr .int)] [101, 106] (Bool × D.Page) (fun q => ((q.1, ()), ((q.2.ID, q.2.Policy, q.2.Start, q.2.Next, q.2.Due, q.2.State, q.2.By, q.2.Until, q.2.Last, q.2.Snoozes, q.2.Hands, ()), q.2.Starts, q.2.Declined, q.2.Seen, ()))) (fun x y => escalate_begin_1_b11_12_13 fu x.1 y.1 (D.Page.mk y.2.1.1 y.2.1.2.1 y.2.1.2.2.1 y.2.1.2.2.2.1 y.2.1.2.2.2.2.1 y.2.1.2.2.2.2.2.1 y.2.1.2.2.2.2.2.2.1 y.2.1.2.2.2.2.2.2.2.1 y.2.1.2.2.2.2.2.2.2.2.1 y.2.1.2.2.2.2.2.2.2.2.2.1 y.2.1.2.2.2.2.2.2.2.2.2.2.1 y.2.2.1 y.2.2.2.1 y.2.2.2.2.1) y.2.2.2.2.2.1)
theorem escalate_begin_1_b11_12_13_ok (fu : Nat) : FnOK Tryz.prog 54 (escalate_begin_1_b11_12_13_g fu) :=
  FnOK.intro (ty := ty) (E := envL [(55, 0, limits_Reachable_g fu)]) (fu := fu) (an := .go) (fun a b => (a.1, (D.Page.mk b.1.1 b.1.2.1 b.1.2.2.1 b.1.2.2.2.1 b.1.2.2.2.2.1 b.1.2.2.2.2.2.1 b.1.2.2.2.2.2.2.1 b.1.2.2.2.2.2.2.2.1 b.1.2.2.2.2.2.2.2.2.1 b.1.2.2.2.2.2.2.2.2.2.1 b.1.2.2.2.2.2.2.2.2.2.2.1 b.2.1 b.2.2.1 b.2.2.2.1))) (fun _ _ => rfl) (envL_ok (l := [(55, 0, limits_Reachable_g fu)]) ⟨limits_Reachable_ok fu, trivial⟩) Tryz.func54 rfl rfl (fun x y => by kernel_rfl)
def slices_IndexFunc_int_1f54b11_12_13_0v (fu : Nat) (l0 : Nat) (h0 : Nat) (p0 : List (Int)) (c102 : D.Config) (c103 : D.Page) (c107 : D.PolicyStep) : Option (Int × D.Page) :=
  (iterF (X := ((Nat × (Nat × (Int × (Int × Unit)))) × (D.Config × ((Int × (Int × (Int × (Int × (Int × (Int × (Int × (Int × (Int × (Int × (Int × Unit))))))))))) × (D.PolicyStep × (List Int × (List D.Start × (List Int × (List Int × Unit))))))))) (fun L0 ((a1, (a2, (a3, (a4, _)))), (a5, ((a6, (a7, (a8, (a9, (a10, (a11, (a12, (a13, (a14, (a15, (a16, _))))))))))), (a17, (a18, (a19, (a20, (a21, _)))))))) =>
   (cnd (decide (a4 < a3))
    (natc a4 fun a22 =>
     (ltc a22 (a2 - a1) (optc (GetElem?.getElem? a18 (a1 + a22)) fun a23 =>
      (optc (escalate_begin_1_b11_12_13 fu a23 a5 (D.Page.mk a6 a7 a8 a9 a10 a11 a12 a13 a14 a15 a16 a19 a20 a21) a17) fun (a24, a25) =>
       (cnd a24
        (sameC a18 p0 (sameC a5 c102 (sameC a17 c107 (some (a4, a25)))))
        (L0 ((a1, (a2, (a3, ((IntKind.wrap .i64 (a4 + 1)), ())))), (a5, (((D.Page.ID a25), ((D.Page.Policy a25), ((D.Page.Start a25), ((D.Page.Next a25), ((D.Page.Due a25), ((D.Page.State a25), ((D.Page.By a25), ((D.Page.Until a25), ((D.Page.Last a25), ((D.Page.Snoozes a25), ((D.Page.Hands a25), ()))))))))))), (a17, (a18, ((D.Page.Starts a25), ((D.Page.Declined a25), ((D.Page.Seen a25), ()))))))))))))))
    (sameC a18 p0 (sameC a5 c102 (sameC a17 c107 (some ((-1), (D.Page.mk a6 a7 a8 a9 a10 a11 a12 a13 a14 a15 a16 a19 a20 a21)))))))) fu ((l0, (h0, ((((h0 - l0) : Nat) : Int), (0, ())))), (c102, (((D.Page.ID c103), ((D.Page.Policy c103), ((D.Page.Start c103), ((D.Page.Next c103), ((D.Page.Due c103), ((D.Page.State c103), ((D.Page.By c103), ((D.Page.Until c103), ((D.Page.Last c103), ((D.Page.Snoozes c103), ((D.Page.Hands c103), ()))))))))))), (c107, (p0, ((D.Page.Starts c103), ((D.Page.Declined c103), ((D.Page.Seen c103), ())))))))))
def slices_IndexFunc_int_1f54b11_12_13_0v_g (fu : Nat) : Sig := mkSig [.one (.view 101), .one (.clo 54 [102, 103, 107])] [(101, .arr .int), (102, .boxst .Config), (103, .box [.num .i64, .num .i64, .num .i64, .num .i64, .num .i64, .num .i64, .num .i64, .num .i64, .num .i64, .num .i64, .num .i64, .own 104, .own 105, .own 106]), (104, .arr .Start), (105, .arr .int), (106, .arr .int), (107, .boxst .PolicyStep)] [.one (.num .i64)] [(103, .box [.num .i64, .num .i64, .num .i64, .num .i64, .num .i64, .num .i64, .num .i64, .num .i64, .num .i64, .num .i64, .num .i64, .own 104, .own 105, .own 106]), (104, .arr .Start), (105, .arr .int), (106, .arr .int)] [101, 102, 107] (Int × D.Page) (fun q => ((q.1, ()), ((q.2.ID, q.2.Policy, q.2.Start, q.2.Next, q.2.Due, q.2.State, q.2.By, q.2.Until, q.2.Last, q.2.Snoozes, q.2.Hands, ()), q.2.Starts, q.2.Declined, q.2.Seen, ()))) (fun x y => slices_IndexFunc_int_1f54b11_12_13_0v fu x.1 x.2.1 y.1 y.2.1 (D.Page.mk y.2.2.1.1 y.2.2.1.2.1 y.2.2.1.2.2.1 y.2.2.1.2.2.2.1 y.2.2.1.2.2.2.2.1 y.2.2.1.2.2.2.2.2.1 y.2.2.1.2.2.2.2.2.2.1 y.2.2.1.2.2.2.2.2.2.2.1 y.2.2.1.2.2.2.2.2.2.2.2.1 y.2.2.1.2.2.2.2.2.2.2.2.2.1 y.2.2.1.2.2.2.2.2.2.2.2.2.2.1 y.2.2.2.1 y.2.2.2.2.1 y.2.2.2.2.2.1) y.2.2.2.2.2.2.1)
theorem slices_IndexFunc_int_1f54b11_12_13_0v_ok (fu : Nat) : FnOK Tryz.prog 58 (slices_IndexFunc_int_1f54b11_12_13_0v_g fu) :=
  FnOK.intro (ty := ty) (E := envL [(54, 0, escalate_begin_1_b11_12_13_g fu)]) (fu := fu) (an := .two (.go) (.two (.two (.go) (.one (.loop [(0, .one (.view 101)), (1, .one (.clo 54 [102, 103, 107])), (7, .one (.num .i64)), (8, .one (.num .i64))] [(102, .boxst .Config), (103, .box [.num .i64, .num .i64, .num .i64, .num .i64, .num .i64, .num .i64, .num .i64, .num .i64, .num .i64, .num .i64, .num .i64, .own 104, .own 105, .own 106]), (107, .boxst .PolicyStep), (101, .arr .int), (104, .arr .Start), (105, .arr .int), (106, .arr .int)] (.go)))) (.go))) (fun a b => (a.1, (D.Page.mk b.1.1 b.1.2.1 b.1.2.2.1 b.1.2.2.2.1 b.1.2.2.2.2.1 b.1.2.2.2.2.2.1 b.1.2.2.2.2.2.2.1 b.1.2.2.2.2.2.2.2.1 b.1.2.2.2.2.2.2.2.2.1 b.1.2.2.2.2.2.2.2.2.2.1 b.1.2.2.2.2.2.2.2.2.2.2.1 b.2.1 b.2.2.1 b.2.2.2.1))) (fun _ _ => rfl) (envL_ok (l := [(54, 0, escalate_begin_1_b11_12_13_g fu)]) ⟨escalate_begin_1_b11_12_13_ok fu, trivial⟩) Tryz.func58 rfl rfl (fun x y => by kernel_rfl)
def slices_DeleteFunc_int_1f54b11_12_13_0v (fu : Nat) (l0 : Nat) (h0 : Nat) (p0 : List (Int)) (c102 : D.Config) (c103 : D.Page) (c107 : D.PolicyStep) : Option (Nat × Nat × D.Page × List (Int)) :=
  (optc (slices_IndexFunc_int_1f54b11_12_13_0v fu l0 h0 p0 c102 c103 c107) fun (a0, a1) =>
   (cnd (decide (a0 = (-1)))
    (sameC c102 c102 (sameC c107 c107 (some (l0, (h0, (a1, p0))))))
    (iterF (X := ((Nat × (Nat × (Int × (Int × Unit)))) × (D.Config × ((Int × (Int × (Int × (Int × (Int × (Int × (Int × (Int × (Int × (Int × (Int × Unit))))))))))) × (D.PolicyStep × (List Int × (List D.Start × (List Int × (List Int × Unit))))))))) (fun L2 ((a3, (a4, (a5, (a6, _)))), (a7, ((a8, (a9, (a10, (a11, (a12, (a13, (a14, (a15, (a16, (a17, (a18, _))))))))))), (a19, (a20, (a21, (a22, (a23, _)))))))) =>
     (cnd (decide (a6 < (((a4 - a3) : Nat) : Int)))
      (join (Y := ((Nat × (Nat × (Int × (Int × Unit)))) × (D.Config × ((Int × (Int × (Int × (Int × (Int × (Int × (Int × (Int × (Int × (Int × (Int × Unit))))))))))) × (D.PolicyStep × (List Int × (List D.Start × (List Int × (List Int × Unit))))))))) (fun ((a24, (a25, (a26, (a27, _)))), (a28, ((a29, (a30, (a31, (a32, (a33, (a34, (a35, (a36, (a37, (a38, (a39, _))))))))))), (a40, (a41, (a42, (a43, (a44, _)))))))) =>
        (L2 ((a24, (a25, (a26, ((IntKind.wrap .i64 (a27 + 1)), ())))), (a28, ((a29, (a30, (a31, (a32, (a33, (a34, (a35, (a36, (a37, (a38, (a39, ()))))))))))), (a40, (a41, (a42, (a43, (a44, ())))))))))) fun J45 =>
       (natc a6 fun a46 =>
        (ltc a46 (a4 - a3) (optc (GetElem?.getElem? a20 (a3 + a46)) fun a47 =>
         (optc (escalate_begin_1_b11_12_13 fu a47 a7 (D.Page.mk a8 a9 a10 a11 a12 a13 a14 a15 a16 a17 a18 a21 a22 a23) a19) fun (a48, a49) =>
          (cnd (!a48)
           (natc a5 fun a50 =>
            (ltc a50 (a4 - a3) (optc (GetElem?.getElem? a20 (a3 + a50)) fun a51 =>
             (J45 ((a3, (a4, ((IntKind.wrap .i64 (a5 + 1)), (a6, ())))), (a7, (((D.Page.ID a49), ((D.Page.Policy a49), ((D.Page.Start a49), ((D.Page.Next a49), ((D.Page.Due a49), ((D.Page.State a49), ((D.Page.By a49), ((D.Page.Until a49), ((D.Page.Last a49), ((D.Page.Snoozes a49), ((D.Page.Hands a49), ()))))))))))), (a19, ((List.set a20 (a3 + a50) a47), ((D.Page.Starts a49), ((D.Page.Declined a49), ((D.Page.Seen a49), ()))))))))))))
           (J45 ((a3, (a4, (a5, (a6, ())))), (a7, (((D.Page.ID a49), ((D.Page.Policy a49), ((D.Page.Start a49), ((D.Page.Next a49), ((D.Page.Due a49), ((D.Page.State a49), ((D.Page.By a49), ((D.Page.Until a49), ((D.Page.Last a49), ((D.Page.Snoozes a49), ((D.Page.Hands a49), ()))))))))))), (a19, (a20, ((D.Page.Starts a49), ((D.Page.Declined a49), ((D.Page.Seen a49), ())))))))))))))))
      (natc a5 fun a52 =>
       (ltc a52 (a4 - a3) (lec (a3 + a52) (a3 + (a4 - a3)) (lec (a3 + (a4 - a3)) (List.length a20) (natc a5 fun a53 =>
        (lec a53 (a4 - a3) (sameC a7 c102 (sameC a19 c107 (some ((a3 + 0), ((a3 + a53), ((D.Page.mk a8 a9 a10 a11 a12 a13 a14 a15 a16 a17 a18 a21 a22 a23), (((List.take (a3 + a52) a20) ++ (List.replicate ((a3 + (a4 - a3)) - (a3 + a52)) 0)) ++ (List.drop (a3 + (a4 - a3)) a20)))))))))))))))) fu ((l0, (h0, (a0, ((IntKind.wrap .i64 (a0 + 1)), ())))), (c102, (((D.Page.ID a1), ((D.Page.Policy a1), ((D.Page.Start a1), ((D.Page.Next a1), ((D.Page.Due a1), ((D.Page.State a1), ((D.Page.By a1), ((D.Page.Until a1), ((D.Page.Last a1), ((D.Page.Snoozes a1), ((D.Page.Hands a1), ()))))))))))), (c107, (p0, ((D.Page.Starts a1), ((D.Page.Declined a1), ((D.Page.Seen a1), ())))))))))))
def slices_DeleteFunc_int_1f54b11_12_13_0v_g (fu : Nat) : Sig := mkSig [.one (.view 101), .one (.clo 54 [102, 103, 107])] [(101, .arr .int), (102, .boxst .Config), (103, .box [.num .i64, .num .i64, .num .i64, .num .i64, .num .i64, .num .i64, .num .i64, .num .i64, .num .i64, .num .i64, .num .i64, .own 104, .own 105, .own 106]), (104, .arr .Start), (105, .arr .int), (106, .arr .int), (107, .boxst .PolicyStep)] [.one (.view 101)] [(103, .box [.num .i64, .num .i64, .num .i64, .num .i64, .num .i64, .num .i64, .num .i64, .num .i64, .num .i64, .num .i64, .num .i64, .own 104, .own 105, .own 106]), (104, .arr .Start), (105, .arr .int), (106, .arr .int), (101, .arr .int)] [102, 107] (Nat × Nat × D.Page × List (Int)) (fun q => ((q.1, q.2.1, ()), ((q.2.2.1.ID, q.2.2.1.Policy, q.2.2.1.Start, q.2.2.1.Next, q.2.2.1.Due, q.2.2.1.State, q.2.2.1.By, q.2.2.1.Until, q.2.2.1.Last, q.2.2.1.Snoozes, q.2.2.1.Hands, ()), q.2.2.1.Starts, q.2.2.1.Declined, q.2.2.1.Seen, q.2.2.2, ()))) (fun x y => slices_DeleteFunc_int_1f54b11_12_13_0v fu x.1 x.2.1 y.1 y.2.1 (D.Page.mk y.2.2.1.1 y.2.2.1.2.1 y.2.2.1.2.2.1 y.2.2.1.2.2.2.1 y.2.2.1.2.2.2.2.1 y.2.2.1.2.2.2.2.2.1 y.2.2.1.2.2.2.2.2.2.1 y.2.2.1.2.2.2.2.2.2.2.1 y.2.2.1.2.2.2.2.2.2.2.2.1 y.2.2.1.2.2.2.2.2.2.2.2.2.1 y.2.2.1.2.2.2.2.2.2.2.2.2.2.1 y.2.2.2.1 y.2.2.2.2.1 y.2.2.2.2.2.1) y.2.2.2.2.2.2.1)
theorem slices_DeleteFunc_int_1f54b11_12_13_0v_ok (fu : Nat) : FnOK Tryz.prog 52 (slices_DeleteFunc_int_1f54b11_12_13_0v_g fu) :=
  FnOK.intro (ty := ty) (E := envL [(54, 0, escalate_begin_1_b11_12_13_g fu), (58, 0, slices_IndexFunc_int_1f54b11_12_13_0v_g fu)]) (fu := fu) (an := .two (.go) (.two (.go) (.two (.go) (.two (.two (.go) (.one (.loop [(0, .one (.view 101)), (1, .one (.clo 54 [102, 103, 107])), (5, .one (.num .i64)), (6, .one (.num .i64))] [(102, .boxst .Config), (103, .box [.num .i64, .num .i64, .num .i64, .num .i64, .num .i64, .num .i64, .num .i64, .num .i64, .num .i64, .num .i64, .num .i64, .own 104, .own 105, .own 106]), (107, .boxst .PolicyStep), (101, .arr .int), (104, .arr .Start), (105, .arr .int), (106, .arr .int)] (.two (.go) (.two (.join [(0, .one (.view 101)), (1, .one (.clo 54 [102, 103, 107])), (5, .one (.num .i64)), (6, .one (.num .i64))] [(102, .boxst .Config), (103, .box [.num .i64, .num .i64, .num .i64, .num .i64, .num .i64, .num .i64, .num .i64, .num .i64, .num .i64, .num .i64, .num .i64, .own 104, .own 105, .own 106]), (107, .boxst .PolicyStep), (101, .arr .int), (104, .arr .Start), (105, .arr .int), (106, .arr .int)] (.go)) (.go)))))) (.go))))) (fun a b => (a.1, a.2.1, (D.Page.mk b.1.1 b.1.2.1 b.1.2.2.1 b.1.2.2.2.1 b.1.2.2.2.2.1 b.1.2.2.2.2.2.1 b.1.2.2.2.2.2.2.1 b.1.2.2.2.2.2.2.2.1 b.1.2.2.2.2.2.2.2.2.1 b.1.2.2.2.2.2.2.2.2.2.1 b.1.2.2.2.2.2.2.2.2.2.2.1 b.2.1 b.2.2.1 b.2.2.2.1), b.2.2.2.2.1)) (fun _ _ => rfl) (envL_ok (l := [(54, 0, escalate_begin_1_b11_12_13_g fu), (58, 0, slices_IndexFunc_int_1f54b11_12_13_0v_g fu)]) ⟨escalate_begin_1_b11_12_13_ok fu, slices_IndexFunc_int_1f54b11_12_13_0v_ok fu, trivial⟩) Tryz.func52 rfl rfl (fun x y => by kernel_rfl)
def escalate_begin_2c11c12c13 (fu : Nat) (p0 : D.Config) (p1 : D.Book) (p2 : D.Page) : Option (D.Page × List (Int)) :=
  (atc (D.Book.Policies p1) (D.Page.Policy p2) fun a0 =>
   (optc (policy_Part fu a0 (D.Page.Next p2)) fun (a1, (a2, a3)) =>
    (atc (D.Policy.Steps a0) a1 fun a4 =>
     (optc (policy_People fu p0 p1 (D.PolicyStep.Targets a4) (D.Page.Due p2)) fun (a5, (a6, a7)) =>
      (optc (slices_DeleteFunc_int_1f54b11_12_13_0v fu a5 a6 a7 p0 p2 a4) fun (a8, (a9, (a10, a11))) =>
       (lec ((List.length (D.Page.Starts a10)) + (List.length ((D.Start.mk (D.Page.Next a10) (D.Page.Due a10) (List.drop a8 (List.take a9 a11))) :: []))) 34359738368 (join (Y := (Unit × ((Int × (Int × (Int × (Int × (Int × (Int × (Int × (Int × (Int × (Int × (Int × (List Int × Unit)))))))))))) × (D.Page × (List D.Start × (List Int × (List Int × Unit))))))) (fun (_, ((a12, (a13, (a14, (a15, (a16, (a17, (a18, (a19, (a20, (a21, (a22, (a23, _)))))))))))), (a24, (a25, (a26, (a27, _)))))) =>
         (some ((D.Page.mk a12 a13 a14 a15 a16 a17 a18 a19 a20 a21 a22 a25 a23 a26), a27))) fun J28 =>
        (cnd (decide (0 < (((List.length (List.drop a8 (List.take a9 a11))) : Nat) : Int)))
         (J28 ((), (((D.Page.ID a10), ((D.Page.Policy a10), ((D.Page.Start a10), ((IntKind.wrap .i64 ((D.Page.Next a10) + 1)), ((IntKind.wrap .i64 ((D.Page.Due a10) + (D.PolicyStep.Wait a4))), ((D.Page.State a10), ((D.Page.By a10), ((D.Page.Until a10), ((D.Page.Last a10), ((D.Page.Snoozes a10), ((D.Page.Hands a10), ([], ())))))))))))), ((D.Page.mk 0 0 0 0 0 0 0 0 0 0 0 [] [] []), (((D.Page.Starts a10) ++ ((D.Start.mk (D.Page.Next a10) (D.Page.Due a10) (List.drop a8 (List.take a9 a11))) :: [])), ((D.Page.Seen a10), ((D.Page.Declined a10), ())))))))
         (J28 ((), (((D.Page.ID a10), ((D.Page.Policy a10), ((D.Page.Start a10), ((IntKind.wrap .i64 ((D.Page.Next a10) + 1)), ((D.Page.Due a10), ((D.Page.State a10), ((D.Page.By a10), ((D.Page.Until a10), ((D.Page.Last a10), ((D.Page.Snoozes a10), ((D.Page.Hands a10), ([], ())))))))))))), ((D.Page.mk 0 0 0 0 0 0 0 0 0 0 0 [] [] []), (((D.Page.Starts a10) ++ ((D.Start.mk (D.Page.Next a10) (D.Page.Due a10) (List.drop a8 (List.take a9 a11))) :: [])), ((D.Page.Seen a10), ((D.Page.Declined a10), ())))))))))))))))
def escalate_begin_2c11c12c13_g (fu : Nat) : Sig := mkSig [.st .Config, .st .Book, .agg [.num .i64, .num .i64, .num .i64, .num .i64, .num .i64, .num .i64, .num .i64, .num .i64, .num .i64, .num .i64, .num .i64, .own 101, .own 102, .own 103]] [(101, .arr .Start), (102, .arr .int), (103, .arr .int)] [.agg [.num .i64, .num .i64, .num .i64, .num .i64, .num .i64, .num .i64, .num .i64, .num .i64, .num .i64, .num .i64, .num .i64, .own 101, .lst .int, .own 103]] [(101, .arr .Start), (102, .arr .int), (103, .arr .int)] [] (D.Page × List (Int)) (fun q => (((q.1.ID, q.1.Policy, q.1.Start, q.1.Next, q.1.Due, q.1.State, q.1.By, q.1.Until, q.1.Last, q.1.Snoozes, q.1.Hands, q.1.Declined, ()), ()), (q.1.Starts, q.2, q.1.Seen, ()))) (fun x y => escalate_begin_2c11c12c13 fu x.1 x.2.1 (D.Page.mk x.2.2.1.1 x.2.2.1.2.1 x.2.2.1.2.2.1 x.2.2.1.2.2.2.1 x.2.2.1.2.2.2.2.1 x.2.2.1.2.2.2.2.2.1 x.2.2.1.2.2.2.2.2.2.1 x.2.2.1.2.2.2.2.2.2.2.1 x.2.2.1.2.2.2.2.2.2.2.2.1 x.2.2.1.2.2.2.2.2.2.2.2.2.1 x.2.2.1.2.2.2.2.2.2.2.2.2.2.1 y.1 y.2.1 y.2.2.1))
theorem escalate_begin_2c11c12c13_ok (fu : Nat) : FnOK Tryz.prog 43 (escalate_begin_2c11c12c13_g fu) :=
  FnOK.intro (ty := ty) (E := envL [(51, 0, policy_Part_g fu), (52, 0, slices_DeleteFunc_int_1f54b11_12_13_0v_g fu), (53, 0, policy_People_g fu)]) (fu := fu) (an := .two (.go) (.two (.go) (.two (.go) (.two (.go) (.two (.go) (.two (.go) (.two (.go) (.two (.go) (.two (.join [(5, .one (.ref 1005)), (6, .one (.ref 1006))] [(1005, .box [.num .i64, .num .i64, .num .i64, .num .i64, .num .i64, .num .i64, .num .i64, .num .i64, .num .i64, .num .i64, .num .i64, .own 101, .lst .int, .own 103]), (1006, .boxst .Page), (101, .arr .Start), (103, .arr .int), (102, .arr .int)] (.go)) (.go)))))))))) (fun a b => ((D.Page.mk a.1.1 a.1.2.1 a.1.2.2.1 a.1.2.2.2.1 a.1.2.2.2.2.1 a.1.2.2.2.2.2.1 a.1.2.2.2.2.2.2.1 a.1.2.2.2.2.2.2.2.1 a.1.2.2.2.2.2.2.2.2.1 a.1.2.2.2.2.2.2.2.2.2.1 a.1.2.2.2.2.2.2.2.2.2.2.1 b.1 a.1.2.2.2.2.2.2.2.2.2.2.2.1 b.2.2.1), b.2.1)) (fun _ _ => rfl) (envL_ok (l := [(51, 0, policy_Part_g fu), (52, 0, slices_DeleteFunc_int_1f54b11_12_13_0v_g fu), (53, 0, policy_People_g fu)]) ⟨policy_Part_ok fu, slices_DeleteFunc_int_1f54b11_12_13_0v_ok fu, policy_People_ok fu, trivial⟩) Tryz.func43 rfl rfl (fun x y => by kernel_rfl)
def escalate_Step (fu : Nat) (p0 : D.Config) (p1 : D.Book) (p2 : D.Page) : Option (D.Page × Int) :=
  (optc (escalate_Due fu p2) fun (a0, a1) =>
   (optc (escalate_Check fu p1 p2) fun a2 =>
    (cnd (!a2)
     (some ((D.Page.mk 0 0 0 0 0 0 0 0 0 0 0 [] [] []), 8))
     (cnd (!a1)
      (some ((D.Page.mk 0 0 0 0 0 0 0 0 0 0 0 [] [] []), 9))
      (cnd (decide ((((List.length (D.Page.Starts p2)) : Nat) : Int) = 200))
       (some ((D.Page.mk 0 0 0 0 0 0 0 0 0 0 0 [] [] []), 5))
       (optc (escalate_copied fu p2) fun a3 =>
        (join (Y := (Unit × ((Int × (Int × (Int × (Int × (Int × (Int × (Int × (Int × (Int × (Int × (Int × (List Int × Unit)))))))))))) × (D.Page × (List D.Start × (List Int × Unit)))))) (fun (_, ((a4, (a5, (a6, (a7, (a8, (a9, (a10, (a11, (a12, (a13, (a14, (a15, _)))))))))))), (a16, (a17, (a18, _))))) =>
          (some ((D.Page.mk a4 a5 a6 a7 a8 a9 a10 a11 a12 a13 a14 a17 a15 a18), 0))) fun J19 =>
         (cnd (decide ((D.Page.State a3) = 2))
          (J19 ((), (((D.Page.ID a3), ((D.Page.Policy a3), ((D.Page.Start a3), ((D.Page.Next a3), (a0, (0, ((D.Page.By a3), ((D.Page.Until a3), ((max (D.Page.Last a3) a0), ((D.Page.Snoozes a3), ((D.Page.Hands a3), ((D.Page.Declined a3), ())))))))))))), ((D.Page.mk 0 0 0 0 0 0 0 0 0 0 0 [] [] []), ((D.Page.Starts a3), ((D.Page.Seen a3), ()))))))
          (atc (D.Book.Policies p1) (D.Page.Policy a3) fun a20 =>
           (optc (policy_Count fu a20) fun a21 =>
            (cnd (decide ((D.Page.Next a3) = a21))
             (J19 ((), (((D.Page.ID a3), ((D.Page.Policy a3), ((D.Page.Start a3), ((D.Page.Next a3), ((D.Page.Due a3), (3, ((D.Page.By a3), ((D.Page.Until a3), ((max (D.Page.Last a3) a0), ((D.Page.Snoozes a3), ((D.Page.Hands a3), ((D.Page.Declined a3), ())))))))))))), ((D.Page.mk 0 0 0 0 0 0 0 0 0 0 0 [] [] []), ((D.Page.Starts a3), ((D.Page.Seen a3), ()))))))
             (optc (escalate_begin_2c11c12c13 fu p0 p1 (D.Page.mk (D.Page.ID a3) (D.Page.Policy a3) (D.Page.Start a3) (D.Page.Next a3) (D.Page.Due a3) (D.Page.State a3) (D.Page.By a3) (D.Page.Until a3) (max (D.Page.Last a3) a0) (D.Page.Snoozes a3) (D.Page.Hands a3) (D.Page.Starts a3) (D.Page.Declined a3) (D.Page.Seen a3))) fun (a22, a23) =>
              (J19 ((), (((D.Page.ID a22), ((D.Page.Policy a22), ((D.Page.Start a22), ((D.Page.Next a22), ((D.Page.Due a22), ((D.Page.State a22), ((D.Page.By a22), ((D.Page.Until a22), ((D.Page.Last a22), ((D.Page.Snoozes a22), ((D.Page.Hands a22), ((D.Page.Declined a22), ())))))))))))), ((D.Page.mk 0 0 0 0 0 0 0 0 0 0 0 [] [] []), ((D.Page.Starts a22), ((D.Page.Seen a22), ()))))))))))))))))))
def escalate_Step_g (fu : Nat) : Sig := mkSig [.st .Config, .st .Book, .st .Page] [] [.st .Page, .one (.num .i64)] [] [] (D.Page × Int) (fun q => ((q.1, q.2, ()), ())) (fun x y => escalate_Step fu x.1 x.2.1 x.2.2.1)
theorem escalate_Step_ok (fu : Nat) : FnOK Tryz.prog 28 (escalate_Step_g fu) :=
  FnOK.intro (ty := ty) (E := envL [(16, 0, escalate_Due_g fu), (25, 0, escalate_Check_g fu), (26, 0, escalate_copied_g fu), (37, 0, policy_Count_g fu), (43, 0, escalate_begin_2c11c12c13_g fu)]) (fu := fu) (an := .two (.go) (.two (.go) (.two (.go) (.two (.go) (.two (.go) (.two (.join [(5, .one (.ref 1005)), (6, .one (.ref 1006))] [(1005, .box [.num .i64, .num .i64, .num .i64, .num .i64, .num .i64, .num .i64, .num .i64, .num .i64, .num .i64, .num .i64, .num .i64, .own 2039007, .lst .int, .own 2065007]), (1006, .boxst .Page), (2039007, .arr .Start), (2065007, .arr .int)] (.go)) (.go))))))) (fun a b => (a.1, a.2.1)) (fun _ _ => rfl) (envL_ok (l := [(16, 0, escalate_Due_g fu), (25, 0, escalate_Check_g fu), (26, 0, escalate_copied_g fu), (37, 0, policy_Count_g fu), (43, 0, escalate_begin_2c11c12c13_g fu)]) ⟨escalate_Due_ok fu, escalate_Check_ok fu, escalate_copied_ok fu, policy_Count_ok fu, escalate_begin_2c11c12c13_ok fu, trivial⟩) Tryz.func28 rfl rfl (fun x y => by kernel_rfl)
def escalate_Run (fu : Nat) (p0 : D.Config) (p1 : D.Book) (p2 : D.Page) (p3 : Int) : Option (D.Page × Int) :=
  (optc (escalate_Check fu p1 p2) fun a0 =>
   (cnd (!a0)
    (some ((D.Page.mk 0 0 0 0 0 0 0 0 0 0 0 [] [] []), 8))
    (optc (escalate_copied fu p2) fun a1 =>
     (iterF (X := ((Int × Unit) × (D.Config × (D.Book × (D.Page × (D.Page × Unit)))))) (fun L2 ((a3, _), (a4, (a5, (a6, (a7, _))))) =>
      (optc (escalate_waits fu a6 a3) fun a8 =>
       (cnd a8
        (optc (escalate_Step fu a4 a5 a6) fun (a9, a10) =>
         (cnd (decide (a10 ≠ 0))
          (some ((D.Page.mk 0 0 0 0 0 0 0 0 0 0 0 [] [] []), a10))
          (L2 ((a3, ()), (a4, (a5, (a9, (a7, ()))))))))
        (some (a6, 0))))) fu ((p3, ()), (p0, (p1, (a1, ((D.Page.mk 0 0 0 0 0 0 0 0 0 0 0 [] [] []), ())))))))))
def escalate_Run_g (fu : Nat) : Sig := mkSig [.st .Config, .st .Book, .st .Page, .one (.num .i64)] [] [.st .Page, .one (.num .i64)] [] [] (D.Page × Int) (fun q => ((q.1, q.2, ()), ())) (fun x y => escalate_Run fu x.1 x.2.1 x.2.2.1 x.2.2.2.1)
theorem escalate_Run_ok (fu : Nat) : FnOK Tryz.prog 14 (escalate_Run_g fu) :=
  FnOK.intro (ty := ty) (E := envL [(25, 0, escalate_Check_g fu), (26, 0, escalate_copied_g fu), (27, 0, escalate_waits_g fu), (28, 0, escalate_Step_g fu)]) (fu := fu) (an := .two (.go) (.two (.go) (.two (.go) (.two (.two (.go) (.one (.loop [(3, .one (.num .i64)), (4, .one (.ref 1004)), (5, .one (.ref 1005)), (6, .one (.ref 1006)), (8, .one (.ref 1008))] [(1004, .boxst .Config), (1005, .boxst .Book), (1006, .boxst .Page), (1008, .boxst .Page)] (.go)))) (.go))))) (fun a b => (a.1, a.2.1)) (fun _ _ => rfl) (envL_ok (l := [(25, 0, escalate_Check_g fu), (26, 0, escalate_copied_g fu), (27, 0, escalate_waits_g fu), (28, 0, escalate_Step_g fu)]) ⟨escalate_Check_ok fu, escalate_copied_ok fu, escalate_waits_ok fu, escalate_Step_ok fu, trivial⟩) Tryz.func14 rfl rfl (fun x y => by kernel_rfl)
def answer_in (fu : Nat) (p0 : Int) (p1 : Int) (p2 : Int) : Option (Bool) :=
  (cnd (decide (p1 ≤ p0))
   (cnd (decide (p0 ≤ p2))
    (some true)
    (some false))
   (some false))
def answer_in_g (fu : Nat) : Sig := mkSig [.one (.num .i64), .one (.num .i64), .one (.num .i64)] [] [.one (.boo)] [] [] (Bool) (fun q => ((q, ()), ())) (fun x y => answer_in fu x.1 x.2.1 x.2.2.1)
theorem answer_in_ok (fu : Nat) : FnOK Tryz.prog 44 (answer_in_g fu) :=
  FnOK.intro (ty := ty) (E := envL []) (fu := fu) (an := .go) (fun a b => a.1) (fun _ _ => rfl) (envL_ok (l := []) trivial) Tryz.func44 rfl rfl (fun x y => by kernel_rfl)
def answer_Valid (fu : Nat) (p0 : D.Answer) : Option (Bool) :=
  (join (Y := ((Int × (Int × Unit)) × (D.Answer × Unit))) (fun ((a0, (a1, _)), (a2, _)) =>
    (optc (answer_in fu (D.Answer.ID a2) 1 999999) fun a3 =>
     (cnd a3
      (optc (answer_in fu (D.Answer.Page a2) 1 999999) fun a4 =>
       (cnd a4
        (optc (answer_in fu (D.Answer.Person a2) (-1) 31) fun a5 =>
         (cnd a5
          (optc (answer_in fu (D.Answer.At a2) 0 8589934592) fun a6 =>
           (cnd a6
            (optc (answer_in fu (D.Answer.Kind a2) 1 5) fun a7 =>
             (cnd a7
              (optc (answer_in fu (D.Answer.Arg a2) a0 a1) fun a8 =>
               (cnd a8
                (some true)
                (some false)))
              (some false)))
            (some false)))
          (some false)))
        (some false)))
      (some false)))) fun J9 =>
   (cnd (decide ((D.Answer.Kind p0) = 3))
    (J9 ((1, (86400, ())), (p0, ())))
    (cnd (decide ((D.Answer.Kind p0) = 4))
     (J9 ((0, (31, ())), (p0, ())))
     (J9 ((0, (0, ())), (p0, ()))))))
def answer_Valid_g (fu : Nat) : Sig := mkSig [.st .Answer] [] [.one (.boo)] [] [] (Bool) (fun q => ((q, ()), ())) (fun x y => answer_Valid fu x.1)
theorem answer_Valid_ok (fu : Nat) : FnOK Tryz.prog 29 (answer_Valid_g fu) :=
  FnOK.intro (ty := ty) (E := envL [(44, 0, answer_in_g fu)]) (fu := fu) (an := .two (.go) (.two (.go) (.two (.join [(1, .one (.ref 1001)), (3, .one (.num .i64)), (4, .one (.num .i64))] [(1001, .boxst .Answer)] (.go)) (.go)))) (fun a b => a.1) (fun _ _ => rfl) (envL_ok (l := [(44, 0, answer_in_g fu)]) ⟨answer_in_ok fu, trivial⟩) Tryz.func29 rfl rfl (fun x y => by kernel_rfl)
def escalate_refused (fu : Nat) (p0 : D.Page) (p1 : D.Answer) : Option (Int) :=
  (join (Y := ((Bool × Unit) × (D.Page × (D.Answer × Unit)))) (fun ((a0, _), (a1, (a2, _))) =>
    (join (Y := (Unit × Unit)) (fun (_, _) =>
      (some 0)) fun J3 =>
     (cnd (decide ((D.Answer.At a2) < (D.Page.Last a1)))
      (some 6)
      (optc (escalate_waits fu a1 (D.Answer.At a2)) fun a4 =>
       (cnd a4
        (some 6)
        (join (Y := ((Bool × (Bool × Unit)) × (D.Page × Unit))) (fun ((a5, (a6, _)), (a7, _)) =>
          (cnd a6
           (some 9)
           (cnd (decide ((((List.length (D.Page.Seen a7)) : Nat) : Int) = 64))
            (some 5)
            (cnd a5
             (some 5)
             (J3 ((), ())))))) fun J8 =>
         (cnd (decide ((D.Page.State a1) = 4))
          (J8 ((a0, ((decide ((D.Page.State a1) = 4)), ())), (a1, ())))
          (cnd (decide ((D.Page.State a1) = 3))
           (cnd (decide ((D.Answer.Kind a2) ≠ 5))
            (J8 ((a0, (true, ())), (a1, ())))
            (cnd (decide ((D.Page.State a1) = 1))
             (cnd (decide ((D.Answer.Kind a2) = 2))
              (J8 ((a0, (true, ())), (a1, ())))
              (J8 ((a0, (false, ())), (a1, ()))))
             (J8 ((a0, (false, ())), (a1, ())))))
           (cnd (decide ((D.Page.State a1) = 1))
            (cnd (decide ((D.Answer.Kind a2) = 2))
             (J8 ((a0, (true, ())), (a1, ())))
             (J8 ((a0, (false, ())), (a1, ()))))
            (J8 ((a0, (false, ())), (a1, ())))))))))))) fun J9 =>
   (cnd (decide ((D.Answer.Kind p1) = 3))
    (cnd (decide ((D.Page.Snoozes p0) = 4))
     (J9 ((true, ()), (p0, (p1, ()))))
     (cnd (decide ((D.Answer.Kind p1) = 4))
      (cnd (decide ((D.Page.Hands p0) = 4))
       (J9 ((true, ()), (p0, (p1, ()))))
       (cnd (decide ((((List.length (D.Page.Starts p0)) : Nat) : Int) = 200))
        (J9 ((true, ()), (p0, (p1, ()))))
        (J9 ((false, ()), (p0, (p1, ()))))))
      (J9 ((false, ()), (p0, (p1, ()))))))
    (cnd (decide ((D.Answer.Kind p1) = 4))
     (cnd (decide ((D.Page.Hands p0) = 4))
      (J9 ((true, ()), (p0, (p1, ()))))
      (cnd (decide ((((List.length (D.Page.Starts p0)) : Nat) : Int) = 200))
       (J9 ((true, ()), (p0, (p1, ()))))
       (J9 ((false, ()), (p0, (p1, ()))))))
     (J9 ((false, ()), (p0, (p1, ())))))))
def escalate_refused_g (fu : Nat) : Sig := mkSig [.st .Page, .st .Answer] [] [.one (.num .i64)] [] [] (Int) (fun q => ((q, ()), ())) (fun x y => escalate_refused fu x.1 x.2.1)
theorem escalate_refused_ok (fu : Nat) : FnOK Tryz.prog 31 (escalate_refused_g fu) :=
  FnOK.intro (ty := ty) (E := envL [(27, 0, escalate_waits_g fu)]) (fu := fu) (an := .two (.go) (.two (.join [(2, .one (.ref 1002)), (3, .one (.ref 1003)), (5, .one (.boo))] [(1002, .boxst .Page), (1003, .boxst .Answer)] (.go)) (.two (.join [] [] (.one (.two (.go) (.two (.go) (.two (.join [(2, .one (.ref 1002)), (5, .one (.boo)), (42, .one (.boo))] [(1002, .boxst .Page)] (.go)) (.go)))))) (.go)))) (fun a b => a.1) (fun _ _ => rfl) (envL_ok (l := [(27, 0, escalate_waits_g fu)]) ⟨escalate_waits_ok fu, trivial⟩) Tryz.func31 rfl rfl (fun x y => by kernel_rfl)
def escalate_Called (fu : Nat) (p0 : D.Page) : Option (List Int) :=
  (cnd (decide ((((List.length (D.Page.Starts p0)) : Nat) : Int) = 0))
   (some [])
   (atc (D.Page.Starts p0) (IntKind.wrap .i64 ((((List.length (D.Page.Starts p0)) : Nat) : Int) - 1)) fun a0 =>
    (optc (slices_Clone_int fu (D.Start.People a0)) fun a1 =>
     (some a1))))
def escalate_Called_g (fu : Nat) : Sig := mkSig [.st .Page] [] [.one (.lst .int)] [] [] (List Int) (fun q => ((q, ()), ())) (fun x y => escalate_Called fu x.1)
theorem escalate_Called_ok (fu : Nat) : FnOK Tryz.prog 18 (escalate_Called_g fu) :=
  FnOK.intro (ty := ty) (E := envL [(33, 0, slices_Clone_int_g fu)]) (fu := fu) (an := .go) (fun a b => a.1) (fun _ _ => rfl) (envL_ok (l := [(33, 0, slices_Clone_int_g fu)]) ⟨slices_Clone_int_ok fu, trivial⟩) Tryz.func18 rfl rfl (fun x y => by kernel_rfl)
def escalate_declined_1 (fu : Nat) (p0 : Int) (p1 : D.Page) : Option (Bool) :=
  (optc (slices_Contains_int fu (D.Page.Declined p1) p0) fun a0 =>
   (sameC p1 p1 (some (!a0))))
def escalate_declined_1_g (fu : Nat) : Sig := mkSig [.one (.num .i64), .one (.ref 101)] [(101, .boxst .Page)] [.one (.boo)] [] [101] (Bool) (fun q => ((q, ()), ())) (fun x y => escalate_declined_1 fu x.1 y.1)
theorem escalate_declined_1_ok (fu : Nat) : FnOK Tryz.prog 48 (escalate_declined_1_g fu) :=
  FnOK.intro (ty := ty) (E := envL [(30, 0, slices_Contains_int_g fu)]) (fu := fu) (an := .go) (fun a b => a.1) (fun _ _ => rfl) (envL_ok (l := [(30, 0, slices_Contains_int_g fu)]) ⟨slices_Contains_int_ok fu, trivial⟩) Tryz.func48 rfl rfl (fun x y => by kernel_rfl)
def slices_IndexFunc_int_1f48 (fu : Nat) (p0 : List Int) (c101 : D.Page) : Option (Int) :=
  (iterF (X := ((List Int × (Int × (Int × Unit))) × (D.Page × Unit))) (fun L0 ((a1, (a2, (a3, _))), (a4, _)) =>
   (cnd (decide (a3 < a2))
    (atc a1 a3 fun a5 =>
     (optc (escalate_declined_1 fu a5 a4) fun a6 =>
      (cnd a6
       (sameC a4 c101 (some a3))
       (L0 ((a1, (a2, ((IntKind.wrap .i64 (a3 + 1)), ()))), (a4, ()))))))
    (sameC a4 c101 (some (-1))))) fu ((p0, ((((List.length p0) : Nat) : Int), (0, ()))), (c101, ())))
def slices_IndexFunc_int_1f48_g (fu : Nat) : Sig := mkSig [.one (.lst .int), .one (.clo 48 [101])] [(101, .boxst .Page)] [.one (.num .i64)] [] [101] (Int) (fun q => ((q, ()), ())) (fun x y => slices_IndexFunc_int_1f48 fu x.1 y.1)
theorem slices_IndexFunc_int_1f48_ok (fu : Nat) : FnOK Tryz.prog 58 (slices_IndexFunc_int_1f48_g fu) :=
  FnOK.intro (ty := ty) (E := envL [(48, 0, escalate_declined_1_g fu)]) (fu := fu) (an := .two (.go) (.two (.two (.go) (.one (.loop [(0, .one (.lst .int)), (1, .one (.clo 48 [101])), (7, .one (.num .i64)), (8, .one (.num .i64))] [(101, .boxst .Page)] (.go)))) (.go))) (fun a b => a.1) (fun _ _ => rfl) (envL_ok (l := [(48, 0, escalate_declined_1_g fu)]) ⟨escalate_declined_1_ok fu, trivial⟩) Tryz.func58 rfl rfl (fun x y => by kernel_rfl)
def slices_ContainsFunc_int_1f48 (fu : Nat) (p0 : List Int) (c101 : D.Page) : Option (Bool) :=
  (optc (slices_IndexFunc_int_1f48 fu p0 c101) fun a0 =>
   (sameC c101 c101 (some (decide (0 ≤ a0)))))
def slices_ContainsFunc_int_1f48_g (fu : Nat) : Sig := mkSig [.one (.lst .int), .one (.clo 48 [101])] [(101, .boxst .Page)] [.one (.boo)] [] [101] (Bool) (fun q => ((q, ()), ())) (fun x y => slices_ContainsFunc_int_1f48 fu x.1 y.1)
theorem slices_ContainsFunc_int_1f48_ok (fu : Nat) : FnOK Tryz.prog 47 (slices_ContainsFunc_int_1f48_g fu) :=
  FnOK.intro (ty := ty) (E := envL [(58, 0, slices_IndexFunc_int_1f48_g fu)]) (fu := fu) (an := .go) (fun a b => a.1) (fun _ _ => rfl) (envL_ok (l := [(58, 0, slices_IndexFunc_int_1f48_g fu)]) ⟨slices_IndexFunc_int_1f48_ok fu, trivial⟩) Tryz.func47 rfl rfl (fun x y => by kernel_rfl)
def escalate_declined (fu : Nat) (p0 : D.Page) (p1 : D.Answer) : Option (D.Page) :=
  (optc (escalate_Called fu p0) fun a0 =>
   (join (Y := ((List Int × Unit) × (D.Page × (D.Answer × ((Int × (Int × (Int × (Int × (Int × (Int × (Int × (Int × (Int × (Int × (Int × Unit))))))))))) × Unit))))) (fun ((a1, _), (a2, (a3, ((a4, (a5, (a6, (a7, (a8, (a9, (a10, (a11, (a12, (a13, (a14, _))))))))))), _)))) =>
     (join (Y := (Unit × (D.Page × ((Int × (Int × (Int × (Int × (Int × (Int × (Int × (Int × (Int × (Int × (Int × Unit))))))))))) × Unit)))) (fun (_, (a15, ((a16, (a17, (a18, (a19, (a20, (a21, (a22, (a23, (a24, (a25, (a26, _))))))))))), _))) =>
       (some a15)) fun J27 =>
      (cnd (decide ((D.Page.State a2) = 0))
       (cnd (decide (0 < (((List.length a1) : Nat) : Int)))
        (optc (slices_ContainsFunc_int_1f48 fu a1 a2) fun a28 =>
         (cnd a28
          (J27 ((), (a2, ((a4, (a5, (a6, (a7, (a8, (a9, (a10, (a11, (a12, (a13, (a14, ()))))))))))), ()))))
          (J27 ((), ((D.Page.mk (D.Page.ID a2) (D.Page.Policy a2) (D.Page.Start a2) (D.Page.Next a2) (D.Answer.At a3) (D.Page.State a2) (D.Page.By a2) (D.Page.Until a2) (D.Page.Last a2) (D.Page.Snoozes a2) (D.Page.Hands a2) (D.Page.Starts a2) (D.Page.Declined a2) (D.Page.Seen a2)), ((a4, (a5, (a6, (a7, (a8, (a9, (a10, (a11, (a12, (a13, (a14, ()))))))))))), ()))))))
        (J27 ((), (a2, ((a4, (a5, (a6, (a7, (a8, (a9, (a10, (a11, (a12, (a13, (a14, ()))))))))))), ())))))
       (J27 ((), (a2, ((a4, (a5, (a6, (a7, (a8, (a9, (a10, (a11, (a12, (a13, (a14, ()))))))))))), ()))))))) fun J29 =>
    (optc (slices_Contains_int fu a0 (D.Answer.Person p1)) fun a30 =>
     (cnd a30
      (optc (slices_Contains_int fu (D.Page.Declined p0) (D.Answer.Person p1)) fun a31 =>
       (cnd a31
        (J29 ((a0, ()), (p0, (p1, ((0, (0, (0, (0, (0, (0, (0, (0, (0, (0, (0, ()))))))))))), ())))))
        none))
      (J29 ((a0, ()), (p0, (p1, ((0, (0, (0, (0, (0, (0, (0, (0, (0, (0, (0, ()))))))))))), ())))))))))
def escalate_declined_g (fu : Nat) : Sig := mkSig [.st .Page, .st .Answer] [] [.st .Page] [] [] (D.Page) (fun q => ((q, ()), ())) (fun x y => escalate_declined fu x.1 x.2.1)
theorem escalate_declined_ok (fu : Nat) : FnOK Tryz.prog 32 (escalate_declined_g fu) :=
  FnOK.intro (ty := ty) (E := envL [(18, 0, escalate_Called_g fu), (30, 0, slices_Contains_int_g fu), (47, 0, slices_ContainsFunc_int_1f48_g fu)]) (fu := fu) (an := .two (.go) (.two (.go) (.two (.join [(2, .one (.ref 1002)), (3, .one (.ref 1003)), (4, .one (.ref 1004)), (5, .one (.lst .int))] [(1002, .boxst .Page), (1003, .boxst .Answer), (1004, .box [.num .i64, .num .i64, .num .i64, .num .i64, .num .i64, .num .i64, .num .i64, .num .i64, .num .i64, .num .i64, .num .i64, .nul, .nul, .nul])] (.go)) (.two (.join [(2, .one (.ref 1002)), (4, .one (.ref 1004))] [(1002, .boxst .Page), (1004, .box [.num .i64, .num .i64, .num .i64, .num .i64, .num .i64, .num .i64, .num .i64, .num .i64, .num .i64, .num .i64, .num .i64, .nul, .nul, .nul])] (.go)) (.go))))) (fun a b => a.1) (fun _ _ => rfl) (envL_ok (l := [(18, 0, escalate_Called_g fu), (30, 0, slices_Contains_int_g fu), (47, 0, slices_ContainsFunc_int_1f48_g fu)]) ⟨escalate_Called_ok fu, slices_Contains_int_ok fu, slices_ContainsFunc_int_1f48_ok fu, trivial⟩) Tryz.func32 rfl rfl (fun x y => by kernel_rfl)
def slices_Index_int_0 (fu : Nat) (p0 : List (Int)) (p1 : Int) : Option (Int) :=
  (iterF (X := ((Int × (Int × (Int × Unit))) × (List Int × Unit))) (fun L0 ((a1, (a2, (a3, _))), (a4, _)) =>
   (cnd (decide (a3 < a2))
    (natc a3 fun a5 =>
     (ltc a5 (List.length a4) (optc (GetElem?.getElem? a4 a5) fun a6 =>
      (cnd (decide (a1 = a6))
       (sameC a4 p0 (some a3))
       (L0 ((a1, (a2, ((IntKind.wrap .i64 (a3 + 1)), ()))), (a4, ())))))))
    (sameC a4 p0 (some (-1))))) fu ((p1, ((((List.length p0) : Nat) : Int), (0, ()))), (p0, ())))
def slices_Index_int_0_g (fu : Nat) : Sig := mkSig [.one (.own 101), .one (.num .i64)] [(101, .arr .int)] [.one (.num .i64)] [] [101] (Int) (fun q => ((q, ()), ())) (fun x y => slices_Index_int_0 fu y.1 x.1)
theorem slices_Index_int_0_ok (fu : Nat) : FnOK Tryz.prog 45 (slices_Index_int_0_g fu) :=
  FnOK.intro (ty := ty) (E := envL []) (fu := fu) (an := .two (.go) (.two (.two (.go) (.one (.loop [(0, .one (.own 101)), (1, .one (.num .i64)), (7, .one (.num .i64)), (8, .one (.num .i64))] [(101, .arr .int)] (.go)))) (.go))) (fun a b => a.1) (fun _ _ => rfl) (envL_ok (l := []) trivial) Tryz.func45 rfl rfl (fun x y => by kernel_rfl)
def slices_Contains_int_0 (fu : Nat) (p0 : List (Int)) (p1 : Int) : Option (Bool) :=
  (optc (slices_Index_int_0 fu p0 p1) fun a0 =>
   (sameC p0 p0 (some (decide (0 ≤ a0)))))
def slices_Contains_int_0_g (fu : Nat) : Sig := mkSig [.one (.own 101), .one (.num .i64)] [(101, .arr .int)] [.one (.boo)] [] [101] (Bool) (fun q => ((q, ()), ())) (fun x y => slices_Contains_int_0 fu y.1 x.1)
theorem slices_Contains_int_0_ok (fu : Nat) : FnOK Tryz.prog 30 (slices_Contains_int_0_g fu) :=
  FnOK.intro (ty := ty) (E := envL [(45, 0, slices_Index_int_0_g fu)]) (fu := fu) (an := .go) (fun a b => a.1) (fun _ _ => rfl) (envL_ok (l := [(45, 0, slices_Index_int_0_g fu)]) ⟨slices_Index_int_0_ok fu, trivial⟩) Tryz.func30 rfl rfl (fun x y => by kernel_rfl)
def escalate_Due_0c11c12c13 (fu : Nat) (p0 : D.Page) : Option (Int × Bool) :=
  (cnd (decide ((D.Page.State p0) = 0))
   (sameC (D.Page.Starts p0) (D.Page.Starts p0) (sameC (D.Page.Declined p0) (D.Page.Declined p0) (sameC (D.Page.Seen p0) (D.Page.Seen p0) (some ((D.Page.Due p0), true)))))
   (cnd (decide ((D.Page.State p0) = 2))
    (sameC (D.Page.Starts p0) (D.Page.Starts p0) (sameC (D.Page.Declined p0) (D.Page.Declined p0) (sameC (D.Page.Seen p0) (D.Page.Seen p0) (some ((D.Page.Until p0), true)))))
    (sameC (D.Page.Starts p0) (D.Page.Starts p0) (sameC (D.Page.Declined p0) (D.Page.Declined p0) (sameC (D.Page.Seen p0) (D.Page.Seen p0) (some (0, false)))))))
def escalate_Due_0c11c12c13_g (fu : Nat) : Sig := mkSig [.agg [.num .i64, .num .i64, .num .i64, .num .i64, .num .i64, .num .i64, .num .i64, .num .i64, .num .i64, .num .i64, .num .i64, .own 101, .own 102, .own 103]] [(101, .arr .Start), (102, .arr .int), (103, .arr .int)] [.one (.num .i64), .one (.boo)] [] [101, 102, 103] (Int × Bool) (fun q => ((q.1, q.2, ()), ())) (fun x y => escalate_Due_0c11c12c13 fu (D.Page.mk x.1.1 x.1.2.1 x.1.2.2.1 x.1.2.2.2.1 x.1.2.2.2.2.1 x.1.2.2.2.2.2.1 x.1.2.2.2.2.2.2.1 x.1.2.2.2.2.2.2.2.1 x.1.2.2.2.2.2.2.2.2.1 x.1.2.2.2.2.2.2.2.2.2.1 x.1.2.2.2.2.2.2.2.2.2.2.1 y.1 y.2.1 y.2.2.1))
theorem escalate_Due_0c11c12c13_ok (fu : Nat) : FnOK Tryz.prog 16 (escalate_Due_0c11c12c13_g fu) :=
  FnOK.intro (ty := ty) (E := envL []) (fu := fu) (an := .go) (fun a b => (a.1, a.2.1)) (fun _ _ => rfl) (envL_ok (l := []) trivial) Tryz.func16 rfl rfl (fun x y => by kernel_rfl)
def escalate_waits_0c11c12c13 (fu : Nat) (p0 : D.Page) (p1 : Int) : Option (Bool) :=
  (optc (escalate_Due_0c11c12c13 fu p0) fun (a0, a1) =>
   (cnd a1
    (cnd (decide (a0 ≤ p1))
     (sameC (D.Page.Starts p0) (D.Page.Starts p0) (sameC (D.Page.Declined p0) (D.Page.Declined p0) (sameC (D.Page.Seen p0) (D.Page.Seen p0) (some true))))
     (sameC (D.Page.Starts p0) (D.Page.Starts p0) (sameC (D.Page.Declined p0) (D.Page.Declined p0) (sameC (D.Page.Seen p0) (D.Page.Seen p0) (some false)))))
    (sameC (D.Page.Starts p0) (D.Page.Starts p0) (sameC (D.Page.Declined p0) (D.Page.Declined p0) (sameC (D.Page.Seen p0) (D.Page.Seen p0) (some false))))))
def escalate_waits_0c11c12c13_g (fu : Nat) : Sig := mkSig [.agg [.num .i64, .num .i64, .num .i64, .num .i64, .num .i64, .num .i64, .num .i64, .num .i64, .num .i64, .num .i64, .num .i64, .own 101, .own 102, .own 103], .one (.num .i64)] [(101, .arr .Start), (102, .arr .int), (103, .arr .int)] [.one (.boo)] [] [101, 102, 103] (Bool) (fun q => ((q, ()), ())) (fun x y => escalate_waits_0c11c12c13 fu (D.Page.mk x.1.1 x.1.2.1 x.1.2.2.1 x.1.2.2.2.1 x.1.2.2.2.2.1 x.1.2.2.2.2.2.1 x.1.2.2.2.2.2.2.1 x.1.2.2.2.2.2.2.2.1 x.1.2.2.2.2.2.2.2.2.1 x.1.2.2.2.2.2.2.2.2.2.1 x.1.2.2.2.2.2.2.2.2.2.2.1 y.1 y.2.1 y.2.2.1) x.2.1)
theorem escalate_waits_0c11c12c13_ok (fu : Nat) : FnOK Tryz.prog 27 (escalate_waits_0c11c12c13_g fu) :=
  FnOK.intro (ty := ty) (E := envL [(16, 0, escalate_Due_0c11c12c13_g fu)]) (fu := fu) (an := .go) (fun a b => a.1) (fun _ _ => rfl) (envL_ok (l := [(16, 0, escalate_Due_0c11c12c13_g fu)]) ⟨escalate_Due_0c11c12c13_ok fu, trivial⟩) Tryz.func27 rfl rfl (fun x y => by kernel_rfl)
def escalate_refused_0c11c12c13 (fu : Nat) (p0 : D.Page) (p1 : D.Answer) : Option (Int) :=
  (join (Y := ((Bool × Unit) × ((Int × (Int × (Int × (Int × (Int × (Int × (Int × (Int × (Int × (Int × (Int × Unit))))))))))) × (D.Answer × (List D.Start × (List Int × (List Int × Unit))))))) (fun ((a0, _), ((a1, (a2, (a3, (a4, (a5, (a6, (a7, (a8, (a9, (a10, (a11, _))))))))))), (a12, (a13, (a14, (a15, _)))))) =>
    (join (Y := (Unit × (List D.Start × (List Int × (List Int × Unit))))) (fun (_, (a16, (a17, (a18, _)))) =>
      (sameC a16 (D.Page.Starts p0) (sameC a17 (D.Page.Declined p0) (sameC a18 (D.Page.Seen p0) (some 0))))) fun J19 =>
     (cnd (decide ((D.Answer.At a12) < a9))
      (sameC a13 (D.Page.Starts p0) (sameC a14 (D.Page.Declined p0) (sameC a15 (D.Page.Seen p0) (some 6))))
      (optc (escalate_waits_0c11c12c13 fu (D.Page.mk a1 a2 a3 a4 a5 a6 a7 a8 a9 a10 a11 a13 a14 a15) (D.Answer.At a12)) fun a20 =>
       (cnd a20
        (sameC a13 (D.Page.Starts p0) (sameC a14 (D.Page.Declined p0) (sameC a15 (D.Page.Seen p0) (some 6))))
        (join (Y := ((Bool × (Bool × Unit)) × ((Int × (Int × (Int × (Int × (Int × (Int × (Int × (Int × (Int × (Int × (Int × Unit))))))))))) × (List D.Start × (List Int × (List Int × Unit)))))) (fun ((a21, (a22, _)), ((a23, (a24, (a25, (a26, (a27, (a28, (a29, (a30, (a31, (a32, (a33, _))))))))))), (a34, (a35, (a36, _))))) =>
          (cnd a22
           (sameC a34 (D.Page.Starts p0) (sameC a35 (D.Page.Declined p0) (sameC a36 (D.Page.Seen p0) (some 9))))
           (cnd (decide ((((List.length a36) : Nat) : Int) = 64))
            (sameC a34 (D.Page.Starts p0) (sameC a35 (D.Page.Declined p0) (sameC a36 (D.Page.Seen p0) (some 5))))
            (cnd a21
             (sameC a34 (D.Page.Starts p0) (sameC a35 (D.Page.Declined p0) (sameC a36 (D.Page.Seen p0) (some 5))))
             (J19 ((), (a34, (a35, (a36, ()))))))))) fun J37 =>
         (cnd (decide (a6 = 4))
          (J37 ((a0, ((decide (a6 = 4)), ())), ((a1, (a2, (a3, (a4, (a5, (a6, (a7, (a8, (a9, (a10, (a11, ()))))))))))), (a13, (a14, (a15, ()))))))
          (cnd (decide (a6 = 3))
           (cnd (decide ((D.Answer.Kind a12) ≠ 5))
            (J37 ((a0, (true, ())), ((a1, (a2, (a3, (a4, (a5, (a6, (a7, (a8, (a9, (a10, (a11, ()))))))))))), (a13, (a14, (a15, ()))))))
            (cnd (decide (a6 = 1))
             (cnd (decide ((D.Answer.Kind a12) = 2))
              (J37 ((a0, (true, ())), ((a1, (a2, (a3, (a4, (a5, (a6, (a7, (a8, (a9, (a10, (a11, ()))))))))))), (a13, (a14, (a15, ()))))))
              (J37 ((a0, (false, ())), ((a1, (a2, (a3, (a4, (a5, (a6, (a7, (a8, (a9, (a10, (a11, ()))))))))))), (a13, (a14, (a15, ())))))))
             (J37 ((a0, (false, ())), ((a1, (a2, (a3, (a4, (a5, (a6, (a7, (a8, (a9, (a10, (a11, ()))))))))))), (a13, (a14, (a15, ()))))))))
           (cnd (decide (a6 = 1))
            (cnd (decide ((D.Answer.Kind a12) = 2))
             (J37 ((a0, (true, ())), ((a1, (a2, (a3, (a4, (a5, (a6, (a7, (a8, (a9, (a10, (a11, ()))))))))))), (a13, (a14, (a15, ()))))))
             (J37 ((a0, (false, ())), ((a1, (a2, (a3, (a4, (a5, (a6, (a7, (a8, (a9, (a10, (a11, ()))))))))))), (a13, (a14, (a15, ())))))))
            (J37 ((a0, (false, ())), ((a1, (a2, (a3, (a4, (a5, (a6, (a7, (a8, (a9, (a10, (a11, ()))))))))))), (a13, (a14, (a15, ()))))))))))))))) fun J38 =>
   (cnd (decide ((D.Answer.Kind p1) = 3))
    (cnd (decide ((D.Page.Snoozes p0) = 4))
     (J38 ((true, ()), (((D.Page.ID p0), ((D.Page.Policy p0), ((D.Page.Start p0), ((D.Page.Next p0), ((D.Page.Due p0), ((D.Page.State p0), ((D.Page.By p0), ((D.Page.Until p0), ((D.Page.Last p0), ((D.Page.Snoozes p0), ((D.Page.Hands p0), ()))))))))))), (p1, ((D.Page.Starts p0), ((D.Page.Declined p0), ((D.Page.Seen p0), ())))))))
     (cnd (decide ((D.Answer.Kind p1) = 4))
      (cnd (decide ((D.Page.Hands p0) = 4))
       (J38 ((true, ()), (((D.Page.ID p0), ((D.Page.Policy p0), ((D.Page.Start p0), ((D.Page.Next p0), ((D.Page.Due p0), ((D.Page.State p0), ((D.Page.By p0), ((D.Page.Until p0), ((D.Page.Last p0), ((D.Page.Snoozes p0), ((D.Page.Hands p0), ()))))))))))), (p1, ((D.Page.Starts p0), ((D.Page.Declined p0), ((D.Page.Seen p0), ())))))))
       (cnd (decide ((((List.length (D.Page.Starts p0)) : Nat) : Int) = 200))
        (J38 ((true, ()), (((D.Page.ID p0), ((D.Page.Policy p0), ((D.Page.Start p0), ((D.Page.Next p0), ((D.Page.Due p0), ((D.Page.State p0), ((D.Page.By p0), ((D.Page.Until p0), ((D.Page.Last p0), ((D.Page.Snoozes p0), ((D.Page.Hands p0), ()))))))))))), (p1, ((D.Page.Starts p0), ((D.Page.Declined p0), ((D.Page.Seen p0), ())))))))
        (J38 ((false, ()), (((D.Page.ID p0), ((D.Page.Policy p0), ((D.Page.Start p0), ((D.Page.Next p0), ((D.Page.Due p0), ((D.Page.State p0), ((D.Page.By p0), ((D.Page.Until p0), ((D.Page.Last p0), ((D.Page.Snoozes p0), ((D.Page.Hands p0), ()))))))))))), (p1, ((D.Page.Starts p0), ((D.Page.Declined p0), ((D.Page.Seen p0), ())))))))))
      (J38 ((false, ()), (((D.Page.ID p0), ((D.Page.Policy p0), ((D.Page.Start p0), ((D.Page.Next p0), ((D.Page.Due p0), ((D.Page.State p0), ((D.Page.By p0), ((D.Page.Until p0), ((D.Page.Last p0), ((D.Page.Snoozes p0), ((D.Page.Hands p0), ()))))))))))), (p1, ((D.Page.Starts p0), ((D.Page.Declined p0), ((D.Page.Seen p0), ())))))))))
    (cnd (decide ((D.Answer.Kind p1) = 4))
     (cnd (decide ((D.Page.Hands p0) = 4))
      (J38 ((true, ()), (((D.Page.ID p0), ((D.Page.Policy p0), ((D.Page.Start p0), ((D.Page.Next p0), ((D.Page.Due p0), ((D.Page.State p0), ((D.Page.By p0), ((D.Page.Until p0), ((D.Page.Last p0), ((D.Page.Snoozes p0), ((D.Page.Hands p0), ()))))))))))), (p1, ((D.Page.Starts p0), ((D.Page.Declined p0), ((D.Page.Seen p0), ())))))))
      (cnd (decide ((((List.length (D.Page.Starts p0)) : Nat) : Int) = 200))
       (J38 ((true, ()), (((D.Page.ID p0), ((D.Page.Policy p0), ((D.Page.Start p0), ((D.Page.Next p0), ((D.Page.Due p0), ((D.Page.State p0), ((D.Page.By p0), ((D.Page.Until p0), ((D.Page.Last p0), ((D.Page.Snoozes p0), ((D.Page.Hands p0), ()))))))))))), (p1, ((D.Page.Starts p0), ((D.Page.Declined p0), ((D.Page.Seen p0), ())))))))
       (J38 ((false, ()), (((D.Page.ID p0), ((D.Page.Policy p0), ((D.Page.Start p0), ((D.Page.Next p0), ((D.Page.Due p0), ((D.Page.State p0), ((D.Page.By p0), ((D.Page.Until p0), ((D.Page.Last p0), ((D.Page.Snoozes p0), ((D.Page.Hands p0), ()))))))))))), (p1, ((D.Page.Starts p0), ((D.Page.Declined p0), ((D.Page.Seen p0), ())))))))))
     (J38 ((false, ()), (((D.Page.ID p0), ((D.Page.Policy p0), ((D.Page.Start p0), ((D.Page.Next p0), ((D.Page.Due p0), ((D.Page.State p0), ((D.Page.By p0), ((D.Page.Until p0), ((D.Page.Last p0), ((D.Page.Snoozes p0), ((D.Page.Hands p0), ()))))))))))), (p1, ((D.Page.Starts p0), ((D.Page.Declined p0), ((D.Page.Seen p0), ()))))))))))
def escalate_refused_0c11c12c13_g (fu : Nat) : Sig := mkSig [.agg [.num .i64, .num .i64, .num .i64, .num .i64, .num .i64, .num .i64, .num .i64, .num .i64, .num .i64, .num .i64, .num .i64, .own 101, .own 102, .own 103], .st .Answer] [(101, .arr .Start), (102, .arr .int), (103, .arr .int)] [.one (.num .i64)] [] [101, 102, 103] (Int) (fun q => ((q, ()), ())) (fun x y => escalate_refused_0c11c12c13 fu (D.Page.mk x.1.1 x.1.2.1 x.1.2.2.1 x.1.2.2.2.1 x.1.2.2.2.2.1 x.1.2.2.2.2.2.1 x.1.2.2.2.2.2.2.1 x.1.2.2.2.2.2.2.2.1 x.1.2.2.2.2.2.2.2.2.1 x.1.2.2.2.2.2.2.2.2.2.1 x.1.2.2.2.2.2.2.2.2.2.2.1 y.1 y.2.1 y.2.2.1) x.2.1)
theorem escalate_refused_0c11c12c13_ok (fu : Nat) : FnOK Tryz.prog 31 (escalate_refused_0c11c12c13_g fu) :=
  FnOK.intro (ty := ty) (E := envL [(27, 0, escalate_waits_0c11c12c13_g fu)]) (fu := fu) (an := .two (.go) (.two (.join [(2, .one (.ref 1002)), (3, .one (.ref 1003)), (5, .one (.boo))] [(1002, .box [.num .i64, .num .i64, .num .i64, .num .i64, .num .i64, .num .i64, .num .i64, .num .i64, .num .i64, .num .i64, .num .i64, .own 101, .own 102, .own 103]), (1003, .boxst .Answer), (101, .arr .Start), (102, .arr .int), (103, .arr .int)] (.go)) (.two (.join [] [(101, .arr .Start), (102, .arr .int), (103, .arr .int)] (.one (.two (.go) (.two (.go) (.two (.join [(2, .one (.ref 1002)), (5, .one (.boo)), (42, .one (.boo))] [(1002, .box [.num .i64, .num .i64, .num .i64, .num .i64, .num .i64, .num .i64, .num .i64, .num .i64, .num .i64, .num .i64, .num .i64, .own 101, .own 102, .own 103]), (101, .arr .Start), (102, .arr .int), (103, .arr .int)] (.go)) (.go)))))) (.go)))) (fun a b => a.1) (fun _ _ => rfl) (envL_ok (l := [(27, 0, escalate_waits_0c11c12c13_g fu)]) ⟨escalate_waits_0c11c12c13_ok fu, trivial⟩) Tryz.func31 rfl rfl (fun x y => by kernel_rfl)
def escalate_Called_0c11c12c13 (fu : Nat) (p0 : D.Page) : Option (List Int) :=
  (cnd (decide ((((List.length (D.Page.Starts p0)) : Nat) : Int) = 0))
   (sameC (D.Page.Starts p0) (D.Page.Starts p0) (sameC (D.Page.Declined p0) (D.Page.Declined p0) (sameC (D.Page.Seen p0) (D.Page.Seen p0) (some []))))
   (natc (IntKind.wrap .i64 ((((List.length (D.Page.Starts p0)) : Nat) : Int) - 1)) fun a0 =>
    (ltc a0 (List.length (D.Page.Starts p0)) (optc (GetElem?.getElem? (D.Page.Starts p0) a0) fun a1 =>
     (optc (slices_Clone_int fu (D.Start.People a1)) fun a2 =>
      (sameC (D.Page.Starts p0) (D.Page.Starts p0) (sameC (D.Page.Declined p0) (D.Page.Declined p0) (sameC (D.Page.Seen p0) (D.Page.Seen p0) (some a2)))))))))
def escalate_Called_0c11c12c13_g (fu : Nat) : Sig := mkSig [.agg [.num .i64, .num .i64, .num .i64, .num .i64, .num .i64, .num .i64, .num .i64, .num .i64, .num .i64, .num .i64, .num .i64, .own 101, .own 102, .own 103]] [(101, .arr .Start), (102, .arr .int), (103, .arr .int)] [.one (.lst .int)] [] [101, 102, 103] (List Int) (fun q => ((q, ()), ())) (fun x y => escalate_Called_0c11c12c13 fu (D.Page.mk x.1.1 x.1.2.1 x.1.2.2.1 x.1.2.2.2.1 x.1.2.2.2.2.1 x.1.2.2.2.2.2.1 x.1.2.2.2.2.2.2.1 x.1.2.2.2.2.2.2.2.1 x.1.2.2.2.2.2.2.2.2.1 x.1.2.2.2.2.2.2.2.2.2.1 x.1.2.2.2.2.2.2.2.2.2.2.1 y.1 y.2.1 y.2.2.1))
theorem escalate_Called_0c11c12c13_ok (fu : Nat) : FnOK Tryz.prog 18 (escalate_Called_0c11c12c13_g fu) :=
  FnOK.intro (ty := ty) (E := envL [(33, 0, slices_Clone_int_g fu)]) (fu := fu) (an := .go) (fun a b => a.1) (fun _ _ => rfl) (envL_ok (l := [(33, 0, slices_Clone_int_g fu)]) ⟨slices_Clone_int_ok fu, trivial⟩) Tryz.func18 rfl rfl (fun x y => by kernel_rfl)
def slices_insertionSortOrdered_int_0 (fu : Nat) (p0 : List (Int)) (p1 : Int) (p2 : Int) : Option (List (Int)) :=
  (iterF (X := ((Int × (Int × (Int × Unit))) × (List Int × Unit))) (fun L0 ((a1, (a2, (a3, _))), (a4, _)) =>
   (cnd (decide (a3 < a2))
    (join (Y := ((Int × (Int × (Int × Unit))) × (List Int × Unit))) (fun ((a5, (a6, (a7, _))), (a8, _)) =>
      (L0 ((a5, (a6, ((IntKind.wrap .i64 (a7 + 1)), ()))), (a8, ())))) fun J9 =>
     (iterF (X := ((Int × (Int × (Int × (Int × Unit)))) × (List Int × Unit))) (fun L10 ((a11, (a12, (a13, (a14, _)))), (a15, _)) =>
      (join (Y := ((Int × (Int × (Int × (Int × Unit)))) × (List Int × Unit))) (fun ((a16, (a17, (a18, (a19, _)))), (a20, _)) =>
        (natc (IntKind.wrap .i64 (a19 - 1)) fun a21 =>
         (ltc a21 (List.length a20) (optc (GetElem?.getElem? a20 a21) fun a22 =>
          (natc a19 fun a23 =>
           (ltc a23 (List.length a20) (optc (GetElem?.getElem? a20 a23) fun a24 =>
            (natc a19 fun a25 =>
             (ltc a25 (List.length a20) (optc (GetElem?.getElem? a20 a25) fun a26 =>
              (natc (IntKind.wrap .i64 (a19 - 1)) fun a27 =>
               (ltc a27 (List.length (List.set a20 a25 a22)) (optc (GetElem?.getElem? (List.set a20 a25 a22) a27) fun a28 =>
                (L10 ((a16, (a17, (a18, ((IntKind.wrap .i64 (a19 - 1)), ())))), ((List.set (List.set a20 a25 a22) a27 a24), ())))))))))))))))) fun J29 =>
       (cnd (decide (a11 < a14))
        (natc a14 fun a30 =>
         (ltc a30 (List.length a15) (optc (GetElem?.getElem? a15 a30) fun a31 =>
          (natc (IntKind.wrap .i64 (a14 - 1)) fun a32 =>
           (ltc a32 (List.length a15) (optc (GetElem?.getElem? a15 a32) fun a33 =>
            (optc (cmp_Less_int fu a31 a33) fun a34 =>
             (cnd a34
              (J29 ((a11, (a12, (a13, (a14, ())))), (a15, ())))
              (J9 ((a11, (a12, (a13, ()))), (a15, ())))))))))))
        (J9 ((a11, (a12, (a13, ()))), (a15, ())))))) fu ((a1, (a2, (a3, (a3, ())))), (a4, ()))))
    (some a4))) fu ((p1, (p2, ((IntKind.wrap .i64 (p1 + 1)), ()))), (p0, ())))
def slices_insertionSortOrdered_int_0_g (fu : Nat) : Sig := mkSig [.one (.own 101), .one (.num .i64), .one (.num .i64)] [(101, .arr .int)] [] [(101, .arrs .int)] [] (List (Int)) (fun q => ((), (q, ()))) (fun x y => slices_insertionSortOrdered_int_0 fu y.1 x.1 x.2.1)
theorem slices_insertionSortOrdered_int_0_ok (fu : Nat) : FnOK Tryz.prog 67 (slices_insertionSortOrdered_int_0_g fu) :=
  FnOK.intro (ty := ty) (E := envL [(73, 0, cmp_Less_int_g fu)]) (fu := fu) (an := .two (.go) (.one (.loop [(0, .one (.own 101)), (1, .one (.num .i64)), (2, .one (.num .i64)), (6, .one (.num .i64))] [(101, .arr .int)] (.two (.go) (.two (.join [(0, .one (.own 101)), (1, .one (.num .i64)), (2, .one (.num .i64)), (6, .one (.num .i64))] [(101, .arr .int)] (.one (.two (.go) (.one (.loop [(0, .one (.own 101)), (1, .one (.num .i64)), (2, .one (.num .i64)), (6, .one (.num .i64)), (7, .one (.num .i64))] [(101, .arr .int)] (.two (.join [(0, .one (.own 101)), (1, .one (.num .i64)), (2, .one (.num .i64)), (6, .one (.num .i64)), (7, .one (.num .i64))] [(101, .arr .int)] (.go)) (.go))))))) (.go)))))) (fun a b => b.1) (fun _ _ => rfl) (envL_ok (l := [(73, 0, cmp_Less_int_g fu)]) ⟨cmp_Less_int_ok fu, trivial⟩) Tryz.func67 rfl rfl (fun x y => by kernel_rfl)
def slices_pdqsortOrdered_int_0 (fu : Nat) (p0 : List (Int)) (p1 : Int) (p2 : Int) (p3 : Int) : Option (List (Int)) :=
  (iterF (X := ((Int × (Int × (Int × (Bool × (Bool × Unit))))) × (List Int × Unit))) (fun L0 ((a1, (a2, (a3, (a4, (a5, _))))), (a6, _)) =>
   (cnd (decide ((IntKind.wrap .i64 (a2 - a1)) ≤ 12))
    (optc (slices_insertionSortOrdered_int_0 fu a6 a1 a2) fun a7 =>
     (chk (List.length a7) (List.length a6) (some a7)))
    (cnd (decide (a3 = 0))
     none
     (cnd (!a4)
      none
      none)))) fu ((p1, (p2, (p3, (true, (true, ()))))), (p0, ())))
def slices_pdqsortOrdered_int_0_g (fu : Nat) : Sig := mkSig [.one (.own 101), .one (.num .i64), .one (.num .i64), .one (.num .i64)] [(101, .arr .int)] [] [(101, .arrs .int)] [] (List (Int)) (fun q => ((), (q, ()))) (fun x y => slices_pdqsortOrdered_int_0 fu y.1 x.1 x.2.1 x.2.2.1)
theorem slices_pdqsortOrdered_int_0_ok (fu : Nat) : FnOK Tryz.prog 56 (slices_pdqsortOrdered_int_0_g fu) :=
  FnOK.intro (ty := ty) (E := envL [(67, 0, slices_insertionSortOrdered_int_0_g fu)]) (fu := fu) (an := .two (.go) (.two (.go) (.one (.loop [(0, .one (.own 101)), (1, .one (.num .i64)), (2, .one (.num .i64)), (3, .one (.num .i64)), (8, .one (.boo)), (9, .one (.boo))] [(101, .arr .int)] (.go))))) (fun a b => b.1) (fun _ _ => rfl) (envL_ok (l := [(67, 0, slices_insertionSortOrdered_int_0_g fu)]) ⟨slices_insertionSortOrdered_int_0_ok fu, trivial⟩) Tryz.func56 rfl rfl (fun x y => by kernel_rfl)
def slices_Sort_int_0 (fu : Nat) (p0 : List (Int)) : Option (List (Int)) :=
  (optc (math_bits_Len fu (IntKind.wrap .u64 (((List.length p0) : Nat) : Int))) fun a0 =>
   (optc (slices_pdqsortOrdered_int_0 fu p0 0 (((List.length p0) : Nat) : Int) a0) fun a1 =>
    (chk (List.length a1) (List.length p0) (some a1))))
def slices_Sort_int_0_g (fu : Nat) : Sig := mkSig [.one (.own 101)] [(101, .arr .int)] [] [(101, .arrs .int)] [] (List (Int)) (fun q => ((), (q, ()))) (fun x y => slices_Sort_int_0 fu y.1)
theorem slices_Sort_int_0_ok (fu : Nat) : FnOK Tryz.prog 46 (slices_Sort_int_0_g fu) :=
  FnOK.intro (ty := ty) (E := envL [(56, 0, slices_pdqsortOrdered_int_0_g fu), (57, 0, math_bits_Len_g fu)]) (fu := fu) (an := .go) (fun a b => b.1) (fun _ _ => rfl) (envL_ok (l := [(56, 0, slices_pdqsortOrdered_int_0_g fu), (57, 0, math_bits_Len_g fu)]) ⟨slices_pdqsortOrdered_int_0_ok fu, math_bits_Len_ok fu, trivial⟩) Tryz.func46 rfl rfl (fun x y => by kernel_rfl)
def escalate_declined_1_b11_12_13 (fu : Nat) (p0 : Int) (p1 : D.Page) : Option (Bool × D.Page) :=
  (optc (slices_Contains_int_0 fu (D.Page.Declined p1) p0) fun a0 =>
   (some ((!a0), p1)))
def escalate_declined_1_b11_12_13_g (fu : Nat) : Sig := mkSig [.one (.num .i64), .one (.ref 101)] [(101, .box [.num .i64, .num .i64, .num .i64, .num .i64, .num .i64, .num .i64, .num .i64, .num .i64, .num .i64, .num .i64, .num .i64, .own 102, .own 103, .own 104]), (102, .arr .Start), (103, .arr .int), (104, .arr .int)] [.one (.boo)] [(101, .box [.num .i64, .num .i64, .num .i64, .num .i64, .num .i64, .num .i64, .num .i64, .num .i64, .num .i64, .num .i64, .num .i64, .own 102, .own 103, .own 104]), (102, .arr .Start), (103, .arr .int), (104, .arr .int)] [] (Bool × D.Page) (fun q => ((q.1, ()), ((q.2.ID, q.2.Policy, q.2.Start, q.2.Next, q.2.Due, q.2.State, q.2.By, q.2.Until, q.2.Last, q.2.Snoozes, q.2.Hands, ()), q.2.Starts, q.2.Declined, q.2.Seen, ()))) (fun x y => escalate_declined_1_b11_12_13 fu x.1 (D.Page.mk y.1.1 y.1.2.1 y.1.2.2.1 y.1.2.2.2.1 y.1.2.2.2.2.1 y.1.2.2.2.2.2.1 y.1.2.2.2.2.2.2.1 y.1.2.2.2.2.2.2.2.1 y.1.2.2.2.2.2.2.2.2.1 y.1.2.2.2.2.2.2.2.2.2.1 y.1.2.2.2.2.2.2.2.2.2.2.1 y.2.1 y.2.2.1 y.2.2.2.1))
theorem escalate_declined_1_b11_12_13_ok (fu : Nat) : FnOK Tryz.prog 48 (escalate_declined_1_b11_12_13_g fu) :=
  FnOK.intro (ty := ty) (E := envL [(30, 0, slices_Contains_int_0_g fu)]) (fu := fu) (an := .go) (fun a b => (a.1, (D.Page.mk b.1.1 b.1.2.1 b.1.2.2.1 b.1.2.2.2.1 b.1.2.2.2.2.1 b.1.2.2.2.2.2.1 b.1.2.2.2.2.2.2.1 b.1.2.2.2.2.2.2.2.1 b.1.2.2.2.2.2.2.2.2.1 b.1.2.2.2.2.2.2.2.2.2.1 b.1.2.2.2.2.2.2.2.2.2.2.1 b.2.1 b.2.2.1 b.2.2.2.1))) (fun _ _ => rfl) (envL_ok (l := [(30, 0, slices_Contains_int_0_g fu)]) ⟨slices_Contains_int_0_ok fu, trivial⟩) Tryz.func48 rfl rfl (fun x y => by kernel_rfl)
def slices_IndexFunc_int_1f48b11_12_13 (fu : Nat) (p0 : List Int) (c101 : D.Page) : Option (Int × D.Page) :=
  (iterF (X := ((List Int × (Int × (Int × Unit))) × ((Int × (Int × (Int × (Int × (Int × (Int × (Int × (Int × (Int × (Int × (Int × Unit))))))))))) × (List D.Start × (List Int × (List Int × Unit)))))) (fun L0 ((a1, (a2, (a3, _))), ((a4, (a5, (a6, (a7, (a8, (a9, (a10, (a11, (a12, (a13, (a14, _))))))))))), (a15, (a16, (a17, _))))) =>
   (cnd (decide (a3 < a2))
    (atc a1 a3 fun a18 =>
     (optc (escalate_declined_1_b11_12_13 fu a18 (D.Page.mk a4 a5 a6 a7 a8 a9 a10 a11 a12 a13 a14 a15 a16 a17)) fun (a19, a20) =>
      (cnd a19
       (some (a3, a20))
       (L0 ((a1, (a2, ((IntKind.wrap .i64 (a3 + 1)), ()))), (((D.Page.ID a20), ((D.Page.Policy a20), ((D.Page.Start a20), ((D.Page.Next a20), ((D.Page.Due a20), ((D.Page.State a20), ((D.Page.By a20), ((D.Page.Until a20), ((D.Page.Last a20), ((D.Page.Snoozes a20), ((D.Page.Hands a20), ()))))))))))), ((D.Page.Starts a20), ((D.Page.Declined a20), ((D.Page.Seen a20), ())))))))))
    (some ((-1), (D.Page.mk a4 a5 a6 a7 a8 a9 a10 a11 a12 a13 a14 a15 a16 a17))))) fu ((p0, ((((List.length p0) : Nat) : Int), (0, ()))), (((D.Page.ID c101), ((D.Page.Policy c101), ((D.Page.Start c101), ((D.Page.Next c101), ((D.Page.Due c101), ((D.Page.State c101), ((D.Page.By c101), ((D.Page.Until c101), ((D.Page.Last c101), ((D.Page.Snoozes c101), ((D.Page.Hands c101), ()))))))))))), ((D.Page.Starts c101), ((D.Page.Declined c101), ((D.Page.Seen c101), ()))))))
def slices_IndexFunc_int_1f48b11_12_13_g (fu : Nat) : Sig := mkSig [.one (.lst .int), .one (.clo 48 [101])] [(101, .box [.num .i64, .num .i64, .num .i64, .num .i64, .num .i64, .num .i64, .num .i64, .num .i64, .num .i64, .num .i64, .num .i64, .own 102, .own 103, .own 104]), (102, .arr .Start), (103, .arr .int), (104, .arr .int)] [.one (.num .i64)] [(101, .box [.num .i64, .num .i64, .num .i64, .num .i64, .num .i64, .num .i64, .num .i64, .num .i64, .num .i64, .num .i64, .num .i64, .own 102, .own 103, .own 104]), (102, .arr .Start), (103, .arr .int), (104, .arr .int)] [] (Int × D.Page) (fun q => ((q.1, ()), ((q.2.ID, q.2.Policy, q.2.Start, q.2.Next, q.2.Due, q.2.State, q.2.By, q.2.Until, q.2.Last, q.2.Snoozes, q.2.Hands, ()), q.2.Starts, q.2.Declined, q.2.Seen, ()))) (fun x y => slices_IndexFunc_int_1f48b11_12_13 fu x.1 (D.Page.mk y.1.1 y.1.2.1 y.1.2.2.1 y.1.2.2.2.1 y.1.2.2.2.2.1 y.1.2.2.2.2.2.1 y.1.2.2.2.2.2.2.1 y.1.2.2.2.2.2.2.2.1 y.1.2.2.2.2.2.2.2.2.1 y.1.2.2.2.2.2.2.2.2.2.1 y.1.2.2.2.2.2.2.2.2.2.2.1 y.2.1 y.2.2.1 y.2.2.2.1))
theorem slices_IndexFunc_int_1f48b11_12_13_ok (fu : Nat) : FnOK Tryz.prog 58 (slices_IndexFunc_int_1f48b11_12_13_g fu) :=
  FnOK.intro (ty := ty) (E := envL [(48, 0, escalate_declined_1_b11_12_13_g fu)]) (fu := fu) (an := .two (.go) (.two (.two (.go) (.one (.loop [(0, .one (.lst .int)), (1, .one (.clo 48 [101])), (7, .one (.num .i64)), (8, .one (.num .i64))] [(101, .box [.num .i64, .num .i64, .num .i64, .num .i64, .num .i64, .num .i64, .num .i64, .num .i64, .num .i64, .num .i64, .num .i64, .own 102, .own 103, .own 104]), (102, .arr .Start), (103, .arr .int), (104, .arr .int)] (.go)))) (.go))) (fun a b => (a.1, (D.Page.mk b.1.1 b.1.2.1 b.1.2.2.1 b.1.2.2.2.1 b.1.2.2.2.2.1 b.1.2.2.2.2.2.1 b.1.2.2.2.2.2.2.1 b.1.2.2.2.2.2.2.2.1 b.1.2.2.2.2.2.2.2.2.1 b.1.2.2.2.2.2.2.2.2.2.1 b.1.2.2.2.2.2.2.2.2.2.2.1 b.2.1 b.2.2.1 b.2.2.2.1))) (fun _ _ => rfl) (envL_ok (l := [(48, 0, escalate_declined_1_b11_12_13_g fu)]) ⟨escalate_declined_1_b11_12_13_ok fu, trivial⟩) Tryz.func58 rfl rfl (fun x y => by kernel_rfl)
def slices_ContainsFunc_int_1f48b11_12_13 (fu : Nat) (p0 : List Int) (c101 : D.Page) : Option (Bool × D.Page) :=
  (optc (slices_IndexFunc_int_1f48b11_12_13 fu p0 c101) fun (a0, a1) =>
   (some ((decide (0 ≤ a0)), a1)))
def slices_ContainsFunc_int_1f48b11_12_13_g (fu : Nat) : Sig := mkSig [.one (.lst .int), .one (.clo 48 [101])] [(101, .box [.num .i64, .num .i64, .num .i64, .num .i64, .num .i64, .num .i64, .num .i64, .num .i64, .num .i64, .num .i64, .num .i64, .own 102, .own 103, .own 104]), (102, .arr .Start), (103, .arr .int), (104, .arr .int)] [.one (.boo)] [(101, .box [.num .i64, .num .i64, .num .i64, .num .i64, .num .i64, .num .i64, .num .i64, .num .i64, .num .i64, .num .i64, .num .i64, .own 102, .own 103, .own 104]), (102, .arr .Start), (103, .arr .int), (104, .arr .int)] [] (Bool × D.Page) (fun q => ((q.1, ()), ((q.2.ID, q.2.Policy, q.2.Start, q.2.Next, q.2.Due, q.2.State, q.2.By, q.2.Until, q.2.Last, q.2.Snoozes, q.2.Hands, ()), q.2.Starts, q.2.Declined, q.2.Seen, ()))) (fun x y => slices_ContainsFunc_int_1f48b11_12_13 fu x.1 (D.Page.mk y.1.1 y.1.2.1 y.1.2.2.1 y.1.2.2.2.1 y.1.2.2.2.2.1 y.1.2.2.2.2.2.1 y.1.2.2.2.2.2.2.1 y.1.2.2.2.2.2.2.2.1 y.1.2.2.2.2.2.2.2.2.1 y.1.2.2.2.2.2.2.2.2.2.1 y.1.2.2.2.2.2.2.2.2.2.2.1 y.2.1 y.2.2.1 y.2.2.2.1))
theorem slices_ContainsFunc_int_1f48b11_12_13_ok (fu : Nat) : FnOK Tryz.prog 47 (slices_ContainsFunc_int_1f48b11_12_13_g fu) :=
  FnOK.intro (ty := ty) (E := envL [(58, 0, slices_IndexFunc_int_1f48b11_12_13_g fu)]) (fu := fu) (an := .go) (fun a b => (a.1, (D.Page.mk b.1.1 b.1.2.1 b.1.2.2.1 b.1.2.2.2.1 b.1.2.2.2.2.1 b.1.2.2.2.2.2.1 b.1.2.2.2.2.2.2.1 b.1.2.2.2.2.2.2.2.1 b.1.2.2.2.2.2.2.2.2.1 b.1.2.2.2.2.2.2.2.2.2.1 b.1.2.2.2.2.2.2.2.2.2.2.1 b.2.1 b.2.2.1 b.2.2.2.1))) (fun _ _ => rfl) (envL_ok (l := [(58, 0, slices_IndexFunc_int_1f48b11_12_13_g fu)]) ⟨slices_IndexFunc_int_1f48b11_12_13_ok fu, trivial⟩) Tryz.func47 rfl rfl (fun x y => by kernel_rfl)
def escalate_declined_0c11c12c13 (fu : Nat) (p0 : D.Page) (p1 : D.Answer) : Option (D.Page) :=
  (optc (escalate_Called_0c11c12c13 fu p0) fun a0 =>
   (join (Y := ((List Int × Unit) × ((Int × (Int × (Int × (Int × (Int × (Int × (Int × (Int × (Int × (Int × (Int × Unit))))))))))) × (D.Answer × (D.Page × (List D.Start × (List Int × (List Int × Unit)))))))) (fun ((a1, _), ((a2, (a3, (a4, (a5, (a6, (a7, (a8, (a9, (a10, (a11, (a12, _))))))))))), (a13, (a14, (a15, (a16, (a17, _))))))) =>
     (join (Y := (Unit × ((Int × (Int × (Int × (Int × (Int × (Int × (Int × (Int × (Int × (Int × (Int × Unit))))))))))) × (D.Page × (List D.Start × (List Int × (List Int × Unit))))))) (fun (_, ((a18, (a19, (a20, (a21, (a22, (a23, (a24, (a25, (a26, (a27, (a28, _))))))))))), (a29, (a30, (a31, (a32, _)))))) =>
       (some (D.Page.mk a18 a19 a20 a21 a22 a23 a24 a25 a26 a27 a28 a30 a31 a32))) fun J33 =>
      (cnd (decide (a7 = 0))
       (cnd (decide (0 < (((List.length a1) : Nat) : Int)))
        (optc (slices_ContainsFunc_int_1f48b11_12_13 fu a1 (D.Page.mk a2 a3 a4 a5 a6 a7 a8 a9 a10 a11 a12 a15 a16 a17)) fun (a34, a35) =>
         (cnd a34
          (J33 ((), (((D.Page.ID a35), ((D.Page.Policy a35), ((D.Page.Start a35), ((D.Page.Next a35), ((D.Page.Due a35), ((D.Page.State a35), ((D.Page.By a35), ((D.Page.Until a35), ((D.Page.Last a35), ((D.Page.Snoozes a35), ((D.Page.Hands a35), ()))))))))))), (a14, ((D.Page.Starts a35), ((D.Page.Declined a35), ((D.Page.Seen a35), ())))))))
          (J33 ((), (((D.Page.ID a35), ((D.Page.Policy a35), ((D.Page.Start a35), ((D.Page.Next a35), ((D.Answer.At a13), ((D.Page.State a35), ((D.Page.By a35), ((D.Page.Until a35), ((D.Page.Last a35), ((D.Page.Snoozes a35), ((D.Page.Hands a35), ()))))))))))), (a14, ((D.Page.Starts a35), ((D.Page.Declined a35), ((D.Page.Seen a35), ())))))))))
        (J33 ((), ((a2, (a3, (a4, (a5, (a6, (a7, (a8, (a9, (a10, (a11, (a12, ()))))))))))), (a14, (a15, (a16, (a17, ()))))))))
       (J33 ((), ((a2, (a3, (a4, (a5, (a6, (a7, (a8, (a9, (a10, (a11, (a12, ()))))))))))), (a14, (a15, (a16, (a17, ())))))))))) fun J36 =>
    (optc (slices_Contains_int fu a0 (D.Answer.Person p1)) fun a37 =>
     (cnd a37
      (optc (slices_Contains_int_0 fu (D.Page.Declined p0) (D.Answer.Person p1)) fun a38 =>
       (cnd a38
        (J36 ((a0, ()), (((D.Page.ID p0), ((D.Page.Policy p0), ((D.Page.Start p0), ((D.Page.Next p0), ((D.Page.Due p0), ((D.Page.State p0), ((D.Page.By p0), ((D.Page.Until p0), ((D.Page.Last p0), ((D.Page.Snoozes p0), ((D.Page.Hands p0), ()))))))))))), (p1, ((D.Page.mk 0 0 0 0 0 0 0 0 0 0 0 [] [] []), ((D.Page.Starts p0), ((D.Page.Declined p0), ((D.Page.Seen p0), ()))))))))
        (lec ((List.length (D.Page.Declined p0)) + (List.length ((D.Answer.Person p1) :: []))) 34359738368 (optc (slices_Sort_int_0 fu ((D.Page.Declined p0) ++ ((D.Answer.Person p1) :: []))) fun a39 =>
         (chk (List.length a39) (List.length ((D.Page.Declined p0) ++ ((D.Answer.Person p1) :: []))) (J36 ((a0, ()), (((D.Page.ID p0), ((D.Page.Policy p0), ((D.Page.Start p0), ((D.Page.Next p0), ((D.Page.Due p0), ((D.Page.State p0), ((D.Page.By p0), ((D.Page.Until p0), ((D.Page.Last p0), ((D.Page.Snoozes p0), ((D.Page.Hands p0), ()))))))))))), (p1, ((D.Page.mk 0 0 0 0 0 0 0 0 0 0 0 [] [] []), ((D.Page.Starts p0), (a39, ((D.Page.Seen p0), ())))))))))))))
      (J36 ((a0, ()), (((D.Page.ID p0), ((D.Page.Policy p0), ((D.Page.Start p0), ((D.Page.Next p0), ((D.Page.Due p0), ((D.Page.State p0), ((D.Page.By p0), ((D.Page.Until p0), ((D.Page.Last p0), ((D.Page.Snoozes p0), ((D.Page.Hands p0), ()))))))))))), (p1, ((D.Page.mk 0 0 0 0 0 0 0 0 0 0 0 [] [] []), ((D.Page.Starts p0), ((D.Page.Declined p0), ((D.Page.Seen p0), ()))))))))))))
def escalate_declined_0c11c12c13_g (fu : Nat) : Sig := mkSig [.agg [.num .i64, .num .i64, .num .i64, .num .i64, .num .i64, .num .i64, .num .i64, .num .i64, .num .i64, .num .i64, .num .i64, .own 101, .own 102, .own 103], .st .Answer] [(101, .arr .Start), (102, .arr .int), (103, .arr .int)] [.agg [.num .i64, .num .i64, .num .i64, .num .i64, .num .i64, .num .i64, .num .i64, .num .i64, .num .i64, .num .i64, .num .i64, .own 101, .own 102, .own 103]] [(101, .arr .Start), (102, .arr .int), (103, .arr .int)] [] (D.Page) (fun q => (((q.ID, q.Policy, q.Start, q.Next, q.Due, q.State, q.By, q.Until, q.Last, q.Snoozes, q.Hands, ()), ()), (q.Starts, q.Declined, q.Seen, ()))) (fun x y => escalate_declined_0c11c12c13 fu (D.Page.mk x.1.1 x.1.2.1 x.1.2.2.1 x.1.2.2.2.1 x.1.2.2.2.2.1 x.1.2.2.2.2.2.1 x.1.2.2.2.2.2.2.1 x.1.2.2.2.2.2.2.2.1 x.1.2.2.2.2.2.2.2.2.1 x.1.2.2.2.2.2.2.2.2.2.1 x.1.2.2.2.2.2.2.2.2.2.2.1 y.1 y.2.1 y.2.2.1) x.2.1)
theorem escalate_declined_0c11c12c13_ok (fu : Nat) : FnOK Tryz.prog 32 (escalate_declined_0c11c12c13_g fu) :=
  FnOK.intro (ty := ty) (E := envL [(18, 0, escalate_Called_0c11c12c13_g fu), (30, 0, slices_Contains_int_0_g fu), (30, 0, slices_Contains_int_g fu), (46, 0, slices_Sort_int_0_g fu), (47, 0, slices_ContainsFunc_int_1f48b11_12_13_g fu)]) (fu := fu) (an := .two (.go) (.two (.go) (.two (.join [(2, .one (.ref 1002)), (3, .one (.ref 1003)), (4, .one (.ref 1004)), (5, .one (.lst .int))] [(1002, .box [.num .i64, .num .i64, .num .i64, .num .i64, .num .i64, .num .i64, .num .i64, .num .i64, .num .i64, .num .i64, .num .i64, .own 101, .own 102, .own 103]), (1003, .boxst .Answer), (1004, .boxst .Page), (101, .arr .Start), (102, .arr .int), (103, .arr .int)] (.go)) (.two (.join [(2, .one (.ref 1002)), (4, .one (.ref 1004))] [(1002, .box [.num .i64, .num .i64, .num .i64, .num .i64, .num .i64, .num .i64, .num .i64, .num .i64, .num .i64, .num .i64, .num .i64, .own 101, .own 102, .own 103]), (1004, .boxst .Page), (101, .arr .Start), (102, .arr .int), (103, .arr .int)] (.go)) (.go))))) (fun a b => (D.Page.mk a.1.1 a.1.2.1 a.1.2.2.1 a.1.2.2.2.1 a.1.2.2.2.2.1 a.1.2.2.2.2.2.1 a.1.2.2.2.2.2.2.1 a.1.2.2.2.2.2.2.2.1 a.1.2.2.2.2.2.2.2.2.1 a.1.2.2.2.2.2.2.2.2.2.1 a.1.2.2.2.2.2.2.2.2.2.2.1 b.1 b.2.1 b.2.2.1)) (fun _ _ => rfl) (envL_ok (l := [(18, 0, escalate_Called_0c11c12c13_g fu), (30, 0, slices_Contains_int_0_g fu), (30, 0, slices_Contains_int_g fu), (46, 0, slices_Sort_int_0_g fu), (47, 0, slices_ContainsFunc_int_1f48b11_12_13_g fu)]) ⟨escalate_Called_0c11c12c13_ok fu, slices_Contains_int_0_ok fu, slices_Contains_int_ok fu, slices_Sort_int_0_ok fu, slices_ContainsFunc_int_1f48b11_12_13_ok fu, trivial⟩) Tryz.func32 rfl rfl (fun x y => by kernel_rfl)
def escalate_Answer (fu : Nat) (p0 : D.Config) (p1 : D.Book) (p2 : D.Page) (p3 : D.Answer) : Option (D.Page × Int) :=
  (join (Y := (Unit × (D.Page × (D.Answer × (D.Page × Unit))))) (fun (_, (a0, (a1, (a2, _)))) =>
    (cnd (decide ((D.Answer.Page a1) ≠ (D.Page.ID a0)))
     (some ((D.Page.mk 0 0 0 0 0 0 0 0 0 0 0 [] [] []), 3))
     (optc (escalate_copied fu a0) fun a3 =>
      (optc (slices_Contains_int_0 fu (D.Page.Seen a3) (D.Answer.ID a1)) fun a4 =>
       (cnd a4
        (some (a3, 0))
        (optc (escalate_refused_0c11c12c13 fu a3 a1) fun a5 =>
         (cnd (decide (a5 ≠ 0))
          (some ((D.Page.mk 0 0 0 0 0 0 0 0 0 0 0 [] [] []), a5))
          (lec ((List.length (D.Page.Seen a3)) + (List.length ((D.Answer.ID a1) :: []))) 34359738368 (join (Y := (Unit × ((Int × (Int × (Int × (Int × (Int × (Int × (Int × (Int × (Int × (Int × (Int × Unit))))))))))) × (D.Answer × (D.Page × (List D.Start × (List Int × (List Int × Unit)))))))) (fun (_, ((a6, (a7, (a8, (a9, (a10, (a11, (a12, (a13, (a14, (a15, (a16, _))))))))))), (a17, (a18, (a19, (a20, (a21, _))))))) =>
            (join (Y := (Unit × ((Int × (Int × (Int × (Int × (Int × (Int × (Int × (Int × (Int × (Int × (Int × Unit))))))))))) × (D.Page × (List D.Start × (List Int × (List Int × Unit))))))) (fun (_, ((a22, (a23, (a24, (a25, (a26, (a27, (a28, (a29, (a30, (a31, (a32, _))))))))))), (a33, (a34, (a35, (a36, _)))))) =>
              (some ((D.Page.mk a22 a23 a24 a25 a26 a27 a28 a29 a30 a31 a32 a34 a35 a36), 0))) fun J37 =>
             (cnd (decide ((D.Answer.Kind a17) = 1))
              (J37 ((), ((a6, (a7, (a8, (a9, (a10, (1, ((D.Answer.Person a17), (a13, ((D.Answer.At a17), (a15, (a16, ()))))))))))), (a18, (a19, (a20, (a21, ())))))))
              (cnd (decide ((D.Answer.Kind a17) = 2))
               (optc (escalate_declined_0c11c12c13 fu (D.Page.mk a6 a7 a8 a9 a10 a11 a12 a13 (D.Answer.At a17) a15 a16 a19 a20 a21) a17) fun a38 =>
                (J37 ((), (((D.Page.ID a38), ((D.Page.Policy a38), ((D.Page.Start a38), ((D.Page.Next a38), ((D.Page.Due a38), ((D.Page.State a38), ((D.Page.By a38), ((D.Page.Until a38), ((D.Page.Last a38), ((D.Page.Snoozes a38), ((D.Page.Hands a38), ()))))))))))), (a18, ((D.Page.Starts a38), ((D.Page.Declined a38), ((D.Page.Seen a38), ()))))))))
               (cnd (decide ((D.Answer.Kind a17) = 3))
                (J37 ((), ((a6, (a7, (a8, (a9, (a10, (2, ((D.Answer.Person a17), ((IntKind.wrap .i64 ((D.Answer.At a17) + (D.Answer.Arg a17))), ((D.Answer.At a17), ((IntKind.wrap .i64 (a15 + 1)), (a16, ()))))))))))), (a18, (a19, (a20, (a21, ())))))))
                (cnd (decide ((D.Answer.Kind a17) = 4))
                 (lec ((List.length a19) + (List.length ((D.Start.mk (-1) (D.Answer.At a17) ((D.Answer.Arg a17) :: [])) :: []))) 34359738368 (J37 ((), ((a6, (a7, (a8, (a9, ((IntKind.wrap .i64 ((D.Answer.At a17) + 600)), (0, (a12, (a13, ((D.Answer.At a17), (a15, ((IntKind.wrap .i64 (a16 + 1)), ()))))))))))), (a18, ((a19 ++ ((D.Start.mk (-1) (D.Answer.At a17) ((D.Answer.Arg a17) :: [])) :: [])), ([], (a21, ()))))))))
                 (cnd (decide ((D.Answer.Kind a17) = 5))
                  (J37 ((), ((a6, (a7, (a8, (a9, (a10, (4, ((D.Answer.Person a17), (a13, ((D.Answer.At a17), (a15, (a16, ()))))))))))), (a18, (a19, (a20, (a21, ())))))))
                  (J37 ((), ((a6, (a7, (a8, (a9, (a10, (a11, (a12, (a13, ((D.Answer.At a17), (a15, (a16, ()))))))))))), (a18, (a19, (a20, (a21, ())))))))))))))) fun J39 =>
           (cnd (decide ((D.Answer.Kind a1) = 1))
            (cnd (decide ((D.Page.State a3) = 1))
             (some ((D.Page.mk (D.Page.ID a3) (D.Page.Policy a3) (D.Page.Start a3) (D.Page.Next a3) (D.Page.Due a3) (D.Page.State a3) (D.Page.By a3) (D.Page.Until a3) (D.Page.Last a3) (D.Page.Snoozes a3) (D.Page.Hands a3) (D.Page.Starts a3) (D.Page.Declined a3) ((D.Page.Seen a3) ++ ((D.Answer.ID a1) :: []))), 0))
             (J39 ((), (((D.Page.ID a3), ((D.Page.Policy a3), ((D.Page.Start a3), ((D.Page.Next a3), ((D.Page.Due a3), ((D.Page.State a3), ((D.Page.By a3), ((D.Page.Until a3), ((D.Page.Last a3), ((D.Page.Snoozes a3), ((D.Page.Hands a3), ()))))))))))), (a1, (a2, ((D.Page.Starts a3), ((D.Page.Declined a3), (((D.Page.Seen a3) ++ ((D.Answer.ID a1) :: [])), ())))))))))
            (J39 ((), (((D.Page.ID a3), ((D.Page.Policy a3), ((D.Page.Start a3), ((D.Page.Next a3), ((D.Page.Due a3), ((D.Page.State a3), ((D.Page.By a3), ((D.Page.Until a3), ((D.Page.Last a3), ((D.Page.Snoozes a3), ((D.Page.Hands a3), ()))))))))))), (a1, (a2, ((D.Page.Starts a3), ((D.Page.Declined a3), (((D.Page.Seen a3) ++ ((D.Answer.ID a1) :: [])), ())))))))))))))))))) fun J40 =>
   (optc (escalate_Check fu p1 p2) fun a41 =>
    (cnd a41
     (optc (answer_Valid fu p3) fun a42 =>
      (cnd a42
       (J40 ((), (p2, (p3, ((D.Page.mk 0 0 0 0 0 0 0 0 0 0 0 [] [] []), ())))))
       (some ((D.Page.mk 0 0 0 0 0 0 0 0 0 0 0 [] [] []), 8))))
     (some ((D.Page.mk 0 0 0 0 0 0 0 0 0 0 0 [] [] []), 8)))))
def escalate_Answer_g (fu : Nat) : Sig := mkSig [.st .Config, .st .Book, .st .Page, .st .Answer] [] [.st .Page, .one (.num .i64)] [] [] (D.Page × Int) (fun q => ((q.1, q.2, ()), ())) (fun x y => escalate_Answer fu x.1 x.2.1 x.2.2.1 x.2.2.2.1)
theorem escalate_Answer_ok (fu : Nat) : FnOK Tryz.prog 15 (escalate_Answer_g fu) :=
  FnOK.intro (ty := ty) (E := envL [(25, 0, escalate_Check_g fu), (26, 0, escalate_copied_g fu), (29, 0, answer_Valid_g fu), (30, 0, slices_Contains_int_0_g fu), (31, 0, escalate_refused_0c11c12c13_g fu), (32, 0, escalate_declined_0c11c12c13_g fu)]) (fu := fu) (an := .two (.go) (.two (.join [(6, .one (.ref 1006)), (7, .one (.ref 1007)), (8, .one (.ref 1008))] [(1006, .boxst .Page), (1007, .boxst .Answer), (1008, .boxst .Page)] (.go)) (.two (.go) (.two (.go) (.two (.go) (.two (.go) (.two (.go) (.two (.join [(6, .one (.ref 1006)), (7, .one (.ref 1007)), (8, .one (.ref 1008))] [(1006, .box [.num .i64, .num .i64, .num .i64, .num .i64, .num .i64, .num .i64, .num .i64, .num .i64, .num .i64, .num .i64, .num .i64, .own 2035007, .own 2058007, .own 2061007]), (1007, .boxst .Answer), (1008, .boxst .Page), (2035007, .arr .Start), (2058007, .arr .int), (2061007, .arr .int)] (.go)) (.two (.go) (.two (.join [(6, .one (.ref 1006)), (8, .one (.ref 1008))] [(1006, .box [.num .i64, .num .i64, .num .i64, .num .i64, .num .i64, .num .i64, .num .i64, .num .i64, .num .i64, .num .i64, .num .i64, .own 2035007, .own 2058007, .own 2061007]), (1008, .boxst .Page), (2035007, .arr .Start), (2058007, .arr .int), (2061007, .arr .int)] (.go)) (.go))))))))))) (fun a b => (a.1, a.2.1)) (fun _ _ => rfl) (envL_ok (l := [(25, 0, escalate_Check_g fu), (26, 0, escalate_copied_g fu), (29, 0, answer_Valid_g fu), (30, 0, slices_Contains_int_0_g fu), (31, 0, escalate_refused_0c11c12c13_g fu), (32, 0, escalate_declined_0c11c12c13_g fu)]) ⟨escalate_Check_ok fu, escalate_copied_ok fu, answer_Valid_ok fu, slices_Contains_int_0_ok fu, escalate_refused_0c11c12c13_ok fu, escalate_declined_0c11c12c13_ok fu, trivial⟩) Tryz.func15 rfl rfl (fun x y => by kernel_rfl)
def r25_Same (fu : Nat) (p0 : List Int) (p1 : List Int) : Option (Bool) :=
  (cnd (decide ((((List.length p0) : Nat) : Int) ≠ (((List.length p1) : Nat) : Int)))
   (some false)
   (iterF (X := ((List Int × (List Int × (Int × Unit))) × Unit)) (fun L0 ((a1, (a2, (a3, _))), _) =>
    (cnd (decide (a3 < (((List.length a1) : Nat) : Int)))
     (atc a1 a3 fun a4 =>
      (atc a2 a3 fun a5 =>
       (cnd (decide (a4 ≠ a5))
        (some false)
        (L0 ((a1, (a2, ((IntKind.wrap .i64 (a3 + 1)), ()))), ())))))
     (some true))) fu ((p0, (p1, (0, ()))), ())))
def r25_Same_g (fu : Nat) : Sig := mkSig [.one (.lst .int), .one (.lst .int)] [] [.one (.boo)] [] [] (Bool) (fun q => ((q, ()), ())) (fun x y => r25_Same fu x.1 x.2.1)
theorem r25_Same_ok (fu : Nat) : FnOK Tryz.prog 17 (r25_Same_g fu) :=
  FnOK.intro (ty := ty) (E := envL []) (fu := fu) (an := .two (.go) (.two (.go) (.two (.two (.go) (.one (.loop [(0, .one (.lst .int)), (1, .one (.lst .int)), (5, .one (.num .i64))] [] (.go)))) (.go)))) (fun a b => a.1) (fun _ _ => rfl) (envL_ok (l := []) trivial) Tryz.func17 rfl rfl (fun x y => by kernel_rfl)
def law29_sane (fu : Nat) : Option (Bool) :=
  (optc (law29_plain fu) fun (a0, a1) =>
   (optc (escalate_New fu a1 1 0 864000) fun (a2, a3) =>
    (optc (escalate_Run fu a0 a1 a2 864000) fun (a4, a5) =>
     (optc (escalate_Answer fu a0 a1 a4 (D.Answer.mk 1 1 0 2 0 864100)) fun (a6, a7) =>
      (optc (escalate_Due fu a6) fun (a8, a9) =>
       (cnd (decide (a3 = 0))
        (cnd (decide (a5 = 0))
         (cnd (decide (a7 = 0))
          (cnd a9
           (cnd (decide (a8 = 864100))
            (optc (escalate_Called fu a4) fun a10 =>
             (optc (r25_Same fu a10 (0 :: [])) fun a11 =>
              (cnd a11
               (some true)
               (some false))))
            (some false))
           (some false))
          (some false))
         (some false))
        (some false)))))))
def law29_sane_g (fu : Nat) : Sig := mkSig [] [] [.one (.boo)] [] [] (Bool) (fun q => ((q, ()), ())) (fun x y => law29_sane fu)
theorem law29_sane_ok (fu : Nat) : FnOK Tryz.prog 5 (law29_sane_g fu) :=
  FnOK.intro (ty := ty) (E := envL [(10, 0, escalate_New_g fu), (13, 0, law29_plain_g fu), (14, 0, escalate_Run_g fu), (15, 0, escalate_Answer_g fu), (16, 0, escalate_Due_g fu), (17, 0, r25_Same_g fu), (18, 0, escalate_Called_g fu)]) (fu := fu) (an := .go) (fun a b => a.1) (fun _ _ => rfl) (envL_ok (l := [(10, 0, escalate_New_g fu), (13, 0, law29_plain_g fu), (14, 0, escalate_Run_g fu), (15, 0, escalate_Answer_g fu), (16, 0, escalate_Due_g fu), (17, 0, r25_Same_g fu), (18, 0, escalate_Called_g fu)]) ⟨escalate_New_ok fu, law29_plain_ok fu, escalate_Run_ok fu, escalate_Answer_ok fu, escalate_Due_ok fu, r25_Same_ok fu, escalate_Called_ok fu, trivial⟩) Tryz.func5 rfl rfl (fun x y => by kernel_rfl)
def made_Dice_Target (fu : Nat) (p0 : D.Dice) (p1 : D.Book) : Option (D.Target × D.Dice) :=
  (optc (made_Dice_Next fu p0 3) fun (a0, a1) =>
   (join (Y := ((Int × Unit) × (D.Dice × (D.Book × (D.Target × Unit))))) (fun ((a2, _), (a3, (a4, (a5, _)))) =>
     (atc (4 :: (2 :: ((((List.length (D.Book.Teams a4)) : Nat) : Int) :: []))) a2 fun a6 =>
      (optc (made_Dice_Next fu a3 a6) fun (a7, a8) =>
       (some ((D.Target.mk a2 a7), a8))))) fun J9 =>
    (cnd (decide (a0 = 2))
     (cnd (decide ((((List.length (D.Book.Teams p1)) : Nat) : Int) = 0))
      (J9 ((0, ()), (a1, (p1, ((D.Target.mk 0 0), ())))))
      (J9 ((a0, ()), (a1, (p1, ((D.Target.mk 0 0), ()))))))
     (J9 ((a0, ()), (a1, (p1, ((D.Target.mk 0 0), ()))))))))
def made_Dice_Target_g (fu : Nat) : Sig := mkSig [.one (.ref 1), .st .Book] [(1, .boxst .Dice)] [.st .Target] [(1, .boxst .Dice)] [] (D.Target × D.Dice) (fun q => ((q.1, ()), (q.2, ()))) (fun x y => made_Dice_Target fu y.1 x.1)
theorem made_Dice_Target_ok (fu : Nat) : FnOK Tryz.prog 19 (made_Dice_Target_g fu) :=
  FnOK.intro (ty := ty) (E := envL [(9, 0, made_Dice_Next_g fu)]) (fu := fu) (an := .two (.go) (.two (.go) (.two (.join [(0, .one (.ref 1)), (3, .one (.ref 1003)), (4, .one (.ref 1004)), (5, .one (.num .i64))] [(1, .boxst .Dice), (1003, .boxst .Book), (1004, .boxst .Target)] (.go)) (.go)))) (fun a b => (a.1, b.1)) (fun _ _ => rfl) (envL_ok (l := [(9, 0, made_Dice_Next_g fu)]) ⟨made_Dice_Next_ok fu, trivial⟩) Tryz.func19 rfl rfl (fun x y => by kernel_rfl)
def made_Dice_Target_1c0 (fu : Nat) (p0 : D.Dice) (p1 : D.Book) : Option (D.Target × D.Dice) :=
  (optc (made_Dice_Next fu p0 3) fun (a0, a1) =>
   (join (Y := ((Int × Unit) × (D.Dice × ((List D.Policy × Unit) × (D.Target × (List D.Team × Unit)))))) (fun ((a2, _), (a3, ((a4, _), (a5, (a6, _))))) =>
     (atc (4 :: (2 :: ((((List.length a6) : Nat) : Int) :: []))) a2 fun a7 =>
      (optc (made_Dice_Next fu a3 a7) fun (a8, a9) =>
       (sameC a6 (D.Book.Teams p1) (some ((D.Target.mk a2 a8), a9)))))) fun J10 =>
    (cnd (decide (a0 = 2))
     (cnd (decide ((((List.length (D.Book.Teams p1)) : Nat) : Int) = 0))
      (J10 ((0, ()), (a1, (((D.Book.Policies p1), ()), ((D.Target.mk 0 0), ((D.Book.Teams p1), ()))))))
      (J10 ((a0, ()), (a1, (((D.Book.Policies p1), ()), ((D.Target.mk 0 0), ((D.Book.Teams p1), ())))))))
     (J10 ((a0, ()), (a1, (((D.Book.Policies p1), ()), ((D.Target.mk 0 0), ((D.Book.Teams p1), ())))))))))
def made_Dice_Target_1c0_g (fu : Nat) : Sig := mkSig [.one (.ref 1), .agg [.own 101, .lst .Policy]] [(1, .boxst .Dice), (101, .arr .Team)] [.st .Target] [(1, .boxst .Dice)] [101] (D.Target × D.Dice) (fun q => ((q.1, ()), (q.2, ()))) (fun x y => made_Dice_Target_1c0 fu y.1 (D.Book.mk y.2.1 x.1.1))
theorem made_Dice_Target_1c0_ok (fu : Nat) : FnOK Tryz.prog 19 (made_Dice_Target_1c0_g fu) :=
  FnOK.intro (ty := ty) (E := envL [(9, 0, made_Dice_Next_g fu)]) (fu := fu) (an := .two (.go) (.two (.go) (.two (.join [(0, .one (.ref 1)), (3, .one (.ref 1003)), (4, .one (.ref 1004)), (5, .one (.num .i64))] [(1, .boxst .Dice), (1003, .box [.own 101, .lst .Policy]), (1004, .boxst .Target), (101, .arr .Team)] (.go)) (.go)))) (fun a b => (a.1, b.1)) (fun _ _ => rfl) (envL_ok (l := [(9, 0, made_Dice_Next_g fu)]) ⟨made_Dice_Next_ok fu, trivial⟩) Tryz.func19 rfl rfl (fun x y => by kernel_rfl)
def made_Dice_Target_1c0c1 (fu : Nat) (p0 : D.Dice) (p1 : D.Book) : Option (D.Target × D.Dice) :=
  (optc (made_Dice_Next fu p0 3) fun (a0, a1) =>
   (join (Y := ((Int × Unit) × (D.Dice × (Unit × (D.Target × (List D.Team × (List D.Policy × Unit))))))) (fun ((a2, _), (a3, (_, (a4, (a5, (a6, _)))))) =>
     (atc (4 :: (2 :: ((((List.length a5) : Nat) : Int) :: []))) a2 fun a7 =>
      (optc (made_Dice_Next fu a3 a7) fun (a8, a9) =>
       (sameC a5 (D.Book.Teams p1) (sameC a6 (D.Book.Policies p1) (some ((D.Target.mk a2 a8), a9))))))) fun J10 =>
    (cnd (decide (a0 = 2))
     (cnd (decide ((((List.length (D.Book.Teams p1)) : Nat) : Int) = 0))
      (J10 ((0, ()), (a1, ((), ((D.Target.mk 0 0), ((D.Book.Teams p1), ((D.Book.Policies p1), ())))))))
      (J10 ((a0, ()), (a1, ((), ((D.Target.mk 0 0), ((D.Book.Teams p1), ((D.Book.Policies p1), ()))))))))
     (J10 ((a0, ()), (a1, ((), ((D.Target.mk 0 0), ((D.Book.Teams p1), ((D.Book.Policies p1), ()))))))))))
def made_Dice_Target_1c0c1_g (fu : Nat) : Sig := mkSig [.one (.ref 1), .agg [.own 101, .own 102]] [(1, .boxst .Dice), (101, .arr .Team), (102, .arr .Policy)] [.st .Target] [(1, .boxst .Dice)] [101, 102] (D.Target × D.Dice) (fun q => ((q.1, ()), (q.2, ()))) (fun x y => made_Dice_Target_1c0c1 fu y.1 (D.Book.mk y.2.1 y.2.2.1))
theorem made_Dice_Target_1c0c1_ok (fu : Nat) : FnOK Tryz.prog 19 (made_Dice_Target_1c0c1_g fu) :=
  FnOK.intro (ty := ty) (E := envL [(9, 0, made_Dice_Next_g fu)]) (fu := fu) (an := .two (.go) (.two (.go) (.two (.join [(0, .one (.ref 1)), (3, .one (.ref 1003)), (4, .one (.ref 1004)), (5, .one (.num .i64))] [(1, .boxst .Dice), (1003, .box [.own 101, .own 102]), (1004, .boxst .Target), (101, .arr .Team), (102, .arr .Policy)] (.go)) (.go)))) (fun a b => (a.1, b.1)) (fun _ _ => rfl) (envL_ok (l := [(9, 0, made_Dice_Next_g fu)]) ⟨made_Dice_Next_ok fu, trivial⟩) Tryz.func19 rfl rfl (fun x y => by kernel_rfl)
def made_Dice_Book (fu : Nat) (p0 : D.Dice) : Option (D.Book × D.Dice) :=
  (optc (made_Dice_Next fu p0 3) fun (a0, a1) =>
   (iterF (X := ((Int × Unit) × (D.Dice × (Unit × (Unit × (List D.Team × Unit)))))) (fun L2 ((a3, _), (a4, (_, (_, (a5, _))))) =>
    (cnd (decide (0 < a3))
     (atc ((ByteArray.mk (List.toArray (99 :: (111 :: (114 :: (101 :: [])))))) :: ((ByteArray.mk (List.toArray (119 :: (101 :: (98 :: []))))) :: [])) (((List.length a5) : Nat) : Int) fun a6 =>
      (optc (made_Dice_Next fu a4 2) fun (a7, a8) =>
       (join (Y := ((Int × Unit) × (D.Dice × (Unit × (Unit × (D.Team × (List D.Team × Unit))))))) (fun ((a9, _), (a10, (_, (_, (a11, (a12, _)))))) =>
         (lec ((List.length a12) + (List.length (a11 :: []))) 34359738368 (L2 (((IntKind.wrap .i64 (a9 - 1)), ()), (a10, ((), ((), ((a12 ++ (a11 :: [])), ())))))))) fun J13 =>
        (optc (made_Dice_Next fu a8 2) fun (a14, a15) =>
         (cnd (decide (a14 = 0))
          (optc (made_Dice_Next fu a15 2) fun (a16, a17) =>
           (lec ((List.length (a7 :: [])) + (List.length ((IntKind.wrap .i64 (2 + a16)) :: []))) 34359738368 (J13 ((a3, ()), (a17, ((), ((), ((D.Team.mk a6 ((a7 :: []) ++ ((IntKind.wrap .i64 (2 + a16)) :: []))), (a5, ())))))))))
          (J13 ((a3, ()), (a15, ((), ((), ((D.Team.mk a6 (a7 :: [])), (a5, ()))))))))))))
     (optc (made_Dice_Next fu a4 3) fun (a18, a19) =>
      (iterF (X := ((Int × Unit) × (D.Dice × (Unit × (Unit × (List D.Team × (List D.Policy × Unit))))))) (fun L20 ((a21, _), (a22, (_, (_, (a23, (a24, _)))))) =>
       (cnd (decide (0 < a21))
        (atc ((ByteArray.mk (List.toArray (112 :: []))) :: ((ByteArray.mk (List.toArray (113 :: []))) :: ((ByteArray.mk (List.toArray (114 :: []))) :: []))) (((List.length a24) : Nat) : Int) fun a25 =>
         (optc (made_Dice_One fu a22 (0 :: (0 :: (1 :: (2 :: []))))) fun (a26, a27) =>
          (optc (made_Dice_Next fu a27 3) fun (a28, a29) =>
           (iterF (X := ((Int × (Int × Unit)) × (D.Dice × (Unit × (Unit × ((ByteArray × (Int × Unit)) × (List D.Team × (List D.Policy × (List D.PolicyStep × Unit))))))))) (fun L30 ((a31, (a32, _)), (a33, (_, (_, ((a34, (a35, _)), (a36, (a37, (a38, _)))))))) =>
            (cnd (decide (0 < a32))
             (optc (made_Dice_One fu a33 (0 :: (60 :: (300 :: (600 :: (900 :: [])))))) fun (a39, a40) =>
              (optc (made_Dice_Next fu a40 2) fun (a41, a42) =>
               (optc (made_Dice_Next fu a42 3) fun (a43, a44) =>
                (iterF (X := ((Int × (Int × (Int × Unit))) × (D.Dice × (Unit × (Unit × ((ByteArray × (Int × Unit)) × ((Int × (Bool × Unit)) × (List D.Team × (List D.Policy × (List D.PolicyStep × (List D.Target × Unit))))))))))) (fun L45 ((a46, (a47, (a48, _))), (a49, (_, (_, ((a50, (a51, _)), ((a52, (a53, _)), (a54, (a55, (a56, (a57, _)))))))))) =>
                 (cnd (decide (0 < a48))
                  (optc (made_Dice_Target_1c0c1 fu a49 (D.Book.mk a54 a55)) fun (a58, a59) =>
                   (lec ((List.length a57) + (List.length (a58 :: []))) 34359738368 (L45 ((a46, (a47, ((IntKind.wrap .i64 (a48 - 1)), ()))), (a59, ((), ((), ((a50, (a51, ())), ((a52, (a53, ())), (a54, (a55, (a56, ((a57 ++ (a58 :: [])), ())))))))))))))
                  (lec ((List.length a56) + (List.length ((D.PolicyStep.mk a52 a53 a57) :: []))) 34359738368 (L30 ((a46, ((IntKind.wrap .i64 (a47 - 1)), ())), (a49, ((), ((), ((a50, (a51, ())), (a54, (a55, ((a56 ++ ((D.PolicyStep.mk a52 a53 a57) :: [])), ())))))))))))) fu ((a31, (a32, (a43, ()))), (a44, ((), ((), ((a34, (a35, ())), ((a39, ((decide (a41 = 0)), ())), (a36, (a37, (a38, ([], ()))))))))))))))
             (lec ((List.length a37) + (List.length ((D.Policy.mk a34 a38 a35) :: []))) 34359738368 (L20 (((IntKind.wrap .i64 (a31 - 1)), ()), (a33, ((), ((), (a36, ((a37 ++ ((D.Policy.mk a34 a38 a35) :: [])), ())))))))))) fu ((a21, ((IntKind.wrap .i64 (1 + a28)), ())), (a29, ((), ((), ((a25, (a26, ())), (a23, (a24, ([], ()))))))))))))
        (some ((D.Book.mk a23 a24), a22)))) fu (((IntKind.wrap .i64 (1 + a18)), ()), (a19, ((), ((), (a5, ([], ())))))))))) fu ((a0, ()), (a1, ((), ((), ([], ())))))))
def made_Dice_Book_g (fu : Nat) : Sig := mkSig [.one (.ref 1)] [(1, .boxst .Dice)] [.st .Book] [(1, .boxst .Dice)] [] (D.Book × D.Dice) (fun q => ((q.1, ()), (q.2, ()))) (fun x y => made_Dice_Book fu y.1)
theorem made_Dice_Book_ok (fu : Nat) : FnOK Tryz.prog 7 (made_Dice_Book_g fu) :=
  FnOK.intro (ty := ty) (E := envL [(8, 0, made_Dice_One_g fu), (9, 0, made_Dice_Next_g fu), (19, 0, made_Dice_Target_1c0c1_g fu), (19, 0, made_Dice_Target_1c0_g fu)]) (fu := fu) (an := .two (.go) (.two (.go) (.two (.two (.go) (.one (.loop [(0, .one (.ref 1)), (2, .one (.ref 1002)), (3, .one (.ref 1003)), (4, .one (.num .i64))] [(1, .boxst .Dice), (1002, .box [.nul, .nul]), (1003, .box [.own 1042, .nul]), (1042, .arr .Team)] (.two (.go) (.two (.one (.two (.go) (.two (.join [(0, .one (.ref 1)), (2, .one (.ref 1002)), (3, .one (.ref 1003)), (4, .one (.num .i64)), (5, .one (.ref 1005))] [(1, .boxst .Dice), (1002, .box [.nul, .nul]), (1003, .box [.own 1042, .nul]), (1005, .boxst .Team), (1042, .arr .Team)] (.go)) (.go)))) (.go)))))) (.two (.two (.go) (.one (.loop [(0, .one (.ref 1)), (2, .one (.ref 1002)), (3, .one (.ref 1003)), (6, .one (.num .i64))] [(1, .boxst .Dice), (1002, .box [.nul, .nul]), (1003, .box [.own 1042, .own 1099]), (1042, .arr .Team), (1099, .arr .Policy)] (.two (.go) (.two (.one (.two (.go) (.two (.two (.go) (.one (.loop [(0, .one (.ref 1)), (2, .one (.ref 1002)), (3, .one (.ref 1003)), (6, .one (.num .i64)), (7, .one (.ref 1007)), (8, .one (.num .i64))] [(1, .boxst .Dice), (1002, .box [.nul, .nul]), (1003, .box [.own 1042, .own 1099]), (1007, .box [.str, .own 1093, .num .i64]), (1042, .arr .Team), (1099, .arr .Policy), (1093, .arr .PolicyStep)] (.two (.go) (.two (.one (.two (.go) (.two (.two (.go) (.one (.loop [(0, .one (.ref 1)), (2, .one (.ref 1002)), (3, .one (.ref 1003)), (6, .one (.num .i64)), (7, .one (.ref 1007)), (8, .one (.num .i64)), (9, .one (.ref 1009)), (10, .one (.num .i64))] [(1, .boxst .Dice), (1002, .box [.nul, .nul]), (1003, .box [.own 1042, .own 1099]), (1007, .box [.str, .own 1093, .num .i64]), (1009, .box [.num .i64, .boo, .own 1087]), (1042, .arr .Team), (1099, .arr .Policy), (1093, .arr .PolicyStep), (1087, .arr .Target)] (.go)))) (.go)))) (.go)))))) (.go)))) (.go)))))) (.go))))) (fun a b => (a.1, b.1)) (fun _ _ => rfl) (envL_ok (l := [(8, 0, made_Dice_One_g fu), (9, 0, made_Dice_Next_g fu), (19, 0, made_Dice_Target_1c0c1_g fu), (19, 0, made_Dice_Target_1c0_g fu)]) ⟨made_Dice_One_ok fu, made_Dice_Next_ok fu, made_Dice_Target_1c0c1_ok fu, made_Dice_Target_1c0_ok fu, trivial⟩) Tryz.func7 rfl rfl (fun x y => by kernel_rfl)
def r25_In (fu : Nat) (p0 : Int) (p1 : Int) (p2 : Int) : Option (Bool) :=
  (cnd (decide (p1 ≤ p0))
   (cnd (decide (p0 ≤ p2))
    (some true)
    (some false))
   (some false))
def r25_In_g (fu : Nat) : Sig := mkSig [.one (.num .i64), .one (.num .i64), .one (.num .i64)] [] [.one (.boo)] [] [] (Bool) (fun q => ((q, ()), ())) (fun x y => r25_In fu x.1 x.2.1 x.2.2.1)
theorem r25_In_ok (fu : Nat) : FnOK Tryz.prog 21 (r25_In_g fu) :=
  FnOK.intro (ty := ty) (E := envL []) (fu := fu) (an := .go) (fun a b => a.1) (fun _ _ => rfl) (envL_ok (l := []) trivial) Tryz.func21 rfl rfl (fun x y => by kernel_rfl)
def r29_New (fu : Nat) (p0 : D.Book) (p1 : Int) (p2 : Int) (p3 : Int) : Option (D.Page × Int) :=
  (join (Y := ((Int × (Int × (Int × Unit))) × (D.Book × (D.Page × Unit)))) (fun ((a0, (a1, (a2, _))), (a3, (a4, _))) =>
    (optc (r25_In fu a1 0 (IntKind.wrap .i64 ((((List.length (D.Book.Policies a3)) : Nat) : Int) - 1))) fun a5 =>
     (cnd (!a5)
      (some ((D.Page.mk 0 0 0 0 0 0 0 0 0 0 0 [] [] []), 3))
      (some ((D.Page.mk a0 a1 a2 0 a2 0 (-1) 0 a2 0 0 [] [] []), 0))))) fun J6 =>
   (optc (r25_In fu p1 1 999999) fun a7 =>
    (cnd a7
     (optc (r25_In fu p3 0 8589934592) fun a8 =>
      (cnd a8
       (J6 ((p1, (p2, (p3, ()))), (p0, ((D.Page.mk 0 0 0 0 0 0 0 0 0 0 0 [] [] []), ()))))
       (some ((D.Page.mk 0 0 0 0 0 0 0 0 0 0 0 [] [] []), 1))))
     (some ((D.Page.mk 0 0 0 0 0 0 0 0 0 0 0 [] [] []), 1)))))
def r29_New_g (fu : Nat) : Sig := mkSig [.st .Book, .one (.num .i64), .one (.num .i64), .one (.num .i64)] [] [.st .Page, .one (.num .i64)] [] [] (D.Page × Int) (fun q => ((q.1, q.2, ()), ())) (fun x y => r29_New fu x.1 x.2.1 x.2.2.1 x.2.2.2.1)
theorem r29_New_ok (fu : Nat) : FnOK Tryz.prog 11 (r29_New_g fu) :=
  FnOK.intro (ty := ty) (E := envL [(21, 0, r25_In_g fu)]) (fu := fu) (an := .two (.go) (.two (.join [(1, .one (.num .i64)), (2, .one (.num .i64)), (3, .one (.num .i64)), (4, .one (.ref 1004)), (8, .one (.ref 1008))] [(1004, .boxst .Book), (1008, .boxst .Page)] (.go)) (.go))) (fun a b => (a.1, a.2.1)) (fun _ _ => rfl) (envL_ok (l := [(21, 0, r25_In_g fu)]) ⟨r25_In_ok fu, trivial⟩) Tryz.func11 rfl rfl (fun x y => by kernel_rfl)
def r29_SameStarts (fu : Nat) (p0 : List D.Start) (p1 : List D.Start) : Option (Bool) :=
  (cnd (decide ((((List.length p0) : Nat) : Int) ≠ (((List.length p1) : Nat) : Int)))
   (some false)
   (iterF (X := ((List D.Start × (List D.Start × (Int × Unit))) × Unit)) (fun L0 ((a1, (a2, (a3, _))), _) =>
    (cnd (decide (a3 < (((List.length a1) : Nat) : Int)))
     (join (Y := ((List D.Start × (List D.Start × (Int × Unit))) × Unit)) (fun ((a4, (a5, (a6, _))), _) =>
       (L0 ((a4, (a5, ((IntKind.wrap .i64 (a6 + 1)), ()))), ()))) fun J7 =>
      (atc a1 a3 fun a8 =>
       (atc a2 a3 fun a9 =>
        (cnd (decide ((D.Start.K a8) ≠ (D.Start.K a9)))
         (some false)
         (atc a1 a3 fun a10 =>
          (atc a2 a3 fun a11 =>
           (cnd (decide ((D.Start.At a10) ≠ (D.Start.At a11)))
            (some false)
            (atc a1 a3 fun a12 =>
             (atc a2 a3 fun a13 =>
              (optc (r25_Same fu (D.Start.People a12) (D.Start.People a13)) fun a14 =>
               (cnd a14
                (J7 ((a1, (a2, (a3, ()))), ()))
                (some false))))))))))))
     (some true))) fu ((p0, (p1, (0, ()))), ())))
def r29_SameStarts_g (fu : Nat) : Sig := mkSig [.one (.lst .Start), .one (.lst .Start)] [] [.one (.boo)] [] [] (Bool) (fun q => ((q, ()), ())) (fun x y => r29_SameStarts fu x.1 x.2.1)
theorem r29_SameStarts_ok (fu : Nat) : FnOK Tryz.prog 22 (r29_SameStarts_g fu) :=
  FnOK.intro (ty := ty) (E := envL [(17, 0, r25_Same_g fu)]) (fu := fu) (an := .two (.go) (.two (.go) (.two (.two (.go) (.one (.loop [(0, .one (.lst .Start)), (1, .one (.lst .Start)), (5, .one (.num .i64))] [] (.two (.go) (.two (.join [(0, .one (.lst .Start)), (1, .one (.lst .Start)), (5, .one (.num .i64))] [] (.go)) (.go)))))) (.go)))) (fun a b => a.1) (fun _ _ => rfl) (envL_ok (l := [(17, 0, r25_Same_g fu)]) ⟨r25_Same_ok fu, trivial⟩) Tryz.func22 rfl rfl (fun x y => by kernel_rfl)
def r29_Same (fu : Nat) (p0 : D.Page) (p1 : D.Page) : Option (Bool) :=
  (cnd (decide ((D.Page.ID p0) = (D.Page.ID p1)))
   (cnd (decide ((D.Page.Policy p0) = (D.Page.Policy p1)))
    (cnd (decide ((D.Page.Start p0) = (D.Page.Start p1)))
     (cnd (decide ((D.Page.Next p0) = (D.Page.Next p1)))
      (cnd (decide ((D.Page.Due p0) = (D.Page.Due p1)))
       (cnd (decide ((D.Page.State p0) = (D.Page.State p1)))
        (cnd (decide ((D.Page.By p0) = (D.Page.By p1)))
         (cnd (decide ((D.Page.Until p0) = (D.Page.Until p1)))
          (cnd (decide ((D.Page.Last p0) = (D.Page.Last p1)))
           (cnd (decide ((D.Page.Snoozes p0) = (D.Page.Snoozes p1)))
            (cnd (decide ((D.Page.Hands p0) = (D.Page.Hands p1)))
             (optc (r29_SameStarts fu (D.Page.Starts p0) (D.Page.Starts p1)) fun a0 =>
              (cnd a0
               (optc (r25_Same fu (D.Page.Declined p0) (D.Page.Declined p1)) fun a1 =>
                (cnd a1
                 (optc (r25_Same fu (D.Page.Seen p0) (D.Page.Seen p1)) fun a2 =>
                  (cnd a2
                   (some true)
                   (some false)))
                 (some false)))
               (some false)))
             (some false))
            (some false))
           (some false))
          (some false))
         (some false))
        (some false))
       (some false))
      (some false))
     (some false))
    (some false))
   (some false))
def r29_Same_g (fu : Nat) : Sig := mkSig [.st .Page, .st .Page] [] [.one (.boo)] [] [] (Bool) (fun q => ((q, ()), ())) (fun x y => r29_Same fu x.1 x.2.1)
theorem r29_Same_ok (fu : Nat) : FnOK Tryz.prog 12 (r29_Same_g fu) :=
  FnOK.intro (ty := ty) (E := envL [(17, 0, r25_Same_g fu), (22, 0, r29_SameStarts_g fu)]) (fu := fu) (an := .go) (fun a b => a.1) (fun _ _ => rfl) (envL_ok (l := [(17, 0, r25_Same_g fu), (22, 0, r29_SameStarts_g fu)]) ⟨r25_Same_ok fu, r29_SameStarts_ok fu, trivial⟩) Tryz.func12 rfl rfl (fun x y => by kernel_rfl)
def law29_EscalateNew (fu : Nat) (p0 : List Int) (p1 : Int) (p2 : Int) (p3 : Int) : Option (Bool) :=
  (optc (made_Light fu p0) fun a0 =>
   (cnd (!a0)
    (optc (law29_sane fu) fun a1 =>
     (some a1))
    (optc (made_Roll fu p0) fun a2 =>
     (optc (made_Dice_Book fu a2) fun (a3, a4) =>
      (optc (made_Dice_One fu a4 (0 :: (1 :: (999999 :: (1000000 :: []))))) fun (a5, a6) =>
       (optc (made_Dice_Next fu a6 5) fun (a7, a8) =>
        (optc (made_Dice_One fu a8 ((-1) :: (0 :: (8589934592 :: (8589934593 :: []))))) fun (a9, a10) =>
         (iterF (X := ((List D.Arr3Int × (Int × (Int × Unit))) × (D.Book × Unit))) (fun L11 ((a12, (a13, (a14, _))), (a15, _)) =>
          (cnd (decide (a14 < a13))
           (join (Y := ((List D.Arr3Int × (Int × (Int × Unit))) × (D.Book × Unit))) (fun ((a16, (a17, (a18, _))), (a19, _)) =>
             (L11 ((a16, (a17, ((IntKind.wrap .i64 (a18 + 1)), ()))), (a19, ())))) fun J20 =>
            (atc a12 a14 fun a21 =>
             (optc (escalate_New fu a15 (D.Arr3Int.a0 a21) (D.Arr3Int.a1 a21) (D.Arr3Int.a2 a21)) fun (a22, a23) =>
              (optc (r29_New fu a15 (D.Arr3Int.a0 a21) (D.Arr3Int.a1 a21) (D.Arr3Int.a2 a21)) fun (a24, a25) =>
               (cnd (decide (a23 ≠ a25))
                (some false)
                (optc (r29_Same fu a22 a24) fun a26 =>
                 (cnd a26
                  (J20 ((a12, (a13, (a14, ()))), (a15, ())))
                  (some false))))))))
           (optc (law29_sane fu) fun a27 =>
            (some a27)))) fu ((((D.Arr3Int.mk p1 p2 p3) :: ((D.Arr3Int.mk 1 p2 p3) :: ((D.Arr3Int.mk p1 0 864000) :: ((D.Arr3Int.mk a5 (IntKind.wrap .i64 (a7 - 1)) a9) :: [])))), ((((List.length ((D.Arr3Int.mk p1 p2 p3) :: ((D.Arr3Int.mk 1 p2 p3) :: ((D.Arr3Int.mk p1 0 864000) :: ((D.Arr3Int.mk a5 (IntKind.wrap .i64 (a7 - 1)) a9) :: []))))) : Nat) : Int), (0, ()))), (a3, ()))))))))))
def law29_EscalateNew_g (fu : Nat) : Sig := mkSig [.one (.lst .int), .one (.num .i64), .one (.num .i64), .one (.num .i64)] [] [.one (.boo)] [] [] (Bool) (fun q => ((q, ()), ())) (fun x y => law29_EscalateNew fu x.1 x.2.1 x.2.2.1 x.2.2.2.1)
theorem law29_EscalateNew_ok (fu : Nat) : FnOK Tryz.prog 3 (law29_EscalateNew_g fu) :=
  FnOK.intro (ty := ty) (E := envL [(4, 0, made_Light_g fu), (5, 0, law29_sane_g fu), (6, 0, made_Roll_g fu), (7, 0, made_Dice_Book_g fu), (8, 0, made_Dice_One_g fu), (9, 0, made_Dice_Next_g fu), (10, 0, escalate_New_g fu), (11, 0, r29_New_g fu), (12, 0, r29_Same_g fu)]) (fu := fu) (an := .two (.go) (.two (.go) (.two (.go) (.two (.go) (.two (.two (.go) (.one (.loop [(10, .one (.ref 1010)), (44, .one (.lst .Arr3Int)), (45, .one (.num .i64)), (46, .one (.num .i64))] [(1010, .boxst .Book)] (.two (.go) (.two (.go) (.two (.join [(10, .one (.ref 1010)), (44, .one (.lst .Arr3Int)), (45, .one (.num .i64)), (46, .one (.num .i64))] [(1010, .boxst .Book)] (.go)) (.go))))))) (.go)))))) (fun a b => a.1) (fun _ _ => rfl) (envL_ok (l := [(4, 0, made_Light_g fu), (5, 0, law29_sane_g fu), (6, 0, made_Roll_g fu), (7, 0, made_Dice_Book_g fu), (8, 0, made_Dice_One_g fu), (9, 0, made_Dice_Next_g fu), (10, 0, escalate_New_g fu), (11, 0, r29_New_g fu), (12, 0, r29_Same_g fu)]) ⟨made_Light_ok fu, law29_sane_ok fu, made_Roll_ok fu, made_Dice_Book_ok fu, made_Dice_One_ok fu, made_Dice_Next_ok fu, escalate_New_ok fu, r29_New_ok fu, r29_Same_ok fu, trivial⟩) Tryz.func3 rfl rfl (fun x y => by kernel_rfl)
end
end Go.Proofs.YtbcginibldjnaaaGreat
