/-
  What functions do, reckoned from their code, and their contracts. Printed by wip/gen/brun.py.
-/
import Derived.Test.YtkfmncmhagpajaaGreatDoorQRowScC
import Derived.Lib.Split
import Derived.Lib.AtoiAllCases
import Derived.Lib.ItoaLen
set_option maxRecDepth 100000
set_option linter.unusedVariables false
namespace Go.Proofs.YtkfmncmhagpajaaGreatDoor
open Go AM
noncomputable section
def script_value (fu : Nat) (p0 : ByteArray) : Option (Int × Bool) :=
  (cnd (decide (p0 = (ByteArray.mk (List.toArray (45 :: [])))))
   (some ((-1), true))
   (optc (strconv_Atoi fu p0) fun (a0, a1) =>
    (cnd a1
     (optc (strconv_Itoa fu a0) fun a2 =>
      (cnd (decide (a2 = p0))
       (optc (script_in fu a0 0 9999999999) fun a3 =>
        (cnd a3
         (some (a0, true))
         (some (a0, false))))
       (some (a0, false))))
     (some (a0, false)))))
def script_value_g (fu : Nat) : Sig := mkSig [.one (.str)] [] [.one (.num .i64), .one (.boo)] [] [] (Int × Bool) (fun q => ((q.1, q.2, ()), ())) (fun x y => script_value fu x.1)
theorem script_value_ok (fu : Nat) : FnOK Tryz.prog 67 (script_value_g fu) :=
  FnOK.intro (ty := ty) (E := envL [(24, 0, script_in_g fu), (45, 0, strconv_Itoa_g fu), (75, 0, strconv_Atoi_g fu)]) (fu := fu) (an := .go) (fun a b => (a.1, a.2.1)) (fun _ _ => rfl) (envL_ok (l := [(24, 0, script_in_g fu), (45, 0, strconv_Itoa_g fu), (75, 0, strconv_Atoi_g fu)]) ⟨script_in_ok fu, strconv_Itoa_ok fu, strconv_Atoi_ok fu, trivial⟩) Tryz.func67 rfl rfl (fun x y => by kernel_rfl)
def script_values (fu : Nat) (p0 : ByteArray) (p1 : Int) : Option (List Int × Bool) :=
  (optc (strings_Split fu p0 (ByteArray.mk (List.toArray (32 :: [])))) fun a0 =>
   (iterF (X := ((Int × (List ByteArray × (Int × (Int × Unit)))) × (List Int × Unit))) (fun L1 ((a2, (a3, (a4, (a5, _)))), (a6, _)) =>
    (cnd (decide (a5 < a4))
     (atc a3 a5 fun a7 =>
      (optc (script_value fu a7) fun (a8, a9) =>
       (cnd (!a9)
        (some ([], false))
        (lec ((List.length a6) + (List.length (a8 :: []))) 34359738368 (L1 ((a2, (a3, (a4, ((IntKind.wrap .i64 (a5 + 1)), ())))), ((a6 ++ (a8 :: [])), ())))))))
     (some (a6, (decide ((((List.length a6) : Nat) : Int) = a2)))))) fu ((p1, (a0, ((((List.length a0) : Nat) : Int), (0, ())))), ([], ()))))
def script_values_g (fu : Nat) : Sig := mkSig [.one (.str), .one (.num .i64)] [] [.one (.lst .int), .one (.boo)] [] [] (List Int × Bool) (fun q => ((q.1, q.2, ()), ())) (fun x y => script_values fu x.1 x.2.1)
theorem script_values_ok (fu : Nat) : FnOK Tryz.prog 51 (script_values_g fu) :=
  FnOK.intro (ty := ty) (E := envL [(66, 0, strings_Split_g fu), (67, 0, script_value_g fu)]) (fu := fu) (an := .two (.go) (.two (.go) (.two (.go) (.two (.two (.go) (.one (.loop [(1, .one (.num .i64)), (7, .one (.own 1030)), (14, .one (.lst .str)), (15, .one (.num .i64)), (16, .one (.num .i64))] [(1030, .arr .int)] (.go)))) (.go))))) (fun a b => (a.1, a.2.1)) (fun _ _ => rfl) (envL_ok (l := [(66, 0, strings_Split_g fu), (67, 0, script_value_g fu)]) ⟨strings_Split_ok fu, script_value_ok fu, trivial⟩) Tryz.func51 rfl rfl (fun x y => by kernel_rfl)
def label_Parse (fu : Nat) (p0 : ByteArray) : Option (List D.Label × Int) :=
  (optc (strings_CutPrefix fu p0 (ByteArray.mk (List.toArray (123 :: [])))) fun (a0, a1) =>
   (join (Y := ((ByteArray × (Bool × Unit)) × (List D.Label × Unit))) (fun ((a2, (a3, _)), (a4, _)) =>
     (join (Y := ((List D.Label × Unit) × Unit)) (fun ((a5, _), _) =>
       (some (a5, 0))) fun J6 =>
      (cnd a3
       (optc (label_Text fu a4) fun a7 =>
        (cnd (decide (a7 ≠ a2))
         (some ([], 2))
         (cnd (decide (a2 = (ByteArray.mk (List.toArray []))))
          (some ([], 2))
          (J6 ((a4, ()), ())))))
       (some ([], 2))))) fun J8 =>
    (iterF (X := ((ByteArray × (ByteArray × (Bool × Unit))) × (List D.Label × Unit))) (fun L9 ((a10, (a11, (a12, _))), (a13, _)) =>
     (join (Y := ((ByteArray × (ByteArray × Unit)) × (List D.Label × Unit))) (fun ((a14, (a15, _)), (a16, _)) =>
       (join (Y := ((ByteArray × (ByteArray × (Bool × Unit))) × (D.Label × (List D.Label × Unit)))) (fun ((a17, (a18, (a19, _))), (a20, (a21, _))) =>
         (lec ((List.length a21) + (List.length (a20 :: []))) 34359738368 (L9 ((a17, (a18, (a19, ()))), ((a21 ++ (a20 :: [])), ()))))) fun J22 =>
        (optc (strings_TrimPrefix fu a15 (ByteArray.mk (List.toArray (44 :: [])))) fun a23 =>
         (optc (strings_Cut fu a23 (ByteArray.mk (List.toArray (61 :: [])))) fun (a24, (a25, a26)) =>
          (cnd a26
           (optc (label_unquoted fu a25) fun (a27, (a28, a29)) =>
            (J22 ((a14, (a28, (a29, ()))), ((D.Label.mk a24 a27), (a16, ())))))
           (J22 ((a14, (a25, (a26, ()))), ((D.Label.mk a24 (ByteArray.mk (List.toArray []))), (a16, ()))))))))) fun J30 =>
      (cnd a12
       (cnd (decide (a11 ≠ (ByteArray.mk (List.toArray (125 :: [])))))
        (cnd (decide (a11 ≠ (ByteArray.mk (List.toArray []))))
         (J30 ((a10, (a11, ())), (a13, ())))
         (J8 ((a10, (a12, ())), (a13, ()))))
        (J8 ((a10, (a12, ())), (a13, ()))))
       (J8 ((a10, (a12, ())), (a13, ())))))) fu ((p0, (a0, (a1, ()))), ([], ())))))
def label_Parse_g (fu : Nat) : Sig := mkSig [.one (.str)] [] [.one (.lst .Label), .one (.num .i64)] [] [] (List D.Label × Int) (fun q => ((q.1, q.2, ()), ())) (fun x y => label_Parse fu x.1)
theorem label_Parse_ok (fu : Nat) : FnOK Tryz.prog 69 (label_Parse_g fu) :=
  FnOK.intro (ty := ty) (E := envL [(14, 0, strings_Cut_g fu), (31, 0, label_Text_g fu), (76, 0, strings_CutPrefix_g fu), (77, 0, strings_TrimPrefix_g fu), (78, 0, label_unquoted_g fu)]) (fu := fu) (an := .two (.go) (.two (.go) (.two (.go) (.two (.join [(0, .one (.str)), (5, .one (.boo)), (6, .one (.own 1041))] [(1041, .arr .Label)] (.one (.loop [(0, .one (.str)), (4, .one (.str)), (5, .one (.boo)), (6, .one (.own 1041))] [(1041, .arr .Label)] (.two (.join [(0, .one (.str)), (4, .one (.str)), (6, .one (.own 1041))] [(1041, .arr .Label)] (.go)) (.one (.two (.go) (.two (.join [(0, .one (.str)), (4, .one (.str)), (5, .one (.boo)), (6, .one (.own 1041)), (7, .one (.ref 1007))] [(1007, .boxst .Label), (1041, .arr .Label)] (.go)) (.go)))))))) (.two (.join [(6, .one (.lst .Label))] [] (.go)) (.go)))))) (fun a b => (a.1, a.2.1)) (fun _ _ => rfl) (envL_ok (l := [(14, 0, strings_Cut_g fu), (31, 0, label_Text_g fu), (76, 0, strings_CutPrefix_g fu), (77, 0, strings_TrimPrefix_g fu), (78, 0, label_unquoted_g fu)]) ⟨strings_Cut_ok fu, label_Text_ok fu, strings_CutPrefix_ok fu, strings_TrimPrefix_ok fu, label_unquoted_ok fu, trivial⟩) Tryz.func69 rfl rfl (fun x y => by kernel_rfl)
def script_alert (fu : Nat) (p0 : ByteArray) : Option (D.Act × Bool) :=
  (optc (strings_SplitN fu p0 (ByteArray.mk (List.toArray (32 :: []))) 3) fun a0 =>
   (join (Y := ((List ByteArray × Unit) × (D.Act × Unit))) (fun ((a1, _), (a2, _)) =>
     (atc a1 0 fun a3 =>
      (optc (script_value fu a3) fun (a4, a5) =>
       (atc a1 2 fun a6 =>
        (optc (label_Parse fu a6) fun (a7, a8) =>
         (atc a1 1 fun a9 =>
          (cnd (decide (a9 = (ByteArray.mk (List.toArray (102 :: (105 :: (114 :: (105 :: (110 :: (103 :: []))))))))))
           (cnd a5
            (cnd (decide (a8 = 0))
             (some ((D.Act.mk 1 a4 (D.Alert.mk a4 a7 true) (D.Answer.mk 0 0 0 0 0 0) 0 (D.Edit.mk 0 0 0 0 0) 0 0 0 (ByteArray.mk (List.toArray []))), true))
             (some ((D.Act.mk 1 a4 (D.Alert.mk a4 a7 true) (D.Answer.mk 0 0 0 0 0 0) 0 (D.Edit.mk 0 0 0 0 0) 0 0 0 (ByteArray.mk (List.toArray []))), false)))
            (some ((D.Act.mk 1 a4 (D.Alert.mk a4 a7 true) (D.Answer.mk 0 0 0 0 0 0) 0 (D.Edit.mk 0 0 0 0 0) 0 0 0 (ByteArray.mk (List.toArray []))), false)))
           (cnd a5
            (cnd (decide (a8 = 0))
             (some ((D.Act.mk 1 a4 (D.Alert.mk a4 a7 false) (D.Answer.mk 0 0 0 0 0 0) 0 (D.Edit.mk 0 0 0 0 0) 0 0 0 (ByteArray.mk (List.toArray []))), true))
             (some ((D.Act.mk 1 a4 (D.Alert.mk a4 a7 false) (D.Answer.mk 0 0 0 0 0 0) 0 (D.Edit.mk 0 0 0 0 0) 0 0 0 (ByteArray.mk (List.toArray []))), false)))
            (some ((D.Act.mk 1 a4 (D.Alert.mk a4 a7 false) (D.Answer.mk 0 0 0 0 0 0) 0 (D.Edit.mk 0 0 0 0 0) 0 0 0 (ByteArray.mk (List.toArray []))), false)))))))))) fun J10 =>
    (cnd (decide ((((List.length a0) : Nat) : Int) ≠ 3))
     (some ((D.Act.mk 0 0 (D.Alert.mk 0 [] false) (D.Answer.mk 0 0 0 0 0 0) 0 (D.Edit.mk 0 0 0 0 0) 0 0 0 (ByteArray.mk (List.toArray []))), false))
     (atc a0 1 fun a11 =>
      (cnd (decide (a11 ≠ (ByteArray.mk (List.toArray (102 :: (105 :: (114 :: (105 :: (110 :: (103 :: []))))))))))
       (atc a0 1 fun a12 =>
        (cnd (decide (a12 ≠ (ByteArray.mk (List.toArray (114 :: (101 :: (115 :: (111 :: (108 :: (118 :: (101 :: (100 :: []))))))))))))
         (some ((D.Act.mk 0 0 (D.Alert.mk 0 [] false) (D.Answer.mk 0 0 0 0 0 0) 0 (D.Edit.mk 0 0 0 0 0) 0 0 0 (ByteArray.mk (List.toArray []))), false))
         (J10 ((a0, ()), ((D.Act.mk 0 0 (D.Alert.mk 0 [] false) (D.Answer.mk 0 0 0 0 0 0) 0 (D.Edit.mk 0 0 0 0 0) 0 0 0 (ByteArray.mk (List.toArray []))), ())))))
       (J10 ((a0, ()), ((D.Act.mk 0 0 (D.Alert.mk 0 [] false) (D.Answer.mk 0 0 0 0 0 0) 0 (D.Edit.mk 0 0 0 0 0) 0 0 0 (ByteArray.mk (List.toArray []))), ()))))))))
def script_alert_g (fu : Nat) : Sig := mkSig [.one (.str)] [] [.st .Act, .one (.boo)] [] [] (D.Act × Bool) (fun q => ((q.1, q.2, ()), ())) (fun x y => script_alert fu x.1)
theorem script_alert_ok (fu : Nat) : FnOK Tryz.prog 52 (script_alert_g fu) :=
  FnOK.intro (ty := ty) (E := envL [(67, 0, script_value_g fu), (68, 0, strings_SplitN_g fu), (69, 0, label_Parse_g fu)]) (fu := fu) (an := .two (.go) (.two (.go) (.two (.join [(2, .one (.ref 1002)), (4, .one (.lst .str))] [(1002, .boxst .Act)] (.go)) (.go)))) (fun a b => (a.1, a.2.1)) (fun _ _ => rfl) (envL_ok (l := [(67, 0, script_value_g fu), (68, 0, strings_SplitN_g fu), (69, 0, label_Parse_g fu)]) ⟨script_value_ok fu, strings_SplitN_ok fu, label_Parse_ok fu, trivial⟩) Tryz.func52 rfl rfl (fun x y => by kernel_rfl)
def script_verbs_2 (fu : Nat) (p0 : List Int) : Option (D.Act) :=
  (atc p0 0 fun a0 =>
   (some (D.Act.mk 2 a0 (D.Alert.mk 0 [] false) (D.Answer.mk 0 0 0 0 0 0) 0 (D.Edit.mk 0 0 0 0 0) 0 0 0 (ByteArray.mk (List.toArray [])))))
def script_verbs_2_g (fu : Nat) : Sig := mkSig [.one (.lst .int)] [] [.st .Act] [] [] (D.Act) (fun q => ((q, ()), ())) (fun x y => script_verbs_2 fu x.1)
theorem script_verbs_2_ok (fu : Nat) : FnOK Tryz.prog 54 (script_verbs_2_g fu) :=
  FnOK.intro (ty := ty) (E := envL []) (fu := fu) (an := .go) (fun a b => a.1) (fun _ _ => rfl) (envL_ok (l := []) trivial) Tryz.func54 rfl rfl (fun x y => by kernel_rfl)
def script_verbs_1_1_F54 (fu : Nat) (p0 : ByteArray) (p1 : Int) : Option (D.Act × Bool) :=
  (optc (script_values fu p0 p1) fun (a0, a1) =>
   (cnd (!a1)
    (sameC p1 p1 (some ((D.Act.mk 0 0 (D.Alert.mk 0 [] false) (D.Answer.mk 0 0 0 0 0 0) 0 (D.Edit.mk 0 0 0 0 0) 0 0 0 (ByteArray.mk (List.toArray []))), false)))
    (optc (script_verbs_2 fu a0) fun a2 =>
     (sameC p1 p1 (some (a2, true))))))
def script_verbs_1_1_F54_g (fu : Nat) : Sig := mkSig [.one (.str), .one (.ref 101), .one (.ref 102)] [(101, .boxst .int), (102, .box [.fv 54])] [.st .Act, .one (.boo)] [(102, .box [.fv 54])] [101] (D.Act × Bool) (fun q => ((q.1, q.2, ()), ((), ()))) (fun x y => script_verbs_1_1_F54 fu x.1 y.1)
theorem script_verbs_1_1_F54_ok (fu : Nat) : FnOK Tryz.prog 50 (script_verbs_1_1_F54_g fu) :=
  FnOK.intro (ty := ty) (E := envL [(51, 0, script_values_g fu), (54, 0, script_verbs_2_g fu)]) (fu := fu) (an := .go) (fun a b => (a.1, a.2.1)) (fun _ _ => rfl) (envL_ok (l := [(51, 0, script_values_g fu), (54, 0, script_verbs_2_g fu)]) ⟨script_values_ok fu, script_verbs_2_ok fu, trivial⟩) Tryz.func50 rfl rfl (fun x y => by kernel_rfl)
end
end Go.Proofs.YtkfmncmhagpajaaGreatDoor
set_option linter.unusedSimpArgs false
namespace Go.Proofs.YtkfmncmhagpajaaGreatDoor
open Go Go.RowKit Go.Shelf Go.Proofs AM
def codeL : Code → Code | .seq a _ => a | c => c
def codeR : Code → Code | .seq _ b => b | c => c
theorem mapPut_run {P : Program} {T K E : TypeId} {w : World} {b : Nat} {es : List (ByteArray × Value)} {k : ByteArray} {v : Value} (hT : P.underlying T = some (.map K E)) (hK : P.underlying K = some .string) (hno : lookS k es = none) (g3 : w.heap[b]? = some (smap es)) :
    (Instr.mapUpdate T (.map (some b)) (.string k) v).run P w = .ok () (setB w b (smap (es ++ [(k, v)]))) := by
  have hl : lookI k es 0 = none := by
    have := lookI_S k es 0; rw [hno] at this; simpa using this
  have h1 := run_getO (P := P) (x := smap es) rfl g3
  have h2 := run_setO (P := P) (x := smap es) (y := smap (es ++ [(k, v)])) rfl g3
  simp only [smap] at h1 h2
  have h3 : (Array.push (mkEs 0 es).toArray { key := .string k, val := v, born := es.length }) = (mkEs 0 (es ++ [(k, v)])).toArray := by
    rw [mkEs_append]; simp
  simp [Instr.mapUpdate, run_underlying hT, h1, run_checkKey_str hK, run_findKey_S hK, hl, h3]
  simpa [smap] using h2
def tickB : ByteArray := ByteArray.mk #[116, 105, 99, 107]
def alertB : ByteArray := ByteArray.mk #[97, 108, 101, 114, 116]
def answerB : ByteArray := ByteArray.mk #[97, 110, 115, 119, 101, 114]
def editB : ByteArray := ByteArray.mk #[101, 100, 105, 116]
def receiptB : ByteArray := ByteArray.mk #[114, 101, 99, 101, 105, 112, 116]
def stateB : ByteArray := ByteArray.mk #[115, 116, 97, 116, 101]
def ownB : ByteArray := ByteArray.mk #[111, 119, 110]
structure HasMap (w W : World) (m : Nat) (es : List (ByteArray × Value)) : Prop where
  ext : Ext (fun _ => False) w W
  ge : w.heap.size ≤ m
  map : W.heap[m]? = some (smap es)
def Clo (w W : World) (m : Nat) (n : Int) (f : Nat) (v : Value) : Prop := ∃ b1 b2, v = .func (.func 50) #[] #[.pointer (some ⟨b1, 0, none⟩), .pointer (some ⟨b2, 0, none⟩)] ∧ w.heap.size ≤ b1 ∧ w.heap.size ≤ b2 ∧ b1 ≠ b2 ∧ b1 ≠ m ∧ b2 ≠ m ∧
  W.heap[b1]? = some (.cells #[.int .i64 n] 3 (0, 0)) ∧ W.heap[b2]? = some (.cells #[.func (.func f) #[] #[]] 83 (0, 0))
theorem HasMap.put {w W : World} {m : Nat} {es : List (ByteArray × Value)} (h : HasMap w W m es) (k : ByteArray) (v : Value) (hno : lookS k es = none) :
    ∃ W', (Instr.mapUpdate 72 (.map (some m)) (.string k) v).run Tryz.prog W = .ok () W' ∧ HasMap w W' m (es ++ [(k, v)]) ∧ ∀ n f u, Clo w W m n f u → Clo w W' m n f u := by
  have hother : ∀ b, b ≠ m → (setB W m (smap (es ++ [(k, v)]))).heap[b]? = W.heap[b]? := fun b hb => by
    show (W.heap.setIfInBounds m _)[b]? = _
    rw [Array.getElem?_setIfInBounds, if_neg (Ne.symm hb)]
  refine ⟨_, mapPut_run (K := 9) (E := 57) (by kernel_rfl) (by kernel_rfl) hno h.map, ⟨⟨?_, fun b hb hn => ?_, h.ext.os, h.ext.out⟩, h.ge, ?_⟩, ?_⟩
  · have := h.ext.size; simpa [setB] using this
  · have := h.ge
    rw [hother b (by omega)]; exact h.ext.same b hb hn
  · have hm := (Array.getElem?_eq_some_iff.1 h.map).1
    show (W.heap.setIfInBounds m _)[m]? = _
    rw [Array.getElem?_setIfInBounds, if_pos rfl, if_pos hm]
  · rintro n f u ⟨b1, b2, h1, h2, h3, h4, h5, h6, h7, h8⟩
    exact ⟨b1, b2, h1, h2, h3, h4, h5, h6, by rw [hother _ h5]; exact h7, by rw [hother _ h6]; exact h8⟩
theorem num_calls (n : Int) (f : Nat) (w : World) : Calls Tryz.prog 49 #[.int .i64 n, .func (.func f) #[] #[]] w fun e w' =>
    e = .returned (.func (.func 50) #[] #[.pointer (some ⟨w.heap.size, 0, none⟩), .pointer (some ⟨w.heap.size + 1, 0, none⟩)]) ∧ w' = (w.alloc (.cells #[.int .i64 n] 3)).alloc (.cells #[.func (.func f) #[] #[]] 83) := by
  go_enter Tryz.func49, Tryz.ntmps49
  go_wp2
  go_ret
  exact ⟨by simp, rfl⟩
theorem HasMap.num {w W : World} {m : Nat} {es : List (ByteArray × Value)} (h : HasMap w W m es) (n : Int) (f : Nat) :
    Calls Tryz.prog 49 #[.int .i64 n, .func (.func f) #[] #[]] W fun e W' => ∃ v, e = .returned v ∧ HasMap w W' m es ∧ Clo w W' m n f v ∧ ∀ n' f' u, Clo w W m n' f' u → Clo w W' m n' f' u := by
  have hm := (Array.getElem?_eq_some_iff.1 h.map).1
  have h0 : ∀ (o1 o2 : Obj) b, b < W.heap.size → ((W.alloc o1).alloc o2).heap[b]? = W.heap[b]? := fun o1 o2 b hb => by
    show ((W.heap.push o1).push o2)[b]? = _
    rw [Array.getElem?_push_lt (by simp; omega)]
    rw [Array.getElem_push_lt hb, ← Array.getElem?_eq_getElem hb]
  have hlt : ∀ {b : Nat} {ob : Obj}, W.heap[b]? = some ob → b < W.heap.size := fun hb => (Array.getElem?_eq_some_iff.1 hb).1
  have hsz := h.ext.size
  refine (num_calls n f W).mono ?_
  rintro e W' ⟨rfl, rfl⟩
  refine ⟨_, rfl, ⟨⟨?_, fun b hb hn => ?_, h.ext.os, h.ext.out⟩, h.ge, ?_⟩, ⟨_, _, rfl, hsz, by omega, by omega, by omega, by omega, ?_, ?_⟩, ?_⟩
  · simp only [World.alloc, Array.size_push]; omega
  · rw [h0 _ _ b (by omega)]; exact h.ext.same b hb hn
  · rw [h0 _ _ m hm]; exact h.map
  · show ((W.heap.push _).push _)[W.heap.size]? = _
    simp [Array.getElem?_push]
  · show ((W.heap.push _).push _)[W.heap.size + 1]? = _
    rw [← Array.size_push (xs := W.heap) (Obj.cells #[.int .i64 n] 3)]
    exact Array.getElem?_push_size
  · rintro n' f' u ⟨b1, b2, h1, h2, h3, h4, h5, h6, h7, h8⟩
    exact ⟨b1, b2, h1, h2, h3, h4, h5, h6, by rw [h0 _ _ _ (hlt h7)]; exact h7, by rw [h0 _ _ _ (hlt h8)]; exact h8⟩
abbrev fV (f : Nat) : Value := .func (.func f) #[] #[]
set_option maxHeartbeats 1000000 in
theorem verbs_calls (w : World) : Calls Tryz.prog 35 #[] w fun e W => ∃ m v1 v2 v3 v4 v5, e = .returned (.map (some m)) ∧
    HasMap w W m [(alertB, fV 52), (answerB, fV 53), (tickB, v1), (editB, v2), (receiptB, v3), (stateB, v4), (ownB, v5)] ∧ Clo w W m 1 54 v1 ∧ Clo w W m 7 55 v2 ∧ Clo w W m 3 56 v3 ∧ Clo w W m 4 57 v4 ∧ Clo w W m 2 58 v5 := by
  go_enter Tryz.func35, Tryz.ntmps35
  go_wp2
  have hmk : (Instr.makeMap 72 none).run Tryz.prog w = .ok (.map (some w.heap.size)) (w.alloc (smap [])) := by simp [Instr.makeMap, smap, mkEs]
  simp only [hmk, Result.andThen]
  rw [Oper.upon_value]
  obtain ⟨W0, hW0⟩ : ∃ W0, w.alloc (smap []) = W0 := ⟨_, rfl⟩
  have h0 : HasMap w W0 w.heap.size [] := ⟨by rw [← hW0]; exact (Ext.alloc w _).weaken (fun _ _ h => h.elim), Nat.le_refl _, by rw [← hW0]; exact heap_alloc_new w _⟩
  rw [hW0]
  obtain ⟨m, hm⟩ : ∃ m, w.heap.size = m := ⟨_, rfl⟩
  rw [hm] at h0 ⊢
  go_wp2
  obtain ⟨W1, r1, h1, c1⟩ := h0.put alertB (fV 52) rfl
  dsimp only [alertB, fV] at r1
  clear h0
  simp only [r1, Result.andThen]
  clear r1
  rw [Oper.upon_skip]
  clear c1
  go_wp2
  obtain ⟨W2, r2, h2, c2⟩ := h1.put answerB (fV 53) rfl
  dsimp only [answerB, fV] at r2
  clear h1
  simp only [r2, Result.andThen]
  clear r2
  rw [Oper.upon_skip]
  clear c2
  go_wp2_with fail
  refine (h2.num 1 54).mono ?_
  rintro e W3 ⟨v1, rfl, h3, q1, d3⟩
  clear h2
  clear d3
  go_wp2_with fail
  obtain ⟨W4, r4, h4, c4⟩ := h3.put tickB v1 rfl
  dsimp only [tickB, fV] at r4
  clear h3
  simp only [r4, Result.andThen]
  clear r4
  rw [Oper.upon_skip]
  replace q1 := c4 _ _ _ q1
  clear c4
  go_wp2_with fail
  refine (h4.num 7 55).mono ?_
  rintro e W5 ⟨v2, rfl, h5, q2, d5⟩
  clear h4
  replace q1 := d5 _ _ _ q1
  clear d5
  go_wp2_with fail
  obtain ⟨W6, r6, h6, c6⟩ := h5.put editB v2 rfl
  dsimp only [editB, fV] at r6
  clear h5
  simp only [r6, Result.andThen]
  clear r6
  rw [Oper.upon_skip]
  replace q1 := c6 _ _ _ q1
  replace q2 := c6 _ _ _ q2
  clear c6
  go_wp2_with fail
  refine (h6.num 3 56).mono ?_
  rintro e W7 ⟨v3, rfl, h7, q3, d7⟩
  clear h6
  replace q1 := d7 _ _ _ q1
  replace q2 := d7 _ _ _ q2
  clear d7
  go_wp2_with fail
  obtain ⟨W8, r8, h8, c8⟩ := h7.put receiptB v3 rfl
  dsimp only [receiptB, fV] at r8
  clear h7
  simp only [r8, Result.andThen]
  clear r8
  rw [Oper.upon_skip]
  replace q1 := c8 _ _ _ q1
  replace q2 := c8 _ _ _ q2
  replace q3 := c8 _ _ _ q3
  clear c8
  go_wp2_with fail
  refine (h8.num 4 57).mono ?_
  rintro e W9 ⟨v4, rfl, h9, q4, d9⟩
  clear h8
  replace q1 := d9 _ _ _ q1
  replace q2 := d9 _ _ _ q2
  replace q3 := d9 _ _ _ q3
  clear d9
  go_wp2_with fail
  obtain ⟨W10, r10, h10, c10⟩ := h9.put stateB v4 rfl
  dsimp only [stateB, fV] at r10
  clear h9
  simp only [r10, Result.andThen]
  clear r10
  rw [Oper.upon_skip]
  replace q1 := c10 _ _ _ q1
  replace q2 := c10 _ _ _ q2
  replace q3 := c10 _ _ _ q3
  replace q4 := c10 _ _ _ q4
  clear c10
  go_wp2_with fail
  refine (h10.num 2 58).mono ?_
  rintro e W11 ⟨v5, rfl, h11, q5, d11⟩
  clear h10
  replace q1 := d11 _ _ _ q1
  replace q2 := d11 _ _ _ q2
  replace q3 := d11 _ _ _ q3
  replace q4 := d11 _ _ _ q4
  clear d11
  go_wp2_with fail
  obtain ⟨W12, r12, h12, c12⟩ := h11.put ownB v5 rfl
  dsimp only [ownB, fV] at r12
  clear h11
  simp only [r12, Result.andThen]
  clear r12
  rw [Oper.upon_skip]
  replace q1 := c12 _ _ _ q1
  replace q2 := c12 _ _ _ q2
  replace q3 := c12 _ _ _ q3
  replace q4 := c12 _ _ _ q4
  replace q5 := c12 _ _ _ q5
  clear c12
  go_wp2
  go_ret
  exact ⟨m, v1, v2, v3, v4, v5, rfl, h12, q1, q2, q3, q4, q5⟩
set_option maxHeartbeats 1000000 in
theorem r2_raw (vb : ByteArray) (v : Value) (hv : ∀ v1 v2 v3 v4 v5, lookS vb [(alertB, fV 52), (answerB, fV 53), (tickB, v1), (editB, v2), (receiptB, v3), (stateB, v4), (ownB, v5)] = some (if vb = tickB then v1 else v)) (v0 v1 v2 v3 v5 v6 v7 v8 v9 v10 v11 v12 v13 v14 v15 v16 v17 v18 v19 v20 v21 v22 v23 v24 v25 v26 v27 v28 v29 v30 v31 v32 v33 v34 v35 v36 v37 v38 v39 v40 v41 v42 v43 v44 : Value) (w : World) (Q : Exit → Act → World → Prop)
    (hQ : ∀ W m u1 x17 x18 x19 x20 x21 x22, Ext (fun _ => False) w W → Clo w W m 1 54 u1 →
      Q .normal ⟨#[v0, v1, v2, v3, .string vb, v5, v6, if vb = tickB then u1 else v, .bool true, v9, v10, v11, v12, v13, v14, v15, v16, x17, x18, x19, x20, x21, x22, v23, v24, v25, v26, v27, v28, v29, v30, v31, v32, v33, v34, v35, v36, v37, v38, v39, v40, v41, v42, v43, v44], []⟩ W) :
    Code.wp Tryz.prog (codeL (codeR (codeR (Tryz.f15.body.getD .skip)))) Q ⟨#[v0, v1, v2, v3, .string vb, v5, v6, v7, v8, v9, v10, v11, v12, v13, v14, v15, v16, v17, v18, v19, v20, v21, v22, v23, v24, v25, v26, v27, v28, v29, v30, v31, v32, v33, v34, v35, v36, v37, v38, v39, v40, v41, v42, v43, v44], []⟩ w := by
  unfold Tryz.f15
  simp only [Option.getD, codeL, codeR]
  go_wp2_with fail
  refine (verbs_calls w).mono ?_
  rintro e W ⟨m, u1, u2, u3, u4, u5, rfl, hmap, q1, -⟩
  obtain ⟨z, hz⟩ := Option.isSome_iff_exists.1 (show (zeroV Tryz.prog 57).isSome = true by kernel_rfl)
  have hl := lookup_run (P := Tryz.prog) (T := 72) (K := 9) (E := 57) (k := vb) (z := z) (ok := true) (by kernel_rfl) (by kernel_rfl) hz hmap.map
  rw [hv, Option.getD_some, Option.isSome_some, if_pos rfl] at hl
  have Hc := Any.hidU q1
  have He := Any.hidU hmap.ext
  have hQ2 := hQ W m u1
  obtain ⟨R, hR⟩ : ∃ R, (if vb = tickB then u1 else v) = R := ⟨_, rfl⟩
  simp only [hR] at hQ2
  rw [hR] at hl
  have HQ := Any.hidU hQ2
  clear q1 hmap hQ hQ2 hz hv hR
  go_wp2
  exact HQ.out _ _ _ _ _ _ He.out Hc.out
theorem Sim.slotsTo {Γ : Ctx} {ρ : Name → AM.Loc} {M : Nat → Prop} {s : AS} {a a' : Act} {w : World} (hs : Sim Γ ρ M s a w) (hsz : a'.tmps.size = a.tmps.size) (hd : a'.defers = []) {slot' : Nat → Option AV}
    (h : ∀ t x, slot' t = some x → (s.slot t = some x ∧ a'.tmps[t]? = a.tmps[t]?) ∨ ∃ u, a'.tmps[t]? = some u ∧ x.R ρ s.heap M w u) : Sim Γ ρ M ⟨slot', s.heap⟩ a' w :=
  ⟨hsz.trans hs.n, hd, fun t x ht => by
    rcases h t x ht with ⟨h1, h2⟩ | h1
    · obtain ⟨u, hu, hr⟩ := hs.slots t x h1
      exact ⟨u, h2.trans hu, hr⟩
    · exact h1, hs.objs, hs.inj, hs.own0, hs.keep, hs.ext, hs.mext, hs.msize, hs.m0, hs.ground⟩
theorem Sim.twoBoxes {Γ : Ctx} {ρ : Name → AM.Loc} {M : Nat → Prop} {s : AS} {a : Act} {w W : World} (hs : Sim Γ ρ M s a w) (he : Ext (fun _ => False) w W) {n1 n2 : Name} (hne : n1 ≠ n2) (h1 : s.heap n1 = none) (h2 : s.heap n2 = none) (f1 : s.free n1) (f2 : s.free n2) {b1 b2 : Nat} (g1 : w.heap.size ≤ b1) (g2 : w.heap.size ≤ b2) (hb : b1 ≠ b2)
    {x1 x2 : Value} {T1 T2 : TypeId} (c1 : W.heap[b1]? = some (.cells #[x1] T1 (0, 0))) (c2 : W.heap[b2]? = some (.cells #[x2] T2 (0, 0))) (o1 : x1.oneCell' = true) (o2 : x2.oneCell' = true) :
    ∃ ρ' M', Sim Γ ρ' M' ⟨s.slot, fun n => if n = n1 then some (.box [.p (.v x1)]) else if n = n2 then some (.box [.p (.v x2)]) else s.heap n⟩ a W ∧ (ρ' n1).base = some ⟨b1, 0, none⟩ ∧ (ρ' n2).base = some ⟨b2, 0, none⟩ := by
  have l1 : b1 < W.heap.size := (Array.getElem?_eq_some_iff.1 c1).1
  have l2 : b2 < W.heap.size := (Array.getElem?_eq_some_iff.1 c2).1
  have hlt : ∀ m o b, s.heap m = some o → (ρ m).blk = some b → b < w.heap.size := fun m o b k1 k2 => ((hs.objs m o k1).blk_lt hs.msize k2).1
  refine ⟨fun n => if n = n1 then ⟨some ⟨b1, 0, none⟩, 1⟩ else if n = n2 then ⟨some ⟨b2, 0, none⟩, 1⟩ else ρ n, fun b => M b ∨ b = b1 ∨ b = b2, ?_, by simp, by simp [Ne.symm hne]⟩
  refine hs.update (he.weaken fun _ _ hf => hf.elim) (fun b hb => .inl hb) (fun b hb => hb.imp id fun e => by rcases e with e | e <;> omega) (fun b hb => ?_) (fun n o hn => ?_) (fun n hn => ?_) (fun n hn hn' => ?_) (fun n o hn => ?_) (fun n m o o' b k1 k2 k3 k4 => ?_)
  · rcases hb with hb | hb | hb
    · exact Nat.lt_of_lt_of_le (hs.msize b hb) he.size
    · omega
    · omega
  · have e1 : n ≠ n1 := fun e => by rw [e, h1] at hn; simp at hn
    have e2 : n ≠ n2 := fun e => by rw [e, h2] at hn; simp at hn
    simp only [e1, e2, if_false, hn]
    exact stays_refl _ _
  · obtain ⟨o, k1, _⟩ := hs.keep n hn
    have e1 : n ≠ n1 := fun e => by rw [e, h1] at k1; simp at k1
    have e2 : n ≠ n2 := fun e => by rw [e, h2] at k1; simp at k1
    simp [e1, e2, k1]
  · by_cases e1 : n = n1
    · rw [e1]; exact f1
    · by_cases e2 : n = n2
      · rw [e2]; exact f2
      · simp only [e1, e2, if_false] at hn'; exact absurd hn hn'
  · by_cases e1 : n = n1
    · subst e1
      simp only [if_true] at hn
      cases hn
      refine .inr ⟨⟨b1, T1, #[x1], by simp, .inr (.inl rfl), c1, ?_⟩, fun b hb => .inr ?_⟩
      · simp only [AV.Rs, AV.R, PV.R]; exact ⟨x1, [], rfl, o1, ⟨rfl, o1⟩, rfl⟩
      · simp [AM.Loc.blk] at hb
        have := hs.ext.size
        omega
    · by_cases e2 : n = n2
      · subst e2
        simp only [e1, if_false, if_true] at hn
        cases hn
        refine .inr ⟨⟨b2, T2, #[x2], by simp [e1], .inr (.inr rfl), c2, ?_⟩, fun b hb => .inr ?_⟩
        · simp only [AV.Rs, AV.R, PV.R]; exact ⟨x2, [], rfl, o2, ⟨rfl, o2⟩, rfl⟩
        · simp [e1, AM.Loc.blk] at hb
          have := hs.ext.size
          omega
      · simp only [e1, e2, if_false] at hn
        exact .inl ⟨hn, by simp [e1, e2], fun b hb => he.same b (hlt n o b hn hb) (fun h => h)⟩
  · have key : ∀ n o b, (if n = n1 then some (AO.box [.p (.v x1)]) else if n = n2 then some (AO.box [.p (.v x2)]) else s.heap n) = some o → AM.Loc.blk (if n = n1 then ⟨some ⟨b1, 0, none⟩, 1⟩ else if n = n2 then ⟨some ⟨b2, 0, none⟩, 1⟩ else ρ n) = some b →
        (n = n1 ∧ b = b1) ∨ (n = n2 ∧ b = b2) ∨ (n ≠ n1 ∧ n ≠ n2 ∧ s.heap n = some o ∧ (ρ n).blk = some b ∧ b < w.heap.size) := fun n o b p1 p2 => by
      by_cases e1 : n = n1
      · left; simp [e1, AM.Loc.blk] at p2; exact ⟨e1, p2.symm⟩
      · by_cases e2 : n = n2
        · right; left; simp [e1, e2, AM.Loc.blk, Ne.symm hne] at p2; exact ⟨e2, p2.symm⟩
        · simp only [e1, e2, if_false] at p1 p2
          exact .inr (.inr ⟨e1, e2, p1, p2, hlt n o b p1 p2⟩)
    rcases key n o b k1 k3 with ⟨q1, q2⟩ | ⟨q1, q2⟩ | ⟨q1, q2, q3, q4, q5⟩ <;> rcases key m o' b k2 k4 with ⟨r1, r2⟩ | ⟨r1, r2⟩ | ⟨r1, r2, r3, r4, r5⟩ <;> first | omega | (subst q1; subst r1; rfl) | skip
    exact hs.inj n m o o' b q3 r3 q4 r4
theorem list45 : ∀ l : List Value, l.length = 45 → ∃ v0 v1 v2 v3 v4 v5 v6 v7 v8 v9 v10 v11 v12 v13 v14 v15 v16 v17 v18 v19 v20 v21 v22 v23 v24 v25 v26 v27 v28 v29 v30 v31 v32 v33 v34 v35 v36 v37 v38 v39 v40 v41 v42 v43 v44, l = v0 :: v1 :: v2 :: v3 :: v4 :: v5 :: v6 :: v7 :: v8 :: v9 :: v10 :: v11 :: v12 :: v13 :: v14 :: v15 :: v16 :: v17 :: v18 :: v19 :: v20 :: v21 :: v22 :: v23 :: v24 :: v25 :: v26 :: v27 :: v28 :: v29 :: v30 :: v31 :: v32 :: v33 :: v34 :: v35 :: v36 :: v37 :: v38 :: v39 :: v40 :: v41 :: v42 :: v43 :: v44 :: []
  | v0 :: v1 :: v2 :: v3 :: v4 :: v5 :: v6 :: v7 :: v8 :: v9 :: v10 :: v11 :: v12 :: v13 :: v14 :: v15 :: v16 :: v17 :: v18 :: v19 :: v20 :: v21 :: v22 :: v23 :: v24 :: v25 :: v26 :: v27 :: v28 :: v29 :: v30 :: v31 :: v32 :: v33 :: v34 :: v35 :: v36 :: v37 :: v38 :: v39 :: v40 :: v41 :: v42 :: v43 :: v44 :: [], _ => ⟨v0, v1, v2, v3, v4, v5, v6, v7, v8, v9, v10, v11, v12, v13, v14, v15, v16, v17, v18, v19, v20, v21, v22, v23, v24, v25, v26, v27, v28, v29, v30, v31, v32, v33, v34, v35, v36, v37, v38, v39, v40, v41, v42, v43, v44, rfl⟩
theorem AWp_def {P : Program} {Γ : Ctx} {c : Code} {s : AS} {Q : Exit → AS → Prop} (h : ∀ ρ M a w, Sim Γ ρ M s a w → Code.wp P c (fun e a' w' => ∃ s' ρ' M', Q e s' ∧ Sim Γ ρ' M' s' a' w') a w) : AWp P Γ c s Q := h
abbrev tsT (p0 rs : ByteArray) (v : BV) : TS := [(0, .s p0), (2, .ref 1002 0), (5, .s rs), (7, v), (8, .b true)]
noncomputable abbrev readR2 : Code := codeL (codeR (codeR (Tryz.f15.body.getD .skip)))
set_option maxHeartbeats 1000000 in
theorem r2_tick {Γ : Ctx} (hΓ : Γ.n = 45) (hN : Γ.names = []) {L : Lens} {ts : TS} {hs : HS} {p0 rs : ByteArray} {cs : List BV} (h0 : AM.look 0 ts = some (.s p0)) (h2 : AM.look 2 ts = some (.ref 1002 0)) (h4 : AM.look 4 ts = some (.s tickB)) (h5 : AM.look 5 ts = some (.s rs)) (hb : AM.look 1002 hs = some (.box cs))
    (n1 : AM.look 60001 hs = none) (n2 : AM.look 60002 hs = none) (f1 : freeS 60001 ts hs = true) (f2 : freeS 60002 ts hs = true) :
    AWp Tryz.prog Γ readR2 (BS L ts hs) (fun e s' => e = .normal ∧ s' = BS L (tsT p0 rs (.clo (.func 50) [.ref 60001 0, .ref 60002 0])) [(1002, .box cs), (60001, .box [.n .i64 1]), (60002, .box [.v (fV 54)])]) := by
  refine AWp_def fun ρ M a w hs0 => ?_
  obtain ⟨⟨l⟩, df⟩ := a
  have hd := hs0.d
  change df = [] at hd
  subst hd
  obtain ⟨v0, v1, v2, v3, v4, v5, v6, v7, v8, v9, v10, v11, v12, v13, v14, v15, v16, v17, v18, v19, v20, v21, v22, v23, v24, v25, v26, v27, v28, v29, v30, v31, v32, v33, v34, v35, v36, v37, v38, v39, v40, v41, v42, v43, v44, rfl⟩ := list45 l (by have := hs0.n; rw [hΓ] at this; exact this)
  obtain ⟨u, hu, hr⟩ := hs0.slots 4 (.p (.v (.string tickB))) (by rw [BS_slot, h4]; rfl)
  simp only [AV.R, PV.R] at hr
  have hu' : v4 = .string tickB := (Option.some.inj hu).trans hr.1
  subst hu'
  refine r2_raw tickB .nilIface (fun _ _ _ _ _ => by rw [if_pos rfl]; rfl) v0 v1 v2 v3 v5 v6 v7 v8 v9 v10 v11 v12 v13 v14 v15 v16 v17 v18 v19 v20 v21 v22 v23 v24 v25 v26 v27 v28 v29 v30 v31 v32 v33 v34 v35 v36 v37 v38 v39 v40 v41 v42 v43 v44 w _ fun W m u1 x17 x18 x19 x20 x21 x22 he hc => ?_
  obtain ⟨b1, b2, rfl, g1, g2, hbb, -, -, c1, c2⟩ := hc
  rw [if_pos rfl]
  have ff : ∀ {n : Name}, freeS n ts hs = true → (BS L ts hs).free n := fun {n} h => free_of (by rw [freeS_er]; exact h)
  obtain ⟨ρ', M', hs1, k1, k2⟩ := Sim.twoBoxes hs0 he (n1 := 60001) (n2 := 60002) (by decide) (by rw [BS_heap, n1]; rfl) (by rw [BS_heap, n2]; rfl) (ff f1) (ff f2) g1 g2 hbb c1 c2 rfl rfl
  refine ⟨_, ρ', M', ⟨rfl, rfl⟩, ?_⟩
  have hs2 : ∀ a' : Act, a'.tmps.size = 45 → a'.defers = [] → (∀ t x, (BS L (tsT p0 rs (.clo (.func 50) [.ref 60001 0, .ref 60002 0])) [(1002, .box cs), (60001, .box [.n .i64 1]), (60002, .box [.v (fV 54)])]).slot t = some x → ((BS L ts hs).slot t = some x ∧ a'.tmps[t]? = (#[v0, v1, v2, v3, .string tickB, v5, v6, v7, v8, v9, v10, v11, v12, v13, v14, v15, v16, v17, v18, v19, v20, v21, v22, v23, v24, v25, v26, v27, v28, v29, v30, v31, v32, v33, v34, v35, v36, v37, v38, v39, v40, v41, v42, v43, v44] : Array Value)[t]?) ∨ ∃ u, a'.tmps[t]? = some u ∧ x.R ρ' (fun n => if n = 60001 then some (.box [.p (.v (.int .i64 1))]) else if n = 60002 then some (.box [.p (.v (fV 54))]) else (BS L ts hs).heap n) M' W u) → Sim Γ ρ' M' ⟨_, _⟩ a' W := fun a' q1 q2 q3 => Sim.slotsTo hs1 (a' := a') q1 q2 q3
  refine (hs2 _ rfl rfl fun t x ht => ?_).forget (fun t x ht => ht) (fun n o hn => ?_) (fun n hn => by rw [hN] at hn; simp at hn)
  · rw [BS_slot] at ht
    simp only [AM.look] at ht
    split at ht
    · rename_i e; subst e; cases ht; exact .inl ⟨by show (BS L ts hs).slot 0 = _; rw [BS_slot, h0]; rfl, rfl⟩
    · split at ht
      · rename_i e; subst e; cases ht; exact .inl ⟨by show (BS L ts hs).slot 2 = _; rw [BS_slot, h2]; rfl, rfl⟩
      · split at ht
        · rename_i e; subst e; cases ht; exact .inl ⟨by show (BS L ts hs).slot 5 = _; rw [BS_slot, h5]; rfl, rfl⟩
        · split at ht
          · rename_i e; subst e; cases ht
            refine .inr ⟨_, rfl, ?_⟩
            simp only [BV.er, erL, AV.R, AV.Rs]
            refine ⟨_, _, rfl, rfl, _, _, rfl, rfl, ⟨rfl, fun _ _ => ⟨b1, k1, rfl⟩⟩, _, _, rfl, rfl, ⟨rfl, fun _ _ => ⟨b2, k2, rfl⟩⟩, rfl⟩
          · split at ht
            · rename_i e; subst e; cases ht
              refine .inr ⟨_, rfl, ?_⟩
              simp only [BV.er, AV.R, PV.R]
              exact ⟨rfl, rfl⟩
            · simp at ht
  · rw [BS_heap] at hn
    simp only [AM.look] at hn
    split at hn
    · rename_i e; subst e; cases hn
      dsimp only
      rw [if_neg (by decide), if_neg (by decide), BS_heap, hb]; rfl
    · split at hn
      · rename_i e; subst e; cases hn; rfl
      · split at hn
        · rename_i e; subst e; cases hn; rfl
        · simp at hn
set_option maxHeartbeats 1000000 in
theorem r2_alert {Γ : Ctx} (hΓ : Γ.n = 45) (hN : Γ.names = []) {L : Lens} {ts : TS} {hs : HS} {p0 rs : ByteArray} {cs : List BV} (h0 : AM.look 0 ts = some (.s p0)) (h2 : AM.look 2 ts = some (.ref 1002 0)) (h4 : AM.look 4 ts = some (.s alertB)) (h5 : AM.look 5 ts = some (.s rs)) (hb : AM.look 1002 hs = some (.box cs)) :
    AWp Tryz.prog Γ readR2 (BS L ts hs) (fun e s' => e = .normal ∧ s' = BS L (tsT p0 rs (.v (fV 52))) [(1002, .box cs)]) := by
  refine AWp_def fun ρ M a w hs0 => ?_
  obtain ⟨⟨l⟩, df⟩ := a
  have hd := hs0.d
  change df = [] at hd
  subst hd
  obtain ⟨v0, v1, v2, v3, v4, v5, v6, v7, v8, v9, v10, v11, v12, v13, v14, v15, v16, v17, v18, v19, v20, v21, v22, v23, v24, v25, v26, v27, v28, v29, v30, v31, v32, v33, v34, v35, v36, v37, v38, v39, v40, v41, v42, v43, v44, rfl⟩ := list45 l (by have := hs0.n; rw [hΓ] at this; exact this)
  obtain ⟨u, hu, hr⟩ := hs0.slots 4 (.p (.v (.string alertB))) (by rw [BS_slot, h4]; rfl)
  simp only [AV.R, PV.R] at hr
  have hu' : v4 = .string alertB := (Option.some.inj hu).trans hr.1
  subst hu'
  refine r2_raw alertB (fV 52) (fun _ _ _ _ _ => by rw [if_neg (by decide)]; rfl) v0 v1 v2 v3 v5 v6 v7 v8 v9 v10 v11 v12 v13 v14 v15 v16 v17 v18 v19 v20 v21 v22 v23 v24 v25 v26 v27 v28 v29 v30 v31 v32 v33 v34 v35 v36 v37 v38 v39 v40 v41 v42 v43 v44 w _ fun W m u1 x17 x18 x19 x20 x21 x22 he hc => ?_
  rw [if_neg (by decide)]
  have hs1 := hs0.world he
  refine ⟨_, ρ, M, ⟨rfl, rfl⟩, ?_⟩
  have hs2 : ∀ a' : Act, a'.tmps.size = 45 → a'.defers = [] → (∀ t x, (BS L (tsT p0 rs (.v (fV 52))) [(1002, .box cs)]).slot t = some x → ((BS L ts hs).slot t = some x ∧ a'.tmps[t]? = (#[v0, v1, v2, v3, .string alertB, v5, v6, v7, v8, v9, v10, v11, v12, v13, v14, v15, v16, v17, v18, v19, v20, v21, v22, v23, v24, v25, v26, v27, v28, v29, v30, v31, v32, v33, v34, v35, v36, v37, v38, v39, v40, v41, v42, v43, v44] : Array Value)[t]?) ∨ ∃ u, a'.tmps[t]? = some u ∧ x.R ρ (BS L ts hs).heap M W u) → Sim Γ ρ M ⟨_, _⟩ a' W := fun a' q1 q2 q3 => Sim.slotsTo hs1 (a' := a') q1 q2 q3
  refine (hs2 _ rfl rfl fun t x ht => ?_).forget (fun t x ht => ht) (fun n o hn => ?_) (fun n hn => by rw [hN] at hn; simp at hn)
  · rw [BS_slot] at ht
    simp only [AM.look] at ht
    split at ht
    · rename_i e; subst e; cases ht; exact .inl ⟨by show (BS L ts hs).slot 0 = _; rw [BS_slot, h0]; rfl, rfl⟩
    · split at ht
      · rename_i e; subst e; cases ht; exact .inl ⟨by show (BS L ts hs).slot 2 = _; rw [BS_slot, h2]; rfl, rfl⟩
      · split at ht
        · rename_i e; subst e; cases ht; exact .inl ⟨by show (BS L ts hs).slot 5 = _; rw [BS_slot, h5]; rfl, rfl⟩
        · split at ht
          · rename_i e; subst e; cases ht
            refine .inr ⟨_, rfl, ?_⟩
            simp only [BV.er, AV.R, PV.R]
            exact ⟨rfl, rfl⟩
          · split at ht
            · rename_i e; subst e; cases ht
              refine .inr ⟨_, rfl, ?_⟩
              simp only [BV.er, AV.R, PV.R]
              exact ⟨rfl, rfl⟩
            · simp at ht
  · rw [BS_heap] at hn
    simp only [AM.look] at hn
    split at hn
    · rename_i e; subst e; cases hn
      rw [BS_heap, hb]; rfl
    · simp at hn
noncomputable section
def readTail (fu : Nat) (p0 : ByteArray) (a0 : D.Act) (a1 : Bool) : Option (D.Act × Bool) :=
  (cnd a1
    (optc (script_Valid fu a0) fun a2 =>
     (cnd a2
      (optc (script_line fu a0) fun a3 =>
       (lec ((ByteArray.size p0) + (ByteArray.size (ByteArray.mk (List.toArray (10 :: []))))) 9223372036854775807 (cnd (decide (a3 = (p0 ++ (ByteArray.mk (List.toArray (10 :: []))))))
        (some (a0, true))
        (some (a0, false)))))
      (some (a0, false))))
    (some (a0, false)))
def script_read (fu : Nat) (p0 : ByteArray) : Option (D.Act × Bool) :=
  optc (strings_Cut fu p0 (ByteArray.mk (List.toArray (32 :: [])))) fun (a, (b, c)) =>
    if a = tickB then optc (script_verbs_1_1_F54 fu b 1) fun (a0, a1) => readTail fu p0 a0 a1
    else if a = alertB then optc (script_alert fu b) fun (a0, a1) => readTail fu p0 a0 a1 else none
def script_read_g (fu : Nat) : Sig := mkSig [.one (.str)] [] [.st .Act, .one (.boo)] [] [] (D.Act × Bool) (fun q => ((q.1, q.2, ()), ())) (fun x y => script_read fu x.1)
def readE (fu : Nat) : Env := envL [(9, 0, script_Valid_g fu), (11, 0, script_line_g fu), (14, 0, strings_Cut_g fu), (50, 0, script_verbs_1_1_F54_g fu), (52, 0, script_alert_g fu)]
noncomputable def zerosA : List BV := (zeroB Tryz.prog 32).getD []
def isZ : List BV → Bool
  | [.n .i64 (.ofNat 0), .n .i64 (.ofNat 0), .n .i64 (.ofNat 0), .nil, .b false, .n .i64 (.ofNat 0), .n .i64 (.ofNat 0), .n .i64 (.ofNat 0), .n .i64 (.ofNat 0), .n .i64 (.ofNat 0), .n .i64 (.ofNat 0), .n .i64 (.ofNat 0), .n .i64 (.ofNat 0), .n .i64 (.ofNat 0), .n .i64 (.ofNat 0), .n .i64 (.ofNat 0), .n .i64 (.ofNat 0), .n .i64 (.ofNat 0), .n .i64 (.ofNat 0), .n .i64 (.ofNat 0), .s ⟨⟨[]⟩⟩] => true
  | _ => false
theorem isZ_eq {cs : List BV} (h : isZ cs = true) : cs = zerosA := by
  unfold isZ at h
  split at h
  · kernel_rfl
  · simp at h
def K1 : Cont (ByteArray × ByteArray × ByteArray) := fun e ts hs => match e with
  | .normal => (match AM.look 0 ts, AM.look 2 ts, AM.look 4 ts, AM.look 5 ts, AM.look 1002 hs with
    | some (.s p), some (.ref 1002 0), some (.s a), some (.s b), some (.box cs) => if isZ cs && (AM.look 60001 hs).isNone && (AM.look 60002 hs).isNone && freeS 60001 ts hs && freeS 60002 ts hs then some (p, a, b) else none
    | _, _, _, _, _ => none)
  | _ => none
theorem K1_some {e : Exit} {ts : TS} {hs : HS} {p a b : ByteArray} (h : K1 e ts hs = some (p, a, b)) : e = .normal ∧ AM.look 0 ts = some (.s p) ∧ AM.look 2 ts = some (.ref 1002 0) ∧ AM.look 4 ts = some (.s a) ∧ AM.look 5 ts = some (.s b) ∧ AM.look 1002 hs = some (.box zerosA) ∧
    AM.look 60001 hs = none ∧ AM.look 60002 hs = none ∧ freeS 60001 ts hs = true ∧ freeS 60002 ts hs = true := by
  unfold K1 at h
  split at h
  · split at h
    · rename_i h0 h2 h4 h5 hb
      split at h
      · rename_i hc
        simp only [Bool.and_eq_true, Option.isNone_iff_eq_none] at hc
        cases h
        exact ⟨rfl, h0, h2, h4, h5, by rw [hb, isZ_eq hc.1.1.1.1], hc.1.1.1.2, hc.1.1.2, hc.1.2, hc.2⟩
      · simp at h
    · simp at h
  · simp at h
set_option maxHeartbeats 1000000 in
theorem script_read_ok (fu : Nat) : FnOK Tryz.prog 15 (script_read_g fu) := by
  refine FnOK.introW (c := .seq (codeL (Tryz.f15.body.getD .skip)) (.seq (codeL (codeR (Tryz.f15.body.getD .skip))) (.seq readR2 (codeR (codeR (codeR (Tryz.f15.body.getD .skip)))))))
    (fun a b => (a.1, a.2.1)) (fun _ _ => rfl) Tryz.func15 (by kernel_rfl) (by kernel_rfl) fun x y q hq L0 hL0 Γ hn hk => ?_
  obtain ⟨p0, _⟩ := x
  change ByteArray at p0
  have hE : EnvOK Tryz.prog (readE fu) := envL_ok (l := [(9, 0, script_Valid_g fu), (11, 0, script_line_g fu), (14, 0, strings_Cut_g fu), (50, 0, script_verbs_1_1_F54_g fu), (52, 0, script_alert_g fu)]) ⟨script_Valid_ok fu, script_line_ok fu, strings_Cut_ok fu, script_verbs_1_1_F54_ok fu, script_alert_ok fu, trivial⟩
  obtain ⟨⟨a, b, c⟩, hcut, hq⟩ := optc_some hq
  replace hq : (if a = tickB then optc (script_verbs_1_1_F54 fu b 1) (fun (a0, a1) => readTail fu p0 a0 a1) else if a = alertB then optc (script_alert fu b) (fun (a0, a1) => readTail fu p0 a0 a1) else none) = some q := hq
  have hv0 : vc Tryz.prog ty (readE fu) [] Tryz.f15.ntmps fu (codeL (Tryz.f15.body.getD .skip)) .go (argSlotsB 0 (SL.put 0 [.one .str] (p0, ()))) [] (fun e ts hs => match e with
      | .normal => vc Tryz.prog ty (readE fu) [] Tryz.f15.ntmps fu (codeL (codeR (Tryz.f15.body.getD .skip))) .go ts hs K1
      | _ => none) = some (p0, a, b) := by
    have e : vc Tryz.prog ty (readE fu) [] Tryz.f15.ntmps fu (codeL (Tryz.f15.body.getD .skip)) .go (argSlotsB 0 (SL.put 0 [.one .str] (p0, ()))) [] (fun e ts hs => match e with
      | .normal => vc Tryz.prog ty (readE fu) [] Tryz.f15.ntmps fu (codeL (codeR (Tryz.f15.body.getD .skip))) .go ts hs K1
      | _ => none) = optc (strings_Cut fu p0 (ByteArray.mk (List.toArray (32 :: [])))) fun (a, (b, c)) => some (p0, a, b) := by kernel_rfl
    rw [e, hcut]; rfl
  have hk' : Γ.names = [] := hk
  refine AWp.seq ((vc_ok (ty := ty) (fu := fu) hE hk' hn _ .go _ _ L0 _ hv0 hL0).mono fun e s1 => ?_)
  rintro ⟨ts1, hs1, L1, rfl, hi1, hk1⟩
  cases e <;> try (simp at hk1; done)
  refine AWp.seq ((vc_ok (ty := ty) (fu := fu) hE hk' hn _ .go _ _ L1 _ hk1 hi1).mono fun e s2 => ?_)
  rintro ⟨ts2, hs2, L2, rfl, hi2, hk2⟩
  obtain ⟨rfl, h0, h2, h4, h5, hb, n1, n2, f1, f2⟩ := K1_some hk2
  by_cases ha : a = tickB
  · subst ha
    rw [if_pos rfl] at hq
    refine AWp.seq ((r2_tick (by rw [hn]; rfl) hk' h0 h2 h4 h5 hb n1 n2 f1 f2).mono fun e s3 => ?_)
    rintro ⟨rfl, rfl⟩
    have hi3 : AM.Inv L2 [(1002, BO.box zerosA), (60001, .box [.n .i64 1]), (60002, .box [.v (fV 54)])] := fun n t l v hl => by
      simp only [AM.look] at hl
      split at hl
      · simp at hl
      · split at hl
        · simp at hl
        · split at hl <;> simp at hl
    refine vc_ok (ty := ty) (fu := fu) hE hk' hn _ .go _ _ L2 _ ?_ hi3
    refine Eq.trans ?_ hq
    kernel_rfl
  · rw [if_neg ha] at hq
    by_cases ha2 : a = alertB
    · subst ha2
      rw [if_pos rfl] at hq
      refine AWp.seq ((r2_alert (by rw [hn]; rfl) hk' h0 h2 h4 h5 hb).mono fun e s3 => ?_)
      rintro ⟨rfl, rfl⟩
      have hi3 : AM.Inv L2 [(1002, BO.box zerosA)] := fun n t l v hl => by
        simp only [AM.look] at hl
        split at hl <;> simp at hl
      refine vc_ok (ty := ty) (fu := fu) hE hk' hn _ .go _ _ L2 _ ?_ hi3
      refine Eq.trans ?_ hq
      kernel_rfl
    · rw [if_neg ha2] at hq
      simp at hq
end
open Go AM
noncomputable section
def r25_In (fu : Nat) (p0 : Int) (p1 : Int) (p2 : Int) : Option (Bool) :=
  (cnd (decide (p1 ≤ p0))
   (cnd (decide (p0 ≤ p2))
    (some true)
    (some false))
   (some false))
def r25_In_g (fu : Nat) : Sig := mkSig [.one (.num .i64), .one (.num .i64), .one (.num .i64)] [] [.one (.boo)] [] [] (Bool) (fun q => ((q, ()), ())) (fun x y => r25_In fu x.1 x.2.1 x.2.2.1)
theorem r25_In_ok (fu : Nat) : FnOK Tryz.prog 36 (r25_In_g fu) :=
  FnOK.intro (ty := ty) (E := envL []) (fu := fu) (an := .go) (fun a b => a.1) (fun _ _ => rfl) (envL_ok (l := []) trivial) Tryz.func36 rfl rfl (fun x y => by kernel_rfl)
def r44_number (fu : Nat) (p0 : Int) : Option (Bool) :=
  (optc (r25_In fu p0 0 9999999999) fun a0 =>
   (some a0))
def r44_number_g (fu : Nat) : Sig := mkSig [.one (.num .i64)] [] [.one (.boo)] [] [] (Bool) (fun q => ((q, ()), ())) (fun x y => r44_number fu x.1)
theorem r44_number_ok (fu : Nat) : FnOK Tryz.prog 16 (r44_number_g fu) :=
  FnOK.intro (ty := ty) (E := envL [(36, 0, r25_In_g fu)]) (fu := fu) (an := .go) (fun a b => a.1) (fun _ _ => rfl) (envL_ok (l := [(36, 0, r25_In_g fu)]) ⟨r25_In_ok fu, trivial⟩) Tryz.func16 rfl rfl (fun x y => by kernel_rfl)
def r25_Decimal (fu : Nat) (p0 : Int) : Option (ByteArray) :=
  (join (Y := ((ByteArray × Unit) × Unit)) (fun ((a0, _), _) =>
    (some a0)) fun J1 =>
   (iterF (X := ((Int × (ByteArray × Unit)) × Unit)) (fun L2 ((a3, (a4, _)), _) =>
    (join (Y := ((Int × (ByteArray × Unit)) × Unit)) (fun ((a5, (a6, _)), _) =>
      (nzc 10 (lec ((ByteArray.size (ByteArray.mk (List.toArray ((UInt8.ofNat (Int.toNat (IntKind.wrap .u8 (IntKind.wrap .i64 (48 + (Int.tmod a5 10)))))) :: [])))) + (ByteArray.size a6)) 9223372036854775807 (nzc 10 (L2 (((IntKind.wrap .i64 (Int.tdiv a5 10)), (((ByteArray.mk (List.toArray ((UInt8.ofNat (Int.toNat (IntKind.wrap .u8 (IntKind.wrap .i64 (48 + (Int.tmod a5 10)))))) :: []))) ++ a6), ())), ())))))) fun J7 =>
     (cnd (decide (0 < a3))
      (J7 ((a3, (a4, ())), ()))
      (cnd (decide (a4 = (ByteArray.mk (List.toArray []))))
       (J7 ((a3, (a4, ())), ()))
       (J1 ((a4, ()), ())))))) fu ((p0, ((ByteArray.mk (List.toArray [])), ())), ())))
def r25_Decimal_g (fu : Nat) : Sig := mkSig [.one (.num .i64)] [] [.one (.str)] [] [] (ByteArray) (fun q => ((q, ()), ())) (fun x y => r25_Decimal fu x.1)
theorem r25_Decimal_ok (fu : Nat) : FnOK Tryz.prog 17 (r25_Decimal_g fu) :=
  FnOK.intro (ty := ty) (E := envL []) (fu := fu) (an := .two (.go) (.two (.go) (.two (.join [(3, .one (.str))] [] (.one (.loop [(0, .one (.num .i64)), (3, .one (.str))] [] (.two (.join [(0, .one (.num .i64)), (3, .one (.str))] [] (.go)) (.go))))) (.go)))) (fun a b => a.1) (fun _ _ => rfl) (envL_ok (l := []) trivial) Tryz.func17 rfl rfl (fun x y => by kernel_rfl)
def r20_Key (fu : Nat) (p0 : ByteArray) : Option (Bool) :=
  (join (Y := ((ByteArray × Unit) × Unit)) (fun ((a0, _), _) =>
    (iterF (X := ((ByteArray × (Int × Unit)) × Unit)) (fun L1 ((a2, (a3, _)), _) =>
     (cnd (decide (a3 < (((ByteArray.size a2) : Nat) : Int)))
      (join (Y := ((ByteArray × (Int × Unit)) × Unit)) (fun ((a4, (a5, _)), _) =>
        (L1 ((a4, ((IntKind.wrap .i64 (a5 + 1)), ())), ()))) fun J6 =>
       (natc a3 fun a7 =>
        (ltc a7 (ByteArray.size a2) (cnd (decide ((((bAt a2 a7) : Nat) : Int) < 97))
         (natc a3 fun a8 =>
          (ltc a8 (ByteArray.size a2) (cnd (decide ((((bAt a2 a8) : Nat) : Int) < 48))
           (natc a3 fun a9 =>
            (ltc a9 (ByteArray.size a2) (cnd (decide ((((bAt a2 a9) : Nat) : Int) ≠ 95))
             (some false)
             (J6 ((a2, (a3, ())), ())))))
           (natc a3 fun a10 =>
            (ltc a10 (ByteArray.size a2) (cnd (decide (57 < (((bAt a2 a10) : Nat) : Int)))
             (natc a3 fun a11 =>
              (ltc a11 (ByteArray.size a2) (cnd (decide ((((bAt a2 a11) : Nat) : Int) ≠ 95))
               (some false)
               (J6 ((a2, (a3, ())), ())))))
             (J6 ((a2, (a3, ())), ()))))))))
         (natc a3 fun a12 =>
          (ltc a12 (ByteArray.size a2) (cnd (decide (122 < (((bAt a2 a12) : Nat) : Int)))
           (natc a3 fun a13 =>
            (ltc a13 (ByteArray.size a2) (cnd (decide ((((bAt a2 a13) : Nat) : Int) < 48))
             (natc a3 fun a14 =>
              (ltc a14 (ByteArray.size a2) (cnd (decide ((((bAt a2 a14) : Nat) : Int) ≠ 95))
               (some false)
               (J6 ((a2, (a3, ())), ())))))
             (natc a3 fun a15 =>
              (ltc a15 (ByteArray.size a2) (cnd (decide (57 < (((bAt a2 a15) : Nat) : Int)))
               (natc a3 fun a16 =>
                (ltc a16 (ByteArray.size a2) (cnd (decide ((((bAt a2 a16) : Nat) : Int) ≠ 95))
                 (some false)
                 (J6 ((a2, (a3, ())), ())))))
               (J6 ((a2, (a3, ())), ()))))))))
           (J6 ((a2, (a3, ())), ())))))))))
      (some true))) fu ((a0, (0, ())), ()))) fun J17 =>
   (cnd (decide ((((ByteArray.size p0) : Nat) : Int) < 1))
    (some false)
    (cnd (decide (24 < (((ByteArray.size p0) : Nat) : Int)))
     (some false)
     (natc 0 fun a18 =>
      (ltc a18 (ByteArray.size p0) (cnd (decide ((((bAt p0 a18) : Nat) : Int) < 97))
       (some false)
       (natc 0 fun a19 =>
        (ltc a19 (ByteArray.size p0) (cnd (decide (122 < (((bAt p0 a19) : Nat) : Int)))
         (some false)
         (J17 ((p0, ()), ())))))))))))
def r20_Key_g (fu : Nat) : Sig := mkSig [.one (.str)] [] [.one (.boo)] [] [] (Bool) (fun q => ((q, ()), ())) (fun x y => r20_Key fu x.1)
theorem r20_Key_ok (fu : Nat) : FnOK Tryz.prog 37 (r20_Key_g fu) :=
  FnOK.intro (ty := ty) (E := envL []) (fu := fu) (an := .two (.go) (.two (.join [(0, .one (.str))] [] (.go)) (.two (.two (.go) (.one (.loop [(0, .one (.str)), (3, .one (.num .i64))] [] (.two (.go) (.two (.join [(0, .one (.str)), (3, .one (.num .i64))] [] (.go)) (.go)))))) (.go)))) (fun a b => a.1) (fun _ _ => rfl) (envL_ok (l := []) trivial) Tryz.func37 rfl rfl (fun x y => by kernel_rfl)
def r20_value (fu : Nat) (p0 : ByteArray) : Option (Bool) :=
  (cnd (decide (64 < (((ByteArray.size p0) : Nat) : Int)))
   (some false)
   (iterF (X := ((ByteArray × (Int × Unit)) × Unit)) (fun L0 ((a1, (a2, _)), _) =>
    (cnd (decide (a2 < (((ByteArray.size a1) : Nat) : Int)))
     (join (Y := ((ByteArray × (Int × Unit)) × Unit)) (fun ((a3, (a4, _)), _) =>
       (L0 ((a3, ((IntKind.wrap .i64 (a4 + 1)), ())), ()))) fun J5 =>
      (natc a2 fun a6 =>
       (ltc a6 (ByteArray.size a1) (cnd (decide ((((bAt a1 a6) : Nat) : Int) < 32))
        (some false)
        (natc a2 fun a7 =>
         (ltc a7 (ByteArray.size a1) (cnd (decide (126 < (((bAt a1 a7) : Nat) : Int)))
          (some false)
          (J5 ((a1, (a2, ())), ())))))))))
     (some true))) fu ((p0, (0, ())), ())))
def r20_value_g (fu : Nat) : Sig := mkSig [.one (.str)] [] [.one (.boo)] [] [] (Bool) (fun q => ((q, ()), ())) (fun x y => r20_value fu x.1)
theorem r20_value_ok (fu : Nat) : FnOK Tryz.prog 38 (r20_value_g fu) :=
  FnOK.intro (ty := ty) (E := envL []) (fu := fu) (an := .two (.go) (.two (.go) (.two (.two (.go) (.one (.loop [(0, .one (.str)), (3, .one (.num .i64))] [] (.two (.go) (.two (.join [(0, .one (.str)), (3, .one (.num .i64))] [] (.go)) (.go)))))) (.go)))) (fun a b => a.1) (fun _ _ => rfl) (envL_ok (l := []) trivial) Tryz.func38 rfl rfl (fun x y => by kernel_rfl)
def r20_Valid (fu : Nat) (p0 : List D.Label) : Option (Bool) :=
  (cnd (decide (12 < (((List.length p0) : Nat) : Int)))
   (some false)
   (iterF (X := ((List D.Label × (Int × Unit)) × Unit)) (fun L0 ((a1, (a2, _)), _) =>
    (cnd (decide (a2 < (((List.length a1) : Nat) : Int)))
     (join (Y := ((List D.Label × (Int × Unit)) × Unit)) (fun ((a3, (a4, _)), _) =>
       (L0 ((a3, ((IntKind.wrap .i64 (a4 + 1)), ())), ()))) fun J5 =>
      (atc a1 a2 fun a6 =>
       (optc (r20_Key fu (D.Label.Key a6)) fun a7 =>
        (cnd a7
         (atc a1 a2 fun a8 =>
          (optc (r20_value fu (D.Label.Value a8)) fun a9 =>
           (cnd a9
            (atc a1 a2 fun a10 =>
             (cnd (decide ((D.Label.Value a10) = (ByteArray.mk (List.toArray []))))
              (some false)
              (cnd (decide (0 < a2))
               (atc a1 a2 fun a11 =>
                (atc a1 (IntKind.wrap .i64 (a2 - 1)) fun a12 =>
                 (cnd (leT (D.Label.Key a11) (D.Label.Key a12))
                  (some false)
                  (J5 ((a1, (a2, ())), ())))))
               (J5 ((a1, (a2, ())), ())))))
            (some false))))
         (some false)))))
     (some true))) fu ((p0, (0, ())), ())))
def r20_Valid_g (fu : Nat) : Sig := mkSig [.one (.lst .Label)] [] [.one (.boo)] [] [] (Bool) (fun q => ((q, ()), ())) (fun x y => r20_Valid fu x.1)
theorem r20_Valid_ok (fu : Nat) : FnOK Tryz.prog 18 (r20_Valid_g fu) :=
  FnOK.intro (ty := ty) (E := envL [(37, 0, r20_Key_g fu), (38, 0, r20_value_g fu)]) (fu := fu) (an := .two (.go) (.two (.go) (.two (.two (.go) (.one (.loop [(0, .one (.lst .Label)), (3, .one (.num .i64))] [] (.two (.go) (.two (.join [(0, .one (.lst .Label)), (3, .one (.num .i64))] [] (.go)) (.go)))))) (.go)))) (fun a b => a.1) (fun _ _ => rfl) (envL_ok (l := [(37, 0, r20_Key_g fu), (38, 0, r20_value_g fu)]) ⟨r20_Key_ok fu, r20_value_ok fu, trivial⟩) Tryz.func18 rfl rfl (fun x y => by kernel_rfl)
def r20_quote (fu : Nat) (p0 : ByteArray) : Option (ByteArray) :=
  (iterF (X := ((ByteArray × (ByteArray × (Int × Unit))) × Unit)) (fun L0 ((a1, (a2, (a3, _))), _) =>
   (cnd (decide (a3 < (((ByteArray.size a1) : Nat) : Int)))
    (join (Y := ((ByteArray × (ByteArray × (Int × Unit))) × Unit)) (fun ((a4, (a5, (a6, _))), _) =>
      (natc a6 fun a7 =>
       (natc (IntKind.wrap .i64 (a6 + 1)) fun a8 =>
        (lec a7 a8 (lec a8 (ByteArray.size a4) (lec ((ByteArray.size a5) + (ByteArray.size (ByteArray.extract a4 a7 a8))) 9223372036854775807 (L0 ((a4, ((a5 ++ (ByteArray.extract a4 a7 a8)), ((IntKind.wrap .i64 (a6 + 1)), ()))), ())))))))) fun J9 =>
     (natc a3 fun a10 =>
      (ltc a10 (ByteArray.size a1) (cnd (decide ((((bAt a1 a10) : Nat) : Int) = 34))
       (lec ((ByteArray.size a2) + (ByteArray.size (ByteArray.mk (List.toArray (92 :: []))))) 9223372036854775807 (J9 ((a1, ((a2 ++ (ByteArray.mk (List.toArray (92 :: [])))), (a3, ()))), ())))
       (natc a3 fun a11 =>
        (ltc a11 (ByteArray.size a1) (cnd (decide ((((bAt a1 a11) : Nat) : Int) = 92))
         (lec ((ByteArray.size a2) + (ByteArray.size (ByteArray.mk (List.toArray (92 :: []))))) 9223372036854775807 (J9 ((a1, ((a2 ++ (ByteArray.mk (List.toArray (92 :: [])))), (a3, ()))), ())))
         (J9 ((a1, (a2, (a3, ()))), ())))))))))
    (lec ((ByteArray.size a2) + (ByteArray.size (ByteArray.mk (List.toArray (34 :: []))))) 9223372036854775807 (some (a2 ++ (ByteArray.mk (List.toArray (34 :: [])))))))) fu ((p0, ((ByteArray.mk (List.toArray (34 :: []))), (0, ()))), ()))
def r20_quote_g (fu : Nat) : Sig := mkSig [.one (.str)] [] [.one (.str)] [] [] (ByteArray) (fun q => ((q, ()), ())) (fun x y => r20_quote fu x.1)
theorem r20_quote_ok (fu : Nat) : FnOK Tryz.prog 39 (r20_quote_g fu) :=
  FnOK.intro (ty := ty) (E := envL []) (fu := fu) (an := .two (.go) (.two (.go) (.two (.two (.go) (.one (.loop [(0, .one (.str)), (3, .one (.str)), (4, .one (.num .i64))] [] (.two (.go) (.two (.one (.two (.join [(0, .one (.str)), (3, .one (.str)), (4, .one (.num .i64))] [] (.go)) (.go))) (.go)))))) (.go)))) (fun a b => a.1) (fun _ _ => rfl) (envL_ok (l := []) trivial) Tryz.func39 rfl rfl (fun x y => by kernel_rfl)
def r20_Text (fu : Nat) (p0 : List D.Label) : Option (ByteArray) :=
  (optc (r20_Valid fu p0) fun a0 =>
   (cnd (!a0)
    (some (ByteArray.mk (List.toArray [])))
    (iterF (X := ((List D.Label × (ByteArray × (Int × Unit))) × Unit)) (fun L1 ((a2, (a3, (a4, _))), _) =>
     (cnd (decide (a4 < (((List.length a2) : Nat) : Int)))
      (join (Y := ((List D.Label × (ByteArray × (Int × Unit))) × Unit)) (fun ((a5, (a6, (a7, _))), _) =>
        (atc a5 a7 fun a8 =>
         (lec ((ByteArray.size (D.Label.Key a8)) + (ByteArray.size (ByteArray.mk (List.toArray (61 :: []))))) 9223372036854775807 (atc a5 a7 fun a9 =>
          (optc (r20_quote fu (D.Label.Value a9)) fun a10 =>
           (lec ((ByteArray.size ((D.Label.Key a8) ++ (ByteArray.mk (List.toArray (61 :: []))))) + (ByteArray.size a10)) 9223372036854775807 (lec ((ByteArray.size a6) + (ByteArray.size (((D.Label.Key a8) ++ (ByteArray.mk (List.toArray (61 :: [])))) ++ a10))) 9223372036854775807 (L1 ((a5, ((a6 ++ (((D.Label.Key a8) ++ (ByteArray.mk (List.toArray (61 :: [])))) ++ a10)), ((IntKind.wrap .i64 (a7 + 1)), ()))), ()))))))))) fun J11 =>
       (cnd (decide (0 < a4))
        (lec ((ByteArray.size a3) + (ByteArray.size (ByteArray.mk (List.toArray (44 :: []))))) 9223372036854775807 (J11 ((a2, ((a3 ++ (ByteArray.mk (List.toArray (44 :: [])))), (a4, ()))), ())))
        (J11 ((a2, (a3, (a4, ()))), ()))))
      (lec ((ByteArray.size a3) + (ByteArray.size (ByteArray.mk (List.toArray (125 :: []))))) 9223372036854775807 (some (a3 ++ (ByteArray.mk (List.toArray (125 :: [])))))))) fu ((p0, ((ByteArray.mk (List.toArray (123 :: []))), (0, ()))), ()))))
def r20_Text_g (fu : Nat) : Sig := mkSig [.one (.lst .Label)] [] [.one (.str)] [] [] (ByteArray) (fun q => ((q, ()), ())) (fun x y => r20_Text fu x.1)
theorem r20_Text_ok (fu : Nat) : FnOK Tryz.prog 19 (r20_Text_g fu) :=
  FnOK.intro (ty := ty) (E := envL [(18, 0, r20_Valid_g fu), (39, 0, r20_quote_g fu)]) (fu := fu) (an := .two (.go) (.two (.go) (.two (.go) (.two (.two (.go) (.one (.loop [(0, .one (.lst .Label)), (3, .one (.str)), (4, .one (.num .i64))] [] (.two (.go) (.two (.one (.two (.join [(0, .one (.lst .Label)), (3, .one (.str)), (4, .one (.num .i64))] [] (.go)) (.go))) (.go)))))) (.go))))) (fun a b => a.1) (fun _ _ => rfl) (envL_ok (l := [(18, 0, r20_Valid_g fu), (39, 0, r20_quote_g fu)]) ⟨r20_Valid_ok fu, r20_quote_ok fu, trivial⟩) Tryz.func19 rfl rfl (fun x y => by kernel_rfl)
def r44_printable (fu : Nat) (p0 : ByteArray) : Option (Bool) :=
  (iterF (X := ((ByteArray × (Int × Unit)) × Unit)) (fun L0 ((a1, (a2, _)), _) =>
   (cnd (decide (a2 < (((ByteArray.size a1) : Nat) : Int)))
    (join (Y := ((ByteArray × (Int × Unit)) × Unit)) (fun ((a3, (a4, _)), _) =>
      (L0 ((a3, ((IntKind.wrap .i64 (a4 + 1)), ())), ()))) fun J5 =>
     (natc a2 fun a6 =>
      (ltc a6 (ByteArray.size a1) (cnd (decide ((((bAt a1 a6) : Nat) : Int) < 32))
       (some false)
       (natc a2 fun a7 =>
        (ltc a7 (ByteArray.size a1) (cnd (decide (126 < (((bAt a1 a7) : Nat) : Int)))
         (some false)
         (J5 ((a1, (a2, ())), ())))))))))
    (some (decide (a1 ≠ (ByteArray.mk (List.toArray []))))))) fu ((p0, (0, ())), ()))
def r44_printable_g (fu : Nat) : Sig := mkSig [.one (.str)] [] [.one (.boo)] [] [] (Bool) (fun q => ((q, ()), ())) (fun x y => r44_printable fu x.1)
theorem r44_printable_ok (fu : Nat) : FnOK Tryz.prog 20 (r44_printable_g fu) :=
  FnOK.intro (ty := ty) (E := envL []) (fu := fu) (an := .two (.go) (.two (.two (.go) (.one (.loop [(0, .one (.str)), (3, .one (.num .i64))] [] (.two (.go) (.two (.join [(0, .one (.str)), (3, .one (.num .i64))] [] (.go)) (.go)))))) (.go))) (fun a b => a.1) (fun _ _ => rfl) (envL_ok (l := []) trivial) Tryz.func20 rfl rfl (fun x y => by kernel_rfl)
def r44_words (fu : Nat) (p0 : List Int) : Option (ByteArray) :=
  (iterF (X := ((List Int × (ByteArray × (Int × Unit))) × Unit)) (fun L0 ((a1, (a2, (a3, _))), _) =>
   (cnd (decide (a3 < (((List.length a1) : Nat) : Int)))
    (atc a1 a3 fun a4 =>
     (optc (r25_Decimal fu (max a4 0)) fun a5 =>
      (lec ((ByteArray.size (ByteArray.mk (List.toArray (32 :: [])))) + (ByteArray.size a5)) 9223372036854775807 (lec ((ByteArray.size a2) + (ByteArray.size ((ByteArray.mk (List.toArray (32 :: []))) ++ a5))) 9223372036854775807 (L0 ((a1, ((a2 ++ ((ByteArray.mk (List.toArray (32 :: []))) ++ a5)), ((IntKind.wrap .i64 (a3 + 1)), ()))), ()))))))
    (some a2))) fu ((p0, ((ByteArray.mk (List.toArray [])), (0, ()))), ()))
def r44_words_g (fu : Nat) : Sig := mkSig [.one (.lst .int)] [] [.one (.str)] [] [] (ByteArray) (fun q => ((q, ()), ())) (fun x y => r44_words fu x.1)
theorem r44_words_ok (fu : Nat) : FnOK Tryz.prog 21 (r44_words_g fu) :=
  FnOK.intro (ty := ty) (E := envL [(17, 0, r25_Decimal_g fu)]) (fu := fu) (an := .two (.go) (.two (.go) (.two (.two (.go) (.one (.loop [(0, .one (.lst .int)), (3, .one (.str)), (4, .one (.num .i64))] [] (.go)))) (.go)))) (fun a b => a.1) (fun _ _ => rfl) (envL_ok (l := [(17, 0, r25_Decimal_g fu)]) ⟨r25_Decimal_ok fu, trivial⟩) Tryz.func21 rfl rfl (fun x y => by kernel_rfl)
def r44_person (fu : Nat) (p0 : Int) : Option (ByteArray) :=
  (cnd (decide (p0 = (-1)))
   (some (ByteArray.mk (List.toArray (32 :: (45 :: [])))))
   (optc (r44_words fu (p0 :: [])) fun a0 =>
    (some a0)))
def r44_person_g (fu : Nat) : Sig := mkSig [.one (.num .i64)] [] [.one (.str)] [] [] (ByteArray) (fun q => ((q, ()), ())) (fun x y => r44_person fu x.1)
theorem r44_person_ok (fu : Nat) : FnOK Tryz.prog 22 (r44_person_g fu) :=
  FnOK.intro (ty := ty) (E := envL [(21, 0, r44_words_g fu)]) (fu := fu) (an := .go) (fun a b => a.1) (fun _ _ => rfl) (envL_ok (l := [(21, 0, r44_words_g fu)]) ⟨r44_words_ok fu, trivial⟩) Tryz.func22 rfl rfl (fun x y => by kernel_rfl)
def r44_sameLabels (fu : Nat) (p0 : List D.Label) (p1 : List D.Label) : Option (Bool) :=
  (cnd (decide ((((List.length p0) : Nat) : Int) ≠ (((List.length p1) : Nat) : Int)))
   (some false)
   (iterF (X := ((List D.Label × (List D.Label × (Int × Unit))) × Unit)) (fun L0 ((a1, (a2, (a3, _))), _) =>
    (cnd (decide (a3 < (((List.length a1) : Nat) : Int)))
     (atc a1 a3 fun a4 =>
      (atc a2 a3 fun a5 =>
       (cnd (decide (((D.Label.Key a4) :: ((D.Label.Value a4) :: [])) ≠ ((D.Label.Key a5) :: ((D.Label.Value a5) :: []))))
        (some false)
        (L0 ((a1, (a2, ((IntKind.wrap .i64 (a3 + 1)), ()))), ())))))
     (some true))) fu ((p0, (p1, (0, ()))), ())))
def r44_sameLabels_g (fu : Nat) : Sig := mkSig [.one (.lst .Label), .one (.lst .Label)] [] [.one (.boo)] [] [] (Bool) (fun q => ((q, ()), ())) (fun x y => r44_sameLabels fu x.1 x.2.1)
theorem r44_sameLabels_ok (fu : Nat) : FnOK Tryz.prog 40 (r44_sameLabels_g fu) :=
  FnOK.intro (ty := ty) (E := envL []) (fu := fu) (an := .two (.go) (.two (.go) (.two (.two (.go) (.one (.loop [(0, .one (.lst .Label)), (1, .one (.lst .Label)), (5, .one (.num .i64))] [] (.go)))) (.go)))) (fun a b => a.1) (fun _ _ => rfl) (envL_ok (l := []) trivial) Tryz.func40 rfl rfl (fun x y => by kernel_rfl)
def r44_SameAct (fu : Nat) (p0 : D.Act) (p1 : D.Act) : Option (Bool) :=
  (cnd (decide ((D.Act.Kind p0) = (D.Act.Kind p1)))
   (cnd (decide ((D.Act.At p0) = (D.Act.At p1)))
    (cnd (decide ((D.Alert.At (D.Act.Alert p0)) = (D.Alert.At (D.Act.Alert p1))))
     (cnd (D.Alert.Firing (D.Act.Alert p0))
      (cnd (D.Alert.Firing (D.Act.Alert p1))
       (optc (r44_sameLabels fu (D.Alert.Labels (D.Act.Alert p0)) (D.Alert.Labels (D.Act.Alert p1))) fun a0 =>
        (cnd a0
         (cnd (decide (((D.Answer.ID (D.Act.Answer p0)) :: ((D.Answer.Page (D.Act.Answer p0)) :: ((D.Answer.Person (D.Act.Answer p0)) :: ((D.Answer.Kind (D.Act.Answer p0)) :: ((D.Answer.Arg (D.Act.Answer p0)) :: ((D.Answer.At (D.Act.Answer p0)) :: [])))))) = ((D.Answer.ID (D.Act.Answer p1)) :: ((D.Answer.Page (D.Act.Answer p1)) :: ((D.Answer.Person (D.Act.Answer p1)) :: ((D.Answer.Kind (D.Act.Answer p1)) :: ((D.Answer.Arg (D.Act.Answer p1)) :: ((D.Answer.At (D.Act.Answer p1)) :: []))))))))
          (cnd (decide ((D.Act.Schedule p0) = (D.Act.Schedule p1)))
           (cnd (decide (((D.Edit.Kind (D.Act.Edit p0)) :: ((D.Edit.A (D.Act.Edit p0)) :: ((D.Edit.B (D.Act.Edit p0)) :: ((D.Edit.From (D.Act.Edit p0)) :: ((D.Edit.To (D.Act.Edit p0)) :: []))))) = ((D.Edit.Kind (D.Act.Edit p1)) :: ((D.Edit.A (D.Act.Edit p1)) :: ((D.Edit.B (D.Act.Edit p1)) :: ((D.Edit.From (D.Act.Edit p1)) :: ((D.Edit.To (D.Act.Edit p1)) :: [])))))))
            (cnd (decide ((D.Act.Arg p0) = (D.Act.Arg p1)))
             (cnd (decide ((D.Act.K p0) = (D.Act.K p1)))
              (cnd (decide ((D.Act.Person p0) = (D.Act.Person p1)))
               (cnd (decide ((D.Act.Text p0) = (D.Act.Text p1)))
                (some true)
                (some false))
               (some false))
              (some false))
             (some false))
            (some false))
           (some false))
          (some false))
         (some false)))
       (some false))
      (cnd (D.Alert.Firing (D.Act.Alert p1))
       (some false)
       (optc (r44_sameLabels fu (D.Alert.Labels (D.Act.Alert p0)) (D.Alert.Labels (D.Act.Alert p1))) fun a1 =>
        (cnd a1
         (cnd (decide (((D.Answer.ID (D.Act.Answer p0)) :: ((D.Answer.Page (D.Act.Answer p0)) :: ((D.Answer.Person (D.Act.Answer p0)) :: ((D.Answer.Kind (D.Act.Answer p0)) :: ((D.Answer.Arg (D.Act.Answer p0)) :: ((D.Answer.At (D.Act.Answer p0)) :: [])))))) = ((D.Answer.ID (D.Act.Answer p1)) :: ((D.Answer.Page (D.Act.Answer p1)) :: ((D.Answer.Person (D.Act.Answer p1)) :: ((D.Answer.Kind (D.Act.Answer p1)) :: ((D.Answer.Arg (D.Act.Answer p1)) :: ((D.Answer.At (D.Act.Answer p1)) :: []))))))))
          (cnd (decide ((D.Act.Schedule p0) = (D.Act.Schedule p1)))
           (cnd (decide (((D.Edit.Kind (D.Act.Edit p0)) :: ((D.Edit.A (D.Act.Edit p0)) :: ((D.Edit.B (D.Act.Edit p0)) :: ((D.Edit.From (D.Act.Edit p0)) :: ((D.Edit.To (D.Act.Edit p0)) :: []))))) = ((D.Edit.Kind (D.Act.Edit p1)) :: ((D.Edit.A (D.Act.Edit p1)) :: ((D.Edit.B (D.Act.Edit p1)) :: ((D.Edit.From (D.Act.Edit p1)) :: ((D.Edit.To (D.Act.Edit p1)) :: [])))))))
            (cnd (decide ((D.Act.Arg p0) = (D.Act.Arg p1)))
             (cnd (decide ((D.Act.K p0) = (D.Act.K p1)))
              (cnd (decide ((D.Act.Person p0) = (D.Act.Person p1)))
               (cnd (decide ((D.Act.Text p0) = (D.Act.Text p1)))
                (some true)
                (some false))
               (some false))
              (some false))
             (some false))
            (some false))
           (some false))
          (some false))
         (some false)))))
     (some false))
    (some false))
   (some false))
def r44_SameAct_g (fu : Nat) : Sig := mkSig [.st .Act, .st .Act] [] [.one (.boo)] [] [] (Bool) (fun q => ((q, ()), ())) (fun x y => r44_SameAct fu x.1 x.2.1)
theorem r44_SameAct_ok (fu : Nat) : FnOK Tryz.prog 23 (r44_SameAct_g fu) :=
  FnOK.intro (ty := ty) (E := envL [(40, 0, r44_sameLabels_g fu)]) (fu := fu) (an := .go) (fun a b => a.1) (fun _ _ => rfl) (envL_ok (l := [(40, 0, r44_sameLabels_g fu)]) ⟨r44_sameLabels_ok fu, trivial⟩) Tryz.func23 rfl rfl (fun x y => by kernel_rfl)
def r44_line (fu : Nat) (p0 : D.Act) : Option (ByteArray × Bool) :=
  (optc (r44_number fu (D.Act.At p0)) fun a0 =>
   (optc (r25_Decimal fu (max (D.Act.At p0) 0)) fun a1 =>
    (lec ((ByteArray.size (ByteArray.mk (List.toArray (32 :: [])))) + (ByteArray.size a1)) 9223372036854775807 (join (Y := ((Bool × (ByteArray × Unit)) × (D.Act × (D.Act × Unit)))) (fun ((a2, (a3, _)), (a4, (a5, _))) =>
      (cnd a2
       (optc (r44_SameAct fu a4 a5) fun a6 =>
        (cnd a6
         (some (a3, true))
         (some (a3, false))))
       (some (a3, false)))) fun J7 =>
     (cnd (decide ((D.Act.Kind p0) = 1))
      (join (Y := ((Bool × (ByteArray × Unit)) × (D.Act × (D.Act × Unit)))) (fun ((a8, (a9, _)), (a10, (a11, _))) =>
        (lec ((ByteArray.size (ByteArray.mk (List.toArray (97 :: (108 :: (101 :: (114 :: (116 :: [])))))))) + (ByteArray.size a9)) 9223372036854775807 (lec ((ByteArray.size ((ByteArray.mk (List.toArray (97 :: (108 :: (101 :: (114 :: (116 :: []))))))) ++ a9)) + (ByteArray.size (ByteArray.mk (List.toArray (32 :: (114 :: (101 :: (115 :: (111 :: (108 :: (118 :: (101 :: (100 :: (32 :: [])))))))))))))) 9223372036854775807 (join (Y := ((Bool × (ByteArray × Unit)) × (D.Act × (D.Act × Unit)))) (fun ((a12, (a13, _)), (a14, (a15, _))) =>
          (optc (r20_Text fu (D.Alert.Labels (D.Act.Alert a14))) fun a16 =>
           (lec ((ByteArray.size a13) + (ByteArray.size a16)) 9223372036854775807 (J7 ((a12, ((a13 ++ a16), ())), (a14, (a15, ()))))))) fun J17 =>
         (cnd (D.Alert.Firing (D.Act.Alert a10))
          (lec ((ByteArray.size (ByteArray.mk (List.toArray (97 :: (108 :: (101 :: (114 :: (116 :: [])))))))) + (ByteArray.size a9)) 9223372036854775807 (lec ((ByteArray.size ((ByteArray.mk (List.toArray (97 :: (108 :: (101 :: (114 :: (116 :: []))))))) ++ a9)) + (ByteArray.size (ByteArray.mk (List.toArray (32 :: (102 :: (105 :: (114 :: (105 :: (110 :: (103 :: (32 :: [])))))))))))) 9223372036854775807 (J17 ((a8, ((((ByteArray.mk (List.toArray (97 :: (108 :: (101 :: (114 :: (116 :: []))))))) ++ a9) ++ (ByteArray.mk (List.toArray (32 :: (102 :: (105 :: (114 :: (105 :: (110 :: (103 :: (32 :: []))))))))))), ())), (a10, (a11, ()))))))
          (J17 ((a8, ((((ByteArray.mk (List.toArray (97 :: (108 :: (101 :: (114 :: (116 :: []))))))) ++ a9) ++ (ByteArray.mk (List.toArray (32 :: (114 :: (101 :: (115 :: (111 :: (108 :: (118 :: (101 :: (100 :: (32 :: []))))))))))))), ())), (a10, (a11, ()))))))))) fun J18 =>
       (cnd a0
        (cnd (decide ((D.Alert.At (D.Act.Alert p0)) = (D.Act.At p0)))
         (optc (r20_Valid fu (D.Alert.Labels (D.Act.Alert p0))) fun a19 =>
          (cnd a19
           (J18 ((true, (((ByteArray.mk (List.toArray (32 :: []))) ++ a1), ())), (p0, ((D.Act.mk (D.Act.Kind p0) (D.Act.At p0) (D.Act.Alert p0) (D.Answer.mk 0 0 0 0 0 0) 0 (D.Edit.mk 0 0 0 0 0) 0 0 0 (ByteArray.mk (List.toArray []))), ()))))
           (J18 ((false, (((ByteArray.mk (List.toArray (32 :: []))) ++ a1), ())), (p0, ((D.Act.mk (D.Act.Kind p0) (D.Act.At p0) (D.Act.Alert p0) (D.Answer.mk 0 0 0 0 0 0) 0 (D.Edit.mk 0 0 0 0 0) 0 0 0 (ByteArray.mk (List.toArray []))), ()))))))
         (J18 ((false, (((ByteArray.mk (List.toArray (32 :: []))) ++ a1), ())), (p0, ((D.Act.mk (D.Act.Kind p0) (D.Act.At p0) (D.Act.Alert p0) (D.Answer.mk 0 0 0 0 0 0) 0 (D.Edit.mk 0 0 0 0 0) 0 0 0 (ByteArray.mk (List.toArray []))), ())))))
        (J18 ((false, (((ByteArray.mk (List.toArray (32 :: []))) ++ a1), ())), (p0, ((D.Act.mk (D.Act.Kind p0) (D.Act.At p0) (D.Act.Alert p0) (D.Answer.mk 0 0 0 0 0 0) 0 (D.Edit.mk 0 0 0 0 0) 0 0 0 (ByteArray.mk (List.toArray []))), ()))))))
      (cnd (decide ((D.Act.Kind p0) = 2))
       (lec ((ByteArray.size (ByteArray.mk (List.toArray (116 :: (105 :: (99 :: (107 :: []))))))) + (ByteArray.size ((ByteArray.mk (List.toArray (32 :: []))) ++ a1))) 9223372036854775807 (J7 ((a0, (((ByteArray.mk (List.toArray (116 :: (105 :: (99 :: (107 :: [])))))) ++ ((ByteArray.mk (List.toArray (32 :: []))) ++ a1)), ())), (p0, ((D.Act.mk (D.Act.Kind p0) (D.Act.At p0) (D.Alert.mk 0 [] false) (D.Answer.mk 0 0 0 0 0 0) 0 (D.Edit.mk 0 0 0 0 0) 0 0 0 (ByteArray.mk (List.toArray []))), ())))))
       (cnd (decide ((D.Act.Kind p0) = 3))
        (join (Y := ((Bool × (ByteArray × Unit)) × (D.Act × (D.Act × Unit)))) (fun ((a20, (a21, _)), (a22, (a23, _))) =>
          (lec ((ByteArray.size (ByteArray.mk (List.toArray (97 :: (110 :: (115 :: (119 :: (101 :: (114 :: []))))))))) + (ByteArray.size a21)) 9223372036854775807 (lec ((ByteArray.size ((ByteArray.mk (List.toArray (97 :: (110 :: (115 :: (119 :: (101 :: (114 :: [])))))))) ++ a21)) + (ByteArray.size (ByteArray.mk (List.toArray (32 :: []))))) 9223372036854775807 (optc (r25_Decimal fu (max (D.Act.Person a22) 0)) fun a24 =>
           (lec ((ByteArray.size (((ByteArray.mk (List.toArray (97 :: (110 :: (115 :: (119 :: (101 :: (114 :: [])))))))) ++ a21) ++ (ByteArray.mk (List.toArray (32 :: []))))) + (ByteArray.size a24)) 9223372036854775807 (lec ((ByteArray.size ((((ByteArray.mk (List.toArray (97 :: (110 :: (115 :: (119 :: (101 :: (114 :: [])))))))) ++ a21) ++ (ByteArray.mk (List.toArray (32 :: [])))) ++ a24)) + (ByteArray.size (ByteArray.mk (List.toArray (32 :: []))))) 9223372036854775807 (lec ((ByteArray.size (((((ByteArray.mk (List.toArray (97 :: (110 :: (115 :: (119 :: (101 :: (114 :: [])))))))) ++ a21) ++ (ByteArray.mk (List.toArray (32 :: [])))) ++ a24) ++ (ByteArray.mk (List.toArray (32 :: []))))) + (ByteArray.size (D.Act.Text a22))) 9223372036854775807 (J7 ((a20, (((((((ByteArray.mk (List.toArray (97 :: (110 :: (115 :: (119 :: (101 :: (114 :: [])))))))) ++ a21) ++ (ByteArray.mk (List.toArray (32 :: [])))) ++ a24) ++ (ByteArray.mk (List.toArray (32 :: [])))) ++ (D.Act.Text a22)), ())), (a22, (a23, ()))))))))))) fun J25 =>
         (cnd a0
          (optc (r44_number fu (D.Act.Person p0)) fun a26 =>
           (cnd a26
            (optc (r44_printable fu (D.Act.Text p0)) fun a27 =>
             (cnd a27
              (J25 ((true, (((ByteArray.mk (List.toArray (32 :: []))) ++ a1), ())), (p0, ((D.Act.mk (D.Act.Kind p0) (D.Act.At p0) (D.Alert.mk 0 [] false) (D.Answer.mk 0 0 0 0 0 0) 0 (D.Edit.mk 0 0 0 0 0) 0 0 (D.Act.Person p0) (D.Act.Text p0)), ()))))
              (J25 ((false, (((ByteArray.mk (List.toArray (32 :: []))) ++ a1), ())), (p0, ((D.Act.mk (D.Act.Kind p0) (D.Act.At p0) (D.Alert.mk 0 [] false) (D.Answer.mk 0 0 0 0 0 0) 0 (D.Edit.mk 0 0 0 0 0) 0 0 (D.Act.Person p0) (D.Act.Text p0)), ()))))))
            (J25 ((false, (((ByteArray.mk (List.toArray (32 :: []))) ++ a1), ())), (p0, ((D.Act.mk (D.Act.Kind p0) (D.Act.At p0) (D.Alert.mk 0 [] false) (D.Answer.mk 0 0 0 0 0 0) 0 (D.Edit.mk 0 0 0 0 0) 0 0 (D.Act.Person p0) (D.Act.Text p0)), ()))))))
          (J25 ((false, (((ByteArray.mk (List.toArray (32 :: []))) ++ a1), ())), (p0, ((D.Act.mk (D.Act.Kind p0) (D.Act.At p0) (D.Alert.mk 0 [] false) (D.Answer.mk 0 0 0 0 0 0) 0 (D.Edit.mk 0 0 0 0 0) 0 0 (D.Act.Person p0) (D.Act.Text p0)), ()))))))
        (cnd (decide ((D.Act.Kind p0) = 4))
         (join (Y := ((Bool × (ByteArray × Unit)) × (D.Act × (D.Act × (D.Edit × Unit))))) (fun ((a28, (a29, _)), (a30, (a31, (a32, _)))) =>
           (lec ((ByteArray.size (ByteArray.mk (List.toArray (101 :: (100 :: (105 :: (116 :: []))))))) + (ByteArray.size a29)) 9223372036854775807 (optc (r44_words fu ((D.Act.Schedule a30) :: ((D.Edit.Kind a32) :: []))) fun a33 =>
            (lec ((ByteArray.size ((ByteArray.mk (List.toArray (101 :: (100 :: (105 :: (116 :: [])))))) ++ a29)) + (ByteArray.size a33)) 9223372036854775807 (optc (r44_person fu (D.Edit.A a32)) fun a34 =>
             (lec ((ByteArray.size (((ByteArray.mk (List.toArray (101 :: (100 :: (105 :: (116 :: [])))))) ++ a29) ++ a33)) + (ByteArray.size a34)) 9223372036854775807 (optc (r44_words fu ((D.Edit.B a32) :: ((D.Edit.From a32) :: ((D.Edit.To a32) :: [])))) fun a35 =>
              (lec ((ByteArray.size ((((ByteArray.mk (List.toArray (101 :: (100 :: (105 :: (116 :: [])))))) ++ a29) ++ a33) ++ a34)) + (ByteArray.size a35)) 9223372036854775807 (J7 ((a28, ((((((ByteArray.mk (List.toArray (101 :: (100 :: (105 :: (116 :: [])))))) ++ a29) ++ a33) ++ a34) ++ a35), ())), (a30, (a31, ())))))))))))) fun J36 =>
          (cnd a0
           (optc (r44_number fu (D.Act.Schedule p0)) fun a37 =>
            (cnd a37
             (optc (r44_number fu (D.Edit.Kind (D.Act.Edit p0))) fun a38 =>
              (cnd a38
               (optc (r44_number fu (D.Edit.A (D.Act.Edit p0))) fun a39 =>
                (cnd a39
                 (optc (r44_number fu (D.Edit.B (D.Act.Edit p0))) fun a40 =>
                  (cnd a40
                   (optc (r44_number fu (D.Edit.From (D.Act.Edit p0))) fun a41 =>
                    (cnd a41
                     (optc (r44_number fu (D.Edit.To (D.Act.Edit p0))) fun a42 =>
                      (cnd a42
                       (J36 ((true, (((ByteArray.mk (List.toArray (32 :: []))) ++ a1), ())), (p0, ((D.Act.mk (D.Act.Kind p0) (D.Act.At p0) (D.Alert.mk 0 [] false) (D.Answer.mk 0 0 0 0 0 0) (D.Act.Schedule p0) (D.Act.Edit p0) 0 0 0 (ByteArray.mk (List.toArray []))), ((D.Act.Edit p0), ())))))
                       (J36 ((false, (((ByteArray.mk (List.toArray (32 :: []))) ++ a1), ())), (p0, ((D.Act.mk (D.Act.Kind p0) (D.Act.At p0) (D.Alert.mk 0 [] false) (D.Answer.mk 0 0 0 0 0 0) (D.Act.Schedule p0) (D.Act.Edit p0) 0 0 0 (ByteArray.mk (List.toArray []))), ((D.Act.Edit p0), ())))))))
                     (J36 ((false, (((ByteArray.mk (List.toArray (32 :: []))) ++ a1), ())), (p0, ((D.Act.mk (D.Act.Kind p0) (D.Act.At p0) (D.Alert.mk 0 [] false) (D.Answer.mk 0 0 0 0 0 0) (D.Act.Schedule p0) (D.Act.Edit p0) 0 0 0 (ByteArray.mk (List.toArray []))), ((D.Act.Edit p0), ())))))))
                   (J36 ((false, (((ByteArray.mk (List.toArray (32 :: []))) ++ a1), ())), (p0, ((D.Act.mk (D.Act.Kind p0) (D.Act.At p0) (D.Alert.mk 0 [] false) (D.Answer.mk 0 0 0 0 0 0) (D.Act.Schedule p0) (D.Act.Edit p0) 0 0 0 (ByteArray.mk (List.toArray []))), ((D.Act.Edit p0), ())))))))
                 (cnd (decide ((D.Edit.A (D.Act.Edit p0)) = (-1)))
                  (optc (r44_number fu (D.Edit.B (D.Act.Edit p0))) fun a43 =>
                   (cnd a43
                    (optc (r44_number fu (D.Edit.From (D.Act.Edit p0))) fun a44 =>
                     (cnd a44
                      (optc (r44_number fu (D.Edit.To (D.Act.Edit p0))) fun a45 =>
                       (cnd a45
                        (J36 ((true, (((ByteArray.mk (List.toArray (32 :: []))) ++ a1), ())), (p0, ((D.Act.mk (D.Act.Kind p0) (D.Act.At p0) (D.Alert.mk 0 [] false) (D.Answer.mk 0 0 0 0 0 0) (D.Act.Schedule p0) (D.Act.Edit p0) 0 0 0 (ByteArray.mk (List.toArray []))), ((D.Act.Edit p0), ())))))
                        (J36 ((false, (((ByteArray.mk (List.toArray (32 :: []))) ++ a1), ())), (p0, ((D.Act.mk (D.Act.Kind p0) (D.Act.At p0) (D.Alert.mk 0 [] false) (D.Answer.mk 0 0 0 0 0 0) (D.Act.Schedule p0) (D.Act.Edit p0) 0 0 0 (ByteArray.mk (List.toArray []))), ((D.Act.Edit p0), ())))))))
                      (J36 ((false, (((ByteArray.mk (List.toArray (32 :: []))) ++ a1), ())), (p0, ((D.Act.mk (D.Act.Kind p0) (D.Act.At p0) (D.Alert.mk 0 [] false) (D.Answer.mk 0 0 0 0 0 0) (D.Act.Schedule p0) (D.Act.Edit p0) 0 0 0 (ByteArray.mk (List.toArray []))), ((D.Act.Edit p0), ())))))))
                    (J36 ((false, (((ByteArray.mk (List.toArray (32 :: []))) ++ a1), ())), (p0, ((D.Act.mk (D.Act.Kind p0) (D.Act.At p0) (D.Alert.mk 0 [] false) (D.Answer.mk 0 0 0 0 0 0) (D.Act.Schedule p0) (D.Act.Edit p0) 0 0 0 (ByteArray.mk (List.toArray []))), ((D.Act.Edit p0), ())))))))
                  (J36 ((false, (((ByteArray.mk (List.toArray (32 :: []))) ++ a1), ())), (p0, ((D.Act.mk (D.Act.Kind p0) (D.Act.At p0) (D.Alert.mk 0 [] false) (D.Answer.mk 0 0 0 0 0 0) (D.Act.Schedule p0) (D.Act.Edit p0) 0 0 0 (ByteArray.mk (List.toArray []))), ((D.Act.Edit p0), ()))))))))
               (J36 ((false, (((ByteArray.mk (List.toArray (32 :: []))) ++ a1), ())), (p0, ((D.Act.mk (D.Act.Kind p0) (D.Act.At p0) (D.Alert.mk 0 [] false) (D.Answer.mk 0 0 0 0 0 0) (D.Act.Schedule p0) (D.Act.Edit p0) 0 0 0 (ByteArray.mk (List.toArray []))), ((D.Act.Edit p0), ())))))))
             (J36 ((false, (((ByteArray.mk (List.toArray (32 :: []))) ++ a1), ())), (p0, ((D.Act.mk (D.Act.Kind p0) (D.Act.At p0) (D.Alert.mk 0 [] false) (D.Answer.mk 0 0 0 0 0 0) (D.Act.Schedule p0) (D.Act.Edit p0) 0 0 0 (ByteArray.mk (List.toArray []))), ((D.Act.Edit p0), ())))))))
           (J36 ((false, (((ByteArray.mk (List.toArray (32 :: []))) ++ a1), ())), (p0, ((D.Act.mk (D.Act.Kind p0) (D.Act.At p0) (D.Alert.mk 0 [] false) (D.Answer.mk 0 0 0 0 0 0) (D.Act.Schedule p0) (D.Act.Edit p0) 0 0 0 (ByteArray.mk (List.toArray []))), ((D.Act.Edit p0), ())))))))
         (cnd (decide ((D.Act.Kind p0) = 5))
          (join (Y := ((Bool × (ByteArray × Unit)) × (D.Act × (D.Act × Unit)))) (fun ((a46, (a47, _)), (a48, (a49, _))) =>
            (lec ((ByteArray.size (ByteArray.mk (List.toArray (114 :: (101 :: (99 :: (101 :: (105 :: (112 :: (116 :: [])))))))))) + (ByteArray.size a47)) 9223372036854775807 (optc (r44_words fu ((D.Act.Arg a48) :: ((D.Act.K a48) :: []))) fun a50 =>
             (lec ((ByteArray.size ((ByteArray.mk (List.toArray (114 :: (101 :: (99 :: (101 :: (105 :: (112 :: (116 :: []))))))))) ++ a47)) + (ByteArray.size a50)) 9223372036854775807 (J7 ((a46, ((((ByteArray.mk (List.toArray (114 :: (101 :: (99 :: (101 :: (105 :: (112 :: (116 :: []))))))))) ++ a47) ++ a50), ())), (a48, (a49, ())))))))) fun J51 =>
           (cnd a0
            (optc (r44_number fu (D.Act.Arg p0)) fun a52 =>
             (cnd a52
              (optc (r44_number fu (D.Act.K p0)) fun a53 =>
               (cnd a53
                (J51 ((true, (((ByteArray.mk (List.toArray (32 :: []))) ++ a1), ())), (p0, ((D.Act.mk (D.Act.Kind p0) (D.Act.At p0) (D.Alert.mk 0 [] false) (D.Answer.mk 0 0 0 0 0 0) 0 (D.Edit.mk 0 0 0 0 0) (D.Act.Arg p0) (D.Act.K p0) 0 (ByteArray.mk (List.toArray []))), ()))))
                (J51 ((false, (((ByteArray.mk (List.toArray (32 :: []))) ++ a1), ())), (p0, ((D.Act.mk (D.Act.Kind p0) (D.Act.At p0) (D.Alert.mk 0 [] false) (D.Answer.mk 0 0 0 0 0 0) 0 (D.Edit.mk 0 0 0 0 0) (D.Act.Arg p0) (D.Act.K p0) 0 (ByteArray.mk (List.toArray []))), ()))))))
              (J51 ((false, (((ByteArray.mk (List.toArray (32 :: []))) ++ a1), ())), (p0, ((D.Act.mk (D.Act.Kind p0) (D.Act.At p0) (D.Alert.mk 0 [] false) (D.Answer.mk 0 0 0 0 0 0) 0 (D.Edit.mk 0 0 0 0 0) (D.Act.Arg p0) (D.Act.K p0) 0 (ByteArray.mk (List.toArray []))), ()))))))
            (J51 ((false, (((ByteArray.mk (List.toArray (32 :: []))) ++ a1), ())), (p0, ((D.Act.mk (D.Act.Kind p0) (D.Act.At p0) (D.Alert.mk 0 [] false) (D.Answer.mk 0 0 0 0 0 0) 0 (D.Edit.mk 0 0 0 0 0) (D.Act.Arg p0) (D.Act.K p0) 0 (ByteArray.mk (List.toArray []))), ()))))))
          (cnd (decide ((D.Act.Kind p0) = 6))
           (join (Y := ((Bool × (ByteArray × Unit)) × (D.Act × (D.Act × Unit)))) (fun ((a54, (a55, _)), (a56, (a57, _))) =>
             (lec ((ByteArray.size (ByteArray.mk (List.toArray (115 :: (116 :: (97 :: (116 :: (101 :: [])))))))) + (ByteArray.size a55)) 9223372036854775807 (optc (r44_words fu ((D.Act.Arg a56) :: ((D.Act.K a56) :: []))) fun a58 =>
              (lec ((ByteArray.size ((ByteArray.mk (List.toArray (115 :: (116 :: (97 :: (116 :: (101 :: []))))))) ++ a55)) + (ByteArray.size a58)) 9223372036854775807 (optc (r44_person fu (D.Act.Person a56)) fun a59 =>
               (lec ((ByteArray.size (((ByteArray.mk (List.toArray (115 :: (116 :: (97 :: (116 :: (101 :: []))))))) ++ a55) ++ a58)) + (ByteArray.size a59)) 9223372036854775807 (J7 ((a54, (((((ByteArray.mk (List.toArray (115 :: (116 :: (97 :: (116 :: (101 :: []))))))) ++ a55) ++ a58) ++ a59), ())), (a56, (a57, ())))))))))) fun J60 =>
            (cnd a0
             (optc (r44_number fu (D.Act.Arg p0)) fun a61 =>
              (cnd a61
               (optc (r44_number fu (D.Act.K p0)) fun a62 =>
                (cnd a62
                 (optc (r44_number fu (D.Act.Person p0)) fun a63 =>
                  (cnd a63
                   (J60 ((true, (((ByteArray.mk (List.toArray (32 :: []))) ++ a1), ())), (p0, ((D.Act.mk (D.Act.Kind p0) (D.Act.At p0) (D.Alert.mk 0 [] false) (D.Answer.mk 0 0 0 0 0 0) 0 (D.Edit.mk 0 0 0 0 0) (D.Act.Arg p0) (D.Act.K p0) (D.Act.Person p0) (ByteArray.mk (List.toArray []))), ()))))
                   (cnd (decide ((D.Act.Person p0) = (-1)))
                    (J60 ((true, (((ByteArray.mk (List.toArray (32 :: []))) ++ a1), ())), (p0, ((D.Act.mk (D.Act.Kind p0) (D.Act.At p0) (D.Alert.mk 0 [] false) (D.Answer.mk 0 0 0 0 0 0) 0 (D.Edit.mk 0 0 0 0 0) (D.Act.Arg p0) (D.Act.K p0) (D.Act.Person p0) (ByteArray.mk (List.toArray []))), ()))))
                    (J60 ((false, (((ByteArray.mk (List.toArray (32 :: []))) ++ a1), ())), (p0, ((D.Act.mk (D.Act.Kind p0) (D.Act.At p0) (D.Alert.mk 0 [] false) (D.Answer.mk 0 0 0 0 0 0) 0 (D.Edit.mk 0 0 0 0 0) (D.Act.Arg p0) (D.Act.K p0) (D.Act.Person p0) (ByteArray.mk (List.toArray []))), ())))))))
                 (J60 ((false, (((ByteArray.mk (List.toArray (32 :: []))) ++ a1), ())), (p0, ((D.Act.mk (D.Act.Kind p0) (D.Act.At p0) (D.Alert.mk 0 [] false) (D.Answer.mk 0 0 0 0 0 0) 0 (D.Edit.mk 0 0 0 0 0) (D.Act.Arg p0) (D.Act.K p0) (D.Act.Person p0) (ByteArray.mk (List.toArray []))), ()))))))
               (J60 ((false, (((ByteArray.mk (List.toArray (32 :: []))) ++ a1), ())), (p0, ((D.Act.mk (D.Act.Kind p0) (D.Act.At p0) (D.Alert.mk 0 [] false) (D.Answer.mk 0 0 0 0 0 0) 0 (D.Edit.mk 0 0 0 0 0) (D.Act.Arg p0) (D.Act.K p0) (D.Act.Person p0) (ByteArray.mk (List.toArray []))), ()))))))
             (J60 ((false, (((ByteArray.mk (List.toArray (32 :: []))) ++ a1), ())), (p0, ((D.Act.mk (D.Act.Kind p0) (D.Act.At p0) (D.Alert.mk 0 [] false) (D.Answer.mk 0 0 0 0 0 0) 0 (D.Edit.mk 0 0 0 0 0) (D.Act.Arg p0) (D.Act.K p0) (D.Act.Person p0) (ByteArray.mk (List.toArray []))), ()))))))
           (cnd (decide ((D.Act.Kind p0) = 7))
            (join (Y := ((Bool × (ByteArray × Unit)) × (D.Act × (D.Act × Unit)))) (fun ((a64, (a65, _)), (a66, (a67, _))) =>
              (lec ((ByteArray.size (ByteArray.mk (List.toArray (111 :: (119 :: (110 :: [])))))) + (ByteArray.size a65)) 9223372036854775807 (optc (r44_words fu ((D.Act.Arg a66) :: [])) fun a68 =>
               (lec ((ByteArray.size ((ByteArray.mk (List.toArray (111 :: (119 :: (110 :: []))))) ++ a65)) + (ByteArray.size a68)) 9223372036854775807 (J7 ((a64, ((((ByteArray.mk (List.toArray (111 :: (119 :: (110 :: []))))) ++ a65) ++ a68), ())), (a66, (a67, ())))))))) fun J69 =>
             (cnd a0
              (optc (r44_number fu (D.Act.Arg p0)) fun a70 =>
               (cnd a70
                (J69 ((true, (((ByteArray.mk (List.toArray (32 :: []))) ++ a1), ())), (p0, ((D.Act.mk (D.Act.Kind p0) (D.Act.At p0) (D.Alert.mk 0 [] false) (D.Answer.mk 0 0 0 0 0 0) 0 (D.Edit.mk 0 0 0 0 0) (D.Act.Arg p0) 0 0 (ByteArray.mk (List.toArray []))), ()))))
                (J69 ((false, (((ByteArray.mk (List.toArray (32 :: []))) ++ a1), ())), (p0, ((D.Act.mk (D.Act.Kind p0) (D.Act.At p0) (D.Alert.mk 0 [] false) (D.Answer.mk 0 0 0 0 0 0) 0 (D.Edit.mk 0 0 0 0 0) (D.Act.Arg p0) 0 0 (ByteArray.mk (List.toArray []))), ()))))))
              (J69 ((false, (((ByteArray.mk (List.toArray (32 :: []))) ++ a1), ())), (p0, ((D.Act.mk (D.Act.Kind p0) (D.Act.At p0) (D.Alert.mk 0 [] false) (D.Answer.mk 0 0 0 0 0 0) 0 (D.Edit.mk 0 0 0 0 0) (D.Act.Arg p0) 0 0 (ByteArray.mk (List.toArray []))), ()))))))
            (some ((ByteArray.mk (List.toArray [])), false)))))))))))))
def r44_line_g (fu : Nat) : Sig := mkSig [.st .Act] [] [.one (.str), .one (.boo)] [] [] (ByteArray × Bool) (fun q => ((q.1, q.2, ()), ())) (fun x y => r44_line fu x.1)
theorem r44_line_ok (fu : Nat) : FnOK Tryz.prog 8 (r44_line_g fu) :=
  FnOK.intro (ty := ty) (E := envL [(16, 0, r44_number_g fu), (17, 0, r25_Decimal_g fu), (18, 0, r20_Valid_g fu), (19, 0, r20_Text_g fu), (20, 0, r44_printable_g fu), (21, 0, r44_words_g fu), (22, 0, r44_person_g fu), (23, 0, r44_SameAct_g fu)]) (fu := fu) (an := .two (.go) (.two (.go) (.two (.go) (.two (.go) (.two (.go) (.two (.join [(1, .one (.ref 1001)), (4, .one (.ref 1004)), (5, .one (.boo)), (6, .one (.str))] [(1001, .boxst .Act), (1004, .boxst .Act)] (.two (.go) (.one (.two (.go) (.two (.two (.go) (.two (.join [(1, .one (.ref 1001)), (4, .one (.ref 1004)), (5, .one (.boo)), (7, .one (.str))] [(1001, .boxst .Act), (1004, .boxst .Act)] (.go)) (.two (.go) (.two (.join [(1, .one (.ref 1001)), (4, .one (.ref 1004)), (5, .one (.boo)), (6, .one (.str))] [(1001, .boxst .Act), (1004, .boxst .Act)] (.go)) (.go))))) (.two (.go) (.two (.go) (.two (.go) (.two (.two (.go) (.two (.join [(1, .one (.ref 1001)), (4, .one (.ref 1004)), (5, .one (.boo)), (7, .one (.str))] [(1001, .boxst .Act), (1004, .boxst .Act)] (.go)) (.go))) (.two (.go) (.two (.two (.go) (.two (.go) (.two (.join [(1, .one (.ref 1001)), (4, .one (.ref 1004)), (5, .one (.boo)), (7, .one (.str)), (8, .one (.ref 1008))] [(1001, .boxst .Act), (1004, .boxst .Act), (1008, .boxst .Edit)] (.go)) (.go)))) (.two (.go) (.two (.two (.go) (.two (.join [(1, .one (.ref 1001)), (4, .one (.ref 1004)), (5, .one (.boo)), (7, .one (.str))] [(1001, .boxst .Act), (1004, .boxst .Act)] (.go)) (.go))) (.two (.go) (.two (.two (.go) (.two (.join [(1, .one (.ref 1001)), (4, .one (.ref 1004)), (5, .one (.boo)), (7, .one (.str))] [(1001, .boxst .Act), (1004, .boxst .Act)] (.go)) (.go))) (.two (.go) (.two (.two (.go) (.two (.join [(1, .one (.ref 1001)), (4, .one (.ref 1004)), (5, .one (.boo)), (7, .one (.str))] [(1001, .boxst .Act), (1004, .boxst .Act)] (.go)) (.go))) (.go)))))))))))))))))) (.go))))))) (fun a b => (a.1, a.2.1)) (fun _ _ => rfl) (envL_ok (l := [(16, 0, r44_number_g fu), (17, 0, r25_Decimal_g fu), (18, 0, r20_Valid_g fu), (19, 0, r20_Text_g fu), (20, 0, r44_printable_g fu), (21, 0, r44_words_g fu), (22, 0, r44_person_g fu), (23, 0, r44_SameAct_g fu)]) ⟨r44_number_ok fu, r25_Decimal_ok fu, r20_Valid_ok fu, r20_Text_ok fu, r44_printable_ok fu, r44_words_ok fu, r44_person_ok fu, r44_SameAct_ok fu, trivial⟩) Tryz.func8 rfl rfl (fun x y => by kernel_rfl)
def r44_Format (fu : Nat) (p0 : List D.Act) : Option (ByteArray × Int) :=
  (cnd (decide (200 < (((List.length p0) : Nat) : Int)))
   (some ((ByteArray.mk (List.toArray [])), 5))
   (iterF (X := ((List D.Act × (ByteArray × (Int × Unit))) × Unit)) (fun L0 ((a1, (a2, (a3, _))), _) =>
    (cnd (decide (a3 < (((List.length a1) : Nat) : Int)))
     (atc a1 a3 fun a4 =>
      (optc (r44_line fu a4) fun (a5, a6) =>
       (cnd (!a6)
        (some ((ByteArray.mk (List.toArray [])), 8))
        (lec ((ByteArray.size a5) + (ByteArray.size (ByteArray.mk (List.toArray (10 :: []))))) 9223372036854775807 (lec ((ByteArray.size a2) + (ByteArray.size (a5 ++ (ByteArray.mk (List.toArray (10 :: [])))))) 9223372036854775807 (L0 ((a1, ((a2 ++ (a5 ++ (ByteArray.mk (List.toArray (10 :: []))))), ((IntKind.wrap .i64 (a3 + 1)), ()))), ())))))))
     (cnd (decide (65536 < (((ByteArray.size a2) : Nat) : Int)))
      (some ((ByteArray.mk (List.toArray [])), 5))
      (some (a2, 0))))) fu ((p0, ((ByteArray.mk (List.toArray [])), (0, ()))), ())))
def r44_Format_g (fu : Nat) : Sig := mkSig [.one (.lst .Act)] [] [.one (.str), .one (.num .i64)] [] [] (ByteArray × Int) (fun q => ((q.1, q.2, ()), ())) (fun x y => r44_Format fu x.1)
theorem r44_Format_ok (fu : Nat) : FnOK Tryz.prog 4 (r44_Format_g fu) :=
  FnOK.intro (ty := ty) (E := envL [(8, 0, r44_line_g fu)]) (fu := fu) (an := .two (.go) (.two (.go) (.two (.go) (.two (.two (.go) (.one (.loop [(0, .one (.lst .Act)), (4, .one (.str)), (5, .one (.num .i64))] [] (.go)))) (.go))))) (fun a b => (a.1, a.2.1)) (fun _ _ => rfl) (envL_ok (l := [(8, 0, r44_line_g fu)]) ⟨r44_line_ok fu, trivial⟩) Tryz.func4 rfl rfl (fun x y => by kernel_rfl)
def script_Parse (fu : Nat) (p0 : ByteArray) : Option (List D.Act × Int × Int) :=
  (cnd (decide (65536 < (((ByteArray.size p0) : Nat) : Int)))
   (some ([], (0, 5)))
   (iterF (X := ((ByteArray × (Int × Unit)) × (List D.Act × Unit))) (fun L0 ((a1, (a2, _)), (a3, _)) =>
    (cnd (decide (a1 ≠ (ByteArray.mk (List.toArray []))))
     (optc (strings_Cut fu a1 (ByteArray.mk (List.toArray (10 :: [])))) fun (a4, (a5, a6)) =>
      (optc (script_read fu a4) fun (a7, a8) =>
       (join (Y := ((Int × (ByteArray × Unit)) × (D.Act × (List D.Act × Unit)))) (fun ((a9, (a10, _)), (a11, (a12, _))) =>
         (cnd (decide (200 < a9))
          (some ([], (a9, 5)))
          (lec ((List.length a12) + (List.length (a11 :: []))) 34359738368 (L0 ((a10, ((IntKind.wrap .i64 (a9 + 1)), ())), ((a12 ++ (a11 :: [])), ())))))) fun J13 =>
        (cnd a8
         (cnd a6
          (J13 ((a2, (a5, ())), (a7, (a3, ()))))
          (some ([], (a2, 2))))
         (some ([], (a2, 2)))))))
     (some (a3, (0, 0))))) fu ((p0, (1, ())), ([], ()))))
def script_Parse_g (fu : Nat) : Sig := mkSig [.one (.str)] [] [.one (.lst .Act), .one (.num .i64), .one (.num .i64)] [] [] (List D.Act × Int × Int) (fun q => ((q.1, q.2.1, q.2.2, ()), ())) (fun x y => script_Parse fu x.1)
theorem script_Parse_ok (fu : Nat) : FnOK Tryz.prog 6 (script_Parse_g fu) :=
  FnOK.intro (ty := ty) (E := envL [(14, 0, strings_Cut_g fu), (15, 0, script_read_g fu)]) (fu := fu) (an := .two (.go) (.two (.go) (.two (.two (.go) (.one (.loop [(0, .one (.str)), (2, .one (.own 1041)), (3, .one (.num .i64))] [(1041, .arr .Act)] (.two (.go) (.two (.one (.two (.go) (.two (.go) (.two (.join [(2, .one (.own 1041)), (3, .one (.num .i64)), (6, .one (.str)), (8, .one (.ref 1008))] [(1008, .boxst .Act), (1041, .arr .Act)] (.go)) (.go))))) (.go)))))) (.go)))) (fun a b => (a.1, a.2.1, a.2.2.1)) (fun _ _ => rfl) (envL_ok (l := [(14, 0, strings_Cut_g fu), (15, 0, script_read_g fu)]) ⟨strings_Cut_ok fu, script_read_ok fu, trivial⟩) Tryz.func6 rfl rfl (fun x y => by kernel_rfl)
def law44_sane (fu : Nat) : Option (Bool) :=
  (optc (script_Parse fu (ByteArray.mk (List.toArray (116 :: (105 :: (99 :: (107 :: (32 :: (51 :: (48 :: (10 :: (97 :: (108 :: (101 :: (114 :: (116 :: (32 :: (52 :: (48 :: (32 :: (102 :: (105 :: (114 :: (105 :: (110 :: (103 :: (32 :: (123 :: (104 :: (111 :: (115 :: (116 :: (61 :: (34 :: (97 :: (34 :: (125 :: (10 :: [])))))))))))))))))))))))))))))))))))))) fun (a0, (a1, a2)) =>
   (optc (script_Parse fu (ByteArray.mk (List.toArray (116 :: (105 :: (99 :: (107 :: (32 :: (48 :: (51 :: (48 :: (10 :: [])))))))))))) fun (a3, (a4, a5)) =>
    (cnd (decide (a2 = 0))
     (cnd (decide (a1 = 0))
      (cnd (decide ((((List.length a0) : Nat) : Int) = 2))
       (atc a0 0 fun a6 =>
        (cnd (decide ((D.Act.At a6) = 30))
         (atc a0 1 fun a7 =>
          (cnd (D.Alert.Firing (D.Act.Alert a7))
           (cnd (decide (a5 = 2))
            (cnd (decide (a4 = 1))
             (some true)
             (some false))
            (some false))
           (some false)))
         (some false)))
       (some false))
      (some false))
     (some false))))
def law44_sane_g (fu : Nat) : Sig := mkSig [] [] [.one (.boo)] [] [] (Bool) (fun q => ((q, ()), ())) (fun x y => law44_sane fu)
theorem law44_sane_ok (fu : Nat) : FnOK Tryz.prog 7 (law44_sane_g fu) :=
  FnOK.intro (ty := ty) (E := envL [(6, 0, script_Parse_g fu)]) (fu := fu) (an := .go) (fun a b => a.1) (fun _ _ => rfl) (envL_ok (l := [(6, 0, script_Parse_g fu)]) ⟨script_Parse_ok fu, trivial⟩) Tryz.func7 rfl rfl (fun x y => by kernel_rfl)
def law44_ScriptLimits (fu : Nat) (p0 : Int) (p1 : Int) : Option (Bool) :=
  (nzc 3 (iterF (X := ((Int × (Int × (ByteArray × (Int × Unit)))) × (List D.Act × Unit))) (fun L0 ((a1, (a2, (a3, (a4, _)))), (a5, _)) =>
   (cnd (decide (a4 < a2))
    (optc (r44_Format fu ((D.Act.mk 2 (IntKind.wrap .i64 a1) (D.Alert.mk 0 [] false) (D.Answer.mk 0 0 0 0 0 0) 0 (D.Edit.mk 0 0 0 0 0) 0 0 0 (ByteArray.mk (List.toArray []))) :: [])) fun (a6, a7) =>
     (cnd (decide (a7 ≠ 0))
      (some false)
      (lec ((List.length a5) + (List.length ((D.Act.mk 2 (IntKind.wrap .i64 a1) (D.Alert.mk 0 [] false) (D.Answer.mk 0 0 0 0 0 0) 0 (D.Edit.mk 0 0 0 0 0) 0 0 0 (ByteArray.mk (List.toArray []))) :: []))) 34359738368 (lec ((ByteArray.size a3) + (ByteArray.size a6)) 9223372036854775807 (L0 ((a1, (a2, ((a3 ++ a6), ((IntKind.wrap .i64 (a4 + 1)), ())))), ((a5 ++ ((D.Act.mk 2 (IntKind.wrap .i64 a1) (D.Alert.mk 0 [] false) (D.Answer.mk 0 0 0 0 0 0) 0 (D.Edit.mk 0 0 0 0 0) 0 0 0 (ByteArray.mk (List.toArray []))) :: [])), ())))))))
    (optc (script_Format fu a5) fun (a8, a9) =>
     (optc (script_Parse fu a3) fun (a10, (a11, a12)) =>
      (cnd (decide (a2 ≤ 200))
       (cnd (decide (a9 = 0))
        (cnd (decide (a8 = a3))
         (cnd (decide (a12 = 0))
          (cnd (decide (a11 = 0))
           (optc (law44_sane fu) fun a13 =>
            (cnd a13
             (some true)
             (some false)))
           (some false))
          (some false))
         (some false))
        (some false))
       (cnd (decide (a9 = 5))
        (cnd (decide (a12 = 5))
         (cnd (decide (a11 = a2))
          (optc (law44_sane fu) fun a14 =>
           (cnd a14
            (some true)
            (some false)))
          (some false))
         (some false))
        (some false))))))) fu ((p1, ((IntKind.wrap .i64 (199 + (Int.tmod (IntKind.wrap .i64 p0) 3))), ((ByteArray.mk (List.toArray [])), (0, ())))), ([], ()))))
def law44_ScriptLimits_g (fu : Nat) : Sig := mkSig [.one (.num .u8), .one (.num .u16)] [] [.one (.boo)] [] [] (Bool) (fun q => ((q, ()), ())) (fun x y => law44_ScriptLimits fu x.1 x.2.1)
theorem law44_ScriptLimits_ok (fu : Nat) : FnOK Tryz.prog 3 (law44_ScriptLimits_g fu) :=
  FnOK.intro (ty := ty) (E := envL [(4, 0, r44_Format_g fu), (5, 0, script_Format_g fu), (6, 0, script_Parse_g fu), (7, 0, law44_sane_g fu)]) (fu := fu) (an := .two (.go) (.two (.go) (.two (.go) (.two (.go) (.two (.two (.go) (.one (.loop [(1, .one (.num .u16)), (5, .one (.num .i64)), (6, .one (.own 1040)), (7, .one (.str)), (8, .one (.num .i64))] [(1040, .arr .Act)] (.go)))) (.go)))))) (fun a b => a.1) (fun _ _ => rfl) (envL_ok (l := [(4, 0, r44_Format_g fu), (5, 0, script_Format_g fu), (6, 0, script_Parse_g fu), (7, 0, law44_sane_g fu)]) ⟨r44_Format_ok fu, script_Format_ok fu, script_Parse_ok fu, law44_sane_ok fu, trivial⟩) Tryz.func3 rfl rfl (fun x y => by kernel_rfl)
end
end Go.Proofs.YtkfmncmhagpajaaGreatDoor
namespace Go.Proofs.YtkfmncmhagpajaaGreatDoor
open Go
def splL (c : UInt8) : List UInt8 → List (List UInt8)
  | [] => [[]]
  | x :: r => if x = c then [] :: splL c r else match splL c r with
    | w :: ws => (x :: w) :: ws
    | [] => [[x]]
theorem splL_cons (c x : UInt8) (r : List UInt8) : splL c (x :: r) = if x = c then [] :: splL c r else match splL c r with
    | w :: ws => (x :: w) :: ws
    | [] => [[x]] := rfl
theorem splL_miss (c : UInt8) : ∀ (l : List UInt8), (∀ x ∈ l, x ≠ c) → splL c l = [l]
  | [], _ => rfl
  | x :: r, h => by
    rw [splL_cons, if_neg (h x (by simp)), splL_miss c r (fun y hy => h y (by simp [hy]))]
theorem splL_hit (c : UInt8) : ∀ (l : List UInt8) (i : Nat), l[i]? = some c → (∀ j, j < i → l[j]? ≠ some c) → splL c l = l.take i :: splL c (l.drop (i + 1))
  | [], i, h, _ => by simp at h
  | x :: r, 0, h, _ => by
    have : x = c := by simpa using h
    rw [splL_cons, if_pos this]; rfl
  | x :: r, i + 1, h, hn => by
    have hx : x ≠ c := fun e => hn 0 (by omega) (by simp [e])
    rw [splL_cons, if_neg hx, splL_hit c r i (by simpa using h) (fun j hj => by simpa using hn (j + 1) (by omega))]
    rfl
theorem occ_one {s : List UInt8} {c : UInt8} {j : Nat} : Lib.occAt s [c] j = true ↔ s[j]? = some c := by
  unfold Lib.occAt
  cases h : s.drop j with
  | nil =>
    have : s.length ≤ j := by simpa using h
    rw [List.getElem?_eq_none this]; simp
  | cons x r =>
    have : s[j]? = some x := by
      have := congrArg (·[0]?) h
      simpa using this
    rw [this]
    simp [List.isPrefixOf]
    exact eq_comm
theorem splitK_one (c : UInt8) : ∀ (n : Nat) (s : List UInt8), s.length ≤ n → Lib.splitK [c] 0 (Lib.count s [c]) s = splL c s := by
  intro n
  induction n with
  | zero =>
    intro s hs
    have : s = [] := List.eq_nil_of_length_eq_zero (by omega)
    subst this; rfl
  | succ n ih =>
    intro s hs
    rcases Lib.index_spec s [c] with ⟨h1, h2⟩ | ⟨i, h1, h2, h3, h4⟩
    · rw [Lib.count_miss h1, splL_miss]
      · rfl
      · intro x hx e
        obtain ⟨j, hj, hje⟩ := List.getElem_of_mem hx
        have := occ_one.2 (show s[j]? = some c by rw [List.getElem?_eq_getElem hj, hje, e])
        rw [h2 j (by omega)] at this; simp at this
    · have hi := occ_one.1 h3
      have hil : i < s.length := (List.getElem?_eq_some_iff.1 hi).1
      rw [Lib.count_hit (by simp) h1, Nat.add_comm 1]
      unfold Lib.splitK
      rw [h1, if_neg (by simp), splL_hit c s i hi (fun j hj e => by have := occ_one.2 e; rw [h4 j hj] at this; simp at this)]
      have := ih (s.drop (i + 1)) (by rw [List.length_drop]; omega)
      simp only [Int.toNat_natCast, Nat.add_zero, List.length_cons, List.length_nil, Nat.zero_add]
      rw [this]
def mkB (l : List UInt8) : ByteArray := ⟨l.toArray⟩
def unB (s : ByteArray) : List UInt8 := s.data.toList
@[simp] theorem mk_un (s : ByteArray) : mkB (unB s) = s := Lib.mk_data s
@[simp] theorem un_mk (l : List UInt8) : unB (mkB l) = l := rfl
def splB (c : UInt8) (s : ByteArray) : List ByteArray := (splL c (unB s)).map mkB
theorem splitB_one (c : UInt8) (s : ByteArray) : Lib.splitB (ByteArray.mk #[c]) 0 (Lib.countB s (ByteArray.mk #[c])) s = splB c s := by
  have h := Lib.splitB_data (ByteArray.mk #[c]) 0 (Lib.countB s (ByteArray.mk #[c])) s
  have h2 : Lib.splitK [c] 0 (Lib.count s.data.toList [c]) s.data.toList = splL c (unB s) := splitK_one c _ _ (Nat.le_refl _)
  have h3 := (congrArg (List.map mkB) (h.trans h2))
  rw [List.map_map] at h3
  rw [splB, ← h3]
  refine (List.map_id _).symm.trans (List.map_congr_left fun x _ => ?_)
  exact (Lib.mk_data x).symm
def isDig (c : UInt8) : Prop := 48 ≤ c.toNat ∧ c.toNat ≤ 57
instance (c : UInt8) : Decidable (isDig c) := inferInstanceAs (Decidable (_ ∧ _))
def valF (a : Nat) (l : List UInt8) : Nat := l.foldl (fun a c => 10 * a + (c.toNat - 48)) a
abbrev valD (l : List UInt8) : Nat := valF 0 l
theorem valF_snoc (a : Nat) (l : List UInt8) (c : UInt8) : valF a (l ++ [c]) = 10 * valF a l + (c.toNat - 48) := by simp [valF]
theorem valF_cons (a : Nat) (l : List UInt8) (c : UInt8) : valF a (c :: l) = valF (10 * a + (c.toNat - 48)) l := by unfold valF; rw [List.foldl_cons]
theorem valF_ge : ∀ (l : List UInt8) (a : Nat), a ≤ valF a l
  | [], a => Nat.le_refl _
  | c :: r, a => by rw [valF_cons]; have := valF_ge r (10 * a + (c.toNat - 48)); omega
theorem digit_nat {d : Nat} (h : d < 10) : (UInt8.ofNat (48 + d)).toNat = 48 + d := by
  rw [UInt8.toNat_ofNat']; exact Nat.mod_eq_of_lt (by omega)
theorem dec_dig (u : Nat) : ∀ c ∈ Lib.decDigits u, isDig c := by
  induction u using Nat.strongRecOn with
  | _ u ih =>
    rw [Lib.decDigits]
    split
    · rename_i h
      intro c hc
      have : c = UInt8.ofNat (48 + u) := by simpa using hc
      subst this; unfold isDig; rw [digit_nat h]; omega
    · intro c hc
      rcases List.mem_append.1 hc with hc | hc
      · exact ih (u / 10) (by omega) c hc
      · have : c = UInt8.ofNat (48 + u % 10) := by simpa using hc
        subst this; unfold isDig; rw [digit_nat (by omega)]; omega
theorem dec_val (u : Nat) : valD (Lib.decDigits u) = u := by
  induction u using Nat.strongRecOn with
  | _ u ih =>
    rw [Lib.decDigits]
    split
    · rename_i h
      simp only [valD, valF, List.foldl_cons, List.foldl_nil]; rw [digit_nat h]; omega
    · show valF 0 _ = _
      rw [valF_snoc, digit_nat (by omega), show valF 0 (Lib.decDigits (u / 10)) = u / 10 from ih _ (by omega)]
      omega
theorem dec_ne (u : Nat) : Lib.decDigits u ≠ [] := by
  rw [Lib.decDigits]; split <;> simp
theorem dec_len {u k : Nat} (hk : 1 ≤ k) : (Lib.decDigits u).length ≤ k ↔ u < 10 ^ k := by
  rw [Lib.decDigits_length]
  constructor
  · intro h
    exact Nat.lt_of_lt_of_le (Lib.lt_pow_nDigits u) (Nat.pow_le_pow_right (by omega) h)
  · intro h
    rcases Nat.lt_or_ge k (Lib.nDigits u) with h' | h'
    · exfalso
      have key : ∀ (k u : Nat), 1 ≤ k → k < Lib.nDigits u → 10 ^ k ≤ u := by
        intro k
        induction k with
        | zero => intro u h; omega
        | succ k ih =>
          intro u _ h
          by_cases hu : u < 10
          · rw [Lib.nDigits_small hu] at h; omega
          · rw [Lib.nDigits_big hu] at h
            by_cases hk0 : k = 0
            · subst hk0; simp; omega
            · have := ih (u / 10) (by omega) (by omega)
              rw [Nat.pow_succ]; omega
      have := key k u hk h'
      omega
    · exact h'
theorem parse_dig : ∀ (l : List UInt8) (a : Nat), (∀ c ∈ l, isDig c) → valF a l < 9223372036854775808 → Lib.parseUint10 a l = .ok (valF a l)
  | [], a, _, _ => rfl
  | c :: r, a, hd, h => by
    have hc := hd c (by simp)
    rw [valF_cons] at h
    have h1 := valF_ge r (10 * a + (c.toNat - 48))
    unfold Lib.parseUint10
    rw [if_pos (show 48 ≤ c.toNat ∧ c.toNat ≤ 57 from hc), if_neg (by omega), if_neg (by omega), show a * 10 + (c.toNat - 48) = 10 * a + (c.toNat - 48) by omega, parse_dig r _ (fun x hx => hd x (by simp [hx])) h]
    rfl
theorem atoi_dig {l : List UInt8} (hne : l ≠ []) (hd : ∀ c ∈ l, isDig c) (h : valD l < 9223372036854775808) : Lib.atoiAll l = .ok ((valD l : Nat) : Int) := by
  cases l with
  | nil => exact absurd rfl hne
  | cons c r =>
    have hc := hd c (by simp)
    have h43 : c.toNat ≠ 43 := by have := hc.1; omega
    have h45 : c.toNat ≠ 45 := by have := hc.1; omega
    rw [Lib.atoiAll_plain c r h43 h45, Lib.parseMag, if_neg (by simp), parse_dig _ _ hd h]
    have h2 : ¬ 9223372036854775808 ≤ valF 0 (c :: r) := by show ¬ 9223372036854775808 ≤ valD (c :: r); omega
    simp only [Lib.signless, if_neg h2]
theorem atoi_dec {u : Nat} (h : u < 9223372036854775808) : Lib.atoiAll (Lib.decDigits u) = .ok (u : Int) := by
  have := atoi_dig (dec_ne u) (dec_dig u) (by rw [dec_val]; exact h)
  rw [dec_val] at this; exact this
theorem itoa_nat (u : Nat) : Lib.itoa (u : Int) = Lib.decDigits u := by
  unfold Lib.itoa; rw [if_neg (by omega)]; rfl
end Go.Proofs.YtkfmncmhagpajaaGreatDoor
namespace Go.Proofs.YtkfmncmhagpajaaGreatDoor.AM
open Go
section
variable {R α : Type} {r : R}
theorem cnd_t {x y : Option R} : cnd true x y = x := rfl
theorem cnd_f {x y : Option R} : cnd false x y = y := rfl
theorem cnd_p {p : Prop} [Decidable p] {x y : Option R} (h : p) : cnd (decide p) x y = x := by simp only [h, decide_true, cnd]
theorem cnd_n {p : Prop} [Decidable p] {x y : Option R} (h : ¬ p) : cnd (decide p) x y = y := by simp only [h, decide_false, cnd]
theorem natc_p {j : Int} {k : Nat → Option R} (h : 0 ≤ j) : natc j k = k j.toNat := by unfold natc; rw [if_pos h]
theorem optc_s {x : α} {k : α → Option R} : optc (some x) k = k x := rfl
theorem atc_p [Inhabited α] {l : List α} {j : Int} {k : α → Option R} (h : 0 ≤ j) (h' : j < (l.length : Int)) : atc l j k = k (nth l j.toNat) := by
  unfold atc; rw [natc_p h]
  have : j.toNat < l.length := by omega
  rw [List.getElem?_eq_getElem this]
  simp [optc, nth, List.getD_eq_getElem?_getD, List.getElem?_eq_getElem this]
theorem lec_p {a b : Nat} {x : Option R} (h : a ≤ b) : lec a b x = x := by unfold lec; rw [if_pos h]
theorem nzc_p {b : Int} {x : Option R} (h : b ≠ 0) : nzc b x = x := by unfold nzc; rw [if_neg h]
theorem wrap_p {x : Int} (h : -9223372036854775808 ≤ x) (h' : x ≤ 9223372036854775807) : IntKind.i64.wrap x = x := by rw [IntKind.wrap_i64]; omega
theorem iterF_run {X : Type} {B : (X → Option R) → X → Option R} {v : Option R} : ∀ (n : Nat) (st : Nat → X) {fu : Nat}, n < fu → (∀ i, i < n → ∀ k, B k (st i) = k (st (i + 1))) → (∀ k, B k (st n) = v) → iterF B fu (st 0) = v
  | 0, st, fu, hf, _, h => by
    obtain ⟨f, rfl⟩ : ∃ f, fu = f + 1 := ⟨fu - 1, by omega⟩
    exact h _
  | n + 1, st, fu, hf, hs, h => by
    obtain ⟨f, rfl⟩ : ∃ f, fu = f + 1 := ⟨fu - 1, by omega⟩
    show B (iterF B f) (st 0) = v
    rw [hs 0 (by omega)]
    exact iterF_run n (fun i => st (i + 1)) (by omega) (fun i hi k => hs (i + 1) (by omega) k) h
variable {Q Q' : R → Prop}
end
end Go.Proofs.YtkfmncmhagpajaaGreatDoor.AM
namespace Go.Proofs.YtkfmncmhagpajaaGreatDoor
open Go AM
theorem sane44_true : law44_sane 1000 = some true := by kernel_rfl
def decBody : ((Int × (ByteArray × Unit)) × Unit → Option ByteArray) → (Int × (ByteArray × Unit)) × Unit → Option ByteArray := (fun L2 ((a3, (a4, _)), _) =>
    (join (Y := ((Int × (ByteArray × Unit)) × Unit)) (fun ((a5, (a6, _)), _) =>
      (nzc 10 (lec ((ByteArray.size (ByteArray.mk (List.toArray ((UInt8.ofNat (Int.toNat (IntKind.wrap .u8 (IntKind.wrap .i64 (48 + (Int.tmod a5 10)))))) :: [])))) + (ByteArray.size a6)) 9223372036854775807 (nzc 10 (L2 (((IntKind.wrap .i64 (Int.tdiv a5 10)), (((ByteArray.mk (List.toArray ((UInt8.ofNat (Int.toNat (IntKind.wrap .u8 (IntKind.wrap .i64 (48 + (Int.tmod a5 10)))))) :: []))) ++ a6), ())), ())))))) fun J7 =>
     (cnd (decide (0 < a3))
      (J7 ((a3, (a4, ())), ()))
      (cnd (decide (a4 = (ByteArray.mk (List.toArray []))))
       (J7 ((a3, (a4, ())), ()))
       (some a4)))))
theorem decimal_def (fu : Nat) (p : Int) : r25_Decimal fu p = iterF decBody fu ((p, (ByteArray.mk (List.toArray []), ())), ()) := rfl
theorem toB_cons (c : UInt8) (l : List UInt8) : ByteArray.mk (List.toArray (c :: [])) ++ toB l = toB (c :: l) := by
  apply ByteArray.ext
  simp [toB]
theorem dec_next (k : (Int × (ByteArray × Unit)) × Unit → Option ByteArray) (u : Nat) (l : List UInt8) (hu : u < 100000) (hl : l.length ≤ 20) (h : 0 < u ∨ l = []) :
    decBody k (((u : Int), (toB l, ())), ()) = k ((((u / 10 : Nat) : Int), (toB (UInt8.ofNat (48 + u % 10) :: l), ())), ()) := by
  have hd : Int.toNat (IntKind.wrap .u8 (IntKind.wrap .i64 (48 + (Int.tmod (u : Int) 10)))) = 48 + u % 10 := by
    have h1 : Int.tmod (u : Int) 10 = ((u % 10 : Nat) : Int) := by rw [Int.tmod_eq_emod_of_nonneg (by omega)]; rfl
    rw [h1, wrap_p (by omega) (by omega)]
    have : IntKind.wrap .u8 (48 + ((u % 10 : Nat) : Int)) = 48 + ((u % 10 : Nat) : Int) := by rw [IntKind.wrap_u8]; omega
    rw [this]; omega
  have hq : IntKind.wrap .i64 (Int.tdiv (u : Int) 10) = ((u / 10 : Nat) : Int) := by
    have h1 : Int.tdiv (u : Int) 10 = ((u / 10 : Nat) : Int) := by rw [Int.tdiv_eq_ediv_of_nonneg (by omega)]; rfl
    rw [h1, wrap_p (by omega) (by omega)]
  have hsz : (toB l).size = l.length := rfl
  have hbody : (nzc 10 (lec ((ByteArray.size (ByteArray.mk (List.toArray ((UInt8.ofNat (Int.toNat (IntKind.wrap .u8 (IntKind.wrap .i64 (48 + (Int.tmod (u : Int) 10)))))) :: [])))) + (ByteArray.size (toB l))) 9223372036854775807 (nzc 10 (k (((IntKind.wrap .i64 (Int.tdiv (u : Int) 10)), (((ByteArray.mk (List.toArray ((UInt8.ofNat (Int.toNat (IntKind.wrap .u8 (IntKind.wrap .i64 (48 + (Int.tmod (u : Int) 10)))))) :: []))) ++ (toB l)), ())), ())))))
      = k ((((u / 10 : Nat) : Int), (toB (UInt8.ofNat (48 + u % 10) :: l), ())), ()) := by
    rw [nzc_p (by decide), lec_p (by rw [hsz]; show 1 + l.length ≤ _; omega), nzc_p (by decide), hd, hq, toB_cons]
  unfold decBody
  simp only [join]
  rcases h with h | h
  · rw [cnd_p (by omega)]; exact hbody
  · by_cases h0 : 0 < u
    · rw [cnd_p (by omega)]; exact hbody
    · rw [cnd_n (by omega), cnd_p (by rw [h]; rfl)]; exact hbody
theorem dec_done (k : (Int × (ByteArray × Unit)) × Unit → Option ByteArray) (l : List UInt8) (hl : l ≠ []) : decBody k ((((0 : Nat) : Int), (toB l, ())), ()) = some (toB l) := by
  unfold decBody
  simp only [join]
  rw [cnd_n (by omega), cnd_n (by intro e; have := congrArg (fun b : ByteArray => b.data.toList) e; exact hl this)]
theorem dec_loop : ∀ (m u : Nat) (l : List UInt8), l ≠ [] → u < 10 ^ m → u < 100000 → l.length + m ≤ 20 → ∀ fu, m < fu → iterF decBody fu (((u : Int), (toB l, ())), ()) = some (toB ((if u = 0 then [] else Lib.decDigits u) ++ l))
  | 0, u, l, hl, hu, _, _, fu, hf => by
    have h0 : u = 0 := by simpa using hu
    subst h0
    obtain ⟨f, rfl⟩ : ∃ f, fu = f + 1 := ⟨fu - 1, by omega⟩
    show decBody (iterF decBody f) _ = _
    rw [dec_done _ l hl]; rfl
  | m + 1, u, l, hl, hu, hu2, hlm, fu, hf => by
    obtain ⟨f, rfl⟩ : ∃ f, fu = f + 1 := ⟨fu - 1, by omega⟩
    show decBody (iterF decBody f) _ = _
    by_cases h0 : u = 0
    · subst h0
      rw [dec_done _ l hl]; rfl
    · rw [dec_next _ u l hu2 (by omega) (.inl (by omega)), dec_loop m (u / 10) _ (by simp) (by rw [Nat.pow_succ] at hu; omega) (by omega) (by simp only [List.length_cons]; omega) f (by omega), if_neg h0]
      rw [Lib.decDigits.eq_def u]
      by_cases h9 : u < 10
      · rw [if_pos (by omega), dif_pos h9, show u % 10 = u by omega]; rfl
      · rw [if_neg (by omega), dif_neg h9]
        rw [List.append_assoc]; rfl
theorem dec_is (u : Nat) (hu : u < 100000) : r25_Decimal 1000 (u : Int) = some (toB (Lib.decDigits u)) := by
  rw [decimal_def]
  show decBody (iterF decBody 999) _ = _
  have e : (ByteArray.mk (List.toArray [])) = toB [] := rfl
  rw [e, dec_next _ u [] hu (by simp) (.inr rfl), dec_loop 5 (u / 10) _ (by simp) (by omega) (by omega) (by simp) 999 (by omega)]
  rw [Lib.decDigits.eq_def u]
  by_cases h9 : u < 10
  · rw [if_pos (by omega), dif_pos h9, show u % 10 = u by omega]; rfl
  · rw [if_neg (by omega), dif_neg h9]
def actT (a : Int) : D.Act := D.Act.mk 2 a (D.Alert.mk 0 [] false) (D.Answer.mk 0 0 0 0 0 0) 0 (D.Edit.mk 0 0 0 0 0) 0 0 0 (ByteArray.mk (List.toArray []))
def lnL (u : Nat) : List UInt8 := 116 :: 105 :: 99 :: 107 :: 32 :: Lib.decDigits u
theorem dig_len (u : Nat) (hu : u < 100000) : (Lib.decDigits u).length ≤ 5 := (dec_len (by decide)).2 hu
theorem in_p {x a b : Int} (h : a ≤ x) (h' : x ≤ b) : r25_In 1000 x a b = some true := by
  unfold r25_In; rw [cnd_p h, cnd_p h']
theorem sin_p {x a b : Int} (h : a ≤ x) (h' : x ≤ b) : script_in 1000 x a b = some true := by
  unfold script_in
  simp [AM.cnd, AM.join, h, h']
theorem same_ref (a : Int) : r44_SameAct 1000 (actT a) (actT a) = some true := by
  unfold r44_SameAct
  have hl : r44_sameLabels 1000 [] [] = some true := by kernel_rfl
  simp [AM.cnd, AM.join, AM.optc, actT, hl]
theorem line_ref (u : Nat) (hu : u < 65536) : r44_line 1000 (actT u) = some (toB (lnL u), true) := by
  have hlen := dig_len u (by omega)
  have hn : r44_number 1000 (u : Int) = some true := by unfold r44_number; rw [in_p (by omega) (by omega)]; rfl
  have hm : max (u : Int) 0 = u := by omega
  have hz : (toB (Lib.decDigits u)).size = (Lib.decDigits u).length := rfl
  unfold r44_line
  rw [show (actT u).At = u from rfl, hn, optc_s, hm, dec_is u (by omega), optc_s, show (actT u).Kind = 2 from rfl]
  rw [lec_p (by rw [hz]; show 1 + _ ≤ _; omega)]
  simp only [join]
  rw [cnd_n (by decide), cnd_p (by decide), lec_p (by rw [ByteArray.size_append, hz]; show 4 + (1 + _) ≤ _; omega)]
  rw [cnd_t]
  show (optc (r44_SameAct 1000 (actT u) (actT u)) fun a6 => cnd a6 (some (_, true)) (some (_, false))) = _
  rw [same_ref, optc_s, cnd_t]
  rfl
theorem toB_app (a b : List UInt8) : toB a ++ toB b = toB (a ++ b) := by
  apply ByteArray.ext
  simp [toB]
theorem fmt_ref (u : Nat) (hu : u < 65536) : r44_Format 1000 [actT u] = some (toB (lnL u ++ [10]), 0) := by
  have hlen := dig_len u (by omega)
  unfold r44_Format
  rw [cnd_n (by first | decide | simp)]
  refine iterF_run (n := 1) (st := fun i => (([actT u], (if i = 0 then toB [] else toB (lnL u ++ [10]), ((i : Int), ()))), ())) (by first | decide | simp) (fun i hi k => ?_) (fun k => ?_)
  · obtain rfl : i = 0 := by omega
    simp only [if_true]
    rw [cnd_p (by first | decide | simp), atc_p (by first | decide | simp) (by first | decide | simp)]
    show (optc (r44_line 1000 (actT u)) _) = _
    rw [line_ref u hu, optc_s]
    simp only [Bool.not_true]
    rw [cnd_f, lec_p (by show (lnL u).length + 1 ≤ _; unfold lnL; simp only [List.length_cons]; omega), lec_p (by
      rw [ByteArray.size_append]; show 0 + ((lnL u).length + 1) ≤ _; unfold lnL; simp only [List.length_cons]; omega)]
    show k _ = k _
    congr 1
  · simp only [show ¬ (1 : Nat) = 0 by decide, if_false]
    rw [cnd_n (by first | decide | simp), cnd_n (by
      show ¬ (65536 : Int) < (((lnL u ++ [10]).length : Nat) : Int)
      unfold lnL; simp only [List.length_append, List.length_cons, List.length_nil]; omega)]
theorem itoa_is (u : Nat) : itoaB (u : Int) = toB (Lib.decDigits u) := by unfold itoaB; rw [itoa_nat]
theorem num_is (u : Nat) (hu : u < 65536) : script_number 1000 (u : Int) = some (toB (Lib.decDigits u)) := by
  unfold script_number strconv_Itoa
  rw [cnd_n (by omega), if_pos (by omega), optc_s, itoa_is]
theorem nums_is (u : Nat) (hu : u < 65536) : script_numbers 1000 [(u : Int)] = some [toB (Lib.decDigits u)] := by
  unfold script_numbers
  refine iterF_run (n := 1) (st := fun i => (([(u : Int)], (((1 : Nat) : Int), ((i : Int), ()))), (if i = 0 then [] else [toB (Lib.decDigits u)], ()))) (by first | decide | simp) (fun i hi k => ?_) (fun k => ?_)
  · obtain rfl : i = 0 := by omega
    simp only [if_true]
    rw [cnd_p (by first | decide | simp), atc_p (by first | decide | simp) (by first | decide | simp)]
    show (optc (script_number 1000 (u : Int)) _) = _
    rw [num_is u hu, optc_s, lec_p (by first | decide | simp)]
    rfl
  · simp only [show ¬ (1 : Nat) = 0 by decide, if_false]
    rw [cnd_n (by first | decide | simp)]
theorem join_is (u : Nat) (hu : u < 65536) : strings_Join 1000 [ByteArray.mk (List.toArray (116 :: (105 :: (99 :: (107 :: []))))), toB (Lib.decDigits u)] (ByteArray.mk (List.toArray (32 :: []))) = some (toB (lnL u)) := by
  have hlen := dig_len u (by omega)
  have e : joinS [ByteArray.mk (List.toArray (116 :: (105 :: (99 :: (107 :: []))))), toB (Lib.decDigits u)] (ByteArray.mk (List.toArray (32 :: []))) = toB (lnL u) := by
    unfold joinS
    simp only [List.map_cons, List.map_nil]
    rw [Lib.join_cons]
    simp [Lib.joinTail, lnL, toB]
  unfold strings_Join
  rw [e, lec_p (by first | decide | simp), lec_p (by show (lnL u).length ≤ _; unfold lnL; simp only [List.length_cons]; omega)]
theorem line_is (u : Nat) (hu : u < 65536) : script_line 1000 (actT u) = some (toB (lnL u ++ [10])) := by
  have hlen := dig_len u (by omega)
  unfold script_line
  simp only [join]
  rw [show (actT u).Kind = 2 from rfl, cnd_n (by first | decide | simp), cnd_p (by first | decide | simp), show (actT u).At = u from rfl, nums_is u hu, optc_s, lec_p (by first | decide | simp)]
  show (optc (strings_Join 1000 [ByteArray.mk (List.toArray (116 :: (105 :: (99 :: (107 :: []))))), toB (Lib.decDigits u)] _) _) = _
  rw [join_is u hu, optc_s, lec_p (by show (lnL u).length + 1 ≤ _; unfold lnL; simp only [List.length_cons]; omega)]
  exact congrArg some (toB_app _ _)
theorem valid_is (u : Nat) (hu : u < 65536) : script_Valid 1000 (actT u) = some true := by
  have hl : label_Valid 1000 [] = some true := by kernel_rfl
  have hnm : script_named 1000 (actT u) = some (actT u) := by
    unfold script_named
    simp only [join]
    rw [show (actT u).Kind = 2 from rfl, cnd_n (by first | decide | simp), cnd_n (by first | decide | simp), cnd_n (by first | decide | simp), cnd_n (by first | decide | simp), cnd_n (by first | decide | simp), cnd_n (by first | decide | simp)]
    rfl
  have hs : script_same 1000 (actT u) (actT u) = some true := by
    have he : slices_Equal_Label 1000 [] [] = some true := by kernel_rfl
    unfold script_same
    simp [AM.cnd, AM.join, AM.optc, actT, he]
  have hi : ∀ x, 0 ≤ x → x ≤ 9999999999 → script_in 1000 x 0 9999999999 = some true := fun x h h' => sin_p h h'
  unfold script_Valid
  simp only [join]
  rw [show (actT u).Kind = 2 from rfl, cnd_n (by first | decide | simp)]
  simp only [join, show (actT u).At = (u : Int) from rfl, show (actT u).Schedule = 0 from rfl, show (actT u).Edit = D.Edit.mk 0 0 0 0 0 from rfl, show (actT u).Arg = 0 from rfl, show (actT u).K = 0 from rfl, show (actT u).Person = 0 from rfl, show (actT u).Kind = 2 from rfl, show (actT u).Alert = D.Alert.mk 0 [] false from rfl,
    hi u (by omega) (by omega), hi 0 (by first | decide | simp) (by first | decide | simp), sin_p (show (-1 : Int) ≤ 0 by decide) (show (0 : Int) ≤ 9999999999 by decide), sin_p (show (1 : Int) ≤ 2 by decide) (show (2 : Int) ≤ 7 by decide), optc_s, cnd_t, hnm, hs, hl]
  rw [cnd_p (by first | decide | simp)]
theorem cut_at (c : UInt8) {l r : List UInt8} (h : ∀ x ∈ l, x ≠ c) : Lib.cut (l ++ c :: r) [c] = (l, r, true) := by
  have hn : ∀ j, j < l.length → (l ++ c :: r)[j]? ≠ some c := fun j hj e => by
    rw [List.getElem?_append_left hj] at e
    exact h c (List.mem_of_getElem? e) rfl
  have hi : Lib.index (l ++ c :: r) [c] = (l.length : Int) := by
    rcases Lib.index_spec (l ++ c :: r) [c] with ⟨h1, h2⟩ | ⟨i, h1, h2, h3, h4⟩
    · have := h2 l.length (by simp)
      rw [occ_one.2 (by simp)] at this
      simp at this
    · rw [h1]
      have e3 := occ_one.1 h3
      by_cases hlt : i < l.length
      · exact absurd e3 (hn i hlt)
      · by_cases heq : i = l.length
        · rw [heq]
        · have := h4 l.length (by omega)
          rw [occ_one.2 (by simp)] at this
          simp at this
  unfold Lib.cut
  rw [hi, if_pos (by omega)]
  simp
theorem dig_ne (u : Nat) {c : UInt8} (hc : ¬ isDig c) : ∀ x ∈ Lib.decDigits u, x ≠ c := fun x hx e => hc (e ▸ dec_dig u x hx)
theorem lnL_ne (u : Nat) : ∀ x ∈ lnL u, x ≠ 10 := by
  intro x hx
  unfold lnL at hx
  simp only [List.mem_cons] at hx
  rcases hx with rfl | rfl | rfl | rfl | rfl | hx
  · decide
  · decide
  · decide
  · decide
  · decide
  · exact dig_ne u (by first | decide | simp) x hx
theorem value_is (u : Nat) (hu : u < 65536) : script_value 1000 (toB (Lib.decDigits u)) = some ((u : Int), true) := by
  have hlen := dig_len u (by omega)
  have ha : Lib.atoiAll (toB (Lib.decDigits u)).data.toList = .ok (u : Int) := atoi_dec (by omega)
  have e1 : atoiV (toB (Lib.decDigits u)) = u := by unfold atoiV; rw [ha]
  have e2 : atoiK (toB (Lib.decDigits u)) = true := by unfold atoiK; rw [ha]
  unfold script_value strconv_Atoi strconv_Itoa
  rw [cnd_n (by
    intro e
    have h1 : Lib.decDigits u = [45] := congrArg (fun b : ByteArray => b.data.toList) e
    exact dig_ne u (c := 45) (by first | decide | simp) 45 (by rw [h1]; simp) rfl), lec_p (by show (Lib.decDigits u).length ≤ _; omega), optc_s, e1, e2]
  simp only []
  rw [cnd_t, if_pos (by omega), optc_s, itoa_is, cnd_p rfl, sin_p (by omega) (by omega)]
  rfl
theorem values_is (u : Nat) (hu : u < 65536) : script_values 1000 (toB (Lib.decDigits u)) 1 = some ([(u : Int)], true) := by
  have hlen := dig_len u (by omega)
  have hsp : Lib.splitB (ByteArray.mk (List.toArray (32 :: []))) 0 (Lib.countB (toB (Lib.decDigits u)) (ByteArray.mk (List.toArray (32 :: [])))) (toB (Lib.decDigits u)) = [toB (Lib.decDigits u)] := by
    rw [splitB_one 32 (toB (Lib.decDigits u))]
    unfold splB
    rw [show unB (toB (Lib.decDigits u)) = Lib.decDigits u from rfl, splL_miss 32 _ (dig_ne u (by first | decide | simp))]
    rfl
  unfold script_values strings_Split
  rw [hsp, lec_p (by show (Lib.decDigits u).length ≤ _; omega), lec_p (by first | decide | simp), optc_s]
  refine iterF_run (n := 1) (st := fun i => (((1 : Int), ([toB (Lib.decDigits u)], (((1 : Nat) : Int), ((i : Int), ())))), (if i = 0 then [] else [(u : Int)], ()))) (by first | decide | simp) (fun i hi k => ?_) (fun k => ?_)
  · obtain rfl : i = 0 := by omega
    simp only [if_true]
    rw [cnd_p (by first | decide | simp), atc_p (by first | decide | simp) (by first | decide | simp)]
    show (optc (script_value 1000 (toB (Lib.decDigits u))) _) = _
    rw [value_is u hu, optc_s]
    simp only [Bool.not_true]
    rw [cnd_f, lec_p (by first | decide | simp)]
    rfl
  · simp only [show ¬ (1 : Nat) = 0 by decide, if_false]
    rw [cnd_n (by first | decide | simp)]
    rfl
theorem read_is (u : Nat) (hu : u < 65536) : script_read 1000 (toB (lnL u)) = some (actT u, true) := by
  have hlen := dig_len u (by omega)
  have hll : (lnL u).length ≤ 10 := by unfold lnL; simp only [List.length_cons]; omega
  have hc : strings_Cut 1000 (toB (lnL u)) (ByteArray.mk (List.toArray (32 :: []))) = some (tickB, toB (Lib.decDigits u), true) := by
    unfold strings_Cut
    rw [lec_p (by show (lnL u).length ≤ _; omega)]
    have := cut_at 32 (l := [116, 105, 99, 107]) (r := Lib.decDigits u) (by first | decide | simp)
    show some (match Lib.cut ([116, 105, 99, 107] ++ 32 :: Lib.decDigits u) [32] with | (a, b, c) => (toB a, toB b, c)) = _
    rw [this]; rfl
  unfold script_read
  rw [hc, optc_s]
  simp only [if_true]
  have hv : script_verbs_1_1_F54 1000 (toB (Lib.decDigits u)) 1 = some (actT u, true) := by
    unfold script_verbs_1_1_F54
    rw [values_is u hu, optc_s]
    simp only [Bool.not_true]
    rw [cnd_f]
    rfl
  rw [hv, optc_s]
  unfold readTail
  simp only []
  rw [cnd_t, valid_is u hu, optc_s, cnd_t, line_is u hu, optc_s, lec_p (by show (lnL u).length + 1 ≤ _; omega), cnd_p (show toB (lnL u ++ [10]) = toB (lnL u) ++ ByteArray.mk (List.toArray (10 :: [])) from (toB_app (lnL u) [10]).symm)]
def catL : Nat → List UInt8 → List UInt8
  | 0, _ => []
  | k + 1, l => l ++ catL k l
theorem catL_snoc (l : List UInt8) : ∀ k, catL (k + 1) l = catL k l ++ l
  | 0 => by simp [catL]
  | k + 1 => by
    show l ++ catL (k + 1) l = (l ++ catL k l) ++ l
    rw [catL_snoc l k, List.append_assoc]
theorem catL_len (l : List UInt8) : ∀ k, (catL k l).length = k * l.length
  | 0 => by simp [catL]
  | k + 1 => by
    show (l ++ catL k l).length = _
    rw [List.length_append, catL_len l k, Nat.succ_mul, Nat.add_comm]
theorem ln_len (u : Nat) (hu : u < 65536) : (lnL u ++ [10]).length ≤ 11 := by
  have := dig_len u (by omega)
  unfold lnL; simp only [List.length_append, List.length_cons, List.length_nil]; omega
theorem cat_size (u : Nat) (hu : u < 65536) {k : Nat} (hk : k ≤ 201) : (catL k (lnL u ++ [10])).length ≤ 2211 := by
  rw [catL_len]
  exact Nat.le_trans (Nat.mul_le_mul hk (ln_len u hu)) (by decide)
theorem fmtV_is (u : Nat) (hu : u < 65536) : ∀ k, fmtV 1000 (List.replicate k (actT u)) = some true
  | 0 => rfl
  | k + 1 => by
    rw [List.replicate_succ]
    unfold fmtV
    rw [valid_is u hu, optc_s]
    exact fmtV_is u hu k
theorem fmtL_is (u : Nat) (hu : u < 65536) : ∀ k, fmtL 1000 (List.replicate k (actT u)) = some (catL k (lnL u ++ [10]))
  | 0 => rfl
  | k + 1 => by
    rw [List.replicate_succ]
    unfold fmtL
    rw [line_is u hu, optc_s, fmtL_is u hu k, optc_s]
    rfl
theorem format_ok (u : Nat) (hu : u < 65536) {k : Nat} (hk : k ≤ 200) : script_Format 1000 (List.replicate k (actT u)) = some (toB (catL k (lnL u ++ [10])), 0) := by
  have hs := cat_size u hu (show k ≤ 201 by omega)
  unfold script_Format
  rw [List.length_replicate, if_neg (by omega), fmtV_is u hu, optc_s]
  show optc (fmtL 1000 _) _ = _
  rw [fmtL_is u hu, optc_s, lec_p (by omega), if_neg (by omega)]
theorem format_many (u : Nat) : script_Format 1000 (List.replicate 201 (actT u)) = some (toB [], 5) := by
  unfold script_Format
  rw [List.length_replicate, if_pos (by omega)]
def parB : ((ByteArray × (Int × Unit)) × (List D.Act × Unit) → Option (List D.Act × Int × Int)) → (ByteArray × (Int × Unit)) × (List D.Act × Unit) → Option (List D.Act × Int × Int) := (fun L0 ((a1, (a2, _)), (a3, _)) =>
    (cnd (decide (a1 ≠ (ByteArray.mk (List.toArray []))))
     (optc (strings_Cut 1000 a1 (ByteArray.mk (List.toArray (10 :: [])))) fun (a4, (a5, a6)) =>
      (optc (script_read 1000 a4) fun (a7, a8) =>
       (join (Y := ((Int × (ByteArray × Unit)) × (D.Act × (List D.Act × Unit)))) (fun ((a9, (a10, _)), (a11, (a12, _))) =>
         (cnd (decide (200 < a9))
          (some ([], (a9, 5)))
          (lec ((List.length a12) + (List.length (a11 :: []))) 34359738368 (L0 ((a10, ((IntKind.wrap .i64 (a9 + 1)), ())), ((a12 ++ (a11 :: [])), ())))))) fun J13 =>
        (cnd a8
         (cnd a6
          (J13 ((a2, (a5, ())), (a7, (a3, ()))))
          (some ([], (a2, 2))))
         (some ([], (a2, 2)))))))
     (some (a3, (0, 0)))))
theorem parse_def (p : ByteArray) (h : p.size ≤ 65536) : script_Parse 1000 p = iterF parB 1000 ((p, (1, ())), ([], ())) := by
  show cnd (decide (65536 < (((ByteArray.size p) : Nat) : Int))) _ (iterF parB 1000 ((p, (1, ())), ([], ()))) = _
  rw [cnd_n (by omega)]
theorem par_next (u : Nat) (hu : u < 65536) (m i : Nat) (hm : m ≤ 200) (hi : i ≤ 200) (k : (ByteArray × (Int × Unit)) × (List D.Act × Unit) → Option (List D.Act × Int × Int)) :
    parB k ((toB (catL (m + 1) (lnL u ++ [10])), (((i : Int) + 1), ())), (List.replicate i (actT u), ())) = if i < 200 then k ((toB (catL m (lnL u ++ [10])), ((((i + 1 : Nat) : Int) + 1), ())), (List.replicate (i + 1) (actT u), ())) else some ([], ((i : Int) + 1, 5)) := by
  have hs := cat_size u hu (show m + 1 ≤ 201 by omega)
  have he : catL (m + 1) (lnL u ++ [10]) = lnL u ++ 10 :: catL m (lnL u ++ [10]) := by
    show (lnL u ++ [10]) ++ catL m (lnL u ++ [10]) = _
    rw [List.append_assoc]; rfl
  have hc : strings_Cut 1000 (toB (catL (m + 1) (lnL u ++ [10]))) (ByteArray.mk (List.toArray (10 :: []))) = some (toB (lnL u), toB (catL m (lnL u ++ [10])), true) := by
    unfold strings_Cut
    rw [lec_p (by show (catL (m + 1) (lnL u ++ [10])).length ≤ _; omega)]
    show some (match Lib.cut (catL (m + 1) (lnL u ++ [10])) [10] with | (a, b, c) => (toB a, toB b, c)) = _
    rw [he, cut_at 10 (lnL_ne u)]
  unfold parB
  dsimp only
  rw [cnd_p (by
    intro e
    have h1 : catL (m + 1) (lnL u ++ [10]) = [] := congrArg (fun b : ByteArray => b.data.toList) e
    rw [he] at h1; simp at h1), hc, optc_s]
  simp only [join]
  rw [read_is u hu, optc_s]
  simp only []
  rw [cnd_t, cnd_t]
  by_cases h2 : i < 200
  · rw [if_pos h2, cnd_n (by omega), lec_p (by simp only [List.length_replicate, List.length_cons, List.length_nil]; omega), wrap_p (by omega) (by omega)]
    congr 1
    rw [List.replicate_succ']
    rfl
  · rw [if_neg h2, cnd_p (by omega)]
theorem par_end (k : (ByteArray × (Int × Unit)) × (List D.Act × Unit) → Option (List D.Act × Int × Int)) (n : Int) (l : List D.Act) : parB k ((toB [], (n, ())), (l, ())) = some (l, (0, 0)) := by
  unfold parB
  dsimp only
  rw [cnd_n (by intro h; exact h rfl)]
theorem parse_ok (u : Nat) (hu : u < 65536) {n : Nat} (hn : n ≤ 200) : script_Parse 1000 (toB (catL n (lnL u ++ [10]))) = some (List.replicate n (actT u), (0, 0)) := by
  have hs := cat_size u hu (show n ≤ 201 by omega)
  rw [parse_def _ (by show (catL n (lnL u ++ [10])).length ≤ _; omega)]
  refine iterF_run n (fu := 1000) (st := fun i => ((toB (catL (n - i) (lnL u ++ [10])), ((((i : Nat) : Int) + 1), ())), (List.replicate i (actT u), ()))) (by omega) (fun i hi k => ?_) (fun k => ?_)
  · obtain ⟨m, hm⟩ : ∃ m, n - i = m + 1 := ⟨n - i - 1, by omega⟩
    rw [hm, par_next u hu m i (by omega) (by omega), if_pos (by omega), show n - (i + 1) = m by omega]
  · rw [Nat.sub_self]
    exact par_end _ _ _
theorem parse_many (u : Nat) (hu : u < 65536) : script_Parse 1000 (toB (catL 201 (lnL u ++ [10]))) = some ([], (201, 5)) := by
  have hs := cat_size u hu (show 201 ≤ 201 by omega)
  rw [parse_def _ (by show (catL 201 (lnL u ++ [10])).length ≤ _; omega)]
  refine iterF_run 200 (fu := 1000) (st := fun i => ((toB (catL (201 - i) (lnL u ++ [10])), ((((i : Nat) : Int) + 1), ())), (List.replicate i (actT u), ()))) (by omega) (fun i hi k => ?_) (fun k => ?_)
  · obtain ⟨m, hm⟩ : ∃ m, 201 - i = m + 1 := ⟨200 - i, by omega⟩
    rw [hm, par_next u hu m i (by omega) (by omega), if_pos (by omega), show 201 - (i + 1) = m by omega]
  · rw [show 201 - 200 = 0 + 1 by omega, par_next u hu 0 200 (by omega) (by omega), if_neg (by omega)]
    rfl
theorem scriptLimits_true (n t : Int) (hn : 0 ≤ n ∧ n ≤ 255) (ht : 0 ≤ t ∧ t ≤ 65535) : law44_ScriptLimits 1000 n t = some true := by
  obtain ⟨u, rfl⟩ : ∃ u : Nat, t = u := ⟨t.toNat, by omega⟩
  have hu : u < 65536 := by omega
  obtain ⟨K, hK, hK2⟩ : ∃ K : Nat, IntKind.wrap .i64 (199 + (Int.tmod (IntKind.wrap .i64 n) 3)) = K ∧ (K ≤ 200 ∨ K = 201) := by
    rw [show IntKind.wrap .i64 n = n from wrap_p (by omega) (by omega), Int.tmod_eq_emod_of_nonneg hn.1, wrap_p (by omega) (by omega)]
    exact ⟨(199 + n % 3).toNat, by omega, by omega⟩
  have hw : IntKind.wrap .i64 (u : Int) = u := wrap_p (by omega) (by omega)
  unfold law44_ScriptLimits
  rw [nzc_p (by decide), hK]
  refine iterF_run K (fu := 1000) (st := fun i => (((u : Int), ((K : Int), (toB (catL i (lnL u ++ [10])), (((i : Nat) : Int), ())))), (List.replicate i (actT u), ()))) (by omega) (fun i hi k => ?_) (fun k => ?_)
  · have hs := cat_size u hu (show i ≤ 201 by omega)
    have hl := ln_len u hu
    dsimp only
    rw [cnd_p (by omega), hw]
    show (optc (r44_Format 1000 [actT u]) _) = _
    rw [fmt_ref u hu, optc_s]
    simp only []
    rw [cnd_n (by intro h; exact h rfl), lec_p (by simp only [List.length_replicate, List.length_cons, List.length_nil]; omega), lec_p (by show (catL i (lnL u ++ [10])).length + (lnL u ++ [10]).length ≤ _; omega), wrap_p (by omega) (by omega), toB_app, ← catL_snoc]
    congr 1
    rw [List.replicate_succ']
    rfl
  · dsimp only
    rw [cnd_n (by omega)]
    rcases hK2 with hk | hk
    · rw [format_ok u hu hk, optc_s, parse_ok u hu hk, optc_s]
      simp only []
      rw [cnd_p (by omega), cnd_p trivial, cnd_p trivial, cnd_p trivial, cnd_p trivial, sane44_true, optc_s, cnd_t]
    · subst hk
      rw [format_many, optc_s, parse_many u hu, optc_s]
      simp only []
      rw [cnd_n (by decide), cnd_p trivial, cnd_p trivial, cnd_p (by omega), sane44_true, optc_s, cnd_t]
end Go.Proofs.YtkfmncmhagpajaaGreatDoor
