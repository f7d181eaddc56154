/- Own text, printed by wip/g2: what the functions tell, plainly. -/
import Derived.Test.YtpiliblfmpgjeaaMemJ
namespace Go.Proofs.Ytpiliblfmpgjeaa
open Go K
set_option linter.unusedVariables false
structure S_api_Touch where
  kind : Int
  ino : Int
  name : Str
  lo : Int
  hi : Int
  deriving DecidableEq, Inhabited
structure S_armoirelaw15_Op where
  do_ : Int
  n : Int
  t : S_api_Touch
  deriving DecidableEq, Inhabited
structure S_reads_Set where
  l : (List S_api_Touch)
  deriving DecidableEq, Inhabited
structure S_armoirelaw15_Act where
  do_ : Int
  v : Int
  l : (List S_api_Touch)
  deriving DecidableEq, Inhabited
structure S_reads_was where
  version : Int
  l : (List S_api_Touch)
  deriving DecidableEq, Inhabited
structure S_reads_History where
  l : (List S_reads_was)
  deriving DecidableEq, Inhabited
structure S_armoireref15_Was where
  version : Int
  l : (List S_api_Touch)
  deriving DecidableEq, Inhabited
def reads_Check.j0 (a0 : S_api_Touch) (x90 : Str) (x91 : Int) (x92 : Int) : Option (Int) :=
  (if a0.ino = 0 then some 1 else (if a0 ≠ (S_api_Touch.mk a0.kind a0.ino x90 x91 x92) then some 1 else some 0))
def reads_Check.f (a0 : S_api_Touch) : Option (Int) :=
  (if a0.kind = 4 then (if a0.lo < 0 then some 1 else (if a0.hi ≤ a0.lo then some 1 else (if 512 < a0.hi then some 1 else reads_Check.j0 a0 [] a0.lo a0.hi))) else (if a0.kind = 5 then (if a0.name = ([] : Str) then some 1 else reads_Check.j0 a0 a0.name 0 0) else (if a0.kind = 1 then (if a0.kind = 1 then reads_Check.j0 a0 [] 0 0 else some 1) else (if a0.kind = 2 then (if a0.kind = 2 then reads_Check.j0 a0 [] 0 0 else some 1) else (if a0.kind = 3 then (if a0.kind = 3 then reads_Check.j0 a0 [] 0 0 else some 1) else (if a0.kind = 6 then (if a0.kind = 6 then reads_Check.j0 a0 [] 0 0 else some 1) else (if a0.kind = 7 then reads_Check.j0 a0 [] 0 0 else some 1)))))))
def reads_Meet.j0 (a0 : S_api_Touch) (a1 : S_api_Touch) (b25 : Bool) : Option (Bool) :=
  (if b25 = true then some (decide (a0.kind = a1.kind)) else (if a1.kind = 4 then (if a0.kind = a1.kind then (if a0.lo < a1.hi then some (decide (a1.lo < a0.hi)) else some false) else some false) else (if a1.kind = 5 then (if a0.kind = a1.kind then (if a0.name = a1.name then some true else some (decide (a0.kind = 6))) else some (decide (a0.kind = 6))) else (if a0.kind = a1.kind then (if a0.kind ≠ 7 then some (decide (a0.kind ≠ 6)) else some false) else some false))))
def reads_Meet.f (a0 : S_api_Touch) (a1 : S_api_Touch) : Option (Bool) :=
  (reads_Check.f a0).bind fun t7 => (if t7 ≠ 0 then some false else (reads_Check.f a1).bind fun t19 => (if t19 ≠ 0 then some false else (if a0.ino ≠ a1.ino then some false else (if a1.kind = 7 then some true else (if a1.kind = 1 then reads_Meet.j0 a0 a1 (decide (a1.kind = 1)) else (if a1.kind = 2 then reads_Meet.j0 a0 a1 (decide (a1.kind = 2)) else reads_Meet.j0 a0 a1 (decide (a1.kind = 3))))))))
def armoirelaw15_live.f  : Option (Bool) :=
  (reads_Meet.f (S_api_Touch.mk 6 1 [] 0 0) (S_api_Touch.mk 5 1 ([98] : Str) 0 0)).bind fun t15 => (if t15 = true then (reads_Meet.f (S_api_Touch.mk 5 1 ([97] : Str) 0 0) (S_api_Touch.mk 5 1 ([98] : Str) 0 0)).bind fun t27 => (if (!t27) = true then (reads_Meet.f (S_api_Touch.mk 4 2 [] 0 4) (S_api_Touch.mk 4 2 [] 3 9)).bind fun t43 => (if t43 = true then (reads_Meet.f (S_api_Touch.mk 4 2 [] 0 4) (S_api_Touch.mk 4 2 [] 4 9)).bind fun t59 => (if (!t59) = true then (reads_Meet.f (S_api_Touch.mk 3 2 [] 0 0) (S_api_Touch.mk 7 2 [] 0 0)).bind fun t67 => (if t67 = true then (reads_Check.f (S_api_Touch.mk 0 0 [] 0 0)).bind fun t75 => some (decide (t75 = 1)) else some false) else some false) else some false) else some false) else some false)
def reads_New.f  : Option (S_reads_Set) :=
  some (S_reads_Set.mk ([] : List S_api_Touch))
def slices_Index_Lapi_Touch_api_Touch.l0 (a0 : (List S_api_Touch)) (a1 : S_api_Touch) : Nat → Int → Option (Int)
  | 0, _ => none
  | d14 + 1, x3 =>
    (if x3 < (a0.length : Int) then (if 0 ≤ x3 ∧ x3 < a0.length then (if a1 = (a0.getD x3.toNat (S_api_Touch.mk 0 0 [] 0 0)) then some x3 else (slices_Index_Lapi_Touch_api_Touch.l0 a0 a1 d14) (wi64 (x3 + 1))) else none) else some (-1))
def slices_Index_Lapi_Touch_api_Touch.f (a0 : (List S_api_Touch)) (a1 : S_api_Touch) : Option (Int) :=
  slices_Index_Lapi_Touch_api_Touch.l0 a0 a1 FUEL 0
def slices_Contains_Lapi_Touch_api_Touch.f (a0 : (List S_api_Touch)) (a1 : S_api_Touch) : Option (Bool) :=
  (slices_Index_Lapi_Touch_api_Touch.f a0 a1).bind fun t5 => some (decide (0 ≤ t5))
def reads_Set_Add.f (a0 : S_reads_Set) (a1 : S_api_Touch) : Option (Int × S_reads_Set) :=
  (reads_Check.f a1).bind fun t7 => (if t7 ≠ 0 then some (t7, a0) else (slices_Contains_Lapi_Touch_api_Touch.f a0.l a1).bind fun t13 => (if (!t13) = true then (if a0.l.length + ([a1] : List S_api_Touch).length ≤ 2932031007402 then some (0, (S_reads_Set.mk (a0.l ++ ([a1] : List S_api_Touch)))) else none) else some (0, a0)))
def armoireref15_Check.j1 (a0 : S_api_Touch) (x42 : Str) (x43 : Int) (x44 : Int) (b45 : Bool) : Option (Int) :=
  (if (!b45) = true then some 1 else (if a0 ≠ (S_api_Touch.mk a0.kind a0.ino x42 x43 x44) then some 1 else some 0))
def armoireref15_Check.j0 (a0 : S_api_Touch) (b19 : Bool) : Option (Int) :=
  (if b19 = true then armoireref15_Check.j1 a0 [] 0 0 (decide (a0.ino ≠ 0)) else (if a0.kind = 4 then (if a0.ino ≠ 0 then (if 0 ≤ a0.lo then (if a0.lo < a0.hi then armoireref15_Check.j1 a0 [] a0.lo a0.hi (decide (a0.hi ≤ 512)) else some 1) else some 1) else some 1) else (if a0.kind = 5 then (if a0.ino ≠ 0 then armoireref15_Check.j1 a0 a0.name 0 0 (decide (a0.name ≠ ([] : Str))) else some 1) else some 1)))
def armoireref15_Check.f (a0 : S_api_Touch) : Option (Int) :=
  (if a0.kind = 1 then armoireref15_Check.j0 a0 (decide (a0.kind = 1)) else (if a0.kind = 2 then armoireref15_Check.j0 a0 (decide (a0.kind = 2)) else (if a0.kind = 3 then armoireref15_Check.j0 a0 (decide (a0.kind = 3)) else (if a0.kind = 6 then armoireref15_Check.j0 a0 (decide (a0.kind = 6)) else armoireref15_Check.j0 a0 (decide (a0.kind = 7))))))
def armoireref15_Add.l0 (a0 : (List S_api_Touch)) (a1 : S_api_Touch) : Nat → Int → Option ((List S_api_Touch))
  | 0, _ => none
  | d38 + 1, x4 =>
    (if x4 < (a0.length : Int) then (if 0 ≤ x4 ∧ x4 < a0.length then (if (a0.getD x4.toNat (S_api_Touch.mk 0 0 [] 0 0)) = a1 then some a0 else (armoireref15_Add.l0 a0 a1 d38) (wi64 (x4 + 1))) else none) else (if 0 ≤ (a0.length : Int) ∧ (a0.length : Int) ≤ a0.length then (if (a0.take ((a0.length : Int).toNat)).length + ([a1] : List S_api_Touch).length ≤ 2932031007402 then some (a0.take ((a0.length : Int).toNat) ++ ([a1] : List S_api_Touch)) else none) else none))
def armoireref15_Add.f (a0 : (List S_api_Touch)) (a1 : S_api_Touch) : Option ((List S_api_Touch)) :=
  armoireref15_Add.l0 a0 a1 FUEL 0
def reads_Set_Undo.f (a0 : S_reads_Set) (a1 : Int) : Option (Int × S_reads_Set) :=
  (if a1 < 0 then some (1, a0) else (if (a0.l.length : Int) < a1 then some (1, a0) else (if 0 ≤ a1 ∧ a1 ≤ a0.l.length then some (0, (S_reads_Set.mk (a0.l.take a1.toNat))) else none)))
def slices_Clone_Lapi_Touch_api_Touch.f (a0 : (List S_api_Touch)) : Option ((List S_api_Touch)) :=
  (if ([] : List S_api_Touch).length + a0.length ≤ 2932031007402 then some (([] : List S_api_Touch) ++ a0) else none)
def reads_Set_All.f (a0 : S_reads_Set) : Option ((List S_api_Touch)) :=
  (slices_Clone_Lapi_Touch_api_Touch.f a0.l).bind fun t3 => some t3
def reads_Set_Mark.f (a0 : S_reads_Set) : Option (Int) :=
  some (a0.l.length : Int)
def armoirelaw15_same.l0 (a1 : (List S_api_Touch)) (t3 : ((List S_api_Touch))) : Nat → (List S_api_Touch) → Int → Option (Bool)
  | 0, _, _ => none
  | d48 + 1, x32, x33 =>
    (if x33 < (t3.length : Int) then (if 0 ≤ x33 ∧ x33 < x32.length then (if 0 ≤ x33 ∧ x33 < a1.length then (if (x32.getD x33.toNat (S_api_Touch.mk 0 0 [] 0 0)) ≠ (a1.getD x33.toNat (S_api_Touch.mk 0 0 [] 0 0)) then some false else (if 0 ≤ x33 ∧ x33 < x32.length then (armoirelaw15_same.l0 a1 t3 d48) (x32.set x33.toNat (S_api_Touch.mk ((x32.getD x33.toNat (S_api_Touch.mk 0 0 [] 0 0)).kind) 0 ((x32.getD x33.toNat (S_api_Touch.mk 0 0 [] 0 0)).name) ((x32.getD x33.toNat (S_api_Touch.mk 0 0 [] 0 0)).lo) ((x32.getD x33.toNat (S_api_Touch.mk 0 0 [] 0 0)).hi))) (wi64 (x33 + 1)) else none)) else none) else none) else some true)
def armoirelaw15_same.f (a0 : S_reads_Set) (a1 : (List S_api_Touch)) : Option (Bool) :=
  (reads_Set_All.f a0).bind fun t3 => (if (t3.length : Int) ≠ (a1.length : Int) then some false else (reads_Set_Mark.f a0).bind fun t14 => (if t14 ≠ (a1.length : Int) then some false else armoirelaw15_same.l0 a1 t3 FUEL t3 0))
def armoirelaw15_ReadsSets.j1 (x251 : (List S_api_Touch)) (x255 : (List S_api_Touch)) (x256 : Int) (kont454 : (List S_api_Touch) → (List S_api_Touch) → Int → Option (Bool)) (x462 : Int) (x629 : Int) : Option (Bool) :=
  (reads_Set_Undo.f (S_reads_Set.mk x251) x462).bind fun t630 => (if t630.1 ≠ x629 then some false else (if x629 = 0 then (if 0 ≤ x462 ∧ x462 ≤ x255.length then (armoirelaw15_same.f t630.2 (x255.take x462.toNat)).bind fun t641 => (if (!t641) = true then some false else kont454 t630.2.l (x255.take x462.toNat) (wi64 (x256 + 1))) else none) else (armoirelaw15_same.f t630.2 x255).bind fun t646 => (if (!t646) = true then some false else kont454 t630.2.l x255 (wi64 (x256 + 1)))))
def armoirelaw15_ReadsSets.j0 (a0 : (List S_armoirelaw15_Op)) (x251 : (List S_api_Touch)) (x255 : (List S_api_Touch)) (x256 : Int) (kont454 : (List S_api_Touch) → (List S_api_Touch) → Int → Option (Bool)) (x462 : Int) : Option (Bool) :=
  (if ((a0.getD x256.toNat (S_armoirelaw15_Op.mk 0 0 (S_api_Touch.mk 0 0 [] 0 0))).do_) = 0 then (reads_Set_Add.f (S_reads_Set.mk x251) ((a0.getD x256.toNat (S_armoirelaw15_Op.mk 0 0 (S_api_Touch.mk 0 0 [] 0 0))).t)).bind fun t548 => (armoireref15_Check.f ((a0.getD x256.toNat (S_armoirelaw15_Op.mk 0 0 (S_api_Touch.mk 0 0 [] 0 0))).t)).bind fun t557 => (if t548.1 ≠ t557 then some false else (armoireref15_Check.f ((a0.getD x256.toNat (S_armoirelaw15_Op.mk 0 0 (S_api_Touch.mk 0 0 [] 0 0))).t)).bind fun t563 => (if t563 = 0 then (armoireref15_Add.f x255 ((a0.getD x256.toNat (S_armoirelaw15_Op.mk 0 0 (S_api_Touch.mk 0 0 [] 0 0))).t)).bind fun t587 => (armoirelaw15_same.f t548.2 t587).bind fun t594 => (if (!t594) = true then some false else kont454 t548.2.l t587 (wi64 (x256 + 1))) else (armoirelaw15_same.f t548.2 x255).bind fun t599 => (if (!t599) = true then some false else kont454 t548.2.l x255 (wi64 (x256 + 1))))) else (if x462 < 0 then (reads_Set_Undo.f (S_reads_Set.mk x251) x462).bind fun t616 => (if t616.1 ≠ 1 then some false else (armoirelaw15_same.f t616.2 x255).bind fun t623 => (if (!t623) = true then some false else kont454 t616.2.l x255 (wi64 (x256 + 1)))) else (if (x255.length : Int) < x462 then armoirelaw15_ReadsSets.j1 x251 x255 x256 kont454 x462 1 else armoirelaw15_ReadsSets.j1 x251 x255 x256 kont454 x462 0)))
def armoirelaw15_ReadsSets.l0 (a0 : (List S_armoirelaw15_Op)) (t1 : (Bool)) : Nat → (List S_api_Touch) → (List S_api_Touch) → Int → Option (Bool)
  | 0, _, _, _ => none
  | d453 + 1, x251, x255, x256 =>
    (if x256 < (a0.length : Int) then (if 0 ≤ x256 ∧ x256 < a0.length then (if ((a0.getD x256.toNat (S_armoirelaw15_Op.mk 0 0 (S_api_Touch.mk 0 0 [] 0 0))).do_) = 1 then armoirelaw15_ReadsSets.j0 a0 x251 x255 x256 (armoirelaw15_ReadsSets.l0 a0 t1 d453) (wi64 ((x255.length : Int) - (Int.tmod (wi64 ((Int.tmod ((a0.getD x256.toNat (S_armoirelaw15_Op.mk 0 0 (S_api_Touch.mk 0 0 [] 0 0))).n) 9) + 9)) 9))) else armoirelaw15_ReadsSets.j0 a0 x251 x255 x256 (armoirelaw15_ReadsSets.l0 a0 t1 d453) ((a0.getD x256.toNat (S_armoirelaw15_Op.mk 0 0 (S_api_Touch.mk 0 0 [] 0 0))).n)) else none) else some t1)
def armoirelaw15_ReadsSets.f (a0 : (List S_armoirelaw15_Op)) : Option (Bool) :=
  (armoirelaw15_live.f).bind fun t1 => (reads_New.f).bind fun t5 => (if 100 < (a0.length : Int) then (if t1 = true then some true else some false) else armoirelaw15_ReadsSets.l0 a0 t1 FUEL t5.l ([] : List S_api_Touch) 0)
def reads_NewHistory.f  : Option (S_reads_History) :=
  some (S_reads_History.mk ([] : List S_reads_was))
def reads_History_Add_1.f (a0 : S_api_Touch) : Option (Bool) :=
  (reads_Check.f a0).bind fun t5 => some (decide (t5 ≠ 0))
def reads_History_Add.j0 (a0 : S_reads_History) (a1 : Int) (a2 : (List S_api_Touch)) (b124 : Bool) : Option (Int × S_reads_History) :=
  (if b124 = true then some (1, a0) else (slices_Clone_Lapi_Touch_api_Touch.f a2).bind fun t125 => (if a0.l.length + ([(S_reads_was.mk a1 t125)] : List S_reads_was).length ≤ 4398046511104 then some (0, (S_reads_History.mk (a0.l ++ ([(S_reads_was.mk a1 t125)] : List S_reads_was)))) else none))
def reads_History_Add.j1 (a0 : S_reads_History) (a1 : Int) (a2 : (List S_api_Touch)) (b152 : Bool) : Option (Int × S_reads_History) :=
  (if b152 = true then some (1, a0) else (slices_Clone_Lapi_Touch_api_Touch.f a2).bind fun t153 => (if a0.l.length + ([(S_reads_was.mk a1 t153)] : List S_reads_was).length ≤ 4398046511104 then some (0, (S_reads_History.mk (a0.l ++ ([(S_reads_was.mk a1 t153)] : List S_reads_was)))) else none))
def reads_History_Add.l0 (a0 : S_reads_History) (a1 : Int) (a2 : (List S_api_Touch)) : Nat → Int → Option (Int × S_reads_History)
  | 0, _ => none
  | d283 + 1, x270 =>
    (if x270 < (a2.length : Int) then (if 0 ≤ x270 ∧ x270 < a2.length then (reads_History_Add_1.f (a2.getD x270.toNat (S_api_Touch.mk 0 0 [] 0 0))).bind fun t290 => (if t290 = true then reads_History_Add.j1 a0 a1 a2 (decide (0 ≤ x270)) else (reads_History_Add.l0 a0 a1 a2 d283) (wi64 (x270 + 1))) else none) else reads_History_Add.j0 a0 a1 a2 false)
def reads_History_Add.j2 (a0 : S_reads_History) (a1 : Int) (a2 : (List S_api_Touch)) (b357 : Bool) : Option (Int × S_reads_History) :=
  (if b357 = true then some (1, a0) else (slices_Clone_Lapi_Touch_api_Touch.f a2).bind fun t358 => (if a0.l.length + ([(S_reads_was.mk a1 t358)] : List S_reads_was).length ≤ 4398046511104 then some (0, (S_reads_History.mk (a0.l ++ ([(S_reads_was.mk a1 t358)] : List S_reads_was)))) else none))
def reads_History_Add.j3 (a0 : S_reads_History) (a1 : Int) (a2 : (List S_api_Touch)) : Option (Int × S_reads_History) :=
  (slices_Clone_Lapi_Touch_api_Touch.f a2).bind fun t385 => (if a0.l.length + ([(S_reads_was.mk a1 t385)] : List S_reads_was).length ≤ 4398046511104 then some (0, (S_reads_History.mk (a0.l ++ ([(S_reads_was.mk a1 t385)] : List S_reads_was)))) else none)
def reads_History_Add.l1 (a0 : S_reads_History) (a1 : Int) (a2 : (List S_api_Touch)) : Nat → Int → Option (Int × S_reads_History)
  | 0, _ => none
  | d454 + 1, x441 =>
    (if x441 < (a2.length : Int) then (if 0 ≤ x441 ∧ x441 < a2.length then (reads_History_Add_1.f (a2.getD x441.toNat (S_api_Touch.mk 0 0 [] 0 0))).bind fun t461 => (if t461 = true then reads_History_Add.j2 a0 a1 a2 (decide (0 ≤ x441)) else (reads_History_Add.l1 a0 a1 a2 d454) (wi64 (x441 + 1))) else none) else reads_History_Add.j3 a0 a1 a2)
def reads_History_Add.f (a0 : S_reads_History) (a1 : Int) (a2 : (List S_api_Touch)) : Option (Int × S_reads_History) :=
  (if 0 < (a0.l.length : Int) then (if 0 ≤ wi64 ((a0.l.length : Int) - 1) ∧ wi64 ((a0.l.length : Int) - 1) < a0.l.length then (if a1 ≤ ((a0.l.getD ((wi64 ((a0.l.length : Int) - 1)).toNat) (S_reads_was.mk 0 [])).version) then reads_History_Add.j0 a0 a1 a2 true else reads_History_Add.l0 a0 a1 a2 FUEL 0) else none) else reads_History_Add.l1 a0 a1 a2 FUEL 0)
def armoireref15_Good.l1 (a2 : (List S_api_Touch)) : Nat → Bool → Int → Option (Bool)
  | 0, _, _ => none
  | d197 + 1, b173, x174 =>
    (if x174 < (a2.length : Int) then (if 0 ≤ x174 ∧ x174 < a2.length then (if b173 = true then (armoireref15_Check.f (a2.getD x174.toNat (S_api_Touch.mk 0 0 [] 0 0))).bind fun t214 => (armoireref15_Good.l1 a2 d197) (decide (t214 = 0)) (wi64 (x174 + 1)) else (armoireref15_Good.l1 a2 d197) false (wi64 (x174 + 1))) else none) else some b173)
def armoireref15_Good.l0 (a0 : (List S_armoireref15_Was)) (a1 : Int) (a2 : (List S_api_Touch)) : Nat → Bool → Int → Option (Bool)
  | 0, _, _ => none
  | d112 + 1, b1, x2 =>
    (if x2 < (a0.length : Int) then (if 0 ≤ x2 ∧ x2 < a0.length then (if b1 = true then (armoireref15_Good.l0 a0 a1 a2 d112) (decide (((a0.getD x2.toNat (S_armoireref15_Was.mk 0 [])).version) < a1)) (wi64 (x2 + 1)) else (armoireref15_Good.l0 a0 a1 a2 d112) false (wi64 (x2 + 1))) else none) else armoireref15_Good.l1 a2 FUEL b1 0)
def armoireref15_Good.f (a0 : (List S_armoireref15_Was)) (a1 : Int) (a2 : (List S_api_Touch)) : Option (Bool) :=
  armoireref15_Good.l0 a0 a1 a2 FUEL true 0
def reads_History_Meets_1_1_1.f (a0 : S_api_Touch) (a1 : S_api_Touch) : Option (Bool) :=
  (reads_Meet.f a1 a0).bind fun t8 => some t8
def reads_History_Meets_1_1.l0 (a0 : S_api_Touch) (a1 : S_reads_was) : Nat → Int → Option (Bool)
  | 0, _ => none
  | d107 + 1, x94 =>
    (if x94 < (a1.l.length : Int) then (if 0 ≤ x94 ∧ x94 < a1.l.length then (reads_History_Meets_1_1_1.f (a1.l.getD x94.toNat (S_api_Touch.mk 0 0 [] 0 0)) a0).bind fun t114 => (if t114 = true then some (decide (0 ≤ x94)) else (reads_History_Meets_1_1.l0 a0 a1 d107) (wi64 (x94 + 1))) else none) else some false)
def reads_History_Meets_1_1.f (a0 : S_api_Touch) (a1 : S_reads_was) : Option (Bool) :=
  reads_History_Meets_1_1.l0 a0 a1 FUEL 0
def reads_History_Meets_1.l0 (a0 : S_reads_was) (a2 : (List S_api_Touch)) : Nat → Int → Option (Bool)
  | 0, _ => none
  | d226 + 1, x213 =>
    (if x213 < (a2.length : Int) then (if 0 ≤ x213 ∧ x213 < a2.length then (reads_History_Meets_1_1.f (a2.getD x213.toNat (S_api_Touch.mk 0 0 [] 0 0)) a0).bind fun t233 => (if t233 = true then some (decide (0 ≤ x213)) else (reads_History_Meets_1.l0 a0 a2 d226) (wi64 (x213 + 1))) else none) else some false)
def reads_History_Meets_1.f (a0 : S_reads_was) (a1 : Int) (a2 : (List S_api_Touch)) : Option (Bool) :=
  (if a1 < a0.version then reads_History_Meets_1.l0 a0 a2 FUEL 0 else some false)
def reads_History_Meets.l0 (a0 : S_reads_History) (a1 : Int) (a2 : (List S_api_Touch)) : Nat → Int → Option (Bool)
  | 0, _ => none
  | d124 + 1, x109 =>
    (if x109 < (a0.l.length : Int) then (if 0 ≤ x109 ∧ x109 < a0.l.length then (reads_History_Meets_1.f (a0.l.getD x109.toNat (S_reads_was.mk 0 [])) a1 a2).bind fun t133 => (if t133 = true then some (decide (0 ≤ x109)) else (reads_History_Meets.l0 a0 a1 a2 d124) (wi64 (x109 + 1))) else none) else some false)
def reads_History_Meets.f (a0 : S_reads_History) (a1 : Int) (a2 : (List S_api_Touch)) : Option (Bool) :=
  reads_History_Meets.l0 a0 a1 a2 FUEL 0
def armoireref15_Meet.f (a0 : S_api_Touch) (a1 : S_api_Touch) : Option (Bool) :=
  (armoireref15_Check.f a0).bind fun t7 => (if t7 ≠ 0 then some false else (armoireref15_Check.f a1).bind fun t19 => (if t19 ≠ 0 then some false else (if a0.ino ≠ a1.ino then some false else (if a1.kind = 7 then some true else (if a0.kind = 6 then some (decide (a1.kind = 5)) else (if a0.kind ≠ a1.kind then some false else (if a0.kind = 7 then some false else (if a0.kind = 4 then (if a0.lo < a1.hi then some (decide (a1.lo < a0.hi)) else some false) else (if a0.kind = 5 then some (decide (a0.name = a1.name)) else some true)))))))))
def armoireref15_Meets.l2 (a0 : (List S_armoireref15_Was)) (a1 : Int) (a2 : (List S_api_Touch)) (x1 : Int) (x161 : Int) (kont229 : Int → Option (Bool)) : Nat → Int → Option (Bool)
  | 0, _ => none
  | d265 + 1, x237 =>
    (if x237 < (a2.length : Int) then (if 0 ≤ x237 ∧ x237 < a2.length then (if a1 < ((a0.getD x1.toNat (S_armoireref15_Was.mk 0 [])).version) then (armoireref15_Meet.f (a2.getD x237.toNat (S_api_Touch.mk 0 0 [] 0 0)) (S_api_Touch.mk ((((a0.getD x1.toNat (S_armoireref15_Was.mk 0 [])).l).getD x161.toNat (S_api_Touch.mk 0 0 [] 0 0)).kind) ((((a0.getD x1.toNat (S_armoireref15_Was.mk 0 [])).l).getD x161.toNat (S_api_Touch.mk 0 0 [] 0 0)).ino) ((((a0.getD x1.toNat (S_armoireref15_Was.mk 0 [])).l).getD x161.toNat (S_api_Touch.mk 0 0 [] 0 0)).name) ((((a0.getD x1.toNat (S_armoireref15_Was.mk 0 [])).l).getD x161.toNat (S_api_Touch.mk 0 0 [] 0 0)).lo) ((((a0.getD x1.toNat (S_armoireref15_Was.mk 0 [])).l).getD x161.toNat (S_api_Touch.mk 0 0 [] 0 0)).hi))).bind fun t286 => (if t286 = true then some true else (armoireref15_Meets.l2 a0 a1 a2 x1 x161 kont229 d265) (wi64 (x237 + 1))) else (armoireref15_Meets.l2 a0 a1 a2 x1 x161 kont229 d265) (wi64 (x237 + 1))) else none) else kont229 (wi64 (x161 + 1)))
def armoireref15_Meets.l1 (a0 : (List S_armoireref15_Was)) (a1 : Int) (a2 : (List S_api_Touch)) (x1 : Int) (kont150 : Int → Option (Bool)) : Nat → Int → Option (Bool)
  | 0, _ => none
  | d228 + 1, x161 =>
    (if x161 < (((a0.getD x1.toNat (S_armoireref15_Was.mk 0 [])).l).length : Int) then (if 0 ≤ x161 ∧ x161 < ((a0.getD x1.toNat (S_armoireref15_Was.mk 0 [])).l).length then armoireref15_Meets.l2 a0 a1 a2 x1 x161 (armoireref15_Meets.l1 a0 a1 a2 x1 kont150 d228) FUEL 0 else none) else kont150 (wi64 (x1 + 1)))
def armoireref15_Meets.l0 (a0 : (List S_armoireref15_Was)) (a1 : Int) (a2 : (List S_api_Touch)) : Nat → Int → Option (Bool)
  | 0, _ => none
  | d149 + 1, x1 =>
    (if x1 < (a0.length : Int) then (if 0 ≤ x1 ∧ x1 < a0.length then armoireref15_Meets.l1 a0 a1 a2 x1 (armoireref15_Meets.l0 a0 a1 a2 d149) FUEL 0 else none) else some false)
def armoireref15_Meets.f (a0 : (List S_armoireref15_Was)) (a1 : Int) (a2 : (List S_api_Touch)) : Option (Bool) :=
  armoireref15_Meets.l0 a0 a1 a2 FUEL 0
def reads_History_Forget_1.f (a0 : S_reads_was) (a1 : Int) : Option (Bool) :=
  some (decide (a0.version ≤ a1))
def reads_History_Forget.l0 (a1 : Int) : Nat → (List S_reads_was) → Int → Int → Option (S_reads_History)
  | 0, _, _, _ => none
  | d295 + 1, x258, x259, x260 =>
    (if x260 < (x258.length : Int) then (if 0 ≤ x260 ∧ x260 < x258.length then (reads_History_Forget_1.f (x258.getD x260.toNat (S_reads_was.mk 0 [])) a1).bind fun t311 => (if (!t311) = true then (if 0 ≤ x259 ∧ x259 < x258.length then (reads_History_Forget.l0 a1 d295) (x258.set x259.toNat (x258.getD x260.toNat (S_reads_was.mk 0 []))) (wi64 (x259 + 1)) (wi64 (x260 + 1)) else none) else (reads_History_Forget.l0 a1 d295) x258 x259 (wi64 (x260 + 1))) else none) else (if 0 ≤ x259 ∧ x259 ≤ (x258.length : Int) ∧ (x258.length : Int) ≤ x258.length then (if 0 ≤ x259 ∧ x259 ≤ (x258.take x259.toNat ++ List.replicate (((x258.length : Int).toNat) - x259.toNat) (S_reads_was.mk 0 []) ++ x258.drop (x259.toNat + (((x258.length : Int).toNat) - x259.toNat))).length then some (S_reads_History.mk ((x258.take x259.toNat ++ List.replicate (((x258.length : Int).toNat) - x259.toNat) (S_reads_was.mk 0 []) ++ x258.drop (x259.toNat + (((x258.length : Int).toNat) - x259.toNat))).take x259.toNat)) else none) else none))
def reads_History_Forget.j0 (a0 : S_reads_History) (a1 : Int) (x222 : Int) : Option (S_reads_History) :=
  (if x222 = (-1) then some a0 else reads_History_Forget.l0 a1 FUEL a0.l x222 (wi64 (x222 + 1)))
def reads_History_Forget.l1 (a0 : S_reads_History) (a1 : Int) : Nat → Int → Option (S_reads_History)
  | 0, _ => none
  | d348 + 1, x333 =>
    (if x333 < (a0.l.length : Int) then (if 0 ≤ x333 ∧ x333 < a0.l.length then (reads_History_Forget_1.f (a0.l.getD x333.toNat (S_reads_was.mk 0 [])) a1).bind fun t357 => (if t357 = true then reads_History_Forget.j0 a0 a1 x333 else (reads_History_Forget.l1 a0 a1 d348) (wi64 (x333 + 1))) else none) else reads_History_Forget.j0 a0 a1 (-1))
def reads_History_Forget.f (a0 : S_reads_History) (a1 : Int) : Option (S_reads_History) :=
  reads_History_Forget.l1 a0 a1 FUEL 0
def armoireref15_Forget.l0 (a0 : (List S_armoireref15_Was)) (a1 : Int) : Nat → (List S_armoireref15_Was) → Int → Option ((List S_armoireref15_Was))
  | 0, _, _ => none
  | d76 + 1, x41, x42 =>
    (if x42 < (a0.length : Int) then (if 0 ≤ x42 ∧ x42 < a0.length then (if a1 < ((a0.getD x42.toNat (S_armoireref15_Was.mk 0 [])).version) then (if x41.length + ([(a0.getD x42.toNat (S_armoireref15_Was.mk 0 []))] : List S_armoireref15_Was).length ≤ 4398046511104 then (armoireref15_Forget.l0 a0 a1 d76) (x41 ++ ([(a0.getD x42.toNat (S_armoireref15_Was.mk 0 []))] : List S_armoireref15_Was)) (wi64 (x42 + 1)) else none) else (armoireref15_Forget.l0 a0 a1 d76) x41 (wi64 (x42 + 1))) else none) else some x41)
def armoireref15_Forget.f (a0 : (List S_armoireref15_Was)) (a1 : Int) : Option ((List S_armoireref15_Was)) :=
  armoireref15_Forget.l0 a0 a1 FUEL ([] : List S_armoireref15_Was) 0
def reads_History_Len.f (a0 : S_reads_History) : Option (Int) :=
  some (a0.l.length : Int)
def armoirelaw15_ReadsHistory.l1 (a0 : (List S_armoirelaw15_Act)) (x474 : Int) (kont914 : (List S_reads_was) → (List S_armoireref15_Was) → Int → Option (Bool)) (x1069 : (List S_reads_was)) (x1073 : (List S_armoireref15_Was)) : Nat → (List S_api_Touch) → Int → Option (Bool)
  | 0, _, _ => none
  | d1104 + 1, x1088, x1089 =>
    (if x1089 < (((([] : List S_api_Touch) ++ (a0.getD x474.toNat (S_armoirelaw15_Act.mk 0 0 [])).l).length) : Int) then (if 0 ≤ x1089 ∧ x1089 < x1088.length then (armoirelaw15_ReadsHistory.l1 a0 x474 kont914 x1069 x1073 d1104) (x1088.set x1089.toNat (S_api_Touch.mk ((x1088.getD x1089.toNat (S_api_Touch.mk 0 0 [] 0 0)).kind) 0 ((x1088.getD x1089.toNat (S_api_Touch.mk 0 0 [] 0 0)).name) ((x1088.getD x1089.toNat (S_api_Touch.mk 0 0 [] 0 0)).lo) ((x1088.getD x1089.toNat (S_api_Touch.mk 0 0 [] 0 0)).hi))) (wi64 (x1089 + 1)) else none) else (reads_History_Len.f (S_reads_History.mk x1069)).bind fun t1113 => (if t1113 ≠ (x1073.length : Int) then some false else kont914 x1069 x1073 (wi64 (x474 + 1))))
def armoirelaw15_ReadsHistory.j0 (a0 : (List S_armoirelaw15_Act)) (x474 : Int) (kont914 : (List S_reads_was) → (List S_armoireref15_Was) → Int → Option (Bool)) (x1069 : (List S_reads_was)) (x1073 : (List S_armoireref15_Was)) : Option (Bool) :=
  armoirelaw15_ReadsHistory.l1 a0 x474 kont914 x1069 x1073 FUEL (([] : List S_api_Touch) ++ (a0.getD x474.toNat (S_armoirelaw15_Act.mk 0 0 [])).l) 0
def armoirelaw15_ReadsHistory.l2 (a0 : (List S_armoirelaw15_Act)) (x474 : Int) (kont914 : (List S_reads_was) → (List S_armoireref15_Was) → Int → Option (Bool)) (t1121 : (Int × S_reads_History)) (x1143 : (List S_armoireref15_Was)) : Nat → (List S_api_Touch) → Int → Option (Bool)
  | 0, _, _ => none
  | d1175 + 1, x1159, x1160 =>
    (if x1160 < (((([] : List S_api_Touch) ++ (a0.getD x474.toNat (S_armoirelaw15_Act.mk 0 0 [])).l).length) : Int) then (if 0 ≤ x1160 ∧ x1160 < x1159.length then (armoirelaw15_ReadsHistory.l2 a0 x474 kont914 t1121 x1143 d1175) (x1159.set x1160.toNat (S_api_Touch.mk ((x1159.getD x1160.toNat (S_api_Touch.mk 0 0 [] 0 0)).kind) 0 ((x1159.getD x1160.toNat (S_api_Touch.mk 0 0 [] 0 0)).name) ((x1159.getD x1160.toNat (S_api_Touch.mk 0 0 [] 0 0)).lo) ((x1159.getD x1160.toNat (S_api_Touch.mk 0 0 [] 0 0)).hi))) (wi64 (x1160 + 1)) else none) else (reads_History_Len.f t1121.2).bind fun t1184 => (if t1184 ≠ (x1143.length : Int) then some false else kont914 t1121.2.l x1143 (wi64 (x474 + 1))))
def armoirelaw15_ReadsHistory.l3 (a0 : (List S_armoirelaw15_Act)) (x474 : Int) (kont914 : (List S_reads_was) → (List S_armoireref15_Was) → Int → Option (Bool)) (t1121 : (Int × S_reads_History)) (x1143 : (List S_armoireref15_Was)) : Nat → (List S_api_Touch) → Int → Option (Bool)
  | 0, _, _ => none
  | d1222 + 1, x1206, x1207 =>
    (if x1207 < (((([] : List S_api_Touch) ++ (a0.getD x474.toNat (S_armoirelaw15_Act.mk 0 0 [])).l).length) : Int) then (if 0 ≤ x1207 ∧ x1207 < x1206.length then (armoirelaw15_ReadsHistory.l3 a0 x474 kont914 t1121 x1143 d1222) (x1206.set x1207.toNat (S_api_Touch.mk ((x1206.getD x1207.toNat (S_api_Touch.mk 0 0 [] 0 0)).kind) 0 ((x1206.getD x1207.toNat (S_api_Touch.mk 0 0 [] 0 0)).name) ((x1206.getD x1207.toNat (S_api_Touch.mk 0 0 [] 0 0)).lo) ((x1206.getD x1207.toNat (S_api_Touch.mk 0 0 [] 0 0)).hi))) (wi64 (x1207 + 1)) else none) else (reads_History_Len.f t1121.2).bind fun t1231 => (if t1231 ≠ (x1143.length : Int) then some false else kont914 t1121.2.l x1143 (wi64 (x474 + 1))))
def armoirelaw15_ReadsHistory.j1 (a0 : (List S_armoirelaw15_Act)) (x474 : Int) (kont914 : (List S_reads_was) → (List S_armoireref15_Was) → Int → Option (Bool)) (t1121 : (Int × S_reads_History)) (t1130 : (Bool)) (x1143 : (List S_armoireref15_Was)) : Option (Bool) :=
  (if ((decide (t1121.1 = 0)) != t1130) = true then some false else (if (!t1130) = true then (if t1121.1 ≠ 1 then some false else armoirelaw15_ReadsHistory.l2 a0 x474 kont914 t1121 x1143 FUEL (([] : List S_api_Touch) ++ (a0.getD x474.toNat (S_armoirelaw15_Act.mk 0 0 [])).l) 0) else armoirelaw15_ReadsHistory.l3 a0 x474 kont914 t1121 x1143 FUEL (([] : List S_api_Touch) ++ (a0.getD x474.toNat (S_armoirelaw15_Act.mk 0 0 [])).l) 0))
def armoirelaw15_ReadsHistory.l0 (a0 : (List S_armoirelaw15_Act)) (t1 : (Bool)) : Nat → (List S_reads_was) → (List S_armoireref15_Was) → Int → Option (Bool)
  | 0, _, _, _ => none
  | d913 + 1, x469, x473, x474 =>
    (if x474 < (a0.length : Int) then (if 0 ≤ x474 ∧ x474 < a0.length then (if 100 < (((a0.getD x474.toNat (S_armoirelaw15_Act.mk 0 0 [])).l).length : Int) then (armoirelaw15_ReadsHistory.l0 a0 t1 d913) x469 x473 (wi64 (x474 + 1)) else (if ([] : List S_api_Touch).length + ((a0.getD x474.toNat (S_armoirelaw15_Act.mk 0 0 [])).l).length ≤ 2932031007402 then (if ((a0.getD x474.toNat (S_armoirelaw15_Act.mk 0 0 [])).do_) = 0 then (reads_History_Add.f (S_reads_History.mk x469) ((a0.getD x474.toNat (S_armoirelaw15_Act.mk 0 0 [])).v) (([] : List S_api_Touch) ++ (a0.getD x474.toNat (S_armoirelaw15_Act.mk 0 0 [])).l)).bind fun t1121 => (armoireref15_Good.f x473 ((a0.getD x474.toNat (S_armoirelaw15_Act.mk 0 0 [])).v) ((a0.getD x474.toNat (S_armoirelaw15_Act.mk 0 0 [])).l)).bind fun t1130 => (if t1130 = true then (if x473.length + ([(S_armoireref15_Was.mk ((a0.getD x474.toNat (S_armoirelaw15_Act.mk 0 0 [])).v) ((a0.getD x474.toNat (S_armoirelaw15_Act.mk 0 0 [])).l))] : List S_armoireref15_Was).length ≤ 4398046511104 then armoirelaw15_ReadsHistory.j1 a0 x474 (armoirelaw15_ReadsHistory.l0 a0 t1 d913) t1121 t1130 (x473 ++ ([(S_armoireref15_Was.mk ((a0.getD x474.toNat (S_armoirelaw15_Act.mk 0 0 [])).v) ((a0.getD x474.toNat (S_armoirelaw15_Act.mk 0 0 [])).l))] : List S_armoireref15_Was)) else none) else armoirelaw15_ReadsHistory.j1 a0 x474 (armoirelaw15_ReadsHistory.l0 a0 t1 d913) t1121 t1130 x473) else (if ((a0.getD x474.toNat (S_armoirelaw15_Act.mk 0 0 [])).do_) = 1 then (reads_History_Meets.f (S_reads_History.mk x469) ((a0.getD x474.toNat (S_armoirelaw15_Act.mk 0 0 [])).v) (([] : List S_api_Touch) ++ (a0.getD x474.toNat (S_armoirelaw15_Act.mk 0 0 [])).l)).bind fun t1302 => (armoireref15_Meets.f x473 ((a0.getD x474.toNat (S_armoirelaw15_Act.mk 0 0 [])).v) ((a0.getD x474.toNat (S_armoirelaw15_Act.mk 0 0 [])).l)).bind fun t1306 => (if (t1302 != t1306) = true then some false else armoirelaw15_ReadsHistory.j0 a0 x474 (armoirelaw15_ReadsHistory.l0 a0 t1 d913) x469 x473) else (if ((a0.getD x474.toNat (S_armoirelaw15_Act.mk 0 0 [])).do_) = 2 then (reads_History_Forget.f (S_reads_History.mk x469) ((a0.getD x474.toNat (S_armoirelaw15_Act.mk 0 0 [])).v)).bind fun t1339 => (armoireref15_Forget.f x473 ((a0.getD x474.toNat (S_armoirelaw15_Act.mk 0 0 [])).v)).bind fun t1346 => armoirelaw15_ReadsHistory.j0 a0 x474 (armoirelaw15_ReadsHistory.l0 a0 t1 d913) t1339.l t1346 else armoirelaw15_ReadsHistory.j0 a0 x474 (armoirelaw15_ReadsHistory.l0 a0 t1 d913) x469 x473))) else none)) else none) else some t1)
def armoirelaw15_ReadsHistory.f (a0 : (List S_armoirelaw15_Act)) : Option (Bool) :=
  (armoirelaw15_live.f).bind fun t1 => (reads_NewHistory.f).bind fun t5 => (if 60 < (a0.length : Int) then (if t1 = true then some true else some false) else armoirelaw15_ReadsHistory.l0 a0 t1 FUEL t5.l ([] : List S_armoireref15_Was) 0)
def armoirelaw15_ReadsMore.j0 (a1 : Int) (a2 : (List S_api_Touch)) (x204 : (List S_reads_was)) (t493 : (Bool)) (t510 : (Bool)) (t523 : (Bool)) (b528 : Bool) : Option (Bool) :=
  (if b528 = true then (if (t523 == t510) = true then (reads_History_Meets.f (S_reads_History.mk x204) a1 ([] : List S_api_Touch)).bind fun t533 => (if (!t533) = true then (if (!t493) = true then some true else (if a1 = 0 then some true else (reads_History_Meets.f (S_reads_History.mk x204) (wu64 (a1 - 1)) a2).bind fun t552 => some t552)) else some false) else some false) else some false)
def armoirelaw15_ReadsMore.l0 (a0 : (List S_armoirelaw15_Act)) (a1 : Int) (a2 : (List S_api_Touch)) (a3 : (List S_api_Touch)) (t1 : (Bool)) : Nat → (List S_reads_was) → Int → Option (Bool)
  | 0, _, _ => none
  | d385 + 1, x204, x205 =>
    (if x205 < (a0.length : Int) then (if 0 ≤ x205 ∧ x205 < a0.length then (if (((a0.getD x205.toNat (S_armoirelaw15_Act.mk 0 0 [])).l).length : Int) ≤ 100 then (reads_History_Add.f (S_reads_History.mk x204) ((a0.getD x205.toNat (S_armoirelaw15_Act.mk 0 0 [])).v) ((a0.getD x205.toNat (S_armoirelaw15_Act.mk 0 0 [])).l)).bind fun t483 => (armoirelaw15_ReadsMore.l0 a0 a1 a2 a3 t1 d385) t483.2.l (wi64 (x205 + 1)) else (armoirelaw15_ReadsMore.l0 a0 a1 a2 a3 t1 d385) x204 (wi64 (x205 + 1))) else none) else (reads_History_Meets.f (S_reads_History.mk x204) a1 a2).bind fun t493 => (reads_History_Meets.f (S_reads_History.mk x204) a1 a3).bind fun t497 => (if ([] : List S_api_Touch).length + a2.length ≤ 2932031007402 then (if (([] : List S_api_Touch) ++ a2).length + a3.length ≤ 2932031007402 then (reads_History_Meets.f (S_reads_History.mk x204) a1 ((([] : List S_api_Touch) ++ a2) ++ a3)).bind fun t510 => (if ([] : List S_api_Touch).length + a3.length ≤ 2932031007402 then (if (([] : List S_api_Touch) ++ a3).length + a2.length ≤ 2932031007402 then (reads_History_Meets.f (S_reads_History.mk x204) a1 ((([] : List S_api_Touch) ++ a3) ++ a2)).bind fun t523 => (if t1 = true then (if t493 = true then armoirelaw15_ReadsMore.j0 a1 a2 x204 t493 t510 t523 (t510 == true) else armoirelaw15_ReadsMore.j0 a1 a2 x204 t493 t510 t523 (t510 == t497)) else some false) else none) else none) else none) else none))
def armoirelaw15_ReadsMore.f (a0 : (List S_armoirelaw15_Act)) (a1 : Int) (a2 : (List S_api_Touch)) (a3 : (List S_api_Touch)) : Option (Bool) :=
  (armoirelaw15_live.f).bind fun t1 => (reads_NewHistory.f).bind fun t5 => (if 60 < (a0.length : Int) then (if t1 = true then some true else some false) else (if 100 < (wi64 ((a2.length : Int) + (a3.length : Int))) then (if t1 = true then some true else some false) else armoirelaw15_ReadsMore.l0 a0 a1 a2 a3 t1 FUEL t5.l 0))
def armoirelaw15_ReadsUndone.l2 (t1 : (Bool)) (t1847 : ((List S_api_Touch))) (t2164 : ((List S_api_Touch))) : Nat → Int → Option (Bool)
  | 0, _ => none
  | d2183 + 1, x2171 =>
    (if x2171 < (t1847.length : Int) then (if 0 ≤ x2171 ∧ x2171 < t1847.length then (if 0 ≤ x2171 ∧ x2171 < t2164.length then (if (t1847.getD x2171.toNat (S_api_Touch.mk 0 0 [] 0 0)) ≠ (t2164.getD x2171.toNat (S_api_Touch.mk 0 0 [] 0 0)) then some false else (armoirelaw15_ReadsUndone.l2 t1 t1847 t2164 d2183) (wi64 (x2171 + 1))) else none) else none) else some t1)
def armoirelaw15_ReadsUndone.l1 (a0 : (List S_api_Touch)) (a1 : (List S_api_Touch)) (t1 : (Bool)) (t1847 : ((List S_api_Touch))) (t1854 : (Int)) : Nat → (List S_api_Touch) → Int → Option (Bool)
  | 0, _, _ => none
  | d2090 + 1, x1979, x1980 =>
    (if x1980 < ((((([] : List S_api_Touch) ++ a0) ++ a1).length) : Int) then (if 0 ≤ x1980 ∧ x1980 < ((([] : List S_api_Touch) ++ a0) ++ a1).length then (reads_Set_Add.f (S_reads_Set.mk x1979) (((([] : List S_api_Touch) ++ a0) ++ a1).getD x1980.toNat (S_api_Touch.mk 0 0 [] 0 0))).bind fun t2146 => (armoirelaw15_ReadsUndone.l1 a0 a1 t1 t1847 t1854 d2090) t2146.2.l (wi64 (x1980 + 1)) else none) else (reads_Set_Mark.f (S_reads_Set.mk x1979)).bind fun t2153 => (reads_Set_Undo.f (S_reads_Set.mk x1979) t1854).bind fun t2157 => (reads_Set_All.f t2157.2).bind fun t2164 => (if t2157.1 ≠ 0 then some false else (if (t1847.length : Int) ≠ (t2164.length : Int) then some false else (if (wi64 (t1854 + (a1.length : Int))) < t2153 then some false else armoirelaw15_ReadsUndone.l2 t1 t1847 t2164 FUEL 0))))
def armoirelaw15_ReadsUndone.l0 (a0 : (List S_api_Touch)) (a1 : (List S_api_Touch)) (t1 : (Bool)) : Nat → (List S_api_Touch) → Int → Option (Bool)
  | 0, _, _ => none
  | d1475 + 1, x747, x748 =>
    (if x748 < (a0.length : Int) then (if 0 ≤ x748 ∧ x748 < a0.length then (reads_Set_Add.f (S_reads_Set.mk x747) (a0.getD x748.toNat (S_api_Touch.mk 0 0 [] 0 0))).bind fun t1840 => (armoirelaw15_ReadsUndone.l0 a0 a1 t1 d1475) t1840.2.l (wi64 (x748 + 1)) else none) else (reads_Set_All.f (S_reads_Set.mk x747)).bind fun t1847 => (reads_Set_Mark.f (S_reads_Set.mk x747)).bind fun t1854 => (if ([] : List S_api_Touch).length + a0.length ≤ 2932031007402 then (if (([] : List S_api_Touch) ++ a0).length + a1.length ≤ 2932031007402 then armoirelaw15_ReadsUndone.l1 a0 a1 t1 t1847 t1854 FUEL x747 0 else none) else none))
def armoirelaw15_ReadsUndone.f (a0 : (List S_api_Touch)) (a1 : (List S_api_Touch)) : Option (Bool) :=
  (armoirelaw15_live.f).bind fun t1 => (reads_New.f).bind fun t5 => (if 100 < (wi64 ((a0.length : Int) + (a1.length : Int))) then (if t1 = true then some true else some false) else armoirelaw15_ReadsUndone.l0 a0 a1 t1 FUEL t5.l 0)
end Go.Proofs.Ytpiliblfmpgjeaa
