/- Own text, printed by wip/g2: what the functions tell, plainly. -/
import Derived.Test.YtpffemcpfddjbaaMemJ
namespace Go.Proofs.Ytpffemcpfddjbaa
open Go K
set_option linter.unusedVariables false
structure S_free_Map where
  from_ : Int
  kinds : (List UInt8)
  deriving DecidableEq, Inhabited
structure S_armoirelaw06_Op where
  do_ : Int
  n : Int
  keep : (List Int)
  clone : Bool
  deriving DecidableEq, Inhabited
structure S_armoireref06_Map where
  from_ : Int
  k : (List Int)
  deriving DecidableEq, Inhabited
def free_New_1.f (a0 : Int) (a1 : Int) (a2 : Int) : Option (Bool) :=
  (if a0 < a1 then some true else some (decide (a2 ≤ a0)))
def free_Map_TakeRun.l2 (a0 : S_free_Map) (a1 : Int) (x141 : Int) : Nat → (List UInt8) → Int → Option (Int × Int × S_free_Map)
  | 0, _, _ => none
  | d214 + 1, x208, x209 =>
    (if x209 < a1 then (if 0 ≤ wi64 (x141 + x209) ∧ wi64 (x141 + x209) < x208.length then (free_Map_TakeRun.l2 a0 a1 x141 d214) (x208.set ((wi64 (x141 + x209)).toNat) 1) (wi64 (x209 + 1)) else none) else some (wi64 (a0.from_ + x141), 0, (S_free_Map.mk a0.from_ x208)))
def free_Map_TakeRun.l1 (a0 : S_free_Map) (a1 : Int) (kont123 : Int → Option (Int × Int × S_free_Map)) : Nat → Int → Int → Option (Int × Int × S_free_Map)
  | 0, _, _ => none
  | d182 + 1, x141, x142 =>
    (if x142 < (wi64 (x141 + a1)) then (if 0 ≤ x142 ∧ x142 < a0.kinds.length then (if (a0.kinds.getD x142.toNat 0) ≠ 0 then kont123 (wi64 (x142 + 1)) else (free_Map_TakeRun.l1 a0 a1 kont123 d182) x141 (wi64 (x142 + 1))) else none) else (if (wi64 ((a0.kinds.length : Int) - a1)) < x141 then some (0, 5, a0) else free_Map_TakeRun.l2 a0 a1 x141 FUEL a0.kinds 0))
def free_Map_TakeRun.l3 (a0 : S_free_Map) (a1 : Int) (x3 : Int) : Nat → (List UInt8) → Int → Option (Int × Int × S_free_Map)
  | 0, _, _ => none
  | d233 + 1, x227, x228 =>
    (if x228 < a1 then (if 0 ≤ wi64 (x3 + x228) ∧ wi64 (x3 + x228) < x227.length then (free_Map_TakeRun.l3 a0 a1 x3 d233) (x227.set ((wi64 (x3 + x228)).toNat) 1) (wi64 (x228 + 1)) else none) else some (wi64 (a0.from_ + x3), 0, (S_free_Map.mk a0.from_ x227)))
def free_Map_TakeRun.l0 (a0 : S_free_Map) (a1 : Int) : Nat → Int → Option (Int × Int × S_free_Map)
  | 0, _ => none
  | d122 + 1, x3 =>
    (if x3 ≤ (wi64 ((a0.kinds.length : Int) - a1)) then free_Map_TakeRun.l1 a0 a1 (free_Map_TakeRun.l0 a0 a1 d122) FUEL x3 x3 else (if (wi64 ((a0.kinds.length : Int) - a1)) < x3 then some (0, 5, a0) else free_Map_TakeRun.l3 a0 a1 x3 FUEL a0.kinds 0))
def free_Map_TakeRun.f (a0 : S_free_Map) (a1 : Int) : Option (Int × Int × S_free_Map) :=
  (if a1 < 1 then some (0, 1, a0) else free_Map_TakeRun.l0 a0 a1 FUEL 0)
def free_Map_Take.f (a0 : S_free_Map) : Option (Int × Int × S_free_Map) :=
  (free_Map_TakeRun.f a0 1).bind fun t3 => some (t3.1, t3.2.1, t3.2.2)
def free_Map_turn.f (a0 : S_free_Map) (a1 : Int) (a2 : UInt8) : Option (Int × S_free_Map) :=
  (if a1 < a0.from_ then some (4, a0) else (if (a0.kinds.length : Int) ≤ (wi64 (a1 - a0.from_)) then some (4, a0) else (if 0 ≤ wi64 (a1 - a0.from_) ∧ wi64 (a1 - a0.from_) < a0.kinds.length then (if (a0.kinds.getD ((wi64 (a1 - a0.from_)).toNat) 0) ≠ 1 then some (4, a0) else (if 0 ≤ wi64 (a1 - a0.from_) ∧ wi64 (a1 - a0.from_) < a0.kinds.length then some (0, (S_free_Map.mk a0.from_ (a0.kinds.set ((wi64 (a1 - a0.from_)).toNat) a2))) else none)) else none)))
def free_Map_Defer.f (a0 : S_free_Map) (a1 : Int) : Option (Int × S_free_Map) :=
  (free_Map_turn.f a0 a1 2).bind fun t3 => some (t3.1, t3.2)
def free_Map_all.l0 (a0 : S_free_Map) (a1 : UInt8) : Nat → (List Int) → Int → Option ((List Int))
  | 0, _, _ => none
  | d54 + 1, x31, x32 =>
    (if x32 < (a0.kinds.length : Int) then (if 0 ≤ x32 ∧ x32 < a0.kinds.length then (if (a0.kinds.getD x32.toNat 0) = a1 then (if x31.length + ([wi64 (a0.from_ + x32)] : List Int).length ≤ 17592186044416 then (free_Map_all.l0 a0 a1 d54) (x31 ++ ([wi64 (a0.from_ + x32)] : List Int)) (wi64 (x32 + 1)) else none) else (free_Map_all.l0 a0 a1 d54) x31 (wi64 (x32 + 1))) else none) else some x31)
def free_Map_all.f (a0 : S_free_Map) (a1 : UInt8) : Option ((List Int)) :=
  free_Map_all.l0 a0 a1 FUEL ([] : List Int) 0
def free_Map_Free.f (a0 : S_free_Map) : Option ((List Int)) :=
  (free_Map_all.f a0 0).bind fun t3 => some t3
def free_Map_Waiting.f (a0 : S_free_Map) : Option ((List Int)) :=
  (free_Map_all.f a0 2).bind fun t3 => some t3
def slices_Index_Lint_int.l0 (a0 : (List Int)) (a1 : Int) : Nat → Int → Option (Int)
  | 0, _ => none
  | d8 + 1, x1 =>
    (if x1 < (a0.length : Int) then (if 0 ≤ x1 ∧ x1 < a0.length then (if a1 = (a0.getD x1.toNat 0) then some x1 else (slices_Index_Lint_int.l0 a0 a1 d8) (wi64 (x1 + 1))) else none) else some (-1))
def slices_Index_Lint_int.f (a0 : (List Int)) (a1 : Int) : Option (Int) :=
  slices_Index_Lint_int.l0 a0 a1 FUEL 0
def slices_Contains_Lint_int.f (a0 : (List Int)) (a1 : Int) : Option (Bool) :=
  (slices_Index_Lint_int.f a0 a1).bind fun t1 => some (decide (0 ≤ t1))
def free_Map_Sweep.l0 (a1 : (List Int)) (t3 : ((List Int))) : Nat → Int → (List UInt8) → Int → Int → Option (Int × S_free_Map)
  | 0, _, _, _, _ => none
  | d45 + 1, x26, x27, x28, x29 =>
    (if x29 < (t3.length : Int) then (if 0 ≤ x29 ∧ x29 < t3.length then (slices_Contains_Lint_int.f a1 (t3.getD x29.toNat 0)).bind fun t49 => (if (!t49) = true then (if 0 ≤ wi64 ((t3.getD x29.toNat 0) - x26) ∧ wi64 ((t3.getD x29.toNat 0) - x26) < x27.length then (free_Map_Sweep.l0 a1 t3 d45) x26 (x27.set ((wi64 ((t3.getD x29.toNat 0) - x26)).toNat) 0) (wi64 (x28 + 1)) (wi64 (x29 + 1)) else none) else (free_Map_Sweep.l0 a1 t3 d45) x26 x27 x28 (wi64 (x29 + 1))) else none) else some (x28, (S_free_Map.mk x26 x27)))
def free_Map_Sweep.f (a0 : S_free_Map) (a1 : (List Int)) : Option (Int × S_free_Map) :=
  (free_Map_Waiting.f a0).bind fun t3 => free_Map_Sweep.l0 a1 t3 FUEL a0.from_ a0.kinds 0 0
def armoirelaw06_live.j0 (x183 : (List UInt8)) : Option (Bool) :=
  (free_Map_Take.f (S_free_Map.mk 4 x183)).bind fun t184 => (free_Map_TakeRun.f t184.2.2 2).bind fun t188 => (free_Map_Defer.f t188.2.2 4).bind fun t192 => (free_Map_Free.f t192.2).bind fun t196 => (free_Map_Waiting.f t192.2).bind fun t203 => (free_Map_Take.f t192.2).bind fun t210 => (free_Map_Sweep.f t210.2.2 ([4] : List Int)).bind fun t216 => (free_Map_Sweep.f t216.2 ([] : List Int)).bind fun t220 => (free_Map_Take.f t220.2).bind fun t224 => (if t184.1 = 4 then (if t188.1 = 6 then (if t192.1 = 0 then (if (t196.length : Int) = 2 then (if 0 ≤ (0 : Int) ∧ (0 : Int) < t196.length then (if (t196.getD 0 0) = 8 then (if (t203.length : Int) = 1 then (if 0 ≤ (0 : Int) ∧ (0 : Int) < t203.length then (if (t203.getD 0 0) = 4 then (if t210.1 = 8 then (if t216.1 = 0 then (if t220.1 = 1 then some (decide (t224.1 = 4)) else some false) else some false) else some false) else some false) else none) else some false) else some false) else none) else some false) else some false) else some false) else some false)
def armoirelaw06_live.l0  : Nat → (List UInt8) → Int → Option (Bool)
  | 0, _, _ => none
  | d324 + 1, x313, x314 =>
    (if x314 < ((([5] : List Int).length) : Int) then (if 0 ≤ x314 ∧ x314 < ([5] : List Int).length then (if 0 ≤ wi64 ((([5] : List Int).getD x314.toNat 0) - 4) ∧ wi64 ((([5] : List Int).getD x314.toNat 0) - 4) < x313.length then (if (x313.getD ((wi64 ((([5] : List Int).getD x314.toNat 0) - 4)).toNat) 0) ≠ 0 then some false else (if 0 ≤ wi64 ((([5] : List Int).getD x314.toNat 0) - 4) ∧ wi64 ((([5] : List Int).getD x314.toNat 0) - 4) < x313.length then (armoirelaw06_live.l0 d324) (x313.set ((wi64 ((([5] : List Int).getD x314.toNat 0) - 4)).toNat) 1) (wi64 (x314 + 1)) else none)) else none) else none) else armoirelaw06_live.j0 x313)
def armoirelaw06_live.j1 (b298 : Bool) : Option (Bool) :=
  (if b298 = true then some false else (if 0 ≤ (6 : Int) ∧ (6 : Int) ≤ (6 : Int) ∧ (6 : Int) * 1 ≤ 281474976710656 ∧ (6 : Int) ≤ 281474976710656 then armoirelaw06_live.l0 FUEL (List.replicate 6 0 : List UInt8) 0 else none))
def armoirelaw06_live.l1  : Nat → (List UInt8) → Int → Option (Bool)
  | 0, _, _ => none
  | d384 + 1, x373, x374 =>
    (if x374 < ((([5] : List Int).length) : Int) then (if 0 ≤ x374 ∧ x374 < ([5] : List Int).length then (if 0 ≤ wi64 ((([5] : List Int).getD x374.toNat 0) - 4) ∧ wi64 ((([5] : List Int).getD x374.toNat 0) - 4) < x373.length then (if (x373.getD ((wi64 ((([5] : List Int).getD x374.toNat 0) - 4)).toNat) 0) ≠ 0 then some false else (if 0 ≤ wi64 ((([5] : List Int).getD x374.toNat 0) - 4) ∧ wi64 ((([5] : List Int).getD x374.toNat 0) - 4) < x373.length then (armoirelaw06_live.l1 d384) (x373.set ((wi64 ((([5] : List Int).getD x374.toNat 0) - 4)).toNat) 1) (wi64 (x374 + 1)) else none)) else none) else none) else armoirelaw06_live.j0 x373)
def armoirelaw06_live.j2  : Option (Bool) :=
  (if 0 ≤ (6 : Int) ∧ (6 : Int) ≤ (6 : Int) ∧ (6 : Int) * 1 ≤ 281474976710656 ∧ (6 : Int) ≤ 281474976710656 then armoirelaw06_live.l1 FUEL (List.replicate 6 0 : List UInt8) 0 else none)
def armoirelaw06_live.l2  : Nat → Int → Option (Bool)
  | 0, _ => none
  | d452 + 1, x442 =>
    (if x442 < ((([5] : List Int).length) : Int) then (if 0 ≤ x442 ∧ x442 < ([5] : List Int).length then (free_New_1.f (([5] : List Int).getD x442.toNat 0) 4 10).bind fun t456 => (if t456 = true then armoirelaw06_live.j1 (decide (0 ≤ x442)) else (armoirelaw06_live.l2 d452) (wi64 (x442 + 1))) else none) else armoirelaw06_live.j2)
def armoirelaw06_live.f  : Option (Bool) :=
  armoirelaw06_live.l2 FUEL 0
def armoirelaw06_FreeRuns.l0 (a3 : Int) (t1 : (Bool)) (t308 : ((List Int))) (t315 : (Int × Int × S_free_Map)) : Nat → Int → Int → Option (Bool)
  | 0, _, _ => none
  | d450 + 1, x321, x322 =>
    (if x322 < (t308.length : Int) then (if x321 < 0 then (if a3 ≤ (wi64 ((t308.length : Int) - x322)) then (if 0 ≤ wi64 ((wi64 (x322 + a3)) - 1) ∧ wi64 ((wi64 (x322 + a3)) - 1) < t308.length then (if 0 ≤ x322 ∧ x322 < t308.length then (if (t308.getD ((wi64 ((wi64 (x322 + a3)) - 1)).toNat) 0) = (wi64 ((wi64 ((t308.getD x322.toNat 0) + a3)) - 1)) then (if 0 ≤ x322 ∧ x322 < t308.length then (armoirelaw06_FreeRuns.l0 a3 t1 t308 t315 d450) (t308.getD x322.toNat 0) (wi64 (x322 + 1)) else none) else (armoirelaw06_FreeRuns.l0 a3 t1 t308 t315 d450) x321 (wi64 (x322 + 1))) else none) else none) else (armoirelaw06_FreeRuns.l0 a3 t1 t308 t315 d450) x321 (wi64 (x322 + 1))) else (armoirelaw06_FreeRuns.l0 a3 t1 t308 t315 d450) x321 (wi64 (x322 + 1))) else (if x321 < 0 then (if t1 = true then (if t315.2.1 = 5 then (free_Map_Free.f t315.2.2).bind fun t565 => some (decide ((t565.length : Int) = (t308.length : Int))) else some false) else some false) else (if t1 = true then (if t315.2.1 = 0 then (if t315.1 = x321 then (free_Map_Free.f t315.2.2).bind fun t581 => some (decide ((t581.length : Int) = (wi64 ((t308.length : Int) - a3)))) else some false) else some false) else some false)))
def armoirelaw06_FreeRuns.j0 (a0 : Int) (a3 : Int) (t1 : (Bool)) (x307 : (List UInt8)) : Option (Bool) :=
  (free_Map_Free.f (S_free_Map.mk a0 x307)).bind fun t308 => (free_Map_TakeRun.f (S_free_Map.mk a0 x307) a3).bind fun t315 => (if a3 < 1 then (if t1 = true then some (decide (t315.2.1 = 1)) else some false) else armoirelaw06_FreeRuns.l0 a3 t1 t308 t315 FUEL (-1) 0)
def armoirelaw06_FreeRuns.l1 (a0 : Int) (a2 : (List Int)) (a3 : Int) (t1 : (Bool)) : Nat → (List UInt8) → Int → Option (Bool)
  | 0, _, _ => none
  | d745 + 1, x729, x730 =>
    (if x730 < (a2.length : Int) then (if 0 ≤ x730 ∧ x730 < a2.length then (if 0 ≤ wi64 ((a2.getD x730.toNat 0) - a0) ∧ wi64 ((a2.getD x730.toNat 0) - a0) < x729.length then (if (x729.getD ((wi64 ((a2.getD x730.toNat 0) - a0)).toNat) 0) ≠ 0 then (if t1 = true then some true else some false) else (if 0 ≤ wi64 ((a2.getD x730.toNat 0) - a0) ∧ wi64 ((a2.getD x730.toNat 0) - a0) < x729.length then (armoirelaw06_FreeRuns.l1 a0 a2 a3 t1 d745) (x729.set ((wi64 ((a2.getD x730.toNat 0) - a0)).toNat) 1) (wi64 (x730 + 1)) else none)) else none) else none) else armoirelaw06_FreeRuns.j0 a0 a3 t1 x729)
def armoirelaw06_FreeRuns.j1 (a0 : Int) (a1 : Int) (a2 : (List Int)) (a3 : Int) (t1 : (Bool)) (b705 : Bool) : Option (Bool) :=
  (if b705 = true then (if t1 = true then some true else some false) else (if 0 ≤ wi64 (a1 - a0) ∧ wi64 (a1 - a0) ≤ wi64 (a1 - a0) ∧ (wi64 (a1 - a0)) * 1 ≤ 281474976710656 ∧ wi64 (a1 - a0) ≤ 281474976710656 then armoirelaw06_FreeRuns.l1 a0 a2 a3 t1 FUEL (List.replicate ((wi64 (a1 - a0)).toNat) 0 : List UInt8) 0 else none))
def armoirelaw06_FreeRuns.l2 (a0 : Int) (a2 : (List Int)) (a3 : Int) (t1 : (Bool)) : Nat → (List UInt8) → Int → Option (Bool)
  | 0, _, _ => none
  | d825 + 1, x809, x810 =>
    (if x810 < (a2.length : Int) then (if 0 ≤ x810 ∧ x810 < a2.length then (if 0 ≤ wi64 ((a2.getD x810.toNat 0) - a0) ∧ wi64 ((a2.getD x810.toNat 0) - a0) < x809.length then (if (x809.getD ((wi64 ((a2.getD x810.toNat 0) - a0)).toNat) 0) ≠ 0 then (if t1 = true then some true else some false) else (if 0 ≤ wi64 ((a2.getD x810.toNat 0) - a0) ∧ wi64 ((a2.getD x810.toNat 0) - a0) < x809.length then (armoirelaw06_FreeRuns.l2 a0 a2 a3 t1 d825) (x809.set ((wi64 ((a2.getD x810.toNat 0) - a0)).toNat) 1) (wi64 (x810 + 1)) else none)) else none) else none) else armoirelaw06_FreeRuns.j0 a0 a3 t1 x809)
def armoirelaw06_FreeRuns.j2 (a0 : Int) (a1 : Int) (a2 : (List Int)) (a3 : Int) (t1 : (Bool)) (b785 : Bool) : Option (Bool) :=
  (if b785 = true then (if t1 = true then some true else some false) else (if 0 ≤ wi64 (a1 - a0) ∧ wi64 (a1 - a0) ≤ wi64 (a1 - a0) ∧ (wi64 (a1 - a0)) * 1 ≤ 281474976710656 ∧ wi64 (a1 - a0) ≤ 281474976710656 then armoirelaw06_FreeRuns.l2 a0 a2 a3 t1 FUEL (List.replicate ((wi64 (a1 - a0)).toNat) 0 : List UInt8) 0 else none))
def armoirelaw06_FreeRuns.l3 (a0 : Int) (a1 : Int) (a2 : (List Int)) (a3 : Int) (t1 : (Bool)) : Nat → Int → Option (Bool)
  | 0, _ => none
  | d954 + 1, x943 =>
    (if x943 < (a2.length : Int) then (if 0 ≤ x943 ∧ x943 < a2.length then (free_New_1.f (a2.getD x943.toNat 0) a0 a1).bind fun t959 => (if t959 = true then armoirelaw06_FreeRuns.j2 a0 a1 a2 a3 t1 (decide (0 ≤ x943)) else (armoirelaw06_FreeRuns.l3 a0 a1 a2 a3 t1 d954) (wi64 (x943 + 1))) else none) else armoirelaw06_FreeRuns.j1 a0 a1 a2 a3 t1 false)
def armoirelaw06_FreeRuns.f (a0 : Int) (a1 : Int) (a2 : (List Int)) (a3 : Int) : Option (Bool) :=
  (armoirelaw06_live.f).bind fun t1 => (if a0 < 0 then (if t1 = true then some true else some false) else (if a1 ≤ a0 then (if t1 = true then some true else some false) else (if 1024 < a1 then armoirelaw06_FreeRuns.j1 a0 a1 a2 a3 t1 true else armoirelaw06_FreeRuns.l3 a0 a1 a2 a3 t1 FUEL 0)))
def armoirelaw06_FreeWaits.j0 (t1 : (Bool)) : Option (Bool) :=
  (if t1 = true then some false else some false)
def armoirelaw06_FreeWaits.l1 (x2193 : Int) (kont4278 : Int → (List UInt8) → Int → Option (Bool)) (t4289 : ((List Int))) (x5328 : Int) (t5329 : (Int × Int × S_free_Map)) : Nat → Int → Option (Bool)
  | 0, _ => none
  | d5341 + 1, x5333 =>
    (if x5333 < (t4289.length : Int) then (if 0 ≤ x5333 ∧ x5333 < t4289.length then (if t5329.2.1 = 0 then (if t5329.1 ≤ (t4289.getD x5333.toNat 0) then (if (t4289.getD x5333.toNat 0) < (wi64 (t5329.1 + x5328)) then some false else (armoirelaw06_FreeWaits.l1 x2193 kont4278 t4289 x5328 t5329 d5341) (wi64 (x5333 + 1))) else (armoirelaw06_FreeWaits.l1 x2193 kont4278 t4289 x5328 t5329 d5341) (wi64 (x5333 + 1))) else (armoirelaw06_FreeWaits.l1 x2193 kont4278 t4289 x5328 t5329 d5341) (wi64 (x5333 + 1))) else none) else kont4278 t5329.2.2.from_ t5329.2.2.kinds (wi64 (x2193 + 1)))
def armoirelaw06_FreeWaits.j3 (x2191 : Int) (x2192 : (List UInt8)) (x2193 : Int) (kont4278 : Int → (List UInt8) → Int → Option (Bool)) (t4289 : ((List Int))) (x5328 : Int) : Option (Bool) :=
  (free_Map_TakeRun.f (S_free_Map.mk x2191 x2192) x5328).bind fun t5329 => armoirelaw06_FreeWaits.l1 x2193 kont4278 t4289 x5328 t5329 FUEL 0
def armoirelaw06_FreeWaits.l4 (t4289 : ((List Int))) (x6112 : Int) (kont6234 : Int → Option (Bool)) (b6237 : Bool) (t6326 : ((List Int))) : Nat → Bool → Int → Option (Bool)
  | 0, _, _ => none
  | d6342 + 1, b6333, x6334 =>
    (if x6334 < (t6326.length : Int) then (if 0 ≤ x6334 ∧ x6334 < t6326.length then (if b6333 = true then (armoirelaw06_FreeWaits.l4 t4289 x6112 kont6234 b6237 t6326 d6342) true (wi64 (x6334 + 1)) else (armoirelaw06_FreeWaits.l4 t4289 x6112 kont6234 b6237 t6326 d6342) (decide ((t6326.getD x6334.toNat 0) = (t4289.getD x6112.toNat 0))) (wi64 (x6334 + 1))) else none) else (if (b6237 != b6333) = true then some false else kont6234 (wi64 (x6112 + 1))))
def armoirelaw06_FreeWaits.l3 (a1 : (List S_armoirelaw06_Op)) (x2193 : Int) (t4289 : ((List Int))) (t6108 : (Int × S_free_Map)) (x6112 : Int) (kont6234 : Int → Option (Bool)) : Nat → Bool → Int → Option (Bool)
  | 0, _, _ => none
  | d6295 + 1, b6237, x6238 =>
    (if x6238 < (((a1.getD x2193.toNat (S_armoirelaw06_Op.mk 0 0 [] false)).keep).length : Int) then (if 0 ≤ x6238 ∧ x6238 < ((a1.getD x2193.toNat (S_armoirelaw06_Op.mk 0 0 [] false)).keep).length then (if b6237 = true then (armoirelaw06_FreeWaits.l3 a1 x2193 t4289 t6108 x6112 kont6234 d6295) true (wi64 (x6238 + 1)) else (armoirelaw06_FreeWaits.l3 a1 x2193 t4289 t6108 x6112 kont6234 d6295) (decide ((((a1.getD x2193.toNat (S_armoirelaw06_Op.mk 0 0 [] false)).keep).getD x6238.toNat 0) = (t4289.getD x6112.toNat 0))) (wi64 (x6238 + 1))) else none) else (free_Map_Waiting.f t6108.2).bind fun t6326 => armoirelaw06_FreeWaits.l4 t4289 x6112 kont6234 b6237 t6326 FUEL false 0)
def armoirelaw06_FreeWaits.l2 (a1 : (List S_armoirelaw06_Op)) (x2193 : Int) (kont4278 : Int → (List UInt8) → Int → Option (Bool)) (t4289 : ((List Int))) (t6108 : (Int × S_free_Map)) : Nat → Int → Option (Bool)
  | 0, _ => none
  | d6233 + 1, x6112 =>
    (if x6112 < (t4289.length : Int) then (if 0 ≤ x6112 ∧ x6112 < t4289.length then armoirelaw06_FreeWaits.l3 a1 x2193 t4289 t6108 x6112 (armoirelaw06_FreeWaits.l2 a1 x2193 kont4278 t4289 t6108 d6233) FUEL false 0 else none) else kont4278 t6108.2.from_ t6108.2.kinds (wi64 (x2193 + 1)))
def armoirelaw06_FreeWaits.j2 (a1 : (List S_armoirelaw06_Op)) (x2191 : Int) (x2192 : (List UInt8)) (x2193 : Int) (kont4278 : Int → (List UInt8) → Int → Option (Bool)) (t4289 : ((List Int))) (b4296 : Bool) : Option (Bool) :=
  (if b4296 = true then (if ((a1.getD x2193.toNat (S_armoirelaw06_Op.mk 0 0 [] false)).do_) = 1 then armoirelaw06_FreeWaits.j3 x2191 x2192 x2193 kont4278 t4289 (wi64 (1 + (Int.tmod (wi64 ((Int.tmod ((a1.getD x2193.toNat (S_armoirelaw06_Op.mk 0 0 [] false)).n) 5) + 5)) 5))) else armoirelaw06_FreeWaits.j3 x2191 x2192 x2193 kont4278 t4289 1) else (if ((a1.getD x2193.toNat (S_armoirelaw06_Op.mk 0 0 [] false)).do_) = 3 then (free_Map_Defer.f (S_free_Map.mk x2191 x2192) ((a1.getD x2193.toNat (S_armoirelaw06_Op.mk 0 0 [] false)).n)).bind fun t5855 => kont4278 t5855.2.from_ t5855.2.kinds (wi64 (x2193 + 1)) else (if ((a1.getD x2193.toNat (S_armoirelaw06_Op.mk 0 0 [] false)).do_) = 4 then (free_Map_Sweep.f (S_free_Map.mk x2191 x2192) ((a1.getD x2193.toNat (S_armoirelaw06_Op.mk 0 0 [] false)).keep)).bind fun t6108 => armoirelaw06_FreeWaits.l2 a1 x2193 kont4278 t4289 t6108 FUEL 0 else kont4278 x2191 x2192 (wi64 (x2193 + 1)))))
def armoirelaw06_FreeWaits.l0 (a1 : (List S_armoirelaw06_Op)) (t1 : (Bool)) : Nat → Int → (List UInt8) → Int → Option (Bool)
  | 0, _, _, _ => none
  | d4277 + 1, x2191, x2192, x2193 =>
    (if x2193 < (a1.length : Int) then (if 0 ≤ x2193 ∧ x2193 < a1.length then (free_Map_Waiting.f (S_free_Map.mk x2191 x2192)).bind fun t4289 => (if ((a1.getD x2193.toNat (S_armoirelaw06_Op.mk 0 0 [] false)).do_) = 0 then armoirelaw06_FreeWaits.j2 a1 x2191 x2192 x2193 (armoirelaw06_FreeWaits.l0 a1 t1 d4277) t4289 (decide (((a1.getD x2193.toNat (S_armoirelaw06_Op.mk 0 0 [] false)).do_) = 0)) else armoirelaw06_FreeWaits.j2 a1 x2191 x2192 x2193 (armoirelaw06_FreeWaits.l0 a1 t1 d4277) t4289 (decide (((a1.getD x2193.toNat (S_armoirelaw06_Op.mk 0 0 [] false)).do_) = 1))) else none) else some t1)
def armoirelaw06_FreeWaits.j1 (a1 : (List S_armoirelaw06_Op)) (t1 : (Bool)) (x103 : (List UInt8)) : Option (Bool) :=
  (if 100 < (a1.length : Int) then (if t1 = true then some true else some false) else armoirelaw06_FreeWaits.l0 a1 t1 FUEL 0 x103 0)
def armoirelaw06_FreeWaits.l5 (a0 : Int) (a1 : (List S_armoirelaw06_Op)) (t1 : (Bool)) : Nat → Int → Option (Bool)
  | 0, _ => none
  | d6411 + 1, x6408 =>
    (if x6408 < 0 then none else armoirelaw06_FreeWaits.j1 a1 t1 (List.replicate ((wi64 ((wi64 (1 + (Int.tmod (wi64 ((Int.tmod a0 40) + 40)) 40))) - 0)).toNat) 0 : List UInt8))
def armoirelaw06_FreeWaits.j4 (a0 : Int) (a1 : (List S_armoirelaw06_Op)) (t1 : (Bool)) (b6402 : Bool) : Option (Bool) :=
  (if b6402 = true then armoirelaw06_FreeWaits.j0 t1 else (if 0 ≤ wi64 ((wi64 (1 + (Int.tmod (wi64 ((Int.tmod a0 40) + 40)) 40))) - 0) ∧ wi64 ((wi64 (1 + (Int.tmod (wi64 ((Int.tmod a0 40) + 40)) 40))) - 0) ≤ wi64 ((wi64 (1 + (Int.tmod (wi64 ((Int.tmod a0 40) + 40)) 40))) - 0) ∧ (wi64 ((wi64 (1 + (Int.tmod (wi64 ((Int.tmod a0 40) + 40)) 40))) - 0)) * 1 ≤ 281474976710656 ∧ wi64 ((wi64 (1 + (Int.tmod (wi64 ((Int.tmod a0 40) + 40)) 40))) - 0) ≤ 281474976710656 then armoirelaw06_FreeWaits.l5 a0 a1 t1 FUEL 0 else none))
def armoirelaw06_FreeWaits.l6 (a0 : Int) (a1 : (List S_armoirelaw06_Op)) (t1 : (Bool)) : Nat → Int → Option (Bool)
  | 0, _ => none
  | d6458 + 1, x6455 =>
    (if x6455 < 0 then none else armoirelaw06_FreeWaits.j4 a0 a1 t1 false)
def armoirelaw06_FreeWaits.f (a0 : Int) (a1 : (List S_armoirelaw06_Op)) : Option (Bool) :=
  (armoirelaw06_live.f).bind fun t1 => (if (wi64 (1 + (Int.tmod (wi64 ((Int.tmod a0 40) + 40)) 40))) ≤ 0 then armoirelaw06_FreeWaits.j0 t1 else (if 1024 < (wi64 (1 + (Int.tmod (wi64 ((Int.tmod a0 40) + 40)) 40))) then armoirelaw06_FreeWaits.j4 a0 a1 t1 true else armoirelaw06_FreeWaits.l6 a0 a1 t1 FUEL 0))
def armoireref06_Map_All.l0 (a0 : S_armoireref06_Map) (a1 : Int) : Nat → (List Int) → Int → Option ((List Int))
  | 0, _, _ => none
  | d54 + 1, x31, x32 =>
    (if x32 < (a0.k.length : Int) then (if 0 ≤ x32 ∧ x32 < a0.k.length then (if (a0.k.getD x32.toNat 0) = a1 then (if x31.length + ([wi64 (a0.from_ + x32)] : List Int).length ≤ 17592186044416 then (armoireref06_Map_All.l0 a0 a1 d54) (x31 ++ ([wi64 (a0.from_ + x32)] : List Int)) (wi64 (x32 + 1)) else none) else (armoireref06_Map_All.l0 a0 a1 d54) x31 (wi64 (x32 + 1))) else none) else some x31)
def armoireref06_Map_All.f (a0 : S_armoireref06_Map) (a1 : Int) : Option ((List Int)) :=
  armoireref06_Map_All.l0 a0 a1 FUEL ([] : List Int) 0
def armoirelaw06_list.l0 (a0 : (List Int)) (a1 : (List Int)) : Nat → (List Int) → Int → Option (Bool × (List Int))
  | 0, _, _ => none
  | d23 + 1, x12, x13 =>
    (if x13 < (a0.length : Int) then (if 0 ≤ x13 ∧ x13 < x12.length then (if 0 ≤ x13 ∧ x13 < a1.length then (if (x12.getD x13.toNat 0) ≠ (a1.getD x13.toNat 0) then some (false, x12) else (if 0 ≤ x13 ∧ x13 < x12.length then (armoirelaw06_list.l0 a0 a1 d23) (x12.set x13.toNat (-7)) (wi64 (x13 + 1)) else none)) else none) else none) else some (true, x12))
def armoirelaw06_list.f (a0 : (List Int)) (a1 : (List Int)) : Option (Bool × (List Int)) :=
  (if (a0.length : Int) ≠ (a1.length : Int) then some (false, a0) else armoirelaw06_list.l0 a0 a1 FUEL a0 0)
def free_Map_Taken.f (a0 : S_free_Map) : Option ((List Int)) :=
  (free_Map_all.f a0 1).bind fun t3 => some t3
def free_Map_Is.f (a0 : S_free_Map) (a1 : Int) : Option (Int) :=
  (if a1 < a0.from_ then some 0 else (if (a0.kinds.length : Int) ≤ (wi64 (a1 - a0.from_)) then some 0 else (if 0 ≤ wi64 (a1 - a0.from_) ∧ wi64 (a1 - a0.from_) < a0.kinds.length then some (wi64 (1 + ((a0.kinds.getD ((wi64 (a1 - a0.from_)).toNat) 0).toNat : Int))) else none)))
def armoireref06_Map_Is.f (a0 : S_armoireref06_Map) (a1 : Int) (a2 : Int) : Option (Bool) :=
  (if a0.from_ ≤ a1 then (if (wi64 (a1 - a0.from_)) < (a0.k.length : Int) then (if 0 ≤ wi64 (a1 - a0.from_) ∧ wi64 (a1 - a0.from_) < a0.k.length then some (decide ((a0.k.getD ((wi64 (a1 - a0.from_)).toNat) 0) = a2)) else none) else some false) else some false)
def armoirelaw06_same.l1 (a0 : S_free_Map) (a1 : S_armoireref06_Map) (x5 : Int) (kont326 : Int → Option (Bool)) : Nat → Int → Int → Option (Bool)
  | 0, _, _ => none
  | d440 + 1, x420, x421 =>
    (if x421 < 3 then (armoireref06_Map_Is.f a1 x5 x421).bind fun t447 => (if t447 = true then (armoirelaw06_same.l1 a0 a1 x5 kont326 d440) (wi64 (1 + x421)) (wi64 (x421 + 1)) else (armoirelaw06_same.l1 a0 a1 x5 kont326 d440) x420 (wi64 (x421 + 1))) else (free_Map_Is.f a0 x5).bind fun t453 => (if t453 ≠ x420 then some false else kont326 (wi64 (x5 + 1))))
def armoirelaw06_same.l0 (a0 : S_free_Map) (a1 : S_armoireref06_Map) : Nat → Int → Option (Bool)
  | 0, _ => none
  | d325 + 1, x5 =>
    (if x5 < (wi64 ((wi64 (a1.from_ + (a1.k.length : Int))) + 2)) then (if x5 < (wi64 (a1.from_ + 40)) then armoirelaw06_same.l1 a0 a1 x5 (armoirelaw06_same.l0 a0 a1 d325) FUEL 0 0 else (free_Map_Free.f a0).bind fun t460 => (armoireref06_Map_All.f a1 0).bind fun t467 => (armoirelaw06_list.f t460 t467).bind fun t474 => (if t474.1 = true then (free_Map_Taken.f a0).bind fun t496 => (armoireref06_Map_All.f a1 1).bind fun t503 => (armoirelaw06_list.f t496 t503).bind fun t510 => (if t510.1 = true then (free_Map_Waiting.f a0).bind fun t532 => (armoireref06_Map_All.f a1 2).bind fun t539 => (armoirelaw06_list.f t532 t539).bind fun t546 => some t546.1 else some false) else some false)) else (free_Map_Free.f a0).bind fun t558 => (armoireref06_Map_All.f a1 0).bind fun t565 => (armoirelaw06_list.f t558 t565).bind fun t572 => (if t572.1 = true then (free_Map_Taken.f a0).bind fun t594 => (armoireref06_Map_All.f a1 1).bind fun t601 => (armoirelaw06_list.f t594 t601).bind fun t608 => (if t608.1 = true then (free_Map_Waiting.f a0).bind fun t630 => (armoireref06_Map_All.f a1 2).bind fun t637 => (armoirelaw06_list.f t630 t637).bind fun t644 => some t644.1 else some false) else some false))
def armoirelaw06_same.f (a0 : S_free_Map) (a1 : S_armoireref06_Map) : Option (Bool) :=
  armoirelaw06_same.l0 a0 a1 FUEL (wi64 (a1.from_ - 2))
def armoireref06_Map_TakeRun.l2 (a0 : S_armoireref06_Map) (a1 : Int) (x3 : Int) : Nat → (List Int) → Int → Option (Int × Int × S_armoireref06_Map)
  | 0, _, _ => none
  | d171 + 1, x165, x166 =>
    (if x166 < (wi64 (x3 + a1)) then (if 0 ≤ x166 ∧ x166 < x165.length then (armoireref06_Map_TakeRun.l2 a0 a1 x3 d171) (x165.set x166.toNat 1) (wi64 (x166 + 1)) else none) else some (wi64 (a0.from_ + x3), 0, (S_armoireref06_Map.mk a0.from_ x165)))
def armoireref06_Map_TakeRun.l1 (a0 : S_armoireref06_Map) (a1 : Int) (x3 : Int) (kont93 : Int → Option (Int × Int × S_armoireref06_Map)) : Nat → Bool → Int → Option (Int × Int × S_armoireref06_Map)
  | 0, _, _ => none
  | d137 + 1, b94, x95 =>
    (if x95 < (wi64 (x3 + a1)) then (if b94 = true then (if 0 ≤ x95 ∧ x95 < a0.k.length then (armoireref06_Map_TakeRun.l1 a0 a1 x3 kont93 d137) (decide ((a0.k.getD x95.toNat 0) = 0)) (wi64 (x95 + 1)) else none) else (armoireref06_Map_TakeRun.l1 a0 a1 x3 kont93 d137) false (wi64 (x95 + 1))) else (if (!b94) = true then kont93 (wi64 (x3 + 1)) else armoireref06_Map_TakeRun.l2 a0 a1 x3 FUEL a0.k x3))
def armoireref06_Map_TakeRun.l0 (a0 : S_armoireref06_Map) (a1 : Int) : Nat → Int → Option (Int × Int × S_armoireref06_Map)
  | 0, _ => none
  | d92 + 1, x3 =>
    (if a1 ≤ (wi64 ((a0.k.length : Int) - x3)) then armoireref06_Map_TakeRun.l1 a0 a1 x3 (armoireref06_Map_TakeRun.l0 a0 a1 d92) FUEL true x3 else some (0, 5, a0))
def armoireref06_Map_TakeRun.f (a0 : S_armoireref06_Map) (a1 : Int) : Option (Int × Int × S_armoireref06_Map) :=
  (if a1 < 1 then some (0, 1, a0) else armoireref06_Map_TakeRun.l0 a0 a1 FUEL 0)
def free_Map_Give.f (a0 : S_free_Map) (a1 : Int) : Option (Int × S_free_Map) :=
  (free_Map_turn.f a0 a1 0).bind fun t3 => some (t3.1, t3.2)
def armoireref06_Map_Turn.f (a0 : S_armoireref06_Map) (a1 : Int) (a2 : Int) : Option (Int × S_armoireref06_Map) :=
  (armoireref06_Map_Is.f a0 a1 1).bind fun t3 => (if (!t3) = true then some (4, a0) else (if 0 ≤ wi64 (a1 - a0.from_) ∧ wi64 (a1 - a0.from_) < a0.k.length then some (0, (S_armoireref06_Map.mk a0.from_ (a0.k.set ((wi64 (a1 - a0.from_)).toNat) a2))) else none))
def armoireref06_Map_Sweep.l1 (a1 : (List Int)) (x56 : Int) (x57 : (List Int)) (x58 : Int) (x59 : Int) (kont113 : Int → (List Int) → Int → Int → Option (Int × S_armoireref06_Map)) : Nat → Bool → Int → Option (Int × S_armoireref06_Map)
  | 0, _, _ => none
  | d140 + 1, b116, x117 =>
    (if x117 < (a1.length : Int) then (if 0 ≤ x117 ∧ x117 < a1.length then (if b116 = true then (armoireref06_Map_Sweep.l1 a1 x56 x57 x58 x59 kont113 d140) true (wi64 (x117 + 1)) else (armoireref06_Map_Sweep.l1 a1 x56 x57 x58 x59 kont113 d140) (decide ((a1.getD x117.toNat 0) = (wi64 (x56 + x59)))) (wi64 (x117 + 1))) else none) else (if (x57.getD x59.toNat 0) = 2 then (if (!b116) = true then (if 0 ≤ x59 ∧ x59 < x57.length then kont113 x56 (x57.set x59.toNat 0) (wi64 (x58 + 1)) (wi64 (x59 + 1)) else none) else kont113 x56 x57 x58 (wi64 (x59 + 1))) else kont113 x56 x57 x58 (wi64 (x59 + 1))))
def armoireref06_Map_Sweep.l0 (a0 : S_armoireref06_Map) (a1 : (List Int)) : Nat → Int → (List Int) → Int → Int → Option (Int × S_armoireref06_Map)
  | 0, _, _, _, _ => none
  | d112 + 1, x56, x57, x58, x59 =>
    (if x59 < (a0.k.length : Int) then (if 0 ≤ x59 ∧ x59 < x57.length then armoireref06_Map_Sweep.l1 a1 x56 x57 x58 x59 (armoireref06_Map_Sweep.l0 a0 a1 d112) FUEL false 0 else none) else some (x58, (S_armoireref06_Map.mk x56 x57)))
def armoireref06_Map_Sweep.f (a0 : S_armoireref06_Map) (a1 : (List Int)) : Option (Int × S_armoireref06_Map) :=
  armoireref06_Map_Sweep.l0 a0 a1 FUEL a0.from_ a0.k 0 0
def slices_Clone_Lfree_kind_free_kind.f (a0 : (List UInt8)) : Option ((List UInt8)) :=
  (if ([] : List UInt8).length + a0.length ≤ 140737488355328 then some (([] : List UInt8) ++ a0) else none)
def free_Map_Clone.f (a0 : S_free_Map) : Option (S_free_Map) :=
  (slices_Clone_Lfree_kind_free_kind.f a0.kinds).bind fun t3 => some (S_free_Map.mk a0.from_ t3)
def armoirelaw06_FreeGoes.l0 (a2 : (List Int)) (t1 : (Bool)) (x283 : Int) (x462 : Int) : Nat → (List Int) → Int → Option (Bool)
  | 0, _, _ => none
  | d485 + 1, x473, x474 =>
    (if x474 < (((([] : List Int) ++ a2).length) : Int) then (if 0 ≤ x474 ∧ x474 < x473.length then (armoirelaw06_FreeGoes.l0 a2 t1 x283 x462 d485) (x473.set x474.toNat (-7)) (wi64 (x474 + 1)) else none) else (if x283 ≠ x462 then some false else some t1))
def armoirelaw06_FreeGoes.j1 (a2 : (List Int)) (t1 : (Bool)) (x283 : Int) (x462 : Int) : Option (Bool) :=
  armoirelaw06_FreeGoes.l0 a2 t1 x283 x462 FUEL (([] : List Int) ++ a2) 0
def armoirelaw06_FreeGoes.l1 (a2 : (List Int)) (x283 : Int) : Nat → (List Int) → Int → Option (Bool)
  | 0, _, _ => none
  | d518 + 1, x510, x511 =>
    (if x511 < (((([] : List Int) ++ a2).length) : Int) then (if 0 ≤ x511 ∧ x511 < x510.length then (armoirelaw06_FreeGoes.l1 a2 x283 d518) (x510.set x511.toNat (-7)) (wi64 (x511 + 1)) else none) else (if x283 ≠ 0 then some false else some false))
def armoirelaw06_FreeGoes.j2 (a2 : (List Int)) (x283 : Int) (x503 : (List Int)) : Option (Bool) :=
  armoirelaw06_FreeGoes.l1 a2 x283 FUEL (([] : List Int) ++ a2) 0
def armoirelaw06_FreeGoes.l3 (a0 : Int) (a2 : (List Int)) (t1 : (Bool)) (x283 : Int) : Nat → (List Int) → Int → Option (Bool)
  | 0, _, _ => none
  | d686 + 1, x674, x675 =>
    (if x675 < (a2.length : Int) then (if 0 ≤ x675 ∧ x675 < a2.length then (if 0 ≤ wi64 ((a2.getD x675.toNat 0) - a0) ∧ wi64 ((a2.getD x675.toNat 0) - a0) < x674.length then (if (x674.getD ((wi64 ((a2.getD x675.toNat 0) - a0)).toNat) 0) = 1 then armoirelaw06_FreeGoes.j1 a2 t1 x283 6 else (if 0 ≤ wi64 ((a2.getD x675.toNat 0) - a0) ∧ wi64 ((a2.getD x675.toNat 0) - a0) < x674.length then (armoirelaw06_FreeGoes.l3 a0 a2 t1 x283 d686) (x674.set ((wi64 ((a2.getD x675.toNat 0) - a0)).toNat) 1) (wi64 (x675 + 1)) else none)) else none) else none) else armoirelaw06_FreeGoes.j2 a2 x283 x674)
def armoirelaw06_FreeGoes.l2 (a0 : Int) (a1 : Int) (a2 : (List Int)) (t1 : (Bool)) (x283 : Int) : Nat → Int → Option (Bool)
  | 0, _ => none
  | d613 + 1, x527 =>
    (if x527 < (a2.length : Int) then (if 0 ≤ x527 ∧ x527 < a2.length then (if (a2.getD x527.toNat 0) < a0 then armoirelaw06_FreeGoes.j1 a2 t1 x283 1 else (if a1 ≤ (a2.getD x527.toNat 0) then armoirelaw06_FreeGoes.j1 a2 t1 x283 1 else (armoirelaw06_FreeGoes.l2 a0 a1 a2 t1 x283 d613) (wi64 (x527 + 1)))) else none) else (if 0 ≤ wi64 (a1 - a0) ∧ wi64 (a1 - a0) ≤ wi64 (a1 - a0) ∧ (wi64 (a1 - a0)) * 8 ≤ 281474976710656 ∧ wi64 (a1 - a0) ≤ 281474976710656 then armoirelaw06_FreeGoes.l3 a0 a2 t1 x283 FUEL (List.replicate ((wi64 (a1 - a0)).toNat) 0 : List Int) 0 else none))
def armoirelaw06_FreeGoes.j0 (a0 : Int) (a1 : Int) (a2 : (List Int)) (t1 : (Bool)) (x283 : Int) : Option (Bool) :=
  (if a0 < 0 then armoirelaw06_FreeGoes.j1 a2 t1 x283 1 else (if a1 ≤ a0 then armoirelaw06_FreeGoes.j1 a2 t1 x283 1 else (if 1024 < a1 then armoirelaw06_FreeGoes.j1 a2 t1 x283 1 else armoirelaw06_FreeGoes.l2 a0 a1 a2 t1 x283 FUEL 0)))
def armoirelaw06_FreeGoes.l4 (a2 : (List Int)) (x888 : Int) : Nat → (List Int) → Int → Option (Bool)
  | 0, _, _ => none
  | d903 + 1, x895, x896 =>
    (if x896 < (((([] : List Int) ++ a2).length) : Int) then (if 0 ≤ x896 ∧ x896 < x895.length then (armoirelaw06_FreeGoes.l4 a2 x888 d903) (x895.set x896.toNat (-7)) (wi64 (x896 + 1)) else none) else (if 0 ≠ x888 then some false else some false))
def armoirelaw06_FreeGoes.j4 (a2 : (List Int)) (x888 : Int) : Option (Bool) :=
  armoirelaw06_FreeGoes.l4 a2 x888 FUEL (([] : List Int) ++ a2) 0
def armoirelaw06_FreeGoes.j6 (a3 : (List S_armoirelaw06_Op)) (x18974 : Int) (kont20099 : Int → (List UInt8) → Int → (List Int) → Int → Option (Bool)) (x20569 : Int) (x20570 : (List UInt8)) (x20571 : Int) (x20572 : (List Int)) (b20573 : Bool) : Option (Bool) :=
  (if (!b20573) = true then some false else (armoirelaw06_same.f (S_free_Map.mk x20569 x20570) (S_armoireref06_Map.mk x20571 x20572)).bind fun t20578 => (if (!t20578) = true then some false else (if (a3.getD x18974.toNat (S_armoirelaw06_Op.mk 0 0 [] false)).clone = true then (free_Map_Clone.f (S_free_Map.mk x20569 x20570)).bind fun t20599 => (free_Map_Take.f (S_free_Map.mk x20569 x20570)).bind fun t20608 => (free_Map_Sweep.f t20608.2.2 ([] : List Int)).bind fun t20612 => kont20099 t20599.from_ t20599.kinds x20571 x20572 (wi64 (x18974 + 1)) else kont20099 x20569 x20570 x20571 x20572 (wi64 (x18974 + 1)))))
def armoirelaw06_FreeGoes.j7 (a3 : (List S_armoirelaw06_Op)) (x18974 : Int) (kont20099 : Int → (List UInt8) → Int → (List Int) → Int → Option (Bool)) (x20620 : Int) (x20621 : (List UInt8)) (x20622 : Int) (x20623 : (List Int)) (b20624 : Bool) : Option (Bool) :=
  (if (!b20624) = true then some false else (armoirelaw06_same.f (S_free_Map.mk x20620 x20621) (S_armoireref06_Map.mk x20622 x20623)).bind fun t20629 => (if (!t20629) = true then some false else (if (a3.getD x18974.toNat (S_armoirelaw06_Op.mk 0 0 [] false)).clone = true then (free_Map_Clone.f (S_free_Map.mk x20620 x20621)).bind fun t20650 => (free_Map_Take.f (S_free_Map.mk x20620 x20621)).bind fun t20659 => (free_Map_Sweep.f t20659.2.2 ([] : List Int)).bind fun t20663 => kont20099 t20650.from_ t20650.kinds x20622 x20623 (wi64 (x18974 + 1)) else kont20099 x20620 x20621 x20622 x20623 (wi64 (x18974 + 1)))))
def armoirelaw06_FreeGoes.l6 (a3 : (List S_armoirelaw06_Op)) (t1 : (Bool)) : Nat → Int → (List UInt8) → Int → (List Int) → Int → Option (Bool)
  | 0, _, _, _, _, _ => none
  | d20098 + 1, x18967, x18971, x18972, x18973, x18974 =>
    (if x18974 < (a3.length : Int) then (if 0 ≤ x18974 ∧ x18974 < a3.length then (if ((a3.getD x18974.toNat (S_armoirelaw06_Op.mk 0 0 [] false)).do_) = 0 then (free_Map_Take.f (S_free_Map.mk x18967 x18971)).bind fun t20671 => (armoireref06_Map_TakeRun.f (S_armoireref06_Map.mk x18972 x18973) 1).bind fun t20675 => (if t20671.1 = t20675.1 then (if ¬ (t20671.2.1 = t20675.2.1) then some false else (armoirelaw06_same.f t20671.2.2 t20675.2.2).bind fun t20683 => (if (!t20683) = true then some false else (if (a3.getD x18974.toNat (S_armoirelaw06_Op.mk 0 0 [] false)).clone = true then (free_Map_Clone.f t20671.2.2).bind fun t20704 => (free_Map_Take.f t20671.2.2).bind fun t20713 => (free_Map_Sweep.f t20713.2.2 ([] : List Int)).bind fun t20717 => (armoirelaw06_FreeGoes.l6 a3 t1 d20098) t20704.from_ t20704.kinds t20675.2.2.from_ t20675.2.2.k (wi64 (x18974 + 1)) else (armoirelaw06_FreeGoes.l6 a3 t1 d20098) t20671.2.2.from_ t20671.2.2.kinds t20675.2.2.from_ t20675.2.2.k (wi64 (x18974 + 1))))) else armoirelaw06_FreeGoes.j6 a3 x18974 (armoirelaw06_FreeGoes.l6 a3 t1 d20098) t20671.2.2.from_ t20671.2.2.kinds t20675.2.2.from_ t20675.2.2.k false) else (if ((a3.getD x18974.toNat (S_armoirelaw06_Op.mk 0 0 [] false)).do_) = 1 then (free_Map_TakeRun.f (S_free_Map.mk x18967 x18971) ((a3.getD x18974.toNat (S_armoirelaw06_Op.mk 0 0 [] false)).n)).bind fun t20950 => (armoireref06_Map_TakeRun.f (S_armoireref06_Map.mk x18972 x18973) ((a3.getD x18974.toNat (S_armoirelaw06_Op.mk 0 0 [] false)).n)).bind fun t20954 => (if t20950.1 = t20954.1 then (if ¬ (t20950.2.1 = t20954.2.1) then some false else (armoirelaw06_same.f t20950.2.2 t20954.2.2).bind fun t20962 => (if (!t20962) = true then some false else (if (a3.getD x18974.toNat (S_armoirelaw06_Op.mk 0 0 [] false)).clone = true then (free_Map_Clone.f t20950.2.2).bind fun t20983 => (free_Map_Take.f t20950.2.2).bind fun t20992 => (free_Map_Sweep.f t20992.2.2 ([] : List Int)).bind fun t20996 => (armoirelaw06_FreeGoes.l6 a3 t1 d20098) t20983.from_ t20983.kinds t20954.2.2.from_ t20954.2.2.k (wi64 (x18974 + 1)) else (armoirelaw06_FreeGoes.l6 a3 t1 d20098) t20950.2.2.from_ t20950.2.2.kinds t20954.2.2.from_ t20954.2.2.k (wi64 (x18974 + 1))))) else armoirelaw06_FreeGoes.j6 a3 x18974 (armoirelaw06_FreeGoes.l6 a3 t1 d20098) t20950.2.2.from_ t20950.2.2.kinds t20954.2.2.from_ t20954.2.2.k false) else (if ((a3.getD x18974.toNat (S_armoirelaw06_Op.mk 0 0 [] false)).do_) = 2 then (free_Map_Give.f (S_free_Map.mk x18967 x18971) ((a3.getD x18974.toNat (S_armoirelaw06_Op.mk 0 0 [] false)).n)).bind fun t21109 => (armoireref06_Map_Turn.f (S_armoireref06_Map.mk x18972 x18973) ((a3.getD x18974.toNat (S_armoirelaw06_Op.mk 0 0 [] false)).n) 0).bind fun t21113 => armoirelaw06_FreeGoes.j7 a3 x18974 (armoirelaw06_FreeGoes.l6 a3 t1 d20098) t21109.2.from_ t21109.2.kinds t21113.2.from_ t21113.2.k (decide (t21109.1 = t21113.1)) else (if ((a3.getD x18974.toNat (S_armoirelaw06_Op.mk 0 0 [] false)).do_) = 3 then (free_Map_Defer.f (S_free_Map.mk x18967 x18971) ((a3.getD x18974.toNat (S_armoirelaw06_Op.mk 0 0 [] false)).n)).bind fun t21172 => (armoireref06_Map_Turn.f (S_armoireref06_Map.mk x18972 x18973) ((a3.getD x18974.toNat (S_armoirelaw06_Op.mk 0 0 [] false)).n) 2).bind fun t21176 => armoirelaw06_FreeGoes.j7 a3 x18974 (armoirelaw06_FreeGoes.l6 a3 t1 d20098) t21172.2.from_ t21172.2.kinds t21176.2.from_ t21176.2.k (decide (t21172.1 = t21176.1)) else (if ((a3.getD x18974.toNat (S_armoirelaw06_Op.mk 0 0 [] false)).do_) = 4 then (if (((a3.getD x18974.toNat (S_armoirelaw06_Op.mk 0 0 [] false)).keep).length : Int) ≤ 1000 then (free_Map_Sweep.f (S_free_Map.mk x18967 x18971) ((a3.getD x18974.toNat (S_armoirelaw06_Op.mk 0 0 [] false)).keep)).bind fun t21212 => (armoireref06_Map_Sweep.f (S_armoireref06_Map.mk x18972 x18973) ((a3.getD x18974.toNat (S_armoirelaw06_Op.mk 0 0 [] false)).keep)).bind fun t21216 => armoirelaw06_FreeGoes.j7 a3 x18974 (armoirelaw06_FreeGoes.l6 a3 t1 d20098) t21212.2.from_ t21212.2.kinds t21216.2.from_ t21216.2.k (decide (t21212.1 = t21216.1)) else armoirelaw06_FreeGoes.j6 a3 x18974 (armoirelaw06_FreeGoes.l6 a3 t1 d20098) x18967 x18971 x18972 x18973 true) else armoirelaw06_FreeGoes.j6 a3 x18974 (armoirelaw06_FreeGoes.l6 a3 t1 d20098) x18967 x18971 x18972 x18973 true))))) else none) else (if t1 = true then (armoirelaw06_same.f (S_free_Map.mk x18967 x18971) (S_armoireref06_Map.mk x18972 x18973)).bind fun t21237 => some t21237 else some false))
def armoirelaw06_FreeGoes.l5 (a0 : Int) (a2 : (List Int)) (a3 : (List S_armoirelaw06_Op)) (t1 : (Bool)) (x709 : (List UInt8)) (x917 : (List Int)) : Nat → (List Int) → Int → Option (Bool)
  | 0, _, _ => none
  | d14456 + 1, x7686, x7687 =>
    (if x7687 < (((([] : List Int) ++ a2).length) : Int) then (if 0 ≤ x7687 ∧ x7687 < x7686.length then (armoirelaw06_FreeGoes.l5 a0 a2 a3 t1 x709 x917 d14456) (x7686.set x7687.toNat (-7)) (wi64 (x7687 + 1)) else none) else (if 150 < (a3.length : Int) then some t1 else armoirelaw06_FreeGoes.l6 a3 t1 FUEL a0 x709 a0 x917 0))
def armoirelaw06_FreeGoes.j5 (a0 : Int) (a2 : (List Int)) (a3 : (List S_armoirelaw06_Op)) (t1 : (Bool)) (x709 : (List UInt8)) (x917 : (List Int)) : Option (Bool) :=
  armoirelaw06_FreeGoes.l5 a0 a2 a3 t1 x709 x917 FUEL (([] : List Int) ++ a2) 0
def armoirelaw06_FreeGoes.l8 (a0 : Int) (a2 : (List Int)) (a3 : (List S_armoirelaw06_Op)) (t1 : (Bool)) (x709 : (List UInt8)) : Nat → (List Int) → Int → Option (Bool)
  | 0, _, _ => none
  | d21407 + 1, x21395, x21396 =>
    (if x21396 < (a2.length : Int) then (if 0 ≤ x21396 ∧ x21396 < a2.length then (if 0 ≤ wi64 ((a2.getD x21396.toNat 0) - a0) ∧ wi64 ((a2.getD x21396.toNat 0) - a0) < x21395.length then (if (x21395.getD ((wi64 ((a2.getD x21396.toNat 0) - a0)).toNat) 0) = 1 then armoirelaw06_FreeGoes.j4 a2 6 else (if 0 ≤ wi64 ((a2.getD x21396.toNat 0) - a0) ∧ wi64 ((a2.getD x21396.toNat 0) - a0) < x21395.length then (armoirelaw06_FreeGoes.l8 a0 a2 a3 t1 x709 d21407) (x21395.set ((wi64 ((a2.getD x21396.toNat 0) - a0)).toNat) 1) (wi64 (x21396 + 1)) else none)) else none) else none) else armoirelaw06_FreeGoes.j5 a0 a2 a3 t1 x709 x21395)
def armoirelaw06_FreeGoes.l7 (a0 : Int) (a1 : Int) (a2 : (List Int)) (a3 : (List S_armoirelaw06_Op)) (t1 : (Bool)) (x709 : (List UInt8)) : Nat → Int → Option (Bool)
  | 0, _ => none
  | d21334 + 1, x21248 =>
    (if x21248 < (a2.length : Int) then (if 0 ≤ x21248 ∧ x21248 < a2.length then (if (a2.getD x21248.toNat 0) < a0 then armoirelaw06_FreeGoes.j4 a2 1 else (if a1 ≤ (a2.getD x21248.toNat 0) then armoirelaw06_FreeGoes.j4 a2 1 else (armoirelaw06_FreeGoes.l7 a0 a1 a2 a3 t1 x709 d21334) (wi64 (x21248 + 1)))) else none) else (if 0 ≤ wi64 (a1 - a0) ∧ wi64 (a1 - a0) ≤ wi64 (a1 - a0) ∧ (wi64 (a1 - a0)) * 8 ≤ 281474976710656 ∧ wi64 (a1 - a0) ≤ 281474976710656 then armoirelaw06_FreeGoes.l8 a0 a2 a3 t1 x709 FUEL (List.replicate ((wi64 (a1 - a0)).toNat) 0 : List Int) 0 else none))
def armoirelaw06_FreeGoes.j3 (a0 : Int) (a1 : Int) (a2 : (List Int)) (a3 : (List S_armoirelaw06_Op)) (t1 : (Bool)) (x709 : (List UInt8)) : Option (Bool) :=
  (if a0 < 0 then armoirelaw06_FreeGoes.j4 a2 1 else (if a1 ≤ a0 then armoirelaw06_FreeGoes.j4 a2 1 else (if 1024 < a1 then armoirelaw06_FreeGoes.j4 a2 1 else armoirelaw06_FreeGoes.l7 a0 a1 a2 a3 t1 x709 FUEL 0)))
def armoirelaw06_FreeGoes.l9 (a0 : Int) (a1 : Int) (a2 : (List Int)) (a3 : (List S_armoirelaw06_Op)) (t1 : (Bool)) : Nat → (List UInt8) → Int → Option (Bool)
  | 0, _, _ => none
  | d21548 + 1, x21537, x21538 =>
    (if x21538 < (((([] : List Int) ++ a2).length) : Int) then (if 0 ≤ x21538 ∧ x21538 < (([] : List Int) ++ a2).length then (if 0 ≤ wi64 (((([] : List Int) ++ a2).getD x21538.toNat 0) - a0) ∧ wi64 (((([] : List Int) ++ a2).getD x21538.toNat 0) - a0) < x21537.length then (if (x21537.getD ((wi64 (((([] : List Int) ++ a2).getD x21538.toNat 0) - a0)).toNat) 0) ≠ 0 then armoirelaw06_FreeGoes.j0 a0 a1 a2 t1 6 else (if 0 ≤ wi64 (((([] : List Int) ++ a2).getD x21538.toNat 0) - a0) ∧ wi64 (((([] : List Int) ++ a2).getD x21538.toNat 0) - a0) < x21537.length then (armoirelaw06_FreeGoes.l9 a0 a1 a2 a3 t1 d21548) (x21537.set ((wi64 (((([] : List Int) ++ a2).getD x21538.toNat 0) - a0)).toNat) 1) (wi64 (x21538 + 1)) else none)) else none) else none) else armoirelaw06_FreeGoes.j3 a0 a1 a2 a3 t1 x21537)
def armoirelaw06_FreeGoes.j8 (a0 : Int) (a1 : Int) (a2 : (List Int)) (a3 : (List S_armoirelaw06_Op)) (t1 : (Bool)) (b21522 : Bool) : Option (Bool) :=
  (if b21522 = true then armoirelaw06_FreeGoes.j0 a0 a1 a2 t1 1 else (if 0 ≤ wi64 (a1 - a0) ∧ wi64 (a1 - a0) ≤ wi64 (a1 - a0) ∧ (wi64 (a1 - a0)) * 1 ≤ 281474976710656 ∧ wi64 (a1 - a0) ≤ 281474976710656 then armoirelaw06_FreeGoes.l9 a0 a1 a2 a3 t1 FUEL (List.replicate ((wi64 (a1 - a0)).toNat) 0 : List UInt8) 0 else none))
def armoirelaw06_FreeGoes.l10 (a0 : Int) (a1 : Int) (a2 : (List Int)) (a3 : (List S_armoirelaw06_Op)) (t1 : (Bool)) : Nat → (List UInt8) → Int → Option (Bool)
  | 0, _, _ => none
  | d21609 + 1, x21598, x21599 =>
    (if x21599 < (((([] : List Int) ++ a2).length) : Int) then (if 0 ≤ x21599 ∧ x21599 < (([] : List Int) ++ a2).length then (if 0 ≤ wi64 (((([] : List Int) ++ a2).getD x21599.toNat 0) - a0) ∧ wi64 (((([] : List Int) ++ a2).getD x21599.toNat 0) - a0) < x21598.length then (if (x21598.getD ((wi64 (((([] : List Int) ++ a2).getD x21599.toNat 0) - a0)).toNat) 0) ≠ 0 then armoirelaw06_FreeGoes.j0 a0 a1 a2 t1 6 else (if 0 ≤ wi64 (((([] : List Int) ++ a2).getD x21599.toNat 0) - a0) ∧ wi64 (((([] : List Int) ++ a2).getD x21599.toNat 0) - a0) < x21598.length then (armoirelaw06_FreeGoes.l10 a0 a1 a2 a3 t1 d21609) (x21598.set ((wi64 (((([] : List Int) ++ a2).getD x21599.toNat 0) - a0)).toNat) 1) (wi64 (x21599 + 1)) else none)) else none) else none) else armoirelaw06_FreeGoes.j3 a0 a1 a2 a3 t1 x21598)
def armoirelaw06_FreeGoes.j9 (a0 : Int) (a1 : Int) (a2 : (List Int)) (a3 : (List S_armoirelaw06_Op)) (t1 : (Bool)) (b21583 : Bool) : Option (Bool) :=
  (if b21583 = true then armoirelaw06_FreeGoes.j0 a0 a1 a2 t1 1 else (if 0 ≤ wi64 (a1 - a0) ∧ wi64 (a1 - a0) ≤ wi64 (a1 - a0) ∧ (wi64 (a1 - a0)) * 1 ≤ 281474976710656 ∧ wi64 (a1 - a0) ≤ 281474976710656 then armoirelaw06_FreeGoes.l10 a0 a1 a2 a3 t1 FUEL (List.replicate ((wi64 (a1 - a0)).toNat) 0 : List UInt8) 0 else none))
def armoirelaw06_FreeGoes.l11 (a0 : Int) (a1 : Int) (a2 : (List Int)) (a3 : (List S_armoirelaw06_Op)) (t1 : (Bool)) : Nat → Int → Option (Bool)
  | 0, _ => none
  | d21726 + 1, x21716 =>
    (if x21716 < (((([] : List Int) ++ a2).length) : Int) then (if 0 ≤ x21716 ∧ x21716 < (([] : List Int) ++ a2).length then (free_New_1.f ((([] : List Int) ++ a2).getD x21716.toNat 0) a0 a1).bind fun t21730 => (if t21730 = true then armoirelaw06_FreeGoes.j9 a0 a1 a2 a3 t1 (decide (0 ≤ x21716)) else (armoirelaw06_FreeGoes.l11 a0 a1 a2 a3 t1 d21726) (wi64 (x21716 + 1))) else none) else armoirelaw06_FreeGoes.j8 a0 a1 a2 a3 t1 false)
def armoirelaw06_FreeGoes.f (a0 : Int) (a1 : Int) (a2 : (List Int)) (a3 : (List S_armoirelaw06_Op)) : Option (Bool) :=
  (armoirelaw06_live.f).bind fun t1 => (if ([] : List Int).length + a2.length ≤ 17592186044416 then (if a0 < 0 then armoirelaw06_FreeGoes.j0 a0 a1 a2 t1 1 else (if a1 ≤ a0 then armoirelaw06_FreeGoes.j0 a0 a1 a2 t1 1 else (if 1024 < a1 then armoirelaw06_FreeGoes.j8 a0 a1 a2 a3 t1 true else armoirelaw06_FreeGoes.l11 a0 a1 a2 a3 t1 FUEL 0))) else none)
end Go.Proofs.Ytpffemcpfddjbaa
