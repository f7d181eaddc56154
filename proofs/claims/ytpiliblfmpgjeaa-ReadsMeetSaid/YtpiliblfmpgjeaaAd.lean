/- Own text, printed by wip/gen: what the functions tell, plainly. -/
import Derived.Test.YtpiliblfmpgjeaaMem8
namespace Go.Proofs.Ytpiliblfmpgjeaa
open Go K
set_option linter.unusedVariables false
structure api_Touch where
  kind : Int
  ino : Int
  name : Str
  lo : Int
  hi : Int
  deriving DecidableEq, Inhabited
def reads_Check.j1 (b186 : Bool) : Option (Int) :=
  (if b186 = true then some 1 else some 0)
def reads_Check.j0 (a0 : api_Touch) (x179 : api_Touch) : Option (Int) :=
  (if a0.ino = 0 then reads_Check.j1 true else reads_Check.j1 (decide (a0 ≠ x179)))
def reads_Check.j3 (a0 : api_Touch) (b200 : Bool) : Option (Int) :=
  (if b200 = true then some 1 else reads_Check.j0 a0 (api_Touch.mk a0.kind a0.ino [] a0.lo a0.hi))
def reads_Check.j2 (a0 : api_Touch) (b197 : Bool) : Option (Int) :=
  (if b197 = true then reads_Check.j3 a0 true else reads_Check.j3 a0 (decide (512 < a0.hi)))
def reads_Check.j4 (a0 : api_Touch) (x288 : api_Touch) : Option (Int) :=
  reads_Check.j0 a0 x288
def reads_Check.j5 (a0 : api_Touch) (b328 : Bool) : Option (Int) :=
  (if b328 = true then reads_Check.j4 a0 (api_Touch.mk a0.kind a0.ino [] 0 0) else some 1)
def reads_Check.j6 (a0 : api_Touch) (b348 : Bool) : Option (Int) :=
  reads_Check.j5 a0 b348
def reads_Check.j7 (a0 : api_Touch) (b357 : Bool) : Option (Int) :=
  reads_Check.j6 a0 b357
def reads_Check.j8 (a0 : api_Touch) (b361 : Bool) : Option (Int) :=
  reads_Check.j7 a0 b361
def reads_Check.f (a0 : api_Touch) : Option (Int) :=
  (if a0.kind = 4 then (if a0.lo < 0 then reads_Check.j2 a0 true else reads_Check.j2 a0 (decide (a0.hi ≤ a0.lo))) else (if a0.kind = 5 then (if a0.name = ([] : Str) then some 1 else reads_Check.j4 a0 (api_Touch.mk a0.kind a0.ino a0.name 0 0)) else (if a0.kind = 1 then reads_Check.j5 a0 (decide (a0.kind = 1)) else (if a0.kind = 2 then reads_Check.j6 a0 (decide (a0.kind = 2)) else (if a0.kind = 3 then reads_Check.j7 a0 (decide (a0.kind = 3)) else (if a0.kind = 6 then reads_Check.j8 a0 (decide (a0.kind = 6)) else reads_Check.j8 a0 (decide (a0.kind = 7))))))))
def reads_Meet.j4 (b50 : Bool) : Option (Bool) :=
  some b50
def reads_Meet.j3 (a0 : api_Touch) (a1 : api_Touch) (b47 : Bool) : Option (Bool) :=
  (if b47 = true then reads_Meet.j4 (decide (a1.lo < a0.hi)) else reads_Meet.j4 false)
def reads_Meet.j6 (b70 : Bool) : Option (Bool) :=
  some b70
def reads_Meet.j5 (a0 : api_Touch) (b67 : Bool) : Option (Bool) :=
  (if b67 = true then reads_Meet.j6 true else reads_Meet.j6 (decide (a0.kind = 6)))
def reads_Meet.j8 (b80 : Bool) : Option (Bool) :=
  some b80
def reads_Meet.j7 (a0 : api_Touch) (b77 : Bool) : Option (Bool) :=
  (if b77 = true then reads_Meet.j8 (decide (a0.kind ≠ 6)) else reads_Meet.j8 false)
def reads_Meet.j2 (a0 : api_Touch) (a1 : api_Touch) (b34 : Bool) : Option (Bool) :=
  (if b34 = true then some (decide (a0.kind = a1.kind)) else (if a1.kind = 4 then (if a0.kind = a1.kind then reads_Meet.j3 a0 a1 (decide (a0.lo < a1.hi)) else reads_Meet.j3 a0 a1 false) else (if a1.kind = 5 then (if a0.kind = a1.kind then reads_Meet.j5 a0 (decide (a0.name = a1.name)) else reads_Meet.j5 a0 false) else (if a0.kind = a1.kind then reads_Meet.j7 a0 (decide (a0.kind ≠ 7)) else reads_Meet.j7 a0 false))))
def reads_Meet.j9 (a0 : api_Touch) (a1 : api_Touch) (b91 : Bool) : Option (Bool) :=
  reads_Meet.j2 a0 a1 b91
def reads_Meet.j1 (a0 : api_Touch) (a1 : api_Touch) (b26 : Bool) : Option (Bool) :=
  (if b26 = true then some false else (if a1.kind = 7 then some true else (if a1.kind = 1 then reads_Meet.j2 a0 a1 (decide (a1.kind = 1)) else (if a1.kind = 2 then reads_Meet.j9 a0 a1 (decide (a1.kind = 2)) else reads_Meet.j9 a0 a1 (decide (a1.kind = 3))))))
def reads_Meet.j0 (a0 : api_Touch) (a1 : api_Touch) (b23 : Bool) : Option (Bool) :=
  (if b23 = true then reads_Meet.j1 a0 a1 true else reads_Meet.j1 a0 a1 (decide (a0.ino ≠ a1.ino)))
def reads_Meet.f (a0 : api_Touch) (a1 : api_Touch) : Option (Bool) :=
  (reads_Check.f a0).bind fun t7 => (if t7 ≠ 0 then reads_Meet.j0 a0 a1 true else (reads_Check.f a1).bind fun t102 => reads_Meet.j0 a0 a1 (decide (t102 ≠ 0)))
def armoirelaw15_live.j4 (b93 : Bool) : Option (Bool) :=
  some b93
def armoirelaw15_live.j3 (b82 : Bool) : Option (Bool) :=
  (if b82 = true then (reads_Check.f (api_Touch.mk 0 0 [] 0 0)).bind fun t97 => armoirelaw15_live.j4 (decide (t97 = 1)) else armoirelaw15_live.j4 false)
def armoirelaw15_live.j2 (b69 : Bool) : Option (Bool) :=
  (if b69 = true then (reads_Meet.f (api_Touch.mk 3 2 [] 0 0) (api_Touch.mk 7 2 [] 0 0)).bind fun t109 => armoirelaw15_live.j3 t109 else armoirelaw15_live.j3 false)
def armoirelaw15_live.j1 (b56 : Bool) : Option (Bool) :=
  (if b56 = true then (reads_Meet.f (api_Touch.mk 4 2 [] 0 4) (api_Touch.mk 4 2 [] 4 9)).bind fun t121 => armoirelaw15_live.j2 (!t121) else armoirelaw15_live.j2 false)
def armoirelaw15_live.j0 (b43 : Bool) : Option (Bool) :=
  (if b43 = true then (reads_Meet.f (api_Touch.mk 4 2 [] 0 4) (api_Touch.mk 4 2 [] 3 9)).bind fun t133 => armoirelaw15_live.j1 t133 else armoirelaw15_live.j1 false)
def armoirelaw15_live.f  : Option (Bool) :=
  (reads_Meet.f (api_Touch.mk 6 1 [] 0 0) (api_Touch.mk 5 1 ([98] : Str) 0 0)).bind fun t25 => (if t25 = true then (reads_Meet.f (api_Touch.mk 5 1 ([97] : Str) 0 0) (api_Touch.mk 5 1 ([98] : Str) 0 0)).bind fun t145 => armoirelaw15_live.j0 (!t145) else armoirelaw15_live.j0 false)
def armoireref15_Check.j2 (b123 : Bool) : Option (Int) :=
  (if b123 = true then some 1 else some 0)
def armoireref15_Check.j1 (a0 : api_Touch) (b115 : Bool) (x116 : api_Touch) : Option (Int) :=
  (if (!b115) = true then armoireref15_Check.j2 true else armoireref15_Check.j2 (decide (a0 ≠ x116)))
def armoireref15_Check.j3 (a0 : api_Touch) (b165 : Bool) (x166 : api_Touch) : Option (Int) :=
  armoireref15_Check.j1 a0 b165 x166
def armoireref15_Check.j6 (a0 : api_Touch) (b176 : Bool) : Option (Int) :=
  armoireref15_Check.j3 a0 b176 (api_Touch.mk a0.kind a0.ino [] a0.lo a0.hi)
def armoireref15_Check.j5 (a0 : api_Touch) (b173 : Bool) : Option (Int) :=
  (if b173 = true then armoireref15_Check.j6 a0 (decide (a0.hi ≤ 512)) else armoireref15_Check.j6 a0 false)
def armoireref15_Check.j4 (a0 : api_Touch) (b170 : Bool) : Option (Int) :=
  (if b170 = true then armoireref15_Check.j5 a0 (decide (a0.lo < a0.hi)) else armoireref15_Check.j5 a0 false)
def armoireref15_Check.j7 (a0 : api_Touch) (b190 : Bool) (x191 : api_Touch) : Option (Int) :=
  armoireref15_Check.j3 a0 b190 x191
def armoireref15_Check.j8 (a0 : api_Touch) (b195 : Bool) : Option (Int) :=
  armoireref15_Check.j7 a0 b195 (api_Touch.mk a0.kind a0.ino a0.name 0 0)
def armoireref15_Check.j0 (a0 : api_Touch) (b44 : Bool) : Option (Int) :=
  (if b44 = true then armoireref15_Check.j1 a0 (decide (a0.ino ≠ 0)) (api_Touch.mk a0.kind a0.ino [] 0 0) else (if a0.kind = 4 then (if a0.ino ≠ 0 then armoireref15_Check.j4 a0 (decide (0 ≤ a0.lo)) else armoireref15_Check.j4 a0 false) else (if a0.kind = 5 then (if a0.ino ≠ 0 then armoireref15_Check.j8 a0 (decide (a0.name ≠ ([] : Str))) else armoireref15_Check.j8 a0 false) else armoireref15_Check.j7 a0 false (api_Touch.mk a0.kind a0.ino [] 0 0))))
def armoireref15_Check.j9 (a0 : api_Touch) (b219 : Bool) : Option (Int) :=
  armoireref15_Check.j0 a0 b219
def armoireref15_Check.j10 (a0 : api_Touch) (b228 : Bool) : Option (Int) :=
  armoireref15_Check.j9 a0 b228
def armoireref15_Check.j11 (a0 : api_Touch) (b232 : Bool) : Option (Int) :=
  armoireref15_Check.j10 a0 b232
def armoireref15_Check.f (a0 : api_Touch) : Option (Int) :=
  (if a0.kind = 1 then armoireref15_Check.j0 a0 (decide (a0.kind = 1)) else (if a0.kind = 2 then armoireref15_Check.j9 a0 (decide (a0.kind = 2)) else (if a0.kind = 3 then armoireref15_Check.j10 a0 (decide (a0.kind = 3)) else (if a0.kind = 6 then armoireref15_Check.j11 a0 (decide (a0.kind = 6)) else armoireref15_Check.j11 a0 (decide (a0.kind = 7))))))
def armoireref15_Meet.j3 (b148 : Bool) : Option (Bool) :=
  some b148
def armoireref15_Meet.j2 (a0 : api_Touch) (a1 : api_Touch) (b126 : Bool) : Option (Bool) :=
  (if b126 = true then some false else (if a0.kind = 4 then (if a0.lo < a1.hi then armoireref15_Meet.j3 (decide (a1.lo < a0.hi)) else armoireref15_Meet.j3 false) else (if a0.kind = 5 then some (decide (a0.name = a1.name)) else some true)))
def armoireref15_Meet.j1 (a0 : api_Touch) (a1 : api_Touch) (b26 : Bool) : Option (Bool) :=
  (if b26 = true then some false else (if a1.kind = 7 then some true else (if a0.kind = 6 then some (decide (a1.kind = 5)) else (if a0.kind ≠ a1.kind then armoireref15_Meet.j2 a0 a1 true else armoireref15_Meet.j2 a0 a1 (decide (a0.kind = 7))))))
def armoireref15_Meet.j0 (a0 : api_Touch) (a1 : api_Touch) (b23 : Bool) : Option (Bool) :=
  (if b23 = true then armoireref15_Meet.j1 a0 a1 true else armoireref15_Meet.j1 a0 a1 (decide (a0.ino ≠ a1.ino)))
def armoireref15_Meet.f (a0 : api_Touch) (a1 : api_Touch) : Option (Bool) :=
  (armoireref15_Check.f a0).bind fun t7 => (if t7 ≠ 0 then armoireref15_Meet.j0 a0 a1 true else (armoireref15_Check.f a1).bind fun t164 => armoireref15_Meet.j0 a0 a1 (decide (t164 ≠ 0)))
def armoirelaw15_ReadsMeet.j0 (b137 : Bool) : Option (Bool) :=
  some b137
def armoirelaw15_ReadsMeet.j1 (b207 : Bool) : Option (Bool) :=
  armoirelaw15_ReadsMeet.j0 b207
def armoirelaw15_ReadsMeet.j2 (b244 : Bool) : Option (Bool) :=
  armoirelaw15_ReadsMeet.j1 b244
def armoirelaw15_ReadsMeet.f (a0 : api_Touch) (a1 : api_Touch) : Option (Bool) :=
  (armoirelaw15_live.f).bind fun t5 => (if t5 = true then (reads_Check.f a0).bind fun t141 => (armoireref15_Check.f a0).bind fun t147 => (if t141 = t147 then (reads_Meet.f a0 a1).bind fun t213 => (armoireref15_Meet.f a0 a1).bind fun t221 => (if (t213 == t221) = true then (reads_Meet.f a1 a0).bind fun t250 => (armoireref15_Meet.f a1 a0).bind fun t258 => armoirelaw15_ReadsMeet.j2 (t250 == t258) else armoirelaw15_ReadsMeet.j2 false) else armoirelaw15_ReadsMeet.j1 false) else armoirelaw15_ReadsMeet.j0 false)
def armoirelaw15_ReadsApart.j1 (b67 : Bool) : Option (Bool) :=
  some b67
def armoirelaw15_ReadsApart.j2 (b117 : Bool) : Option (Bool) :=
  some b117
def armoirelaw15_ReadsApart.j4 (b174 : Bool) : Option (Bool) :=
  some b174
def armoirelaw15_ReadsApart.j5 (b214 : Bool) : Option (Bool) :=
  some b214
def armoirelaw15_ReadsApart.j6 (b228 : Bool) : Option (Bool) :=
  armoirelaw15_ReadsApart.j5 b228
def armoirelaw15_ReadsApart.j3 (a0 : api_Touch) (a1 : api_Touch) (t5 : (Bool)) (b136 : Bool) : Option (Bool) :=
  (if b136 = true then (if t5 = true then (reads_Meet.f a0 a1).bind fun t180 => armoirelaw15_ReadsApart.j4 t180 else armoirelaw15_ReadsApart.j4 false) else (if t5 = true then (if a1.kind ≠ 7 then armoirelaw15_ReadsApart.j6 true else (reads_Meet.f a0 a1).bind fun t234 => armoirelaw15_ReadsApart.j6 t234) else armoirelaw15_ReadsApart.j5 false))
def armoirelaw15_ReadsApart.j0 (a0 : api_Touch) (a1 : api_Touch) (t5 : (Bool)) (b29 : Bool) : Option (Bool) :=
  (if b29 = true then (if t5 = true then (reads_Meet.f a0 a1).bind fun t73 => armoirelaw15_ReadsApart.j1 (!t73) else armoirelaw15_ReadsApart.j1 false) else (if a0.ino ≠ a1.ino then (if t5 = true then (reads_Meet.f a0 a1).bind fun t123 => armoirelaw15_ReadsApart.j2 (!t123) else armoirelaw15_ReadsApart.j2 false) else (if a0 = a1 then armoirelaw15_ReadsApart.j3 a0 a1 t5 (decide (a0.kind ≠ 6)) else armoirelaw15_ReadsApart.j3 a0 a1 t5 false)))
def armoirelaw15_ReadsApart.f (a0 : api_Touch) (a1 : api_Touch) : Option (Bool) :=
  (armoirelaw15_live.f).bind fun t5 => (reads_Check.f a0).bind fun t13 => (if t13 ≠ 0 then armoirelaw15_ReadsApart.j0 a0 a1 t5 true else (reads_Check.f a1).bind fun t250 => armoirelaw15_ReadsApart.j0 a0 a1 t5 (decide (t250 ≠ 0)))
end Go.Proofs.Ytpiliblfmpgjeaa
