/- Own text, printed by wip/g2: the walks. -/
import Derived.Test.YtpffemcpfddjbaaAw4
namespace Go.Proofs.Ytpffemcpfddjbaa
open Go K
set_option linter.unusedVariables false
set_option maxHeartbeats 1000000
def armoirelaw06_FreeGoes.reg6_28 (B : List (Nat × Value)) : Reg := ⟨[[], [], [1], [0, 2], [], [], [5], [4, 6, 3], [3, 7], [8, 7, 0, 1, 2, 3, 4, 5, 6, 7, 8]], [some 126, some 127, some 128, some 129, some 130, some 131, some 132, some 133, some 134, some 18], B⟩
theorem armoirelaw06_FreeGoes.reg6_28_ap (B : List (Nat × Value)) : (armoirelaw06_FreeGoes.reg6_28 B).apart = true := rfl
def armoirelaw06_FreeGoes.reg6_30 (B : List (Nat × Value)) : Reg := ⟨[[], [], [1], [0, 2], [], [], [5], [4, 6, 3], [3, 7], [8, 7, 0, 1, 2, 3, 4, 5, 6, 7, 8]], [some 137, some 138, some 139, some 140, some 141, some 142, some 143, some 144, some 145, some 18], B⟩
theorem armoirelaw06_FreeGoes.reg6_30_ap (B : List (Nat × Value)) : (armoirelaw06_FreeGoes.reg6_30 B).apart = true := rfl
def armoirelaw06_FreeGoes.reg6_33 (B : List (Nat × Value)) : Reg := ⟨[[], [], [1], [0, 2], [], [], [5], [4, 6, 3], [3, 7], [8, 7, 0, 1, 2, 3, 4, 5, 6, 7, 8]], [some 152, some 153, some 154, some 155, some 156, some 157, some 158, some 159, some 160, some 18], B⟩
theorem armoirelaw06_FreeGoes.reg6_33_ap (B : List (Nat × Value)) : (armoirelaw06_FreeGoes.reg6_33 B).apart = true := rfl
def armoirelaw06_FreeGoes.reg8_10 (B : List (Nat × Value)) : Reg := ⟨[[], [0], [1], [2], [], [], [4, 5], [3, 6, 0, 1, 2, 3, 4, 5, 6], [7, 0, 1, 2, 3, 4, 5, 6]], [some 52, some 53, some 54, some 55, some 56, some 57, some 58, some 59, none], B⟩
theorem armoirelaw06_FreeGoes.reg8_10_ap (B : List (Nat × Value)) : (armoirelaw06_FreeGoes.reg8_10 B).apart = true := rfl
def armoirelaw06_FreeGoes.reg8_8 (B : List (Nat × Value)) : Reg := ⟨[[], [0], [1], [2], [], [], [4, 5], [3, 6], [7], [8]], [some 42, some 43, some 44, some 45, some 46, some 47, some 48, some 49, some 50, some 51], B⟩
theorem armoirelaw06_FreeGoes.reg8_8_ap (B : List (Nat × Value)) : (armoirelaw06_FreeGoes.reg8_8 B).apart = true := rfl
def armoirelaw06_FreeGoes.reg8_4 (B : List (Nat × Value)) : Reg := ⟨[[], [], [], [1, 2], [3, 3], [0, 4], [5], [6, 0, 1, 2, 3, 4, 5, 6]], [some 29, some 30, some 31, some 32, some 33, some 34, some 35, some 9], B⟩
theorem armoirelaw06_FreeGoes.reg8_4_ap (B : List (Nat × Value)) : (armoirelaw06_FreeGoes.reg8_4 B).apart = true := rfl
def armoirelaw06_FreeGoes.ds8_4 : List (List Nat) := [[], [], [], [1, 2], [3, 3], [0, 4], [5], [6, 0, 1, 2, 3, 4, 5, 6]]
set_option maxRecDepth 20000 in
theorem armoirelaw06_FreeGoes.ok {O : World} {H : PH} {Fr : List Res} (a0 : Int) (a1 : Int) (a2 : (List Int)) (A2 : Option Addr) (n2 : Nat) (F2 : SlR (Kd.int .i64) H A2 n2 a2) (a3 : (List S_armoirelaw06_Op)) (A3 : Option Addr) (n3 : Nat) (F3 : SlR K_S_armoirelaw06_Op H A3 n3 a3) {r : Bool} (h : armoirelaw06_FreeGoes.f a0 a1 a2 a3 = some r) :
    CtrS Try.prog 6 [.int .i64 a0, .int .i64 a1, .slice A2 a2.length n2, .slice A3 a3.length n3] O H (Fr) (fun v L' => v = .bool r ∧ Fr = L') := by
  refine CtrS.start (n := 187) Try.func6 rfl Try.ntmps6 rfl rfl ?_
  unfold armoirelaw06_FreeGoes.f at h
  refine G.seq ?_
  refine G.region (l := [0]) rfl ?_
  refine G.assign rfl rfl rfl rfl ?_
  refine G.regionEnd ?_
  refine G.seq ?_
  refine G.region (l := [0, 1]) rfl ?_
  obtain ⟨t1, e2, h⟩ := bindS h
  refine G.callS rfl rfl rfl rfl call7 (armoirelaw06_live.ok  e2) ?_
  rintro v3 L4 ⟨rfl, rfl⟩
  refine G.assign rfl rfl rfl rfl ?_
  refine G.regionEnd ?_
  refine G.seq ?_
  refine G.region (l := [0, 1, 2]) rfl ?_
  refine G.move rfl rfl rfl rfl ?_
  refine G.osNil 3 (Kd.int .i64) ?_
  obtain ⟨k9, h⟩ := guardS h
  refine G.append (df := (Kd.int .i64)) (xs := ([] : List Int)) (ys := a2) (z0 := 0) (z := .int .i64 0) (cz := ([.int .i64 0] : List Value)) rfl rfl rfl rfl rfl rfl el28 Try.underlying28 rfl (by kernel_rfl) rfl (rfl) (fun w hs => SrcR.ro F2 hs) ⟨by omega, by omega⟩ ?_
  intro B6 c7
  refine G.assign rfl rfl rfl rfl ?_
  refine G.regionEnd ?_
  refine G.seq ?_
  refine G.region (l := [0, 1, 2, 3, 4, 5, 6, 7, 8]) rfl ?_
  refine G.move rfl rfl rfl rfl ?_
  refine G.move rfl rfl rfl rfl ?_
  refine G.move rfl rfl rfl rfl ?_
  refine G.rest (l1 := [3]) (l2 := [4, 5, 6, 7, 8]) (fun GG K => ∀ (x283 : Int), armoirelaw06_FreeGoes.j0 a0 a1 a2 t1 x283 = some r → GG H [(0, .int .i64 a0), (1, .int .i64 a1), (2, .slice A2 a2.length n2), (3, .slice A3 a3.length n3), (9, .bool t1), (10, .slice B6 ((([] : List Int) ++ a2).length) c7), (35, .tuple #[.pointer none, .int .i64 x283])] (OS 3 (Kd.int .i64) B6 c7 (([] : List Int) ++ a2) :: Fr) K) ?_ ?_
  · intro x283 h
    unfold armoirelaw06_FreeGoes.j0 at h
    refine G.move rfl rfl rfl rfl ?_
    refine G.extract rfl rfl rfl rfl rfl ?_
    refine G.extract rfl rfl rfl rfl rfl ?_
    refine G.assign rfl rfl rfl rfl ?_
    refine G.assign rfl rfl rfl rfl ?_
    refine G.regionEnd ?_
    refine G.seq ?_
    refine G.region (l := [0, 1, 2, 3, 4, 5, 6, 7, 8]) rfl ?_
    refine G.move rfl rfl rfl rfl ?_
    refine G.move rfl rfl rfl rfl ?_
    refine G.move rfl rfl rfl rfl ?_
    refine G.rest (l1 := [3]) (l2 := [4, 5, 6, 7, 8]) (fun GG K => ∀ (x462 : Int), armoirelaw06_FreeGoes.j1 a2 t1 x283 x462 = some r → GG H [(3, .slice A3 a3.length n3), (9, .bool t1), (10, .slice B6 ((([] : List Int) ++ a2).length) c7), (11, .pointer none), (12, .int .i64 x283), (42, .tuple #[.pointer none, .int .i64 x462])] (OS 3 (Kd.int .i64) B6 c7 (([] : List Int) ++ a2) :: Fr) K) ?_ ?_
    · intro x462 h
      unfold armoirelaw06_FreeGoes.j1 at h
      refine G.move rfl rfl rfl rfl ?_
      refine G.extract rfl rfl rfl rfl rfl ?_
      refine G.extract rfl rfl rfl rfl rfl ?_
      refine G.assign rfl rfl rfl rfl ?_
      refine G.assign rfl rfl rfl rfl ?_
      refine G.regionEnd ?_
      refine G.seq ?_
      refine G.seq ?_
      refine G.region (l := [0, 1, 2]) rfl ?_
      refine G.move rfl rfl rfl rfl ?_
      refine G.len (m := ((([] : List Int) ++ a2).length)) rfl rfl rfl rfl Try.underlying28 ?_
      refine G.move rfl rfl rfl rfl ?_
      refine G.regionEnd ?_
      refine G.block ?_
      refine G.loop (fun GG K => ∀ (d485 : Nat) (x473 : (List Int)) (x474 : Int), armoirelaw06_FreeGoes.l0 a2 t1 x283 x462 d485 x473 x474 = some r → GG H [(3, .slice A3 a3.length n3), (9, .bool t1), (10, .slice B6 x473.length c7), (11, .pointer none), (12, .int .i64 x283), (13, .pointer none), (14, .int .i64 x462), (46, .int .i64 (((([] : List Int) ++ a2).length) : Int)), (47, .int .i64 x474)] (OS 3 (Kd.int .i64) B6 c7 x473 :: Fr) K) ?_ ?_
      · intro d485
        induction d485 with
        | zero => intro x473 x474 h; rw [armoirelaw06_FreeGoes.l0] at h; cases h
        | succ d485 ih484 =>
          intro x473 x474 h
          rw [armoirelaw06_FreeGoes.l0] at h
          refine G.seq ?_
          refine G.region (l := [0]) rfl ?_
          refine G.cmp (x474 < (((([] : List Int) ++ a2).length) : Int)) rfl rfl rfl rfl rfl rfl Iff.rfl ?_
          refine G.regionEnd ?_
          refine G.seq ?_
          refine G.condP rfl (fun k495 => ?_) (fun k495 => ?_)
          · replace h := ifT h k495
            refine G.skip ?_
            refine G.seq ?_
            refine G.block ?_
            refine G.seq ?_
            refine G.region (l := [0, 1]) rfl ?_
            refine G.move rfl rfl rfl rfl ?_
            refine G.assign rfl rfl rfl rfl ?_
            refine G.regionEnd ?_
            refine G.region (l := [0, 1, 2, 3]) rfl ?_
            refine G.move rfl rfl rfl rfl ?_
            refine G.move rfl rfl rfl rfl ?_
            obtain ⟨k491, h⟩ := guardS h
            have q490 : x474.toNat < x473.length := by omega
            refine G.indexO (xs := x473) (j := x474) (off := x474.toNat * 1) rfl rfl rfl rfl rfl el28 (r := 0) rfl (by simp) k491 rfl ?_
            refine G.storeO (df := (Kd.int .i64)) (y := (-7)) (hj := q490) (xs' := x473.set x474.toNat (-7)) rfl rfl rfl rfl (Lens.id _ _) (by first | rfl | simp) ⟨([.int .i64 (-7)] : List Value), rfl, rfl⟩ sz3 rfl ?_
            refine G.regionEnd ?_
            refine G.inBlock ?_
            refine G.region (l := [0, 1]) rfl ?_
            refine G.bin (m := x474) (n := 1) (r := wi64 (x474 + 1)) rfl rfl rfl rfl rfl rfl rfl ?_
            refine G.move rfl rfl rfl rfl ?_
            refine G.regionEnd ?_
            refine G.round ?_
            refine G.same (d := 10) (v := .slice B6 ((x473.set x474.toNat (-7)).length) c7) rfl (by first | (simp; done) | (simp; omega)) ?_
            refine G.less ?_ (ih484  (x473.set x474.toNat (-7)) (wi64 (x474 + 1)) h)
            exact ⟨rfl, rfl, rfl, rfl, rfl, rfl, rfl, rfl, rfl, trivial⟩
          · replace h := ifF h k495
            refine G.exit rfl ?_
            refine G.seq ?_
            refine G.seq ?_
            refine G.region (l := [0, 1, 2, 3, 4, 5, 6, 7, 8, 9]) rfl ?_
            refine G.move rfl rfl rfl rfl ?_
            refine G.move rfl rfl rfl rfl ?_
            refine G.cmp (x283 ≠ x462) rfl rfl rfl rfl rfl rfl Iff.rfl ?_
            refine G.move rfl rfl rfl rfl ?_
            refine G.splitP (d := 57) rfl (fun k494 => ?_) (fun k494 => ?_)
            · replace h := ifT h k494
              refine G.unwanted rfl rfl rfl rfl ?_
              refine G.unwanted rfl rfl rfl rfl ?_
              refine G.unwanted rfl rfl rfl rfl ?_
              refine G.unwanted rfl rfl rfl rfl ?_
              refine G.unwanted rfl rfl rfl rfl ?_
              refine G.pickT rfl rfl rfl rfl rfl ?_
              refine G.regionEnd ?_
              refine G.condT rfl ?_
              refine G.seq ?_
              refine G.region (l := [0]) rfl ?_
              refine G.assign rfl rfl rfl rfl ?_
              refine G.regionEnd ?_
              refine G.drop ?_
              obtain rfl := Option.some.inj h
              exact G.ret1 Try.func6 rfl rfl (fun w hs => ⟨_, _, rfl, ⟨rfl, rfl⟩, hs⟩)
            · replace h := ifF h k494
              refine G.move rfl rfl rfl rfl ?_
              refine G.eqPtr (a := none) (b := none) (r := true) rfl rfl rfl rfl rfl Try.underlying24 (by simp) ?_
              refine G.move rfl rfl rfl rfl ?_
              refine G.eqPtr (a := none) (b := none) (r := true) rfl rfl rfl rfl rfl Try.underlying42 (by simp) ?_
              refine G.cmpBn (a := true) (b := true) (r := false) rfl rfl rfl rfl rfl Try.underlying4 rfl ?_
              refine G.pickF rfl rfl rfl rfl rfl ?_
              refine G.regionEnd ?_
              refine G.condF rfl ?_
              refine G.skip ?_
              refine G.seq ?_
              refine G.seq ?_
              refine G.region (l := [0, 1, 2, 3, 4, 5, 6]) rfl ?_
              refine G.move rfl rfl rfl rfl ?_
              refine G.eqPtr (a := none) (b := none) (r := true) rfl rfl rfl rfl rfl Try.underlying24 (by simp) ?_
              refine G.move rfl rfl rfl rfl ?_
              refine G.unwanted rfl rfl rfl rfl ?_
              refine G.unwanted rfl rfl rfl rfl ?_
              refine G.unwanted rfl rfl rfl rfl ?_
              refine G.pickT rfl rfl rfl rfl rfl ?_
              refine G.regionEnd ?_
              refine G.condT rfl ?_
              refine G.seq ?_
              refine G.region (l := [0, 1]) rfl ?_
              refine G.move rfl rfl rfl rfl ?_
              refine G.assign rfl rfl rfl rfl ?_
              refine G.regionEnd ?_
              refine G.drop ?_
              obtain rfl := Option.some.inj h
              exact G.ret1 Try.func6 rfl rfl (fun w hs => ⟨_, _, rfl, ⟨rfl, rfl⟩, hs⟩)
      intro J496
      refine G.less ?_ (J496 FUEL  (([] : List Int) ++ a2) 0 h)
      exact ⟨rfl, rfl, rfl, rfl, rfl, rfl, rfl, rfl, rfl, trivial⟩
    intro J497
    refine G.rest (l1 := [3]) (l2 := [4, 5, 6, 7, 8]) (fun GG K => ∀ (g499 : Nat) (B501 : Option Addr) (c502 : Nat) (x503 : (List Int)), armoirelaw06_FreeGoes.j2 a2 x283 x503 = some r → GG H [(3, .slice A3 a3.length n3), (9, .bool t1), (10, .slice B6 ((([] : List Int) ++ a2).length) c7), (11, .pointer none), (12, .int .i64 x283), (42, .tuple #[.pointer (some ⟨g499, 0, none⟩), .int .i64 0])] (OS 3 (Kd.int .i64) B6 c7 (([] : List Int) ++ a2) :: OS 3 (Kd.int .i64) B501 c502 x503 :: BK 59 K_R_armoireref06_Map g499 (R_armoireref06_Map.mk a0 (B501, x503.length, c502)) :: Fr) K) ?_ ?_
    · intro g499 B501 c502 x503 h
      unfold armoirelaw06_FreeGoes.j2 at h
      refine G.move rfl rfl rfl rfl ?_
      refine G.extract rfl rfl rfl rfl rfl ?_
      refine G.extract rfl rfl rfl rfl rfl ?_
      refine G.assign rfl rfl rfl rfl ?_
      refine G.assign rfl rfl rfl rfl ?_
      refine G.regionEnd ?_
      refine G.seq ?_
      refine G.seq ?_
      refine G.region (l := [0, 1, 2]) rfl ?_
      refine G.move rfl rfl rfl rfl ?_
      refine G.len (m := ((([] : List Int) ++ a2).length)) rfl rfl rfl rfl Try.underlying28 ?_
      refine G.move rfl rfl rfl rfl ?_
      refine G.regionEnd ?_
      refine G.block ?_
      refine G.loop (fun GG K => ∀ (d518 : Nat) (x510 : (List Int)) (x511 : Int), armoirelaw06_FreeGoes.l1 a2 x283 d518 x510 x511 = some r → GG H [(3, .slice A3 a3.length n3), (9, .bool t1), (10, .slice B6 x510.length c7), (11, .pointer none), (12, .int .i64 x283), (13, .pointer (some ⟨g499, 0, none⟩)), (14, .int .i64 0), (46, .int .i64 (((([] : List Int) ++ a2).length) : Int)), (47, .int .i64 x511)] (OS 3 (Kd.int .i64) B6 c7 x510 :: OS 3 (Kd.int .i64) B501 c502 x503 :: BK 59 K_R_armoireref06_Map g499 (R_armoireref06_Map.mk a0 (B501, x503.length, c502)) :: Fr) K) ?_ ?_
      · intro d518
        induction d518 with
        | zero => intro x510 x511 h; rw [armoirelaw06_FreeGoes.l1] at h; cases h
        | succ d518 ih517 =>
          intro x510 x511 h
          rw [armoirelaw06_FreeGoes.l1] at h
          refine G.seq ?_
          refine G.region (l := [0]) rfl ?_
          refine G.cmp (x511 < (((([] : List Int) ++ a2).length) : Int)) rfl rfl rfl rfl rfl rfl Iff.rfl ?_
          refine G.regionEnd ?_
          refine G.seq ?_
          refine G.condP rfl (fun k524 => ?_) (fun k524 => ?_)
          · replace h := ifT h k524
            refine G.skip ?_
            refine G.seq ?_
            refine G.block ?_
            refine G.seq ?_
            refine G.region (l := [0, 1]) rfl ?_
            refine G.move rfl rfl rfl rfl ?_
            refine G.assign rfl rfl rfl rfl ?_
            refine G.regionEnd ?_
            refine G.region (l := [0, 1, 2, 3]) rfl ?_
            refine G.move rfl rfl rfl rfl ?_
            refine G.move rfl rfl rfl rfl ?_
            obtain ⟨k522, h⟩ := guardS h
            have q521 : x511.toNat < x510.length := by omega
            refine G.indexO (xs := x510) (j := x511) (off := x511.toNat * 1) rfl rfl rfl rfl rfl el28 (r := 0) rfl (by simp) k522 rfl ?_
            refine G.storeO (df := (Kd.int .i64)) (y := (-7)) (hj := q521) (xs' := x510.set x511.toNat (-7)) rfl rfl rfl rfl (Lens.id _ _) (by first | rfl | simp) ⟨([.int .i64 (-7)] : List Value), rfl, rfl⟩ sz3 rfl ?_
            refine G.regionEnd ?_
            refine G.inBlock ?_
            refine G.region (l := [0, 1]) rfl ?_
            refine G.bin (m := x511) (n := 1) (r := wi64 (x511 + 1)) rfl rfl rfl rfl rfl rfl rfl ?_
            refine G.move rfl rfl rfl rfl ?_
            refine G.regionEnd ?_
            refine G.round ?_
            refine G.same (d := 10) (v := .slice B6 ((x510.set x511.toNat (-7)).length) c7) rfl (by first | (simp; done) | (simp; omega)) ?_
            refine G.frontAt 2 rfl ?_
            refine G.frontAt 2 rfl ?_
            refine G.frontAt 2 rfl ?_
            refine G.less ?_ (ih517  (x510.set x511.toNat (-7)) (wi64 (x511 + 1)) h)
            exact ⟨rfl, rfl, rfl, rfl, rfl, rfl, rfl, rfl, rfl, trivial⟩
          · replace h := ifF h k524
            refine G.exit rfl ?_
            refine G.seq ?_
            refine G.seq ?_
            refine G.region (l := [0, 1, 2, 3, 4, 5, 6, 7, 8, 9]) rfl ?_
            refine G.move rfl rfl rfl rfl ?_
            refine G.move rfl rfl rfl rfl ?_
            refine G.cmp (x283 ≠ 0) rfl rfl rfl rfl rfl rfl Iff.rfl ?_
            refine G.move rfl rfl rfl rfl ?_
            refine G.splitP (d := 57) rfl (fun k523 => ?_) (fun k523 => ?_)
            · replace h := ifT h k523
              refine G.unwanted rfl rfl rfl rfl ?_
              refine G.unwanted rfl rfl rfl rfl ?_
              refine G.unwanted rfl rfl rfl rfl ?_
              refine G.unwanted rfl rfl rfl rfl ?_
              refine G.unwanted rfl rfl rfl rfl ?_
              refine G.pickT rfl rfl rfl rfl rfl ?_
              refine G.regionEnd ?_
              refine G.condT rfl ?_
              refine G.seq ?_
              refine G.region (l := [0]) rfl ?_
              refine G.assign rfl rfl rfl rfl ?_
              refine G.regionEnd ?_
              refine G.drop ?_
              refine G.drop ?_
              refine G.drop ?_
              obtain rfl := Option.some.inj h
              exact G.ret1 Try.func6 rfl rfl (fun w hs => ⟨_, _, rfl, ⟨rfl, rfl⟩, hs⟩)
            · replace h := ifF h k523
              refine G.move rfl rfl rfl rfl ?_
              refine G.eqPtr (a := none) (b := none) (r := true) rfl rfl rfl rfl rfl Try.underlying24 (by simp) ?_
              refine G.move rfl rfl rfl rfl ?_
              refine G.eqPtr (a := (some ⟨g499, 0, none⟩)) (b := none) (r := false) rfl rfl rfl rfl rfl Try.underlying42 (by simp) ?_
              refine G.cmpBn (a := true) (b := false) (r := true) rfl rfl rfl rfl rfl Try.underlying4 rfl ?_
              refine G.pickF rfl rfl rfl rfl rfl ?_
              refine G.regionEnd ?_
              refine G.condT rfl ?_
              refine G.seq ?_
              refine G.region (l := [0]) rfl ?_
              refine G.assign rfl rfl rfl rfl ?_
              refine G.regionEnd ?_
              refine G.drop ?_
              refine G.drop ?_
              refine G.drop ?_
              obtain rfl := Option.some.inj h
              exact G.ret1 Try.func6 rfl rfl (fun w hs => ⟨_, _, rfl, ⟨rfl, rfl⟩, hs⟩)
      intro J525
      refine G.frontAt 2 rfl ?_
      refine G.frontAt 2 rfl ?_
      refine G.frontAt 2 rfl ?_
      refine G.less ?_ (J525 FUEL  (([] : List Int) ++ a2) 0 h)
      exact ⟨rfl, rfl, rfl, rfl, rfl, rfl, rfl, rfl, rfl, trivial⟩
    intro J526
    refine G.inl (n' := 72) rfl rfl rfl rfl call17 Try.func17 rfl Try.ntmps17 rfl rfl ?_
    intro R284 rt285
    refine G.seq ?_
    refine G.region (l := [0, 1]) rfl ?_
    refine G.assign rfl rfl rfl rfl ?_
    refine G.assign rfl rfl rfl rfl ?_
    refine G.regionEnd ?_
    refine G.seq ?_
    refine G.seq ?_
    refine G.region (l := [0, 1, 2, 3, 4, 5, 6, 7, 8, 9, 10]) rfl ?_
    refine G.move rfl rfl rfl rfl ?_
    refine G.cmp (a0 < 0) rfl rfl rfl rfl rfl rfl Iff.rfl ?_
    refine G.move rfl rfl rfl rfl ?_
    refine G.splitP (d := 15) rfl (fun k702 => ?_) (fun k702 => ?_)
    · replace h := ifT h k702
      refine G.unwanted rfl rfl rfl rfl ?_
      refine G.unwanted rfl rfl rfl rfl ?_
      refine G.unwanted rfl rfl rfl rfl ?_
      refine G.pickT rfl rfl rfl rfl rfl ?_
      refine G.move rfl rfl rfl rfl ?_
      refine G.unwanted rfl rfl rfl rfl ?_
      refine G.unwanted rfl rfl rfl rfl ?_
      refine G.pickT rfl rfl rfl rfl rfl ?_
      refine G.regionEnd ?_
      refine G.condT rfl ?_
      refine G.seq ?_
      refine G.region (l := [0, 1]) rfl ?_
      refine G.assign rfl rfl rfl rfl ?_
      refine G.assign rfl rfl rfl rfl ?_
      refine G.regionEnd ?_
      refine G.retN (rs := [.tmp 6, .tmp 7]) Try.func17 rfl rfl rfl (rt285 _ _ _ ?_)
      refine G.less ?_ (J497  1 h)
      exact ⟨rfl, rfl, rfl, rfl, rfl, rfl, trivial⟩
    · replace h := ifF h k702
      refine G.move rfl rfl rfl rfl ?_
      refine G.move rfl rfl rfl rfl ?_
      refine G.cmp (a1 ≤ a0) rfl rfl rfl rfl rfl rfl Iff.rfl ?_
      refine G.pickF rfl rfl rfl rfl rfl ?_
      refine G.move rfl rfl rfl rfl ?_
      refine G.splitP (d := 20) rfl (fun k701 => ?_) (fun k701 => ?_)
      · replace h := ifT h k701
        refine G.unwanted rfl rfl rfl rfl ?_
        refine G.unwanted rfl rfl rfl rfl ?_
        refine G.pickT rfl rfl rfl rfl rfl ?_
        refine G.regionEnd ?_
        refine G.condT rfl ?_
        refine G.seq ?_
        refine G.region (l := [0, 1]) rfl ?_
        refine G.assign rfl rfl rfl rfl ?_
        refine G.assign rfl rfl rfl rfl ?_
        refine G.regionEnd ?_
        refine G.retN (rs := [.tmp 6, .tmp 7]) Try.func17 rfl rfl rfl (rt285 _ _ _ ?_)
        refine G.less ?_ (J497  1 h)
        exact ⟨rfl, rfl, rfl, rfl, rfl, rfl, trivial⟩
      · replace h := ifF h k701
        refine G.move rfl rfl rfl rfl ?_
        refine G.cmp (1024 < a1) rfl rfl rfl rfl rfl rfl Iff.rfl ?_
        refine G.pickF rfl rfl rfl rfl rfl ?_
        refine G.regionEnd ?_
        refine G.condP rfl (fun k700 => ?_) (fun k700 => ?_)
        · replace h := ifT h k700
          refine G.seq ?_
          refine G.region (l := [0, 1]) rfl ?_
          refine G.assign rfl rfl rfl rfl ?_
          refine G.assign rfl rfl rfl rfl ?_
          refine G.regionEnd ?_
          refine G.retN (rs := [.tmp 6, .tmp 7]) Try.func17 rfl rfl rfl (rt285 _ _ _ ?_)
          refine G.less ?_ (J497  1 h)
          exact ⟨rfl, rfl, rfl, rfl, rfl, rfl, trivial⟩
        · replace h := ifF h k700
          refine G.skip ?_
          refine G.seq ?_
          refine G.seq ?_
          refine G.region (l := [0, 1, 2]) rfl ?_
          refine G.move rfl rfl rfl rfl ?_
          refine G.len (m := a2.length) rfl rfl rfl rfl Try.underlying28 ?_
          refine G.move rfl rfl rfl rfl ?_
          refine G.regionEnd ?_
          refine G.block ?_
          refine G.loop (fun GG K => ∀ (d613 : Nat) (x527 : Int), armoirelaw06_FreeGoes.l2 a0 a1 a2 t1 x283 d613 x527 = some r → GG H [(0, .int .i64 a0), (1, .int .i64 a1), (2, .slice A2 a2.length n2), (24, .slice A2 a2.length n2), (25, .int .i64 (a2.length : Int)), (26, .int .i64 x527)] (OS 3 (Kd.int .i64) B6 c7 (([] : List Int) ++ a2) :: Fr) K) ?_ ?_
          · intro d613
            induction d613 with
            | zero => intro x527 h; rw [armoirelaw06_FreeGoes.l2] at h; cases h
            | succ d613 ih612 =>
              intro x527 h
              rw [armoirelaw06_FreeGoes.l2] at h
              refine G.seq ?_
              refine G.region (l := [0]) rfl ?_
              refine G.cmp (x527 < (a2.length : Int)) rfl rfl rfl rfl rfl rfl Iff.rfl ?_
              refine G.regionEnd ?_
              refine G.seq ?_
              refine G.condP rfl (fun k698 => ?_) (fun k698 => ?_)
              · replace h := ifT h k698
                refine G.skip ?_
                refine G.seq ?_
                refine G.block ?_
                refine G.seq ?_
                refine G.region (l := [0, 1, 2]) rfl ?_
                obtain ⟨k656, h⟩ := guardS h
                refine G.indexR (xs := a2) (j := x527) 0 rfl rfl rfl rfl rfl el28 F2 k656 ?_
                intro a654 f655
                refine G.loadI (y := a2.getD x527.toNat 0) rfl rfl rfl rfl ty3 (fun w hs => Rd.ro f655 hs) ?_
                refine G.assign rfl rfl rfl rfl ?_
                refine G.regionEnd ?_
                refine G.seq ?_
                refine G.region (l := [0, 1, 2, 3, 4, 5, 6, 7]) rfl ?_
                refine G.move rfl rfl rfl rfl ?_
                refine G.move rfl rfl rfl rfl ?_
                refine G.cmp ((a2.getD x527.toNat 0) < a0) rfl rfl rfl rfl rfl rfl Iff.rfl ?_
                refine G.move rfl rfl rfl rfl ?_
                refine G.splitP (d := 33) rfl (fun k658 => ?_) (fun k658 => ?_)
                · replace h := ifT h k658
                  refine G.unwanted rfl rfl rfl rfl ?_
                  refine G.unwanted rfl rfl rfl rfl ?_
                  refine G.unwanted rfl rfl rfl rfl ?_
                  refine G.pickT rfl rfl rfl rfl rfl ?_
                  refine G.regionEnd ?_
                  refine G.condT rfl ?_
                  refine G.seq ?_
                  refine G.region (l := [0, 1]) rfl ?_
                  refine G.assign rfl rfl rfl rfl ?_
                  refine G.assign rfl rfl rfl rfl ?_
                  refine G.regionEnd ?_
                  refine G.retN (rs := [.tmp 6, .tmp 7]) Try.func17 rfl rfl rfl (rt285 _ _ _ ?_)
                  refine G.less ?_ (J497  1 h)
                  exact ⟨rfl, rfl, rfl, rfl, rfl, rfl, trivial⟩
                · replace h := ifF h k658
                  refine G.move rfl rfl rfl rfl ?_
                  refine G.move rfl rfl rfl rfl ?_
                  refine G.cmp (a1 ≤ (a2.getD x527.toNat 0)) rfl rfl rfl rfl rfl rfl Iff.rfl ?_
                  refine G.pickF rfl rfl rfl rfl rfl ?_
                  refine G.regionEnd ?_
                  refine G.condP rfl (fun k657 => ?_) (fun k657 => ?_)
                  · replace h := ifT h k657
                    refine G.seq ?_
                    refine G.region (l := [0, 1]) rfl ?_
                    refine G.assign rfl rfl rfl rfl ?_
                    refine G.assign rfl rfl rfl rfl ?_
                    refine G.regionEnd ?_
                    refine G.retN (rs := [.tmp 6, .tmp 7]) Try.func17 rfl rfl rfl (rt285 _ _ _ ?_)
                    refine G.less ?_ (J497  1 h)
                    exact ⟨rfl, rfl, rfl, rfl, rfl, rfl, trivial⟩
                  · replace h := ifF h k657
                    refine G.skip ?_
                    refine G.inBlock ?_
                    refine G.region (l := [0, 1]) rfl ?_
                    refine G.bin (m := x527) (n := 1) (r := wi64 (x527 + 1)) rfl rfl rfl rfl rfl rfl rfl ?_
                    refine G.move rfl rfl rfl rfl ?_
                    refine G.regionEnd ?_
                    refine G.round ?_
                    refine G.less ?_ (ih612  (wi64 (x527 + 1)) h)
                    exact ⟨rfl, rfl, rfl, rfl, rfl, rfl, trivial⟩
              · replace h := ifF h k698
                refine G.exit rfl ?_
                refine G.seq ?_
                refine G.region (l := [0, 1, 2, 3, 4, 5, 6, 7]) rfl ?_
                refine G.move rfl rfl rfl rfl ?_
                refine G.move rfl rfl rfl rfl ?_
                refine G.move rfl rfl rfl rfl ?_
                refine G.bin (m := a1) (n := a0) (r := wi64 (a1 - a0)) rfl rfl rfl rfl rfl rfl rfl ?_
                obtain ⟨k661, h⟩ := guardS h
                refine G.makeSlice (df := (Kd.int .i64)) (z0 := 0) (m := wi64 (a1 - a0)) (c := wi64 (a1 - a0)) (z := .int .i64 0) (cz := ([.int .i64 0] : List Value)) rfl rfl rfl rfl rfl el28 (by kernel_rfl) rfl (rfl) rfl k661 ?_
                intro B659
                refine G.same (d := 43) (v := .slice B659 ((List.replicate ((wi64 (a1 - a0)).toNat) 0 : List Int).length) ((wi64 (a1 - a0)).toNat)) rfl (by first | (simp; done) | (simp; omega)) ?_
                refine G.build (z := .agg (([.int .i64 0] : List Value) ++ (([.slice none 0 0] : List Value))).toArray) (pl := [(0, 1), (1, 1)]) (cs := ([.int .i64 a0] : List Value) ++ (([.slice B659 ((List.replicate ((wi64 (a1 - a0)).toNat) 0 : List Int).length) ((wi64 (a1 - a0)).toNat)] : List Value))) rfl rfl rfl Try.underlying59 (by kernel_rfl) rfl (by kernel_rfl) (by kernel_rfl) rfl ?_
                refine G.box (dk := K_R_armoireref06_Map) (y := (R_armoireref06_Map.mk a0 (B659, (List.replicate ((wi64 (a1 - a0)).toNat) 0 : List Int).length, ((wi64 (a1 - a0)).toNat)))) rfl rfl rfl rfl (VR.A (cs := ([.int .i64 a0] : List Value) ++ (([.slice B659 ((List.replicate ((wi64 (a1 - a0)).toNat) 0 : List Int).length) ((wi64 (a1 - a0)).toNat)] : List Value))) (K_R_armoireref06_Map.mk rfl rfl)) ?_
                intro g662
                refine G.assign rfl rfl rfl rfl ?_
                refine G.regionEnd ?_
                refine G.seq ?_
                refine G.seq ?_
                refine G.region (l := [0, 1, 2]) rfl ?_
                refine G.move rfl rfl rfl rfl ?_
                refine G.len (m := a2.length) rfl rfl rfl rfl Try.underlying28 ?_
                refine G.move rfl rfl rfl rfl ?_
                refine G.regionEnd ?_
                refine G.block ?_
                refine G.loop (fun GG K => ∀ (d686 : Nat) (x674 : (List Int)) (x675 : Int), armoirelaw06_FreeGoes.l3 a0 a2 t1 x283 d686 x674 x675 = some r → GG H [(0, .int .i64 a0), (10, .pointer (some ⟨g662, 0, none⟩)), (46, .slice A2 a2.length n2), (47, .int .i64 (a2.length : Int)), (48, .int .i64 x675)] (OS 3 (Kd.int .i64) B6 c7 (([] : List Int) ++ a2) :: OS 3 (Kd.int .i64) B659 ((wi64 (a1 - a0)).toNat) x674 :: BK 59 K_R_armoireref06_Map g662 (R_armoireref06_Map.mk a0 (B659, x674.length, ((wi64 (a1 - a0)).toNat))) :: Fr) K) ?_ ?_
                · intro d686
                  induction d686 with
                  | zero => intro x674 x675 h; rw [armoirelaw06_FreeGoes.l3] at h; cases h
                  | succ d686 ih685 =>
                    intro x674 x675 h
                    rw [armoirelaw06_FreeGoes.l3] at h
                    refine G.seq ?_
                    refine G.region (l := [0]) rfl ?_
                    refine G.cmp (x675 < (a2.length : Int)) rfl rfl rfl rfl rfl rfl Iff.rfl ?_
                    refine G.regionEnd ?_
                    refine G.seq ?_
                    refine G.condP rfl (fun k696 => ?_) (fun k696 => ?_)
                    · replace h := ifT h k696
                      refine G.skip ?_
                      refine G.seq ?_
                      refine G.block ?_
                      refine G.seq ?_
                      refine G.region (l := [0, 1, 2]) rfl ?_
                      obtain ⟨k690, h⟩ := guardS h
                      refine G.indexR (xs := a2) (j := x675) 0 rfl rfl rfl rfl rfl el28 F2 k690 ?_
                      intro a688 f689
                      refine G.loadI (y := a2.getD x675.toNat 0) rfl rfl rfl rfl ty3 (fun w hs => Rd.ro f689 hs) ?_
                      refine G.assign rfl rfl rfl rfl ?_
                      refine G.regionEnd ?_
                      refine G.seq ?_
                      refine G.seq ?_
                      refine G.region (l := [0, 1, 2, 3, 4, 5, 6, 7, 8, 9]) rfl ?_
                      refine G.move rfl rfl rfl rfl ?_
                      refine G.nilCheck rfl rfl rfl rfl ?_
                      refine G.field (off' := 1) rfl rfl rfl rfl Try.underlying59 rfl sz28 rfl rfl ?_
                      refine G.loadH (B := B659) (m := x674.length) (c := ((wi64 (a1 - a0)).toNat)) rfl rfl rfl rfl ty28r (fun w hs => Rd.bk (R_armoireref06_Map.L_k _) hs (j := 2) rfl) ?_
                      refine G.move rfl rfl rfl rfl ?_
                      refine G.move rfl rfl rfl rfl ?_
                      refine G.bin (m := a2.getD x675.toNat 0) (n := a0) (r := wi64 ((a2.getD x675.toNat 0) - a0)) rfl rfl rfl rfl rfl rfl rfl ?_
                      obtain ⟨k692, h⟩ := guardS h
                      have q691 : (wi64 ((a2.getD x675.toNat 0) - a0)).toNat < x674.length := by omega
                      refine G.indexO (xs := x674) (j := wi64 ((a2.getD x675.toNat 0) - a0)) (off := (wi64 ((a2.getD x675.toNat 0) - a0)).toNat * 1) rfl rfl rfl rfl rfl el28 (r := 1) rfl (by simp) k692 rfl ?_
                      refine G.loadI (y := x674.getD ((wi64 ((a2.getD x675.toNat 0) - a0)).toNat) 0) rfl rfl rfl rfl ty3 (fun w hs => Rd.osG q691 (Lens.id _ _) hs (j := 1) rfl (o := (wi64 ((a2.getD x675.toNat 0) - a0)).toNat * 1) (by first | rfl | simp)) ?_
                      refine G.cmp ((x674.getD ((wi64 ((a2.getD x675.toNat 0) - a0)).toNat) 0) = 1) rfl rfl rfl rfl rfl rfl Iff.rfl ?_
                      refine G.regionEnd ?_
                      refine G.condP rfl (fun k695 => ?_) (fun k695 => ?_)
                      · replace h := ifT h k695
                        refine G.seq ?_
                        refine G.region (l := [0, 1]) rfl ?_
                        refine G.assign rfl rfl rfl rfl ?_
                        refine G.assign rfl rfl rfl rfl ?_
                        refine G.regionEnd ?_
                        refine G.retN (rs := [.tmp 6, .tmp 7]) Try.func17 rfl rfl rfl (rt285 _ _ _ ?_)
                        refine G.frontAt 1 rfl ?_
                        refine G.drop ?_
                        refine G.frontAt 1 rfl ?_
                        refine G.drop ?_
                        refine G.less ?_ (J497  6 h)
                        exact ⟨rfl, rfl, rfl, rfl, rfl, rfl, trivial⟩
                      · replace h := ifF h k695
                        refine G.skip ?_
                        refine G.region (l := [0, 1, 2, 3, 4, 5, 6, 7, 8]) rfl ?_
                        refine G.move rfl rfl rfl rfl ?_
                        refine G.nilCheck rfl rfl rfl rfl ?_
                        refine G.field (off' := 1) rfl rfl rfl rfl Try.underlying59 rfl sz28 rfl rfl ?_
                        refine G.loadH (B := B659) (m := x674.length) (c := ((wi64 (a1 - a0)).toNat)) rfl rfl rfl rfl ty28r (fun w hs => Rd.bk (R_armoireref06_Map.L_k _) hs (j := 2) rfl) ?_
                        refine G.move rfl rfl rfl rfl ?_
                        refine G.move rfl rfl rfl rfl ?_
                        refine G.bin (m := a2.getD x675.toNat 0) (n := a0) (r := wi64 ((a2.getD x675.toNat 0) - a0)) rfl rfl rfl rfl rfl rfl rfl ?_
                        obtain ⟨k694, h⟩ := guardS h
                        have q693 : (wi64 ((a2.getD x675.toNat 0) - a0)).toNat < x674.length := by omega
                        refine G.indexO (xs := x674) (j := wi64 ((a2.getD x675.toNat 0) - a0)) (off := (wi64 ((a2.getD x675.toNat 0) - a0)).toNat * 1) rfl rfl rfl rfl rfl el28 (r := 1) rfl (by simp) k694 rfl ?_
                        refine G.frontAt 1 rfl ?_
                        refine G.storeO (df := (Kd.int .i64)) (y := 1) (hj := q693) (xs' := x674.set ((wi64 ((a2.getD x675.toNat 0) - a0)).toNat) 1) rfl rfl rfl rfl (Lens.id _ _) (by first | rfl | simp) ⟨([.int .i64 1] : List Value), rfl, rfl⟩ sz3 rfl ?_
                        refine G.regionEnd ?_
                        refine G.inBlock ?_
                        refine G.region (l := [0, 1]) rfl ?_
                        refine G.bin (m := x675) (n := 1) (r := wi64 (x675 + 1)) rfl rfl rfl rfl rfl rfl rfl ?_
                        refine G.move rfl rfl rfl rfl ?_
                        refine G.regionEnd ?_
                        refine G.round ?_
                        refine G.frontAt 2 rfl ?_
                        refine G.headEq (r' := BK 59 K_R_armoireref06_Map g662 (R_armoireref06_Map.mk a0 (B659, (x674.set ((wi64 ((a2.getD x675.toNat 0) - a0)).toNat) 1).length, ((wi64 (a1 - a0)).toNat)))) (by first | (simp; done) | (simp; omega)) ?_
                        refine G.frontAt 1 rfl ?_
                        refine G.frontAt 2 rfl ?_
                        refine G.less ?_ (ih685  (x674.set ((wi64 ((a2.getD x675.toNat 0) - a0)).toNat) 1) (wi64 (x675 + 1)) h)
                        exact ⟨rfl, rfl, rfl, rfl, rfl, trivial⟩
                    · replace h := ifF h k696
                      refine G.exit rfl ?_
                      refine G.seq ?_
                      refine G.region (l := [0, 1, 2]) rfl ?_
                      refine G.move rfl rfl rfl rfl ?_
                      refine G.assign rfl rfl rfl rfl ?_
                      refine G.assign rfl rfl rfl rfl ?_
                      refine G.regionEnd ?_
                      refine G.retN (rs := [.tmp 6, .tmp 7]) Try.func17 rfl rfl rfl (rt285 _ _ _ ?_)
                      refine G.frontAt 2 rfl ?_
                      refine G.frontAt 2 rfl ?_
                      refine G.frontAt 2 rfl ?_
                      refine G.less ?_ (J526  g662 B659 ((wi64 (a1 - a0)).toNat) x674 h)
                      exact ⟨rfl, rfl, rfl, rfl, rfl, rfl, trivial⟩
                intro J697
                refine G.frontAt 1 rfl ?_
                refine G.frontAt 2 rfl ?_
                refine G.less ?_ (J697 FUEL  (List.replicate ((wi64 (a1 - a0)).toNat) 0 : List Int) 0 h)
                exact ⟨rfl, rfl, rfl, rfl, rfl, trivial⟩
          intro J699
          refine G.less ?_ (J699 FUEL  0 h)
          exact ⟨rfl, rfl, rfl, rfl, rfl, rfl, trivial⟩
  intro J703
  refine G.rest (l1 := [3]) (l2 := [4, 5, 6, 7, 8]) (fun GG K => ∀ (g705 : Nat) (B707 : Option Addr) (c708 : Nat) (x709 : (List UInt8)), armoirelaw06_FreeGoes.j3 a0 a1 a2 a3 t1 x709 = some r → GG H [(0, .int .i64 a0), (1, .int .i64 a1), (2, .slice A2 a2.length n2), (3, .slice A3 a3.length n3), (9, .bool t1), (10, .slice B6 ((([] : List Int) ++ a2).length) c7), (35, .tuple #[.pointer (some ⟨g705, 0, none⟩), .int .i64 0])] (OS 3 (Kd.int .i64) B6 c7 (([] : List Int) ++ a2) :: OS 54 Kd.u8 B707 c708 x709 :: BK 53 K_R_free_Map g705 (R_free_Map.mk a0 (B707, x709.length, c708)) :: Fr) K) ?_ ?_
  · intro g705 B707 c708 x709 h
    unfold armoirelaw06_FreeGoes.j3 at h
    refine G.move rfl rfl rfl rfl ?_
    refine G.extract rfl rfl rfl rfl rfl ?_
    refine G.extract rfl rfl rfl rfl rfl ?_
    refine G.assign rfl rfl rfl rfl ?_
    refine G.assign rfl rfl rfl rfl ?_
    refine G.regionEnd ?_
    refine G.seq ?_
    refine G.region (l := [0, 1, 2, 3, 4, 5, 6, 7, 8]) rfl ?_
    refine G.move rfl rfl rfl rfl ?_
    refine G.move rfl rfl rfl rfl ?_
    refine G.move rfl rfl rfl rfl ?_
    refine G.rest (l1 := [3]) (l2 := [4, 5, 6, 7, 8]) (fun GG K => ∀ (x888 : Int), armoirelaw06_FreeGoes.j4 a2 x888 = some r → GG H [(3, .slice A3 a3.length n3), (9, .bool t1), (10, .slice B6 ((([] : List Int) ++ a2).length) c7), (11, .pointer (some ⟨g705, 0, none⟩)), (12, .int .i64 0), (42, .tuple #[.pointer none, .int .i64 x888])] (OS 3 (Kd.int .i64) B6 c7 (([] : List Int) ++ a2) :: OS 54 Kd.u8 B707 c708 x709 :: BK 53 K_R_free_Map g705 (R_free_Map.mk a0 (B707, x709.length, c708)) :: Fr) K) ?_ ?_
    · intro x888 h
      unfold armoirelaw06_FreeGoes.j4 at h
      refine G.move rfl rfl rfl rfl ?_
      refine G.extract rfl rfl rfl rfl rfl ?_
      refine G.extract rfl rfl rfl rfl rfl ?_
      refine G.assign rfl rfl rfl rfl ?_
      refine G.assign rfl rfl rfl rfl ?_
      refine G.regionEnd ?_
      refine G.seq ?_
      refine G.seq ?_
      refine G.region (l := [0, 1, 2]) rfl ?_
      refine G.move rfl rfl rfl rfl ?_
      refine G.len (m := ((([] : List Int) ++ a2).length)) rfl rfl rfl rfl Try.underlying28 ?_
      refine G.move rfl rfl rfl rfl ?_
      refine G.regionEnd ?_
      refine G.block ?_
      refine G.loop (fun GG K => ∀ (d903 : Nat) (x895 : (List Int)) (x896 : Int), armoirelaw06_FreeGoes.l4 a2 x888 d903 x895 x896 = some r → GG H [(3, .slice A3 a3.length n3), (9, .bool t1), (10, .slice B6 x895.length c7), (11, .pointer (some ⟨g705, 0, none⟩)), (12, .int .i64 0), (13, .pointer none), (14, .int .i64 x888), (46, .int .i64 (((([] : List Int) ++ a2).length) : Int)), (47, .int .i64 x896)] (OS 3 (Kd.int .i64) B6 c7 x895 :: OS 54 Kd.u8 B707 c708 x709 :: BK 53 K_R_free_Map g705 (R_free_Map.mk a0 (B707, x709.length, c708)) :: Fr) K) ?_ ?_
      · intro d903
        induction d903 with
        | zero => intro x895 x896 h; rw [armoirelaw06_FreeGoes.l4] at h; cases h
        | succ d903 ih902 =>
          intro x895 x896 h
          rw [armoirelaw06_FreeGoes.l4] at h
          refine G.seq ?_
          refine G.region (l := [0]) rfl ?_
          refine G.cmp (x896 < (((([] : List Int) ++ a2).length) : Int)) rfl rfl rfl rfl rfl rfl Iff.rfl ?_
          refine G.regionEnd ?_
          refine G.seq ?_
          refine G.condP rfl (fun k909 => ?_) (fun k909 => ?_)
          · replace h := ifT h k909
            refine G.skip ?_
            refine G.seq ?_
            refine G.block ?_
            refine G.seq ?_
            refine G.region (l := [0, 1]) rfl ?_
            refine G.move rfl rfl rfl rfl ?_
            refine G.assign rfl rfl rfl rfl ?_
            refine G.regionEnd ?_
            refine G.region (l := [0, 1, 2, 3]) rfl ?_
            refine G.move rfl rfl rfl rfl ?_
            refine G.move rfl rfl rfl rfl ?_
            obtain ⟨k907, h⟩ := guardS h
            have q906 : x896.toNat < x895.length := by omega
            refine G.indexO (xs := x895) (j := x896) (off := x896.toNat * 1) rfl rfl rfl rfl rfl el28 (r := 0) rfl (by simp) k907 rfl ?_
            refine G.storeO (df := (Kd.int .i64)) (y := (-7)) (hj := q906) (xs' := x895.set x896.toNat (-7)) rfl rfl rfl rfl (Lens.id _ _) (by first | rfl | simp) ⟨([.int .i64 (-7)] : List Value), rfl, rfl⟩ sz3 rfl ?_
            refine G.regionEnd ?_
            refine G.inBlock ?_
            refine G.region (l := [0, 1]) rfl ?_
            refine G.bin (m := x896) (n := 1) (r := wi64 (x896 + 1)) rfl rfl rfl rfl rfl rfl rfl ?_
            refine G.move rfl rfl rfl rfl ?_
            refine G.regionEnd ?_
            refine G.round ?_
            refine G.same (d := 10) (v := .slice B6 ((x895.set x896.toNat (-7)).length) c7) rfl (by first | (simp; done) | (simp; omega)) ?_
            refine G.frontAt 2 rfl ?_
            refine G.frontAt 2 rfl ?_
            refine G.frontAt 2 rfl ?_
            refine G.less ?_ (ih902  (x895.set x896.toNat (-7)) (wi64 (x896 + 1)) h)
            exact ⟨rfl, rfl, rfl, rfl, rfl, rfl, rfl, rfl, rfl, trivial⟩
          · replace h := ifF h k909
            refine G.exit rfl ?_
            refine G.seq ?_
            refine G.seq ?_
            refine G.region (l := [0, 1, 2, 3, 4, 5, 6, 7, 8, 9]) rfl ?_
            refine G.move rfl rfl rfl rfl ?_
            refine G.move rfl rfl rfl rfl ?_
            refine G.cmp (0 ≠ x888) rfl rfl rfl rfl rfl rfl Iff.rfl ?_
            refine G.move rfl rfl rfl rfl ?_
            refine G.splitP (d := 57) rfl (fun k908 => ?_) (fun k908 => ?_)
            · replace h := ifT h k908
              refine G.unwanted rfl rfl rfl rfl ?_
              refine G.unwanted rfl rfl rfl rfl ?_
              refine G.unwanted rfl rfl rfl rfl ?_
              refine G.unwanted rfl rfl rfl rfl ?_
              refine G.unwanted rfl rfl rfl rfl ?_
              refine G.pickT rfl rfl rfl rfl rfl ?_
              refine G.regionEnd ?_
              refine G.condT rfl ?_
              refine G.seq ?_
              refine G.region (l := [0]) rfl ?_
              refine G.assign rfl rfl rfl rfl ?_
              refine G.regionEnd ?_
              refine G.drop ?_
              refine G.drop ?_
              refine G.drop ?_
              obtain rfl := Option.some.inj h
              exact G.ret1 Try.func6 rfl rfl (fun w hs => ⟨_, _, rfl, ⟨rfl, rfl⟩, hs⟩)
            · replace h := ifF h k908
              refine G.move rfl rfl rfl rfl ?_
              refine G.eqPtr (a := (some ⟨g705, 0, none⟩)) (b := none) (r := false) rfl rfl rfl rfl rfl Try.underlying24 (by simp) ?_
              refine G.move rfl rfl rfl rfl ?_
              refine G.eqPtr (a := none) (b := none) (r := true) rfl rfl rfl rfl rfl Try.underlying42 (by simp) ?_
              refine G.cmpBn (a := false) (b := true) (r := true) rfl rfl rfl rfl rfl Try.underlying4 rfl ?_
              refine G.pickF rfl rfl rfl rfl rfl ?_
              refine G.regionEnd ?_
              refine G.condT rfl ?_
              refine G.seq ?_
              refine G.region (l := [0]) rfl ?_
              refine G.assign rfl rfl rfl rfl ?_
              refine G.regionEnd ?_
              refine G.drop ?_
              refine G.drop ?_
              refine G.drop ?_
              obtain rfl := Option.some.inj h
              exact G.ret1 Try.func6 rfl rfl (fun w hs => ⟨_, _, rfl, ⟨rfl, rfl⟩, hs⟩)
      intro J910
      refine G.frontAt 2 rfl ?_
      refine G.frontAt 2 rfl ?_
      refine G.frontAt 2 rfl ?_
      refine G.less ?_ (J910 FUEL  (([] : List Int) ++ a2) 0 h)
      exact ⟨rfl, rfl, rfl, rfl, rfl, rfl, rfl, rfl, rfl, trivial⟩
    intro J911
    refine G.rest (l1 := [3]) (l2 := [4, 5, 6, 7, 8]) (fun GG K => ∀ (g913 : Nat) (B915 : Option Addr) (c916 : Nat) (x917 : (List Int)), armoirelaw06_FreeGoes.j5 a0 a2 a3 t1 x709 x917 = some r → GG H [(3, .slice A3 a3.length n3), (9, .bool t1), (10, .slice B6 ((([] : List Int) ++ a2).length) c7), (11, .pointer (some ⟨g705, 0, none⟩)), (12, .int .i64 0), (42, .tuple #[.pointer (some ⟨g913, 0, none⟩), .int .i64 0])] (OS 3 (Kd.int .i64) B6 c7 (([] : List Int) ++ a2) :: OS 54 Kd.u8 B707 c708 x709 :: BK 53 K_R_free_Map g705 (R_free_Map.mk a0 (B707, x709.length, c708)) :: OS 3 (Kd.int .i64) B915 c916 x917 :: BK 59 K_R_armoireref06_Map g913 (R_armoireref06_Map.mk a0 (B915, x917.length, c916)) :: Fr) K) ?_ ?_
    · intro g913 B915 c916 x917 h
      unfold armoirelaw06_FreeGoes.j5 at h
      refine G.move rfl rfl rfl rfl ?_
      refine G.extract rfl rfl rfl rfl rfl ?_
      refine G.extract rfl rfl rfl rfl rfl ?_
      refine G.assign rfl rfl rfl rfl ?_
      refine G.assign rfl rfl rfl rfl ?_
      refine G.regionEnd ?_
      refine G.seq ?_
      refine G.seq ?_
      refine G.region (l := [0, 1, 2]) rfl ?_
      refine G.move rfl rfl rfl rfl ?_
      refine G.len (m := ((([] : List Int) ++ a2).length)) rfl rfl rfl rfl Try.underlying28 ?_
      refine G.move rfl rfl rfl rfl ?_
      refine G.regionEnd ?_
      refine G.block ?_
      refine G.loop (fun GG K => ∀ (d14456 : Nat) (x7686 : (List Int)) (x7687 : Int), armoirelaw06_FreeGoes.l5 a0 a2 a3 t1 x709 x917 d14456 x7686 x7687 = some r → GG H [(3, .slice A3 a3.length n3), (9, .bool t1), (10, .slice B6 x7686.length c7), (11, .pointer (some ⟨g705, 0, none⟩)), (12, .int .i64 0), (13, .pointer (some ⟨g913, 0, none⟩)), (14, .int .i64 0), (46, .int .i64 (((([] : List Int) ++ a2).length) : Int)), (47, .int .i64 x7687)] (OS 3 (Kd.int .i64) B6 c7 x7686 :: OS 54 Kd.u8 B707 c708 x709 :: BK 53 K_R_free_Map g705 (R_free_Map.mk a0 (B707, x709.length, c708)) :: OS 3 (Kd.int .i64) B915 c916 x917 :: BK 59 K_R_armoireref06_Map g913 (R_armoireref06_Map.mk a0 (B915, x917.length, c916)) :: Fr) K) ?_ ?_
      · intro d14456
        induction d14456 with
        | zero => intro x7686 x7687 h; rw [armoirelaw06_FreeGoes.l5] at h; cases h
        | succ d14456 ih14455 =>
          intro x7686 x7687 h
          rw [armoirelaw06_FreeGoes.l5] at h
          refine G.seq ?_
          refine G.region (l := [0]) rfl ?_
          refine G.cmp (x7687 < (((([] : List Int) ++ a2).length) : Int)) rfl rfl rfl rfl rfl rfl Iff.rfl ?_
          refine G.regionEnd ?_
          refine G.seq ?_
          refine G.condP rfl (fun k21245 => ?_) (fun k21245 => ?_)
          · replace h := ifT h k21245
            refine G.skip ?_
            refine G.seq ?_
            refine G.block ?_
            refine G.seq ?_
            refine G.region (l := [0, 1]) rfl ?_
            refine G.move rfl rfl rfl rfl ?_
            refine G.assign rfl rfl rfl rfl ?_
            refine G.regionEnd ?_
            refine G.region (l := [0, 1, 2, 3]) rfl ?_
            refine G.move rfl rfl rfl rfl ?_
            refine G.move rfl rfl rfl rfl ?_
            obtain ⟨k17841, h⟩ := guardS h
            have q17840 : x7687.toNat < x7686.length := by omega
            refine G.indexO (xs := x7686) (j := x7687) (off := x7687.toNat * 1) rfl rfl rfl rfl rfl el28 (r := 0) rfl (by simp) k17841 rfl ?_
            refine G.storeO (df := (Kd.int .i64)) (y := (-7)) (hj := q17840) (xs' := x7686.set x7687.toNat (-7)) rfl rfl rfl rfl (Lens.id _ _) (by first | rfl | simp) ⟨([.int .i64 (-7)] : List Value), rfl, rfl⟩ sz3 rfl ?_
            refine G.regionEnd ?_
            refine G.inBlock ?_
            refine G.region (l := [0, 1]) rfl ?_
            refine G.bin (m := x7687) (n := 1) (r := wi64 (x7687 + 1)) rfl rfl rfl rfl rfl rfl rfl ?_
            refine G.move rfl rfl rfl rfl ?_
            refine G.regionEnd ?_
            refine G.round ?_
            refine G.same (d := 10) (v := .slice B6 ((x7686.set x7687.toNat (-7)).length) c7) rfl (by first | (simp; done) | (simp; omega)) ?_
            refine G.frontAt 4 rfl ?_
            refine G.frontAt 4 rfl ?_
            refine G.frontAt 4 rfl ?_
            refine G.frontAt 4 rfl ?_
            refine G.frontAt 4 rfl ?_
            refine G.less ?_ (ih14455  (x7686.set x7687.toNat (-7)) (wi64 (x7687 + 1)) h)
            exact ⟨rfl, rfl, rfl, rfl, rfl, rfl, rfl, rfl, rfl, trivial⟩
          · replace h := ifF h k21245
            refine G.exit rfl ?_
            refine G.seq ?_
            refine G.seq ?_
            refine G.region (l := [0, 1, 2, 3, 4, 5, 6, 7, 8, 9]) rfl ?_
            refine G.move rfl rfl rfl rfl ?_
            refine G.move rfl rfl rfl rfl ?_
            refine G.cmp (False) rfl rfl rfl rfl rfl rfl (by simp [cmpP]) ?_
            refine G.move rfl rfl rfl rfl ?_
            refine G.move rfl rfl rfl rfl ?_
            refine G.eqPtr (a := (some ⟨g705, 0, none⟩)) (b := none) (r := false) rfl rfl rfl rfl rfl Try.underlying24 (by simp) ?_
            refine G.move rfl rfl rfl rfl ?_
            refine G.eqPtr (a := (some ⟨g913, 0, none⟩)) (b := none) (r := false) rfl rfl rfl rfl rfl Try.underlying42 (by simp) ?_
            refine G.cmpBn (a := false) (b := false) (r := false) rfl rfl rfl rfl rfl Try.underlying4 rfl ?_
            refine G.pickF rfl rfl rfl rfl rfl ?_
            refine G.regionEnd ?_
            refine G.condF rfl ?_
            refine G.skip ?_
            refine G.seq ?_
            refine G.seq ?_
            refine G.region (l := [0, 1, 2, 3, 4, 5, 6]) rfl ?_
            refine G.move rfl rfl rfl rfl ?_
            refine G.eqPtr (a := (some ⟨g705, 0, none⟩)) (b := none) (r := false) rfl rfl rfl rfl rfl Try.underlying24 (by simp) ?_
            refine G.move rfl rfl rfl rfl ?_
            refine G.move rfl rfl rfl rfl ?_
            refine G.len (m := a3.length) rfl rfl rfl rfl Try.underlying22 ?_
            refine G.cmp (150 < (a3.length : Int)) rfl rfl rfl rfl rfl rfl Iff.rfl ?_
            refine G.pickF rfl rfl rfl rfl rfl ?_
            refine G.regionEnd ?_
            refine G.condP rfl (fun k21244 => ?_) (fun k21244 => ?_)
            · replace h := ifT h k21244
              refine G.seq ?_
              refine G.region (l := [0, 1]) rfl ?_
              refine G.move rfl rfl rfl rfl ?_
              refine G.assign rfl rfl rfl rfl ?_
              refine G.regionEnd ?_
              refine G.drop ?_
              refine G.drop ?_
              refine G.drop ?_
              refine G.drop ?_
              refine G.drop ?_
              obtain rfl := Option.some.inj h
              exact G.ret1 Try.func6 rfl rfl (fun w hs => ⟨_, _, rfl, ⟨rfl, rfl⟩, hs⟩)
            · replace h := ifF h k21244
              refine G.skip ?_
              refine G.seq ?_
              refine G.seq ?_
              refine G.region (l := [0, 1, 2]) rfl ?_
              refine G.move rfl rfl rfl rfl ?_
              refine G.len (m := a3.length) rfl rfl rfl rfl Try.underlying22 ?_
              refine G.move rfl rfl rfl rfl ?_
              refine G.regionEnd ?_
              refine G.block ?_
              refine G.loop (fun GG K => ∀ (d20098 : Nat) (g18966 : Nat) (x18967 : Int) (B18969 : Option Addr) (c18970 : Nat) (x18971 : (List UInt8)) (x18972 : Int) (x18973 : (List Int)) (x18974 : Int), armoirelaw06_FreeGoes.l6 a3 t1 d20098 x18967 x18971 x18972 x18973 x18974 = some r → GG H [(9, .bool t1), (11, .pointer (some ⟨g18966, 0, none⟩)), (13, .pointer (some ⟨g913, 0, none⟩)), (72, .slice A3 a3.length n3), (73, .int .i64 (a3.length : Int)), (74, .int .i64 x18974)] (OS 54 Kd.u8 B18969 c18970 x18971 :: BK 53 K_R_free_Map g18966 (R_free_Map.mk x18967 (B18969, x18971.length, c18970)) :: OS 3 (Kd.int .i64) B915 c916 x18973 :: BK 59 K_R_armoireref06_Map g913 (R_armoireref06_Map.mk x18972 (B915, x18973.length, c916)) :: Fr) K) ?_ ?_
              · intro d20098
                induction d20098 with
                | zero => intro g18966 x18967 B18969 c18970 x18971 x18972 x18973 x18974 h; rw [armoirelaw06_FreeGoes.l6] at h; cases h
                | succ d20098 ih20097 =>
                  intro g18966 x18967 B18969 c18970 x18971 x18972 x18973 x18974 h
                  rw [armoirelaw06_FreeGoes.l6] at h
                  refine G.seq ?_
                  refine G.region (l := [0]) rfl ?_
                  refine G.cmp (x18974 < (a3.length : Int)) rfl rfl rfl rfl rfl rfl Iff.rfl ?_
                  refine G.regionEnd ?_
                  refine G.seq ?_
                  refine G.condP rfl (fun k21242 => ?_) (fun k21242 => ?_)
                  · replace h := ifT h k21242
                    refine G.skip ?_
                    refine G.seq ?_
                    refine G.block ?_
                    refine G.seq ?_
                    refine G.region (l := [0, 1, 2, 3]) rfl ?_
                    obtain ⟨k20111, h⟩ := guardS h
                    refine G.indexR (xs := a3) (j := x18974) (S_armoirelaw06_Op.mk 0 0 [] false) rfl rfl rfl rfl rfl el22 F3 k20111 ?_
                    intro a20109 f20110
                    refine G.loadA (df := K_S_armoirelaw06_Op) (y := a3.getD x18974.toNat (S_armoirelaw06_Op.mk 0 0 [] false)) rfl rfl rfl rfl ty30 rfl (fun w hs => Rd.ro f20110 hs) ?_
                    intro cs20112 f20113
                    obtain ⟨B20114, c20115, f20116, rfl⟩ := K_S_armoirelaw06_Op.open f20113
                    refine G.alloc (dk := K_R_armoirelaw06_Op) (x0 := (R_armoirelaw06_Op.mk 0 0 (none, 0, 0) false)) (z := .agg (([.int .i64 0] : List Value) ++ (([.int .i64 0] : List Value) ++ (([.slice none 0 0] : List Value) ++ (([.bool false] : List Value))))).toArray) (cs := ([.int .i64 0] : List Value) ++ (([.int .i64 0] : List Value) ++ (([.slice none 0 0] : List Value) ++ (([.bool false] : List Value))))) rfl rfl rfl (by kernel_rfl) rfl (fun H => K_R_armoirelaw06_Op.mk rfl rfl rfl rfl) ?_
                    intro g20117
                    refine G.store (df := K_R_armoirelaw06_Op) (y := (R_armoirelaw06_Op.mk ((a3.getD x18974.toNat (S_armoirelaw06_Op.mk 0 0 [] false)).do_) ((a3.getD x18974.toNat (S_armoirelaw06_Op.mk 0 0 [] false)).n) (B20114, ((a3.getD x18974.toNat (S_armoirelaw06_Op.mk 0 0 [] false)).keep).length, c20115) ((a3.getD x18974.toNat (S_armoirelaw06_Op.mk 0 0 [] false)).clone))) (x1 := (R_armoirelaw06_Op.mk ((a3.getD x18974.toNat (S_armoirelaw06_Op.mk 0 0 [] false)).do_) ((a3.getD x18974.toNat (S_armoirelaw06_Op.mk 0 0 [] false)).n) (B20114, ((a3.getD x18974.toNat (S_armoirelaw06_Op.mk 0 0 [] false)).keep).length, c20115) ((a3.getD x18974.toNat (S_armoirelaw06_Op.mk 0 0 [] false)).clone))) rfl rfl rfl rfl (Lens.id _ _) (VR.A (cs := ([.int .i64 ((a3.getD x18974.toNat (S_armoirelaw06_Op.mk 0 0 [] false)).do_)] : List Value) ++ (([.int .i64 ((a3.getD x18974.toNat (S_armoirelaw06_Op.mk 0 0 [] false)).n)] : List Value) ++ (([.slice B20114 ((a3.getD x18974.toNat (S_armoirelaw06_Op.mk 0 0 [] false)).keep).length c20115] : List Value) ++ (([.bool ((a3.getD x18974.toNat (S_armoirelaw06_Op.mk 0 0 [] false)).clone)] : List Value))))) (K_R_armoirelaw06_Op.mk rfl rfl rfl rfl)) sz30 rfl ?_
                    refine G.regionEnd ?_
                    refine G.seq ?_
                    refine G.region (l := [0]) rfl ?_
                    refine G.assign rfl rfl rfl rfl ?_
                    refine G.regionEnd ?_
                    refine G.seq ?_
                    refine G.seq ?_
                    refine G.region (l := [0, 1]) rfl ?_
                    refine G.field (off' := 0) rfl rfl rfl rfl Try.underlying30 rfl sz3 rfl rfl ?_
                    refine G.loadI (y := (a3.getD x18974.toNat (S_armoirelaw06_Op.mk 0 0 [] false)).do_) rfl rfl rfl rfl ty3 (fun w hs => Rd.bk (R_armoirelaw06_Op.L_do_ _) hs (j := 0) rfl) ?_
                    refine G.regionEnd ?_
                    refine G.block ?_
                    refine G.seq ?_
                    refine G.region (l := [0, 1]) rfl ?_
                    refine G.cmp (((a3.getD x18974.toNat (S_armoirelaw06_Op.mk 0 0 [] false)).do_) = 0) rfl rfl rfl rfl rfl rfl Iff.rfl ?_
                    refine G.assign rfl rfl rfl rfl ?_
                    refine G.regionEnd ?_
                    refine G.tail (fun GG K => ∀ (x20569 : Int) (x20570 : (List UInt8)) (x20571 : Int) (x20572 : (List Int)) (b20573 : Bool), armoirelaw06_FreeGoes.j6 a3 x18974 (armoirelaw06_FreeGoes.l6 a3 t1 d20098) x20569 x20570 x20571 x20572 b20573 = some r → GG H [(9, .bool t1), (11, .pointer (some ⟨g18966, 0, none⟩)), (13, .pointer (some ⟨g913, 0, none⟩)), (17, .pointer (some ⟨g20117, 0, none⟩)), (18, .bool b20573), (72, .slice A3 a3.length n3), (73, .int .i64 (a3.length : Int)), (74, .int .i64 x18974)] (OS 54 Kd.u8 B18969 c18970 x20570 :: BK 53 K_R_free_Map g18966 (R_free_Map.mk x20569 (B18969, x20570.length, c18970)) :: OS 3 (Kd.int .i64) B915 c916 x20572 :: BK 59 K_R_armoireref06_Map g913 (R_armoireref06_Map.mk x20571 (B915, x20572.length, c916)) :: BK 30 K_R_armoirelaw06_Op g20117 (R_armoirelaw06_Op.mk ((a3.getD x18974.toNat (S_armoirelaw06_Op.mk 0 0 [] false)).do_) ((a3.getD x18974.toNat (S_armoirelaw06_Op.mk 0 0 [] false)).n) (B20114, ((a3.getD x18974.toNat (S_armoirelaw06_Op.mk 0 0 [] false)).keep).length, c20115) ((a3.getD x18974.toNat (S_armoirelaw06_Op.mk 0 0 [] false)).clone)) :: Fr) K) ?_ ?_
                    · intro x20569 x20570 x20571 x20572 b20573 h
                      unfold armoirelaw06_FreeGoes.j6 at h
                      refine G.inBlock ?_
                      refine G.seq ?_
                      refine G.seq ?_
                      refine G.region (l := [0, 1, 2, 3, 4, 5, 6, 7]) rfl ?_
                      refine G.move rfl rfl rfl rfl ?_
                      refine G.not rfl rfl rfl rfl rfl ?_
                      refine G.move rfl rfl rfl rfl ?_
                      refine G.splitB (d := 163) rfl (fun k20618 => ?_) (fun k20618 => ?_)
                      · replace h := ifT h k20618
                        refine G.unwanted rfl rfl rfl rfl ?_
                        refine G.unwanted rfl rfl rfl rfl ?_
                        refine G.unwanted rfl rfl rfl rfl ?_
                        refine G.unwanted rfl rfl rfl rfl ?_
                        refine G.pickT rfl rfl rfl rfl rfl ?_
                        refine G.regionEnd ?_
                        refine G.condT rfl ?_
                        refine G.seq ?_
                        refine G.region (l := [0]) rfl ?_
                        refine G.assign rfl rfl rfl rfl ?_
                        refine G.regionEnd ?_
                        refine G.drop ?_
                        refine G.drop ?_
                        refine G.drop ?_
                        refine G.drop ?_
                        refine G.drop ?_
                        obtain rfl := Option.some.inj h
                        exact G.ret1 Try.func6 rfl rfl (fun w hs => ⟨_, _, rfl, ⟨rfl, rfl⟩, hs⟩)
                      · replace h := ifFB h k20618
                        refine G.move rfl rfl rfl rfl ?_
                        refine G.move rfl rfl rfl rfl ?_
                        refine G.frontAt 2 rfl ?_
                        refine G.frontAt 3 rfl ?_
                        refine G.frontAt 2 rfl ?_
                        refine G.frontAt 3 rfl ?_
                        obtain ⟨t20578, e20579, h⟩ := bindS h
                        refine G.callS rfl rfl rfl rfl call21 (armoirelaw06_same.ok (S_free_Map.mk x20569 x20570) g18966 B18969 c18970 (S_armoireref06_Map.mk x20571 x20572) g913 B915 c916 e20579) ?_
                        rintro v20580 L20581 ⟨rfl, rfl⟩
                        refine G.not rfl rfl rfl rfl rfl ?_
                        refine G.pickF rfl rfl rfl rfl rfl ?_
                        refine G.regionEnd ?_
                        refine G.cond rfl (fun k20617 => ?_) (fun k20617 => ?_)
                        · replace h := ifT h k20617
                          refine G.seq ?_
                          refine G.region (l := [0]) rfl ?_
                          refine G.assign rfl rfl rfl rfl ?_
                          refine G.regionEnd ?_
                          refine G.drop ?_
                          refine G.drop ?_
                          refine G.drop ?_
                          refine G.drop ?_
                          refine G.drop ?_
                          obtain rfl := Option.some.inj h
                          exact G.ret1 Try.func6 rfl rfl (fun w hs => ⟨_, _, rfl, ⟨rfl, rfl⟩, hs⟩)
                        · replace h := ifFB h k20617
                          refine G.skip ?_
                          refine G.seq ?_
                          refine G.region (l := [0, 1]) rfl ?_
                          refine G.field (off' := 3) rfl rfl rfl rfl Try.underlying30 rfl sz4 rfl rfl ?_
                          refine G.loadB (y := (a3.getD x18974.toNat (S_armoirelaw06_Op.mk 0 0 [] false)).clone) rfl rfl rfl rfl ty4 (fun w hs => Rd.bk (R_armoirelaw06_Op.L_clone _) hs (j := 4) rfl) ?_
                          refine G.regionEnd ?_
                          refine G.cond rfl (fun k20616 => ?_) (fun k20616 => ?_)
                          · replace h := ifT h k20616
                            refine G.seq ?_
                            refine G.region (l := [0, 1, 2]) rfl ?_
                            refine G.move rfl rfl rfl rfl ?_
                            refine G.frontAt 1 rfl ?_
                            refine G.frontAt 1 rfl ?_
                            obtain ⟨t20599, e20600, h⟩ := bindS h
                            refine G.callS rfl rfl rfl rfl call22 (free_Map_Clone.ok (S_free_Map.mk x20569 x20570) g18966 B18969 c18970 e20600) ?_
                            rintro v20601 L20602 ⟨g20603, B20605, c20606, rfl, rfl⟩
                            refine G.assign rfl rfl rfl rfl ?_
                            refine G.regionEnd ?_
                            refine G.seq ?_
                            refine G.seq ?_
                            refine G.region (l := [0, 1]) rfl ?_
                            refine G.move rfl rfl rfl rfl ?_
                            refine G.eqPtr (a := (some ⟨g20603, 0, none⟩)) (b := none) (r := false) rfl rfl rfl rfl rfl Try.underlying24 (by simp) ?_
                            refine G.regionEnd ?_
                            refine G.condF rfl ?_
                            refine G.skip ?_
                            refine G.seq ?_
                            refine G.region (l := [0, 1]) rfl ?_
                            refine G.move rfl rfl rfl rfl ?_
                            refine G.frontAt 1 rfl ?_
                            refine G.frontAt 1 rfl ?_
                            obtain ⟨t20608, e20609, h⟩ := bindS h
                            refine G.callS rfl rfl rfl rfl call14 (free_Map_Take.ok (S_free_Map.mk x20569 x20570) g18966 B18969 c18970 e20609) ?_
                            rintro v20610 L20611 ⟨rfl, rfl⟩
                            refine G.regionEnd ?_
                            refine G.seq ?_
                            refine G.region (l := [0, 1]) rfl ?_
                            refine G.move rfl rfl rfl rfl ?_
                            refine G.frontAt 1 rfl ?_
                            refine G.frontAt 1 rfl ?_
                            obtain ⟨t20612, e20613, h⟩ := bindS h
                            refine G.callS rfl rfl rfl rfl call12 (free_Map_Sweep.ok t20608.2.2 g18966 B18969 c18970 ([] : List Int) none 0 (SlR.nil none 0) e20613) ?_
                            rintro v20614 L20615 ⟨rfl, rfl⟩
                            refine G.regionEnd ?_
                            refine G.region (l := [0, 1]) rfl ?_
                            refine G.move rfl rfl rfl rfl ?_
                            refine G.assign rfl rfl rfl rfl ?_
                            refine G.regionEnd ?_
                            refine G.inBlock ?_
                            refine G.region (l := [0, 1]) rfl ?_
                            refine G.bin (m := x18974) (n := 1) (r := wi64 (x18974 + 1)) rfl rfl rfl rfl rfl rfl rfl ?_
                            refine G.move rfl rfl rfl rfl ?_
                            refine G.regionEnd ?_
                            refine G.round ?_
                            refine G.drop ?_
                            refine G.drop ?_
                            refine G.frontAt 4 rfl ?_
                            refine G.drop ?_
                            refine G.frontAt 2 rfl ?_
                            refine G.frontAt 3 rfl ?_
                            refine G.frontAt 2 rfl ?_
                            refine G.frontAt 3 rfl ?_
                            refine G.less ?_ (ih20097  g20603 t20599.from_ B20605 c20606 t20599.kinds x20571 x20572 (wi64 (x18974 + 1)) h)
                            exact ⟨rfl, rfl, rfl, rfl, rfl, rfl, trivial⟩
                          · replace h := ifFB h k20616
                            refine G.skip ?_
                            refine G.inBlock ?_
                            refine G.region (l := [0, 1]) rfl ?_
                            refine G.bin (m := x18974) (n := 1) (r := wi64 (x18974 + 1)) rfl rfl rfl rfl rfl rfl rfl ?_
                            refine G.move rfl rfl rfl rfl ?_
                            refine G.regionEnd ?_
                            refine G.round ?_
                            refine G.frontAt 4 rfl ?_
                            refine G.drop ?_
                            refine G.frontAt 2 rfl ?_
                            refine G.frontAt 3 rfl ?_
                            refine G.frontAt 2 rfl ?_
                            refine G.frontAt 3 rfl ?_
                            refine G.less ?_ (ih20097  g18966 x20569 B18969 c18970 x20570 x20571 x20572 (wi64 (x18974 + 1)) h)
                            exact ⟨rfl, rfl, rfl, rfl, rfl, rfl, trivial⟩
                    intro J20619
                    refine G.tail (fun GG K => ∀ (x20620 : Int) (x20621 : (List UInt8)) (x20622 : Int) (x20623 : (List Int)) (b20624 : Bool), armoirelaw06_FreeGoes.j7 a3 x18974 (armoirelaw06_FreeGoes.l6 a3 t1 d20098) x20620 x20621 x20622 x20623 b20624 = some r → GG H [(9, .bool t1), (11, .pointer (some ⟨g18966, 0, none⟩)), (13, .pointer (some ⟨g913, 0, none⟩)), (17, .pointer (some ⟨g20117, 0, none⟩)), (18, .bool b20624), (72, .slice A3 a3.length n3), (73, .int .i64 (a3.length : Int)), (74, .int .i64 x18974)] (OS 54 Kd.u8 B18969 c18970 x20621 :: BK 53 K_R_free_Map g18966 (R_free_Map.mk x20620 (B18969, x20621.length, c18970)) :: OS 3 (Kd.int .i64) B915 c916 x20623 :: BK 59 K_R_armoireref06_Map g913 (R_armoireref06_Map.mk x20622 (B915, x20623.length, c916)) :: BK 30 K_R_armoirelaw06_Op g20117 (R_armoirelaw06_Op.mk ((a3.getD x18974.toNat (S_armoirelaw06_Op.mk 0 0 [] false)).do_) ((a3.getD x18974.toNat (S_armoirelaw06_Op.mk 0 0 [] false)).n) (B20114, ((a3.getD x18974.toNat (S_armoirelaw06_Op.mk 0 0 [] false)).keep).length, c20115) ((a3.getD x18974.toNat (S_armoirelaw06_Op.mk 0 0 [] false)).clone)) :: Fr) K) ?_ ?_
                    · intro x20620 x20621 x20622 x20623 b20624 h
                      unfold armoirelaw06_FreeGoes.j7 at h
                      refine G.inBlock ?_
                      refine G.seq ?_
                      refine G.seq ?_
                      refine G.region (l := [0, 1, 2, 3, 4, 5, 6, 7]) rfl ?_
                      refine G.move rfl rfl rfl rfl ?_
                      refine G.not rfl rfl rfl rfl rfl ?_
                      refine G.move rfl rfl rfl rfl ?_
                      refine G.splitB (d := 163) rfl (fun k20669 => ?_) (fun k20669 => ?_)
                      · replace h := ifT h k20669
                        refine G.unwanted rfl rfl rfl rfl ?_
                        refine G.unwanted rfl rfl rfl rfl ?_
                        refine G.unwanted rfl rfl rfl rfl ?_
                        refine G.unwanted rfl rfl rfl rfl ?_
                        refine G.pickT rfl rfl rfl rfl rfl ?_
                        refine G.regionEnd ?_
                        refine G.condT rfl ?_
                        refine G.seq ?_
                        refine G.region (l := [0]) rfl ?_
                        refine G.assign rfl rfl rfl rfl ?_
                        refine G.regionEnd ?_
                        refine G.drop ?_
                        refine G.drop ?_
                        refine G.drop ?_
                        refine G.drop ?_
                        refine G.drop ?_
                        obtain rfl := Option.some.inj h
                        exact G.ret1 Try.func6 rfl rfl (fun w hs => ⟨_, _, rfl, ⟨rfl, rfl⟩, hs⟩)
                      · replace h := ifFB h k20669
                        refine G.move rfl rfl rfl rfl ?_
                        refine G.move rfl rfl rfl rfl ?_
                        refine G.frontAt 2 rfl ?_
                        refine G.frontAt 3 rfl ?_
                        refine G.frontAt 2 rfl ?_
                        refine G.frontAt 3 rfl ?_
                        obtain ⟨t20629, e20630, h⟩ := bindS h
                        refine G.callS rfl rfl rfl rfl call21 (armoirelaw06_same.ok (S_free_Map.mk x20620 x20621) g18966 B18969 c18970 (S_armoireref06_Map.mk x20622 x20623) g913 B915 c916 e20630) ?_
                        rintro v20631 L20632 ⟨rfl, rfl⟩
                        refine G.not rfl rfl rfl rfl rfl ?_
                        refine G.pickF rfl rfl rfl rfl rfl ?_
                        refine G.regionEnd ?_
                        refine G.cond rfl (fun k20668 => ?_) (fun k20668 => ?_)
                        · replace h := ifT h k20668
                          refine G.seq ?_
                          refine G.region (l := [0]) rfl ?_
                          refine G.assign rfl rfl rfl rfl ?_
                          refine G.regionEnd ?_
                          refine G.drop ?_
                          refine G.drop ?_
                          refine G.drop ?_
                          refine G.drop ?_
                          refine G.drop ?_
                          obtain rfl := Option.some.inj h
                          exact G.ret1 Try.func6 rfl rfl (fun w hs => ⟨_, _, rfl, ⟨rfl, rfl⟩, hs⟩)
                        · replace h := ifFB h k20668
                          refine G.skip ?_
                          refine G.seq ?_
                          refine G.region (l := [0, 1]) rfl ?_
                          refine G.field (off' := 3) rfl rfl rfl rfl Try.underlying30 rfl sz4 rfl rfl ?_
                          refine G.loadB (y := (a3.getD x18974.toNat (S_armoirelaw06_Op.mk 0 0 [] false)).clone) rfl rfl rfl rfl ty4 (fun w hs => Rd.bk (R_armoirelaw06_Op.L_clone _) hs (j := 4) rfl) ?_
                          refine G.regionEnd ?_
                          refine G.cond rfl (fun k20667 => ?_) (fun k20667 => ?_)
                          · replace h := ifT h k20667
                            refine G.seq ?_
                            refine G.region (l := [0, 1, 2]) rfl ?_
                            refine G.move rfl rfl rfl rfl ?_
                            refine G.frontAt 1 rfl ?_
                            refine G.frontAt 1 rfl ?_
                            obtain ⟨t20650, e20651, h⟩ := bindS h
                            refine G.callS rfl rfl rfl rfl call22 (free_Map_Clone.ok (S_free_Map.mk x20620 x20621) g18966 B18969 c18970 e20651) ?_
                            rintro v20652 L20653 ⟨g20654, B20656, c20657, rfl, rfl⟩
                            refine G.assign rfl rfl rfl rfl ?_
                            refine G.regionEnd ?_
                            refine G.seq ?_
                            refine G.seq ?_
                            refine G.region (l := [0, 1]) rfl ?_
                            refine G.move rfl rfl rfl rfl ?_
                            refine G.eqPtr (a := (some ⟨g20654, 0, none⟩)) (b := none) (r := false) rfl rfl rfl rfl rfl Try.underlying24 (by simp) ?_
                            refine G.regionEnd ?_
                            refine G.condF rfl ?_
                            refine G.skip ?_
                            refine G.seq ?_
                            refine G.region (l := [0, 1]) rfl ?_
                            refine G.move rfl rfl rfl rfl ?_
                            refine G.frontAt 1 rfl ?_
                            refine G.frontAt 1 rfl ?_
                            obtain ⟨t20659, e20660, h⟩ := bindS h
                            refine G.callS rfl rfl rfl rfl call14 (free_Map_Take.ok (S_free_Map.mk x20620 x20621) g18966 B18969 c18970 e20660) ?_
                            rintro v20661 L20662 ⟨rfl, rfl⟩
                            refine G.regionEnd ?_
                            refine G.seq ?_
                            refine G.region (l := [0, 1]) rfl ?_
                            refine G.move rfl rfl rfl rfl ?_
                            refine G.frontAt 1 rfl ?_
                            refine G.frontAt 1 rfl ?_
                            obtain ⟨t20663, e20664, h⟩ := bindS h
                            refine G.callS rfl rfl rfl rfl call12 (free_Map_Sweep.ok t20659.2.2 g18966 B18969 c18970 ([] : List Int) none 0 (SlR.nil none 0) e20664) ?_
                            rintro v20665 L20666 ⟨rfl, rfl⟩
                            refine G.regionEnd ?_
                            refine G.region (l := [0, 1]) rfl ?_
                            refine G.move rfl rfl rfl rfl ?_
                            refine G.assign rfl rfl rfl rfl ?_
                            refine G.regionEnd ?_
                            refine G.inBlock ?_
                            refine G.region (l := [0, 1]) rfl ?_
                            refine G.bin (m := x18974) (n := 1) (r := wi64 (x18974 + 1)) rfl rfl rfl rfl rfl rfl rfl ?_
                            refine G.move rfl rfl rfl rfl ?_
                            refine G.regionEnd ?_
                            refine G.round ?_
                            refine G.drop ?_
                            refine G.drop ?_
                            refine G.frontAt 4 rfl ?_
                            refine G.drop ?_
                            refine G.frontAt 2 rfl ?_
                            refine G.frontAt 3 rfl ?_
                            refine G.frontAt 2 rfl ?_
                            refine G.frontAt 3 rfl ?_
                            refine G.less ?_ (ih20097  g20654 t20650.from_ B20656 c20657 t20650.kinds x20622 x20623 (wi64 (x18974 + 1)) h)
                            exact ⟨rfl, rfl, rfl, rfl, rfl, rfl, trivial⟩
                          · replace h := ifFB h k20667
                            refine G.skip ?_
                            refine G.inBlock ?_
                            refine G.region (l := [0, 1]) rfl ?_
                            refine G.bin (m := x18974) (n := 1) (r := wi64 (x18974 + 1)) rfl rfl rfl rfl rfl rfl rfl ?_
                            refine G.move rfl rfl rfl rfl ?_
                            refine G.regionEnd ?_
                            refine G.round ?_
                            refine G.frontAt 4 rfl ?_
                            refine G.drop ?_
                            refine G.frontAt 2 rfl ?_
                            refine G.frontAt 3 rfl ?_
                            refine G.frontAt 2 rfl ?_
                            refine G.frontAt 3 rfl ?_
                            refine G.less ?_ (ih20097  g18966 x20620 B18969 c18970 x20621 x20622 x20623 (wi64 (x18974 + 1)) h)
                            exact ⟨rfl, rfl, rfl, rfl, rfl, rfl, trivial⟩
                    intro J20670
                    refine G.condP rfl (fun k21232 => ?_) (fun k21232 => ?_)
                    · replace h := ifT h k21232
                      refine G.seq ?_
                      refine G.region (l := [0, 1, 2, 3, 4, 5, 6]) rfl ?_
                      refine G.move rfl rfl rfl rfl ?_
                      refine G.frontAt 1 rfl ?_
                      refine G.frontAt 2 rfl ?_
                      obtain ⟨t20671, e20672, h⟩ := bindS h
                      refine G.callS rfl rfl rfl rfl call14 (free_Map_Take.ok (S_free_Map.mk x18967 x18971) g18966 B18969 c18970 e20672) ?_
                      rintro v20673 L20674 ⟨rfl, rfl⟩
                      refine G.move rfl rfl rfl rfl ?_
                      refine G.extract rfl rfl rfl rfl rfl ?_
                      refine G.extract rfl rfl rfl rfl rfl ?_
                      refine G.assign rfl rfl rfl rfl ?_
                      refine G.assign rfl rfl rfl rfl ?_
                      refine G.regionEnd ?_
                      refine G.seq ?_
                      refine G.region (l := [0, 1, 2, 3, 4, 5, 6]) rfl ?_
                      refine G.move rfl rfl rfl rfl ?_
                      refine G.frontAt 3 rfl ?_
                      refine G.frontAt 4 rfl ?_
                      obtain ⟨t20675, e20676, h⟩ := bindS h
                      refine G.callS rfl rfl rfl rfl call18 (armoireref06_Map_TakeRun.ok (S_armoireref06_Map.mk x18972 x18973) g913 B915 c916 1 e20676) ?_
                      rintro v20677 L20678 ⟨rfl, rfl⟩
                      refine G.move rfl rfl rfl rfl ?_
                      refine G.extract rfl rfl rfl rfl rfl ?_
                      refine G.extract rfl rfl rfl rfl rfl ?_
                      refine G.assign rfl rfl rfl rfl ?_
                      refine G.assign rfl rfl rfl rfl ?_
                      refine G.regionEnd ?_
                      refine G.region (l := [0, 1, 2, 3, 4, 5, 6, 7, 8]) rfl ?_
                      refine G.move rfl rfl rfl rfl ?_
                      refine G.move rfl rfl rfl rfl ?_
                      refine G.cmp (t20671.1 = t20675.1) rfl rfl rfl rfl rfl rfl Iff.rfl ?_
                      refine G.move rfl rfl rfl rfl ?_
                      refine G.splitP (d := 95) rfl (fun k20724 => ?_) (fun k20724 => ?_)
                      · replace h := ifT h k20724
                        refine G.move rfl rfl rfl rfl ?_
                        refine G.move rfl rfl rfl rfl ?_
                        refine G.cmp (t20671.2.1 = t20675.2.1) rfl rfl rfl rfl rfl rfl Iff.rfl ?_
                        refine G.pickT rfl rfl rfl rfl rfl ?_
                        refine G.assign rfl rfl rfl rfl ?_
                        refine G.regionEnd ?_
                        refine G.inBlock ?_
                        refine G.seq ?_
                        refine G.seq ?_
                        refine G.region (l := [0, 1, 2, 3, 4, 5, 6, 7]) rfl ?_
                        refine G.move rfl rfl rfl rfl ?_
                        refine G.not (c := decide (¬ (t20671.2.1 = t20675.2.1))) rfl rfl rfl rfl (by simp) ?_
                        refine G.move rfl rfl rfl rfl ?_
                        refine G.splitP (d := 163) rfl (fun k20723 => ?_) (fun k20723 => ?_)
                        · replace h := ifT h k20723
                          refine G.unwanted rfl rfl rfl rfl ?_
                          refine G.unwanted rfl rfl rfl rfl ?_
                          refine G.unwanted rfl rfl rfl rfl ?_
                          refine G.unwanted rfl rfl rfl rfl ?_
                          refine G.pickT rfl rfl rfl rfl rfl ?_
                          refine G.regionEnd ?_
                          refine G.condT rfl ?_
                          refine G.seq ?_
                          refine G.region (l := [0]) rfl ?_
                          refine G.assign rfl rfl rfl rfl ?_
                          refine G.regionEnd ?_
                          refine G.drop ?_
                          refine G.drop ?_
                          refine G.drop ?_
                          refine G.drop ?_
                          refine G.drop ?_
                          obtain rfl := Option.some.inj h
                          exact G.ret1 Try.func6 rfl rfl (fun w hs => ⟨_, _, rfl, ⟨rfl, rfl⟩, hs⟩)
                        · replace h := ifF h k20723
                          refine G.move rfl rfl rfl rfl ?_
                          refine G.move rfl rfl rfl rfl ?_
                          refine G.frontAt 1 rfl ?_
                          refine G.frontAt 1 rfl ?_
                          refine G.frontAt 3 rfl ?_
                          refine G.frontAt 3 rfl ?_
                          obtain ⟨t20683, e20684, h⟩ := bindS h
                          refine G.callS rfl rfl rfl rfl call21 (armoirelaw06_same.ok t20671.2.2 g18966 B18969 c18970 t20675.2.2 g913 B915 c916 e20684) ?_
                          rintro v20685 L20686 ⟨rfl, rfl⟩
                          refine G.not rfl rfl rfl rfl rfl ?_
                          refine G.pickF rfl rfl rfl rfl rfl ?_
                          refine G.regionEnd ?_
                          refine G.cond rfl (fun k20722 => ?_) (fun k20722 => ?_)
                          · replace h := ifT h k20722
                            refine G.seq ?_
                            refine G.region (l := [0]) rfl ?_
                            refine G.assign rfl rfl rfl rfl ?_
                            refine G.regionEnd ?_
                            refine G.drop ?_
                            refine G.drop ?_
                            refine G.drop ?_
                            refine G.drop ?_
                            refine G.drop ?_
                            obtain rfl := Option.some.inj h
                            exact G.ret1 Try.func6 rfl rfl (fun w hs => ⟨_, _, rfl, ⟨rfl, rfl⟩, hs⟩)
                          · replace h := ifFB h k20722
                            refine G.skip ?_
                            refine G.seq ?_
                            refine G.region (l := [0, 1]) rfl ?_
                            refine G.field (off' := 3) rfl rfl rfl rfl Try.underlying30 rfl sz4 rfl rfl ?_
                            refine G.loadB (y := (a3.getD x18974.toNat (S_armoirelaw06_Op.mk 0 0 [] false)).clone) rfl rfl rfl rfl ty4 (fun w hs => Rd.bk (R_armoirelaw06_Op.L_clone _) hs (j := 4) rfl) ?_
                            refine G.regionEnd ?_
                            refine G.cond rfl (fun k20721 => ?_) (fun k20721 => ?_)
                            · replace h := ifT h k20721
                              refine G.seq ?_
                              refine G.region (l := [0, 1, 2]) rfl ?_
                              refine G.move rfl rfl rfl rfl ?_
                              refine G.frontAt 1 rfl ?_
                              refine G.frontAt 1 rfl ?_
                              obtain ⟨t20704, e20705, h⟩ := bindS h
                              refine G.callS rfl rfl rfl rfl call22 (free_Map_Clone.ok t20671.2.2 g18966 B18969 c18970 e20705) ?_
                              rintro v20706 L20707 ⟨g20708, B20710, c20711, rfl, rfl⟩
                              refine G.assign rfl rfl rfl rfl ?_
                              refine G.regionEnd ?_
                              refine G.seq ?_
                              refine G.seq ?_
                              refine G.region (l := [0, 1]) rfl ?_
                              refine G.move rfl rfl rfl rfl ?_
                              refine G.eqPtr (a := (some ⟨g20708, 0, none⟩)) (b := none) (r := false) rfl rfl rfl rfl rfl Try.underlying24 (by simp) ?_
                              refine G.regionEnd ?_
                              refine G.condF rfl ?_
                              refine G.skip ?_
                              refine G.seq ?_
                              refine G.region (l := [0, 1]) rfl ?_
                              refine G.move rfl rfl rfl rfl ?_
                              refine G.frontAt 1 rfl ?_
                              refine G.frontAt 1 rfl ?_
                              obtain ⟨t20713, e20714, h⟩ := bindS h
                              refine G.callS rfl rfl rfl rfl call14 (free_Map_Take.ok t20671.2.2 g18966 B18969 c18970 e20714) ?_
                              rintro v20715 L20716 ⟨rfl, rfl⟩
                              refine G.regionEnd ?_
                              refine G.seq ?_
                              refine G.region (l := [0, 1]) rfl ?_
                              refine G.move rfl rfl rfl rfl ?_
                              refine G.frontAt 1 rfl ?_
                              refine G.frontAt 1 rfl ?_
                              obtain ⟨t20717, e20718, h⟩ := bindS h
                              refine G.callS rfl rfl rfl rfl call12 (free_Map_Sweep.ok t20713.2.2 g18966 B18969 c18970 ([] : List Int) none 0 (SlR.nil none 0) e20718) ?_
                              rintro v20719 L20720 ⟨rfl, rfl⟩
                              refine G.regionEnd ?_
                              refine G.region (l := [0, 1]) rfl ?_
                              refine G.move rfl rfl rfl rfl ?_
                              refine G.assign rfl rfl rfl rfl ?_
                              refine G.regionEnd ?_
                              refine G.inBlock ?_
                              refine G.region (l := [0, 1]) rfl ?_
                              refine G.bin (m := x18974) (n := 1) (r := wi64 (x18974 + 1)) rfl rfl rfl rfl rfl rfl rfl ?_
                              refine G.move rfl rfl rfl rfl ?_
                              refine G.regionEnd ?_
                              refine G.round ?_
                              refine G.drop ?_
                              refine G.drop ?_
                              refine G.frontAt 4 rfl ?_
                              refine G.drop ?_
                              refine G.frontAt 2 rfl ?_
                              refine G.frontAt 3 rfl ?_
                              refine G.frontAt 2 rfl ?_
                              refine G.frontAt 3 rfl ?_
                              refine G.less ?_ (ih20097  g20708 t20704.from_ B20710 c20711 t20704.kinds t20675.2.2.from_ t20675.2.2.k (wi64 (x18974 + 1)) h)
                              exact ⟨rfl, rfl, rfl, rfl, rfl, rfl, trivial⟩
                            · replace h := ifFB h k20721
                              refine G.skip ?_
                              refine G.inBlock ?_
                              refine G.region (l := [0, 1]) rfl ?_
                              refine G.bin (m := x18974) (n := 1) (r := wi64 (x18974 + 1)) rfl rfl rfl rfl rfl rfl rfl ?_
                              refine G.move rfl rfl rfl rfl ?_
                              refine G.regionEnd ?_
                              refine G.round ?_
                              refine G.frontAt 4 rfl ?_
                              refine G.drop ?_
                              refine G.frontAt 2 rfl ?_
                              refine G.frontAt 3 rfl ?_
                              refine G.frontAt 2 rfl ?_
                              refine G.frontAt 3 rfl ?_
                              refine G.less ?_ (ih20097  g18966 t20671.2.2.from_ B18969 c18970 t20671.2.2.kinds t20675.2.2.from_ t20675.2.2.k (wi64 (x18974 + 1)) h)
                              exact ⟨rfl, rfl, rfl, rfl, rfl, rfl, trivial⟩
                      · replace h := ifF h k20724
                        refine G.unwanted rfl rfl rfl rfl ?_
                        refine G.unwanted rfl rfl rfl rfl ?_
                        refine G.unwanted rfl rfl rfl rfl ?_
                        refine G.pickF rfl rfl rfl rfl rfl ?_
                        refine G.assign rfl rfl rfl rfl ?_
                        refine G.regionEnd ?_
                        refine G.frontAt 4 rfl ?_
                        refine G.frontAt 1 rfl ?_
                        refine G.frontAt 2 rfl ?_
                        refine G.frontAt 3 rfl ?_
                        refine G.frontAt 4 rfl ?_
                        refine G.less ?_ (J20619  t20671.2.2.from_ t20671.2.2.kinds t20675.2.2.from_ t20675.2.2.k false h)
                        exact ⟨rfl, rfl, rfl, rfl, rfl, rfl, rfl, rfl, trivial⟩
                    · replace h := ifF h k21232
                      refine G.seq ?_
                      refine G.region (l := [0, 1]) rfl ?_
                      refine G.cmp (((a3.getD x18974.toNat (S_armoirelaw06_Op.mk 0 0 [] false)).do_) = 1) rfl rfl rfl rfl rfl rfl Iff.rfl ?_
                      refine G.assign rfl rfl rfl rfl ?_
                      refine G.regionEnd ?_
                      refine G.condP rfl (fun k21231 => ?_) (fun k21231 => ?_)
                      · replace h := ifT h k21231
                        refine G.seq ?_
                        refine G.region (l := [0, 1, 2, 3, 4, 5, 6, 7, 8]) rfl ?_
                        refine G.move rfl rfl rfl rfl ?_
                        refine G.field (off' := 1) rfl rfl rfl rfl Try.underlying30 rfl sz3 rfl rfl ?_
                        refine G.loadI (y := (a3.getD x18974.toNat (S_armoirelaw06_Op.mk 0 0 [] false)).n) rfl rfl rfl rfl ty3 (fun w hs => Rd.bk (R_armoirelaw06_Op.L_n _) hs (j := 0) rfl) ?_
                        refine G.frontAt 1 rfl ?_
                        refine G.frontAt 2 rfl ?_
                        obtain ⟨t20950, e20951, h⟩ := bindS h
                        refine G.callS rfl rfl rfl rfl call10 (free_Map_TakeRun.ok (S_free_Map.mk x18967 x18971) g18966 B18969 c18970 ((a3.getD x18974.toNat (S_armoirelaw06_Op.mk 0 0 [] false)).n) e20951) ?_
                        rintro v20952 L20953 ⟨rfl, rfl⟩
                        refine G.move rfl rfl rfl rfl ?_
                        refine G.extract rfl rfl rfl rfl rfl ?_
                        refine G.extract rfl rfl rfl rfl rfl ?_
                        refine G.assign rfl rfl rfl rfl ?_
                        refine G.assign rfl rfl rfl rfl ?_
                        refine G.regionEnd ?_
                        refine G.seq ?_
                        refine G.region (l := [0, 1, 2, 3, 4, 5, 6, 7, 8]) rfl ?_
                        refine G.move rfl rfl rfl rfl ?_
                        refine G.field (off' := 1) rfl rfl rfl rfl Try.underlying30 rfl sz3 rfl rfl ?_
                        refine G.loadI (y := (a3.getD x18974.toNat (S_armoirelaw06_Op.mk 0 0 [] false)).n) rfl rfl rfl rfl ty3 (fun w hs => Rd.bk (R_armoirelaw06_Op.L_n _) hs (j := 2) rfl) ?_
                        refine G.frontAt 3 rfl ?_
                        refine G.frontAt 4 rfl ?_
                        obtain ⟨t20954, e20955, h⟩ := bindS h
                        refine G.callS rfl rfl rfl rfl call18 (armoireref06_Map_TakeRun.ok (S_armoireref06_Map.mk x18972 x18973) g913 B915 c916 ((a3.getD x18974.toNat (S_armoirelaw06_Op.mk 0 0 [] false)).n) e20955) ?_
                        rintro v20956 L20957 ⟨rfl, rfl⟩
                        refine G.move rfl rfl rfl rfl ?_
                        refine G.extract rfl rfl rfl rfl rfl ?_
                        refine G.extract rfl rfl rfl rfl rfl ?_
                        refine G.assign rfl rfl rfl rfl ?_
                        refine G.assign rfl rfl rfl rfl ?_
                        refine G.regionEnd ?_
                        refine G.region (l := [0, 1, 2, 3, 4, 5, 6, 7, 8]) rfl ?_
                        refine G.move rfl rfl rfl rfl ?_
                        refine G.move rfl rfl rfl rfl ?_
                        refine G.cmp (t20950.1 = t20954.1) rfl rfl rfl rfl rfl rfl Iff.rfl ?_
                        refine G.move rfl rfl rfl rfl ?_
                        refine G.splitP (d := 119) rfl (fun k21003 => ?_) (fun k21003 => ?_)
                        · replace h := ifT h k21003
                          refine G.move rfl rfl rfl rfl ?_
                          refine G.move rfl rfl rfl rfl ?_
                          refine G.cmp (t20950.2.1 = t20954.2.1) rfl rfl rfl rfl rfl rfl Iff.rfl ?_
                          refine G.pickT rfl rfl rfl rfl rfl ?_
                          refine G.assign rfl rfl rfl rfl ?_
                          refine G.regionEnd ?_
                          refine G.inBlock ?_
                          refine G.seq ?_
                          refine G.seq ?_
                          refine G.region (l := [0, 1, 2, 3, 4, 5, 6, 7]) rfl ?_
                          refine G.move rfl rfl rfl rfl ?_
                          refine G.not (c := decide (¬ (t20950.2.1 = t20954.2.1))) rfl rfl rfl rfl (by simp) ?_
                          refine G.move rfl rfl rfl rfl ?_
                          refine G.splitP (d := 163) rfl (fun k21002 => ?_) (fun k21002 => ?_)
                          · replace h := ifT h k21002
                            refine G.unwanted rfl rfl rfl rfl ?_
                            refine G.unwanted rfl rfl rfl rfl ?_
                            refine G.unwanted rfl rfl rfl rfl ?_
                            refine G.unwanted rfl rfl rfl rfl ?_
                            refine G.pickT rfl rfl rfl rfl rfl ?_
                            refine G.regionEnd ?_
                            refine G.condT rfl ?_
                            refine G.seq ?_
                            refine G.region (l := [0]) rfl ?_
                            refine G.assign rfl rfl rfl rfl ?_
                            refine G.regionEnd ?_
                            refine G.drop ?_
                            refine G.drop ?_
                            refine G.drop ?_
                            refine G.drop ?_
                            refine G.drop ?_
                            obtain rfl := Option.some.inj h
                            exact G.ret1 Try.func6 rfl rfl (fun w hs => ⟨_, _, rfl, ⟨rfl, rfl⟩, hs⟩)
                          · replace h := ifF h k21002
                            refine G.move rfl rfl rfl rfl ?_
                            refine G.move rfl rfl rfl rfl ?_
                            refine G.frontAt 1 rfl ?_
                            refine G.frontAt 1 rfl ?_
                            refine G.frontAt 3 rfl ?_
                            refine G.frontAt 3 rfl ?_
                            obtain ⟨t20962, e20963, h⟩ := bindS h
                            refine G.callS rfl rfl rfl rfl call21 (armoirelaw06_same.ok t20950.2.2 g18966 B18969 c18970 t20954.2.2 g913 B915 c916 e20963) ?_
                            rintro v20964 L20965 ⟨rfl, rfl⟩
                            refine G.not rfl rfl rfl rfl rfl ?_
                            refine G.pickF rfl rfl rfl rfl rfl ?_
                            refine G.regionEnd ?_
                            refine G.cond rfl (fun k21001 => ?_) (fun k21001 => ?_)
                            · replace h := ifT h k21001
                              refine G.seq ?_
                              refine G.region (l := [0]) rfl ?_
                              refine G.assign rfl rfl rfl rfl ?_
                              refine G.regionEnd ?_
                              refine G.drop ?_
                              refine G.drop ?_
                              refine G.drop ?_
                              refine G.drop ?_
                              refine G.drop ?_
                              obtain rfl := Option.some.inj h
                              exact G.ret1 Try.func6 rfl rfl (fun w hs => ⟨_, _, rfl, ⟨rfl, rfl⟩, hs⟩)
                            · replace h := ifFB h k21001
                              refine G.skip ?_
                              refine G.seq ?_
                              refine G.region (l := [0, 1]) rfl ?_
                              refine G.field (off' := 3) rfl rfl rfl rfl Try.underlying30 rfl sz4 rfl rfl ?_
                              refine G.loadB (y := (a3.getD x18974.toNat (S_armoirelaw06_Op.mk 0 0 [] false)).clone) rfl rfl rfl rfl ty4 (fun w hs => Rd.bk (R_armoirelaw06_Op.L_clone _) hs (j := 4) rfl) ?_
                              refine G.regionEnd ?_
                              refine G.cond rfl (fun k21000 => ?_) (fun k21000 => ?_)
                              · replace h := ifT h k21000
                                refine G.seq ?_
                                refine G.region (l := [0, 1, 2]) rfl ?_
                                refine G.move rfl rfl rfl rfl ?_
                                refine G.frontAt 1 rfl ?_
                                refine G.frontAt 1 rfl ?_
                                obtain ⟨t20983, e20984, h⟩ := bindS h
                                refine G.callS rfl rfl rfl rfl call22 (free_Map_Clone.ok t20950.2.2 g18966 B18969 c18970 e20984) ?_
                                rintro v20985 L20986 ⟨g20987, B20989, c20990, rfl, rfl⟩
                                refine G.assign rfl rfl rfl rfl ?_
                                refine G.regionEnd ?_
                                refine G.seq ?_
                                refine G.seq ?_
                                refine G.region (l := [0, 1]) rfl ?_
                                refine G.move rfl rfl rfl rfl ?_
                                refine G.eqPtr (a := (some ⟨g20987, 0, none⟩)) (b := none) (r := false) rfl rfl rfl rfl rfl Try.underlying24 (by simp) ?_
                                refine G.regionEnd ?_
                                refine G.condF rfl ?_
                                refine G.skip ?_
                                refine G.seq ?_
                                refine G.region (l := [0, 1]) rfl ?_
                                refine G.move rfl rfl rfl rfl ?_
                                refine G.frontAt 1 rfl ?_
                                refine G.frontAt 1 rfl ?_
                                obtain ⟨t20992, e20993, h⟩ := bindS h
                                refine G.callS rfl rfl rfl rfl call14 (free_Map_Take.ok t20950.2.2 g18966 B18969 c18970 e20993) ?_
                                rintro v20994 L20995 ⟨rfl, rfl⟩
                                refine G.regionEnd ?_
                                refine G.seq ?_
                                refine G.region (l := [0, 1]) rfl ?_
                                refine G.move rfl rfl rfl rfl ?_
                                refine G.frontAt 1 rfl ?_
                                refine G.frontAt 1 rfl ?_
                                obtain ⟨t20996, e20997, h⟩ := bindS h
                                refine G.callS rfl rfl rfl rfl call12 (free_Map_Sweep.ok t20992.2.2 g18966 B18969 c18970 ([] : List Int) none 0 (SlR.nil none 0) e20997) ?_
                                rintro v20998 L20999 ⟨rfl, rfl⟩
                                refine G.regionEnd ?_
                                refine G.region (l := [0, 1]) rfl ?_
                                refine G.move rfl rfl rfl rfl ?_
                                refine G.assign rfl rfl rfl rfl ?_
                                refine G.regionEnd ?_
                                refine G.inBlock ?_
                                refine G.region (l := [0, 1]) rfl ?_
                                refine G.bin (m := x18974) (n := 1) (r := wi64 (x18974 + 1)) rfl rfl rfl rfl rfl rfl rfl ?_
                                refine G.move rfl rfl rfl rfl ?_
                                refine G.regionEnd ?_
                                refine G.round ?_
                                refine G.drop ?_
                                refine G.drop ?_
                                refine G.frontAt 4 rfl ?_
                                refine G.drop ?_
                                refine G.frontAt 2 rfl ?_
                                refine G.frontAt 3 rfl ?_
                                refine G.frontAt 2 rfl ?_
                                refine G.frontAt 3 rfl ?_
                                refine G.less ?_ (ih20097  g20987 t20983.from_ B20989 c20990 t20983.kinds t20954.2.2.from_ t20954.2.2.k (wi64 (x18974 + 1)) h)
                                exact ⟨rfl, rfl, rfl, rfl, rfl, rfl, trivial⟩
                              · replace h := ifFB h k21000
                                refine G.skip ?_
                                refine G.inBlock ?_
                                refine G.region (l := [0, 1]) rfl ?_
                                refine G.bin (m := x18974) (n := 1) (r := wi64 (x18974 + 1)) rfl rfl rfl rfl rfl rfl rfl ?_
                                refine G.move rfl rfl rfl rfl ?_
                                refine G.regionEnd ?_
                                refine G.round ?_
                                refine G.frontAt 4 rfl ?_
                                refine G.drop ?_
                                refine G.frontAt 2 rfl ?_
                                refine G.frontAt 3 rfl ?_
                                refine G.frontAt 2 rfl ?_
                                refine G.frontAt 3 rfl ?_
                                refine G.less ?_ (ih20097  g18966 t20950.2.2.from_ B18969 c18970 t20950.2.2.kinds t20954.2.2.from_ t20954.2.2.k (wi64 (x18974 + 1)) h)
                                exact ⟨rfl, rfl, rfl, rfl, rfl, rfl, trivial⟩
                        · replace h := ifF h k21003
                          refine G.unwanted rfl rfl rfl rfl ?_
                          refine G.unwanted rfl rfl rfl rfl ?_
                          refine G.unwanted rfl rfl rfl rfl ?_
                          refine G.pickF rfl rfl rfl rfl rfl ?_
                          refine G.assign rfl rfl rfl rfl ?_
                          refine G.regionEnd ?_
                          refine G.frontAt 4 rfl ?_
                          refine G.frontAt 1 rfl ?_
                          refine G.frontAt 2 rfl ?_
                          refine G.frontAt 3 rfl ?_
                          refine G.frontAt 4 rfl ?_
                          refine G.less ?_ (J20619  t20950.2.2.from_ t20950.2.2.kinds t20954.2.2.from_ t20954.2.2.k false h)
                          exact ⟨rfl, rfl, rfl, rfl, rfl, rfl, rfl, rfl, trivial⟩
                      · replace h := ifF h k21231
                        refine G.seq ?_
                        refine G.region (l := [0, 1]) rfl ?_
                        refine G.cmp (((a3.getD x18974.toNat (S_armoirelaw06_Op.mk 0 0 [] false)).do_) = 2) rfl rfl rfl rfl rfl rfl Iff.rfl ?_
                        refine G.assign rfl rfl rfl rfl ?_
                        refine G.regionEnd ?_
                        refine G.condP rfl (fun k21230 => ?_) (fun k21230 => ?_)
                        · replace h := ifT h k21230
                          obtain ⟨t21109, e21110, h⟩ := bindS h
                          obtain ⟨t21113, e21114, h⟩ := bindS h
                          refine G.draw [[], [], [1], [0, 2], [], [], [5], [4, 6, 3], [3, 7], [8, 7, 0, 1, 2, 3, 4, 5, 6, 7, 8]] 10 [0, 1, 2, 3, 4, 5, 6, 7, 8, 9] [0, 0, 1, 2, 0, 0, 1, 3, 4, 5] [0, 0, 1, 2, 0, 0, 1, 3, 4, 5] rfl (by kernel_rfl) (by kernel_rfl) (by kernel_rfl) (by kernel_rfl) ?_
                          intro C21117 ops21118 k21119
                          let R21120 : Reg := armoirelaw06_FreeGoes.reg6_28 [(9, .bool t1), (11, .pointer (some ⟨g18966, 0, none⟩)), (13, .pointer (some ⟨g913, 0, none⟩)), (17, .pointer (some ⟨g20117, 0, none⟩)), (18, .bool true), (72, .slice A3 a3.length n3), (73, .int .i64 (a3.length : Int)), (74, .int .i64 x18974)]
                          have P21123 : ∀ (m : Nat) (L : List Bool) (A : List (Nat × Value)) (l : List Nat), L.length = R21120.ds.length → R21120.Phi [some (.pointer (some ⟨g18966, 0, none⟩)), some (.pointer (some ⟨g20117, 1, none⟩)), some (.int .i64 ((a3.getD x18974.toNat (S_armoirelaw06_Op.mk 0 0 [] false)).n)), some (.int .i64 t21109.1), some (.pointer (some ⟨g913, 0, none⟩)), some (.pointer (some ⟨g20117, 1, none⟩)), some (.int .i64 ((a3.getD x18974.toNat (S_armoirelaw06_Op.mk 0 0 [] false)).n)), some (.int .i64 t21113.1), some (.bool (decide (t21109.1 = t21113.1))), some (.bool (decide (t21109.1 = t21113.1)))] [0, 1, 2, 3, 4, 5, 6, 7] [] L A → left L = m → Ord R21120.ds m L l → G C21117 H A (BK 59 K_R_armoireref06_Map g913 (R_armoireref06_Map.mk t21113.2.from_ (B915, t21113.2.k.length, c916)) :: OS 3 (Kd.int .i64) B915 c916 t21113.2.k :: BK 53 K_R_free_Map g18966 (R_free_Map.mk t21109.2.from_ (B18969, t21109.2.kinds.length, c18970)) :: OS 54 Kd.u8 B18969 c18970 t21109.2.kinds :: BK 30 K_R_armoirelaw06_Op g20117 (R_armoirelaw06_Op.mk ((a3.getD x18974.toNat (S_armoirelaw06_Op.mk 0 0 [] false)).do_) ((a3.getD x18974.toNat (S_armoirelaw06_Op.mk 0 0 [] false)).n) (B20114, ((a3.getD x18974.toNat (S_armoirelaw06_Op.mk 0 0 [] false)).keep).length, c20115) ((a3.getD x18974.toNat (S_armoirelaw06_Op.mk 0 0 [] false)).clone)) :: Fr) (.inRegion ops21118 l :: k21119) := by
                            refine G.phase R21120 [some (.pointer (some ⟨g18966, 0, none⟩)), some (.pointer (some ⟨g20117, 1, none⟩)), some (.int .i64 ((a3.getD x18974.toNat (S_armoirelaw06_Op.mk 0 0 [] false)).n)), some (.int .i64 t21109.1), some (.pointer (some ⟨g913, 0, none⟩)), some (.pointer (some ⟨g20117, 1, none⟩)), some (.int .i64 ((a3.getD x18974.toNat (S_armoirelaw06_Op.mk 0 0 [] false)).n)), some (.int .i64 t21113.1), some (.bool (decide (t21109.1 = t21113.1))), some (.bool (decide (t21109.1 = t21113.1)))] [8, 9] [] [0, 1, 2, 3, 4, 5, 6, 7] [] (armoirelaw06_FreeGoes.reg6_28_ap _) rfl rfl ⟨⟨[.op 3, .op 7], 134, .bool (decide (t21109.1 = t21113.1)), [(129, .int .i64 t21109.1), (133, .int .i64 t21113.1)], ⟨rfl, rfl, rfl, rfl, ?_⟩⟩, ⟨⟨[.op 8], 18, .bool (decide (t21109.1 = t21113.1)), [(134, .bool (decide (t21109.1 = t21113.1)))], ⟨rfl, rfl, rfl, rfl, ?_⟩⟩, trivial⟩⟩ trivial ?_
                            · intro X rest g
                              refine G.cmp (t21109.1 = t21113.1) rfl rfl rfl rfl rfl rfl Iff.rfl ?_
                              exact g
                            · intro X rest g
                              refine G.assign rfl rfl rfl rfl ?_
                              exact g
                            · intro A L hlen hp h0
                              refine G.lessSub (B := [(9, .bool t1), (11, .pointer (some ⟨g18966, 0, none⟩)), (13, .pointer (some ⟨g913, 0, none⟩)), (17, .pointer (some ⟨g20117, 0, none⟩)), (18, .bool (decide (t21109.1 = t21113.1))), (72, .slice A3 a3.length n3), (73, .int .i64 (a3.length : Int)), (74, .int .i64 x18974)]) (hp.fin hlen h0 (src := [.base 9, .base 11, .base 13, .base 17, .op 9, .base 72, .base 73, .base 74]) rfl) ?_
                              refine G.regionEnd ?_
                              refine G.frontAt 4 rfl ?_
                              refine G.frontAt 1 rfl ?_
                              refine G.frontAt 2 rfl ?_
                              refine G.frontAt 3 rfl ?_
                              refine G.frontAt 4 rfl ?_
                              refine G.less ?_ (J20670  t21109.2.from_ t21109.2.kinds t21113.2.from_ t21113.2.k (decide (t21109.1 = t21113.1)) h)
                              exact ⟨rfl, rfl, rfl, rfl, rfl, rfl, rfl, rfl, trivial⟩
                          have P21122 : ∀ (m : Nat) (L : List Bool) (A : List (Nat × Value)) (l : List Nat), L.length = R21120.ds.length → R21120.Phi [some (.pointer (some ⟨g18966, 0, none⟩)), some (.pointer (some ⟨g20117, 1, none⟩)), some (.int .i64 ((a3.getD x18974.toNat (S_armoirelaw06_Op.mk 0 0 [] false)).n)), some (.int .i64 t21109.1), some (.pointer (some ⟨g913, 0, none⟩)), some (.pointer (some ⟨g20117, 1, none⟩)), some (.int .i64 ((a3.getD x18974.toNat (S_armoirelaw06_Op.mk 0 0 [] false)).n)), none, none, none] [0, 1, 2, 3] [7, 8, 9] L A → left L = m → Ord R21120.ds m L l → G C21117 H A (BK 53 K_R_free_Map g18966 (R_free_Map.mk t21109.2.from_ (B18969, t21109.2.kinds.length, c18970)) :: OS 54 Kd.u8 B18969 c18970 t21109.2.kinds :: BK 30 K_R_armoirelaw06_Op g20117 (R_armoirelaw06_Op.mk ((a3.getD x18974.toNat (S_armoirelaw06_Op.mk 0 0 [] false)).do_) ((a3.getD x18974.toNat (S_armoirelaw06_Op.mk 0 0 [] false)).n) (B20114, ((a3.getD x18974.toNat (S_armoirelaw06_Op.mk 0 0 [] false)).keep).length, c20115) ((a3.getD x18974.toNat (S_armoirelaw06_Op.mk 0 0 [] false)).clone)) :: OS 3 (Kd.int .i64) B915 c916 x18973 :: BK 59 K_R_armoireref06_Map g913 (R_armoireref06_Map.mk x18972 (B915, x18973.length, c916)) :: Fr) (.inRegion ops21118 l :: k21119) := by
                            refine G.phase R21120 [some (.pointer (some ⟨g18966, 0, none⟩)), some (.pointer (some ⟨g20117, 1, none⟩)), some (.int .i64 ((a3.getD x18974.toNat (S_armoirelaw06_Op.mk 0 0 [] false)).n)), some (.int .i64 t21109.1), some (.pointer (some ⟨g913, 0, none⟩)), some (.pointer (some ⟨g20117, 1, none⟩)), some (.int .i64 ((a3.getD x18974.toNat (S_armoirelaw06_Op.mk 0 0 [] false)).n)), none, none, none] [4, 5, 6] [7] [0, 1, 2, 3] [7, 8, 9] (armoirelaw06_FreeGoes.reg6_28_ap _) rfl rfl ⟨⟨[.base 13], 130, .pointer (some ⟨g913, 0, none⟩), [(13, .pointer (some ⟨g913, 0, none⟩))], ⟨rfl, rfl, rfl, rfl, ?_⟩⟩, ⟨⟨[.base 17], 131, .pointer (some ⟨g20117, 1, none⟩), [(17, .pointer (some ⟨g20117, 0, none⟩))], ⟨rfl, rfl, rfl, rfl, ?_⟩⟩, ⟨⟨[.op 5], 132, .int .i64 ((a3.getD x18974.toNat (S_armoirelaw06_Op.mk 0 0 [] false)).n), [(131, .pointer (some ⟨g20117, 1, none⟩))], ⟨rfl, rfl, rfl, rfl, ?_⟩⟩, trivial⟩⟩⟩ ⟨⟨[.op 4, .op 6], [(130, .pointer (some ⟨g913, 0, none⟩)), (132, .int .i64 ((a3.getD x18974.toNat (S_armoirelaw06_Op.mk 0 0 [] false)).n))], ⟨rfl, rfl, ?_⟩⟩, trivial⟩ ?_
                            · intro X rest g
                              refine G.move rfl rfl rfl rfl ?_
                              exact g
                            · intro X rest g
                              refine G.field (off' := 1) rfl rfl rfl rfl Try.underlying30 rfl sz3 rfl rfl ?_
                              exact g
                            · intro X rest g
                              refine G.loadI (y := (a3.getD x18974.toNat (S_armoirelaw06_Op.mk 0 0 [] false)).n) rfl rfl rfl rfl ty3 (fun w hs => Rd.bk (R_armoirelaw06_Op.L_n _) hs (j := 2) rfl) ?_
                              exact g
                            · intro X rest L m hlen hp hil hd hs hm ho
                              refine G.frontAt 3 rfl ?_
                              refine G.frontAt 4 rfl ?_
                              refine G.callBO (m := 2) rfl rfl rfl rfl call19 rfl (fun H1 hle hsl => (armoireref06_Map_Turn.ok (S_armoireref06_Map.mk x18972 x18973) g913 B915 c916 ((a3.getD x18974.toNat (S_armoirelaw06_Op.mk 0 0 [] false)).n) 0 e21114).ctr) (by rintro v H' L' ⟨rfl, rfl⟩; exact (Free.cons (Free.bk flat_R_armoireref06_Map) (Free.cons (Free.os Flat.I) Free.nil))) ?_
                              rintro v21115 L21116 ⟨_, ⟨rfl, rfl⟩⟩
                              refine G.frontAt 4 rfl ?_
                              refine G.frontAt 4 rfl ?_
                              refine G.frontAt 4 rfl ?_
                              refine G.frontAt 4 rfl ?_
                              refine G.frontAt 4 rfl ?_
                              exact P21123 m _ _ rest (by rw [List.length_set]; exact hlen) (hp.stepS2 2 (armoirelaw06_FreeGoes.reg6_28_ap _) hil hd hs (by repeat (first | exact trivial | refine And.intro rfl ?_)) rfl rfl rfl rfl) hm ho
                            · intro A L hlen hp h0
                              exact (hp.notYet hlen h0 7 rfl rfl).elim
                          have P21121 : ∀ (m : Nat) (L : List Bool) (A : List (Nat × Value)) (l : List Nat), L.length = R21120.ds.length → R21120.Phi [some (.pointer (some ⟨g18966, 0, none⟩)), some (.pointer (some ⟨g20117, 1, none⟩)), some (.int .i64 ((a3.getD x18974.toNat (S_armoirelaw06_Op.mk 0 0 [] false)).n)), none, some (.pointer (some ⟨g913, 0, none⟩)), some (.pointer (some ⟨g20117, 1, none⟩)), some (.int .i64 ((a3.getD x18974.toNat (S_armoirelaw06_Op.mk 0 0 [] false)).n)), none, none, none] [] [3, 7, 8, 9] L A → left L = m → Ord R21120.ds m L l → G C21117 H A (BK 30 K_R_armoirelaw06_Op g20117 (R_armoirelaw06_Op.mk ((a3.getD x18974.toNat (S_armoirelaw06_Op.mk 0 0 [] false)).do_) ((a3.getD x18974.toNat (S_armoirelaw06_Op.mk 0 0 [] false)).n) (B20114, ((a3.getD x18974.toNat (S_armoirelaw06_Op.mk 0 0 [] false)).keep).length, c20115) ((a3.getD x18974.toNat (S_armoirelaw06_Op.mk 0 0 [] false)).clone)) :: OS 54 Kd.u8 B18969 c18970 x18971 :: BK 53 K_R_free_Map g18966 (R_free_Map.mk x18967 (B18969, x18971.length, c18970)) :: OS 3 (Kd.int .i64) B915 c916 x18973 :: BK 59 K_R_armoireref06_Map g913 (R_armoireref06_Map.mk x18972 (B915, x18973.length, c916)) :: Fr) (.inRegion ops21118 l :: k21119) := by
                            refine G.phase R21120 [some (.pointer (some ⟨g18966, 0, none⟩)), some (.pointer (some ⟨g20117, 1, none⟩)), some (.int .i64 ((a3.getD x18974.toNat (S_armoirelaw06_Op.mk 0 0 [] false)).n)), none, some (.pointer (some ⟨g913, 0, none⟩)), some (.pointer (some ⟨g20117, 1, none⟩)), some (.int .i64 ((a3.getD x18974.toNat (S_armoirelaw06_Op.mk 0 0 [] false)).n)), none, none, none] [0, 1, 2, 4, 5, 6] [3] [] [3, 7, 8, 9] (armoirelaw06_FreeGoes.reg6_28_ap _) rfl rfl ⟨⟨[.base 11], 126, .pointer (some ⟨g18966, 0, none⟩), [(11, .pointer (some ⟨g18966, 0, none⟩))], ⟨rfl, rfl, rfl, rfl, ?_⟩⟩, ⟨⟨[.base 17], 127, .pointer (some ⟨g20117, 1, none⟩), [(17, .pointer (some ⟨g20117, 0, none⟩))], ⟨rfl, rfl, rfl, rfl, ?_⟩⟩, ⟨⟨[.op 1], 128, .int .i64 ((a3.getD x18974.toNat (S_armoirelaw06_Op.mk 0 0 [] false)).n), [(127, .pointer (some ⟨g20117, 1, none⟩))], ⟨rfl, rfl, rfl, rfl, ?_⟩⟩, ⟨⟨[.base 13], 130, .pointer (some ⟨g913, 0, none⟩), [(13, .pointer (some ⟨g913, 0, none⟩))], ⟨rfl, rfl, rfl, rfl, ?_⟩⟩, ⟨⟨[.base 17], 131, .pointer (some ⟨g20117, 1, none⟩), [(17, .pointer (some ⟨g20117, 0, none⟩))], ⟨rfl, rfl, rfl, rfl, ?_⟩⟩, ⟨⟨[.op 5], 132, .int .i64 ((a3.getD x18974.toNat (S_armoirelaw06_Op.mk 0 0 [] false)).n), [(131, .pointer (some ⟨g20117, 1, none⟩))], ⟨rfl, rfl, rfl, rfl, ?_⟩⟩, trivial⟩⟩⟩⟩⟩⟩ ⟨⟨[.op 0, .op 2], [(126, .pointer (some ⟨g18966, 0, none⟩)), (128, .int .i64 ((a3.getD x18974.toNat (S_armoirelaw06_Op.mk 0 0 [] false)).n))], ⟨rfl, rfl, ?_⟩⟩, trivial⟩ ?_
                            · intro X rest g
                              refine G.move rfl rfl rfl rfl ?_
                              exact g
                            · intro X rest g
                              refine G.field (off' := 1) rfl rfl rfl rfl Try.underlying30 rfl sz3 rfl rfl ?_
                              exact g
                            · intro X rest g
                              refine G.loadI (y := (a3.getD x18974.toNat (S_armoirelaw06_Op.mk 0 0 [] false)).n) rfl rfl rfl rfl ty3 (fun w hs => Rd.bk (R_armoirelaw06_Op.L_n _) hs (j := 0) rfl) ?_
                              exact g
                            · intro X rest g
                              refine G.move rfl rfl rfl rfl ?_
                              exact g
                            · intro X rest g
                              refine G.field (off' := 1) rfl rfl rfl rfl Try.underlying30 rfl sz3 rfl rfl ?_
                              exact g
                            · intro X rest g
                              refine G.loadI (y := (a3.getD x18974.toNat (S_armoirelaw06_Op.mk 0 0 [] false)).n) rfl rfl rfl rfl ty3 (fun w hs => Rd.bk (R_armoirelaw06_Op.L_n _) hs (j := 0) rfl) ?_
                              exact g
                            · intro X rest L m hlen hp hil hd hs hm ho
                              refine G.frontAt 1 rfl ?_
                              refine G.frontAt 2 rfl ?_
                              refine G.callBO (m := 2) rfl rfl rfl rfl call15 rfl (fun H1 hle hsl => (free_Map_Give.ok (S_free_Map.mk x18967 x18971) g18966 B18969 c18970 ((a3.getD x18974.toNat (S_armoirelaw06_Op.mk 0 0 [] false)).n) e21110).ctr) (by rintro v H' L' ⟨rfl, rfl⟩; exact (Free.cons (Free.bk flat_R_free_Map) (Free.cons (Free.os Flat.u8) Free.nil))) ?_
                              rintro v21111 L21112 ⟨_, ⟨rfl, rfl⟩⟩
                              refine G.frontAt 4 rfl ?_
                              refine G.frontAt 4 rfl ?_
                              refine G.frontAt 4 rfl ?_
                              refine G.frontAt 4 rfl ?_
                              refine G.frontAt 4 rfl ?_
                              exact P21122 m _ _ rest (by rw [List.length_set]; exact hlen) (hp.stepS2 2 (armoirelaw06_FreeGoes.reg6_28_ap _) hil hd hs (by repeat (first | exact trivial | refine And.intro rfl ?_)) rfl rfl rfl rfl) hm ho
                            · intro A L hlen hp h0
                              exact (hp.notYet hlen h0 3 rfl rfl).elim
                          intro l hl
                          exact P21121 10 (List.replicate 10 false) _ l rfl (Reg.Phi.init 10 ⟨rfl, rfl, rfl, rfl, rfl, rfl, rfl, rfl, trivial⟩) (left_rep 10) hl
                        · replace h := ifF h k21230
                          refine G.seq ?_
                          refine G.region (l := [0, 1]) rfl ?_
                          refine G.cmp (((a3.getD x18974.toNat (S_armoirelaw06_Op.mk 0 0 [] false)).do_) = 3) rfl rfl rfl rfl rfl rfl Iff.rfl ?_
                          refine G.assign rfl rfl rfl rfl ?_
                          refine G.regionEnd ?_
                          refine G.condP rfl (fun k21229 => ?_) (fun k21229 => ?_)
                          · replace h := ifT h k21229
                            obtain ⟨t21172, e21173, h⟩ := bindS h
                            obtain ⟨t21176, e21177, h⟩ := bindS h
                            refine G.draw [[], [], [1], [0, 2], [], [], [5], [4, 6, 3], [3, 7], [8, 7, 0, 1, 2, 3, 4, 5, 6, 7, 8]] 10 [0, 1, 2, 3, 4, 5, 6, 7, 8, 9] [0, 0, 1, 2, 0, 0, 1, 3, 4, 5] [0, 0, 1, 2, 0, 0, 1, 3, 4, 5] rfl (by kernel_rfl) (by kernel_rfl) (by kernel_rfl) (by kernel_rfl) ?_
                            intro C21180 ops21181 k21182
                            let R21183 : Reg := armoirelaw06_FreeGoes.reg6_30 [(9, .bool t1), (11, .pointer (some ⟨g18966, 0, none⟩)), (13, .pointer (some ⟨g913, 0, none⟩)), (17, .pointer (some ⟨g20117, 0, none⟩)), (18, .bool true), (72, .slice A3 a3.length n3), (73, .int .i64 (a3.length : Int)), (74, .int .i64 x18974)]
                            have P21186 : ∀ (m : Nat) (L : List Bool) (A : List (Nat × Value)) (l : List Nat), L.length = R21183.ds.length → R21183.Phi [some (.pointer (some ⟨g18966, 0, none⟩)), some (.pointer (some ⟨g20117, 1, none⟩)), some (.int .i64 ((a3.getD x18974.toNat (S_armoirelaw06_Op.mk 0 0 [] false)).n)), some (.int .i64 t21172.1), some (.pointer (some ⟨g913, 0, none⟩)), some (.pointer (some ⟨g20117, 1, none⟩)), some (.int .i64 ((a3.getD x18974.toNat (S_armoirelaw06_Op.mk 0 0 [] false)).n)), some (.int .i64 t21176.1), some (.bool (decide (t21172.1 = t21176.1))), some (.bool (decide (t21172.1 = t21176.1)))] [0, 1, 2, 3, 4, 5, 6, 7] [] L A → left L = m → Ord R21183.ds m L l → G C21180 H A (BK 59 K_R_armoireref06_Map g913 (R_armoireref06_Map.mk t21176.2.from_ (B915, t21176.2.k.length, c916)) :: OS 3 (Kd.int .i64) B915 c916 t21176.2.k :: BK 53 K_R_free_Map g18966 (R_free_Map.mk t21172.2.from_ (B18969, t21172.2.kinds.length, c18970)) :: OS 54 Kd.u8 B18969 c18970 t21172.2.kinds :: BK 30 K_R_armoirelaw06_Op g20117 (R_armoirelaw06_Op.mk ((a3.getD x18974.toNat (S_armoirelaw06_Op.mk 0 0 [] false)).do_) ((a3.getD x18974.toNat (S_armoirelaw06_Op.mk 0 0 [] false)).n) (B20114, ((a3.getD x18974.toNat (S_armoirelaw06_Op.mk 0 0 [] false)).keep).length, c20115) ((a3.getD x18974.toNat (S_armoirelaw06_Op.mk 0 0 [] false)).clone)) :: Fr) (.inRegion ops21181 l :: k21182) := by
                              refine G.phase R21183 [some (.pointer (some ⟨g18966, 0, none⟩)), some (.pointer (some ⟨g20117, 1, none⟩)), some (.int .i64 ((a3.getD x18974.toNat (S_armoirelaw06_Op.mk 0 0 [] false)).n)), some (.int .i64 t21172.1), some (.pointer (some ⟨g913, 0, none⟩)), some (.pointer (some ⟨g20117, 1, none⟩)), some (.int .i64 ((a3.getD x18974.toNat (S_armoirelaw06_Op.mk 0 0 [] false)).n)), some (.int .i64 t21176.1), some (.bool (decide (t21172.1 = t21176.1))), some (.bool (decide (t21172.1 = t21176.1)))] [8, 9] [] [0, 1, 2, 3, 4, 5, 6, 7] [] (armoirelaw06_FreeGoes.reg6_30_ap _) rfl rfl ⟨⟨[.op 3, .op 7], 145, .bool (decide (t21172.1 = t21176.1)), [(140, .int .i64 t21172.1), (144, .int .i64 t21176.1)], ⟨rfl, rfl, rfl, rfl, ?_⟩⟩, ⟨⟨[.op 8], 18, .bool (decide (t21172.1 = t21176.1)), [(145, .bool (decide (t21172.1 = t21176.1)))], ⟨rfl, rfl, rfl, rfl, ?_⟩⟩, trivial⟩⟩ trivial ?_
                              · intro X rest g
                                refine G.cmp (t21172.1 = t21176.1) rfl rfl rfl rfl rfl rfl Iff.rfl ?_
                                exact g
                              · intro X rest g
                                refine G.assign rfl rfl rfl rfl ?_
                                exact g
                              · intro A L hlen hp h0
                                refine G.lessSub (B := [(9, .bool t1), (11, .pointer (some ⟨g18966, 0, none⟩)), (13, .pointer (some ⟨g913, 0, none⟩)), (17, .pointer (some ⟨g20117, 0, none⟩)), (18, .bool (decide (t21172.1 = t21176.1))), (72, .slice A3 a3.length n3), (73, .int .i64 (a3.length : Int)), (74, .int .i64 x18974)]) (hp.fin hlen h0 (src := [.base 9, .base 11, .base 13, .base 17, .op 9, .base 72, .base 73, .base 74]) rfl) ?_
                                refine G.regionEnd ?_
                                refine G.frontAt 4 rfl ?_
                                refine G.frontAt 1 rfl ?_
                                refine G.frontAt 2 rfl ?_
                                refine G.frontAt 3 rfl ?_
                                refine G.frontAt 4 rfl ?_
                                refine G.less ?_ (J20670  t21172.2.from_ t21172.2.kinds t21176.2.from_ t21176.2.k (decide (t21172.1 = t21176.1)) h)
                                exact ⟨rfl, rfl, rfl, rfl, rfl, rfl, rfl, rfl, trivial⟩
                            have P21185 : ∀ (m : Nat) (L : List Bool) (A : List (Nat × Value)) (l : List Nat), L.length = R21183.ds.length → R21183.Phi [some (.pointer (some ⟨g18966, 0, none⟩)), some (.pointer (some ⟨g20117, 1, none⟩)), some (.int .i64 ((a3.getD x18974.toNat (S_armoirelaw06_Op.mk 0 0 [] false)).n)), some (.int .i64 t21172.1), some (.pointer (some ⟨g913, 0, none⟩)), some (.pointer (some ⟨g20117, 1, none⟩)), some (.int .i64 ((a3.getD x18974.toNat (S_armoirelaw06_Op.mk 0 0 [] false)).n)), none, none, none] [0, 1, 2, 3] [7, 8, 9] L A → left L = m → Ord R21183.ds m L l → G C21180 H A (BK 53 K_R_free_Map g18966 (R_free_Map.mk t21172.2.from_ (B18969, t21172.2.kinds.length, c18970)) :: OS 54 Kd.u8 B18969 c18970 t21172.2.kinds :: BK 30 K_R_armoirelaw06_Op g20117 (R_armoirelaw06_Op.mk ((a3.getD x18974.toNat (S_armoirelaw06_Op.mk 0 0 [] false)).do_) ((a3.getD x18974.toNat (S_armoirelaw06_Op.mk 0 0 [] false)).n) (B20114, ((a3.getD x18974.toNat (S_armoirelaw06_Op.mk 0 0 [] false)).keep).length, c20115) ((a3.getD x18974.toNat (S_armoirelaw06_Op.mk 0 0 [] false)).clone)) :: OS 3 (Kd.int .i64) B915 c916 x18973 :: BK 59 K_R_armoireref06_Map g913 (R_armoireref06_Map.mk x18972 (B915, x18973.length, c916)) :: Fr) (.inRegion ops21181 l :: k21182) := by
                              refine G.phase R21183 [some (.pointer (some ⟨g18966, 0, none⟩)), some (.pointer (some ⟨g20117, 1, none⟩)), some (.int .i64 ((a3.getD x18974.toNat (S_armoirelaw06_Op.mk 0 0 [] false)).n)), some (.int .i64 t21172.1), some (.pointer (some ⟨g913, 0, none⟩)), some (.pointer (some ⟨g20117, 1, none⟩)), some (.int .i64 ((a3.getD x18974.toNat (S_armoirelaw06_Op.mk 0 0 [] false)).n)), none, none, none] [4, 5, 6] [7] [0, 1, 2, 3] [7, 8, 9] (armoirelaw06_FreeGoes.reg6_30_ap _) rfl rfl ⟨⟨[.base 13], 141, .pointer (some ⟨g913, 0, none⟩), [(13, .pointer (some ⟨g913, 0, none⟩))], ⟨rfl, rfl, rfl, rfl, ?_⟩⟩, ⟨⟨[.base 17], 142, .pointer (some ⟨g20117, 1, none⟩), [(17, .pointer (some ⟨g20117, 0, none⟩))], ⟨rfl, rfl, rfl, rfl, ?_⟩⟩, ⟨⟨[.op 5], 143, .int .i64 ((a3.getD x18974.toNat (S_armoirelaw06_Op.mk 0 0 [] false)).n), [(142, .pointer (some ⟨g20117, 1, none⟩))], ⟨rfl, rfl, rfl, rfl, ?_⟩⟩, trivial⟩⟩⟩ ⟨⟨[.op 4, .op 6], [(141, .pointer (some ⟨g913, 0, none⟩)), (143, .int .i64 ((a3.getD x18974.toNat (S_armoirelaw06_Op.mk 0 0 [] false)).n))], ⟨rfl, rfl, ?_⟩⟩, trivial⟩ ?_
                              · intro X rest g
                                refine G.move rfl rfl rfl rfl ?_
                                exact g
                              · intro X rest g
                                refine G.field (off' := 1) rfl rfl rfl rfl Try.underlying30 rfl sz3 rfl rfl ?_
                                exact g
                              · intro X rest g
                                refine G.loadI (y := (a3.getD x18974.toNat (S_armoirelaw06_Op.mk 0 0 [] false)).n) rfl rfl rfl rfl ty3 (fun w hs => Rd.bk (R_armoirelaw06_Op.L_n _) hs (j := 2) rfl) ?_
                                exact g
                              · intro X rest L m hlen hp hil hd hs hm ho
                                refine G.frontAt 3 rfl ?_
                                refine G.frontAt 4 rfl ?_
                                refine G.callBO (m := 2) rfl rfl rfl rfl call19 rfl (fun H1 hle hsl => (armoireref06_Map_Turn.ok (S_armoireref06_Map.mk x18972 x18973) g913 B915 c916 ((a3.getD x18974.toNat (S_armoirelaw06_Op.mk 0 0 [] false)).n) 2 e21177).ctr) (by rintro v H' L' ⟨rfl, rfl⟩; exact (Free.cons (Free.bk flat_R_armoireref06_Map) (Free.cons (Free.os Flat.I) Free.nil))) ?_
                                rintro v21178 L21179 ⟨_, ⟨rfl, rfl⟩⟩
                                refine G.frontAt 4 rfl ?_
                                refine G.frontAt 4 rfl ?_
                                refine G.frontAt 4 rfl ?_
                                refine G.frontAt 4 rfl ?_
                                refine G.frontAt 4 rfl ?_
                                exact P21186 m _ _ rest (by rw [List.length_set]; exact hlen) (hp.stepS2 2 (armoirelaw06_FreeGoes.reg6_30_ap _) hil hd hs (by repeat (first | exact trivial | refine And.intro rfl ?_)) rfl rfl rfl rfl) hm ho
                              · intro A L hlen hp h0
                                exact (hp.notYet hlen h0 7 rfl rfl).elim
                            have P21184 : ∀ (m : Nat) (L : List Bool) (A : List (Nat × Value)) (l : List Nat), L.length = R21183.ds.length → R21183.Phi [some (.pointer (some ⟨g18966, 0, none⟩)), some (.pointer (some ⟨g20117, 1, none⟩)), some (.int .i64 ((a3.getD x18974.toNat (S_armoirelaw06_Op.mk 0 0 [] false)).n)), none, some (.pointer (some ⟨g913, 0, none⟩)), some (.pointer (some ⟨g20117, 1, none⟩)), some (.int .i64 ((a3.getD x18974.toNat (S_armoirelaw06_Op.mk 0 0 [] false)).n)), none, none, none] [] [3, 7, 8, 9] L A → left L = m → Ord R21183.ds m L l → G C21180 H A (BK 30 K_R_armoirelaw06_Op g20117 (R_armoirelaw06_Op.mk ((a3.getD x18974.toNat (S_armoirelaw06_Op.mk 0 0 [] false)).do_) ((a3.getD x18974.toNat (S_armoirelaw06_Op.mk 0 0 [] false)).n) (B20114, ((a3.getD x18974.toNat (S_armoirelaw06_Op.mk 0 0 [] false)).keep).length, c20115) ((a3.getD x18974.toNat (S_armoirelaw06_Op.mk 0 0 [] false)).clone)) :: OS 54 Kd.u8 B18969 c18970 x18971 :: BK 53 K_R_free_Map g18966 (R_free_Map.mk x18967 (B18969, x18971.length, c18970)) :: OS 3 (Kd.int .i64) B915 c916 x18973 :: BK 59 K_R_armoireref06_Map g913 (R_armoireref06_Map.mk x18972 (B915, x18973.length, c916)) :: Fr) (.inRegion ops21181 l :: k21182) := by
                              refine G.phase R21183 [some (.pointer (some ⟨g18966, 0, none⟩)), some (.pointer (some ⟨g20117, 1, none⟩)), some (.int .i64 ((a3.getD x18974.toNat (S_armoirelaw06_Op.mk 0 0 [] false)).n)), none, some (.pointer (some ⟨g913, 0, none⟩)), some (.pointer (some ⟨g20117, 1, none⟩)), some (.int .i64 ((a3.getD x18974.toNat (S_armoirelaw06_Op.mk 0 0 [] false)).n)), none, none, none] [0, 1, 2, 4, 5, 6] [3] [] [3, 7, 8, 9] (armoirelaw06_FreeGoes.reg6_30_ap _) rfl rfl ⟨⟨[.base 11], 137, .pointer (some ⟨g18966, 0, none⟩), [(11, .pointer (some ⟨g18966, 0, none⟩))], ⟨rfl, rfl, rfl, rfl, ?_⟩⟩, ⟨⟨[.base 17], 138, .pointer (some ⟨g20117, 1, none⟩), [(17, .pointer (some ⟨g20117, 0, none⟩))], ⟨rfl, rfl, rfl, rfl, ?_⟩⟩, ⟨⟨[.op 1], 139, .int .i64 ((a3.getD x18974.toNat (S_armoirelaw06_Op.mk 0 0 [] false)).n), [(138, .pointer (some ⟨g20117, 1, none⟩))], ⟨rfl, rfl, rfl, rfl, ?_⟩⟩, ⟨⟨[.base 13], 141, .pointer (some ⟨g913, 0, none⟩), [(13, .pointer (some ⟨g913, 0, none⟩))], ⟨rfl, rfl, rfl, rfl, ?_⟩⟩, ⟨⟨[.base 17], 142, .pointer (some ⟨g20117, 1, none⟩), [(17, .pointer (some ⟨g20117, 0, none⟩))], ⟨rfl, rfl, rfl, rfl, ?_⟩⟩, ⟨⟨[.op 5], 143, .int .i64 ((a3.getD x18974.toNat (S_armoirelaw06_Op.mk 0 0 [] false)).n), [(142, .pointer (some ⟨g20117, 1, none⟩))], ⟨rfl, rfl, rfl, rfl, ?_⟩⟩, trivial⟩⟩⟩⟩⟩⟩ ⟨⟨[.op 0, .op 2], [(137, .pointer (some ⟨g18966, 0, none⟩)), (139, .int .i64 ((a3.getD x18974.toNat (S_armoirelaw06_Op.mk 0 0 [] false)).n))], ⟨rfl, rfl, ?_⟩⟩, trivial⟩ ?_
                              · intro X rest g
                                refine G.move rfl rfl rfl rfl ?_
                                exact g
                              · intro X rest g
                                refine G.field (off' := 1) rfl rfl rfl rfl Try.underlying30 rfl sz3 rfl rfl ?_
                                exact g
                              · intro X rest g
                                refine G.loadI (y := (a3.getD x18974.toNat (S_armoirelaw06_Op.mk 0 0 [] false)).n) rfl rfl rfl rfl ty3 (fun w hs => Rd.bk (R_armoirelaw06_Op.L_n _) hs (j := 0) rfl) ?_
                                exact g
                              · intro X rest g
                                refine G.move rfl rfl rfl rfl ?_
                                exact g
                              · intro X rest g
                                refine G.field (off' := 1) rfl rfl rfl rfl Try.underlying30 rfl sz3 rfl rfl ?_
                                exact g
                              · intro X rest g
                                refine G.loadI (y := (a3.getD x18974.toNat (S_armoirelaw06_Op.mk 0 0 [] false)).n) rfl rfl rfl rfl ty3 (fun w hs => Rd.bk (R_armoirelaw06_Op.L_n _) hs (j := 0) rfl) ?_
                                exact g
                              · intro X rest L m hlen hp hil hd hs hm ho
                                refine G.frontAt 1 rfl ?_
                                refine G.frontAt 2 rfl ?_
                                refine G.callBO (m := 2) rfl rfl rfl rfl call11 rfl (fun H1 hle hsl => (free_Map_Defer.ok (S_free_Map.mk x18967 x18971) g18966 B18969 c18970 ((a3.getD x18974.toNat (S_armoirelaw06_Op.mk 0 0 [] false)).n) e21173).ctr) (by rintro v H' L' ⟨rfl, rfl⟩; exact (Free.cons (Free.bk flat_R_free_Map) (Free.cons (Free.os Flat.u8) Free.nil))) ?_
                                rintro v21174 L21175 ⟨_, ⟨rfl, rfl⟩⟩
                                refine G.frontAt 4 rfl ?_
                                refine G.frontAt 4 rfl ?_
                                refine G.frontAt 4 rfl ?_
                                refine G.frontAt 4 rfl ?_
                                refine G.frontAt 4 rfl ?_
                                exact P21185 m _ _ rest (by rw [List.length_set]; exact hlen) (hp.stepS2 2 (armoirelaw06_FreeGoes.reg6_30_ap _) hil hd hs (by repeat (first | exact trivial | refine And.intro rfl ?_)) rfl rfl rfl rfl) hm ho
                              · intro A L hlen hp h0
                                exact (hp.notYet hlen h0 3 rfl rfl).elim
                            intro l hl
                            exact P21184 10 (List.replicate 10 false) _ l rfl (Reg.Phi.init 10 ⟨rfl, rfl, rfl, rfl, rfl, rfl, rfl, rfl, trivial⟩) (left_rep 10) hl
                          · replace h := ifF h k21229
                            refine G.seq ?_
                            refine G.region (l := [0, 1]) rfl ?_
                            refine G.cmp (((a3.getD x18974.toNat (S_armoirelaw06_Op.mk 0 0 [] false)).do_) = 4) rfl rfl rfl rfl rfl rfl Iff.rfl ?_
                            refine G.assign rfl rfl rfl rfl ?_
                            refine G.regionEnd ?_
                            refine G.condP rfl (fun k21228 => ?_) (fun k21228 => ?_)
                            · replace h := ifT h k21228
                              refine G.seq ?_
                              refine G.region (l := [0, 1, 2, 3]) rfl ?_
                              refine G.field (off' := 2) rfl rfl rfl rfl Try.underlying30 rfl sz28 rfl rfl ?_
                              refine G.loadH (B := B20114) (m := ((a3.getD x18974.toNat (S_armoirelaw06_Op.mk 0 0 [] false)).keep).length) (c := c20115) rfl rfl rfl rfl ty28r (fun w hs => Rd.bk (R_armoirelaw06_Op.L_keep _) hs (j := 0) rfl) ?_
                              refine G.len (m := ((a3.getD x18974.toNat (S_armoirelaw06_Op.mk 0 0 [] false)).keep).length) rfl rfl rfl rfl Try.underlying28 ?_
                              refine G.cmp ((((a3.getD x18974.toNat (S_armoirelaw06_Op.mk 0 0 [] false)).keep).length : Int) ≤ 1000) rfl rfl rfl rfl rfl rfl Iff.rfl ?_
                              refine G.regionEnd ?_
                              refine G.condP rfl (fun k21227 => ?_) (fun k21227 => ?_)
                              · replace h := ifT h k21227
                                obtain ⟨t21212, e21213, h⟩ := bindS h
                                obtain ⟨t21216, e21217, h⟩ := bindS h
                                refine G.draw [[], [], [1], [0, 2], [], [], [5], [4, 6, 3], [3, 7], [8, 7, 0, 1, 2, 3, 4, 5, 6, 7, 8]] 10 [0, 1, 2, 3, 4, 5, 6, 7, 8, 9] [0, 0, 1, 2, 0, 0, 1, 3, 4, 5] [0, 0, 1, 2, 0, 0, 1, 3, 4, 5] rfl (by kernel_rfl) (by kernel_rfl) (by kernel_rfl) (by kernel_rfl) ?_
                                intro C21220 ops21221 k21222
                                let R21223 : Reg := armoirelaw06_FreeGoes.reg6_33 [(9, .bool t1), (11, .pointer (some ⟨g18966, 0, none⟩)), (13, .pointer (some ⟨g913, 0, none⟩)), (17, .pointer (some ⟨g20117, 0, none⟩)), (18, .bool true), (72, .slice A3 a3.length n3), (73, .int .i64 (a3.length : Int)), (74, .int .i64 x18974)]
                                have P21226 : ∀ (m : Nat) (L : List Bool) (A : List (Nat × Value)) (l : List Nat), L.length = R21223.ds.length → R21223.Phi [some (.pointer (some ⟨g18966, 0, none⟩)), some (.pointer (some ⟨g20117, 2, none⟩)), some (.slice B20114 ((a3.getD x18974.toNat (S_armoirelaw06_Op.mk 0 0 [] false)).keep).length c20115), some (.int .i64 t21212.1), some (.pointer (some ⟨g913, 0, none⟩)), some (.pointer (some ⟨g20117, 2, none⟩)), some (.slice B20114 ((a3.getD x18974.toNat (S_armoirelaw06_Op.mk 0 0 [] false)).keep).length c20115), some (.int .i64 t21216.1), some (.bool (decide (t21212.1 = t21216.1))), some (.bool (decide (t21212.1 = t21216.1)))] [0, 1, 2, 3, 4, 5, 6, 7] [] L A → left L = m → Ord R21223.ds m L l → G C21220 H A (BK 59 K_R_armoireref06_Map g913 (R_armoireref06_Map.mk t21216.2.from_ (B915, t21216.2.k.length, c916)) :: OS 3 (Kd.int .i64) B915 c916 t21216.2.k :: BK 53 K_R_free_Map g18966 (R_free_Map.mk t21212.2.from_ (B18969, t21212.2.kinds.length, c18970)) :: OS 54 Kd.u8 B18969 c18970 t21212.2.kinds :: BK 30 K_R_armoirelaw06_Op g20117 (R_armoirelaw06_Op.mk ((a3.getD x18974.toNat (S_armoirelaw06_Op.mk 0 0 [] false)).do_) ((a3.getD x18974.toNat (S_armoirelaw06_Op.mk 0 0 [] false)).n) (B20114, ((a3.getD x18974.toNat (S_armoirelaw06_Op.mk 0 0 [] false)).keep).length, c20115) ((a3.getD x18974.toNat (S_armoirelaw06_Op.mk 0 0 [] false)).clone)) :: Fr) (.inRegion ops21221 l :: k21222) := by
                                  refine G.phase R21223 [some (.pointer (some ⟨g18966, 0, none⟩)), some (.pointer (some ⟨g20117, 2, none⟩)), some (.slice B20114 ((a3.getD x18974.toNat (S_armoirelaw06_Op.mk 0 0 [] false)).keep).length c20115), some (.int .i64 t21212.1), some (.pointer (some ⟨g913, 0, none⟩)), some (.pointer (some ⟨g20117, 2, none⟩)), some (.slice B20114 ((a3.getD x18974.toNat (S_armoirelaw06_Op.mk 0 0 [] false)).keep).length c20115), some (.int .i64 t21216.1), some (.bool (decide (t21212.1 = t21216.1))), some (.bool (decide (t21212.1 = t21216.1)))] [8, 9] [] [0, 1, 2, 3, 4, 5, 6, 7] [] (armoirelaw06_FreeGoes.reg6_33_ap _) rfl rfl ⟨⟨[.op 3, .op 7], 160, .bool (decide (t21212.1 = t21216.1)), [(155, .int .i64 t21212.1), (159, .int .i64 t21216.1)], ⟨rfl, rfl, rfl, rfl, ?_⟩⟩, ⟨⟨[.op 8], 18, .bool (decide (t21212.1 = t21216.1)), [(160, .bool (decide (t21212.1 = t21216.1)))], ⟨rfl, rfl, rfl, rfl, ?_⟩⟩, trivial⟩⟩ trivial ?_
                                  · intro X rest g
                                    refine G.cmp (t21212.1 = t21216.1) rfl rfl rfl rfl rfl rfl Iff.rfl ?_
                                    exact g
                                  · intro X rest g
                                    refine G.assign rfl rfl rfl rfl ?_
                                    exact g
                                  · intro A L hlen hp h0
                                    refine G.lessSub (B := [(9, .bool t1), (11, .pointer (some ⟨g18966, 0, none⟩)), (13, .pointer (some ⟨g913, 0, none⟩)), (17, .pointer (some ⟨g20117, 0, none⟩)), (18, .bool (decide (t21212.1 = t21216.1))), (72, .slice A3 a3.length n3), (73, .int .i64 (a3.length : Int)), (74, .int .i64 x18974)]) (hp.fin hlen h0 (src := [.base 9, .base 11, .base 13, .base 17, .op 9, .base 72, .base 73, .base 74]) rfl) ?_
                                    refine G.regionEnd ?_
                                    refine G.frontAt 4 rfl ?_
                                    refine G.frontAt 1 rfl ?_
                                    refine G.frontAt 2 rfl ?_
                                    refine G.frontAt 3 rfl ?_
                                    refine G.frontAt 4 rfl ?_
                                    refine G.less ?_ (J20670  t21212.2.from_ t21212.2.kinds t21216.2.from_ t21216.2.k (decide (t21212.1 = t21216.1)) h)
                                    exact ⟨rfl, rfl, rfl, rfl, rfl, rfl, rfl, rfl, trivial⟩
                                have P21225 : ∀ (m : Nat) (L : List Bool) (A : List (Nat × Value)) (l : List Nat), L.length = R21223.ds.length → R21223.Phi [some (.pointer (some ⟨g18966, 0, none⟩)), some (.pointer (some ⟨g20117, 2, none⟩)), some (.slice B20114 ((a3.getD x18974.toNat (S_armoirelaw06_Op.mk 0 0 [] false)).keep).length c20115), some (.int .i64 t21212.1), some (.pointer (some ⟨g913, 0, none⟩)), some (.pointer (some ⟨g20117, 2, none⟩)), some (.slice B20114 ((a3.getD x18974.toNat (S_armoirelaw06_Op.mk 0 0 [] false)).keep).length c20115), none, none, none] [0, 1, 2, 3] [7, 8, 9] L A → left L = m → Ord R21223.ds m L l → G C21220 H A (BK 53 K_R_free_Map g18966 (R_free_Map.mk t21212.2.from_ (B18969, t21212.2.kinds.length, c18970)) :: OS 54 Kd.u8 B18969 c18970 t21212.2.kinds :: BK 30 K_R_armoirelaw06_Op g20117 (R_armoirelaw06_Op.mk ((a3.getD x18974.toNat (S_armoirelaw06_Op.mk 0 0 [] false)).do_) ((a3.getD x18974.toNat (S_armoirelaw06_Op.mk 0 0 [] false)).n) (B20114, ((a3.getD x18974.toNat (S_armoirelaw06_Op.mk 0 0 [] false)).keep).length, c20115) ((a3.getD x18974.toNat (S_armoirelaw06_Op.mk 0 0 [] false)).clone)) :: OS 3 (Kd.int .i64) B915 c916 x18973 :: BK 59 K_R_armoireref06_Map g913 (R_armoireref06_Map.mk x18972 (B915, x18973.length, c916)) :: Fr) (.inRegion ops21221 l :: k21222) := by
                                  refine G.phase R21223 [some (.pointer (some ⟨g18966, 0, none⟩)), some (.pointer (some ⟨g20117, 2, none⟩)), some (.slice B20114 ((a3.getD x18974.toNat (S_armoirelaw06_Op.mk 0 0 [] false)).keep).length c20115), some (.int .i64 t21212.1), some (.pointer (some ⟨g913, 0, none⟩)), some (.pointer (some ⟨g20117, 2, none⟩)), some (.slice B20114 ((a3.getD x18974.toNat (S_armoirelaw06_Op.mk 0 0 [] false)).keep).length c20115), none, none, none] [4, 5, 6] [7] [0, 1, 2, 3] [7, 8, 9] (armoirelaw06_FreeGoes.reg6_33_ap _) rfl rfl ⟨⟨[.base 13], 156, .pointer (some ⟨g913, 0, none⟩), [(13, .pointer (some ⟨g913, 0, none⟩))], ⟨rfl, rfl, rfl, rfl, ?_⟩⟩, ⟨⟨[.base 17], 157, .pointer (some ⟨g20117, 2, none⟩), [(17, .pointer (some ⟨g20117, 0, none⟩))], ⟨rfl, rfl, rfl, rfl, ?_⟩⟩, ⟨⟨[.op 5], 158, .slice B20114 ((a3.getD x18974.toNat (S_armoirelaw06_Op.mk 0 0 [] false)).keep).length c20115, [(157, .pointer (some ⟨g20117, 2, none⟩))], ⟨rfl, rfl, rfl, rfl, ?_⟩⟩, trivial⟩⟩⟩ ⟨⟨[.op 4, .op 6], [(156, .pointer (some ⟨g913, 0, none⟩)), (158, .slice B20114 ((a3.getD x18974.toNat (S_armoirelaw06_Op.mk 0 0 [] false)).keep).length c20115)], ⟨rfl, rfl, ?_⟩⟩, trivial⟩ ?_
                                  · intro X rest g
                                    refine G.move rfl rfl rfl rfl ?_
                                    exact g
                                  · intro X rest g
                                    refine G.field (off' := 2) rfl rfl rfl rfl Try.underlying30 rfl sz28 rfl rfl ?_
                                    exact g
                                  · intro X rest g
                                    refine G.loadH (B := B20114) (m := ((a3.getD x18974.toNat (S_armoirelaw06_Op.mk 0 0 [] false)).keep).length) (c := c20115) rfl rfl rfl rfl ty28r (fun w hs => Rd.bk (R_armoirelaw06_Op.L_keep _) hs (j := 2) rfl) ?_
                                    exact g
                                  · intro X rest L m hlen hp hil hd hs hm ho
                                    refine G.frontAt 3 rfl ?_
                                    refine G.frontAt 4 rfl ?_
                                    refine G.callBO (m := 2) rfl rfl rfl rfl call20 rfl (fun H1 hle hsl => (armoireref06_Map_Sweep.ok (S_armoireref06_Map.mk x18972 x18973) g913 B915 c916 ((a3.getD x18974.toNat (S_armoirelaw06_Op.mk 0 0 [] false)).keep) B20114 c20115 (f20116.mono hle) e21217).ctr) (by rintro v H' L' ⟨rfl, rfl⟩; exact (Free.cons (Free.bk flat_R_armoireref06_Map) (Free.cons (Free.os Flat.I) Free.nil))) ?_
                                    rintro v21218 L21219 ⟨_, ⟨rfl, rfl⟩⟩
                                    refine G.frontAt 4 rfl ?_
                                    refine G.frontAt 4 rfl ?_
                                    refine G.frontAt 4 rfl ?_
                                    refine G.frontAt 4 rfl ?_
                                    refine G.frontAt 4 rfl ?_
                                    exact P21226 m _ _ rest (by rw [List.length_set]; exact hlen) (hp.stepS2 2 (armoirelaw06_FreeGoes.reg6_33_ap _) hil hd hs (by repeat (first | exact trivial | refine And.intro rfl ?_)) rfl rfl rfl rfl) hm ho
                                  · intro A L hlen hp h0
                                    exact (hp.notYet hlen h0 7 rfl rfl).elim
                                have P21224 : ∀ (m : Nat) (L : List Bool) (A : List (Nat × Value)) (l : List Nat), L.length = R21223.ds.length → R21223.Phi [some (.pointer (some ⟨g18966, 0, none⟩)), some (.pointer (some ⟨g20117, 2, none⟩)), some (.slice B20114 ((a3.getD x18974.toNat (S_armoirelaw06_Op.mk 0 0 [] false)).keep).length c20115), none, some (.pointer (some ⟨g913, 0, none⟩)), some (.pointer (some ⟨g20117, 2, none⟩)), some (.slice B20114 ((a3.getD x18974.toNat (S_armoirelaw06_Op.mk 0 0 [] false)).keep).length c20115), none, none, none] [] [3, 7, 8, 9] L A → left L = m → Ord R21223.ds m L l → G C21220 H A (BK 30 K_R_armoirelaw06_Op g20117 (R_armoirelaw06_Op.mk ((a3.getD x18974.toNat (S_armoirelaw06_Op.mk 0 0 [] false)).do_) ((a3.getD x18974.toNat (S_armoirelaw06_Op.mk 0 0 [] false)).n) (B20114, ((a3.getD x18974.toNat (S_armoirelaw06_Op.mk 0 0 [] false)).keep).length, c20115) ((a3.getD x18974.toNat (S_armoirelaw06_Op.mk 0 0 [] false)).clone)) :: OS 54 Kd.u8 B18969 c18970 x18971 :: BK 53 K_R_free_Map g18966 (R_free_Map.mk x18967 (B18969, x18971.length, c18970)) :: OS 3 (Kd.int .i64) B915 c916 x18973 :: BK 59 K_R_armoireref06_Map g913 (R_armoireref06_Map.mk x18972 (B915, x18973.length, c916)) :: Fr) (.inRegion ops21221 l :: k21222) := by
                                  refine G.phase R21223 [some (.pointer (some ⟨g18966, 0, none⟩)), some (.pointer (some ⟨g20117, 2, none⟩)), some (.slice B20114 ((a3.getD x18974.toNat (S_armoirelaw06_Op.mk 0 0 [] false)).keep).length c20115), none, some (.pointer (some ⟨g913, 0, none⟩)), some (.pointer (some ⟨g20117, 2, none⟩)), some (.slice B20114 ((a3.getD x18974.toNat (S_armoirelaw06_Op.mk 0 0 [] false)).keep).length c20115), none, none, none] [0, 1, 2, 4, 5, 6] [3] [] [3, 7, 8, 9] (armoirelaw06_FreeGoes.reg6_33_ap _) rfl rfl ⟨⟨[.base 11], 152, .pointer (some ⟨g18966, 0, none⟩), [(11, .pointer (some ⟨g18966, 0, none⟩))], ⟨rfl, rfl, rfl, rfl, ?_⟩⟩, ⟨⟨[.base 17], 153, .pointer (some ⟨g20117, 2, none⟩), [(17, .pointer (some ⟨g20117, 0, none⟩))], ⟨rfl, rfl, rfl, rfl, ?_⟩⟩, ⟨⟨[.op 1], 154, .slice B20114 ((a3.getD x18974.toNat (S_armoirelaw06_Op.mk 0 0 [] false)).keep).length c20115, [(153, .pointer (some ⟨g20117, 2, none⟩))], ⟨rfl, rfl, rfl, rfl, ?_⟩⟩, ⟨⟨[.base 13], 156, .pointer (some ⟨g913, 0, none⟩), [(13, .pointer (some ⟨g913, 0, none⟩))], ⟨rfl, rfl, rfl, rfl, ?_⟩⟩, ⟨⟨[.base 17], 157, .pointer (some ⟨g20117, 2, none⟩), [(17, .pointer (some ⟨g20117, 0, none⟩))], ⟨rfl, rfl, rfl, rfl, ?_⟩⟩, ⟨⟨[.op 5], 158, .slice B20114 ((a3.getD x18974.toNat (S_armoirelaw06_Op.mk 0 0 [] false)).keep).length c20115, [(157, .pointer (some ⟨g20117, 2, none⟩))], ⟨rfl, rfl, rfl, rfl, ?_⟩⟩, trivial⟩⟩⟩⟩⟩⟩ ⟨⟨[.op 0, .op 2], [(152, .pointer (some ⟨g18966, 0, none⟩)), (154, .slice B20114 ((a3.getD x18974.toNat (S_armoirelaw06_Op.mk 0 0 [] false)).keep).length c20115)], ⟨rfl, rfl, ?_⟩⟩, trivial⟩ ?_
                                  · intro X rest g
                                    refine G.move rfl rfl rfl rfl ?_
                                    exact g
                                  · intro X rest g
                                    refine G.field (off' := 2) rfl rfl rfl rfl Try.underlying30 rfl sz28 rfl rfl ?_
                                    exact g
                                  · intro X rest g
                                    refine G.loadH (B := B20114) (m := ((a3.getD x18974.toNat (S_armoirelaw06_Op.mk 0 0 [] false)).keep).length) (c := c20115) rfl rfl rfl rfl ty28r (fun w hs => Rd.bk (R_armoirelaw06_Op.L_keep _) hs (j := 0) rfl) ?_
                                    exact g
                                  · intro X rest g
                                    refine G.move rfl rfl rfl rfl ?_
                                    exact g
                                  · intro X rest g
                                    refine G.field (off' := 2) rfl rfl rfl rfl Try.underlying30 rfl sz28 rfl rfl ?_
                                    exact g
                                  · intro X rest g
                                    refine G.loadH (B := B20114) (m := ((a3.getD x18974.toNat (S_armoirelaw06_Op.mk 0 0 [] false)).keep).length) (c := c20115) rfl rfl rfl rfl ty28r (fun w hs => Rd.bk (R_armoirelaw06_Op.L_keep _) hs (j := 0) rfl) ?_
                                    exact g
                                  · intro X rest L m hlen hp hil hd hs hm ho
                                    refine G.frontAt 1 rfl ?_
                                    refine G.frontAt 2 rfl ?_
                                    refine G.callBO (m := 2) rfl rfl rfl rfl call12 rfl (fun H1 hle hsl => (free_Map_Sweep.ok (S_free_Map.mk x18967 x18971) g18966 B18969 c18970 ((a3.getD x18974.toNat (S_armoirelaw06_Op.mk 0 0 [] false)).keep) B20114 c20115 (f20116.mono hle) e21213).ctr) (by rintro v H' L' ⟨rfl, rfl⟩; exact (Free.cons (Free.bk flat_R_free_Map) (Free.cons (Free.os Flat.u8) Free.nil))) ?_
                                    rintro v21214 L21215 ⟨_, ⟨rfl, rfl⟩⟩
                                    refine G.frontAt 4 rfl ?_
                                    refine G.frontAt 4 rfl ?_
                                    refine G.frontAt 4 rfl ?_
                                    refine G.frontAt 4 rfl ?_
                                    refine G.frontAt 4 rfl ?_
                                    exact P21225 m _ _ rest (by rw [List.length_set]; exact hlen) (hp.stepS2 2 (armoirelaw06_FreeGoes.reg6_33_ap _) hil hd hs (by repeat (first | exact trivial | refine And.intro rfl ?_)) rfl rfl rfl rfl) hm ho
                                  · intro A L hlen hp h0
                                    exact (hp.notYet hlen h0 3 rfl rfl).elim
                                intro l hl
                                exact P21224 10 (List.replicate 10 false) _ l rfl (Reg.Phi.init 10 ⟨rfl, rfl, rfl, rfl, rfl, rfl, rfl, rfl, trivial⟩) (left_rep 10) hl
                              · replace h := ifF h k21227
                                refine G.skip ?_
                                refine G.frontAt 4 rfl ?_
                                refine G.frontAt 4 rfl ?_
                                refine G.frontAt 4 rfl ?_
                                refine G.frontAt 4 rfl ?_
                                refine G.less ?_ (J20619  x18967 x18971 x18972 x18973 true h)
                                exact ⟨rfl, rfl, rfl, rfl, rfl, rfl, rfl, rfl, trivial⟩
                            · replace h := ifF h k21228
                              refine G.skip ?_
                              refine G.frontAt 4 rfl ?_
                              refine G.frontAt 4 rfl ?_
                              refine G.frontAt 4 rfl ?_
                              refine G.frontAt 4 rfl ?_
                              refine G.less ?_ (J20619  x18967 x18971 x18972 x18973 true h)
                              exact ⟨rfl, rfl, rfl, rfl, rfl, rfl, rfl, rfl, trivial⟩
                  · replace h := ifF h k21242
                    refine G.exit rfl ?_
                    refine G.seq ?_
                    refine G.region (l := [0, 1, 2, 3, 4, 5, 6]) rfl ?_
                    refine G.move rfl rfl rfl rfl ?_
                    refine G.move rfl rfl rfl rfl ?_
                    refine G.splitB (d := 182) rfl (fun k21241 => ?_) (fun k21241 => ?_)
                    · replace h := ifT h k21241
                      refine G.move rfl rfl rfl rfl ?_
                      refine G.move rfl rfl rfl rfl ?_
                      refine G.frontAt 2 rfl ?_
                      refine G.frontAt 3 rfl ?_
                      refine G.frontAt 2 rfl ?_
                      refine G.frontAt 3 rfl ?_
                      obtain ⟨t21237, e21238, h⟩ := bindS h
                      refine G.callS rfl rfl rfl rfl call21 (armoirelaw06_same.ok (S_free_Map.mk x18967 x18971) g18966 B18969 c18970 (S_armoireref06_Map.mk x18972 x18973) g913 B915 c916 e21238) ?_
                      rintro v21239 L21240 ⟨rfl, rfl⟩
                      refine G.pickT rfl rfl rfl rfl rfl ?_
                      refine G.assign rfl rfl rfl rfl ?_
                      refine G.regionEnd ?_
                      refine G.drop ?_
                      refine G.drop ?_
                      refine G.drop ?_
                      refine G.drop ?_
                      obtain rfl := Option.some.inj h
                      exact G.ret1 Try.func6 rfl rfl (fun w hs => ⟨_, _, rfl, ⟨rfl, rfl⟩, hs⟩)
                    · replace h := ifFB h k21241
                      refine G.unwanted rfl rfl rfl rfl ?_
                      refine G.unwanted rfl rfl rfl rfl ?_
                      refine G.unwanted rfl rfl rfl rfl ?_
                      refine G.pickF rfl rfl rfl rfl rfl ?_
                      refine G.assign rfl rfl rfl rfl ?_
                      refine G.regionEnd ?_
                      refine G.drop ?_
                      refine G.drop ?_
                      refine G.drop ?_
                      refine G.drop ?_
                      obtain rfl := Option.some.inj h
                      exact G.ret1 Try.func6 rfl rfl (fun w hs => ⟨_, _, rfl, ⟨rfl, rfl⟩, hs⟩)
              intro J21243
              refine G.drop ?_
              refine G.frontAt 3 rfl ?_
              refine G.frontAt 3 rfl ?_
              refine G.frontAt 3 rfl ?_
              refine G.frontAt 3 rfl ?_
              refine G.less ?_ (J21243 FUEL  g705 a0 B707 c708 x709 a0 x917 0 h)
              exact ⟨rfl, rfl, rfl, rfl, rfl, rfl, trivial⟩
      intro J21246
      refine G.frontAt 4 rfl ?_
      refine G.frontAt 4 rfl ?_
      refine G.frontAt 4 rfl ?_
      refine G.frontAt 4 rfl ?_
      refine G.frontAt 4 rfl ?_
      refine G.less ?_ (J21246 FUEL  (([] : List Int) ++ a2) 0 h)
      exact ⟨rfl, rfl, rfl, rfl, rfl, rfl, rfl, rfl, rfl, trivial⟩
    intro J21247
    refine G.inl (n' := 72) rfl rfl rfl rfl call17 Try.func17 rfl Try.ntmps17 rfl rfl ?_
    intro R710 rt711
    refine G.seq ?_
    refine G.region (l := [0, 1]) rfl ?_
    refine G.assign rfl rfl rfl rfl ?_
    refine G.assign rfl rfl rfl rfl ?_
    refine G.regionEnd ?_
    refine G.seq ?_
    refine G.seq ?_
    refine G.region (l := [0, 1, 2, 3, 4, 5, 6, 7, 8, 9, 10]) rfl ?_
    refine G.move rfl rfl rfl rfl ?_
    refine G.cmp (a0 < 0) rfl rfl rfl rfl rfl rfl Iff.rfl ?_
    refine G.move rfl rfl rfl rfl ?_
    refine G.splitP (d := 15) rfl (fun k21423 => ?_) (fun k21423 => ?_)
    · replace h := ifT h k21423
      refine G.unwanted rfl rfl rfl rfl ?_
      refine G.unwanted rfl rfl rfl rfl ?_
      refine G.unwanted rfl rfl rfl rfl ?_
      refine G.pickT rfl rfl rfl rfl rfl ?_
      refine G.move rfl rfl rfl rfl ?_
      refine G.unwanted rfl rfl rfl rfl ?_
      refine G.unwanted rfl rfl rfl rfl ?_
      refine G.pickT rfl rfl rfl rfl rfl ?_
      refine G.regionEnd ?_
      refine G.condT rfl ?_
      refine G.seq ?_
      refine G.region (l := [0, 1]) rfl ?_
      refine G.assign rfl rfl rfl rfl ?_
      refine G.assign rfl rfl rfl rfl ?_
      refine G.regionEnd ?_
      refine G.retN (rs := [.tmp 6, .tmp 7]) Try.func17 rfl rfl rfl (rt711 _ _ _ ?_)
      refine G.frontAt 2 rfl ?_
      refine G.frontAt 2 rfl ?_
      refine G.frontAt 2 rfl ?_
      refine G.less ?_ (J911  1 h)
      exact ⟨rfl, rfl, rfl, rfl, rfl, rfl, trivial⟩
    · replace h := ifF h k21423
      refine G.move rfl rfl rfl rfl ?_
      refine G.move rfl rfl rfl rfl ?_
      refine G.cmp (a1 ≤ a0) rfl rfl rfl rfl rfl rfl Iff.rfl ?_
      refine G.pickF rfl rfl rfl rfl rfl ?_
      refine G.move rfl rfl rfl rfl ?_
      refine G.splitP (d := 20) rfl (fun k21422 => ?_) (fun k21422 => ?_)
      · replace h := ifT h k21422
        refine G.unwanted rfl rfl rfl rfl ?_
        refine G.unwanted rfl rfl rfl rfl ?_
        refine G.pickT rfl rfl rfl rfl rfl ?_
        refine G.regionEnd ?_
        refine G.condT rfl ?_
        refine G.seq ?_
        refine G.region (l := [0, 1]) rfl ?_
        refine G.assign rfl rfl rfl rfl ?_
        refine G.assign rfl rfl rfl rfl ?_
        refine G.regionEnd ?_
        refine G.retN (rs := [.tmp 6, .tmp 7]) Try.func17 rfl rfl rfl (rt711 _ _ _ ?_)
        refine G.frontAt 2 rfl ?_
        refine G.frontAt 2 rfl ?_
        refine G.frontAt 2 rfl ?_
        refine G.less ?_ (J911  1 h)
        exact ⟨rfl, rfl, rfl, rfl, rfl, rfl, trivial⟩
      · replace h := ifF h k21422
        refine G.move rfl rfl rfl rfl ?_
        refine G.cmp (1024 < a1) rfl rfl rfl rfl rfl rfl Iff.rfl ?_
        refine G.pickF rfl rfl rfl rfl rfl ?_
        refine G.regionEnd ?_
        refine G.condP rfl (fun k21421 => ?_) (fun k21421 => ?_)
        · replace h := ifT h k21421
          refine G.seq ?_
          refine G.region (l := [0, 1]) rfl ?_
          refine G.assign rfl rfl rfl rfl ?_
          refine G.assign rfl rfl rfl rfl ?_
          refine G.regionEnd ?_
          refine G.retN (rs := [.tmp 6, .tmp 7]) Try.func17 rfl rfl rfl (rt711 _ _ _ ?_)
          refine G.frontAt 2 rfl ?_
          refine G.frontAt 2 rfl ?_
          refine G.frontAt 2 rfl ?_
          refine G.less ?_ (J911  1 h)
          exact ⟨rfl, rfl, rfl, rfl, rfl, rfl, trivial⟩
        · replace h := ifF h k21421
          refine G.skip ?_
          refine G.seq ?_
          refine G.seq ?_
          refine G.region (l := [0, 1, 2]) rfl ?_
          refine G.move rfl rfl rfl rfl ?_
          refine G.len (m := a2.length) rfl rfl rfl rfl Try.underlying28 ?_
          refine G.move rfl rfl rfl rfl ?_
          refine G.regionEnd ?_
          refine G.block ?_
          refine G.loop (fun GG K => ∀ (d21334 : Nat) (x21248 : Int), armoirelaw06_FreeGoes.l7 a0 a1 a2 a3 t1 x709 d21334 x21248 = some r → GG H [(0, .int .i64 a0), (1, .int .i64 a1), (2, .slice A2 a2.length n2), (24, .slice A2 a2.length n2), (25, .int .i64 (a2.length : Int)), (26, .int .i64 x21248)] (OS 3 (Kd.int .i64) B6 c7 (([] : List Int) ++ a2) :: OS 54 Kd.u8 B707 c708 x709 :: BK 53 K_R_free_Map g705 (R_free_Map.mk a0 (B707, x709.length, c708)) :: Fr) K) ?_ ?_
          · intro d21334
            induction d21334 with
            | zero => intro x21248 h; rw [armoirelaw06_FreeGoes.l7] at h; cases h
            | succ d21334 ih21333 =>
              intro x21248 h
              rw [armoirelaw06_FreeGoes.l7] at h
              refine G.seq ?_
              refine G.region (l := [0]) rfl ?_
              refine G.cmp (x21248 < (a2.length : Int)) rfl rfl rfl rfl rfl rfl Iff.rfl ?_
              refine G.regionEnd ?_
              refine G.seq ?_
              refine G.condP rfl (fun k21419 => ?_) (fun k21419 => ?_)
              · replace h := ifT h k21419
                refine G.skip ?_
                refine G.seq ?_
                refine G.block ?_
                refine G.seq ?_
                refine G.region (l := [0, 1, 2]) rfl ?_
                obtain ⟨k21377, h⟩ := guardS h
                refine G.indexR (xs := a2) (j := x21248) 0 rfl rfl rfl rfl rfl el28 F2 k21377 ?_
                intro a21375 f21376
                refine G.loadI (y := a2.getD x21248.toNat 0) rfl rfl rfl rfl ty3 (fun w hs => Rd.ro f21376 hs) ?_
                refine G.assign rfl rfl rfl rfl ?_
                refine G.regionEnd ?_
                refine G.seq ?_
                refine G.region (l := [0, 1, 2, 3, 4, 5, 6, 7]) rfl ?_
                refine G.move rfl rfl rfl rfl ?_
                refine G.move rfl rfl rfl rfl ?_
                refine G.cmp ((a2.getD x21248.toNat 0) < a0) rfl rfl rfl rfl rfl rfl Iff.rfl ?_
                refine G.move rfl rfl rfl rfl ?_
                refine G.splitP (d := 33) rfl (fun k21379 => ?_) (fun k21379 => ?_)
                · replace h := ifT h k21379
                  refine G.unwanted rfl rfl rfl rfl ?_
                  refine G.unwanted rfl rfl rfl rfl ?_
                  refine G.unwanted rfl rfl rfl rfl ?_
                  refine G.pickT rfl rfl rfl rfl rfl ?_
                  refine G.regionEnd ?_
                  refine G.condT rfl ?_
                  refine G.seq ?_
                  refine G.region (l := [0, 1]) rfl ?_
                  refine G.assign rfl rfl rfl rfl ?_
                  refine G.assign rfl rfl rfl rfl ?_
                  refine G.regionEnd ?_
                  refine G.retN (rs := [.tmp 6, .tmp 7]) Try.func17 rfl rfl rfl (rt711 _ _ _ ?_)
                  refine G.frontAt 2 rfl ?_
                  refine G.frontAt 2 rfl ?_
                  refine G.frontAt 2 rfl ?_
                  refine G.less ?_ (J911  1 h)
                  exact ⟨rfl, rfl, rfl, rfl, rfl, rfl, trivial⟩
                · replace h := ifF h k21379
                  refine G.move rfl rfl rfl rfl ?_
                  refine G.move rfl rfl rfl rfl ?_
                  refine G.cmp (a1 ≤ (a2.getD x21248.toNat 0)) rfl rfl rfl rfl rfl rfl Iff.rfl ?_
                  refine G.pickF rfl rfl rfl rfl rfl ?_
                  refine G.regionEnd ?_
                  refine G.condP rfl (fun k21378 => ?_) (fun k21378 => ?_)
                  · replace h := ifT h k21378
                    refine G.seq ?_
                    refine G.region (l := [0, 1]) rfl ?_
                    refine G.assign rfl rfl rfl rfl ?_
                    refine G.assign rfl rfl rfl rfl ?_
                    refine G.regionEnd ?_
                    refine G.retN (rs := [.tmp 6, .tmp 7]) Try.func17 rfl rfl rfl (rt711 _ _ _ ?_)
                    refine G.frontAt 2 rfl ?_
                    refine G.frontAt 2 rfl ?_
                    refine G.frontAt 2 rfl ?_
                    refine G.less ?_ (J911  1 h)
                    exact ⟨rfl, rfl, rfl, rfl, rfl, rfl, trivial⟩
                  · replace h := ifF h k21378
                    refine G.skip ?_
                    refine G.inBlock ?_
                    refine G.region (l := [0, 1]) rfl ?_
                    refine G.bin (m := x21248) (n := 1) (r := wi64 (x21248 + 1)) rfl rfl rfl rfl rfl rfl rfl ?_
                    refine G.move rfl rfl rfl rfl ?_
                    refine G.regionEnd ?_
                    refine G.round ?_
                    refine G.frontAt 2 rfl ?_
                    refine G.frontAt 2 rfl ?_
                    refine G.frontAt 2 rfl ?_
                    refine G.less ?_ (ih21333  (wi64 (x21248 + 1)) h)
                    exact ⟨rfl, rfl, rfl, rfl, rfl, rfl, trivial⟩
              · replace h := ifF h k21419
                refine G.exit rfl ?_
                refine G.seq ?_
                refine G.region (l := [0, 1, 2, 3, 4, 5, 6, 7]) rfl ?_
                refine G.move rfl rfl rfl rfl ?_
                refine G.move rfl rfl rfl rfl ?_
                refine G.move rfl rfl rfl rfl ?_
                refine G.bin (m := a1) (n := a0) (r := wi64 (a1 - a0)) rfl rfl rfl rfl rfl rfl rfl ?_
                obtain ⟨k21382, h⟩ := guardS h
                refine G.makeSlice (df := (Kd.int .i64)) (z0 := 0) (m := wi64 (a1 - a0)) (c := wi64 (a1 - a0)) (z := .int .i64 0) (cz := ([.int .i64 0] : List Value)) rfl rfl rfl rfl rfl el28 (by kernel_rfl) rfl (rfl) rfl k21382 ?_
                intro B21380
                refine G.same (d := 43) (v := .slice B21380 ((List.replicate ((wi64 (a1 - a0)).toNat) 0 : List Int).length) ((wi64 (a1 - a0)).toNat)) rfl (by first | (simp; done) | (simp; omega)) ?_
                refine G.build (z := .agg (([.int .i64 0] : List Value) ++ (([.slice none 0 0] : List Value))).toArray) (pl := [(0, 1), (1, 1)]) (cs := ([.int .i64 a0] : List Value) ++ (([.slice B21380 ((List.replicate ((wi64 (a1 - a0)).toNat) 0 : List Int).length) ((wi64 (a1 - a0)).toNat)] : List Value))) rfl rfl rfl Try.underlying59 (by kernel_rfl) rfl (by kernel_rfl) (by kernel_rfl) rfl ?_
                refine G.box (dk := K_R_armoireref06_Map) (y := (R_armoireref06_Map.mk a0 (B21380, (List.replicate ((wi64 (a1 - a0)).toNat) 0 : List Int).length, ((wi64 (a1 - a0)).toNat)))) rfl rfl rfl rfl (VR.A (cs := ([.int .i64 a0] : List Value) ++ (([.slice B21380 ((List.replicate ((wi64 (a1 - a0)).toNat) 0 : List Int).length) ((wi64 (a1 - a0)).toNat)] : List Value))) (K_R_armoireref06_Map.mk rfl rfl)) ?_
                intro g21383
                refine G.assign rfl rfl rfl rfl ?_
                refine G.regionEnd ?_
                refine G.seq ?_
                refine G.seq ?_
                refine G.region (l := [0, 1, 2]) rfl ?_
                refine G.move rfl rfl rfl rfl ?_
                refine G.len (m := a2.length) rfl rfl rfl rfl Try.underlying28 ?_
                refine G.move rfl rfl rfl rfl ?_
                refine G.regionEnd ?_
                refine G.block ?_
                refine G.loop (fun GG K => ∀ (d21407 : Nat) (x21395 : (List Int)) (x21396 : Int), armoirelaw06_FreeGoes.l8 a0 a2 a3 t1 x709 d21407 x21395 x21396 = some r → GG H [(0, .int .i64 a0), (10, .pointer (some ⟨g21383, 0, none⟩)), (46, .slice A2 a2.length n2), (47, .int .i64 (a2.length : Int)), (48, .int .i64 x21396)] (OS 3 (Kd.int .i64) B6 c7 (([] : List Int) ++ a2) :: OS 54 Kd.u8 B707 c708 x709 :: BK 53 K_R_free_Map g705 (R_free_Map.mk a0 (B707, x709.length, c708)) :: OS 3 (Kd.int .i64) B21380 ((wi64 (a1 - a0)).toNat) x21395 :: BK 59 K_R_armoireref06_Map g21383 (R_armoireref06_Map.mk a0 (B21380, x21395.length, ((wi64 (a1 - a0)).toNat))) :: Fr) K) ?_ ?_
                · intro d21407
                  induction d21407 with
                  | zero => intro x21395 x21396 h; rw [armoirelaw06_FreeGoes.l8] at h; cases h
                  | succ d21407 ih21406 =>
                    intro x21395 x21396 h
                    rw [armoirelaw06_FreeGoes.l8] at h
                    refine G.seq ?_
                    refine G.region (l := [0]) rfl ?_
                    refine G.cmp (x21396 < (a2.length : Int)) rfl rfl rfl rfl rfl rfl Iff.rfl ?_
                    refine G.regionEnd ?_
                    refine G.seq ?_
                    refine G.condP rfl (fun k21417 => ?_) (fun k21417 => ?_)
                    · replace h := ifT h k21417
                      refine G.skip ?_
                      refine G.seq ?_
                      refine G.block ?_
                      refine G.seq ?_
                      refine G.region (l := [0, 1, 2]) rfl ?_
                      obtain ⟨k21411, h⟩ := guardS h
                      refine G.indexR (xs := a2) (j := x21396) 0 rfl rfl rfl rfl rfl el28 F2 k21411 ?_
                      intro a21409 f21410
                      refine G.loadI (y := a2.getD x21396.toNat 0) rfl rfl rfl rfl ty3 (fun w hs => Rd.ro f21410 hs) ?_
                      refine G.assign rfl rfl rfl rfl ?_
                      refine G.regionEnd ?_
                      refine G.seq ?_
                      refine G.seq ?_
                      refine G.region (l := [0, 1, 2, 3, 4, 5, 6, 7, 8, 9]) rfl ?_
                      refine G.move rfl rfl rfl rfl ?_
                      refine G.nilCheck rfl rfl rfl rfl ?_
                      refine G.field (off' := 1) rfl rfl rfl rfl Try.underlying59 rfl sz28 rfl rfl ?_
                      refine G.loadH (B := B21380) (m := x21395.length) (c := ((wi64 (a1 - a0)).toNat)) rfl rfl rfl rfl ty28r (fun w hs => Rd.bk (R_armoireref06_Map.L_k _) hs (j := 4) rfl) ?_
                      refine G.move rfl rfl rfl rfl ?_
                      refine G.move rfl rfl rfl rfl ?_
                      refine G.bin (m := a2.getD x21396.toNat 0) (n := a0) (r := wi64 ((a2.getD x21396.toNat 0) - a0)) rfl rfl rfl rfl rfl rfl rfl ?_
                      obtain ⟨k21413, h⟩ := guardS h
                      have q21412 : (wi64 ((a2.getD x21396.toNat 0) - a0)).toNat < x21395.length := by omega
                      refine G.indexO (xs := x21395) (j := wi64 ((a2.getD x21396.toNat 0) - a0)) (off := (wi64 ((a2.getD x21396.toNat 0) - a0)).toNat * 1) rfl rfl rfl rfl rfl el28 (r := 3) rfl (by simp) k21413 rfl ?_
                      refine G.loadI (y := x21395.getD ((wi64 ((a2.getD x21396.toNat 0) - a0)).toNat) 0) rfl rfl rfl rfl ty3 (fun w hs => Rd.osG q21412 (Lens.id _ _) hs (j := 3) rfl (o := (wi64 ((a2.getD x21396.toNat 0) - a0)).toNat * 1) (by first | rfl | simp)) ?_
                      refine G.cmp ((x21395.getD ((wi64 ((a2.getD x21396.toNat 0) - a0)).toNat) 0) = 1) rfl rfl rfl rfl rfl rfl Iff.rfl ?_
                      refine G.regionEnd ?_
                      refine G.condP rfl (fun k21416 => ?_) (fun k21416 => ?_)
                      · replace h := ifT h k21416
                        refine G.seq ?_
                        refine G.region (l := [0, 1]) rfl ?_
                        refine G.assign rfl rfl rfl rfl ?_
                        refine G.assign rfl rfl rfl rfl ?_
                        refine G.regionEnd ?_
                        refine G.retN (rs := [.tmp 6, .tmp 7]) Try.func17 rfl rfl rfl (rt711 _ _ _ ?_)
                        refine G.frontAt 3 rfl ?_
                        refine G.drop ?_
                        refine G.frontAt 3 rfl ?_
                        refine G.drop ?_
                        refine G.frontAt 2 rfl ?_
                        refine G.frontAt 2 rfl ?_
                        refine G.frontAt 2 rfl ?_
                        refine G.less ?_ (J911  6 h)
                        exact ⟨rfl, rfl, rfl, rfl, rfl, rfl, trivial⟩
                      · replace h := ifF h k21416
                        refine G.skip ?_
                        refine G.region (l := [0, 1, 2, 3, 4, 5, 6, 7, 8]) rfl ?_
                        refine G.move rfl rfl rfl rfl ?_
                        refine G.nilCheck rfl rfl rfl rfl ?_
                        refine G.field (off' := 1) rfl rfl rfl rfl Try.underlying59 rfl sz28 rfl rfl ?_
                        refine G.loadH (B := B21380) (m := x21395.length) (c := ((wi64 (a1 - a0)).toNat)) rfl rfl rfl rfl ty28r (fun w hs => Rd.bk (R_armoireref06_Map.L_k _) hs (j := 4) rfl) ?_
                        refine G.move rfl rfl rfl rfl ?_
                        refine G.move rfl rfl rfl rfl ?_
                        refine G.bin (m := a2.getD x21396.toNat 0) (n := a0) (r := wi64 ((a2.getD x21396.toNat 0) - a0)) rfl rfl rfl rfl rfl rfl rfl ?_
                        obtain ⟨k21415, h⟩ := guardS h
                        have q21414 : (wi64 ((a2.getD x21396.toNat 0) - a0)).toNat < x21395.length := by omega
                        refine G.indexO (xs := x21395) (j := wi64 ((a2.getD x21396.toNat 0) - a0)) (off := (wi64 ((a2.getD x21396.toNat 0) - a0)).toNat * 1) rfl rfl rfl rfl rfl el28 (r := 3) rfl (by simp) k21415 rfl ?_
                        refine G.frontAt 3 rfl ?_
                        refine G.storeO (df := (Kd.int .i64)) (y := 1) (hj := q21414) (xs' := x21395.set ((wi64 ((a2.getD x21396.toNat 0) - a0)).toNat) 1) rfl rfl rfl rfl (Lens.id _ _) (by first | rfl | simp) ⟨([.int .i64 1] : List Value), rfl, rfl⟩ sz3 rfl ?_
                        refine G.regionEnd ?_
                        refine G.inBlock ?_
                        refine G.region (l := [0, 1]) rfl ?_
                        refine G.bin (m := x21396) (n := 1) (r := wi64 (x21396 + 1)) rfl rfl rfl rfl rfl rfl rfl ?_
                        refine G.move rfl rfl rfl rfl ?_
                        refine G.regionEnd ?_
                        refine G.round ?_
                        refine G.frontAt 4 rfl ?_
                        refine G.headEq (r' := BK 59 K_R_armoireref06_Map g21383 (R_armoireref06_Map.mk a0 (B21380, (x21395.set ((wi64 ((a2.getD x21396.toNat 0) - a0)).toNat) 1).length, ((wi64 (a1 - a0)).toNat)))) (by first | (simp; done) | (simp; omega)) ?_
                        refine G.frontAt 1 rfl ?_
                        refine G.frontAt 4 rfl ?_
                        refine G.frontAt 4 rfl ?_
                        refine G.frontAt 4 rfl ?_
                        refine G.less ?_ (ih21406  (x21395.set ((wi64 ((a2.getD x21396.toNat 0) - a0)).toNat) 1) (wi64 (x21396 + 1)) h)
                        exact ⟨rfl, rfl, rfl, rfl, rfl, trivial⟩
                    · replace h := ifF h k21417
                      refine G.exit rfl ?_
                      refine G.seq ?_
                      refine G.region (l := [0, 1, 2]) rfl ?_
                      refine G.move rfl rfl rfl rfl ?_
                      refine G.assign rfl rfl rfl rfl ?_
                      refine G.assign rfl rfl rfl rfl ?_
                      refine G.regionEnd ?_
                      refine G.retN (rs := [.tmp 6, .tmp 7]) Try.func17 rfl rfl rfl (rt711 _ _ _ ?_)
                      refine G.frontAt 4 rfl ?_
                      refine G.frontAt 4 rfl ?_
                      refine G.frontAt 4 rfl ?_
                      refine G.frontAt 4 rfl ?_
                      refine G.frontAt 4 rfl ?_
                      refine G.less ?_ (J21247  g21383 B21380 ((wi64 (a1 - a0)).toNat) x21395 h)
                      exact ⟨rfl, rfl, rfl, rfl, rfl, rfl, trivial⟩
                intro J21418
                refine G.frontAt 1 rfl ?_
                refine G.frontAt 4 rfl ?_
                refine G.frontAt 4 rfl ?_
                refine G.frontAt 4 rfl ?_
                refine G.less ?_ (J21418 FUEL  (List.replicate ((wi64 (a1 - a0)).toNat) 0 : List Int) 0 h)
                exact ⟨rfl, rfl, rfl, rfl, rfl, trivial⟩
          intro J21420
          refine G.frontAt 2 rfl ?_
          refine G.frontAt 2 rfl ?_
          refine G.frontAt 2 rfl ?_
          refine G.less ?_ (J21420 FUEL  0 h)
          exact ⟨rfl, rfl, rfl, rfl, rfl, rfl, trivial⟩
  intro J21424
  refine G.inl (n' := 62) rfl rfl rfl rfl call8 Try.func8 rfl Try.ntmps8 rfl rfl ?_
  intro R10 rt11
  refine G.seq ?_
  refine G.region (l := [0, 1, 2, 3]) rfl ?_
  refine G.box (dk := (Kd.int .i64)) (y := a0) rfl rfl rfl rfl ⟨([.int .i64 a0] : List Value), rfl, rfl⟩ ?_
  intro g21425
  refine G.box (dk := (Kd.int .i64)) (y := a1) rfl rfl rfl rfl ⟨([.int .i64 a1] : List Value), rfl, rfl⟩ ?_
  intro g21427
  refine G.assign rfl rfl rfl rfl ?_
  refine G.assign rfl rfl rfl rfl ?_
  refine G.regionEnd ?_
  refine G.seq ?_
  refine G.region (l := [0, 1]) rfl ?_
  refine G.makeFunc (fs := []) (cs := [.pointer (some ⟨g21425, 0, none⟩), .pointer (some ⟨g21427, 0, none⟩)]) rfl rfl rfl rfl rfl ?_
  refine G.assign rfl rfl rfl rfl ?_
  refine G.regionEnd ?_
  refine G.seq ?_
  refine G.seq ?_
  refine G.region (l := [0, 1, 2, 3, 4, 5, 6, 7, 8, 9, 10, 11, 12, 13, 14, 15]) rfl ?_
  refine G.loadI (y := a0) rfl rfl rfl rfl ty3 (fun w hs => Rd.bk (Lens.id _ _) hs (j := 1) rfl) ?_
  refine G.cmp (a0 < 0) rfl rfl rfl rfl rfl rfl Iff.rfl ?_
  refine G.move rfl rfl rfl rfl ?_
  refine G.splitP (d := 15) rfl (fun k21739 => ?_) (fun k21739 => ?_)
  · replace h := ifT h k21739
    refine G.unwanted rfl rfl rfl rfl ?_
    refine G.unwanted rfl rfl rfl rfl ?_
    refine G.unwanted rfl rfl rfl rfl ?_
    refine G.pickT rfl rfl rfl rfl rfl ?_
    refine G.move rfl rfl rfl rfl ?_
    refine G.unwanted rfl rfl rfl rfl ?_
    refine G.unwanted rfl rfl rfl rfl ?_
    refine G.pickT rfl rfl rfl rfl rfl ?_
    refine G.move rfl rfl rfl rfl ?_
    refine G.unwanted rfl rfl rfl rfl ?_
    refine G.unwanted rfl rfl rfl rfl ?_
    refine G.unwanted rfl rfl rfl rfl ?_
    refine G.pickT rfl rfl rfl rfl rfl ?_
    refine G.regionEnd ?_
    refine G.condT rfl ?_
    refine G.seq ?_
    refine G.region (l := [0, 1]) rfl ?_
    refine G.assign rfl rfl rfl rfl ?_
    refine G.assign rfl rfl rfl rfl ?_
    refine G.regionEnd ?_
    refine G.retN (rs := [.tmp 6, .tmp 7]) Try.func8 rfl rfl rfl (rt11 _ _ _ ?_)
    refine G.drop ?_
    refine G.drop ?_
    refine G.less ?_ (J703  1 h)
    exact ⟨rfl, rfl, rfl, rfl, rfl, rfl, rfl, trivial⟩
  · replace h := ifF h k21739
    refine G.loadI (y := a1) rfl rfl rfl rfl ty3 (fun w hs => Rd.bk (Lens.id _ _) hs (j := 0) rfl) ?_
    refine G.loadI (y := a0) rfl rfl rfl rfl ty3 (fun w hs => Rd.bk (Lens.id _ _) hs (j := 1) rfl) ?_
    refine G.cmp (a1 ≤ a0) rfl rfl rfl rfl rfl rfl Iff.rfl ?_
    refine G.pickF rfl rfl rfl rfl rfl ?_
    refine G.move rfl rfl rfl rfl ?_
    refine G.splitP (d := 20) rfl (fun k21738 => ?_) (fun k21738 => ?_)
    · replace h := ifT h k21738
      refine G.unwanted rfl rfl rfl rfl ?_
      refine G.unwanted rfl rfl rfl rfl ?_
      refine G.pickT rfl rfl rfl rfl rfl ?_
      refine G.move rfl rfl rfl rfl ?_
      refine G.unwanted rfl rfl rfl rfl ?_
      refine G.unwanted rfl rfl rfl rfl ?_
      refine G.unwanted rfl rfl rfl rfl ?_
      refine G.pickT rfl rfl rfl rfl rfl ?_
      refine G.regionEnd ?_
      refine G.condT rfl ?_
      refine G.seq ?_
      refine G.region (l := [0, 1]) rfl ?_
      refine G.assign rfl rfl rfl rfl ?_
      refine G.assign rfl rfl rfl rfl ?_
      refine G.regionEnd ?_
      refine G.retN (rs := [.tmp 6, .tmp 7]) Try.func8 rfl rfl rfl (rt11 _ _ _ ?_)
      refine G.drop ?_
      refine G.drop ?_
      refine G.less ?_ (J703  1 h)
      exact ⟨rfl, rfl, rfl, rfl, rfl, rfl, rfl, trivial⟩
    · replace h := ifF h k21738
      refine G.loadI (y := a1) rfl rfl rfl rfl ty3 (fun w hs => Rd.bk (Lens.id _ _) hs (j := 0) rfl) ?_
      refine G.cmp (1024 < a1) rfl rfl rfl rfl rfl rfl Iff.rfl ?_
      refine G.pickF rfl rfl rfl rfl rfl ?_
      refine G.move rfl rfl rfl rfl ?_
      refine G.rest (l1 := [12, 13, 14, 15]) (l2 := []) (fun GG K => ∀ (b21522 : Bool), armoirelaw06_FreeGoes.j8 a0 a1 a2 a3 t1 b21522 = some r → GG H [(2, .slice B6 ((([] : List Int) ++ a2).length) c7), (3, .pointer (some ⟨g21425, 0, none⟩)), (4, .pointer (some ⟨g21427, 0, none⟩)), (28, .bool b21522)] (OS 3 (Kd.int .i64) B6 c7 (([] : List Int) ++ a2) :: BK 3 (Kd.int .i64) g21425 a0 :: BK 3 (Kd.int .i64) g21427 a1 :: Fr) K) ?_ ?_
      · intro b21522 h
        unfold armoirelaw06_FreeGoes.j8 at h
        refine G.regionEnd ?_
        refine G.cond rfl (fun k21581 => ?_) (fun k21581 => ?_)
        · replace h := ifT h k21581
          refine G.seq ?_
          refine G.region (l := [0, 1]) rfl ?_
          refine G.assign rfl rfl rfl rfl ?_
          refine G.assign rfl rfl rfl rfl ?_
          refine G.regionEnd ?_
          refine G.retN (rs := [.tmp 6, .tmp 7]) Try.func8 rfl rfl rfl (rt11 _ _ _ ?_)
          refine G.frontAt 1 rfl ?_
          refine G.drop ?_
          refine G.frontAt 1 rfl ?_
          refine G.drop ?_
          refine G.less ?_ (J703  1 h)
          exact ⟨rfl, rfl, rfl, rfl, rfl, rfl, rfl, trivial⟩
        · replace h := ifFB h k21581
          refine G.skip ?_
          refine G.seq ?_
          obtain ⟨k21525, h⟩ := guardS h
          refine G.draw armoirelaw06_FreeGoes.ds8_4 8 [0, 1, 2, 3, 4, 5, 6, 7] [0, 0, 0, 1, 2, 3, 4, 5] [0, 0, 0, 1, 2, 3, 4, 5] rfl (by kernel_rfl) (by kernel_rfl) (by kernel_rfl) (by kernel_rfl) ?_
          intro C21578 ops21579 k21580
          have d14 : ∀ (B21523 : Option Addr) (g21526 : Nat) (l : List Nat), Ord armoirelaw06_FreeGoes.ds8_4 0 [true, true, true, true, true, true, true, true] l → G C21578 H [(2, .slice B6 ((([] : List Int) ++ a2).length) c7), (3, .pointer (some ⟨g21425, 0, none⟩)), (9, .pointer (some ⟨g21526, 0, none⟩))] (BK 53 K_R_free_Map g21526 (R_free_Map.mk a0 (B21523, (List.replicate ((wi64 (a1 - a0)).toNat) 0 : List UInt8).length, ((wi64 (a1 - a0)).toNat))) :: OS 54 Kd.u8 B21523 ((wi64 (a1 - a0)).toNat) (List.replicate ((wi64 (a1 - a0)).toNat) 0 : List UInt8) :: OS 3 (Kd.int .i64) B6 c7 (([] : List Int) ++ a2) :: BK 3 (Kd.int .i64) g21425 a0 :: BK 3 (Kd.int .i64) g21427 a1 :: Fr) (.inRegion ops21579 l :: k21580) := by
            intro B21523 g21526 l hl
            refine G.drawnAll hl ?_
            refine G.regionEnd ?_
            refine G.seq ?_
            refine G.seq ?_
            refine G.region (l := [0, 1, 2]) rfl ?_
            refine G.move rfl rfl rfl rfl ?_
            refine G.len (m := ((([] : List Int) ++ a2).length)) rfl rfl rfl rfl Try.underlying28 ?_
            refine G.move rfl rfl rfl rfl ?_
            refine G.regionEnd ?_
            refine G.block ?_
            refine G.loop (fun GG K => ∀ (d21548 : Nat) (x21537 : (List UInt8)) (x21538 : Int), armoirelaw06_FreeGoes.l9 a0 a1 a2 a3 t1 d21548 x21537 x21538 = some r → GG H [(3, .pointer (some ⟨g21425, 0, none⟩)), (9, .pointer (some ⟨g21526, 0, none⟩)), (36, .slice B6 ((([] : List Int) ++ a2).length) c7), (37, .int .i64 (((([] : List Int) ++ a2).length) : Int)), (38, .int .i64 x21538)] (OS 3 (Kd.int .i64) B6 c7 (([] : List Int) ++ a2) :: BK 3 (Kd.int .i64) g21425 a0 :: OS 54 Kd.u8 B21523 ((wi64 (a1 - a0)).toNat) x21537 :: BK 53 K_R_free_Map g21526 (R_free_Map.mk a0 (B21523, x21537.length, ((wi64 (a1 - a0)).toNat))) :: Fr) K) ?_ ?_
            · intro d21548
              induction d21548 with
              | zero => intro x21537 x21538 h; rw [armoirelaw06_FreeGoes.l9] at h; cases h
              | succ d21548 ih21547 =>
                intro x21537 x21538 h
                rw [armoirelaw06_FreeGoes.l9] at h
                refine G.seq ?_
                refine G.region (l := [0]) rfl ?_
                refine G.cmp (x21538 < (((([] : List Int) ++ a2).length) : Int)) rfl rfl rfl rfl rfl rfl Iff.rfl ?_
                refine G.regionEnd ?_
                refine G.seq ?_
                refine G.condP rfl (fun k21568 => ?_) (fun k21568 => ?_)
                · replace h := ifT h k21568
                  refine G.skip ?_
                  refine G.seq ?_
                  refine G.block ?_
                  refine G.seq ?_
                  refine G.region (l := [0, 1, 2]) rfl ?_
                  obtain ⟨k21551, h⟩ := guardS h
                  have q21550 : x21538.toNat < (([] : List Int) ++ a2).length := by omega
                  refine G.indexO (xs := (([] : List Int) ++ a2)) (j := x21538) (off := x21538.toNat * 1) rfl rfl rfl rfl rfl el28 (r := 0) rfl (by simp) k21551 rfl ?_
                  refine G.loadI (y := (([] : List Int) ++ a2).getD x21538.toNat 0) rfl rfl rfl rfl ty3 (fun w hs => Rd.osG q21550 (Lens.id _ _) hs (j := 0) rfl (o := x21538.toNat * 1) (by first | rfl | simp)) ?_
                  refine G.assign rfl rfl rfl rfl ?_
                  refine G.regionEnd ?_
                  refine G.seq ?_
                  refine G.seq ?_
                  obtain ⟨k21553, h⟩ := guardS h
                  have q21552 : (wi64 (((([] : List Int) ++ a2).getD x21538.toNat 0) - a0)).toNat < x21537.length := by omega
                  refine G.draw [[], [0], [1], [2], [], [], [4, 5], [3, 6], [7], [8]] 10 [0, 1, 2, 3, 4, 5, 6, 7, 8, 9] [0, 1, 2, 3, 0, 0, 1, 4, 5, 6] [0, 1, 2, 3, 0, 0, 1, 4, 5, 6] rfl (by kernel_rfl) (by kernel_rfl) (by kernel_rfl) (by kernel_rfl) ?_
                  intro C21563 ops21564 k21565
                  let R21566 : Reg := armoirelaw06_FreeGoes.reg8_8 [(3, .pointer (some ⟨g21425, 0, none⟩)), (9, .pointer (some ⟨g21526, 0, none⟩)), (11, .int .i64 ((([] : List Int) ++ a2).getD x21538.toNat 0)), (36, .slice B6 ((([] : List Int) ++ a2).length) c7), (37, .int .i64 (((([] : List Int) ++ a2).length) : Int)), (38, .int .i64 x21538)]
                  have P21567 : ∀ (m : Nat) (L : List Bool) (A : List (Nat × Value)) (l : List Nat), L.length = R21566.ds.length → R21566.Phi [some (.pointer (some ⟨g21526, 0, none⟩)), some (.pointer (some ⟨g21526, 0, none⟩)), some (.pointer (some ⟨g21526, 1, none⟩)), some (.slice B21523 x21537.length ((wi64 (a1 - a0)).toNat)), some (.int .i64 ((([] : List Int) ++ a2).getD x21538.toNat 0)), some (.int .i64 a0), some (.int .i64 (wi64 (((([] : List Int) ++ a2).getD x21538.toNat 0) - a0))), some (.pointer (some (plc B21523 ((wi64 (((([] : List Int) ++ a2).getD x21538.toNat 0) - a0)).toNat * 1)))), some (u8V (x21537.getD ((wi64 (((([] : List Int) ++ a2).getD x21538.toNat 0) - a0)).toNat) 0)), some (.bool (decide ((x21537.getD ((wi64 (((([] : List Int) ++ a2).getD x21538.toNat 0) - a0)).toNat) 0) ≠ 0)))] [] [] L A → left L = m → Ord R21566.ds m L l → G C21563 H A (OS 3 (Kd.int .i64) B6 c7 (([] : List Int) ++ a2) :: BK 3 (Kd.int .i64) g21425 a0 :: OS 54 Kd.u8 B21523 ((wi64 (a1 - a0)).toNat) x21537 :: BK 53 K_R_free_Map g21526 (R_free_Map.mk a0 (B21523, x21537.length, ((wi64 (a1 - a0)).toNat))) :: Fr) (.inRegion ops21564 l :: k21565) := by
                    refine G.phase R21566 [some (.pointer (some ⟨g21526, 0, none⟩)), some (.pointer (some ⟨g21526, 0, none⟩)), some (.pointer (some ⟨g21526, 1, none⟩)), some (.slice B21523 x21537.length ((wi64 (a1 - a0)).toNat)), some (.int .i64 ((([] : List Int) ++ a2).getD x21538.toNat 0)), some (.int .i64 a0), some (.int .i64 (wi64 (((([] : List Int) ++ a2).getD x21538.toNat 0) - a0))), some (.pointer (some (plc B21523 ((wi64 (((([] : List Int) ++ a2).getD x21538.toNat 0) - a0)).toNat * 1)))), some (u8V (x21537.getD ((wi64 (((([] : List Int) ++ a2).getD x21538.toNat 0) - a0)).toNat) 0)), some (.bool (decide ((x21537.getD ((wi64 (((([] : List Int) ++ a2).getD x21538.toNat 0) - a0)).toNat) 0) ≠ 0)))] [0, 1, 2, 3, 4, 5, 6, 7, 8, 9] [] [] [] (armoirelaw06_FreeGoes.reg8_8_ap _) rfl rfl ⟨⟨[.base 9], 42, .pointer (some ⟨g21526, 0, none⟩), [(9, .pointer (some ⟨g21526, 0, none⟩))], ⟨rfl, rfl, rfl, rfl, ?_⟩⟩, ⟨⟨[.op 0], 43, .pointer (some ⟨g21526, 0, none⟩), [(42, .pointer (some ⟨g21526, 0, none⟩))], ⟨rfl, rfl, rfl, rfl, ?_⟩⟩, ⟨⟨[.op 1], 44, .pointer (some ⟨g21526, 1, none⟩), [(43, .pointer (some ⟨g21526, 0, none⟩))], ⟨rfl, rfl, rfl, rfl, ?_⟩⟩, ⟨⟨[.op 2], 45, .slice B21523 x21537.length ((wi64 (a1 - a0)).toNat), [(44, .pointer (some ⟨g21526, 1, none⟩))], ⟨rfl, rfl, rfl, rfl, ?_⟩⟩, ⟨⟨[.base 11], 46, .int .i64 ((([] : List Int) ++ a2).getD x21538.toNat 0), [(11, .int .i64 ((([] : List Int) ++ a2).getD x21538.toNat 0))], ⟨rfl, rfl, rfl, rfl, ?_⟩⟩, ⟨⟨[.base 3], 47, .int .i64 a0, [(3, .pointer (some ⟨g21425, 0, none⟩))], ⟨rfl, rfl, rfl, rfl, ?_⟩⟩, ⟨⟨[.op 4, .op 5], 48, .int .i64 (wi64 (((([] : List Int) ++ a2).getD x21538.toNat 0) - a0)), [(46, .int .i64 ((([] : List Int) ++ a2).getD x21538.toNat 0)), (47, .int .i64 a0)], ⟨rfl, rfl, rfl, rfl, ?_⟩⟩, ⟨⟨[.op 3, .op 6], 49, .pointer (some (plc B21523 ((wi64 (((([] : List Int) ++ a2).getD x21538.toNat 0) - a0)).toNat * 1))), [(45, .slice B21523 x21537.length ((wi64 (a1 - a0)).toNat)), (48, .int .i64 (wi64 (((([] : List Int) ++ a2).getD x21538.toNat 0) - a0)))], ⟨rfl, rfl, rfl, rfl, ?_⟩⟩, ⟨⟨[.op 7], 50, u8V (x21537.getD ((wi64 (((([] : List Int) ++ a2).getD x21538.toNat 0) - a0)).toNat) 0), [(49, .pointer (some (plc B21523 ((wi64 (((([] : List Int) ++ a2).getD x21538.toNat 0) - a0)).toNat * 1))))], ⟨rfl, rfl, rfl, rfl, ?_⟩⟩, ⟨⟨[.op 8], 51, .bool (decide ((x21537.getD ((wi64 (((([] : List Int) ++ a2).getD x21538.toNat 0) - a0)).toNat) 0) ≠ 0)), [(50, u8V (x21537.getD ((wi64 (((([] : List Int) ++ a2).getD x21538.toNat 0) - a0)).toNat) 0))], ⟨rfl, rfl, rfl, rfl, ?_⟩⟩, trivial⟩⟩⟩⟩⟩⟩⟩⟩⟩⟩ trivial ?_
                    · intro X rest g
                      refine G.move rfl rfl rfl rfl ?_
                      exact g
                    · intro X rest g
                      refine G.nilCheck rfl rfl rfl rfl ?_
                      exact g
                    · intro X rest g
                      refine G.field (off' := 1) rfl rfl rfl rfl Try.underlying53 rfl sz51 rfl rfl ?_
                      exact g
                    · intro X rest g
                      refine G.loadH (B := B21523) (m := x21537.length) (c := ((wi64 (a1 - a0)).toNat)) rfl rfl rfl rfl ty51r (fun w hs => Rd.bk (R_free_Map.L_kinds _) hs (j := 3) rfl) ?_
                      exact g
                    · intro X rest g
                      refine G.move rfl rfl rfl rfl ?_
                      exact g
                    · intro X rest g
                      refine G.loadI (y := a0) rfl rfl rfl rfl ty3 (fun w hs => Rd.bk (Lens.id _ _) hs (j := 1) rfl) ?_
                      exact g
                    · intro X rest g
                      refine G.bin (m := (([] : List Int) ++ a2).getD x21538.toNat 0) (n := a0) (r := wi64 (((([] : List Int) ++ a2).getD x21538.toNat 0) - a0)) rfl rfl rfl rfl rfl rfl rfl ?_
                      exact g
                    · intro X rest g
                      refine G.indexO (xs := x21537) (j := wi64 (((([] : List Int) ++ a2).getD x21538.toNat 0) - a0)) (off := (wi64 (((([] : List Int) ++ a2).getD x21538.toNat 0) - a0)).toNat * 1) rfl rfl rfl rfl rfl el51 (r := 2) rfl (by simp) k21553 rfl ?_
                      exact g
                    · intro X rest g
                      refine G.load8 (y := x21537.getD ((wi64 (((([] : List Int) ++ a2).getD x21538.toNat 0) - a0)).toNat) 0) rfl rfl rfl rfl ty54 (fun w hs => Rd.osG q21552 (Lens.id _ _) hs (j := 2) rfl (o := (wi64 (((([] : List Int) ++ a2).getD x21538.toNat 0) - a0)).toNat * 1) (by first | rfl | simp)) ?_
                      exact g
                    · intro X rest g
                      refine G.cmp ((x21537.getD ((wi64 (((([] : List Int) ++ a2).getD x21538.toNat 0) - a0)).toNat) 0) ≠ 0) rfl rfl rfl rfl rfl rfl (c8_neq (x21537.getD ((wi64 (((([] : List Int) ++ a2).getD x21538.toNat 0) - a0)).toNat) 0) 0) ?_
                      exact g
                    · intro A L hlen hp h0
                      refine G.lessSub (B := [(3, .pointer (some ⟨g21425, 0, none⟩)), (9, .pointer (some ⟨g21526, 0, none⟩)), (11, .int .i64 ((([] : List Int) ++ a2).getD x21538.toNat 0)), (36, .slice B6 ((([] : List Int) ++ a2).length) c7), (37, .int .i64 (((([] : List Int) ++ a2).length) : Int)), (38, .int .i64 x21538), (51, .bool (decide ((x21537.getD ((wi64 (((([] : List Int) ++ a2).getD x21538.toNat 0) - a0)).toNat) 0) ≠ 0)))]) (hp.fin hlen h0 (src := [.base 3, .base 9, .base 11, .base 36, .base 37, .base 38, .op 9]) rfl) ?_
                      refine G.regionEnd ?_
                      refine G.condP rfl (fun k21562 => ?_) (fun k21562 => ?_)
                      · replace h := ifT h k21562
                        refine G.seq ?_
                        refine G.region (l := [0, 1]) rfl ?_
                        refine G.assign rfl rfl rfl rfl ?_
                        refine G.assign rfl rfl rfl rfl ?_
                        refine G.regionEnd ?_
                        refine G.retN (rs := [.tmp 6, .tmp 7]) Try.func8 rfl rfl rfl (rt11 _ _ _ ?_)
                        refine G.frontAt 1 rfl ?_
                        refine G.drop ?_
                        refine G.frontAt 1 rfl ?_
                        refine G.drop ?_
                        refine G.frontAt 1 rfl ?_
                        refine G.drop ?_
                        refine G.less ?_ (J703  6 h)
                        exact ⟨rfl, rfl, rfl, rfl, rfl, rfl, rfl, trivial⟩
                      · replace h := ifF h k21562
                        refine G.skip ?_
                        obtain ⟨k21555, h⟩ := guardS h
                        have q21554 : (wi64 (((([] : List Int) ++ a2).getD x21538.toNat 0) - a0)).toNat < x21537.length := by omega
                        refine G.draw [[], [0], [1], [2], [], [], [4, 5], [3, 6, 0, 1, 2, 3, 4, 5, 6], [7, 0, 1, 2, 3, 4, 5, 6]] 9 [0, 1, 2, 3, 4, 5, 6, 7, 8] [0, 1, 2, 3, 0, 0, 1, 4, 5] [0, 1, 2, 3, 0, 0, 1, 4, 5] rfl (by kernel_rfl) (by kernel_rfl) (by kernel_rfl) (by kernel_rfl) ?_
                        intro C21556 ops21557 k21558
                        let R21559 : Reg := armoirelaw06_FreeGoes.reg8_10 [(3, .pointer (some ⟨g21425, 0, none⟩)), (9, .pointer (some ⟨g21526, 0, none⟩)), (11, .int .i64 ((([] : List Int) ++ a2).getD x21538.toNat 0)), (36, .slice B6 ((([] : List Int) ++ a2).length) c7), (37, .int .i64 (((([] : List Int) ++ a2).length) : Int)), (38, .int .i64 x21538)]
                        have P21561 : ∀ (m : Nat) (L : List Bool) (A : List (Nat × Value)) (l : List Nat), L.length = R21559.ds.length → R21559.Phi [some (.pointer (some ⟨g21526, 0, none⟩)), some (.pointer (some ⟨g21526, 0, none⟩)), some (.pointer (some ⟨g21526, 1, none⟩)), some (.slice B21523 x21537.length ((wi64 (a1 - a0)).toNat)), some (.int .i64 ((([] : List Int) ++ a2).getD x21538.toNat 0)), some (.int .i64 a0), some (.int .i64 (wi64 (((([] : List Int) ++ a2).getD x21538.toNat 0) - a0))), some (.pointer (some (plc B21523 ((wi64 (((([] : List Int) ++ a2).getD x21538.toNat 0) - a0)).toNat * 1)))), none] [0, 1, 2, 3, 4, 5, 6, 7, 8] [] L A → left L = m → Ord R21559.ds m L l → G C21556 H A (OS 54 Kd.u8 B21523 ((wi64 (a1 - a0)).toNat) (x21537.set ((wi64 (((([] : List Int) ++ a2).getD x21538.toNat 0) - a0)).toNat) 1) :: OS 3 (Kd.int .i64) B6 c7 (([] : List Int) ++ a2) :: BK 3 (Kd.int .i64) g21425 a0 :: BK 53 K_R_free_Map g21526 (R_free_Map.mk a0 (B21523, x21537.length, ((wi64 (a1 - a0)).toNat))) :: Fr) (.inRegion ops21557 l :: k21558) := by
                          refine G.phase R21559 [some (.pointer (some ⟨g21526, 0, none⟩)), some (.pointer (some ⟨g21526, 0, none⟩)), some (.pointer (some ⟨g21526, 1, none⟩)), some (.slice B21523 x21537.length ((wi64 (a1 - a0)).toNat)), some (.int .i64 ((([] : List Int) ++ a2).getD x21538.toNat 0)), some (.int .i64 a0), some (.int .i64 (wi64 (((([] : List Int) ++ a2).getD x21538.toNat 0) - a0))), some (.pointer (some (plc B21523 ((wi64 (((([] : List Int) ++ a2).getD x21538.toNat 0) - a0)).toNat * 1)))), none] [] [] [0, 1, 2, 3, 4, 5, 6, 7, 8] [] (armoirelaw06_FreeGoes.reg8_10_ap _) rfl rfl trivial trivial ?_
                          · intro A L hlen hp h0
                            refine G.lessSub (B := [(3, .pointer (some ⟨g21425, 0, none⟩)), (9, .pointer (some ⟨g21526, 0, none⟩)), (36, .slice B6 ((([] : List Int) ++ a2).length) c7), (37, .int .i64 (((([] : List Int) ++ a2).length) : Int)), (38, .int .i64 x21538)]) (hp.fin hlen h0 (src := [.base 3, .base 9, .base 36, .base 37, .base 38]) rfl) ?_
                            refine G.regionEnd ?_
                            refine G.inBlock ?_
                            refine G.region (l := [0, 1]) rfl ?_
                            refine G.bin (m := x21538) (n := 1) (r := wi64 (x21538 + 1)) rfl rfl rfl rfl rfl rfl rfl ?_
                            refine G.move rfl rfl rfl rfl ?_
                            refine G.regionEnd ?_
                            refine G.round ?_
                            refine G.frontAt 3 rfl ?_
                            refine G.headEq (r' := BK 53 K_R_free_Map g21526 (R_free_Map.mk a0 (B21523, (x21537.set ((wi64 (((([] : List Int) ++ a2).getD x21538.toNat 0) - a0)).toNat) 1).length, ((wi64 (a1 - a0)).toNat)))) (by first | (simp; done) | (simp; omega)) ?_
                            refine G.frontAt 1 rfl ?_
                            refine G.frontAt 3 rfl ?_
                            refine G.frontAt 3 rfl ?_
                            refine G.less ?_ (ih21547  (x21537.set ((wi64 (((([] : List Int) ++ a2).getD x21538.toNat 0) - a0)).toNat) 1) (wi64 (x21538 + 1)) h)
                            exact ⟨rfl, rfl, rfl, rfl, rfl, trivial⟩
                        have P21560 : ∀ (m : Nat) (L : List Bool) (A : List (Nat × Value)) (l : List Nat), L.length = R21559.ds.length → R21559.Phi [some (.pointer (some ⟨g21526, 0, none⟩)), some (.pointer (some ⟨g21526, 0, none⟩)), some (.pointer (some ⟨g21526, 1, none⟩)), some (.slice B21523 x21537.length ((wi64 (a1 - a0)).toNat)), some (.int .i64 ((([] : List Int) ++ a2).getD x21538.toNat 0)), some (.int .i64 a0), some (.int .i64 (wi64 (((([] : List Int) ++ a2).getD x21538.toNat 0) - a0))), some (.pointer (some (plc B21523 ((wi64 (((([] : List Int) ++ a2).getD x21538.toNat 0) - a0)).toNat * 1)))), none] [] [8] L A → left L = m → Ord R21559.ds m L l → G C21556 H A (OS 3 (Kd.int .i64) B6 c7 (([] : List Int) ++ a2) :: BK 3 (Kd.int .i64) g21425 a0 :: OS 54 Kd.u8 B21523 ((wi64 (a1 - a0)).toNat) x21537 :: BK 53 K_R_free_Map g21526 (R_free_Map.mk a0 (B21523, x21537.length, ((wi64 (a1 - a0)).toNat))) :: Fr) (.inRegion ops21557 l :: k21558) := by
                          refine G.phase R21559 [some (.pointer (some ⟨g21526, 0, none⟩)), some (.pointer (some ⟨g21526, 0, none⟩)), some (.pointer (some ⟨g21526, 1, none⟩)), some (.slice B21523 x21537.length ((wi64 (a1 - a0)).toNat)), some (.int .i64 ((([] : List Int) ++ a2).getD x21538.toNat 0)), some (.int .i64 a0), some (.int .i64 (wi64 (((([] : List Int) ++ a2).getD x21538.toNat 0) - a0))), some (.pointer (some (plc B21523 ((wi64 (((([] : List Int) ++ a2).getD x21538.toNat 0) - a0)).toNat * 1)))), none] [0, 1, 2, 3, 4, 5, 6, 7] [8] [] [8] (armoirelaw06_FreeGoes.reg8_10_ap _) rfl rfl ⟨⟨[.base 9], 52, .pointer (some ⟨g21526, 0, none⟩), [(9, .pointer (some ⟨g21526, 0, none⟩))], ⟨rfl, rfl, rfl, rfl, ?_⟩⟩, ⟨⟨[.op 0], 53, .pointer (some ⟨g21526, 0, none⟩), [(52, .pointer (some ⟨g21526, 0, none⟩))], ⟨rfl, rfl, rfl, rfl, ?_⟩⟩, ⟨⟨[.op 1], 54, .pointer (some ⟨g21526, 1, none⟩), [(53, .pointer (some ⟨g21526, 0, none⟩))], ⟨rfl, rfl, rfl, rfl, ?_⟩⟩, ⟨⟨[.op 2], 55, .slice B21523 x21537.length ((wi64 (a1 - a0)).toNat), [(54, .pointer (some ⟨g21526, 1, none⟩))], ⟨rfl, rfl, rfl, rfl, ?_⟩⟩, ⟨⟨[.base 11], 56, .int .i64 ((([] : List Int) ++ a2).getD x21538.toNat 0), [(11, .int .i64 ((([] : List Int) ++ a2).getD x21538.toNat 0))], ⟨rfl, rfl, rfl, rfl, ?_⟩⟩, ⟨⟨[.base 3], 57, .int .i64 a0, [(3, .pointer (some ⟨g21425, 0, none⟩))], ⟨rfl, rfl, rfl, rfl, ?_⟩⟩, ⟨⟨[.op 4, .op 5], 58, .int .i64 (wi64 (((([] : List Int) ++ a2).getD x21538.toNat 0) - a0)), [(56, .int .i64 ((([] : List Int) ++ a2).getD x21538.toNat 0)), (57, .int .i64 a0)], ⟨rfl, rfl, rfl, rfl, ?_⟩⟩, ⟨⟨[.op 3, .op 6], 59, .pointer (some (plc B21523 ((wi64 (((([] : List Int) ++ a2).getD x21538.toNat 0) - a0)).toNat * 1))), [(55, .slice B21523 x21537.length ((wi64 (a1 - a0)).toNat)), (58, .int .i64 (wi64 (((([] : List Int) ++ a2).getD x21538.toNat 0) - a0)))], ⟨rfl, rfl, rfl, rfl, ?_⟩⟩, trivial⟩⟩⟩⟩⟩⟩⟩⟩ ⟨⟨[.op 7], [(59, .pointer (some (plc B21523 ((wi64 (((([] : List Int) ++ a2).getD x21538.toNat 0) - a0)).toNat * 1))))], ⟨rfl, rfl, ?_⟩⟩, trivial⟩ ?_
                          · intro X rest g
                            refine G.move rfl rfl rfl rfl ?_
                            exact g
                          · intro X rest g
                            refine G.nilCheck rfl rfl rfl rfl ?_
                            exact g
                          · intro X rest g
                            refine G.field (off' := 1) rfl rfl rfl rfl Try.underlying53 rfl sz51 rfl rfl ?_
                            exact g
                          · intro X rest g
                            refine G.loadH (B := B21523) (m := x21537.length) (c := ((wi64 (a1 - a0)).toNat)) rfl rfl rfl rfl ty51r (fun w hs => Rd.bk (R_free_Map.L_kinds _) hs (j := 3) rfl) ?_
                            exact g
                          · intro X rest g
                            refine G.move rfl rfl rfl rfl ?_
                            exact g
                          · intro X rest g
                            refine G.loadI (y := a0) rfl rfl rfl rfl ty3 (fun w hs => Rd.bk (Lens.id _ _) hs (j := 1) rfl) ?_
                            exact g
                          · intro X rest g
                            refine G.bin (m := (([] : List Int) ++ a2).getD x21538.toNat 0) (n := a0) (r := wi64 (((([] : List Int) ++ a2).getD x21538.toNat 0) - a0)) rfl rfl rfl rfl rfl rfl rfl ?_
                            exact g
                          · intro X rest g
                            refine G.indexO (xs := x21537) (j := wi64 (((([] : List Int) ++ a2).getD x21538.toNat 0) - a0)) (off := (wi64 (((([] : List Int) ++ a2).getD x21538.toNat 0) - a0)).toNat * 1) rfl rfl rfl rfl rfl el51 (r := 2) rfl (by simp) k21555 rfl ?_
                            exact g
                          · intro X rest L m hlen hp hil hd hs hm ho
                            refine G.frontAt 2 rfl ?_
                            refine G.storeO (df := Kd.u8) (y := 1) (hj := q21554) (xs' := x21537.set ((wi64 (((([] : List Int) ++ a2).getD x21538.toNat 0) - a0)).toNat) 1) rfl rfl rfl rfl (Lens.id _ _) (by first | rfl | simp) ⟨([u8V 1] : List Value), rfl, rfl⟩ sz54 rfl ?_
                            refine G.frontAt 3 rfl ?_
                            refine G.frontAt 3 rfl ?_
                            refine G.frontAt 3 rfl ?_
                            refine G.frontAt 3 rfl ?_
                            exact P21561 m _ _ rest (by rw [List.length_set]; exact hlen) (hp.stepN2 1 (armoirelaw06_FreeGoes.reg8_10_ap _) hil hd hs (by repeat (first | exact trivial | refine And.intro rfl ?_)) rfl rfl rfl) hm ho
                          · intro A L hlen hp h0
                            exact (hp.notYet hlen h0 8 rfl rfl).elim
                        intro l hl
                        exact P21560 9 (List.replicate 9 false) _ l rfl (Reg.Phi.init 9 ⟨rfl, rfl, rfl, rfl, rfl, rfl, trivial⟩) (left_rep 9) hl
                  intro l hl
                  exact P21567 10 (List.replicate 10 false) _ l rfl (Reg.Phi.init 10 ⟨rfl, rfl, rfl, rfl, rfl, rfl, trivial⟩) (left_rep 10) hl
                · replace h := ifF h k21568
                  refine G.exit rfl ?_
                  refine G.seq ?_
                  refine G.region (l := [0, 1, 2]) rfl ?_
                  refine G.move rfl rfl rfl rfl ?_
                  refine G.assign rfl rfl rfl rfl ?_
                  refine G.assign rfl rfl rfl rfl ?_
                  refine G.regionEnd ?_
                  refine G.retN (rs := [.tmp 6, .tmp 7]) Try.func8 rfl rfl rfl (rt11 _ _ _ ?_)
                  refine G.frontAt 1 rfl ?_
                  refine G.drop ?_
                  refine G.frontAt 2 rfl ?_
                  refine G.frontAt 2 rfl ?_
                  refine G.frontAt 2 rfl ?_
                  refine G.less ?_ (J21424  g21526 B21523 ((wi64 (a1 - a0)).toNat) x21537 h)
                  exact ⟨rfl, rfl, rfl, rfl, rfl, rfl, rfl, trivial⟩
            intro J21569
            refine G.frontAt 4 rfl ?_
            refine G.drop ?_
            refine G.frontAt 1 rfl ?_
            refine G.frontAt 3 rfl ?_
            refine G.frontAt 3 rfl ?_
            refine G.less ?_ (J21569 FUEL  (List.replicate ((wi64 (a1 - a0)).toNat) 0 : List UInt8) 0 h)
            exact ⟨rfl, rfl, rfl, rfl, rfl, trivial⟩
          have d13 : ∀ (B21523 : Option Addr) (g21526 : Nat) (l : List Nat), Ord armoirelaw06_FreeGoes.ds8_4 1 [true, true, true, true, true, true, true, false] l → G C21578 H [(2, .slice B6 ((([] : List Int) ++ a2).length) c7), (3, .pointer (some ⟨g21425, 0, none⟩)), (35, .pointer (some ⟨g21526, 0, none⟩))] (BK 53 K_R_free_Map g21526 (R_free_Map.mk a0 (B21523, (List.replicate ((wi64 (a1 - a0)).toNat) 0 : List UInt8).length, ((wi64 (a1 - a0)).toNat))) :: OS 54 Kd.u8 B21523 ((wi64 (a1 - a0)).toNat) (List.replicate ((wi64 (a1 - a0)).toNat) 0 : List UInt8) :: OS 3 (Kd.int .i64) B6 c7 (([] : List Int) ++ a2) :: BK 3 (Kd.int .i64) g21425 a0 :: BK 3 (Kd.int .i64) g21427 a1 :: Fr) (.inRegion ops21579 l :: k21580) := by
            intro B21523 g21526 l hl
            refine G.fork [7] hl rfl (And.intro ?_ trivial)
            · intro rest ho
              refine G.assign rfl rfl rfl rfl ?_
              refine G.frontAt 4 rfl ?_
              refine G.frontAt 4 rfl ?_
              refine G.frontAt 4 rfl ?_
              refine G.frontAt 4 rfl ?_
              refine G.frontAt 4 rfl ?_
              refine G.less ?_ (d14 B21523 g21526 rest ho)
              exact ⟨rfl, rfl, rfl, trivial⟩
          have d12 : ∀ (B21523 : Option Addr) (l : List Nat), Ord armoirelaw06_FreeGoes.ds8_4 2 [true, true, true, true, true, true, false, false] l → G C21578 H [(2, .slice B6 ((([] : List Int) ++ a2).length) c7), (3, .pointer (some ⟨g21425, 0, none⟩)), (34, .agg (([.int .i64 a0] : List Value) ++ (([.slice B21523 ((List.replicate ((wi64 (a1 - a0)).toNat) 0 : List UInt8).length) ((wi64 (a1 - a0)).toNat)] : List Value))).toArray)] (OS 54 Kd.u8 B21523 ((wi64 (a1 - a0)).toNat) (List.replicate ((wi64 (a1 - a0)).toNat) 0 : List UInt8) :: OS 3 (Kd.int .i64) B6 c7 (([] : List Int) ++ a2) :: BK 3 (Kd.int .i64) g21425 a0 :: BK 3 (Kd.int .i64) g21427 a1 :: Fr) (.inRegion ops21579 l :: k21580) := by
            intro B21523 l hl
            refine G.fork [6] hl rfl (And.intro ?_ trivial)
            · intro rest ho
              refine G.box (dk := K_R_free_Map) (y := (R_free_Map.mk a0 (B21523, (List.replicate ((wi64 (a1 - a0)).toNat) 0 : List UInt8).length, ((wi64 (a1 - a0)).toNat)))) rfl rfl rfl rfl (VR.A (cs := ([.int .i64 a0] : List Value) ++ (([.slice B21523 ((List.replicate ((wi64 (a1 - a0)).toNat) 0 : List UInt8).length) ((wi64 (a1 - a0)).toNat)] : List Value))) (K_R_free_Map.mk rfl rfl)) ?_
              intro g21526
              refine G.frontAt 4 rfl ?_
              refine G.frontAt 4 rfl ?_
              refine G.frontAt 4 rfl ?_
              refine G.frontAt 4 rfl ?_
              refine G.frontAt 4 rfl ?_
              refine G.less ?_ (d13 B21523 g21526 rest ho)
              exact ⟨rfl, rfl, rfl, trivial⟩
          have d11 : ∀ (B21523 : Option Addr) (l : List Nat), Ord armoirelaw06_FreeGoes.ds8_4 3 [true, true, true, true, true, false, false, false] l → G C21578 H [(2, .slice B6 ((([] : List Int) ++ a2).length) c7), (3, .pointer (some ⟨g21425, 0, none⟩)), (29, .int .i64 a0), (33, .slice B21523 ((wi64 (a1 - a0)).toNat) ((wi64 (a1 - a0)).toNat))] (OS 54 Kd.u8 B21523 ((wi64 (a1 - a0)).toNat) (List.replicate ((wi64 (a1 - a0)).toNat) 0 : List UInt8) :: OS 3 (Kd.int .i64) B6 c7 (([] : List Int) ++ a2) :: BK 3 (Kd.int .i64) g21425 a0 :: BK 3 (Kd.int .i64) g21427 a1 :: Fr) (.inRegion ops21579 l :: k21580) := by
            intro B21523 l hl
            refine G.fork [5] hl rfl (And.intro ?_ trivial)
            · intro rest ho
              refine G.same (d := 33) (v := .slice B21523 ((List.replicate ((wi64 (a1 - a0)).toNat) 0 : List UInt8).length) ((wi64 (a1 - a0)).toNat)) rfl (by first | (simp; done) | (simp; omega)) ?_
              refine G.build (z := .agg (([.int .i64 0] : List Value) ++ (([.slice none 0 0] : List Value))).toArray) (pl := [(0, 1), (1, 1)]) (cs := ([.int .i64 a0] : List Value) ++ (([.slice B21523 ((List.replicate ((wi64 (a1 - a0)).toNat) 0 : List UInt8).length) ((wi64 (a1 - a0)).toNat)] : List Value))) rfl rfl rfl Try.underlying53 (by kernel_rfl) rfl (by kernel_rfl) (by kernel_rfl) rfl ?_
              refine G.frontAt 3 rfl ?_
              refine G.frontAt 3 rfl ?_
              refine G.frontAt 3 rfl ?_
              refine G.frontAt 3 rfl ?_
              refine G.less ?_ (d12 B21523 rest ho)
              exact ⟨rfl, rfl, rfl, trivial⟩
          have d10 : ∀ (B21523 : Option Addr) (l : List Nat), Ord armoirelaw06_FreeGoes.ds8_4 4 [false, true, true, true, true, false, false, false] l → G C21578 H [(2, .slice B6 ((([] : List Int) ++ a2).length) c7), (3, .pointer (some ⟨g21425, 0, none⟩)), (33, .slice B21523 ((wi64 (a1 - a0)).toNat) ((wi64 (a1 - a0)).toNat))] (OS 54 Kd.u8 B21523 ((wi64 (a1 - a0)).toNat) (List.replicate ((wi64 (a1 - a0)).toNat) 0 : List UInt8) :: OS 3 (Kd.int .i64) B6 c7 (([] : List Int) ++ a2) :: BK 3 (Kd.int .i64) g21425 a0 :: BK 3 (Kd.int .i64) g21427 a1 :: Fr) (.inRegion ops21579 l :: k21580) := by
            intro B21523 l hl
            refine G.fork [0] hl rfl (And.intro ?_ trivial)
            · intro rest ho
              refine G.loadI (y := a0) rfl rfl rfl rfl ty3 (fun w hs => Rd.bk (Lens.id _ _) hs (j := 2) rfl) ?_
              refine G.frontAt 3 rfl ?_
              refine G.frontAt 3 rfl ?_
              refine G.frontAt 3 rfl ?_
              refine G.frontAt 3 rfl ?_
              refine G.less ?_ (d11 B21523 rest ho)
              exact ⟨rfl, rfl, rfl, rfl, trivial⟩
          have d9 : ∀ (l : List Nat), Ord armoirelaw06_FreeGoes.ds8_4 4 [true, true, true, true, false, false, false, false] l → G C21578 H [(2, .slice B6 ((([] : List Int) ++ a2).length) c7), (3, .pointer (some ⟨g21425, 0, none⟩)), (29, .int .i64 a0), (32, .int .i64 (wi64 (a1 - a0)))] (OS 3 (Kd.int .i64) B6 c7 (([] : List Int) ++ a2) :: BK 3 (Kd.int .i64) g21425 a0 :: BK 3 (Kd.int .i64) g21427 a1 :: Fr) (.inRegion ops21579 l :: k21580) := by
            intro  l hl
            refine G.fork [4] hl rfl (And.intro ?_ trivial)
            · intro rest ho
              refine G.makeSlice (df := Kd.u8) (z0 := 0) (m := wi64 (a1 - a0)) (c := wi64 (a1 - a0)) (z := .int .u8 0) (cz := ([u8V 0] : List Value)) rfl rfl rfl rfl rfl el51 (by kernel_rfl) rfl (rfl) rfl k21525 ?_
              intro B21523
              refine G.frontAt 3 rfl ?_
              refine G.frontAt 3 rfl ?_
              refine G.frontAt 3 rfl ?_
              refine G.frontAt 3 rfl ?_
              refine G.less ?_ (d11 B21523 rest ho)
              exact ⟨rfl, rfl, rfl, rfl, trivial⟩
          have d8 : ∀ (l : List Nat), Ord armoirelaw06_FreeGoes.ds8_4 5 [false, true, true, true, false, false, false, false] l → G C21578 H [(2, .slice B6 ((([] : List Int) ++ a2).length) c7), (3, .pointer (some ⟨g21425, 0, none⟩)), (32, .int .i64 (wi64 (a1 - a0)))] (OS 3 (Kd.int .i64) B6 c7 (([] : List Int) ++ a2) :: BK 3 (Kd.int .i64) g21425 a0 :: BK 3 (Kd.int .i64) g21427 a1 :: Fr) (.inRegion ops21579 l :: k21580) := by
            intro  l hl
            refine G.fork [0, 4] hl rfl (And.intro ?_ (And.intro ?_ trivial))
            · intro rest ho
              refine G.loadI (y := a0) rfl rfl rfl rfl ty3 (fun w hs => Rd.bk (Lens.id _ _) hs (j := 1) rfl) ?_
              refine G.frontAt 2 rfl ?_
              refine G.frontAt 2 rfl ?_
              refine G.frontAt 2 rfl ?_
              refine G.less ?_ (d9 rest ho)
              exact ⟨rfl, rfl, rfl, rfl, trivial⟩
            · intro rest ho
              refine G.makeSlice (df := Kd.u8) (z0 := 0) (m := wi64 (a1 - a0)) (c := wi64 (a1 - a0)) (z := .int .u8 0) (cz := ([u8V 0] : List Value)) rfl rfl rfl rfl rfl el51 (by kernel_rfl) rfl (rfl) rfl k21525 ?_
              intro B21523
              refine G.frontAt 3 rfl ?_
              refine G.frontAt 3 rfl ?_
              refine G.frontAt 3 rfl ?_
              refine G.frontAt 3 rfl ?_
              refine G.less ?_ (d10 B21523 rest ho)
              exact ⟨rfl, rfl, rfl, trivial⟩
          have d7 : ∀ (l : List Nat), Ord armoirelaw06_FreeGoes.ds8_4 5 [true, true, true, false, false, false, false, false] l → G C21578 H [(2, .slice B6 ((([] : List Int) ++ a2).length) c7), (3, .pointer (some ⟨g21425, 0, none⟩)), (29, .int .i64 a0), (30, .int .i64 a1), (31, .int .i64 a0)] (OS 3 (Kd.int .i64) B6 c7 (([] : List Int) ++ a2) :: BK 3 (Kd.int .i64) g21425 a0 :: BK 3 (Kd.int .i64) g21427 a1 :: Fr) (.inRegion ops21579 l :: k21580) := by
            intro  l hl
            refine G.fork [3] hl rfl (And.intro ?_ trivial)
            · intro rest ho
              refine G.bin (m := a1) (n := a0) (r := wi64 (a1 - a0)) rfl rfl rfl rfl rfl rfl rfl ?_
              refine G.frontAt 2 rfl ?_
              refine G.frontAt 2 rfl ?_
              refine G.frontAt 2 rfl ?_
              refine G.less ?_ (d9 rest ho)
              exact ⟨rfl, rfl, rfl, rfl, trivial⟩
          have d6 : ∀ (l : List Nat), Ord armoirelaw06_FreeGoes.ds8_4 6 [false, true, true, false, false, false, false, false] l → G C21578 H [(2, .slice B6 ((([] : List Int) ++ a2).length) c7), (3, .pointer (some ⟨g21425, 0, none⟩)), (30, .int .i64 a1), (31, .int .i64 a0)] (OS 3 (Kd.int .i64) B6 c7 (([] : List Int) ++ a2) :: BK 3 (Kd.int .i64) g21425 a0 :: BK 3 (Kd.int .i64) g21427 a1 :: Fr) (.inRegion ops21579 l :: k21580) := by
            intro  l hl
            refine G.fork [0, 3] hl rfl (And.intro ?_ (And.intro ?_ trivial))
            · intro rest ho
              refine G.loadI (y := a0) rfl rfl rfl rfl ty3 (fun w hs => Rd.bk (Lens.id _ _) hs (j := 1) rfl) ?_
              refine G.frontAt 2 rfl ?_
              refine G.frontAt 2 rfl ?_
              refine G.frontAt 2 rfl ?_
              refine G.less ?_ (d7 rest ho)
              exact ⟨rfl, rfl, rfl, rfl, rfl, trivial⟩
            · intro rest ho
              refine G.bin (m := a1) (n := a0) (r := wi64 (a1 - a0)) rfl rfl rfl rfl rfl rfl rfl ?_
              refine G.frontAt 2 rfl ?_
              refine G.frontAt 2 rfl ?_
              refine G.frontAt 2 rfl ?_
              refine G.less ?_ (d8 rest ho)
              exact ⟨rfl, rfl, rfl, trivial⟩
          have d5 : ∀ (l : List Nat), Ord armoirelaw06_FreeGoes.ds8_4 6 [true, false, true, false, false, false, false, false] l → G C21578 H [(2, .slice B6 ((([] : List Int) ++ a2).length) c7), (3, .pointer (some ⟨g21425, 0, none⟩)), (4, .pointer (some ⟨g21427, 0, none⟩)), (29, .int .i64 a0), (31, .int .i64 a0)] (OS 3 (Kd.int .i64) B6 c7 (([] : List Int) ++ a2) :: BK 3 (Kd.int .i64) g21425 a0 :: BK 3 (Kd.int .i64) g21427 a1 :: Fr) (.inRegion ops21579 l :: k21580) := by
            intro  l hl
            refine G.fork [1] hl rfl (And.intro ?_ trivial)
            · intro rest ho
              refine G.loadI (y := a1) rfl rfl rfl rfl ty3 (fun w hs => Rd.bk (Lens.id _ _) hs (j := 2) rfl) ?_
              refine G.frontAt 2 rfl ?_
              refine G.frontAt 2 rfl ?_
              refine G.frontAt 2 rfl ?_
              refine G.less ?_ (d7 rest ho)
              exact ⟨rfl, rfl, rfl, rfl, rfl, trivial⟩
          have d4 : ∀ (l : List Nat), Ord armoirelaw06_FreeGoes.ds8_4 6 [true, true, false, false, false, false, false, false] l → G C21578 H [(2, .slice B6 ((([] : List Int) ++ a2).length) c7), (3, .pointer (some ⟨g21425, 0, none⟩)), (29, .int .i64 a0), (30, .int .i64 a1)] (OS 3 (Kd.int .i64) B6 c7 (([] : List Int) ++ a2) :: BK 3 (Kd.int .i64) g21425 a0 :: BK 3 (Kd.int .i64) g21427 a1 :: Fr) (.inRegion ops21579 l :: k21580) := by
            intro  l hl
            refine G.fork [2] hl rfl (And.intro ?_ trivial)
            · intro rest ho
              refine G.loadI (y := a0) rfl rfl rfl rfl ty3 (fun w hs => Rd.bk (Lens.id _ _) hs (j := 1) rfl) ?_
              refine G.frontAt 2 rfl ?_
              refine G.frontAt 2 rfl ?_
              refine G.frontAt 2 rfl ?_
              refine G.less ?_ (d7 rest ho)
              exact ⟨rfl, rfl, rfl, rfl, rfl, trivial⟩
          have d3 : ∀ (l : List Nat), Ord armoirelaw06_FreeGoes.ds8_4 7 [false, false, true, false, false, false, false, false] l → G C21578 H [(2, .slice B6 ((([] : List Int) ++ a2).length) c7), (3, .pointer (some ⟨g21425, 0, none⟩)), (4, .pointer (some ⟨g21427, 0, none⟩)), (31, .int .i64 a0)] (OS 3 (Kd.int .i64) B6 c7 (([] : List Int) ++ a2) :: BK 3 (Kd.int .i64) g21425 a0 :: BK 3 (Kd.int .i64) g21427 a1 :: Fr) (.inRegion ops21579 l :: k21580) := by
            intro  l hl
            refine G.fork [0, 1] hl rfl (And.intro ?_ (And.intro ?_ trivial))
            · intro rest ho
              refine G.loadI (y := a0) rfl rfl rfl rfl ty3 (fun w hs => Rd.bk (Lens.id _ _) hs (j := 1) rfl) ?_
              refine G.frontAt 2 rfl ?_
              refine G.frontAt 2 rfl ?_
              refine G.frontAt 2 rfl ?_
              refine G.less ?_ (d5 rest ho)
              exact ⟨rfl, rfl, rfl, rfl, rfl, trivial⟩
            · intro rest ho
              refine G.loadI (y := a1) rfl rfl rfl rfl ty3 (fun w hs => Rd.bk (Lens.id _ _) hs (j := 2) rfl) ?_
              refine G.frontAt 2 rfl ?_
              refine G.frontAt 2 rfl ?_
              refine G.frontAt 2 rfl ?_
              refine G.less ?_ (d6 rest ho)
              exact ⟨rfl, rfl, rfl, rfl, trivial⟩
          have d2 : ∀ (l : List Nat), Ord armoirelaw06_FreeGoes.ds8_4 7 [false, true, false, false, false, false, false, false] l → G C21578 H [(2, .slice B6 ((([] : List Int) ++ a2).length) c7), (3, .pointer (some ⟨g21425, 0, none⟩)), (30, .int .i64 a1)] (OS 3 (Kd.int .i64) B6 c7 (([] : List Int) ++ a2) :: BK 3 (Kd.int .i64) g21425 a0 :: BK 3 (Kd.int .i64) g21427 a1 :: Fr) (.inRegion ops21579 l :: k21580) := by
            intro  l hl
            refine G.fork [0, 2] hl rfl (And.intro ?_ (And.intro ?_ trivial))
            · intro rest ho
              refine G.loadI (y := a0) rfl rfl rfl rfl ty3 (fun w hs => Rd.bk (Lens.id _ _) hs (j := 1) rfl) ?_
              refine G.frontAt 2 rfl ?_
              refine G.frontAt 2 rfl ?_
              refine G.frontAt 2 rfl ?_
              refine G.less ?_ (d4 rest ho)
              exact ⟨rfl, rfl, rfl, rfl, trivial⟩
            · intro rest ho
              refine G.loadI (y := a0) rfl rfl rfl rfl ty3 (fun w hs => Rd.bk (Lens.id _ _) hs (j := 1) rfl) ?_
              refine G.frontAt 2 rfl ?_
              refine G.frontAt 2 rfl ?_
              refine G.frontAt 2 rfl ?_
              refine G.less ?_ (d6 rest ho)
              exact ⟨rfl, rfl, rfl, rfl, trivial⟩
          have d1 : ∀ (l : List Nat), Ord armoirelaw06_FreeGoes.ds8_4 7 [true, false, false, false, false, false, false, false] l → G C21578 H [(2, .slice B6 ((([] : List Int) ++ a2).length) c7), (3, .pointer (some ⟨g21425, 0, none⟩)), (4, .pointer (some ⟨g21427, 0, none⟩)), (29, .int .i64 a0)] (OS 3 (Kd.int .i64) B6 c7 (([] : List Int) ++ a2) :: BK 3 (Kd.int .i64) g21425 a0 :: BK 3 (Kd.int .i64) g21427 a1 :: Fr) (.inRegion ops21579 l :: k21580) := by
            intro  l hl
            refine G.fork [1, 2] hl rfl (And.intro ?_ (And.intro ?_ trivial))
            · intro rest ho
              refine G.loadI (y := a1) rfl rfl rfl rfl ty3 (fun w hs => Rd.bk (Lens.id _ _) hs (j := 2) rfl) ?_
              refine G.frontAt 2 rfl ?_
              refine G.frontAt 2 rfl ?_
              refine G.frontAt 2 rfl ?_
              refine G.less ?_ (d4 rest ho)
              exact ⟨rfl, rfl, rfl, rfl, trivial⟩
            · intro rest ho
              refine G.loadI (y := a0) rfl rfl rfl rfl ty3 (fun w hs => Rd.bk (Lens.id _ _) hs (j := 1) rfl) ?_
              refine G.frontAt 2 rfl ?_
              refine G.frontAt 2 rfl ?_
              refine G.frontAt 2 rfl ?_
              refine G.less ?_ (d5 rest ho)
              exact ⟨rfl, rfl, rfl, rfl, rfl, trivial⟩
          have d0 : ∀ (l : List Nat), Ord armoirelaw06_FreeGoes.ds8_4 8 [false, false, false, false, false, false, false, false] l → G C21578 H [(2, .slice B6 ((([] : List Int) ++ a2).length) c7), (3, .pointer (some ⟨g21425, 0, none⟩)), (4, .pointer (some ⟨g21427, 0, none⟩))] (OS 3 (Kd.int .i64) B6 c7 (([] : List Int) ++ a2) :: BK 3 (Kd.int .i64) g21425 a0 :: BK 3 (Kd.int .i64) g21427 a1 :: Fr) (.inRegion ops21579 l :: k21580) := by
            intro  l hl
            refine G.fork [0, 1, 2] hl rfl (And.intro ?_ (And.intro ?_ (And.intro ?_ trivial)))
            · intro rest ho
              refine G.loadI (y := a0) rfl rfl rfl rfl ty3 (fun w hs => Rd.bk (Lens.id _ _) hs (j := 1) rfl) ?_
              refine G.frontAt 2 rfl ?_
              refine G.frontAt 2 rfl ?_
              refine G.frontAt 2 rfl ?_
              refine G.less ?_ (d1 rest ho)
              exact ⟨rfl, rfl, rfl, rfl, trivial⟩
            · intro rest ho
              refine G.loadI (y := a1) rfl rfl rfl rfl ty3 (fun w hs => Rd.bk (Lens.id _ _) hs (j := 2) rfl) ?_
              refine G.frontAt 2 rfl ?_
              refine G.frontAt 2 rfl ?_
              refine G.frontAt 2 rfl ?_
              refine G.less ?_ (d2 rest ho)
              exact ⟨rfl, rfl, rfl, trivial⟩
            · intro rest ho
              refine G.loadI (y := a0) rfl rfl rfl rfl ty3 (fun w hs => Rd.bk (Lens.id _ _) hs (j := 1) rfl) ?_
              refine G.frontAt 2 rfl ?_
              refine G.frontAt 2 rfl ?_
              refine G.frontAt 2 rfl ?_
              refine G.less ?_ (d3 rest ho)
              exact ⟨rfl, rfl, rfl, rfl, trivial⟩
          intro l hl
          refine G.less ?_ (d0 l hl)
          exact ⟨rfl, rfl, rfl, trivial⟩
      intro J21582
      refine G.rest (l1 := [12, 13, 14, 15]) (l2 := []) (fun GG K => ∀ (b21583 : Bool), armoirelaw06_FreeGoes.j9 a0 a1 a2 a3 t1 b21583 = some r → GG H [(2, .slice B6 ((([] : List Int) ++ a2).length) c7), (3, .pointer (some ⟨g21425, 0, none⟩)), (4, .pointer (some ⟨g21427, 0, none⟩)), (28, .bool b21583)] (OS 3 (Kd.int .i64) B6 c7 (([] : List Int) ++ a2) :: BK 3 (Kd.int .i64) g21425 a0 :: BK 3 (Kd.int .i64) g21427 a1 :: Fr) K) ?_ ?_
      · intro b21583 h
        unfold armoirelaw06_FreeGoes.j9 at h
        refine G.regionEnd ?_
        refine G.cond rfl (fun k21642 => ?_) (fun k21642 => ?_)
        · replace h := ifT h k21642
          refine G.seq ?_
          refine G.region (l := [0, 1]) rfl ?_
          refine G.assign rfl rfl rfl rfl ?_
          refine G.assign rfl rfl rfl rfl ?_
          refine G.regionEnd ?_
          refine G.retN (rs := [.tmp 6, .tmp 7]) Try.func8 rfl rfl rfl (rt11 _ _ _ ?_)
          refine G.frontAt 1 rfl ?_
          refine G.drop ?_
          refine G.frontAt 1 rfl ?_
          refine G.drop ?_
          refine G.less ?_ (J703  1 h)
          exact ⟨rfl, rfl, rfl, rfl, rfl, rfl, rfl, trivial⟩
        · replace h := ifFB h k21642
          refine G.skip ?_
          refine G.seq ?_
          obtain ⟨k21586, h⟩ := guardS h
          refine G.draw armoirelaw06_FreeGoes.ds8_4 8 [0, 1, 2, 3, 4, 5, 6, 7] [0, 0, 0, 1, 2, 3, 4, 5] [0, 0, 0, 1, 2, 3, 4, 5] rfl (by kernel_rfl) (by kernel_rfl) (by kernel_rfl) (by kernel_rfl) ?_
          intro C21639 ops21640 k21641
          have d14 : ∀ (B21584 : Option Addr) (g21587 : Nat) (l : List Nat), Ord armoirelaw06_FreeGoes.ds8_4 0 [true, true, true, true, true, true, true, true] l → G C21639 H [(2, .slice B6 ((([] : List Int) ++ a2).length) c7), (3, .pointer (some ⟨g21425, 0, none⟩)), (9, .pointer (some ⟨g21587, 0, none⟩))] (BK 53 K_R_free_Map g21587 (R_free_Map.mk a0 (B21584, (List.replicate ((wi64 (a1 - a0)).toNat) 0 : List UInt8).length, ((wi64 (a1 - a0)).toNat))) :: OS 54 Kd.u8 B21584 ((wi64 (a1 - a0)).toNat) (List.replicate ((wi64 (a1 - a0)).toNat) 0 : List UInt8) :: OS 3 (Kd.int .i64) B6 c7 (([] : List Int) ++ a2) :: BK 3 (Kd.int .i64) g21425 a0 :: BK 3 (Kd.int .i64) g21427 a1 :: Fr) (.inRegion ops21640 l :: k21641) := by
            intro B21584 g21587 l hl
            refine G.drawnAll hl ?_
            refine G.regionEnd ?_
            refine G.seq ?_
            refine G.seq ?_
            refine G.region (l := [0, 1, 2]) rfl ?_
            refine G.move rfl rfl rfl rfl ?_
            refine G.len (m := ((([] : List Int) ++ a2).length)) rfl rfl rfl rfl Try.underlying28 ?_
            refine G.move rfl rfl rfl rfl ?_
            refine G.regionEnd ?_
            refine G.block ?_
            refine G.loop (fun GG K => ∀ (d21609 : Nat) (x21598 : (List UInt8)) (x21599 : Int), armoirelaw06_FreeGoes.l10 a0 a1 a2 a3 t1 d21609 x21598 x21599 = some r → GG H [(3, .pointer (some ⟨g21425, 0, none⟩)), (9, .pointer (some ⟨g21587, 0, none⟩)), (36, .slice B6 ((([] : List Int) ++ a2).length) c7), (37, .int .i64 (((([] : List Int) ++ a2).length) : Int)), (38, .int .i64 x21599)] (OS 3 (Kd.int .i64) B6 c7 (([] : List Int) ++ a2) :: BK 3 (Kd.int .i64) g21425 a0 :: OS 54 Kd.u8 B21584 ((wi64 (a1 - a0)).toNat) x21598 :: BK 53 K_R_free_Map g21587 (R_free_Map.mk a0 (B21584, x21598.length, ((wi64 (a1 - a0)).toNat))) :: Fr) K) ?_ ?_
            · intro d21609
              induction d21609 with
              | zero => intro x21598 x21599 h; rw [armoirelaw06_FreeGoes.l10] at h; cases h
              | succ d21609 ih21608 =>
                intro x21598 x21599 h
                rw [armoirelaw06_FreeGoes.l10] at h
                refine G.seq ?_
                refine G.region (l := [0]) rfl ?_
                refine G.cmp (x21599 < (((([] : List Int) ++ a2).length) : Int)) rfl rfl rfl rfl rfl rfl Iff.rfl ?_
                refine G.regionEnd ?_
                refine G.seq ?_
                refine G.condP rfl (fun k21629 => ?_) (fun k21629 => ?_)
                · replace h := ifT h k21629
                  refine G.skip ?_
                  refine G.seq ?_
                  refine G.block ?_
                  refine G.seq ?_
                  refine G.region (l := [0, 1, 2]) rfl ?_
                  obtain ⟨k21612, h⟩ := guardS h
                  have q21611 : x21599.toNat < (([] : List Int) ++ a2).length := by omega
                  refine G.indexO (xs := (([] : List Int) ++ a2)) (j := x21599) (off := x21599.toNat * 1) rfl rfl rfl rfl rfl el28 (r := 0) rfl (by simp) k21612 rfl ?_
                  refine G.loadI (y := (([] : List Int) ++ a2).getD x21599.toNat 0) rfl rfl rfl rfl ty3 (fun w hs => Rd.osG q21611 (Lens.id _ _) hs (j := 0) rfl (o := x21599.toNat * 1) (by first | rfl | simp)) ?_
                  refine G.assign rfl rfl rfl rfl ?_
                  refine G.regionEnd ?_
                  refine G.seq ?_
                  refine G.seq ?_
                  obtain ⟨k21614, h⟩ := guardS h
                  have q21613 : (wi64 (((([] : List Int) ++ a2).getD x21599.toNat 0) - a0)).toNat < x21598.length := by omega
                  refine G.draw [[], [0], [1], [2], [], [], [4, 5], [3, 6], [7], [8]] 10 [0, 1, 2, 3, 4, 5, 6, 7, 8, 9] [0, 1, 2, 3, 0, 0, 1, 4, 5, 6] [0, 1, 2, 3, 0, 0, 1, 4, 5, 6] rfl (by kernel_rfl) (by kernel_rfl) (by kernel_rfl) (by kernel_rfl) ?_
                  intro C21624 ops21625 k21626
                  let R21627 : Reg := armoirelaw06_FreeGoes.reg8_8 [(3, .pointer (some ⟨g21425, 0, none⟩)), (9, .pointer (some ⟨g21587, 0, none⟩)), (11, .int .i64 ((([] : List Int) ++ a2).getD x21599.toNat 0)), (36, .slice B6 ((([] : List Int) ++ a2).length) c7), (37, .int .i64 (((([] : List Int) ++ a2).length) : Int)), (38, .int .i64 x21599)]
                  have P21628 : ∀ (m : Nat) (L : List Bool) (A : List (Nat × Value)) (l : List Nat), L.length = R21627.ds.length → R21627.Phi [some (.pointer (some ⟨g21587, 0, none⟩)), some (.pointer (some ⟨g21587, 0, none⟩)), some (.pointer (some ⟨g21587, 1, none⟩)), some (.slice B21584 x21598.length ((wi64 (a1 - a0)).toNat)), some (.int .i64 ((([] : List Int) ++ a2).getD x21599.toNat 0)), some (.int .i64 a0), some (.int .i64 (wi64 (((([] : List Int) ++ a2).getD x21599.toNat 0) - a0))), some (.pointer (some (plc B21584 ((wi64 (((([] : List Int) ++ a2).getD x21599.toNat 0) - a0)).toNat * 1)))), some (u8V (x21598.getD ((wi64 (((([] : List Int) ++ a2).getD x21599.toNat 0) - a0)).toNat) 0)), some (.bool (decide ((x21598.getD ((wi64 (((([] : List Int) ++ a2).getD x21599.toNat 0) - a0)).toNat) 0) ≠ 0)))] [] [] L A → left L = m → Ord R21627.ds m L l → G C21624 H A (OS 3 (Kd.int .i64) B6 c7 (([] : List Int) ++ a2) :: BK 3 (Kd.int .i64) g21425 a0 :: OS 54 Kd.u8 B21584 ((wi64 (a1 - a0)).toNat) x21598 :: BK 53 K_R_free_Map g21587 (R_free_Map.mk a0 (B21584, x21598.length, ((wi64 (a1 - a0)).toNat))) :: Fr) (.inRegion ops21625 l :: k21626) := by
                    refine G.phase R21627 [some (.pointer (some ⟨g21587, 0, none⟩)), some (.pointer (some ⟨g21587, 0, none⟩)), some (.pointer (some ⟨g21587, 1, none⟩)), some (.slice B21584 x21598.length ((wi64 (a1 - a0)).toNat)), some (.int .i64 ((([] : List Int) ++ a2).getD x21599.toNat 0)), some (.int .i64 a0), some (.int .i64 (wi64 (((([] : List Int) ++ a2).getD x21599.toNat 0) - a0))), some (.pointer (some (plc B21584 ((wi64 (((([] : List Int) ++ a2).getD x21599.toNat 0) - a0)).toNat * 1)))), some (u8V (x21598.getD ((wi64 (((([] : List Int) ++ a2).getD x21599.toNat 0) - a0)).toNat) 0)), some (.bool (decide ((x21598.getD ((wi64 (((([] : List Int) ++ a2).getD x21599.toNat 0) - a0)).toNat) 0) ≠ 0)))] [0, 1, 2, 3, 4, 5, 6, 7, 8, 9] [] [] [] (armoirelaw06_FreeGoes.reg8_8_ap _) rfl rfl ⟨⟨[.base 9], 42, .pointer (some ⟨g21587, 0, none⟩), [(9, .pointer (some ⟨g21587, 0, none⟩))], ⟨rfl, rfl, rfl, rfl, ?_⟩⟩, ⟨⟨[.op 0], 43, .pointer (some ⟨g21587, 0, none⟩), [(42, .pointer (some ⟨g21587, 0, none⟩))], ⟨rfl, rfl, rfl, rfl, ?_⟩⟩, ⟨⟨[.op 1], 44, .pointer (some ⟨g21587, 1, none⟩), [(43, .pointer (some ⟨g21587, 0, none⟩))], ⟨rfl, rfl, rfl, rfl, ?_⟩⟩, ⟨⟨[.op 2], 45, .slice B21584 x21598.length ((wi64 (a1 - a0)).toNat), [(44, .pointer (some ⟨g21587, 1, none⟩))], ⟨rfl, rfl, rfl, rfl, ?_⟩⟩, ⟨⟨[.base 11], 46, .int .i64 ((([] : List Int) ++ a2).getD x21599.toNat 0), [(11, .int .i64 ((([] : List Int) ++ a2).getD x21599.toNat 0))], ⟨rfl, rfl, rfl, rfl, ?_⟩⟩, ⟨⟨[.base 3], 47, .int .i64 a0, [(3, .pointer (some ⟨g21425, 0, none⟩))], ⟨rfl, rfl, rfl, rfl, ?_⟩⟩, ⟨⟨[.op 4, .op 5], 48, .int .i64 (wi64 (((([] : List Int) ++ a2).getD x21599.toNat 0) - a0)), [(46, .int .i64 ((([] : List Int) ++ a2).getD x21599.toNat 0)), (47, .int .i64 a0)], ⟨rfl, rfl, rfl, rfl, ?_⟩⟩, ⟨⟨[.op 3, .op 6], 49, .pointer (some (plc B21584 ((wi64 (((([] : List Int) ++ a2).getD x21599.toNat 0) - a0)).toNat * 1))), [(45, .slice B21584 x21598.length ((wi64 (a1 - a0)).toNat)), (48, .int .i64 (wi64 (((([] : List Int) ++ a2).getD x21599.toNat 0) - a0)))], ⟨rfl, rfl, rfl, rfl, ?_⟩⟩, ⟨⟨[.op 7], 50, u8V (x21598.getD ((wi64 (((([] : List Int) ++ a2).getD x21599.toNat 0) - a0)).toNat) 0), [(49, .pointer (some (plc B21584 ((wi64 (((([] : List Int) ++ a2).getD x21599.toNat 0) - a0)).toNat * 1))))], ⟨rfl, rfl, rfl, rfl, ?_⟩⟩, ⟨⟨[.op 8], 51, .bool (decide ((x21598.getD ((wi64 (((([] : List Int) ++ a2).getD x21599.toNat 0) - a0)).toNat) 0) ≠ 0)), [(50, u8V (x21598.getD ((wi64 (((([] : List Int) ++ a2).getD x21599.toNat 0) - a0)).toNat) 0))], ⟨rfl, rfl, rfl, rfl, ?_⟩⟩, trivial⟩⟩⟩⟩⟩⟩⟩⟩⟩⟩ trivial ?_
                    · intro X rest g
                      refine G.move rfl rfl rfl rfl ?_
                      exact g
                    · intro X rest g
                      refine G.nilCheck rfl rfl rfl rfl ?_
                      exact g
                    · intro X rest g
                      refine G.field (off' := 1) rfl rfl rfl rfl Try.underlying53 rfl sz51 rfl rfl ?_
                      exact g
                    · intro X rest g
                      refine G.loadH (B := B21584) (m := x21598.length) (c := ((wi64 (a1 - a0)).toNat)) rfl rfl rfl rfl ty51r (fun w hs => Rd.bk (R_free_Map.L_kinds _) hs (j := 3) rfl) ?_
                      exact g
                    · intro X rest g
                      refine G.move rfl rfl rfl rfl ?_
                      exact g
                    · intro X rest g
                      refine G.loadI (y := a0) rfl rfl rfl rfl ty3 (fun w hs => Rd.bk (Lens.id _ _) hs (j := 1) rfl) ?_
                      exact g
                    · intro X rest g
                      refine G.bin (m := (([] : List Int) ++ a2).getD x21599.toNat 0) (n := a0) (r := wi64 (((([] : List Int) ++ a2).getD x21599.toNat 0) - a0)) rfl rfl rfl rfl rfl rfl rfl ?_
                      exact g
                    · intro X rest g
                      refine G.indexO (xs := x21598) (j := wi64 (((([] : List Int) ++ a2).getD x21599.toNat 0) - a0)) (off := (wi64 (((([] : List Int) ++ a2).getD x21599.toNat 0) - a0)).toNat * 1) rfl rfl rfl rfl rfl el51 (r := 2) rfl (by simp) k21614 rfl ?_
                      exact g
                    · intro X rest g
                      refine G.load8 (y := x21598.getD ((wi64 (((([] : List Int) ++ a2).getD x21599.toNat 0) - a0)).toNat) 0) rfl rfl rfl rfl ty54 (fun w hs => Rd.osG q21613 (Lens.id _ _) hs (j := 2) rfl (o := (wi64 (((([] : List Int) ++ a2).getD x21599.toNat 0) - a0)).toNat * 1) (by first | rfl | simp)) ?_
                      exact g
                    · intro X rest g
                      refine G.cmp ((x21598.getD ((wi64 (((([] : List Int) ++ a2).getD x21599.toNat 0) - a0)).toNat) 0) ≠ 0) rfl rfl rfl rfl rfl rfl (c8_neq (x21598.getD ((wi64 (((([] : List Int) ++ a2).getD x21599.toNat 0) - a0)).toNat) 0) 0) ?_
                      exact g
                    · intro A L hlen hp h0
                      refine G.lessSub (B := [(3, .pointer (some ⟨g21425, 0, none⟩)), (9, .pointer (some ⟨g21587, 0, none⟩)), (11, .int .i64 ((([] : List Int) ++ a2).getD x21599.toNat 0)), (36, .slice B6 ((([] : List Int) ++ a2).length) c7), (37, .int .i64 (((([] : List Int) ++ a2).length) : Int)), (38, .int .i64 x21599), (51, .bool (decide ((x21598.getD ((wi64 (((([] : List Int) ++ a2).getD x21599.toNat 0) - a0)).toNat) 0) ≠ 0)))]) (hp.fin hlen h0 (src := [.base 3, .base 9, .base 11, .base 36, .base 37, .base 38, .op 9]) rfl) ?_
                      refine G.regionEnd ?_
                      refine G.condP rfl (fun k21623 => ?_) (fun k21623 => ?_)
                      · replace h := ifT h k21623
                        refine G.seq ?_
                        refine G.region (l := [0, 1]) rfl ?_
                        refine G.assign rfl rfl rfl rfl ?_
                        refine G.assign rfl rfl rfl rfl ?_
                        refine G.regionEnd ?_
                        refine G.retN (rs := [.tmp 6, .tmp 7]) Try.func8 rfl rfl rfl (rt11 _ _ _ ?_)
                        refine G.frontAt 1 rfl ?_
                        refine G.drop ?_
                        refine G.frontAt 1 rfl ?_
                        refine G.drop ?_
                        refine G.frontAt 1 rfl ?_
                        refine G.drop ?_
                        refine G.less ?_ (J703  6 h)
                        exact ⟨rfl, rfl, rfl, rfl, rfl, rfl, rfl, trivial⟩
                      · replace h := ifF h k21623
                        refine G.skip ?_
                        obtain ⟨k21616, h⟩ := guardS h
                        have q21615 : (wi64 (((([] : List Int) ++ a2).getD x21599.toNat 0) - a0)).toNat < x21598.length := by omega
                        refine G.draw [[], [0], [1], [2], [], [], [4, 5], [3, 6, 0, 1, 2, 3, 4, 5, 6], [7, 0, 1, 2, 3, 4, 5, 6]] 9 [0, 1, 2, 3, 4, 5, 6, 7, 8] [0, 1, 2, 3, 0, 0, 1, 4, 5] [0, 1, 2, 3, 0, 0, 1, 4, 5] rfl (by kernel_rfl) (by kernel_rfl) (by kernel_rfl) (by kernel_rfl) ?_
                        intro C21617 ops21618 k21619
                        let R21620 : Reg := armoirelaw06_FreeGoes.reg8_10 [(3, .pointer (some ⟨g21425, 0, none⟩)), (9, .pointer (some ⟨g21587, 0, none⟩)), (11, .int .i64 ((([] : List Int) ++ a2).getD x21599.toNat 0)), (36, .slice B6 ((([] : List Int) ++ a2).length) c7), (37, .int .i64 (((([] : List Int) ++ a2).length) : Int)), (38, .int .i64 x21599)]
                        have P21622 : ∀ (m : Nat) (L : List Bool) (A : List (Nat × Value)) (l : List Nat), L.length = R21620.ds.length → R21620.Phi [some (.pointer (some ⟨g21587, 0, none⟩)), some (.pointer (some ⟨g21587, 0, none⟩)), some (.pointer (some ⟨g21587, 1, none⟩)), some (.slice B21584 x21598.length ((wi64 (a1 - a0)).toNat)), some (.int .i64 ((([] : List Int) ++ a2).getD x21599.toNat 0)), some (.int .i64 a0), some (.int .i64 (wi64 (((([] : List Int) ++ a2).getD x21599.toNat 0) - a0))), some (.pointer (some (plc B21584 ((wi64 (((([] : List Int) ++ a2).getD x21599.toNat 0) - a0)).toNat * 1)))), none] [0, 1, 2, 3, 4, 5, 6, 7, 8] [] L A → left L = m → Ord R21620.ds m L l → G C21617 H A (OS 54 Kd.u8 B21584 ((wi64 (a1 - a0)).toNat) (x21598.set ((wi64 (((([] : List Int) ++ a2).getD x21599.toNat 0) - a0)).toNat) 1) :: OS 3 (Kd.int .i64) B6 c7 (([] : List Int) ++ a2) :: BK 3 (Kd.int .i64) g21425 a0 :: BK 53 K_R_free_Map g21587 (R_free_Map.mk a0 (B21584, x21598.length, ((wi64 (a1 - a0)).toNat))) :: Fr) (.inRegion ops21618 l :: k21619) := by
                          refine G.phase R21620 [some (.pointer (some ⟨g21587, 0, none⟩)), some (.pointer (some ⟨g21587, 0, none⟩)), some (.pointer (some ⟨g21587, 1, none⟩)), some (.slice B21584 x21598.length ((wi64 (a1 - a0)).toNat)), some (.int .i64 ((([] : List Int) ++ a2).getD x21599.toNat 0)), some (.int .i64 a0), some (.int .i64 (wi64 (((([] : List Int) ++ a2).getD x21599.toNat 0) - a0))), some (.pointer (some (plc B21584 ((wi64 (((([] : List Int) ++ a2).getD x21599.toNat 0) - a0)).toNat * 1)))), none] [] [] [0, 1, 2, 3, 4, 5, 6, 7, 8] [] (armoirelaw06_FreeGoes.reg8_10_ap _) rfl rfl trivial trivial ?_
                          · intro A L hlen hp h0
                            refine G.lessSub (B := [(3, .pointer (some ⟨g21425, 0, none⟩)), (9, .pointer (some ⟨g21587, 0, none⟩)), (36, .slice B6 ((([] : List Int) ++ a2).length) c7), (37, .int .i64 (((([] : List Int) ++ a2).length) : Int)), (38, .int .i64 x21599)]) (hp.fin hlen h0 (src := [.base 3, .base 9, .base 36, .base 37, .base 38]) rfl) ?_
                            refine G.regionEnd ?_
                            refine G.inBlock ?_
                            refine G.region (l := [0, 1]) rfl ?_
                            refine G.bin (m := x21599) (n := 1) (r := wi64 (x21599 + 1)) rfl rfl rfl rfl rfl rfl rfl ?_
                            refine G.move rfl rfl rfl rfl ?_
                            refine G.regionEnd ?_
                            refine G.round ?_
                            refine G.frontAt 3 rfl ?_
                            refine G.headEq (r' := BK 53 K_R_free_Map g21587 (R_free_Map.mk a0 (B21584, (x21598.set ((wi64 (((([] : List Int) ++ a2).getD x21599.toNat 0) - a0)).toNat) 1).length, ((wi64 (a1 - a0)).toNat)))) (by first | (simp; done) | (simp; omega)) ?_
                            refine G.frontAt 1 rfl ?_
                            refine G.frontAt 3 rfl ?_
                            refine G.frontAt 3 rfl ?_
                            refine G.less ?_ (ih21608  (x21598.set ((wi64 (((([] : List Int) ++ a2).getD x21599.toNat 0) - a0)).toNat) 1) (wi64 (x21599 + 1)) h)
                            exact ⟨rfl, rfl, rfl, rfl, rfl, trivial⟩
                        have P21621 : ∀ (m : Nat) (L : List Bool) (A : List (Nat × Value)) (l : List Nat), L.length = R21620.ds.length → R21620.Phi [some (.pointer (some ⟨g21587, 0, none⟩)), some (.pointer (some ⟨g21587, 0, none⟩)), some (.pointer (some ⟨g21587, 1, none⟩)), some (.slice B21584 x21598.length ((wi64 (a1 - a0)).toNat)), some (.int .i64 ((([] : List Int) ++ a2).getD x21599.toNat 0)), some (.int .i64 a0), some (.int .i64 (wi64 (((([] : List Int) ++ a2).getD x21599.toNat 0) - a0))), some (.pointer (some (plc B21584 ((wi64 (((([] : List Int) ++ a2).getD x21599.toNat 0) - a0)).toNat * 1)))), none] [] [8] L A → left L = m → Ord R21620.ds m L l → G C21617 H A (OS 3 (Kd.int .i64) B6 c7 (([] : List Int) ++ a2) :: BK 3 (Kd.int .i64) g21425 a0 :: OS 54 Kd.u8 B21584 ((wi64 (a1 - a0)).toNat) x21598 :: BK 53 K_R_free_Map g21587 (R_free_Map.mk a0 (B21584, x21598.length, ((wi64 (a1 - a0)).toNat))) :: Fr) (.inRegion ops21618 l :: k21619) := by
                          refine G.phase R21620 [some (.pointer (some ⟨g21587, 0, none⟩)), some (.pointer (some ⟨g21587, 0, none⟩)), some (.pointer (some ⟨g21587, 1, none⟩)), some (.slice B21584 x21598.length ((wi64 (a1 - a0)).toNat)), some (.int .i64 ((([] : List Int) ++ a2).getD x21599.toNat 0)), some (.int .i64 a0), some (.int .i64 (wi64 (((([] : List Int) ++ a2).getD x21599.toNat 0) - a0))), some (.pointer (some (plc B21584 ((wi64 (((([] : List Int) ++ a2).getD x21599.toNat 0) - a0)).toNat * 1)))), none] [0, 1, 2, 3, 4, 5, 6, 7] [8] [] [8] (armoirelaw06_FreeGoes.reg8_10_ap _) rfl rfl ⟨⟨[.base 9], 52, .pointer (some ⟨g21587, 0, none⟩), [(9, .pointer (some ⟨g21587, 0, none⟩))], ⟨rfl, rfl, rfl, rfl, ?_⟩⟩, ⟨⟨[.op 0], 53, .pointer (some ⟨g21587, 0, none⟩), [(52, .pointer (some ⟨g21587, 0, none⟩))], ⟨rfl, rfl, rfl, rfl, ?_⟩⟩, ⟨⟨[.op 1], 54, .pointer (some ⟨g21587, 1, none⟩), [(53, .pointer (some ⟨g21587, 0, none⟩))], ⟨rfl, rfl, rfl, rfl, ?_⟩⟩, ⟨⟨[.op 2], 55, .slice B21584 x21598.length ((wi64 (a1 - a0)).toNat), [(54, .pointer (some ⟨g21587, 1, none⟩))], ⟨rfl, rfl, rfl, rfl, ?_⟩⟩, ⟨⟨[.base 11], 56, .int .i64 ((([] : List Int) ++ a2).getD x21599.toNat 0), [(11, .int .i64 ((([] : List Int) ++ a2).getD x21599.toNat 0))], ⟨rfl, rfl, rfl, rfl, ?_⟩⟩, ⟨⟨[.base 3], 57, .int .i64 a0, [(3, .pointer (some ⟨g21425, 0, none⟩))], ⟨rfl, rfl, rfl, rfl, ?_⟩⟩, ⟨⟨[.op 4, .op 5], 58, .int .i64 (wi64 (((([] : List Int) ++ a2).getD x21599.toNat 0) - a0)), [(56, .int .i64 ((([] : List Int) ++ a2).getD x21599.toNat 0)), (57, .int .i64 a0)], ⟨rfl, rfl, rfl, rfl, ?_⟩⟩, ⟨⟨[.op 3, .op 6], 59, .pointer (some (plc B21584 ((wi64 (((([] : List Int) ++ a2).getD x21599.toNat 0) - a0)).toNat * 1))), [(55, .slice B21584 x21598.length ((wi64 (a1 - a0)).toNat)), (58, .int .i64 (wi64 (((([] : List Int) ++ a2).getD x21599.toNat 0) - a0)))], ⟨rfl, rfl, rfl, rfl, ?_⟩⟩, trivial⟩⟩⟩⟩⟩⟩⟩⟩ ⟨⟨[.op 7], [(59, .pointer (some (plc B21584 ((wi64 (((([] : List Int) ++ a2).getD x21599.toNat 0) - a0)).toNat * 1))))], ⟨rfl, rfl, ?_⟩⟩, trivial⟩ ?_
                          · intro X rest g
                            refine G.move rfl rfl rfl rfl ?_
                            exact g
                          · intro X rest g
                            refine G.nilCheck rfl rfl rfl rfl ?_
                            exact g
                          · intro X rest g
                            refine G.field (off' := 1) rfl rfl rfl rfl Try.underlying53 rfl sz51 rfl rfl ?_
                            exact g
                          · intro X rest g
                            refine G.loadH (B := B21584) (m := x21598.length) (c := ((wi64 (a1 - a0)).toNat)) rfl rfl rfl rfl ty51r (fun w hs => Rd.bk (R_free_Map.L_kinds _) hs (j := 3) rfl) ?_
                            exact g
                          · intro X rest g
                            refine G.move rfl rfl rfl rfl ?_
                            exact g
                          · intro X rest g
                            refine G.loadI (y := a0) rfl rfl rfl rfl ty3 (fun w hs => Rd.bk (Lens.id _ _) hs (j := 1) rfl) ?_
                            exact g
                          · intro X rest g
                            refine G.bin (m := (([] : List Int) ++ a2).getD x21599.toNat 0) (n := a0) (r := wi64 (((([] : List Int) ++ a2).getD x21599.toNat 0) - a0)) rfl rfl rfl rfl rfl rfl rfl ?_
                            exact g
                          · intro X rest g
                            refine G.indexO (xs := x21598) (j := wi64 (((([] : List Int) ++ a2).getD x21599.toNat 0) - a0)) (off := (wi64 (((([] : List Int) ++ a2).getD x21599.toNat 0) - a0)).toNat * 1) rfl rfl rfl rfl rfl el51 (r := 2) rfl (by simp) k21616 rfl ?_
                            exact g
                          · intro X rest L m hlen hp hil hd hs hm ho
                            refine G.frontAt 2 rfl ?_
                            refine G.storeO (df := Kd.u8) (y := 1) (hj := q21615) (xs' := x21598.set ((wi64 (((([] : List Int) ++ a2).getD x21599.toNat 0) - a0)).toNat) 1) rfl rfl rfl rfl (Lens.id _ _) (by first | rfl | simp) ⟨([u8V 1] : List Value), rfl, rfl⟩ sz54 rfl ?_
                            refine G.frontAt 3 rfl ?_
                            refine G.frontAt 3 rfl ?_
                            refine G.frontAt 3 rfl ?_
                            refine G.frontAt 3 rfl ?_
                            exact P21622 m _ _ rest (by rw [List.length_set]; exact hlen) (hp.stepN2 1 (armoirelaw06_FreeGoes.reg8_10_ap _) hil hd hs (by repeat (first | exact trivial | refine And.intro rfl ?_)) rfl rfl rfl) hm ho
                          · intro A L hlen hp h0
                            exact (hp.notYet hlen h0 8 rfl rfl).elim
                        intro l hl
                        exact P21621 9 (List.replicate 9 false) _ l rfl (Reg.Phi.init 9 ⟨rfl, rfl, rfl, rfl, rfl, rfl, trivial⟩) (left_rep 9) hl
                  intro l hl
                  exact P21628 10 (List.replicate 10 false) _ l rfl (Reg.Phi.init 10 ⟨rfl, rfl, rfl, rfl, rfl, rfl, trivial⟩) (left_rep 10) hl
                · replace h := ifF h k21629
                  refine G.exit rfl ?_
                  refine G.seq ?_
                  refine G.region (l := [0, 1, 2]) rfl ?_
                  refine G.move rfl rfl rfl rfl ?_
                  refine G.assign rfl rfl rfl rfl ?_
                  refine G.assign rfl rfl rfl rfl ?_
                  refine G.regionEnd ?_
                  refine G.retN (rs := [.tmp 6, .tmp 7]) Try.func8 rfl rfl rfl (rt11 _ _ _ ?_)
                  refine G.frontAt 1 rfl ?_
                  refine G.drop ?_
                  refine G.frontAt 2 rfl ?_
                  refine G.frontAt 2 rfl ?_
                  refine G.frontAt 2 rfl ?_
                  refine G.less ?_ (J21424  g21587 B21584 ((wi64 (a1 - a0)).toNat) x21598 h)
                  exact ⟨rfl, rfl, rfl, rfl, rfl, rfl, rfl, trivial⟩
            intro J21630
            refine G.frontAt 4 rfl ?_
            refine G.drop ?_
            refine G.frontAt 1 rfl ?_
            refine G.frontAt 3 rfl ?_
            refine G.frontAt 3 rfl ?_
            refine G.less ?_ (J21630 FUEL  (List.replicate ((wi64 (a1 - a0)).toNat) 0 : List UInt8) 0 h)
            exact ⟨rfl, rfl, rfl, rfl, rfl, trivial⟩
          have d13 : ∀ (B21584 : Option Addr) (g21587 : Nat) (l : List Nat), Ord armoirelaw06_FreeGoes.ds8_4 1 [true, true, true, true, true, true, true, false] l → G C21639 H [(2, .slice B6 ((([] : List Int) ++ a2).length) c7), (3, .pointer (some ⟨g21425, 0, none⟩)), (35, .pointer (some ⟨g21587, 0, none⟩))] (BK 53 K_R_free_Map g21587 (R_free_Map.mk a0 (B21584, (List.replicate ((wi64 (a1 - a0)).toNat) 0 : List UInt8).length, ((wi64 (a1 - a0)).toNat))) :: OS 54 Kd.u8 B21584 ((wi64 (a1 - a0)).toNat) (List.replicate ((wi64 (a1 - a0)).toNat) 0 : List UInt8) :: OS 3 (Kd.int .i64) B6 c7 (([] : List Int) ++ a2) :: BK 3 (Kd.int .i64) g21425 a0 :: BK 3 (Kd.int .i64) g21427 a1 :: Fr) (.inRegion ops21640 l :: k21641) := by
            intro B21584 g21587 l hl
            refine G.fork [7] hl rfl (And.intro ?_ trivial)
            · intro rest ho
              refine G.assign rfl rfl rfl rfl ?_
              refine G.frontAt 4 rfl ?_
              refine G.frontAt 4 rfl ?_
              refine G.frontAt 4 rfl ?_
              refine G.frontAt 4 rfl ?_
              refine G.frontAt 4 rfl ?_
              refine G.less ?_ (d14 B21584 g21587 rest ho)
              exact ⟨rfl, rfl, rfl, trivial⟩
          have d12 : ∀ (B21584 : Option Addr) (l : List Nat), Ord armoirelaw06_FreeGoes.ds8_4 2 [true, true, true, true, true, true, false, false] l → G C21639 H [(2, .slice B6 ((([] : List Int) ++ a2).length) c7), (3, .pointer (some ⟨g21425, 0, none⟩)), (34, .agg (([.int .i64 a0] : List Value) ++ (([.slice B21584 ((List.replicate ((wi64 (a1 - a0)).toNat) 0 : List UInt8).length) ((wi64 (a1 - a0)).toNat)] : List Value))).toArray)] (OS 54 Kd.u8 B21584 ((wi64 (a1 - a0)).toNat) (List.replicate ((wi64 (a1 - a0)).toNat) 0 : List UInt8) :: OS 3 (Kd.int .i64) B6 c7 (([] : List Int) ++ a2) :: BK 3 (Kd.int .i64) g21425 a0 :: BK 3 (Kd.int .i64) g21427 a1 :: Fr) (.inRegion ops21640 l :: k21641) := by
            intro B21584 l hl
            refine G.fork [6] hl rfl (And.intro ?_ trivial)
            · intro rest ho
              refine G.box (dk := K_R_free_Map) (y := (R_free_Map.mk a0 (B21584, (List.replicate ((wi64 (a1 - a0)).toNat) 0 : List UInt8).length, ((wi64 (a1 - a0)).toNat)))) rfl rfl rfl rfl (VR.A (cs := ([.int .i64 a0] : List Value) ++ (([.slice B21584 ((List.replicate ((wi64 (a1 - a0)).toNat) 0 : List UInt8).length) ((wi64 (a1 - a0)).toNat)] : List Value))) (K_R_free_Map.mk rfl rfl)) ?_
              intro g21587
              refine G.frontAt 4 rfl ?_
              refine G.frontAt 4 rfl ?_
              refine G.frontAt 4 rfl ?_
              refine G.frontAt 4 rfl ?_
              refine G.frontAt 4 rfl ?_
              refine G.less ?_ (d13 B21584 g21587 rest ho)
              exact ⟨rfl, rfl, rfl, trivial⟩
          have d11 : ∀ (B21584 : Option Addr) (l : List Nat), Ord armoirelaw06_FreeGoes.ds8_4 3 [true, true, true, true, true, false, false, false] l → G C21639 H [(2, .slice B6 ((([] : List Int) ++ a2).length) c7), (3, .pointer (some ⟨g21425, 0, none⟩)), (29, .int .i64 a0), (33, .slice B21584 ((wi64 (a1 - a0)).toNat) ((wi64 (a1 - a0)).toNat))] (OS 54 Kd.u8 B21584 ((wi64 (a1 - a0)).toNat) (List.replicate ((wi64 (a1 - a0)).toNat) 0 : List UInt8) :: OS 3 (Kd.int .i64) B6 c7 (([] : List Int) ++ a2) :: BK 3 (Kd.int .i64) g21425 a0 :: BK 3 (Kd.int .i64) g21427 a1 :: Fr) (.inRegion ops21640 l :: k21641) := by
            intro B21584 l hl
            refine G.fork [5] hl rfl (And.intro ?_ trivial)
            · intro rest ho
              refine G.same (d := 33) (v := .slice B21584 ((List.replicate ((wi64 (a1 - a0)).toNat) 0 : List UInt8).length) ((wi64 (a1 - a0)).toNat)) rfl (by first | (simp; done) | (simp; omega)) ?_
              refine G.build (z := .agg (([.int .i64 0] : List Value) ++ (([.slice none 0 0] : List Value))).toArray) (pl := [(0, 1), (1, 1)]) (cs := ([.int .i64 a0] : List Value) ++ (([.slice B21584 ((List.replicate ((wi64 (a1 - a0)).toNat) 0 : List UInt8).length) ((wi64 (a1 - a0)).toNat)] : List Value))) rfl rfl rfl Try.underlying53 (by kernel_rfl) rfl (by kernel_rfl) (by kernel_rfl) rfl ?_
              refine G.frontAt 3 rfl ?_
              refine G.frontAt 3 rfl ?_
              refine G.frontAt 3 rfl ?_
              refine G.frontAt 3 rfl ?_
              refine G.less ?_ (d12 B21584 rest ho)
              exact ⟨rfl, rfl, rfl, trivial⟩
          have d10 : ∀ (B21584 : Option Addr) (l : List Nat), Ord armoirelaw06_FreeGoes.ds8_4 4 [false, true, true, true, true, false, false, false] l → G C21639 H [(2, .slice B6 ((([] : List Int) ++ a2).length) c7), (3, .pointer (some ⟨g21425, 0, none⟩)), (33, .slice B21584 ((wi64 (a1 - a0)).toNat) ((wi64 (a1 - a0)).toNat))] (OS 54 Kd.u8 B21584 ((wi64 (a1 - a0)).toNat) (List.replicate ((wi64 (a1 - a0)).toNat) 0 : List UInt8) :: OS 3 (Kd.int .i64) B6 c7 (([] : List Int) ++ a2) :: BK 3 (Kd.int .i64) g21425 a0 :: BK 3 (Kd.int .i64) g21427 a1 :: Fr) (.inRegion ops21640 l :: k21641) := by
            intro B21584 l hl
            refine G.fork [0] hl rfl (And.intro ?_ trivial)
            · intro rest ho
              refine G.loadI (y := a0) rfl rfl rfl rfl ty3 (fun w hs => Rd.bk (Lens.id _ _) hs (j := 2) rfl) ?_
              refine G.frontAt 3 rfl ?_
              refine G.frontAt 3 rfl ?_
              refine G.frontAt 3 rfl ?_
              refine G.frontAt 3 rfl ?_
              refine G.less ?_ (d11 B21584 rest ho)
              exact ⟨rfl, rfl, rfl, rfl, trivial⟩
          have d9 : ∀ (l : List Nat), Ord armoirelaw06_FreeGoes.ds8_4 4 [true, true, true, true, false, false, false, false] l → G C21639 H [(2, .slice B6 ((([] : List Int) ++ a2).length) c7), (3, .pointer (some ⟨g21425, 0, none⟩)), (29, .int .i64 a0), (32, .int .i64 (wi64 (a1 - a0)))] (OS 3 (Kd.int .i64) B6 c7 (([] : List Int) ++ a2) :: BK 3 (Kd.int .i64) g21425 a0 :: BK 3 (Kd.int .i64) g21427 a1 :: Fr) (.inRegion ops21640 l :: k21641) := by
            intro  l hl
            refine G.fork [4] hl rfl (And.intro ?_ trivial)
            · intro rest ho
              refine G.makeSlice (df := Kd.u8) (z0 := 0) (m := wi64 (a1 - a0)) (c := wi64 (a1 - a0)) (z := .int .u8 0) (cz := ([u8V 0] : List Value)) rfl rfl rfl rfl rfl el51 (by kernel_rfl) rfl (rfl) rfl k21586 ?_
              intro B21584
              refine G.frontAt 3 rfl ?_
              refine G.frontAt 3 rfl ?_
              refine G.frontAt 3 rfl ?_
              refine G.frontAt 3 rfl ?_
              refine G.less ?_ (d11 B21584 rest ho)
              exact ⟨rfl, rfl, rfl, rfl, trivial⟩
          have d8 : ∀ (l : List Nat), Ord armoirelaw06_FreeGoes.ds8_4 5 [false, true, true, true, false, false, false, false] l → G C21639 H [(2, .slice B6 ((([] : List Int) ++ a2).length) c7), (3, .pointer (some ⟨g21425, 0, none⟩)), (32, .int .i64 (wi64 (a1 - a0)))] (OS 3 (Kd.int .i64) B6 c7 (([] : List Int) ++ a2) :: BK 3 (Kd.int .i64) g21425 a0 :: BK 3 (Kd.int .i64) g21427 a1 :: Fr) (.inRegion ops21640 l :: k21641) := by
            intro  l hl
            refine G.fork [0, 4] hl rfl (And.intro ?_ (And.intro ?_ trivial))
            · intro rest ho
              refine G.loadI (y := a0) rfl rfl rfl rfl ty3 (fun w hs => Rd.bk (Lens.id _ _) hs (j := 1) rfl) ?_
              refine G.frontAt 2 rfl ?_
              refine G.frontAt 2 rfl ?_
              refine G.frontAt 2 rfl ?_
              refine G.less ?_ (d9 rest ho)
              exact ⟨rfl, rfl, rfl, rfl, trivial⟩
            · intro rest ho
              refine G.makeSlice (df := Kd.u8) (z0 := 0) (m := wi64 (a1 - a0)) (c := wi64 (a1 - a0)) (z := .int .u8 0) (cz := ([u8V 0] : List Value)) rfl rfl rfl rfl rfl el51 (by kernel_rfl) rfl (rfl) rfl k21586 ?_
              intro B21584
              refine G.frontAt 3 rfl ?_
              refine G.frontAt 3 rfl ?_
              refine G.frontAt 3 rfl ?_
              refine G.frontAt 3 rfl ?_
              refine G.less ?_ (d10 B21584 rest ho)
              exact ⟨rfl, rfl, rfl, trivial⟩
          have d7 : ∀ (l : List Nat), Ord armoirelaw06_FreeGoes.ds8_4 5 [true, true, true, false, false, false, false, false] l → G C21639 H [(2, .slice B6 ((([] : List Int) ++ a2).length) c7), (3, .pointer (some ⟨g21425, 0, none⟩)), (29, .int .i64 a0), (30, .int .i64 a1), (31, .int .i64 a0)] (OS 3 (Kd.int .i64) B6 c7 (([] : List Int) ++ a2) :: BK 3 (Kd.int .i64) g21425 a0 :: BK 3 (Kd.int .i64) g21427 a1 :: Fr) (.inRegion ops21640 l :: k21641) := by
            intro  l hl
            refine G.fork [3] hl rfl (And.intro ?_ trivial)
            · intro rest ho
              refine G.bin (m := a1) (n := a0) (r := wi64 (a1 - a0)) rfl rfl rfl rfl rfl rfl rfl ?_
              refine G.frontAt 2 rfl ?_
              refine G.frontAt 2 rfl ?_
              refine G.frontAt 2 rfl ?_
              refine G.less ?_ (d9 rest ho)
              exact ⟨rfl, rfl, rfl, rfl, trivial⟩
          have d6 : ∀ (l : List Nat), Ord armoirelaw06_FreeGoes.ds8_4 6 [false, true, true, false, false, false, false, false] l → G C21639 H [(2, .slice B6 ((([] : List Int) ++ a2).length) c7), (3, .pointer (some ⟨g21425, 0, none⟩)), (30, .int .i64 a1), (31, .int .i64 a0)] (OS 3 (Kd.int .i64) B6 c7 (([] : List Int) ++ a2) :: BK 3 (Kd.int .i64) g21425 a0 :: BK 3 (Kd.int .i64) g21427 a1 :: Fr) (.inRegion ops21640 l :: k21641) := by
            intro  l hl
            refine G.fork [0, 3] hl rfl (And.intro ?_ (And.intro ?_ trivial))
            · intro rest ho
              refine G.loadI (y := a0) rfl rfl rfl rfl ty3 (fun w hs => Rd.bk (Lens.id _ _) hs (j := 1) rfl) ?_
              refine G.frontAt 2 rfl ?_
              refine G.frontAt 2 rfl ?_
              refine G.frontAt 2 rfl ?_
              refine G.less ?_ (d7 rest ho)
              exact ⟨rfl, rfl, rfl, rfl, rfl, trivial⟩
            · intro rest ho
              refine G.bin (m := a1) (n := a0) (r := wi64 (a1 - a0)) rfl rfl rfl rfl rfl rfl rfl ?_
              refine G.frontAt 2 rfl ?_
              refine G.frontAt 2 rfl ?_
              refine G.frontAt 2 rfl ?_
              refine G.less ?_ (d8 rest ho)
              exact ⟨rfl, rfl, rfl, trivial⟩
          have d5 : ∀ (l : List Nat), Ord armoirelaw06_FreeGoes.ds8_4 6 [true, false, true, false, false, false, false, false] l → G C21639 H [(2, .slice B6 ((([] : List Int) ++ a2).length) c7), (3, .pointer (some ⟨g21425, 0, none⟩)), (4, .pointer (some ⟨g21427, 0, none⟩)), (29, .int .i64 a0), (31, .int .i64 a0)] (OS 3 (Kd.int .i64) B6 c7 (([] : List Int) ++ a2) :: BK 3 (Kd.int .i64) g21425 a0 :: BK 3 (Kd.int .i64) g21427 a1 :: Fr) (.inRegion ops21640 l :: k21641) := by
            intro  l hl
            refine G.fork [1] hl rfl (And.intro ?_ trivial)
            · intro rest ho
              refine G.loadI (y := a1) rfl rfl rfl rfl ty3 (fun w hs => Rd.bk (Lens.id _ _) hs (j := 2) rfl) ?_
              refine G.frontAt 2 rfl ?_
              refine G.frontAt 2 rfl ?_
              refine G.frontAt 2 rfl ?_
              refine G.less ?_ (d7 rest ho)
              exact ⟨rfl, rfl, rfl, rfl, rfl, trivial⟩
          have d4 : ∀ (l : List Nat), Ord armoirelaw06_FreeGoes.ds8_4 6 [true, true, false, false, false, false, false, false] l → G C21639 H [(2, .slice B6 ((([] : List Int) ++ a2).length) c7), (3, .pointer (some ⟨g21425, 0, none⟩)), (29, .int .i64 a0), (30, .int .i64 a1)] (OS 3 (Kd.int .i64) B6 c7 (([] : List Int) ++ a2) :: BK 3 (Kd.int .i64) g21425 a0 :: BK 3 (Kd.int .i64) g21427 a1 :: Fr) (.inRegion ops21640 l :: k21641) := by
            intro  l hl
            refine G.fork [2] hl rfl (And.intro ?_ trivial)
            · intro rest ho
              refine G.loadI (y := a0) rfl rfl rfl rfl ty3 (fun w hs => Rd.bk (Lens.id _ _) hs (j := 1) rfl) ?_
              refine G.frontAt 2 rfl ?_
              refine G.frontAt 2 rfl ?_
              refine G.frontAt 2 rfl ?_
              refine G.less ?_ (d7 rest ho)
              exact ⟨rfl, rfl, rfl, rfl, rfl, trivial⟩
          have d3 : ∀ (l : List Nat), Ord armoirelaw06_FreeGoes.ds8_4 7 [false, false, true, false, false, false, false, false] l → G C21639 H [(2, .slice B6 ((([] : List Int) ++ a2).length) c7), (3, .pointer (some ⟨g21425, 0, none⟩)), (4, .pointer (some ⟨g21427, 0, none⟩)), (31, .int .i64 a0)] (OS 3 (Kd.int .i64) B6 c7 (([] : List Int) ++ a2) :: BK 3 (Kd.int .i64) g21425 a0 :: BK 3 (Kd.int .i64) g21427 a1 :: Fr) (.inRegion ops21640 l :: k21641) := by
            intro  l hl
            refine G.fork [0, 1] hl rfl (And.intro ?_ (And.intro ?_ trivial))
            · intro rest ho
              refine G.loadI (y := a0) rfl rfl rfl rfl ty3 (fun w hs => Rd.bk (Lens.id _ _) hs (j := 1) rfl) ?_
              refine G.frontAt 2 rfl ?_
              refine G.frontAt 2 rfl ?_
              refine G.frontAt 2 rfl ?_
              refine G.less ?_ (d5 rest ho)
              exact ⟨rfl, rfl, rfl, rfl, rfl, trivial⟩
            · intro rest ho
              refine G.loadI (y := a1) rfl rfl rfl rfl ty3 (fun w hs => Rd.bk (Lens.id _ _) hs (j := 2) rfl) ?_
              refine G.frontAt 2 rfl ?_
              refine G.frontAt 2 rfl ?_
              refine G.frontAt 2 rfl ?_
              refine G.less ?_ (d6 rest ho)
              exact ⟨rfl, rfl, rfl, rfl, trivial⟩
          have d2 : ∀ (l : List Nat), Ord armoirelaw06_FreeGoes.ds8_4 7 [false, true, false, false, false, false, false, false] l → G C21639 H [(2, .slice B6 ((([] : List Int) ++ a2).length) c7), (3, .pointer (some ⟨g21425, 0, none⟩)), (30, .int .i64 a1)] (OS 3 (Kd.int .i64) B6 c7 (([] : List Int) ++ a2) :: BK 3 (Kd.int .i64) g21425 a0 :: BK 3 (Kd.int .i64) g21427 a1 :: Fr) (.inRegion ops21640 l :: k21641) := by
            intro  l hl
            refine G.fork [0, 2] hl rfl (And.intro ?_ (And.intro ?_ trivial))
            · intro rest ho
              refine G.loadI (y := a0) rfl rfl rfl rfl ty3 (fun w hs => Rd.bk (Lens.id _ _) hs (j := 1) rfl) ?_
              refine G.frontAt 2 rfl ?_
              refine G.frontAt 2 rfl ?_
              refine G.frontAt 2 rfl ?_
              refine G.less ?_ (d4 rest ho)
              exact ⟨rfl, rfl, rfl, rfl, trivial⟩
            · intro rest ho
              refine G.loadI (y := a0) rfl rfl rfl rfl ty3 (fun w hs => Rd.bk (Lens.id _ _) hs (j := 1) rfl) ?_
              refine G.frontAt 2 rfl ?_
              refine G.frontAt 2 rfl ?_
              refine G.frontAt 2 rfl ?_
              refine G.less ?_ (d6 rest ho)
              exact ⟨rfl, rfl, rfl, rfl, trivial⟩
          have d1 : ∀ (l : List Nat), Ord armoirelaw06_FreeGoes.ds8_4 7 [true, false, false, false, false, false, false, false] l → G C21639 H [(2, .slice B6 ((([] : List Int) ++ a2).length) c7), (3, .pointer (some ⟨g21425, 0, none⟩)), (4, .pointer (some ⟨g21427, 0, none⟩)), (29, .int .i64 a0)] (OS 3 (Kd.int .i64) B6 c7 (([] : List Int) ++ a2) :: BK 3 (Kd.int .i64) g21425 a0 :: BK 3 (Kd.int .i64) g21427 a1 :: Fr) (.inRegion ops21640 l :: k21641) := by
            intro  l hl
            refine G.fork [1, 2] hl rfl (And.intro ?_ (And.intro ?_ trivial))
            · intro rest ho
              refine G.loadI (y := a1) rfl rfl rfl rfl ty3 (fun w hs => Rd.bk (Lens.id _ _) hs (j := 2) rfl) ?_
              refine G.frontAt 2 rfl ?_
              refine G.frontAt 2 rfl ?_
              refine G.frontAt 2 rfl ?_
              refine G.less ?_ (d4 rest ho)
              exact ⟨rfl, rfl, rfl, rfl, trivial⟩
            · intro rest ho
              refine G.loadI (y := a0) rfl rfl rfl rfl ty3 (fun w hs => Rd.bk (Lens.id _ _) hs (j := 1) rfl) ?_
              refine G.frontAt 2 rfl ?_
              refine G.frontAt 2 rfl ?_
              refine G.frontAt 2 rfl ?_
              refine G.less ?_ (d5 rest ho)
              exact ⟨rfl, rfl, rfl, rfl, rfl, trivial⟩
          have d0 : ∀ (l : List Nat), Ord armoirelaw06_FreeGoes.ds8_4 8 [false, false, false, false, false, false, false, false] l → G C21639 H [(2, .slice B6 ((([] : List Int) ++ a2).length) c7), (3, .pointer (some ⟨g21425, 0, none⟩)), (4, .pointer (some ⟨g21427, 0, none⟩))] (OS 3 (Kd.int .i64) B6 c7 (([] : List Int) ++ a2) :: BK 3 (Kd.int .i64) g21425 a0 :: BK 3 (Kd.int .i64) g21427 a1 :: Fr) (.inRegion ops21640 l :: k21641) := by
            intro  l hl
            refine G.fork [0, 1, 2] hl rfl (And.intro ?_ (And.intro ?_ (And.intro ?_ trivial)))
            · intro rest ho
              refine G.loadI (y := a0) rfl rfl rfl rfl ty3 (fun w hs => Rd.bk (Lens.id _ _) hs (j := 1) rfl) ?_
              refine G.frontAt 2 rfl ?_
              refine G.frontAt 2 rfl ?_
              refine G.frontAt 2 rfl ?_
              refine G.less ?_ (d1 rest ho)
              exact ⟨rfl, rfl, rfl, rfl, trivial⟩
            · intro rest ho
              refine G.loadI (y := a1) rfl rfl rfl rfl ty3 (fun w hs => Rd.bk (Lens.id _ _) hs (j := 2) rfl) ?_
              refine G.frontAt 2 rfl ?_
              refine G.frontAt 2 rfl ?_
              refine G.frontAt 2 rfl ?_
              refine G.less ?_ (d2 rest ho)
              exact ⟨rfl, rfl, rfl, trivial⟩
            · intro rest ho
              refine G.loadI (y := a0) rfl rfl rfl rfl ty3 (fun w hs => Rd.bk (Lens.id _ _) hs (j := 1) rfl) ?_
              refine G.frontAt 2 rfl ?_
              refine G.frontAt 2 rfl ?_
              refine G.frontAt 2 rfl ?_
              refine G.less ?_ (d3 rest ho)
              exact ⟨rfl, rfl, rfl, rfl, trivial⟩
          intro l hl
          refine G.less ?_ (d0 l hl)
          exact ⟨rfl, rfl, rfl, trivial⟩
      intro J21643
      refine G.splitP (d := 24) rfl (fun k21737 => ?_) (fun k21737 => ?_)
      · replace h := ifT h k21737
        refine G.unwanted rfl rfl rfl rfl ?_
        refine G.unwanted rfl rfl rfl rfl ?_
        refine G.unwanted rfl rfl rfl rfl ?_
        refine G.pickT rfl rfl rfl rfl rfl ?_
        refine G.frontAt 1 rfl ?_
        refine G.frontAt 2 rfl ?_
        refine G.less ?_ (J21582  true h)
        exact ⟨rfl, rfl, rfl, rfl, trivial⟩
      · replace h := ifF h k21737
        refine G.move rfl rfl rfl rfl ?_
        refine G.move rfl rfl rfl rfl ?_
        refine G.inl (n' := 9) rfl rfl rfl rfl call24 Try.func24 rfl Try.ntmps24 rfl rfl ?_
        intro R21644 rt21645
        refine G.seq ?_
        refine G.region (l := [0]) rfl ?_
        refine G.assign rfl rfl rfl rfl ?_
        refine G.regionEnd ?_
        refine G.seq ?_
        refine G.region (l := [0, 1, 2, 3, 4]) rfl ?_
        refine G.move rfl rfl rfl rfl ?_
        refine G.move rfl rfl rfl rfl ?_
        refine G.inl (n' := 19) rfl rfl rfl rfl call33 Try.func33 rfl Try.ntmps33 rfl rfl ?_
        intro R21692 rt21693
        refine G.seq ?_
        refine G.region (l := [0]) rfl ?_
        refine G.assign rfl rfl rfl rfl ?_
        refine G.regionEnd ?_
        refine G.seq ?_
        refine G.seq ?_
        refine G.region (l := [0, 1, 2]) rfl ?_
        refine G.move rfl rfl rfl rfl ?_
        refine G.len (m := ((([] : List Int) ++ a2).length)) rfl rfl rfl rfl Try.underlying28 ?_
        refine G.move rfl rfl rfl rfl ?_
        refine G.regionEnd ?_
        refine G.block ?_
        refine G.loop (fun GG K => ∀ (d21726 : Nat) (x21716 : Int), armoirelaw06_FreeGoes.l11 a0 a1 a2 a3 t1 d21726 x21716 = some r → GG H [(0, .slice B6 ((([] : List Int) ++ a2).length) c7), (1, .func (.func 23) #[] #[.pointer (some ⟨g21425, 0, none⟩), .pointer (some ⟨g21427, 0, none⟩)]), (7, .int .i64 (((([] : List Int) ++ a2).length) : Int)), (8, .int .i64 x21716)] (OS 3 (Kd.int .i64) B6 c7 (([] : List Int) ++ a2) :: BK 3 (Kd.int .i64) g21425 a0 :: BK 3 (Kd.int .i64) g21427 a1 :: Fr) K) ?_ ?_
        · intro d21726
          induction d21726 with
          | zero => intro x21716 h; rw [armoirelaw06_FreeGoes.l11] at h; cases h
          | succ d21726 ih21725 =>
            intro x21716 h
            rw [armoirelaw06_FreeGoes.l11] at h
            refine G.seq ?_
            refine G.region (l := [0]) rfl ?_
            refine G.cmp (x21716 < (((([] : List Int) ++ a2).length) : Int)) rfl rfl rfl rfl rfl rfl Iff.rfl ?_
            refine G.regionEnd ?_
            refine G.seq ?_
            refine G.condP rfl (fun k21735 => ?_) (fun k21735 => ?_)
            · replace h := ifT h k21735
              refine G.skip ?_
              refine G.seq ?_
              refine G.block ?_
              refine G.seq ?_
              refine G.region (l := [0, 1]) rfl ?_
              refine G.move rfl rfl rfl rfl ?_
              refine G.assign rfl rfl rfl rfl ?_
              refine G.regionEnd ?_
              refine G.seq ?_
              refine G.region (l := [0, 1, 2, 3, 4, 5]) rfl ?_
              refine G.move rfl rfl rfl rfl ?_
              refine G.move rfl rfl rfl rfl ?_
              refine G.move rfl rfl rfl rfl ?_
              obtain ⟨k21729, h⟩ := guardS h
              have q21728 : x21716.toNat < (([] : List Int) ++ a2).length := by omega
              refine G.indexO (xs := (([] : List Int) ++ a2)) (j := x21716) (off := x21716.toNat * 1) rfl rfl rfl rfl rfl el28 (r := 0) rfl (by simp) k21729 rfl ?_
              refine G.loadI (y := (([] : List Int) ++ a2).getD x21716.toNat 0) rfl rfl rfl rfl ty3 (fun w hs => Rd.osG q21728 (Lens.id _ _) hs (j := 0) rfl (o := x21716.toNat * 1) (by first | rfl | simp)) ?_
              refine G.frontAt 2 rfl ?_
              refine G.frontAt 2 rfl ?_
              obtain ⟨t21730, e21731, h⟩ := bindS h
              refine G.callSV rfl rfl rfl rfl rfl rfl call23 (free_New_1.ok ((([] : List Int) ++ a2).getD x21716.toNat 0) a0 g21425 a1 g21427 e21731) ?_
              rintro v21732 L21733 ⟨rfl, rfl⟩
              refine G.regionEnd ?_
              refine G.cond rfl (fun k21734 => ?_) (fun k21734 => ?_)
              · replace h := ifT h k21734
                refine G.seq ?_
                refine G.region (l := [0, 1]) rfl ?_
                refine G.move rfl rfl rfl rfl ?_
                refine G.assign rfl rfl rfl rfl ?_
                refine G.regionEnd ?_
                refine G.ret1 Try.func33 rfl rfl (rt21693 _ _ _ ?_)
                refine G.cmp (0 ≤ x21716) rfl rfl rfl rfl rfl rfl Iff.rfl ?_
                refine G.assign rfl rfl rfl rfl ?_
                refine G.regionEnd ?_
                refine G.ret1 Try.func24 rfl rfl (rt21645 _ _ _ ?_)
                refine G.pickF rfl rfl rfl rfl rfl ?_
                refine G.frontAt 1 rfl ?_
                refine G.frontAt 1 rfl ?_
                refine G.frontAt 2 rfl ?_
                refine G.less ?_ (J21643  (decide (0 ≤ x21716)) h)
                exact ⟨rfl, rfl, rfl, rfl, trivial⟩
              · replace h := ifFB h k21734
                refine G.skip ?_
                refine G.inBlock ?_
                refine G.region (l := [0, 1]) rfl ?_
                refine G.bin (m := x21716) (n := 1) (r := wi64 (x21716 + 1)) rfl rfl rfl rfl rfl rfl rfl ?_
                refine G.move rfl rfl rfl rfl ?_
                refine G.regionEnd ?_
                refine G.round ?_
                refine G.frontAt 1 rfl ?_
                refine G.frontAt 1 rfl ?_
                refine G.frontAt 2 rfl ?_
                refine G.less ?_ (ih21725  (wi64 (x21716 + 1)) h)
                exact ⟨rfl, rfl, rfl, rfl, trivial⟩
            · replace h := ifF h k21735
              refine G.exit rfl ?_
              refine G.seq ?_
              refine G.region (l := [0]) rfl ?_
              refine G.assign rfl rfl rfl rfl ?_
              refine G.regionEnd ?_
              refine G.ret1 Try.func33 rfl rfl (rt21693 _ _ _ ?_)
              refine G.cmp (False) rfl rfl rfl rfl rfl rfl (by simp [cmpP]) ?_
              refine G.assign rfl rfl rfl rfl ?_
              refine G.regionEnd ?_
              refine G.ret1 Try.func24 rfl rfl (rt21645 _ _ _ ?_)
              refine G.pickF rfl rfl rfl rfl rfl ?_
              refine G.frontAt 2 rfl ?_
              refine G.frontAt 2 rfl ?_
              refine G.frontAt 2 rfl ?_
              refine G.less ?_ (J21582  false h)
              exact ⟨rfl, rfl, rfl, rfl, trivial⟩
        intro J21736
        refine G.frontAt 1 rfl ?_
        refine G.frontAt 2 rfl ?_
        refine G.less ?_ (J21736 FUEL  0 h)
        exact ⟨rfl, rfl, rfl, rfl, trivial⟩
end Go.Proofs.Ytpffemcpfddjbaa
