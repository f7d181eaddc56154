/- Own text, printed by wip/g2: the walks. -/
import Derived.Test.YtpffemcpfddjbaaAw1
namespace Go.Proofs.Ytpffemcpfddjbaa
open Go K
set_option linter.unusedVariables false
set_option maxHeartbeats 1000000
def armoirelaw06_FreeRuns.reg4_13 (B : List (Nat × Value)) : Reg := ⟨[[], [0], [1], [2], [2], [4, 2], [2], [5, 6, 2], [3, 7, 2], [2, 8], [9, 2], [10], [10], [10], [12, 13, 10], [14, 10], [11, 15, 10], [16, 10], [10], [10], [18, 19, 10], [20, 10], [10], [21, 22, 10], [23, 10], [17, 24, 10], [10, 25]], [some 52, some 53, some 54, some 55, some 56, some 57, some 58, some 59, some 60, some 61, some 62, some 63, some 64, some 65, some 66, some 67, some 68, some 69, some 70, some 71, some 72, some 73, some 74, some 75, some 76, some 77, some 78], B⟩
theorem armoirelaw06_FreeRuns.reg4_13_ap (B : List (Nat × Value)) : (armoirelaw06_FreeRuns.reg4_13 B).apart = true := rfl
def armoirelaw06_FreeRuns.reg8_10 (B : List (Nat × Value)) : Reg := ⟨[[], [0], [1], [2], [], [], [4, 5], [3, 6, 0, 1, 2, 3, 4, 5, 6], [7, 0, 1, 2, 3, 4, 5, 6]], [some 52, some 53, some 54, some 55, some 56, some 57, some 58, some 59, none], B⟩
theorem armoirelaw06_FreeRuns.reg8_10_ap (B : List (Nat × Value)) : (armoirelaw06_FreeRuns.reg8_10 B).apart = true := rfl
def armoirelaw06_FreeRuns.reg8_8 (B : List (Nat × Value)) : Reg := ⟨[[], [0], [1], [2], [], [], [4, 5], [3, 6], [7], [8]], [some 42, some 43, some 44, some 45, some 46, some 47, some 48, some 49, some 50, some 51], B⟩
theorem armoirelaw06_FreeRuns.reg8_8_ap (B : List (Nat × Value)) : (armoirelaw06_FreeRuns.reg8_8 B).apart = true := rfl
def armoirelaw06_FreeRuns.reg8_4 (B : List (Nat × Value)) : Reg := ⟨[[], [], [], [1, 2], [3, 3], [0, 4], [5], [6, 0, 1, 2, 3, 4, 5, 6]], [some 29, some 30, some 31, some 32, some 33, some 34, some 35, some 9], B⟩
theorem armoirelaw06_FreeRuns.reg8_4_ap (B : List (Nat × Value)) : (armoirelaw06_FreeRuns.reg8_4 B).apart = true := rfl
def armoirelaw06_FreeRuns.ds8_4 : List (List Nat) := [[], [], [], [1, 2], [3, 3], [0, 4], [5], [6, 0, 1, 2, 3, 4, 5, 6]]
set_option maxRecDepth 20000 in
theorem armoirelaw06_FreeRuns.ok {O : World} {H : PH} {Fr : List Res} (a0 : Int) (a1 : Int) (a2 : (List Int)) (A2 : Option Addr) (n2 : Nat) (F2 : SlR (Kd.int .i64) H A2 n2 a2) (a3 : Int) {r : Bool} (h : armoirelaw06_FreeRuns.f a0 a1 a2 a3 = some r) :
    CtrS Try.prog 4 [.int .i64 a0, .int .i64 a1, .slice A2 a2.length n2, .int .i64 a3] O H (Fr) (fun v L' => v = .bool r ∧ Fr = L') := by
  refine CtrS.start (n := 119) Try.func4 rfl Try.ntmps4 rfl rfl ?_
  unfold armoirelaw06_FreeRuns.f at h
  refine G.seq ?_
  refine G.region (l := [0]) rfl ?_
  refine G.assign rfl rfl rfl rfl ?_
  refine G.regionEnd ?_
  refine G.seq ?_
  refine G.region (l := [0, 1]) rfl ?_
  obtain ⟨t1, e2, h⟩ := bindS h
  refine G.callS rfl rfl rfl rfl call7 (armoirelaw06_live.ok  e2) ?_
  rintro v3 L4 ⟨rfl, rfl⟩
  refine G.assign rfl rfl rfl rfl ?_
  refine G.regionEnd ?_
  refine G.seq ?_
  refine G.region (l := [0, 1, 2, 3, 4, 5, 6, 7, 8]) rfl ?_
  refine G.move rfl rfl rfl rfl ?_
  refine G.move rfl rfl rfl rfl ?_
  refine G.move rfl rfl rfl rfl ?_
  refine G.rest (l1 := [3]) (l2 := [4, 5, 6, 7, 8]) (fun GG K => ∀ (g303 : Nat) (B305 : Option Addr) (c306 : Nat) (x307 : (List UInt8)), armoirelaw06_FreeRuns.j0 a0 a3 t1 x307 = some r → GG H [(3, .int .i64 a3), (9, .bool t1), (22, .tuple #[.pointer (some ⟨g303, 0, none⟩), .int .i64 0])] (OS 54 Kd.u8 B305 c306 x307 :: BK 53 K_R_free_Map g303 (R_free_Map.mk a0 (B305, x307.length, c306)) :: Fr) K) ?_ ?_
  · intro g303 B305 c306 x307 h
    unfold armoirelaw06_FreeRuns.j0 at h
    refine G.move rfl rfl rfl rfl ?_
    refine G.extract rfl rfl rfl rfl rfl ?_
    refine G.extract rfl rfl rfl rfl rfl ?_
    refine G.assign rfl rfl rfl rfl ?_
    refine G.assign rfl rfl rfl rfl ?_
    refine G.regionEnd ?_
    refine G.seq ?_
    refine G.seq ?_
    refine G.region (l := [0, 1]) rfl ?_
    refine G.move rfl rfl rfl rfl ?_
    refine G.eqPtr (a := (some ⟨g303, 0, none⟩)) (b := none) (r := false) rfl rfl rfl rfl rfl Try.underlying24 (by simp) ?_
    refine G.regionEnd ?_
    refine G.condF rfl ?_
    refine G.skip ?_
    refine G.seq ?_
    refine G.region (l := [0, 1, 2]) rfl ?_
    refine G.move rfl rfl rfl rfl ?_
    refine G.frontAt 1 rfl ?_
    obtain ⟨t308, e309, h⟩ := bindS h
    refine G.callS rfl rfl rfl rfl call13 (free_Map_Free.ok (S_free_Map.mk a0 x307) g303 B305 c306 e309) ?_
    rintro v310 L311 ⟨B312, c313, rfl, rfl⟩
    refine G.assign rfl rfl rfl rfl ?_
    refine G.regionEnd ?_
    refine G.seq ?_
    refine G.region (l := [0, 1, 2, 3, 4, 5, 6, 7]) rfl ?_
    refine G.move rfl rfl rfl rfl ?_
    refine G.move rfl rfl rfl rfl ?_
    refine G.frontAt 1 rfl ?_
    refine G.frontAt 1 rfl ?_
    obtain ⟨t315, e316, h⟩ := bindS h
    refine G.callS rfl rfl rfl rfl call10 (free_Map_TakeRun.ok (S_free_Map.mk a0 x307) g303 B305 c306 a3 e316) ?_
    rintro v317 L318 ⟨rfl, rfl⟩
    refine G.move rfl rfl rfl rfl ?_
    refine G.extract rfl rfl rfl rfl rfl ?_
    refine G.extract rfl rfl rfl rfl rfl ?_
    refine G.assign rfl rfl rfl rfl ?_
    refine G.assign rfl rfl rfl rfl ?_
    refine G.regionEnd ?_
    refine G.seq ?_
    refine G.seq ?_
    refine G.region (l := [0, 1]) rfl ?_
    refine G.move rfl rfl rfl rfl ?_
    refine G.cmp (a3 < 1) rfl rfl rfl rfl rfl rfl Iff.rfl ?_
    refine G.regionEnd ?_
    refine G.condP rfl (fun k594 => ?_) (fun k594 => ?_)
    · replace h := ifT h k594
      refine G.seq ?_
      refine G.region (l := [0, 1, 2, 3, 4, 5]) rfl ?_
      refine G.move rfl rfl rfl rfl ?_
      refine G.move rfl rfl rfl rfl ?_
      refine G.splitB (d := 43) rfl (fun k320 => ?_) (fun k320 => ?_)
      · replace h := ifT h k320
        refine G.move rfl rfl rfl rfl ?_
        refine G.cmp (t315.2.1 = 1) rfl rfl rfl rfl rfl rfl Iff.rfl ?_
        refine G.pickT rfl rfl rfl rfl rfl ?_
        refine G.assign rfl rfl rfl rfl ?_
        refine G.regionEnd ?_
        refine G.drop ?_
        refine G.drop ?_
        refine G.drop ?_
        obtain rfl := Option.some.inj h
        exact G.ret1 Try.func4 rfl rfl (fun w hs => ⟨_, _, rfl, ⟨rfl, rfl⟩, hs⟩)
      · replace h := ifFB h k320
        refine G.unwanted rfl rfl rfl rfl ?_
        refine G.unwanted rfl rfl rfl rfl ?_
        refine G.pickF rfl rfl rfl rfl rfl ?_
        refine G.assign rfl rfl rfl rfl ?_
        refine G.regionEnd ?_
        refine G.drop ?_
        refine G.drop ?_
        refine G.drop ?_
        obtain rfl := Option.some.inj h
        exact G.ret1 Try.func4 rfl rfl (fun w hs => ⟨_, _, rfl, ⟨rfl, rfl⟩, hs⟩)
    · replace h := ifF h k594
      refine G.skip ?_
      refine G.seq ?_
      refine G.region (l := [0]) rfl ?_
      refine G.assign rfl rfl rfl rfl ?_
      refine G.regionEnd ?_
      refine G.seq ?_
      refine G.seq ?_
      refine G.region (l := [0, 1, 2]) rfl ?_
      refine G.move rfl rfl rfl rfl ?_
      refine G.len (m := t308.length) rfl rfl rfl rfl Try.underlying28 ?_
      refine G.move rfl rfl rfl rfl ?_
      refine G.regionEnd ?_
      refine G.block ?_
      refine G.loop (fun GG K => ∀ (d450 : Nat) (x321 : Int) (x322 : Int), armoirelaw06_FreeRuns.l0 a3 t1 t308 t315 d450 x321 x322 = some r → GG H [(3, .int .i64 a3), (9, .bool t1), (10, .pointer (some ⟨g303, 0, none⟩)), (12, .slice B312 t308.length c313), (13, .int .i64 t315.1), (14, .int .i64 t315.2.1), (15, .int .i64 x321), (48, .int .i64 (t308.length : Int)), (49, .int .i64 x322)] (OS 54 Kd.u8 B305 c306 t315.2.2.kinds :: BK 53 K_R_free_Map g303 (R_free_Map.mk t315.2.2.from_ (B305, t315.2.2.kinds.length, c306)) :: OS 3 (Kd.int .i64) B312 c313 t308 :: Fr) K) ?_ ?_
      · intro d450
        induction d450 with
        | zero => intro x321 x322 h; rw [armoirelaw06_FreeRuns.l0] at h; cases h
        | succ d450 ih449 =>
          intro x321 x322 h
          rw [armoirelaw06_FreeRuns.l0] at h
          refine G.seq ?_
          refine G.region (l := [0]) rfl ?_
          refine G.cmp (x322 < (t308.length : Int)) rfl rfl rfl rfl rfl rfl Iff.rfl ?_
          refine G.regionEnd ?_
          refine G.seq ?_
          refine G.condP rfl (fun k592 => ?_) (fun k592 => ?_)
          · replace h := ifT h k592
            refine G.skip ?_
            refine G.seq ?_
            refine G.block ?_
            refine G.seq ?_
            refine G.region (l := [0, 1]) rfl ?_
            refine G.move rfl rfl rfl rfl ?_
            refine G.assign rfl rfl rfl rfl ?_
            refine G.regionEnd ?_
            refine G.seq ?_
            refine byP (p := x321 < 0) (fun k502 => ?_) (fun k502 => ?_)
            · replace h := ifT h k502
              refine byP (p := a3 ≤ (wi64 ((t308.length : Int) - x322))) (fun k512 => ?_) (fun k512 => ?_)
              · replace h := ifT h k512
                obtain ⟨k518, h⟩ := guardS h
                have q517 : (wi64 ((wi64 (x322 + a3)) - 1)).toNat < t308.length := by omega
                obtain ⟨k520, h⟩ := guardS h
                have q519 : x322.toNat < t308.length := by omega
                refine G.draw [[], [0], [1], [2], [2], [4, 2], [2], [5, 6, 2], [3, 7, 2], [2, 8], [9, 2], [10], [10], [10], [12, 13, 10], [14, 10], [11, 15, 10], [16, 10], [10], [10], [18, 19, 10], [20, 10], [10], [21, 22, 10], [23, 10], [17, 24, 10], [10, 25]] 27 [0, 1, 2, 3, 4, 5, 6, 7, 8, 9, 10, 11, 12, 13, 14, 15, 16, 17, 18, 19, 20, 21, 22, 23, 24, 25, 26] [0, 1, 2, 3, 3, 4, 3, 5, 6, 7, 8, 9, 9, 9, 10, 11, 12, 13, 9, 9, 10, 11, 9, 12, 13, 14, 15] [0, 1, 2, 3, 3, 4, 3, 5, 6, 7, 8, 9, 9, 9, 10, 11, 12, 13, 9, 9, 10, 11, 9, 12, 13, 14, 15] rfl (by kernel_rfl) (by kernel_rfl) (by kernel_rfl) (by kernel_rfl) ?_
                intro C527 ops528 k529
                let R530 : Reg := armoirelaw06_FreeRuns.reg4_13 [(3, .int .i64 a3), (9, .bool t1), (10, .pointer (some ⟨g303, 0, none⟩)), (12, .slice B312 t308.length c313), (13, .int .i64 t315.1), (14, .int .i64 t315.2.1), (15, .int .i64 x321), (16, .int .i64 x322), (48, .int .i64 (t308.length : Int)), (49, .int .i64 x322)]
                have P531 : ∀ (m : Nat) (L : List Bool) (A : List (Nat × Value)) (l : List Nat), L.length = R530.ds.length → R530.Phi [some (.int .i64 x321), some (.bool (decide (x321 < 0))), some (.bool true), some (.int .i64 a3), some (.slice B312 t308.length c313), some (.int .i64 (t308.length : Int)), some (.int .i64 x322), some (.int .i64 (wi64 ((t308.length : Int) - x322))), some (.bool (decide (a3 ≤ (wi64 ((t308.length : Int) - x322))))), some (.bool (decide (a3 ≤ (wi64 ((t308.length : Int) - x322))))), some (.bool true), some (.slice B312 t308.length c313), some (.int .i64 x322), some (.int .i64 a3), some (.int .i64 (wi64 (x322 + a3))), some (.int .i64 (wi64 ((wi64 (x322 + a3)) - 1))), some (.pointer (some (plc B312 ((wi64 ((wi64 (x322 + a3)) - 1)).toNat * 1)))), some (.int .i64 (t308.getD ((wi64 ((wi64 (x322 + a3)) - 1)).toNat) 0)), some (.slice B312 t308.length c313), some (.int .i64 x322), some (.pointer (some (plc B312 (x322.toNat * 1)))), some (.int .i64 (t308.getD x322.toNat 0)), some (.int .i64 a3), some (.int .i64 (wi64 ((t308.getD x322.toNat 0) + a3))), some (.int .i64 (wi64 ((wi64 ((t308.getD x322.toNat 0) + a3)) - 1))), some (.bool (decide ((t308.getD ((wi64 ((wi64 (x322 + a3)) - 1)).toNat) 0) = (wi64 ((wi64 ((t308.getD x322.toNat 0) + a3)) - 1))))), some (.bool (decide ((t308.getD ((wi64 ((wi64 (x322 + a3)) - 1)).toNat) 0) = (wi64 ((wi64 ((t308.getD x322.toNat 0) + a3)) - 1)))))] [] [] L A → left L = m → Ord R530.ds m L l → G C527 H A (OS 54 Kd.u8 B305 c306 t315.2.2.kinds :: BK 53 K_R_free_Map g303 (R_free_Map.mk t315.2.2.from_ (B305, t315.2.2.kinds.length, c306)) :: OS 3 (Kd.int .i64) B312 c313 t308 :: Fr) (.inRegion ops528 l :: k529) := by
                  refine G.phase R530 [some (.int .i64 x321), some (.bool (decide (x321 < 0))), some (.bool true), some (.int .i64 a3), some (.slice B312 t308.length c313), some (.int .i64 (t308.length : Int)), some (.int .i64 x322), some (.int .i64 (wi64 ((t308.length : Int) - x322))), some (.bool (decide (a3 ≤ (wi64 ((t308.length : Int) - x322))))), some (.bool (decide (a3 ≤ (wi64 ((t308.length : Int) - x322))))), some (.bool true), some (.slice B312 t308.length c313), some (.int .i64 x322), some (.int .i64 a3), some (.int .i64 (wi64 (x322 + a3))), some (.int .i64 (wi64 ((wi64 (x322 + a3)) - 1))), some (.pointer (some (plc B312 ((wi64 ((wi64 (x322 + a3)) - 1)).toNat * 1)))), some (.int .i64 (t308.getD ((wi64 ((wi64 (x322 + a3)) - 1)).toNat) 0)), some (.slice B312 t308.length c313), some (.int .i64 x322), some (.pointer (some (plc B312 (x322.toNat * 1)))), some (.int .i64 (t308.getD x322.toNat 0)), some (.int .i64 a3), some (.int .i64 (wi64 ((t308.getD x322.toNat 0) + a3))), some (.int .i64 (wi64 ((wi64 ((t308.getD x322.toNat 0) + a3)) - 1))), some (.bool (decide ((t308.getD ((wi64 ((wi64 (x322 + a3)) - 1)).toNat) 0) = (wi64 ((wi64 ((t308.getD x322.toNat 0) + a3)) - 1))))), some (.bool (decide ((t308.getD ((wi64 ((wi64 (x322 + a3)) - 1)).toNat) 0) = (wi64 ((wi64 ((t308.getD x322.toNat 0) + a3)) - 1)))))] [0, 1, 2, 3, 4, 5, 6, 7, 8, 9, 10, 11, 12, 13, 14, 15, 16, 17, 18, 19, 20, 21, 22, 23, 24, 25, 26] [] [] [] (armoirelaw06_FreeRuns.reg4_13_ap _) rfl rfl ⟨⟨[.base 15], 52, .int .i64 x321, [(15, .int .i64 x321)], ⟨rfl, rfl, rfl, rfl, ?_⟩⟩, ⟨⟨[.op 0], 53, .bool (decide (x321 < 0)), [(52, .int .i64 x321)], ⟨rfl, rfl, rfl, rfl, ?_⟩⟩, ⟨⟨[.op 1], 54, .bool true, [(53, .bool (decide (x321 < 0)))], ⟨rfl, rfl, rfl, rfl, ?_⟩⟩, ⟨⟨[.base 3, .op 2], 55, .int .i64 a3, [(3, .int .i64 a3), (54, .bool true)], ⟨rfl, rfl, rfl, rfl, ?_⟩⟩, ⟨⟨[.base 12, .op 2], 56, .slice B312 t308.length c313, [(12, .slice B312 t308.length c313), (54, .bool true)], ⟨rfl, rfl, rfl, rfl, ?_⟩⟩, ⟨⟨[.op 2, .op 4], 57, .int .i64 (t308.length : Int), [(54, .bool true), (56, .slice B312 t308.length c313)], ⟨rfl, rfl, rfl, rfl, ?_⟩⟩, ⟨⟨[.base 16, .op 2], 58, .int .i64 x322, [(16, .int .i64 x322), (54, .bool true)], ⟨rfl, rfl, rfl, rfl, ?_⟩⟩, ⟨⟨[.op 2, .op 5, .op 6], 59, .int .i64 (wi64 ((t308.length : Int) - x322)), [(54, .bool true), (57, .int .i64 (t308.length : Int)), (58, .int .i64 x322)], ⟨rfl, rfl, rfl, rfl, ?_⟩⟩, ⟨⟨[.op 2, .op 3, .op 7], 60, .bool (decide (a3 ≤ (wi64 ((t308.length : Int) - x322)))), [(54, .bool true), (55, .int .i64 a3), (59, .int .i64 (wi64 ((t308.length : Int) - x322)))], ⟨rfl, rfl, rfl, rfl, ?_⟩⟩, ⟨⟨[.op 2, .op 8], 61, .bool (decide (a3 ≤ (wi64 ((t308.length : Int) - x322)))), [(54, .bool true), (60, .bool (decide (a3 ≤ (wi64 ((t308.length : Int) - x322)))))], ⟨rfl, rfl, rfl, rfl, ?_⟩⟩, ⟨⟨[.op 9], 62, .bool true, [(61, .bool (decide (a3 ≤ (wi64 ((t308.length : Int) - x322)))))], ⟨rfl, rfl, rfl, rfl, ?_⟩⟩, ⟨⟨[.base 12, .op 10], 63, .slice B312 t308.length c313, [(12, .slice B312 t308.length c313), (62, .bool true)], ⟨rfl, rfl, rfl, rfl, ?_⟩⟩, ⟨⟨[.base 16, .op 10], 64, .int .i64 x322, [(16, .int .i64 x322), (62, .bool true)], ⟨rfl, rfl, rfl, rfl, ?_⟩⟩, ⟨⟨[.base 3, .op 10], 65, .int .i64 a3, [(3, .int .i64 a3), (62, .bool true)], ⟨rfl, rfl, rfl, rfl, ?_⟩⟩, ⟨⟨[.op 10, .op 12, .op 13], 66, .int .i64 (wi64 (x322 + a3)), [(62, .bool true), (64, .int .i64 x322), (65, .int .i64 a3)], ⟨rfl, rfl, rfl, rfl, ?_⟩⟩, ⟨⟨[.op 10, .op 14], 67, .int .i64 (wi64 ((wi64 (x322 + a3)) - 1)), [(62, .bool true), (66, .int .i64 (wi64 (x322 + a3)))], ⟨rfl, rfl, rfl, rfl, ?_⟩⟩, ⟨⟨[.op 10, .op 11, .op 15], 68, .pointer (some (plc B312 ((wi64 ((wi64 (x322 + a3)) - 1)).toNat * 1))), [(62, .bool true), (63, .slice B312 t308.length c313), (67, .int .i64 (wi64 ((wi64 (x322 + a3)) - 1)))], ⟨rfl, rfl, rfl, rfl, ?_⟩⟩, ⟨⟨[.op 10, .op 16], 69, .int .i64 (t308.getD ((wi64 ((wi64 (x322 + a3)) - 1)).toNat) 0), [(62, .bool true), (68, .pointer (some (plc B312 ((wi64 ((wi64 (x322 + a3)) - 1)).toNat * 1))))], ⟨rfl, rfl, rfl, rfl, ?_⟩⟩, ⟨⟨[.base 12, .op 10], 70, .slice B312 t308.length c313, [(12, .slice B312 t308.length c313), (62, .bool true)], ⟨rfl, rfl, rfl, rfl, ?_⟩⟩, ⟨⟨[.base 16, .op 10], 71, .int .i64 x322, [(16, .int .i64 x322), (62, .bool true)], ⟨rfl, rfl, rfl, rfl, ?_⟩⟩, ⟨⟨[.op 10, .op 18, .op 19], 72, .pointer (some (plc B312 (x322.toNat * 1))), [(62, .bool true), (70, .slice B312 t308.length c313), (71, .int .i64 x322)], ⟨rfl, rfl, rfl, rfl, ?_⟩⟩, ⟨⟨[.op 10, .op 20], 73, .int .i64 (t308.getD x322.toNat 0), [(62, .bool true), (72, .pointer (some (plc B312 (x322.toNat * 1))))], ⟨rfl, rfl, rfl, rfl, ?_⟩⟩, ⟨⟨[.base 3, .op 10], 74, .int .i64 a3, [(3, .int .i64 a3), (62, .bool true)], ⟨rfl, rfl, rfl, rfl, ?_⟩⟩, ⟨⟨[.op 10, .op 21, .op 22], 75, .int .i64 (wi64 ((t308.getD x322.toNat 0) + a3)), [(62, .bool true), (73, .int .i64 (t308.getD x322.toNat 0)), (74, .int .i64 a3)], ⟨rfl, rfl, rfl, rfl, ?_⟩⟩, ⟨⟨[.op 10, .op 23], 76, .int .i64 (wi64 ((wi64 ((t308.getD x322.toNat 0) + a3)) - 1)), [(62, .bool true), (75, .int .i64 (wi64 ((t308.getD x322.toNat 0) + a3)))], ⟨rfl, rfl, rfl, rfl, ?_⟩⟩, ⟨⟨[.op 10, .op 17, .op 24], 77, .bool (decide ((t308.getD ((wi64 ((wi64 (x322 + a3)) - 1)).toNat) 0) = (wi64 ((wi64 ((t308.getD x322.toNat 0) + a3)) - 1)))), [(62, .bool true), (69, .int .i64 (t308.getD ((wi64 ((wi64 (x322 + a3)) - 1)).toNat) 0)), (76, .int .i64 (wi64 ((wi64 ((t308.getD x322.toNat 0) + a3)) - 1)))], ⟨rfl, rfl, rfl, rfl, ?_⟩⟩, ⟨⟨[.op 10, .op 25], 78, .bool (decide ((t308.getD ((wi64 ((wi64 (x322 + a3)) - 1)).toNat) 0) = (wi64 ((wi64 ((t308.getD x322.toNat 0) + a3)) - 1)))), [(62, .bool true), (77, .bool (decide ((t308.getD ((wi64 ((wi64 (x322 + a3)) - 1)).toNat) 0) = (wi64 ((wi64 ((t308.getD x322.toNat 0) + a3)) - 1)))))], ⟨rfl, rfl, rfl, rfl, ?_⟩⟩, trivial⟩⟩⟩⟩⟩⟩⟩⟩⟩⟩⟩⟩⟩⟩⟩⟩⟩⟩⟩⟩⟩⟩⟩⟩⟩⟩⟩ trivial ?_
                  · intro X rest g
                    refine G.move rfl rfl rfl rfl ?_
                    exact g
                  · intro X rest g
                    refine G.cmp (x321 < 0) rfl rfl rfl rfl rfl rfl Iff.rfl ?_
                    exact g
                  · intro X rest g
                    refine G.move rfl rfl rfl rfl ?_
                    refine G.same (d := 54) (v := .bool true) rfl (by simp [k502]) ?_
                    refine G.shadow ?_
                    exact g
                  · intro X rest g
                    refine G.move rfl rfl rfl rfl ?_
                    exact g
                  · intro X rest g
                    refine G.move rfl rfl rfl rfl ?_
                    exact g
                  · intro X rest g
                    refine G.len (m := t308.length) rfl rfl rfl rfl Try.underlying28 ?_
                    exact g
                  · intro X rest g
                    refine G.move rfl rfl rfl rfl ?_
                    exact g
                  · intro X rest g
                    refine G.bin (m := (t308.length : Int)) (n := x322) (r := wi64 ((t308.length : Int) - x322)) rfl rfl rfl rfl rfl rfl rfl ?_
                    exact g
                  · intro X rest g
                    refine G.cmp (a3 ≤ (wi64 ((t308.length : Int) - x322))) rfl rfl rfl rfl rfl rfl Iff.rfl ?_
                    exact g
                  · intro X rest g
                    refine G.pickT rfl rfl rfl rfl rfl ?_
                    exact g
                  · intro X rest g
                    refine G.move rfl rfl rfl rfl ?_
                    refine G.same (d := 62) (v := .bool true) rfl (by simp [k512]) ?_
                    refine G.shadow ?_
                    exact g
                  · intro X rest g
                    refine G.move rfl rfl rfl rfl ?_
                    exact g
                  · intro X rest g
                    refine G.move rfl rfl rfl rfl ?_
                    exact g
                  · intro X rest g
                    refine G.move rfl rfl rfl rfl ?_
                    exact g
                  · intro X rest g
                    refine G.bin (m := x322) (n := a3) (r := wi64 (x322 + a3)) rfl rfl rfl rfl rfl rfl rfl ?_
                    exact g
                  · intro X rest g
                    refine G.bin (m := wi64 (x322 + a3)) (n := 1) (r := wi64 ((wi64 (x322 + a3)) - 1)) rfl rfl rfl rfl rfl rfl rfl ?_
                    exact g
                  · intro X rest g
                    refine G.indexO (xs := t308) (j := wi64 ((wi64 (x322 + a3)) - 1)) (off := (wi64 ((wi64 (x322 + a3)) - 1)).toNat * 1) rfl rfl rfl rfl rfl el28 (r := 2) rfl (by simp) k518 rfl ?_
                    exact g
                  · intro X rest g
                    refine G.loadI (y := t308.getD ((wi64 ((wi64 (x322 + a3)) - 1)).toNat) 0) rfl rfl rfl rfl ty3 (fun w hs => Rd.osG q517 (Lens.id _ _) hs (j := 2) rfl (o := (wi64 ((wi64 (x322 + a3)) - 1)).toNat * 1) (by first | rfl | simp)) ?_
                    exact g
                  · intro X rest g
                    refine G.move rfl rfl rfl rfl ?_
                    exact g
                  · intro X rest g
                    refine G.move rfl rfl rfl rfl ?_
                    exact g
                  · intro X rest g
                    refine G.indexO (xs := t308) (j := x322) (off := x322.toNat * 1) rfl rfl rfl rfl rfl el28 (r := 2) rfl (by simp) k520 rfl ?_
                    exact g
                  · intro X rest g
                    refine G.loadI (y := t308.getD x322.toNat 0) rfl rfl rfl rfl ty3 (fun w hs => Rd.osG q519 (Lens.id _ _) hs (j := 2) rfl (o := x322.toNat * 1) (by first | rfl | simp)) ?_
                    exact g
                  · intro X rest g
                    refine G.move rfl rfl rfl rfl ?_
                    exact g
                  · intro X rest g
                    refine G.bin (m := t308.getD x322.toNat 0) (n := a3) (r := wi64 ((t308.getD x322.toNat 0) + a3)) rfl rfl rfl rfl rfl rfl rfl ?_
                    exact g
                  · intro X rest g
                    refine G.bin (m := wi64 ((t308.getD x322.toNat 0) + a3)) (n := 1) (r := wi64 ((wi64 ((t308.getD x322.toNat 0) + a3)) - 1)) rfl rfl rfl rfl rfl rfl rfl ?_
                    exact g
                  · intro X rest g
                    refine G.cmp ((t308.getD ((wi64 ((wi64 (x322 + a3)) - 1)).toNat) 0) = (wi64 ((wi64 ((t308.getD x322.toNat 0) + a3)) - 1))) rfl rfl rfl rfl rfl rfl Iff.rfl ?_
                    exact g
                  · intro X rest g
                    refine G.pickT rfl rfl rfl rfl rfl ?_
                    exact g
                  · intro A L hlen hp h0
                    refine G.lessSub (B := [(3, .int .i64 a3), (9, .bool t1), (10, .pointer (some ⟨g303, 0, none⟩)), (12, .slice B312 t308.length c313), (13, .int .i64 t315.1), (14, .int .i64 t315.2.1), (15, .int .i64 x321), (16, .int .i64 x322), (48, .int .i64 (t308.length : Int)), (49, .int .i64 x322), (55, .int .i64 a3), (56, .slice B312 t308.length c313), (57, .int .i64 (t308.length : Int)), (58, .int .i64 x322), (59, .int .i64 (wi64 ((t308.length : Int) - x322))), (60, .bool (decide (a3 ≤ (wi64 ((t308.length : Int) - x322))))), (63, .slice B312 t308.length c313), (64, .int .i64 x322), (65, .int .i64 a3), (66, .int .i64 (wi64 (x322 + a3))), (67, .int .i64 (wi64 ((wi64 (x322 + a3)) - 1))), (68, .pointer (some (plc B312 ((wi64 ((wi64 (x322 + a3)) - 1)).toNat * 1)))), (69, .int .i64 (t308.getD ((wi64 ((wi64 (x322 + a3)) - 1)).toNat) 0)), (70, .slice B312 t308.length c313), (71, .int .i64 x322), (72, .pointer (some (plc B312 (x322.toNat * 1)))), (73, .int .i64 (t308.getD x322.toNat 0)), (74, .int .i64 a3), (75, .int .i64 (wi64 ((t308.getD x322.toNat 0) + a3))), (76, .int .i64 (wi64 ((wi64 ((t308.getD x322.toNat 0) + a3)) - 1))), (77, .bool (decide ((t308.getD ((wi64 ((wi64 (x322 + a3)) - 1)).toNat) 0) = (wi64 ((wi64 ((t308.getD x322.toNat 0) + a3)) - 1))))), (78, .bool (decide ((t308.getD ((wi64 ((wi64 (x322 + a3)) - 1)).toNat) 0) = (wi64 ((wi64 ((t308.getD x322.toNat 0) + a3)) - 1)))))]) (hp.fin hlen h0 (src := [.base 3, .base 9, .base 10, .base 12, .base 13, .base 14, .base 15, .base 16, .base 48, .base 49, .op 3, .op 4, .op 5, .op 6, .op 7, .op 8, .op 11, .op 12, .op 13, .op 14, .op 15, .op 16, .op 17, .op 18, .op 19, .op 20, .op 21, .op 22, .op 23, .op 24, .op 25, .op 26]) rfl) ?_
                    refine G.regionEnd ?_
                    refine G.condP rfl (fun k526 => ?_) (fun k526 => ?_)
                    · replace h := ifT h k526
                      refine G.region (l := [0, 1, 2, 3, 4]) rfl ?_
                      refine G.move rfl rfl rfl rfl ?_
                      refine G.move rfl rfl rfl rfl ?_
                      obtain ⟨k525, h⟩ := guardS h
                      have q524 : x322.toNat < t308.length := by omega
                      refine G.indexO (xs := t308) (j := x322) (off := x322.toNat * 1) rfl rfl rfl rfl rfl el28 (r := 2) rfl (by simp) k525 rfl ?_
                      refine G.loadI (y := t308.getD x322.toNat 0) rfl rfl rfl rfl ty3 (fun w hs => Rd.osG q524 (Lens.id _ _) hs (j := 2) rfl (o := x322.toNat * 1) (by first | rfl | simp)) ?_
                      refine G.assign rfl rfl rfl rfl ?_
                      refine G.regionEnd ?_
                      refine G.inBlock ?_
                      refine G.region (l := [0, 1]) rfl ?_
                      refine G.bin (m := x322) (n := 1) (r := wi64 (x322 + 1)) rfl rfl rfl rfl rfl rfl rfl ?_
                      refine G.move rfl rfl rfl rfl ?_
                      refine G.regionEnd ?_
                      refine G.round ?_
                      refine G.frontAt 2 rfl ?_
                      refine G.frontAt 2 rfl ?_
                      refine G.frontAt 2 rfl ?_
                      refine G.less ?_ (ih449  (t308.getD x322.toNat 0) (wi64 (x322 + 1)) h)
                      exact ⟨rfl, rfl, rfl, rfl, rfl, rfl, rfl, rfl, rfl, trivial⟩
                    · replace h := ifF h k526
                      refine G.skip ?_
                      refine G.inBlock ?_
                      refine G.region (l := [0, 1]) rfl ?_
                      refine G.bin (m := x322) (n := 1) (r := wi64 (x322 + 1)) rfl rfl rfl rfl rfl rfl rfl ?_
                      refine G.move rfl rfl rfl rfl ?_
                      refine G.regionEnd ?_
                      refine G.round ?_
                      refine G.frontAt 2 rfl ?_
                      refine G.frontAt 2 rfl ?_
                      refine G.frontAt 2 rfl ?_
                      refine G.less ?_ (ih449  x321 (wi64 (x322 + 1)) h)
                      exact ⟨rfl, rfl, rfl, rfl, rfl, rfl, rfl, rfl, rfl, trivial⟩
                intro l hl
                exact P531 27 (List.replicate 27 false) _ l rfl (Reg.Phi.init 27 ⟨rfl, rfl, rfl, rfl, rfl, rfl, rfl, rfl, rfl, rfl, trivial⟩) (left_rep 27) hl
              · replace h := ifF h k512
                refine G.draw [[], [0], [1], [2], [2], [4, 2], [2], [5, 6, 2], [3, 7, 2], [2, 8], [9, 2], [10], [10], [10], [12, 13, 10], [14, 10], [11, 15, 10], [16, 10], [10], [10], [18, 19, 10], [20, 10], [10], [21, 22, 10], [23, 10], [17, 24, 10], [10, 25]] 27 [0, 1, 2, 3, 4, 5, 6, 7, 8, 9, 10, 11, 12, 13, 14, 15, 16, 17, 18, 19, 20, 21, 22, 23, 24, 25, 26] [0, 1, 2, 3, 3, 4, 3, 5, 6, 7, 8, 9, 9, 9, 10, 11, 12, 13, 9, 9, 10, 11, 9, 12, 13, 14, 15] [0, 1, 2, 3, 3, 4, 3, 5, 6, 7, 8, 9, 9, 9, 10, 11, 12, 13, 9, 9, 10, 11, 9, 12, 13, 14, 15] rfl (by kernel_rfl) (by kernel_rfl) (by kernel_rfl) (by kernel_rfl) ?_
                intro C532 ops533 k534
                let R535 : Reg := armoirelaw06_FreeRuns.reg4_13 [(3, .int .i64 a3), (9, .bool t1), (10, .pointer (some ⟨g303, 0, none⟩)), (12, .slice B312 t308.length c313), (13, .int .i64 t315.1), (14, .int .i64 t315.2.1), (15, .int .i64 x321), (16, .int .i64 x322), (48, .int .i64 (t308.length : Int)), (49, .int .i64 x322)]
                have P536 : ∀ (m : Nat) (L : List Bool) (A : List (Nat × Value)) (l : List Nat), L.length = R535.ds.length → R535.Phi [some (.int .i64 x321), some (.bool (decide (x321 < 0))), some (.bool true), some (.int .i64 a3), some (.slice B312 t308.length c313), some (.int .i64 (t308.length : Int)), some (.int .i64 x322), some (.int .i64 (wi64 ((t308.length : Int) - x322))), some (.bool (decide (a3 ≤ (wi64 ((t308.length : Int) - x322))))), some (.bool (decide (a3 ≤ (wi64 ((t308.length : Int) - x322))))), some (.bool false), some (undef), some (undef), some (undef), some (undef), some (undef), some (undef), some (undef), some (undef), some (undef), some (undef), some (undef), some (undef), some (undef), some (undef), some (undef), some (.bool false)] [] [] L A → left L = m → Ord R535.ds m L l → G C532 H A (OS 54 Kd.u8 B305 c306 t315.2.2.kinds :: BK 53 K_R_free_Map g303 (R_free_Map.mk t315.2.2.from_ (B305, t315.2.2.kinds.length, c306)) :: OS 3 (Kd.int .i64) B312 c313 t308 :: Fr) (.inRegion ops533 l :: k534) := by
                  refine G.phase R535 [some (.int .i64 x321), some (.bool (decide (x321 < 0))), some (.bool true), some (.int .i64 a3), some (.slice B312 t308.length c313), some (.int .i64 (t308.length : Int)), some (.int .i64 x322), some (.int .i64 (wi64 ((t308.length : Int) - x322))), some (.bool (decide (a3 ≤ (wi64 ((t308.length : Int) - x322))))), some (.bool (decide (a3 ≤ (wi64 ((t308.length : Int) - x322))))), some (.bool false), some (undef), some (undef), some (undef), some (undef), some (undef), some (undef), some (undef), some (undef), some (undef), some (undef), some (undef), some (undef), some (undef), some (undef), some (undef), some (.bool false)] [0, 1, 2, 3, 4, 5, 6, 7, 8, 9, 10, 11, 12, 13, 14, 15, 16, 17, 18, 19, 20, 21, 22, 23, 24, 25, 26] [] [] [] (armoirelaw06_FreeRuns.reg4_13_ap _) rfl rfl ⟨⟨[.base 15], 52, .int .i64 x321, [(15, .int .i64 x321)], ⟨rfl, rfl, rfl, rfl, ?_⟩⟩, ⟨⟨[.op 0], 53, .bool (decide (x321 < 0)), [(52, .int .i64 x321)], ⟨rfl, rfl, rfl, rfl, ?_⟩⟩, ⟨⟨[.op 1], 54, .bool true, [(53, .bool (decide (x321 < 0)))], ⟨rfl, rfl, rfl, rfl, ?_⟩⟩, ⟨⟨[.base 3, .op 2], 55, .int .i64 a3, [(3, .int .i64 a3), (54, .bool true)], ⟨rfl, rfl, rfl, rfl, ?_⟩⟩, ⟨⟨[.base 12, .op 2], 56, .slice B312 t308.length c313, [(12, .slice B312 t308.length c313), (54, .bool true)], ⟨rfl, rfl, rfl, rfl, ?_⟩⟩, ⟨⟨[.op 2, .op 4], 57, .int .i64 (t308.length : Int), [(54, .bool true), (56, .slice B312 t308.length c313)], ⟨rfl, rfl, rfl, rfl, ?_⟩⟩, ⟨⟨[.base 16, .op 2], 58, .int .i64 x322, [(16, .int .i64 x322), (54, .bool true)], ⟨rfl, rfl, rfl, rfl, ?_⟩⟩, ⟨⟨[.op 2, .op 5, .op 6], 59, .int .i64 (wi64 ((t308.length : Int) - x322)), [(54, .bool true), (57, .int .i64 (t308.length : Int)), (58, .int .i64 x322)], ⟨rfl, rfl, rfl, rfl, ?_⟩⟩, ⟨⟨[.op 2, .op 3, .op 7], 60, .bool (decide (a3 ≤ (wi64 ((t308.length : Int) - x322)))), [(54, .bool true), (55, .int .i64 a3), (59, .int .i64 (wi64 ((t308.length : Int) - x322)))], ⟨rfl, rfl, rfl, rfl, ?_⟩⟩, ⟨⟨[.op 2, .op 8], 61, .bool (decide (a3 ≤ (wi64 ((t308.length : Int) - x322)))), [(54, .bool true), (60, .bool (decide (a3 ≤ (wi64 ((t308.length : Int) - x322)))))], ⟨rfl, rfl, rfl, rfl, ?_⟩⟩, ⟨⟨[.op 9], 62, .bool false, [(61, .bool (decide (a3 ≤ (wi64 ((t308.length : Int) - x322)))))], ⟨rfl, rfl, rfl, rfl, ?_⟩⟩, ⟨⟨[.base 12, .op 10], 63, undef, [(12, .slice B312 t308.length c313), (62, .bool false)], ⟨rfl, rfl, rfl, rfl, ?_⟩⟩, ⟨⟨[.base 16, .op 10], 64, undef, [(16, .int .i64 x322), (62, .bool false)], ⟨rfl, rfl, rfl, rfl, ?_⟩⟩, ⟨⟨[.base 3, .op 10], 65, undef, [(3, .int .i64 a3), (62, .bool false)], ⟨rfl, rfl, rfl, rfl, ?_⟩⟩, ⟨⟨[.op 10, .op 12, .op 13], 66, undef, [(62, .bool false), (64, undef), (65, undef)], ⟨rfl, rfl, rfl, rfl, ?_⟩⟩, ⟨⟨[.op 10, .op 14], 67, undef, [(62, .bool false), (66, undef)], ⟨rfl, rfl, rfl, rfl, ?_⟩⟩, ⟨⟨[.op 10, .op 11, .op 15], 68, undef, [(62, .bool false), (63, undef), (67, undef)], ⟨rfl, rfl, rfl, rfl, ?_⟩⟩, ⟨⟨[.op 10, .op 16], 69, undef, [(62, .bool false), (68, undef)], ⟨rfl, rfl, rfl, rfl, ?_⟩⟩, ⟨⟨[.base 12, .op 10], 70, undef, [(12, .slice B312 t308.length c313), (62, .bool false)], ⟨rfl, rfl, rfl, rfl, ?_⟩⟩, ⟨⟨[.base 16, .op 10], 71, undef, [(16, .int .i64 x322), (62, .bool false)], ⟨rfl, rfl, rfl, rfl, ?_⟩⟩, ⟨⟨[.op 10, .op 18, .op 19], 72, undef, [(62, .bool false), (70, undef), (71, undef)], ⟨rfl, rfl, rfl, rfl, ?_⟩⟩, ⟨⟨[.op 10, .op 20], 73, undef, [(62, .bool false), (72, undef)], ⟨rfl, rfl, rfl, rfl, ?_⟩⟩, ⟨⟨[.base 3, .op 10], 74, undef, [(3, .int .i64 a3), (62, .bool false)], ⟨rfl, rfl, rfl, rfl, ?_⟩⟩, ⟨⟨[.op 10, .op 21, .op 22], 75, undef, [(62, .bool false), (73, undef), (74, undef)], ⟨rfl, rfl, rfl, rfl, ?_⟩⟩, ⟨⟨[.op 10, .op 23], 76, undef, [(62, .bool false), (75, undef)], ⟨rfl, rfl, rfl, rfl, ?_⟩⟩, ⟨⟨[.op 10, .op 17, .op 24], 77, undef, [(62, .bool false), (69, undef), (76, undef)], ⟨rfl, rfl, rfl, rfl, ?_⟩⟩, ⟨⟨[.op 10, .op 25], 78, .bool false, [(62, .bool false), (77, undef)], ⟨rfl, rfl, rfl, rfl, ?_⟩⟩, trivial⟩⟩⟩⟩⟩⟩⟩⟩⟩⟩⟩⟩⟩⟩⟩⟩⟩⟩⟩⟩⟩⟩⟩⟩⟩⟩⟩ trivial ?_
                  · intro X rest g
                    refine G.move rfl rfl rfl rfl ?_
                    exact g
                  · intro X rest g
                    refine G.cmp (x321 < 0) rfl rfl rfl rfl rfl rfl Iff.rfl ?_
                    exact g
                  · intro X rest g
                    refine G.move rfl rfl rfl rfl ?_
                    refine G.same (d := 54) (v := .bool true) rfl (by simp [k502]) ?_
                    refine G.shadow ?_
                    exact g
                  · intro X rest g
                    refine G.move rfl rfl rfl rfl ?_
                    exact g
                  · intro X rest g
                    refine G.move rfl rfl rfl rfl ?_
                    exact g
                  · intro X rest g
                    refine G.len (m := t308.length) rfl rfl rfl rfl Try.underlying28 ?_
                    exact g
                  · intro X rest g
                    refine G.move rfl rfl rfl rfl ?_
                    exact g
                  · intro X rest g
                    refine G.bin (m := (t308.length : Int)) (n := x322) (r := wi64 ((t308.length : Int) - x322)) rfl rfl rfl rfl rfl rfl rfl ?_
                    exact g
                  · intro X rest g
                    refine G.cmp (a3 ≤ (wi64 ((t308.length : Int) - x322))) rfl rfl rfl rfl rfl rfl Iff.rfl ?_
                    exact g
                  · intro X rest g
                    refine G.pickT rfl rfl rfl rfl rfl ?_
                    exact g
                  · intro X rest g
                    refine G.move rfl rfl rfl rfl ?_
                    refine G.same (d := 62) (v := .bool false) rfl (by simp [k512]) ?_
                    refine G.shadow ?_
                    exact g
                  · intro X rest g
                    refine G.unwanted rfl rfl rfl rfl ?_
                    exact g
                  · intro X rest g
                    refine G.unwanted rfl rfl rfl rfl ?_
                    exact g
                  · intro X rest g
                    refine G.unwanted rfl rfl rfl rfl ?_
                    exact g
                  · intro X rest g
                    refine G.unwanted rfl rfl rfl rfl ?_
                    exact g
                  · intro X rest g
                    refine G.unwanted rfl rfl rfl rfl ?_
                    exact g
                  · intro X rest g
                    refine G.unwanted rfl rfl rfl rfl ?_
                    exact g
                  · intro X rest g
                    refine G.unwanted rfl rfl rfl rfl ?_
                    exact g
                  · intro X rest g
                    refine G.unwanted rfl rfl rfl rfl ?_
                    exact g
                  · intro X rest g
                    refine G.unwanted rfl rfl rfl rfl ?_
                    exact g
                  · intro X rest g
                    refine G.unwanted rfl rfl rfl rfl ?_
                    exact g
                  · intro X rest g
                    refine G.unwanted rfl rfl rfl rfl ?_
                    exact g
                  · intro X rest g
                    refine G.unwanted rfl rfl rfl rfl ?_
                    exact g
                  · intro X rest g
                    refine G.unwanted rfl rfl rfl rfl ?_
                    exact g
                  · intro X rest g
                    refine G.unwanted rfl rfl rfl rfl ?_
                    exact g
                  · intro X rest g
                    refine G.unwanted rfl rfl rfl rfl ?_
                    exact g
                  · intro X rest g
                    refine G.pickF rfl rfl rfl rfl rfl ?_
                    exact g
                  · intro A L hlen hp h0
                    refine G.lessSub (B := [(3, .int .i64 a3), (9, .bool t1), (10, .pointer (some ⟨g303, 0, none⟩)), (12, .slice B312 t308.length c313), (13, .int .i64 t315.1), (14, .int .i64 t315.2.1), (15, .int .i64 x321), (16, .int .i64 x322), (48, .int .i64 (t308.length : Int)), (49, .int .i64 x322), (55, .int .i64 a3), (56, .slice B312 t308.length c313), (57, .int .i64 (t308.length : Int)), (58, .int .i64 x322), (59, .int .i64 (wi64 ((t308.length : Int) - x322))), (60, .bool (decide (a3 ≤ (wi64 ((t308.length : Int) - x322))))), (63, undef), (64, undef), (65, undef), (66, undef), (67, undef), (68, undef), (69, undef), (70, undef), (71, undef), (72, undef), (73, undef), (74, undef), (75, undef), (76, undef), (77, undef), (78, .bool false)]) (hp.fin hlen h0 (src := [.base 3, .base 9, .base 10, .base 12, .base 13, .base 14, .base 15, .base 16, .base 48, .base 49, .op 3, .op 4, .op 5, .op 6, .op 7, .op 8, .op 11, .op 12, .op 13, .op 14, .op 15, .op 16, .op 17, .op 18, .op 19, .op 20, .op 21, .op 22, .op 23, .op 24, .op 25, .op 26]) rfl) ?_
                    refine G.regionEnd ?_
                    refine G.condF rfl ?_
                    refine G.skip ?_
                    refine G.inBlock ?_
                    refine G.region (l := [0, 1]) rfl ?_
                    refine G.bin (m := x322) (n := 1) (r := wi64 (x322 + 1)) rfl rfl rfl rfl rfl rfl rfl ?_
                    refine G.move rfl rfl rfl rfl ?_
                    refine G.regionEnd ?_
                    refine G.round ?_
                    refine G.frontAt 2 rfl ?_
                    refine G.frontAt 2 rfl ?_
                    refine G.frontAt 2 rfl ?_
                    refine G.less ?_ (ih449  x321 (wi64 (x322 + 1)) h)
                    exact ⟨rfl, rfl, rfl, rfl, rfl, rfl, rfl, rfl, rfl, trivial⟩
                intro l hl
                exact P536 27 (List.replicate 27 false) _ l rfl (Reg.Phi.init 27 ⟨rfl, rfl, rfl, rfl, rfl, rfl, rfl, rfl, rfl, rfl, trivial⟩) (left_rep 27) hl
            · replace h := ifF h k502
              refine G.draw [[], [0], [1], [2], [2], [4, 2], [2], [5, 6, 2], [3, 7, 2], [2, 8], [9, 2], [10], [10], [10], [12, 13, 10], [14, 10], [11, 15, 10], [16, 10], [10], [10], [18, 19, 10], [20, 10], [10], [21, 22, 10], [23, 10], [17, 24, 10], [10, 25]] 27 [0, 1, 2, 3, 4, 5, 6, 7, 8, 9, 10, 11, 12, 13, 14, 15, 16, 17, 18, 19, 20, 21, 22, 23, 24, 25, 26] [0, 1, 2, 3, 3, 4, 3, 5, 6, 7, 8, 9, 9, 9, 10, 11, 12, 13, 9, 9, 10, 11, 9, 12, 13, 14, 15] [0, 1, 2, 3, 3, 4, 3, 5, 6, 7, 8, 9, 9, 9, 10, 11, 12, 13, 9, 9, 10, 11, 9, 12, 13, 14, 15] rfl (by kernel_rfl) (by kernel_rfl) (by kernel_rfl) (by kernel_rfl) ?_
              intro C537 ops538 k539
              let R540 : Reg := armoirelaw06_FreeRuns.reg4_13 [(3, .int .i64 a3), (9, .bool t1), (10, .pointer (some ⟨g303, 0, none⟩)), (12, .slice B312 t308.length c313), (13, .int .i64 t315.1), (14, .int .i64 t315.2.1), (15, .int .i64 x321), (16, .int .i64 x322), (48, .int .i64 (t308.length : Int)), (49, .int .i64 x322)]
              have P541 : ∀ (m : Nat) (L : List Bool) (A : List (Nat × Value)) (l : List Nat), L.length = R540.ds.length → R540.Phi [some (.int .i64 x321), some (.bool (decide (x321 < 0))), some (.bool false), some (undef), some (undef), some (undef), some (undef), some (undef), some (undef), some (.bool false), some (.bool false), some (undef), some (undef), some (undef), some (undef), some (undef), some (undef), some (undef), some (undef), some (undef), some (undef), some (undef), some (undef), some (undef), some (undef), some (undef), some (.bool false)] [] [] L A → left L = m → Ord R540.ds m L l → G C537 H A (OS 54 Kd.u8 B305 c306 t315.2.2.kinds :: BK 53 K_R_free_Map g303 (R_free_Map.mk t315.2.2.from_ (B305, t315.2.2.kinds.length, c306)) :: OS 3 (Kd.int .i64) B312 c313 t308 :: Fr) (.inRegion ops538 l :: k539) := by
                refine G.phase R540 [some (.int .i64 x321), some (.bool (decide (x321 < 0))), some (.bool false), some (undef), some (undef), some (undef), some (undef), some (undef), some (undef), some (.bool false), some (.bool false), some (undef), some (undef), some (undef), some (undef), some (undef), some (undef), some (undef), some (undef), some (undef), some (undef), some (undef), some (undef), some (undef), some (undef), some (undef), some (.bool false)] [0, 1, 2, 3, 4, 5, 6, 7, 8, 9, 10, 11, 12, 13, 14, 15, 16, 17, 18, 19, 20, 21, 22, 23, 24, 25, 26] [] [] [] (armoirelaw06_FreeRuns.reg4_13_ap _) rfl rfl ⟨⟨[.base 15], 52, .int .i64 x321, [(15, .int .i64 x321)], ⟨rfl, rfl, rfl, rfl, ?_⟩⟩, ⟨⟨[.op 0], 53, .bool (decide (x321 < 0)), [(52, .int .i64 x321)], ⟨rfl, rfl, rfl, rfl, ?_⟩⟩, ⟨⟨[.op 1], 54, .bool false, [(53, .bool (decide (x321 < 0)))], ⟨rfl, rfl, rfl, rfl, ?_⟩⟩, ⟨⟨[.base 3, .op 2], 55, undef, [(3, .int .i64 a3), (54, .bool false)], ⟨rfl, rfl, rfl, rfl, ?_⟩⟩, ⟨⟨[.base 12, .op 2], 56, undef, [(12, .slice B312 t308.length c313), (54, .bool false)], ⟨rfl, rfl, rfl, rfl, ?_⟩⟩, ⟨⟨[.op 2, .op 4], 57, undef, [(54, .bool false), (56, undef)], ⟨rfl, rfl, rfl, rfl, ?_⟩⟩, ⟨⟨[.base 16, .op 2], 58, undef, [(16, .int .i64 x322), (54, .bool false)], ⟨rfl, rfl, rfl, rfl, ?_⟩⟩, ⟨⟨[.op 2, .op 5, .op 6], 59, undef, [(54, .bool false), (57, undef), (58, undef)], ⟨rfl, rfl, rfl, rfl, ?_⟩⟩, ⟨⟨[.op 2, .op 3, .op 7], 60, undef, [(54, .bool false), (55, undef), (59, undef)], ⟨rfl, rfl, rfl, rfl, ?_⟩⟩, ⟨⟨[.op 2, .op 8], 61, .bool false, [(54, .bool false), (60, undef)], ⟨rfl, rfl, rfl, rfl, ?_⟩⟩, ⟨⟨[.op 9], 62, .bool false, [(61, .bool false)], ⟨rfl, rfl, rfl, rfl, ?_⟩⟩, ⟨⟨[.base 12, .op 10], 63, undef, [(12, .slice B312 t308.length c313), (62, .bool false)], ⟨rfl, rfl, rfl, rfl, ?_⟩⟩, ⟨⟨[.base 16, .op 10], 64, undef, [(16, .int .i64 x322), (62, .bool false)], ⟨rfl, rfl, rfl, rfl, ?_⟩⟩, ⟨⟨[.base 3, .op 10], 65, undef, [(3, .int .i64 a3), (62, .bool false)], ⟨rfl, rfl, rfl, rfl, ?_⟩⟩, ⟨⟨[.op 10, .op 12, .op 13], 66, undef, [(62, .bool false), (64, undef), (65, undef)], ⟨rfl, rfl, rfl, rfl, ?_⟩⟩, ⟨⟨[.op 10, .op 14], 67, undef, [(62, .bool false), (66, undef)], ⟨rfl, rfl, rfl, rfl, ?_⟩⟩, ⟨⟨[.op 10, .op 11, .op 15], 68, undef, [(62, .bool false), (63, undef), (67, undef)], ⟨rfl, rfl, rfl, rfl, ?_⟩⟩, ⟨⟨[.op 10, .op 16], 69, undef, [(62, .bool false), (68, undef)], ⟨rfl, rfl, rfl, rfl, ?_⟩⟩, ⟨⟨[.base 12, .op 10], 70, undef, [(12, .slice B312 t308.length c313), (62, .bool false)], ⟨rfl, rfl, rfl, rfl, ?_⟩⟩, ⟨⟨[.base 16, .op 10], 71, undef, [(16, .int .i64 x322), (62, .bool false)], ⟨rfl, rfl, rfl, rfl, ?_⟩⟩, ⟨⟨[.op 10, .op 18, .op 19], 72, undef, [(62, .bool false), (70, undef), (71, undef)], ⟨rfl, rfl, rfl, rfl, ?_⟩⟩, ⟨⟨[.op 10, .op 20], 73, undef, [(62, .bool false), (72, undef)], ⟨rfl, rfl, rfl, rfl, ?_⟩⟩, ⟨⟨[.base 3, .op 10], 74, undef, [(3, .int .i64 a3), (62, .bool false)], ⟨rfl, rfl, rfl, rfl, ?_⟩⟩, ⟨⟨[.op 10, .op 21, .op 22], 75, undef, [(62, .bool false), (73, undef), (74, undef)], ⟨rfl, rfl, rfl, rfl, ?_⟩⟩, ⟨⟨[.op 10, .op 23], 76, undef, [(62, .bool false), (75, undef)], ⟨rfl, rfl, rfl, rfl, ?_⟩⟩, ⟨⟨[.op 10, .op 17, .op 24], 77, undef, [(62, .bool false), (69, undef), (76, undef)], ⟨rfl, rfl, rfl, rfl, ?_⟩⟩, ⟨⟨[.op 10, .op 25], 78, .bool false, [(62, .bool false), (77, undef)], ⟨rfl, rfl, rfl, rfl, ?_⟩⟩, trivial⟩⟩⟩⟩⟩⟩⟩⟩⟩⟩⟩⟩⟩⟩⟩⟩⟩⟩⟩⟩⟩⟩⟩⟩⟩⟩⟩ trivial ?_
                · intro X rest g
                  refine G.move rfl rfl rfl rfl ?_
                  exact g
                · intro X rest g
                  refine G.cmp (x321 < 0) rfl rfl rfl rfl rfl rfl Iff.rfl ?_
                  exact g
                · intro X rest g
                  refine G.move rfl rfl rfl rfl ?_
                  refine G.same (d := 54) (v := .bool false) rfl (by simp [k502]) ?_
                  refine G.shadow ?_
                  exact g
                · intro X rest g
                  refine G.unwanted rfl rfl rfl rfl ?_
                  exact g
                · intro X rest g
                  refine G.unwanted rfl rfl rfl rfl ?_
                  exact g
                · intro X rest g
                  refine G.unwanted rfl rfl rfl rfl ?_
                  exact g
                · intro X rest g
                  refine G.unwanted rfl rfl rfl rfl ?_
                  exact g
                · intro X rest g
                  refine G.unwanted rfl rfl rfl rfl ?_
                  exact g
                · intro X rest g
                  refine G.unwanted rfl rfl rfl rfl ?_
                  exact g
                · intro X rest g
                  refine G.pickF rfl rfl rfl rfl rfl ?_
                  exact g
                · intro X rest g
                  refine G.move rfl rfl rfl rfl ?_
                  exact g
                · intro X rest g
                  refine G.unwanted rfl rfl rfl rfl ?_
                  exact g
                · intro X rest g
                  refine G.unwanted rfl rfl rfl rfl ?_
                  exact g
                · intro X rest g
                  refine G.unwanted rfl rfl rfl rfl ?_
                  exact g
                · intro X rest g
                  refine G.unwanted rfl rfl rfl rfl ?_
                  exact g
                · intro X rest g
                  refine G.unwanted rfl rfl rfl rfl ?_
                  exact g
                · intro X rest g
                  refine G.unwanted rfl rfl rfl rfl ?_
                  exact g
                · intro X rest g
                  refine G.unwanted rfl rfl rfl rfl ?_
                  exact g
                · intro X rest g
                  refine G.unwanted rfl rfl rfl rfl ?_
                  exact g
                · intro X rest g
                  refine G.unwanted rfl rfl rfl rfl ?_
                  exact g
                · intro X rest g
                  refine G.unwanted rfl rfl rfl rfl ?_
                  exact g
                · intro X rest g
                  refine G.unwanted rfl rfl rfl rfl ?_
                  exact g
                · intro X rest g
                  refine G.unwanted rfl rfl rfl rfl ?_
                  exact g
                · intro X rest g
                  refine G.unwanted rfl rfl rfl rfl ?_
                  exact g
                · intro X rest g
                  refine G.unwanted rfl rfl rfl rfl ?_
                  exact g
                · intro X rest g
                  refine G.unwanted rfl rfl rfl rfl ?_
                  exact g
                · intro X rest g
                  refine G.pickF rfl rfl rfl rfl rfl ?_
                  exact g
                · intro A L hlen hp h0
                  refine G.lessSub (B := [(3, .int .i64 a3), (9, .bool t1), (10, .pointer (some ⟨g303, 0, none⟩)), (12, .slice B312 t308.length c313), (13, .int .i64 t315.1), (14, .int .i64 t315.2.1), (15, .int .i64 x321), (16, .int .i64 x322), (48, .int .i64 (t308.length : Int)), (49, .int .i64 x322), (55, undef), (56, undef), (57, undef), (58, undef), (59, undef), (60, undef), (63, undef), (64, undef), (65, undef), (66, undef), (67, undef), (68, undef), (69, undef), (70, undef), (71, undef), (72, undef), (73, undef), (74, undef), (75, undef), (76, undef), (77, undef), (78, .bool false)]) (hp.fin hlen h0 (src := [.base 3, .base 9, .base 10, .base 12, .base 13, .base 14, .base 15, .base 16, .base 48, .base 49, .op 3, .op 4, .op 5, .op 6, .op 7, .op 8, .op 11, .op 12, .op 13, .op 14, .op 15, .op 16, .op 17, .op 18, .op 19, .op 20, .op 21, .op 22, .op 23, .op 24, .op 25, .op 26]) rfl) ?_
                  refine G.regionEnd ?_
                  refine G.condF rfl ?_
                  refine G.skip ?_
                  refine G.inBlock ?_
                  refine G.region (l := [0, 1]) rfl ?_
                  refine G.bin (m := x322) (n := 1) (r := wi64 (x322 + 1)) rfl rfl rfl rfl rfl rfl rfl ?_
                  refine G.move rfl rfl rfl rfl ?_
                  refine G.regionEnd ?_
                  refine G.round ?_
                  refine G.frontAt 2 rfl ?_
                  refine G.frontAt 2 rfl ?_
                  refine G.frontAt 2 rfl ?_
                  refine G.less ?_ (ih449  x321 (wi64 (x322 + 1)) h)
                  exact ⟨rfl, rfl, rfl, rfl, rfl, rfl, rfl, rfl, rfl, trivial⟩
              intro l hl
              exact P541 27 (List.replicate 27 false) _ l rfl (Reg.Phi.init 27 ⟨rfl, rfl, rfl, rfl, rfl, rfl, rfl, rfl, rfl, rfl, trivial⟩) (left_rep 27) hl
          · replace h := ifF h k592
            refine G.exit rfl ?_
            refine G.seq ?_
            refine G.seq ?_
            refine G.region (l := [0, 1]) rfl ?_
            refine G.move rfl rfl rfl rfl ?_
            refine G.cmp (x321 < 0) rfl rfl rfl rfl rfl rfl Iff.rfl ?_
            refine G.regionEnd ?_
            refine G.condP rfl (fun k591 => ?_) (fun k591 => ?_)
            · replace h := ifT h k591
              refine G.seq ?_
              refine G.region (l := [0, 1, 2, 3, 4, 5, 6, 7, 8, 9, 10, 11, 12, 13]) rfl ?_
              refine G.move rfl rfl rfl rfl ?_
              refine G.move rfl rfl rfl rfl ?_
              refine G.splitB (d := 87) rfl (fun k573 => ?_) (fun k573 => ?_)
              · replace h := ifT h k573
                refine G.move rfl rfl rfl rfl ?_
                refine G.cmp (t315.2.1 = 5) rfl rfl rfl rfl rfl rfl Iff.rfl ?_
                refine G.pickT rfl rfl rfl rfl rfl ?_
                refine G.move rfl rfl rfl rfl ?_
                refine G.splitP (d := 91) rfl (fun k572 => ?_) (fun k572 => ?_)
                · replace h := ifT h k572
                  refine G.move rfl rfl rfl rfl ?_
                  refine G.frontAt 1 rfl ?_
                  obtain ⟨t565, e566, h⟩ := bindS h
                  refine G.callS rfl rfl rfl rfl call13 (free_Map_Free.ok t315.2.2 g303 B305 c306 e566) ?_
                  rintro v567 L568 ⟨B569, c570, rfl, rfl⟩
                  refine G.len (m := t565.length) rfl rfl rfl rfl Try.underlying28 ?_
                  refine G.move rfl rfl rfl rfl ?_
                  refine G.len (m := t308.length) rfl rfl rfl rfl Try.underlying28 ?_
                  refine G.cmp ((t565.length : Int) = (t308.length : Int)) rfl rfl rfl rfl rfl rfl Iff.rfl ?_
                  refine G.pickT rfl rfl rfl rfl rfl ?_
                  refine G.assign rfl rfl rfl rfl ?_
                  refine G.regionEnd ?_
                  refine G.drop ?_
                  refine G.drop ?_
                  refine G.drop ?_
                  refine G.drop ?_
                  obtain rfl := Option.some.inj h
                  exact G.ret1 Try.func4 rfl rfl (fun w hs => ⟨_, _, rfl, ⟨rfl, rfl⟩, hs⟩)
                · replace h := ifF h k572
                  refine G.unwanted rfl rfl rfl rfl ?_
                  refine G.unwanted rfl rfl rfl rfl ?_
                  refine G.unwanted rfl rfl rfl rfl ?_
                  refine G.unwanted rfl rfl rfl rfl ?_
                  refine G.unwanted rfl rfl rfl rfl ?_
                  refine G.unwanted rfl rfl rfl rfl ?_
                  refine G.pickF rfl rfl rfl rfl rfl ?_
                  refine G.assign rfl rfl rfl rfl ?_
                  refine G.regionEnd ?_
                  refine G.drop ?_
                  refine G.drop ?_
                  refine G.drop ?_
                  obtain rfl := Option.some.inj h
                  exact G.ret1 Try.func4 rfl rfl (fun w hs => ⟨_, _, rfl, ⟨rfl, rfl⟩, hs⟩)
              · replace h := ifFB h k573
                refine G.unwanted rfl rfl rfl rfl ?_
                refine G.unwanted rfl rfl rfl rfl ?_
                refine G.pickF rfl rfl rfl rfl rfl ?_
                refine G.move rfl rfl rfl rfl ?_
                refine G.unwanted rfl rfl rfl rfl ?_
                refine G.unwanted rfl rfl rfl rfl ?_
                refine G.unwanted rfl rfl rfl rfl ?_
                refine G.unwanted rfl rfl rfl rfl ?_
                refine G.unwanted rfl rfl rfl rfl ?_
                refine G.unwanted rfl rfl rfl rfl ?_
                refine G.pickF rfl rfl rfl rfl rfl ?_
                refine G.assign rfl rfl rfl rfl ?_
                refine G.regionEnd ?_
                refine G.drop ?_
                refine G.drop ?_
                refine G.drop ?_
                obtain rfl := Option.some.inj h
                exact G.ret1 Try.func4 rfl rfl (fun w hs => ⟨_, _, rfl, ⟨rfl, rfl⟩, hs⟩)
            · replace h := ifF h k591
              refine G.skip ?_
              refine G.seq ?_
              refine G.region (l := [0, 1, 2, 3, 4, 5, 6, 7, 8, 9, 10, 11, 12, 13, 14, 15, 16, 17, 18, 19, 20]) rfl ?_
              refine G.move rfl rfl rfl rfl ?_
              refine G.move rfl rfl rfl rfl ?_
              refine G.splitB (d := 100) rfl (fun k590 => ?_) (fun k590 => ?_)
              · replace h := ifT h k590
                refine G.move rfl rfl rfl rfl ?_
                refine G.cmp (t315.2.1 = 0) rfl rfl rfl rfl rfl rfl Iff.rfl ?_
                refine G.pickT rfl rfl rfl rfl rfl ?_
                refine G.move rfl rfl rfl rfl ?_
                refine G.splitP (d := 104) rfl (fun k589 => ?_) (fun k589 => ?_)
                · replace h := ifT h k589
                  refine G.move rfl rfl rfl rfl ?_
                  refine G.move rfl rfl rfl rfl ?_
                  refine G.cmp (t315.1 = x321) rfl rfl rfl rfl rfl rfl Iff.rfl ?_
                  refine G.pickT rfl rfl rfl rfl rfl ?_
                  refine G.move rfl rfl rfl rfl ?_
                  refine G.splitP (d := 109) rfl (fun k588 => ?_) (fun k588 => ?_)
                  · replace h := ifT h k588
                    refine G.move rfl rfl rfl rfl ?_
                    refine G.frontAt 1 rfl ?_
                    obtain ⟨t581, e582, h⟩ := bindS h
                    refine G.callS rfl rfl rfl rfl call13 (free_Map_Free.ok t315.2.2 g303 B305 c306 e582) ?_
                    rintro v583 L584 ⟨B585, c586, rfl, rfl⟩
                    refine G.len (m := t581.length) rfl rfl rfl rfl Try.underlying28 ?_
                    refine G.move rfl rfl rfl rfl ?_
                    refine G.len (m := t308.length) rfl rfl rfl rfl Try.underlying28 ?_
                    refine G.move rfl rfl rfl rfl ?_
                    refine G.bin (m := (t308.length : Int)) (n := a3) (r := wi64 ((t308.length : Int) - a3)) rfl rfl rfl rfl rfl rfl rfl ?_
                    refine G.cmp ((t581.length : Int) = (wi64 ((t308.length : Int) - a3))) rfl rfl rfl rfl rfl rfl Iff.rfl ?_
                    refine G.pickT rfl rfl rfl rfl rfl ?_
                    refine G.assign rfl rfl rfl rfl ?_
                    refine G.regionEnd ?_
                    refine G.drop ?_
                    refine G.drop ?_
                    refine G.drop ?_
                    refine G.drop ?_
                    obtain rfl := Option.some.inj h
                    exact G.ret1 Try.func4 rfl rfl (fun w hs => ⟨_, _, rfl, ⟨rfl, rfl⟩, hs⟩)
                  · replace h := ifF h k588
                    refine G.unwanted rfl rfl rfl rfl ?_
                    refine G.unwanted rfl rfl rfl rfl ?_
                    refine G.unwanted rfl rfl rfl rfl ?_
                    refine G.unwanted rfl rfl rfl rfl ?_
                    refine G.unwanted rfl rfl rfl rfl ?_
                    refine G.unwanted rfl rfl rfl rfl ?_
                    refine G.unwanted rfl rfl rfl rfl ?_
                    refine G.unwanted rfl rfl rfl rfl ?_
                    refine G.pickF rfl rfl rfl rfl rfl ?_
                    refine G.assign rfl rfl rfl rfl ?_
                    refine G.regionEnd ?_
                    refine G.drop ?_
                    refine G.drop ?_
                    refine G.drop ?_
                    obtain rfl := Option.some.inj h
                    exact G.ret1 Try.func4 rfl rfl (fun w hs => ⟨_, _, rfl, ⟨rfl, rfl⟩, hs⟩)
                · replace h := ifF h k589
                  refine G.unwanted rfl rfl rfl rfl ?_
                  refine G.unwanted rfl rfl rfl rfl ?_
                  refine G.unwanted rfl rfl rfl rfl ?_
                  refine G.pickF rfl rfl rfl rfl rfl ?_
                  refine G.move rfl rfl rfl rfl ?_
                  refine G.unwanted rfl rfl rfl rfl ?_
                  refine G.unwanted rfl rfl rfl rfl ?_
                  refine G.unwanted rfl rfl rfl rfl ?_
                  refine G.unwanted rfl rfl rfl rfl ?_
                  refine G.unwanted rfl rfl rfl rfl ?_
                  refine G.unwanted rfl rfl rfl rfl ?_
                  refine G.unwanted rfl rfl rfl rfl ?_
                  refine G.unwanted rfl rfl rfl rfl ?_
                  refine G.pickF rfl rfl rfl rfl rfl ?_
                  refine G.assign rfl rfl rfl rfl ?_
                  refine G.regionEnd ?_
                  refine G.drop ?_
                  refine G.drop ?_
                  refine G.drop ?_
                  obtain rfl := Option.some.inj h
                  exact G.ret1 Try.func4 rfl rfl (fun w hs => ⟨_, _, rfl, ⟨rfl, rfl⟩, hs⟩)
              · replace h := ifFB h k590
                refine G.unwanted rfl rfl rfl rfl ?_
                refine G.unwanted rfl rfl rfl rfl ?_
                refine G.pickF rfl rfl rfl rfl rfl ?_
                refine G.move rfl rfl rfl rfl ?_
                refine G.unwanted rfl rfl rfl rfl ?_
                refine G.unwanted rfl rfl rfl rfl ?_
                refine G.unwanted rfl rfl rfl rfl ?_
                refine G.pickF rfl rfl rfl rfl rfl ?_
                refine G.move rfl rfl rfl rfl ?_
                refine G.unwanted rfl rfl rfl rfl ?_
                refine G.unwanted rfl rfl rfl rfl ?_
                refine G.unwanted rfl rfl rfl rfl ?_
                refine G.unwanted rfl rfl rfl rfl ?_
                refine G.unwanted rfl rfl rfl rfl ?_
                refine G.unwanted rfl rfl rfl rfl ?_
                refine G.unwanted rfl rfl rfl rfl ?_
                refine G.unwanted rfl rfl rfl rfl ?_
                refine G.pickF rfl rfl rfl rfl rfl ?_
                refine G.assign rfl rfl rfl rfl ?_
                refine G.regionEnd ?_
                refine G.drop ?_
                refine G.drop ?_
                refine G.drop ?_
                obtain rfl := Option.some.inj h
                exact G.ret1 Try.func4 rfl rfl (fun w hs => ⟨_, _, rfl, ⟨rfl, rfl⟩, hs⟩)
      intro J593
      refine G.frontAt 2 rfl ?_
      refine G.frontAt 1 rfl ?_
      refine G.frontAt 2 rfl ?_
      refine G.less ?_ (J593 FUEL  (-1) 0 h)
      exact ⟨rfl, rfl, rfl, rfl, rfl, rfl, rfl, rfl, rfl, trivial⟩
  intro J595
  refine G.inl (n' := 62) rfl rfl rfl rfl call8 Try.func8 rfl Try.ntmps8 rfl rfl ?_
  intro R5 rt6
  refine G.seq ?_
  refine G.region (l := [0, 1, 2, 3]) rfl ?_
  refine G.box (dk := (Kd.int .i64)) (y := a0) rfl rfl rfl rfl ⟨([.int .i64 a0] : List Value), rfl, rfl⟩ ?_
  intro g596
  refine G.box (dk := (Kd.int .i64)) (y := a1) rfl rfl rfl rfl ⟨([.int .i64 a1] : List Value), rfl, rfl⟩ ?_
  intro g598
  refine G.assign rfl rfl rfl rfl ?_
  refine G.assign rfl rfl rfl rfl ?_
  refine G.regionEnd ?_
  refine G.seq ?_
  refine G.region (l := [0, 1]) rfl ?_
  refine G.makeFunc (fs := []) (cs := [.pointer (some ⟨g596, 0, none⟩), .pointer (some ⟨g598, 0, none⟩)]) rfl rfl rfl rfl rfl ?_
  refine G.assign rfl rfl rfl rfl ?_
  refine G.regionEnd ?_
  refine G.seq ?_
  refine G.seq ?_
  refine G.region (l := [0, 1, 2, 3, 4, 5, 6, 7, 8, 9, 10, 11, 12, 13, 14, 15]) rfl ?_
  refine G.loadI (y := a0) rfl rfl rfl rfl ty3 (fun w hs => Rd.bk (Lens.id _ _) hs (j := 1) rfl) ?_
  refine G.cmp (a0 < 0) rfl rfl rfl rfl rfl rfl Iff.rfl ?_
  refine G.move rfl rfl rfl rfl ?_
  refine G.splitP (d := 15) rfl (fun k968 => ?_) (fun k968 => ?_)
  · replace h := ifT h k968
    refine G.unwanted rfl rfl rfl rfl ?_
    refine G.unwanted rfl rfl rfl rfl ?_
    refine G.unwanted rfl rfl rfl rfl ?_
    refine G.pickT rfl rfl rfl rfl rfl ?_
    refine G.move rfl rfl rfl rfl ?_
    refine G.unwanted rfl rfl rfl rfl ?_
    refine G.unwanted rfl rfl rfl rfl ?_
    refine G.pickT rfl rfl rfl rfl rfl ?_
    refine G.move rfl rfl rfl rfl ?_
    refine G.unwanted rfl rfl rfl rfl ?_
    refine G.unwanted rfl rfl rfl rfl ?_
    refine G.unwanted rfl rfl rfl rfl ?_
    refine G.pickT rfl rfl rfl rfl rfl ?_
    refine G.regionEnd ?_
    refine G.condT rfl ?_
    refine G.seq ?_
    refine G.region (l := [0, 1]) rfl ?_
    refine G.assign rfl rfl rfl rfl ?_
    refine G.assign rfl rfl rfl rfl ?_
    refine G.regionEnd ?_
    refine G.retN (rs := [.tmp 6, .tmp 7]) Try.func8 rfl rfl rfl (rt6 _ _ _ ?_)
    refine G.move rfl rfl rfl rfl ?_
    refine G.extract rfl rfl rfl rfl rfl ?_
    refine G.extract rfl rfl rfl rfl rfl ?_
    refine G.assign rfl rfl rfl rfl ?_
    refine G.assign rfl rfl rfl rfl ?_
    refine G.regionEnd ?_
    refine G.seq ?_
    refine G.seq ?_
    refine G.region (l := [0, 1]) rfl ?_
    refine G.move rfl rfl rfl rfl ?_
    refine G.eqPtr (a := none) (b := none) (r := true) rfl rfl rfl rfl rfl Try.underlying24 (by simp) ?_
    refine G.regionEnd ?_
    refine G.condT rfl ?_
    refine G.seq ?_
    refine G.region (l := [0, 1, 2, 3, 4, 5]) rfl ?_
    refine G.move rfl rfl rfl rfl ?_
    refine G.move rfl rfl rfl rfl ?_
    refine G.splitB (d := 28) rfl (fun k601 => ?_) (fun k601 => ?_)
    · replace h := ifT h k601
      refine G.move rfl rfl rfl rfl ?_
      refine G.cmp (True) rfl rfl rfl rfl rfl rfl (by simp [cmpP]) ?_
      refine G.pickT rfl rfl rfl rfl rfl ?_
      refine G.assign rfl rfl rfl rfl ?_
      refine G.regionEnd ?_
      refine G.drop ?_
      refine G.drop ?_
      obtain rfl := Option.some.inj h
      exact G.ret1 Try.func4 rfl rfl (fun w hs => ⟨_, _, rfl, ⟨rfl, rfl⟩, hs⟩)
    · replace h := ifFB h k601
      refine G.unwanted rfl rfl rfl rfl ?_
      refine G.unwanted rfl rfl rfl rfl ?_
      refine G.pickF rfl rfl rfl rfl rfl ?_
      refine G.assign rfl rfl rfl rfl ?_
      refine G.regionEnd ?_
      refine G.drop ?_
      refine G.drop ?_
      obtain rfl := Option.some.inj h
      exact G.ret1 Try.func4 rfl rfl (fun w hs => ⟨_, _, rfl, ⟨rfl, rfl⟩, hs⟩)
  · replace h := ifF h k968
    refine G.loadI (y := a1) rfl rfl rfl rfl ty3 (fun w hs => Rd.bk (Lens.id _ _) hs (j := 0) rfl) ?_
    refine G.loadI (y := a0) rfl rfl rfl rfl ty3 (fun w hs => Rd.bk (Lens.id _ _) hs (j := 1) rfl) ?_
    refine G.cmp (a1 ≤ a0) rfl rfl rfl rfl rfl rfl Iff.rfl ?_
    refine G.pickF rfl rfl rfl rfl rfl ?_
    refine G.move rfl rfl rfl rfl ?_
    refine G.splitP (d := 20) rfl (fun k967 => ?_) (fun k967 => ?_)
    · replace h := ifT h k967
      refine G.unwanted rfl rfl rfl rfl ?_
      refine G.unwanted rfl rfl rfl rfl ?_
      refine G.pickT rfl rfl rfl rfl rfl ?_
      refine G.move rfl rfl rfl rfl ?_
      refine G.unwanted rfl rfl rfl rfl ?_
      refine G.unwanted rfl rfl rfl rfl ?_
      refine G.unwanted rfl rfl rfl rfl ?_
      refine G.pickT rfl rfl rfl rfl rfl ?_
      refine G.regionEnd ?_
      refine G.condT rfl ?_
      refine G.seq ?_
      refine G.region (l := [0, 1]) rfl ?_
      refine G.assign rfl rfl rfl rfl ?_
      refine G.assign rfl rfl rfl rfl ?_
      refine G.regionEnd ?_
      refine G.retN (rs := [.tmp 6, .tmp 7]) Try.func8 rfl rfl rfl (rt6 _ _ _ ?_)
      refine G.move rfl rfl rfl rfl ?_
      refine G.extract rfl rfl rfl rfl rfl ?_
      refine G.extract rfl rfl rfl rfl rfl ?_
      refine G.assign rfl rfl rfl rfl ?_
      refine G.assign rfl rfl rfl rfl ?_
      refine G.regionEnd ?_
      refine G.seq ?_
      refine G.seq ?_
      refine G.region (l := [0, 1]) rfl ?_
      refine G.move rfl rfl rfl rfl ?_
      refine G.eqPtr (a := none) (b := none) (r := true) rfl rfl rfl rfl rfl Try.underlying24 (by simp) ?_
      refine G.regionEnd ?_
      refine G.condT rfl ?_
      refine G.seq ?_
      refine G.region (l := [0, 1, 2, 3, 4, 5]) rfl ?_
      refine G.move rfl rfl rfl rfl ?_
      refine G.move rfl rfl rfl rfl ?_
      refine G.splitB (d := 28) rfl (fun k603 => ?_) (fun k603 => ?_)
      · replace h := ifT h k603
        refine G.move rfl rfl rfl rfl ?_
        refine G.cmp (True) rfl rfl rfl rfl rfl rfl (by simp [cmpP]) ?_
        refine G.pickT rfl rfl rfl rfl rfl ?_
        refine G.assign rfl rfl rfl rfl ?_
        refine G.regionEnd ?_
        refine G.drop ?_
        refine G.drop ?_
        obtain rfl := Option.some.inj h
        exact G.ret1 Try.func4 rfl rfl (fun w hs => ⟨_, _, rfl, ⟨rfl, rfl⟩, hs⟩)
      · replace h := ifFB h k603
        refine G.unwanted rfl rfl rfl rfl ?_
        refine G.unwanted rfl rfl rfl rfl ?_
        refine G.pickF rfl rfl rfl rfl rfl ?_
        refine G.assign rfl rfl rfl rfl ?_
        refine G.regionEnd ?_
        refine G.drop ?_
        refine G.drop ?_
        obtain rfl := Option.some.inj h
        exact G.ret1 Try.func4 rfl rfl (fun w hs => ⟨_, _, rfl, ⟨rfl, rfl⟩, hs⟩)
    · replace h := ifF h k967
      refine G.loadI (y := a1) rfl rfl rfl rfl ty3 (fun w hs => Rd.bk (Lens.id _ _) hs (j := 0) rfl) ?_
      refine G.cmp (1024 < a1) rfl rfl rfl rfl rfl rfl Iff.rfl ?_
      refine G.pickF rfl rfl rfl rfl rfl ?_
      refine G.move rfl rfl rfl rfl ?_
      refine G.rest (l1 := [12, 13, 14, 15]) (l2 := []) (fun GG K => ∀ (b705 : Bool), armoirelaw06_FreeRuns.j1 a0 a1 a2 a3 t1 b705 = some r → GG H [(2, .slice A2 a2.length n2), (3, .pointer (some ⟨g596, 0, none⟩)), (4, .pointer (some ⟨g598, 0, none⟩)), (28, .bool b705)] (BK 3 (Kd.int .i64) g596 a0 :: BK 3 (Kd.int .i64) g598 a1 :: Fr) K) ?_ ?_
      · intro b705 h
        unfold armoirelaw06_FreeRuns.j1 at h
        refine G.regionEnd ?_
        refine G.cond rfl (fun k783 => ?_) (fun k783 => ?_)
        · replace h := ifT h k783
          refine G.seq ?_
          refine G.region (l := [0, 1]) rfl ?_
          refine G.assign rfl rfl rfl rfl ?_
          refine G.assign rfl rfl rfl rfl ?_
          refine G.regionEnd ?_
          refine G.retN (rs := [.tmp 6, .tmp 7]) Try.func8 rfl rfl rfl (rt6 _ _ _ ?_)
          refine G.move rfl rfl rfl rfl ?_
          refine G.extract rfl rfl rfl rfl rfl ?_
          refine G.extract rfl rfl rfl rfl rfl ?_
          refine G.assign rfl rfl rfl rfl ?_
          refine G.assign rfl rfl rfl rfl ?_
          refine G.regionEnd ?_
          refine G.seq ?_
          refine G.seq ?_
          refine G.region (l := [0, 1]) rfl ?_
          refine G.move rfl rfl rfl rfl ?_
          refine G.eqPtr (a := none) (b := none) (r := true) rfl rfl rfl rfl rfl Try.underlying24 (by simp) ?_
          refine G.regionEnd ?_
          refine G.condT rfl ?_
          refine G.seq ?_
          refine G.region (l := [0, 1, 2, 3, 4, 5]) rfl ?_
          refine G.move rfl rfl rfl rfl ?_
          refine G.move rfl rfl rfl rfl ?_
          refine G.splitB (d := 28) rfl (fun k709 => ?_) (fun k709 => ?_)
          · replace h := ifT h k709
            refine G.move rfl rfl rfl rfl ?_
            refine G.cmp (True) rfl rfl rfl rfl rfl rfl (by simp [cmpP]) ?_
            refine G.pickT rfl rfl rfl rfl rfl ?_
            refine G.assign rfl rfl rfl rfl ?_
            refine G.regionEnd ?_
            refine G.drop ?_
            refine G.drop ?_
            obtain rfl := Option.some.inj h
            exact G.ret1 Try.func4 rfl rfl (fun w hs => ⟨_, _, rfl, ⟨rfl, rfl⟩, hs⟩)
          · replace h := ifFB h k709
            refine G.unwanted rfl rfl rfl rfl ?_
            refine G.unwanted rfl rfl rfl rfl ?_
            refine G.pickF rfl rfl rfl rfl rfl ?_
            refine G.assign rfl rfl rfl rfl ?_
            refine G.regionEnd ?_
            refine G.drop ?_
            refine G.drop ?_
            obtain rfl := Option.some.inj h
            exact G.ret1 Try.func4 rfl rfl (fun w hs => ⟨_, _, rfl, ⟨rfl, rfl⟩, hs⟩)
        · replace h := ifFB h k783
          refine G.skip ?_
          refine G.seq ?_
          obtain ⟨k712, h⟩ := guardS h
          refine G.draw armoirelaw06_FreeRuns.ds8_4 8 [0, 1, 2, 3, 4, 5, 6, 7] [0, 0, 0, 1, 2, 3, 4, 5] [0, 0, 0, 1, 2, 3, 4, 5] rfl (by kernel_rfl) (by kernel_rfl) (by kernel_rfl) (by kernel_rfl) ?_
          intro C780 ops781 k782
          have d14 : ∀ (B710 : Option Addr) (g713 : Nat) (l : List Nat), Ord armoirelaw06_FreeRuns.ds8_4 0 [true, true, true, true, true, true, true, true] l → G C780 H [(2, .slice A2 a2.length n2), (3, .pointer (some ⟨g596, 0, none⟩)), (9, .pointer (some ⟨g713, 0, none⟩))] (BK 53 K_R_free_Map g713 (R_free_Map.mk a0 (B710, (List.replicate ((wi64 (a1 - a0)).toNat) 0 : List UInt8).length, ((wi64 (a1 - a0)).toNat))) :: OS 54 Kd.u8 B710 ((wi64 (a1 - a0)).toNat) (List.replicate ((wi64 (a1 - a0)).toNat) 0 : List UInt8) :: BK 3 (Kd.int .i64) g596 a0 :: BK 3 (Kd.int .i64) g598 a1 :: Fr) (.inRegion ops781 l :: k782) := by
            intro B710 g713 l hl
            refine G.drawnAll hl ?_
            refine G.regionEnd ?_
            refine G.seq ?_
            refine G.seq ?_
            refine G.region (l := [0, 1, 2]) rfl ?_
            refine G.move rfl rfl rfl rfl ?_
            refine G.len (m := a2.length) rfl rfl rfl rfl Try.underlying28 ?_
            refine G.move rfl rfl rfl rfl ?_
            refine G.regionEnd ?_
            refine G.block ?_
            refine G.loop (fun GG K => ∀ (d745 : Nat) (x729 : (List UInt8)) (x730 : Int), armoirelaw06_FreeRuns.l1 a0 a2 a3 t1 d745 x729 x730 = some r → GG H [(3, .pointer (some ⟨g596, 0, none⟩)), (9, .pointer (some ⟨g713, 0, none⟩)), (36, .slice A2 a2.length n2), (37, .int .i64 (a2.length : Int)), (38, .int .i64 x730)] (BK 3 (Kd.int .i64) g596 a0 :: OS 54 Kd.u8 B710 ((wi64 (a1 - a0)).toNat) x729 :: BK 53 K_R_free_Map g713 (R_free_Map.mk a0 (B710, x729.length, ((wi64 (a1 - a0)).toNat))) :: Fr) K) ?_ ?_
            · intro d745
              induction d745 with
              | zero => intro x729 x730 h; rw [armoirelaw06_FreeRuns.l1] at h; cases h
              | succ d745 ih744 =>
                intro x729 x730 h
                rw [armoirelaw06_FreeRuns.l1] at h
                refine G.seq ?_
                refine G.region (l := [0]) rfl ?_
                refine G.cmp (x730 < (a2.length : Int)) rfl rfl rfl rfl rfl rfl Iff.rfl ?_
                refine G.regionEnd ?_
                refine G.seq ?_
                refine G.condP rfl (fun k770 => ?_) (fun k770 => ?_)
                · replace h := ifT h k770
                  refine G.skip ?_
                  refine G.seq ?_
                  refine G.block ?_
                  refine G.seq ?_
                  refine G.region (l := [0, 1, 2]) rfl ?_
                  obtain ⟨k749, h⟩ := guardS h
                  refine G.indexR (xs := a2) (j := x730) 0 rfl rfl rfl rfl rfl el28 F2 k749 ?_
                  intro a747 f748
                  refine G.loadI (y := a2.getD x730.toNat 0) rfl rfl rfl rfl ty3 (fun w hs => Rd.ro f748 hs) ?_
                  refine G.assign rfl rfl rfl rfl ?_
                  refine G.regionEnd ?_
                  refine G.seq ?_
                  refine G.seq ?_
                  obtain ⟨k751, h⟩ := guardS h
                  have q750 : (wi64 ((a2.getD x730.toNat 0) - a0)).toNat < x729.length := by omega
                  refine G.draw [[], [0], [1], [2], [], [], [4, 5], [3, 6], [7], [8]] 10 [0, 1, 2, 3, 4, 5, 6, 7, 8, 9] [0, 1, 2, 3, 0, 0, 1, 4, 5, 6] [0, 1, 2, 3, 0, 0, 1, 4, 5, 6] rfl (by kernel_rfl) (by kernel_rfl) (by kernel_rfl) (by kernel_rfl) ?_
                  intro C765 ops766 k767
                  let R768 : Reg := armoirelaw06_FreeRuns.reg8_8 [(3, .pointer (some ⟨g596, 0, none⟩)), (9, .pointer (some ⟨g713, 0, none⟩)), (11, .int .i64 (a2.getD x730.toNat 0)), (36, .slice A2 a2.length n2), (37, .int .i64 (a2.length : Int)), (38, .int .i64 x730)]
                  have P769 : ∀ (m : Nat) (L : List Bool) (A : List (Nat × Value)) (l : List Nat), L.length = R768.ds.length → R768.Phi [some (.pointer (some ⟨g713, 0, none⟩)), some (.pointer (some ⟨g713, 0, none⟩)), some (.pointer (some ⟨g713, 1, none⟩)), some (.slice B710 x729.length ((wi64 (a1 - a0)).toNat)), some (.int .i64 (a2.getD x730.toNat 0)), some (.int .i64 a0), some (.int .i64 (wi64 ((a2.getD x730.toNat 0) - a0))), some (.pointer (some (plc B710 ((wi64 ((a2.getD x730.toNat 0) - a0)).toNat * 1)))), some (u8V (x729.getD ((wi64 ((a2.getD x730.toNat 0) - a0)).toNat) 0)), some (.bool (decide ((x729.getD ((wi64 ((a2.getD x730.toNat 0) - a0)).toNat) 0) ≠ 0)))] [] [] L A → left L = m → Ord R768.ds m L l → G C765 H A (BK 3 (Kd.int .i64) g596 a0 :: OS 54 Kd.u8 B710 ((wi64 (a1 - a0)).toNat) x729 :: BK 53 K_R_free_Map g713 (R_free_Map.mk a0 (B710, x729.length, ((wi64 (a1 - a0)).toNat))) :: Fr) (.inRegion ops766 l :: k767) := by
                    refine G.phase R768 [some (.pointer (some ⟨g713, 0, none⟩)), some (.pointer (some ⟨g713, 0, none⟩)), some (.pointer (some ⟨g713, 1, none⟩)), some (.slice B710 x729.length ((wi64 (a1 - a0)).toNat)), some (.int .i64 (a2.getD x730.toNat 0)), some (.int .i64 a0), some (.int .i64 (wi64 ((a2.getD x730.toNat 0) - a0))), some (.pointer (some (plc B710 ((wi64 ((a2.getD x730.toNat 0) - a0)).toNat * 1)))), some (u8V (x729.getD ((wi64 ((a2.getD x730.toNat 0) - a0)).toNat) 0)), some (.bool (decide ((x729.getD ((wi64 ((a2.getD x730.toNat 0) - a0)).toNat) 0) ≠ 0)))] [0, 1, 2, 3, 4, 5, 6, 7, 8, 9] [] [] [] (armoirelaw06_FreeRuns.reg8_8_ap _) rfl rfl ⟨⟨[.base 9], 42, .pointer (some ⟨g713, 0, none⟩), [(9, .pointer (some ⟨g713, 0, none⟩))], ⟨rfl, rfl, rfl, rfl, ?_⟩⟩, ⟨⟨[.op 0], 43, .pointer (some ⟨g713, 0, none⟩), [(42, .pointer (some ⟨g713, 0, none⟩))], ⟨rfl, rfl, rfl, rfl, ?_⟩⟩, ⟨⟨[.op 1], 44, .pointer (some ⟨g713, 1, none⟩), [(43, .pointer (some ⟨g713, 0, none⟩))], ⟨rfl, rfl, rfl, rfl, ?_⟩⟩, ⟨⟨[.op 2], 45, .slice B710 x729.length ((wi64 (a1 - a0)).toNat), [(44, .pointer (some ⟨g713, 1, none⟩))], ⟨rfl, rfl, rfl, rfl, ?_⟩⟩, ⟨⟨[.base 11], 46, .int .i64 (a2.getD x730.toNat 0), [(11, .int .i64 (a2.getD x730.toNat 0))], ⟨rfl, rfl, rfl, rfl, ?_⟩⟩, ⟨⟨[.base 3], 47, .int .i64 a0, [(3, .pointer (some ⟨g596, 0, none⟩))], ⟨rfl, rfl, rfl, rfl, ?_⟩⟩, ⟨⟨[.op 4, .op 5], 48, .int .i64 (wi64 ((a2.getD x730.toNat 0) - a0)), [(46, .int .i64 (a2.getD x730.toNat 0)), (47, .int .i64 a0)], ⟨rfl, rfl, rfl, rfl, ?_⟩⟩, ⟨⟨[.op 3, .op 6], 49, .pointer (some (plc B710 ((wi64 ((a2.getD x730.toNat 0) - a0)).toNat * 1))), [(45, .slice B710 x729.length ((wi64 (a1 - a0)).toNat)), (48, .int .i64 (wi64 ((a2.getD x730.toNat 0) - a0)))], ⟨rfl, rfl, rfl, rfl, ?_⟩⟩, ⟨⟨[.op 7], 50, u8V (x729.getD ((wi64 ((a2.getD x730.toNat 0) - a0)).toNat) 0), [(49, .pointer (some (plc B710 ((wi64 ((a2.getD x730.toNat 0) - a0)).toNat * 1))))], ⟨rfl, rfl, rfl, rfl, ?_⟩⟩, ⟨⟨[.op 8], 51, .bool (decide ((x729.getD ((wi64 ((a2.getD x730.toNat 0) - a0)).toNat) 0) ≠ 0)), [(50, u8V (x729.getD ((wi64 ((a2.getD x730.toNat 0) - a0)).toNat) 0))], ⟨rfl, rfl, rfl, rfl, ?_⟩⟩, trivial⟩⟩⟩⟩⟩⟩⟩⟩⟩⟩ trivial ?_
                    · intro X rest g
                      refine G.move rfl rfl rfl rfl ?_
                      exact g
                    · intro X rest g
                      refine G.nilCheck rfl rfl rfl rfl ?_
                      exact g
                    · intro X rest g
                      refine G.field (off' := 1) rfl rfl rfl rfl Try.underlying53 rfl sz51 rfl rfl ?_
                      exact g
                    · intro X rest g
                      refine G.loadH (B := B710) (m := x729.length) (c := ((wi64 (a1 - a0)).toNat)) rfl rfl rfl rfl ty51r (fun w hs => Rd.bk (R_free_Map.L_kinds _) hs (j := 2) rfl) ?_
                      exact g
                    · intro X rest g
                      refine G.move rfl rfl rfl rfl ?_
                      exact g
                    · intro X rest g
                      refine G.loadI (y := a0) rfl rfl rfl rfl ty3 (fun w hs => Rd.bk (Lens.id _ _) hs (j := 0) rfl) ?_
                      exact g
                    · intro X rest g
                      refine G.bin (m := a2.getD x730.toNat 0) (n := a0) (r := wi64 ((a2.getD x730.toNat 0) - a0)) rfl rfl rfl rfl rfl rfl rfl ?_
                      exact g
                    · intro X rest g
                      refine G.indexO (xs := x729) (j := wi64 ((a2.getD x730.toNat 0) - a0)) (off := (wi64 ((a2.getD x730.toNat 0) - a0)).toNat * 1) rfl rfl rfl rfl rfl el51 (r := 1) rfl (by simp) k751 rfl ?_
                      exact g
                    · intro X rest g
                      refine G.load8 (y := x729.getD ((wi64 ((a2.getD x730.toNat 0) - a0)).toNat) 0) rfl rfl rfl rfl ty54 (fun w hs => Rd.osG q750 (Lens.id _ _) hs (j := 1) rfl (o := (wi64 ((a2.getD x730.toNat 0) - a0)).toNat * 1) (by first | rfl | simp)) ?_
                      exact g
                    · intro X rest g
                      refine G.cmp ((x729.getD ((wi64 ((a2.getD x730.toNat 0) - a0)).toNat) 0) ≠ 0) rfl rfl rfl rfl rfl rfl (c8_neq (x729.getD ((wi64 ((a2.getD x730.toNat 0) - a0)).toNat) 0) 0) ?_
                      exact g
                    · intro A L hlen hp h0
                      refine G.lessSub (B := [(3, .pointer (some ⟨g596, 0, none⟩)), (9, .pointer (some ⟨g713, 0, none⟩)), (11, .int .i64 (a2.getD x730.toNat 0)), (36, .slice A2 a2.length n2), (37, .int .i64 (a2.length : Int)), (38, .int .i64 x730), (51, .bool (decide ((x729.getD ((wi64 ((a2.getD x730.toNat 0) - a0)).toNat) 0) ≠ 0)))]) (hp.fin hlen h0 (src := [.base 3, .base 9, .base 11, .base 36, .base 37, .base 38, .op 9]) rfl) ?_
                      refine G.regionEnd ?_
                      refine G.condP rfl (fun k764 => ?_) (fun k764 => ?_)
                      · replace h := ifT h k764
                        refine G.seq ?_
                        refine G.region (l := [0, 1]) rfl ?_
                        refine G.assign rfl rfl rfl rfl ?_
                        refine G.assign rfl rfl rfl rfl ?_
                        refine G.regionEnd ?_
                        refine G.retN (rs := [.tmp 6, .tmp 7]) Try.func8 rfl rfl rfl (rt6 _ _ _ ?_)
                        refine G.move rfl rfl rfl rfl ?_
                        refine G.extract rfl rfl rfl rfl rfl ?_
                        refine G.extract rfl rfl rfl rfl rfl ?_
                        refine G.assign rfl rfl rfl rfl ?_
                        refine G.assign rfl rfl rfl rfl ?_
                        refine G.regionEnd ?_
                        refine G.seq ?_
                        refine G.seq ?_
                        refine G.region (l := [0, 1]) rfl ?_
                        refine G.move rfl rfl rfl rfl ?_
                        refine G.eqPtr (a := none) (b := none) (r := true) rfl rfl rfl rfl rfl Try.underlying24 (by simp) ?_
                        refine G.regionEnd ?_
                        refine G.condT rfl ?_
                        refine G.seq ?_
                        refine G.region (l := [0, 1, 2, 3, 4, 5]) rfl ?_
                        refine G.move rfl rfl rfl rfl ?_
                        refine G.move rfl rfl rfl rfl ?_
                        refine G.splitB (d := 28) rfl (fun k755 => ?_) (fun k755 => ?_)
                        · replace h := ifT h k755
                          refine G.move rfl rfl rfl rfl ?_
                          refine G.cmp (True) rfl rfl rfl rfl rfl rfl (by simp [cmpP]) ?_
                          refine G.pickT rfl rfl rfl rfl rfl ?_
                          refine G.assign rfl rfl rfl rfl ?_
                          refine G.regionEnd ?_
                          refine G.drop ?_
                          refine G.drop ?_
                          refine G.drop ?_
                          obtain rfl := Option.some.inj h
                          exact G.ret1 Try.func4 rfl rfl (fun w hs => ⟨_, _, rfl, ⟨rfl, rfl⟩, hs⟩)
                        · replace h := ifFB h k755
                          refine G.unwanted rfl rfl rfl rfl ?_
                          refine G.unwanted rfl rfl rfl rfl ?_
                          refine G.pickF rfl rfl rfl rfl rfl ?_
                          refine G.assign rfl rfl rfl rfl ?_
                          refine G.regionEnd ?_
                          refine G.drop ?_
                          refine G.drop ?_
                          refine G.drop ?_
                          obtain rfl := Option.some.inj h
                          exact G.ret1 Try.func4 rfl rfl (fun w hs => ⟨_, _, rfl, ⟨rfl, rfl⟩, hs⟩)
                      · replace h := ifF h k764
                        refine G.skip ?_
                        obtain ⟨k757, h⟩ := guardS h
                        have q756 : (wi64 ((a2.getD x730.toNat 0) - a0)).toNat < x729.length := by omega
                        refine G.draw [[], [0], [1], [2], [], [], [4, 5], [3, 6, 0, 1, 2, 3, 4, 5, 6], [7, 0, 1, 2, 3, 4, 5, 6]] 9 [0, 1, 2, 3, 4, 5, 6, 7, 8] [0, 1, 2, 3, 0, 0, 1, 4, 5] [0, 1, 2, 3, 0, 0, 1, 4, 5] rfl (by kernel_rfl) (by kernel_rfl) (by kernel_rfl) (by kernel_rfl) ?_
                        intro C758 ops759 k760
                        let R761 : Reg := armoirelaw06_FreeRuns.reg8_10 [(3, .pointer (some ⟨g596, 0, none⟩)), (9, .pointer (some ⟨g713, 0, none⟩)), (11, .int .i64 (a2.getD x730.toNat 0)), (36, .slice A2 a2.length n2), (37, .int .i64 (a2.length : Int)), (38, .int .i64 x730)]
                        have P763 : ∀ (m : Nat) (L : List Bool) (A : List (Nat × Value)) (l : List Nat), L.length = R761.ds.length → R761.Phi [some (.pointer (some ⟨g713, 0, none⟩)), some (.pointer (some ⟨g713, 0, none⟩)), some (.pointer (some ⟨g713, 1, none⟩)), some (.slice B710 x729.length ((wi64 (a1 - a0)).toNat)), some (.int .i64 (a2.getD x730.toNat 0)), some (.int .i64 a0), some (.int .i64 (wi64 ((a2.getD x730.toNat 0) - a0))), some (.pointer (some (plc B710 ((wi64 ((a2.getD x730.toNat 0) - a0)).toNat * 1)))), none] [0, 1, 2, 3, 4, 5, 6, 7, 8] [] L A → left L = m → Ord R761.ds m L l → G C758 H A (OS 54 Kd.u8 B710 ((wi64 (a1 - a0)).toNat) (x729.set ((wi64 ((a2.getD x730.toNat 0) - a0)).toNat) 1) :: BK 3 (Kd.int .i64) g596 a0 :: BK 53 K_R_free_Map g713 (R_free_Map.mk a0 (B710, x729.length, ((wi64 (a1 - a0)).toNat))) :: Fr) (.inRegion ops759 l :: k760) := by
                          refine G.phase R761 [some (.pointer (some ⟨g713, 0, none⟩)), some (.pointer (some ⟨g713, 0, none⟩)), some (.pointer (some ⟨g713, 1, none⟩)), some (.slice B710 x729.length ((wi64 (a1 - a0)).toNat)), some (.int .i64 (a2.getD x730.toNat 0)), some (.int .i64 a0), some (.int .i64 (wi64 ((a2.getD x730.toNat 0) - a0))), some (.pointer (some (plc B710 ((wi64 ((a2.getD x730.toNat 0) - a0)).toNat * 1)))), none] [] [] [0, 1, 2, 3, 4, 5, 6, 7, 8] [] (armoirelaw06_FreeRuns.reg8_10_ap _) rfl rfl trivial trivial ?_
                          · intro A L hlen hp h0
                            refine G.lessSub (B := [(3, .pointer (some ⟨g596, 0, none⟩)), (9, .pointer (some ⟨g713, 0, none⟩)), (36, .slice A2 a2.length n2), (37, .int .i64 (a2.length : Int)), (38, .int .i64 x730)]) (hp.fin hlen h0 (src := [.base 3, .base 9, .base 36, .base 37, .base 38]) rfl) ?_
                            refine G.regionEnd ?_
                            refine G.inBlock ?_
                            refine G.region (l := [0, 1]) rfl ?_
                            refine G.bin (m := x730) (n := 1) (r := wi64 (x730 + 1)) rfl rfl rfl rfl rfl rfl rfl ?_
                            refine G.move rfl rfl rfl rfl ?_
                            refine G.regionEnd ?_
                            refine G.round ?_
                            refine G.frontAt 2 rfl ?_
                            refine G.headEq (r' := BK 53 K_R_free_Map g713 (R_free_Map.mk a0 (B710, (x729.set ((wi64 ((a2.getD x730.toNat 0) - a0)).toNat) 1).length, ((wi64 (a1 - a0)).toNat)))) (by first | (simp; done) | (simp; omega)) ?_
                            refine G.frontAt 1 rfl ?_
                            refine G.frontAt 2 rfl ?_
                            refine G.less ?_ (ih744  (x729.set ((wi64 ((a2.getD x730.toNat 0) - a0)).toNat) 1) (wi64 (x730 + 1)) h)
                            exact ⟨rfl, rfl, rfl, rfl, rfl, trivial⟩
                        have P762 : ∀ (m : Nat) (L : List Bool) (A : List (Nat × Value)) (l : List Nat), L.length = R761.ds.length → R761.Phi [some (.pointer (some ⟨g713, 0, none⟩)), some (.pointer (some ⟨g713, 0, none⟩)), some (.pointer (some ⟨g713, 1, none⟩)), some (.slice B710 x729.length ((wi64 (a1 - a0)).toNat)), some (.int .i64 (a2.getD x730.toNat 0)), some (.int .i64 a0), some (.int .i64 (wi64 ((a2.getD x730.toNat 0) - a0))), some (.pointer (some (plc B710 ((wi64 ((a2.getD x730.toNat 0) - a0)).toNat * 1)))), none] [] [8] L A → left L = m → Ord R761.ds m L l → G C758 H A (BK 3 (Kd.int .i64) g596 a0 :: OS 54 Kd.u8 B710 ((wi64 (a1 - a0)).toNat) x729 :: BK 53 K_R_free_Map g713 (R_free_Map.mk a0 (B710, x729.length, ((wi64 (a1 - a0)).toNat))) :: Fr) (.inRegion ops759 l :: k760) := by
                          refine G.phase R761 [some (.pointer (some ⟨g713, 0, none⟩)), some (.pointer (some ⟨g713, 0, none⟩)), some (.pointer (some ⟨g713, 1, none⟩)), some (.slice B710 x729.length ((wi64 (a1 - a0)).toNat)), some (.int .i64 (a2.getD x730.toNat 0)), some (.int .i64 a0), some (.int .i64 (wi64 ((a2.getD x730.toNat 0) - a0))), some (.pointer (some (plc B710 ((wi64 ((a2.getD x730.toNat 0) - a0)).toNat * 1)))), none] [0, 1, 2, 3, 4, 5, 6, 7] [8] [] [8] (armoirelaw06_FreeRuns.reg8_10_ap _) rfl rfl ⟨⟨[.base 9], 52, .pointer (some ⟨g713, 0, none⟩), [(9, .pointer (some ⟨g713, 0, none⟩))], ⟨rfl, rfl, rfl, rfl, ?_⟩⟩, ⟨⟨[.op 0], 53, .pointer (some ⟨g713, 0, none⟩), [(52, .pointer (some ⟨g713, 0, none⟩))], ⟨rfl, rfl, rfl, rfl, ?_⟩⟩, ⟨⟨[.op 1], 54, .pointer (some ⟨g713, 1, none⟩), [(53, .pointer (some ⟨g713, 0, none⟩))], ⟨rfl, rfl, rfl, rfl, ?_⟩⟩, ⟨⟨[.op 2], 55, .slice B710 x729.length ((wi64 (a1 - a0)).toNat), [(54, .pointer (some ⟨g713, 1, none⟩))], ⟨rfl, rfl, rfl, rfl, ?_⟩⟩, ⟨⟨[.base 11], 56, .int .i64 (a2.getD x730.toNat 0), [(11, .int .i64 (a2.getD x730.toNat 0))], ⟨rfl, rfl, rfl, rfl, ?_⟩⟩, ⟨⟨[.base 3], 57, .int .i64 a0, [(3, .pointer (some ⟨g596, 0, none⟩))], ⟨rfl, rfl, rfl, rfl, ?_⟩⟩, ⟨⟨[.op 4, .op 5], 58, .int .i64 (wi64 ((a2.getD x730.toNat 0) - a0)), [(56, .int .i64 (a2.getD x730.toNat 0)), (57, .int .i64 a0)], ⟨rfl, rfl, rfl, rfl, ?_⟩⟩, ⟨⟨[.op 3, .op 6], 59, .pointer (some (plc B710 ((wi64 ((a2.getD x730.toNat 0) - a0)).toNat * 1))), [(55, .slice B710 x729.length ((wi64 (a1 - a0)).toNat)), (58, .int .i64 (wi64 ((a2.getD x730.toNat 0) - a0)))], ⟨rfl, rfl, rfl, rfl, ?_⟩⟩, trivial⟩⟩⟩⟩⟩⟩⟩⟩ ⟨⟨[.op 7], [(59, .pointer (some (plc B710 ((wi64 ((a2.getD x730.toNat 0) - a0)).toNat * 1))))], ⟨rfl, rfl, ?_⟩⟩, trivial⟩ ?_
                          · intro X rest g
                            refine G.move rfl rfl rfl rfl ?_
                            exact g
                          · intro X rest g
                            refine G.nilCheck rfl rfl rfl rfl ?_
                            exact g
                          · intro X rest g
                            refine G.field (off' := 1) rfl rfl rfl rfl Try.underlying53 rfl sz51 rfl rfl ?_
                            exact g
                          · intro X rest g
                            refine G.loadH (B := B710) (m := x729.length) (c := ((wi64 (a1 - a0)).toNat)) rfl rfl rfl rfl ty51r (fun w hs => Rd.bk (R_free_Map.L_kinds _) hs (j := 2) rfl) ?_
                            exact g
                          · intro X rest g
                            refine G.move rfl rfl rfl rfl ?_
                            exact g
                          · intro X rest g
                            refine G.loadI (y := a0) rfl rfl rfl rfl ty3 (fun w hs => Rd.bk (Lens.id _ _) hs (j := 0) rfl) ?_
                            exact g
                          · intro X rest g
                            refine G.bin (m := a2.getD x730.toNat 0) (n := a0) (r := wi64 ((a2.getD x730.toNat 0) - a0)) rfl rfl rfl rfl rfl rfl rfl ?_
                            exact g
                          · intro X rest g
                            refine G.indexO (xs := x729) (j := wi64 ((a2.getD x730.toNat 0) - a0)) (off := (wi64 ((a2.getD x730.toNat 0) - a0)).toNat * 1) rfl rfl rfl rfl rfl el51 (r := 1) rfl (by simp) k757 rfl ?_
                            exact g
                          · intro X rest L m hlen hp hil hd hs hm ho
                            refine G.frontAt 1 rfl ?_
                            refine G.storeO (df := Kd.u8) (y := 1) (hj := q756) (xs' := x729.set ((wi64 ((a2.getD x730.toNat 0) - a0)).toNat) 1) rfl rfl rfl rfl (Lens.id _ _) (by first | rfl | simp) ⟨([u8V 1] : List Value), rfl, rfl⟩ sz54 rfl ?_
                            refine G.frontAt 2 rfl ?_
                            refine G.frontAt 2 rfl ?_
                            refine G.frontAt 2 rfl ?_
                            exact P763 m _ _ rest (by rw [List.length_set]; exact hlen) (hp.stepN2 1 (armoirelaw06_FreeRuns.reg8_10_ap _) hil hd hs (by repeat (first | exact trivial | refine And.intro rfl ?_)) rfl rfl rfl) hm ho
                          · intro A L hlen hp h0
                            exact (hp.notYet hlen h0 8 rfl rfl).elim
                        intro l hl
                        exact P762 9 (List.replicate 9 false) _ l rfl (Reg.Phi.init 9 ⟨rfl, rfl, rfl, rfl, rfl, rfl, trivial⟩) (left_rep 9) hl
                  intro l hl
                  exact P769 10 (List.replicate 10 false) _ l rfl (Reg.Phi.init 10 ⟨rfl, rfl, rfl, rfl, rfl, rfl, trivial⟩) (left_rep 10) hl
                · replace h := ifF h k770
                  refine G.exit rfl ?_
                  refine G.seq ?_
                  refine G.region (l := [0, 1, 2]) rfl ?_
                  refine G.move rfl rfl rfl rfl ?_
                  refine G.assign rfl rfl rfl rfl ?_
                  refine G.assign rfl rfl rfl rfl ?_
                  refine G.regionEnd ?_
                  refine G.retN (rs := [.tmp 6, .tmp 7]) Try.func8 rfl rfl rfl (rt6 _ _ _ ?_)
                  refine G.drop ?_
                  refine G.frontAt 1 rfl ?_
                  refine G.frontAt 1 rfl ?_
                  refine G.less ?_ (J595  g713 B710 ((wi64 (a1 - a0)).toNat) x729 h)
                  exact ⟨rfl, rfl, rfl, trivial⟩
            intro J771
            refine G.frontAt 3 rfl ?_
            refine G.drop ?_
            refine G.frontAt 1 rfl ?_
            refine G.frontAt 2 rfl ?_
            refine G.less ?_ (J771 FUEL  (List.replicate ((wi64 (a1 - a0)).toNat) 0 : List UInt8) 0 h)
            exact ⟨rfl, rfl, rfl, rfl, rfl, trivial⟩
          have d13 : ∀ (B710 : Option Addr) (g713 : Nat) (l : List Nat), Ord armoirelaw06_FreeRuns.ds8_4 1 [true, true, true, true, true, true, true, false] l → G C780 H [(2, .slice A2 a2.length n2), (3, .pointer (some ⟨g596, 0, none⟩)), (35, .pointer (some ⟨g713, 0, none⟩))] (BK 53 K_R_free_Map g713 (R_free_Map.mk a0 (B710, (List.replicate ((wi64 (a1 - a0)).toNat) 0 : List UInt8).length, ((wi64 (a1 - a0)).toNat))) :: OS 54 Kd.u8 B710 ((wi64 (a1 - a0)).toNat) (List.replicate ((wi64 (a1 - a0)).toNat) 0 : List UInt8) :: BK 3 (Kd.int .i64) g596 a0 :: BK 3 (Kd.int .i64) g598 a1 :: Fr) (.inRegion ops781 l :: k782) := by
            intro B710 g713 l hl
            refine G.fork [7] hl rfl (And.intro ?_ trivial)
            · intro rest ho
              refine G.assign rfl rfl rfl rfl ?_
              refine G.frontAt 3 rfl ?_
              refine G.frontAt 3 rfl ?_
              refine G.frontAt 3 rfl ?_
              refine G.frontAt 3 rfl ?_
              refine G.less ?_ (d14 B710 g713 rest ho)
              exact ⟨rfl, rfl, rfl, trivial⟩
          have d12 : ∀ (B710 : Option Addr) (l : List Nat), Ord armoirelaw06_FreeRuns.ds8_4 2 [true, true, true, true, true, true, false, false] l → G C780 H [(2, .slice A2 a2.length n2), (3, .pointer (some ⟨g596, 0, none⟩)), (34, .agg (([.int .i64 a0] : List Value) ++ (([.slice B710 ((List.replicate ((wi64 (a1 - a0)).toNat) 0 : List UInt8).length) ((wi64 (a1 - a0)).toNat)] : List Value))).toArray)] (OS 54 Kd.u8 B710 ((wi64 (a1 - a0)).toNat) (List.replicate ((wi64 (a1 - a0)).toNat) 0 : List UInt8) :: BK 3 (Kd.int .i64) g596 a0 :: BK 3 (Kd.int .i64) g598 a1 :: Fr) (.inRegion ops781 l :: k782) := by
            intro B710 l hl
            refine G.fork [6] hl rfl (And.intro ?_ trivial)
            · intro rest ho
              refine G.box (dk := K_R_free_Map) (y := (R_free_Map.mk a0 (B710, (List.replicate ((wi64 (a1 - a0)).toNat) 0 : List UInt8).length, ((wi64 (a1 - a0)).toNat)))) rfl rfl rfl rfl (VR.A (cs := ([.int .i64 a0] : List Value) ++ (([.slice B710 ((List.replicate ((wi64 (a1 - a0)).toNat) 0 : List UInt8).length) ((wi64 (a1 - a0)).toNat)] : List Value))) (K_R_free_Map.mk rfl rfl)) ?_
              intro g713
              refine G.frontAt 3 rfl ?_
              refine G.frontAt 3 rfl ?_
              refine G.frontAt 3 rfl ?_
              refine G.frontAt 3 rfl ?_
              refine G.less ?_ (d13 B710 g713 rest ho)
              exact ⟨rfl, rfl, rfl, trivial⟩
          have d11 : ∀ (B710 : Option Addr) (l : List Nat), Ord armoirelaw06_FreeRuns.ds8_4 3 [true, true, true, true, true, false, false, false] l → G C780 H [(2, .slice A2 a2.length n2), (3, .pointer (some ⟨g596, 0, none⟩)), (29, .int .i64 a0), (33, .slice B710 ((wi64 (a1 - a0)).toNat) ((wi64 (a1 - a0)).toNat))] (OS 54 Kd.u8 B710 ((wi64 (a1 - a0)).toNat) (List.replicate ((wi64 (a1 - a0)).toNat) 0 : List UInt8) :: BK 3 (Kd.int .i64) g596 a0 :: BK 3 (Kd.int .i64) g598 a1 :: Fr) (.inRegion ops781 l :: k782) := by
            intro B710 l hl
            refine G.fork [5] hl rfl (And.intro ?_ trivial)
            · intro rest ho
              refine G.same (d := 33) (v := .slice B710 ((List.replicate ((wi64 (a1 - a0)).toNat) 0 : List UInt8).length) ((wi64 (a1 - a0)).toNat)) rfl (by first | (simp; done) | (simp; omega)) ?_
              refine G.build (z := .agg (([.int .i64 0] : List Value) ++ (([.slice none 0 0] : List Value))).toArray) (pl := [(0, 1), (1, 1)]) (cs := ([.int .i64 a0] : List Value) ++ (([.slice B710 ((List.replicate ((wi64 (a1 - a0)).toNat) 0 : List UInt8).length) ((wi64 (a1 - a0)).toNat)] : List Value))) rfl rfl rfl Try.underlying53 (by kernel_rfl) rfl (by kernel_rfl) (by kernel_rfl) rfl ?_
              refine G.frontAt 2 rfl ?_
              refine G.frontAt 2 rfl ?_
              refine G.frontAt 2 rfl ?_
              refine G.less ?_ (d12 B710 rest ho)
              exact ⟨rfl, rfl, rfl, trivial⟩
          have d10 : ∀ (B710 : Option Addr) (l : List Nat), Ord armoirelaw06_FreeRuns.ds8_4 4 [false, true, true, true, true, false, false, false] l → G C780 H [(2, .slice A2 a2.length n2), (3, .pointer (some ⟨g596, 0, none⟩)), (33, .slice B710 ((wi64 (a1 - a0)).toNat) ((wi64 (a1 - a0)).toNat))] (OS 54 Kd.u8 B710 ((wi64 (a1 - a0)).toNat) (List.replicate ((wi64 (a1 - a0)).toNat) 0 : List UInt8) :: BK 3 (Kd.int .i64) g596 a0 :: BK 3 (Kd.int .i64) g598 a1 :: Fr) (.inRegion ops781 l :: k782) := by
            intro B710 l hl
            refine G.fork [0] hl rfl (And.intro ?_ trivial)
            · intro rest ho
              refine G.loadI (y := a0) rfl rfl rfl rfl ty3 (fun w hs => Rd.bk (Lens.id _ _) hs (j := 1) rfl) ?_
              refine G.frontAt 2 rfl ?_
              refine G.frontAt 2 rfl ?_
              refine G.frontAt 2 rfl ?_
              refine G.less ?_ (d11 B710 rest ho)
              exact ⟨rfl, rfl, rfl, rfl, trivial⟩
          have d9 : ∀ (l : List Nat), Ord armoirelaw06_FreeRuns.ds8_4 4 [true, true, true, true, false, false, false, false] l → G C780 H [(2, .slice A2 a2.length n2), (3, .pointer (some ⟨g596, 0, none⟩)), (29, .int .i64 a0), (32, .int .i64 (wi64 (a1 - a0)))] (BK 3 (Kd.int .i64) g596 a0 :: BK 3 (Kd.int .i64) g598 a1 :: Fr) (.inRegion ops781 l :: k782) := by
            intro  l hl
            refine G.fork [4] hl rfl (And.intro ?_ trivial)
            · intro rest ho
              refine G.makeSlice (df := Kd.u8) (z0 := 0) (m := wi64 (a1 - a0)) (c := wi64 (a1 - a0)) (z := .int .u8 0) (cz := ([u8V 0] : List Value)) rfl rfl rfl rfl rfl el51 (by kernel_rfl) rfl (rfl) rfl k712 ?_
              intro B710
              refine G.frontAt 2 rfl ?_
              refine G.frontAt 2 rfl ?_
              refine G.frontAt 2 rfl ?_
              refine G.less ?_ (d11 B710 rest ho)
              exact ⟨rfl, rfl, rfl, rfl, trivial⟩
          have d8 : ∀ (l : List Nat), Ord armoirelaw06_FreeRuns.ds8_4 5 [false, true, true, true, false, false, false, false] l → G C780 H [(2, .slice A2 a2.length n2), (3, .pointer (some ⟨g596, 0, none⟩)), (32, .int .i64 (wi64 (a1 - a0)))] (BK 3 (Kd.int .i64) g596 a0 :: BK 3 (Kd.int .i64) g598 a1 :: Fr) (.inRegion ops781 l :: k782) := by
            intro  l hl
            refine G.fork [0, 4] hl rfl (And.intro ?_ (And.intro ?_ trivial))
            · intro rest ho
              refine G.loadI (y := a0) rfl rfl rfl rfl ty3 (fun w hs => Rd.bk (Lens.id _ _) hs (j := 0) rfl) ?_
              refine G.frontAt 1 rfl ?_
              refine G.frontAt 1 rfl ?_
              refine G.less ?_ (d9 rest ho)
              exact ⟨rfl, rfl, rfl, rfl, trivial⟩
            · intro rest ho
              refine G.makeSlice (df := Kd.u8) (z0 := 0) (m := wi64 (a1 - a0)) (c := wi64 (a1 - a0)) (z := .int .u8 0) (cz := ([u8V 0] : List Value)) rfl rfl rfl rfl rfl el51 (by kernel_rfl) rfl (rfl) rfl k712 ?_
              intro B710
              refine G.frontAt 2 rfl ?_
              refine G.frontAt 2 rfl ?_
              refine G.frontAt 2 rfl ?_
              refine G.less ?_ (d10 B710 rest ho)
              exact ⟨rfl, rfl, rfl, trivial⟩
          have d7 : ∀ (l : List Nat), Ord armoirelaw06_FreeRuns.ds8_4 5 [true, true, true, false, false, false, false, false] l → G C780 H [(2, .slice A2 a2.length n2), (3, .pointer (some ⟨g596, 0, none⟩)), (29, .int .i64 a0), (30, .int .i64 a1), (31, .int .i64 a0)] (BK 3 (Kd.int .i64) g596 a0 :: BK 3 (Kd.int .i64) g598 a1 :: Fr) (.inRegion ops781 l :: k782) := by
            intro  l hl
            refine G.fork [3] hl rfl (And.intro ?_ trivial)
            · intro rest ho
              refine G.bin (m := a1) (n := a0) (r := wi64 (a1 - a0)) rfl rfl rfl rfl rfl rfl rfl ?_
              refine G.frontAt 1 rfl ?_
              refine G.frontAt 1 rfl ?_
              refine G.less ?_ (d9 rest ho)
              exact ⟨rfl, rfl, rfl, rfl, trivial⟩
          have d6 : ∀ (l : List Nat), Ord armoirelaw06_FreeRuns.ds8_4 6 [false, true, true, false, false, false, false, false] l → G C780 H [(2, .slice A2 a2.length n2), (3, .pointer (some ⟨g596, 0, none⟩)), (30, .int .i64 a1), (31, .int .i64 a0)] (BK 3 (Kd.int .i64) g596 a0 :: BK 3 (Kd.int .i64) g598 a1 :: Fr) (.inRegion ops781 l :: k782) := by
            intro  l hl
            refine G.fork [0, 3] hl rfl (And.intro ?_ (And.intro ?_ trivial))
            · intro rest ho
              refine G.loadI (y := a0) rfl rfl rfl rfl ty3 (fun w hs => Rd.bk (Lens.id _ _) hs (j := 0) rfl) ?_
              refine G.frontAt 1 rfl ?_
              refine G.frontAt 1 rfl ?_
              refine G.less ?_ (d7 rest ho)
              exact ⟨rfl, rfl, rfl, rfl, rfl, trivial⟩
            · intro rest ho
              refine G.bin (m := a1) (n := a0) (r := wi64 (a1 - a0)) rfl rfl rfl rfl rfl rfl rfl ?_
              refine G.frontAt 1 rfl ?_
              refine G.frontAt 1 rfl ?_
              refine G.less ?_ (d8 rest ho)
              exact ⟨rfl, rfl, rfl, trivial⟩
          have d5 : ∀ (l : List Nat), Ord armoirelaw06_FreeRuns.ds8_4 6 [true, false, true, false, false, false, false, false] l → G C780 H [(2, .slice A2 a2.length n2), (3, .pointer (some ⟨g596, 0, none⟩)), (4, .pointer (some ⟨g598, 0, none⟩)), (29, .int .i64 a0), (31, .int .i64 a0)] (BK 3 (Kd.int .i64) g596 a0 :: BK 3 (Kd.int .i64) g598 a1 :: Fr) (.inRegion ops781 l :: k782) := by
            intro  l hl
            refine G.fork [1] hl rfl (And.intro ?_ trivial)
            · intro rest ho
              refine G.loadI (y := a1) rfl rfl rfl rfl ty3 (fun w hs => Rd.bk (Lens.id _ _) hs (j := 1) rfl) ?_
              refine G.frontAt 1 rfl ?_
              refine G.frontAt 1 rfl ?_
              refine G.less ?_ (d7 rest ho)
              exact ⟨rfl, rfl, rfl, rfl, rfl, trivial⟩
          have d4 : ∀ (l : List Nat), Ord armoirelaw06_FreeRuns.ds8_4 6 [true, true, false, false, false, false, false, false] l → G C780 H [(2, .slice A2 a2.length n2), (3, .pointer (some ⟨g596, 0, none⟩)), (29, .int .i64 a0), (30, .int .i64 a1)] (BK 3 (Kd.int .i64) g596 a0 :: BK 3 (Kd.int .i64) g598 a1 :: Fr) (.inRegion ops781 l :: k782) := by
            intro  l hl
            refine G.fork [2] hl rfl (And.intro ?_ trivial)
            · intro rest ho
              refine G.loadI (y := a0) rfl rfl rfl rfl ty3 (fun w hs => Rd.bk (Lens.id _ _) hs (j := 0) rfl) ?_
              refine G.frontAt 1 rfl ?_
              refine G.frontAt 1 rfl ?_
              refine G.less ?_ (d7 rest ho)
              exact ⟨rfl, rfl, rfl, rfl, rfl, trivial⟩
          have d3 : ∀ (l : List Nat), Ord armoirelaw06_FreeRuns.ds8_4 7 [false, false, true, false, false, false, false, false] l → G C780 H [(2, .slice A2 a2.length n2), (3, .pointer (some ⟨g596, 0, none⟩)), (4, .pointer (some ⟨g598, 0, none⟩)), (31, .int .i64 a0)] (BK 3 (Kd.int .i64) g596 a0 :: BK 3 (Kd.int .i64) g598 a1 :: Fr) (.inRegion ops781 l :: k782) := by
            intro  l hl
            refine G.fork [0, 1] hl rfl (And.intro ?_ (And.intro ?_ trivial))
            · intro rest ho
              refine G.loadI (y := a0) rfl rfl rfl rfl ty3 (fun w hs => Rd.bk (Lens.id _ _) hs (j := 0) rfl) ?_
              refine G.frontAt 1 rfl ?_
              refine G.frontAt 1 rfl ?_
              refine G.less ?_ (d5 rest ho)
              exact ⟨rfl, rfl, rfl, rfl, rfl, trivial⟩
            · intro rest ho
              refine G.loadI (y := a1) rfl rfl rfl rfl ty3 (fun w hs => Rd.bk (Lens.id _ _) hs (j := 1) rfl) ?_
              refine G.frontAt 1 rfl ?_
              refine G.frontAt 1 rfl ?_
              refine G.less ?_ (d6 rest ho)
              exact ⟨rfl, rfl, rfl, rfl, trivial⟩
          have d2 : ∀ (l : List Nat), Ord armoirelaw06_FreeRuns.ds8_4 7 [false, true, false, false, false, false, false, false] l → G C780 H [(2, .slice A2 a2.length n2), (3, .pointer (some ⟨g596, 0, none⟩)), (30, .int .i64 a1)] (BK 3 (Kd.int .i64) g596 a0 :: BK 3 (Kd.int .i64) g598 a1 :: Fr) (.inRegion ops781 l :: k782) := by
            intro  l hl
            refine G.fork [0, 2] hl rfl (And.intro ?_ (And.intro ?_ trivial))
            · intro rest ho
              refine G.loadI (y := a0) rfl rfl rfl rfl ty3 (fun w hs => Rd.bk (Lens.id _ _) hs (j := 0) rfl) ?_
              refine G.frontAt 1 rfl ?_
              refine G.frontAt 1 rfl ?_
              refine G.less ?_ (d4 rest ho)
              exact ⟨rfl, rfl, rfl, rfl, trivial⟩
            · intro rest ho
              refine G.loadI (y := a0) rfl rfl rfl rfl ty3 (fun w hs => Rd.bk (Lens.id _ _) hs (j := 0) rfl) ?_
              refine G.frontAt 1 rfl ?_
              refine G.frontAt 1 rfl ?_
              refine G.less ?_ (d6 rest ho)
              exact ⟨rfl, rfl, rfl, rfl, trivial⟩
          have d1 : ∀ (l : List Nat), Ord armoirelaw06_FreeRuns.ds8_4 7 [true, false, false, false, false, false, false, false] l → G C780 H [(2, .slice A2 a2.length n2), (3, .pointer (some ⟨g596, 0, none⟩)), (4, .pointer (some ⟨g598, 0, none⟩)), (29, .int .i64 a0)] (BK 3 (Kd.int .i64) g596 a0 :: BK 3 (Kd.int .i64) g598 a1 :: Fr) (.inRegion ops781 l :: k782) := by
            intro  l hl
            refine G.fork [1, 2] hl rfl (And.intro ?_ (And.intro ?_ trivial))
            · intro rest ho
              refine G.loadI (y := a1) rfl rfl rfl rfl ty3 (fun w hs => Rd.bk (Lens.id _ _) hs (j := 1) rfl) ?_
              refine G.frontAt 1 rfl ?_
              refine G.frontAt 1 rfl ?_
              refine G.less ?_ (d4 rest ho)
              exact ⟨rfl, rfl, rfl, rfl, trivial⟩
            · intro rest ho
              refine G.loadI (y := a0) rfl rfl rfl rfl ty3 (fun w hs => Rd.bk (Lens.id _ _) hs (j := 0) rfl) ?_
              refine G.frontAt 1 rfl ?_
              refine G.frontAt 1 rfl ?_
              refine G.less ?_ (d5 rest ho)
              exact ⟨rfl, rfl, rfl, rfl, rfl, trivial⟩
          have d0 : ∀ (l : List Nat), Ord armoirelaw06_FreeRuns.ds8_4 8 [false, false, false, false, false, false, false, false] l → G C780 H [(2, .slice A2 a2.length n2), (3, .pointer (some ⟨g596, 0, none⟩)), (4, .pointer (some ⟨g598, 0, none⟩))] (BK 3 (Kd.int .i64) g596 a0 :: BK 3 (Kd.int .i64) g598 a1 :: Fr) (.inRegion ops781 l :: k782) := by
            intro  l hl
            refine G.fork [0, 1, 2] hl rfl (And.intro ?_ (And.intro ?_ (And.intro ?_ trivial)))
            · intro rest ho
              refine G.loadI (y := a0) rfl rfl rfl rfl ty3 (fun w hs => Rd.bk (Lens.id _ _) hs (j := 0) rfl) ?_
              refine G.frontAt 1 rfl ?_
              refine G.frontAt 1 rfl ?_
              refine G.less ?_ (d1 rest ho)
              exact ⟨rfl, rfl, rfl, rfl, trivial⟩
            · intro rest ho
              refine G.loadI (y := a1) rfl rfl rfl rfl ty3 (fun w hs => Rd.bk (Lens.id _ _) hs (j := 1) rfl) ?_
              refine G.frontAt 1 rfl ?_
              refine G.frontAt 1 rfl ?_
              refine G.less ?_ (d2 rest ho)
              exact ⟨rfl, rfl, rfl, trivial⟩
            · intro rest ho
              refine G.loadI (y := a0) rfl rfl rfl rfl ty3 (fun w hs => Rd.bk (Lens.id _ _) hs (j := 0) rfl) ?_
              refine G.frontAt 1 rfl ?_
              refine G.frontAt 1 rfl ?_
              refine G.less ?_ (d3 rest ho)
              exact ⟨rfl, rfl, rfl, rfl, trivial⟩
          intro l hl
          refine G.less ?_ (d0 l hl)
          exact ⟨rfl, rfl, rfl, trivial⟩
      intro J784
      refine G.rest (l1 := [12, 13, 14, 15]) (l2 := []) (fun GG K => ∀ (b785 : Bool), armoirelaw06_FreeRuns.j2 a0 a1 a2 a3 t1 b785 = some r → GG H [(2, .slice A2 a2.length n2), (3, .pointer (some ⟨g596, 0, none⟩)), (4, .pointer (some ⟨g598, 0, none⟩)), (28, .bool b785)] (BK 3 (Kd.int .i64) g596 a0 :: BK 3 (Kd.int .i64) g598 a1 :: Fr) K) ?_ ?_
      · intro b785 h
        unfold armoirelaw06_FreeRuns.j2 at h
        refine G.regionEnd ?_
        refine G.cond rfl (fun k863 => ?_) (fun k863 => ?_)
        · replace h := ifT h k863
          refine G.seq ?_
          refine G.region (l := [0, 1]) rfl ?_
          refine G.assign rfl rfl rfl rfl ?_
          refine G.assign rfl rfl rfl rfl ?_
          refine G.regionEnd ?_
          refine G.retN (rs := [.tmp 6, .tmp 7]) Try.func8 rfl rfl rfl (rt6 _ _ _ ?_)
          refine G.move rfl rfl rfl rfl ?_
          refine G.extract rfl rfl rfl rfl rfl ?_
          refine G.extract rfl rfl rfl rfl rfl ?_
          refine G.assign rfl rfl rfl rfl ?_
          refine G.assign rfl rfl rfl rfl ?_
          refine G.regionEnd ?_
          refine G.seq ?_
          refine G.seq ?_
          refine G.region (l := [0, 1]) rfl ?_
          refine G.move rfl rfl rfl rfl ?_
          refine G.eqPtr (a := none) (b := none) (r := true) rfl rfl rfl rfl rfl Try.underlying24 (by simp) ?_
          refine G.regionEnd ?_
          refine G.condT rfl ?_
          refine G.seq ?_
          refine G.region (l := [0, 1, 2, 3, 4, 5]) rfl ?_
          refine G.move rfl rfl rfl rfl ?_
          refine G.move rfl rfl rfl rfl ?_
          refine G.splitB (d := 28) rfl (fun k789 => ?_) (fun k789 => ?_)
          · replace h := ifT h k789
            refine G.move rfl rfl rfl rfl ?_
            refine G.cmp (True) rfl rfl rfl rfl rfl rfl (by simp [cmpP]) ?_
            refine G.pickT rfl rfl rfl rfl rfl ?_
            refine G.assign rfl rfl rfl rfl ?_
            refine G.regionEnd ?_
            refine G.drop ?_
            refine G.drop ?_
            obtain rfl := Option.some.inj h
            exact G.ret1 Try.func4 rfl rfl (fun w hs => ⟨_, _, rfl, ⟨rfl, rfl⟩, hs⟩)
          · replace h := ifFB h k789
            refine G.unwanted rfl rfl rfl rfl ?_
            refine G.unwanted rfl rfl rfl rfl ?_
            refine G.pickF rfl rfl rfl rfl rfl ?_
            refine G.assign rfl rfl rfl rfl ?_
            refine G.regionEnd ?_
            refine G.drop ?_
            refine G.drop ?_
            obtain rfl := Option.some.inj h
            exact G.ret1 Try.func4 rfl rfl (fun w hs => ⟨_, _, rfl, ⟨rfl, rfl⟩, hs⟩)
        · replace h := ifFB h k863
          refine G.skip ?_
          refine G.seq ?_
          obtain ⟨k792, h⟩ := guardS h
          refine G.draw armoirelaw06_FreeRuns.ds8_4 8 [0, 1, 2, 3, 4, 5, 6, 7] [0, 0, 0, 1, 2, 3, 4, 5] [0, 0, 0, 1, 2, 3, 4, 5] rfl (by kernel_rfl) (by kernel_rfl) (by kernel_rfl) (by kernel_rfl) ?_
          intro C860 ops861 k862
          have d14 : ∀ (B790 : Option Addr) (g793 : Nat) (l : List Nat), Ord armoirelaw06_FreeRuns.ds8_4 0 [true, true, true, true, true, true, true, true] l → G C860 H [(2, .slice A2 a2.length n2), (3, .pointer (some ⟨g596, 0, none⟩)), (9, .pointer (some ⟨g793, 0, none⟩))] (BK 53 K_R_free_Map g793 (R_free_Map.mk a0 (B790, (List.replicate ((wi64 (a1 - a0)).toNat) 0 : List UInt8).length, ((wi64 (a1 - a0)).toNat))) :: OS 54 Kd.u8 B790 ((wi64 (a1 - a0)).toNat) (List.replicate ((wi64 (a1 - a0)).toNat) 0 : List UInt8) :: BK 3 (Kd.int .i64) g596 a0 :: BK 3 (Kd.int .i64) g598 a1 :: Fr) (.inRegion ops861 l :: k862) := by
            intro B790 g793 l hl
            refine G.drawnAll hl ?_
            refine G.regionEnd ?_
            refine G.seq ?_
            refine G.seq ?_
            refine G.region (l := [0, 1, 2]) rfl ?_
            refine G.move rfl rfl rfl rfl ?_
            refine G.len (m := a2.length) rfl rfl rfl rfl Try.underlying28 ?_
            refine G.move rfl rfl rfl rfl ?_
            refine G.regionEnd ?_
            refine G.block ?_
            refine G.loop (fun GG K => ∀ (d825 : Nat) (x809 : (List UInt8)) (x810 : Int), armoirelaw06_FreeRuns.l2 a0 a2 a3 t1 d825 x809 x810 = some r → GG H [(3, .pointer (some ⟨g596, 0, none⟩)), (9, .pointer (some ⟨g793, 0, none⟩)), (36, .slice A2 a2.length n2), (37, .int .i64 (a2.length : Int)), (38, .int .i64 x810)] (BK 3 (Kd.int .i64) g596 a0 :: OS 54 Kd.u8 B790 ((wi64 (a1 - a0)).toNat) x809 :: BK 53 K_R_free_Map g793 (R_free_Map.mk a0 (B790, x809.length, ((wi64 (a1 - a0)).toNat))) :: Fr) K) ?_ ?_
            · intro d825
              induction d825 with
              | zero => intro x809 x810 h; rw [armoirelaw06_FreeRuns.l2] at h; cases h
              | succ d825 ih824 =>
                intro x809 x810 h
                rw [armoirelaw06_FreeRuns.l2] at h
                refine G.seq ?_
                refine G.region (l := [0]) rfl ?_
                refine G.cmp (x810 < (a2.length : Int)) rfl rfl rfl rfl rfl rfl Iff.rfl ?_
                refine G.regionEnd ?_
                refine G.seq ?_
                refine G.condP rfl (fun k850 => ?_) (fun k850 => ?_)
                · replace h := ifT h k850
                  refine G.skip ?_
                  refine G.seq ?_
                  refine G.block ?_
                  refine G.seq ?_
                  refine G.region (l := [0, 1, 2]) rfl ?_
                  obtain ⟨k829, h⟩ := guardS h
                  refine G.indexR (xs := a2) (j := x810) 0 rfl rfl rfl rfl rfl el28 F2 k829 ?_
                  intro a827 f828
                  refine G.loadI (y := a2.getD x810.toNat 0) rfl rfl rfl rfl ty3 (fun w hs => Rd.ro f828 hs) ?_
                  refine G.assign rfl rfl rfl rfl ?_
                  refine G.regionEnd ?_
                  refine G.seq ?_
                  refine G.seq ?_
                  obtain ⟨k831, h⟩ := guardS h
                  have q830 : (wi64 ((a2.getD x810.toNat 0) - a0)).toNat < x809.length := by omega
                  refine G.draw [[], [0], [1], [2], [], [], [4, 5], [3, 6], [7], [8]] 10 [0, 1, 2, 3, 4, 5, 6, 7, 8, 9] [0, 1, 2, 3, 0, 0, 1, 4, 5, 6] [0, 1, 2, 3, 0, 0, 1, 4, 5, 6] rfl (by kernel_rfl) (by kernel_rfl) (by kernel_rfl) (by kernel_rfl) ?_
                  intro C845 ops846 k847
                  let R848 : Reg := armoirelaw06_FreeRuns.reg8_8 [(3, .pointer (some ⟨g596, 0, none⟩)), (9, .pointer (some ⟨g793, 0, none⟩)), (11, .int .i64 (a2.getD x810.toNat 0)), (36, .slice A2 a2.length n2), (37, .int .i64 (a2.length : Int)), (38, .int .i64 x810)]
                  have P849 : ∀ (m : Nat) (L : List Bool) (A : List (Nat × Value)) (l : List Nat), L.length = R848.ds.length → R848.Phi [some (.pointer (some ⟨g793, 0, none⟩)), some (.pointer (some ⟨g793, 0, none⟩)), some (.pointer (some ⟨g793, 1, none⟩)), some (.slice B790 x809.length ((wi64 (a1 - a0)).toNat)), some (.int .i64 (a2.getD x810.toNat 0)), some (.int .i64 a0), some (.int .i64 (wi64 ((a2.getD x810.toNat 0) - a0))), some (.pointer (some (plc B790 ((wi64 ((a2.getD x810.toNat 0) - a0)).toNat * 1)))), some (u8V (x809.getD ((wi64 ((a2.getD x810.toNat 0) - a0)).toNat) 0)), some (.bool (decide ((x809.getD ((wi64 ((a2.getD x810.toNat 0) - a0)).toNat) 0) ≠ 0)))] [] [] L A → left L = m → Ord R848.ds m L l → G C845 H A (BK 3 (Kd.int .i64) g596 a0 :: OS 54 Kd.u8 B790 ((wi64 (a1 - a0)).toNat) x809 :: BK 53 K_R_free_Map g793 (R_free_Map.mk a0 (B790, x809.length, ((wi64 (a1 - a0)).toNat))) :: Fr) (.inRegion ops846 l :: k847) := by
                    refine G.phase R848 [some (.pointer (some ⟨g793, 0, none⟩)), some (.pointer (some ⟨g793, 0, none⟩)), some (.pointer (some ⟨g793, 1, none⟩)), some (.slice B790 x809.length ((wi64 (a1 - a0)).toNat)), some (.int .i64 (a2.getD x810.toNat 0)), some (.int .i64 a0), some (.int .i64 (wi64 ((a2.getD x810.toNat 0) - a0))), some (.pointer (some (plc B790 ((wi64 ((a2.getD x810.toNat 0) - a0)).toNat * 1)))), some (u8V (x809.getD ((wi64 ((a2.getD x810.toNat 0) - a0)).toNat) 0)), some (.bool (decide ((x809.getD ((wi64 ((a2.getD x810.toNat 0) - a0)).toNat) 0) ≠ 0)))] [0, 1, 2, 3, 4, 5, 6, 7, 8, 9] [] [] [] (armoirelaw06_FreeRuns.reg8_8_ap _) rfl rfl ⟨⟨[.base 9], 42, .pointer (some ⟨g793, 0, none⟩), [(9, .pointer (some ⟨g793, 0, none⟩))], ⟨rfl, rfl, rfl, rfl, ?_⟩⟩, ⟨⟨[.op 0], 43, .pointer (some ⟨g793, 0, none⟩), [(42, .pointer (some ⟨g793, 0, none⟩))], ⟨rfl, rfl, rfl, rfl, ?_⟩⟩, ⟨⟨[.op 1], 44, .pointer (some ⟨g793, 1, none⟩), [(43, .pointer (some ⟨g793, 0, none⟩))], ⟨rfl, rfl, rfl, rfl, ?_⟩⟩, ⟨⟨[.op 2], 45, .slice B790 x809.length ((wi64 (a1 - a0)).toNat), [(44, .pointer (some ⟨g793, 1, none⟩))], ⟨rfl, rfl, rfl, rfl, ?_⟩⟩, ⟨⟨[.base 11], 46, .int .i64 (a2.getD x810.toNat 0), [(11, .int .i64 (a2.getD x810.toNat 0))], ⟨rfl, rfl, rfl, rfl, ?_⟩⟩, ⟨⟨[.base 3], 47, .int .i64 a0, [(3, .pointer (some ⟨g596, 0, none⟩))], ⟨rfl, rfl, rfl, rfl, ?_⟩⟩, ⟨⟨[.op 4, .op 5], 48, .int .i64 (wi64 ((a2.getD x810.toNat 0) - a0)), [(46, .int .i64 (a2.getD x810.toNat 0)), (47, .int .i64 a0)], ⟨rfl, rfl, rfl, rfl, ?_⟩⟩, ⟨⟨[.op 3, .op 6], 49, .pointer (some (plc B790 ((wi64 ((a2.getD x810.toNat 0) - a0)).toNat * 1))), [(45, .slice B790 x809.length ((wi64 (a1 - a0)).toNat)), (48, .int .i64 (wi64 ((a2.getD x810.toNat 0) - a0)))], ⟨rfl, rfl, rfl, rfl, ?_⟩⟩, ⟨⟨[.op 7], 50, u8V (x809.getD ((wi64 ((a2.getD x810.toNat 0) - a0)).toNat) 0), [(49, .pointer (some (plc B790 ((wi64 ((a2.getD x810.toNat 0) - a0)).toNat * 1))))], ⟨rfl, rfl, rfl, rfl, ?_⟩⟩, ⟨⟨[.op 8], 51, .bool (decide ((x809.getD ((wi64 ((a2.getD x810.toNat 0) - a0)).toNat) 0) ≠ 0)), [(50, u8V (x809.getD ((wi64 ((a2.getD x810.toNat 0) - a0)).toNat) 0))], ⟨rfl, rfl, rfl, rfl, ?_⟩⟩, trivial⟩⟩⟩⟩⟩⟩⟩⟩⟩⟩ trivial ?_
                    · intro X rest g
                      refine G.move rfl rfl rfl rfl ?_
                      exact g
                    · intro X rest g
                      refine G.nilCheck rfl rfl rfl rfl ?_
                      exact g
                    · intro X rest g
                      refine G.field (off' := 1) rfl rfl rfl rfl Try.underlying53 rfl sz51 rfl rfl ?_
                      exact g
                    · intro X rest g
                      refine G.loadH (B := B790) (m := x809.length) (c := ((wi64 (a1 - a0)).toNat)) rfl rfl rfl rfl ty51r (fun w hs => Rd.bk (R_free_Map.L_kinds _) hs (j := 2) rfl) ?_
                      exact g
                    · intro X rest g
                      refine G.move rfl rfl rfl rfl ?_
                      exact g
                    · intro X rest g
                      refine G.loadI (y := a0) rfl rfl rfl rfl ty3 (fun w hs => Rd.bk (Lens.id _ _) hs (j := 0) rfl) ?_
                      exact g
                    · intro X rest g
                      refine G.bin (m := a2.getD x810.toNat 0) (n := a0) (r := wi64 ((a2.getD x810.toNat 0) - a0)) rfl rfl rfl rfl rfl rfl rfl ?_
                      exact g
                    · intro X rest g
                      refine G.indexO (xs := x809) (j := wi64 ((a2.getD x810.toNat 0) - a0)) (off := (wi64 ((a2.getD x810.toNat 0) - a0)).toNat * 1) rfl rfl rfl rfl rfl el51 (r := 1) rfl (by simp) k831 rfl ?_
                      exact g
                    · intro X rest g
                      refine G.load8 (y := x809.getD ((wi64 ((a2.getD x810.toNat 0) - a0)).toNat) 0) rfl rfl rfl rfl ty54 (fun w hs => Rd.osG q830 (Lens.id _ _) hs (j := 1) rfl (o := (wi64 ((a2.getD x810.toNat 0) - a0)).toNat * 1) (by first | rfl | simp)) ?_
                      exact g
                    · intro X rest g
                      refine G.cmp ((x809.getD ((wi64 ((a2.getD x810.toNat 0) - a0)).toNat) 0) ≠ 0) rfl rfl rfl rfl rfl rfl (c8_neq (x809.getD ((wi64 ((a2.getD x810.toNat 0) - a0)).toNat) 0) 0) ?_
                      exact g
                    · intro A L hlen hp h0
                      refine G.lessSub (B := [(3, .pointer (some ⟨g596, 0, none⟩)), (9, .pointer (some ⟨g793, 0, none⟩)), (11, .int .i64 (a2.getD x810.toNat 0)), (36, .slice A2 a2.length n2), (37, .int .i64 (a2.length : Int)), (38, .int .i64 x810), (51, .bool (decide ((x809.getD ((wi64 ((a2.getD x810.toNat 0) - a0)).toNat) 0) ≠ 0)))]) (hp.fin hlen h0 (src := [.base 3, .base 9, .base 11, .base 36, .base 37, .base 38, .op 9]) rfl) ?_
                      refine G.regionEnd ?_
                      refine G.condP rfl (fun k844 => ?_) (fun k844 => ?_)
                      · replace h := ifT h k844
                        refine G.seq ?_
                        refine G.region (l := [0, 1]) rfl ?_
                        refine G.assign rfl rfl rfl rfl ?_
                        refine G.assign rfl rfl rfl rfl ?_
                        refine G.regionEnd ?_
                        refine G.retN (rs := [.tmp 6, .tmp 7]) Try.func8 rfl rfl rfl (rt6 _ _ _ ?_)
                        refine G.move rfl rfl rfl rfl ?_
                        refine G.extract rfl rfl rfl rfl rfl ?_
                        refine G.extract rfl rfl rfl rfl rfl ?_
                        refine G.assign rfl rfl rfl rfl ?_
                        refine G.assign rfl rfl rfl rfl ?_
                        refine G.regionEnd ?_
                        refine G.seq ?_
                        refine G.seq ?_
                        refine G.region (l := [0, 1]) rfl ?_
                        refine G.move rfl rfl rfl rfl ?_
                        refine G.eqPtr (a := none) (b := none) (r := true) rfl rfl rfl rfl rfl Try.underlying24 (by simp) ?_
                        refine G.regionEnd ?_
                        refine G.condT rfl ?_
                        refine G.seq ?_
                        refine G.region (l := [0, 1, 2, 3, 4, 5]) rfl ?_
                        refine G.move rfl rfl rfl rfl ?_
                        refine G.move rfl rfl rfl rfl ?_
                        refine G.splitB (d := 28) rfl (fun k835 => ?_) (fun k835 => ?_)
                        · replace h := ifT h k835
                          refine G.move rfl rfl rfl rfl ?_
                          refine G.cmp (True) rfl rfl rfl rfl rfl rfl (by simp [cmpP]) ?_
                          refine G.pickT rfl rfl rfl rfl rfl ?_
                          refine G.assign rfl rfl rfl rfl ?_
                          refine G.regionEnd ?_
                          refine G.drop ?_
                          refine G.drop ?_
                          refine G.drop ?_
                          obtain rfl := Option.some.inj h
                          exact G.ret1 Try.func4 rfl rfl (fun w hs => ⟨_, _, rfl, ⟨rfl, rfl⟩, hs⟩)
                        · replace h := ifFB h k835
                          refine G.unwanted rfl rfl rfl rfl ?_
                          refine G.unwanted rfl rfl rfl rfl ?_
                          refine G.pickF rfl rfl rfl rfl rfl ?_
                          refine G.assign rfl rfl rfl rfl ?_
                          refine G.regionEnd ?_
                          refine G.drop ?_
                          refine G.drop ?_
                          refine G.drop ?_
                          obtain rfl := Option.some.inj h
                          exact G.ret1 Try.func4 rfl rfl (fun w hs => ⟨_, _, rfl, ⟨rfl, rfl⟩, hs⟩)
                      · replace h := ifF h k844
                        refine G.skip ?_
                        obtain ⟨k837, h⟩ := guardS h
                        have q836 : (wi64 ((a2.getD x810.toNat 0) - a0)).toNat < x809.length := by omega
                        refine G.draw [[], [0], [1], [2], [], [], [4, 5], [3, 6, 0, 1, 2, 3, 4, 5, 6], [7, 0, 1, 2, 3, 4, 5, 6]] 9 [0, 1, 2, 3, 4, 5, 6, 7, 8] [0, 1, 2, 3, 0, 0, 1, 4, 5] [0, 1, 2, 3, 0, 0, 1, 4, 5] rfl (by kernel_rfl) (by kernel_rfl) (by kernel_rfl) (by kernel_rfl) ?_
                        intro C838 ops839 k840
                        let R841 : Reg := armoirelaw06_FreeRuns.reg8_10 [(3, .pointer (some ⟨g596, 0, none⟩)), (9, .pointer (some ⟨g793, 0, none⟩)), (11, .int .i64 (a2.getD x810.toNat 0)), (36, .slice A2 a2.length n2), (37, .int .i64 (a2.length : Int)), (38, .int .i64 x810)]
                        have P843 : ∀ (m : Nat) (L : List Bool) (A : List (Nat × Value)) (l : List Nat), L.length = R841.ds.length → R841.Phi [some (.pointer (some ⟨g793, 0, none⟩)), some (.pointer (some ⟨g793, 0, none⟩)), some (.pointer (some ⟨g793, 1, none⟩)), some (.slice B790 x809.length ((wi64 (a1 - a0)).toNat)), some (.int .i64 (a2.getD x810.toNat 0)), some (.int .i64 a0), some (.int .i64 (wi64 ((a2.getD x810.toNat 0) - a0))), some (.pointer (some (plc B790 ((wi64 ((a2.getD x810.toNat 0) - a0)).toNat * 1)))), none] [0, 1, 2, 3, 4, 5, 6, 7, 8] [] L A → left L = m → Ord R841.ds m L l → G C838 H A (OS 54 Kd.u8 B790 ((wi64 (a1 - a0)).toNat) (x809.set ((wi64 ((a2.getD x810.toNat 0) - a0)).toNat) 1) :: BK 3 (Kd.int .i64) g596 a0 :: BK 53 K_R_free_Map g793 (R_free_Map.mk a0 (B790, x809.length, ((wi64 (a1 - a0)).toNat))) :: Fr) (.inRegion ops839 l :: k840) := by
                          refine G.phase R841 [some (.pointer (some ⟨g793, 0, none⟩)), some (.pointer (some ⟨g793, 0, none⟩)), some (.pointer (some ⟨g793, 1, none⟩)), some (.slice B790 x809.length ((wi64 (a1 - a0)).toNat)), some (.int .i64 (a2.getD x810.toNat 0)), some (.int .i64 a0), some (.int .i64 (wi64 ((a2.getD x810.toNat 0) - a0))), some (.pointer (some (plc B790 ((wi64 ((a2.getD x810.toNat 0) - a0)).toNat * 1)))), none] [] [] [0, 1, 2, 3, 4, 5, 6, 7, 8] [] (armoirelaw06_FreeRuns.reg8_10_ap _) rfl rfl trivial trivial ?_
                          · intro A L hlen hp h0
                            refine G.lessSub (B := [(3, .pointer (some ⟨g596, 0, none⟩)), (9, .pointer (some ⟨g793, 0, none⟩)), (36, .slice A2 a2.length n2), (37, .int .i64 (a2.length : Int)), (38, .int .i64 x810)]) (hp.fin hlen h0 (src := [.base 3, .base 9, .base 36, .base 37, .base 38]) rfl) ?_
                            refine G.regionEnd ?_
                            refine G.inBlock ?_
                            refine G.region (l := [0, 1]) rfl ?_
                            refine G.bin (m := x810) (n := 1) (r := wi64 (x810 + 1)) rfl rfl rfl rfl rfl rfl rfl ?_
                            refine G.move rfl rfl rfl rfl ?_
                            refine G.regionEnd ?_
                            refine G.round ?_
                            refine G.frontAt 2 rfl ?_
                            refine G.headEq (r' := BK 53 K_R_free_Map g793 (R_free_Map.mk a0 (B790, (x809.set ((wi64 ((a2.getD x810.toNat 0) - a0)).toNat) 1).length, ((wi64 (a1 - a0)).toNat)))) (by first | (simp; done) | (simp; omega)) ?_
                            refine G.frontAt 1 rfl ?_
                            refine G.frontAt 2 rfl ?_
                            refine G.less ?_ (ih824  (x809.set ((wi64 ((a2.getD x810.toNat 0) - a0)).toNat) 1) (wi64 (x810 + 1)) h)
                            exact ⟨rfl, rfl, rfl, rfl, rfl, trivial⟩
                        have P842 : ∀ (m : Nat) (L : List Bool) (A : List (Nat × Value)) (l : List Nat), L.length = R841.ds.length → R841.Phi [some (.pointer (some ⟨g793, 0, none⟩)), some (.pointer (some ⟨g793, 0, none⟩)), some (.pointer (some ⟨g793, 1, none⟩)), some (.slice B790 x809.length ((wi64 (a1 - a0)).toNat)), some (.int .i64 (a2.getD x810.toNat 0)), some (.int .i64 a0), some (.int .i64 (wi64 ((a2.getD x810.toNat 0) - a0))), some (.pointer (some (plc B790 ((wi64 ((a2.getD x810.toNat 0) - a0)).toNat * 1)))), none] [] [8] L A → left L = m → Ord R841.ds m L l → G C838 H A (BK 3 (Kd.int .i64) g596 a0 :: OS 54 Kd.u8 B790 ((wi64 (a1 - a0)).toNat) x809 :: BK 53 K_R_free_Map g793 (R_free_Map.mk a0 (B790, x809.length, ((wi64 (a1 - a0)).toNat))) :: Fr) (.inRegion ops839 l :: k840) := by
                          refine G.phase R841 [some (.pointer (some ⟨g793, 0, none⟩)), some (.pointer (some ⟨g793, 0, none⟩)), some (.pointer (some ⟨g793, 1, none⟩)), some (.slice B790 x809.length ((wi64 (a1 - a0)).toNat)), some (.int .i64 (a2.getD x810.toNat 0)), some (.int .i64 a0), some (.int .i64 (wi64 ((a2.getD x810.toNat 0) - a0))), some (.pointer (some (plc B790 ((wi64 ((a2.getD x810.toNat 0) - a0)).toNat * 1)))), none] [0, 1, 2, 3, 4, 5, 6, 7] [8] [] [8] (armoirelaw06_FreeRuns.reg8_10_ap _) rfl rfl ⟨⟨[.base 9], 52, .pointer (some ⟨g793, 0, none⟩), [(9, .pointer (some ⟨g793, 0, none⟩))], ⟨rfl, rfl, rfl, rfl, ?_⟩⟩, ⟨⟨[.op 0], 53, .pointer (some ⟨g793, 0, none⟩), [(52, .pointer (some ⟨g793, 0, none⟩))], ⟨rfl, rfl, rfl, rfl, ?_⟩⟩, ⟨⟨[.op 1], 54, .pointer (some ⟨g793, 1, none⟩), [(53, .pointer (some ⟨g793, 0, none⟩))], ⟨rfl, rfl, rfl, rfl, ?_⟩⟩, ⟨⟨[.op 2], 55, .slice B790 x809.length ((wi64 (a1 - a0)).toNat), [(54, .pointer (some ⟨g793, 1, none⟩))], ⟨rfl, rfl, rfl, rfl, ?_⟩⟩, ⟨⟨[.base 11], 56, .int .i64 (a2.getD x810.toNat 0), [(11, .int .i64 (a2.getD x810.toNat 0))], ⟨rfl, rfl, rfl, rfl, ?_⟩⟩, ⟨⟨[.base 3], 57, .int .i64 a0, [(3, .pointer (some ⟨g596, 0, none⟩))], ⟨rfl, rfl, rfl, rfl, ?_⟩⟩, ⟨⟨[.op 4, .op 5], 58, .int .i64 (wi64 ((a2.getD x810.toNat 0) - a0)), [(56, .int .i64 (a2.getD x810.toNat 0)), (57, .int .i64 a0)], ⟨rfl, rfl, rfl, rfl, ?_⟩⟩, ⟨⟨[.op 3, .op 6], 59, .pointer (some (plc B790 ((wi64 ((a2.getD x810.toNat 0) - a0)).toNat * 1))), [(55, .slice B790 x809.length ((wi64 (a1 - a0)).toNat)), (58, .int .i64 (wi64 ((a2.getD x810.toNat 0) - a0)))], ⟨rfl, rfl, rfl, rfl, ?_⟩⟩, trivial⟩⟩⟩⟩⟩⟩⟩⟩ ⟨⟨[.op 7], [(59, .pointer (some (plc B790 ((wi64 ((a2.getD x810.toNat 0) - a0)).toNat * 1))))], ⟨rfl, rfl, ?_⟩⟩, trivial⟩ ?_
                          · intro X rest g
                            refine G.move rfl rfl rfl rfl ?_
                            exact g
                          · intro X rest g
                            refine G.nilCheck rfl rfl rfl rfl ?_
                            exact g
                          · intro X rest g
                            refine G.field (off' := 1) rfl rfl rfl rfl Try.underlying53 rfl sz51 rfl rfl ?_
                            exact g
                          · intro X rest g
                            refine G.loadH (B := B790) (m := x809.length) (c := ((wi64 (a1 - a0)).toNat)) rfl rfl rfl rfl ty51r (fun w hs => Rd.bk (R_free_Map.L_kinds _) hs (j := 2) rfl) ?_
                            exact g
                          · intro X rest g
                            refine G.move rfl rfl rfl rfl ?_
                            exact g
                          · intro X rest g
                            refine G.loadI (y := a0) rfl rfl rfl rfl ty3 (fun w hs => Rd.bk (Lens.id _ _) hs (j := 0) rfl) ?_
                            exact g
                          · intro X rest g
                            refine G.bin (m := a2.getD x810.toNat 0) (n := a0) (r := wi64 ((a2.getD x810.toNat 0) - a0)) rfl rfl rfl rfl rfl rfl rfl ?_
                            exact g
                          · intro X rest g
                            refine G.indexO (xs := x809) (j := wi64 ((a2.getD x810.toNat 0) - a0)) (off := (wi64 ((a2.getD x810.toNat 0) - a0)).toNat * 1) rfl rfl rfl rfl rfl el51 (r := 1) rfl (by simp) k837 rfl ?_
                            exact g
                          · intro X rest L m hlen hp hil hd hs hm ho
                            refine G.frontAt 1 rfl ?_
                            refine G.storeO (df := Kd.u8) (y := 1) (hj := q836) (xs' := x809.set ((wi64 ((a2.getD x810.toNat 0) - a0)).toNat) 1) rfl rfl rfl rfl (Lens.id _ _) (by first | rfl | simp) ⟨([u8V 1] : List Value), rfl, rfl⟩ sz54 rfl ?_
                            refine G.frontAt 2 rfl ?_
                            refine G.frontAt 2 rfl ?_
                            refine G.frontAt 2 rfl ?_
                            exact P843 m _ _ rest (by rw [List.length_set]; exact hlen) (hp.stepN2 1 (armoirelaw06_FreeRuns.reg8_10_ap _) hil hd hs (by repeat (first | exact trivial | refine And.intro rfl ?_)) rfl rfl rfl) hm ho
                          · intro A L hlen hp h0
                            exact (hp.notYet hlen h0 8 rfl rfl).elim
                        intro l hl
                        exact P842 9 (List.replicate 9 false) _ l rfl (Reg.Phi.init 9 ⟨rfl, rfl, rfl, rfl, rfl, rfl, trivial⟩) (left_rep 9) hl
                  intro l hl
                  exact P849 10 (List.replicate 10 false) _ l rfl (Reg.Phi.init 10 ⟨rfl, rfl, rfl, rfl, rfl, rfl, trivial⟩) (left_rep 10) hl
                · replace h := ifF h k850
                  refine G.exit rfl ?_
                  refine G.seq ?_
                  refine G.region (l := [0, 1, 2]) rfl ?_
                  refine G.move rfl rfl rfl rfl ?_
                  refine G.assign rfl rfl rfl rfl ?_
                  refine G.assign rfl rfl rfl rfl ?_
                  refine G.regionEnd ?_
                  refine G.retN (rs := [.tmp 6, .tmp 7]) Try.func8 rfl rfl rfl (rt6 _ _ _ ?_)
                  refine G.drop ?_
                  refine G.frontAt 1 rfl ?_
                  refine G.frontAt 1 rfl ?_
                  refine G.less ?_ (J595  g793 B790 ((wi64 (a1 - a0)).toNat) x809 h)
                  exact ⟨rfl, rfl, rfl, trivial⟩
            intro J851
            refine G.frontAt 3 rfl ?_
            refine G.drop ?_
            refine G.frontAt 1 rfl ?_
            refine G.frontAt 2 rfl ?_
            refine G.less ?_ (J851 FUEL  (List.replicate ((wi64 (a1 - a0)).toNat) 0 : List UInt8) 0 h)
            exact ⟨rfl, rfl, rfl, rfl, rfl, trivial⟩
          have d13 : ∀ (B790 : Option Addr) (g793 : Nat) (l : List Nat), Ord armoirelaw06_FreeRuns.ds8_4 1 [true, true, true, true, true, true, true, false] l → G C860 H [(2, .slice A2 a2.length n2), (3, .pointer (some ⟨g596, 0, none⟩)), (35, .pointer (some ⟨g793, 0, none⟩))] (BK 53 K_R_free_Map g793 (R_free_Map.mk a0 (B790, (List.replicate ((wi64 (a1 - a0)).toNat) 0 : List UInt8).length, ((wi64 (a1 - a0)).toNat))) :: OS 54 Kd.u8 B790 ((wi64 (a1 - a0)).toNat) (List.replicate ((wi64 (a1 - a0)).toNat) 0 : List UInt8) :: BK 3 (Kd.int .i64) g596 a0 :: BK 3 (Kd.int .i64) g598 a1 :: Fr) (.inRegion ops861 l :: k862) := by
            intro B790 g793 l hl
            refine G.fork [7] hl rfl (And.intro ?_ trivial)
            · intro rest ho
              refine G.assign rfl rfl rfl rfl ?_
              refine G.frontAt 3 rfl ?_
              refine G.frontAt 3 rfl ?_
              refine G.frontAt 3 rfl ?_
              refine G.frontAt 3 rfl ?_
              refine G.less ?_ (d14 B790 g793 rest ho)
              exact ⟨rfl, rfl, rfl, trivial⟩
          have d12 : ∀ (B790 : Option Addr) (l : List Nat), Ord armoirelaw06_FreeRuns.ds8_4 2 [true, true, true, true, true, true, false, false] l → G C860 H [(2, .slice A2 a2.length n2), (3, .pointer (some ⟨g596, 0, none⟩)), (34, .agg (([.int .i64 a0] : List Value) ++ (([.slice B790 ((List.replicate ((wi64 (a1 - a0)).toNat) 0 : List UInt8).length) ((wi64 (a1 - a0)).toNat)] : List Value))).toArray)] (OS 54 Kd.u8 B790 ((wi64 (a1 - a0)).toNat) (List.replicate ((wi64 (a1 - a0)).toNat) 0 : List UInt8) :: BK 3 (Kd.int .i64) g596 a0 :: BK 3 (Kd.int .i64) g598 a1 :: Fr) (.inRegion ops861 l :: k862) := by
            intro B790 l hl
            refine G.fork [6] hl rfl (And.intro ?_ trivial)
            · intro rest ho
              refine G.box (dk := K_R_free_Map) (y := (R_free_Map.mk a0 (B790, (List.replicate ((wi64 (a1 - a0)).toNat) 0 : List UInt8).length, ((wi64 (a1 - a0)).toNat)))) rfl rfl rfl rfl (VR.A (cs := ([.int .i64 a0] : List Value) ++ (([.slice B790 ((List.replicate ((wi64 (a1 - a0)).toNat) 0 : List UInt8).length) ((wi64 (a1 - a0)).toNat)] : List Value))) (K_R_free_Map.mk rfl rfl)) ?_
              intro g793
              refine G.frontAt 3 rfl ?_
              refine G.frontAt 3 rfl ?_
              refine G.frontAt 3 rfl ?_
              refine G.frontAt 3 rfl ?_
              refine G.less ?_ (d13 B790 g793 rest ho)
              exact ⟨rfl, rfl, rfl, trivial⟩
          have d11 : ∀ (B790 : Option Addr) (l : List Nat), Ord armoirelaw06_FreeRuns.ds8_4 3 [true, true, true, true, true, false, false, false] l → G C860 H [(2, .slice A2 a2.length n2), (3, .pointer (some ⟨g596, 0, none⟩)), (29, .int .i64 a0), (33, .slice B790 ((wi64 (a1 - a0)).toNat) ((wi64 (a1 - a0)).toNat))] (OS 54 Kd.u8 B790 ((wi64 (a1 - a0)).toNat) (List.replicate ((wi64 (a1 - a0)).toNat) 0 : List UInt8) :: BK 3 (Kd.int .i64) g596 a0 :: BK 3 (Kd.int .i64) g598 a1 :: Fr) (.inRegion ops861 l :: k862) := by
            intro B790 l hl
            refine G.fork [5] hl rfl (And.intro ?_ trivial)
            · intro rest ho
              refine G.same (d := 33) (v := .slice B790 ((List.replicate ((wi64 (a1 - a0)).toNat) 0 : List UInt8).length) ((wi64 (a1 - a0)).toNat)) rfl (by first | (simp; done) | (simp; omega)) ?_
              refine G.build (z := .agg (([.int .i64 0] : List Value) ++ (([.slice none 0 0] : List Value))).toArray) (pl := [(0, 1), (1, 1)]) (cs := ([.int .i64 a0] : List Value) ++ (([.slice B790 ((List.replicate ((wi64 (a1 - a0)).toNat) 0 : List UInt8).length) ((wi64 (a1 - a0)).toNat)] : List Value))) rfl rfl rfl Try.underlying53 (by kernel_rfl) rfl (by kernel_rfl) (by kernel_rfl) rfl ?_
              refine G.frontAt 2 rfl ?_
              refine G.frontAt 2 rfl ?_
              refine G.frontAt 2 rfl ?_
              refine G.less ?_ (d12 B790 rest ho)
              exact ⟨rfl, rfl, rfl, trivial⟩
          have d10 : ∀ (B790 : Option Addr) (l : List Nat), Ord armoirelaw06_FreeRuns.ds8_4 4 [false, true, true, true, true, false, false, false] l → G C860 H [(2, .slice A2 a2.length n2), (3, .pointer (some ⟨g596, 0, none⟩)), (33, .slice B790 ((wi64 (a1 - a0)).toNat) ((wi64 (a1 - a0)).toNat))] (OS 54 Kd.u8 B790 ((wi64 (a1 - a0)).toNat) (List.replicate ((wi64 (a1 - a0)).toNat) 0 : List UInt8) :: BK 3 (Kd.int .i64) g596 a0 :: BK 3 (Kd.int .i64) g598 a1 :: Fr) (.inRegion ops861 l :: k862) := by
            intro B790 l hl
            refine G.fork [0] hl rfl (And.intro ?_ trivial)
            · intro rest ho
              refine G.loadI (y := a0) rfl rfl rfl rfl ty3 (fun w hs => Rd.bk (Lens.id _ _) hs (j := 1) rfl) ?_
              refine G.frontAt 2 rfl ?_
              refine G.frontAt 2 rfl ?_
              refine G.frontAt 2 rfl ?_
              refine G.less ?_ (d11 B790 rest ho)
              exact ⟨rfl, rfl, rfl, rfl, trivial⟩
          have d9 : ∀ (l : List Nat), Ord armoirelaw06_FreeRuns.ds8_4 4 [true, true, true, true, false, false, false, false] l → G C860 H [(2, .slice A2 a2.length n2), (3, .pointer (some ⟨g596, 0, none⟩)), (29, .int .i64 a0), (32, .int .i64 (wi64 (a1 - a0)))] (BK 3 (Kd.int .i64) g596 a0 :: BK 3 (Kd.int .i64) g598 a1 :: Fr) (.inRegion ops861 l :: k862) := by
            intro  l hl
            refine G.fork [4] hl rfl (And.intro ?_ trivial)
            · intro rest ho
              refine G.makeSlice (df := Kd.u8) (z0 := 0) (m := wi64 (a1 - a0)) (c := wi64 (a1 - a0)) (z := .int .u8 0) (cz := ([u8V 0] : List Value)) rfl rfl rfl rfl rfl el51 (by kernel_rfl) rfl (rfl) rfl k792 ?_
              intro B790
              refine G.frontAt 2 rfl ?_
              refine G.frontAt 2 rfl ?_
              refine G.frontAt 2 rfl ?_
              refine G.less ?_ (d11 B790 rest ho)
              exact ⟨rfl, rfl, rfl, rfl, trivial⟩
          have d8 : ∀ (l : List Nat), Ord armoirelaw06_FreeRuns.ds8_4 5 [false, true, true, true, false, false, false, false] l → G C860 H [(2, .slice A2 a2.length n2), (3, .pointer (some ⟨g596, 0, none⟩)), (32, .int .i64 (wi64 (a1 - a0)))] (BK 3 (Kd.int .i64) g596 a0 :: BK 3 (Kd.int .i64) g598 a1 :: Fr) (.inRegion ops861 l :: k862) := by
            intro  l hl
            refine G.fork [0, 4] hl rfl (And.intro ?_ (And.intro ?_ trivial))
            · intro rest ho
              refine G.loadI (y := a0) rfl rfl rfl rfl ty3 (fun w hs => Rd.bk (Lens.id _ _) hs (j := 0) rfl) ?_
              refine G.frontAt 1 rfl ?_
              refine G.frontAt 1 rfl ?_
              refine G.less ?_ (d9 rest ho)
              exact ⟨rfl, rfl, rfl, rfl, trivial⟩
            · intro rest ho
              refine G.makeSlice (df := Kd.u8) (z0 := 0) (m := wi64 (a1 - a0)) (c := wi64 (a1 - a0)) (z := .int .u8 0) (cz := ([u8V 0] : List Value)) rfl rfl rfl rfl rfl el51 (by kernel_rfl) rfl (rfl) rfl k792 ?_
              intro B790
              refine G.frontAt 2 rfl ?_
              refine G.frontAt 2 rfl ?_
              refine G.frontAt 2 rfl ?_
              refine G.less ?_ (d10 B790 rest ho)
              exact ⟨rfl, rfl, rfl, trivial⟩
          have d7 : ∀ (l : List Nat), Ord armoirelaw06_FreeRuns.ds8_4 5 [true, true, true, false, false, false, false, false] l → G C860 H [(2, .slice A2 a2.length n2), (3, .pointer (some ⟨g596, 0, none⟩)), (29, .int .i64 a0), (30, .int .i64 a1), (31, .int .i64 a0)] (BK 3 (Kd.int .i64) g596 a0 :: BK 3 (Kd.int .i64) g598 a1 :: Fr) (.inRegion ops861 l :: k862) := by
            intro  l hl
            refine G.fork [3] hl rfl (And.intro ?_ trivial)
            · intro rest ho
              refine G.bin (m := a1) (n := a0) (r := wi64 (a1 - a0)) rfl rfl rfl rfl rfl rfl rfl ?_
              refine G.frontAt 1 rfl ?_
              refine G.frontAt 1 rfl ?_
              refine G.less ?_ (d9 rest ho)
              exact ⟨rfl, rfl, rfl, rfl, trivial⟩
          have d6 : ∀ (l : List Nat), Ord armoirelaw06_FreeRuns.ds8_4 6 [false, true, true, false, false, false, false, false] l → G C860 H [(2, .slice A2 a2.length n2), (3, .pointer (some ⟨g596, 0, none⟩)), (30, .int .i64 a1), (31, .int .i64 a0)] (BK 3 (Kd.int .i64) g596 a0 :: BK 3 (Kd.int .i64) g598 a1 :: Fr) (.inRegion ops861 l :: k862) := by
            intro  l hl
            refine G.fork [0, 3] hl rfl (And.intro ?_ (And.intro ?_ trivial))
            · intro rest ho
              refine G.loadI (y := a0) rfl rfl rfl rfl ty3 (fun w hs => Rd.bk (Lens.id _ _) hs (j := 0) rfl) ?_
              refine G.frontAt 1 rfl ?_
              refine G.frontAt 1 rfl ?_
              refine G.less ?_ (d7 rest ho)
              exact ⟨rfl, rfl, rfl, rfl, rfl, trivial⟩
            · intro rest ho
              refine G.bin (m := a1) (n := a0) (r := wi64 (a1 - a0)) rfl rfl rfl rfl rfl rfl rfl ?_
              refine G.frontAt 1 rfl ?_
              refine G.frontAt 1 rfl ?_
              refine G.less ?_ (d8 rest ho)
              exact ⟨rfl, rfl, rfl, trivial⟩
          have d5 : ∀ (l : List Nat), Ord armoirelaw06_FreeRuns.ds8_4 6 [true, false, true, false, false, false, false, false] l → G C860 H [(2, .slice A2 a2.length n2), (3, .pointer (some ⟨g596, 0, none⟩)), (4, .pointer (some ⟨g598, 0, none⟩)), (29, .int .i64 a0), (31, .int .i64 a0)] (BK 3 (Kd.int .i64) g596 a0 :: BK 3 (Kd.int .i64) g598 a1 :: Fr) (.inRegion ops861 l :: k862) := by
            intro  l hl
            refine G.fork [1] hl rfl (And.intro ?_ trivial)
            · intro rest ho
              refine G.loadI (y := a1) rfl rfl rfl rfl ty3 (fun w hs => Rd.bk (Lens.id _ _) hs (j := 1) rfl) ?_
              refine G.frontAt 1 rfl ?_
              refine G.frontAt 1 rfl ?_
              refine G.less ?_ (d7 rest ho)
              exact ⟨rfl, rfl, rfl, rfl, rfl, trivial⟩
          have d4 : ∀ (l : List Nat), Ord armoirelaw06_FreeRuns.ds8_4 6 [true, true, false, false, false, false, false, false] l → G C860 H [(2, .slice A2 a2.length n2), (3, .pointer (some ⟨g596, 0, none⟩)), (29, .int .i64 a0), (30, .int .i64 a1)] (BK 3 (Kd.int .i64) g596 a0 :: BK 3 (Kd.int .i64) g598 a1 :: Fr) (.inRegion ops861 l :: k862) := by
            intro  l hl
            refine G.fork [2] hl rfl (And.intro ?_ trivial)
            · intro rest ho
              refine G.loadI (y := a0) rfl rfl rfl rfl ty3 (fun w hs => Rd.bk (Lens.id _ _) hs (j := 0) rfl) ?_
              refine G.frontAt 1 rfl ?_
              refine G.frontAt 1 rfl ?_
              refine G.less ?_ (d7 rest ho)
              exact ⟨rfl, rfl, rfl, rfl, rfl, trivial⟩
          have d3 : ∀ (l : List Nat), Ord armoirelaw06_FreeRuns.ds8_4 7 [false, false, true, false, false, false, false, false] l → G C860 H [(2, .slice A2 a2.length n2), (3, .pointer (some ⟨g596, 0, none⟩)), (4, .pointer (some ⟨g598, 0, none⟩)), (31, .int .i64 a0)] (BK 3 (Kd.int .i64) g596 a0 :: BK 3 (Kd.int .i64) g598 a1 :: Fr) (.inRegion ops861 l :: k862) := by
            intro  l hl
            refine G.fork [0, 1] hl rfl (And.intro ?_ (And.intro ?_ trivial))
            · intro rest ho
              refine G.loadI (y := a0) rfl rfl rfl rfl ty3 (fun w hs => Rd.bk (Lens.id _ _) hs (j := 0) rfl) ?_
              refine G.frontAt 1 rfl ?_
              refine G.frontAt 1 rfl ?_
              refine G.less ?_ (d5 rest ho)
              exact ⟨rfl, rfl, rfl, rfl, rfl, trivial⟩
            · intro rest ho
              refine G.loadI (y := a1) rfl rfl rfl rfl ty3 (fun w hs => Rd.bk (Lens.id _ _) hs (j := 1) rfl) ?_
              refine G.frontAt 1 rfl ?_
              refine G.frontAt 1 rfl ?_
              refine G.less ?_ (d6 rest ho)
              exact ⟨rfl, rfl, rfl, rfl, trivial⟩
          have d2 : ∀ (l : List Nat), Ord armoirelaw06_FreeRuns.ds8_4 7 [false, true, false, false, false, false, false, false] l → G C860 H [(2, .slice A2 a2.length n2), (3, .pointer (some ⟨g596, 0, none⟩)), (30, .int .i64 a1)] (BK 3 (Kd.int .i64) g596 a0 :: BK 3 (Kd.int .i64) g598 a1 :: Fr) (.inRegion ops861 l :: k862) := by
            intro  l hl
            refine G.fork [0, 2] hl rfl (And.intro ?_ (And.intro ?_ trivial))
            · intro rest ho
              refine G.loadI (y := a0) rfl rfl rfl rfl ty3 (fun w hs => Rd.bk (Lens.id _ _) hs (j := 0) rfl) ?_
              refine G.frontAt 1 rfl ?_
              refine G.frontAt 1 rfl ?_
              refine G.less ?_ (d4 rest ho)
              exact ⟨rfl, rfl, rfl, rfl, trivial⟩
            · intro rest ho
              refine G.loadI (y := a0) rfl rfl rfl rfl ty3 (fun w hs => Rd.bk (Lens.id _ _) hs (j := 0) rfl) ?_
              refine G.frontAt 1 rfl ?_
              refine G.frontAt 1 rfl ?_
              refine G.less ?_ (d6 rest ho)
              exact ⟨rfl, rfl, rfl, rfl, trivial⟩
          have d1 : ∀ (l : List Nat), Ord armoirelaw06_FreeRuns.ds8_4 7 [true, false, false, false, false, false, false, false] l → G C860 H [(2, .slice A2 a2.length n2), (3, .pointer (some ⟨g596, 0, none⟩)), (4, .pointer (some ⟨g598, 0, none⟩)), (29, .int .i64 a0)] (BK 3 (Kd.int .i64) g596 a0 :: BK 3 (Kd.int .i64) g598 a1 :: Fr) (.inRegion ops861 l :: k862) := by
            intro  l hl
            refine G.fork [1, 2] hl rfl (And.intro ?_ (And.intro ?_ trivial))
            · intro rest ho
              refine G.loadI (y := a1) rfl rfl rfl rfl ty3 (fun w hs => Rd.bk (Lens.id _ _) hs (j := 1) rfl) ?_
              refine G.frontAt 1 rfl ?_
              refine G.frontAt 1 rfl ?_
              refine G.less ?_ (d4 rest ho)
              exact ⟨rfl, rfl, rfl, rfl, trivial⟩
            · intro rest ho
              refine G.loadI (y := a0) rfl rfl rfl rfl ty3 (fun w hs => Rd.bk (Lens.id _ _) hs (j := 0) rfl) ?_
              refine G.frontAt 1 rfl ?_
              refine G.frontAt 1 rfl ?_
              refine G.less ?_ (d5 rest ho)
              exact ⟨rfl, rfl, rfl, rfl, rfl, trivial⟩
          have d0 : ∀ (l : List Nat), Ord armoirelaw06_FreeRuns.ds8_4 8 [false, false, false, false, false, false, false, false] l → G C860 H [(2, .slice A2 a2.length n2), (3, .pointer (some ⟨g596, 0, none⟩)), (4, .pointer (some ⟨g598, 0, none⟩))] (BK 3 (Kd.int .i64) g596 a0 :: BK 3 (Kd.int .i64) g598 a1 :: Fr) (.inRegion ops861 l :: k862) := by
            intro  l hl
            refine G.fork [0, 1, 2] hl rfl (And.intro ?_ (And.intro ?_ (And.intro ?_ trivial)))
            · intro rest ho
              refine G.loadI (y := a0) rfl rfl rfl rfl ty3 (fun w hs => Rd.bk (Lens.id _ _) hs (j := 0) rfl) ?_
              refine G.frontAt 1 rfl ?_
              refine G.frontAt 1 rfl ?_
              refine G.less ?_ (d1 rest ho)
              exact ⟨rfl, rfl, rfl, rfl, trivial⟩
            · intro rest ho
              refine G.loadI (y := a1) rfl rfl rfl rfl ty3 (fun w hs => Rd.bk (Lens.id _ _) hs (j := 1) rfl) ?_
              refine G.frontAt 1 rfl ?_
              refine G.frontAt 1 rfl ?_
              refine G.less ?_ (d2 rest ho)
              exact ⟨rfl, rfl, rfl, trivial⟩
            · intro rest ho
              refine G.loadI (y := a0) rfl rfl rfl rfl ty3 (fun w hs => Rd.bk (Lens.id _ _) hs (j := 0) rfl) ?_
              refine G.frontAt 1 rfl ?_
              refine G.frontAt 1 rfl ?_
              refine G.less ?_ (d3 rest ho)
              exact ⟨rfl, rfl, rfl, rfl, trivial⟩
          intro l hl
          refine G.less ?_ (d0 l hl)
          exact ⟨rfl, rfl, rfl, trivial⟩
      intro J864
      refine G.splitP (d := 24) rfl (fun k966 => ?_) (fun k966 => ?_)
      · replace h := ifT h k966
        refine G.unwanted rfl rfl rfl rfl ?_
        refine G.unwanted rfl rfl rfl rfl ?_
        refine G.unwanted rfl rfl rfl rfl ?_
        refine G.pickT rfl rfl rfl rfl rfl ?_
        refine G.frontAt 1 rfl ?_
        refine G.less ?_ (J784  true h)
        exact ⟨rfl, rfl, rfl, rfl, trivial⟩
      · replace h := ifF h k966
        refine G.move rfl rfl rfl rfl ?_
        refine G.move rfl rfl rfl rfl ?_
        refine G.inl (n' := 9) rfl rfl rfl rfl call24 Try.func24 rfl Try.ntmps24 rfl rfl ?_
        intro R865 rt866
        refine G.seq ?_
        refine G.region (l := [0]) rfl ?_
        refine G.assign rfl rfl rfl rfl ?_
        refine G.regionEnd ?_
        refine G.seq ?_
        refine G.region (l := [0, 1, 2, 3, 4]) rfl ?_
        refine G.move rfl rfl rfl rfl ?_
        refine G.move rfl rfl rfl rfl ?_
        refine G.inl (n' := 19) rfl rfl rfl rfl call33 Try.func33 rfl Try.ntmps33 rfl rfl ?_
        intro R917 rt918
        refine G.seq ?_
        refine G.region (l := [0]) rfl ?_
        refine G.assign rfl rfl rfl rfl ?_
        refine G.regionEnd ?_
        refine G.seq ?_
        refine G.seq ?_
        refine G.region (l := [0, 1, 2]) rfl ?_
        refine G.move rfl rfl rfl rfl ?_
        refine G.len (m := a2.length) rfl rfl rfl rfl Try.underlying28 ?_
        refine G.move rfl rfl rfl rfl ?_
        refine G.regionEnd ?_
        refine G.block ?_
        refine G.loop (fun GG K => ∀ (d954 : Nat) (x943 : Int), armoirelaw06_FreeRuns.l3 a0 a1 a2 a3 t1 d954 x943 = some r → GG H [(0, .slice A2 a2.length n2), (1, .func (.func 23) #[] #[.pointer (some ⟨g596, 0, none⟩), .pointer (some ⟨g598, 0, none⟩)]), (7, .int .i64 (a2.length : Int)), (8, .int .i64 x943)] (BK 3 (Kd.int .i64) g596 a0 :: BK 3 (Kd.int .i64) g598 a1 :: Fr) K) ?_ ?_
        · intro d954
          induction d954 with
          | zero => intro x943 h; rw [armoirelaw06_FreeRuns.l3] at h; cases h
          | succ d954 ih953 =>
            intro x943 h
            rw [armoirelaw06_FreeRuns.l3] at h
            refine G.seq ?_
            refine G.region (l := [0]) rfl ?_
            refine G.cmp (x943 < (a2.length : Int)) rfl rfl rfl rfl rfl rfl Iff.rfl ?_
            refine G.regionEnd ?_
            refine G.seq ?_
            refine G.condP rfl (fun k964 => ?_) (fun k964 => ?_)
            · replace h := ifT h k964
              refine G.skip ?_
              refine G.seq ?_
              refine G.block ?_
              refine G.seq ?_
              refine G.region (l := [0, 1]) rfl ?_
              refine G.move rfl rfl rfl rfl ?_
              refine G.assign rfl rfl rfl rfl ?_
              refine G.regionEnd ?_
              refine G.seq ?_
              refine G.region (l := [0, 1, 2, 3, 4, 5]) rfl ?_
              refine G.move rfl rfl rfl rfl ?_
              refine G.move rfl rfl rfl rfl ?_
              refine G.move rfl rfl rfl rfl ?_
              obtain ⟨k958, h⟩ := guardS h
              refine G.indexR (xs := a2) (j := x943) 0 rfl rfl rfl rfl rfl el28 F2 k958 ?_
              intro a956 f957
              refine G.loadI (y := a2.getD x943.toNat 0) rfl rfl rfl rfl ty3 (fun w hs => Rd.ro f957 hs) ?_
              refine G.frontAt 1 rfl ?_
              refine G.frontAt 1 rfl ?_
              obtain ⟨t959, e960, h⟩ := bindS h
              refine G.callSV rfl rfl rfl rfl rfl rfl call23 (free_New_1.ok (a2.getD x943.toNat 0) a0 g596 a1 g598 e960) ?_
              rintro v961 L962 ⟨rfl, rfl⟩
              refine G.regionEnd ?_
              refine G.cond rfl (fun k963 => ?_) (fun k963 => ?_)
              · replace h := ifT h k963
                refine G.seq ?_
                refine G.region (l := [0, 1]) rfl ?_
                refine G.move rfl rfl rfl rfl ?_
                refine G.assign rfl rfl rfl rfl ?_
                refine G.regionEnd ?_
                refine G.ret1 Try.func33 rfl rfl (rt918 _ _ _ ?_)
                refine G.cmp (0 ≤ x943) rfl rfl rfl rfl rfl rfl Iff.rfl ?_
                refine G.assign rfl rfl rfl rfl ?_
                refine G.regionEnd ?_
                refine G.ret1 Try.func24 rfl rfl (rt866 _ _ _ ?_)
                refine G.pickF rfl rfl rfl rfl rfl ?_
                refine G.frontAt 1 rfl ?_
                refine G.frontAt 1 rfl ?_
                refine G.less ?_ (J864  (decide (0 ≤ x943)) h)
                exact ⟨rfl, rfl, rfl, rfl, trivial⟩
              · replace h := ifFB h k963
                refine G.skip ?_
                refine G.inBlock ?_
                refine G.region (l := [0, 1]) rfl ?_
                refine G.bin (m := x943) (n := 1) (r := wi64 (x943 + 1)) rfl rfl rfl rfl rfl rfl rfl ?_
                refine G.move rfl rfl rfl rfl ?_
                refine G.regionEnd ?_
                refine G.round ?_
                refine G.frontAt 1 rfl ?_
                refine G.frontAt 1 rfl ?_
                refine G.less ?_ (ih953  (wi64 (x943 + 1)) h)
                exact ⟨rfl, rfl, rfl, rfl, trivial⟩
            · replace h := ifF h k964
              refine G.exit rfl ?_
              refine G.seq ?_
              refine G.region (l := [0]) rfl ?_
              refine G.assign rfl rfl rfl rfl ?_
              refine G.regionEnd ?_
              refine G.ret1 Try.func33 rfl rfl (rt918 _ _ _ ?_)
              refine G.cmp (False) rfl rfl rfl rfl rfl rfl (by simp [cmpP]) ?_
              refine G.assign rfl rfl rfl rfl ?_
              refine G.regionEnd ?_
              refine G.ret1 Try.func24 rfl rfl (rt866 _ _ _ ?_)
              refine G.pickF rfl rfl rfl rfl rfl ?_
              refine G.frontAt 1 rfl ?_
              refine G.frontAt 1 rfl ?_
              refine G.less ?_ (J784  false h)
              exact ⟨rfl, rfl, rfl, rfl, trivial⟩
        intro J965
        refine G.frontAt 1 rfl ?_
        refine G.less ?_ (J965 FUEL  0 h)
        exact ⟨rfl, rfl, rfl, rfl, trivial⟩
end Go.Proofs.Ytpffemcpfddjbaa
