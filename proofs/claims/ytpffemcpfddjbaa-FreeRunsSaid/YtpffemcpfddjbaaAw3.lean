/- Own text, printed by wip/g2: the walks. -/
import Derived.Test.YtpffemcpfddjbaaAw2
namespace Go.Proofs.Ytpffemcpfddjbaa
open Go K
set_option linter.unusedVariables false
set_option maxHeartbeats 1000000
def armoirelaw06_FreeWaits.reg8_4 (B : List (Nat × Value)) : Reg := ⟨[[], [], [], [1, 2], [3, 3], [0, 4], [5], [6, 0, 1, 2, 3, 4, 5, 6]], [some 29, some 30, some 31, some 32, some 33, some 34, some 35, some 9], B⟩
theorem armoirelaw06_FreeWaits.reg8_4_ap (B : List (Nat × Value)) : (armoirelaw06_FreeWaits.reg8_4 B).apart = true := rfl
def armoirelaw06_FreeWaits.ds8_4 : List (List Nat) := [[], [], [], [1, 2], [3, 3], [0, 4], [5], [6, 0, 1, 2, 3, 4, 5, 6]]
set_option maxRecDepth 20000 in
theorem armoirelaw06_FreeWaits.ok {O : World} {H : PH} {Fr : List Res} (a0 : Int) (a1 : (List S_armoirelaw06_Op)) (A1 : Option Addr) (n1 : Nat) (F1 : SlR K_S_armoirelaw06_Op H A1 n1 a1) {r : Bool} (h : armoirelaw06_FreeWaits.f a0 a1 = some r) :
    CtrS Try.prog 3 [.int .i64 a0, .slice A1 a1.length n1] O H (Fr) (fun v L' => v = .bool r ∧ Fr = L') := by
  refine CtrS.start (n := 152) Try.func3 rfl Try.ntmps3 rfl rfl ?_
  unfold armoirelaw06_FreeWaits.f at h
  refine G.seq ?_
  refine G.region (l := [0]) rfl ?_
  refine G.assign rfl rfl rfl rfl ?_
  refine G.regionEnd ?_
  refine G.seq ?_
  refine G.region (l := [0, 1]) rfl ?_
  obtain ⟨t1, e2, h⟩ := bindS h
  refine G.callS rfl rfl rfl rfl call7 (armoirelaw06_live.ok  e2) ?_
  rintro v3 L4 ⟨rfl, rfl⟩
  refine G.assign rfl rfl rfl rfl ?_
  refine G.regionEnd ?_
  refine G.seq ?_
  refine G.region (l := [0, 1, 2, 3, 4, 5]) rfl ?_
  refine G.move rfl rfl rfl rfl ?_
  refine G.div (m := a0) (n := 40) (r := Int.tmod a0 40) rfl rfl rfl rfl rfl rfl (by decide) rfl ?_
  refine G.bin (m := Int.tmod a0 40) (n := 40) (r := wi64 ((Int.tmod a0 40) + 40)) rfl rfl rfl rfl rfl rfl rfl ?_
  refine G.div (m := wi64 ((Int.tmod a0 40) + 40)) (n := 40) (r := Int.tmod (wi64 ((Int.tmod a0 40) + 40)) 40) rfl rfl rfl rfl rfl rfl (by decide) rfl ?_
  refine G.bin (m := 1) (n := Int.tmod (wi64 ((Int.tmod a0 40) + 40)) 40) (r := wi64 (1 + (Int.tmod (wi64 ((Int.tmod a0 40) + 40)) 40))) rfl rfl rfl rfl rfl rfl rfl ?_
  refine G.assign rfl rfl rfl rfl ?_
  refine G.regionEnd ?_
  refine G.seq ?_
  refine G.region (l := [0, 1, 2, 3, 4, 5, 6]) rfl ?_
  refine G.move rfl rfl rfl rfl ?_
  refine G.rest (l1 := [1]) (l2 := [2, 3, 4, 5, 6]) (fun GG K => armoirelaw06_FreeWaits.j0 t1 = some r → GG H [(1, .slice A1 a1.length n1), (5, .bool t1), (32, .tuple #[.pointer none, .int .i64 1])] (Fr) K) ?_ ?_
  · intro  h
    unfold armoirelaw06_FreeWaits.j0 at h
    refine G.move rfl rfl rfl rfl ?_
    refine G.extract rfl rfl rfl rfl rfl ?_
    refine G.extract rfl rfl rfl rfl rfl ?_
    refine G.assign rfl rfl rfl rfl ?_
    refine G.assign rfl rfl rfl rfl ?_
    refine G.regionEnd ?_
    refine G.seq ?_
    refine G.seq ?_
    refine G.region (l := [0, 1, 2, 3, 4, 5, 6, 7, 8, 9, 10]) rfl ?_
    refine G.move rfl rfl rfl rfl ?_
    refine G.eqPtr (a := none) (b := none) (r := true) rfl rfl rfl rfl rfl Try.underlying24 (by simp) ?_
    refine G.move rfl rfl rfl rfl ?_
    refine G.unwanted rfl rfl rfl rfl ?_
    refine G.unwanted rfl rfl rfl rfl ?_
    refine G.pickT rfl rfl rfl rfl rfl ?_
    refine G.move rfl rfl rfl rfl ?_
    refine G.unwanted rfl rfl rfl rfl ?_
    refine G.unwanted rfl rfl rfl rfl ?_
    refine G.unwanted rfl rfl rfl rfl ?_
    refine G.pickT rfl rfl rfl rfl rfl ?_
    refine G.regionEnd ?_
    refine G.condT rfl ?_
    refine G.seq ?_
    refine G.region (l := [0, 1, 2, 3, 4, 5]) rfl ?_
    refine G.move rfl rfl rfl rfl ?_
    refine G.move rfl rfl rfl rfl ?_
    refine G.splitB (d := 47) rfl (fun k96 => ?_) (fun k96 => ?_)
    · replace h := ifT h k96
      refine G.move rfl rfl rfl rfl ?_
      refine G.eqPtrn (a := none) (b := none) (r := false) rfl rfl rfl rfl rfl Try.underlying24 (by simp) ?_
      refine G.pickT rfl rfl rfl rfl rfl ?_
      refine G.assign rfl rfl rfl rfl ?_
      refine G.regionEnd ?_
      obtain rfl := Option.some.inj h
      exact G.ret1 Try.func3 rfl rfl (fun w hs => ⟨_, _, rfl, ⟨rfl, rfl⟩, hs⟩)
    · replace h := ifFB h k96
      refine G.unwanted rfl rfl rfl rfl ?_
      refine G.unwanted rfl rfl rfl rfl ?_
      refine G.pickF rfl rfl rfl rfl rfl ?_
      refine G.assign rfl rfl rfl rfl ?_
      refine G.regionEnd ?_
      obtain rfl := Option.some.inj h
      exact G.ret1 Try.func3 rfl rfl (fun w hs => ⟨_, _, rfl, ⟨rfl, rfl⟩, hs⟩)
  intro J97
  refine G.rest (l1 := [1]) (l2 := [2, 3, 4, 5, 6]) (fun GG K => ∀ (g99 : Nat) (B101 : Option Addr) (c102 : Nat) (x103 : (List UInt8)), armoirelaw06_FreeWaits.j1 a1 t1 x103 = some r → GG H [(1, .slice A1 a1.length n1), (5, .bool t1), (32, .tuple #[.pointer (some ⟨g99, 0, none⟩), .int .i64 0])] (OS 54 Kd.u8 B101 c102 x103 :: BK 53 K_R_free_Map g99 (R_free_Map.mk 0 (B101, x103.length, c102)) :: Fr) K) ?_ ?_
  · intro g99 B101 c102 x103 h
    unfold armoirelaw06_FreeWaits.j1 at h
    refine G.move rfl rfl rfl rfl ?_
    refine G.extract rfl rfl rfl rfl rfl ?_
    refine G.extract rfl rfl rfl rfl rfl ?_
    refine G.assign rfl rfl rfl rfl ?_
    refine G.assign rfl rfl rfl rfl ?_
    refine G.regionEnd ?_
    refine G.seq ?_
    refine G.seq ?_
    refine G.region (l := [0, 1, 2, 3, 4, 5, 6, 7, 8, 9, 10]) rfl ?_
    refine G.move rfl rfl rfl rfl ?_
    refine G.eqPtr (a := (some ⟨g99, 0, none⟩)) (b := none) (r := false) rfl rfl rfl rfl rfl Try.underlying24 (by simp) ?_
    refine G.move rfl rfl rfl rfl ?_
    refine G.move rfl rfl rfl rfl ?_
    refine G.cmp (False) rfl rfl rfl rfl rfl rfl (by simp [cmpP]) ?_
    refine G.pickF rfl rfl rfl rfl rfl ?_
    refine G.move rfl rfl rfl rfl ?_
    refine G.move rfl rfl rfl rfl ?_
    refine G.len (m := a1.length) rfl rfl rfl rfl Try.underlying22 ?_
    refine G.cmp (100 < (a1.length : Int)) rfl rfl rfl rfl rfl rfl Iff.rfl ?_
    refine G.pickF rfl rfl rfl rfl rfl ?_
    refine G.regionEnd ?_
    refine G.condP rfl (fun k6362 => ?_) (fun k6362 => ?_)
    · replace h := ifT h k6362
      refine G.seq ?_
      refine G.region (l := [0, 1, 2, 3, 4, 5]) rfl ?_
      refine G.move rfl rfl rfl rfl ?_
      refine G.move rfl rfl rfl rfl ?_
      refine G.splitB (d := 47) rfl (fun k107 => ?_) (fun k107 => ?_)
      · replace h := ifT h k107
        refine G.move rfl rfl rfl rfl ?_
        refine G.eqPtrn (a := (some ⟨g99, 0, none⟩)) (b := none) (r := true) rfl rfl rfl rfl rfl Try.underlying24 (by simp) ?_
        refine G.pickT rfl rfl rfl rfl rfl ?_
        refine G.assign rfl rfl rfl rfl ?_
        refine G.regionEnd ?_
        refine G.drop ?_
        refine G.drop ?_
        obtain rfl := Option.some.inj h
        exact G.ret1 Try.func3 rfl rfl (fun w hs => ⟨_, _, rfl, ⟨rfl, rfl⟩, hs⟩)
      · replace h := ifFB h k107
        refine G.unwanted rfl rfl rfl rfl ?_
        refine G.unwanted rfl rfl rfl rfl ?_
        refine G.pickF rfl rfl rfl rfl rfl ?_
        refine G.assign rfl rfl rfl rfl ?_
        refine G.regionEnd ?_
        refine G.drop ?_
        refine G.drop ?_
        obtain rfl := Option.some.inj h
        exact G.ret1 Try.func3 rfl rfl (fun w hs => ⟨_, _, rfl, ⟨rfl, rfl⟩, hs⟩)
    · replace h := ifF h k6362
      refine G.skip ?_
      refine G.seq ?_
      refine G.seq ?_
      refine G.region (l := [0, 1, 2]) rfl ?_
      refine G.move rfl rfl rfl rfl ?_
      refine G.len (m := a1.length) rfl rfl rfl rfl Try.underlying22 ?_
      refine G.move rfl rfl rfl rfl ?_
      refine G.regionEnd ?_
      refine G.block ?_
      refine G.loop (fun GG K => ∀ (d4277 : Nat) (x2191 : Int) (x2192 : (List UInt8)) (x2193 : Int), armoirelaw06_FreeWaits.l0 a1 t1 d4277 x2191 x2192 x2193 = some r → GG H [(5, .bool t1), (6, .pointer (some ⟨g99, 0, none⟩)), (51, .slice A1 a1.length n1), (52, .int .i64 (a1.length : Int)), (53, .int .i64 x2193)] (OS 54 Kd.u8 B101 c102 x2192 :: BK 53 K_R_free_Map g99 (R_free_Map.mk x2191 (B101, x2192.length, c102)) :: Fr) K) ?_ ?_
      · intro d4277
        induction d4277 with
        | zero => intro x2191 x2192 x2193 h; rw [armoirelaw06_FreeWaits.l0] at h; cases h
        | succ d4277 ih4276 =>
          intro x2191 x2192 x2193 h
          rw [armoirelaw06_FreeWaits.l0] at h
          refine G.seq ?_
          refine G.region (l := [0]) rfl ?_
          refine G.cmp (x2193 < (a1.length : Int)) rfl rfl rfl rfl rfl rfl Iff.rfl ?_
          refine G.regionEnd ?_
          refine G.seq ?_
          refine G.condP rfl (fun k6360 => ?_) (fun k6360 => ?_)
          · replace h := ifT h k6360
            refine G.skip ?_
            refine G.seq ?_
            refine G.block ?_
            refine G.seq ?_
            refine G.region (l := [0, 1, 2, 3]) rfl ?_
            obtain ⟨k4281, h⟩ := guardS h
            refine G.indexR (xs := a1) (j := x2193) (S_armoirelaw06_Op.mk 0 0 [] false) rfl rfl rfl rfl rfl el22 F1 k4281 ?_
            intro a4279 f4280
            refine G.loadA (df := K_S_armoirelaw06_Op) (y := a1.getD x2193.toNat (S_armoirelaw06_Op.mk 0 0 [] false)) rfl rfl rfl rfl ty30 rfl (fun w hs => Rd.ro f4280 hs) ?_
            intro cs4282 f4283
            obtain ⟨B4284, c4285, f4286, rfl⟩ := K_S_armoirelaw06_Op.open f4283
            refine G.alloc (dk := K_R_armoirelaw06_Op) (x0 := (R_armoirelaw06_Op.mk 0 0 (none, 0, 0) false)) (z := .agg (([.int .i64 0] : List Value) ++ (([.int .i64 0] : List Value) ++ (([.slice none 0 0] : List Value) ++ (([.bool false] : List Value))))).toArray) (cs := ([.int .i64 0] : List Value) ++ (([.int .i64 0] : List Value) ++ (([.slice none 0 0] : List Value) ++ (([.bool false] : List Value))))) rfl rfl rfl (by kernel_rfl) rfl (fun H => K_R_armoirelaw06_Op.mk rfl rfl rfl rfl) ?_
            intro g4287
            refine G.store (df := K_R_armoirelaw06_Op) (y := (R_armoirelaw06_Op.mk ((a1.getD x2193.toNat (S_armoirelaw06_Op.mk 0 0 [] false)).do_) ((a1.getD x2193.toNat (S_armoirelaw06_Op.mk 0 0 [] false)).n) (B4284, ((a1.getD x2193.toNat (S_armoirelaw06_Op.mk 0 0 [] false)).keep).length, c4285) ((a1.getD x2193.toNat (S_armoirelaw06_Op.mk 0 0 [] false)).clone))) (x1 := (R_armoirelaw06_Op.mk ((a1.getD x2193.toNat (S_armoirelaw06_Op.mk 0 0 [] false)).do_) ((a1.getD x2193.toNat (S_armoirelaw06_Op.mk 0 0 [] false)).n) (B4284, ((a1.getD x2193.toNat (S_armoirelaw06_Op.mk 0 0 [] false)).keep).length, c4285) ((a1.getD x2193.toNat (S_armoirelaw06_Op.mk 0 0 [] false)).clone))) rfl rfl rfl rfl (Lens.id _ _) (VR.A (cs := ([.int .i64 ((a1.getD x2193.toNat (S_armoirelaw06_Op.mk 0 0 [] false)).do_)] : List Value) ++ (([.int .i64 ((a1.getD x2193.toNat (S_armoirelaw06_Op.mk 0 0 [] false)).n)] : List Value) ++ (([.slice B4284 ((a1.getD x2193.toNat (S_armoirelaw06_Op.mk 0 0 [] false)).keep).length c4285] : List Value) ++ (([.bool ((a1.getD x2193.toNat (S_armoirelaw06_Op.mk 0 0 [] false)).clone)] : List Value))))) (K_R_armoirelaw06_Op.mk rfl rfl rfl rfl)) sz30 rfl ?_
            refine G.regionEnd ?_
            refine G.seq ?_
            refine G.region (l := [0, 1, 2]) rfl ?_
            refine G.move rfl rfl rfl rfl ?_
            refine G.frontAt 1 rfl ?_
            refine G.frontAt 2 rfl ?_
            obtain ⟨t4289, e4290, h⟩ := bindS h
            refine G.callS rfl rfl rfl rfl call9 (free_Map_Waiting.ok (S_free_Map.mk x2191 x2192) g99 B101 c102 e4290) ?_
            rintro v4291 L4292 ⟨B4293, c4294, rfl, rfl⟩
            refine G.assign rfl rfl rfl rfl ?_
            refine G.regionEnd ?_
            refine G.seq ?_
            refine G.region (l := [0, 1]) rfl ?_
            refine G.field (off' := 0) rfl rfl rfl rfl Try.underlying30 rfl sz3 rfl rfl ?_
            refine G.loadI (y := (a1.getD x2193.toNat (S_armoirelaw06_Op.mk 0 0 [] false)).do_) rfl rfl rfl rfl ty3 (fun w hs => Rd.bk (R_armoirelaw06_Op.L_do_ _) hs (j := 3) rfl) ?_
            refine G.regionEnd ?_
            refine G.block ?_
            refine G.seq ?_
            refine G.seq ?_
            refine G.region (l := [0, 1]) rfl ?_
            refine G.cmp (((a1.getD x2193.toNat (S_armoirelaw06_Op.mk 0 0 [] false)).do_) = 0) rfl rfl rfl rfl rfl rfl Iff.rfl ?_
            refine G.assign rfl rfl rfl rfl ?_
            refine G.regionEnd ?_
            refine G.tail (fun GG K => ∀ (b4296 : Bool), armoirelaw06_FreeWaits.j2 a1 x2191 x2192 x2193 (armoirelaw06_FreeWaits.l0 a1 t1 d4277) t4289 b4296 = some r → GG H [(5, .bool t1), (6, .pointer (some ⟨g99, 0, none⟩)), (9, .pointer (some ⟨g4287, 0, none⟩)), (10, .slice B4293 t4289.length c4294), (51, .slice A1 a1.length n1), (52, .int .i64 (a1.length : Int)), (53, .int .i64 x2193), (60, .int .i64 ((a1.getD x2193.toNat (S_armoirelaw06_Op.mk 0 0 [] false)).do_)), (61, .bool b4296)] (OS 54 Kd.u8 B101 c102 x2192 :: BK 53 K_R_free_Map g99 (R_free_Map.mk x2191 (B101, x2192.length, c102)) :: BK 30 K_R_armoirelaw06_Op g4287 (R_armoirelaw06_Op.mk ((a1.getD x2193.toNat (S_armoirelaw06_Op.mk 0 0 [] false)).do_) ((a1.getD x2193.toNat (S_armoirelaw06_Op.mk 0 0 [] false)).n) (B4284, ((a1.getD x2193.toNat (S_armoirelaw06_Op.mk 0 0 [] false)).keep).length, c4285) ((a1.getD x2193.toNat (S_armoirelaw06_Op.mk 0 0 [] false)).clone)) :: OS 3 (Kd.int .i64) B4293 c4294 t4289 :: Fr) K) ?_ ?_
            · intro b4296 h
              unfold armoirelaw06_FreeWaits.j2 at h
              refine G.cond rfl (fun k6357 => ?_) (fun k6357 => ?_)
              · replace h := ifT h k6357
                refine G.seq ?_
                refine G.region (l := [0]) rfl ?_
                refine G.assign rfl rfl rfl rfl ?_
                refine G.regionEnd ?_
                refine G.seq ?_
                refine G.seq ?_
                refine G.region (l := [0, 1, 2]) rfl ?_
                refine G.field (off' := 0) rfl rfl rfl rfl Try.underlying30 rfl sz3 rfl rfl ?_
                refine G.loadI (y := (a1.getD x2193.toNat (S_armoirelaw06_Op.mk 0 0 [] false)).do_) rfl rfl rfl rfl ty3 (fun w hs => Rd.bk (R_armoirelaw06_Op.L_do_ _) hs (j := 2) rfl) ?_
                refine G.cmp (((a1.getD x2193.toNat (S_armoirelaw06_Op.mk 0 0 [] false)).do_) = 1) rfl rfl rfl rfl rfl rfl Iff.rfl ?_
                refine G.regionEnd ?_
                refine G.tail (fun GG K => ∀ (x5328 : Int), armoirelaw06_FreeWaits.j3 x2191 x2192 x2193 (armoirelaw06_FreeWaits.l0 a1 t1 d4277) t4289 x5328 = some r → GG H [(5, .bool t1), (6, .pointer (some ⟨g99, 0, none⟩)), (10, .slice B4293 t4289.length c4294), (11, .int .i64 x5328), (51, .slice A1 a1.length n1), (52, .int .i64 (a1.length : Int)), (53, .int .i64 x2193)] (OS 54 Kd.u8 B101 c102 x2192 :: BK 53 K_R_free_Map g99 (R_free_Map.mk x2191 (B101, x2192.length, c102)) :: OS 3 (Kd.int .i64) B4293 c4294 t4289 :: Fr) K) ?_ ?_
                · intro x5328 h
                  unfold armoirelaw06_FreeWaits.j3 at h
                  refine G.seq ?_
                  refine G.region (l := [0, 1, 2, 3, 4, 5, 6, 7]) rfl ?_
                  refine G.move rfl rfl rfl rfl ?_
                  refine G.move rfl rfl rfl rfl ?_
                  refine G.frontAt 1 rfl ?_
                  obtain ⟨t5329, e5330, h⟩ := bindS h
                  refine G.callS rfl rfl rfl rfl call10 (free_Map_TakeRun.ok (S_free_Map.mk x2191 x2192) g99 B101 c102 x5328 e5330) ?_
                  rintro v5331 L5332 ⟨rfl, rfl⟩
                  refine G.move rfl rfl rfl rfl ?_
                  refine G.extract rfl rfl rfl rfl rfl ?_
                  refine G.extract rfl rfl rfl rfl rfl ?_
                  refine G.assign rfl rfl rfl rfl ?_
                  refine G.assign rfl rfl rfl rfl ?_
                  refine G.regionEnd ?_
                  refine G.seq ?_
                  refine G.region (l := [0, 1, 2]) rfl ?_
                  refine G.move rfl rfl rfl rfl ?_
                  refine G.len (m := t4289.length) rfl rfl rfl rfl Try.underlying28 ?_
                  refine G.move rfl rfl rfl rfl ?_
                  refine G.regionEnd ?_
                  refine G.block ?_
                  refine G.loop (fun GG K => ∀ (d5341 : Nat) (x5333 : Int), armoirelaw06_FreeWaits.l1 x2193 (armoirelaw06_FreeWaits.l0 a1 t1 d4277) t4289 x5328 t5329 d5341 x5333 = some r → GG H [(5, .bool t1), (6, .pointer (some ⟨g99, 0, none⟩)), (11, .int .i64 x5328), (12, .int .i64 t5329.1), (13, .int .i64 t5329.2.1), (51, .slice A1 a1.length n1), (52, .int .i64 (a1.length : Int)), (53, .int .i64 x2193), (79, .slice B4293 t4289.length c4294), (80, .int .i64 (t4289.length : Int)), (81, .int .i64 x5333)] (OS 54 Kd.u8 B101 c102 t5329.2.2.kinds :: BK 53 K_R_free_Map g99 (R_free_Map.mk t5329.2.2.from_ (B101, t5329.2.2.kinds.length, c102)) :: OS 3 (Kd.int .i64) B4293 c4294 t4289 :: Fr) K) ?_ ?_
                  · intro d5341
                    induction d5341 with
                    | zero => intro x5333 h; rw [armoirelaw06_FreeWaits.l1] at h; cases h
                    | succ d5341 ih5340 =>
                      intro x5333 h
                      rw [armoirelaw06_FreeWaits.l1] at h
                      refine G.seq ?_
                      refine G.region (l := [0]) rfl ?_
                      refine G.cmp (x5333 < (t4289.length : Int)) rfl rfl rfl rfl rfl rfl Iff.rfl ?_
                      refine G.regionEnd ?_
                      refine G.seq ?_
                      refine G.condP rfl (fun k5348 => ?_) (fun k5348 => ?_)
                      · replace h := ifT h k5348
                        refine G.skip ?_
                        refine G.seq ?_
                        refine G.block ?_
                        refine G.seq ?_
                        refine G.region (l := [0, 1, 2]) rfl ?_
                        obtain ⟨k5344, h⟩ := guardS h
                        have q5343 : x5333.toNat < t4289.length := by omega
                        refine G.indexO (xs := t4289) (j := x5333) (off := x5333.toNat * 1) rfl rfl rfl rfl rfl el28 (r := 2) rfl (by simp) k5344 rfl ?_
                        refine G.loadI (y := t4289.getD x5333.toNat 0) rfl rfl rfl rfl ty3 (fun w hs => Rd.osG q5343 (Lens.id _ _) hs (j := 2) rfl (o := x5333.toNat * 1) (by first | rfl | simp)) ?_
                        refine G.assign rfl rfl rfl rfl ?_
                        refine G.regionEnd ?_
                        refine G.seq ?_
                        refine G.region (l := [0, 1, 2, 3, 4, 5, 6, 7, 8, 9, 10, 11, 12, 13]) rfl ?_
                        refine G.move rfl rfl rfl rfl ?_
                        refine G.cmp (t5329.2.1 = 0) rfl rfl rfl rfl rfl rfl Iff.rfl ?_
                        refine G.move rfl rfl rfl rfl ?_
                        refine G.splitP (d := 87) rfl (fun k5347 => ?_) (fun k5347 => ?_)
                        · replace h := ifT h k5347
                          refine G.move rfl rfl rfl rfl ?_
                          refine G.move rfl rfl rfl rfl ?_
                          refine G.cmp (t5329.1 ≤ (t4289.getD x5333.toNat 0)) rfl rfl rfl rfl rfl rfl Iff.rfl ?_
                          refine G.pickT rfl rfl rfl rfl rfl ?_
                          refine G.move rfl rfl rfl rfl ?_
                          refine G.splitP (d := 92) rfl (fun k5346 => ?_) (fun k5346 => ?_)
                          · replace h := ifT h k5346
                            refine G.move rfl rfl rfl rfl ?_
                            refine G.move rfl rfl rfl rfl ?_
                            refine G.move rfl rfl rfl rfl ?_
                            refine G.bin (m := t5329.1) (n := x5328) (r := wi64 (t5329.1 + x5328)) rfl rfl rfl rfl rfl rfl rfl ?_
                            refine G.cmp ((t4289.getD x5333.toNat 0) < (wi64 (t5329.1 + x5328))) rfl rfl rfl rfl rfl rfl Iff.rfl ?_
                            refine G.pickT rfl rfl rfl rfl rfl ?_
                            refine G.regionEnd ?_
                            refine G.condP rfl (fun k5345 => ?_) (fun k5345 => ?_)
                            · replace h := ifT h k5345
                              refine G.seq ?_
                              refine G.region (l := [0]) rfl ?_
                              refine G.assign rfl rfl rfl rfl ?_
                              refine G.regionEnd ?_
                              refine G.drop ?_
                              refine G.drop ?_
                              refine G.drop ?_
                              obtain rfl := Option.some.inj h
                              exact G.ret1 Try.func3 rfl rfl (fun w hs => ⟨_, _, rfl, ⟨rfl, rfl⟩, hs⟩)
                            · replace h := ifF h k5345
                              refine G.skip ?_
                              refine G.inBlock ?_
                              refine G.region (l := [0, 1]) rfl ?_
                              refine G.bin (m := x5333) (n := 1) (r := wi64 (x5333 + 1)) rfl rfl rfl rfl rfl rfl rfl ?_
                              refine G.move rfl rfl rfl rfl ?_
                              refine G.regionEnd ?_
                              refine G.round ?_
                              refine G.frontAt 2 rfl ?_
                              refine G.frontAt 2 rfl ?_
                              refine G.frontAt 2 rfl ?_
                              refine G.less ?_ (ih5340  (wi64 (x5333 + 1)) h)
                              exact ⟨rfl, rfl, rfl, rfl, rfl, rfl, rfl, rfl, rfl, rfl, rfl, trivial⟩
                          · replace h := ifF h k5346
                            refine G.unwanted rfl rfl rfl rfl ?_
                            refine G.unwanted rfl rfl rfl rfl ?_
                            refine G.unwanted rfl rfl rfl rfl ?_
                            refine G.unwanted rfl rfl rfl rfl ?_
                            refine G.unwanted rfl rfl rfl rfl ?_
                            refine G.pickF rfl rfl rfl rfl rfl ?_
                            refine G.regionEnd ?_
                            refine G.condF rfl ?_
                            refine G.skip ?_
                            refine G.inBlock ?_
                            refine G.region (l := [0, 1]) rfl ?_
                            refine G.bin (m := x5333) (n := 1) (r := wi64 (x5333 + 1)) rfl rfl rfl rfl rfl rfl rfl ?_
                            refine G.move rfl rfl rfl rfl ?_
                            refine G.regionEnd ?_
                            refine G.round ?_
                            refine G.frontAt 2 rfl ?_
                            refine G.frontAt 2 rfl ?_
                            refine G.frontAt 2 rfl ?_
                            refine G.less ?_ (ih5340  (wi64 (x5333 + 1)) h)
                            exact ⟨rfl, rfl, rfl, rfl, rfl, rfl, rfl, rfl, rfl, rfl, rfl, trivial⟩
                        · replace h := ifF h k5347
                          refine G.unwanted rfl rfl rfl rfl ?_
                          refine G.unwanted rfl rfl rfl rfl ?_
                          refine G.unwanted rfl rfl rfl rfl ?_
                          refine G.pickF rfl rfl rfl rfl rfl ?_
                          refine G.move rfl rfl rfl rfl ?_
                          refine G.unwanted rfl rfl rfl rfl ?_
                          refine G.unwanted rfl rfl rfl rfl ?_
                          refine G.unwanted rfl rfl rfl rfl ?_
                          refine G.unwanted rfl rfl rfl rfl ?_
                          refine G.unwanted rfl rfl rfl rfl ?_
                          refine G.pickF rfl rfl rfl rfl rfl ?_
                          refine G.regionEnd ?_
                          refine G.condF rfl ?_
                          refine G.skip ?_
                          refine G.inBlock ?_
                          refine G.region (l := [0, 1]) rfl ?_
                          refine G.bin (m := x5333) (n := 1) (r := wi64 (x5333 + 1)) rfl rfl rfl rfl rfl rfl rfl ?_
                          refine G.move rfl rfl rfl rfl ?_
                          refine G.regionEnd ?_
                          refine G.round ?_
                          refine G.frontAt 2 rfl ?_
                          refine G.frontAt 2 rfl ?_
                          refine G.frontAt 2 rfl ?_
                          refine G.less ?_ (ih5340  (wi64 (x5333 + 1)) h)
                          exact ⟨rfl, rfl, rfl, rfl, rfl, rfl, rfl, rfl, rfl, rfl, rfl, trivial⟩
                      · replace h := ifF h k5348
                        refine G.exit rfl ?_
                        refine G.inBlock ?_
                        refine G.inBlock ?_
                        refine G.region (l := [0, 1]) rfl ?_
                        refine G.bin (m := x2193) (n := 1) (r := wi64 (x2193 + 1)) rfl rfl rfl rfl rfl rfl rfl ?_
                        refine G.move rfl rfl rfl rfl ?_
                        refine G.regionEnd ?_
                        refine G.round ?_
                        refine G.frontAt 2 rfl ?_
                        refine G.drop ?_
                        refine G.frontAt 1 rfl ?_
                        refine G.frontAt 1 rfl ?_
                        refine G.less ?_ (ih4276  t5329.2.2.from_ t5329.2.2.kinds (wi64 (x2193 + 1)) h)
                        exact ⟨rfl, rfl, rfl, rfl, rfl, trivial⟩
                  intro J5349
                  refine G.frontAt 2 rfl ?_
                  refine G.frontAt 1 rfl ?_
                  refine G.frontAt 2 rfl ?_
                  refine G.less ?_ (J5349 FUEL  0 h)
                  exact ⟨rfl, rfl, rfl, rfl, rfl, rfl, rfl, rfl, rfl, rfl, rfl, trivial⟩
                intro J5350
                refine G.condP rfl (fun k5351 => ?_) (fun k5351 => ?_)
                · replace h := ifT h k5351
                  refine G.region (l := [0, 1, 2, 3, 4, 5, 6]) rfl ?_
                  refine G.field (off' := 1) rfl rfl rfl rfl Try.underlying30 rfl sz3 rfl rfl ?_
                  refine G.loadI (y := (a1.getD x2193.toNat (S_armoirelaw06_Op.mk 0 0 [] false)).n) rfl rfl rfl rfl ty3 (fun w hs => Rd.bk (R_armoirelaw06_Op.L_n _) hs (j := 2) rfl) ?_
                  refine G.div (m := (a1.getD x2193.toNat (S_armoirelaw06_Op.mk 0 0 [] false)).n) (n := 5) (r := Int.tmod ((a1.getD x2193.toNat (S_armoirelaw06_Op.mk 0 0 [] false)).n) 5) rfl rfl rfl rfl rfl rfl (by decide) rfl ?_
                  refine G.bin (m := Int.tmod ((a1.getD x2193.toNat (S_armoirelaw06_Op.mk 0 0 [] false)).n) 5) (n := 5) (r := wi64 ((Int.tmod ((a1.getD x2193.toNat (S_armoirelaw06_Op.mk 0 0 [] false)).n) 5) + 5)) rfl rfl rfl rfl rfl rfl rfl ?_
                  refine G.div (m := wi64 ((Int.tmod ((a1.getD x2193.toNat (S_armoirelaw06_Op.mk 0 0 [] false)).n) 5) + 5)) (n := 5) (r := Int.tmod (wi64 ((Int.tmod ((a1.getD x2193.toNat (S_armoirelaw06_Op.mk 0 0 [] false)).n) 5) + 5)) 5) rfl rfl rfl rfl rfl rfl (by decide) rfl ?_
                  refine G.bin (m := 1) (n := Int.tmod (wi64 ((Int.tmod ((a1.getD x2193.toNat (S_armoirelaw06_Op.mk 0 0 [] false)).n) 5) + 5)) 5) (r := wi64 (1 + (Int.tmod (wi64 ((Int.tmod ((a1.getD x2193.toNat (S_armoirelaw06_Op.mk 0 0 [] false)).n) 5) + 5)) 5))) rfl rfl rfl rfl rfl rfl rfl ?_
                  refine G.assign rfl rfl rfl rfl ?_
                  refine G.regionEnd ?_
                  refine G.frontAt 2 rfl ?_
                  refine G.drop ?_
                  refine G.frontAt 2 rfl ?_
                  refine G.frontAt 2 rfl ?_
                  refine G.frontAt 2 rfl ?_
                  refine G.less ?_ (J5350  (wi64 (1 + (Int.tmod (wi64 ((Int.tmod ((a1.getD x2193.toNat (S_armoirelaw06_Op.mk 0 0 [] false)).n) 5) + 5)) 5))) h)
                  exact ⟨rfl, rfl, rfl, rfl, rfl, rfl, rfl, trivial⟩
                · replace h := ifF h k5351
                  refine G.skip ?_
                  refine G.frontAt 2 rfl ?_
                  refine G.drop ?_
                  refine G.frontAt 2 rfl ?_
                  refine G.frontAt 2 rfl ?_
                  refine G.frontAt 2 rfl ?_
                  refine G.less ?_ (J5350  1 h)
                  exact ⟨rfl, rfl, rfl, rfl, rfl, rfl, rfl, trivial⟩
              · replace h := ifFB h k6357
                refine G.seq ?_
                refine G.region (l := [0, 1]) rfl ?_
                refine G.cmp (((a1.getD x2193.toNat (S_armoirelaw06_Op.mk 0 0 [] false)).do_) = 3) rfl rfl rfl rfl rfl rfl Iff.rfl ?_
                refine G.assign rfl rfl rfl rfl ?_
                refine G.regionEnd ?_
                refine G.condP rfl (fun k6356 => ?_) (fun k6356 => ?_)
                · replace h := ifT h k6356
                  refine G.region (l := [0, 1, 2, 3]) rfl ?_
                  refine G.move rfl rfl rfl rfl ?_
                  refine G.field (off' := 1) rfl rfl rfl rfl Try.underlying30 rfl sz3 rfl rfl ?_
                  refine G.loadI (y := (a1.getD x2193.toNat (S_armoirelaw06_Op.mk 0 0 [] false)).n) rfl rfl rfl rfl ty3 (fun w hs => Rd.bk (R_armoirelaw06_Op.L_n _) hs (j := 2) rfl) ?_
                  refine G.frontAt 1 rfl ?_
                  obtain ⟨t5855, e5856, h⟩ := bindS h
                  refine G.callS rfl rfl rfl rfl call11 (free_Map_Defer.ok (S_free_Map.mk x2191 x2192) g99 B101 c102 ((a1.getD x2193.toNat (S_armoirelaw06_Op.mk 0 0 [] false)).n) e5856) ?_
                  rintro v5857 L5858 ⟨rfl, rfl⟩
                  refine G.regionEnd ?_
                  refine G.inBlock ?_
                  refine G.inBlock ?_
                  refine G.region (l := [0, 1]) rfl ?_
                  refine G.bin (m := x2193) (n := 1) (r := wi64 (x2193 + 1)) rfl rfl rfl rfl rfl rfl rfl ?_
                  refine G.move rfl rfl rfl rfl ?_
                  refine G.regionEnd ?_
                  refine G.round ?_
                  refine G.frontAt 2 rfl ?_
                  refine G.drop ?_
                  refine G.frontAt 2 rfl ?_
                  refine G.drop ?_
                  refine G.frontAt 1 rfl ?_
                  refine G.less ?_ (ih4276  t5855.2.from_ t5855.2.kinds (wi64 (x2193 + 1)) h)
                  exact ⟨rfl, rfl, rfl, rfl, rfl, trivial⟩
                · replace h := ifF h k6356
                  refine G.seq ?_
                  refine G.region (l := [0, 1]) rfl ?_
                  refine G.cmp (((a1.getD x2193.toNat (S_armoirelaw06_Op.mk 0 0 [] false)).do_) = 4) rfl rfl rfl rfl rfl rfl Iff.rfl ?_
                  refine G.assign rfl rfl rfl rfl ?_
                  refine G.regionEnd ?_
                  refine G.condP rfl (fun k6355 => ?_) (fun k6355 => ?_)
                  · replace h := ifT h k6355
                    refine G.seq ?_
                    refine G.region (l := [0, 1, 2, 3]) rfl ?_
                    refine G.move rfl rfl rfl rfl ?_
                    refine G.field (off' := 2) rfl rfl rfl rfl Try.underlying30 rfl sz28 rfl rfl ?_
                    refine G.loadH (B := B4284) (m := ((a1.getD x2193.toNat (S_armoirelaw06_Op.mk 0 0 [] false)).keep).length) (c := c4285) rfl rfl rfl rfl ty28r (fun w hs => Rd.bk (R_armoirelaw06_Op.L_keep _) hs (j := 2) rfl) ?_
                    refine G.frontAt 1 rfl ?_
                    obtain ⟨t6108, e6109, h⟩ := bindS h
                    refine G.callS rfl rfl rfl rfl call12 (free_Map_Sweep.ok (S_free_Map.mk x2191 x2192) g99 B101 c102 ((a1.getD x2193.toNat (S_armoirelaw06_Op.mk 0 0 [] false)).keep) B4284 c4285 f4286 e6109) ?_
                    rintro v6110 L6111 ⟨rfl, rfl⟩
                    refine G.regionEnd ?_
                    refine G.seq ?_
                    refine G.region (l := [0, 1, 2]) rfl ?_
                    refine G.move rfl rfl rfl rfl ?_
                    refine G.len (m := t4289.length) rfl rfl rfl rfl Try.underlying28 ?_
                    refine G.move rfl rfl rfl rfl ?_
                    refine G.regionEnd ?_
                    refine G.block ?_
                    refine G.loop (fun GG K => ∀ (d6233 : Nat) (x6112 : Int), armoirelaw06_FreeWaits.l2 a1 x2193 (armoirelaw06_FreeWaits.l0 a1 t1 d4277) t4289 t6108 d6233 x6112 = some r → GG H [(5, .bool t1), (6, .pointer (some ⟨g99, 0, none⟩)), (9, .pointer (some ⟨g4287, 0, none⟩)), (51, .slice A1 a1.length n1), (52, .int .i64 (a1.length : Int)), (53, .int .i64 x2193), (112, .slice B4293 t4289.length c4294), (113, .int .i64 (t4289.length : Int)), (114, .int .i64 x6112)] (OS 54 Kd.u8 B101 c102 t6108.2.kinds :: BK 53 K_R_free_Map g99 (R_free_Map.mk t6108.2.from_ (B101, t6108.2.kinds.length, c102)) :: BK 30 K_R_armoirelaw06_Op g4287 (R_armoirelaw06_Op.mk ((a1.getD x2193.toNat (S_armoirelaw06_Op.mk 0 0 [] false)).do_) ((a1.getD x2193.toNat (S_armoirelaw06_Op.mk 0 0 [] false)).n) (B4284, ((a1.getD x2193.toNat (S_armoirelaw06_Op.mk 0 0 [] false)).keep).length, c4285) ((a1.getD x2193.toNat (S_armoirelaw06_Op.mk 0 0 [] false)).clone)) :: OS 3 (Kd.int .i64) B4293 c4294 t4289 :: Fr) K) ?_ ?_
                    · intro d6233
                      induction d6233 with
                      | zero => intro x6112 h; rw [armoirelaw06_FreeWaits.l2] at h; cases h
                      | succ d6233 ih6232 =>
                        intro x6112 h
                        rw [armoirelaw06_FreeWaits.l2] at h
                        refine G.seq ?_
                        refine G.region (l := [0]) rfl ?_
                        refine G.cmp (x6112 < (t4289.length : Int)) rfl rfl rfl rfl rfl rfl Iff.rfl ?_
                        refine G.regionEnd ?_
                        refine G.seq ?_
                        refine G.condP rfl (fun k6353 => ?_) (fun k6353 => ?_)
                        · replace h := ifT h k6353
                          refine G.skip ?_
                          refine G.seq ?_
                          refine G.block ?_
                          refine G.seq ?_
                          refine G.region (l := [0, 1, 2]) rfl ?_
                          obtain ⟨k6236, h⟩ := guardS h
                          have q6235 : x6112.toNat < t4289.length := by omega
                          refine G.indexO (xs := t4289) (j := x6112) (off := x6112.toNat * 1) rfl rfl rfl rfl rfl el28 (r := 3) rfl (by simp) k6236 rfl ?_
                          refine G.loadI (y := t4289.getD x6112.toNat 0) rfl rfl rfl rfl ty3 (fun w hs => Rd.osG q6235 (Lens.id _ _) hs (j := 3) rfl (o := x6112.toNat * 1) (by first | rfl | simp)) ?_
                          refine G.assign rfl rfl rfl rfl ?_
                          refine G.regionEnd ?_
                          refine G.seq ?_
                          refine G.region (l := [0]) rfl ?_
                          refine G.assign rfl rfl rfl rfl ?_
                          refine G.regionEnd ?_
                          refine G.seq ?_
                          refine G.seq ?_
                          refine G.region (l := [0, 1, 2, 3]) rfl ?_
                          refine G.field (off' := 2) rfl rfl rfl rfl Try.underlying30 rfl sz28 rfl rfl ?_
                          refine G.loadH (B := B4284) (m := ((a1.getD x2193.toNat (S_armoirelaw06_Op.mk 0 0 [] false)).keep).length) (c := c4285) rfl rfl rfl rfl ty28r (fun w hs => Rd.bk (R_armoirelaw06_Op.L_keep _) hs (j := 2) rfl) ?_
                          refine G.len (m := ((a1.getD x2193.toNat (S_armoirelaw06_Op.mk 0 0 [] false)).keep).length) rfl rfl rfl rfl Try.underlying28 ?_
                          refine G.move rfl rfl rfl rfl ?_
                          refine G.regionEnd ?_
                          refine G.block ?_
                          refine G.loop (fun GG K => ∀ (d6295 : Nat) (b6237 : Bool) (x6238 : Int), armoirelaw06_FreeWaits.l3 a1 x2193 t4289 t6108 x6112 (armoirelaw06_FreeWaits.l2 a1 x2193 (armoirelaw06_FreeWaits.l0 a1 t1 d4277) t4289 t6108 d6233) d6295 b6237 x6238 = some r → GG H [(5, .bool t1), (6, .pointer (some ⟨g99, 0, none⟩)), (9, .pointer (some ⟨g4287, 0, none⟩)), (17, .int .i64 (t4289.getD x6112.toNat 0)), (18, .bool b6237), (51, .slice A1 a1.length n1), (52, .int .i64 (a1.length : Int)), (53, .int .i64 x2193), (112, .slice B4293 t4289.length c4294), (113, .int .i64 (t4289.length : Int)), (114, .int .i64 x6112), (119, .slice B4284 ((a1.getD x2193.toNat (S_armoirelaw06_Op.mk 0 0 [] false)).keep).length c4285), (120, .int .i64 (((a1.getD x2193.toNat (S_armoirelaw06_Op.mk 0 0 [] false)).keep).length : Int)), (121, .int .i64 x6238)] (OS 54 Kd.u8 B101 c102 t6108.2.kinds :: BK 53 K_R_free_Map g99 (R_free_Map.mk t6108.2.from_ (B101, t6108.2.kinds.length, c102)) :: BK 30 K_R_armoirelaw06_Op g4287 (R_armoirelaw06_Op.mk ((a1.getD x2193.toNat (S_armoirelaw06_Op.mk 0 0 [] false)).do_) ((a1.getD x2193.toNat (S_armoirelaw06_Op.mk 0 0 [] false)).n) (B4284, ((a1.getD x2193.toNat (S_armoirelaw06_Op.mk 0 0 [] false)).keep).length, c4285) ((a1.getD x2193.toNat (S_armoirelaw06_Op.mk 0 0 [] false)).clone)) :: OS 3 (Kd.int .i64) B4293 c4294 t4289 :: Fr) K) ?_ ?_
                          · intro d6295
                            induction d6295 with
                            | zero => intro b6237 x6238 h; rw [armoirelaw06_FreeWaits.l3] at h; cases h
                            | succ d6295 ih6294 =>
                              intro b6237 x6238 h
                              rw [armoirelaw06_FreeWaits.l3] at h
                              refine G.seq ?_
                              refine G.region (l := [0]) rfl ?_
                              refine G.cmp (x6238 < (((a1.getD x2193.toNat (S_armoirelaw06_Op.mk 0 0 [] false)).keep).length : Int)) rfl rfl rfl rfl rfl rfl Iff.rfl ?_
                              refine G.regionEnd ?_
                              refine G.seq ?_
                              refine G.condP rfl (fun k6351 => ?_) (fun k6351 => ?_)
                              · replace h := ifT h k6351
                                refine G.skip ?_
                                refine G.seq ?_
                                refine G.block ?_
                                refine G.seq ?_
                                refine G.region (l := [0, 1, 2]) rfl ?_
                                obtain ⟨k6324, h⟩ := guardS h
                                refine G.indexR (xs := (a1.getD x2193.toNat (S_armoirelaw06_Op.mk 0 0 [] false)).keep) (j := x6238) 0 rfl rfl rfl rfl rfl el28 f4286 k6324 ?_
                                intro a6322 f6323
                                refine G.loadI (y := ((a1.getD x2193.toNat (S_armoirelaw06_Op.mk 0 0 [] false)).keep).getD x6238.toNat 0) rfl rfl rfl rfl ty3 (fun w hs => Rd.ro f6323 hs) ?_
                                refine G.assign rfl rfl rfl rfl ?_
                                refine G.regionEnd ?_
                                refine G.region (l := [0, 1, 2, 3, 4, 5, 6]) rfl ?_
                                refine G.move rfl rfl rfl rfl ?_
                                refine G.move rfl rfl rfl rfl ?_
                                refine G.splitB (d := 126) rfl (fun k6325 => ?_) (fun k6325 => ?_)
                                · replace h := ifT h k6325
                                  refine G.unwanted rfl rfl rfl rfl ?_
                                  refine G.unwanted rfl rfl rfl rfl ?_
                                  refine G.unwanted rfl rfl rfl rfl ?_
                                  refine G.pickT rfl rfl rfl rfl rfl ?_
                                  refine G.assign rfl rfl rfl rfl ?_
                                  refine G.regionEnd ?_
                                  refine G.inBlock ?_
                                  refine G.region (l := [0, 1]) rfl ?_
                                  refine G.bin (m := x6238) (n := 1) (r := wi64 (x6238 + 1)) rfl rfl rfl rfl rfl rfl rfl ?_
                                  refine G.move rfl rfl rfl rfl ?_
                                  refine G.regionEnd ?_
                                  refine G.round ?_
                                  refine G.frontAt 3 rfl ?_
                                  refine G.frontAt 3 rfl ?_
                                  refine G.frontAt 3 rfl ?_
                                  refine G.frontAt 3 rfl ?_
                                  refine G.less ?_ (ih6294  true (wi64 (x6238 + 1)) h)
                                  exact ⟨rfl, rfl, rfl, rfl, rfl, rfl, rfl, rfl, rfl, rfl, rfl, rfl, rfl, rfl, trivial⟩
                                · replace h := ifFB h k6325
                                  refine G.move rfl rfl rfl rfl ?_
                                  refine G.move rfl rfl rfl rfl ?_
                                  refine G.cmp ((((a1.getD x2193.toNat (S_armoirelaw06_Op.mk 0 0 [] false)).keep).getD x6238.toNat 0) = (t4289.getD x6112.toNat 0)) rfl rfl rfl rfl rfl rfl Iff.rfl ?_
                                  refine G.pickF rfl rfl rfl rfl rfl ?_
                                  refine G.assign rfl rfl rfl rfl ?_
                                  refine G.regionEnd ?_
                                  refine G.inBlock ?_
                                  refine G.region (l := [0, 1]) rfl ?_
                                  refine G.bin (m := x6238) (n := 1) (r := wi64 (x6238 + 1)) rfl rfl rfl rfl rfl rfl rfl ?_
                                  refine G.move rfl rfl rfl rfl ?_
                                  refine G.regionEnd ?_
                                  refine G.round ?_
                                  refine G.frontAt 3 rfl ?_
                                  refine G.frontAt 3 rfl ?_
                                  refine G.frontAt 3 rfl ?_
                                  refine G.frontAt 3 rfl ?_
                                  refine G.less ?_ (ih6294  (decide ((((a1.getD x2193.toNat (S_armoirelaw06_Op.mk 0 0 [] false)).keep).getD x6238.toNat 0) = (t4289.getD x6112.toNat 0))) (wi64 (x6238 + 1)) h)
                                  exact ⟨rfl, rfl, rfl, rfl, rfl, rfl, rfl, rfl, rfl, rfl, rfl, rfl, rfl, rfl, trivial⟩
                              · replace h := ifF h k6351
                                refine G.exit rfl ?_
                                refine G.seq ?_
                                refine G.region (l := [0]) rfl ?_
                                refine G.assign rfl rfl rfl rfl ?_
                                refine G.regionEnd ?_
                                refine G.seq ?_
                                refine G.seq ?_
                                refine G.region (l := [0, 1, 2, 3]) rfl ?_
                                refine G.move rfl rfl rfl rfl ?_
                                refine G.frontAt 1 rfl ?_
                                obtain ⟨t6326, e6327, h⟩ := bindS h
                                refine G.callS rfl rfl rfl rfl call9 (free_Map_Waiting.ok t6108.2 g99 B101 c102 e6327) ?_
                                rintro v6328 L6329 ⟨B6330, c6331, rfl, rfl⟩
                                refine G.len (m := t6326.length) rfl rfl rfl rfl Try.underlying28 ?_
                                refine G.move rfl rfl rfl rfl ?_
                                refine G.regionEnd ?_
                                refine G.block ?_
                                refine G.loop (fun GG K => ∀ (d6342 : Nat) (b6333 : Bool) (x6334 : Int), armoirelaw06_FreeWaits.l4 t4289 x6112 (armoirelaw06_FreeWaits.l2 a1 x2193 (armoirelaw06_FreeWaits.l0 a1 t1 d4277) t4289 t6108 d6233) b6237 t6326 d6342 b6333 x6334 = some r → GG H [(5, .bool t1), (6, .pointer (some ⟨g99, 0, none⟩)), (9, .pointer (some ⟨g4287, 0, none⟩)), (17, .int .i64 (t4289.getD x6112.toNat 0)), (18, .bool b6237), (21, .bool b6333), (51, .slice A1 a1.length n1), (52, .int .i64 (a1.length : Int)), (53, .int .i64 x2193), (112, .slice B4293 t4289.length c4294), (113, .int .i64 (t4289.length : Int)), (114, .int .i64 x6112), (133, .slice B6330 t6326.length c6331), (134, .int .i64 (t6326.length : Int)), (135, .int .i64 x6334)] (OS 54 Kd.u8 B101 c102 t6108.2.kinds :: BK 53 K_R_free_Map g99 (R_free_Map.mk t6108.2.from_ (B101, t6108.2.kinds.length, c102)) :: BK 30 K_R_armoirelaw06_Op g4287 (R_armoirelaw06_Op.mk ((a1.getD x2193.toNat (S_armoirelaw06_Op.mk 0 0 [] false)).do_) ((a1.getD x2193.toNat (S_armoirelaw06_Op.mk 0 0 [] false)).n) (B4284, ((a1.getD x2193.toNat (S_armoirelaw06_Op.mk 0 0 [] false)).keep).length, c4285) ((a1.getD x2193.toNat (S_armoirelaw06_Op.mk 0 0 [] false)).clone)) :: OS 3 (Kd.int .i64) B4293 c4294 t4289 :: OS 3 (Kd.int .i64) B6330 c6331 t6326 :: Fr) K) ?_ ?_
                                · intro d6342
                                  induction d6342 with
                                  | zero => intro b6333 x6334 h; rw [armoirelaw06_FreeWaits.l4] at h; cases h
                                  | succ d6342 ih6341 =>
                                    intro b6333 x6334 h
                                    rw [armoirelaw06_FreeWaits.l4] at h
                                    refine G.seq ?_
                                    refine G.region (l := [0]) rfl ?_
                                    refine G.cmp (x6334 < (t6326.length : Int)) rfl rfl rfl rfl rfl rfl Iff.rfl ?_
                                    refine G.regionEnd ?_
                                    refine G.seq ?_
                                    refine G.condP rfl (fun k6349 => ?_) (fun k6349 => ?_)
                                    · replace h := ifT h k6349
                                      refine G.skip ?_
                                      refine G.seq ?_
                                      refine G.block ?_
                                      refine G.seq ?_
                                      refine G.region (l := [0, 1, 2]) rfl ?_
                                      obtain ⟨k6346, h⟩ := guardS h
                                      have q6345 : x6334.toNat < t6326.length := by omega
                                      refine G.indexO (xs := t6326) (j := x6334) (off := x6334.toNat * 1) rfl rfl rfl rfl rfl el28 (r := 4) rfl (by simp) k6346 rfl ?_
                                      refine G.loadI (y := t6326.getD x6334.toNat 0) rfl rfl rfl rfl ty3 (fun w hs => Rd.osG q6345 (Lens.id _ _) hs (j := 4) rfl (o := x6334.toNat * 1) (by first | rfl | simp)) ?_
                                      refine G.assign rfl rfl rfl rfl ?_
                                      refine G.regionEnd ?_
                                      refine G.region (l := [0, 1, 2, 3, 4, 5, 6]) rfl ?_
                                      refine G.move rfl rfl rfl rfl ?_
                                      refine G.move rfl rfl rfl rfl ?_
                                      refine G.splitB (d := 140) rfl (fun k6347 => ?_) (fun k6347 => ?_)
                                      · replace h := ifT h k6347
                                        refine G.unwanted rfl rfl rfl rfl ?_
                                        refine G.unwanted rfl rfl rfl rfl ?_
                                        refine G.unwanted rfl rfl rfl rfl ?_
                                        refine G.pickT rfl rfl rfl rfl rfl ?_
                                        refine G.assign rfl rfl rfl rfl ?_
                                        refine G.regionEnd ?_
                                        refine G.inBlock ?_
                                        refine G.region (l := [0, 1]) rfl ?_
                                        refine G.bin (m := x6334) (n := 1) (r := wi64 (x6334 + 1)) rfl rfl rfl rfl rfl rfl rfl ?_
                                        refine G.move rfl rfl rfl rfl ?_
                                        refine G.regionEnd ?_
                                        refine G.round ?_
                                        refine G.frontAt 4 rfl ?_
                                        refine G.frontAt 4 rfl ?_
                                        refine G.frontAt 4 rfl ?_
                                        refine G.frontAt 4 rfl ?_
                                        refine G.frontAt 4 rfl ?_
                                        refine G.less ?_ (ih6341  true (wi64 (x6334 + 1)) h)
                                        exact ⟨rfl, rfl, rfl, rfl, rfl, rfl, rfl, rfl, rfl, rfl, rfl, rfl, rfl, rfl, rfl, trivial⟩
                                      · replace h := ifFB h k6347
                                        refine G.move rfl rfl rfl rfl ?_
                                        refine G.move rfl rfl rfl rfl ?_
                                        refine G.cmp ((t6326.getD x6334.toNat 0) = (t4289.getD x6112.toNat 0)) rfl rfl rfl rfl rfl rfl Iff.rfl ?_
                                        refine G.pickF rfl rfl rfl rfl rfl ?_
                                        refine G.assign rfl rfl rfl rfl ?_
                                        refine G.regionEnd ?_
                                        refine G.inBlock ?_
                                        refine G.region (l := [0, 1]) rfl ?_
                                        refine G.bin (m := x6334) (n := 1) (r := wi64 (x6334 + 1)) rfl rfl rfl rfl rfl rfl rfl ?_
                                        refine G.move rfl rfl rfl rfl ?_
                                        refine G.regionEnd ?_
                                        refine G.round ?_
                                        refine G.frontAt 4 rfl ?_
                                        refine G.frontAt 4 rfl ?_
                                        refine G.frontAt 4 rfl ?_
                                        refine G.frontAt 4 rfl ?_
                                        refine G.frontAt 4 rfl ?_
                                        refine G.less ?_ (ih6341  (decide ((t6326.getD x6334.toNat 0) = (t4289.getD x6112.toNat 0))) (wi64 (x6334 + 1)) h)
                                        exact ⟨rfl, rfl, rfl, rfl, rfl, rfl, rfl, rfl, rfl, rfl, rfl, rfl, rfl, rfl, rfl, trivial⟩
                                    · replace h := ifF h k6349
                                      refine G.exit rfl ?_
                                      refine G.seq ?_
                                      refine G.region (l := [0, 1, 2]) rfl ?_
                                      refine G.move rfl rfl rfl rfl ?_
                                      refine G.move rfl rfl rfl rfl ?_
                                      refine G.cmpBn (a := b6237) (b := b6333) (r := (b6237 != b6333)) rfl rfl rfl rfl rfl Try.underlying4 rfl ?_
                                      refine G.regionEnd ?_
                                      refine G.cond rfl (fun k6348 => ?_) (fun k6348 => ?_)
                                      · replace h := ifT h k6348
                                        refine G.seq ?_
                                        refine G.region (l := [0]) rfl ?_
                                        refine G.assign rfl rfl rfl rfl ?_
                                        refine G.regionEnd ?_
                                        refine G.drop ?_
                                        refine G.drop ?_
                                        refine G.drop ?_
                                        refine G.drop ?_
                                        refine G.drop ?_
                                        obtain rfl := Option.some.inj h
                                        exact G.ret1 Try.func3 rfl rfl (fun w hs => ⟨_, _, rfl, ⟨rfl, rfl⟩, hs⟩)
                                      · replace h := ifFB h k6348
                                        refine G.skip ?_
                                        refine G.inBlock ?_
                                        refine G.region (l := [0, 1]) rfl ?_
                                        refine G.bin (m := x6112) (n := 1) (r := wi64 (x6112 + 1)) rfl rfl rfl rfl rfl rfl rfl ?_
                                        refine G.move rfl rfl rfl rfl ?_
                                        refine G.regionEnd ?_
                                        refine G.round ?_
                                        refine G.frontAt 4 rfl ?_
                                        refine G.drop ?_
                                        refine G.frontAt 3 rfl ?_
                                        refine G.frontAt 3 rfl ?_
                                        refine G.frontAt 3 rfl ?_
                                        refine G.frontAt 3 rfl ?_
                                        refine G.less ?_ (ih6232  (wi64 (x6112 + 1)) h)
                                        exact ⟨rfl, rfl, rfl, rfl, rfl, rfl, rfl, rfl, rfl, trivial⟩
                                intro J6350
                                refine G.frontAt 2 rfl ?_
                                refine G.frontAt 4 rfl ?_
                                refine G.frontAt 4 rfl ?_
                                refine G.frontAt 3 rfl ?_
                                refine G.frontAt 4 rfl ?_
                                refine G.less ?_ (J6350 FUEL  false 0 h)
                                exact ⟨rfl, rfl, rfl, rfl, rfl, rfl, rfl, rfl, rfl, rfl, rfl, rfl, rfl, rfl, rfl, trivial⟩
                          intro J6352
                          refine G.frontAt 3 rfl ?_
                          refine G.frontAt 3 rfl ?_
                          refine G.frontAt 3 rfl ?_
                          refine G.frontAt 3 rfl ?_
                          refine G.less ?_ (J6352 FUEL  false 0 h)
                          exact ⟨rfl, rfl, rfl, rfl, rfl, rfl, rfl, rfl, rfl, rfl, rfl, rfl, rfl, rfl, trivial⟩
                        · replace h := ifF h k6353
                          refine G.exit rfl ?_
                          refine G.inBlock ?_
                          refine G.inBlock ?_
                          refine G.region (l := [0, 1]) rfl ?_
                          refine G.bin (m := x2193) (n := 1) (r := wi64 (x2193 + 1)) rfl rfl rfl rfl rfl rfl rfl ?_
                          refine G.move rfl rfl rfl rfl ?_
                          refine G.regionEnd ?_
                          refine G.round ?_
                          refine G.frontAt 2 rfl ?_
                          refine G.drop ?_
                          refine G.frontAt 2 rfl ?_
                          refine G.drop ?_
                          refine G.frontAt 1 rfl ?_
                          refine G.frontAt 1 rfl ?_
                          refine G.less ?_ (ih4276  t6108.2.from_ t6108.2.kinds (wi64 (x2193 + 1)) h)
                          exact ⟨rfl, rfl, rfl, rfl, rfl, trivial⟩
                    intro J6354
                    refine G.frontAt 3 rfl ?_
                    refine G.frontAt 3 rfl ?_
                    refine G.frontAt 2 rfl ?_
                    refine G.frontAt 3 rfl ?_
                    refine G.less ?_ (J6354 FUEL  0 h)
                    exact ⟨rfl, rfl, rfl, rfl, rfl, rfl, rfl, rfl, rfl, trivial⟩
                  · replace h := ifF h k6355
                    refine G.skip ?_
                    refine G.inBlock ?_
                    refine G.inBlock ?_
                    refine G.region (l := [0, 1]) rfl ?_
                    refine G.bin (m := x2193) (n := 1) (r := wi64 (x2193 + 1)) rfl rfl rfl rfl rfl rfl rfl ?_
                    refine G.move rfl rfl rfl rfl ?_
                    refine G.regionEnd ?_
                    refine G.round ?_
                    refine G.frontAt 2 rfl ?_
                    refine G.drop ?_
                    refine G.frontAt 2 rfl ?_
                    refine G.drop ?_
                    refine G.frontAt 1 rfl ?_
                    refine G.frontAt 1 rfl ?_
                    refine G.less ?_ (ih4276  x2191 x2192 (wi64 (x2193 + 1)) h)
                    exact ⟨rfl, rfl, rfl, rfl, rfl, trivial⟩
            intro J6358
            refine G.condP rfl (fun k6359 => ?_) (fun k6359 => ?_)
            · replace h := ifT h k6359
              refine G.skip ?_
              refine G.frontAt 2 rfl ?_
              refine G.frontAt 3 rfl ?_
              refine G.frontAt 2 rfl ?_
              refine G.frontAt 3 rfl ?_
              refine G.less ?_ (J6358  (decide (((a1.getD x2193.toNat (S_armoirelaw06_Op.mk 0 0 [] false)).do_) = 0)) h)
              exact ⟨rfl, rfl, rfl, rfl, rfl, rfl, rfl, rfl, rfl, trivial⟩
            · replace h := ifF h k6359
              refine G.region (l := [0, 1]) rfl ?_
              refine G.cmp (((a1.getD x2193.toNat (S_armoirelaw06_Op.mk 0 0 [] false)).do_) = 1) rfl rfl rfl rfl rfl rfl Iff.rfl ?_
              refine G.assign rfl rfl rfl rfl ?_
              refine G.regionEnd ?_
              refine G.frontAt 2 rfl ?_
              refine G.frontAt 3 rfl ?_
              refine G.frontAt 2 rfl ?_
              refine G.frontAt 3 rfl ?_
              refine G.less ?_ (J6358  (decide (((a1.getD x2193.toNat (S_armoirelaw06_Op.mk 0 0 [] false)).do_) = 1)) h)
              exact ⟨rfl, rfl, rfl, rfl, rfl, rfl, rfl, rfl, rfl, trivial⟩
          · replace h := ifF h k6360
            refine G.exit rfl ?_
            refine G.seq ?_
            refine G.region (l := [0, 1]) rfl ?_
            refine G.move rfl rfl rfl rfl ?_
            refine G.assign rfl rfl rfl rfl ?_
            refine G.regionEnd ?_
            refine G.drop ?_
            refine G.drop ?_
            obtain rfl := Option.some.inj h
            exact G.ret1 Try.func3 rfl rfl (fun w hs => ⟨_, _, rfl, ⟨rfl, rfl⟩, hs⟩)
      intro J6361
      refine G.frontAt 1 rfl ?_
      refine G.frontAt 1 rfl ?_
      refine G.less ?_ (J6361 FUEL  0 x103 0 h)
      exact ⟨rfl, rfl, rfl, rfl, rfl, trivial⟩
  intro J6363
  refine G.inl (n' := 62) rfl rfl rfl rfl call8 Try.func8 rfl Try.ntmps8 rfl rfl ?_
  intro R5 rt6
  refine G.seq ?_
  refine G.region (l := [0, 1, 2, 3]) rfl ?_
  refine G.box (dk := (Kd.int .i64)) (y := 0) rfl rfl rfl rfl ⟨([.int .i64 0] : List Value), rfl, rfl⟩ ?_
  intro g6364
  refine G.box (dk := (Kd.int .i64)) (y := wi64 (1 + (Int.tmod (wi64 ((Int.tmod a0 40) + 40)) 40))) rfl rfl rfl rfl ⟨([.int .i64 (wi64 (1 + (Int.tmod (wi64 ((Int.tmod a0 40) + 40)) 40)))] : List Value), rfl, rfl⟩ ?_
  intro g6366
  refine G.assign rfl rfl rfl rfl ?_
  refine G.assign rfl rfl rfl rfl ?_
  refine G.regionEnd ?_
  refine G.seq ?_
  refine G.region (l := [0, 1]) rfl ?_
  refine G.makeFunc (fs := []) (cs := [.pointer (some ⟨g6364, 0, none⟩), .pointer (some ⟨g6366, 0, none⟩)]) rfl rfl rfl rfl rfl ?_
  refine G.assign rfl rfl rfl rfl ?_
  refine G.regionEnd ?_
  refine G.seq ?_
  refine G.seq ?_
  refine G.region (l := [0, 1, 2, 3, 4, 5, 6, 7, 8, 9, 10, 11, 12, 13, 14, 15]) rfl ?_
  refine G.loadI (y := 0) rfl rfl rfl rfl ty3 (fun w hs => Rd.bk (Lens.id _ _) hs (j := 1) rfl) ?_
  refine G.cmp (False) rfl rfl rfl rfl rfl rfl (by simp [cmpP]) ?_
  refine G.move rfl rfl rfl rfl ?_
  refine G.loadI (y := wi64 (1 + (Int.tmod (wi64 ((Int.tmod a0 40) + 40)) 40))) rfl rfl rfl rfl ty3 (fun w hs => Rd.bk (Lens.id _ _) hs (j := 0) rfl) ?_
  refine G.loadI (y := 0) rfl rfl rfl rfl ty3 (fun w hs => Rd.bk (Lens.id _ _) hs (j := 1) rfl) ?_
  refine G.cmp ((wi64 (1 + (Int.tmod (wi64 ((Int.tmod a0 40) + 40)) 40))) ≤ 0) rfl rfl rfl rfl rfl rfl Iff.rfl ?_
  refine G.pickF rfl rfl rfl rfl rfl ?_
  refine G.move rfl rfl rfl rfl ?_
  refine G.splitP (d := 20) rfl (fun k6463 => ?_) (fun k6463 => ?_)
  · replace h := ifT h k6463
    refine G.unwanted rfl rfl rfl rfl ?_
    refine G.unwanted rfl rfl rfl rfl ?_
    refine G.pickT rfl rfl rfl rfl rfl ?_
    refine G.move rfl rfl rfl rfl ?_
    refine G.unwanted rfl rfl rfl rfl ?_
    refine G.unwanted rfl rfl rfl rfl ?_
    refine G.unwanted rfl rfl rfl rfl ?_
    refine G.pickT rfl rfl rfl rfl rfl ?_
    refine G.regionEnd ?_
    refine G.condT rfl ?_
    refine G.seq ?_
    refine G.region (l := [0, 1]) rfl ?_
    refine G.assign rfl rfl rfl rfl ?_
    refine G.assign rfl rfl rfl rfl ?_
    refine G.regionEnd ?_
    refine G.retN (rs := [.tmp 6, .tmp 7]) Try.func8 rfl rfl rfl (rt6 _ _ _ ?_)
    refine G.drop ?_
    refine G.drop ?_
    refine G.less ?_ (J97   h)
    exact ⟨rfl, rfl, rfl, trivial⟩
  · replace h := ifF h k6463
    refine G.loadI (y := wi64 (1 + (Int.tmod (wi64 ((Int.tmod a0 40) + 40)) 40))) rfl rfl rfl rfl ty3 (fun w hs => Rd.bk (Lens.id _ _) hs (j := 0) rfl) ?_
    refine G.cmp (1024 < (wi64 (1 + (Int.tmod (wi64 ((Int.tmod a0 40) + 40)) 40)))) rfl rfl rfl rfl rfl rfl Iff.rfl ?_
    refine G.pickF rfl rfl rfl rfl rfl ?_
    refine G.move rfl rfl rfl rfl ?_
    refine G.rest (l1 := [12, 13, 14, 15]) (l2 := []) (fun GG K => ∀ (b6402 : Bool), armoirelaw06_FreeWaits.j4 a0 a1 t1 b6402 = some r → GG H [(2, .slice none 0 0), (3, .pointer (some ⟨g6364, 0, none⟩)), (4, .pointer (some ⟨g6366, 0, none⟩)), (28, .bool b6402)] (BK 3 (Kd.int .i64) g6364 0 :: BK 3 (Kd.int .i64) g6366 (wi64 (1 + (Int.tmod (wi64 ((Int.tmod a0 40) + 40)) 40))) :: Fr) K) ?_ ?_
    · intro b6402 h
      unfold armoirelaw06_FreeWaits.j4 at h
      refine G.regionEnd ?_
      refine G.cond rfl (fun k6426 => ?_) (fun k6426 => ?_)
      · replace h := ifT h k6426
        refine G.seq ?_
        refine G.region (l := [0, 1]) rfl ?_
        refine G.assign rfl rfl rfl rfl ?_
        refine G.assign rfl rfl rfl rfl ?_
        refine G.regionEnd ?_
        refine G.retN (rs := [.tmp 6, .tmp 7]) Try.func8 rfl rfl rfl (rt6 _ _ _ ?_)
        refine G.drop ?_
        refine G.drop ?_
        refine G.less ?_ (J97   h)
        exact ⟨rfl, rfl, rfl, trivial⟩
      · replace h := ifFB h k6426
        refine G.skip ?_
        refine G.seq ?_
        obtain ⟨k6405, h⟩ := guardS h
        refine G.draw armoirelaw06_FreeWaits.ds8_4 8 [0, 1, 2, 3, 4, 5, 6, 7] [0, 0, 0, 1, 2, 3, 4, 5] [0, 0, 0, 1, 2, 3, 4, 5] rfl (by kernel_rfl) (by kernel_rfl) (by kernel_rfl) (by kernel_rfl) ?_
        intro C6423 ops6424 k6425
        have d14 : ∀ (B6403 : Option Addr) (g6406 : Nat) (l : List Nat), Ord armoirelaw06_FreeWaits.ds8_4 0 [true, true, true, true, true, true, true, true] l → G C6423 H [(2, .slice none 0 0), (3, .pointer (some ⟨g6364, 0, none⟩)), (9, .pointer (some ⟨g6406, 0, none⟩))] (BK 53 K_R_free_Map g6406 (R_free_Map.mk 0 (B6403, (List.replicate ((wi64 ((wi64 (1 + (Int.tmod (wi64 ((Int.tmod a0 40) + 40)) 40))) - 0)).toNat) 0 : List UInt8).length, ((wi64 ((wi64 (1 + (Int.tmod (wi64 ((Int.tmod a0 40) + 40)) 40))) - 0)).toNat))) :: OS 54 Kd.u8 B6403 ((wi64 ((wi64 (1 + (Int.tmod (wi64 ((Int.tmod a0 40) + 40)) 40))) - 0)).toNat) (List.replicate ((wi64 ((wi64 (1 + (Int.tmod (wi64 ((Int.tmod a0 40) + 40)) 40))) - 0)).toNat) 0 : List UInt8) :: BK 3 (Kd.int .i64) g6364 0 :: BK 3 (Kd.int .i64) g6366 (wi64 (1 + (Int.tmod (wi64 ((Int.tmod a0 40) + 40)) 40))) :: Fr) (.inRegion ops6424 l :: k6425) := by
          intro B6403 g6406 l hl
          refine G.drawnAll hl ?_
          refine G.regionEnd ?_
          refine G.seq ?_
          refine G.seq ?_
          refine G.region (l := [0, 1, 2]) rfl ?_
          refine G.move rfl rfl rfl rfl ?_
          refine G.len (m := 0) rfl rfl rfl rfl Try.underlying28 ?_
          refine G.move rfl rfl rfl rfl ?_
          refine G.regionEnd ?_
          refine G.block ?_
          refine G.loop (fun GG K => ∀ (d6411 : Nat) (x6408 : Int), armoirelaw06_FreeWaits.l5 a0 a1 t1 d6411 x6408 = some r → GG H [(3, .pointer (some ⟨g6364, 0, none⟩)), (9, .pointer (some ⟨g6406, 0, none⟩)), (36, .slice none 0 0), (37, .int .i64 0), (38, .int .i64 x6408)] (BK 3 (Kd.int .i64) g6364 0 :: OS 54 Kd.u8 B6403 ((wi64 ((wi64 (1 + (Int.tmod (wi64 ((Int.tmod a0 40) + 40)) 40))) - 0)).toNat) (List.replicate ((wi64 ((wi64 (1 + (Int.tmod (wi64 ((Int.tmod a0 40) + 40)) 40))) - 0)).toNat) 0 : List UInt8) :: BK 53 K_R_free_Map g6406 (R_free_Map.mk 0 (B6403, (List.replicate ((wi64 ((wi64 (1 + (Int.tmod (wi64 ((Int.tmod a0 40) + 40)) 40))) - 0)).toNat) 0 : List UInt8).length, ((wi64 ((wi64 (1 + (Int.tmod (wi64 ((Int.tmod a0 40) + 40)) 40))) - 0)).toNat))) :: Fr) K) ?_ ?_
          · intro d6411
            induction d6411 with
            | zero => intro x6408 h; rw [armoirelaw06_FreeWaits.l5] at h; cases h
            | succ d6411 ih6410 =>
              intro x6408 h
              rw [armoirelaw06_FreeWaits.l5] at h
              refine G.seq ?_
              refine G.region (l := [0]) rfl ?_
              refine G.cmp (x6408 < 0) rfl rfl rfl rfl rfl rfl Iff.rfl ?_
              refine G.regionEnd ?_
              refine G.seq ?_
              refine G.condP rfl (fun k6413 => ?_) (fun k6413 => ?_)
              · replace h := ifT h k6413
                refine G.skip ?_
                refine G.seq ?_
                refine G.block ?_
                refine G.seq ?_
                refine G.region (l := [0, 1, 2]) rfl ?_
                cases h
              · replace h := ifF h k6413
                refine G.exit rfl ?_
                refine G.seq ?_
                refine G.region (l := [0, 1, 2]) rfl ?_
                refine G.move rfl rfl rfl rfl ?_
                refine G.assign rfl rfl rfl rfl ?_
                refine G.assign rfl rfl rfl rfl ?_
                refine G.regionEnd ?_
                refine G.retN (rs := [.tmp 6, .tmp 7]) Try.func8 rfl rfl rfl (rt6 _ _ _ ?_)
                refine G.drop ?_
                refine G.frontAt 1 rfl ?_
                refine G.frontAt 1 rfl ?_
                refine G.less ?_ (J6363  g6406 B6403 ((wi64 ((wi64 (1 + (Int.tmod (wi64 ((Int.tmod a0 40) + 40)) 40))) - 0)).toNat) (List.replicate ((wi64 ((wi64 (1 + (Int.tmod (wi64 ((Int.tmod a0 40) + 40)) 40))) - 0)).toNat) 0 : List UInt8) h)
                exact ⟨rfl, rfl, rfl, trivial⟩
          intro J6414
          refine G.frontAt 3 rfl ?_
          refine G.drop ?_
          refine G.frontAt 1 rfl ?_
          refine G.frontAt 2 rfl ?_
          refine G.less ?_ (J6414 FUEL  0 h)
          exact ⟨rfl, rfl, rfl, rfl, rfl, trivial⟩
        have d13 : ∀ (B6403 : Option Addr) (g6406 : Nat) (l : List Nat), Ord armoirelaw06_FreeWaits.ds8_4 1 [true, true, true, true, true, true, true, false] l → G C6423 H [(2, .slice none 0 0), (3, .pointer (some ⟨g6364, 0, none⟩)), (35, .pointer (some ⟨g6406, 0, none⟩))] (BK 53 K_R_free_Map g6406 (R_free_Map.mk 0 (B6403, (List.replicate ((wi64 ((wi64 (1 + (Int.tmod (wi64 ((Int.tmod a0 40) + 40)) 40))) - 0)).toNat) 0 : List UInt8).length, ((wi64 ((wi64 (1 + (Int.tmod (wi64 ((Int.tmod a0 40) + 40)) 40))) - 0)).toNat))) :: OS 54 Kd.u8 B6403 ((wi64 ((wi64 (1 + (Int.tmod (wi64 ((Int.tmod a0 40) + 40)) 40))) - 0)).toNat) (List.replicate ((wi64 ((wi64 (1 + (Int.tmod (wi64 ((Int.tmod a0 40) + 40)) 40))) - 0)).toNat) 0 : List UInt8) :: BK 3 (Kd.int .i64) g6364 0 :: BK 3 (Kd.int .i64) g6366 (wi64 (1 + (Int.tmod (wi64 ((Int.tmod a0 40) + 40)) 40))) :: Fr) (.inRegion ops6424 l :: k6425) := by
          intro B6403 g6406 l hl
          refine G.fork [7] hl rfl (And.intro ?_ trivial)
          · intro rest ho
            refine G.assign rfl rfl rfl rfl ?_
            refine G.frontAt 3 rfl ?_
            refine G.frontAt 3 rfl ?_
            refine G.frontAt 3 rfl ?_
            refine G.frontAt 3 rfl ?_
            refine G.less ?_ (d14 B6403 g6406 rest ho)
            exact ⟨rfl, rfl, rfl, trivial⟩
        have d12 : ∀ (B6403 : Option Addr) (l : List Nat), Ord armoirelaw06_FreeWaits.ds8_4 2 [true, true, true, true, true, true, false, false] l → G C6423 H [(2, .slice none 0 0), (3, .pointer (some ⟨g6364, 0, none⟩)), (34, .agg (([.int .i64 0] : List Value) ++ (([.slice B6403 ((List.replicate ((wi64 ((wi64 (1 + (Int.tmod (wi64 ((Int.tmod a0 40) + 40)) 40))) - 0)).toNat) 0 : List UInt8).length) ((wi64 ((wi64 (1 + (Int.tmod (wi64 ((Int.tmod a0 40) + 40)) 40))) - 0)).toNat)] : List Value))).toArray)] (OS 54 Kd.u8 B6403 ((wi64 ((wi64 (1 + (Int.tmod (wi64 ((Int.tmod a0 40) + 40)) 40))) - 0)).toNat) (List.replicate ((wi64 ((wi64 (1 + (Int.tmod (wi64 ((Int.tmod a0 40) + 40)) 40))) - 0)).toNat) 0 : List UInt8) :: BK 3 (Kd.int .i64) g6364 0 :: BK 3 (Kd.int .i64) g6366 (wi64 (1 + (Int.tmod (wi64 ((Int.tmod a0 40) + 40)) 40))) :: Fr) (.inRegion ops6424 l :: k6425) := by
          intro B6403 l hl
          refine G.fork [6] hl rfl (And.intro ?_ trivial)
          · intro rest ho
            refine G.box (dk := K_R_free_Map) (y := (R_free_Map.mk 0 (B6403, (List.replicate ((wi64 ((wi64 (1 + (Int.tmod (wi64 ((Int.tmod a0 40) + 40)) 40))) - 0)).toNat) 0 : List UInt8).length, ((wi64 ((wi64 (1 + (Int.tmod (wi64 ((Int.tmod a0 40) + 40)) 40))) - 0)).toNat)))) rfl rfl rfl rfl (VR.A (cs := ([.int .i64 0] : List Value) ++ (([.slice B6403 ((List.replicate ((wi64 ((wi64 (1 + (Int.tmod (wi64 ((Int.tmod a0 40) + 40)) 40))) - 0)).toNat) 0 : List UInt8).length) ((wi64 ((wi64 (1 + (Int.tmod (wi64 ((Int.tmod a0 40) + 40)) 40))) - 0)).toNat)] : List Value))) (K_R_free_Map.mk rfl rfl)) ?_
            intro g6406
            refine G.frontAt 3 rfl ?_
            refine G.frontAt 3 rfl ?_
            refine G.frontAt 3 rfl ?_
            refine G.frontAt 3 rfl ?_
            refine G.less ?_ (d13 B6403 g6406 rest ho)
            exact ⟨rfl, rfl, rfl, trivial⟩
        have d11 : ∀ (B6403 : Option Addr) (l : List Nat), Ord armoirelaw06_FreeWaits.ds8_4 3 [true, true, true, true, true, false, false, false] l → G C6423 H [(2, .slice none 0 0), (3, .pointer (some ⟨g6364, 0, none⟩)), (29, .int .i64 0), (33, .slice B6403 ((wi64 ((wi64 (1 + (Int.tmod (wi64 ((Int.tmod a0 40) + 40)) 40))) - 0)).toNat) ((wi64 ((wi64 (1 + (Int.tmod (wi64 ((Int.tmod a0 40) + 40)) 40))) - 0)).toNat))] (OS 54 Kd.u8 B6403 ((wi64 ((wi64 (1 + (Int.tmod (wi64 ((Int.tmod a0 40) + 40)) 40))) - 0)).toNat) (List.replicate ((wi64 ((wi64 (1 + (Int.tmod (wi64 ((Int.tmod a0 40) + 40)) 40))) - 0)).toNat) 0 : List UInt8) :: BK 3 (Kd.int .i64) g6364 0 :: BK 3 (Kd.int .i64) g6366 (wi64 (1 + (Int.tmod (wi64 ((Int.tmod a0 40) + 40)) 40))) :: Fr) (.inRegion ops6424 l :: k6425) := by
          intro B6403 l hl
          refine G.fork [5] hl rfl (And.intro ?_ trivial)
          · intro rest ho
            refine G.same (d := 33) (v := .slice B6403 ((List.replicate ((wi64 ((wi64 (1 + (Int.tmod (wi64 ((Int.tmod a0 40) + 40)) 40))) - 0)).toNat) 0 : List UInt8).length) ((wi64 ((wi64 (1 + (Int.tmod (wi64 ((Int.tmod a0 40) + 40)) 40))) - 0)).toNat)) rfl (by first | (simp; done) | (simp; omega)) ?_
            refine G.build (z := .agg (([.int .i64 0] : List Value) ++ (([.slice none 0 0] : List Value))).toArray) (pl := [(0, 1), (1, 1)]) (cs := ([.int .i64 0] : List Value) ++ (([.slice B6403 ((List.replicate ((wi64 ((wi64 (1 + (Int.tmod (wi64 ((Int.tmod a0 40) + 40)) 40))) - 0)).toNat) 0 : List UInt8).length) ((wi64 ((wi64 (1 + (Int.tmod (wi64 ((Int.tmod a0 40) + 40)) 40))) - 0)).toNat)] : List Value))) rfl rfl rfl Try.underlying53 (by kernel_rfl) rfl (by kernel_rfl) (by kernel_rfl) rfl ?_
            refine G.frontAt 2 rfl ?_
            refine G.frontAt 2 rfl ?_
            refine G.frontAt 2 rfl ?_
            refine G.less ?_ (d12 B6403 rest ho)
            exact ⟨rfl, rfl, rfl, trivial⟩
        have d10 : ∀ (B6403 : Option Addr) (l : List Nat), Ord armoirelaw06_FreeWaits.ds8_4 4 [false, true, true, true, true, false, false, false] l → G C6423 H [(2, .slice none 0 0), (3, .pointer (some ⟨g6364, 0, none⟩)), (33, .slice B6403 ((wi64 ((wi64 (1 + (Int.tmod (wi64 ((Int.tmod a0 40) + 40)) 40))) - 0)).toNat) ((wi64 ((wi64 (1 + (Int.tmod (wi64 ((Int.tmod a0 40) + 40)) 40))) - 0)).toNat))] (OS 54 Kd.u8 B6403 ((wi64 ((wi64 (1 + (Int.tmod (wi64 ((Int.tmod a0 40) + 40)) 40))) - 0)).toNat) (List.replicate ((wi64 ((wi64 (1 + (Int.tmod (wi64 ((Int.tmod a0 40) + 40)) 40))) - 0)).toNat) 0 : List UInt8) :: BK 3 (Kd.int .i64) g6364 0 :: BK 3 (Kd.int .i64) g6366 (wi64 (1 + (Int.tmod (wi64 ((Int.tmod a0 40) + 40)) 40))) :: Fr) (.inRegion ops6424 l :: k6425) := by
          intro B6403 l hl
          refine G.fork [0] hl rfl (And.intro ?_ trivial)
          · intro rest ho
            refine G.loadI (y := 0) rfl rfl rfl rfl ty3 (fun w hs => Rd.bk (Lens.id _ _) hs (j := 1) rfl) ?_
            refine G.frontAt 2 rfl ?_
            refine G.frontAt 2 rfl ?_
            refine G.frontAt 2 rfl ?_
            refine G.less ?_ (d11 B6403 rest ho)
            exact ⟨rfl, rfl, rfl, rfl, trivial⟩
        have d9 : ∀ (l : List Nat), Ord armoirelaw06_FreeWaits.ds8_4 4 [true, true, true, true, false, false, false, false] l → G C6423 H [(2, .slice none 0 0), (3, .pointer (some ⟨g6364, 0, none⟩)), (29, .int .i64 0), (32, .int .i64 (wi64 ((wi64 (1 + (Int.tmod (wi64 ((Int.tmod a0 40) + 40)) 40))) - 0)))] (BK 3 (Kd.int .i64) g6364 0 :: BK 3 (Kd.int .i64) g6366 (wi64 (1 + (Int.tmod (wi64 ((Int.tmod a0 40) + 40)) 40))) :: Fr) (.inRegion ops6424 l :: k6425) := by
          intro  l hl
          refine G.fork [4] hl rfl (And.intro ?_ trivial)
          · intro rest ho
            refine G.makeSlice (df := Kd.u8) (z0 := 0) (m := wi64 ((wi64 (1 + (Int.tmod (wi64 ((Int.tmod a0 40) + 40)) 40))) - 0)) (c := wi64 ((wi64 (1 + (Int.tmod (wi64 ((Int.tmod a0 40) + 40)) 40))) - 0)) (z := .int .u8 0) (cz := ([u8V 0] : List Value)) rfl rfl rfl rfl rfl el51 (by kernel_rfl) rfl (rfl) rfl k6405 ?_
            intro B6403
            refine G.frontAt 2 rfl ?_
            refine G.frontAt 2 rfl ?_
            refine G.frontAt 2 rfl ?_
            refine G.less ?_ (d11 B6403 rest ho)
            exact ⟨rfl, rfl, rfl, rfl, trivial⟩
        have d8 : ∀ (l : List Nat), Ord armoirelaw06_FreeWaits.ds8_4 5 [false, true, true, true, false, false, false, false] l → G C6423 H [(2, .slice none 0 0), (3, .pointer (some ⟨g6364, 0, none⟩)), (32, .int .i64 (wi64 ((wi64 (1 + (Int.tmod (wi64 ((Int.tmod a0 40) + 40)) 40))) - 0)))] (BK 3 (Kd.int .i64) g6364 0 :: BK 3 (Kd.int .i64) g6366 (wi64 (1 + (Int.tmod (wi64 ((Int.tmod a0 40) + 40)) 40))) :: Fr) (.inRegion ops6424 l :: k6425) := by
          intro  l hl
          refine G.fork [0, 4] hl rfl (And.intro ?_ (And.intro ?_ trivial))
          · intro rest ho
            refine G.loadI (y := 0) rfl rfl rfl rfl ty3 (fun w hs => Rd.bk (Lens.id _ _) hs (j := 0) rfl) ?_
            refine G.frontAt 1 rfl ?_
            refine G.frontAt 1 rfl ?_
            refine G.less ?_ (d9 rest ho)
            exact ⟨rfl, rfl, rfl, rfl, trivial⟩
          · intro rest ho
            refine G.makeSlice (df := Kd.u8) (z0 := 0) (m := wi64 ((wi64 (1 + (Int.tmod (wi64 ((Int.tmod a0 40) + 40)) 40))) - 0)) (c := wi64 ((wi64 (1 + (Int.tmod (wi64 ((Int.tmod a0 40) + 40)) 40))) - 0)) (z := .int .u8 0) (cz := ([u8V 0] : List Value)) rfl rfl rfl rfl rfl el51 (by kernel_rfl) rfl (rfl) rfl k6405 ?_
            intro B6403
            refine G.frontAt 2 rfl ?_
            refine G.frontAt 2 rfl ?_
            refine G.frontAt 2 rfl ?_
            refine G.less ?_ (d10 B6403 rest ho)
            exact ⟨rfl, rfl, rfl, trivial⟩
        have d7 : ∀ (l : List Nat), Ord armoirelaw06_FreeWaits.ds8_4 5 [true, true, true, false, false, false, false, false] l → G C6423 H [(2, .slice none 0 0), (3, .pointer (some ⟨g6364, 0, none⟩)), (29, .int .i64 0), (30, .int .i64 (wi64 (1 + (Int.tmod (wi64 ((Int.tmod a0 40) + 40)) 40)))), (31, .int .i64 0)] (BK 3 (Kd.int .i64) g6364 0 :: BK 3 (Kd.int .i64) g6366 (wi64 (1 + (Int.tmod (wi64 ((Int.tmod a0 40) + 40)) 40))) :: Fr) (.inRegion ops6424 l :: k6425) := by
          intro  l hl
          refine G.fork [3] hl rfl (And.intro ?_ trivial)
          · intro rest ho
            refine G.bin (m := wi64 (1 + (Int.tmod (wi64 ((Int.tmod a0 40) + 40)) 40))) (n := 0) (r := wi64 ((wi64 (1 + (Int.tmod (wi64 ((Int.tmod a0 40) + 40)) 40))) - 0)) rfl rfl rfl rfl rfl rfl rfl ?_
            refine G.frontAt 1 rfl ?_
            refine G.frontAt 1 rfl ?_
            refine G.less ?_ (d9 rest ho)
            exact ⟨rfl, rfl, rfl, rfl, trivial⟩
        have d6 : ∀ (l : List Nat), Ord armoirelaw06_FreeWaits.ds8_4 6 [false, true, true, false, false, false, false, false] l → G C6423 H [(2, .slice none 0 0), (3, .pointer (some ⟨g6364, 0, none⟩)), (30, .int .i64 (wi64 (1 + (Int.tmod (wi64 ((Int.tmod a0 40) + 40)) 40)))), (31, .int .i64 0)] (BK 3 (Kd.int .i64) g6364 0 :: BK 3 (Kd.int .i64) g6366 (wi64 (1 + (Int.tmod (wi64 ((Int.tmod a0 40) + 40)) 40))) :: Fr) (.inRegion ops6424 l :: k6425) := by
          intro  l hl
          refine G.fork [0, 3] hl rfl (And.intro ?_ (And.intro ?_ trivial))
          · intro rest ho
            refine G.loadI (y := 0) rfl rfl rfl rfl ty3 (fun w hs => Rd.bk (Lens.id _ _) hs (j := 0) rfl) ?_
            refine G.frontAt 1 rfl ?_
            refine G.frontAt 1 rfl ?_
            refine G.less ?_ (d7 rest ho)
            exact ⟨rfl, rfl, rfl, rfl, rfl, trivial⟩
          · intro rest ho
            refine G.bin (m := wi64 (1 + (Int.tmod (wi64 ((Int.tmod a0 40) + 40)) 40))) (n := 0) (r := wi64 ((wi64 (1 + (Int.tmod (wi64 ((Int.tmod a0 40) + 40)) 40))) - 0)) rfl rfl rfl rfl rfl rfl rfl ?_
            refine G.frontAt 1 rfl ?_
            refine G.frontAt 1 rfl ?_
            refine G.less ?_ (d8 rest ho)
            exact ⟨rfl, rfl, rfl, trivial⟩
        have d5 : ∀ (l : List Nat), Ord armoirelaw06_FreeWaits.ds8_4 6 [true, false, true, false, false, false, false, false] l → G C6423 H [(2, .slice none 0 0), (3, .pointer (some ⟨g6364, 0, none⟩)), (4, .pointer (some ⟨g6366, 0, none⟩)), (29, .int .i64 0), (31, .int .i64 0)] (BK 3 (Kd.int .i64) g6364 0 :: BK 3 (Kd.int .i64) g6366 (wi64 (1 + (Int.tmod (wi64 ((Int.tmod a0 40) + 40)) 40))) :: Fr) (.inRegion ops6424 l :: k6425) := by
          intro  l hl
          refine G.fork [1] hl rfl (And.intro ?_ trivial)
          · intro rest ho
            refine G.loadI (y := wi64 (1 + (Int.tmod (wi64 ((Int.tmod a0 40) + 40)) 40))) rfl rfl rfl rfl ty3 (fun w hs => Rd.bk (Lens.id _ _) hs (j := 1) rfl) ?_
            refine G.frontAt 1 rfl ?_
            refine G.frontAt 1 rfl ?_
            refine G.less ?_ (d7 rest ho)
            exact ⟨rfl, rfl, rfl, rfl, rfl, trivial⟩
        have d4 : ∀ (l : List Nat), Ord armoirelaw06_FreeWaits.ds8_4 6 [true, true, false, false, false, false, false, false] l → G C6423 H [(2, .slice none 0 0), (3, .pointer (some ⟨g6364, 0, none⟩)), (29, .int .i64 0), (30, .int .i64 (wi64 (1 + (Int.tmod (wi64 ((Int.tmod a0 40) + 40)) 40))))] (BK 3 (Kd.int .i64) g6364 0 :: BK 3 (Kd.int .i64) g6366 (wi64 (1 + (Int.tmod (wi64 ((Int.tmod a0 40) + 40)) 40))) :: Fr) (.inRegion ops6424 l :: k6425) := by
          intro  l hl
          refine G.fork [2] hl rfl (And.intro ?_ trivial)
          · intro rest ho
            refine G.loadI (y := 0) rfl rfl rfl rfl ty3 (fun w hs => Rd.bk (Lens.id _ _) hs (j := 0) rfl) ?_
            refine G.frontAt 1 rfl ?_
            refine G.frontAt 1 rfl ?_
            refine G.less ?_ (d7 rest ho)
            exact ⟨rfl, rfl, rfl, rfl, rfl, trivial⟩
        have d3 : ∀ (l : List Nat), Ord armoirelaw06_FreeWaits.ds8_4 7 [false, false, true, false, false, false, false, false] l → G C6423 H [(2, .slice none 0 0), (3, .pointer (some ⟨g6364, 0, none⟩)), (4, .pointer (some ⟨g6366, 0, none⟩)), (31, .int .i64 0)] (BK 3 (Kd.int .i64) g6364 0 :: BK 3 (Kd.int .i64) g6366 (wi64 (1 + (Int.tmod (wi64 ((Int.tmod a0 40) + 40)) 40))) :: Fr) (.inRegion ops6424 l :: k6425) := by
          intro  l hl
          refine G.fork [0, 1] hl rfl (And.intro ?_ (And.intro ?_ trivial))
          · intro rest ho
            refine G.loadI (y := 0) rfl rfl rfl rfl ty3 (fun w hs => Rd.bk (Lens.id _ _) hs (j := 0) rfl) ?_
            refine G.frontAt 1 rfl ?_
            refine G.frontAt 1 rfl ?_
            refine G.less ?_ (d5 rest ho)
            exact ⟨rfl, rfl, rfl, rfl, rfl, trivial⟩
          · intro rest ho
            refine G.loadI (y := wi64 (1 + (Int.tmod (wi64 ((Int.tmod a0 40) + 40)) 40))) rfl rfl rfl rfl ty3 (fun w hs => Rd.bk (Lens.id _ _) hs (j := 1) rfl) ?_
            refine G.frontAt 1 rfl ?_
            refine G.frontAt 1 rfl ?_
            refine G.less ?_ (d6 rest ho)
            exact ⟨rfl, rfl, rfl, rfl, trivial⟩
        have d2 : ∀ (l : List Nat), Ord armoirelaw06_FreeWaits.ds8_4 7 [false, true, false, false, false, false, false, false] l → G C6423 H [(2, .slice none 0 0), (3, .pointer (some ⟨g6364, 0, none⟩)), (30, .int .i64 (wi64 (1 + (Int.tmod (wi64 ((Int.tmod a0 40) + 40)) 40))))] (BK 3 (Kd.int .i64) g6364 0 :: BK 3 (Kd.int .i64) g6366 (wi64 (1 + (Int.tmod (wi64 ((Int.tmod a0 40) + 40)) 40))) :: Fr) (.inRegion ops6424 l :: k6425) := by
          intro  l hl
          refine G.fork [0, 2] hl rfl (And.intro ?_ (And.intro ?_ trivial))
          · intro rest ho
            refine G.loadI (y := 0) rfl rfl rfl rfl ty3 (fun w hs => Rd.bk (Lens.id _ _) hs (j := 0) rfl) ?_
            refine G.frontAt 1 rfl ?_
            refine G.frontAt 1 rfl ?_
            refine G.less ?_ (d4 rest ho)
            exact ⟨rfl, rfl, rfl, rfl, trivial⟩
          · intro rest ho
            refine G.loadI (y := 0) rfl rfl rfl rfl ty3 (fun w hs => Rd.bk (Lens.id _ _) hs (j := 0) rfl) ?_
            refine G.frontAt 1 rfl ?_
            refine G.frontAt 1 rfl ?_
            refine G.less ?_ (d6 rest ho)
            exact ⟨rfl, rfl, rfl, rfl, trivial⟩
        have d1 : ∀ (l : List Nat), Ord armoirelaw06_FreeWaits.ds8_4 7 [true, false, false, false, false, false, false, false] l → G C6423 H [(2, .slice none 0 0), (3, .pointer (some ⟨g6364, 0, none⟩)), (4, .pointer (some ⟨g6366, 0, none⟩)), (29, .int .i64 0)] (BK 3 (Kd.int .i64) g6364 0 :: BK 3 (Kd.int .i64) g6366 (wi64 (1 + (Int.tmod (wi64 ((Int.tmod a0 40) + 40)) 40))) :: Fr) (.inRegion ops6424 l :: k6425) := by
          intro  l hl
          refine G.fork [1, 2] hl rfl (And.intro ?_ (And.intro ?_ trivial))
          · intro rest ho
            refine G.loadI (y := wi64 (1 + (Int.tmod (wi64 ((Int.tmod a0 40) + 40)) 40))) rfl rfl rfl rfl ty3 (fun w hs => Rd.bk (Lens.id _ _) hs (j := 1) rfl) ?_
            refine G.frontAt 1 rfl ?_
            refine G.frontAt 1 rfl ?_
            refine G.less ?_ (d4 rest ho)
            exact ⟨rfl, rfl, rfl, rfl, trivial⟩
          · intro rest ho
            refine G.loadI (y := 0) rfl rfl rfl rfl ty3 (fun w hs => Rd.bk (Lens.id _ _) hs (j := 0) rfl) ?_
            refine G.frontAt 1 rfl ?_
            refine G.frontAt 1 rfl ?_
            refine G.less ?_ (d5 rest ho)
            exact ⟨rfl, rfl, rfl, rfl, rfl, trivial⟩
        have d0 : ∀ (l : List Nat), Ord armoirelaw06_FreeWaits.ds8_4 8 [false, false, false, false, false, false, false, false] l → G C6423 H [(2, .slice none 0 0), (3, .pointer (some ⟨g6364, 0, none⟩)), (4, .pointer (some ⟨g6366, 0, none⟩))] (BK 3 (Kd.int .i64) g6364 0 :: BK 3 (Kd.int .i64) g6366 (wi64 (1 + (Int.tmod (wi64 ((Int.tmod a0 40) + 40)) 40))) :: Fr) (.inRegion ops6424 l :: k6425) := by
          intro  l hl
          refine G.fork [0, 1, 2] hl rfl (And.intro ?_ (And.intro ?_ (And.intro ?_ trivial)))
          · intro rest ho
            refine G.loadI (y := 0) rfl rfl rfl rfl ty3 (fun w hs => Rd.bk (Lens.id _ _) hs (j := 0) rfl) ?_
            refine G.frontAt 1 rfl ?_
            refine G.frontAt 1 rfl ?_
            refine G.less ?_ (d1 rest ho)
            exact ⟨rfl, rfl, rfl, rfl, trivial⟩
          · intro rest ho
            refine G.loadI (y := wi64 (1 + (Int.tmod (wi64 ((Int.tmod a0 40) + 40)) 40))) rfl rfl rfl rfl ty3 (fun w hs => Rd.bk (Lens.id _ _) hs (j := 1) rfl) ?_
            refine G.frontAt 1 rfl ?_
            refine G.frontAt 1 rfl ?_
            refine G.less ?_ (d2 rest ho)
            exact ⟨rfl, rfl, rfl, trivial⟩
          · intro rest ho
            refine G.loadI (y := 0) rfl rfl rfl rfl ty3 (fun w hs => Rd.bk (Lens.id _ _) hs (j := 0) rfl) ?_
            refine G.frontAt 1 rfl ?_
            refine G.frontAt 1 rfl ?_
            refine G.less ?_ (d3 rest ho)
            exact ⟨rfl, rfl, rfl, rfl, trivial⟩
        intro l hl
        refine G.less ?_ (d0 l hl)
        exact ⟨rfl, rfl, rfl, trivial⟩
    intro J6427
    refine G.splitP (d := 24) rfl (fun k6462 => ?_) (fun k6462 => ?_)
    · replace h := ifT h k6462
      refine G.unwanted rfl rfl rfl rfl ?_
      refine G.unwanted rfl rfl rfl rfl ?_
      refine G.unwanted rfl rfl rfl rfl ?_
      refine G.pickT rfl rfl rfl rfl rfl ?_
      refine G.frontAt 1 rfl ?_
      refine G.less ?_ (J6427  true h)
      exact ⟨rfl, rfl, rfl, rfl, trivial⟩
    · replace h := ifF h k6462
      refine G.move rfl rfl rfl rfl ?_
      refine G.move rfl rfl rfl rfl ?_
      refine G.inl (n' := 9) rfl rfl rfl rfl call24 Try.func24 rfl Try.ntmps24 rfl rfl ?_
      intro R6428 rt6429
      refine G.seq ?_
      refine G.region (l := [0]) rfl ?_
      refine G.assign rfl rfl rfl rfl ?_
      refine G.regionEnd ?_
      refine G.seq ?_
      refine G.region (l := [0, 1, 2, 3, 4]) rfl ?_
      refine G.move rfl rfl rfl rfl ?_
      refine G.move rfl rfl rfl rfl ?_
      refine G.inl (n' := 19) rfl rfl rfl rfl call33 Try.func33 rfl Try.ntmps33 rfl rfl ?_
      intro R6446 rt6447
      refine G.seq ?_
      refine G.region (l := [0]) rfl ?_
      refine G.assign rfl rfl rfl rfl ?_
      refine G.regionEnd ?_
      refine G.seq ?_
      refine G.seq ?_
      refine G.region (l := [0, 1, 2]) rfl ?_
      refine G.move rfl rfl rfl rfl ?_
      refine G.len (m := 0) rfl rfl rfl rfl Try.underlying28 ?_
      refine G.move rfl rfl rfl rfl ?_
      refine G.regionEnd ?_
      refine G.block ?_
      refine G.loop (fun GG K => ∀ (d6458 : Nat) (x6455 : Int), armoirelaw06_FreeWaits.l6 a0 a1 t1 d6458 x6455 = some r → GG H [(0, .slice none 0 0), (1, .func (.func 23) #[] #[.pointer (some ⟨g6364, 0, none⟩), .pointer (some ⟨g6366, 0, none⟩)]), (7, .int .i64 0), (8, .int .i64 x6455)] (BK 3 (Kd.int .i64) g6364 0 :: BK 3 (Kd.int .i64) g6366 (wi64 (1 + (Int.tmod (wi64 ((Int.tmod a0 40) + 40)) 40))) :: Fr) K) ?_ ?_
      · intro d6458
        induction d6458 with
        | zero => intro x6455 h; rw [armoirelaw06_FreeWaits.l6] at h; cases h
        | succ d6458 ih6457 =>
          intro x6455 h
          rw [armoirelaw06_FreeWaits.l6] at h
          refine G.seq ?_
          refine G.region (l := [0]) rfl ?_
          refine G.cmp (x6455 < 0) rfl rfl rfl rfl rfl rfl Iff.rfl ?_
          refine G.regionEnd ?_
          refine G.seq ?_
          refine G.condP rfl (fun k6460 => ?_) (fun k6460 => ?_)
          · replace h := ifT h k6460
            refine G.skip ?_
            refine G.seq ?_
            refine G.block ?_
            refine G.seq ?_
            refine G.region (l := [0, 1]) rfl ?_
            refine G.move rfl rfl rfl rfl ?_
            refine G.assign rfl rfl rfl rfl ?_
            refine G.regionEnd ?_
            refine G.seq ?_
            refine G.region (l := [0, 1, 2, 3, 4, 5]) rfl ?_
            refine G.move rfl rfl rfl rfl ?_
            refine G.move rfl rfl rfl rfl ?_
            refine G.move rfl rfl rfl rfl ?_
            cases h
          · replace h := ifF h k6460
            refine G.exit rfl ?_
            refine G.seq ?_
            refine G.region (l := [0]) rfl ?_
            refine G.assign rfl rfl rfl rfl ?_
            refine G.regionEnd ?_
            refine G.ret1 Try.func33 rfl rfl (rt6447 _ _ _ ?_)
            refine G.cmp (False) rfl rfl rfl rfl rfl rfl (by simp [cmpP]) ?_
            refine G.assign rfl rfl rfl rfl ?_
            refine G.regionEnd ?_
            refine G.ret1 Try.func24 rfl rfl (rt6429 _ _ _ ?_)
            refine G.pickF rfl rfl rfl rfl rfl ?_
            refine G.frontAt 1 rfl ?_
            refine G.frontAt 1 rfl ?_
            refine G.less ?_ (J6427  false h)
            exact ⟨rfl, rfl, rfl, rfl, trivial⟩
      intro J6461
      refine G.frontAt 1 rfl ?_
      refine G.less ?_ (J6461 FUEL  0 h)
      exact ⟨rfl, rfl, rfl, rfl, trivial⟩
set_option maxRecDepth 20000 in
theorem armoireref06_Map_All.ok {O : World} {H : PH} {Fr : List Res} (a0 : S_armoireref06_Map) (g0 : Nat) (A0 : Option Addr) (n0 : Nat) (a1 : Int) {r : (List Int)} (h : armoireref06_Map_All.f a0 a1 = some r) :
    CtrS Try.prog 31 [.pointer (some ⟨g0, 0, none⟩), .int .i64 a1] O H (BK 59 K_R_armoireref06_Map g0 (R_armoireref06_Map.mk a0.from_ (A0, a0.k.length, n0)) :: OS 3 (Kd.int .i64) A0 n0 a0.k :: Fr) (fun v L' => ∃ (Ar0 : Option Addr) (nr0 : Nat), v = .slice Ar0 r.length nr0 ∧ BK 59 K_R_armoireref06_Map g0 (R_armoireref06_Map.mk a0.from_ (A0, a0.k.length, n0)) :: OS 3 (Kd.int .i64) A0 n0 a0.k :: OS 3 (Kd.int .i64) Ar0 nr0 r :: Fr = L') := by
  refine CtrS.start (n := 32) Try.func31 rfl Try.ntmps31 rfl rfl ?_
  unfold armoireref06_Map_All.f at h
  refine G.seq ?_
  refine G.region (l := [0]) rfl ?_
  refine G.assign rfl rfl rfl rfl ?_
  refine G.regionEnd ?_
  refine G.seq ?_
  refine G.region (l := [0]) rfl ?_
  refine G.assign rfl rfl rfl rfl ?_
  refine G.regionEnd ?_
  refine G.seq ?_
  refine G.seq ?_
  refine G.region (l := [0, 1, 2, 3, 4, 5]) rfl ?_
  refine G.move rfl rfl rfl rfl ?_
  refine G.nilCheck rfl rfl rfl rfl ?_
  refine G.field (off' := 1) rfl rfl rfl rfl Try.underlying59 rfl sz28 rfl rfl ?_
  refine G.loadH (B := A0) (m := a0.k.length) (c := n0) rfl rfl rfl rfl ty28r (fun w hs => Rd.bk (R_armoireref06_Map.L_k _) hs (j := 0) rfl) ?_
  refine G.len (m := a0.k.length) rfl rfl rfl rfl Try.underlying28 ?_
  refine G.move rfl rfl rfl rfl ?_
  refine G.regionEnd ?_
  refine G.block ?_
  refine G.loop (fun GG K => ∀ (d54 : Nat) (B29 : Option Addr) (c30 : Nat) (x31 : (List Int)) (x32 : Int), armoireref06_Map_All.l0 a0 a1 d54 x31 x32 = some r → GG H [(0, .pointer (some ⟨g0, 0, none⟩)), (1, .int .i64 a1), (5, .slice B29 x31.length c30), (11, .slice A0 a0.k.length n0), (12, .int .i64 (a0.k.length : Int)), (13, .int .i64 x32)] (OS 3 (Kd.int .i64) A0 n0 a0.k :: BK 59 K_R_armoireref06_Map g0 (R_armoireref06_Map.mk a0.from_ (A0, a0.k.length, n0)) :: OS 3 (Kd.int .i64) B29 c30 x31 :: Fr) K) ?_ ?_
  · intro d54
    induction d54 with
    | zero => intro B29 c30 x31 x32 h; rw [armoireref06_Map_All.l0] at h; cases h
    | succ d54 ih53 =>
      intro B29 c30 x31 x32 h
      rw [armoireref06_Map_All.l0] at h
      refine G.seq ?_
      refine G.region (l := [0]) rfl ?_
      refine G.cmp (x32 < (a0.k.length : Int)) rfl rfl rfl rfl rfl rfl Iff.rfl ?_
      refine G.regionEnd ?_
      refine G.seq ?_
      refine G.condP rfl (fun k75 => ?_) (fun k75 => ?_)
      · replace h := ifT h k75
        refine G.skip ?_
        refine G.seq ?_
        refine G.block ?_
        refine G.seq ?_
        refine G.region (l := [0, 1, 2, 3, 4]) rfl ?_
        refine G.move rfl rfl rfl rfl ?_
        obtain ⟨k57, h⟩ := guardS h
        have q56 : x32.toNat < a0.k.length := by omega
        refine G.indexO (xs := a0.k) (j := x32) (off := x32.toNat * 1) rfl rfl rfl rfl rfl el28 (r := 0) rfl (by simp) k57 rfl ?_
        refine G.loadI (y := a0.k.getD x32.toNat 0) rfl rfl rfl rfl ty3 (fun w hs => Rd.osG q56 (Lens.id _ _) hs (j := 0) rfl (o := x32.toNat * 1) (by first | rfl | simp)) ?_
        refine G.assign rfl rfl rfl rfl ?_
        refine G.assign rfl rfl rfl rfl ?_
        refine G.regionEnd ?_
        refine G.seq ?_
        refine G.region (l := [0, 1, 2]) rfl ?_
        refine G.move rfl rfl rfl rfl ?_
        refine G.move rfl rfl rfl rfl ?_
        refine G.cmp ((a0.k.getD x32.toNat 0) = a1) rfl rfl rfl rfl rfl rfl Iff.rfl ?_
        refine G.regionEnd ?_
        refine G.condP rfl (fun k74 => ?_) (fun k74 => ?_)
        · replace h := ifT h k74
          refine G.region (l := [0, 1, 2, 3, 4, 5, 6, 7, 8, 9]) rfl ?_
          refine G.move rfl rfl rfl rfl ?_
          refine G.move rfl rfl rfl rfl ?_
          refine G.nilCheck rfl rfl rfl rfl ?_
          refine G.field (off' := 0) rfl rfl rfl rfl Try.underlying59 rfl sz3 rfl rfl ?_
          refine G.loadI (y := a0.from_) rfl rfl rfl rfl ty3 (fun w hs => Rd.bk (R_armoireref06_Map.L_from_ _) hs (j := 1) rfl) ?_
          refine G.move rfl rfl rfl rfl ?_
          refine G.bin (m := a0.from_) (n := x32) (r := wi64 (a0.from_ + x32)) rfl rfl rfl rfl rfl rfl rfl ?_
          refine G.buildSliceV (df := (Kd.int .i64)) (xs := ([wi64 (a0.from_ + x32)] : List Int)) (z0 := 0) (vs := [.int .i64 (wi64 (a0.from_ + x32))]) rfl rfl rfl el28 (z := .int .i64 0) (cz := ([.int .i64 0] : List Value)) (by kernel_rfl) rfl rfl rfl rfl rfl (rfl) ⟨⟨([.int .i64 (wi64 (a0.from_ + x32))] : List Value), rfl, rfl⟩, trivial⟩ ?_
          intro B68
          refine G.frontAt 3 rfl ?_
          obtain ⟨k73, h⟩ := guardS h
          refine G.append (df := (Kd.int .i64)) (xs := x31) (ys := ([wi64 (a0.from_ + x32)] : List Int)) (z0 := 0) (z := .int .i64 0) (cz := ([.int .i64 0] : List Value)) rfl rfl rfl rfl (by simp) rfl el28 Try.underlying28 rfl (by kernel_rfl) rfl (rfl) (fun w hs => SrcR.os hs (j := 1) rfl) ⟨by omega, by omega⟩ ?_
          intro B70 c71
          refine G.frontAt 1 rfl ?_
          refine G.drop ?_
          refine G.assign rfl rfl rfl rfl ?_
          refine G.regionEnd ?_
          refine G.inBlock ?_
          refine G.region (l := [0, 1]) rfl ?_
          refine G.bin (m := x32) (n := 1) (r := wi64 (x32 + 1)) rfl rfl rfl rfl rfl rfl rfl ?_
          refine G.move rfl rfl rfl rfl ?_
          refine G.regionEnd ?_
          refine G.round ?_
          refine G.frontAt 2 rfl ?_
          refine G.frontAt 2 rfl ?_
          refine G.less ?_ (ih53  B70 c71 (x31 ++ ([wi64 (a0.from_ + x32)] : List Int)) (wi64 (x32 + 1)) h)
          exact ⟨rfl, rfl, rfl, rfl, rfl, rfl, trivial⟩
        · replace h := ifF h k74
          refine G.skip ?_
          refine G.inBlock ?_
          refine G.region (l := [0, 1]) rfl ?_
          refine G.bin (m := x32) (n := 1) (r := wi64 (x32 + 1)) rfl rfl rfl rfl rfl rfl rfl ?_
          refine G.move rfl rfl rfl rfl ?_
          refine G.regionEnd ?_
          refine G.round ?_
          refine G.frontAt 2 rfl ?_
          refine G.frontAt 2 rfl ?_
          refine G.frontAt 2 rfl ?_
          refine G.less ?_ (ih53  B29 c30 x31 (wi64 (x32 + 1)) h)
          exact ⟨rfl, rfl, rfl, rfl, rfl, rfl, trivial⟩
      · replace h := ifF h k75
        refine G.exit rfl ?_
        refine G.seq ?_
        refine G.region (l := [0, 1]) rfl ?_
        refine G.move rfl rfl rfl rfl ?_
        refine G.assign rfl rfl rfl rfl ?_
        refine G.regionEnd ?_
        refine G.frontAt 2 rfl ?_
        refine G.frontAt 1 rfl ?_
        refine G.frontAt 2 rfl ?_
        obtain rfl := Option.some.inj h
        exact G.ret1 Try.func31 rfl rfl (fun w hs => ⟨_, _, rfl, ⟨B29, c30, rfl, rfl⟩, hs⟩)
  intro J76
  refine G.osNil 3 (Kd.int .i64) ?_
  refine G.same (d := 5) (v := .slice none (([] : List Int).length) 0) rfl (by first | (simp; done) | (simp; omega)) ?_
  refine G.frontAt 1 rfl ?_
  refine G.frontAt 2 rfl ?_
  refine G.less ?_ (J76 FUEL  none 0 ([] : List Int) 0 h)
  exact ⟨rfl, rfl, rfl, rfl, rfl, rfl, trivial⟩
def armoirelaw06_list.reg30_6 (B : List (Nat × Value)) : Reg := ⟨[[], [], [0, 1], [2], [], [], [4, 5], [6], [3, 7]], [some 16, some 17, some 18, some 19, some 20, some 21, some 22, some 23, some 24], B⟩
theorem armoirelaw06_list.reg30_6_ap (B : List (Nat × Value)) : (armoirelaw06_list.reg30_6 B).apart = true := rfl
set_option maxRecDepth 20000 in
theorem armoirelaw06_list.ok {O : World} {H : PH} {Fr : List Res} (a0 : (List Int)) (A0 : Option Addr) (n0 : Nat) (a1 : (List Int)) (A1 : Option Addr) (n1 : Nat) {r : Bool × (List Int)} (h : armoirelaw06_list.f a0 a1 = some r) :
    CtrS Try.prog 30 [.slice A0 a0.length n0, .slice A1 a1.length n1] O H (OS 3 (Kd.int .i64) A0 n0 a0 :: OS 3 (Kd.int .i64) A1 n1 a1 :: Fr) (fun v L' => v = .bool r.1 ∧ OS 3 (Kd.int .i64) A0 n0 r.2 :: OS 3 (Kd.int .i64) A1 n1 a1 :: Fr = L') := by
  refine CtrS.start (n := 29) Try.func30 rfl Try.ntmps30 rfl rfl ?_
  unfold armoirelaw06_list.f at h
  refine G.seq ?_
  refine G.region (l := [0]) rfl ?_
  refine G.assign rfl rfl rfl rfl ?_
  refine G.regionEnd ?_
  refine G.seq ?_
  refine G.seq ?_
  refine G.region (l := [0, 1, 2, 3, 4]) rfl ?_
  refine G.move rfl rfl rfl rfl ?_
  refine G.len (m := a0.length) rfl rfl rfl rfl Try.underlying28 ?_
  refine G.move rfl rfl rfl rfl ?_
  refine G.len (m := a1.length) rfl rfl rfl rfl Try.underlying28 ?_
  refine G.cmp ((a0.length : Int) ≠ (a1.length : Int)) rfl rfl rfl rfl rfl rfl Iff.rfl ?_
  refine G.regionEnd ?_
  refine G.condP rfl (fun k39 => ?_) (fun k39 => ?_)
  · replace h := ifT h k39
    refine G.seq ?_
    refine G.region (l := [0]) rfl ?_
    refine G.assign rfl rfl rfl rfl ?_
    refine G.regionEnd ?_
    refine G.frontAt 1 rfl ?_
    refine G.frontAt 1 rfl ?_
    obtain rfl := Option.some.inj h
    exact G.ret1 Try.func30 rfl rfl (fun w hs => ⟨_, _, rfl, ⟨rfl, rfl⟩, hs⟩)
  · replace h := ifF h k39
    refine G.skip ?_
    refine G.seq ?_
    refine G.seq ?_
    refine G.region (l := [0, 1, 2]) rfl ?_
    refine G.move rfl rfl rfl rfl ?_
    refine G.len (m := a0.length) rfl rfl rfl rfl Try.underlying28 ?_
    refine G.move rfl rfl rfl rfl ?_
    refine G.regionEnd ?_
    refine G.block ?_
    refine G.loop (fun GG K => ∀ (d23 : Nat) (x12 : (List Int)) (x13 : Int), armoirelaw06_list.l0 a0 a1 d23 x12 x13 = some r → GG H [(0, .slice A0 x12.length n0), (1, .slice A1 a1.length n1), (12, .int .i64 (a0.length : Int)), (13, .int .i64 x13)] (OS 3 (Kd.int .i64) A0 n0 x12 :: OS 3 (Kd.int .i64) A1 n1 a1 :: Fr) K) ?_ ?_
    · intro d23
      induction d23 with
      | zero => intro x12 x13 h; rw [armoirelaw06_list.l0] at h; cases h
      | succ d23 ih22 =>
        intro x12 x13 h
        rw [armoirelaw06_list.l0] at h
        refine G.seq ?_
        refine G.region (l := [0]) rfl ?_
        refine G.cmp (x13 < (a0.length : Int)) rfl rfl rfl rfl rfl rfl Iff.rfl ?_
        refine G.regionEnd ?_
        refine G.seq ?_
        refine G.condP rfl (fun k37 => ?_) (fun k37 => ?_)
        · replace h := ifT h k37
          refine G.skip ?_
          refine G.seq ?_
          refine G.block ?_
          refine G.seq ?_
          refine G.region (l := [0, 1]) rfl ?_
          refine G.move rfl rfl rfl rfl ?_
          refine G.assign rfl rfl rfl rfl ?_
          refine G.regionEnd ?_
          refine G.seq ?_
          refine G.seq ?_
          obtain ⟨k26, h⟩ := guardS h
          have q25 : x13.toNat < x12.length := by omega
          obtain ⟨k28, h⟩ := guardS h
          have q27 : x13.toNat < a1.length := by omega
          refine G.draw [[], [], [0, 1], [2], [], [], [4, 5], [6], [3, 7]] 9 [0, 1, 2, 3, 4, 5, 6, 7, 8] [0, 0, 1, 2, 0, 0, 1, 2, 3] [0, 0, 1, 2, 0, 0, 1, 2, 3] rfl (by kernel_rfl) (by kernel_rfl) (by kernel_rfl) (by kernel_rfl) ?_
          intro C32 ops33 k34
          let R35 : Reg := armoirelaw06_list.reg30_6 [(0, .slice A0 x12.length n0), (1, .slice A1 a1.length n1), (5, .int .i64 x13), (12, .int .i64 (a0.length : Int)), (13, .int .i64 x13)]
          have P36 : ∀ (m : Nat) (L : List Bool) (A : List (Nat × Value)) (l : List Nat), L.length = R35.ds.length → R35.Phi [some (.slice A0 x12.length n0), some (.int .i64 x13), some (.pointer (some (plc A0 (x13.toNat * 1)))), some (.int .i64 (x12.getD x13.toNat 0)), some (.slice A1 a1.length n1), some (.int .i64 x13), some (.pointer (some (plc A1 (x13.toNat * 1)))), some (.int .i64 (a1.getD x13.toNat 0)), some (.bool (decide ((x12.getD x13.toNat 0) ≠ (a1.getD x13.toNat 0))))] [] [] L A → left L = m → Ord R35.ds m L l → G C32 H A (OS 3 (Kd.int .i64) A0 n0 x12 :: OS 3 (Kd.int .i64) A1 n1 a1 :: Fr) (.inRegion ops33 l :: k34) := by
            refine G.phase R35 [some (.slice A0 x12.length n0), some (.int .i64 x13), some (.pointer (some (plc A0 (x13.toNat * 1)))), some (.int .i64 (x12.getD x13.toNat 0)), some (.slice A1 a1.length n1), some (.int .i64 x13), some (.pointer (some (plc A1 (x13.toNat * 1)))), some (.int .i64 (a1.getD x13.toNat 0)), some (.bool (decide ((x12.getD x13.toNat 0) ≠ (a1.getD x13.toNat 0))))] [0, 1, 2, 3, 4, 5, 6, 7, 8] [] [] [] (armoirelaw06_list.reg30_6_ap _) rfl rfl ⟨⟨[.base 0], 16, .slice A0 x12.length n0, [(0, .slice A0 x12.length n0)], ⟨rfl, rfl, rfl, rfl, ?_⟩⟩, ⟨⟨[.base 5], 17, .int .i64 x13, [(5, .int .i64 x13)], ⟨rfl, rfl, rfl, rfl, ?_⟩⟩, ⟨⟨[.op 0, .op 1], 18, .pointer (some (plc A0 (x13.toNat * 1))), [(16, .slice A0 x12.length n0), (17, .int .i64 x13)], ⟨rfl, rfl, rfl, rfl, ?_⟩⟩, ⟨⟨[.op 2], 19, .int .i64 (x12.getD x13.toNat 0), [(18, .pointer (some (plc A0 (x13.toNat * 1))))], ⟨rfl, rfl, rfl, rfl, ?_⟩⟩, ⟨⟨[.base 1], 20, .slice A1 a1.length n1, [(1, .slice A1 a1.length n1)], ⟨rfl, rfl, rfl, rfl, ?_⟩⟩, ⟨⟨[.base 5], 21, .int .i64 x13, [(5, .int .i64 x13)], ⟨rfl, rfl, rfl, rfl, ?_⟩⟩, ⟨⟨[.op 4, .op 5], 22, .pointer (some (plc A1 (x13.toNat * 1))), [(20, .slice A1 a1.length n1), (21, .int .i64 x13)], ⟨rfl, rfl, rfl, rfl, ?_⟩⟩, ⟨⟨[.op 6], 23, .int .i64 (a1.getD x13.toNat 0), [(22, .pointer (some (plc A1 (x13.toNat * 1))))], ⟨rfl, rfl, rfl, rfl, ?_⟩⟩, ⟨⟨[.op 3, .op 7], 24, .bool (decide ((x12.getD x13.toNat 0) ≠ (a1.getD x13.toNat 0))), [(19, .int .i64 (x12.getD x13.toNat 0)), (23, .int .i64 (a1.getD x13.toNat 0))], ⟨rfl, rfl, rfl, rfl, ?_⟩⟩, trivial⟩⟩⟩⟩⟩⟩⟩⟩⟩ trivial ?_
            · intro X rest g
              refine G.move rfl rfl rfl rfl ?_
              exact g
            · intro X rest g
              refine G.move rfl rfl rfl rfl ?_
              exact g
            · intro X rest g
              refine G.indexO (xs := x12) (j := x13) (off := x13.toNat * 1) rfl rfl rfl rfl rfl el28 (r := 0) rfl (by simp) k26 rfl ?_
              exact g
            · intro X rest g
              refine G.loadI (y := x12.getD x13.toNat 0) rfl rfl rfl rfl ty3 (fun w hs => Rd.osG q25 (Lens.id _ _) hs (j := 0) rfl (o := x13.toNat * 1) (by first | rfl | simp)) ?_
              exact g
            · intro X rest g
              refine G.move rfl rfl rfl rfl ?_
              exact g
            · intro X rest g
              refine G.move rfl rfl rfl rfl ?_
              exact g
            · intro X rest g
              refine G.indexO (xs := a1) (j := x13) (off := x13.toNat * 1) rfl rfl rfl rfl rfl el28 (r := 1) rfl (by simp) k28 rfl ?_
              exact g
            · intro X rest g
              refine G.loadI (y := a1.getD x13.toNat 0) rfl rfl rfl rfl ty3 (fun w hs => Rd.osG q27 (Lens.id _ _) hs (j := 1) rfl (o := x13.toNat * 1) (by first | rfl | simp)) ?_
              exact g
            · intro X rest g
              refine G.cmp ((x12.getD x13.toNat 0) ≠ (a1.getD x13.toNat 0)) rfl rfl rfl rfl rfl rfl Iff.rfl ?_
              exact g
            · intro A L hlen hp h0
              refine G.lessSub (B := [(0, .slice A0 x12.length n0), (1, .slice A1 a1.length n1), (5, .int .i64 x13), (12, .int .i64 (a0.length : Int)), (13, .int .i64 x13), (24, .bool (decide ((x12.getD x13.toNat 0) ≠ (a1.getD x13.toNat 0))))]) (hp.fin hlen h0 (src := [.base 0, .base 1, .base 5, .base 12, .base 13, .op 8]) rfl) ?_
              refine G.regionEnd ?_
              refine G.condP rfl (fun k31 => ?_) (fun k31 => ?_)
              · replace h := ifT h k31
                refine G.seq ?_
                refine G.region (l := [0]) rfl ?_
                refine G.assign rfl rfl rfl rfl ?_
                refine G.regionEnd ?_
                refine G.frontAt 1 rfl ?_
                refine G.frontAt 1 rfl ?_
                obtain rfl := Option.some.inj h
                exact G.ret1 Try.func30 rfl rfl (fun w hs => ⟨_, _, rfl, ⟨rfl, rfl⟩, hs⟩)
              · replace h := ifF h k31
                refine G.skip ?_
                refine G.region (l := [0, 1, 2, 3]) rfl ?_
                refine G.move rfl rfl rfl rfl ?_
                refine G.move rfl rfl rfl rfl ?_
                obtain ⟨k30, h⟩ := guardS h
                have q29 : x13.toNat < x12.length := by omega
                refine G.indexO (xs := x12) (j := x13) (off := x13.toNat * 1) rfl rfl rfl rfl rfl el28 (r := 0) rfl (by simp) k30 rfl ?_
                refine G.storeO (df := (Kd.int .i64)) (y := (-7)) (hj := q29) (xs' := x12.set x13.toNat (-7)) rfl rfl rfl rfl (Lens.id _ _) (by first | rfl | simp) ⟨([.int .i64 (-7)] : List Value), rfl, rfl⟩ sz3 rfl ?_
                refine G.regionEnd ?_
                refine G.inBlock ?_
                refine G.region (l := [0, 1]) rfl ?_
                refine G.bin (m := x13) (n := 1) (r := wi64 (x13 + 1)) rfl rfl rfl rfl rfl rfl rfl ?_
                refine G.move rfl rfl rfl rfl ?_
                refine G.regionEnd ?_
                refine G.round ?_
                refine G.same (d := 0) (v := .slice A0 ((x12.set x13.toNat (-7)).length) n0) rfl (by first | (simp; done) | (simp; omega)) ?_
                refine G.frontAt 1 rfl ?_
                refine G.frontAt 1 rfl ?_
                refine G.less ?_ (ih22  (x12.set x13.toNat (-7)) (wi64 (x13 + 1)) h)
                exact ⟨rfl, rfl, rfl, rfl, trivial⟩
          intro l hl
          exact P36 9 (List.replicate 9 false) _ l rfl (Reg.Phi.init 9 ⟨rfl, rfl, rfl, rfl, rfl, trivial⟩) (left_rep 9) hl
        · replace h := ifF h k37
          refine G.exit rfl ?_
          refine G.seq ?_
          refine G.region (l := [0]) rfl ?_
          refine G.assign rfl rfl rfl rfl ?_
          refine G.regionEnd ?_
          refine G.frontAt 1 rfl ?_
          refine G.frontAt 1 rfl ?_
          obtain rfl := Option.some.inj h
          exact G.ret1 Try.func30 rfl rfl (fun w hs => ⟨_, _, rfl, ⟨rfl, rfl⟩, hs⟩)
    intro J38
    refine G.frontAt 1 rfl ?_
    refine G.frontAt 1 rfl ?_
    refine G.less ?_ (J38 FUEL  a0 0 h)
    exact ⟨rfl, rfl, rfl, rfl, trivial⟩
set_option maxRecDepth 20000 in
theorem free_Map_Taken.ok {O : World} {H : PH} {Fr : List Res} (a0 : S_free_Map) (g0 : Nat) (A0 : Option Addr) (n0 : Nat) {r : (List Int)} (h : free_Map_Taken.f a0 = some r) :
    CtrS Try.prog 16 [.pointer (some ⟨g0, 0, none⟩)] O H (BK 53 K_R_free_Map g0 (R_free_Map.mk a0.from_ (A0, a0.kinds.length, n0)) :: OS 54 Kd.u8 A0 n0 a0.kinds :: Fr) (fun v L' => ∃ (Ar0 : Option Addr) (nr0 : Nat), v = .slice Ar0 r.length nr0 ∧ BK 53 K_R_free_Map g0 (R_free_Map.mk a0.from_ (A0, a0.kinds.length, n0)) :: OS 54 Kd.u8 A0 n0 a0.kinds :: OS 3 (Kd.int .i64) Ar0 nr0 r :: Fr = L') := by
  refine CtrS.start (n := 5) Try.func16 rfl Try.ntmps16 rfl rfl ?_
  unfold free_Map_Taken.f at h
  refine G.seq ?_
  refine G.region (l := [0]) rfl ?_
  refine G.assign rfl rfl rfl rfl ?_
  refine G.regionEnd ?_
  refine G.seq ?_
  refine G.region (l := [0, 1, 2]) rfl ?_
  refine G.move rfl rfl rfl rfl ?_
  refine G.frontAt 1 rfl ?_
  refine G.frontAt 1 rfl ?_
  obtain ⟨t3, e4, h⟩ := bindS h
  refine G.callS rfl rfl rfl rfl call25 (free_Map_all.ok a0 g0 A0 n0 1 e4) ?_
  rintro v5 L6 ⟨B7, c8, rfl, rfl⟩
  refine G.assign rfl rfl rfl rfl ?_
  refine G.regionEnd ?_
  refine G.frontAt 2 rfl ?_
  refine G.frontAt 2 rfl ?_
  refine G.frontAt 2 rfl ?_
  obtain rfl := Option.some.inj h
  exact G.ret1 Try.func16 rfl rfl (fun w hs => ⟨_, _, rfl, ⟨B7, c8, rfl, rfl⟩, hs⟩)
def free_Map_Is.reg29_1 (B : List (Nat × Value)) : Reg := ⟨[[], [], [1], [2], [3], [0, 4], [5], [6], [6], [8, 6], [9, 6], [10, 6], [7, 11, 6], [6], [13, 6], [14, 6], [15, 6], [16, 6], [12, 17, 6], [6, 18]], [some 5, some 6, some 7, some 8, some 9, some 10, some 11, some 12, some 13, some 14, some 15, some 16, some 17, some 18, some 19, some 20, some 21, some 22, some 23, some 24], B⟩
theorem free_Map_Is.reg29_1_ap (B : List (Nat × Value)) : (free_Map_Is.reg29_1 B).apart = true := rfl
def free_Map_Is.reg29_3 (B : List (Nat × Value)) : Reg := ⟨[[], [0], [1], [2], [], [], [5], [6], [7], [4, 8], [3, 9], [10], [11], [12], [13, 0, 1, 2, 3, 4, 5, 6, 7, 8, 9, 10, 11, 12, 13]], [some 25, some 26, some 27, some 28, some 29, some 30, some 31, some 32, some 33, some 34, some 35, some 36, some 37, some 38, some 4], B⟩
theorem free_Map_Is.reg29_3_ap (B : List (Nat × Value)) : (free_Map_Is.reg29_3 B).apart = true := rfl
set_option maxRecDepth 20000 in
theorem free_Map_Is.ok {O : World} {H : PH} {Fr : List Res} (a0 : S_free_Map) (g0 : Nat) (A0 : Option Addr) (n0 : Nat) (a1 : Int) {r : Int} (h : free_Map_Is.f a0 a1 = some r) :
    CtrS Try.prog 29 [.pointer (some ⟨g0, 0, none⟩), .int .i64 a1] O H (BK 53 K_R_free_Map g0 (R_free_Map.mk a0.from_ (A0, a0.kinds.length, n0)) :: OS 54 Kd.u8 A0 n0 a0.kinds :: Fr) (fun v L' => v = .int .i64 r ∧ BK 53 K_R_free_Map g0 (R_free_Map.mk a0.from_ (A0, a0.kinds.length, n0)) :: OS 54 Kd.u8 A0 n0 a0.kinds :: Fr = L') := by
  refine CtrS.start (n := 39) Try.func29 rfl Try.ntmps29 rfl rfl ?_
  unfold free_Map_Is.f at h
  refine G.seq ?_
  refine G.region (l := [0]) rfl ?_
  refine G.assign rfl rfl rfl rfl ?_
  refine G.regionEnd ?_
  refine G.seq ?_
  refine G.seq ?_
  refine byP (p := a1 < a0.from_) (fun k3 => ?_) (fun k3 => ?_)
  · replace h := ifT h k3
    refine G.draw [[], [], [1], [2], [3], [0, 4], [5], [6], [6], [8, 6], [9, 6], [10, 6], [7, 11, 6], [6], [13, 6], [14, 6], [15, 6], [16, 6], [12, 17, 6], [6, 18]] 20 [0, 1, 2, 3, 4, 5, 6, 7, 8, 9, 10, 11, 12, 13, 14, 15, 16, 17, 18, 19] [0, 0, 1, 2, 3, 4, 5, 6, 6, 7, 8, 9, 10, 6, 7, 8, 9, 10, 11, 12] [0, 0, 1, 2, 3, 4, 5, 6, 6, 7, 8, 9, 10, 6, 7, 8, 9, 10, 11, 12] rfl (by kernel_rfl) (by kernel_rfl) (by kernel_rfl) (by kernel_rfl) ?_
    intro C4 ops5 k6
    let R7 : Reg := free_Map_Is.reg29_1 [(0, .pointer (some ⟨g0, 0, none⟩)), (1, .int .i64 a1)]
    have P8 : ∀ (m : Nat) (L : List Bool) (A : List (Nat × Value)) (l : List Nat), L.length = R7.ds.length → R7.Phi [some (.int .i64 a1), some (.pointer (some ⟨g0, 0, none⟩)), some (.pointer (some ⟨g0, 0, none⟩)), some (.pointer (some ⟨g0, 0, none⟩)), some (.int .i64 a0.from_), some (.bool (decide (a1 < a0.from_))), some (.bool true), some (undef), some (undef), some (undef), some (undef), some (undef), some (undef), some (undef), some (undef), some (undef), some (undef), some (undef), some (undef), some (.bool true)] [] [] L A → left L = m → Ord R7.ds m L l → G C4 H A (BK 53 K_R_free_Map g0 (R_free_Map.mk a0.from_ (A0, a0.kinds.length, n0)) :: OS 54 Kd.u8 A0 n0 a0.kinds :: Fr) (.inRegion ops5 l :: k6) := by
      refine G.phase R7 [some (.int .i64 a1), some (.pointer (some ⟨g0, 0, none⟩)), some (.pointer (some ⟨g0, 0, none⟩)), some (.pointer (some ⟨g0, 0, none⟩)), some (.int .i64 a0.from_), some (.bool (decide (a1 < a0.from_))), some (.bool true), some (undef), some (undef), some (undef), some (undef), some (undef), some (undef), some (undef), some (undef), some (undef), some (undef), some (undef), some (undef), some (.bool true)] [0, 1, 2, 3, 4, 5, 6, 7, 8, 9, 10, 11, 12, 13, 14, 15, 16, 17, 18, 19] [] [] [] (free_Map_Is.reg29_1_ap _) rfl rfl ⟨⟨[.base 1], 5, .int .i64 a1, [(1, .int .i64 a1)], ⟨rfl, rfl, rfl, rfl, ?_⟩⟩, ⟨⟨[.base 0], 6, .pointer (some ⟨g0, 0, none⟩), [(0, .pointer (some ⟨g0, 0, none⟩))], ⟨rfl, rfl, rfl, rfl, ?_⟩⟩, ⟨⟨[.op 1], 7, .pointer (some ⟨g0, 0, none⟩), [(6, .pointer (some ⟨g0, 0, none⟩))], ⟨rfl, rfl, rfl, rfl, ?_⟩⟩, ⟨⟨[.op 2], 8, .pointer (some ⟨g0, 0, none⟩), [(7, .pointer (some ⟨g0, 0, none⟩))], ⟨rfl, rfl, rfl, rfl, ?_⟩⟩, ⟨⟨[.op 3], 9, .int .i64 a0.from_, [(8, .pointer (some ⟨g0, 0, none⟩))], ⟨rfl, rfl, rfl, rfl, ?_⟩⟩, ⟨⟨[.op 0, .op 4], 10, .bool (decide (a1 < a0.from_)), [(5, .int .i64 a1), (9, .int .i64 a0.from_)], ⟨rfl, rfl, rfl, rfl, ?_⟩⟩, ⟨⟨[.op 5], 11, .bool true, [(10, .bool (decide (a1 < a0.from_)))], ⟨rfl, rfl, rfl, rfl, ?_⟩⟩, ⟨⟨[.base 1, .op 6], 12, undef, [(1, .int .i64 a1), (11, .bool true)], ⟨rfl, rfl, rfl, rfl, ?_⟩⟩, ⟨⟨[.base 0, .op 6], 13, undef, [(0, .pointer (some ⟨g0, 0, none⟩)), (11, .bool true)], ⟨rfl, rfl, rfl, rfl, ?_⟩⟩, ⟨⟨[.op 6, .op 8], 14, undef, [(11, .bool true), (13, undef)], ⟨rfl, rfl, rfl, rfl, ?_⟩⟩, ⟨⟨[.op 6, .op 9], 15, undef, [(11, .bool true), (14, undef)], ⟨rfl, rfl, rfl, rfl, ?_⟩⟩, ⟨⟨[.op 6, .op 10], 16, undef, [(11, .bool true), (15, undef)], ⟨rfl, rfl, rfl, rfl, ?_⟩⟩, ⟨⟨[.op 6, .op 7, .op 11], 17, undef, [(11, .bool true), (12, undef), (16, undef)], ⟨rfl, rfl, rfl, rfl, ?_⟩⟩, ⟨⟨[.base 0, .op 6], 18, undef, [(0, .pointer (some ⟨g0, 0, none⟩)), (11, .bool true)], ⟨rfl, rfl, rfl, rfl, ?_⟩⟩, ⟨⟨[.op 6, .op 13], 19, undef, [(11, .bool true), (18, undef)], ⟨rfl, rfl, rfl, rfl, ?_⟩⟩, ⟨⟨[.op 6, .op 14], 20, undef, [(11, .bool true), (19, undef)], ⟨rfl, rfl, rfl, rfl, ?_⟩⟩, ⟨⟨[.op 6, .op 15], 21, undef, [(11, .bool true), (20, undef)], ⟨rfl, rfl, rfl, rfl, ?_⟩⟩, ⟨⟨[.op 6, .op 16], 22, undef, [(11, .bool true), (21, undef)], ⟨rfl, rfl, rfl, rfl, ?_⟩⟩, ⟨⟨[.op 6, .op 12, .op 17], 23, undef, [(11, .bool true), (17, undef), (22, undef)], ⟨rfl, rfl, rfl, rfl, ?_⟩⟩, ⟨⟨[.op 6, .op 18], 24, .bool true, [(11, .bool true), (23, undef)], ⟨rfl, rfl, rfl, rfl, ?_⟩⟩, trivial⟩⟩⟩⟩⟩⟩⟩⟩⟩⟩⟩⟩⟩⟩⟩⟩⟩⟩⟩⟩ trivial ?_
      · intro X rest g
        refine G.move rfl rfl rfl rfl ?_
        exact g
      · intro X rest g
        refine G.move rfl rfl rfl rfl ?_
        exact g
      · intro X rest g
        refine G.nilCheck rfl rfl rfl rfl ?_
        exact g
      · intro X rest g
        refine G.field (off' := 0) rfl rfl rfl rfl Try.underlying53 rfl sz3 rfl rfl ?_
        exact g
      · intro X rest g
        refine G.loadI (y := a0.from_) rfl rfl rfl rfl ty3 (fun w hs => Rd.bk (R_free_Map.L_from_ _) hs (j := 0) rfl) ?_
        exact g
      · intro X rest g
        refine G.cmp (a1 < a0.from_) rfl rfl rfl rfl rfl rfl Iff.rfl ?_
        exact g
      · intro X rest g
        refine G.move rfl rfl rfl rfl ?_
        refine G.same (d := 11) (v := .bool true) rfl (by simp [k3]) ?_
        refine G.shadow ?_
        exact g
      · intro X rest g
        refine G.unwanted rfl rfl rfl rfl ?_
        exact g
      · intro X rest g
        refine G.unwanted rfl rfl rfl rfl ?_
        exact g
      · intro X rest g
        refine G.unwanted rfl rfl rfl rfl ?_
        exact g
      · intro X rest g
        refine G.unwanted rfl rfl rfl rfl ?_
        exact g
      · intro X rest g
        refine G.unwanted rfl rfl rfl rfl ?_
        exact g
      · intro X rest g
        refine G.unwanted rfl rfl rfl rfl ?_
        exact g
      · intro X rest g
        refine G.unwanted rfl rfl rfl rfl ?_
        exact g
      · intro X rest g
        refine G.unwanted rfl rfl rfl rfl ?_
        exact g
      · intro X rest g
        refine G.unwanted rfl rfl rfl rfl ?_
        exact g
      · intro X rest g
        refine G.unwanted rfl rfl rfl rfl ?_
        exact g
      · intro X rest g
        refine G.unwanted rfl rfl rfl rfl ?_
        exact g
      · intro X rest g
        refine G.unwanted rfl rfl rfl rfl ?_
        exact g
      · intro X rest g
        refine G.pickT rfl rfl rfl rfl rfl ?_
        exact g
      · intro A L hlen hp h0
        refine G.lessSub (B := [(0, .pointer (some ⟨g0, 0, none⟩)), (1, .int .i64 a1), (24, .bool true)]) (hp.fin hlen h0 (src := [.base 0, .base 1, .op 19]) rfl) ?_
        refine G.regionEnd ?_
        refine G.condT rfl ?_
        refine G.seq ?_
        refine G.region (l := [0]) rfl ?_
        refine G.assign rfl rfl rfl rfl ?_
        refine G.regionEnd ?_
        refine G.frontAt 1 rfl ?_
        refine G.frontAt 1 rfl ?_
        obtain rfl := Option.some.inj h
        exact G.ret1 Try.func29 rfl rfl (fun w hs => ⟨_, _, rfl, ⟨rfl, rfl⟩, hs⟩)
    intro l hl
    exact P8 20 (List.replicate 20 false) _ l rfl (Reg.Phi.init 20 ⟨rfl, rfl, trivial⟩) (left_rep 20) hl
  · replace h := ifF h k3
    refine G.draw [[], [], [1], [2], [3], [0, 4], [5], [6], [6], [8, 6], [9, 6], [10, 6], [7, 11, 6], [6], [13, 6], [14, 6], [15, 6], [16, 6], [12, 17, 6], [6, 18]] 20 [0, 1, 2, 3, 4, 5, 6, 7, 8, 9, 10, 11, 12, 13, 14, 15, 16, 17, 18, 19] [0, 0, 1, 2, 3, 4, 5, 6, 6, 7, 8, 9, 10, 6, 7, 8, 9, 10, 11, 12] [0, 0, 1, 2, 3, 4, 5, 6, 6, 7, 8, 9, 10, 6, 7, 8, 9, 10, 11, 12] rfl (by kernel_rfl) (by kernel_rfl) (by kernel_rfl) (by kernel_rfl) ?_
    intro C17 ops18 k19
    let R20 : Reg := free_Map_Is.reg29_1 [(0, .pointer (some ⟨g0, 0, none⟩)), (1, .int .i64 a1)]
    have P21 : ∀ (m : Nat) (L : List Bool) (A : List (Nat × Value)) (l : List Nat), L.length = R20.ds.length → R20.Phi [some (.int .i64 a1), some (.pointer (some ⟨g0, 0, none⟩)), some (.pointer (some ⟨g0, 0, none⟩)), some (.pointer (some ⟨g0, 0, none⟩)), some (.int .i64 a0.from_), some (.bool (decide (a1 < a0.from_))), some (.bool false), some (.int .i64 a1), some (.pointer (some ⟨g0, 0, none⟩)), some (.pointer (some ⟨g0, 0, none⟩)), some (.pointer (some ⟨g0, 0, none⟩)), some (.int .i64 a0.from_), some (.int .i64 (wi64 (a1 - a0.from_))), some (.pointer (some ⟨g0, 0, none⟩)), some (.pointer (some ⟨g0, 0, none⟩)), some (.pointer (some ⟨g0, 1, none⟩)), some (.slice A0 a0.kinds.length n0), some (.int .i64 (a0.kinds.length : Int)), some (.bool (decide ((a0.kinds.length : Int) ≤ (wi64 (a1 - a0.from_))))), some (.bool (decide ((a0.kinds.length : Int) ≤ (wi64 (a1 - a0.from_)))))] [] [] L A → left L = m → Ord R20.ds m L l → G C17 H A (BK 53 K_R_free_Map g0 (R_free_Map.mk a0.from_ (A0, a0.kinds.length, n0)) :: OS 54 Kd.u8 A0 n0 a0.kinds :: Fr) (.inRegion ops18 l :: k19) := by
      refine G.phase R20 [some (.int .i64 a1), some (.pointer (some ⟨g0, 0, none⟩)), some (.pointer (some ⟨g0, 0, none⟩)), some (.pointer (some ⟨g0, 0, none⟩)), some (.int .i64 a0.from_), some (.bool (decide (a1 < a0.from_))), some (.bool false), some (.int .i64 a1), some (.pointer (some ⟨g0, 0, none⟩)), some (.pointer (some ⟨g0, 0, none⟩)), some (.pointer (some ⟨g0, 0, none⟩)), some (.int .i64 a0.from_), some (.int .i64 (wi64 (a1 - a0.from_))), some (.pointer (some ⟨g0, 0, none⟩)), some (.pointer (some ⟨g0, 0, none⟩)), some (.pointer (some ⟨g0, 1, none⟩)), some (.slice A0 a0.kinds.length n0), some (.int .i64 (a0.kinds.length : Int)), some (.bool (decide ((a0.kinds.length : Int) ≤ (wi64 (a1 - a0.from_))))), some (.bool (decide ((a0.kinds.length : Int) ≤ (wi64 (a1 - a0.from_)))))] [0, 1, 2, 3, 4, 5, 6, 7, 8, 9, 10, 11, 12, 13, 14, 15, 16, 17, 18, 19] [] [] [] (free_Map_Is.reg29_1_ap _) rfl rfl ⟨⟨[.base 1], 5, .int .i64 a1, [(1, .int .i64 a1)], ⟨rfl, rfl, rfl, rfl, ?_⟩⟩, ⟨⟨[.base 0], 6, .pointer (some ⟨g0, 0, none⟩), [(0, .pointer (some ⟨g0, 0, none⟩))], ⟨rfl, rfl, rfl, rfl, ?_⟩⟩, ⟨⟨[.op 1], 7, .pointer (some ⟨g0, 0, none⟩), [(6, .pointer (some ⟨g0, 0, none⟩))], ⟨rfl, rfl, rfl, rfl, ?_⟩⟩, ⟨⟨[.op 2], 8, .pointer (some ⟨g0, 0, none⟩), [(7, .pointer (some ⟨g0, 0, none⟩))], ⟨rfl, rfl, rfl, rfl, ?_⟩⟩, ⟨⟨[.op 3], 9, .int .i64 a0.from_, [(8, .pointer (some ⟨g0, 0, none⟩))], ⟨rfl, rfl, rfl, rfl, ?_⟩⟩, ⟨⟨[.op 0, .op 4], 10, .bool (decide (a1 < a0.from_)), [(5, .int .i64 a1), (9, .int .i64 a0.from_)], ⟨rfl, rfl, rfl, rfl, ?_⟩⟩, ⟨⟨[.op 5], 11, .bool false, [(10, .bool (decide (a1 < a0.from_)))], ⟨rfl, rfl, rfl, rfl, ?_⟩⟩, ⟨⟨[.base 1, .op 6], 12, .int .i64 a1, [(1, .int .i64 a1), (11, .bool false)], ⟨rfl, rfl, rfl, rfl, ?_⟩⟩, ⟨⟨[.base 0, .op 6], 13, .pointer (some ⟨g0, 0, none⟩), [(0, .pointer (some ⟨g0, 0, none⟩)), (11, .bool false)], ⟨rfl, rfl, rfl, rfl, ?_⟩⟩, ⟨⟨[.op 6, .op 8], 14, .pointer (some ⟨g0, 0, none⟩), [(11, .bool false), (13, .pointer (some ⟨g0, 0, none⟩))], ⟨rfl, rfl, rfl, rfl, ?_⟩⟩, ⟨⟨[.op 6, .op 9], 15, .pointer (some ⟨g0, 0, none⟩), [(11, .bool false), (14, .pointer (some ⟨g0, 0, none⟩))], ⟨rfl, rfl, rfl, rfl, ?_⟩⟩, ⟨⟨[.op 6, .op 10], 16, .int .i64 a0.from_, [(11, .bool false), (15, .pointer (some ⟨g0, 0, none⟩))], ⟨rfl, rfl, rfl, rfl, ?_⟩⟩, ⟨⟨[.op 6, .op 7, .op 11], 17, .int .i64 (wi64 (a1 - a0.from_)), [(11, .bool false), (12, .int .i64 a1), (16, .int .i64 a0.from_)], ⟨rfl, rfl, rfl, rfl, ?_⟩⟩, ⟨⟨[.base 0, .op 6], 18, .pointer (some ⟨g0, 0, none⟩), [(0, .pointer (some ⟨g0, 0, none⟩)), (11, .bool false)], ⟨rfl, rfl, rfl, rfl, ?_⟩⟩, ⟨⟨[.op 6, .op 13], 19, .pointer (some ⟨g0, 0, none⟩), [(11, .bool false), (18, .pointer (some ⟨g0, 0, none⟩))], ⟨rfl, rfl, rfl, rfl, ?_⟩⟩, ⟨⟨[.op 6, .op 14], 20, .pointer (some ⟨g0, 1, none⟩), [(11, .bool false), (19, .pointer (some ⟨g0, 0, none⟩))], ⟨rfl, rfl, rfl, rfl, ?_⟩⟩, ⟨⟨[.op 6, .op 15], 21, .slice A0 a0.kinds.length n0, [(11, .bool false), (20, .pointer (some ⟨g0, 1, none⟩))], ⟨rfl, rfl, rfl, rfl, ?_⟩⟩, ⟨⟨[.op 6, .op 16], 22, .int .i64 (a0.kinds.length : Int), [(11, .bool false), (21, .slice A0 a0.kinds.length n0)], ⟨rfl, rfl, rfl, rfl, ?_⟩⟩, ⟨⟨[.op 6, .op 12, .op 17], 23, .bool (decide ((a0.kinds.length : Int) ≤ (wi64 (a1 - a0.from_)))), [(11, .bool false), (17, .int .i64 (wi64 (a1 - a0.from_))), (22, .int .i64 (a0.kinds.length : Int))], ⟨rfl, rfl, rfl, rfl, ?_⟩⟩, ⟨⟨[.op 6, .op 18], 24, .bool (decide ((a0.kinds.length : Int) ≤ (wi64 (a1 - a0.from_)))), [(11, .bool false), (23, .bool (decide ((a0.kinds.length : Int) ≤ (wi64 (a1 - a0.from_)))))], ⟨rfl, rfl, rfl, rfl, ?_⟩⟩, trivial⟩⟩⟩⟩⟩⟩⟩⟩⟩⟩⟩⟩⟩⟩⟩⟩⟩⟩⟩⟩ trivial ?_
      · intro X rest g
        refine G.move rfl rfl rfl rfl ?_
        exact g
      · intro X rest g
        refine G.move rfl rfl rfl rfl ?_
        exact g
      · intro X rest g
        refine G.nilCheck rfl rfl rfl rfl ?_
        exact g
      · intro X rest g
        refine G.field (off' := 0) rfl rfl rfl rfl Try.underlying53 rfl sz3 rfl rfl ?_
        exact g
      · intro X rest g
        refine G.loadI (y := a0.from_) rfl rfl rfl rfl ty3 (fun w hs => Rd.bk (R_free_Map.L_from_ _) hs (j := 0) rfl) ?_
        exact g
      · intro X rest g
        refine G.cmp (a1 < a0.from_) rfl rfl rfl rfl rfl rfl Iff.rfl ?_
        exact g
      · intro X rest g
        refine G.move rfl rfl rfl rfl ?_
        refine G.same (d := 11) (v := .bool false) rfl (by simp [k3]) ?_
        refine G.shadow ?_
        exact g
      · intro X rest g
        refine G.move rfl rfl rfl rfl ?_
        exact g
      · intro X rest g
        refine G.move rfl rfl rfl rfl ?_
        exact g
      · intro X rest g
        refine G.nilCheck rfl rfl rfl rfl ?_
        exact g
      · intro X rest g
        refine G.field (off' := 0) rfl rfl rfl rfl Try.underlying53 rfl sz3 rfl rfl ?_
        exact g
      · intro X rest g
        refine G.loadI (y := a0.from_) rfl rfl rfl rfl ty3 (fun w hs => Rd.bk (R_free_Map.L_from_ _) hs (j := 0) rfl) ?_
        exact g
      · intro X rest g
        refine G.bin (m := a1) (n := a0.from_) (r := wi64 (a1 - a0.from_)) rfl rfl rfl rfl rfl rfl rfl ?_
        exact g
      · intro X rest g
        refine G.move rfl rfl rfl rfl ?_
        exact g
      · intro X rest g
        refine G.nilCheck rfl rfl rfl rfl ?_
        exact g
      · intro X rest g
        refine G.field (off' := 1) rfl rfl rfl rfl Try.underlying53 rfl sz51 rfl rfl ?_
        exact g
      · intro X rest g
        refine G.loadH (B := A0) (m := a0.kinds.length) (c := n0) rfl rfl rfl rfl ty51r (fun w hs => Rd.bk (R_free_Map.L_kinds _) hs (j := 0) rfl) ?_
        exact g
      · intro X rest g
        refine G.len (m := a0.kinds.length) rfl rfl rfl rfl Try.underlying51 ?_
        exact g
      · intro X rest g
        refine G.cmp ((a0.kinds.length : Int) ≤ (wi64 (a1 - a0.from_))) rfl rfl rfl rfl rfl rfl Iff.rfl ?_
        exact g
      · intro X rest g
        refine G.pickF rfl rfl rfl rfl rfl ?_
        exact g
      · intro A L hlen hp h0
        refine G.lessSub (B := [(0, .pointer (some ⟨g0, 0, none⟩)), (1, .int .i64 a1), (24, .bool (decide ((a0.kinds.length : Int) ≤ (wi64 (a1 - a0.from_)))))]) (hp.fin hlen h0 (src := [.base 0, .base 1, .op 19]) rfl) ?_
        refine G.regionEnd ?_
        refine G.condP rfl (fun k16 => ?_) (fun k16 => ?_)
        · replace h := ifT h k16
          refine G.seq ?_
          refine G.region (l := [0]) rfl ?_
          refine G.assign rfl rfl rfl rfl ?_
          refine G.regionEnd ?_
          refine G.frontAt 1 rfl ?_
          refine G.frontAt 1 rfl ?_
          obtain rfl := Option.some.inj h
          exact G.ret1 Try.func29 rfl rfl (fun w hs => ⟨_, _, rfl, ⟨rfl, rfl⟩, hs⟩)
        · replace h := ifF h k16
          refine G.skip ?_
          refine G.seq ?_
          obtain ⟨k10, h⟩ := guardS h
          have q9 : (wi64 (a1 - a0.from_)).toNat < a0.kinds.length := by omega
          refine G.draw [[], [0], [1], [2], [], [], [5], [6], [7], [4, 8], [3, 9], [10], [11], [12], [13, 0, 1, 2, 3, 4, 5, 6, 7, 8, 9, 10, 11, 12, 13]] 15 [0, 1, 2, 3, 4, 5, 6, 7, 8, 9, 10, 11, 12, 13, 14] [0, 1, 2, 3, 0, 0, 1, 2, 3, 4, 5, 6, 7, 8, 9] [0, 1, 2, 3, 0, 0, 1, 2, 3, 4, 5, 6, 7, 8, 9] rfl (by kernel_rfl) (by kernel_rfl) (by kernel_rfl) (by kernel_rfl) ?_
          intro C11 ops12 k13
          let R14 : Reg := free_Map_Is.reg29_3 [(0, .pointer (some ⟨g0, 0, none⟩)), (1, .int .i64 a1)]
          have P15 : ∀ (m : Nat) (L : List Bool) (A : List (Nat × Value)) (l : List Nat), L.length = R14.ds.length → R14.Phi [some (.pointer (some ⟨g0, 0, none⟩)), some (.pointer (some ⟨g0, 0, none⟩)), some (.pointer (some ⟨g0, 1, none⟩)), some (.slice A0 a0.kinds.length n0), some (.int .i64 a1), some (.pointer (some ⟨g0, 0, none⟩)), some (.pointer (some ⟨g0, 0, none⟩)), some (.pointer (some ⟨g0, 0, none⟩)), some (.int .i64 a0.from_), some (.int .i64 (wi64 (a1 - a0.from_))), some (.pointer (some (plc A0 ((wi64 (a1 - a0.from_)).toNat * 1)))), some (u8V (a0.kinds.getD ((wi64 (a1 - a0.from_)).toNat) 0)), some (.int .i64 ((a0.kinds.getD ((wi64 (a1 - a0.from_)).toNat) 0).toNat : Int)), some (.int .i64 (wi64 (1 + ((a0.kinds.getD ((wi64 (a1 - a0.from_)).toNat) 0).toNat : Int)))), some (.int .i64 (wi64 (1 + ((a0.kinds.getD ((wi64 (a1 - a0.from_)).toNat) 0).toNat : Int))))] [] [] L A → left L = m → Ord R14.ds m L l → G C11 H A (BK 53 K_R_free_Map g0 (R_free_Map.mk a0.from_ (A0, a0.kinds.length, n0)) :: OS 54 Kd.u8 A0 n0 a0.kinds :: Fr) (.inRegion ops12 l :: k13) := by
            refine G.phase R14 [some (.pointer (some ⟨g0, 0, none⟩)), some (.pointer (some ⟨g0, 0, none⟩)), some (.pointer (some ⟨g0, 1, none⟩)), some (.slice A0 a0.kinds.length n0), some (.int .i64 a1), some (.pointer (some ⟨g0, 0, none⟩)), some (.pointer (some ⟨g0, 0, none⟩)), some (.pointer (some ⟨g0, 0, none⟩)), some (.int .i64 a0.from_), some (.int .i64 (wi64 (a1 - a0.from_))), some (.pointer (some (plc A0 ((wi64 (a1 - a0.from_)).toNat * 1)))), some (u8V (a0.kinds.getD ((wi64 (a1 - a0.from_)).toNat) 0)), some (.int .i64 ((a0.kinds.getD ((wi64 (a1 - a0.from_)).toNat) 0).toNat : Int)), some (.int .i64 (wi64 (1 + ((a0.kinds.getD ((wi64 (a1 - a0.from_)).toNat) 0).toNat : Int)))), some (.int .i64 (wi64 (1 + ((a0.kinds.getD ((wi64 (a1 - a0.from_)).toNat) 0).toNat : Int))))] [0, 1, 2, 3, 4, 5, 6, 7, 8, 9, 10, 11, 12, 13, 14] [] [] [] (free_Map_Is.reg29_3_ap _) rfl rfl ⟨⟨[.base 0], 25, .pointer (some ⟨g0, 0, none⟩), [(0, .pointer (some ⟨g0, 0, none⟩))], ⟨rfl, rfl, rfl, rfl, ?_⟩⟩, ⟨⟨[.op 0], 26, .pointer (some ⟨g0, 0, none⟩), [(25, .pointer (some ⟨g0, 0, none⟩))], ⟨rfl, rfl, rfl, rfl, ?_⟩⟩, ⟨⟨[.op 1], 27, .pointer (some ⟨g0, 1, none⟩), [(26, .pointer (some ⟨g0, 0, none⟩))], ⟨rfl, rfl, rfl, rfl, ?_⟩⟩, ⟨⟨[.op 2], 28, .slice A0 a0.kinds.length n0, [(27, .pointer (some ⟨g0, 1, none⟩))], ⟨rfl, rfl, rfl, rfl, ?_⟩⟩, ⟨⟨[.base 1], 29, .int .i64 a1, [(1, .int .i64 a1)], ⟨rfl, rfl, rfl, rfl, ?_⟩⟩, ⟨⟨[.base 0], 30, .pointer (some ⟨g0, 0, none⟩), [(0, .pointer (some ⟨g0, 0, none⟩))], ⟨rfl, rfl, rfl, rfl, ?_⟩⟩, ⟨⟨[.op 5], 31, .pointer (some ⟨g0, 0, none⟩), [(30, .pointer (some ⟨g0, 0, none⟩))], ⟨rfl, rfl, rfl, rfl, ?_⟩⟩, ⟨⟨[.op 6], 32, .pointer (some ⟨g0, 0, none⟩), [(31, .pointer (some ⟨g0, 0, none⟩))], ⟨rfl, rfl, rfl, rfl, ?_⟩⟩, ⟨⟨[.op 7], 33, .int .i64 a0.from_, [(32, .pointer (some ⟨g0, 0, none⟩))], ⟨rfl, rfl, rfl, rfl, ?_⟩⟩, ⟨⟨[.op 4, .op 8], 34, .int .i64 (wi64 (a1 - a0.from_)), [(29, .int .i64 a1), (33, .int .i64 a0.from_)], ⟨rfl, rfl, rfl, rfl, ?_⟩⟩, ⟨⟨[.op 3, .op 9], 35, .pointer (some (plc A0 ((wi64 (a1 - a0.from_)).toNat * 1))), [(28, .slice A0 a0.kinds.length n0), (34, .int .i64 (wi64 (a1 - a0.from_)))], ⟨rfl, rfl, rfl, rfl, ?_⟩⟩, ⟨⟨[.op 10], 36, u8V (a0.kinds.getD ((wi64 (a1 - a0.from_)).toNat) 0), [(35, .pointer (some (plc A0 ((wi64 (a1 - a0.from_)).toNat * 1))))], ⟨rfl, rfl, rfl, rfl, ?_⟩⟩, ⟨⟨[.op 11], 37, .int .i64 ((a0.kinds.getD ((wi64 (a1 - a0.from_)).toNat) 0).toNat : Int), [(36, u8V (a0.kinds.getD ((wi64 (a1 - a0.from_)).toNat) 0))], ⟨rfl, rfl, rfl, rfl, ?_⟩⟩, ⟨⟨[.op 12], 38, .int .i64 (wi64 (1 + ((a0.kinds.getD ((wi64 (a1 - a0.from_)).toNat) 0).toNat : Int))), [(37, .int .i64 ((a0.kinds.getD ((wi64 (a1 - a0.from_)).toNat) 0).toNat : Int))], ⟨rfl, rfl, rfl, rfl, ?_⟩⟩, ⟨⟨[.op 13], 4, .int .i64 (wi64 (1 + ((a0.kinds.getD ((wi64 (a1 - a0.from_)).toNat) 0).toNat : Int))), [(38, .int .i64 (wi64 (1 + ((a0.kinds.getD ((wi64 (a1 - a0.from_)).toNat) 0).toNat : Int))))], ⟨rfl, rfl, rfl, rfl, ?_⟩⟩, trivial⟩⟩⟩⟩⟩⟩⟩⟩⟩⟩⟩⟩⟩⟩⟩ trivial ?_
            · intro X rest g
              refine G.move rfl rfl rfl rfl ?_
              exact g
            · intro X rest g
              refine G.nilCheck rfl rfl rfl rfl ?_
              exact g
            · intro X rest g
              refine G.field (off' := 1) rfl rfl rfl rfl Try.underlying53 rfl sz51 rfl rfl ?_
              exact g
            · intro X rest g
              refine G.loadH (B := A0) (m := a0.kinds.length) (c := n0) rfl rfl rfl rfl ty51r (fun w hs => Rd.bk (R_free_Map.L_kinds _) hs (j := 0) rfl) ?_
              exact g
            · intro X rest g
              refine G.move rfl rfl rfl rfl ?_
              exact g
            · intro X rest g
              refine G.move rfl rfl rfl rfl ?_
              exact g
            · intro X rest g
              refine G.nilCheck rfl rfl rfl rfl ?_
              exact g
            · intro X rest g
              refine G.field (off' := 0) rfl rfl rfl rfl Try.underlying53 rfl sz3 rfl rfl ?_
              exact g
            · intro X rest g
              refine G.loadI (y := a0.from_) rfl rfl rfl rfl ty3 (fun w hs => Rd.bk (R_free_Map.L_from_ _) hs (j := 0) rfl) ?_
              exact g
            · intro X rest g
              refine G.bin (m := a1) (n := a0.from_) (r := wi64 (a1 - a0.from_)) rfl rfl rfl rfl rfl rfl rfl ?_
              exact g
            · intro X rest g
              refine G.indexO (xs := a0.kinds) (j := wi64 (a1 - a0.from_)) (off := (wi64 (a1 - a0.from_)).toNat * 1) rfl rfl rfl rfl rfl el51 (r := 1) rfl (by simp) k10 rfl ?_
              exact g
            · intro X rest g
              refine G.load8 (y := a0.kinds.getD ((wi64 (a1 - a0.from_)).toNat) 0) rfl rfl rfl rfl ty54 (fun w hs => Rd.osG q9 (Lens.id _ _) hs (j := 1) rfl (o := (wi64 (a1 - a0.from_)).toNat * 1) (by first | rfl | simp)) ?_
              exact g
            · intro X rest g
              refine G.conv (m := ((a0.kinds.getD ((wi64 (a1 - a0.from_)).toNat) 0).toNat : Int)) (r := ((a0.kinds.getD ((wi64 (a1 - a0.from_)).toNat) 0).toNat : Int)) rfl rfl rfl rfl Try.underlying54 Try.underlying3 (wr_u8 rfl _) ?_
              exact g
            · intro X rest g
              refine G.bin (m := 1) (n := ((a0.kinds.getD ((wi64 (a1 - a0.from_)).toNat) 0).toNat : Int)) (r := wi64 (1 + ((a0.kinds.getD ((wi64 (a1 - a0.from_)).toNat) 0).toNat : Int))) rfl rfl rfl rfl rfl rfl rfl ?_
              exact g
            · intro X rest g
              refine G.assign rfl rfl rfl rfl ?_
              exact g
            · intro A L hlen hp h0
              refine G.lessSub (B := [(4, .int .i64 (wi64 (1 + ((a0.kinds.getD ((wi64 (a1 - a0.from_)).toNat) 0).toNat : Int))))]) (hp.fin hlen h0 (src := [.op 14]) rfl) ?_
              refine G.regionEnd ?_
              refine G.frontAt 1 rfl ?_
              refine G.frontAt 1 rfl ?_
              obtain rfl := Option.some.inj h
              exact G.ret1 Try.func29 rfl rfl (fun w hs => ⟨_, _, rfl, ⟨rfl, rfl⟩, hs⟩)
          intro l hl
          exact P15 15 (List.replicate 15 false) _ l rfl (Reg.Phi.init 15 ⟨rfl, rfl, trivial⟩) (left_rep 15) hl
    intro l hl
    exact P21 20 (List.replicate 20 false) _ l rfl (Reg.Phi.init 20 ⟨rfl, rfl, trivial⟩) (left_rep 20) hl
def armoireref06_Map_Is.reg28_1 (B : List (Nat × Value)) : Reg := ⟨[[], [], [1], [2], [3], [0, 4], [5], [6], [6], [8, 6], [9, 6], [10, 6], [7, 11, 6], [6], [13, 6], [14, 6], [15, 6], [16, 6], [12, 17, 6], [6, 18], [19, 6], [20], [21, 20], [22, 20], [23, 20], [20], [20], [26, 20], [27, 20], [28, 20], [25, 29, 20], [24, 30, 20], [31, 20], [20], [32, 33, 20], [20, 34], [35, 20, 0, 1, 2, 3, 4, 5, 6, 7, 8, 9, 10, 11, 12, 13, 14, 15, 16, 17, 18, 19, 20, 21, 22, 23, 24, 25, 26, 27, 28, 29, 30, 31, 32, 33, 34, 35]], [some 7, some 8, some 9, some 10, some 11, some 12, some 13, some 14, some 15, some 16, some 17, some 18, some 19, some 20, some 21, some 22, some 23, some 24, some 25, some 26, some 27, some 28, some 29, some 30, some 31, some 32, some 33, some 34, some 35, some 36, some 37, some 38, some 39, some 40, some 41, some 42, some 6], B⟩
theorem armoireref06_Map_Is.reg28_1_ap (B : List (Nat × Value)) : (armoireref06_Map_Is.reg28_1 B).apart = true := rfl
set_option maxRecDepth 20000 in
theorem armoireref06_Map_Is.ok {O : World} {H : PH} {Fr : List Res} (a0 : S_armoireref06_Map) (g0 : Nat) (A0 : Option Addr) (n0 : Nat) (a1 : Int) (a2 : Int) {r : Bool} (h : armoireref06_Map_Is.f a0 a1 a2 = some r) :
    CtrS Try.prog 28 [.pointer (some ⟨g0, 0, none⟩), .int .i64 a1, .int .i64 a2] O H (BK 59 K_R_armoireref06_Map g0 (R_armoireref06_Map.mk a0.from_ (A0, a0.k.length, n0)) :: OS 3 (Kd.int .i64) A0 n0 a0.k :: Fr) (fun v L' => v = .bool r ∧ BK 59 K_R_armoireref06_Map g0 (R_armoireref06_Map.mk a0.from_ (A0, a0.k.length, n0)) :: OS 3 (Kd.int .i64) A0 n0 a0.k :: Fr = L') := by
  refine CtrS.start (n := 43) Try.func28 rfl Try.ntmps28 rfl rfl ?_
  unfold armoireref06_Map_Is.f at h
  refine G.seq ?_
  refine G.region (l := [0]) rfl ?_
  refine G.assign rfl rfl rfl rfl ?_
  refine G.regionEnd ?_
  refine G.seq ?_
  refine byP (p := a0.from_ ≤ a1) (fun k3 => ?_) (fun k3 => ?_)
  · replace h := ifT h k3
    refine byP (p := (wi64 (a1 - a0.from_)) < (a0.k.length : Int)) (fun k9 => ?_) (fun k9 => ?_)
    · replace h := ifT h k9
      obtain ⟨k13, h⟩ := guardS h
      have q12 : (wi64 (a1 - a0.from_)).toNat < a0.k.length := by omega
      refine G.draw [[], [], [1], [2], [3], [0, 4], [5], [6], [6], [8, 6], [9, 6], [10, 6], [7, 11, 6], [6], [13, 6], [14, 6], [15, 6], [16, 6], [12, 17, 6], [6, 18], [19, 6], [20], [21, 20], [22, 20], [23, 20], [20], [20], [26, 20], [27, 20], [28, 20], [25, 29, 20], [24, 30, 20], [31, 20], [20], [32, 33, 20], [20, 34], [35, 20, 0, 1, 2, 3, 4, 5, 6, 7, 8, 9, 10, 11, 12, 13, 14, 15, 16, 17, 18, 19, 20, 21, 22, 23, 24, 25, 26, 27, 28, 29, 30, 31, 32, 33, 34, 35]] 37 [0, 1, 2, 3, 4, 5, 6, 7, 8, 9, 10, 11, 12, 13, 14, 15, 16, 17, 18, 19, 20, 21, 22, 23, 24, 25, 26, 27, 28, 29, 30, 31, 32, 33, 34, 35, 36] [0, 0, 1, 2, 3, 4, 5, 6, 6, 7, 8, 9, 10, 6, 7, 8, 9, 10, 11, 12, 13, 14, 15, 16, 17, 14, 14, 15, 16, 17, 18, 19, 20, 14, 21, 22, 23] [0, 0, 1, 2, 3, 4, 5, 6, 6, 7, 8, 9, 10, 6, 7, 8, 9, 10, 11, 12, 13, 14, 15, 16, 17, 14, 14, 15, 16, 17, 18, 19, 20, 14, 21, 22, 23] rfl (by kernel_rfl) (by kernel_rfl) (by kernel_rfl) (by kernel_rfl) ?_
      intro C14 ops15 k16
      let R17 : Reg := armoireref06_Map_Is.reg28_1 [(0, .pointer (some ⟨g0, 0, none⟩)), (1, .int .i64 a1), (2, .int .i64 a2), (6, .bool false)]
      have P18 : ∀ (m : Nat) (L : List Bool) (A : List (Nat × Value)) (l : List Nat), L.length = R17.ds.length → R17.Phi [some (.int .i64 a1), some (.pointer (some ⟨g0, 0, none⟩)), some (.pointer (some ⟨g0, 0, none⟩)), some (.pointer (some ⟨g0, 0, none⟩)), some (.int .i64 a0.from_), some (.bool (decide (a0.from_ ≤ a1))), some (.bool true), some (.int .i64 a1), some (.pointer (some ⟨g0, 0, none⟩)), some (.pointer (some ⟨g0, 0, none⟩)), some (.pointer (some ⟨g0, 0, none⟩)), some (.int .i64 a0.from_), some (.int .i64 (wi64 (a1 - a0.from_))), some (.pointer (some ⟨g0, 0, none⟩)), some (.pointer (some ⟨g0, 0, none⟩)), some (.pointer (some ⟨g0, 1, none⟩)), some (.slice A0 a0.k.length n0), some (.int .i64 (a0.k.length : Int)), some (.bool (decide ((wi64 (a1 - a0.from_)) < (a0.k.length : Int)))), some (.bool (decide ((wi64 (a1 - a0.from_)) < (a0.k.length : Int)))), some (.bool true), some (.pointer (some ⟨g0, 0, none⟩)), some (.pointer (some ⟨g0, 0, none⟩)), some (.pointer (some ⟨g0, 1, none⟩)), some (.slice A0 a0.k.length n0), some (.int .i64 a1), some (.pointer (some ⟨g0, 0, none⟩)), some (.pointer (some ⟨g0, 0, none⟩)), some (.pointer (some ⟨g0, 0, none⟩)), some (.int .i64 a0.from_), some (.int .i64 (wi64 (a1 - a0.from_))), some (.pointer (some (plc A0 ((wi64 (a1 - a0.from_)).toNat * 1)))), some (.int .i64 (a0.k.getD ((wi64 (a1 - a0.from_)).toNat) 0)), some (.int .i64 a2), some (.bool (decide ((a0.k.getD ((wi64 (a1 - a0.from_)).toNat) 0) = a2))), some (.bool (decide ((a0.k.getD ((wi64 (a1 - a0.from_)).toNat) 0) = a2))), some (.bool (decide ((a0.k.getD ((wi64 (a1 - a0.from_)).toNat) 0) = a2)))] [] [] L A → left L = m → Ord R17.ds m L l → G C14 H A (BK 59 K_R_armoireref06_Map g0 (R_armoireref06_Map.mk a0.from_ (A0, a0.k.length, n0)) :: OS 3 (Kd.int .i64) A0 n0 a0.k :: Fr) (.inRegion ops15 l :: k16) := by
        refine G.phase R17 [some (.int .i64 a1), some (.pointer (some ⟨g0, 0, none⟩)), some (.pointer (some ⟨g0, 0, none⟩)), some (.pointer (some ⟨g0, 0, none⟩)), some (.int .i64 a0.from_), some (.bool (decide (a0.from_ ≤ a1))), some (.bool true), some (.int .i64 a1), some (.pointer (some ⟨g0, 0, none⟩)), some (.pointer (some ⟨g0, 0, none⟩)), some (.pointer (some ⟨g0, 0, none⟩)), some (.int .i64 a0.from_), some (.int .i64 (wi64 (a1 - a0.from_))), some (.pointer (some ⟨g0, 0, none⟩)), some (.pointer (some ⟨g0, 0, none⟩)), some (.pointer (some ⟨g0, 1, none⟩)), some (.slice A0 a0.k.length n0), some (.int .i64 (a0.k.length : Int)), some (.bool (decide ((wi64 (a1 - a0.from_)) < (a0.k.length : Int)))), some (.bool (decide ((wi64 (a1 - a0.from_)) < (a0.k.length : Int)))), some (.bool true), some (.pointer (some ⟨g0, 0, none⟩)), some (.pointer (some ⟨g0, 0, none⟩)), some (.pointer (some ⟨g0, 1, none⟩)), some (.slice A0 a0.k.length n0), some (.int .i64 a1), some (.pointer (some ⟨g0, 0, none⟩)), some (.pointer (some ⟨g0, 0, none⟩)), some (.pointer (some ⟨g0, 0, none⟩)), some (.int .i64 a0.from_), some (.int .i64 (wi64 (a1 - a0.from_))), some (.pointer (some (plc A0 ((wi64 (a1 - a0.from_)).toNat * 1)))), some (.int .i64 (a0.k.getD ((wi64 (a1 - a0.from_)).toNat) 0)), some (.int .i64 a2), some (.bool (decide ((a0.k.getD ((wi64 (a1 - a0.from_)).toNat) 0) = a2))), some (.bool (decide ((a0.k.getD ((wi64 (a1 - a0.from_)).toNat) 0) = a2))), some (.bool (decide ((a0.k.getD ((wi64 (a1 - a0.from_)).toNat) 0) = a2)))] [0, 1, 2, 3, 4, 5, 6, 7, 8, 9, 10, 11, 12, 13, 14, 15, 16, 17, 18, 19, 20, 21, 22, 23, 24, 25, 26, 27, 28, 29, 30, 31, 32, 33, 34, 35, 36] [] [] [] (armoireref06_Map_Is.reg28_1_ap _) rfl rfl ⟨⟨[.base 1], 7, .int .i64 a1, [(1, .int .i64 a1)], ⟨rfl, rfl, rfl, rfl, ?_⟩⟩, ⟨⟨[.base 0], 8, .pointer (some ⟨g0, 0, none⟩), [(0, .pointer (some ⟨g0, 0, none⟩))], ⟨rfl, rfl, rfl, rfl, ?_⟩⟩, ⟨⟨[.op 1], 9, .pointer (some ⟨g0, 0, none⟩), [(8, .pointer (some ⟨g0, 0, none⟩))], ⟨rfl, rfl, rfl, rfl, ?_⟩⟩, ⟨⟨[.op 2], 10, .pointer (some ⟨g0, 0, none⟩), [(9, .pointer (some ⟨g0, 0, none⟩))], ⟨rfl, rfl, rfl, rfl, ?_⟩⟩, ⟨⟨[.op 3], 11, .int .i64 a0.from_, [(10, .pointer (some ⟨g0, 0, none⟩))], ⟨rfl, rfl, rfl, rfl, ?_⟩⟩, ⟨⟨[.op 0, .op 4], 12, .bool (decide (a0.from_ ≤ a1)), [(7, .int .i64 a1), (11, .int .i64 a0.from_)], ⟨rfl, rfl, rfl, rfl, ?_⟩⟩, ⟨⟨[.op 5], 13, .bool true, [(12, .bool (decide (a0.from_ ≤ a1)))], ⟨rfl, rfl, rfl, rfl, ?_⟩⟩, ⟨⟨[.base 1, .op 6], 14, .int .i64 a1, [(1, .int .i64 a1), (13, .bool true)], ⟨rfl, rfl, rfl, rfl, ?_⟩⟩, ⟨⟨[.base 0, .op 6], 15, .pointer (some ⟨g0, 0, none⟩), [(0, .pointer (some ⟨g0, 0, none⟩)), (13, .bool true)], ⟨rfl, rfl, rfl, rfl, ?_⟩⟩, ⟨⟨[.op 6, .op 8], 16, .pointer (some ⟨g0, 0, none⟩), [(13, .bool true), (15, .pointer (some ⟨g0, 0, none⟩))], ⟨rfl, rfl, rfl, rfl, ?_⟩⟩, ⟨⟨[.op 6, .op 9], 17, .pointer (some ⟨g0, 0, none⟩), [(13, .bool true), (16, .pointer (some ⟨g0, 0, none⟩))], ⟨rfl, rfl, rfl, rfl, ?_⟩⟩, ⟨⟨[.op 6, .op 10], 18, .int .i64 a0.from_, [(13, .bool true), (17, .pointer (some ⟨g0, 0, none⟩))], ⟨rfl, rfl, rfl, rfl, ?_⟩⟩, ⟨⟨[.op 6, .op 7, .op 11], 19, .int .i64 (wi64 (a1 - a0.from_)), [(13, .bool true), (14, .int .i64 a1), (18, .int .i64 a0.from_)], ⟨rfl, rfl, rfl, rfl, ?_⟩⟩, ⟨⟨[.base 0, .op 6], 20, .pointer (some ⟨g0, 0, none⟩), [(0, .pointer (some ⟨g0, 0, none⟩)), (13, .bool true)], ⟨rfl, rfl, rfl, rfl, ?_⟩⟩, ⟨⟨[.op 6, .op 13], 21, .pointer (some ⟨g0, 0, none⟩), [(13, .bool true), (20, .pointer (some ⟨g0, 0, none⟩))], ⟨rfl, rfl, rfl, rfl, ?_⟩⟩, ⟨⟨[.op 6, .op 14], 22, .pointer (some ⟨g0, 1, none⟩), [(13, .bool true), (21, .pointer (some ⟨g0, 0, none⟩))], ⟨rfl, rfl, rfl, rfl, ?_⟩⟩, ⟨⟨[.op 6, .op 15], 23, .slice A0 a0.k.length n0, [(13, .bool true), (22, .pointer (some ⟨g0, 1, none⟩))], ⟨rfl, rfl, rfl, rfl, ?_⟩⟩, ⟨⟨[.op 6, .op 16], 24, .int .i64 (a0.k.length : Int), [(13, .bool true), (23, .slice A0 a0.k.length n0)], ⟨rfl, rfl, rfl, rfl, ?_⟩⟩, ⟨⟨[.op 6, .op 12, .op 17], 25, .bool (decide ((wi64 (a1 - a0.from_)) < (a0.k.length : Int))), [(13, .bool true), (19, .int .i64 (wi64 (a1 - a0.from_))), (24, .int .i64 (a0.k.length : Int))], ⟨rfl, rfl, rfl, rfl, ?_⟩⟩, ⟨⟨[.op 6, .op 18], 26, .bool (decide ((wi64 (a1 - a0.from_)) < (a0.k.length : Int))), [(13, .bool true), (25, .bool (decide ((wi64 (a1 - a0.from_)) < (a0.k.length : Int))))], ⟨rfl, rfl, rfl, rfl, ?_⟩⟩, ⟨⟨[.op 19], 27, .bool true, [(26, .bool (decide ((wi64 (a1 - a0.from_)) < (a0.k.length : Int))))], ⟨rfl, rfl, rfl, rfl, ?_⟩⟩, ⟨⟨[.base 0, .op 20], 28, .pointer (some ⟨g0, 0, none⟩), [(0, .pointer (some ⟨g0, 0, none⟩)), (27, .bool true)], ⟨rfl, rfl, rfl, rfl, ?_⟩⟩, ⟨⟨[.op 20, .op 21], 29, .pointer (some ⟨g0, 0, none⟩), [(27, .bool true), (28, .pointer (some ⟨g0, 0, none⟩))], ⟨rfl, rfl, rfl, rfl, ?_⟩⟩, ⟨⟨[.op 20, .op 22], 30, .pointer (some ⟨g0, 1, none⟩), [(27, .bool true), (29, .pointer (some ⟨g0, 0, none⟩))], ⟨rfl, rfl, rfl, rfl, ?_⟩⟩, ⟨⟨[.op 20, .op 23], 31, .slice A0 a0.k.length n0, [(27, .bool true), (30, .pointer (some ⟨g0, 1, none⟩))], ⟨rfl, rfl, rfl, rfl, ?_⟩⟩, ⟨⟨[.base 1, .op 20], 32, .int .i64 a1, [(1, .int .i64 a1), (27, .bool true)], ⟨rfl, rfl, rfl, rfl, ?_⟩⟩, ⟨⟨[.base 0, .op 20], 33, .pointer (some ⟨g0, 0, none⟩), [(0, .pointer (some ⟨g0, 0, none⟩)), (27, .bool true)], ⟨rfl, rfl, rfl, rfl, ?_⟩⟩, ⟨⟨[.op 20, .op 26], 34, .pointer (some ⟨g0, 0, none⟩), [(27, .bool true), (33, .pointer (some ⟨g0, 0, none⟩))], ⟨rfl, rfl, rfl, rfl, ?_⟩⟩, ⟨⟨[.op 20, .op 27], 35, .pointer (some ⟨g0, 0, none⟩), [(27, .bool true), (34, .pointer (some ⟨g0, 0, none⟩))], ⟨rfl, rfl, rfl, rfl, ?_⟩⟩, ⟨⟨[.op 20, .op 28], 36, .int .i64 a0.from_, [(27, .bool true), (35, .pointer (some ⟨g0, 0, none⟩))], ⟨rfl, rfl, rfl, rfl, ?_⟩⟩, ⟨⟨[.op 20, .op 25, .op 29], 37, .int .i64 (wi64 (a1 - a0.from_)), [(27, .bool true), (32, .int .i64 a1), (36, .int .i64 a0.from_)], ⟨rfl, rfl, rfl, rfl, ?_⟩⟩, ⟨⟨[.op 20, .op 24, .op 30], 38, .pointer (some (plc A0 ((wi64 (a1 - a0.from_)).toNat * 1))), [(27, .bool true), (31, .slice A0 a0.k.length n0), (37, .int .i64 (wi64 (a1 - a0.from_)))], ⟨rfl, rfl, rfl, rfl, ?_⟩⟩, ⟨⟨[.op 20, .op 31], 39, .int .i64 (a0.k.getD ((wi64 (a1 - a0.from_)).toNat) 0), [(27, .bool true), (38, .pointer (some (plc A0 ((wi64 (a1 - a0.from_)).toNat * 1))))], ⟨rfl, rfl, rfl, rfl, ?_⟩⟩, ⟨⟨[.base 2, .op 20], 40, .int .i64 a2, [(2, .int .i64 a2), (27, .bool true)], ⟨rfl, rfl, rfl, rfl, ?_⟩⟩, ⟨⟨[.op 20, .op 32, .op 33], 41, .bool (decide ((a0.k.getD ((wi64 (a1 - a0.from_)).toNat) 0) = a2)), [(27, .bool true), (39, .int .i64 (a0.k.getD ((wi64 (a1 - a0.from_)).toNat) 0)), (40, .int .i64 a2)], ⟨rfl, rfl, rfl, rfl, ?_⟩⟩, ⟨⟨[.op 20, .op 34], 42, .bool (decide ((a0.k.getD ((wi64 (a1 - a0.from_)).toNat) 0) = a2)), [(27, .bool true), (41, .bool (decide ((a0.k.getD ((wi64 (a1 - a0.from_)).toNat) 0) = a2)))], ⟨rfl, rfl, rfl, rfl, ?_⟩⟩, ⟨⟨[.op 35], 6, .bool (decide ((a0.k.getD ((wi64 (a1 - a0.from_)).toNat) 0) = a2)), [(42, .bool (decide ((a0.k.getD ((wi64 (a1 - a0.from_)).toNat) 0) = a2)))], ⟨rfl, rfl, rfl, rfl, ?_⟩⟩, trivial⟩⟩⟩⟩⟩⟩⟩⟩⟩⟩⟩⟩⟩⟩⟩⟩⟩⟩⟩⟩⟩⟩⟩⟩⟩⟩⟩⟩⟩⟩⟩⟩⟩⟩⟩⟩⟩ trivial ?_
        · intro X rest g
          refine G.move rfl rfl rfl rfl ?_
          exact g
        · intro X rest g
          refine G.move rfl rfl rfl rfl ?_
          exact g
        · intro X rest g
          refine G.nilCheck rfl rfl rfl rfl ?_
          exact g
        · intro X rest g
          refine G.field (off' := 0) rfl rfl rfl rfl Try.underlying59 rfl sz3 rfl rfl ?_
          exact g
        · intro X rest g
          refine G.loadI (y := a0.from_) rfl rfl rfl rfl ty3 (fun w hs => Rd.bk (R_armoireref06_Map.L_from_ _) hs (j := 0) rfl) ?_
          exact g
        · intro X rest g
          refine G.cmp (a0.from_ ≤ a1) rfl rfl rfl rfl rfl rfl Iff.rfl ?_
          exact g
        · intro X rest g
          refine G.move rfl rfl rfl rfl ?_
          refine G.same (d := 13) (v := .bool true) rfl (by simp [k3]) ?_
          refine G.shadow ?_
          exact g
        · intro X rest g
          refine G.move rfl rfl rfl rfl ?_
          exact g
        · intro X rest g
          refine G.move rfl rfl rfl rfl ?_
          exact g
        · intro X rest g
          refine G.nilCheck rfl rfl rfl rfl ?_
          exact g
        · intro X rest g
          refine G.field (off' := 0) rfl rfl rfl rfl Try.underlying59 rfl sz3 rfl rfl ?_
          exact g
        · intro X rest g
          refine G.loadI (y := a0.from_) rfl rfl rfl rfl ty3 (fun w hs => Rd.bk (R_armoireref06_Map.L_from_ _) hs (j := 0) rfl) ?_
          exact g
        · intro X rest g
          refine G.bin (m := a1) (n := a0.from_) (r := wi64 (a1 - a0.from_)) rfl rfl rfl rfl rfl rfl rfl ?_
          exact g
        · intro X rest g
          refine G.move rfl rfl rfl rfl ?_
          exact g
        · intro X rest g
          refine G.nilCheck rfl rfl rfl rfl ?_
          exact g
        · intro X rest g
          refine G.field (off' := 1) rfl rfl rfl rfl Try.underlying59 rfl sz28 rfl rfl ?_
          exact g
        · intro X rest g
          refine G.loadH (B := A0) (m := a0.k.length) (c := n0) rfl rfl rfl rfl ty28r (fun w hs => Rd.bk (R_armoireref06_Map.L_k _) hs (j := 0) rfl) ?_
          exact g
        · intro X rest g
          refine G.len (m := a0.k.length) rfl rfl rfl rfl Try.underlying28 ?_
          exact g
        · intro X rest g
          refine G.cmp ((wi64 (a1 - a0.from_)) < (a0.k.length : Int)) rfl rfl rfl rfl rfl rfl Iff.rfl ?_
          exact g
        · intro X rest g
          refine G.pickT rfl rfl rfl rfl rfl ?_
          exact g
        · intro X rest g
          refine G.move rfl rfl rfl rfl ?_
          refine G.same (d := 27) (v := .bool true) rfl (by simp [k9]) ?_
          refine G.shadow ?_
          exact g
        · intro X rest g
          refine G.move rfl rfl rfl rfl ?_
          exact g
        · intro X rest g
          refine G.nilCheck rfl rfl rfl rfl ?_
          exact g
        · intro X rest g
          refine G.field (off' := 1) rfl rfl rfl rfl Try.underlying59 rfl sz28 rfl rfl ?_
          exact g
        · intro X rest g
          refine G.loadH (B := A0) (m := a0.k.length) (c := n0) rfl rfl rfl rfl ty28r (fun w hs => Rd.bk (R_armoireref06_Map.L_k _) hs (j := 0) rfl) ?_
          exact g
        · intro X rest g
          refine G.move rfl rfl rfl rfl ?_
          exact g
        · intro X rest g
          refine G.move rfl rfl rfl rfl ?_
          exact g
        · intro X rest g
          refine G.nilCheck rfl rfl rfl rfl ?_
          exact g
        · intro X rest g
          refine G.field (off' := 0) rfl rfl rfl rfl Try.underlying59 rfl sz3 rfl rfl ?_
          exact g
        · intro X rest g
          refine G.loadI (y := a0.from_) rfl rfl rfl rfl ty3 (fun w hs => Rd.bk (R_armoireref06_Map.L_from_ _) hs (j := 0) rfl) ?_
          exact g
        · intro X rest g
          refine G.bin (m := a1) (n := a0.from_) (r := wi64 (a1 - a0.from_)) rfl rfl rfl rfl rfl rfl rfl ?_
          exact g
        · intro X rest g
          refine G.indexO (xs := a0.k) (j := wi64 (a1 - a0.from_)) (off := (wi64 (a1 - a0.from_)).toNat * 1) rfl rfl rfl rfl rfl el28 (r := 1) rfl (by simp) k13 rfl ?_
          exact g
        · intro X rest g
          refine G.loadI (y := a0.k.getD ((wi64 (a1 - a0.from_)).toNat) 0) rfl rfl rfl rfl ty3 (fun w hs => Rd.osG q12 (Lens.id _ _) hs (j := 1) rfl (o := (wi64 (a1 - a0.from_)).toNat * 1) (by first | rfl | simp)) ?_
          exact g
        · intro X rest g
          refine G.move rfl rfl rfl rfl ?_
          exact g
        · intro X rest g
          refine G.cmp ((a0.k.getD ((wi64 (a1 - a0.from_)).toNat) 0) = a2) rfl rfl rfl rfl rfl rfl Iff.rfl ?_
          exact g
        · intro X rest g
          refine G.pickT rfl rfl rfl rfl rfl ?_
          exact g
        · intro X rest g
          refine G.assign rfl rfl rfl rfl ?_
          exact g
        · intro A L hlen hp h0
          refine G.lessSub (B := [(6, .bool (decide ((a0.k.getD ((wi64 (a1 - a0.from_)).toNat) 0) = a2)))]) (hp.fin hlen h0 (src := [.op 36]) rfl) ?_
          refine G.regionEnd ?_
          refine G.frontAt 1 rfl ?_
          refine G.frontAt 1 rfl ?_
          obtain rfl := Option.some.inj h
          exact G.ret1 Try.func28 rfl rfl (fun w hs => ⟨_, _, rfl, ⟨rfl, rfl⟩, hs⟩)
      intro l hl
      exact P18 37 (List.replicate 37 false) _ l rfl (Reg.Phi.init 37 ⟨rfl, rfl, rfl, rfl, trivial⟩) (left_rep 37) hl
    · replace h := ifF h k9
      refine G.draw [[], [], [1], [2], [3], [0, 4], [5], [6], [6], [8, 6], [9, 6], [10, 6], [7, 11, 6], [6], [13, 6], [14, 6], [15, 6], [16, 6], [12, 17, 6], [6, 18], [19, 6], [20], [21, 20], [22, 20], [23, 20], [20], [20], [26, 20], [27, 20], [28, 20], [25, 29, 20], [24, 30, 20], [31, 20], [20], [32, 33, 20], [20, 34], [35, 20, 0, 1, 2, 3, 4, 5, 6, 7, 8, 9, 10, 11, 12, 13, 14, 15, 16, 17, 18, 19, 20, 21, 22, 23, 24, 25, 26, 27, 28, 29, 30, 31, 32, 33, 34, 35]] 37 [0, 1, 2, 3, 4, 5, 6, 7, 8, 9, 10, 11, 12, 13, 14, 15, 16, 17, 18, 19, 20, 21, 22, 23, 24, 25, 26, 27, 28, 29, 30, 31, 32, 33, 34, 35, 36] [0, 0, 1, 2, 3, 4, 5, 6, 6, 7, 8, 9, 10, 6, 7, 8, 9, 10, 11, 12, 13, 14, 15, 16, 17, 14, 14, 15, 16, 17, 18, 19, 20, 14, 21, 22, 23] [0, 0, 1, 2, 3, 4, 5, 6, 6, 7, 8, 9, 10, 6, 7, 8, 9, 10, 11, 12, 13, 14, 15, 16, 17, 14, 14, 15, 16, 17, 18, 19, 20, 14, 21, 22, 23] rfl (by kernel_rfl) (by kernel_rfl) (by kernel_rfl) (by kernel_rfl) ?_
      intro C19 ops20 k21
      let R22 : Reg := armoireref06_Map_Is.reg28_1 [(0, .pointer (some ⟨g0, 0, none⟩)), (1, .int .i64 a1), (2, .int .i64 a2), (6, .bool false)]
      have P23 : ∀ (m : Nat) (L : List Bool) (A : List (Nat × Value)) (l : List Nat), L.length = R22.ds.length → R22.Phi [some (.int .i64 a1), some (.pointer (some ⟨g0, 0, none⟩)), some (.pointer (some ⟨g0, 0, none⟩)), some (.pointer (some ⟨g0, 0, none⟩)), some (.int .i64 a0.from_), some (.bool (decide (a0.from_ ≤ a1))), some (.bool true), some (.int .i64 a1), some (.pointer (some ⟨g0, 0, none⟩)), some (.pointer (some ⟨g0, 0, none⟩)), some (.pointer (some ⟨g0, 0, none⟩)), some (.int .i64 a0.from_), some (.int .i64 (wi64 (a1 - a0.from_))), some (.pointer (some ⟨g0, 0, none⟩)), some (.pointer (some ⟨g0, 0, none⟩)), some (.pointer (some ⟨g0, 1, none⟩)), some (.slice A0 a0.k.length n0), some (.int .i64 (a0.k.length : Int)), some (.bool (decide ((wi64 (a1 - a0.from_)) < (a0.k.length : Int)))), some (.bool (decide ((wi64 (a1 - a0.from_)) < (a0.k.length : Int)))), some (.bool false), some (undef), some (undef), some (undef), some (undef), some (undef), some (undef), some (undef), some (undef), some (undef), some (undef), some (undef), some (undef), some (undef), some (undef), some (.bool false), some (.bool false)] [] [] L A → left L = m → Ord R22.ds m L l → G C19 H A (BK 59 K_R_armoireref06_Map g0 (R_armoireref06_Map.mk a0.from_ (A0, a0.k.length, n0)) :: OS 3 (Kd.int .i64) A0 n0 a0.k :: Fr) (.inRegion ops20 l :: k21) := by
        refine G.phase R22 [some (.int .i64 a1), some (.pointer (some ⟨g0, 0, none⟩)), some (.pointer (some ⟨g0, 0, none⟩)), some (.pointer (some ⟨g0, 0, none⟩)), some (.int .i64 a0.from_), some (.bool (decide (a0.from_ ≤ a1))), some (.bool true), some (.int .i64 a1), some (.pointer (some ⟨g0, 0, none⟩)), some (.pointer (some ⟨g0, 0, none⟩)), some (.pointer (some ⟨g0, 0, none⟩)), some (.int .i64 a0.from_), some (.int .i64 (wi64 (a1 - a0.from_))), some (.pointer (some ⟨g0, 0, none⟩)), some (.pointer (some ⟨g0, 0, none⟩)), some (.pointer (some ⟨g0, 1, none⟩)), some (.slice A0 a0.k.length n0), some (.int .i64 (a0.k.length : Int)), some (.bool (decide ((wi64 (a1 - a0.from_)) < (a0.k.length : Int)))), some (.bool (decide ((wi64 (a1 - a0.from_)) < (a0.k.length : Int)))), some (.bool false), some (undef), some (undef), some (undef), some (undef), some (undef), some (undef), some (undef), some (undef), some (undef), some (undef), some (undef), some (undef), some (undef), some (undef), some (.bool false), some (.bool false)] [0, 1, 2, 3, 4, 5, 6, 7, 8, 9, 10, 11, 12, 13, 14, 15, 16, 17, 18, 19, 20, 21, 22, 23, 24, 25, 26, 27, 28, 29, 30, 31, 32, 33, 34, 35, 36] [] [] [] (armoireref06_Map_Is.reg28_1_ap _) rfl rfl ⟨⟨[.base 1], 7, .int .i64 a1, [(1, .int .i64 a1)], ⟨rfl, rfl, rfl, rfl, ?_⟩⟩, ⟨⟨[.base 0], 8, .pointer (some ⟨g0, 0, none⟩), [(0, .pointer (some ⟨g0, 0, none⟩))], ⟨rfl, rfl, rfl, rfl, ?_⟩⟩, ⟨⟨[.op 1], 9, .pointer (some ⟨g0, 0, none⟩), [(8, .pointer (some ⟨g0, 0, none⟩))], ⟨rfl, rfl, rfl, rfl, ?_⟩⟩, ⟨⟨[.op 2], 10, .pointer (some ⟨g0, 0, none⟩), [(9, .pointer (some ⟨g0, 0, none⟩))], ⟨rfl, rfl, rfl, rfl, ?_⟩⟩, ⟨⟨[.op 3], 11, .int .i64 a0.from_, [(10, .pointer (some ⟨g0, 0, none⟩))], ⟨rfl, rfl, rfl, rfl, ?_⟩⟩, ⟨⟨[.op 0, .op 4], 12, .bool (decide (a0.from_ ≤ a1)), [(7, .int .i64 a1), (11, .int .i64 a0.from_)], ⟨rfl, rfl, rfl, rfl, ?_⟩⟩, ⟨⟨[.op 5], 13, .bool true, [(12, .bool (decide (a0.from_ ≤ a1)))], ⟨rfl, rfl, rfl, rfl, ?_⟩⟩, ⟨⟨[.base 1, .op 6], 14, .int .i64 a1, [(1, .int .i64 a1), (13, .bool true)], ⟨rfl, rfl, rfl, rfl, ?_⟩⟩, ⟨⟨[.base 0, .op 6], 15, .pointer (some ⟨g0, 0, none⟩), [(0, .pointer (some ⟨g0, 0, none⟩)), (13, .bool true)], ⟨rfl, rfl, rfl, rfl, ?_⟩⟩, ⟨⟨[.op 6, .op 8], 16, .pointer (some ⟨g0, 0, none⟩), [(13, .bool true), (15, .pointer (some ⟨g0, 0, none⟩))], ⟨rfl, rfl, rfl, rfl, ?_⟩⟩, ⟨⟨[.op 6, .op 9], 17, .pointer (some ⟨g0, 0, none⟩), [(13, .bool true), (16, .pointer (some ⟨g0, 0, none⟩))], ⟨rfl, rfl, rfl, rfl, ?_⟩⟩, ⟨⟨[.op 6, .op 10], 18, .int .i64 a0.from_, [(13, .bool true), (17, .pointer (some ⟨g0, 0, none⟩))], ⟨rfl, rfl, rfl, rfl, ?_⟩⟩, ⟨⟨[.op 6, .op 7, .op 11], 19, .int .i64 (wi64 (a1 - a0.from_)), [(13, .bool true), (14, .int .i64 a1), (18, .int .i64 a0.from_)], ⟨rfl, rfl, rfl, rfl, ?_⟩⟩, ⟨⟨[.base 0, .op 6], 20, .pointer (some ⟨g0, 0, none⟩), [(0, .pointer (some ⟨g0, 0, none⟩)), (13, .bool true)], ⟨rfl, rfl, rfl, rfl, ?_⟩⟩, ⟨⟨[.op 6, .op 13], 21, .pointer (some ⟨g0, 0, none⟩), [(13, .bool true), (20, .pointer (some ⟨g0, 0, none⟩))], ⟨rfl, rfl, rfl, rfl, ?_⟩⟩, ⟨⟨[.op 6, .op 14], 22, .pointer (some ⟨g0, 1, none⟩), [(13, .bool true), (21, .pointer (some ⟨g0, 0, none⟩))], ⟨rfl, rfl, rfl, rfl, ?_⟩⟩, ⟨⟨[.op 6, .op 15], 23, .slice A0 a0.k.length n0, [(13, .bool true), (22, .pointer (some ⟨g0, 1, none⟩))], ⟨rfl, rfl, rfl, rfl, ?_⟩⟩, ⟨⟨[.op 6, .op 16], 24, .int .i64 (a0.k.length : Int), [(13, .bool true), (23, .slice A0 a0.k.length n0)], ⟨rfl, rfl, rfl, rfl, ?_⟩⟩, ⟨⟨[.op 6, .op 12, .op 17], 25, .bool (decide ((wi64 (a1 - a0.from_)) < (a0.k.length : Int))), [(13, .bool true), (19, .int .i64 (wi64 (a1 - a0.from_))), (24, .int .i64 (a0.k.length : Int))], ⟨rfl, rfl, rfl, rfl, ?_⟩⟩, ⟨⟨[.op 6, .op 18], 26, .bool (decide ((wi64 (a1 - a0.from_)) < (a0.k.length : Int))), [(13, .bool true), (25, .bool (decide ((wi64 (a1 - a0.from_)) < (a0.k.length : Int))))], ⟨rfl, rfl, rfl, rfl, ?_⟩⟩, ⟨⟨[.op 19], 27, .bool false, [(26, .bool (decide ((wi64 (a1 - a0.from_)) < (a0.k.length : Int))))], ⟨rfl, rfl, rfl, rfl, ?_⟩⟩, ⟨⟨[.base 0, .op 20], 28, undef, [(0, .pointer (some ⟨g0, 0, none⟩)), (27, .bool false)], ⟨rfl, rfl, rfl, rfl, ?_⟩⟩, ⟨⟨[.op 20, .op 21], 29, undef, [(27, .bool false), (28, undef)], ⟨rfl, rfl, rfl, rfl, ?_⟩⟩, ⟨⟨[.op 20, .op 22], 30, undef, [(27, .bool false), (29, undef)], ⟨rfl, rfl, rfl, rfl, ?_⟩⟩, ⟨⟨[.op 20, .op 23], 31, undef, [(27, .bool false), (30, undef)], ⟨rfl, rfl, rfl, rfl, ?_⟩⟩, ⟨⟨[.base 1, .op 20], 32, undef, [(1, .int .i64 a1), (27, .bool false)], ⟨rfl, rfl, rfl, rfl, ?_⟩⟩, ⟨⟨[.base 0, .op 20], 33, undef, [(0, .pointer (some ⟨g0, 0, none⟩)), (27, .bool false)], ⟨rfl, rfl, rfl, rfl, ?_⟩⟩, ⟨⟨[.op 20, .op 26], 34, undef, [(27, .bool false), (33, undef)], ⟨rfl, rfl, rfl, rfl, ?_⟩⟩, ⟨⟨[.op 20, .op 27], 35, undef, [(27, .bool false), (34, undef)], ⟨rfl, rfl, rfl, rfl, ?_⟩⟩, ⟨⟨[.op 20, .op 28], 36, undef, [(27, .bool false), (35, undef)], ⟨rfl, rfl, rfl, rfl, ?_⟩⟩, ⟨⟨[.op 20, .op 25, .op 29], 37, undef, [(27, .bool false), (32, undef), (36, undef)], ⟨rfl, rfl, rfl, rfl, ?_⟩⟩, ⟨⟨[.op 20, .op 24, .op 30], 38, undef, [(27, .bool false), (31, undef), (37, undef)], ⟨rfl, rfl, rfl, rfl, ?_⟩⟩, ⟨⟨[.op 20, .op 31], 39, undef, [(27, .bool false), (38, undef)], ⟨rfl, rfl, rfl, rfl, ?_⟩⟩, ⟨⟨[.base 2, .op 20], 40, undef, [(2, .int .i64 a2), (27, .bool false)], ⟨rfl, rfl, rfl, rfl, ?_⟩⟩, ⟨⟨[.op 20, .op 32, .op 33], 41, undef, [(27, .bool false), (39, undef), (40, undef)], ⟨rfl, rfl, rfl, rfl, ?_⟩⟩, ⟨⟨[.op 20, .op 34], 42, .bool false, [(27, .bool false), (41, undef)], ⟨rfl, rfl, rfl, rfl, ?_⟩⟩, ⟨⟨[.op 35], 6, .bool false, [(42, .bool false)], ⟨rfl, rfl, rfl, rfl, ?_⟩⟩, trivial⟩⟩⟩⟩⟩⟩⟩⟩⟩⟩⟩⟩⟩⟩⟩⟩⟩⟩⟩⟩⟩⟩⟩⟩⟩⟩⟩⟩⟩⟩⟩⟩⟩⟩⟩⟩⟩ trivial ?_
        · intro X rest g
          refine G.move rfl rfl rfl rfl ?_
          exact g
        · intro X rest g
          refine G.move rfl rfl rfl rfl ?_
          exact g
        · intro X rest g
          refine G.nilCheck rfl rfl rfl rfl ?_
          exact g
        · intro X rest g
          refine G.field (off' := 0) rfl rfl rfl rfl Try.underlying59 rfl sz3 rfl rfl ?_
          exact g
        · intro X rest g
          refine G.loadI (y := a0.from_) rfl rfl rfl rfl ty3 (fun w hs => Rd.bk (R_armoireref06_Map.L_from_ _) hs (j := 0) rfl) ?_
          exact g
        · intro X rest g
          refine G.cmp (a0.from_ ≤ a1) rfl rfl rfl rfl rfl rfl Iff.rfl ?_
          exact g
        · intro X rest g
          refine G.move rfl rfl rfl rfl ?_
          refine G.same (d := 13) (v := .bool true) rfl (by simp [k3]) ?_
          refine G.shadow ?_
          exact g
        · intro X rest g
          refine G.move rfl rfl rfl rfl ?_
          exact g
        · intro X rest g
          refine G.move rfl rfl rfl rfl ?_
          exact g
        · intro X rest g
          refine G.nilCheck rfl rfl rfl rfl ?_
          exact g
        · intro X rest g
          refine G.field (off' := 0) rfl rfl rfl rfl Try.underlying59 rfl sz3 rfl rfl ?_
          exact g
        · intro X rest g
          refine G.loadI (y := a0.from_) rfl rfl rfl rfl ty3 (fun w hs => Rd.bk (R_armoireref06_Map.L_from_ _) hs (j := 0) rfl) ?_
          exact g
        · intro X rest g
          refine G.bin (m := a1) (n := a0.from_) (r := wi64 (a1 - a0.from_)) rfl rfl rfl rfl rfl rfl rfl ?_
          exact g
        · intro X rest g
          refine G.move rfl rfl rfl rfl ?_
          exact g
        · intro X rest g
          refine G.nilCheck rfl rfl rfl rfl ?_
          exact g
        · intro X rest g
          refine G.field (off' := 1) rfl rfl rfl rfl Try.underlying59 rfl sz28 rfl rfl ?_
          exact g
        · intro X rest g
          refine G.loadH (B := A0) (m := a0.k.length) (c := n0) rfl rfl rfl rfl ty28r (fun w hs => Rd.bk (R_armoireref06_Map.L_k _) hs (j := 0) rfl) ?_
          exact g
        · intro X rest g
          refine G.len (m := a0.k.length) rfl rfl rfl rfl Try.underlying28 ?_
          exact g
        · intro X rest g
          refine G.cmp ((wi64 (a1 - a0.from_)) < (a0.k.length : Int)) rfl rfl rfl rfl rfl rfl Iff.rfl ?_
          exact g
        · intro X rest g
          refine G.pickT rfl rfl rfl rfl rfl ?_
          exact g
        · intro X rest g
          refine G.move rfl rfl rfl rfl ?_
          refine G.same (d := 27) (v := .bool false) rfl (by simp [k9]) ?_
          refine G.shadow ?_
          exact g
        · intro X rest g
          refine G.unwanted rfl rfl rfl rfl ?_
          exact g
        · intro X rest g
          refine G.unwanted rfl rfl rfl rfl ?_
          exact g
        · intro X rest g
          refine G.unwanted rfl rfl rfl rfl ?_
          exact g
        · intro X rest g
          refine G.unwanted rfl rfl rfl rfl ?_
          exact g
        · intro X rest g
          refine G.unwanted rfl rfl rfl rfl ?_
          exact g
        · intro X rest g
          refine G.unwanted rfl rfl rfl rfl ?_
          exact g
        · intro X rest g
          refine G.unwanted rfl rfl rfl rfl ?_
          exact g
        · intro X rest g
          refine G.unwanted rfl rfl rfl rfl ?_
          exact g
        · intro X rest g
          refine G.unwanted rfl rfl rfl rfl ?_
          exact g
        · intro X rest g
          refine G.unwanted rfl rfl rfl rfl ?_
          exact g
        · intro X rest g
          refine G.unwanted rfl rfl rfl rfl ?_
          exact g
        · intro X rest g
          refine G.unwanted rfl rfl rfl rfl ?_
          exact g
        · intro X rest g
          refine G.unwanted rfl rfl rfl rfl ?_
          exact g
        · intro X rest g
          refine G.unwanted rfl rfl rfl rfl ?_
          exact g
        · intro X rest g
          refine G.pickF rfl rfl rfl rfl rfl ?_
          exact g
        · intro X rest g
          refine G.assign rfl rfl rfl rfl ?_
          exact g
        · intro A L hlen hp h0
          refine G.lessSub (B := [(6, .bool false)]) (hp.fin hlen h0 (src := [.op 36]) rfl) ?_
          refine G.regionEnd ?_
          refine G.frontAt 1 rfl ?_
          refine G.frontAt 1 rfl ?_
          obtain rfl := Option.some.inj h
          exact G.ret1 Try.func28 rfl rfl (fun w hs => ⟨_, _, rfl, ⟨rfl, rfl⟩, hs⟩)
      intro l hl
      exact P23 37 (List.replicate 37 false) _ l rfl (Reg.Phi.init 37 ⟨rfl, rfl, rfl, rfl, trivial⟩) (left_rep 37) hl
  · replace h := ifF h k3
    refine G.draw [[], [], [1], [2], [3], [0, 4], [5], [6], [6], [8, 6], [9, 6], [10, 6], [7, 11, 6], [6], [13, 6], [14, 6], [15, 6], [16, 6], [12, 17, 6], [6, 18], [19, 6], [20], [21, 20], [22, 20], [23, 20], [20], [20], [26, 20], [27, 20], [28, 20], [25, 29, 20], [24, 30, 20], [31, 20], [20], [32, 33, 20], [20, 34], [35, 20, 0, 1, 2, 3, 4, 5, 6, 7, 8, 9, 10, 11, 12, 13, 14, 15, 16, 17, 18, 19, 20, 21, 22, 23, 24, 25, 26, 27, 28, 29, 30, 31, 32, 33, 34, 35]] 37 [0, 1, 2, 3, 4, 5, 6, 7, 8, 9, 10, 11, 12, 13, 14, 15, 16, 17, 18, 19, 20, 21, 22, 23, 24, 25, 26, 27, 28, 29, 30, 31, 32, 33, 34, 35, 36] [0, 0, 1, 2, 3, 4, 5, 6, 6, 7, 8, 9, 10, 6, 7, 8, 9, 10, 11, 12, 13, 14, 15, 16, 17, 14, 14, 15, 16, 17, 18, 19, 20, 14, 21, 22, 23] [0, 0, 1, 2, 3, 4, 5, 6, 6, 7, 8, 9, 10, 6, 7, 8, 9, 10, 11, 12, 13, 14, 15, 16, 17, 14, 14, 15, 16, 17, 18, 19, 20, 14, 21, 22, 23] rfl (by kernel_rfl) (by kernel_rfl) (by kernel_rfl) (by kernel_rfl) ?_
    intro C24 ops25 k26
    let R27 : Reg := armoireref06_Map_Is.reg28_1 [(0, .pointer (some ⟨g0, 0, none⟩)), (1, .int .i64 a1), (2, .int .i64 a2), (6, .bool false)]
    have P28 : ∀ (m : Nat) (L : List Bool) (A : List (Nat × Value)) (l : List Nat), L.length = R27.ds.length → R27.Phi [some (.int .i64 a1), some (.pointer (some ⟨g0, 0, none⟩)), some (.pointer (some ⟨g0, 0, none⟩)), some (.pointer (some ⟨g0, 0, none⟩)), some (.int .i64 a0.from_), some (.bool (decide (a0.from_ ≤ a1))), some (.bool false), some (undef), some (undef), some (undef), some (undef), some (undef), some (undef), some (undef), some (undef), some (undef), some (undef), some (undef), some (undef), some (.bool false), some (.bool false), some (undef), some (undef), some (undef), some (undef), some (undef), some (undef), some (undef), some (undef), some (undef), some (undef), some (undef), some (undef), some (undef), some (undef), some (.bool false), some (.bool false)] [] [] L A → left L = m → Ord R27.ds m L l → G C24 H A (BK 59 K_R_armoireref06_Map g0 (R_armoireref06_Map.mk a0.from_ (A0, a0.k.length, n0)) :: OS 3 (Kd.int .i64) A0 n0 a0.k :: Fr) (.inRegion ops25 l :: k26) := by
      refine G.phase R27 [some (.int .i64 a1), some (.pointer (some ⟨g0, 0, none⟩)), some (.pointer (some ⟨g0, 0, none⟩)), some (.pointer (some ⟨g0, 0, none⟩)), some (.int .i64 a0.from_), some (.bool (decide (a0.from_ ≤ a1))), some (.bool false), some (undef), some (undef), some (undef), some (undef), some (undef), some (undef), some (undef), some (undef), some (undef), some (undef), some (undef), some (undef), some (.bool false), some (.bool false), some (undef), some (undef), some (undef), some (undef), some (undef), some (undef), some (undef), some (undef), some (undef), some (undef), some (undef), some (undef), some (undef), some (undef), some (.bool false), some (.bool false)] [0, 1, 2, 3, 4, 5, 6, 7, 8, 9, 10, 11, 12, 13, 14, 15, 16, 17, 18, 19, 20, 21, 22, 23, 24, 25, 26, 27, 28, 29, 30, 31, 32, 33, 34, 35, 36] [] [] [] (armoireref06_Map_Is.reg28_1_ap _) rfl rfl ⟨⟨[.base 1], 7, .int .i64 a1, [(1, .int .i64 a1)], ⟨rfl, rfl, rfl, rfl, ?_⟩⟩, ⟨⟨[.base 0], 8, .pointer (some ⟨g0, 0, none⟩), [(0, .pointer (some ⟨g0, 0, none⟩))], ⟨rfl, rfl, rfl, rfl, ?_⟩⟩, ⟨⟨[.op 1], 9, .pointer (some ⟨g0, 0, none⟩), [(8, .pointer (some ⟨g0, 0, none⟩))], ⟨rfl, rfl, rfl, rfl, ?_⟩⟩, ⟨⟨[.op 2], 10, .pointer (some ⟨g0, 0, none⟩), [(9, .pointer (some ⟨g0, 0, none⟩))], ⟨rfl, rfl, rfl, rfl, ?_⟩⟩, ⟨⟨[.op 3], 11, .int .i64 a0.from_, [(10, .pointer (some ⟨g0, 0, none⟩))], ⟨rfl, rfl, rfl, rfl, ?_⟩⟩, ⟨⟨[.op 0, .op 4], 12, .bool (decide (a0.from_ ≤ a1)), [(7, .int .i64 a1), (11, .int .i64 a0.from_)], ⟨rfl, rfl, rfl, rfl, ?_⟩⟩, ⟨⟨[.op 5], 13, .bool false, [(12, .bool (decide (a0.from_ ≤ a1)))], ⟨rfl, rfl, rfl, rfl, ?_⟩⟩, ⟨⟨[.base 1, .op 6], 14, undef, [(1, .int .i64 a1), (13, .bool false)], ⟨rfl, rfl, rfl, rfl, ?_⟩⟩, ⟨⟨[.base 0, .op 6], 15, undef, [(0, .pointer (some ⟨g0, 0, none⟩)), (13, .bool false)], ⟨rfl, rfl, rfl, rfl, ?_⟩⟩, ⟨⟨[.op 6, .op 8], 16, undef, [(13, .bool false), (15, undef)], ⟨rfl, rfl, rfl, rfl, ?_⟩⟩, ⟨⟨[.op 6, .op 9], 17, undef, [(13, .bool false), (16, undef)], ⟨rfl, rfl, rfl, rfl, ?_⟩⟩, ⟨⟨[.op 6, .op 10], 18, undef, [(13, .bool false), (17, undef)], ⟨rfl, rfl, rfl, rfl, ?_⟩⟩, ⟨⟨[.op 6, .op 7, .op 11], 19, undef, [(13, .bool false), (14, undef), (18, undef)], ⟨rfl, rfl, rfl, rfl, ?_⟩⟩, ⟨⟨[.base 0, .op 6], 20, undef, [(0, .pointer (some ⟨g0, 0, none⟩)), (13, .bool false)], ⟨rfl, rfl, rfl, rfl, ?_⟩⟩, ⟨⟨[.op 6, .op 13], 21, undef, [(13, .bool false), (20, undef)], ⟨rfl, rfl, rfl, rfl, ?_⟩⟩, ⟨⟨[.op 6, .op 14], 22, undef, [(13, .bool false), (21, undef)], ⟨rfl, rfl, rfl, rfl, ?_⟩⟩, ⟨⟨[.op 6, .op 15], 23, undef, [(13, .bool false), (22, undef)], ⟨rfl, rfl, rfl, rfl, ?_⟩⟩, ⟨⟨[.op 6, .op 16], 24, undef, [(13, .bool false), (23, undef)], ⟨rfl, rfl, rfl, rfl, ?_⟩⟩, ⟨⟨[.op 6, .op 12, .op 17], 25, undef, [(13, .bool false), (19, undef), (24, undef)], ⟨rfl, rfl, rfl, rfl, ?_⟩⟩, ⟨⟨[.op 6, .op 18], 26, .bool false, [(13, .bool false), (25, undef)], ⟨rfl, rfl, rfl, rfl, ?_⟩⟩, ⟨⟨[.op 19], 27, .bool false, [(26, .bool false)], ⟨rfl, rfl, rfl, rfl, ?_⟩⟩, ⟨⟨[.base 0, .op 20], 28, undef, [(0, .pointer (some ⟨g0, 0, none⟩)), (27, .bool false)], ⟨rfl, rfl, rfl, rfl, ?_⟩⟩, ⟨⟨[.op 20, .op 21], 29, undef, [(27, .bool false), (28, undef)], ⟨rfl, rfl, rfl, rfl, ?_⟩⟩, ⟨⟨[.op 20, .op 22], 30, undef, [(27, .bool false), (29, undef)], ⟨rfl, rfl, rfl, rfl, ?_⟩⟩, ⟨⟨[.op 20, .op 23], 31, undef, [(27, .bool false), (30, undef)], ⟨rfl, rfl, rfl, rfl, ?_⟩⟩, ⟨⟨[.base 1, .op 20], 32, undef, [(1, .int .i64 a1), (27, .bool false)], ⟨rfl, rfl, rfl, rfl, ?_⟩⟩, ⟨⟨[.base 0, .op 20], 33, undef, [(0, .pointer (some ⟨g0, 0, none⟩)), (27, .bool false)], ⟨rfl, rfl, rfl, rfl, ?_⟩⟩, ⟨⟨[.op 20, .op 26], 34, undef, [(27, .bool false), (33, undef)], ⟨rfl, rfl, rfl, rfl, ?_⟩⟩, ⟨⟨[.op 20, .op 27], 35, undef, [(27, .bool false), (34, undef)], ⟨rfl, rfl, rfl, rfl, ?_⟩⟩, ⟨⟨[.op 20, .op 28], 36, undef, [(27, .bool false), (35, undef)], ⟨rfl, rfl, rfl, rfl, ?_⟩⟩, ⟨⟨[.op 20, .op 25, .op 29], 37, undef, [(27, .bool false), (32, undef), (36, undef)], ⟨rfl, rfl, rfl, rfl, ?_⟩⟩, ⟨⟨[.op 20, .op 24, .op 30], 38, undef, [(27, .bool false), (31, undef), (37, undef)], ⟨rfl, rfl, rfl, rfl, ?_⟩⟩, ⟨⟨[.op 20, .op 31], 39, undef, [(27, .bool false), (38, undef)], ⟨rfl, rfl, rfl, rfl, ?_⟩⟩, ⟨⟨[.base 2, .op 20], 40, undef, [(2, .int .i64 a2), (27, .bool false)], ⟨rfl, rfl, rfl, rfl, ?_⟩⟩, ⟨⟨[.op 20, .op 32, .op 33], 41, undef, [(27, .bool false), (39, undef), (40, undef)], ⟨rfl, rfl, rfl, rfl, ?_⟩⟩, ⟨⟨[.op 20, .op 34], 42, .bool false, [(27, .bool false), (41, undef)], ⟨rfl, rfl, rfl, rfl, ?_⟩⟩, ⟨⟨[.op 35], 6, .bool false, [(42, .bool false)], ⟨rfl, rfl, rfl, rfl, ?_⟩⟩, trivial⟩⟩⟩⟩⟩⟩⟩⟩⟩⟩⟩⟩⟩⟩⟩⟩⟩⟩⟩⟩⟩⟩⟩⟩⟩⟩⟩⟩⟩⟩⟩⟩⟩⟩⟩⟩⟩ trivial ?_
      · intro X rest g
        refine G.move rfl rfl rfl rfl ?_
        exact g
      · intro X rest g
        refine G.move rfl rfl rfl rfl ?_
        exact g
      · intro X rest g
        refine G.nilCheck rfl rfl rfl rfl ?_
        exact g
      · intro X rest g
        refine G.field (off' := 0) rfl rfl rfl rfl Try.underlying59 rfl sz3 rfl rfl ?_
        exact g
      · intro X rest g
        refine G.loadI (y := a0.from_) rfl rfl rfl rfl ty3 (fun w hs => Rd.bk (R_armoireref06_Map.L_from_ _) hs (j := 0) rfl) ?_
        exact g
      · intro X rest g
        refine G.cmp (a0.from_ ≤ a1) rfl rfl rfl rfl rfl rfl Iff.rfl ?_
        exact g
      · intro X rest g
        refine G.move rfl rfl rfl rfl ?_
        refine G.same (d := 13) (v := .bool false) rfl (by simp [k3]) ?_
        refine G.shadow ?_
        exact g
      · intro X rest g
        refine G.unwanted rfl rfl rfl rfl ?_
        exact g
      · intro X rest g
        refine G.unwanted rfl rfl rfl rfl ?_
        exact g
      · intro X rest g
        refine G.unwanted rfl rfl rfl rfl ?_
        exact g
      · intro X rest g
        refine G.unwanted rfl rfl rfl rfl ?_
        exact g
      · intro X rest g
        refine G.unwanted rfl rfl rfl rfl ?_
        exact g
      · intro X rest g
        refine G.unwanted rfl rfl rfl rfl ?_
        exact g
      · intro X rest g
        refine G.unwanted rfl rfl rfl rfl ?_
        exact g
      · intro X rest g
        refine G.unwanted rfl rfl rfl rfl ?_
        exact g
      · intro X rest g
        refine G.unwanted rfl rfl rfl rfl ?_
        exact g
      · intro X rest g
        refine G.unwanted rfl rfl rfl rfl ?_
        exact g
      · intro X rest g
        refine G.unwanted rfl rfl rfl rfl ?_
        exact g
      · intro X rest g
        refine G.unwanted rfl rfl rfl rfl ?_
        exact g
      · intro X rest g
        refine G.pickF rfl rfl rfl rfl rfl ?_
        exact g
      · intro X rest g
        refine G.move rfl rfl rfl rfl ?_
        exact g
      · intro X rest g
        refine G.unwanted rfl rfl rfl rfl ?_
        exact g
      · intro X rest g
        refine G.unwanted rfl rfl rfl rfl ?_
        exact g
      · intro X rest g
        refine G.unwanted rfl rfl rfl rfl ?_
        exact g
      · intro X rest g
        refine G.unwanted rfl rfl rfl rfl ?_
        exact g
      · intro X rest g
        refine G.unwanted rfl rfl rfl rfl ?_
        exact g
      · intro X rest g
        refine G.unwanted rfl rfl rfl rfl ?_
        exact g
      · intro X rest g
        refine G.unwanted rfl rfl rfl rfl ?_
        exact g
      · intro X rest g
        refine G.unwanted rfl rfl rfl rfl ?_
        exact g
      · intro X rest g
        refine G.unwanted rfl rfl rfl rfl ?_
        exact g
      · intro X rest g
        refine G.unwanted rfl rfl rfl rfl ?_
        exact g
      · intro X rest g
        refine G.unwanted rfl rfl rfl rfl ?_
        exact g
      · intro X rest g
        refine G.unwanted rfl rfl rfl rfl ?_
        exact g
      · intro X rest g
        refine G.unwanted rfl rfl rfl rfl ?_
        exact g
      · intro X rest g
        refine G.unwanted rfl rfl rfl rfl ?_
        exact g
      · intro X rest g
        refine G.pickF rfl rfl rfl rfl rfl ?_
        exact g
      · intro X rest g
        refine G.assign rfl rfl rfl rfl ?_
        exact g
      · intro A L hlen hp h0
        refine G.lessSub (B := [(6, .bool false)]) (hp.fin hlen h0 (src := [.op 36]) rfl) ?_
        refine G.regionEnd ?_
        refine G.frontAt 1 rfl ?_
        refine G.frontAt 1 rfl ?_
        obtain rfl := Option.some.inj h
        exact G.ret1 Try.func28 rfl rfl (fun w hs => ⟨_, _, rfl, ⟨rfl, rfl⟩, hs⟩)
    intro l hl
    exact P28 37 (List.replicate 37 false) _ l rfl (Reg.Phi.init 37 ⟨rfl, rfl, rfl, rfl, trivial⟩) (left_rep 37) hl
end Go.Proofs.Ytpffemcpfddjbaa
