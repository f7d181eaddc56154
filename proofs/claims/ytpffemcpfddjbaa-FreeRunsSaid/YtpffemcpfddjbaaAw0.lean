/- Own text, printed by wip/g2: the walks. -/
import Derived.Test.YtpffemcpfddjbaaAf
namespace Go.Proofs.Ytpffemcpfddjbaa
open Go K
set_option linter.unusedVariables false
set_option maxHeartbeats 1000000
set_option maxRecDepth 20000 in
theorem free_New_1.ok {O : World} {H : PH} {Fr : List Res} (a0 : Int) (a1 : Int) (g1 : Nat) (a2 : Int) (g2 : Nat) {r : Bool} (h : free_New_1.f a0 a1 a2 = some r) :
    CtrS Try.prog 23 [.int .i64 a0, .pointer (some ⟨g1, 0, none⟩), .pointer (some ⟨g2, 0, none⟩)] O H (BK 3 (Kd.int .i64) g1 a1 :: BK 3 (Kd.int .i64) g2 a2 :: Fr) (fun v L' => v = .bool r ∧ BK 3 (Kd.int .i64) g1 a1 :: BK 3 (Kd.int .i64) g2 a2 :: Fr = L') := by
  refine CtrS.start (n := 13) Try.func23 rfl Try.ntmps23 rfl rfl ?_
  unfold free_New_1.f at h
  refine G.seq ?_
  refine G.region (l := [0]) rfl ?_
  refine G.assign rfl rfl rfl rfl ?_
  refine G.regionEnd ?_
  refine G.seq ?_
  refine G.region (l := [0, 1, 2, 3, 4, 5, 6, 7, 8]) rfl ?_
  refine G.move rfl rfl rfl rfl ?_
  refine G.loadI (y := a1) rfl rfl rfl rfl ty3 (fun w hs => Rd.bk (Lens.id _ _) hs (j := 0) rfl) ?_
  refine G.cmp (a0 < a1) rfl rfl rfl rfl rfl rfl Iff.rfl ?_
  refine G.move rfl rfl rfl rfl ?_
  refine G.splitP (d := 8) rfl (fun k3 => ?_) (fun k3 => ?_)
  · replace h := ifT h k3
    refine G.unwanted rfl rfl rfl rfl ?_
    refine G.unwanted rfl rfl rfl rfl ?_
    refine G.unwanted rfl rfl rfl rfl ?_
    refine G.pickT rfl rfl rfl rfl rfl ?_
    refine G.assign rfl rfl rfl rfl ?_
    refine G.regionEnd ?_
    refine G.frontAt 1 rfl ?_
    refine G.frontAt 1 rfl ?_
    obtain rfl := Option.some.inj h
    exact G.ret1 Try.func23 rfl rfl (fun w hs => ⟨_, _, rfl, ⟨rfl, rfl⟩, hs⟩)
  · replace h := ifF h k3
    refine G.move rfl rfl rfl rfl ?_
    refine G.loadI (y := a2) rfl rfl rfl rfl ty3 (fun w hs => Rd.bk (Lens.id _ _) hs (j := 1) rfl) ?_
    refine G.cmp (a2 ≤ a0) rfl rfl rfl rfl rfl rfl Iff.rfl ?_
    refine G.pickF rfl rfl rfl rfl rfl ?_
    refine G.assign rfl rfl rfl rfl ?_
    refine G.regionEnd ?_
    refine G.frontAt 1 rfl ?_
    refine G.frontAt 1 rfl ?_
    obtain rfl := Option.some.inj h
    exact G.ret1 Try.func23 rfl rfl (fun w hs => ⟨_, _, rfl, ⟨rfl, rfl⟩, hs⟩)
def free_Map_TakeRun.reg10_3 (B : List (Nat × Value)) : Reg := ⟨[[], [0], [1], [2], [3], [], [4, 5], [], [6, 7, 0, 1, 2, 3, 4, 5, 6, 7]], [some 12, some 13, some 14, some 15, some 16, some 17, some 18, some 6, some 7], B⟩
theorem free_Map_TakeRun.reg10_3_ap (B : List (Nat × Value)) : (free_Map_TakeRun.reg10_3 B).apart = true := rfl
set_option maxRecDepth 20000 in
theorem free_Map_TakeRun.ok {O : World} {H : PH} {Fr : List Res} (a0 : S_free_Map) (g0 : Nat) (A0 : Option Addr) (n0 : Nat) (a1 : Int) {r : Int × Int × S_free_Map} (h : free_Map_TakeRun.f a0 a1 = some r) :
    CtrS Try.prog 10 [.pointer (some ⟨g0, 0, none⟩), .int .i64 a1] O H (BK 53 K_R_free_Map g0 (R_free_Map.mk a0.from_ (A0, a0.kinds.length, n0)) :: OS 54 Kd.u8 A0 n0 a0.kinds :: Fr) (fun v L' => v = .tuple #[.int .i64 r.1, .int .i64 r.2.1] ∧ BK 53 K_R_free_Map g0 (R_free_Map.mk r.2.2.from_ (A0, r.2.2.kinds.length, n0)) :: OS 54 Kd.u8 A0 n0 r.2.2.kinds :: Fr = L') := by
  refine CtrS.start (n := 63) Try.func10 rfl Try.ntmps10 rfl rfl ?_
  unfold free_Map_TakeRun.f at h
  refine G.seq ?_
  refine G.region (l := [0, 1]) rfl ?_
  refine G.assign rfl rfl rfl rfl ?_
  refine G.assign rfl rfl rfl rfl ?_
  refine G.regionEnd ?_
  refine G.scope ?_
  refine G.seq ?_
  refine G.seq ?_
  refine G.region (l := [0, 1]) rfl ?_
  refine G.move rfl rfl rfl rfl ?_
  refine G.cmp (a1 < 1) rfl rfl rfl rfl rfl rfl Iff.rfl ?_
  refine G.regionEnd ?_
  refine G.condP rfl (fun k247 => ?_) (fun k247 => ?_)
  · replace h := ifT h k247
    refine G.seq ?_
    refine G.region (l := [0, 1]) rfl ?_
    refine G.assign rfl rfl rfl rfl ?_
    refine G.assign rfl rfl rfl rfl ?_
    refine G.regionEnd ?_
    refine G.frontAt 1 rfl ?_
    refine G.frontAt 1 rfl ?_
    obtain rfl := Option.some.inj h
    exact G.retN (rs := [.tmp 4, .tmp 5]) Try.func10 rfl rfl rfl (fun w hs => ⟨_, _, rfl, ⟨rfl, rfl⟩, hs⟩)
  · replace h := ifF h k247
    refine G.skip ?_
    refine G.seq ?_
    refine G.draw [[], [0], [1], [2], [3], [], [4, 5], [], [6, 7, 0, 1, 2, 3, 4, 5, 6, 7]] 9 [0, 1, 2, 3, 4, 5, 6, 7, 8] [0, 1, 2, 3, 4, 0, 5, 6, 7] [0, 1, 2, 3, 4, 1, 5, 0, 6] rfl (by kernel_rfl) (by kernel_rfl) (by kernel_rfl) (by kernel_rfl) ?_
    intro C242 ops243 k244
    let R245 : Reg := free_Map_TakeRun.reg10_3 [(0, .pointer (some ⟨g0, 0, none⟩)), (1, .int .i64 a1)]
    have P246 : ∀ (m : Nat) (L : List Bool) (A : List (Nat × Value)) (l : List Nat), L.length = R245.ds.length → R245.Phi [some (.pointer (some ⟨g0, 0, none⟩)), some (.pointer (some ⟨g0, 0, none⟩)), some (.pointer (some ⟨g0, 1, none⟩)), some (.slice A0 a0.kinds.length n0), some (.int .i64 (a0.kinds.length : Int)), some (.int .i64 a1), some (.int .i64 (wi64 ((a0.kinds.length : Int) - a1))), some (.int .i64 0), some (.int .i64 (wi64 ((a0.kinds.length : Int) - a1)))] [] [] L A → left L = m → Ord R245.ds m L l → G C242 H A (BK 53 K_R_free_Map g0 (R_free_Map.mk a0.from_ (A0, a0.kinds.length, n0)) :: OS 54 Kd.u8 A0 n0 a0.kinds :: Fr) (.inRegion ops243 l :: k244) := by
      refine G.phase R245 [some (.pointer (some ⟨g0, 0, none⟩)), some (.pointer (some ⟨g0, 0, none⟩)), some (.pointer (some ⟨g0, 1, none⟩)), some (.slice A0 a0.kinds.length n0), some (.int .i64 (a0.kinds.length : Int)), some (.int .i64 a1), some (.int .i64 (wi64 ((a0.kinds.length : Int) - a1))), some (.int .i64 0), some (.int .i64 (wi64 ((a0.kinds.length : Int) - a1)))] [0, 1, 2, 3, 4, 5, 6, 7, 8] [] [] [] (free_Map_TakeRun.reg10_3_ap _) rfl rfl ⟨⟨[.base 0], 12, .pointer (some ⟨g0, 0, none⟩), [(0, .pointer (some ⟨g0, 0, none⟩))], ⟨rfl, rfl, rfl, rfl, ?_⟩⟩, ⟨⟨[.op 0], 13, .pointer (some ⟨g0, 0, none⟩), [(12, .pointer (some ⟨g0, 0, none⟩))], ⟨rfl, rfl, rfl, rfl, ?_⟩⟩, ⟨⟨[.op 1], 14, .pointer (some ⟨g0, 1, none⟩), [(13, .pointer (some ⟨g0, 0, none⟩))], ⟨rfl, rfl, rfl, rfl, ?_⟩⟩, ⟨⟨[.op 2], 15, .slice A0 a0.kinds.length n0, [(14, .pointer (some ⟨g0, 1, none⟩))], ⟨rfl, rfl, rfl, rfl, ?_⟩⟩, ⟨⟨[.op 3], 16, .int .i64 (a0.kinds.length : Int), [(15, .slice A0 a0.kinds.length n0)], ⟨rfl, rfl, rfl, rfl, ?_⟩⟩, ⟨⟨[.base 1], 17, .int .i64 a1, [(1, .int .i64 a1)], ⟨rfl, rfl, rfl, rfl, ?_⟩⟩, ⟨⟨[.op 4, .op 5], 18, .int .i64 (wi64 ((a0.kinds.length : Int) - a1)), [(16, .int .i64 (a0.kinds.length : Int)), (17, .int .i64 a1)], ⟨rfl, rfl, rfl, rfl, ?_⟩⟩, ⟨⟨[], 6, .int .i64 0, [], ⟨rfl, rfl, rfl, rfl, ?_⟩⟩, ⟨⟨[.op 6], 7, .int .i64 (wi64 ((a0.kinds.length : Int) - a1)), [(18, .int .i64 (wi64 ((a0.kinds.length : Int) - a1)))], ⟨rfl, rfl, rfl, rfl, ?_⟩⟩, trivial⟩⟩⟩⟩⟩⟩⟩⟩⟩ trivial ?_
      · intro X rest g
        refine G.move rfl rfl rfl rfl ?_
        exact g
      · intro X rest g
        refine G.nilCheck rfl rfl rfl rfl ?_
        exact g
      · intro X rest g
        refine G.field (off' := 1) rfl rfl rfl rfl Try.underlying53 rfl sz51 rfl rfl ?_
        exact g
      · intro X rest g
        refine G.loadH (B := A0) (m := a0.kinds.length) (c := n0) rfl rfl rfl rfl ty51r (fun w hs => Rd.bk (R_free_Map.L_kinds _) hs (j := 0) rfl) ?_
        exact g
      · intro X rest g
        refine G.len (m := a0.kinds.length) rfl rfl rfl rfl Try.underlying51 ?_
        exact g
      · intro X rest g
        refine G.move rfl rfl rfl rfl ?_
        exact g
      · intro X rest g
        refine G.bin (m := (a0.kinds.length : Int)) (n := a1) (r := wi64 ((a0.kinds.length : Int) - a1)) rfl rfl rfl rfl rfl rfl rfl ?_
        exact g
      · intro X rest g
        refine G.assign rfl rfl rfl rfl ?_
        exact g
      · intro X rest g
        refine G.assign rfl rfl rfl rfl ?_
        exact g
      · intro A L hlen hp h0
        refine G.lessSub (B := [(0, .pointer (some ⟨g0, 0, none⟩)), (1, .int .i64 a1), (6, .int .i64 0), (7, .int .i64 (wi64 ((a0.kinds.length : Int) - a1)))]) (hp.fin hlen h0 (src := [.base 0, .base 1, .op 7, .op 8]) rfl) ?_
        refine G.regionEnd ?_
        refine G.seq ?_
        refine G.label ?_
        refine G.seq ?_
        refine G.block ?_
        refine G.loop (fun GG K => ∀ (d122 : Nat) (x3 : Int), free_Map_TakeRun.l0 a0 a1 d122 x3 = some r → GG H [(0, .pointer (some ⟨g0, 0, none⟩)), (1, .int .i64 a1), (6, .int .i64 x3), (7, .int .i64 (wi64 ((a0.kinds.length : Int) - a1)))] (OS 54 Kd.u8 A0 n0 a0.kinds :: BK 53 K_R_free_Map g0 (R_free_Map.mk a0.from_ (A0, a0.kinds.length, n0)) :: Fr) K) ?_ ?_
        · intro d122
          induction d122 with
          | zero => intro x3 h; rw [free_Map_TakeRun.l0] at h; cases h
          | succ d122 ih121 =>
            intro x3 h
            rw [free_Map_TakeRun.l0] at h
            refine G.seq ?_
            refine G.seq ?_
            refine G.region (l := [0, 1, 2]) rfl ?_
            refine G.move rfl rfl rfl rfl ?_
            refine G.move rfl rfl rfl rfl ?_
            refine G.cmp (x3 ≤ (wi64 ((a0.kinds.length : Int) - a1))) rfl rfl rfl rfl rfl rfl Iff.rfl ?_
            refine G.regionEnd ?_
            refine G.condP rfl (fun k240 => ?_) (fun k240 => ?_)
            · replace h := ifT h k240
              refine G.skip ?_
              refine G.seq ?_
              refine G.block ?_
              refine G.seq ?_
              refine G.seq ?_
              refine G.region (l := [0, 1]) rfl ?_
              refine G.move rfl rfl rfl rfl ?_
              refine G.assign rfl rfl rfl rfl ?_
              refine G.regionEnd ?_
              refine G.block ?_
              refine G.loop (fun GG K => ∀ (d182 : Nat) (x141 : Int) (x142 : Int), free_Map_TakeRun.l1 a0 a1 (free_Map_TakeRun.l0 a0 a1 d122) d182 x141 x142 = some r → GG H [(0, .pointer (some ⟨g0, 0, none⟩)), (1, .int .i64 a1), (6, .int .i64 x141), (7, .int .i64 (wi64 ((a0.kinds.length : Int) - a1))), (8, .int .i64 x142)] (OS 54 Kd.u8 A0 n0 a0.kinds :: BK 53 K_R_free_Map g0 (R_free_Map.mk a0.from_ (A0, a0.kinds.length, n0)) :: Fr) K) ?_ ?_
              · intro d182
                induction d182 with
                | zero => intro x141 x142 h; rw [free_Map_TakeRun.l1] at h; cases h
                | succ d182 ih181 =>
                  intro x141 x142 h
                  rw [free_Map_TakeRun.l1] at h
                  refine G.seq ?_
                  refine G.seq ?_
                  refine G.region (l := [0, 1, 2, 3, 4]) rfl ?_
                  refine G.move rfl rfl rfl rfl ?_
                  refine G.move rfl rfl rfl rfl ?_
                  refine G.move rfl rfl rfl rfl ?_
                  refine G.bin (m := x141) (n := a1) (r := wi64 (x141 + a1)) rfl rfl rfl rfl rfl rfl rfl ?_
                  refine G.cmp (x142 < (wi64 (x141 + a1))) rfl rfl rfl rfl rfl rfl Iff.rfl ?_
                  refine G.regionEnd ?_
                  refine G.condP rfl (fun k221 => ?_) (fun k221 => ?_)
                  · replace h := ifT h k221
                    refine G.skip ?_
                    refine G.seq ?_
                    refine G.block ?_
                    refine G.seq ?_
                    refine G.region (l := [0, 1, 2, 3, 4, 5, 6, 7]) rfl ?_
                    refine G.move rfl rfl rfl rfl ?_
                    refine G.nilCheck rfl rfl rfl rfl ?_
                    refine G.field (off' := 1) rfl rfl rfl rfl Try.underlying53 rfl sz51 rfl rfl ?_
                    refine G.loadH (B := A0) (m := a0.kinds.length) (c := n0) rfl rfl rfl rfl ty51r (fun w hs => Rd.bk (R_free_Map.L_kinds _) hs (j := 1) rfl) ?_
                    refine G.move rfl rfl rfl rfl ?_
                    obtain ⟨k202, h⟩ := guardS h
                    have q201 : x142.toNat < a0.kinds.length := by omega
                    refine G.indexO (xs := a0.kinds) (j := x142) (off := x142.toNat * 1) rfl rfl rfl rfl rfl el51 (r := 0) rfl (by simp) k202 rfl ?_
                    refine G.load8 (y := a0.kinds.getD x142.toNat 0) rfl rfl rfl rfl ty54 (fun w hs => Rd.osG q201 (Lens.id _ _) hs (j := 0) rfl (o := x142.toNat * 1) (by first | rfl | simp)) ?_
                    refine G.cmp ((a0.kinds.getD x142.toNat 0) ≠ 0) rfl rfl rfl rfl rfl rfl (c8_neq (a0.kinds.getD x142.toNat 0) 0) ?_
                    refine G.regionEnd ?_
                    refine G.condP rfl (fun k203 => ?_) (fun k203 => ?_)
                    · replace h := ifT h k203
                      refine G.seq ?_
                      refine G.region (l := [0, 1]) rfl ?_
                      refine G.move rfl rfl rfl rfl ?_
                      refine G.assign rfl rfl rfl rfl ?_
                      refine G.regionEnd ?_
                      refine G.exit rfl ?_
                      refine G.region (l := [0, 1, 2]) rfl ?_
                      refine G.move rfl rfl rfl rfl ?_
                      refine G.bin (m := x142) (n := 1) (r := wi64 (x142 + 1)) rfl rfl rfl rfl rfl rfl rfl ?_
                      refine G.assign rfl rfl rfl rfl ?_
                      refine G.regionEnd ?_
                      refine G.round ?_
                      refine G.frontAt 1 rfl ?_
                      refine G.frontAt 1 rfl ?_
                      refine G.less ?_ (ih121  (wi64 (x142 + 1)) h)
                      exact ⟨rfl, rfl, rfl, rfl, trivial⟩
                    · replace h := ifF h k203
                      refine G.skip ?_
                      refine G.inBlock ?_
                      refine G.region (l := [0, 1, 2]) rfl ?_
                      refine G.move rfl rfl rfl rfl ?_
                      refine G.bin (m := x142) (n := 1) (r := wi64 (x142 + 1)) rfl rfl rfl rfl rfl rfl rfl ?_
                      refine G.assign rfl rfl rfl rfl ?_
                      refine G.regionEnd ?_
                      refine G.round ?_
                      refine G.frontAt 1 rfl ?_
                      refine G.frontAt 1 rfl ?_
                      refine G.less ?_ (ih181  x141 (wi64 (x142 + 1)) h)
                      exact ⟨rfl, rfl, rfl, rfl, rfl, trivial⟩
                  · replace h := ifF h k221
                    refine G.exit rfl ?_
                    refine G.exit rfl ?_
                    refine G.seq ?_
                    refine G.seq ?_
                    refine G.region (l := [0, 1, 2]) rfl ?_
                    refine G.move rfl rfl rfl rfl ?_
                    refine G.move rfl rfl rfl rfl ?_
                    refine G.cmp ((wi64 ((a0.kinds.length : Int) - a1)) < x141) rfl rfl rfl rfl rfl rfl Iff.rfl ?_
                    refine G.regionEnd ?_
                    refine G.condP rfl (fun k220 => ?_) (fun k220 => ?_)
                    · replace h := ifT h k220
                      refine G.seq ?_
                      refine G.region (l := [0, 1]) rfl ?_
                      refine G.assign rfl rfl rfl rfl ?_
                      refine G.assign rfl rfl rfl rfl ?_
                      refine G.regionEnd ?_
                      refine G.frontAt 1 rfl ?_
                      obtain rfl := Option.some.inj h
                      exact G.retN (rs := [.tmp 4, .tmp 5]) Try.func10 rfl rfl rfl (fun w hs => ⟨_, _, rfl, ⟨rfl, rfl⟩, hs⟩)
                    · replace h := ifF h k220
                      refine G.skip ?_
                      refine G.seq ?_
                      refine G.seq ?_
                      refine G.region (l := [0, 1]) rfl ?_
                      refine G.move rfl rfl rfl rfl ?_
                      refine G.move rfl rfl rfl rfl ?_
                      refine G.regionEnd ?_
                      refine G.block ?_
                      refine G.loop (fun GG K => ∀ (d214 : Nat) (x208 : (List UInt8)) (x209 : Int), free_Map_TakeRun.l2 a0 a1 x141 d214 x208 x209 = some r → GG H [(0, .pointer (some ⟨g0, 0, none⟩)), (6, .int .i64 x141), (44, .int .i64 a1), (45, .int .i64 x209)] (OS 54 Kd.u8 A0 n0 x208 :: BK 53 K_R_free_Map g0 (R_free_Map.mk a0.from_ (A0, x208.length, n0)) :: Fr) K) ?_ ?_
                      · intro d214
                        induction d214 with
                        | zero => intro x208 x209 h; rw [free_Map_TakeRun.l2] at h; cases h
                        | succ d214 ih213 =>
                          intro x208 x209 h
                          rw [free_Map_TakeRun.l2] at h
                          refine G.seq ?_
                          refine G.region (l := [0]) rfl ?_
                          refine G.cmp (x209 < a1) rfl rfl rfl rfl rfl rfl Iff.rfl ?_
                          refine G.regionEnd ?_
                          refine G.seq ?_
                          refine G.condP rfl (fun k218 => ?_) (fun k218 => ?_)
                          · replace h := ifT h k218
                            refine G.skip ?_
                            refine G.seq ?_
                            refine G.block ?_
                            refine G.seq ?_
                            refine G.region (l := [0, 1]) rfl ?_
                            refine G.move rfl rfl rfl rfl ?_
                            refine G.assign rfl rfl rfl rfl ?_
                            refine G.regionEnd ?_
                            refine G.region (l := [0, 1, 2, 3, 4, 5, 6, 7, 8]) rfl ?_
                            refine G.move rfl rfl rfl rfl ?_
                            refine G.nilCheck rfl rfl rfl rfl ?_
                            refine G.field (off' := 1) rfl rfl rfl rfl Try.underlying53 rfl sz51 rfl rfl ?_
                            refine G.loadH (B := A0) (m := x208.length) (c := n0) rfl rfl rfl rfl ty51r (fun w hs => Rd.bk (R_free_Map.L_kinds _) hs (j := 1) rfl) ?_
                            refine G.move rfl rfl rfl rfl ?_
                            refine G.move rfl rfl rfl rfl ?_
                            refine G.bin (m := x141) (n := x209) (r := wi64 (x141 + x209)) rfl rfl rfl rfl rfl rfl rfl ?_
                            obtain ⟨k217, h⟩ := guardS h
                            have q216 : (wi64 (x141 + x209)).toNat < x208.length := by omega
                            refine G.indexO (xs := x208) (j := wi64 (x141 + x209)) (off := (wi64 (x141 + x209)).toNat * 1) rfl rfl rfl rfl rfl el51 (r := 0) rfl (by simp) k217 rfl ?_
                            refine G.storeO (df := Kd.u8) (y := 1) (hj := q216) (xs' := x208.set ((wi64 (x141 + x209)).toNat) 1) rfl rfl rfl rfl (Lens.id _ _) (by first | rfl | simp) ⟨([u8V 1] : List Value), rfl, rfl⟩ sz54 rfl ?_
                            refine G.regionEnd ?_
                            refine G.inBlock ?_
                            refine G.region (l := [0, 1]) rfl ?_
                            refine G.bin (m := x209) (n := 1) (r := wi64 (x209 + 1)) rfl rfl rfl rfl rfl rfl rfl ?_
                            refine G.move rfl rfl rfl rfl ?_
                            refine G.regionEnd ?_
                            refine G.round ?_
                            refine G.frontAt 1 rfl ?_
                            refine G.headEq (r' := BK 53 K_R_free_Map g0 (R_free_Map.mk a0.from_ (A0, (x208.set ((wi64 (x141 + x209)).toNat) 1).length, n0))) (by first | (simp; done) | (simp; omega)) ?_
                            refine G.frontAt 1 rfl ?_
                            refine G.less ?_ (ih213  (x208.set ((wi64 (x141 + x209)).toNat) 1) (wi64 (x209 + 1)) h)
                            exact ⟨rfl, rfl, rfl, rfl, trivial⟩
                          · replace h := ifF h k218
                            refine G.exit rfl ?_
                            refine G.seq ?_
                            refine G.region (l := [0, 1, 2, 3, 4, 5, 6, 7]) rfl ?_
                            refine G.move rfl rfl rfl rfl ?_
                            refine G.nilCheck rfl rfl rfl rfl ?_
                            refine G.field (off' := 0) rfl rfl rfl rfl Try.underlying53 rfl sz3 rfl rfl ?_
                            refine G.loadI (y := a0.from_) rfl rfl rfl rfl ty3 (fun w hs => Rd.bk (R_free_Map.L_from_ _) hs (j := 1) rfl) ?_
                            refine G.move rfl rfl rfl rfl ?_
                            refine G.bin (m := a0.from_) (n := x141) (r := wi64 (a0.from_ + x141)) rfl rfl rfl rfl rfl rfl rfl ?_
                            refine G.assign rfl rfl rfl rfl ?_
                            refine G.assign rfl rfl rfl rfl ?_
                            refine G.regionEnd ?_
                            refine G.frontAt 1 rfl ?_
                            obtain rfl := Option.some.inj h
                            exact G.retN (rs := [.tmp 4, .tmp 5]) Try.func10 rfl rfl rfl (fun w hs => ⟨_, _, rfl, ⟨rfl, rfl⟩, hs⟩)
                      intro J219
                      refine G.frontAt 1 rfl ?_
                      refine G.frontAt 1 rfl ?_
                      refine G.less ?_ (J219 FUEL  a0.kinds 0 h)
                      exact ⟨rfl, rfl, rfl, rfl, trivial⟩
              intro J222
              refine G.frontAt 1 rfl ?_
              refine G.frontAt 1 rfl ?_
              refine G.less ?_ (J222 FUEL  x3 x3 h)
              exact ⟨rfl, rfl, rfl, rfl, rfl, trivial⟩
            · replace h := ifF h k240
              refine G.exit rfl ?_
              refine G.seq ?_
              refine G.seq ?_
              refine G.region (l := [0, 1, 2]) rfl ?_
              refine G.move rfl rfl rfl rfl ?_
              refine G.move rfl rfl rfl rfl ?_
              refine G.cmp ((wi64 ((a0.kinds.length : Int) - a1)) < x3) rfl rfl rfl rfl rfl rfl Iff.rfl ?_
              refine G.regionEnd ?_
              refine G.condP rfl (fun k239 => ?_) (fun k239 => ?_)
              · replace h := ifT h k239
                refine G.seq ?_
                refine G.region (l := [0, 1]) rfl ?_
                refine G.assign rfl rfl rfl rfl ?_
                refine G.assign rfl rfl rfl rfl ?_
                refine G.regionEnd ?_
                refine G.frontAt 1 rfl ?_
                obtain rfl := Option.some.inj h
                exact G.retN (rs := [.tmp 4, .tmp 5]) Try.func10 rfl rfl rfl (fun w hs => ⟨_, _, rfl, ⟨rfl, rfl⟩, hs⟩)
              · replace h := ifF h k239
                refine G.skip ?_
                refine G.seq ?_
                refine G.seq ?_
                refine G.region (l := [0, 1]) rfl ?_
                refine G.move rfl rfl rfl rfl ?_
                refine G.move rfl rfl rfl rfl ?_
                refine G.regionEnd ?_
                refine G.block ?_
                refine G.loop (fun GG K => ∀ (d233 : Nat) (x227 : (List UInt8)) (x228 : Int), free_Map_TakeRun.l3 a0 a1 x3 d233 x227 x228 = some r → GG H [(0, .pointer (some ⟨g0, 0, none⟩)), (6, .int .i64 x3), (44, .int .i64 a1), (45, .int .i64 x228)] (OS 54 Kd.u8 A0 n0 x227 :: BK 53 K_R_free_Map g0 (R_free_Map.mk a0.from_ (A0, x227.length, n0)) :: Fr) K) ?_ ?_
                · intro d233
                  induction d233 with
                  | zero => intro x227 x228 h; rw [free_Map_TakeRun.l3] at h; cases h
                  | succ d233 ih232 =>
                    intro x227 x228 h
                    rw [free_Map_TakeRun.l3] at h
                    refine G.seq ?_
                    refine G.region (l := [0]) rfl ?_
                    refine G.cmp (x228 < a1) rfl rfl rfl rfl rfl rfl Iff.rfl ?_
                    refine G.regionEnd ?_
                    refine G.seq ?_
                    refine G.condP rfl (fun k237 => ?_) (fun k237 => ?_)
                    · replace h := ifT h k237
                      refine G.skip ?_
                      refine G.seq ?_
                      refine G.block ?_
                      refine G.seq ?_
                      refine G.region (l := [0, 1]) rfl ?_
                      refine G.move rfl rfl rfl rfl ?_
                      refine G.assign rfl rfl rfl rfl ?_
                      refine G.regionEnd ?_
                      refine G.region (l := [0, 1, 2, 3, 4, 5, 6, 7, 8]) rfl ?_
                      refine G.move rfl rfl rfl rfl ?_
                      refine G.nilCheck rfl rfl rfl rfl ?_
                      refine G.field (off' := 1) rfl rfl rfl rfl Try.underlying53 rfl sz51 rfl rfl ?_
                      refine G.loadH (B := A0) (m := x227.length) (c := n0) rfl rfl rfl rfl ty51r (fun w hs => Rd.bk (R_free_Map.L_kinds _) hs (j := 1) rfl) ?_
                      refine G.move rfl rfl rfl rfl ?_
                      refine G.move rfl rfl rfl rfl ?_
                      refine G.bin (m := x3) (n := x228) (r := wi64 (x3 + x228)) rfl rfl rfl rfl rfl rfl rfl ?_
                      obtain ⟨k236, h⟩ := guardS h
                      have q235 : (wi64 (x3 + x228)).toNat < x227.length := by omega
                      refine G.indexO (xs := x227) (j := wi64 (x3 + x228)) (off := (wi64 (x3 + x228)).toNat * 1) rfl rfl rfl rfl rfl el51 (r := 0) rfl (by simp) k236 rfl ?_
                      refine G.storeO (df := Kd.u8) (y := 1) (hj := q235) (xs' := x227.set ((wi64 (x3 + x228)).toNat) 1) rfl rfl rfl rfl (Lens.id _ _) (by first | rfl | simp) ⟨([u8V 1] : List Value), rfl, rfl⟩ sz54 rfl ?_
                      refine G.regionEnd ?_
                      refine G.inBlock ?_
                      refine G.region (l := [0, 1]) rfl ?_
                      refine G.bin (m := x228) (n := 1) (r := wi64 (x228 + 1)) rfl rfl rfl rfl rfl rfl rfl ?_
                      refine G.move rfl rfl rfl rfl ?_
                      refine G.regionEnd ?_
                      refine G.round ?_
                      refine G.frontAt 1 rfl ?_
                      refine G.headEq (r' := BK 53 K_R_free_Map g0 (R_free_Map.mk a0.from_ (A0, (x227.set ((wi64 (x3 + x228)).toNat) 1).length, n0))) (by first | (simp; done) | (simp; omega)) ?_
                      refine G.frontAt 1 rfl ?_
                      refine G.less ?_ (ih232  (x227.set ((wi64 (x3 + x228)).toNat) 1) (wi64 (x228 + 1)) h)
                      exact ⟨rfl, rfl, rfl, rfl, trivial⟩
                    · replace h := ifF h k237
                      refine G.exit rfl ?_
                      refine G.seq ?_
                      refine G.region (l := [0, 1, 2, 3, 4, 5, 6, 7]) rfl ?_
                      refine G.move rfl rfl rfl rfl ?_
                      refine G.nilCheck rfl rfl rfl rfl ?_
                      refine G.field (off' := 0) rfl rfl rfl rfl Try.underlying53 rfl sz3 rfl rfl ?_
                      refine G.loadI (y := a0.from_) rfl rfl rfl rfl ty3 (fun w hs => Rd.bk (R_free_Map.L_from_ _) hs (j := 1) rfl) ?_
                      refine G.move rfl rfl rfl rfl ?_
                      refine G.bin (m := a0.from_) (n := x3) (r := wi64 (a0.from_ + x3)) rfl rfl rfl rfl rfl rfl rfl ?_
                      refine G.assign rfl rfl rfl rfl ?_
                      refine G.assign rfl rfl rfl rfl ?_
                      refine G.regionEnd ?_
                      refine G.frontAt 1 rfl ?_
                      obtain rfl := Option.some.inj h
                      exact G.retN (rs := [.tmp 4, .tmp 5]) Try.func10 rfl rfl rfl (fun w hs => ⟨_, _, rfl, ⟨rfl, rfl⟩, hs⟩)
                intro J238
                refine G.frontAt 1 rfl ?_
                refine G.frontAt 1 rfl ?_
                refine G.less ?_ (J238 FUEL  a0.kinds 0 h)
                exact ⟨rfl, rfl, rfl, rfl, trivial⟩
        intro J241
        refine G.frontAt 1 rfl ?_
        refine G.less ?_ (J241 FUEL  0 h)
        exact ⟨rfl, rfl, rfl, rfl, trivial⟩
    intro l hl
    exact P246 9 (List.replicate 9 false) _ l rfl (Reg.Phi.init 9 ⟨rfl, rfl, trivial⟩) (left_rep 9) hl
set_option maxRecDepth 20000 in
theorem free_Map_Take.ok {O : World} {H : PH} {Fr : List Res} (a0 : S_free_Map) (g0 : Nat) (A0 : Option Addr) (n0 : Nat) {r : Int × Int × S_free_Map} (h : free_Map_Take.f a0 = some r) :
    CtrS Try.prog 14 [.pointer (some ⟨g0, 0, none⟩)] O H (BK 53 K_R_free_Map g0 (R_free_Map.mk a0.from_ (A0, a0.kinds.length, n0)) :: OS 54 Kd.u8 A0 n0 a0.kinds :: Fr) (fun v L' => v = .tuple #[.int .i64 r.1, .int .i64 r.2.1] ∧ BK 53 K_R_free_Map g0 (R_free_Map.mk r.2.2.from_ (A0, r.2.2.kinds.length, n0)) :: OS 54 Kd.u8 A0 n0 r.2.2.kinds :: Fr = L') := by
  refine CtrS.start (n := 8) Try.func14 rfl Try.ntmps14 rfl rfl ?_
  unfold free_Map_Take.f at h
  refine G.seq ?_
  refine G.region (l := [0, 1]) rfl ?_
  refine G.assign rfl rfl rfl rfl ?_
  refine G.assign rfl rfl rfl rfl ?_
  refine G.regionEnd ?_
  refine G.seq ?_
  refine G.region (l := [0, 1, 2, 3, 4, 5]) rfl ?_
  refine G.move rfl rfl rfl rfl ?_
  refine G.frontAt 1 rfl ?_
  refine G.frontAt 1 rfl ?_
  obtain ⟨t3, e4, h⟩ := bindS h
  refine G.callS rfl rfl rfl rfl call10 (free_Map_TakeRun.ok a0 g0 A0 n0 1 e4) ?_
  rintro v5 L6 ⟨rfl, rfl⟩
  refine G.extract rfl rfl rfl rfl rfl ?_
  refine G.extract rfl rfl rfl rfl rfl ?_
  refine G.assign rfl rfl rfl rfl ?_
  refine G.assign rfl rfl rfl rfl ?_
  refine G.regionEnd ?_
  refine G.frontAt 1 rfl ?_
  refine G.frontAt 1 rfl ?_
  obtain rfl := Option.some.inj h
  exact G.retN (rs := [.tmp 2, .tmp 3]) Try.func14 rfl rfl rfl (fun w hs => ⟨_, _, rfl, ⟨rfl, rfl⟩, hs⟩)
def free_Map_turn.reg26_1 (B : List (Nat × Value)) : Reg := ⟨[[], [], [1], [2], [3], [0, 4], [5], [6], [6], [8, 6], [9, 6], [10, 6], [7, 11, 6], [6], [13, 6], [14, 6], [15, 6], [16, 6], [12, 17, 6], [6, 18], [19, 6], [20], [21, 20], [22, 20], [23, 20], [20], [20], [26, 20], [27, 20], [28, 20], [25, 29, 20], [24, 30, 20], [31, 20], [32, 20], [20, 33]], [some 7, some 8, some 9, some 10, some 11, some 12, some 13, some 14, some 15, some 16, some 17, some 18, some 19, some 20, some 21, some 22, some 23, some 24, some 25, some 26, some 27, some 28, some 29, some 30, some 31, some 32, some 33, some 34, some 35, some 36, some 37, some 38, some 39, some 40, some 41], B⟩
theorem free_Map_turn.reg26_1_ap (B : List (Nat × Value)) : (free_Map_turn.reg26_1 B).apart = true := rfl
def free_Map_turn.reg26_3 (B : List (Nat × Value)) : Reg := ⟨[[], [0], [1], [2], [], [], [5], [6], [7], [4, 8], [], [3, 9, 0, 1, 2, 3, 4, 5, 6, 7, 8, 9, 10], [11, 10, 0, 1, 2, 3, 4, 5, 6, 7, 8, 9, 10]], [some 42, some 43, some 44, some 45, some 46, some 47, some 48, some 49, some 50, some 51, some 52, some 53, none], B⟩
theorem free_Map_turn.reg26_3_ap (B : List (Nat × Value)) : (free_Map_turn.reg26_3 B).apart = true := rfl
set_option maxRecDepth 20000 in
theorem free_Map_turn.ok {O : World} {H : PH} {Fr : List Res} (a0 : S_free_Map) (g0 : Nat) (A0 : Option Addr) (n0 : Nat) (a1 : Int) (a2 : UInt8) {r : Int × S_free_Map} (h : free_Map_turn.f a0 a1 a2 = some r) :
    CtrS Try.prog 26 [.pointer (some ⟨g0, 0, none⟩), .int .i64 a1, u8V a2] O H (BK 53 K_R_free_Map g0 (R_free_Map.mk a0.from_ (A0, a0.kinds.length, n0)) :: OS 54 Kd.u8 A0 n0 a0.kinds :: Fr) (fun v L' => v = .int .i64 r.1 ∧ BK 53 K_R_free_Map g0 (R_free_Map.mk r.2.from_ (A0, r.2.kinds.length, n0)) :: OS 54 Kd.u8 A0 n0 r.2.kinds :: Fr = L') := by
  refine CtrS.start (n := 54) Try.func26 rfl Try.ntmps26 rfl rfl ?_
  unfold free_Map_turn.f at h
  refine G.seq ?_
  refine G.region (l := [0]) rfl ?_
  refine G.assign rfl rfl rfl rfl ?_
  refine G.regionEnd ?_
  refine G.seq ?_
  refine G.seq ?_
  refine byP (p := a1 < a0.from_) (fun k3 => ?_) (fun k3 => ?_)
  · replace h := ifT h k3
    refine G.draw [[], [], [1], [2], [3], [0, 4], [5], [6], [6], [8, 6], [9, 6], [10, 6], [7, 11, 6], [6], [13, 6], [14, 6], [15, 6], [16, 6], [12, 17, 6], [6, 18], [19, 6], [20], [21, 20], [22, 20], [23, 20], [20], [20], [26, 20], [27, 20], [28, 20], [25, 29, 20], [24, 30, 20], [31, 20], [32, 20], [20, 33]] 35 [0, 1, 2, 3, 4, 5, 6, 7, 8, 9, 10, 11, 12, 13, 14, 15, 16, 17, 18, 19, 20, 21, 22, 23, 24, 25, 26, 27, 28, 29, 30, 31, 32, 33, 34] [0, 0, 1, 2, 3, 4, 5, 6, 6, 7, 8, 9, 10, 6, 7, 8, 9, 10, 11, 12, 13, 14, 15, 16, 17, 14, 14, 15, 16, 17, 18, 19, 20, 21, 22] [0, 0, 1, 2, 3, 4, 5, 6, 6, 7, 8, 9, 10, 6, 7, 8, 9, 10, 11, 12, 13, 14, 15, 16, 17, 14, 14, 15, 16, 17, 18, 19, 20, 21, 22] rfl (by kernel_rfl) (by kernel_rfl) (by kernel_rfl) (by kernel_rfl) ?_
    intro C9 ops10 k11
    let R12 : Reg := free_Map_turn.reg26_1 [(0, .pointer (some ⟨g0, 0, none⟩)), (1, .int .i64 a1), (2, u8V a2)]
    have P13 : ∀ (m : Nat) (L : List Bool) (A : List (Nat × Value)) (l : List Nat), L.length = R12.ds.length → R12.Phi [some (.int .i64 a1), some (.pointer (some ⟨g0, 0, none⟩)), some (.pointer (some ⟨g0, 0, none⟩)), some (.pointer (some ⟨g0, 0, none⟩)), some (.int .i64 a0.from_), some (.bool (decide (a1 < a0.from_))), some (.bool true), some (undef), some (undef), some (undef), some (undef), some (undef), some (undef), some (undef), some (undef), some (undef), some (undef), some (undef), some (undef), some (.bool true), some (.bool true), some (undef), some (undef), some (undef), some (undef), some (undef), some (undef), some (undef), some (undef), some (undef), some (undef), some (undef), some (undef), some (undef), some (.bool true)] [] [] L A → left L = m → Ord R12.ds m L l → G C9 H A (BK 53 K_R_free_Map g0 (R_free_Map.mk a0.from_ (A0, a0.kinds.length, n0)) :: OS 54 Kd.u8 A0 n0 a0.kinds :: Fr) (.inRegion ops10 l :: k11) := by
      refine G.phase R12 [some (.int .i64 a1), some (.pointer (some ⟨g0, 0, none⟩)), some (.pointer (some ⟨g0, 0, none⟩)), some (.pointer (some ⟨g0, 0, none⟩)), some (.int .i64 a0.from_), some (.bool (decide (a1 < a0.from_))), some (.bool true), some (undef), some (undef), some (undef), some (undef), some (undef), some (undef), some (undef), some (undef), some (undef), some (undef), some (undef), some (undef), some (.bool true), some (.bool true), some (undef), some (undef), some (undef), some (undef), some (undef), some (undef), some (undef), some (undef), some (undef), some (undef), some (undef), some (undef), some (undef), some (.bool true)] [0, 1, 2, 3, 4, 5, 6, 7, 8, 9, 10, 11, 12, 13, 14, 15, 16, 17, 18, 19, 20, 21, 22, 23, 24, 25, 26, 27, 28, 29, 30, 31, 32, 33, 34] [] [] [] (free_Map_turn.reg26_1_ap _) rfl rfl ⟨⟨[.base 1], 7, .int .i64 a1, [(1, .int .i64 a1)], ⟨rfl, rfl, rfl, rfl, ?_⟩⟩, ⟨⟨[.base 0], 8, .pointer (some ⟨g0, 0, none⟩), [(0, .pointer (some ⟨g0, 0, none⟩))], ⟨rfl, rfl, rfl, rfl, ?_⟩⟩, ⟨⟨[.op 1], 9, .pointer (some ⟨g0, 0, none⟩), [(8, .pointer (some ⟨g0, 0, none⟩))], ⟨rfl, rfl, rfl, rfl, ?_⟩⟩, ⟨⟨[.op 2], 10, .pointer (some ⟨g0, 0, none⟩), [(9, .pointer (some ⟨g0, 0, none⟩))], ⟨rfl, rfl, rfl, rfl, ?_⟩⟩, ⟨⟨[.op 3], 11, .int .i64 a0.from_, [(10, .pointer (some ⟨g0, 0, none⟩))], ⟨rfl, rfl, rfl, rfl, ?_⟩⟩, ⟨⟨[.op 0, .op 4], 12, .bool (decide (a1 < a0.from_)), [(7, .int .i64 a1), (11, .int .i64 a0.from_)], ⟨rfl, rfl, rfl, rfl, ?_⟩⟩, ⟨⟨[.op 5], 13, .bool true, [(12, .bool (decide (a1 < a0.from_)))], ⟨rfl, rfl, rfl, rfl, ?_⟩⟩, ⟨⟨[.base 1, .op 6], 14, undef, [(1, .int .i64 a1), (13, .bool true)], ⟨rfl, rfl, rfl, rfl, ?_⟩⟩, ⟨⟨[.base 0, .op 6], 15, undef, [(0, .pointer (some ⟨g0, 0, none⟩)), (13, .bool true)], ⟨rfl, rfl, rfl, rfl, ?_⟩⟩, ⟨⟨[.op 6, .op 8], 16, undef, [(13, .bool true), (15, undef)], ⟨rfl, rfl, rfl, rfl, ?_⟩⟩, ⟨⟨[.op 6, .op 9], 17, undef, [(13, .bool true), (16, undef)], ⟨rfl, rfl, rfl, rfl, ?_⟩⟩, ⟨⟨[.op 6, .op 10], 18, undef, [(13, .bool true), (17, undef)], ⟨rfl, rfl, rfl, rfl, ?_⟩⟩, ⟨⟨[.op 6, .op 7, .op 11], 19, undef, [(13, .bool true), (14, undef), (18, undef)], ⟨rfl, rfl, rfl, rfl, ?_⟩⟩, ⟨⟨[.base 0, .op 6], 20, undef, [(0, .pointer (some ⟨g0, 0, none⟩)), (13, .bool true)], ⟨rfl, rfl, rfl, rfl, ?_⟩⟩, ⟨⟨[.op 6, .op 13], 21, undef, [(13, .bool true), (20, undef)], ⟨rfl, rfl, rfl, rfl, ?_⟩⟩, ⟨⟨[.op 6, .op 14], 22, undef, [(13, .bool true), (21, undef)], ⟨rfl, rfl, rfl, rfl, ?_⟩⟩, ⟨⟨[.op 6, .op 15], 23, undef, [(13, .bool true), (22, undef)], ⟨rfl, rfl, rfl, rfl, ?_⟩⟩, ⟨⟨[.op 6, .op 16], 24, undef, [(13, .bool true), (23, undef)], ⟨rfl, rfl, rfl, rfl, ?_⟩⟩, ⟨⟨[.op 6, .op 12, .op 17], 25, undef, [(13, .bool true), (19, undef), (24, undef)], ⟨rfl, rfl, rfl, rfl, ?_⟩⟩, ⟨⟨[.op 6, .op 18], 26, .bool true, [(13, .bool true), (25, undef)], ⟨rfl, rfl, rfl, rfl, ?_⟩⟩, ⟨⟨[.op 19], 27, .bool true, [(26, .bool true)], ⟨rfl, rfl, rfl, rfl, ?_⟩⟩, ⟨⟨[.base 0, .op 20], 28, undef, [(0, .pointer (some ⟨g0, 0, none⟩)), (27, .bool true)], ⟨rfl, rfl, rfl, rfl, ?_⟩⟩, ⟨⟨[.op 20, .op 21], 29, undef, [(27, .bool true), (28, undef)], ⟨rfl, rfl, rfl, rfl, ?_⟩⟩, ⟨⟨[.op 20, .op 22], 30, undef, [(27, .bool true), (29, undef)], ⟨rfl, rfl, rfl, rfl, ?_⟩⟩, ⟨⟨[.op 20, .op 23], 31, undef, [(27, .bool true), (30, undef)], ⟨rfl, rfl, rfl, rfl, ?_⟩⟩, ⟨⟨[.base 1, .op 20], 32, undef, [(1, .int .i64 a1), (27, .bool true)], ⟨rfl, rfl, rfl, rfl, ?_⟩⟩, ⟨⟨[.base 0, .op 20], 33, undef, [(0, .pointer (some ⟨g0, 0, none⟩)), (27, .bool true)], ⟨rfl, rfl, rfl, rfl, ?_⟩⟩, ⟨⟨[.op 20, .op 26], 34, undef, [(27, .bool true), (33, undef)], ⟨rfl, rfl, rfl, rfl, ?_⟩⟩, ⟨⟨[.op 20, .op 27], 35, undef, [(27, .bool true), (34, undef)], ⟨rfl, rfl, rfl, rfl, ?_⟩⟩, ⟨⟨[.op 20, .op 28], 36, undef, [(27, .bool true), (35, undef)], ⟨rfl, rfl, rfl, rfl, ?_⟩⟩, ⟨⟨[.op 20, .op 25, .op 29], 37, undef, [(27, .bool true), (32, undef), (36, undef)], ⟨rfl, rfl, rfl, rfl, ?_⟩⟩, ⟨⟨[.op 20, .op 24, .op 30], 38, undef, [(27, .bool true), (31, undef), (37, undef)], ⟨rfl, rfl, rfl, rfl, ?_⟩⟩, ⟨⟨[.op 20, .op 31], 39, undef, [(27, .bool true), (38, undef)], ⟨rfl, rfl, rfl, rfl, ?_⟩⟩, ⟨⟨[.op 20, .op 32], 40, undef, [(27, .bool true), (39, undef)], ⟨rfl, rfl, rfl, rfl, ?_⟩⟩, ⟨⟨[.op 20, .op 33], 41, .bool true, [(27, .bool true), (40, undef)], ⟨rfl, rfl, rfl, rfl, ?_⟩⟩, trivial⟩⟩⟩⟩⟩⟩⟩⟩⟩⟩⟩⟩⟩⟩⟩⟩⟩⟩⟩⟩⟩⟩⟩⟩⟩⟩⟩⟩⟩⟩⟩⟩⟩⟩⟩ trivial ?_
      · intro X rest g
        refine G.move rfl rfl rfl rfl ?_
        exact g
      · intro X rest g
        refine G.move rfl rfl rfl rfl ?_
        exact g
      · intro X rest g
        refine G.nilCheck rfl rfl rfl rfl ?_
        exact g
      · intro X rest g
        refine G.field (off' := 0) rfl rfl rfl rfl Try.underlying53 rfl sz3 rfl rfl ?_
        exact g
      · intro X rest g
        refine G.loadI (y := a0.from_) rfl rfl rfl rfl ty3 (fun w hs => Rd.bk (R_free_Map.L_from_ _) hs (j := 0) rfl) ?_
        exact g
      · intro X rest g
        refine G.cmp (a1 < a0.from_) rfl rfl rfl rfl rfl rfl Iff.rfl ?_
        exact g
      · intro X rest g
        refine G.move rfl rfl rfl rfl ?_
        refine G.same (d := 13) (v := .bool true) rfl (by simp [k3]) ?_
        refine G.shadow ?_
        exact g
      · intro X rest g
        refine G.unwanted rfl rfl rfl rfl ?_
        exact g
      · intro X rest g
        refine G.unwanted rfl rfl rfl rfl ?_
        exact g
      · intro X rest g
        refine G.unwanted rfl rfl rfl rfl ?_
        exact g
      · intro X rest g
        refine G.unwanted rfl rfl rfl rfl ?_
        exact g
      · intro X rest g
        refine G.unwanted rfl rfl rfl rfl ?_
        exact g
      · intro X rest g
        refine G.unwanted rfl rfl rfl rfl ?_
        exact g
      · intro X rest g
        refine G.unwanted rfl rfl rfl rfl ?_
        exact g
      · intro X rest g
        refine G.unwanted rfl rfl rfl rfl ?_
        exact g
      · intro X rest g
        refine G.unwanted rfl rfl rfl rfl ?_
        exact g
      · intro X rest g
        refine G.unwanted rfl rfl rfl rfl ?_
        exact g
      · intro X rest g
        refine G.unwanted rfl rfl rfl rfl ?_
        exact g
      · intro X rest g
        refine G.unwanted rfl rfl rfl rfl ?_
        exact g
      · intro X rest g
        refine G.pickT rfl rfl rfl rfl rfl ?_
        exact g
      · intro X rest g
        refine G.move rfl rfl rfl rfl ?_
        exact g
      · intro X rest g
        refine G.unwanted rfl rfl rfl rfl ?_
        exact g
      · intro X rest g
        refine G.unwanted rfl rfl rfl rfl ?_
        exact g
      · intro X rest g
        refine G.unwanted rfl rfl rfl rfl ?_
        exact g
      · intro X rest g
        refine G.unwanted rfl rfl rfl rfl ?_
        exact g
      · intro X rest g
        refine G.unwanted rfl rfl rfl rfl ?_
        exact g
      · intro X rest g
        refine G.unwanted rfl rfl rfl rfl ?_
        exact g
      · intro X rest g
        refine G.unwanted rfl rfl rfl rfl ?_
        exact g
      · intro X rest g
        refine G.unwanted rfl rfl rfl rfl ?_
        exact g
      · intro X rest g
        refine G.unwanted rfl rfl rfl rfl ?_
        exact g
      · intro X rest g
        refine G.unwanted rfl rfl rfl rfl ?_
        exact g
      · intro X rest g
        refine G.unwanted rfl rfl rfl rfl ?_
        exact g
      · intro X rest g
        refine G.unwanted rfl rfl rfl rfl ?_
        exact g
      · intro X rest g
        refine G.unwanted rfl rfl rfl rfl ?_
        exact g
      · intro X rest g
        refine G.pickT rfl rfl rfl rfl rfl ?_
        exact g
      · intro A L hlen hp h0
        refine G.lessSub (B := [(0, .pointer (some ⟨g0, 0, none⟩)), (1, .int .i64 a1), (2, u8V a2), (41, .bool true)]) (hp.fin hlen h0 (src := [.base 0, .base 1, .base 2, .op 34]) rfl) ?_
        refine G.regionEnd ?_
        refine G.condT rfl ?_
        refine G.seq ?_
        refine G.region (l := [0]) rfl ?_
        refine G.assign rfl rfl rfl rfl ?_
        refine G.regionEnd ?_
        refine G.frontAt 1 rfl ?_
        refine G.frontAt 1 rfl ?_
        obtain rfl := Option.some.inj h
        exact G.ret1 Try.func26 rfl rfl (fun w hs => ⟨_, _, rfl, ⟨rfl, rfl⟩, hs⟩)
    intro l hl
    exact P13 35 (List.replicate 35 false) _ l rfl (Reg.Phi.init 35 ⟨rfl, rfl, rfl, trivial⟩) (left_rep 35) hl
  · replace h := ifF h k3
    refine byP (p := (a0.kinds.length : Int) ≤ (wi64 (a1 - a0.from_))) (fun k14 => ?_) (fun k14 => ?_)
    · replace h := ifT h k14
      refine G.draw [[], [], [1], [2], [3], [0, 4], [5], [6], [6], [8, 6], [9, 6], [10, 6], [7, 11, 6], [6], [13, 6], [14, 6], [15, 6], [16, 6], [12, 17, 6], [6, 18], [19, 6], [20], [21, 20], [22, 20], [23, 20], [20], [20], [26, 20], [27, 20], [28, 20], [25, 29, 20], [24, 30, 20], [31, 20], [32, 20], [20, 33]] 35 [0, 1, 2, 3, 4, 5, 6, 7, 8, 9, 10, 11, 12, 13, 14, 15, 16, 17, 18, 19, 20, 21, 22, 23, 24, 25, 26, 27, 28, 29, 30, 31, 32, 33, 34] [0, 0, 1, 2, 3, 4, 5, 6, 6, 7, 8, 9, 10, 6, 7, 8, 9, 10, 11, 12, 13, 14, 15, 16, 17, 14, 14, 15, 16, 17, 18, 19, 20, 21, 22] [0, 0, 1, 2, 3, 4, 5, 6, 6, 7, 8, 9, 10, 6, 7, 8, 9, 10, 11, 12, 13, 14, 15, 16, 17, 14, 14, 15, 16, 17, 18, 19, 20, 21, 22] rfl (by kernel_rfl) (by kernel_rfl) (by kernel_rfl) (by kernel_rfl) ?_
      intro C17 ops18 k19
      let R20 : Reg := free_Map_turn.reg26_1 [(0, .pointer (some ⟨g0, 0, none⟩)), (1, .int .i64 a1), (2, u8V a2)]
      have P21 : ∀ (m : Nat) (L : List Bool) (A : List (Nat × Value)) (l : List Nat), L.length = R20.ds.length → R20.Phi [some (.int .i64 a1), some (.pointer (some ⟨g0, 0, none⟩)), some (.pointer (some ⟨g0, 0, none⟩)), some (.pointer (some ⟨g0, 0, none⟩)), some (.int .i64 a0.from_), some (.bool (decide (a1 < a0.from_))), some (.bool false), some (.int .i64 a1), some (.pointer (some ⟨g0, 0, none⟩)), some (.pointer (some ⟨g0, 0, none⟩)), some (.pointer (some ⟨g0, 0, none⟩)), some (.int .i64 a0.from_), some (.int .i64 (wi64 (a1 - a0.from_))), some (.pointer (some ⟨g0, 0, none⟩)), some (.pointer (some ⟨g0, 0, none⟩)), some (.pointer (some ⟨g0, 1, none⟩)), some (.slice A0 a0.kinds.length n0), some (.int .i64 (a0.kinds.length : Int)), some (.bool (decide ((a0.kinds.length : Int) ≤ (wi64 (a1 - a0.from_))))), some (.bool (decide ((a0.kinds.length : Int) ≤ (wi64 (a1 - a0.from_))))), some (.bool true), some (undef), some (undef), some (undef), some (undef), some (undef), some (undef), some (undef), some (undef), some (undef), some (undef), some (undef), some (undef), some (undef), some (.bool true)] [] [] L A → left L = m → Ord R20.ds m L l → G C17 H A (BK 53 K_R_free_Map g0 (R_free_Map.mk a0.from_ (A0, a0.kinds.length, n0)) :: OS 54 Kd.u8 A0 n0 a0.kinds :: Fr) (.inRegion ops18 l :: k19) := by
        refine G.phase R20 [some (.int .i64 a1), some (.pointer (some ⟨g0, 0, none⟩)), some (.pointer (some ⟨g0, 0, none⟩)), some (.pointer (some ⟨g0, 0, none⟩)), some (.int .i64 a0.from_), some (.bool (decide (a1 < a0.from_))), some (.bool false), some (.int .i64 a1), some (.pointer (some ⟨g0, 0, none⟩)), some (.pointer (some ⟨g0, 0, none⟩)), some (.pointer (some ⟨g0, 0, none⟩)), some (.int .i64 a0.from_), some (.int .i64 (wi64 (a1 - a0.from_))), some (.pointer (some ⟨g0, 0, none⟩)), some (.pointer (some ⟨g0, 0, none⟩)), some (.pointer (some ⟨g0, 1, none⟩)), some (.slice A0 a0.kinds.length n0), some (.int .i64 (a0.kinds.length : Int)), some (.bool (decide ((a0.kinds.length : Int) ≤ (wi64 (a1 - a0.from_))))), some (.bool (decide ((a0.kinds.length : Int) ≤ (wi64 (a1 - a0.from_))))), some (.bool true), some (undef), some (undef), some (undef), some (undef), some (undef), some (undef), some (undef), some (undef), some (undef), some (undef), some (undef), some (undef), some (undef), some (.bool true)] [0, 1, 2, 3, 4, 5, 6, 7, 8, 9, 10, 11, 12, 13, 14, 15, 16, 17, 18, 19, 20, 21, 22, 23, 24, 25, 26, 27, 28, 29, 30, 31, 32, 33, 34] [] [] [] (free_Map_turn.reg26_1_ap _) rfl rfl ⟨⟨[.base 1], 7, .int .i64 a1, [(1, .int .i64 a1)], ⟨rfl, rfl, rfl, rfl, ?_⟩⟩, ⟨⟨[.base 0], 8, .pointer (some ⟨g0, 0, none⟩), [(0, .pointer (some ⟨g0, 0, none⟩))], ⟨rfl, rfl, rfl, rfl, ?_⟩⟩, ⟨⟨[.op 1], 9, .pointer (some ⟨g0, 0, none⟩), [(8, .pointer (some ⟨g0, 0, none⟩))], ⟨rfl, rfl, rfl, rfl, ?_⟩⟩, ⟨⟨[.op 2], 10, .pointer (some ⟨g0, 0, none⟩), [(9, .pointer (some ⟨g0, 0, none⟩))], ⟨rfl, rfl, rfl, rfl, ?_⟩⟩, ⟨⟨[.op 3], 11, .int .i64 a0.from_, [(10, .pointer (some ⟨g0, 0, none⟩))], ⟨rfl, rfl, rfl, rfl, ?_⟩⟩, ⟨⟨[.op 0, .op 4], 12, .bool (decide (a1 < a0.from_)), [(7, .int .i64 a1), (11, .int .i64 a0.from_)], ⟨rfl, rfl, rfl, rfl, ?_⟩⟩, ⟨⟨[.op 5], 13, .bool false, [(12, .bool (decide (a1 < a0.from_)))], ⟨rfl, rfl, rfl, rfl, ?_⟩⟩, ⟨⟨[.base 1, .op 6], 14, .int .i64 a1, [(1, .int .i64 a1), (13, .bool false)], ⟨rfl, rfl, rfl, rfl, ?_⟩⟩, ⟨⟨[.base 0, .op 6], 15, .pointer (some ⟨g0, 0, none⟩), [(0, .pointer (some ⟨g0, 0, none⟩)), (13, .bool false)], ⟨rfl, rfl, rfl, rfl, ?_⟩⟩, ⟨⟨[.op 6, .op 8], 16, .pointer (some ⟨g0, 0, none⟩), [(13, .bool false), (15, .pointer (some ⟨g0, 0, none⟩))], ⟨rfl, rfl, rfl, rfl, ?_⟩⟩, ⟨⟨[.op 6, .op 9], 17, .pointer (some ⟨g0, 0, none⟩), [(13, .bool false), (16, .pointer (some ⟨g0, 0, none⟩))], ⟨rfl, rfl, rfl, rfl, ?_⟩⟩, ⟨⟨[.op 6, .op 10], 18, .int .i64 a0.from_, [(13, .bool false), (17, .pointer (some ⟨g0, 0, none⟩))], ⟨rfl, rfl, rfl, rfl, ?_⟩⟩, ⟨⟨[.op 6, .op 7, .op 11], 19, .int .i64 (wi64 (a1 - a0.from_)), [(13, .bool false), (14, .int .i64 a1), (18, .int .i64 a0.from_)], ⟨rfl, rfl, rfl, rfl, ?_⟩⟩, ⟨⟨[.base 0, .op 6], 20, .pointer (some ⟨g0, 0, none⟩), [(0, .pointer (some ⟨g0, 0, none⟩)), (13, .bool false)], ⟨rfl, rfl, rfl, rfl, ?_⟩⟩, ⟨⟨[.op 6, .op 13], 21, .pointer (some ⟨g0, 0, none⟩), [(13, .bool false), (20, .pointer (some ⟨g0, 0, none⟩))], ⟨rfl, rfl, rfl, rfl, ?_⟩⟩, ⟨⟨[.op 6, .op 14], 22, .pointer (some ⟨g0, 1, none⟩), [(13, .bool false), (21, .pointer (some ⟨g0, 0, none⟩))], ⟨rfl, rfl, rfl, rfl, ?_⟩⟩, ⟨⟨[.op 6, .op 15], 23, .slice A0 a0.kinds.length n0, [(13, .bool false), (22, .pointer (some ⟨g0, 1, none⟩))], ⟨rfl, rfl, rfl, rfl, ?_⟩⟩, ⟨⟨[.op 6, .op 16], 24, .int .i64 (a0.kinds.length : Int), [(13, .bool false), (23, .slice A0 a0.kinds.length n0)], ⟨rfl, rfl, rfl, rfl, ?_⟩⟩, ⟨⟨[.op 6, .op 12, .op 17], 25, .bool (decide ((a0.kinds.length : Int) ≤ (wi64 (a1 - a0.from_)))), [(13, .bool false), (19, .int .i64 (wi64 (a1 - a0.from_))), (24, .int .i64 (a0.kinds.length : Int))], ⟨rfl, rfl, rfl, rfl, ?_⟩⟩, ⟨⟨[.op 6, .op 18], 26, .bool (decide ((a0.kinds.length : Int) ≤ (wi64 (a1 - a0.from_)))), [(13, .bool false), (25, .bool (decide ((a0.kinds.length : Int) ≤ (wi64 (a1 - a0.from_)))))], ⟨rfl, rfl, rfl, rfl, ?_⟩⟩, ⟨⟨[.op 19], 27, .bool true, [(26, .bool (decide ((a0.kinds.length : Int) ≤ (wi64 (a1 - a0.from_)))))], ⟨rfl, rfl, rfl, rfl, ?_⟩⟩, ⟨⟨[.base 0, .op 20], 28, undef, [(0, .pointer (some ⟨g0, 0, none⟩)), (27, .bool true)], ⟨rfl, rfl, rfl, rfl, ?_⟩⟩, ⟨⟨[.op 20, .op 21], 29, undef, [(27, .bool true), (28, undef)], ⟨rfl, rfl, rfl, rfl, ?_⟩⟩, ⟨⟨[.op 20, .op 22], 30, undef, [(27, .bool true), (29, undef)], ⟨rfl, rfl, rfl, rfl, ?_⟩⟩, ⟨⟨[.op 20, .op 23], 31, undef, [(27, .bool true), (30, undef)], ⟨rfl, rfl, rfl, rfl, ?_⟩⟩, ⟨⟨[.base 1, .op 20], 32, undef, [(1, .int .i64 a1), (27, .bool true)], ⟨rfl, rfl, rfl, rfl, ?_⟩⟩, ⟨⟨[.base 0, .op 20], 33, undef, [(0, .pointer (some ⟨g0, 0, none⟩)), (27, .bool true)], ⟨rfl, rfl, rfl, rfl, ?_⟩⟩, ⟨⟨[.op 20, .op 26], 34, undef, [(27, .bool true), (33, undef)], ⟨rfl, rfl, rfl, rfl, ?_⟩⟩, ⟨⟨[.op 20, .op 27], 35, undef, [(27, .bool true), (34, undef)], ⟨rfl, rfl, rfl, rfl, ?_⟩⟩, ⟨⟨[.op 20, .op 28], 36, undef, [(27, .bool true), (35, undef)], ⟨rfl, rfl, rfl, rfl, ?_⟩⟩, ⟨⟨[.op 20, .op 25, .op 29], 37, undef, [(27, .bool true), (32, undef), (36, undef)], ⟨rfl, rfl, rfl, rfl, ?_⟩⟩, ⟨⟨[.op 20, .op 24, .op 30], 38, undef, [(27, .bool true), (31, undef), (37, undef)], ⟨rfl, rfl, rfl, rfl, ?_⟩⟩, ⟨⟨[.op 20, .op 31], 39, undef, [(27, .bool true), (38, undef)], ⟨rfl, rfl, rfl, rfl, ?_⟩⟩, ⟨⟨[.op 20, .op 32], 40, undef, [(27, .bool true), (39, undef)], ⟨rfl, rfl, rfl, rfl, ?_⟩⟩, ⟨⟨[.op 20, .op 33], 41, .bool true, [(27, .bool true), (40, undef)], ⟨rfl, rfl, rfl, rfl, ?_⟩⟩, trivial⟩⟩⟩⟩⟩⟩⟩⟩⟩⟩⟩⟩⟩⟩⟩⟩⟩⟩⟩⟩⟩⟩⟩⟩⟩⟩⟩⟩⟩⟩⟩⟩⟩⟩⟩ trivial ?_
        · intro X rest g
          refine G.move rfl rfl rfl rfl ?_
          exact g
        · intro X rest g
          refine G.move rfl rfl rfl rfl ?_
          exact g
        · intro X rest g
          refine G.nilCheck rfl rfl rfl rfl ?_
          exact g
        · intro X rest g
          refine G.field (off' := 0) rfl rfl rfl rfl Try.underlying53 rfl sz3 rfl rfl ?_
          exact g
        · intro X rest g
          refine G.loadI (y := a0.from_) rfl rfl rfl rfl ty3 (fun w hs => Rd.bk (R_free_Map.L_from_ _) hs (j := 0) rfl) ?_
          exact g
        · intro X rest g
          refine G.cmp (a1 < a0.from_) rfl rfl rfl rfl rfl rfl Iff.rfl ?_
          exact g
        · intro X rest g
          refine G.move rfl rfl rfl rfl ?_
          refine G.same (d := 13) (v := .bool false) rfl (by simp [k3]) ?_
          refine G.shadow ?_
          exact g
        · intro X rest g
          refine G.move rfl rfl rfl rfl ?_
          exact g
        · intro X rest g
          refine G.move rfl rfl rfl rfl ?_
          exact g
        · intro X rest g
          refine G.nilCheck rfl rfl rfl rfl ?_
          exact g
        · intro X rest g
          refine G.field (off' := 0) rfl rfl rfl rfl Try.underlying53 rfl sz3 rfl rfl ?_
          exact g
        · intro X rest g
          refine G.loadI (y := a0.from_) rfl rfl rfl rfl ty3 (fun w hs => Rd.bk (R_free_Map.L_from_ _) hs (j := 0) rfl) ?_
          exact g
        · intro X rest g
          refine G.bin (m := a1) (n := a0.from_) (r := wi64 (a1 - a0.from_)) rfl rfl rfl rfl rfl rfl rfl ?_
          exact g
        · intro X rest g
          refine G.move rfl rfl rfl rfl ?_
          exact g
        · intro X rest g
          refine G.nilCheck rfl rfl rfl rfl ?_
          exact g
        · intro X rest g
          refine G.field (off' := 1) rfl rfl rfl rfl Try.underlying53 rfl sz51 rfl rfl ?_
          exact g
        · intro X rest g
          refine G.loadH (B := A0) (m := a0.kinds.length) (c := n0) rfl rfl rfl rfl ty51r (fun w hs => Rd.bk (R_free_Map.L_kinds _) hs (j := 0) rfl) ?_
          exact g
        · intro X rest g
          refine G.len (m := a0.kinds.length) rfl rfl rfl rfl Try.underlying51 ?_
          exact g
        · intro X rest g
          refine G.cmp ((a0.kinds.length : Int) ≤ (wi64 (a1 - a0.from_))) rfl rfl rfl rfl rfl rfl Iff.rfl ?_
          exact g
        · intro X rest g
          refine G.pickF rfl rfl rfl rfl rfl ?_
          exact g
        · intro X rest g
          refine G.move rfl rfl rfl rfl ?_
          refine G.same (d := 27) (v := .bool true) rfl (by simp [k14]) ?_
          refine G.shadow ?_
          exact g
        · intro X rest g
          refine G.unwanted rfl rfl rfl rfl ?_
          exact g
        · intro X rest g
          refine G.unwanted rfl rfl rfl rfl ?_
          exact g
        · intro X rest g
          refine G.unwanted rfl rfl rfl rfl ?_
          exact g
        · intro X rest g
          refine G.unwanted rfl rfl rfl rfl ?_
          exact g
        · intro X rest g
          refine G.unwanted rfl rfl rfl rfl ?_
          exact g
        · intro X rest g
          refine G.unwanted rfl rfl rfl rfl ?_
          exact g
        · intro X rest g
          refine G.unwanted rfl rfl rfl rfl ?_
          exact g
        · intro X rest g
          refine G.unwanted rfl rfl rfl rfl ?_
          exact g
        · intro X rest g
          refine G.unwanted rfl rfl rfl rfl ?_
          exact g
        · intro X rest g
          refine G.unwanted rfl rfl rfl rfl ?_
          exact g
        · intro X rest g
          refine G.unwanted rfl rfl rfl rfl ?_
          exact g
        · intro X rest g
          refine G.unwanted rfl rfl rfl rfl ?_
          exact g
        · intro X rest g
          refine G.unwanted rfl rfl rfl rfl ?_
          exact g
        · intro X rest g
          refine G.pickT rfl rfl rfl rfl rfl ?_
          exact g
        · intro A L hlen hp h0
          refine G.lessSub (B := [(0, .pointer (some ⟨g0, 0, none⟩)), (1, .int .i64 a1), (2, u8V a2), (41, .bool true)]) (hp.fin hlen h0 (src := [.base 0, .base 1, .base 2, .op 34]) rfl) ?_
          refine G.regionEnd ?_
          refine G.condT rfl ?_
          refine G.seq ?_
          refine G.region (l := [0]) rfl ?_
          refine G.assign rfl rfl rfl rfl ?_
          refine G.regionEnd ?_
          refine G.frontAt 1 rfl ?_
          refine G.frontAt 1 rfl ?_
          obtain rfl := Option.some.inj h
          exact G.ret1 Try.func26 rfl rfl (fun w hs => ⟨_, _, rfl, ⟨rfl, rfl⟩, hs⟩)
      intro l hl
      exact P21 35 (List.replicate 35 false) _ l rfl (Reg.Phi.init 35 ⟨rfl, rfl, rfl, trivial⟩) (left_rep 35) hl
    · replace h := ifF h k14
      obtain ⟨k23, h⟩ := guardS h
      have q22 : (wi64 (a1 - a0.from_)).toNat < a0.kinds.length := by omega
      refine G.draw [[], [], [1], [2], [3], [0, 4], [5], [6], [6], [8, 6], [9, 6], [10, 6], [7, 11, 6], [6], [13, 6], [14, 6], [15, 6], [16, 6], [12, 17, 6], [6, 18], [19, 6], [20], [21, 20], [22, 20], [23, 20], [20], [20], [26, 20], [27, 20], [28, 20], [25, 29, 20], [24, 30, 20], [31, 20], [32, 20], [20, 33]] 35 [0, 1, 2, 3, 4, 5, 6, 7, 8, 9, 10, 11, 12, 13, 14, 15, 16, 17, 18, 19, 20, 21, 22, 23, 24, 25, 26, 27, 28, 29, 30, 31, 32, 33, 34] [0, 0, 1, 2, 3, 4, 5, 6, 6, 7, 8, 9, 10, 6, 7, 8, 9, 10, 11, 12, 13, 14, 15, 16, 17, 14, 14, 15, 16, 17, 18, 19, 20, 21, 22] [0, 0, 1, 2, 3, 4, 5, 6, 6, 7, 8, 9, 10, 6, 7, 8, 9, 10, 11, 12, 13, 14, 15, 16, 17, 14, 14, 15, 16, 17, 18, 19, 20, 21, 22] rfl (by kernel_rfl) (by kernel_rfl) (by kernel_rfl) (by kernel_rfl) ?_
      intro C33 ops34 k35
      let R36 : Reg := free_Map_turn.reg26_1 [(0, .pointer (some ⟨g0, 0, none⟩)), (1, .int .i64 a1), (2, u8V a2)]
      have P37 : ∀ (m : Nat) (L : List Bool) (A : List (Nat × Value)) (l : List Nat), L.length = R36.ds.length → R36.Phi [some (.int .i64 a1), some (.pointer (some ⟨g0, 0, none⟩)), some (.pointer (some ⟨g0, 0, none⟩)), some (.pointer (some ⟨g0, 0, none⟩)), some (.int .i64 a0.from_), some (.bool (decide (a1 < a0.from_))), some (.bool false), some (.int .i64 a1), some (.pointer (some ⟨g0, 0, none⟩)), some (.pointer (some ⟨g0, 0, none⟩)), some (.pointer (some ⟨g0, 0, none⟩)), some (.int .i64 a0.from_), some (.int .i64 (wi64 (a1 - a0.from_))), some (.pointer (some ⟨g0, 0, none⟩)), some (.pointer (some ⟨g0, 0, none⟩)), some (.pointer (some ⟨g0, 1, none⟩)), some (.slice A0 a0.kinds.length n0), some (.int .i64 (a0.kinds.length : Int)), some (.bool (decide ((a0.kinds.length : Int) ≤ (wi64 (a1 - a0.from_))))), some (.bool (decide ((a0.kinds.length : Int) ≤ (wi64 (a1 - a0.from_))))), some (.bool false), some (.pointer (some ⟨g0, 0, none⟩)), some (.pointer (some ⟨g0, 0, none⟩)), some (.pointer (some ⟨g0, 1, none⟩)), some (.slice A0 a0.kinds.length n0), some (.int .i64 a1), some (.pointer (some ⟨g0, 0, none⟩)), some (.pointer (some ⟨g0, 0, none⟩)), some (.pointer (some ⟨g0, 0, none⟩)), some (.int .i64 a0.from_), some (.int .i64 (wi64 (a1 - a0.from_))), some (.pointer (some (plc A0 ((wi64 (a1 - a0.from_)).toNat * 1)))), some (u8V (a0.kinds.getD ((wi64 (a1 - a0.from_)).toNat) 0)), some (.bool (decide ((a0.kinds.getD ((wi64 (a1 - a0.from_)).toNat) 0) ≠ 1))), some (.bool (decide ((a0.kinds.getD ((wi64 (a1 - a0.from_)).toNat) 0) ≠ 1)))] [] [] L A → left L = m → Ord R36.ds m L l → G C33 H A (BK 53 K_R_free_Map g0 (R_free_Map.mk a0.from_ (A0, a0.kinds.length, n0)) :: OS 54 Kd.u8 A0 n0 a0.kinds :: Fr) (.inRegion ops34 l :: k35) := by
        refine G.phase R36 [some (.int .i64 a1), some (.pointer (some ⟨g0, 0, none⟩)), some (.pointer (some ⟨g0, 0, none⟩)), some (.pointer (some ⟨g0, 0, none⟩)), some (.int .i64 a0.from_), some (.bool (decide (a1 < a0.from_))), some (.bool false), some (.int .i64 a1), some (.pointer (some ⟨g0, 0, none⟩)), some (.pointer (some ⟨g0, 0, none⟩)), some (.pointer (some ⟨g0, 0, none⟩)), some (.int .i64 a0.from_), some (.int .i64 (wi64 (a1 - a0.from_))), some (.pointer (some ⟨g0, 0, none⟩)), some (.pointer (some ⟨g0, 0, none⟩)), some (.pointer (some ⟨g0, 1, none⟩)), some (.slice A0 a0.kinds.length n0), some (.int .i64 (a0.kinds.length : Int)), some (.bool (decide ((a0.kinds.length : Int) ≤ (wi64 (a1 - a0.from_))))), some (.bool (decide ((a0.kinds.length : Int) ≤ (wi64 (a1 - a0.from_))))), some (.bool false), some (.pointer (some ⟨g0, 0, none⟩)), some (.pointer (some ⟨g0, 0, none⟩)), some (.pointer (some ⟨g0, 1, none⟩)), some (.slice A0 a0.kinds.length n0), some (.int .i64 a1), some (.pointer (some ⟨g0, 0, none⟩)), some (.pointer (some ⟨g0, 0, none⟩)), some (.pointer (some ⟨g0, 0, none⟩)), some (.int .i64 a0.from_), some (.int .i64 (wi64 (a1 - a0.from_))), some (.pointer (some (plc A0 ((wi64 (a1 - a0.from_)).toNat * 1)))), some (u8V (a0.kinds.getD ((wi64 (a1 - a0.from_)).toNat) 0)), some (.bool (decide ((a0.kinds.getD ((wi64 (a1 - a0.from_)).toNat) 0) ≠ 1))), some (.bool (decide ((a0.kinds.getD ((wi64 (a1 - a0.from_)).toNat) 0) ≠ 1)))] [0, 1, 2, 3, 4, 5, 6, 7, 8, 9, 10, 11, 12, 13, 14, 15, 16, 17, 18, 19, 20, 21, 22, 23, 24, 25, 26, 27, 28, 29, 30, 31, 32, 33, 34] [] [] [] (free_Map_turn.reg26_1_ap _) rfl rfl ⟨⟨[.base 1], 7, .int .i64 a1, [(1, .int .i64 a1)], ⟨rfl, rfl, rfl, rfl, ?_⟩⟩, ⟨⟨[.base 0], 8, .pointer (some ⟨g0, 0, none⟩), [(0, .pointer (some ⟨g0, 0, none⟩))], ⟨rfl, rfl, rfl, rfl, ?_⟩⟩, ⟨⟨[.op 1], 9, .pointer (some ⟨g0, 0, none⟩), [(8, .pointer (some ⟨g0, 0, none⟩))], ⟨rfl, rfl, rfl, rfl, ?_⟩⟩, ⟨⟨[.op 2], 10, .pointer (some ⟨g0, 0, none⟩), [(9, .pointer (some ⟨g0, 0, none⟩))], ⟨rfl, rfl, rfl, rfl, ?_⟩⟩, ⟨⟨[.op 3], 11, .int .i64 a0.from_, [(10, .pointer (some ⟨g0, 0, none⟩))], ⟨rfl, rfl, rfl, rfl, ?_⟩⟩, ⟨⟨[.op 0, .op 4], 12, .bool (decide (a1 < a0.from_)), [(7, .int .i64 a1), (11, .int .i64 a0.from_)], ⟨rfl, rfl, rfl, rfl, ?_⟩⟩, ⟨⟨[.op 5], 13, .bool false, [(12, .bool (decide (a1 < a0.from_)))], ⟨rfl, rfl, rfl, rfl, ?_⟩⟩, ⟨⟨[.base 1, .op 6], 14, .int .i64 a1, [(1, .int .i64 a1), (13, .bool false)], ⟨rfl, rfl, rfl, rfl, ?_⟩⟩, ⟨⟨[.base 0, .op 6], 15, .pointer (some ⟨g0, 0, none⟩), [(0, .pointer (some ⟨g0, 0, none⟩)), (13, .bool false)], ⟨rfl, rfl, rfl, rfl, ?_⟩⟩, ⟨⟨[.op 6, .op 8], 16, .pointer (some ⟨g0, 0, none⟩), [(13, .bool false), (15, .pointer (some ⟨g0, 0, none⟩))], ⟨rfl, rfl, rfl, rfl, ?_⟩⟩, ⟨⟨[.op 6, .op 9], 17, .pointer (some ⟨g0, 0, none⟩), [(13, .bool false), (16, .pointer (some ⟨g0, 0, none⟩))], ⟨rfl, rfl, rfl, rfl, ?_⟩⟩, ⟨⟨[.op 6, .op 10], 18, .int .i64 a0.from_, [(13, .bool false), (17, .pointer (some ⟨g0, 0, none⟩))], ⟨rfl, rfl, rfl, rfl, ?_⟩⟩, ⟨⟨[.op 6, .op 7, .op 11], 19, .int .i64 (wi64 (a1 - a0.from_)), [(13, .bool false), (14, .int .i64 a1), (18, .int .i64 a0.from_)], ⟨rfl, rfl, rfl, rfl, ?_⟩⟩, ⟨⟨[.base 0, .op 6], 20, .pointer (some ⟨g0, 0, none⟩), [(0, .pointer (some ⟨g0, 0, none⟩)), (13, .bool false)], ⟨rfl, rfl, rfl, rfl, ?_⟩⟩, ⟨⟨[.op 6, .op 13], 21, .pointer (some ⟨g0, 0, none⟩), [(13, .bool false), (20, .pointer (some ⟨g0, 0, none⟩))], ⟨rfl, rfl, rfl, rfl, ?_⟩⟩, ⟨⟨[.op 6, .op 14], 22, .pointer (some ⟨g0, 1, none⟩), [(13, .bool false), (21, .pointer (some ⟨g0, 0, none⟩))], ⟨rfl, rfl, rfl, rfl, ?_⟩⟩, ⟨⟨[.op 6, .op 15], 23, .slice A0 a0.kinds.length n0, [(13, .bool false), (22, .pointer (some ⟨g0, 1, none⟩))], ⟨rfl, rfl, rfl, rfl, ?_⟩⟩, ⟨⟨[.op 6, .op 16], 24, .int .i64 (a0.kinds.length : Int), [(13, .bool false), (23, .slice A0 a0.kinds.length n0)], ⟨rfl, rfl, rfl, rfl, ?_⟩⟩, ⟨⟨[.op 6, .op 12, .op 17], 25, .bool (decide ((a0.kinds.length : Int) ≤ (wi64 (a1 - a0.from_)))), [(13, .bool false), (19, .int .i64 (wi64 (a1 - a0.from_))), (24, .int .i64 (a0.kinds.length : Int))], ⟨rfl, rfl, rfl, rfl, ?_⟩⟩, ⟨⟨[.op 6, .op 18], 26, .bool (decide ((a0.kinds.length : Int) ≤ (wi64 (a1 - a0.from_)))), [(13, .bool false), (25, .bool (decide ((a0.kinds.length : Int) ≤ (wi64 (a1 - a0.from_)))))], ⟨rfl, rfl, rfl, rfl, ?_⟩⟩, ⟨⟨[.op 19], 27, .bool false, [(26, .bool (decide ((a0.kinds.length : Int) ≤ (wi64 (a1 - a0.from_)))))], ⟨rfl, rfl, rfl, rfl, ?_⟩⟩, ⟨⟨[.base 0, .op 20], 28, .pointer (some ⟨g0, 0, none⟩), [(0, .pointer (some ⟨g0, 0, none⟩)), (27, .bool false)], ⟨rfl, rfl, rfl, rfl, ?_⟩⟩, ⟨⟨[.op 20, .op 21], 29, .pointer (some ⟨g0, 0, none⟩), [(27, .bool false), (28, .pointer (some ⟨g0, 0, none⟩))], ⟨rfl, rfl, rfl, rfl, ?_⟩⟩, ⟨⟨[.op 20, .op 22], 30, .pointer (some ⟨g0, 1, none⟩), [(27, .bool false), (29, .pointer (some ⟨g0, 0, none⟩))], ⟨rfl, rfl, rfl, rfl, ?_⟩⟩, ⟨⟨[.op 20, .op 23], 31, .slice A0 a0.kinds.length n0, [(27, .bool false), (30, .pointer (some ⟨g0, 1, none⟩))], ⟨rfl, rfl, rfl, rfl, ?_⟩⟩, ⟨⟨[.base 1, .op 20], 32, .int .i64 a1, [(1, .int .i64 a1), (27, .bool false)], ⟨rfl, rfl, rfl, rfl, ?_⟩⟩, ⟨⟨[.base 0, .op 20], 33, .pointer (some ⟨g0, 0, none⟩), [(0, .pointer (some ⟨g0, 0, none⟩)), (27, .bool false)], ⟨rfl, rfl, rfl, rfl, ?_⟩⟩, ⟨⟨[.op 20, .op 26], 34, .pointer (some ⟨g0, 0, none⟩), [(27, .bool false), (33, .pointer (some ⟨g0, 0, none⟩))], ⟨rfl, rfl, rfl, rfl, ?_⟩⟩, ⟨⟨[.op 20, .op 27], 35, .pointer (some ⟨g0, 0, none⟩), [(27, .bool false), (34, .pointer (some ⟨g0, 0, none⟩))], ⟨rfl, rfl, rfl, rfl, ?_⟩⟩, ⟨⟨[.op 20, .op 28], 36, .int .i64 a0.from_, [(27, .bool false), (35, .pointer (some ⟨g0, 0, none⟩))], ⟨rfl, rfl, rfl, rfl, ?_⟩⟩, ⟨⟨[.op 20, .op 25, .op 29], 37, .int .i64 (wi64 (a1 - a0.from_)), [(27, .bool false), (32, .int .i64 a1), (36, .int .i64 a0.from_)], ⟨rfl, rfl, rfl, rfl, ?_⟩⟩, ⟨⟨[.op 20, .op 24, .op 30], 38, .pointer (some (plc A0 ((wi64 (a1 - a0.from_)).toNat * 1))), [(27, .bool false), (31, .slice A0 a0.kinds.length n0), (37, .int .i64 (wi64 (a1 - a0.from_)))], ⟨rfl, rfl, rfl, rfl, ?_⟩⟩, ⟨⟨[.op 20, .op 31], 39, u8V (a0.kinds.getD ((wi64 (a1 - a0.from_)).toNat) 0), [(27, .bool false), (38, .pointer (some (plc A0 ((wi64 (a1 - a0.from_)).toNat * 1))))], ⟨rfl, rfl, rfl, rfl, ?_⟩⟩, ⟨⟨[.op 20, .op 32], 40, .bool (decide ((a0.kinds.getD ((wi64 (a1 - a0.from_)).toNat) 0) ≠ 1)), [(27, .bool false), (39, u8V (a0.kinds.getD ((wi64 (a1 - a0.from_)).toNat) 0))], ⟨rfl, rfl, rfl, rfl, ?_⟩⟩, ⟨⟨[.op 20, .op 33], 41, .bool (decide ((a0.kinds.getD ((wi64 (a1 - a0.from_)).toNat) 0) ≠ 1)), [(27, .bool false), (40, .bool (decide ((a0.kinds.getD ((wi64 (a1 - a0.from_)).toNat) 0) ≠ 1)))], ⟨rfl, rfl, rfl, rfl, ?_⟩⟩, trivial⟩⟩⟩⟩⟩⟩⟩⟩⟩⟩⟩⟩⟩⟩⟩⟩⟩⟩⟩⟩⟩⟩⟩⟩⟩⟩⟩⟩⟩⟩⟩⟩⟩⟩⟩ trivial ?_
        · intro X rest g
          refine G.move rfl rfl rfl rfl ?_
          exact g
        · intro X rest g
          refine G.move rfl rfl rfl rfl ?_
          exact g
        · intro X rest g
          refine G.nilCheck rfl rfl rfl rfl ?_
          exact g
        · intro X rest g
          refine G.field (off' := 0) rfl rfl rfl rfl Try.underlying53 rfl sz3 rfl rfl ?_
          exact g
        · intro X rest g
          refine G.loadI (y := a0.from_) rfl rfl rfl rfl ty3 (fun w hs => Rd.bk (R_free_Map.L_from_ _) hs (j := 0) rfl) ?_
          exact g
        · intro X rest g
          refine G.cmp (a1 < a0.from_) rfl rfl rfl rfl rfl rfl Iff.rfl ?_
          exact g
        · intro X rest g
          refine G.move rfl rfl rfl rfl ?_
          refine G.same (d := 13) (v := .bool false) rfl (by simp [k3]) ?_
          refine G.shadow ?_
          exact g
        · intro X rest g
          refine G.move rfl rfl rfl rfl ?_
          exact g
        · intro X rest g
          refine G.move rfl rfl rfl rfl ?_
          exact g
        · intro X rest g
          refine G.nilCheck rfl rfl rfl rfl ?_
          exact g
        · intro X rest g
          refine G.field (off' := 0) rfl rfl rfl rfl Try.underlying53 rfl sz3 rfl rfl ?_
          exact g
        · intro X rest g
          refine G.loadI (y := a0.from_) rfl rfl rfl rfl ty3 (fun w hs => Rd.bk (R_free_Map.L_from_ _) hs (j := 0) rfl) ?_
          exact g
        · intro X rest g
          refine G.bin (m := a1) (n := a0.from_) (r := wi64 (a1 - a0.from_)) rfl rfl rfl rfl rfl rfl rfl ?_
          exact g
        · intro X rest g
          refine G.move rfl rfl rfl rfl ?_
          exact g
        · intro X rest g
          refine G.nilCheck rfl rfl rfl rfl ?_
          exact g
        · intro X rest g
          refine G.field (off' := 1) rfl rfl rfl rfl Try.underlying53 rfl sz51 rfl rfl ?_
          exact g
        · intro X rest g
          refine G.loadH (B := A0) (m := a0.kinds.length) (c := n0) rfl rfl rfl rfl ty51r (fun w hs => Rd.bk (R_free_Map.L_kinds _) hs (j := 0) rfl) ?_
          exact g
        · intro X rest g
          refine G.len (m := a0.kinds.length) rfl rfl rfl rfl Try.underlying51 ?_
          exact g
        · intro X rest g
          refine G.cmp ((a0.kinds.length : Int) ≤ (wi64 (a1 - a0.from_))) rfl rfl rfl rfl rfl rfl Iff.rfl ?_
          exact g
        · intro X rest g
          refine G.pickF rfl rfl rfl rfl rfl ?_
          exact g
        · intro X rest g
          refine G.move rfl rfl rfl rfl ?_
          refine G.same (d := 27) (v := .bool false) rfl (by simp [k14]) ?_
          refine G.shadow ?_
          exact g
        · intro X rest g
          refine G.move rfl rfl rfl rfl ?_
          exact g
        · intro X rest g
          refine G.nilCheck rfl rfl rfl rfl ?_
          exact g
        · intro X rest g
          refine G.field (off' := 1) rfl rfl rfl rfl Try.underlying53 rfl sz51 rfl rfl ?_
          exact g
        · intro X rest g
          refine G.loadH (B := A0) (m := a0.kinds.length) (c := n0) rfl rfl rfl rfl ty51r (fun w hs => Rd.bk (R_free_Map.L_kinds _) hs (j := 0) rfl) ?_
          exact g
        · intro X rest g
          refine G.move rfl rfl rfl rfl ?_
          exact g
        · intro X rest g
          refine G.move rfl rfl rfl rfl ?_
          exact g
        · intro X rest g
          refine G.nilCheck rfl rfl rfl rfl ?_
          exact g
        · intro X rest g
          refine G.field (off' := 0) rfl rfl rfl rfl Try.underlying53 rfl sz3 rfl rfl ?_
          exact g
        · intro X rest g
          refine G.loadI (y := a0.from_) rfl rfl rfl rfl ty3 (fun w hs => Rd.bk (R_free_Map.L_from_ _) hs (j := 0) rfl) ?_
          exact g
        · intro X rest g
          refine G.bin (m := a1) (n := a0.from_) (r := wi64 (a1 - a0.from_)) rfl rfl rfl rfl rfl rfl rfl ?_
          exact g
        · intro X rest g
          refine G.indexO (xs := a0.kinds) (j := wi64 (a1 - a0.from_)) (off := (wi64 (a1 - a0.from_)).toNat * 1) rfl rfl rfl rfl rfl el51 (r := 1) rfl (by simp) k23 rfl ?_
          exact g
        · intro X rest g
          refine G.load8 (y := a0.kinds.getD ((wi64 (a1 - a0.from_)).toNat) 0) rfl rfl rfl rfl ty54 (fun w hs => Rd.osG q22 (Lens.id _ _) hs (j := 1) rfl (o := (wi64 (a1 - a0.from_)).toNat * 1) (by first | rfl | simp)) ?_
          exact g
        · intro X rest g
          refine G.cmp ((a0.kinds.getD ((wi64 (a1 - a0.from_)).toNat) 0) ≠ 1) rfl rfl rfl rfl rfl rfl (c8_neq (a0.kinds.getD ((wi64 (a1 - a0.from_)).toNat) 0) 1) ?_
          exact g
        · intro X rest g
          refine G.pickF rfl rfl rfl rfl rfl ?_
          exact g
        · intro A L hlen hp h0
          refine G.lessSub (B := [(0, .pointer (some ⟨g0, 0, none⟩)), (1, .int .i64 a1), (2, u8V a2), (41, .bool (decide ((a0.kinds.getD ((wi64 (a1 - a0.from_)).toNat) 0) ≠ 1)))]) (hp.fin hlen h0 (src := [.base 0, .base 1, .base 2, .op 34]) rfl) ?_
          refine G.regionEnd ?_
          refine G.condP rfl (fun k32 => ?_) (fun k32 => ?_)
          · replace h := ifT h k32
            refine G.seq ?_
            refine G.region (l := [0]) rfl ?_
            refine G.assign rfl rfl rfl rfl ?_
            refine G.regionEnd ?_
            refine G.frontAt 1 rfl ?_
            refine G.frontAt 1 rfl ?_
            obtain rfl := Option.some.inj h
            exact G.ret1 Try.func26 rfl rfl (fun w hs => ⟨_, _, rfl, ⟨rfl, rfl⟩, hs⟩)
          · replace h := ifF h k32
            refine G.skip ?_
            refine G.seq ?_
            obtain ⟨k25, h⟩ := guardS h
            have q24 : (wi64 (a1 - a0.from_)).toNat < a0.kinds.length := by omega
            refine G.draw [[], [0], [1], [2], [], [], [5], [6], [7], [4, 8], [], [3, 9, 0, 1, 2, 3, 4, 5, 6, 7, 8, 9, 10], [11, 10, 0, 1, 2, 3, 4, 5, 6, 7, 8, 9, 10]] 13 [0, 1, 2, 3, 4, 5, 6, 7, 8, 9, 10, 11, 12] [0, 1, 2, 3, 0, 0, 1, 2, 3, 4, 0, 5, 6] [0, 1, 2, 3, 0, 0, 1, 2, 3, 4, 0, 5, 6] rfl (by kernel_rfl) (by kernel_rfl) (by kernel_rfl) (by kernel_rfl) ?_
            intro C26 ops27 k28
            let R29 : Reg := free_Map_turn.reg26_3 [(0, .pointer (some ⟨g0, 0, none⟩)), (1, .int .i64 a1), (2, u8V a2)]
            have P31 : ∀ (m : Nat) (L : List Bool) (A : List (Nat × Value)) (l : List Nat), L.length = R29.ds.length → R29.Phi [some (.pointer (some ⟨g0, 0, none⟩)), some (.pointer (some ⟨g0, 0, none⟩)), some (.pointer (some ⟨g0, 1, none⟩)), some (.slice A0 a0.kinds.length n0), some (.int .i64 a1), some (.pointer (some ⟨g0, 0, none⟩)), some (.pointer (some ⟨g0, 0, none⟩)), some (.pointer (some ⟨g0, 0, none⟩)), some (.int .i64 a0.from_), some (.int .i64 (wi64 (a1 - a0.from_))), some (u8V a2), some (.pointer (some (plc A0 ((wi64 (a1 - a0.from_)).toNat * 1)))), none] [0, 1, 2, 3, 4, 5, 6, 7, 8, 9, 10, 11, 12] [] L A → left L = m → Ord R29.ds m L l → G C26 H A (OS 54 Kd.u8 A0 n0 (a0.kinds.set ((wi64 (a1 - a0.from_)).toNat) a2) :: BK 53 K_R_free_Map g0 (R_free_Map.mk a0.from_ (A0, a0.kinds.length, n0)) :: Fr) (.inRegion ops27 l :: k28) := by
              refine G.phase R29 [some (.pointer (some ⟨g0, 0, none⟩)), some (.pointer (some ⟨g0, 0, none⟩)), some (.pointer (some ⟨g0, 1, none⟩)), some (.slice A0 a0.kinds.length n0), some (.int .i64 a1), some (.pointer (some ⟨g0, 0, none⟩)), some (.pointer (some ⟨g0, 0, none⟩)), some (.pointer (some ⟨g0, 0, none⟩)), some (.int .i64 a0.from_), some (.int .i64 (wi64 (a1 - a0.from_))), some (u8V a2), some (.pointer (some (plc A0 ((wi64 (a1 - a0.from_)).toNat * 1)))), none] [] [] [0, 1, 2, 3, 4, 5, 6, 7, 8, 9, 10, 11, 12] [] (free_Map_turn.reg26_3_ap _) rfl rfl trivial trivial ?_
              · intro A L hlen hp h0
                refine G.lessSub (B := []) (hp.fin hlen h0 (src := []) rfl) ?_
                refine G.regionEnd ?_
                refine G.seq ?_
                refine G.region (l := [0]) rfl ?_
                refine G.assign rfl rfl rfl rfl ?_
                refine G.regionEnd ?_
                refine G.frontAt 1 rfl ?_
                refine G.headEq (r' := BK 53 K_R_free_Map g0 (R_free_Map.mk a0.from_ (A0, (a0.kinds.set ((wi64 (a1 - a0.from_)).toNat) a2).length, n0))) (by first | (simp; done) | (simp; omega)) ?_
                refine G.frontAt 1 rfl ?_
                refine G.frontAt 1 rfl ?_
                obtain rfl := Option.some.inj h
                exact G.ret1 Try.func26 rfl rfl (fun w hs => ⟨_, _, rfl, ⟨rfl, rfl⟩, hs⟩)
            have P30 : ∀ (m : Nat) (L : List Bool) (A : List (Nat × Value)) (l : List Nat), L.length = R29.ds.length → R29.Phi [some (.pointer (some ⟨g0, 0, none⟩)), some (.pointer (some ⟨g0, 0, none⟩)), some (.pointer (some ⟨g0, 1, none⟩)), some (.slice A0 a0.kinds.length n0), some (.int .i64 a1), some (.pointer (some ⟨g0, 0, none⟩)), some (.pointer (some ⟨g0, 0, none⟩)), some (.pointer (some ⟨g0, 0, none⟩)), some (.int .i64 a0.from_), some (.int .i64 (wi64 (a1 - a0.from_))), some (u8V a2), some (.pointer (some (plc A0 ((wi64 (a1 - a0.from_)).toNat * 1)))), none] [] [12] L A → left L = m → Ord R29.ds m L l → G C26 H A (BK 53 K_R_free_Map g0 (R_free_Map.mk a0.from_ (A0, a0.kinds.length, n0)) :: OS 54 Kd.u8 A0 n0 a0.kinds :: Fr) (.inRegion ops27 l :: k28) := by
              refine G.phase R29 [some (.pointer (some ⟨g0, 0, none⟩)), some (.pointer (some ⟨g0, 0, none⟩)), some (.pointer (some ⟨g0, 1, none⟩)), some (.slice A0 a0.kinds.length n0), some (.int .i64 a1), some (.pointer (some ⟨g0, 0, none⟩)), some (.pointer (some ⟨g0, 0, none⟩)), some (.pointer (some ⟨g0, 0, none⟩)), some (.int .i64 a0.from_), some (.int .i64 (wi64 (a1 - a0.from_))), some (u8V a2), some (.pointer (some (plc A0 ((wi64 (a1 - a0.from_)).toNat * 1)))), none] [0, 1, 2, 3, 4, 5, 6, 7, 8, 9, 10, 11] [12] [] [12] (free_Map_turn.reg26_3_ap _) rfl rfl ⟨⟨[.base 0], 42, .pointer (some ⟨g0, 0, none⟩), [(0, .pointer (some ⟨g0, 0, none⟩))], ⟨rfl, rfl, rfl, rfl, ?_⟩⟩, ⟨⟨[.op 0], 43, .pointer (some ⟨g0, 0, none⟩), [(42, .pointer (some ⟨g0, 0, none⟩))], ⟨rfl, rfl, rfl, rfl, ?_⟩⟩, ⟨⟨[.op 1], 44, .pointer (some ⟨g0, 1, none⟩), [(43, .pointer (some ⟨g0, 0, none⟩))], ⟨rfl, rfl, rfl, rfl, ?_⟩⟩, ⟨⟨[.op 2], 45, .slice A0 a0.kinds.length n0, [(44, .pointer (some ⟨g0, 1, none⟩))], ⟨rfl, rfl, rfl, rfl, ?_⟩⟩, ⟨⟨[.base 1], 46, .int .i64 a1, [(1, .int .i64 a1)], ⟨rfl, rfl, rfl, rfl, ?_⟩⟩, ⟨⟨[.base 0], 47, .pointer (some ⟨g0, 0, none⟩), [(0, .pointer (some ⟨g0, 0, none⟩))], ⟨rfl, rfl, rfl, rfl, ?_⟩⟩, ⟨⟨[.op 5], 48, .pointer (some ⟨g0, 0, none⟩), [(47, .pointer (some ⟨g0, 0, none⟩))], ⟨rfl, rfl, rfl, rfl, ?_⟩⟩, ⟨⟨[.op 6], 49, .pointer (some ⟨g0, 0, none⟩), [(48, .pointer (some ⟨g0, 0, none⟩))], ⟨rfl, rfl, rfl, rfl, ?_⟩⟩, ⟨⟨[.op 7], 50, .int .i64 a0.from_, [(49, .pointer (some ⟨g0, 0, none⟩))], ⟨rfl, rfl, rfl, rfl, ?_⟩⟩, ⟨⟨[.op 4, .op 8], 51, .int .i64 (wi64 (a1 - a0.from_)), [(46, .int .i64 a1), (50, .int .i64 a0.from_)], ⟨rfl, rfl, rfl, rfl, ?_⟩⟩, ⟨⟨[.base 2], 52, u8V a2, [(2, u8V a2)], ⟨rfl, rfl, rfl, rfl, ?_⟩⟩, ⟨⟨[.op 3, .op 9], 53, .pointer (some (plc A0 ((wi64 (a1 - a0.from_)).toNat * 1))), [(45, .slice A0 a0.kinds.length n0), (51, .int .i64 (wi64 (a1 - a0.from_)))], ⟨rfl, rfl, rfl, rfl, ?_⟩⟩, trivial⟩⟩⟩⟩⟩⟩⟩⟩⟩⟩⟩⟩ ⟨⟨[.op 10, .op 11], [(52, u8V a2), (53, .pointer (some (plc A0 ((wi64 (a1 - a0.from_)).toNat * 1))))], ⟨rfl, rfl, ?_⟩⟩, trivial⟩ ?_
              · intro X rest g
                refine G.move rfl rfl rfl rfl ?_
                exact g
              · intro X rest g
                refine G.nilCheck rfl rfl rfl rfl ?_
                exact g
              · intro X rest g
                refine G.field (off' := 1) rfl rfl rfl rfl Try.underlying53 rfl sz51 rfl rfl ?_
                exact g
              · intro X rest g
                refine G.loadH (B := A0) (m := a0.kinds.length) (c := n0) rfl rfl rfl rfl ty51r (fun w hs => Rd.bk (R_free_Map.L_kinds _) hs (j := 0) rfl) ?_
                exact g
              · intro X rest g
                refine G.move rfl rfl rfl rfl ?_
                exact g
              · intro X rest g
                refine G.move rfl rfl rfl rfl ?_
                exact g
              · intro X rest g
                refine G.nilCheck rfl rfl rfl rfl ?_
                exact g
              · intro X rest g
                refine G.field (off' := 0) rfl rfl rfl rfl Try.underlying53 rfl sz3 rfl rfl ?_
                exact g
              · intro X rest g
                refine G.loadI (y := a0.from_) rfl rfl rfl rfl ty3 (fun w hs => Rd.bk (R_free_Map.L_from_ _) hs (j := 0) rfl) ?_
                exact g
              · intro X rest g
                refine G.bin (m := a1) (n := a0.from_) (r := wi64 (a1 - a0.from_)) rfl rfl rfl rfl rfl rfl rfl ?_
                exact g
              · intro X rest g
                refine G.move rfl rfl rfl rfl ?_
                exact g
              · intro X rest g
                refine G.indexO (xs := a0.kinds) (j := wi64 (a1 - a0.from_)) (off := (wi64 (a1 - a0.from_)).toNat * 1) rfl rfl rfl rfl rfl el51 (r := 1) rfl (by simp) k25 rfl ?_
                exact g
              · intro X rest L m hlen hp hil hd hs hm ho
                refine G.frontAt 1 rfl ?_
                refine G.storeO (df := Kd.u8) (y := a2) (hj := q24) (xs' := a0.kinds.set ((wi64 (a1 - a0.from_)).toNat) a2) rfl rfl rfl rfl (Lens.id _ _) (by first | rfl | simp) ⟨([u8V a2] : List Value), rfl, rfl⟩ sz54 rfl ?_
                refine G.frontAt 1 rfl ?_
                refine G.frontAt 1 rfl ?_
                exact P31 m _ _ rest (by rw [List.length_set]; exact hlen) (hp.stepN2 1 (free_Map_turn.reg26_3_ap _) hil hd hs (by repeat (first | exact trivial | refine And.intro rfl ?_)) rfl rfl rfl) hm ho
              · intro A L hlen hp h0
                exact (hp.notYet hlen h0 12 rfl rfl).elim
            intro l hl
            exact P30 13 (List.replicate 13 false) _ l rfl (Reg.Phi.init 13 ⟨rfl, rfl, rfl, trivial⟩) (left_rep 13) hl
      intro l hl
      exact P37 35 (List.replicate 35 false) _ l rfl (Reg.Phi.init 35 ⟨rfl, rfl, rfl, trivial⟩) (left_rep 35) hl
set_option maxRecDepth 20000 in
theorem free_Map_Defer.ok {O : World} {H : PH} {Fr : List Res} (a0 : S_free_Map) (g0 : Nat) (A0 : Option Addr) (n0 : Nat) (a1 : Int) {r : Int × S_free_Map} (h : free_Map_Defer.f a0 a1 = some r) :
    CtrS Try.prog 11 [.pointer (some ⟨g0, 0, none⟩), .int .i64 a1] O H (BK 53 K_R_free_Map g0 (R_free_Map.mk a0.from_ (A0, a0.kinds.length, n0)) :: OS 54 Kd.u8 A0 n0 a0.kinds :: Fr) (fun v L' => v = .int .i64 r.1 ∧ BK 53 K_R_free_Map g0 (R_free_Map.mk r.2.from_ (A0, r.2.kinds.length, n0)) :: OS 54 Kd.u8 A0 n0 r.2.kinds :: Fr = L') := by
  refine CtrS.start (n := 8) Try.func11 rfl Try.ntmps11 rfl rfl ?_
  unfold free_Map_Defer.f at h
  refine G.seq ?_
  refine G.region (l := [0]) rfl ?_
  refine G.assign rfl rfl rfl rfl ?_
  refine G.regionEnd ?_
  refine G.seq ?_
  refine G.region (l := [0, 1, 2, 3]) rfl ?_
  refine G.move rfl rfl rfl rfl ?_
  refine G.move rfl rfl rfl rfl ?_
  refine G.frontAt 1 rfl ?_
  refine G.frontAt 1 rfl ?_
  obtain ⟨t3, e4, h⟩ := bindS h
  refine G.callS rfl rfl rfl rfl call26 (free_Map_turn.ok a0 g0 A0 n0 a1 2 e4) ?_
  rintro v5 L6 ⟨rfl, rfl⟩
  refine G.assign rfl rfl rfl rfl ?_
  refine G.regionEnd ?_
  refine G.frontAt 1 rfl ?_
  refine G.frontAt 1 rfl ?_
  obtain rfl := Option.some.inj h
  exact G.ret1 Try.func11 rfl rfl (fun w hs => ⟨_, _, rfl, ⟨rfl, rfl⟩, hs⟩)
set_option maxRecDepth 20000 in
theorem free_Map_all.ok {O : World} {H : PH} {Fr : List Res} (a0 : S_free_Map) (g0 : Nat) (A0 : Option Addr) (n0 : Nat) (a1 : UInt8) {r : (List Int)} (h : free_Map_all.f a0 a1 = some r) :
    CtrS Try.prog 25 [.pointer (some ⟨g0, 0, none⟩), u8V a1] O H (BK 53 K_R_free_Map g0 (R_free_Map.mk a0.from_ (A0, a0.kinds.length, n0)) :: OS 54 Kd.u8 A0 n0 a0.kinds :: Fr) (fun v L' => ∃ (Ar0 : Option Addr) (nr0 : Nat), v = .slice Ar0 r.length nr0 ∧ BK 53 K_R_free_Map g0 (R_free_Map.mk a0.from_ (A0, a0.kinds.length, n0)) :: OS 54 Kd.u8 A0 n0 a0.kinds :: OS 3 (Kd.int .i64) Ar0 nr0 r :: Fr = L') := by
  refine CtrS.start (n := 32) Try.func25 rfl Try.ntmps25 rfl rfl ?_
  unfold free_Map_all.f at h
  refine G.seq ?_
  refine G.region (l := [0]) rfl ?_
  refine G.assign rfl rfl rfl rfl ?_
  refine G.regionEnd ?_
  refine G.seq ?_
  refine G.region (l := [0]) rfl ?_
  refine G.assign rfl rfl rfl rfl ?_
  refine G.regionEnd ?_
  refine G.seq ?_
  refine G.seq ?_
  refine G.region (l := [0, 1, 2, 3, 4, 5]) rfl ?_
  refine G.move rfl rfl rfl rfl ?_
  refine G.nilCheck rfl rfl rfl rfl ?_
  refine G.field (off' := 1) rfl rfl rfl rfl Try.underlying53 rfl sz51 rfl rfl ?_
  refine G.loadH (B := A0) (m := a0.kinds.length) (c := n0) rfl rfl rfl rfl ty51r (fun w hs => Rd.bk (R_free_Map.L_kinds _) hs (j := 0) rfl) ?_
  refine G.len (m := a0.kinds.length) rfl rfl rfl rfl Try.underlying51 ?_
  refine G.move rfl rfl rfl rfl ?_
  refine G.regionEnd ?_
  refine G.block ?_
  refine G.loop (fun GG K => ∀ (d54 : Nat) (B29 : Option Addr) (c30 : Nat) (x31 : (List Int)) (x32 : Int), free_Map_all.l0 a0 a1 d54 x31 x32 = some r → GG H [(0, .pointer (some ⟨g0, 0, none⟩)), (1, u8V a1), (5, .slice B29 x31.length c30), (11, .slice A0 a0.kinds.length n0), (12, .int .i64 (a0.kinds.length : Int)), (13, .int .i64 x32)] (OS 54 Kd.u8 A0 n0 a0.kinds :: BK 53 K_R_free_Map g0 (R_free_Map.mk a0.from_ (A0, a0.kinds.length, n0)) :: OS 3 (Kd.int .i64) B29 c30 x31 :: Fr) K) ?_ ?_
  · intro d54
    induction d54 with
    | zero => intro B29 c30 x31 x32 h; rw [free_Map_all.l0] at h; cases h
    | succ d54 ih53 =>
      intro B29 c30 x31 x32 h
      rw [free_Map_all.l0] at h
      refine G.seq ?_
      refine G.region (l := [0]) rfl ?_
      refine G.cmp (x32 < (a0.kinds.length : Int)) rfl rfl rfl rfl rfl rfl Iff.rfl ?_
      refine G.regionEnd ?_
      refine G.seq ?_
      refine G.condP rfl (fun k75 => ?_) (fun k75 => ?_)
      · replace h := ifT h k75
        refine G.skip ?_
        refine G.seq ?_
        refine G.block ?_
        refine G.seq ?_
        refine G.region (l := [0, 1, 2, 3, 4]) rfl ?_
        refine G.move rfl rfl rfl rfl ?_
        obtain ⟨k57, h⟩ := guardS h
        have q56 : x32.toNat < a0.kinds.length := by omega
        refine G.indexO (xs := a0.kinds) (j := x32) (off := x32.toNat * 1) rfl rfl rfl rfl rfl el51 (r := 0) rfl (by simp) k57 rfl ?_
        refine G.load8 (y := a0.kinds.getD x32.toNat 0) rfl rfl rfl rfl ty54 (fun w hs => Rd.osG q56 (Lens.id _ _) hs (j := 0) rfl (o := x32.toNat * 1) (by first | rfl | simp)) ?_
        refine G.assign rfl rfl rfl rfl ?_
        refine G.assign rfl rfl rfl rfl ?_
        refine G.regionEnd ?_
        refine G.seq ?_
        refine G.region (l := [0, 1, 2]) rfl ?_
        refine G.move rfl rfl rfl rfl ?_
        refine G.move rfl rfl rfl rfl ?_
        refine G.cmp ((a0.kinds.getD x32.toNat 0) = a1) rfl rfl rfl rfl rfl rfl (c8_eql (a0.kinds.getD x32.toNat 0) a1) ?_
        refine G.regionEnd ?_
        refine G.condP rfl (fun k74 => ?_) (fun k74 => ?_)
        · replace h := ifT h k74
          refine G.region (l := [0, 1, 2, 3, 4, 5, 6, 7, 8, 9]) rfl ?_
          refine G.move rfl rfl rfl rfl ?_
          refine G.move rfl rfl rfl rfl ?_
          refine G.nilCheck rfl rfl rfl rfl ?_
          refine G.field (off' := 0) rfl rfl rfl rfl Try.underlying53 rfl sz3 rfl rfl ?_
          refine G.loadI (y := a0.from_) rfl rfl rfl rfl ty3 (fun w hs => Rd.bk (R_free_Map.L_from_ _) hs (j := 1) rfl) ?_
          refine G.move rfl rfl rfl rfl ?_
          refine G.bin (m := a0.from_) (n := x32) (r := wi64 (a0.from_ + x32)) rfl rfl rfl rfl rfl rfl rfl ?_
          refine G.buildSliceV (df := (Kd.int .i64)) (xs := ([wi64 (a0.from_ + x32)] : List Int)) (z0 := 0) (vs := [.int .i64 (wi64 (a0.from_ + x32))]) rfl rfl rfl el28 (z := .int .i64 0) (cz := ([.int .i64 0] : List Value)) (by kernel_rfl) rfl rfl rfl rfl rfl (rfl) ⟨⟨([.int .i64 (wi64 (a0.from_ + x32))] : List Value), rfl, rfl⟩, trivial⟩ ?_
          intro B68
          refine G.frontAt 3 rfl ?_
          obtain ⟨k73, h⟩ := guardS h
          refine G.append (df := (Kd.int .i64)) (xs := x31) (ys := ([wi64 (a0.from_ + x32)] : List Int)) (z0 := 0) (z := .int .i64 0) (cz := ([.int .i64 0] : List Value)) rfl rfl rfl rfl (by simp) rfl el28 Try.underlying28 rfl (by kernel_rfl) rfl (rfl) (fun w hs => SrcR.os hs (j := 1) rfl) ⟨by omega, by omega⟩ ?_
          intro B70 c71
          refine G.frontAt 1 rfl ?_
          refine G.drop ?_
          refine G.assign rfl rfl rfl rfl ?_
          refine G.regionEnd ?_
          refine G.inBlock ?_
          refine G.region (l := [0, 1]) rfl ?_
          refine G.bin (m := x32) (n := 1) (r := wi64 (x32 + 1)) rfl rfl rfl rfl rfl rfl rfl ?_
          refine G.move rfl rfl rfl rfl ?_
          refine G.regionEnd ?_
          refine G.round ?_
          refine G.frontAt 2 rfl ?_
          refine G.frontAt 2 rfl ?_
          refine G.less ?_ (ih53  B70 c71 (x31 ++ ([wi64 (a0.from_ + x32)] : List Int)) (wi64 (x32 + 1)) h)
          exact ⟨rfl, rfl, rfl, rfl, rfl, rfl, trivial⟩
        · replace h := ifF h k74
          refine G.skip ?_
          refine G.inBlock ?_
          refine G.region (l := [0, 1]) rfl ?_
          refine G.bin (m := x32) (n := 1) (r := wi64 (x32 + 1)) rfl rfl rfl rfl rfl rfl rfl ?_
          refine G.move rfl rfl rfl rfl ?_
          refine G.regionEnd ?_
          refine G.round ?_
          refine G.frontAt 2 rfl ?_
          refine G.frontAt 2 rfl ?_
          refine G.frontAt 2 rfl ?_
          refine G.less ?_ (ih53  B29 c30 x31 (wi64 (x32 + 1)) h)
          exact ⟨rfl, rfl, rfl, rfl, rfl, rfl, trivial⟩
      · replace h := ifF h k75
        refine G.exit rfl ?_
        refine G.seq ?_
        refine G.region (l := [0, 1]) rfl ?_
        refine G.move rfl rfl rfl rfl ?_
        refine G.assign rfl rfl rfl rfl ?_
        refine G.regionEnd ?_
        refine G.frontAt 2 rfl ?_
        refine G.frontAt 1 rfl ?_
        refine G.frontAt 2 rfl ?_
        obtain rfl := Option.some.inj h
        exact G.ret1 Try.func25 rfl rfl (fun w hs => ⟨_, _, rfl, ⟨B29, c30, rfl, rfl⟩, hs⟩)
  intro J76
  refine G.osNil 3 (Kd.int .i64) ?_
  refine G.same (d := 5) (v := .slice none (([] : List Int).length) 0) rfl (by first | (simp; done) | (simp; omega)) ?_
  refine G.frontAt 1 rfl ?_
  refine G.frontAt 2 rfl ?_
  refine G.less ?_ (J76 FUEL  none 0 ([] : List Int) 0 h)
  exact ⟨rfl, rfl, rfl, rfl, rfl, rfl, trivial⟩
set_option maxRecDepth 20000 in
theorem free_Map_Free.ok {O : World} {H : PH} {Fr : List Res} (a0 : S_free_Map) (g0 : Nat) (A0 : Option Addr) (n0 : Nat) {r : (List Int)} (h : free_Map_Free.f a0 = some r) :
    CtrS Try.prog 13 [.pointer (some ⟨g0, 0, none⟩)] O H (BK 53 K_R_free_Map g0 (R_free_Map.mk a0.from_ (A0, a0.kinds.length, n0)) :: OS 54 Kd.u8 A0 n0 a0.kinds :: Fr) (fun v L' => ∃ (Ar0 : Option Addr) (nr0 : Nat), v = .slice Ar0 r.length nr0 ∧ BK 53 K_R_free_Map g0 (R_free_Map.mk a0.from_ (A0, a0.kinds.length, n0)) :: OS 54 Kd.u8 A0 n0 a0.kinds :: OS 3 (Kd.int .i64) Ar0 nr0 r :: Fr = L') := by
  refine CtrS.start (n := 5) Try.func13 rfl Try.ntmps13 rfl rfl ?_
  unfold free_Map_Free.f at h
  refine G.seq ?_
  refine G.region (l := [0]) rfl ?_
  refine G.assign rfl rfl rfl rfl ?_
  refine G.regionEnd ?_
  refine G.seq ?_
  refine G.region (l := [0, 1, 2]) rfl ?_
  refine G.move rfl rfl rfl rfl ?_
  refine G.frontAt 1 rfl ?_
  refine G.frontAt 1 rfl ?_
  obtain ⟨t3, e4, h⟩ := bindS h
  refine G.callS rfl rfl rfl rfl call25 (free_Map_all.ok a0 g0 A0 n0 0 e4) ?_
  rintro v5 L6 ⟨B7, c8, rfl, rfl⟩
  refine G.assign rfl rfl rfl rfl ?_
  refine G.regionEnd ?_
  refine G.frontAt 2 rfl ?_
  refine G.frontAt 2 rfl ?_
  refine G.frontAt 2 rfl ?_
  obtain rfl := Option.some.inj h
  exact G.ret1 Try.func13 rfl rfl (fun w hs => ⟨_, _, rfl, ⟨B7, c8, rfl, rfl⟩, hs⟩)
set_option maxRecDepth 20000 in
theorem free_Map_Waiting.ok {O : World} {H : PH} {Fr : List Res} (a0 : S_free_Map) (g0 : Nat) (A0 : Option Addr) (n0 : Nat) {r : (List Int)} (h : free_Map_Waiting.f a0 = some r) :
    CtrS Try.prog 9 [.pointer (some ⟨g0, 0, none⟩)] O H (BK 53 K_R_free_Map g0 (R_free_Map.mk a0.from_ (A0, a0.kinds.length, n0)) :: OS 54 Kd.u8 A0 n0 a0.kinds :: Fr) (fun v L' => ∃ (Ar0 : Option Addr) (nr0 : Nat), v = .slice Ar0 r.length nr0 ∧ BK 53 K_R_free_Map g0 (R_free_Map.mk a0.from_ (A0, a0.kinds.length, n0)) :: OS 54 Kd.u8 A0 n0 a0.kinds :: OS 3 (Kd.int .i64) Ar0 nr0 r :: Fr = L') := by
  refine CtrS.start (n := 5) Try.func9 rfl Try.ntmps9 rfl rfl ?_
  unfold free_Map_Waiting.f at h
  refine G.seq ?_
  refine G.region (l := [0]) rfl ?_
  refine G.assign rfl rfl rfl rfl ?_
  refine G.regionEnd ?_
  refine G.seq ?_
  refine G.region (l := [0, 1, 2]) rfl ?_
  refine G.move rfl rfl rfl rfl ?_
  refine G.frontAt 1 rfl ?_
  refine G.frontAt 1 rfl ?_
  obtain ⟨t3, e4, h⟩ := bindS h
  refine G.callS rfl rfl rfl rfl call25 (free_Map_all.ok a0 g0 A0 n0 2 e4) ?_
  rintro v5 L6 ⟨B7, c8, rfl, rfl⟩
  refine G.assign rfl rfl rfl rfl ?_
  refine G.regionEnd ?_
  refine G.frontAt 2 rfl ?_
  refine G.frontAt 2 rfl ?_
  refine G.frontAt 2 rfl ?_
  obtain rfl := Option.some.inj h
  exact G.ret1 Try.func9 rfl rfl (fun w hs => ⟨_, _, rfl, ⟨B7, c8, rfl, rfl⟩, hs⟩)
set_option maxRecDepth 20000 in
theorem slices_Index_Lint_int.ok {O : World} {H : PH} {Fr : List Res} (a0 : (List Int)) (A0 : Option Addr) (n0 : Nat) (F0 : SlR (Kd.int .i64) H A0 n0 a0) (a1 : Int) {r : Int} (h : slices_Index_Lint_int.f a0 a1 = some r) :
    CtrS Try.prog 34 [.slice A0 a0.length n0, .int .i64 a1] O H (Fr) (fun v L' => v = .int .i64 r ∧ Fr = L') := by
  refine CtrS.start (n := 19) Try.func34 rfl Try.ntmps34 rfl rfl ?_
  unfold slices_Index_Lint_int.f at h
  refine G.seq ?_
  refine G.region (l := [0]) rfl ?_
  refine G.assign rfl rfl rfl rfl ?_
  refine G.regionEnd ?_
  refine G.seq ?_
  refine G.seq ?_
  refine G.region (l := [0, 1, 2]) rfl ?_
  refine G.move rfl rfl rfl rfl ?_
  refine G.len (m := a0.length) rfl rfl rfl rfl Try.underlying28 ?_
  refine G.move rfl rfl rfl rfl ?_
  refine G.regionEnd ?_
  refine G.block ?_
  refine G.loop (fun GG K => ∀ (d8 : Nat) (x1 : Int), slices_Index_Lint_int.l0 a0 a1 d8 x1 = some r → GG H [(0, .slice A0 a0.length n0), (1, .int .i64 a1), (7, .int .i64 (a0.length : Int)), (8, .int .i64 x1)] (Fr) K) ?_ ?_
  · intro d8
    induction d8 with
    | zero => intro x1 h; rw [slices_Index_Lint_int.l0] at h; cases h
    | succ d8 ih7 =>
      intro x1 h
      rw [slices_Index_Lint_int.l0] at h
      refine G.seq ?_
      refine G.region (l := [0]) rfl ?_
      refine G.cmp (x1 < (a0.length : Int)) rfl rfl rfl rfl rfl rfl Iff.rfl ?_
      refine G.regionEnd ?_
      refine G.seq ?_
      refine G.condP rfl (fun k14 => ?_) (fun k14 => ?_)
      · replace h := ifT h k14
        refine G.skip ?_
        refine G.seq ?_
        refine G.block ?_
        refine G.seq ?_
        refine G.region (l := [0, 1]) rfl ?_
        refine G.move rfl rfl rfl rfl ?_
        refine G.assign rfl rfl rfl rfl ?_
        refine G.regionEnd ?_
        refine G.seq ?_
        refine G.region (l := [0, 1, 2, 3, 4, 5]) rfl ?_
        refine G.move rfl rfl rfl rfl ?_
        refine G.move rfl rfl rfl rfl ?_
        refine G.move rfl rfl rfl rfl ?_
        obtain ⟨k12, h⟩ := guardS h
        refine G.indexR (xs := a0) (j := x1) 0 rfl rfl rfl rfl rfl el28 F0 k12 ?_
        intro a10 f11
        refine G.loadI (y := a0.getD x1.toNat 0) rfl rfl rfl rfl ty3 (fun w hs => Rd.ro f11 hs) ?_
        refine G.cmp (a1 = (a0.getD x1.toNat 0)) rfl rfl rfl rfl rfl rfl Iff.rfl ?_
        refine G.regionEnd ?_
        refine G.condP rfl (fun k13 => ?_) (fun k13 => ?_)
        · replace h := ifT h k13
          refine G.seq ?_
          refine G.region (l := [0, 1]) rfl ?_
          refine G.move rfl rfl rfl rfl ?_
          refine G.assign rfl rfl rfl rfl ?_
          refine G.regionEnd ?_
          obtain rfl := Option.some.inj h
          exact G.ret1 Try.func34 rfl rfl (fun w hs => ⟨_, _, rfl, ⟨rfl, rfl⟩, hs⟩)
        · replace h := ifF h k13
          refine G.skip ?_
          refine G.inBlock ?_
          refine G.region (l := [0, 1]) rfl ?_
          refine G.bin (m := x1) (n := 1) (r := wi64 (x1 + 1)) rfl rfl rfl rfl rfl rfl rfl ?_
          refine G.move rfl rfl rfl rfl ?_
          refine G.regionEnd ?_
          refine G.round ?_
          refine G.less ?_ (ih7  (wi64 (x1 + 1)) h)
          exact ⟨rfl, rfl, rfl, rfl, trivial⟩
      · replace h := ifF h k14
        refine G.exit rfl ?_
        refine G.seq ?_
        refine G.region (l := [0]) rfl ?_
        refine G.assign rfl rfl rfl rfl ?_
        refine G.regionEnd ?_
        obtain rfl := Option.some.inj h
        exact G.ret1 Try.func34 rfl rfl (fun w hs => ⟨_, _, rfl, ⟨rfl, rfl⟩, hs⟩)
  intro J15
  refine G.less ?_ (J15 FUEL  0 h)
  exact ⟨rfl, rfl, rfl, rfl, trivial⟩
set_option maxRecDepth 20000 in
theorem slices_Contains_Lint_int.ok {O : World} {H : PH} {Fr : List Res} (a0 : (List Int)) (A0 : Option Addr) (n0 : Nat) (F0 : SlR (Kd.int .i64) H A0 n0 a0) (a1 : Int) {r : Bool} (h : slices_Contains_Lint_int.f a0 a1 = some r) :
    CtrS Try.prog 27 [.slice A0 a0.length n0, .int .i64 a1] O H (Fr) (fun v L' => v = .bool r ∧ Fr = L') := by
  refine CtrS.start (n := 9) Try.func27 rfl Try.ntmps27 rfl rfl ?_
  unfold slices_Contains_Lint_int.f at h
  refine G.seq ?_
  refine G.region (l := [0]) rfl ?_
  refine G.assign rfl rfl rfl rfl ?_
  refine G.regionEnd ?_
  refine G.seq ?_
  refine G.region (l := [0, 1, 2, 3, 4]) rfl ?_
  refine G.move rfl rfl rfl rfl ?_
  refine G.move rfl rfl rfl rfl ?_
  obtain ⟨t1, e2, h⟩ := bindS h
  refine G.callS rfl rfl rfl rfl call34 (slices_Index_Lint_int.ok a0 A0 n0 F0 a1 e2) ?_
  rintro v3 L4 ⟨rfl, rfl⟩
  refine G.cmp (0 ≤ t1) rfl rfl rfl rfl rfl rfl Iff.rfl ?_
  refine G.assign rfl rfl rfl rfl ?_
  refine G.regionEnd ?_
  obtain rfl := Option.some.inj h
  exact G.ret1 Try.func27 rfl rfl (fun w hs => ⟨_, _, rfl, ⟨rfl, rfl⟩, hs⟩)
def free_Map_Sweep.reg12_6 (B : List (Nat × Value)) : Reg := ⟨[[], [0], [1], [2], [], [], [5], [6], [7], [4, 8], [3, 9, 0, 1, 2, 3, 4, 5, 6, 7, 8, 9], [10, 0, 1, 2, 3, 4, 5, 6, 7, 8, 9]], [some 19, some 20, some 21, some 22, some 23, some 24, some 25, some 26, some 27, some 28, some 29, none], B⟩
theorem free_Map_Sweep.reg12_6_ap (B : List (Nat × Value)) : (free_Map_Sweep.reg12_6 B).apart = true := rfl
set_option maxRecDepth 20000 in
theorem free_Map_Sweep.ok {O : World} {H : PH} {Fr : List Res} (a0 : S_free_Map) (g0 : Nat) (A0 : Option Addr) (n0 : Nat) (a1 : (List Int)) (A1 : Option Addr) (n1 : Nat) (F1 : SlR (Kd.int .i64) H A1 n1 a1) {r : Int × S_free_Map} (h : free_Map_Sweep.f a0 a1 = some r) :
    CtrS Try.prog 12 [.pointer (some ⟨g0, 0, none⟩), .slice A1 a1.length n1] O H (BK 53 K_R_free_Map g0 (R_free_Map.mk a0.from_ (A0, a0.kinds.length, n0)) :: OS 54 Kd.u8 A0 n0 a0.kinds :: Fr) (fun v L' => v = .int .i64 r.1 ∧ BK 53 K_R_free_Map g0 (R_free_Map.mk r.2.from_ (A0, r.2.kinds.length, n0)) :: OS 54 Kd.u8 A0 n0 r.2.kinds :: Fr = L') := by
  refine CtrS.start (n := 34) Try.func12 rfl Try.ntmps12 rfl rfl ?_
  unfold free_Map_Sweep.f at h
  refine G.seq ?_
  refine G.region (l := [0]) rfl ?_
  refine G.assign rfl rfl rfl rfl ?_
  refine G.regionEnd ?_
  refine G.seq ?_
  refine G.region (l := [0]) rfl ?_
  refine G.assign rfl rfl rfl rfl ?_
  refine G.regionEnd ?_
  refine G.seq ?_
  refine G.seq ?_
  refine G.region (l := [0, 1, 2, 3]) rfl ?_
  refine G.move rfl rfl rfl rfl ?_
  refine G.frontAt 1 rfl ?_
  refine G.frontAt 1 rfl ?_
  obtain ⟨t3, e4, h⟩ := bindS h
  refine G.callS rfl rfl rfl rfl call9 (free_Map_Waiting.ok a0 g0 A0 n0 e4) ?_
  rintro v5 L6 ⟨B7, c8, rfl, rfl⟩
  refine G.len (m := t3.length) rfl rfl rfl rfl Try.underlying28 ?_
  refine G.move rfl rfl rfl rfl ?_
  refine G.regionEnd ?_
  refine G.block ?_
  refine G.loop (fun GG K => ∀ (d45 : Nat) (x26 : Int) (x27 : (List UInt8)) (x28 : Int) (x29 : Int), free_Map_Sweep.l0 a1 t3 d45 x26 x27 x28 x29 = some r → GG H [(0, .pointer (some ⟨g0, 0, none⟩)), (1, .slice A1 a1.length n1), (5, .int .i64 x28), (9, .slice B7 t3.length c8), (10, .int .i64 (t3.length : Int)), (11, .int .i64 x29)] (OS 54 Kd.u8 A0 n0 x27 :: BK 53 K_R_free_Map g0 (R_free_Map.mk x26 (A0, x27.length, n0)) :: OS 3 (Kd.int .i64) B7 c8 t3 :: Fr) K) ?_ ?_
  · intro d45
    induction d45 with
    | zero => intro x26 x27 x28 x29 h; rw [free_Map_Sweep.l0] at h; cases h
    | succ d45 ih44 =>
      intro x26 x27 x28 x29 h
      rw [free_Map_Sweep.l0] at h
      refine G.seq ?_
      refine G.region (l := [0]) rfl ?_
      refine G.cmp (x29 < (t3.length : Int)) rfl rfl rfl rfl rfl rfl Iff.rfl ?_
      refine G.regionEnd ?_
      refine G.seq ?_
      refine G.condP rfl (fun k66 => ?_) (fun k66 => ?_)
      · replace h := ifT h k66
        refine G.skip ?_
        refine G.seq ?_
        refine G.block ?_
        refine G.seq ?_
        refine G.region (l := [0, 1, 2]) rfl ?_
        obtain ⟨k48, h⟩ := guardS h
        have q47 : x29.toNat < t3.length := by omega
        refine G.indexO (xs := t3) (j := x29) (off := x29.toNat * 1) rfl rfl rfl rfl rfl el28 (r := 2) rfl (by simp) k48 rfl ?_
        refine G.loadI (y := t3.getD x29.toNat 0) rfl rfl rfl rfl ty3 (fun w hs => Rd.osG q47 (Lens.id _ _) hs (j := 2) rfl (o := x29.toNat * 1) (by first | rfl | simp)) ?_
        refine G.assign rfl rfl rfl rfl ?_
        refine G.regionEnd ?_
        refine G.seq ?_
        refine G.region (l := [0, 1, 2, 3]) rfl ?_
        refine G.move rfl rfl rfl rfl ?_
        refine G.move rfl rfl rfl rfl ?_
        obtain ⟨t49, e50, h⟩ := bindS h
        refine G.callS rfl rfl rfl rfl call27 (slices_Contains_Lint_int.ok a1 A1 n1 F1 (t3.getD x29.toNat 0) e50) ?_
        rintro v51 L52 ⟨rfl, rfl⟩
        refine G.not rfl rfl rfl rfl rfl ?_
        refine G.regionEnd ?_
        refine G.cond rfl (fun k65 => ?_) (fun k65 => ?_)
        · replace h := ifT h k65
          refine G.seq ?_
          obtain ⟨k58, h⟩ := guardS h
          have q57 : (wi64 ((t3.getD x29.toNat 0) - x26)).toNat < x27.length := by omega
          refine G.draw [[], [0], [1], [2], [], [], [5], [6], [7], [4, 8], [3, 9, 0, 1, 2, 3, 4, 5, 6, 7, 8, 9], [10, 0, 1, 2, 3, 4, 5, 6, 7, 8, 9]] 12 [0, 1, 2, 3, 4, 5, 6, 7, 8, 9, 10, 11] [0, 1, 2, 3, 0, 0, 1, 2, 3, 4, 5, 6] [0, 1, 2, 3, 0, 0, 1, 2, 3, 4, 5, 6] rfl (by kernel_rfl) (by kernel_rfl) (by kernel_rfl) (by kernel_rfl) ?_
          intro C59 ops60 k61
          let R62 : Reg := free_Map_Sweep.reg12_6 [(0, .pointer (some ⟨g0, 0, none⟩)), (1, .slice A1 a1.length n1), (5, .int .i64 x28), (7, .int .i64 (t3.getD x29.toNat 0)), (9, .slice B7 t3.length c8), (10, .int .i64 (t3.length : Int)), (11, .int .i64 x29)]
          have P64 : ∀ (m : Nat) (L : List Bool) (A : List (Nat × Value)) (l : List Nat), L.length = R62.ds.length → R62.Phi [some (.pointer (some ⟨g0, 0, none⟩)), some (.pointer (some ⟨g0, 0, none⟩)), some (.pointer (some ⟨g0, 1, none⟩)), some (.slice A0 x27.length n0), some (.int .i64 (t3.getD x29.toNat 0)), some (.pointer (some ⟨g0, 0, none⟩)), some (.pointer (some ⟨g0, 0, none⟩)), some (.pointer (some ⟨g0, 0, none⟩)), some (.int .i64 x26), some (.int .i64 (wi64 ((t3.getD x29.toNat 0) - x26))), some (.pointer (some (plc A0 ((wi64 ((t3.getD x29.toNat 0) - x26)).toNat * 1)))), none] [0, 1, 2, 3, 4, 5, 6, 7, 8, 9, 10, 11] [] L A → left L = m → Ord R62.ds m L l → G C59 H A (OS 54 Kd.u8 A0 n0 (x27.set ((wi64 ((t3.getD x29.toNat 0) - x26)).toNat) 0) :: BK 53 K_R_free_Map g0 (R_free_Map.mk x26 (A0, x27.length, n0)) :: OS 3 (Kd.int .i64) B7 c8 t3 :: Fr) (.inRegion ops60 l :: k61) := by
            refine G.phase R62 [some (.pointer (some ⟨g0, 0, none⟩)), some (.pointer (some ⟨g0, 0, none⟩)), some (.pointer (some ⟨g0, 1, none⟩)), some (.slice A0 x27.length n0), some (.int .i64 (t3.getD x29.toNat 0)), some (.pointer (some ⟨g0, 0, none⟩)), some (.pointer (some ⟨g0, 0, none⟩)), some (.pointer (some ⟨g0, 0, none⟩)), some (.int .i64 x26), some (.int .i64 (wi64 ((t3.getD x29.toNat 0) - x26))), some (.pointer (some (plc A0 ((wi64 ((t3.getD x29.toNat 0) - x26)).toNat * 1)))), none] [] [] [0, 1, 2, 3, 4, 5, 6, 7, 8, 9, 10, 11] [] (free_Map_Sweep.reg12_6_ap _) rfl rfl trivial trivial ?_
            · intro A L hlen hp h0
              refine G.lessSub (B := [(0, .pointer (some ⟨g0, 0, none⟩)), (1, .slice A1 a1.length n1), (5, .int .i64 x28), (9, .slice B7 t3.length c8), (10, .int .i64 (t3.length : Int)), (11, .int .i64 x29)]) (hp.fin hlen h0 (src := [.base 0, .base 1, .base 5, .base 9, .base 10, .base 11]) rfl) ?_
              refine G.regionEnd ?_
              refine G.region (l := [0, 1, 2]) rfl ?_
              refine G.move rfl rfl rfl rfl ?_
              refine G.bin (m := x28) (n := 1) (r := wi64 (x28 + 1)) rfl rfl rfl rfl rfl rfl rfl ?_
              refine G.assign rfl rfl rfl rfl ?_
              refine G.regionEnd ?_
              refine G.inBlock ?_
              refine G.region (l := [0, 1]) rfl ?_
              refine G.bin (m := x29) (n := 1) (r := wi64 (x29 + 1)) rfl rfl rfl rfl rfl rfl rfl ?_
              refine G.move rfl rfl rfl rfl ?_
              refine G.regionEnd ?_
              refine G.round ?_
              refine G.frontAt 1 rfl ?_
              refine G.headEq (r' := BK 53 K_R_free_Map g0 (R_free_Map.mk x26 (A0, (x27.set ((wi64 ((t3.getD x29.toNat 0) - x26)).toNat) 0).length, n0))) (by first | (simp; done) | (simp; omega)) ?_
              refine G.frontAt 2 rfl ?_
              refine G.frontAt 1 rfl ?_
              refine G.frontAt 2 rfl ?_
              refine G.less ?_ (ih44  x26 (x27.set ((wi64 ((t3.getD x29.toNat 0) - x26)).toNat) 0) (wi64 (x28 + 1)) (wi64 (x29 + 1)) h)
              exact ⟨rfl, rfl, rfl, rfl, rfl, rfl, trivial⟩
          have P63 : ∀ (m : Nat) (L : List Bool) (A : List (Nat × Value)) (l : List Nat), L.length = R62.ds.length → R62.Phi [some (.pointer (some ⟨g0, 0, none⟩)), some (.pointer (some ⟨g0, 0, none⟩)), some (.pointer (some ⟨g0, 1, none⟩)), some (.slice A0 x27.length n0), some (.int .i64 (t3.getD x29.toNat 0)), some (.pointer (some ⟨g0, 0, none⟩)), some (.pointer (some ⟨g0, 0, none⟩)), some (.pointer (some ⟨g0, 0, none⟩)), some (.int .i64 x26), some (.int .i64 (wi64 ((t3.getD x29.toNat 0) - x26))), some (.pointer (some (plc A0 ((wi64 ((t3.getD x29.toNat 0) - x26)).toNat * 1)))), none] [] [11] L A → left L = m → Ord R62.ds m L l → G C59 H A (OS 54 Kd.u8 A0 n0 x27 :: BK 53 K_R_free_Map g0 (R_free_Map.mk x26 (A0, x27.length, n0)) :: OS 3 (Kd.int .i64) B7 c8 t3 :: Fr) (.inRegion ops60 l :: k61) := by
            refine G.phase R62 [some (.pointer (some ⟨g0, 0, none⟩)), some (.pointer (some ⟨g0, 0, none⟩)), some (.pointer (some ⟨g0, 1, none⟩)), some (.slice A0 x27.length n0), some (.int .i64 (t3.getD x29.toNat 0)), some (.pointer (some ⟨g0, 0, none⟩)), some (.pointer (some ⟨g0, 0, none⟩)), some (.pointer (some ⟨g0, 0, none⟩)), some (.int .i64 x26), some (.int .i64 (wi64 ((t3.getD x29.toNat 0) - x26))), some (.pointer (some (plc A0 ((wi64 ((t3.getD x29.toNat 0) - x26)).toNat * 1)))), none] [0, 1, 2, 3, 4, 5, 6, 7, 8, 9, 10] [11] [] [11] (free_Map_Sweep.reg12_6_ap _) rfl rfl ⟨⟨[.base 0], 19, .pointer (some ⟨g0, 0, none⟩), [(0, .pointer (some ⟨g0, 0, none⟩))], ⟨rfl, rfl, rfl, rfl, ?_⟩⟩, ⟨⟨[.op 0], 20, .pointer (some ⟨g0, 0, none⟩), [(19, .pointer (some ⟨g0, 0, none⟩))], ⟨rfl, rfl, rfl, rfl, ?_⟩⟩, ⟨⟨[.op 1], 21, .pointer (some ⟨g0, 1, none⟩), [(20, .pointer (some ⟨g0, 0, none⟩))], ⟨rfl, rfl, rfl, rfl, ?_⟩⟩, ⟨⟨[.op 2], 22, .slice A0 x27.length n0, [(21, .pointer (some ⟨g0, 1, none⟩))], ⟨rfl, rfl, rfl, rfl, ?_⟩⟩, ⟨⟨[.base 7], 23, .int .i64 (t3.getD x29.toNat 0), [(7, .int .i64 (t3.getD x29.toNat 0))], ⟨rfl, rfl, rfl, rfl, ?_⟩⟩, ⟨⟨[.base 0], 24, .pointer (some ⟨g0, 0, none⟩), [(0, .pointer (some ⟨g0, 0, none⟩))], ⟨rfl, rfl, rfl, rfl, ?_⟩⟩, ⟨⟨[.op 5], 25, .pointer (some ⟨g0, 0, none⟩), [(24, .pointer (some ⟨g0, 0, none⟩))], ⟨rfl, rfl, rfl, rfl, ?_⟩⟩, ⟨⟨[.op 6], 26, .pointer (some ⟨g0, 0, none⟩), [(25, .pointer (some ⟨g0, 0, none⟩))], ⟨rfl, rfl, rfl, rfl, ?_⟩⟩, ⟨⟨[.op 7], 27, .int .i64 x26, [(26, .pointer (some ⟨g0, 0, none⟩))], ⟨rfl, rfl, rfl, rfl, ?_⟩⟩, ⟨⟨[.op 4, .op 8], 28, .int .i64 (wi64 ((t3.getD x29.toNat 0) - x26)), [(23, .int .i64 (t3.getD x29.toNat 0)), (27, .int .i64 x26)], ⟨rfl, rfl, rfl, rfl, ?_⟩⟩, ⟨⟨[.op 3, .op 9], 29, .pointer (some (plc A0 ((wi64 ((t3.getD x29.toNat 0) - x26)).toNat * 1))), [(22, .slice A0 x27.length n0), (28, .int .i64 (wi64 ((t3.getD x29.toNat 0) - x26)))], ⟨rfl, rfl, rfl, rfl, ?_⟩⟩, trivial⟩⟩⟩⟩⟩⟩⟩⟩⟩⟩⟩ ⟨⟨[.op 10], [(29, .pointer (some (plc A0 ((wi64 ((t3.getD x29.toNat 0) - x26)).toNat * 1))))], ⟨rfl, rfl, ?_⟩⟩, trivial⟩ ?_
            · intro X rest g
              refine G.move rfl rfl rfl rfl ?_
              exact g
            · intro X rest g
              refine G.nilCheck rfl rfl rfl rfl ?_
              exact g
            · intro X rest g
              refine G.field (off' := 1) rfl rfl rfl rfl Try.underlying53 rfl sz51 rfl rfl ?_
              exact g
            · intro X rest g
              refine G.loadH (B := A0) (m := x27.length) (c := n0) rfl rfl rfl rfl ty51r (fun w hs => Rd.bk (R_free_Map.L_kinds _) hs (j := 1) rfl) ?_
              exact g
            · intro X rest g
              refine G.move rfl rfl rfl rfl ?_
              exact g
            · intro X rest g
              refine G.move rfl rfl rfl rfl ?_
              exact g
            · intro X rest g
              refine G.nilCheck rfl rfl rfl rfl ?_
              exact g
            · intro X rest g
              refine G.field (off' := 0) rfl rfl rfl rfl Try.underlying53 rfl sz3 rfl rfl ?_
              exact g
            · intro X rest g
              refine G.loadI (y := x26) rfl rfl rfl rfl ty3 (fun w hs => Rd.bk (R_free_Map.L_from_ _) hs (j := 1) rfl) ?_
              exact g
            · intro X rest g
              refine G.bin (m := t3.getD x29.toNat 0) (n := x26) (r := wi64 ((t3.getD x29.toNat 0) - x26)) rfl rfl rfl rfl rfl rfl rfl ?_
              exact g
            · intro X rest g
              refine G.indexO (xs := x27) (j := wi64 ((t3.getD x29.toNat 0) - x26)) (off := (wi64 ((t3.getD x29.toNat 0) - x26)).toNat * 1) rfl rfl rfl rfl rfl el51 (r := 0) rfl (by simp) k58 rfl ?_
              exact g
            · intro X rest L m hlen hp hil hd hs hm ho
              refine G.storeO (df := Kd.u8) (y := 0) (hj := q57) (xs' := x27.set ((wi64 ((t3.getD x29.toNat 0) - x26)).toNat) 0) rfl rfl rfl rfl (Lens.id _ _) (by first | rfl | simp) ⟨([u8V 0] : List Value), rfl, rfl⟩ sz54 rfl ?_
              refine G.frontAt 2 rfl ?_
              refine G.frontAt 2 rfl ?_
              refine G.frontAt 2 rfl ?_
              exact P64 m _ _ rest (by rw [List.length_set]; exact hlen) (hp.stepN2 1 (free_Map_Sweep.reg12_6_ap _) hil hd hs (by repeat (first | exact trivial | refine And.intro rfl ?_)) rfl rfl rfl) hm ho
            · intro A L hlen hp h0
              exact (hp.notYet hlen h0 11 rfl rfl).elim
          intro l hl
          exact P63 12 (List.replicate 12 false) _ l rfl (Reg.Phi.init 12 ⟨rfl, rfl, rfl, rfl, rfl, rfl, rfl, trivial⟩) (left_rep 12) hl
        · replace h := ifFB h k65
          refine G.skip ?_
          refine G.inBlock ?_
          refine G.region (l := [0, 1]) rfl ?_
          refine G.bin (m := x29) (n := 1) (r := wi64 (x29 + 1)) rfl rfl rfl rfl rfl rfl rfl ?_
          refine G.move rfl rfl rfl rfl ?_
          refine G.regionEnd ?_
          refine G.round ?_
          refine G.frontAt 2 rfl ?_
          refine G.frontAt 2 rfl ?_
          refine G.frontAt 2 rfl ?_
          refine G.less ?_ (ih44  x26 x27 x28 (wi64 (x29 + 1)) h)
          exact ⟨rfl, rfl, rfl, rfl, rfl, rfl, trivial⟩
      · replace h := ifF h k66
        refine G.exit rfl ?_
        refine G.seq ?_
        refine G.region (l := [0, 1]) rfl ?_
        refine G.move rfl rfl rfl rfl ?_
        refine G.assign rfl rfl rfl rfl ?_
        refine G.regionEnd ?_
        refine G.frontAt 2 rfl ?_
        refine G.drop ?_
        refine G.frontAt 1 rfl ?_
        obtain rfl := Option.some.inj h
        exact G.ret1 Try.func12 rfl rfl (fun w hs => ⟨_, _, rfl, ⟨rfl, rfl⟩, hs⟩)
  intro J67
  refine G.frontAt 2 rfl ?_
  refine G.frontAt 1 rfl ?_
  refine G.frontAt 2 rfl ?_
  refine G.less ?_ (J67 FUEL  a0.from_ a0.kinds 0 0 h)
  exact ⟨rfl, rfl, rfl, rfl, rfl, rfl, trivial⟩
end Go.Proofs.Ytpffemcpfddjbaa
