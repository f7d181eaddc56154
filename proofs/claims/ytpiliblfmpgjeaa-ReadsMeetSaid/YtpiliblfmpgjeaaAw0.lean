/- Own text, printed by wip/gen: the walks. -/
import Derived.Test.YtpiliblfmpgjeaaAf
namespace Go.Proofs.Ytpiliblfmpgjeaa
open Go K
set_option linter.unusedVariables false
set_option maxHeartbeats 1000000
def reads_Check.ds5 : List (List Nat) := [[], [0], [], [2], [0, 1], [4, 1, 0, 1], [0, 1, 2, 3, 4, 5], [6, 3, 5, 0, 1, 2, 3, 4, 5]]
set_option maxRecDepth 20000 in
theorem reads_Check.ok {O : World} {H : PH} {Fr : List Res} (C0 : List Value) (a0 : api_Touch) (F0 : K_api_Touch.R H a0 C0) {r : Int} (h : reads_Check.f a0 = some r) :
    Ctr Try.prog 10 [.agg C0.toArray] O H Fr (fun v H' L' => v = .int .i64 r ∧ Fr = L') := by
  refine Ctr.start (n := 56) Try.func10 rfl Try.ntmps10 rfl rfl ?_
  unfold reads_Check.f at h
  refine G.seq ?_
  refine G.region (l := [0, 1]) rfl ?_
  refine G.box (dk := K_api_Touch) (y := a0) rfl rfl rfl rfl (VR.A F0) ?_
  intro g1
  refine G.assign rfl rfl rfl rfl ?_
  refine G.regionEnd ?_
  refine G.seq ?_
  refine G.region (l := [0, 1, 2, 3, 4, 5, 6]) rfl ?_
  refine G.field (off' := 0) rfl rfl rfl rfl Try.underlying24 rfl sz3 rfl rfl ?_
  refine G.loadI (y := a0.kind) rfl rfl rfl rfl ty3 (fun w hs => Rd.bk (api_Touch.L_kind _) hs (j := 0) rfl) ?_
  refine G.field (off' := 1) rfl rfl rfl rfl Try.underlying24 rfl sz22 rfl rfl ?_
  refine G.loadI (y := a0.ino) rfl rfl rfl rfl ty22 (fun w hs => Rd.bk (api_Touch.L_ino _) hs (j := 0) rfl) ?_
  have f4 : K_api_Touch.R H (api_Touch.mk a0.kind a0.ino [] 0 0) (([.int .i64 a0.kind] : List Value) ++ (([.int .u32 a0.ino] : List Value) ++ (([strV []] : List Value) ++ (([.int .i64 0] : List Value) ++ (([.int .i64 0] : List Value)))))) := K_api_Touch.mk rfl rfl rfl rfl rfl
  refine G.build (z := .agg (([.int .i64 0] : List Value) ++ (([.int .u32 0] : List Value) ++ (([strV []] : List Value) ++ (([.int .i64 0] : List Value) ++ (([.int .i64 0] : List Value)))))).toArray) (pl := [(0, 1), (1, 1), (2, 1), (3, 1), (4, 1)]) (cs := ([.int .i64 a0.kind] : List Value) ++ (([.int .u32 a0.ino] : List Value) ++ (([strV []] : List Value) ++ (([.int .i64 0] : List Value) ++ (([.int .i64 0] : List Value)))))) rfl rfl rfl Try.underlying24 (by kernel_rfl) rfl (by kernel_rfl) (by kernel_rfl) rfl ?_
  refine G.alloc (dk := K_api_Touch) (x0 := (api_Touch.mk 0 0 [] 0 0)) (z := .agg (([.int .i64 0] : List Value) ++ (([.int .u32 0] : List Value) ++ (([strV []] : List Value) ++ (([.int .i64 0] : List Value) ++ (([.int .i64 0] : List Value)))))).toArray) (cs := ([.int .i64 0] : List Value) ++ (([.int .u32 0] : List Value) ++ (([strV []] : List Value) ++ (([.int .i64 0] : List Value) ++ (([.int .i64 0] : List Value)))))) rfl rfl rfl (by kernel_rfl) rfl (fun H => K_api_Touch.mk rfl rfl rfl rfl rfl) ?_
  intro g5
  refine G.store (df := K_api_Touch) (y := (api_Touch.mk a0.kind a0.ino [] 0 0)) (x1 := (api_Touch.mk a0.kind a0.ino [] 0 0)) rfl rfl rfl rfl (Lens.id _ _) (VR.A f4) sz24 rfl ?_
  refine G.regionEnd ?_
  refine G.seq ?_
  refine G.seq ?_
  refine G.region (l := [0, 1]) rfl ?_
  refine G.field (off' := 0) rfl rfl rfl rfl Try.underlying24 rfl sz3 rfl rfl ?_
  refine G.loadI (y := a0.kind) rfl rfl rfl rfl ty3 (fun w hs => Rd.bk (api_Touch.L_kind _) hs (j := 1) rfl) ?_
  refine G.regionEnd ?_
  refine G.block ?_
  refine G.seq ?_
  refine G.region (l := [0, 1]) rfl ?_
  refine G.cmp (a0.kind = 4) rfl rfl rfl rfl rfl rfl Iff.rfl ?_
  refine G.assign rfl rfl rfl rfl ?_
  refine G.regionEnd ?_
  refine G.tail (fun GG K => ∀ (H177 : PH) (l178 : PH.le H H177) (x179 : api_Touch), reads_Check.j0 a0 x179 = some r → GG H177 [(1, .pointer (some ⟨g1, 0, none⟩)), (3, .pointer (some ⟨g5, 0, none⟩))] (BK 24 K_api_Touch g5 x179 :: BK 24 K_api_Touch g1 a0 :: Fr) K) ?_ ?_
  · intro H177 l178 x179 h
    unfold reads_Check.j0 at h
    refine G.inBlock ?_
    refine G.seq ?_
    refine G.seq ?_
    refine G.region (l := [0, 1, 2, 3, 4, 5, 6, 7]) rfl ?_
    refine G.field (off' := 1) rfl rfl rfl rfl Try.underlying24 rfl sz22 rfl rfl ?_
    refine G.loadI (y := a0.ino) rfl rfl rfl rfl ty22 (fun w hs => Rd.bk (api_Touch.L_ino _) hs (j := 1) rfl) ?_
    refine G.cmp (a0.ino = 0) rfl rfl rfl rfl rfl rfl Iff.rfl ?_
    refine G.move rfl rfl rfl rfl ?_
    refine G.rest (l1 := [4, 5, 6, 7]) (l2 := []) (fun GG K => ∀ (H184 : PH) (l185 : PH.le H177 H184) (b186 : Bool), reads_Check.j1 b186 = some r → GG H184 [(55, .bool b186)] (BK 24 K_api_Touch g5 x179 :: BK 24 K_api_Touch g1 a0 :: Fr) K) ?_ ?_
    · intro H184 l185 b186 h
      unfold reads_Check.j1 at h
      refine G.regionEnd ?_
      refine G.cond rfl (fun k187 => ?_) (fun k187 => ?_)
      · replace h := ifT h k187
        refine G.seq ?_
        refine G.region (l := [0]) rfl ?_
        refine G.assign rfl rfl rfl rfl ?_
        refine G.regionEnd ?_
        refine G.drop ?_
        refine G.drop ?_
        obtain rfl := Option.some.inj h
        exact G.ret1 Try.func10 rfl rfl (fun w hs => ⟨_, _, _, rfl, (PH.le_trans l178 l185), ⟨rfl, rfl⟩, hs⟩)
      · replace h := ifFB h k187
        refine G.skip ?_
        refine G.seq ?_
        refine G.region (l := [0]) rfl ?_
        refine G.assign rfl rfl rfl rfl ?_
        refine G.regionEnd ?_
        refine G.drop ?_
        refine G.drop ?_
        obtain rfl := Option.some.inj h
        exact G.ret1 Try.func10 rfl rfl (fun w hs => ⟨_, _, _, rfl, (PH.le_trans l178 l185), ⟨rfl, rfl⟩, hs⟩)
    intro J188
    refine G.splitP (d := 51) rfl (fun k193 => ?_) (fun k193 => ?_)
    · replace h := ifT h k193
      refine G.unwanted rfl rfl rfl rfl ?_
      refine G.unwanted rfl rfl rfl rfl ?_
      refine G.unwanted rfl rfl rfl rfl ?_
      refine G.pickT rfl rfl rfl rfl rfl ?_
      refine G.front1 ?_
      refine G.front1 ?_
      refine G.less ?_ (J188 H177 (PH.le_refl _) true h)
      exact ⟨rfl, trivial⟩
    · replace h := ifF h k193
      refine G.loadA (df := K_api_Touch) (y := a0) rfl rfl rfl rfl ty24 rfl (fun w hs => Rd.bk (Lens.id _ _) hs (j := 1) rfl) ?_
      intro cs189 f190
      refine G.loadA (df := K_api_Touch) (y := x179) rfl rfl rfl rfl ty24 rfl (fun w hs => Rd.bk (Lens.id _ _) hs (j := 0) rfl) ?_
      intro cs191 f192
      refine G.neqA (dk := K_api_Touch) (x := a0) (y := x179) rfl rfl rfl rfl rfl rfl (by kernel_rfl) eq24 rfl f190 f192 ?_
      refine G.pickF rfl rfl rfl rfl rfl ?_
      refine G.front1 ?_
      refine G.front1 ?_
      refine G.less ?_ (J188 H177 (PH.le_refl _) (decide (a0 ≠ x179)) h)
      exact ⟨rfl, trivial⟩
  intro J194
  refine G.condP rfl (fun k368 => ?_) (fun k368 => ?_)
  · replace h := ifT h k368
    refine G.seq ?_
    refine G.draw reads_Check.ds5 8 [0, 1, 2, 3, 4, 5, 6, 7] [0, 1, 0, 1, 2, 3, 4, 5] [0, 1, 4, 5, 2, 3, 6, 7] rfl (by kernel_rfl) (by kernel_rfl) (by kernel_rfl) (by kernel_rfl) ?_
    intro C206 ops207 k208
    have d16 : ∀ (l : List Nat), Ord reads_Check.ds5 0 [true, true, true, true, true, true, true, true] l → G C206 H [(1, .pointer (some ⟨g1, 0, none⟩)), (3, .pointer (some ⟨g5, 0, none⟩))] (BK 24 K_api_Touch g5 (api_Touch.mk a0.kind a0.ino [] a0.lo a0.hi) :: BK 24 K_api_Touch g1 a0 :: Fr) (.inRegion ops207 l :: k208) := by
      intro  l hl
      refine G.drawnAll hl ?_
      refine G.regionEnd ?_
      refine G.seq ?_
      refine G.region (l := [0, 1, 2, 3, 4, 5, 6, 7, 8, 9, 10, 11, 12, 13, 14]) rfl ?_
      refine G.field (off' := 3) rfl rfl rfl rfl Try.underlying24 rfl sz3 rfl rfl ?_
      refine G.loadI (y := a0.lo) rfl rfl rfl rfl ty3 (fun w hs => Rd.bk (api_Touch.L_lo _) hs (j := 1) rfl) ?_
      refine G.cmp (a0.lo < 0) rfl rfl rfl rfl rfl rfl Iff.rfl ?_
      refine G.move rfl rfl rfl rfl ?_
      refine G.rest (l1 := [4, 5, 6, 7, 8, 9]) (l2 := [10, 11, 12, 13, 14]) (fun GG K => ∀ (H195 : PH) (l196 : PH.le H H195) (b197 : Bool), reads_Check.j2 a0 b197 = some r → GG H195 [(1, .pointer (some ⟨g1, 0, none⟩)), (3, .pointer (some ⟨g5, 0, none⟩)), (28, .bool b197)] (BK 24 K_api_Touch g5 (api_Touch.mk a0.kind a0.ino [] a0.lo a0.hi) :: BK 24 K_api_Touch g1 a0 :: Fr) K) ?_ ?_
      · intro H195 l196 b197 h
        unfold reads_Check.j2 at h
        refine G.move rfl rfl rfl rfl ?_
        refine G.rest (l1 := [11, 12, 13, 14]) (l2 := []) (fun GG K => ∀ (H198 : PH) (l199 : PH.le H195 H198) (b200 : Bool), reads_Check.j3 a0 b200 = some r → GG H198 [(1, .pointer (some ⟨g1, 0, none⟩)), (3, .pointer (some ⟨g5, 0, none⟩)), (33, .bool b200)] (BK 24 K_api_Touch g5 (api_Touch.mk a0.kind a0.ino [] a0.lo a0.hi) :: BK 24 K_api_Touch g1 a0 :: Fr) K) ?_ ?_
        · intro H198 l199 b200 h
          unfold reads_Check.j3 at h
          refine G.regionEnd ?_
          refine G.cond rfl (fun k201 => ?_) (fun k201 => ?_)
          · replace h := ifT h k201
            refine G.seq ?_
            refine G.region (l := [0]) rfl ?_
            refine G.assign rfl rfl rfl rfl ?_
            refine G.regionEnd ?_
            refine G.drop ?_
            refine G.drop ?_
            obtain rfl := Option.some.inj h
            exact G.ret1 Try.func10 rfl rfl (fun w hs => ⟨_, _, _, rfl, (PH.le_trans l196 l199), ⟨rfl, rfl⟩, hs⟩)
          · replace h := ifFB h k201
            refine G.skip ?_
            refine G.front1 ?_
            refine G.front1 ?_
            refine G.less ?_ (J194 H198 (PH.le_trans l196 l199) (api_Touch.mk a0.kind a0.ino [] a0.lo a0.hi) h)
            exact ⟨rfl, rfl, trivial⟩
        intro J202
        refine G.splitB (d := 29) rfl (fun k203 => ?_) (fun k203 => ?_)
        · replace h := ifT h k203
          refine G.unwanted rfl rfl rfl rfl ?_
          refine G.unwanted rfl rfl rfl rfl ?_
          refine G.unwanted rfl rfl rfl rfl ?_
          refine G.pickT rfl rfl rfl rfl rfl ?_
          refine G.front1 ?_
          refine G.front1 ?_
          refine G.less ?_ (J202 H195 (PH.le_refl _) true h)
          exact ⟨rfl, rfl, rfl, trivial⟩
        · replace h := ifFB h k203
          refine G.field (off' := 4) rfl rfl rfl rfl Try.underlying24 rfl sz3 rfl rfl ?_
          refine G.loadI (y := a0.hi) rfl rfl rfl rfl ty3 (fun w hs => Rd.bk (api_Touch.L_hi _) hs (j := 1) rfl) ?_
          refine G.cmp (512 < a0.hi) rfl rfl rfl rfl rfl rfl Iff.rfl ?_
          refine G.pickF rfl rfl rfl rfl rfl ?_
          refine G.front1 ?_
          refine G.front1 ?_
          refine G.less ?_ (J202 H195 (PH.le_refl _) (decide (512 < a0.hi)) h)
          exact ⟨rfl, rfl, rfl, trivial⟩
      intro J204
      refine G.splitP (d := 22) rfl (fun k205 => ?_) (fun k205 => ?_)
      · replace h := ifT h k205
        refine G.unwanted rfl rfl rfl rfl ?_
        refine G.unwanted rfl rfl rfl rfl ?_
        refine G.unwanted rfl rfl rfl rfl ?_
        refine G.unwanted rfl rfl rfl rfl ?_
        refine G.unwanted rfl rfl rfl rfl ?_
        refine G.pickT rfl rfl rfl rfl rfl ?_
        refine G.front1 ?_
        refine G.front1 ?_
        refine G.less ?_ (J204 H (PH.le_refl _) true h)
        exact ⟨rfl, rfl, rfl, trivial⟩
      · replace h := ifF h k205
        refine G.field (off' := 3) rfl rfl rfl rfl Try.underlying24 rfl sz3 rfl rfl ?_
        refine G.loadI (y := a0.lo) rfl rfl rfl rfl ty3 (fun w hs => Rd.bk (api_Touch.L_lo _) hs (j := 1) rfl) ?_
        refine G.field (off' := 4) rfl rfl rfl rfl Try.underlying24 rfl sz3 rfl rfl ?_
        refine G.loadI (y := a0.hi) rfl rfl rfl rfl ty3 (fun w hs => Rd.bk (api_Touch.L_hi _) hs (j := 1) rfl) ?_
        refine G.cmp (a0.hi ≤ a0.lo) rfl rfl rfl rfl rfl rfl Iff.rfl ?_
        refine G.pickF rfl rfl rfl rfl rfl ?_
        refine G.front1 ?_
        refine G.front1 ?_
        refine G.less ?_ (J204 H (PH.le_refl _) (decide (a0.hi ≤ a0.lo)) h)
        exact ⟨rfl, rfl, rfl, trivial⟩
    have d15 : ∀ (l : List Nat), Ord reads_Check.ds5 1 [true, true, true, true, true, true, true, false] l → G C206 H [(1, .pointer (some ⟨g1, 0, none⟩)), (3, .pointer (some ⟨g5, 0, none⟩)), (16, .int .i64 a0.hi), (18, .pointer (some ⟨g5, 4, none⟩))] (BK 24 K_api_Touch g5 (api_Touch.mk a0.kind a0.ino [] a0.lo 0) :: BK 24 K_api_Touch g1 a0 :: Fr) (.inRegion ops207 l :: k208) := by
      intro  l hl
      refine G.fork [7] hl rfl (And.intro ?_ trivial)
      · intro rest ho
        refine G.store (df := (Kd.int .i64)) (y := a0.hi) (x1 := (api_Touch.mk a0.kind a0.ino [] a0.lo a0.hi)) rfl rfl rfl rfl (api_Touch.L_hi _) (VR.I _ _ a0.hi) sz3 rfl ?_
        refine G.front1 ?_
        refine G.front1 ?_
        refine G.less ?_ (d16 rest ho)
        exact ⟨rfl, rfl, trivial⟩
    have d14 : ∀ (l : List Nat), Ord reads_Check.ds5 2 [true, true, true, true, true, true, false, false] l → G C206 H [(1, .pointer (some ⟨g1, 0, none⟩)), (3, .pointer (some ⟨g5, 0, none⟩)), (16, .int .i64 a0.hi)] (BK 24 K_api_Touch g5 (api_Touch.mk a0.kind a0.ino [] a0.lo 0) :: BK 24 K_api_Touch g1 a0 :: Fr) (.inRegion ops207 l :: k208) := by
      intro  l hl
      refine G.fork [6] hl rfl (And.intro ?_ trivial)
      · intro rest ho
        refine G.field (off' := 4) rfl rfl rfl rfl Try.underlying24 rfl sz3 rfl rfl ?_
        refine G.front1 ?_
        refine G.front1 ?_
        refine G.less ?_ (d15 rest ho)
        exact ⟨rfl, rfl, rfl, rfl, trivial⟩
    have d13 : ∀ (l : List Nat), Ord reads_Check.ds5 3 [true, true, true, false, true, true, false, false] l → G C206 H [(1, .pointer (some ⟨g1, 0, none⟩)), (3, .pointer (some ⟨g5, 0, none⟩)), (15, .pointer (some ⟨g1, 4, none⟩))] (BK 24 K_api_Touch g5 (api_Touch.mk a0.kind a0.ino [] a0.lo 0) :: BK 24 K_api_Touch g1 a0 :: Fr) (.inRegion ops207 l :: k208) := by
      intro  l hl
      refine G.fork [3] hl rfl (And.intro ?_ trivial)
      · intro rest ho
        refine G.loadI (y := a0.hi) rfl rfl rfl rfl ty3 (fun w hs => Rd.bk (api_Touch.L_hi _) hs (j := 1) rfl) ?_
        refine G.front1 ?_
        refine G.front1 ?_
        refine G.less ?_ (d14 rest ho)
        exact ⟨rfl, rfl, rfl, trivial⟩
    have d12 : ∀ (l : List Nat), Ord reads_Check.ds5 3 [true, true, true, true, true, false, false, false] l → G C206 H [(1, .pointer (some ⟨g1, 0, none⟩)), (3, .pointer (some ⟨g5, 0, none⟩)), (14, .int .i64 a0.lo), (16, .int .i64 a0.hi), (17, .pointer (some ⟨g5, 3, none⟩))] (BK 24 K_api_Touch g5 (api_Touch.mk a0.kind a0.ino [] 0 0) :: BK 24 K_api_Touch g1 a0 :: Fr) (.inRegion ops207 l :: k208) := by
      intro  l hl
      refine G.fork [5] hl rfl (And.intro ?_ trivial)
      · intro rest ho
        refine G.store (df := (Kd.int .i64)) (y := a0.lo) (x1 := (api_Touch.mk a0.kind a0.ino [] a0.lo 0)) rfl rfl rfl rfl (api_Touch.L_lo _) (VR.I _ _ a0.lo) sz3 rfl ?_
        refine G.front1 ?_
        refine G.front1 ?_
        refine G.less ?_ (d14 rest ho)
        exact ⟨rfl, rfl, rfl, trivial⟩
    have d11 : ∀ (l : List Nat), Ord reads_Check.ds5 4 [true, true, false, false, true, true, false, false] l → G C206 H [(1, .pointer (some ⟨g1, 0, none⟩)), (3, .pointer (some ⟨g5, 0, none⟩))] (BK 24 K_api_Touch g5 (api_Touch.mk a0.kind a0.ino [] a0.lo 0) :: BK 24 K_api_Touch g1 a0 :: Fr) (.inRegion ops207 l :: k208) := by
      intro  l hl
      refine G.fork [2] hl rfl (And.intro ?_ trivial)
      · intro rest ho
        refine G.field (off' := 4) rfl rfl rfl rfl Try.underlying24 rfl sz3 rfl rfl ?_
        refine G.front1 ?_
        refine G.front1 ?_
        refine G.less ?_ (d13 rest ho)
        exact ⟨rfl, rfl, rfl, trivial⟩
    have d10 : ∀ (l : List Nat), Ord reads_Check.ds5 4 [true, true, true, false, true, false, false, false] l → G C206 H [(1, .pointer (some ⟨g1, 0, none⟩)), (3, .pointer (some ⟨g5, 0, none⟩)), (14, .int .i64 a0.lo), (15, .pointer (some ⟨g1, 4, none⟩)), (17, .pointer (some ⟨g5, 3, none⟩))] (BK 24 K_api_Touch g5 (api_Touch.mk a0.kind a0.ino [] 0 0) :: BK 24 K_api_Touch g1 a0 :: Fr) (.inRegion ops207 l :: k208) := by
      intro  l hl
      refine G.fork [3, 5] hl rfl (And.intro ?_ (And.intro ?_ trivial))
      · intro rest ho
        refine G.loadI (y := a0.hi) rfl rfl rfl rfl ty3 (fun w hs => Rd.bk (api_Touch.L_hi _) hs (j := 1) rfl) ?_
        refine G.front1 ?_
        refine G.front1 ?_
        refine G.less ?_ (d12 rest ho)
        exact ⟨rfl, rfl, rfl, rfl, rfl, trivial⟩
      · intro rest ho
        refine G.store (df := (Kd.int .i64)) (y := a0.lo) (x1 := (api_Touch.mk a0.kind a0.ino [] a0.lo 0)) rfl rfl rfl rfl (api_Touch.L_lo _) (VR.I _ _ a0.lo) sz3 rfl ?_
        refine G.front1 ?_
        refine G.front1 ?_
        refine G.less ?_ (d13 rest ho)
        exact ⟨rfl, rfl, rfl, trivial⟩
    have d9 : ∀ (l : List Nat), Ord reads_Check.ds5 4 [true, true, true, true, false, false, false, false] l → G C206 H [(1, .pointer (some ⟨g1, 0, none⟩)), (3, .pointer (some ⟨g5, 0, none⟩)), (14, .int .i64 a0.lo), (16, .int .i64 a0.hi)] (BK 24 K_api_Touch g5 (api_Touch.mk a0.kind a0.ino [] 0 0) :: BK 24 K_api_Touch g1 a0 :: Fr) (.inRegion ops207 l :: k208) := by
      intro  l hl
      refine G.fork [4] hl rfl (And.intro ?_ trivial)
      · intro rest ho
        refine G.field (off' := 3) rfl rfl rfl rfl Try.underlying24 rfl sz3 rfl rfl ?_
        refine G.front1 ?_
        refine G.front1 ?_
        refine G.less ?_ (d12 rest ho)
        exact ⟨rfl, rfl, rfl, rfl, rfl, trivial⟩
    have d8 : ∀ (l : List Nat), Ord reads_Check.ds5 5 [true, false, true, true, false, false, false, false] l → G C206 H [(1, .pointer (some ⟨g1, 0, none⟩)), (3, .pointer (some ⟨g5, 0, none⟩)), (13, .pointer (some ⟨g1, 3, none⟩)), (16, .int .i64 a0.hi)] (BK 24 K_api_Touch g5 (api_Touch.mk a0.kind a0.ino [] 0 0) :: BK 24 K_api_Touch g1 a0 :: Fr) (.inRegion ops207 l :: k208) := by
      intro  l hl
      refine G.fork [1] hl rfl (And.intro ?_ trivial)
      · intro rest ho
        refine G.loadI (y := a0.lo) rfl rfl rfl rfl ty3 (fun w hs => Rd.bk (api_Touch.L_lo _) hs (j := 1) rfl) ?_
        refine G.front1 ?_
        refine G.front1 ?_
        refine G.less ?_ (d9 rest ho)
        exact ⟨rfl, rfl, rfl, rfl, trivial⟩
    have d7 : ∀ (l : List Nat), Ord reads_Check.ds5 5 [true, true, false, false, true, false, false, false] l → G C206 H [(1, .pointer (some ⟨g1, 0, none⟩)), (3, .pointer (some ⟨g5, 0, none⟩)), (14, .int .i64 a0.lo), (17, .pointer (some ⟨g5, 3, none⟩))] (BK 24 K_api_Touch g5 (api_Touch.mk a0.kind a0.ino [] 0 0) :: BK 24 K_api_Touch g1 a0 :: Fr) (.inRegion ops207 l :: k208) := by
      intro  l hl
      refine G.fork [2, 5] hl rfl (And.intro ?_ (And.intro ?_ trivial))
      · intro rest ho
        refine G.field (off' := 4) rfl rfl rfl rfl Try.underlying24 rfl sz3 rfl rfl ?_
        refine G.front1 ?_
        refine G.front1 ?_
        refine G.less ?_ (d10 rest ho)
        exact ⟨rfl, rfl, rfl, rfl, rfl, trivial⟩
      · intro rest ho
        refine G.store (df := (Kd.int .i64)) (y := a0.lo) (x1 := (api_Touch.mk a0.kind a0.ino [] a0.lo 0)) rfl rfl rfl rfl (api_Touch.L_lo _) (VR.I _ _ a0.lo) sz3 rfl ?_
        refine G.front1 ?_
        refine G.front1 ?_
        refine G.less ?_ (d11 rest ho)
        exact ⟨rfl, rfl, trivial⟩
    have d6 : ∀ (l : List Nat), Ord reads_Check.ds5 5 [true, true, true, false, false, false, false, false] l → G C206 H [(1, .pointer (some ⟨g1, 0, none⟩)), (3, .pointer (some ⟨g5, 0, none⟩)), (14, .int .i64 a0.lo), (15, .pointer (some ⟨g1, 4, none⟩))] (BK 24 K_api_Touch g5 (api_Touch.mk a0.kind a0.ino [] 0 0) :: BK 24 K_api_Touch g1 a0 :: Fr) (.inRegion ops207 l :: k208) := by
      intro  l hl
      refine G.fork [3, 4] hl rfl (And.intro ?_ (And.intro ?_ trivial))
      · intro rest ho
        refine G.loadI (y := a0.hi) rfl rfl rfl rfl ty3 (fun w hs => Rd.bk (api_Touch.L_hi _) hs (j := 1) rfl) ?_
        refine G.front1 ?_
        refine G.front1 ?_
        refine G.less ?_ (d9 rest ho)
        exact ⟨rfl, rfl, rfl, rfl, trivial⟩
      · intro rest ho
        refine G.field (off' := 3) rfl rfl rfl rfl Try.underlying24 rfl sz3 rfl rfl ?_
        refine G.front1 ?_
        refine G.front1 ?_
        refine G.less ?_ (d10 rest ho)
        exact ⟨rfl, rfl, rfl, rfl, rfl, trivial⟩
    have d5 : ∀ (l : List Nat), Ord reads_Check.ds5 6 [false, false, true, true, false, false, false, false] l → G C206 H [(1, .pointer (some ⟨g1, 0, none⟩)), (3, .pointer (some ⟨g5, 0, none⟩)), (16, .int .i64 a0.hi)] (BK 24 K_api_Touch g5 (api_Touch.mk a0.kind a0.ino [] 0 0) :: BK 24 K_api_Touch g1 a0 :: Fr) (.inRegion ops207 l :: k208) := by
      intro  l hl
      refine G.fork [0] hl rfl (And.intro ?_ trivial)
      · intro rest ho
        refine G.field (off' := 3) rfl rfl rfl rfl Try.underlying24 rfl sz3 rfl rfl ?_
        refine G.front1 ?_
        refine G.front1 ?_
        refine G.less ?_ (d8 rest ho)
        exact ⟨rfl, rfl, rfl, rfl, trivial⟩
    have d4 : ∀ (l : List Nat), Ord reads_Check.ds5 6 [true, false, true, false, false, false, false, false] l → G C206 H [(1, .pointer (some ⟨g1, 0, none⟩)), (3, .pointer (some ⟨g5, 0, none⟩)), (13, .pointer (some ⟨g1, 3, none⟩)), (15, .pointer (some ⟨g1, 4, none⟩))] (BK 24 K_api_Touch g5 (api_Touch.mk a0.kind a0.ino [] 0 0) :: BK 24 K_api_Touch g1 a0 :: Fr) (.inRegion ops207 l :: k208) := by
      intro  l hl
      refine G.fork [1, 3] hl rfl (And.intro ?_ (And.intro ?_ trivial))
      · intro rest ho
        refine G.loadI (y := a0.lo) rfl rfl rfl rfl ty3 (fun w hs => Rd.bk (api_Touch.L_lo _) hs (j := 1) rfl) ?_
        refine G.front1 ?_
        refine G.front1 ?_
        refine G.less ?_ (d6 rest ho)
        exact ⟨rfl, rfl, rfl, rfl, trivial⟩
      · intro rest ho
        refine G.loadI (y := a0.hi) rfl rfl rfl rfl ty3 (fun w hs => Rd.bk (api_Touch.L_hi _) hs (j := 1) rfl) ?_
        refine G.front1 ?_
        refine G.front1 ?_
        refine G.less ?_ (d8 rest ho)
        exact ⟨rfl, rfl, rfl, rfl, trivial⟩
    have d3 : ∀ (l : List Nat), Ord reads_Check.ds5 6 [true, true, false, false, false, false, false, false] l → G C206 H [(1, .pointer (some ⟨g1, 0, none⟩)), (3, .pointer (some ⟨g5, 0, none⟩)), (14, .int .i64 a0.lo)] (BK 24 K_api_Touch g5 (api_Touch.mk a0.kind a0.ino [] 0 0) :: BK 24 K_api_Touch g1 a0 :: Fr) (.inRegion ops207 l :: k208) := by
      intro  l hl
      refine G.fork [2, 4] hl rfl (And.intro ?_ (And.intro ?_ trivial))
      · intro rest ho
        refine G.field (off' := 4) rfl rfl rfl rfl Try.underlying24 rfl sz3 rfl rfl ?_
        refine G.front1 ?_
        refine G.front1 ?_
        refine G.less ?_ (d6 rest ho)
        exact ⟨rfl, rfl, rfl, rfl, trivial⟩
      · intro rest ho
        refine G.field (off' := 3) rfl rfl rfl rfl Try.underlying24 rfl sz3 rfl rfl ?_
        refine G.front1 ?_
        refine G.front1 ?_
        refine G.less ?_ (d7 rest ho)
        exact ⟨rfl, rfl, rfl, rfl, trivial⟩
    have d2 : ∀ (l : List Nat), Ord reads_Check.ds5 7 [false, false, true, false, false, false, false, false] l → G C206 H [(1, .pointer (some ⟨g1, 0, none⟩)), (3, .pointer (some ⟨g5, 0, none⟩)), (15, .pointer (some ⟨g1, 4, none⟩))] (BK 24 K_api_Touch g5 (api_Touch.mk a0.kind a0.ino [] 0 0) :: BK 24 K_api_Touch g1 a0 :: Fr) (.inRegion ops207 l :: k208) := by
      intro  l hl
      refine G.fork [0, 3] hl rfl (And.intro ?_ (And.intro ?_ trivial))
      · intro rest ho
        refine G.field (off' := 3) rfl rfl rfl rfl Try.underlying24 rfl sz3 rfl rfl ?_
        refine G.front1 ?_
        refine G.front1 ?_
        refine G.less ?_ (d4 rest ho)
        exact ⟨rfl, rfl, rfl, rfl, trivial⟩
      · intro rest ho
        refine G.loadI (y := a0.hi) rfl rfl rfl rfl ty3 (fun w hs => Rd.bk (api_Touch.L_hi _) hs (j := 1) rfl) ?_
        refine G.front1 ?_
        refine G.front1 ?_
        refine G.less ?_ (d5 rest ho)
        exact ⟨rfl, rfl, rfl, trivial⟩
    have d1 : ∀ (l : List Nat), Ord reads_Check.ds5 7 [true, false, false, false, false, false, false, false] l → G C206 H [(1, .pointer (some ⟨g1, 0, none⟩)), (3, .pointer (some ⟨g5, 0, none⟩)), (13, .pointer (some ⟨g1, 3, none⟩))] (BK 24 K_api_Touch g5 (api_Touch.mk a0.kind a0.ino [] 0 0) :: BK 24 K_api_Touch g1 a0 :: Fr) (.inRegion ops207 l :: k208) := by
      intro  l hl
      refine G.fork [1, 2] hl rfl (And.intro ?_ (And.intro ?_ trivial))
      · intro rest ho
        refine G.loadI (y := a0.lo) rfl rfl rfl rfl ty3 (fun w hs => Rd.bk (api_Touch.L_lo _) hs (j := 1) rfl) ?_
        refine G.front1 ?_
        refine G.front1 ?_
        refine G.less ?_ (d3 rest ho)
        exact ⟨rfl, rfl, rfl, trivial⟩
      · intro rest ho
        refine G.field (off' := 4) rfl rfl rfl rfl Try.underlying24 rfl sz3 rfl rfl ?_
        refine G.front1 ?_
        refine G.front1 ?_
        refine G.less ?_ (d4 rest ho)
        exact ⟨rfl, rfl, rfl, rfl, trivial⟩
    have d0 : ∀ (l : List Nat), Ord reads_Check.ds5 8 [false, false, false, false, false, false, false, false] l → G C206 H [(1, .pointer (some ⟨g1, 0, none⟩)), (3, .pointer (some ⟨g5, 0, none⟩))] (BK 24 K_api_Touch g5 (api_Touch.mk a0.kind a0.ino [] 0 0) :: BK 24 K_api_Touch g1 a0 :: Fr) (.inRegion ops207 l :: k208) := by
      intro  l hl
      refine G.fork [0, 2] hl rfl (And.intro ?_ (And.intro ?_ trivial))
      · intro rest ho
        refine G.field (off' := 3) rfl rfl rfl rfl Try.underlying24 rfl sz3 rfl rfl ?_
        refine G.front1 ?_
        refine G.front1 ?_
        refine G.less ?_ (d1 rest ho)
        exact ⟨rfl, rfl, rfl, trivial⟩
      · intro rest ho
        refine G.field (off' := 4) rfl rfl rfl rfl Try.underlying24 rfl sz3 rfl rfl ?_
        refine G.front1 ?_
        refine G.front1 ?_
        refine G.less ?_ (d2 rest ho)
        exact ⟨rfl, rfl, rfl, trivial⟩
    intro l hl
    refine G.less ?_ (d0 l hl)
    exact ⟨rfl, rfl, trivial⟩
  · replace h := ifF h k368
    refine G.seq ?_
    refine G.region (l := [0, 1]) rfl ?_
    refine G.cmp (a0.kind = 5) rfl rfl rfl rfl rfl rfl Iff.rfl ?_
    refine G.assign rfl rfl rfl rfl ?_
    refine G.regionEnd ?_
    refine G.tail (fun GG K => ∀ (H286 : PH) (l287 : PH.le H H286) (x288 : api_Touch), reads_Check.j4 a0 x288 = some r → GG H286 [(1, .pointer (some ⟨g1, 0, none⟩)), (3, .pointer (some ⟨g5, 0, none⟩))] (BK 24 K_api_Touch g5 x288 :: BK 24 K_api_Touch g1 a0 :: Fr) K) ?_ ?_
    · intro H286 l287 x288 h
      unfold reads_Check.j4 at h
      refine G.front1 ?_
      refine G.front1 ?_
      refine G.less ?_ (J194 H286 l287 x288 h)
      exact ⟨rfl, rfl, trivial⟩
    intro J289
    refine G.condP rfl (fun k367 => ?_) (fun k367 => ?_)
    · replace h := ifT h k367
      refine G.seq ?_
      refine G.region (l := [0, 1, 2, 3]) rfl ?_
      refine G.field (off' := 2) rfl rfl rfl rfl Try.underlying24 rfl sz9 rfl rfl ?_
      refine G.loadS (y := a0.name) rfl rfl rfl rfl ty9 (fun w hs => Rd.bk (api_Touch.L_name _) hs (j := 1) rfl) ?_
      refine G.field (off' := 2) rfl rfl rfl rfl Try.underlying24 rfl sz9 rfl rfl ?_
      refine G.store (df := Kd.str) (y := a0.name) (x1 := (api_Touch.mk a0.kind a0.ino a0.name 0 0)) rfl rfl rfl rfl (api_Touch.L_name _) (VR.S _ a0.name) sz9 rfl ?_
      refine G.regionEnd ?_
      refine G.seq ?_
      refine G.region (l := [0, 1, 2]) rfl ?_
      refine G.field (off' := 2) rfl rfl rfl rfl Try.underlying24 rfl sz9 rfl rfl ?_
      refine G.loadS (y := a0.name) rfl rfl rfl rfl ty9 (fun w hs => Rd.bk (api_Touch.L_name _) hs (j := 1) rfl) ?_
      refine G.cmpS (s := a0.name) (u := ([] : Str)) (b := decide (a0.name = ([] : Str))) rfl rfl rfl rfl rfl rfl rfl ?_
      refine G.regionEnd ?_
      refine G.condP rfl (fun k290 => ?_) (fun k290 => ?_)
      · replace h := ifT h k290
        refine G.seq ?_
        refine G.region (l := [0]) rfl ?_
        refine G.assign rfl rfl rfl rfl ?_
        refine G.regionEnd ?_
        refine G.drop ?_
        refine G.drop ?_
        obtain rfl := Option.some.inj h
        exact G.ret1 Try.func10 rfl rfl (fun w hs => ⟨_, _, _, rfl, (PH.le_refl _), ⟨rfl, rfl⟩, hs⟩)
      · replace h := ifF h k290
        refine G.skip ?_
        refine G.front1 ?_
        refine G.front1 ?_
        refine G.less ?_ (J289 H (PH.le_refl _) (api_Touch.mk a0.kind a0.ino a0.name 0 0) h)
        exact ⟨rfl, rfl, trivial⟩
    · replace h := ifF h k367
      refine G.seq ?_
      refine G.seq ?_
      refine G.region (l := [0, 1]) rfl ?_
      refine G.cmp (a0.kind = 1) rfl rfl rfl rfl rfl rfl Iff.rfl ?_
      refine G.assign rfl rfl rfl rfl ?_
      refine G.regionEnd ?_
      refine G.tail (fun GG K => ∀ (H326 : PH) (l327 : PH.le H H326) (b328 : Bool), reads_Check.j5 a0 b328 = some r → GG H326 [(1, .pointer (some ⟨g1, 0, none⟩)), (3, .pointer (some ⟨g5, 0, none⟩)), (42, .bool b328)] (BK 24 K_api_Touch g5 (api_Touch.mk a0.kind a0.ino [] 0 0) :: BK 24 K_api_Touch g1 a0 :: Fr) K) ?_ ?_
      · intro H326 l327 b328 h
        unfold reads_Check.j5 at h
        refine G.cond rfl (fun k329 => ?_) (fun k329 => ?_)
        · replace h := ifT h k329
          refine G.skip ?_
          refine G.front1 ?_
          refine G.front1 ?_
          refine G.less ?_ (J289 H326 l327 (api_Touch.mk a0.kind a0.ino [] 0 0) h)
          exact ⟨rfl, rfl, trivial⟩
        · replace h := ifFB h k329
          refine G.seq ?_
          refine G.region (l := [0]) rfl ?_
          refine G.assign rfl rfl rfl rfl ?_
          refine G.regionEnd ?_
          refine G.drop ?_
          refine G.drop ?_
          obtain rfl := Option.some.inj h
          exact G.ret1 Try.func10 rfl rfl (fun w hs => ⟨_, _, _, rfl, l327, ⟨rfl, rfl⟩, hs⟩)
      intro J330
      refine G.condP rfl (fun k366 => ?_) (fun k366 => ?_)
      · replace h := ifT h k366
        refine G.skip ?_
        refine G.front1 ?_
        refine G.front1 ?_
        refine G.less ?_ (J330 H (PH.le_refl _) (decide (a0.kind = 1)) h)
        exact ⟨rfl, rfl, rfl, trivial⟩
      · replace h := ifF h k366
        refine G.seq ?_
        refine G.region (l := [0, 1]) rfl ?_
        refine G.cmp (a0.kind = 2) rfl rfl rfl rfl rfl rfl Iff.rfl ?_
        refine G.assign rfl rfl rfl rfl ?_
        refine G.regionEnd ?_
        refine G.tail (fun GG K => ∀ (H346 : PH) (l347 : PH.le H H346) (b348 : Bool), reads_Check.j6 a0 b348 = some r → GG H346 [(1, .pointer (some ⟨g1, 0, none⟩)), (3, .pointer (some ⟨g5, 0, none⟩)), (42, .bool b348)] (BK 24 K_api_Touch g5 (api_Touch.mk a0.kind a0.ino [] 0 0) :: BK 24 K_api_Touch g1 a0 :: Fr) K) ?_ ?_
        · intro H346 l347 b348 h
          unfold reads_Check.j6 at h
          refine G.front1 ?_
          refine G.front1 ?_
          refine G.less ?_ (J330 H346 l347 b348 h)
          exact ⟨rfl, rfl, rfl, trivial⟩
        intro J349
        refine G.condP rfl (fun k365 => ?_) (fun k365 => ?_)
        · replace h := ifT h k365
          refine G.skip ?_
          refine G.front1 ?_
          refine G.front1 ?_
          refine G.less ?_ (J349 H (PH.le_refl _) (decide (a0.kind = 2)) h)
          exact ⟨rfl, rfl, rfl, trivial⟩
        · replace h := ifF h k365
          refine G.seq ?_
          refine G.region (l := [0, 1]) rfl ?_
          refine G.cmp (a0.kind = 3) rfl rfl rfl rfl rfl rfl Iff.rfl ?_
          refine G.assign rfl rfl rfl rfl ?_
          refine G.regionEnd ?_
          refine G.tail (fun GG K => ∀ (H355 : PH) (l356 : PH.le H H355) (b357 : Bool), reads_Check.j7 a0 b357 = some r → GG H355 [(1, .pointer (some ⟨g1, 0, none⟩)), (3, .pointer (some ⟨g5, 0, none⟩)), (42, .bool b357)] (BK 24 K_api_Touch g5 (api_Touch.mk a0.kind a0.ino [] 0 0) :: BK 24 K_api_Touch g1 a0 :: Fr) K) ?_ ?_
          · intro H355 l356 b357 h
            unfold reads_Check.j7 at h
            refine G.front1 ?_
            refine G.front1 ?_
            refine G.less ?_ (J349 H355 l356 b357 h)
            exact ⟨rfl, rfl, rfl, trivial⟩
          intro J358
          refine G.condP rfl (fun k364 => ?_) (fun k364 => ?_)
          · replace h := ifT h k364
            refine G.skip ?_
            refine G.front1 ?_
            refine G.front1 ?_
            refine G.less ?_ (J358 H (PH.le_refl _) (decide (a0.kind = 3)) h)
            exact ⟨rfl, rfl, rfl, trivial⟩
          · replace h := ifF h k364
            refine G.seq ?_
            refine G.region (l := [0, 1]) rfl ?_
            refine G.cmp (a0.kind = 6) rfl rfl rfl rfl rfl rfl Iff.rfl ?_
            refine G.assign rfl rfl rfl rfl ?_
            refine G.regionEnd ?_
            refine G.tail (fun GG K => ∀ (H359 : PH) (l360 : PH.le H H359) (b361 : Bool), reads_Check.j8 a0 b361 = some r → GG H359 [(1, .pointer (some ⟨g1, 0, none⟩)), (3, .pointer (some ⟨g5, 0, none⟩)), (42, .bool b361)] (BK 24 K_api_Touch g5 (api_Touch.mk a0.kind a0.ino [] 0 0) :: BK 24 K_api_Touch g1 a0 :: Fr) K) ?_ ?_
            · intro H359 l360 b361 h
              unfold reads_Check.j8 at h
              refine G.front1 ?_
              refine G.front1 ?_
              refine G.less ?_ (J358 H359 l360 b361 h)
              exact ⟨rfl, rfl, rfl, trivial⟩
            intro J362
            refine G.condP rfl (fun k363 => ?_) (fun k363 => ?_)
            · replace h := ifT h k363
              refine G.skip ?_
              refine G.front1 ?_
              refine G.front1 ?_
              refine G.less ?_ (J362 H (PH.le_refl _) (decide (a0.kind = 6)) h)
              exact ⟨rfl, rfl, rfl, trivial⟩
            · replace h := ifF h k363
              refine G.region (l := [0, 1]) rfl ?_
              refine G.cmp (a0.kind = 7) rfl rfl rfl rfl rfl rfl Iff.rfl ?_
              refine G.assign rfl rfl rfl rfl ?_
              refine G.regionEnd ?_
              refine G.front1 ?_
              refine G.front1 ?_
              refine G.less ?_ (J362 H (PH.le_refl _) (decide (a0.kind = 7)) h)
              exact ⟨rfl, rfl, rfl, trivial⟩
set_option maxRecDepth 20000 in
theorem reads_Meet.ok {O : World} {H : PH} {Fr : List Res} (C0 : List Value) (a0 : api_Touch) (F0 : K_api_Touch.R H a0 C0) (C1 : List Value) (a1 : api_Touch) (F1 : K_api_Touch.R H a1 C1) {r : Bool} (h : reads_Meet.f a0 a1 = some r) :
    Ctr Try.prog 12 [.agg C0.toArray, .agg C1.toArray] O H Fr (fun v H' L' => v = .bool r ∧ Fr = L') := by
  refine Ctr.start (n := 78) Try.func12 rfl Try.ntmps12 rfl rfl ?_
  unfold reads_Meet.f at h
  refine G.seq ?_
  refine G.region (l := [0, 1, 2]) rfl ?_
  refine G.box (dk := K_api_Touch) (y := a0) rfl rfl rfl rfl (VR.A F0) ?_
  intro g1
  refine G.box (dk := K_api_Touch) (y := a1) rfl rfl rfl rfl (VR.A F1) ?_
  intro g3
  refine G.assign rfl rfl rfl rfl ?_
  refine G.regionEnd ?_
  refine G.seq ?_
  refine G.seq ?_
  refine G.region (l := [0, 1, 2, 3, 4, 5, 6, 7, 8, 9, 10, 11, 12, 13, 14]) rfl ?_
  refine G.loadA (df := K_api_Touch) (y := a0) rfl rfl rfl rfl ty24 rfl (fun w hs => Rd.bk (Lens.id _ _) hs (j := 1) rfl) ?_
  intro cs5 f6
  obtain ⟨t7, e8, h⟩ := bindS h
  refine G.call rfl rfl rfl rfl call10 (reads_Check.ok cs5 a0 f6 e8) ?_
  rintro v9 H10 L12 l11 ⟨rfl, rfl⟩
  refine G.cmp (t7 ≠ 0) rfl rfl rfl rfl rfl rfl Iff.rfl ?_
  refine G.move rfl rfl rfl rfl ?_
  refine G.rest (l1 := [4, 5, 6, 7]) (l2 := [8, 9, 10, 11, 12, 13, 14]) (fun GG K => ∀ (H21 : PH) (l22 : PH.le H10 H21) (b23 : Bool), reads_Meet.j0 a0 a1 b23 = some r → GG H21 [(2, .pointer (some ⟨g1, 0, none⟩)), (3, .pointer (some ⟨g3, 0, none⟩)), (13, .bool b23)] (BK 24 K_api_Touch g3 a1 :: BK 24 K_api_Touch g1 a0 :: Fr) K) ?_ ?_
  · intro H21 l22 b23 h
    unfold reads_Meet.j0 at h
    refine G.move rfl rfl rfl rfl ?_
    refine G.rest (l1 := [9, 10, 11, 12, 13, 14]) (l2 := []) (fun GG K => ∀ (H24 : PH) (l25 : PH.le H21 H24) (b26 : Bool), reads_Meet.j1 a0 a1 b26 = some r → GG H24 [(2, .pointer (some ⟨g1, 0, none⟩)), (3, .pointer (some ⟨g3, 0, none⟩)), (20, .bool b26)] (BK 24 K_api_Touch g3 a1 :: BK 24 K_api_Touch g1 a0 :: Fr) K) ?_ ?_
    · intro H24 l25 b26 h
      unfold reads_Meet.j1 at h
      refine G.regionEnd ?_
      refine G.cond rfl (fun k96 => ?_) (fun k96 => ?_)
      · replace h := ifT h k96
        refine G.seq ?_
        refine G.region (l := [0]) rfl ?_
        refine G.assign rfl rfl rfl rfl ?_
        refine G.regionEnd ?_
        refine G.drop ?_
        refine G.drop ?_
        obtain rfl := Option.some.inj h
        exact G.ret1 Try.func12 rfl rfl (fun w hs => ⟨_, _, _, rfl, (PH.le_trans (PH.le_trans l11 l22) l25), ⟨rfl, rfl⟩, hs⟩)
      · replace h := ifFB h k96
        refine G.skip ?_
        refine G.seq ?_
        refine G.region (l := [0, 1, 2, 3, 4, 5]) rfl ?_
        refine G.field (off' := 0) rfl rfl rfl rfl Try.underlying24 rfl sz3 rfl rfl ?_
        refine G.loadI (y := a0.kind) rfl rfl rfl rfl ty3 (fun w hs => Rd.bk (api_Touch.L_kind _) hs (j := 1) rfl) ?_
        refine G.field (off' := 0) rfl rfl rfl rfl Try.underlying24 rfl sz3 rfl rfl ?_
        refine G.loadI (y := a1.kind) rfl rfl rfl rfl ty3 (fun w hs => Rd.bk (api_Touch.L_kind _) hs (j := 0) rfl) ?_
        refine G.cmp (a0.kind = a1.kind) rfl rfl rfl rfl rfl rfl Iff.rfl ?_
        refine G.assign rfl rfl rfl rfl ?_
        refine G.regionEnd ?_
        refine G.seq ?_
        refine G.seq ?_
        refine G.region (l := [0, 1]) rfl ?_
        refine G.field (off' := 0) rfl rfl rfl rfl Try.underlying24 rfl sz3 rfl rfl ?_
        refine G.loadI (y := a1.kind) rfl rfl rfl rfl ty3 (fun w hs => Rd.bk (api_Touch.L_kind _) hs (j := 0) rfl) ?_
        refine G.regionEnd ?_
        refine G.block ?_
        refine G.seq ?_
        refine G.block ?_
        refine G.seq ?_
        refine G.block ?_
        refine G.seq ?_
        refine G.block ?_
        refine G.seq ?_
        refine G.block ?_
        refine G.seq ?_
        refine G.seq ?_
        refine G.seq ?_
        refine G.region (l := [0, 1]) rfl ?_
        refine G.cmp (a1.kind = 7) rfl rfl rfl rfl rfl rfl Iff.rfl ?_
        refine G.assign rfl rfl rfl rfl ?_
        refine G.regionEnd ?_
        refine G.condP rfl (fun k95 => ?_) (fun k95 => ?_)
        · replace h := ifT h k95
          refine G.exit rfl ?_
          refine G.region (l := [0]) rfl ?_
          refine G.assign rfl rfl rfl rfl ?_
          refine G.regionEnd ?_
          refine G.inBlock ?_
          refine G.seq ?_
          refine G.seq ?_
          refine G.region (l := [0, 1]) rfl ?_
          refine G.move rfl rfl rfl rfl ?_
          refine G.assign rfl rfl rfl rfl ?_
          refine G.regionEnd ?_
          refine G.drop ?_
          refine G.drop ?_
          obtain rfl := Option.some.inj h
          exact G.ret1 Try.func12 rfl rfl (fun w hs => ⟨_, _, _, rfl, (PH.le_trans (PH.le_trans l11 l22) l25), ⟨rfl, rfl⟩, hs⟩)
        · replace h := ifF h k95
          refine G.skip ?_
          refine G.seq ?_
          refine G.seq ?_
          refine G.seq ?_
          refine G.region (l := [0, 1]) rfl ?_
          refine G.cmp (a1.kind = 1) rfl rfl rfl rfl rfl rfl Iff.rfl ?_
          refine G.assign rfl rfl rfl rfl ?_
          refine G.regionEnd ?_
          refine G.tail (fun GG K => ∀ (H32 : PH) (l33 : PH.le H24 H32) (b34 : Bool), reads_Meet.j2 a0 a1 b34 = some r → GG H32 [(2, .pointer (some ⟨g1, 0, none⟩)), (3, .pointer (some ⟨g3, 0, none⟩)), (5, .bool (decide (a0.kind = a1.kind))), (27, .int .i64 a1.kind), (30, .bool b34)] (BK 24 K_api_Touch g3 a1 :: BK 24 K_api_Touch g1 a0 :: Fr) K) ?_ ?_
          · intro H32 l33 b34 h
            unfold reads_Meet.j2 at h
            refine G.cond rfl (fun k87 => ?_) (fun k87 => ?_)
            · replace h := ifT h k87
              refine G.exit rfl ?_
              refine G.seq ?_
              refine G.seq ?_
              refine G.region (l := [0, 1]) rfl ?_
              refine G.move rfl rfl rfl rfl ?_
              refine G.assign rfl rfl rfl rfl ?_
              refine G.regionEnd ?_
              refine G.drop ?_
              refine G.drop ?_
              obtain rfl := Option.some.inj h
              exact G.ret1 Try.func12 rfl rfl (fun w hs => ⟨_, _, _, rfl, (PH.le_trans (PH.le_trans (PH.le_trans l11 l22) l25) l33), ⟨rfl, rfl⟩, hs⟩)
            · replace h := ifFB h k87
              refine G.skip ?_
              refine G.seq ?_
              refine G.seq ?_
              refine G.region (l := [0, 1]) rfl ?_
              refine G.cmp (a1.kind = 4) rfl rfl rfl rfl rfl rfl Iff.rfl ?_
              refine G.assign rfl rfl rfl rfl ?_
              refine G.regionEnd ?_
              refine G.condP rfl (fun k86 => ?_) (fun k86 => ?_)
              · replace h := ifT h k86
                refine G.exit rfl ?_
                refine G.seq ?_
                refine G.seq ?_
                refine G.region (l := [0, 1, 2, 3, 4, 5, 6, 7, 8, 9, 10, 11, 12, 13, 14, 15]) rfl ?_
                refine G.move rfl rfl rfl rfl ?_
                refine G.move rfl rfl rfl rfl ?_
                refine G.rest (l1 := [2, 3, 4, 5, 6, 7]) (l2 := [8, 9, 10, 11, 12, 13, 14, 15]) (fun GG K => ∀ (H45 : PH) (l46 : PH.le H32 H45) (b47 : Bool), reads_Meet.j3 a0 a1 b47 = some r → GG H45 [(2, .pointer (some ⟨g1, 0, none⟩)), (3, .pointer (some ⟨g3, 0, none⟩)), (46, .bool b47)] (BK 24 K_api_Touch g3 a1 :: BK 24 K_api_Touch g1 a0 :: Fr) K) ?_ ?_
                · intro H45 l46 b47 h
                  unfold reads_Meet.j3 at h
                  refine G.move rfl rfl rfl rfl ?_
                  refine G.rest (l1 := [9, 10, 11, 12, 13, 14]) (l2 := [15]) (fun GG K => ∀ (H48 : PH) (l49 : PH.le H45 H48) (b50 : Bool), reads_Meet.j4 b50 = some r → GG H48 [(53, .bool b50)] (BK 24 K_api_Touch g3 a1 :: BK 24 K_api_Touch g1 a0 :: Fr) K) ?_ ?_
                  · intro H48 l49 b50 h
                    unfold reads_Meet.j4 at h
                    refine G.assign rfl rfl rfl rfl ?_
                    refine G.regionEnd ?_
                    refine G.drop ?_
                    refine G.drop ?_
                    obtain rfl := Option.some.inj h
                    exact G.ret1 Try.func12 rfl rfl (fun w hs => ⟨_, _, _, rfl, (PH.le_trans (PH.le_trans (PH.le_trans (PH.le_trans (PH.le_trans l11 l22) l25) l33) l46) l49), ⟨rfl, rfl⟩, hs⟩)
                  intro J51
                  refine G.splitB (d := 47) rfl (fun k52 => ?_) (fun k52 => ?_)
                  · replace h := ifT h k52
                    refine G.field (off' := 3) rfl rfl rfl rfl Try.underlying24 rfl sz3 rfl rfl ?_
                    refine G.loadI (y := a1.lo) rfl rfl rfl rfl ty3 (fun w hs => Rd.bk (api_Touch.L_lo _) hs (j := 0) rfl) ?_
                    refine G.field (off' := 4) rfl rfl rfl rfl Try.underlying24 rfl sz3 rfl rfl ?_
                    refine G.loadI (y := a0.hi) rfl rfl rfl rfl ty3 (fun w hs => Rd.bk (api_Touch.L_hi _) hs (j := 1) rfl) ?_
                    refine G.cmp (a1.lo < a0.hi) rfl rfl rfl rfl rfl rfl Iff.rfl ?_
                    refine G.pickT rfl rfl rfl rfl rfl ?_
                    refine G.front1 ?_
                    refine G.front1 ?_
                    refine G.less ?_ (J51 H45 (PH.le_refl _) (decide (a1.lo < a0.hi)) h)
                    exact ⟨rfl, trivial⟩
                  · replace h := ifFB h k52
                    refine G.unwanted rfl rfl rfl rfl ?_
                    refine G.unwanted rfl rfl rfl rfl ?_
                    refine G.unwanted rfl rfl rfl rfl ?_
                    refine G.unwanted rfl rfl rfl rfl ?_
                    refine G.unwanted rfl rfl rfl rfl ?_
                    refine G.pickF rfl rfl rfl rfl rfl ?_
                    refine G.front1 ?_
                    refine G.front1 ?_
                    refine G.less ?_ (J51 H45 (PH.le_refl _) false h)
                    exact ⟨rfl, trivial⟩
                intro J53
                refine G.splitP (d := 40) rfl (fun k54 => ?_) (fun k54 => ?_)
                · replace h := ifT h k54
                  refine G.field (off' := 3) rfl rfl rfl rfl Try.underlying24 rfl sz3 rfl rfl ?_
                  refine G.loadI (y := a0.lo) rfl rfl rfl rfl ty3 (fun w hs => Rd.bk (api_Touch.L_lo _) hs (j := 1) rfl) ?_
                  refine G.field (off' := 4) rfl rfl rfl rfl Try.underlying24 rfl sz3 rfl rfl ?_
                  refine G.loadI (y := a1.hi) rfl rfl rfl rfl ty3 (fun w hs => Rd.bk (api_Touch.L_hi _) hs (j := 0) rfl) ?_
                  refine G.cmp (a0.lo < a1.hi) rfl rfl rfl rfl rfl rfl Iff.rfl ?_
                  refine G.pickT rfl rfl rfl rfl rfl ?_
                  refine G.front1 ?_
                  refine G.front1 ?_
                  refine G.less ?_ (J53 H32 (PH.le_refl _) (decide (a0.lo < a1.hi)) h)
                  exact ⟨rfl, rfl, rfl, trivial⟩
                · replace h := ifF h k54
                  refine G.unwanted rfl rfl rfl rfl ?_
                  refine G.unwanted rfl rfl rfl rfl ?_
                  refine G.unwanted rfl rfl rfl rfl ?_
                  refine G.unwanted rfl rfl rfl rfl ?_
                  refine G.unwanted rfl rfl rfl rfl ?_
                  refine G.pickF rfl rfl rfl rfl rfl ?_
                  refine G.front1 ?_
                  refine G.front1 ?_
                  refine G.less ?_ (J53 H32 (PH.le_refl _) false h)
                  exact ⟨rfl, rfl, rfl, trivial⟩
              · replace h := ifF h k86
                refine G.skip ?_
                refine G.seq ?_
                refine G.region (l := [0, 1]) rfl ?_
                refine G.cmp (a1.kind = 5) rfl rfl rfl rfl rfl rfl Iff.rfl ?_
                refine G.assign rfl rfl rfl rfl ?_
                refine G.regionEnd ?_
                refine G.condP rfl (fun k85 => ?_) (fun k85 => ?_)
                · replace h := ifT h k85
                  refine G.exit rfl ?_
                  refine G.seq ?_
                  refine G.seq ?_
                  refine G.region (l := [0, 1, 2, 3, 4, 5, 6, 7, 8, 9, 10, 11, 12, 13]) rfl ?_
                  refine G.move rfl rfl rfl rfl ?_
                  refine G.move rfl rfl rfl rfl ?_
                  refine G.rest (l1 := [2, 3, 4, 5, 6, 7]) (l2 := [8, 9, 10, 11, 12, 13]) (fun GG K => ∀ (H65 : PH) (l66 : PH.le H32 H65) (b67 : Bool), reads_Meet.j5 a0 b67 = some r → GG H65 [(2, .pointer (some ⟨g1, 0, none⟩)), (61, .bool b67)] (BK 24 K_api_Touch g3 a1 :: BK 24 K_api_Touch g1 a0 :: Fr) K) ?_ ?_
                  · intro H65 l66 b67 h
                    unfold reads_Meet.j5 at h
                    refine G.move rfl rfl rfl rfl ?_
                    refine G.rest (l1 := [9, 10, 11, 12]) (l2 := [13]) (fun GG K => ∀ (H68 : PH) (l69 : PH.le H65 H68) (b70 : Bool), reads_Meet.j6 b70 = some r → GG H68 [(66, .bool b70)] (BK 24 K_api_Touch g3 a1 :: BK 24 K_api_Touch g1 a0 :: Fr) K) ?_ ?_
                    · intro H68 l69 b70 h
                      unfold reads_Meet.j6 at h
                      refine G.assign rfl rfl rfl rfl ?_
                      refine G.regionEnd ?_
                      refine G.drop ?_
                      refine G.drop ?_
                      obtain rfl := Option.some.inj h
                      exact G.ret1 Try.func12 rfl rfl (fun w hs => ⟨_, _, _, rfl, (PH.le_trans (PH.le_trans (PH.le_trans (PH.le_trans (PH.le_trans l11 l22) l25) l33) l66) l69), ⟨rfl, rfl⟩, hs⟩)
                    intro J71
                    refine G.splitB (d := 62) rfl (fun k72 => ?_) (fun k72 => ?_)
                    · replace h := ifT h k72
                      refine G.unwanted rfl rfl rfl rfl ?_
                      refine G.unwanted rfl rfl rfl rfl ?_
                      refine G.unwanted rfl rfl rfl rfl ?_
                      refine G.pickT rfl rfl rfl rfl rfl ?_
                      refine G.front1 ?_
                      refine G.front1 ?_
                      refine G.less ?_ (J71 H65 (PH.le_refl _) true h)
                      exact ⟨rfl, trivial⟩
                    · replace h := ifFB h k72
                      refine G.field (off' := 0) rfl rfl rfl rfl Try.underlying24 rfl sz3 rfl rfl ?_
                      refine G.loadI (y := a0.kind) rfl rfl rfl rfl ty3 (fun w hs => Rd.bk (api_Touch.L_kind _) hs (j := 1) rfl) ?_
                      refine G.cmp (a0.kind = 6) rfl rfl rfl rfl rfl rfl Iff.rfl ?_
                      refine G.pickF rfl rfl rfl rfl rfl ?_
                      refine G.front1 ?_
                      refine G.front1 ?_
                      refine G.less ?_ (J71 H65 (PH.le_refl _) (decide (a0.kind = 6)) h)
                      exact ⟨rfl, trivial⟩
                  intro J73
                  refine G.splitP (d := 55) rfl (fun k74 => ?_) (fun k74 => ?_)
                  · replace h := ifT h k74
                    refine G.field (off' := 2) rfl rfl rfl rfl Try.underlying24 rfl sz9 rfl rfl ?_
                    refine G.loadS (y := a0.name) rfl rfl rfl rfl ty9 (fun w hs => Rd.bk (api_Touch.L_name _) hs (j := 1) rfl) ?_
                    refine G.field (off' := 2) rfl rfl rfl rfl Try.underlying24 rfl sz9 rfl rfl ?_
                    refine G.loadS (y := a1.name) rfl rfl rfl rfl ty9 (fun w hs => Rd.bk (api_Touch.L_name _) hs (j := 0) rfl) ?_
                    refine G.cmpS (s := a0.name) (u := a1.name) (b := decide (a0.name = a1.name)) rfl rfl rfl rfl rfl rfl rfl ?_
                    refine G.pickT rfl rfl rfl rfl rfl ?_
                    refine G.front1 ?_
                    refine G.front1 ?_
                    refine G.less ?_ (J73 H32 (PH.le_refl _) (decide (a0.name = a1.name)) h)
                    exact ⟨rfl, rfl, trivial⟩
                  · replace h := ifF h k74
                    refine G.unwanted rfl rfl rfl rfl ?_
                    refine G.unwanted rfl rfl rfl rfl ?_
                    refine G.unwanted rfl rfl rfl rfl ?_
                    refine G.unwanted rfl rfl rfl rfl ?_
                    refine G.unwanted rfl rfl rfl rfl ?_
                    refine G.pickF rfl rfl rfl rfl rfl ?_
                    refine G.front1 ?_
                    refine G.front1 ?_
                    refine G.less ?_ (J73 H32 (PH.le_refl _) false h)
                    exact ⟨rfl, rfl, trivial⟩
                · replace h := ifF h k85
                  refine G.skip ?_
                  refine G.exit rfl ?_
                  refine G.seq ?_
                  refine G.region (l := [0, 1, 2, 3, 4, 5, 6, 7, 8, 9, 10, 11]) rfl ?_
                  refine G.move rfl rfl rfl rfl ?_
                  refine G.move rfl rfl rfl rfl ?_
                  refine G.rest (l1 := [2, 3, 4, 5]) (l2 := [6, 7, 8, 9, 10, 11]) (fun GG K => ∀ (H75 : PH) (l76 : PH.le H32 H75) (b77 : Bool), reads_Meet.j7 a0 b77 = some r → GG H75 [(2, .pointer (some ⟨g1, 0, none⟩)), (72, .bool b77)] (BK 24 K_api_Touch g3 a1 :: BK 24 K_api_Touch g1 a0 :: Fr) K) ?_ ?_
                  · intro H75 l76 b77 h
                    unfold reads_Meet.j7 at h
                    refine G.move rfl rfl rfl rfl ?_
                    refine G.rest (l1 := [7, 8, 9, 10]) (l2 := [11]) (fun GG K => ∀ (H78 : PH) (l79 : PH.le H75 H78) (b80 : Bool), reads_Meet.j8 b80 = some r → GG H78 [(77, .bool b80)] (BK 24 K_api_Touch g3 a1 :: BK 24 K_api_Touch g1 a0 :: Fr) K) ?_ ?_
                    · intro H78 l79 b80 h
                      unfold reads_Meet.j8 at h
                      refine G.assign rfl rfl rfl rfl ?_
                      refine G.regionEnd ?_
                      refine G.drop ?_
                      refine G.drop ?_
                      obtain rfl := Option.some.inj h
                      exact G.ret1 Try.func12 rfl rfl (fun w hs => ⟨_, _, _, rfl, (PH.le_trans (PH.le_trans (PH.le_trans (PH.le_trans (PH.le_trans l11 l22) l25) l33) l76) l79), ⟨rfl, rfl⟩, hs⟩)
                    intro J81
                    refine G.splitB (d := 73) rfl (fun k82 => ?_) (fun k82 => ?_)
                    · replace h := ifT h k82
                      refine G.field (off' := 0) rfl rfl rfl rfl Try.underlying24 rfl sz3 rfl rfl ?_
                      refine G.loadI (y := a0.kind) rfl rfl rfl rfl ty3 (fun w hs => Rd.bk (api_Touch.L_kind _) hs (j := 1) rfl) ?_
                      refine G.cmp (a0.kind ≠ 6) rfl rfl rfl rfl rfl rfl Iff.rfl ?_
                      refine G.pickT rfl rfl rfl rfl rfl ?_
                      refine G.front1 ?_
                      refine G.front1 ?_
                      refine G.less ?_ (J81 H75 (PH.le_refl _) (decide (a0.kind ≠ 6)) h)
                      exact ⟨rfl, trivial⟩
                    · replace h := ifFB h k82
                      refine G.unwanted rfl rfl rfl rfl ?_
                      refine G.unwanted rfl rfl rfl rfl ?_
                      refine G.unwanted rfl rfl rfl rfl ?_
                      refine G.pickF rfl rfl rfl rfl rfl ?_
                      refine G.front1 ?_
                      refine G.front1 ?_
                      refine G.less ?_ (J81 H75 (PH.le_refl _) false h)
                      exact ⟨rfl, trivial⟩
                  intro J83
                  refine G.splitP (d := 68) rfl (fun k84 => ?_) (fun k84 => ?_)
                  · replace h := ifT h k84
                    refine G.field (off' := 0) rfl rfl rfl rfl Try.underlying24 rfl sz3 rfl rfl ?_
                    refine G.loadI (y := a0.kind) rfl rfl rfl rfl ty3 (fun w hs => Rd.bk (api_Touch.L_kind _) hs (j := 1) rfl) ?_
                    refine G.cmp (a0.kind ≠ 7) rfl rfl rfl rfl rfl rfl Iff.rfl ?_
                    refine G.pickT rfl rfl rfl rfl rfl ?_
                    refine G.front1 ?_
                    refine G.front1 ?_
                    refine G.less ?_ (J83 H32 (PH.le_refl _) (decide (a0.kind ≠ 7)) h)
                    exact ⟨rfl, rfl, trivial⟩
                  · replace h := ifF h k84
                    refine G.unwanted rfl rfl rfl rfl ?_
                    refine G.unwanted rfl rfl rfl rfl ?_
                    refine G.unwanted rfl rfl rfl rfl ?_
                    refine G.pickF rfl rfl rfl rfl rfl ?_
                    refine G.front1 ?_
                    refine G.front1 ?_
                    refine G.less ?_ (J83 H32 (PH.le_refl _) false h)
                    exact ⟨rfl, rfl, trivial⟩
          intro J88
          refine G.condP rfl (fun k94 => ?_) (fun k94 => ?_)
          · replace h := ifT h k94
            refine G.skip ?_
            refine G.front1 ?_
            refine G.front1 ?_
            refine G.less ?_ (J88 H24 (PH.le_refl _) (decide (a1.kind = 1)) h)
            exact ⟨rfl, rfl, rfl, rfl, rfl, trivial⟩
          · replace h := ifF h k94
            refine G.seq ?_
            refine G.region (l := [0, 1]) rfl ?_
            refine G.cmp (a1.kind = 2) rfl rfl rfl rfl rfl rfl Iff.rfl ?_
            refine G.assign rfl rfl rfl rfl ?_
            refine G.regionEnd ?_
            refine G.tail (fun GG K => ∀ (H89 : PH) (l90 : PH.le H24 H89) (b91 : Bool), reads_Meet.j9 a0 a1 b91 = some r → GG H89 [(2, .pointer (some ⟨g1, 0, none⟩)), (3, .pointer (some ⟨g3, 0, none⟩)), (5, .bool (decide (a0.kind = a1.kind))), (27, .int .i64 a1.kind), (30, .bool b91)] (BK 24 K_api_Touch g3 a1 :: BK 24 K_api_Touch g1 a0 :: Fr) K) ?_ ?_
            · intro H89 l90 b91 h
              unfold reads_Meet.j9 at h
              refine G.front1 ?_
              refine G.front1 ?_
              refine G.less ?_ (J88 H89 l90 b91 h)
              exact ⟨rfl, rfl, rfl, rfl, rfl, trivial⟩
            intro J92
            refine G.condP rfl (fun k93 => ?_) (fun k93 => ?_)
            · replace h := ifT h k93
              refine G.skip ?_
              refine G.front1 ?_
              refine G.front1 ?_
              refine G.less ?_ (J92 H24 (PH.le_refl _) (decide (a1.kind = 2)) h)
              exact ⟨rfl, rfl, rfl, rfl, rfl, trivial⟩
            · replace h := ifF h k93
              refine G.region (l := [0, 1]) rfl ?_
              refine G.cmp (a1.kind = 3) rfl rfl rfl rfl rfl rfl Iff.rfl ?_
              refine G.assign rfl rfl rfl rfl ?_
              refine G.regionEnd ?_
              refine G.front1 ?_
              refine G.front1 ?_
              refine G.less ?_ (J92 H24 (PH.le_refl _) (decide (a1.kind = 3)) h)
              exact ⟨rfl, rfl, rfl, rfl, rfl, trivial⟩
    intro J97
    refine G.splitB (d := 14) rfl (fun k98 => ?_) (fun k98 => ?_)
    · replace h := ifT h k98
      refine G.unwanted rfl rfl rfl rfl ?_
      refine G.unwanted rfl rfl rfl rfl ?_
      refine G.unwanted rfl rfl rfl rfl ?_
      refine G.unwanted rfl rfl rfl rfl ?_
      refine G.unwanted rfl rfl rfl rfl ?_
      refine G.pickT rfl rfl rfl rfl rfl ?_
      refine G.front1 ?_
      refine G.front1 ?_
      refine G.less ?_ (J97 H21 (PH.le_refl _) true h)
      exact ⟨rfl, rfl, rfl, trivial⟩
    · replace h := ifFB h k98
      refine G.field (off' := 1) rfl rfl rfl rfl Try.underlying24 rfl sz22 rfl rfl ?_
      refine G.loadI (y := a0.ino) rfl rfl rfl rfl ty22 (fun w hs => Rd.bk (api_Touch.L_ino _) hs (j := 1) rfl) ?_
      refine G.field (off' := 1) rfl rfl rfl rfl Try.underlying24 rfl sz22 rfl rfl ?_
      refine G.loadI (y := a1.ino) rfl rfl rfl rfl ty22 (fun w hs => Rd.bk (api_Touch.L_ino _) hs (j := 0) rfl) ?_
      refine G.cmp (a0.ino ≠ a1.ino) rfl rfl rfl rfl rfl rfl Iff.rfl ?_
      refine G.pickF rfl rfl rfl rfl rfl ?_
      refine G.front1 ?_
      refine G.front1 ?_
      refine G.less ?_ (J97 H21 (PH.le_refl _) (decide (a0.ino ≠ a1.ino)) h)
      exact ⟨rfl, rfl, rfl, trivial⟩
  intro J99
  refine G.splitP (d := 9) rfl (fun k108 => ?_) (fun k108 => ?_)
  · replace h := ifT h k108
    refine G.unwanted rfl rfl rfl rfl ?_
    refine G.unwanted rfl rfl rfl rfl ?_
    refine G.unwanted rfl rfl rfl rfl ?_
    refine G.pickT rfl rfl rfl rfl rfl ?_
    refine G.front1 ?_
    refine G.front1 ?_
    refine G.less ?_ (J99 H10 (PH.le_refl _) true h)
    exact ⟨rfl, rfl, rfl, trivial⟩
  · replace h := ifF h k108
    refine G.loadA (df := K_api_Touch) (y := a1) rfl rfl rfl rfl ty24 rfl (fun w hs => Rd.bk (Lens.id _ _) hs (j := 0) rfl) ?_
    intro cs100 f101
    obtain ⟨t102, e103, h⟩ := bindS h
    refine G.call rfl rfl rfl rfl call10 (reads_Check.ok cs100 a1 f101 e103) ?_
    rintro v104 H105 L107 l106 ⟨rfl, rfl⟩
    refine G.cmp (t102 ≠ 0) rfl rfl rfl rfl rfl rfl Iff.rfl ?_
    refine G.pickF rfl rfl rfl rfl rfl ?_
    refine G.front1 ?_
    refine G.front1 ?_
    refine G.less ?_ (J99 H105 l106 (decide (t102 ≠ 0)) h)
    exact ⟨rfl, rfl, rfl, trivial⟩
set_option maxRecDepth 20000 in
theorem armoirelaw15_live.ok {O : World} {H : PH} {Fr : List Res}  {r : Bool} (h : armoirelaw15_live.f  = some r) :
    Ctr Try.prog 9 [] O H Fr (fun v H' L' => v = .bool r ∧ Fr = L') := by
  refine Ctr.start (n := 41) Try.func9 rfl Try.ntmps9 rfl rfl ?_
  unfold armoirelaw15_live.f at h
  refine G.seq ?_
  refine G.region (l := [0]) rfl ?_
  refine G.assign rfl rfl rfl rfl ?_
  refine G.regionEnd ?_
  refine G.seq ?_
  refine G.region (l := [0, 1, 2]) rfl ?_
  have f2 : K_api_Touch.R H (api_Touch.mk 6 1 [] 0 0) (([.int .i64 6] : List Value) ++ (([.int .u32 1] : List Value) ++ (([strV []] : List Value) ++ (([.int .i64 0] : List Value) ++ (([.int .i64 0] : List Value)))))) := K_api_Touch.mk rfl rfl rfl rfl rfl
  refine G.build (z := .agg (([.int .i64 0] : List Value) ++ (([.int .u32 0] : List Value) ++ (([strV []] : List Value) ++ (([.int .i64 0] : List Value) ++ (([.int .i64 0] : List Value)))))).toArray) (pl := [(0, 1), (1, 1), (2, 1), (3, 1), (4, 1)]) (cs := ([.int .i64 6] : List Value) ++ (([.int .u32 1] : List Value) ++ (([strV []] : List Value) ++ (([.int .i64 0] : List Value) ++ (([.int .i64 0] : List Value)))))) rfl rfl rfl Try.underlying24 (by kernel_rfl) rfl (by kernel_rfl) (by kernel_rfl) rfl ?_
  refine G.alloc (dk := K_api_Touch) (x0 := (api_Touch.mk 0 0 [] 0 0)) (z := .agg (([.int .i64 0] : List Value) ++ (([.int .u32 0] : List Value) ++ (([strV []] : List Value) ++ (([.int .i64 0] : List Value) ++ (([.int .i64 0] : List Value)))))).toArray) (cs := ([.int .i64 0] : List Value) ++ (([.int .u32 0] : List Value) ++ (([strV []] : List Value) ++ (([.int .i64 0] : List Value) ++ (([.int .i64 0] : List Value)))))) rfl rfl rfl (by kernel_rfl) rfl (fun H => K_api_Touch.mk rfl rfl rfl rfl rfl) ?_
  intro g3
  refine G.store (df := K_api_Touch) (y := (api_Touch.mk 6 1 [] 0 0)) (x1 := (api_Touch.mk 6 1 [] 0 0)) rfl rfl rfl rfl (Lens.id _ _) (VR.A f2) sz24 rfl ?_
  refine G.regionEnd ?_
  refine G.seq ?_
  refine G.region (l := [0, 1, 2]) rfl ?_
  have f6 : K_api_Touch.R H (api_Touch.mk 5 1 ([98] : Str) 0 0) (([.int .i64 5] : List Value) ++ (([.int .u32 1] : List Value) ++ (([strV ([98] : Str)] : List Value) ++ (([.int .i64 0] : List Value) ++ (([.int .i64 0] : List Value)))))) := K_api_Touch.mk rfl rfl rfl rfl rfl
  refine G.build (z := .agg (([.int .i64 0] : List Value) ++ (([.int .u32 0] : List Value) ++ (([strV []] : List Value) ++ (([.int .i64 0] : List Value) ++ (([.int .i64 0] : List Value)))))).toArray) (pl := [(0, 1), (1, 1), (2, 1), (3, 1), (4, 1)]) (cs := ([.int .i64 5] : List Value) ++ (([.int .u32 1] : List Value) ++ (([strV ([98] : Str)] : List Value) ++ (([.int .i64 0] : List Value) ++ (([.int .i64 0] : List Value)))))) rfl rfl rfl Try.underlying24 (by kernel_rfl) rfl (by kernel_rfl) (by kernel_rfl) rfl ?_
  refine G.alloc (dk := K_api_Touch) (x0 := (api_Touch.mk 0 0 [] 0 0)) (z := .agg (([.int .i64 0] : List Value) ++ (([.int .u32 0] : List Value) ++ (([strV []] : List Value) ++ (([.int .i64 0] : List Value) ++ (([.int .i64 0] : List Value)))))).toArray) (cs := ([.int .i64 0] : List Value) ++ (([.int .u32 0] : List Value) ++ (([strV []] : List Value) ++ (([.int .i64 0] : List Value) ++ (([.int .i64 0] : List Value)))))) rfl rfl rfl (by kernel_rfl) rfl (fun H => K_api_Touch.mk rfl rfl rfl rfl rfl) ?_
  intro g7
  refine G.store (df := K_api_Touch) (y := (api_Touch.mk 5 1 ([98] : Str) 0 0)) (x1 := (api_Touch.mk 5 1 ([98] : Str) 0 0)) rfl rfl rfl rfl (Lens.id _ _) (VR.A f6) sz24 rfl ?_
  refine G.regionEnd ?_
  refine G.seq ?_
  refine G.region (l := [0, 1, 2]) rfl ?_
  have f10 : K_api_Touch.R H (api_Touch.mk 4 2 [] 0 4) (([.int .i64 4] : List Value) ++ (([.int .u32 2] : List Value) ++ (([strV []] : List Value) ++ (([.int .i64 0] : List Value) ++ (([.int .i64 4] : List Value)))))) := K_api_Touch.mk rfl rfl rfl rfl rfl
  refine G.build (z := .agg (([.int .i64 0] : List Value) ++ (([.int .u32 0] : List Value) ++ (([strV []] : List Value) ++ (([.int .i64 0] : List Value) ++ (([.int .i64 0] : List Value)))))).toArray) (pl := [(0, 1), (1, 1), (2, 1), (3, 1), (4, 1)]) (cs := ([.int .i64 4] : List Value) ++ (([.int .u32 2] : List Value) ++ (([strV []] : List Value) ++ (([.int .i64 0] : List Value) ++ (([.int .i64 4] : List Value)))))) rfl rfl rfl Try.underlying24 (by kernel_rfl) rfl (by kernel_rfl) (by kernel_rfl) rfl ?_
  refine G.alloc (dk := K_api_Touch) (x0 := (api_Touch.mk 0 0 [] 0 0)) (z := .agg (([.int .i64 0] : List Value) ++ (([.int .u32 0] : List Value) ++ (([strV []] : List Value) ++ (([.int .i64 0] : List Value) ++ (([.int .i64 0] : List Value)))))).toArray) (cs := ([.int .i64 0] : List Value) ++ (([.int .u32 0] : List Value) ++ (([strV []] : List Value) ++ (([.int .i64 0] : List Value) ++ (([.int .i64 0] : List Value)))))) rfl rfl rfl (by kernel_rfl) rfl (fun H => K_api_Touch.mk rfl rfl rfl rfl rfl) ?_
  intro g11
  refine G.store (df := K_api_Touch) (y := (api_Touch.mk 4 2 [] 0 4)) (x1 := (api_Touch.mk 4 2 [] 0 4)) rfl rfl rfl rfl (Lens.id _ _) (VR.A f10) sz24 rfl ?_
  refine G.regionEnd ?_
  refine G.seq ?_
  refine G.region (l := [0, 1, 2]) rfl ?_
  have f14 : K_api_Touch.R H (api_Touch.mk 4 2 [] 3 9) (([.int .i64 4] : List Value) ++ (([.int .u32 2] : List Value) ++ (([strV []] : List Value) ++ (([.int .i64 3] : List Value) ++ (([.int .i64 9] : List Value)))))) := K_api_Touch.mk rfl rfl rfl rfl rfl
  refine G.build (z := .agg (([.int .i64 0] : List Value) ++ (([.int .u32 0] : List Value) ++ (([strV []] : List Value) ++ (([.int .i64 0] : List Value) ++ (([.int .i64 0] : List Value)))))).toArray) (pl := [(0, 1), (1, 1), (2, 1), (3, 1), (4, 1)]) (cs := ([.int .i64 4] : List Value) ++ (([.int .u32 2] : List Value) ++ (([strV []] : List Value) ++ (([.int .i64 3] : List Value) ++ (([.int .i64 9] : List Value)))))) rfl rfl rfl Try.underlying24 (by kernel_rfl) rfl (by kernel_rfl) (by kernel_rfl) rfl ?_
  refine G.alloc (dk := K_api_Touch) (x0 := (api_Touch.mk 0 0 [] 0 0)) (z := .agg (([.int .i64 0] : List Value) ++ (([.int .u32 0] : List Value) ++ (([strV []] : List Value) ++ (([.int .i64 0] : List Value) ++ (([.int .i64 0] : List Value)))))).toArray) (cs := ([.int .i64 0] : List Value) ++ (([.int .u32 0] : List Value) ++ (([strV []] : List Value) ++ (([.int .i64 0] : List Value) ++ (([.int .i64 0] : List Value)))))) rfl rfl rfl (by kernel_rfl) rfl (fun H => K_api_Touch.mk rfl rfl rfl rfl rfl) ?_
  intro g15
  refine G.store (df := K_api_Touch) (y := (api_Touch.mk 4 2 [] 3 9)) (x1 := (api_Touch.mk 4 2 [] 3 9)) rfl rfl rfl rfl (Lens.id _ _) (VR.A f14) sz24 rfl ?_
  refine G.regionEnd ?_
  refine G.seq ?_
  refine G.region (l := [0, 1, 2]) rfl ?_
  have f18 : K_api_Touch.R H (api_Touch.mk 4 2 [] 4 9) (([.int .i64 4] : List Value) ++ (([.int .u32 2] : List Value) ++ (([strV []] : List Value) ++ (([.int .i64 4] : List Value) ++ (([.int .i64 9] : List Value)))))) := K_api_Touch.mk rfl rfl rfl rfl rfl
  refine G.build (z := .agg (([.int .i64 0] : List Value) ++ (([.int .u32 0] : List Value) ++ (([strV []] : List Value) ++ (([.int .i64 0] : List Value) ++ (([.int .i64 0] : List Value)))))).toArray) (pl := [(0, 1), (1, 1), (2, 1), (3, 1), (4, 1)]) (cs := ([.int .i64 4] : List Value) ++ (([.int .u32 2] : List Value) ++ (([strV []] : List Value) ++ (([.int .i64 4] : List Value) ++ (([.int .i64 9] : List Value)))))) rfl rfl rfl Try.underlying24 (by kernel_rfl) rfl (by kernel_rfl) (by kernel_rfl) rfl ?_
  refine G.alloc (dk := K_api_Touch) (x0 := (api_Touch.mk 0 0 [] 0 0)) (z := .agg (([.int .i64 0] : List Value) ++ (([.int .u32 0] : List Value) ++ (([strV []] : List Value) ++ (([.int .i64 0] : List Value) ++ (([.int .i64 0] : List Value)))))).toArray) (cs := ([.int .i64 0] : List Value) ++ (([.int .u32 0] : List Value) ++ (([strV []] : List Value) ++ (([.int .i64 0] : List Value) ++ (([.int .i64 0] : List Value)))))) rfl rfl rfl (by kernel_rfl) rfl (fun H => K_api_Touch.mk rfl rfl rfl rfl rfl) ?_
  intro g19
  refine G.store (df := K_api_Touch) (y := (api_Touch.mk 4 2 [] 4 9)) (x1 := (api_Touch.mk 4 2 [] 4 9)) rfl rfl rfl rfl (Lens.id _ _) (VR.A f18) sz24 rfl ?_
  refine G.regionEnd ?_
  refine G.seq ?_
  refine G.region (l := [0, 1, 2, 3, 4, 5, 6, 7, 8, 9, 10, 11, 12, 13, 14, 15, 16, 17, 18, 19, 20, 21, 22, 23, 24, 25, 26, 27, 28, 29, 30]) rfl ?_
  refine G.loadA (df := K_api_Touch) (y := (api_Touch.mk 6 1 [] 0 0)) rfl rfl rfl rfl ty24 rfl (fun w hs => Rd.bk (Lens.id _ _) hs (j := 4) rfl) ?_
  intro cs21 f22
  refine G.loadA (df := K_api_Touch) (y := (api_Touch.mk 5 1 ([98] : Str) 0 0)) rfl rfl rfl rfl ty24 rfl (fun w hs => Rd.bk (Lens.id _ _) hs (j := 3) rfl) ?_
  intro cs23 f24
  obtain ⟨t25, e26, h⟩ := bindS h
  refine G.call rfl rfl rfl rfl call12 (reads_Meet.ok cs21 (api_Touch.mk 6 1 [] 0 0) f22 cs23 (api_Touch.mk 5 1 ([98] : Str) 0 0) f24 e26) ?_
  rintro v27 H28 L30 l29 ⟨rfl, rfl⟩
  refine G.move rfl rfl rfl rfl ?_
  refine G.rest (l1 := [4, 5, 6, 7, 8]) (l2 := [9, 10, 11, 12, 13, 14, 15, 16, 17, 18, 19, 20, 21, 22, 23, 24, 25, 26, 27, 28, 29, 30]) (fun GG K => ∀ (H41 : PH) (l42 : PH.le H28 H41) (b43 : Bool), armoirelaw15_live.j0 b43 = some r → GG H41 [(3, .pointer (some ⟨g11, 0, none⟩)), (4, .pointer (some ⟨g15, 0, none⟩)), (5, .pointer (some ⟨g19, 0, none⟩)), (19, .bool b43)] (BK 24 K_api_Touch g19 (api_Touch.mk 4 2 [] 4 9) :: BK 24 K_api_Touch g15 (api_Touch.mk 4 2 [] 3 9) :: BK 24 K_api_Touch g11 (api_Touch.mk 4 2 [] 0 4) :: BK 24 K_api_Touch g7 (api_Touch.mk 5 1 ([98] : Str) 0 0) :: BK 24 K_api_Touch g3 (api_Touch.mk 6 1 [] 0 0) :: Fr) K) ?_ ?_
  · intro H41 l42 b43 h
    unfold armoirelaw15_live.j0 at h
    refine G.move rfl rfl rfl rfl ?_
    refine G.rest (l1 := [10, 11, 12, 13]) (l2 := [14, 15, 16, 17, 18, 19, 20, 21, 22, 23, 24, 25, 26, 27, 28, 29, 30]) (fun GG K => ∀ (H54 : PH) (l55 : PH.le H41 H54) (b56 : Bool), armoirelaw15_live.j1 b56 = some r → GG H54 [(3, .pointer (some ⟨g11, 0, none⟩)), (5, .pointer (some ⟨g19, 0, none⟩)), (24, .bool b56)] (BK 24 K_api_Touch g19 (api_Touch.mk 4 2 [] 4 9) :: BK 24 K_api_Touch g15 (api_Touch.mk 4 2 [] 3 9) :: BK 24 K_api_Touch g11 (api_Touch.mk 4 2 [] 0 4) :: BK 24 K_api_Touch g7 (api_Touch.mk 5 1 ([98] : Str) 0 0) :: BK 24 K_api_Touch g3 (api_Touch.mk 6 1 [] 0 0) :: Fr) K) ?_ ?_
    · intro H54 l55 b56 h
      unfold armoirelaw15_live.j1 at h
      refine G.move rfl rfl rfl rfl ?_
      refine G.rest (l1 := [15, 16, 17, 18, 19]) (l2 := [20, 21, 22, 23, 24, 25, 26, 27, 28, 29, 30]) (fun GG K => ∀ (H67 : PH) (l68 : PH.le H54 H67) (b69 : Bool), armoirelaw15_live.j2 b69 = some r → GG H67 [(30, .bool b69)] (BK 24 K_api_Touch g19 (api_Touch.mk 4 2 [] 4 9) :: BK 24 K_api_Touch g15 (api_Touch.mk 4 2 [] 3 9) :: BK 24 K_api_Touch g11 (api_Touch.mk 4 2 [] 0 4) :: BK 24 K_api_Touch g7 (api_Touch.mk 5 1 ([98] : Str) 0 0) :: BK 24 K_api_Touch g3 (api_Touch.mk 6 1 [] 0 0) :: Fr) K) ?_ ?_
      · intro H67 l68 b69 h
        unfold armoirelaw15_live.j2 at h
        refine G.move rfl rfl rfl rfl ?_
        refine G.rest (l1 := [21, 22, 23, 24]) (l2 := [25, 26, 27, 28, 29, 30]) (fun GG K => ∀ (H80 : PH) (l81 : PH.le H67 H80) (b82 : Bool), armoirelaw15_live.j3 b82 = some r → GG H80 [(35, .bool b82)] (BK 24 K_api_Touch g19 (api_Touch.mk 4 2 [] 4 9) :: BK 24 K_api_Touch g15 (api_Touch.mk 4 2 [] 3 9) :: BK 24 K_api_Touch g11 (api_Touch.mk 4 2 [] 0 4) :: BK 24 K_api_Touch g7 (api_Touch.mk 5 1 ([98] : Str) 0 0) :: BK 24 K_api_Touch g3 (api_Touch.mk 6 1 [] 0 0) :: Fr) K) ?_ ?_
        · intro H80 l81 b82 h
          unfold armoirelaw15_live.j3 at h
          refine G.move rfl rfl rfl rfl ?_
          refine G.rest (l1 := [26, 27, 28, 29]) (l2 := [30]) (fun GG K => ∀ (H91 : PH) (l92 : PH.le H80 H91) (b93 : Bool), armoirelaw15_live.j4 b93 = some r → GG H91 [(40, .bool b93)] (BK 24 K_api_Touch g19 (api_Touch.mk 4 2 [] 4 9) :: BK 24 K_api_Touch g15 (api_Touch.mk 4 2 [] 3 9) :: BK 24 K_api_Touch g11 (api_Touch.mk 4 2 [] 0 4) :: BK 24 K_api_Touch g7 (api_Touch.mk 5 1 ([98] : Str) 0 0) :: BK 24 K_api_Touch g3 (api_Touch.mk 6 1 [] 0 0) :: Fr) K) ?_ ?_
          · intro H91 l92 b93 h
            unfold armoirelaw15_live.j4 at h
            refine G.assign rfl rfl rfl rfl ?_
            refine G.regionEnd ?_
            refine G.drop ?_
            refine G.drop ?_
            refine G.drop ?_
            refine G.drop ?_
            refine G.drop ?_
            obtain rfl := Option.some.inj h
            exact G.ret1 Try.func9 rfl rfl (fun w hs => ⟨_, _, _, rfl, (PH.le_trans (PH.le_trans (PH.le_trans (PH.le_trans (PH.le_trans l29 l42) l55) l68) l81) l92), ⟨rfl, rfl⟩, hs⟩)
          intro J94
          refine G.splitB (d := 36) rfl (fun k103 => ?_) (fun k103 => ?_)
          · replace h := ifT h k103
            have f96 : K_api_Touch.R H80 (api_Touch.mk 0 0 [] 0 0) (([.int .i64 0] : List Value) ++ (([.int .u32 0] : List Value) ++ (([strV []] : List Value) ++ (([.int .i64 0] : List Value) ++ (([.int .i64 0] : List Value)))))) := K_api_Touch.mk rfl rfl rfl rfl rfl
            refine G.build (z := .agg (([.int .i64 0] : List Value) ++ (([.int .u32 0] : List Value) ++ (([strV []] : List Value) ++ (([.int .i64 0] : List Value) ++ (([.int .i64 0] : List Value)))))).toArray) (pl := [(0, 1), (1, 1), (2, 1), (3, 1), (4, 1)]) (cs := ([.int .i64 0] : List Value) ++ (([.int .u32 0] : List Value) ++ (([strV []] : List Value) ++ (([.int .i64 0] : List Value) ++ (([.int .i64 0] : List Value)))))) rfl rfl rfl Try.underlying24 (by kernel_rfl) rfl (by kernel_rfl) (by kernel_rfl) rfl ?_
            obtain ⟨t97, e98, h⟩ := bindS h
            refine G.call rfl rfl rfl rfl call10 (reads_Check.ok (([.int .i64 0] : List Value) ++ (([.int .u32 0] : List Value) ++ (([strV []] : List Value) ++ (([.int .i64 0] : List Value) ++ (([.int .i64 0] : List Value)))))) (api_Touch.mk 0 0 [] 0 0) f96 e98) ?_
            rintro v99 H100 L102 l101 ⟨rfl, rfl⟩
            refine G.cmp (t97 = 1) rfl rfl rfl rfl rfl rfl Iff.rfl ?_
            refine G.pickT rfl rfl rfl rfl rfl ?_
            refine G.front4 ?_
            refine G.front4 ?_
            refine G.front4 ?_
            refine G.front4 ?_
            refine G.front4 ?_
            refine G.less ?_ (J94 H100 l101 (decide (t97 = 1)) h)
            exact ⟨rfl, trivial⟩
          · replace h := ifFB h k103
            refine G.unwanted rfl rfl rfl rfl ?_
            refine G.unwanted rfl rfl rfl rfl ?_
            refine G.unwanted rfl rfl rfl rfl ?_
            refine G.pickF rfl rfl rfl rfl rfl ?_
            refine G.front4 ?_
            refine G.front4 ?_
            refine G.front4 ?_
            refine G.front4 ?_
            refine G.front4 ?_
            refine G.less ?_ (J94 H80 (PH.le_refl _) false h)
            exact ⟨rfl, trivial⟩
        intro J104
        refine G.splitB (d := 31) rfl (fun k115 => ?_) (fun k115 => ?_)
        · replace h := ifT h k115
          have f106 : K_api_Touch.R H67 (api_Touch.mk 3 2 [] 0 0) (([.int .i64 3] : List Value) ++ (([.int .u32 2] : List Value) ++ (([strV []] : List Value) ++ (([.int .i64 0] : List Value) ++ (([.int .i64 0] : List Value)))))) := K_api_Touch.mk rfl rfl rfl rfl rfl
          refine G.build (z := .agg (([.int .i64 0] : List Value) ++ (([.int .u32 0] : List Value) ++ (([strV []] : List Value) ++ (([.int .i64 0] : List Value) ++ (([.int .i64 0] : List Value)))))).toArray) (pl := [(0, 1), (1, 1), (2, 1), (3, 1), (4, 1)]) (cs := ([.int .i64 3] : List Value) ++ (([.int .u32 2] : List Value) ++ (([strV []] : List Value) ++ (([.int .i64 0] : List Value) ++ (([.int .i64 0] : List Value)))))) rfl rfl rfl Try.underlying24 (by kernel_rfl) rfl (by kernel_rfl) (by kernel_rfl) rfl ?_
          have f108 : K_api_Touch.R H67 (api_Touch.mk 7 2 [] 0 0) (([.int .i64 7] : List Value) ++ (([.int .u32 2] : List Value) ++ (([strV []] : List Value) ++ (([.int .i64 0] : List Value) ++ (([.int .i64 0] : List Value)))))) := K_api_Touch.mk rfl rfl rfl rfl rfl
          refine G.build (z := .agg (([.int .i64 0] : List Value) ++ (([.int .u32 0] : List Value) ++ (([strV []] : List Value) ++ (([.int .i64 0] : List Value) ++ (([.int .i64 0] : List Value)))))).toArray) (pl := [(0, 1), (1, 1), (2, 1), (3, 1), (4, 1)]) (cs := ([.int .i64 7] : List Value) ++ (([.int .u32 2] : List Value) ++ (([strV []] : List Value) ++ (([.int .i64 0] : List Value) ++ (([.int .i64 0] : List Value)))))) rfl rfl rfl Try.underlying24 (by kernel_rfl) rfl (by kernel_rfl) (by kernel_rfl) rfl ?_
          obtain ⟨t109, e110, h⟩ := bindS h
          refine G.call rfl rfl rfl rfl call12 (reads_Meet.ok (([.int .i64 3] : List Value) ++ (([.int .u32 2] : List Value) ++ (([strV []] : List Value) ++ (([.int .i64 0] : List Value) ++ (([.int .i64 0] : List Value)))))) (api_Touch.mk 3 2 [] 0 0) f106 (([.int .i64 7] : List Value) ++ (([.int .u32 2] : List Value) ++ (([strV []] : List Value) ++ (([.int .i64 0] : List Value) ++ (([.int .i64 0] : List Value)))))) (api_Touch.mk 7 2 [] 0 0) f108 e110) ?_
          rintro v111 H112 L114 l113 ⟨rfl, rfl⟩
          refine G.pickT rfl rfl rfl rfl rfl ?_
          refine G.front4 ?_
          refine G.front4 ?_
          refine G.front4 ?_
          refine G.front4 ?_
          refine G.front4 ?_
          refine G.less ?_ (J104 H112 l113 t109 h)
          exact ⟨rfl, trivial⟩
        · replace h := ifFB h k115
          refine G.unwanted rfl rfl rfl rfl ?_
          refine G.unwanted rfl rfl rfl rfl ?_
          refine G.unwanted rfl rfl rfl rfl ?_
          refine G.pickF rfl rfl rfl rfl rfl ?_
          refine G.front4 ?_
          refine G.front4 ?_
          refine G.front4 ?_
          refine G.front4 ?_
          refine G.front4 ?_
          refine G.less ?_ (J104 H67 (PH.le_refl _) false h)
          exact ⟨rfl, trivial⟩
      intro J116
      refine G.splitB (d := 25) rfl (fun k127 => ?_) (fun k127 => ?_)
      · replace h := ifT h k127
        refine G.loadA (df := K_api_Touch) (y := (api_Touch.mk 4 2 [] 0 4)) rfl rfl rfl rfl ty24 rfl (fun w hs => Rd.bk (Lens.id _ _) hs (j := 2) rfl) ?_
        intro cs117 f118
        refine G.loadA (df := K_api_Touch) (y := (api_Touch.mk 4 2 [] 4 9)) rfl rfl rfl rfl ty24 rfl (fun w hs => Rd.bk (Lens.id _ _) hs (j := 0) rfl) ?_
        intro cs119 f120
        obtain ⟨t121, e122, h⟩ := bindS h
        refine G.call rfl rfl rfl rfl call12 (reads_Meet.ok cs117 (api_Touch.mk 4 2 [] 0 4) f118 cs119 (api_Touch.mk 4 2 [] 4 9) f120 e122) ?_
        rintro v123 H124 L126 l125 ⟨rfl, rfl⟩
        refine G.not rfl rfl rfl rfl rfl ?_
        refine G.pickT rfl rfl rfl rfl rfl ?_
        refine G.front4 ?_
        refine G.front4 ?_
        refine G.front4 ?_
        refine G.front4 ?_
        refine G.front4 ?_
        refine G.less ?_ (J116 H124 l125 (!t121) h)
        exact ⟨rfl, trivial⟩
      · replace h := ifFB h k127
        refine G.unwanted rfl rfl rfl rfl ?_
        refine G.unwanted rfl rfl rfl rfl ?_
        refine G.unwanted rfl rfl rfl rfl ?_
        refine G.unwanted rfl rfl rfl rfl ?_
        refine G.pickF rfl rfl rfl rfl rfl ?_
        refine G.front4 ?_
        refine G.front4 ?_
        refine G.front4 ?_
        refine G.front4 ?_
        refine G.front4 ?_
        refine G.less ?_ (J116 H54 (PH.le_refl _) false h)
        exact ⟨rfl, trivial⟩
    intro J128
    refine G.splitB (d := 20) rfl (fun k139 => ?_) (fun k139 => ?_)
    · replace h := ifT h k139
      refine G.loadA (df := K_api_Touch) (y := (api_Touch.mk 4 2 [] 0 4)) rfl rfl rfl rfl ty24 rfl (fun w hs => Rd.bk (Lens.id _ _) hs (j := 2) rfl) ?_
      intro cs129 f130
      refine G.loadA (df := K_api_Touch) (y := (api_Touch.mk 4 2 [] 3 9)) rfl rfl rfl rfl ty24 rfl (fun w hs => Rd.bk (Lens.id _ _) hs (j := 1) rfl) ?_
      intro cs131 f132
      obtain ⟨t133, e134, h⟩ := bindS h
      refine G.call rfl rfl rfl rfl call12 (reads_Meet.ok cs129 (api_Touch.mk 4 2 [] 0 4) f130 cs131 (api_Touch.mk 4 2 [] 3 9) f132 e134) ?_
      rintro v135 H136 L138 l137 ⟨rfl, rfl⟩
      refine G.pickT rfl rfl rfl rfl rfl ?_
      refine G.front4 ?_
      refine G.front4 ?_
      refine G.front4 ?_
      refine G.front4 ?_
      refine G.front4 ?_
      refine G.less ?_ (J128 H136 l137 t133 h)
      exact ⟨rfl, rfl, rfl, trivial⟩
    · replace h := ifFB h k139
      refine G.unwanted rfl rfl rfl rfl ?_
      refine G.unwanted rfl rfl rfl rfl ?_
      refine G.unwanted rfl rfl rfl rfl ?_
      refine G.pickF rfl rfl rfl rfl rfl ?_
      refine G.front4 ?_
      refine G.front4 ?_
      refine G.front4 ?_
      refine G.front4 ?_
      refine G.front4 ?_
      refine G.less ?_ (J128 H41 (PH.le_refl _) false h)
      exact ⟨rfl, rfl, rfl, trivial⟩
  intro J140
  refine G.splitB (d := 14) rfl (fun k151 => ?_) (fun k151 => ?_)
  · replace h := ifT h k151
    have f142 : K_api_Touch.R H28 (api_Touch.mk 5 1 ([97] : Str) 0 0) (([.int .i64 5] : List Value) ++ (([.int .u32 1] : List Value) ++ (([strV ([97] : Str)] : List Value) ++ (([.int .i64 0] : List Value) ++ (([.int .i64 0] : List Value)))))) := K_api_Touch.mk rfl rfl rfl rfl rfl
    refine G.build (z := .agg (([.int .i64 0] : List Value) ++ (([.int .u32 0] : List Value) ++ (([strV []] : List Value) ++ (([.int .i64 0] : List Value) ++ (([.int .i64 0] : List Value)))))).toArray) (pl := [(0, 1), (1, 1), (2, 1), (3, 1), (4, 1)]) (cs := ([.int .i64 5] : List Value) ++ (([.int .u32 1] : List Value) ++ (([strV ([97] : Str)] : List Value) ++ (([.int .i64 0] : List Value) ++ (([.int .i64 0] : List Value)))))) rfl rfl rfl Try.underlying24 (by kernel_rfl) rfl (by kernel_rfl) (by kernel_rfl) rfl ?_
    refine G.loadA (df := K_api_Touch) (y := (api_Touch.mk 5 1 ([98] : Str) 0 0)) rfl rfl rfl rfl ty24 rfl (fun w hs => Rd.bk (Lens.id _ _) hs (j := 3) rfl) ?_
    intro cs143 f144
    obtain ⟨t145, e146, h⟩ := bindS h
    refine G.call rfl rfl rfl rfl call12 (reads_Meet.ok (([.int .i64 5] : List Value) ++ (([.int .u32 1] : List Value) ++ (([strV ([97] : Str)] : List Value) ++ (([.int .i64 0] : List Value) ++ (([.int .i64 0] : List Value)))))) (api_Touch.mk 5 1 ([97] : Str) 0 0) f142 cs143 (api_Touch.mk 5 1 ([98] : Str) 0 0) f144 e146) ?_
    rintro v147 H148 L150 l149 ⟨rfl, rfl⟩
    refine G.not rfl rfl rfl rfl rfl ?_
    refine G.pickT rfl rfl rfl rfl rfl ?_
    refine G.front4 ?_
    refine G.front4 ?_
    refine G.front4 ?_
    refine G.front4 ?_
    refine G.front4 ?_
    refine G.less ?_ (J140 H148 l149 (!t145) h)
    exact ⟨rfl, rfl, rfl, rfl, trivial⟩
  · replace h := ifFB h k151
    refine G.unwanted rfl rfl rfl rfl ?_
    refine G.unwanted rfl rfl rfl rfl ?_
    refine G.unwanted rfl rfl rfl rfl ?_
    refine G.unwanted rfl rfl rfl rfl ?_
    refine G.pickF rfl rfl rfl rfl rfl ?_
    refine G.front4 ?_
    refine G.front4 ?_
    refine G.front4 ?_
    refine G.front4 ?_
    refine G.front4 ?_
    refine G.less ?_ (J140 H28 (PH.le_refl _) false h)
    exact ⟨rfl, rfl, rfl, rfl, trivial⟩
set_option maxRecDepth 20000 in
theorem armoireref15_Check.ok {O : World} {H : PH} {Fr : List Res} (C0 : List Value) (a0 : api_Touch) (F0 : K_api_Touch.R H a0 C0) {r : Int} (h : armoireref15_Check.f a0 = some r) :
    Ctr Try.prog 11 [.agg C0.toArray] O H Fr (fun v H' L' => v = .int .i64 r ∧ Fr = L') := by
  refine Ctr.start (n := 65) Try.func11 rfl Try.ntmps11 rfl rfl ?_
  unfold armoireref15_Check.f at h
  refine G.seq ?_
  refine G.region (l := [0, 1]) rfl ?_
  refine G.box (dk := K_api_Touch) (y := a0) rfl rfl rfl rfl (VR.A F0) ?_
  intro g1
  refine G.assign rfl rfl rfl rfl ?_
  refine G.regionEnd ?_
  refine G.seq ?_
  refine G.region (l := [0, 1, 2, 3, 4, 5, 6]) rfl ?_
  refine G.field (off' := 0) rfl rfl rfl rfl Try.underlying24 rfl sz3 rfl rfl ?_
  refine G.loadI (y := a0.kind) rfl rfl rfl rfl ty3 (fun w hs => Rd.bk (api_Touch.L_kind _) hs (j := 0) rfl) ?_
  refine G.field (off' := 1) rfl rfl rfl rfl Try.underlying24 rfl sz22 rfl rfl ?_
  refine G.loadI (y := a0.ino) rfl rfl rfl rfl ty22 (fun w hs => Rd.bk (api_Touch.L_ino _) hs (j := 0) rfl) ?_
  have f4 : K_api_Touch.R H (api_Touch.mk a0.kind a0.ino [] 0 0) (([.int .i64 a0.kind] : List Value) ++ (([.int .u32 a0.ino] : List Value) ++ (([strV []] : List Value) ++ (([.int .i64 0] : List Value) ++ (([.int .i64 0] : List Value)))))) := K_api_Touch.mk rfl rfl rfl rfl rfl
  refine G.build (z := .agg (([.int .i64 0] : List Value) ++ (([.int .u32 0] : List Value) ++ (([strV []] : List Value) ++ (([.int .i64 0] : List Value) ++ (([.int .i64 0] : List Value)))))).toArray) (pl := [(0, 1), (1, 1), (2, 1), (3, 1), (4, 1)]) (cs := ([.int .i64 a0.kind] : List Value) ++ (([.int .u32 a0.ino] : List Value) ++ (([strV []] : List Value) ++ (([.int .i64 0] : List Value) ++ (([.int .i64 0] : List Value)))))) rfl rfl rfl Try.underlying24 (by kernel_rfl) rfl (by kernel_rfl) (by kernel_rfl) rfl ?_
  refine G.alloc (dk := K_api_Touch) (x0 := (api_Touch.mk 0 0 [] 0 0)) (z := .agg (([.int .i64 0] : List Value) ++ (([.int .u32 0] : List Value) ++ (([strV []] : List Value) ++ (([.int .i64 0] : List Value) ++ (([.int .i64 0] : List Value)))))).toArray) (cs := ([.int .i64 0] : List Value) ++ (([.int .u32 0] : List Value) ++ (([strV []] : List Value) ++ (([.int .i64 0] : List Value) ++ (([.int .i64 0] : List Value)))))) rfl rfl rfl (by kernel_rfl) rfl (fun H => K_api_Touch.mk rfl rfl rfl rfl rfl) ?_
  intro g5
  refine G.store (df := K_api_Touch) (y := (api_Touch.mk a0.kind a0.ino [] 0 0)) (x1 := (api_Touch.mk a0.kind a0.ino [] 0 0)) rfl rfl rfl rfl (Lens.id _ _) (VR.A f4) sz24 rfl ?_
  refine G.regionEnd ?_
  refine G.seq ?_
  refine G.region (l := [0, 1, 2, 3]) rfl ?_
  refine G.field (off' := 1) rfl rfl rfl rfl Try.underlying24 rfl sz22 rfl rfl ?_
  refine G.loadI (y := a0.ino) rfl rfl rfl rfl ty22 (fun w hs => Rd.bk (api_Touch.L_ino _) hs (j := 1) rfl) ?_
  refine G.cmp (a0.ino ≠ 0) rfl rfl rfl rfl rfl rfl Iff.rfl ?_
  refine G.assign rfl rfl rfl rfl ?_
  refine G.regionEnd ?_
  refine G.seq ?_
  refine G.seq ?_
  refine G.region (l := [0, 1]) rfl ?_
  refine G.field (off' := 0) rfl rfl rfl rfl Try.underlying24 rfl sz3 rfl rfl ?_
  refine G.loadI (y := a0.kind) rfl rfl rfl rfl ty3 (fun w hs => Rd.bk (api_Touch.L_kind _) hs (j := 1) rfl) ?_
  refine G.regionEnd ?_
  refine G.block ?_
  refine G.seq ?_
  refine G.seq ?_
  refine G.region (l := [0, 1]) rfl ?_
  refine G.cmp (a0.kind = 1) rfl rfl rfl rfl rfl rfl Iff.rfl ?_
  refine G.assign rfl rfl rfl rfl ?_
  refine G.regionEnd ?_
  refine G.tail (fun GG K => ∀ (H42 : PH) (l43 : PH.le H H42) (b44 : Bool), armoireref15_Check.j0 a0 b44 = some r → GG H42 [(1, .pointer (some ⟨g1, 0, none⟩)), (3, .pointer (some ⟨g5, 0, none⟩)), (4, .bool (decide (a0.ino ≠ 0))), (14, .int .i64 a0.kind), (15, .bool b44)] (BK 24 K_api_Touch g5 (api_Touch.mk a0.kind a0.ino [] 0 0) :: BK 24 K_api_Touch g1 a0 :: Fr) K) ?_ ?_
  · intro H42 l43 b44 h
    unfold armoireref15_Check.j0 at h
    refine G.tail (fun GG K => ∀ (H113 : PH) (l114 : PH.le H42 H113) (b115 : Bool) (x116 : api_Touch), armoireref15_Check.j1 a0 b115 x116 = some r → GG H113 [(1, .pointer (some ⟨g1, 0, none⟩)), (3, .pointer (some ⟨g5, 0, none⟩)), (4, .bool b115)] (BK 24 K_api_Touch g5 x116 :: BK 24 K_api_Touch g1 a0 :: Fr) K) ?_ ?_
    · intro H113 l114 b115 x116 h
      unfold armoireref15_Check.j1 at h
      refine G.inBlock ?_
      refine G.seq ?_
      refine G.seq ?_
      refine G.region (l := [0, 1, 2, 3, 4, 5, 6]) rfl ?_
      refine G.move rfl rfl rfl rfl ?_
      refine G.not rfl rfl rfl rfl rfl ?_
      refine G.move rfl rfl rfl rfl ?_
      refine G.rest (l1 := [3, 4, 5, 6]) (l2 := []) (fun GG K => ∀ (H121 : PH) (l122 : PH.le H113 H121) (b123 : Bool), armoireref15_Check.j2 b123 = some r → GG H121 [(64, .bool b123)] (BK 24 K_api_Touch g5 x116 :: BK 24 K_api_Touch g1 a0 :: Fr) K) ?_ ?_
      · intro H121 l122 b123 h
        unfold armoireref15_Check.j2 at h
        refine G.regionEnd ?_
        refine G.cond rfl (fun k124 => ?_) (fun k124 => ?_)
        · replace h := ifT h k124
          refine G.seq ?_
          refine G.region (l := [0]) rfl ?_
          refine G.assign rfl rfl rfl rfl ?_
          refine G.regionEnd ?_
          refine G.drop ?_
          refine G.drop ?_
          obtain rfl := Option.some.inj h
          exact G.ret1 Try.func11 rfl rfl (fun w hs => ⟨_, _, _, rfl, (PH.le_trans (PH.le_trans l43 l114) l122), ⟨rfl, rfl⟩, hs⟩)
        · replace h := ifFB h k124
          refine G.skip ?_
          refine G.seq ?_
          refine G.region (l := [0]) rfl ?_
          refine G.assign rfl rfl rfl rfl ?_
          refine G.regionEnd ?_
          refine G.drop ?_
          refine G.drop ?_
          obtain rfl := Option.some.inj h
          exact G.ret1 Try.func11 rfl rfl (fun w hs => ⟨_, _, _, rfl, (PH.le_trans (PH.le_trans l43 l114) l122), ⟨rfl, rfl⟩, hs⟩)
      intro J125
      refine G.splitB (d := 60) rfl (fun k130 => ?_) (fun k130 => ?_)
      · replace h := ifT h k130
        refine G.unwanted rfl rfl rfl rfl ?_
        refine G.unwanted rfl rfl rfl rfl ?_
        refine G.unwanted rfl rfl rfl rfl ?_
        refine G.pickT rfl rfl rfl rfl rfl ?_
        refine G.front1 ?_
        refine G.front1 ?_
        refine G.less ?_ (J125 H113 (PH.le_refl _) true h)
        exact ⟨rfl, trivial⟩
      · replace h := ifFB h k130
        refine G.loadA (df := K_api_Touch) (y := a0) rfl rfl rfl rfl ty24 rfl (fun w hs => Rd.bk (Lens.id _ _) hs (j := 1) rfl) ?_
        intro cs126 f127
        refine G.loadA (df := K_api_Touch) (y := x116) rfl rfl rfl rfl ty24 rfl (fun w hs => Rd.bk (Lens.id _ _) hs (j := 0) rfl) ?_
        intro cs128 f129
        refine G.neqA (dk := K_api_Touch) (x := a0) (y := x116) rfl rfl rfl rfl rfl rfl (by kernel_rfl) eq24 rfl f127 f129 ?_
        refine G.pickF rfl rfl rfl rfl rfl ?_
        refine G.front1 ?_
        refine G.front1 ?_
        refine G.less ?_ (J125 H113 (PH.le_refl _) (decide (a0 ≠ x116)) h)
        exact ⟨rfl, trivial⟩
    intro J131
    refine G.cond rfl (fun k200 => ?_) (fun k200 => ?_)
    · replace h := ifT h k200
      refine G.skip ?_
      refine G.front1 ?_
      refine G.front1 ?_
      refine G.less ?_ (J131 H42 (PH.le_refl _) (decide (a0.ino ≠ 0)) (api_Touch.mk a0.kind a0.ino [] 0 0) h)
      exact ⟨rfl, rfl, rfl, trivial⟩
    · replace h := ifFB h k200
      refine G.seq ?_
      refine G.region (l := [0, 1]) rfl ?_
      refine G.cmp (a0.kind = 4) rfl rfl rfl rfl rfl rfl Iff.rfl ?_
      refine G.assign rfl rfl rfl rfl ?_
      refine G.regionEnd ?_
      refine G.tail (fun GG K => ∀ (H163 : PH) (l164 : PH.le H42 H163) (b165 : Bool) (x166 : api_Touch), armoireref15_Check.j3 a0 b165 x166 = some r → GG H163 [(1, .pointer (some ⟨g1, 0, none⟩)), (3, .pointer (some ⟨g5, 0, none⟩)), (4, .bool b165)] (BK 24 K_api_Touch g5 x166 :: BK 24 K_api_Touch g1 a0 :: Fr) K) ?_ ?_
      · intro H163 l164 b165 x166 h
        unfold armoireref15_Check.j3 at h
        refine G.front1 ?_
        refine G.front1 ?_
        refine G.less ?_ (J131 H163 l164 b165 x166 h)
        exact ⟨rfl, rfl, rfl, trivial⟩
      intro J167
      refine G.condP rfl (fun k199 => ?_) (fun k199 => ?_)
      · replace h := ifT h k199
        refine G.seq ?_
        refine G.region (l := [0, 1, 2, 3]) rfl ?_
        refine G.field (off' := 3) rfl rfl rfl rfl Try.underlying24 rfl sz3 rfl rfl ?_
        refine G.loadI (y := a0.lo) rfl rfl rfl rfl ty3 (fun w hs => Rd.bk (api_Touch.L_lo _) hs (j := 1) rfl) ?_
        refine G.field (off' := 3) rfl rfl rfl rfl Try.underlying24 rfl sz3 rfl rfl ?_
        refine G.store (df := (Kd.int .i64)) (y := a0.lo) (x1 := (api_Touch.mk a0.kind a0.ino [] a0.lo 0)) rfl rfl rfl rfl (api_Touch.L_lo _) (VR.I _ _ a0.lo) sz3 rfl ?_
        refine G.regionEnd ?_
        refine G.seq ?_
        refine G.region (l := [0, 1, 2, 3]) rfl ?_
        refine G.field (off' := 4) rfl rfl rfl rfl Try.underlying24 rfl sz3 rfl rfl ?_
        refine G.loadI (y := a0.hi) rfl rfl rfl rfl ty3 (fun w hs => Rd.bk (api_Touch.L_hi _) hs (j := 1) rfl) ?_
        refine G.field (off' := 4) rfl rfl rfl rfl Try.underlying24 rfl sz3 rfl rfl ?_
        refine G.store (df := (Kd.int .i64)) (y := a0.hi) (x1 := (api_Touch.mk a0.kind a0.ino [] a0.lo a0.hi)) rfl rfl rfl rfl (api_Touch.L_hi _) (VR.I _ _ a0.hi) sz3 rfl ?_
        refine G.regionEnd ?_
        refine G.region (l := [0, 1, 2, 3, 4, 5, 6, 7, 8, 9, 10, 11, 12, 13, 14, 15, 16, 17, 18]) rfl ?_
        refine G.move rfl rfl rfl rfl ?_
        refine G.move rfl rfl rfl rfl ?_
        refine G.rest (l1 := [2, 3, 4, 5]) (l2 := [6, 7, 8, 9, 10, 11, 12, 13, 14, 15, 16, 17, 18]) (fun GG K => ∀ (H168 : PH) (l169 : PH.le H42 H168) (b170 : Bool), armoireref15_Check.j4 a0 b170 = some r → GG H168 [(1, .pointer (some ⟨g1, 0, none⟩)), (3, .pointer (some ⟨g5, 0, none⟩)), (34, .bool b170)] (BK 24 K_api_Touch g5 (api_Touch.mk a0.kind a0.ino [] a0.lo a0.hi) :: BK 24 K_api_Touch g1 a0 :: Fr) K) ?_ ?_
        · intro H168 l169 b170 h
          unfold armoireref15_Check.j4 at h
          refine G.move rfl rfl rfl rfl ?_
          refine G.rest (l1 := [7, 8, 9, 10, 11, 12]) (l2 := [13, 14, 15, 16, 17, 18]) (fun GG K => ∀ (H171 : PH) (l172 : PH.le H168 H171) (b173 : Bool), armoireref15_Check.j5 a0 b173 = some r → GG H171 [(1, .pointer (some ⟨g1, 0, none⟩)), (3, .pointer (some ⟨g5, 0, none⟩)), (41, .bool b173)] (BK 24 K_api_Touch g5 (api_Touch.mk a0.kind a0.ino [] a0.lo a0.hi) :: BK 24 K_api_Touch g1 a0 :: Fr) K) ?_ ?_
          · intro H171 l172 b173 h
            unfold armoireref15_Check.j5 at h
            refine G.move rfl rfl rfl rfl ?_
            refine G.rest (l1 := [14, 15, 16, 17]) (l2 := [18]) (fun GG K => ∀ (H174 : PH) (l175 : PH.le H171 H174) (b176 : Bool), armoireref15_Check.j6 a0 b176 = some r → GG H174 [(1, .pointer (some ⟨g1, 0, none⟩)), (3, .pointer (some ⟨g5, 0, none⟩)), (46, .bool b176)] (BK 24 K_api_Touch g5 (api_Touch.mk a0.kind a0.ino [] a0.lo a0.hi) :: BK 24 K_api_Touch g1 a0 :: Fr) K) ?_ ?_
            · intro H174 l175 b176 h
              unfold armoireref15_Check.j6 at h
              refine G.assign rfl rfl rfl rfl ?_
              refine G.regionEnd ?_
              refine G.front1 ?_
              refine G.front1 ?_
              refine G.less ?_ (J167 H174 (PH.le_trans (PH.le_trans l169 l172) l175) b176 (api_Touch.mk a0.kind a0.ino [] a0.lo a0.hi) h)
              exact ⟨rfl, rfl, rfl, trivial⟩
            intro J177
            refine G.splitB (d := 42) rfl (fun k178 => ?_) (fun k178 => ?_)
            · replace h := ifT h k178
              refine G.field (off' := 4) rfl rfl rfl rfl Try.underlying24 rfl sz3 rfl rfl ?_
              refine G.loadI (y := a0.hi) rfl rfl rfl rfl ty3 (fun w hs => Rd.bk (api_Touch.L_hi _) hs (j := 1) rfl) ?_
              refine G.cmp (a0.hi ≤ 512) rfl rfl rfl rfl rfl rfl Iff.rfl ?_
              refine G.pickT rfl rfl rfl rfl rfl ?_
              refine G.front1 ?_
              refine G.front1 ?_
              refine G.less ?_ (J177 H171 (PH.le_refl _) (decide (a0.hi ≤ 512)) h)
              exact ⟨rfl, rfl, rfl, trivial⟩
            · replace h := ifFB h k178
              refine G.unwanted rfl rfl rfl rfl ?_
              refine G.unwanted rfl rfl rfl rfl ?_
              refine G.unwanted rfl rfl rfl rfl ?_
              refine G.pickF rfl rfl rfl rfl rfl ?_
              refine G.front1 ?_
              refine G.front1 ?_
              refine G.less ?_ (J177 H171 (PH.le_refl _) false h)
              exact ⟨rfl, rfl, rfl, trivial⟩
          intro J179
          refine G.splitB (d := 35) rfl (fun k180 => ?_) (fun k180 => ?_)
          · replace h := ifT h k180
            refine G.field (off' := 3) rfl rfl rfl rfl Try.underlying24 rfl sz3 rfl rfl ?_
            refine G.loadI (y := a0.lo) rfl rfl rfl rfl ty3 (fun w hs => Rd.bk (api_Touch.L_lo _) hs (j := 1) rfl) ?_
            refine G.field (off' := 4) rfl rfl rfl rfl Try.underlying24 rfl sz3 rfl rfl ?_
            refine G.loadI (y := a0.hi) rfl rfl rfl rfl ty3 (fun w hs => Rd.bk (api_Touch.L_hi _) hs (j := 1) rfl) ?_
            refine G.cmp (a0.lo < a0.hi) rfl rfl rfl rfl rfl rfl Iff.rfl ?_
            refine G.pickT rfl rfl rfl rfl rfl ?_
            refine G.front1 ?_
            refine G.front1 ?_
            refine G.less ?_ (J179 H168 (PH.le_refl _) (decide (a0.lo < a0.hi)) h)
            exact ⟨rfl, rfl, rfl, trivial⟩
          · replace h := ifFB h k180
            refine G.unwanted rfl rfl rfl rfl ?_
            refine G.unwanted rfl rfl rfl rfl ?_
            refine G.unwanted rfl rfl rfl rfl ?_
            refine G.unwanted rfl rfl rfl rfl ?_
            refine G.unwanted rfl rfl rfl rfl ?_
            refine G.pickF rfl rfl rfl rfl rfl ?_
            refine G.front1 ?_
            refine G.front1 ?_
            refine G.less ?_ (J179 H168 (PH.le_refl _) false h)
            exact ⟨rfl, rfl, rfl, trivial⟩
        intro J181
        refine G.splitP (d := 30) rfl (fun k182 => ?_) (fun k182 => ?_)
        · replace h := ifT h k182
          refine G.field (off' := 3) rfl rfl rfl rfl Try.underlying24 rfl sz3 rfl rfl ?_
          refine G.loadI (y := a0.lo) rfl rfl rfl rfl ty3 (fun w hs => Rd.bk (api_Touch.L_lo _) hs (j := 1) rfl) ?_
          refine G.cmp (0 ≤ a0.lo) rfl rfl rfl rfl rfl rfl Iff.rfl ?_
          refine G.pickT rfl rfl rfl rfl rfl ?_
          refine G.front1 ?_
          refine G.front1 ?_
          refine G.less ?_ (J181 H42 (PH.le_refl _) (decide (0 ≤ a0.lo)) h)
          exact ⟨rfl, rfl, rfl, trivial⟩
        · replace h := ifF h k182
          refine G.unwanted rfl rfl rfl rfl ?_
          refine G.unwanted rfl rfl rfl rfl ?_
          refine G.unwanted rfl rfl rfl rfl ?_
          refine G.pickF rfl rfl rfl rfl rfl ?_
          refine G.front1 ?_
          refine G.front1 ?_
          refine G.less ?_ (J181 H42 (PH.le_refl _) false h)
          exact ⟨rfl, rfl, rfl, trivial⟩
      · replace h := ifF h k199
        refine G.seq ?_
        refine G.region (l := [0, 1]) rfl ?_
        refine G.cmp (a0.kind = 5) rfl rfl rfl rfl rfl rfl Iff.rfl ?_
        refine G.assign rfl rfl rfl rfl ?_
        refine G.regionEnd ?_
        refine G.tail (fun GG K => ∀ (H188 : PH) (l189 : PH.le H42 H188) (b190 : Bool) (x191 : api_Touch), armoireref15_Check.j7 a0 b190 x191 = some r → GG H188 [(1, .pointer (some ⟨g1, 0, none⟩)), (3, .pointer (some ⟨g5, 0, none⟩)), (4, .bool b190)] (BK 24 K_api_Touch g5 x191 :: BK 24 K_api_Touch g1 a0 :: Fr) K) ?_ ?_
        · intro H188 l189 b190 x191 h
          unfold armoireref15_Check.j7 at h
          refine G.front1 ?_
          refine G.front1 ?_
          refine G.less ?_ (J167 H188 l189 b190 x191 h)
          exact ⟨rfl, rfl, rfl, trivial⟩
        intro J192
        refine G.condP rfl (fun k198 => ?_) (fun k198 => ?_)
        · replace h := ifT h k198
          refine G.seq ?_
          refine G.region (l := [0, 1, 2, 3]) rfl ?_
          refine G.field (off' := 2) rfl rfl rfl rfl Try.underlying24 rfl sz9 rfl rfl ?_
          refine G.loadS (y := a0.name) rfl rfl rfl rfl ty9 (fun w hs => Rd.bk (api_Touch.L_name _) hs (j := 1) rfl) ?_
          refine G.field (off' := 2) rfl rfl rfl rfl Try.underlying24 rfl sz9 rfl rfl ?_
          refine G.store (df := Kd.str) (y := a0.name) (x1 := (api_Touch.mk a0.kind a0.ino a0.name 0 0)) rfl rfl rfl rfl (api_Touch.L_name _) (VR.S _ a0.name) sz9 rfl ?_
          refine G.regionEnd ?_
          refine G.region (l := [0, 1, 2, 3, 4, 5, 6]) rfl ?_
          refine G.move rfl rfl rfl rfl ?_
          refine G.move rfl rfl rfl rfl ?_
          refine G.rest (l1 := [2, 3, 4, 5]) (l2 := [6]) (fun GG K => ∀ (H193 : PH) (l194 : PH.le H42 H193) (b195 : Bool), armoireref15_Check.j8 a0 b195 = some r → GG H193 [(1, .pointer (some ⟨g1, 0, none⟩)), (3, .pointer (some ⟨g5, 0, none⟩)), (57, .bool b195)] (BK 24 K_api_Touch g5 (api_Touch.mk a0.kind a0.ino a0.name 0 0) :: BK 24 K_api_Touch g1 a0 :: Fr) K) ?_ ?_
          · intro H193 l194 b195 h
            unfold armoireref15_Check.j8 at h
            refine G.assign rfl rfl rfl rfl ?_
            refine G.regionEnd ?_
            refine G.front1 ?_
            refine G.front1 ?_
            refine G.less ?_ (J192 H193 l194 b195 (api_Touch.mk a0.kind a0.ino a0.name 0 0) h)
            exact ⟨rfl, rfl, rfl, trivial⟩
          intro J196
          refine G.splitP (d := 53) rfl (fun k197 => ?_) (fun k197 => ?_)
          · replace h := ifT h k197
            refine G.field (off' := 2) rfl rfl rfl rfl Try.underlying24 rfl sz9 rfl rfl ?_
            refine G.loadS (y := a0.name) rfl rfl rfl rfl ty9 (fun w hs => Rd.bk (api_Touch.L_name _) hs (j := 1) rfl) ?_
            refine G.cmpS (s := a0.name) (u := ([] : Str)) (b := decide (a0.name ≠ ([] : Str))) rfl rfl rfl rfl rfl rfl rfl ?_
            refine G.pickT rfl rfl rfl rfl rfl ?_
            refine G.front1 ?_
            refine G.front1 ?_
            refine G.less ?_ (J196 H42 (PH.le_refl _) (decide (a0.name ≠ ([] : Str))) h)
            exact ⟨rfl, rfl, rfl, trivial⟩
          · replace h := ifF h k197
            refine G.unwanted rfl rfl rfl rfl ?_
            refine G.unwanted rfl rfl rfl rfl ?_
            refine G.unwanted rfl rfl rfl rfl ?_
            refine G.pickF rfl rfl rfl rfl rfl ?_
            refine G.front1 ?_
            refine G.front1 ?_
            refine G.less ?_ (J196 H42 (PH.le_refl _) false h)
            exact ⟨rfl, rfl, rfl, trivial⟩
        · replace h := ifF h k198
          refine G.region (l := [0]) rfl ?_
          refine G.assign rfl rfl rfl rfl ?_
          refine G.regionEnd ?_
          refine G.front1 ?_
          refine G.front1 ?_
          refine G.less ?_ (J192 H42 (PH.le_refl _) false (api_Touch.mk a0.kind a0.ino [] 0 0) h)
          exact ⟨rfl, rfl, rfl, trivial⟩
  intro J201
  refine G.condP rfl (fun k237 => ?_) (fun k237 => ?_)
  · replace h := ifT h k237
    refine G.skip ?_
    refine G.front1 ?_
    refine G.front1 ?_
    refine G.less ?_ (J201 H (PH.le_refl _) (decide (a0.kind = 1)) h)
    exact ⟨rfl, rfl, rfl, rfl, rfl, trivial⟩
  · replace h := ifF h k237
    refine G.seq ?_
    refine G.region (l := [0, 1]) rfl ?_
    refine G.cmp (a0.kind = 2) rfl rfl rfl rfl rfl rfl Iff.rfl ?_
    refine G.assign rfl rfl rfl rfl ?_
    refine G.regionEnd ?_
    refine G.tail (fun GG K => ∀ (H217 : PH) (l218 : PH.le H H217) (b219 : Bool), armoireref15_Check.j9 a0 b219 = some r → GG H217 [(1, .pointer (some ⟨g1, 0, none⟩)), (3, .pointer (some ⟨g5, 0, none⟩)), (4, .bool (decide (a0.ino ≠ 0))), (14, .int .i64 a0.kind), (15, .bool b219)] (BK 24 K_api_Touch g5 (api_Touch.mk a0.kind a0.ino [] 0 0) :: BK 24 K_api_Touch g1 a0 :: Fr) K) ?_ ?_
    · intro H217 l218 b219 h
      unfold armoireref15_Check.j9 at h
      refine G.front1 ?_
      refine G.front1 ?_
      refine G.less ?_ (J201 H217 l218 b219 h)
      exact ⟨rfl, rfl, rfl, rfl, rfl, trivial⟩
    intro J220
    refine G.condP rfl (fun k236 => ?_) (fun k236 => ?_)
    · replace h := ifT h k236
      refine G.skip ?_
      refine G.front1 ?_
      refine G.front1 ?_
      refine G.less ?_ (J220 H (PH.le_refl _) (decide (a0.kind = 2)) h)
      exact ⟨rfl, rfl, rfl, rfl, rfl, trivial⟩
    · replace h := ifF h k236
      refine G.seq ?_
      refine G.region (l := [0, 1]) rfl ?_
      refine G.cmp (a0.kind = 3) rfl rfl rfl rfl rfl rfl Iff.rfl ?_
      refine G.assign rfl rfl rfl rfl ?_
      refine G.regionEnd ?_
      refine G.tail (fun GG K => ∀ (H226 : PH) (l227 : PH.le H H226) (b228 : Bool), armoireref15_Check.j10 a0 b228 = some r → GG H226 [(1, .pointer (some ⟨g1, 0, none⟩)), (3, .pointer (some ⟨g5, 0, none⟩)), (4, .bool (decide (a0.ino ≠ 0))), (14, .int .i64 a0.kind), (15, .bool b228)] (BK 24 K_api_Touch g5 (api_Touch.mk a0.kind a0.ino [] 0 0) :: BK 24 K_api_Touch g1 a0 :: Fr) K) ?_ ?_
      · intro H226 l227 b228 h
        unfold armoireref15_Check.j10 at h
        refine G.front1 ?_
        refine G.front1 ?_
        refine G.less ?_ (J220 H226 l227 b228 h)
        exact ⟨rfl, rfl, rfl, rfl, rfl, trivial⟩
      intro J229
      refine G.condP rfl (fun k235 => ?_) (fun k235 => ?_)
      · replace h := ifT h k235
        refine G.skip ?_
        refine G.front1 ?_
        refine G.front1 ?_
        refine G.less ?_ (J229 H (PH.le_refl _) (decide (a0.kind = 3)) h)
        exact ⟨rfl, rfl, rfl, rfl, rfl, trivial⟩
      · replace h := ifF h k235
        refine G.seq ?_
        refine G.region (l := [0, 1]) rfl ?_
        refine G.cmp (a0.kind = 6) rfl rfl rfl rfl rfl rfl Iff.rfl ?_
        refine G.assign rfl rfl rfl rfl ?_
        refine G.regionEnd ?_
        refine G.tail (fun GG K => ∀ (H230 : PH) (l231 : PH.le H H230) (b232 : Bool), armoireref15_Check.j11 a0 b232 = some r → GG H230 [(1, .pointer (some ⟨g1, 0, none⟩)), (3, .pointer (some ⟨g5, 0, none⟩)), (4, .bool (decide (a0.ino ≠ 0))), (14, .int .i64 a0.kind), (15, .bool b232)] (BK 24 K_api_Touch g5 (api_Touch.mk a0.kind a0.ino [] 0 0) :: BK 24 K_api_Touch g1 a0 :: Fr) K) ?_ ?_
        · intro H230 l231 b232 h
          unfold armoireref15_Check.j11 at h
          refine G.front1 ?_
          refine G.front1 ?_
          refine G.less ?_ (J229 H230 l231 b232 h)
          exact ⟨rfl, rfl, rfl, rfl, rfl, trivial⟩
        intro J233
        refine G.condP rfl (fun k234 => ?_) (fun k234 => ?_)
        · replace h := ifT h k234
          refine G.skip ?_
          refine G.front1 ?_
          refine G.front1 ?_
          refine G.less ?_ (J233 H (PH.le_refl _) (decide (a0.kind = 6)) h)
          exact ⟨rfl, rfl, rfl, rfl, rfl, trivial⟩
        · replace h := ifF h k234
          refine G.region (l := [0, 1]) rfl ?_
          refine G.cmp (a0.kind = 7) rfl rfl rfl rfl rfl rfl Iff.rfl ?_
          refine G.assign rfl rfl rfl rfl ?_
          refine G.regionEnd ?_
          refine G.front1 ?_
          refine G.front1 ?_
          refine G.less ?_ (J233 H (PH.le_refl _) (decide (a0.kind = 7)) h)
          exact ⟨rfl, rfl, rfl, rfl, rfl, trivial⟩
set_option maxRecDepth 20000 in
theorem armoireref15_Meet.ok {O : World} {H : PH} {Fr : List Res} (C0 : List Value) (a0 : api_Touch) (F0 : K_api_Touch.R H a0 C0) (C1 : List Value) (a1 : api_Touch) (F1 : K_api_Touch.R H a1 C1) {r : Bool} (h : armoireref15_Meet.f a0 a1 = some r) :
    Ctr Try.prog 13 [.agg C0.toArray, .agg C1.toArray] O H Fr (fun v H' L' => v = .bool r ∧ Fr = L') := by
  refine Ctr.start (n := 67) Try.func13 rfl Try.ntmps13 rfl rfl ?_
  unfold armoireref15_Meet.f at h
  refine G.seq ?_
  refine G.region (l := [0, 1, 2]) rfl ?_
  refine G.box (dk := K_api_Touch) (y := a0) rfl rfl rfl rfl (VR.A F0) ?_
  intro g1
  refine G.box (dk := K_api_Touch) (y := a1) rfl rfl rfl rfl (VR.A F1) ?_
  intro g3
  refine G.assign rfl rfl rfl rfl ?_
  refine G.regionEnd ?_
  refine G.seq ?_
  refine G.seq ?_
  refine G.region (l := [0, 1, 2, 3, 4, 5, 6, 7, 8, 9, 10, 11, 12, 13, 14]) rfl ?_
  refine G.loadA (df := K_api_Touch) (y := a0) rfl rfl rfl rfl ty24 rfl (fun w hs => Rd.bk (Lens.id _ _) hs (j := 1) rfl) ?_
  intro cs5 f6
  obtain ⟨t7, e8, h⟩ := bindS h
  refine G.call rfl rfl rfl rfl call11 (armoireref15_Check.ok cs5 a0 f6 e8) ?_
  rintro v9 H10 L12 l11 ⟨rfl, rfl⟩
  refine G.cmp (t7 ≠ 0) rfl rfl rfl rfl rfl rfl Iff.rfl ?_
  refine G.move rfl rfl rfl rfl ?_
  refine G.rest (l1 := [4, 5, 6, 7]) (l2 := [8, 9, 10, 11, 12, 13, 14]) (fun GG K => ∀ (H21 : PH) (l22 : PH.le H10 H21) (b23 : Bool), armoireref15_Meet.j0 a0 a1 b23 = some r → GG H21 [(2, .pointer (some ⟨g1, 0, none⟩)), (3, .pointer (some ⟨g3, 0, none⟩)), (12, .bool b23)] (BK 24 K_api_Touch g3 a1 :: BK 24 K_api_Touch g1 a0 :: Fr) K) ?_ ?_
  · intro H21 l22 b23 h
    unfold armoireref15_Meet.j0 at h
    refine G.move rfl rfl rfl rfl ?_
    refine G.rest (l1 := [9, 10, 11, 12, 13, 14]) (l2 := []) (fun GG K => ∀ (H24 : PH) (l25 : PH.le H21 H24) (b26 : Bool), armoireref15_Meet.j1 a0 a1 b26 = some r → GG H24 [(2, .pointer (some ⟨g1, 0, none⟩)), (3, .pointer (some ⟨g3, 0, none⟩)), (19, .bool b26)] (BK 24 K_api_Touch g3 a1 :: BK 24 K_api_Touch g1 a0 :: Fr) K) ?_ ?_
    · intro H24 l25 b26 h
      unfold armoireref15_Meet.j1 at h
      refine G.regionEnd ?_
      refine G.cond rfl (fun k158 => ?_) (fun k158 => ?_)
      · replace h := ifT h k158
        refine G.seq ?_
        refine G.region (l := [0]) rfl ?_
        refine G.assign rfl rfl rfl rfl ?_
        refine G.regionEnd ?_
        refine G.drop ?_
        refine G.drop ?_
        obtain rfl := Option.some.inj h
        exact G.ret1 Try.func13 rfl rfl (fun w hs => ⟨_, _, _, rfl, (PH.le_trans (PH.le_trans l11 l22) l25), ⟨rfl, rfl⟩, hs⟩)
      · replace h := ifFB h k158
        refine G.skip ?_
        refine G.seq ?_
        refine G.block ?_
        refine G.seq ?_
        refine G.region (l := [0, 1, 2, 3]) rfl ?_
        refine G.field (off' := 0) rfl rfl rfl rfl Try.underlying24 rfl sz3 rfl rfl ?_
        refine G.loadI (y := a1.kind) rfl rfl rfl rfl ty3 (fun w hs => Rd.bk (api_Touch.L_kind _) hs (j := 0) rfl) ?_
        refine G.cmp (a1.kind = 7) rfl rfl rfl rfl rfl rfl Iff.rfl ?_
        refine G.assign rfl rfl rfl rfl ?_
        refine G.regionEnd ?_
        refine G.condP rfl (fun k157 => ?_) (fun k157 => ?_)
        · replace h := ifT h k157
          refine G.seq ?_
          refine G.region (l := [0]) rfl ?_
          refine G.assign rfl rfl rfl rfl ?_
          refine G.regionEnd ?_
          refine G.drop ?_
          refine G.drop ?_
          obtain rfl := Option.some.inj h
          exact G.ret1 Try.func13 rfl rfl (fun w hs => ⟨_, _, _, rfl, (PH.le_trans (PH.le_trans l11 l22) l25), ⟨rfl, rfl⟩, hs⟩)
        · replace h := ifF h k157
          refine G.seq ?_
          refine G.region (l := [0, 1, 2, 3]) rfl ?_
          refine G.field (off' := 0) rfl rfl rfl rfl Try.underlying24 rfl sz3 rfl rfl ?_
          refine G.loadI (y := a0.kind) rfl rfl rfl rfl ty3 (fun w hs => Rd.bk (api_Touch.L_kind _) hs (j := 1) rfl) ?_
          refine G.cmp (a0.kind = 6) rfl rfl rfl rfl rfl rfl Iff.rfl ?_
          refine G.assign rfl rfl rfl rfl ?_
          refine G.regionEnd ?_
          refine G.condP rfl (fun k156 => ?_) (fun k156 => ?_)
          · replace h := ifT h k156
            refine G.seq ?_
            refine G.region (l := [0, 1, 2, 3]) rfl ?_
            refine G.field (off' := 0) rfl rfl rfl rfl Try.underlying24 rfl sz3 rfl rfl ?_
            refine G.loadI (y := a1.kind) rfl rfl rfl rfl ty3 (fun w hs => Rd.bk (api_Touch.L_kind _) hs (j := 0) rfl) ?_
            refine G.cmp (a1.kind = 5) rfl rfl rfl rfl rfl rfl Iff.rfl ?_
            refine G.assign rfl rfl rfl rfl ?_
            refine G.regionEnd ?_
            refine G.drop ?_
            refine G.drop ?_
            obtain rfl := Option.some.inj h
            exact G.ret1 Try.func13 rfl rfl (fun w hs => ⟨_, _, _, rfl, (PH.le_trans (PH.le_trans l11 l22) l25), ⟨rfl, rfl⟩, hs⟩)
          · replace h := ifF h k156
            refine G.seq ?_
            refine G.region (l := [0, 1, 2, 3, 4, 5, 6, 7, 8, 9, 10]) rfl ?_
            refine G.field (off' := 0) rfl rfl rfl rfl Try.underlying24 rfl sz3 rfl rfl ?_
            refine G.loadI (y := a0.kind) rfl rfl rfl rfl ty3 (fun w hs => Rd.bk (api_Touch.L_kind _) hs (j := 1) rfl) ?_
            refine G.field (off' := 0) rfl rfl rfl rfl Try.underlying24 rfl sz3 rfl rfl ?_
            refine G.loadI (y := a1.kind) rfl rfl rfl rfl ty3 (fun w hs => Rd.bk (api_Touch.L_kind _) hs (j := 0) rfl) ?_
            refine G.cmp (a0.kind ≠ a1.kind) rfl rfl rfl rfl rfl rfl Iff.rfl ?_
            refine G.move rfl rfl rfl rfl ?_
            refine G.rest (l1 := [6, 7, 8, 9]) (l2 := [10]) (fun GG K => ∀ (H124 : PH) (l125 : PH.le H24 H124) (b126 : Bool), armoireref15_Meet.j2 a0 a1 b126 = some r → GG H124 [(2, .pointer (some ⟨g1, 0, none⟩)), (3, .pointer (some ⟨g3, 0, none⟩)), (41, .bool b126)] (BK 24 K_api_Touch g3 a1 :: BK 24 K_api_Touch g1 a0 :: Fr) K) ?_ ?_
            · intro H124 l125 b126 h
              unfold armoireref15_Meet.j2 at h
              refine G.assign rfl rfl rfl rfl ?_
              refine G.regionEnd ?_
              refine G.cond rfl (fun k153 => ?_) (fun k153 => ?_)
              · replace h := ifT h k153
                refine G.seq ?_
                refine G.region (l := [0]) rfl ?_
                refine G.assign rfl rfl rfl rfl ?_
                refine G.regionEnd ?_
                refine G.drop ?_
                refine G.drop ?_
                obtain rfl := Option.some.inj h
                exact G.ret1 Try.func13 rfl rfl (fun w hs => ⟨_, _, _, rfl, (PH.le_trans (PH.le_trans (PH.le_trans l11 l22) l25) l125), ⟨rfl, rfl⟩, hs⟩)
              · replace h := ifFB h k153
                refine G.seq ?_
                refine G.region (l := [0, 1, 2, 3]) rfl ?_
                refine G.field (off' := 0) rfl rfl rfl rfl Try.underlying24 rfl sz3 rfl rfl ?_
                refine G.loadI (y := a0.kind) rfl rfl rfl rfl ty3 (fun w hs => Rd.bk (api_Touch.L_kind _) hs (j := 1) rfl) ?_
                refine G.cmp (a0.kind = 4) rfl rfl rfl rfl rfl rfl Iff.rfl ?_
                refine G.assign rfl rfl rfl rfl ?_
                refine G.regionEnd ?_
                refine G.condP rfl (fun k152 => ?_) (fun k152 => ?_)
                · replace h := ifT h k152
                  refine G.seq ?_
                  refine G.region (l := [0, 1, 2, 3, 4, 5, 6, 7, 8, 9, 10, 11, 12]) rfl ?_
                  refine G.field (off' := 3) rfl rfl rfl rfl Try.underlying24 rfl sz3 rfl rfl ?_
                  refine G.loadI (y := a0.lo) rfl rfl rfl rfl ty3 (fun w hs => Rd.bk (api_Touch.L_lo _) hs (j := 1) rfl) ?_
                  refine G.field (off' := 4) rfl rfl rfl rfl Try.underlying24 rfl sz3 rfl rfl ?_
                  refine G.loadI (y := a1.hi) rfl rfl rfl rfl ty3 (fun w hs => Rd.bk (api_Touch.L_hi _) hs (j := 0) rfl) ?_
                  refine G.cmp (a0.lo < a1.hi) rfl rfl rfl rfl rfl rfl Iff.rfl ?_
                  refine G.move rfl rfl rfl rfl ?_
                  refine G.rest (l1 := [6, 7, 8, 9, 10, 11]) (l2 := [12]) (fun GG K => ∀ (H146 : PH) (l147 : PH.le H124 H146) (b148 : Bool), armoireref15_Meet.j3 b148 = some r → GG H146 [(57, .bool b148)] (BK 24 K_api_Touch g3 a1 :: BK 24 K_api_Touch g1 a0 :: Fr) K) ?_ ?_
                  · intro H146 l147 b148 h
                    unfold armoireref15_Meet.j3 at h
                    refine G.assign rfl rfl rfl rfl ?_
                    refine G.regionEnd ?_
                    refine G.drop ?_
                    refine G.drop ?_
                    obtain rfl := Option.some.inj h
                    exact G.ret1 Try.func13 rfl rfl (fun w hs => ⟨_, _, _, rfl, (PH.le_trans (PH.le_trans (PH.le_trans (PH.le_trans l11 l22) l25) l125) l147), ⟨rfl, rfl⟩, hs⟩)
                  intro J149
                  refine G.splitP (d := 51) rfl (fun k150 => ?_) (fun k150 => ?_)
                  · replace h := ifT h k150
                    refine G.field (off' := 3) rfl rfl rfl rfl Try.underlying24 rfl sz3 rfl rfl ?_
                    refine G.loadI (y := a1.lo) rfl rfl rfl rfl ty3 (fun w hs => Rd.bk (api_Touch.L_lo _) hs (j := 0) rfl) ?_
                    refine G.field (off' := 4) rfl rfl rfl rfl Try.underlying24 rfl sz3 rfl rfl ?_
                    refine G.loadI (y := a0.hi) rfl rfl rfl rfl ty3 (fun w hs => Rd.bk (api_Touch.L_hi _) hs (j := 1) rfl) ?_
                    refine G.cmp (a1.lo < a0.hi) rfl rfl rfl rfl rfl rfl Iff.rfl ?_
                    refine G.pickT rfl rfl rfl rfl rfl ?_
                    refine G.front1 ?_
                    refine G.front1 ?_
                    refine G.less ?_ (J149 H124 (PH.le_refl _) (decide (a1.lo < a0.hi)) h)
                    exact ⟨rfl, trivial⟩
                  · replace h := ifF h k150
                    refine G.unwanted rfl rfl rfl rfl ?_
                    refine G.unwanted rfl rfl rfl rfl ?_
                    refine G.unwanted rfl rfl rfl rfl ?_
                    refine G.unwanted rfl rfl rfl rfl ?_
                    refine G.unwanted rfl rfl rfl rfl ?_
                    refine G.pickF rfl rfl rfl rfl rfl ?_
                    refine G.front1 ?_
                    refine G.front1 ?_
                    refine G.less ?_ (J149 H124 (PH.le_refl _) false h)
                    exact ⟨rfl, trivial⟩
                · replace h := ifF h k152
                  refine G.seq ?_
                  refine G.region (l := [0, 1, 2, 3]) rfl ?_
                  refine G.field (off' := 0) rfl rfl rfl rfl Try.underlying24 rfl sz3 rfl rfl ?_
                  refine G.loadI (y := a0.kind) rfl rfl rfl rfl ty3 (fun w hs => Rd.bk (api_Touch.L_kind _) hs (j := 1) rfl) ?_
                  refine G.cmp (a0.kind = 5) rfl rfl rfl rfl rfl rfl Iff.rfl ?_
                  refine G.assign rfl rfl rfl rfl ?_
                  refine G.regionEnd ?_
                  refine G.condP rfl (fun k151 => ?_) (fun k151 => ?_)
                  · replace h := ifT h k151
                    refine G.seq ?_
                    refine G.region (l := [0, 1, 2, 3, 4, 5]) rfl ?_
                    refine G.field (off' := 2) rfl rfl rfl rfl Try.underlying24 rfl sz9 rfl rfl ?_
                    refine G.loadS (y := a0.name) rfl rfl rfl rfl ty9 (fun w hs => Rd.bk (api_Touch.L_name _) hs (j := 1) rfl) ?_
                    refine G.field (off' := 2) rfl rfl rfl rfl Try.underlying24 rfl sz9 rfl rfl ?_
                    refine G.loadS (y := a1.name) rfl rfl rfl rfl ty9 (fun w hs => Rd.bk (api_Touch.L_name _) hs (j := 0) rfl) ?_
                    refine G.cmpS (s := a0.name) (u := a1.name) (b := decide (a0.name = a1.name)) rfl rfl rfl rfl rfl rfl rfl ?_
                    refine G.assign rfl rfl rfl rfl ?_
                    refine G.regionEnd ?_
                    refine G.drop ?_
                    refine G.drop ?_
                    obtain rfl := Option.some.inj h
                    exact G.ret1 Try.func13 rfl rfl (fun w hs => ⟨_, _, _, rfl, (PH.le_trans (PH.le_trans (PH.le_trans l11 l22) l25) l125), ⟨rfl, rfl⟩, hs⟩)
                  · replace h := ifF h k151
                    refine G.skip ?_
                    refine G.inBlock ?_
                    refine G.seq ?_
                    refine G.region (l := [0]) rfl ?_
                    refine G.assign rfl rfl rfl rfl ?_
                    refine G.regionEnd ?_
                    refine G.drop ?_
                    refine G.drop ?_
                    obtain rfl := Option.some.inj h
                    exact G.ret1 Try.func13 rfl rfl (fun w hs => ⟨_, _, _, rfl, (PH.le_trans (PH.le_trans (PH.le_trans l11 l22) l25) l125), ⟨rfl, rfl⟩, hs⟩)
            intro J154
            refine G.splitP (d := 37) rfl (fun k155 => ?_) (fun k155 => ?_)
            · replace h := ifT h k155
              refine G.unwanted rfl rfl rfl rfl ?_
              refine G.unwanted rfl rfl rfl rfl ?_
              refine G.unwanted rfl rfl rfl rfl ?_
              refine G.pickT rfl rfl rfl rfl rfl ?_
              refine G.front1 ?_
              refine G.front1 ?_
              refine G.less ?_ (J154 H24 (PH.le_refl _) true h)
              exact ⟨rfl, rfl, rfl, trivial⟩
            · replace h := ifF h k155
              refine G.field (off' := 0) rfl rfl rfl rfl Try.underlying24 rfl sz3 rfl rfl ?_
              refine G.loadI (y := a0.kind) rfl rfl rfl rfl ty3 (fun w hs => Rd.bk (api_Touch.L_kind _) hs (j := 1) rfl) ?_
              refine G.cmp (a0.kind = 7) rfl rfl rfl rfl rfl rfl Iff.rfl ?_
              refine G.pickF rfl rfl rfl rfl rfl ?_
              refine G.front1 ?_
              refine G.front1 ?_
              refine G.less ?_ (J154 H24 (PH.le_refl _) (decide (a0.kind = 7)) h)
              exact ⟨rfl, rfl, rfl, trivial⟩
    intro J159
    refine G.splitB (d := 13) rfl (fun k160 => ?_) (fun k160 => ?_)
    · replace h := ifT h k160
      refine G.unwanted rfl rfl rfl rfl ?_
      refine G.unwanted rfl rfl rfl rfl ?_
      refine G.unwanted rfl rfl rfl rfl ?_
      refine G.unwanted rfl rfl rfl rfl ?_
      refine G.unwanted rfl rfl rfl rfl ?_
      refine G.pickT rfl rfl rfl rfl rfl ?_
      refine G.front1 ?_
      refine G.front1 ?_
      refine G.less ?_ (J159 H21 (PH.le_refl _) true h)
      exact ⟨rfl, rfl, rfl, trivial⟩
    · replace h := ifFB h k160
      refine G.field (off' := 1) rfl rfl rfl rfl Try.underlying24 rfl sz22 rfl rfl ?_
      refine G.loadI (y := a0.ino) rfl rfl rfl rfl ty22 (fun w hs => Rd.bk (api_Touch.L_ino _) hs (j := 1) rfl) ?_
      refine G.field (off' := 1) rfl rfl rfl rfl Try.underlying24 rfl sz22 rfl rfl ?_
      refine G.loadI (y := a1.ino) rfl rfl rfl rfl ty22 (fun w hs => Rd.bk (api_Touch.L_ino _) hs (j := 0) rfl) ?_
      refine G.cmp (a0.ino ≠ a1.ino) rfl rfl rfl rfl rfl rfl Iff.rfl ?_
      refine G.pickF rfl rfl rfl rfl rfl ?_
      refine G.front1 ?_
      refine G.front1 ?_
      refine G.less ?_ (J159 H21 (PH.le_refl _) (decide (a0.ino ≠ a1.ino)) h)
      exact ⟨rfl, rfl, rfl, trivial⟩
  intro J161
  refine G.splitP (d := 8) rfl (fun k170 => ?_) (fun k170 => ?_)
  · replace h := ifT h k170
    refine G.unwanted rfl rfl rfl rfl ?_
    refine G.unwanted rfl rfl rfl rfl ?_
    refine G.unwanted rfl rfl rfl rfl ?_
    refine G.pickT rfl rfl rfl rfl rfl ?_
    refine G.front1 ?_
    refine G.front1 ?_
    refine G.less ?_ (J161 H10 (PH.le_refl _) true h)
    exact ⟨rfl, rfl, rfl, trivial⟩
  · replace h := ifF h k170
    refine G.loadA (df := K_api_Touch) (y := a1) rfl rfl rfl rfl ty24 rfl (fun w hs => Rd.bk (Lens.id _ _) hs (j := 0) rfl) ?_
    intro cs162 f163
    obtain ⟨t164, e165, h⟩ := bindS h
    refine G.call rfl rfl rfl rfl call11 (armoireref15_Check.ok cs162 a1 f163 e165) ?_
    rintro v166 H167 L169 l168 ⟨rfl, rfl⟩
    refine G.cmp (t164 ≠ 0) rfl rfl rfl rfl rfl rfl Iff.rfl ?_
    refine G.pickF rfl rfl rfl rfl rfl ?_
    refine G.front1 ?_
    refine G.front1 ?_
    refine G.less ?_ (J161 H167 l168 (decide (t164 ≠ 0)) h)
    exact ⟨rfl, rfl, rfl, trivial⟩
end Go.Proofs.Ytpiliblfmpgjeaa
