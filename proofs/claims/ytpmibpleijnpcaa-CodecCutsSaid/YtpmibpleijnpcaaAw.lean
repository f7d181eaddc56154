import Derived.Test.YtpmibpleijnpcaaAd
import Derived.Test.YtpmibpleijnpcaaProg
import Derived.KernelRfl
namespace Go.Proofs.Ytpmibpleijnpcaa
open Go K
set_option linter.unusedVariables false
set_option maxHeartbeats 1000000
theorem ty5 : TyOk Try.prog 5 Kd.u8 := ⟨by kernel_rfl, _, Try.underlying5, rfl⟩
theorem el22 : ElOk Try.prog 22 5 Kd.u8 1 := ⟨Try.underlying22, by kernel_rfl⟩
theorem sz5 : (Try.prog.info? 5).map (·.size) = some 1 := by kernel_rfl
theorem call12 : CallOk Try.prog 12 := CallOk.mk Try.func12 (by kernel_rfl) (by kernel_rfl)
theorem call13 : CallOk Try.prog 13 := CallOk.mk Try.func13 (by kernel_rfl) (by kernel_rfl)
theorem call14 : CallOk Try.prog 14 := CallOk.mk Try.func14 (by kernel_rfl) (by kernel_rfl)
theorem call15 : CallOk Try.prog 15 := CallOk.mk Try.func15 (by kernel_rfl) (by kernel_rfl)
theorem call16 : CallOk Try.prog 16 := CallOk.mk Try.func16 (by kernel_rfl) (by kernel_rfl)
theorem call17 : CallOk Try.prog 17 := CallOk.mk Try.func17 (by kernel_rfl) (by kernel_rfl)
theorem call18 : CallOk Try.prog 18 := CallOk.mk Try.func18 (by kernel_rfl) (by kernel_rfl)
theorem call19 : CallOk Try.prog 19 := CallOk.mk Try.func19 (by kernel_rfl) (by kernel_rfl)
theorem call20 : CallOk Try.prog 20 := CallOk.mk Try.func20 (by kernel_rfl) (by kernel_rfl)
theorem call21 : CallOk Try.prog 21 := CallOk.mk Try.func21 (by kernel_rfl) (by kernel_rfl)
set_option maxRecDepth 20000 in
theorem codec_Fixed.ok {O : World} {H : PH} {Fr : List Res} (a0 : Int) (a1 : Int) {r : (List UInt8) × Int} (h : codec_Fixed.f a0 a1 = some r) :
    Ctr Try.prog 18 [.int .u64 a0, .int .i64 a1] O H Fr (fun v H' L' => ∃ (A0 : Option Addr) (c0 : Nat), v = .tuple #[.slice A0 r.1.length c0, .int .i64 r.2] ∧ OS 5 Kd.u8 A0 c0 r.1 :: Fr = L') := by
  refine Ctr.start (n := 44) Try.func18 rfl Try.ntmps18 rfl rfl ?_
  unfold codec_Fixed.f at h
  refine G.seq ?_
  refine G.region (l := [0, 1]) rfl ?_
  refine G.assign rfl rfl rfl rfl ?_
  refine G.assign rfl rfl rfl rfl ?_
  refine G.regionEnd ?_
  refine G.seq ?_
  refine G.block ?_
  refine G.seq ?_
  refine G.region (l := [0, 1, 2, 3, 4, 5, 6]) rfl ?_
  refine G.move rfl rfl rfl rfl ?_
  refine G.cmp (a1 < 1) rfl rfl rfl rfl rfl rfl Iff.rfl ?_
  refine G.move rfl rfl rfl rfl ?_
  refine G.rest (l1 := [3, 4, 5]) (l2 := [6]) (fun GG K => ∀ (H1 : PH) (l2 : PH.le H H1) (b3 : Bool), codec_Fixed.j0 a0 a1 b3 = some r → GG H1 [(0, .int .u64 a0), (1, .int .i64 a1), (14, .bool b3)] (Fr) K) ?_ ?_
  · intro H1 l2 b3 h
    unfold codec_Fixed.j0 at h
    refine G.assign rfl rfl rfl rfl ?_
    refine G.regionEnd ?_
    refine G.cond rfl (fun k52 => ?_) (fun k52 => ?_)
    · replace h := ifT h k52
      refine G.seq ?_
      refine G.region (l := [0, 1]) rfl ?_
      refine G.assign rfl rfl rfl rfl ?_
      refine G.assign rfl rfl rfl rfl ?_
      refine G.regionEnd ?_
      refine G.osNil 5 Kd.u8 ?_
      refine G.same (d := 4) (v := .slice none (([] : List UInt8).length) 0) rfl (by simp) ?_
      obtain rfl := Option.some.inj h
      exact G.retN (rs := [.tmp 4, .tmp 5]) Try.func18 rfl rfl rfl (fun w hs => ⟨_, _, _, rfl, l2, ⟨none, 0, rfl, rfl⟩, hs⟩)
    · replace h := ifFB h k52
      refine G.seq ?_
      refine G.region (l := [0, 1, 2, 3, 4, 5, 6, 7, 8, 9]) rfl ?_
      refine G.move rfl rfl rfl rfl ?_
      refine G.cmp (a1 < 8) rfl rfl rfl rfl rfl rfl Iff.rfl ?_
      refine G.move rfl rfl rfl rfl ?_
      refine G.rest (l1 := [3, 4, 5, 6, 7, 8]) (l2 := [9]) (fun GG K => ∀ (H17 : PH) (l18 : PH.le H1 H17) (b19 : Bool), codec_Fixed.j1 a0 a1 b19 = some r → GG H17 [(0, .int .u64 a0), (1, .int .i64 a1), (24, .bool b19)] (Fr) K) ?_ ?_
      · intro H17 l18 b19 h
        unfold codec_Fixed.j1 at h
        refine G.assign rfl rfl rfl rfl ?_
        refine G.regionEnd ?_
        refine G.cond rfl (fun k48 => ?_) (fun k48 => ?_)
        · replace h := ifT h k48
          refine G.seq ?_
          refine G.region (l := [0, 1]) rfl ?_
          refine G.assign rfl rfl rfl rfl ?_
          refine G.assign rfl rfl rfl rfl ?_
          refine G.regionEnd ?_
          refine G.osNil 5 Kd.u8 ?_
          refine G.same (d := 4) (v := .slice none (([] : List UInt8).length) 0) rfl (by simp) ?_
          obtain rfl := Option.some.inj h
          exact G.retN (rs := [.tmp 4, .tmp 5]) Try.func18 rfl rfl rfl (fun w hs => ⟨_, _, _, rfl, (PH.le_trans l2 l18), ⟨none, 0, rfl, rfl⟩, hs⟩)
        · replace h := ifFB h k48
          refine G.skip ?_
          refine G.inBlock ?_
          refine G.seq ?_
          refine G.region (l := [0, 1, 2]) rfl ?_
          refine G.move rfl rfl rfl rfl ?_
          obtain ⟨k23, h⟩ := guardS h
          refine G.makeSlice (df := Kd.u8) (z0 := 0) (m := a1) (c := a1) (z := .int .u8 0) (cz := [u8V 0]) rfl rfl rfl rfl rfl el22 (by kernel_rfl) rfl (rfl) rfl k23 ?_
          intro B22
          refine G.assign rfl rfl rfl rfl ?_
          refine G.regionEnd ?_
          refine G.seq ?_
          refine G.seq ?_
          refine G.region (l := [0, 1]) rfl ?_
          refine G.move rfl rfl rfl rfl ?_
          refine G.move rfl rfl rfl rfl ?_
          refine G.regionEnd ?_
          refine G.block ?_
          refine G.loop (fun GG K => ∀ (d42 : Nat) (H32 : PH) (l33 : PH.le H17 H32) (x34 : Int) (x35 : List UInt8), codec_Fixed.l0 a0 a1 d42 x34 x35 = some r → GG H32 [(0, .int .u64 a0), (1, .int .i64 a1), (6, .slice B22 x35.length a1.toNat), (27, .int .i64 a1), (28, .int .i64 x34)] (OS 5 Kd.u8 B22 a1.toNat x35 :: Fr) K) ?_ ?_
          · intro d42
            induction d42 with
            | zero => intro H32 l33 x34 x35 h; rw [codec_Fixed.l0] at h; cases h
            | succ d42 ih41 =>
              intro H32 l33 x34 x35 h
              rw [codec_Fixed.l0] at h
              refine G.seq ?_
              refine G.region (l := [0]) rfl ?_
              refine G.cmp (x34 < a1) rfl rfl rfl rfl rfl rfl Iff.rfl ?_
              refine G.regionEnd ?_
              refine G.seq ?_
              refine G.condP rfl (fun k46 => ?_) (fun k46 => ?_)
              · replace h := ifT h k46
                refine G.skip ?_
                refine G.seq ?_
                refine G.block ?_
                refine G.seq ?_
                refine G.region (l := [0, 1]) rfl ?_
                refine G.move rfl rfl rfl rfl ?_
                refine G.assign rfl rfl rfl rfl ?_
                refine G.regionEnd ?_
                refine G.region (l := [0, 1, 2, 3, 4, 5, 6, 7, 8, 9, 10, 11]) rfl ?_
                refine G.move rfl rfl rfl rfl ?_
                refine G.move rfl rfl rfl rfl ?_
                refine G.bin (m := a1) (n := 1) (r := wi64 (a1 - 1)) rfl rfl rfl rfl rfl rfl rfl ?_
                refine G.move rfl rfl rfl rfl ?_
                refine G.bin (m := wi64 (a1 - 1)) (n := x34) (r := wi64 ((wi64 (a1 - 1)) - x34)) rfl rfl rfl rfl rfl rfl rfl ?_
                refine G.move rfl rfl rfl rfl ?_
                refine G.move rfl rfl rfl rfl ?_
                refine G.bin (m := 8) (n := x34) (r := wi64 (8 * x34)) rfl rfl rfl rfl rfl rfl rfl ?_
                obtain ⟨k43, h⟩ := guardS h
                refine G.shift (m := a0) (n := wi64 (8 * x34)) (r := a0 / 2 ^ min ((wi64 (8 * x34)).toNat) 64) rfl rfl rfl rfl rfl rfl k43 rfl ?_
                refine G.toU8 (m := a0 / 2 ^ min ((wi64 (8 * x34)).toNat) 64) (b := u8of (a0 / 2 ^ min ((wi64 (8 * x34)).toNat) 64)) rfl rfl rfl rfl Try.underlying30 Try.underlying5 rfl ?_
                obtain ⟨k44, h⟩ := guardS h
                have q45 : (wi64 ((wi64 (a1 - 1)) - x34)).toNat < x35.length := by omega
                refine G.indexO (xs := x35) (j := wi64 ((wi64 (a1 - 1)) - x34)) (off := (wi64 ((wi64 (a1 - 1)) - x34)).toNat * 1) rfl rfl rfl rfl rfl el22 (r := 0) rfl (by simp) k44 rfl ?_
                refine G.storeO (df := Kd.u8) (y := u8of (a0 / 2 ^ min ((wi64 (8 * x34)).toNat) 64)) (hj := q45) (xs' := x35.set ((wi64 ((wi64 (a1 - 1)) - x34)).toNat) (u8of (a0 / 2 ^ min ((wi64 (8 * x34)).toNat) 64))) rfl rfl rfl rfl (Lens.id _ _) (by first | rfl | simp) (VR.B8 _ (u8of (a0 / 2 ^ min ((wi64 (8 * x34)).toNat) 64))) sz5 rfl ?_
                refine G.regionEnd ?_
                refine G.inBlock ?_
                refine G.region (l := [0, 1]) rfl ?_
                refine G.bin (m := x34) (n := 1) (r := wi64 (x34 + 1)) rfl rfl rfl rfl rfl rfl rfl ?_
                refine G.move rfl rfl rfl rfl ?_
                refine G.regionEnd ?_
                refine G.round ?_
                refine G.same (d := 6) (v := .slice B22 ((x35.set ((wi64 ((wi64 (a1 - 1)) - x34)).toNat) (u8of (a0 / 2 ^ min ((wi64 (8 * x34)).toNat) 64))).length) a1.toNat) rfl (by simp) ?_
                refine G.less ?_ (ih41 H32 l33 (wi64 (x34 + 1)) (x35.set ((wi64 ((wi64 (a1 - 1)) - x34)).toNat) (u8of (a0 / 2 ^ min ((wi64 (8 * x34)).toNat) 64))) h)
                exact ⟨rfl, rfl, rfl, rfl, rfl, trivial⟩
              · replace h := ifF h k46
                refine G.exit rfl ?_
                refine G.seq ?_
                refine G.region (l := [0, 1, 2]) rfl ?_
                refine G.move rfl rfl rfl rfl ?_
                refine G.assign rfl rfl rfl rfl ?_
                refine G.assign rfl rfl rfl rfl ?_
                refine G.regionEnd ?_
                obtain rfl := Option.some.inj h
                exact G.retN (rs := [.tmp 4, .tmp 5]) Try.func18 rfl rfl rfl (fun w hs => ⟨_, _, _, rfl, (PH.le_trans (PH.le_trans l2 l18) l33), ⟨B22, a1.toNat, rfl, rfl⟩, hs⟩)
          intro J47
          refine G.same (d := 6) (v := .slice B22 ((List.replicate a1.toNat 0 : List UInt8).length) a1.toNat) rfl (by simp) ?_
          refine G.less ?_ (J47 ((a1 - 0 : Int).toNat + 1) H17 (PH.le_refl _) 0 (List.replicate a1.toNat 0 : List UInt8) h)
          exact ⟨rfl, rfl, rfl, rfl, rfl, trivial⟩
      intro J49
      refine G.splitP (d := 18) rfl (fun k51 => ?_) (fun k51 => ?_)
      · replace h := ifT h k51
        refine G.move rfl rfl rfl rfl ?_
        refine G.move rfl rfl rfl rfl ?_
        refine G.bin (m := 8) (n := a1) (r := wi64 (8 * a1)) rfl rfl rfl rfl rfl rfl rfl ?_
        obtain ⟨k50, h⟩ := guardS h
        refine G.shift (m := a0) (n := wi64 (8 * a1)) (r := a0 / 2 ^ min ((wi64 (8 * a1)).toNat) 64) rfl rfl rfl rfl rfl rfl k50 rfl ?_
        refine G.cmp ((a0 / 2 ^ min ((wi64 (8 * a1)).toNat) 64) ≠ 0) rfl rfl rfl rfl rfl rfl Iff.rfl ?_
        refine G.pickT rfl rfl rfl rfl rfl ?_
        refine G.less ?_ (J49 H1 (PH.le_refl _) (decide ((a0 / 2 ^ min ((wi64 (8 * a1)).toNat) 64) ≠ 0)) h)
        exact ⟨rfl, rfl, rfl, trivial⟩
      · replace h := ifF h k51
        refine G.unwanted rfl rfl rfl rfl ?_
        refine G.unwanted rfl rfl rfl rfl ?_
        refine G.unwanted rfl rfl rfl rfl ?_
        refine G.unwanted rfl rfl rfl rfl ?_
        refine G.unwanted rfl rfl rfl rfl ?_
        refine G.pickF rfl rfl rfl rfl rfl ?_
        refine G.less ?_ (J49 H1 (PH.le_refl _) false h)
        exact ⟨rfl, rfl, rfl, trivial⟩
  intro J53
  refine G.splitP (d := 11) rfl (fun k54 => ?_) (fun k54 => ?_)
  · replace h := ifT h k54
    refine G.unwanted rfl rfl rfl rfl ?_
    refine G.unwanted rfl rfl rfl rfl ?_
    refine G.pickT rfl rfl rfl rfl rfl ?_
    refine G.less ?_ (J53 H (PH.le_refl _) true h)
    exact ⟨rfl, rfl, rfl, trivial⟩
  · replace h := ifF h k54
    refine G.move rfl rfl rfl rfl ?_
    refine G.cmp (8 < a1) rfl rfl rfl rfl rfl rfl Iff.rfl ?_
    refine G.pickF rfl rfl rfl rfl rfl ?_
    refine G.less ?_ (J53 H (PH.le_refl _) (decide (8 < a1)) h)
    exact ⟨rfl, rfl, rfl, trivial⟩
set_option maxRecDepth 20000 in
theorem codec_Number.ok {O : World} {H : PH} {Fr : List Res} (A0 : Option Addr) (n0 : Nat) (a0 : (List UInt8)) (F0 : SlR Kd.u8 H A0 n0 a0) (a1 : Int) {r : Int × Int} (h : codec_Number.f a0 a1 = some r) :
    Ctr Try.prog 20 [.slice A0 a0.length n0, .int .i64 a1] O H Fr (fun v H' L' => v = .tuple #[.int .u64 r.1, .int .i64 r.2] ∧ Fr = L') := by
  refine Ctr.start (n := 34) Try.func20 rfl Try.ntmps20 rfl rfl ?_
  unfold codec_Number.f at h
  refine G.seq ?_
  refine G.region (l := [0, 1]) rfl ?_
  refine G.assign rfl rfl rfl rfl ?_
  refine G.assign rfl rfl rfl rfl ?_
  refine G.regionEnd ?_
  refine G.seq ?_
  refine G.block ?_
  refine G.seq ?_
  refine G.region (l := [0, 1, 2, 3, 4, 5, 6]) rfl ?_
  refine G.move rfl rfl rfl rfl ?_
  refine G.cmp (a1 < 1) rfl rfl rfl rfl rfl rfl Iff.rfl ?_
  refine G.move rfl rfl rfl rfl ?_
  refine G.rest (l1 := [3, 4, 5]) (l2 := [6]) (fun GG K => ∀ (H1 : PH) (l2 : PH.le H H1) (b3 : Bool), codec_Number.j0 a0 a1 b3 = some r → GG H1 [(0, .slice A0 a0.length n0), (1, .int .i64 a1), (14, .bool b3)] (Fr) K) ?_ ?_
  · intro H1 l2 b3 h
    unfold codec_Number.j0 at h
    refine G.assign rfl rfl rfl rfl ?_
    refine G.regionEnd ?_
    refine G.cond rfl (fun k22 => ?_) (fun k22 => ?_)
    · replace h := ifT h k22
      refine G.seq ?_
      refine G.region (l := [0, 1]) rfl ?_
      refine G.assign rfl rfl rfl rfl ?_
      refine G.assign rfl rfl rfl rfl ?_
      refine G.regionEnd ?_
      obtain rfl := Option.some.inj h
      exact G.retN (rs := [.tmp 4, .tmp 5]) Try.func20 rfl rfl rfl (fun w hs => ⟨_, _, _, rfl, l2, ⟨rfl, rfl⟩, hs⟩)
    · replace h := ifFB h k22
      refine G.seq ?_
      refine G.region (l := [0, 1, 2, 3, 4]) rfl ?_
      refine G.move rfl rfl rfl rfl ?_
      refine G.len (m := a0.length) rfl rfl rfl rfl Try.underlying22 ?_
      refine G.move rfl rfl rfl rfl ?_
      refine G.cmp ((a0.length : Int) < a1) rfl rfl rfl rfl rfl rfl Iff.rfl ?_
      refine G.assign rfl rfl rfl rfl ?_
      refine G.regionEnd ?_
      refine G.condP rfl (fun k21 => ?_) (fun k21 => ?_)
      · replace h := ifT h k21
        refine G.seq ?_
        refine G.region (l := [0, 1]) rfl ?_
        refine G.assign rfl rfl rfl rfl ?_
        refine G.assign rfl rfl rfl rfl ?_
        refine G.regionEnd ?_
        obtain rfl := Option.some.inj h
        exact G.retN (rs := [.tmp 4, .tmp 5]) Try.func20 rfl rfl rfl (fun w hs => ⟨_, _, _, rfl, l2, ⟨rfl, rfl⟩, hs⟩)
      · replace h := ifF h k21
        refine G.skip ?_
        refine G.inBlock ?_
        refine G.seq ?_
        refine G.region (l := [0]) rfl ?_
        refine G.assign rfl rfl rfl rfl ?_
        refine G.regionEnd ?_
        refine G.seq ?_
        refine G.seq ?_
        refine G.region (l := [0, 1]) rfl ?_
        refine G.move rfl rfl rfl rfl ?_
        refine G.move rfl rfl rfl rfl ?_
        refine G.regionEnd ?_
        refine G.block ?_
        refine G.loop (fun GG K => ∀ (d15 : Nat) (H5 : PH) (l6 : PH.le H1 H5) (x7 : Int) (x8 : Int), codec_Number.l0 a0 a1 d15 x7 x8 = some r → GG H5 [(0, .slice A0 a0.length n0), (6, .int .u64 x7), (20, .int .i64 a1), (21, .int .i64 x8)] (Fr) K) ?_ ?_
        · intro d15
          induction d15 with
          | zero => intro H5 l6 x7 x8 h; rw [codec_Number.l0] at h; cases h
          | succ d15 ih14 =>
            intro H5 l6 x7 x8 h
            rw [codec_Number.l0] at h
            refine G.seq ?_
            refine G.region (l := [0]) rfl ?_
            refine G.cmp (x8 < a1) rfl rfl rfl rfl rfl rfl Iff.rfl ?_
            refine G.regionEnd ?_
            refine G.seq ?_
            refine G.condP rfl (fun k19 => ?_) (fun k19 => ?_)
            · replace h := ifT h k19
              refine G.skip ?_
              refine G.seq ?_
              refine G.block ?_
              refine G.seq ?_
              refine G.region (l := [0, 1]) rfl ?_
              refine G.move rfl rfl rfl rfl ?_
              refine G.assign rfl rfl rfl rfl ?_
              refine G.regionEnd ?_
              refine G.region (l := [0, 1, 2, 3, 4, 5, 6, 7, 8]) rfl ?_
              refine G.move rfl rfl rfl rfl ?_
              refine G.shift (m := x7) (n := 8) (r := wu64 (x7 * 256)) rfl rfl rfl rfl rfl rfl (by decide) rfl ?_
              refine G.move rfl rfl rfl rfl ?_
              refine G.move rfl rfl rfl rfl ?_
              obtain ⟨k16, h⟩ := guardS h
              refine G.indexR (xs := a0) (j := x8) 0 rfl rfl rfl rfl rfl el22 (F0.mono (PH.le_trans l2 l6)) k16 ?_
              intro a17 f18
              refine G.load8 (y := a0.getD x8.toNat 0) rfl rfl rfl rfl ty5 (fun w hs => Rd.ro f18 hs) ?_
              refine G.conv (m := ((a0.getD x8.toNat 0).toNat : Int)) (r := ((a0.getD x8.toNat 0).toNat : Int)) rfl rfl rfl rfl Try.underlying5 Try.underlying30 (by have := (a0.getD x8.toNat 0).toNat_lt; simp only [wr, wu64]; omega) ?_
              refine G.bin (m := wu64 (x7 * 256)) (n := ((a0.getD x8.toNat 0).toNat : Int)) (r := bitsI .or .u64 (wu64 (x7 * 256)) ((a0.getD x8.toNat 0).toNat : Int)) rfl rfl rfl rfl rfl rfl rfl ?_
              refine G.assign rfl rfl rfl rfl ?_
              refine G.regionEnd ?_
              refine G.inBlock ?_
              refine G.region (l := [0, 1]) rfl ?_
              refine G.bin (m := x8) (n := 1) (r := wi64 (x8 + 1)) rfl rfl rfl rfl rfl rfl rfl ?_
              refine G.move rfl rfl rfl rfl ?_
              refine G.regionEnd ?_
              refine G.round ?_
              refine G.less ?_ (ih14 H5 l6 (bitsI .or .u64 (wu64 (x7 * 256)) ((a0.getD x8.toNat 0).toNat : Int)) (wi64 (x8 + 1)) h)
              exact ⟨rfl, rfl, rfl, rfl, trivial⟩
            · replace h := ifF h k19
              refine G.exit rfl ?_
              refine G.seq ?_
              refine G.region (l := [0, 1, 2]) rfl ?_
              refine G.move rfl rfl rfl rfl ?_
              refine G.assign rfl rfl rfl rfl ?_
              refine G.assign rfl rfl rfl rfl ?_
              refine G.regionEnd ?_
              obtain rfl := Option.some.inj h
              exact G.retN (rs := [.tmp 4, .tmp 5]) Try.func20 rfl rfl rfl (fun w hs => ⟨_, _, _, rfl, (PH.le_trans l2 l6), ⟨rfl, rfl⟩, hs⟩)
        intro J20
        refine G.less ?_ (J20 ((a1 - 0 : Int).toNat + 1) H1 (PH.le_refl _) 0 0 h)
        exact ⟨rfl, rfl, rfl, rfl, trivial⟩
  intro J23
  refine G.splitP (d := 11) rfl (fun k24 => ?_) (fun k24 => ?_)
  · replace h := ifT h k24
    refine G.unwanted rfl rfl rfl rfl ?_
    refine G.unwanted rfl rfl rfl rfl ?_
    refine G.pickT rfl rfl rfl rfl rfl ?_
    refine G.less ?_ (J23 H (PH.le_refl _) true h)
    exact ⟨rfl, rfl, rfl, trivial⟩
  · replace h := ifF h k24
    refine G.move rfl rfl rfl rfl ?_
    refine G.cmp (8 < a1) rfl rfl rfl rfl rfl rfl Iff.rfl ?_
    refine G.pickF rfl rfl rfl rfl rfl ?_
    refine G.less ?_ (J23 H (PH.le_refl _) (decide (8 < a1)) h)
    exact ⟨rfl, rfl, rfl, trivial⟩
set_option maxRecDepth 20000 in
theorem armoirelaw01_numbers.ok {O : World} {H : PH} {Fr : List Res}  {r : Bool} (h : armoirelaw01_numbers.f  = some r) :
    Ctr Try.prog 17 [] O H Fr (fun v H' L' => v = .bool r ∧ Fr = L') := by
  refine Ctr.start (n := 49) Try.func17 rfl Try.ntmps17 rfl rfl ?_
  unfold armoirelaw01_numbers.f at h
  refine G.seq ?_
  refine G.region (l := [0]) rfl ?_
  refine G.assign rfl rfl rfl rfl ?_
  refine G.regionEnd ?_
  refine G.seq ?_
  refine G.region (l := [0, 1, 2, 3, 4, 5]) rfl ?_
  obtain ⟨t1, e2, h⟩ := bindS h
  refine G.call rfl rfl rfl rfl call18 (codec_Fixed.ok 258 2 e2) ?_
  rintro v3 H4 L9 l5 ⟨B6, c7, rfl, rfl⟩
  refine G.move rfl rfl rfl rfl ?_
  refine G.extract rfl rfl rfl rfl rfl ?_
  refine G.extract rfl rfl rfl rfl rfl ?_
  refine G.assign rfl rfl rfl rfl ?_
  refine G.assign rfl rfl rfl rfl ?_
  refine G.regionEnd ?_
  refine G.seq ?_
  refine G.region (l := [0, 1, 2, 3, 4, 5]) rfl ?_
  obtain ⟨t10, e11, h⟩ := bindS h
  refine G.call rfl rfl rfl rfl call18 (codec_Fixed.ok 256 1 e11) ?_
  rintro v12 H13 L18 l14 ⟨B15, c16, rfl, rfl⟩
  refine G.move rfl rfl rfl rfl ?_
  refine G.extract rfl rfl rfl rfl rfl ?_
  refine G.extract rfl rfl rfl rfl rfl ?_
  refine G.assign rfl rfl rfl rfl ?_
  refine G.assign rfl rfl rfl rfl ?_
  refine G.regionEnd ?_
  refine G.seq ?_
  refine G.region (l := [0, 1, 2, 3, 4, 5]) rfl ?_
  obtain ⟨t19, e20, h⟩ := bindS h
  refine G.call rfl rfl rfl rfl call18 (codec_Fixed.ok 1 9 e20) ?_
  rintro v21 H22 L27 l23 ⟨B24, c25, rfl, rfl⟩
  refine G.move rfl rfl rfl rfl ?_
  refine G.extract rfl rfl rfl rfl rfl ?_
  refine G.extract rfl rfl rfl rfl rfl ?_
  refine G.assign rfl rfl rfl rfl ?_
  refine G.assign rfl rfl rfl rfl ?_
  refine G.regionEnd ?_
  refine G.seq ?_
  refine G.region (l := [0, 1, 2, 3, 4, 5, 6]) rfl ?_
  refine G.buildSlice (df := Kd.u8) (xs := ([1, 2, 3] : List UInt8)) (cs := [u8V 1, u8V 2, u8V 3]) rfl rfl rfl el22 (z := .int .u8 0) (cz := [u8V 0]) (by kernel_rfl) rfl rfl rfl rfl rfl rfl rfl (⟨[u8V 1], _, rfl, rfl, ⟨[u8V 2], _, rfl, rfl, ⟨[u8V 3], _, rfl, rfl, rfl⟩⟩⟩) ?_
  intro B28
  obtain ⟨t30, e31, h⟩ := bindS h
  refine G.callB rfl rfl rfl rfl call20 (fun w hs => codec_Number.ok B28 3 ([1, 2, 3] : List UInt8) (hs.osSl (j := 0) rfl) 2 e31) (by rintro v H' L' ⟨rfl, rfl⟩; exact Free.nil) ?_
  rintro v32 L33 ⟨_, rfl, rfl⟩
  refine G.move rfl rfl rfl rfl ?_
  refine G.extract rfl rfl rfl rfl rfl ?_
  refine G.extract rfl rfl rfl rfl rfl ?_
  refine G.assign rfl rfl rfl rfl ?_
  refine G.assign rfl rfl rfl rfl ?_
  refine G.regionEnd ?_
  refine G.seq ?_
  refine G.region (l := [0, 1, 2, 3, 4, 5, 6, 7, 8, 9, 10, 11, 12, 13, 14, 15, 16, 17, 18, 19, 20, 21, 22, 23]) rfl ?_
  refine G.move rfl rfl rfl rfl ?_
  refine G.toStr (s := t1.1) rfl rfl rfl rfl Try.underlying22 Try.underlying5 Try.underlying9 (fun w hs => St.srcO hs (j := 3) rfl) ?_
  refine G.cmpS (s := t1.1) (u := ([1, 2] : Str)) (b := decide (t1.1 = ([1, 2] : Str))) rfl rfl rfl rfl rfl rfl rfl ?_
  refine G.move rfl rfl rfl rfl ?_
  refine G.rest (l1 := [4, 5, 6]) (l2 := [7, 8, 9, 10, 11, 12, 13, 14, 15, 16, 17, 18, 19, 20, 21, 22, 23]) (fun GG K => ∀ (H34 : PH) (l35 : PH.le H22 H34) (b36 : Bool), armoirelaw01_numbers.j0 t10 t19 t30 b36 = some r → GG H34 [(4, .int .i64 t10.2), (6, .int .i64 t19.2), (7, .int .u64 t30.1), (8, .int .i64 t30.2), (32, .bool b36)] (OS 5 Kd.u8 B28 3 ([1, 2, 3] : List UInt8) :: OS 5 Kd.u8 B24 c25 t19.1 :: OS 5 Kd.u8 B15 c16 t10.1 :: OS 5 Kd.u8 B6 c7 t1.1 :: Fr) K) ?_ ?_
  · intro H34 l35 b36 h
    unfold armoirelaw01_numbers.j0 at h
    refine G.move rfl rfl rfl rfl ?_
    refine G.rest (l1 := [8, 9, 10]) (l2 := [11, 12, 13, 14, 15, 16, 17, 18, 19, 20, 21, 22, 23]) (fun GG K => ∀ (H37 : PH) (l38 : PH.le H34 H37) (b39 : Bool), armoirelaw01_numbers.j1 t19 t30 b39 = some r → GG H37 [(6, .int .i64 t19.2), (7, .int .u64 t30.1), (8, .int .i64 t30.2), (36, .bool b39)] (OS 5 Kd.u8 B28 3 ([1, 2, 3] : List UInt8) :: OS 5 Kd.u8 B24 c25 t19.1 :: OS 5 Kd.u8 B15 c16 t10.1 :: OS 5 Kd.u8 B6 c7 t1.1 :: Fr) K) ?_ ?_
    · intro H37 l38 b39 h
      unfold armoirelaw01_numbers.j1 at h
      refine G.move rfl rfl rfl rfl ?_
      refine G.rest (l1 := [12, 13, 14]) (l2 := [15, 16, 17, 18, 19, 20, 21, 22, 23]) (fun GG K => ∀ (H40 : PH) (l41 : PH.le H37 H40) (b42 : Bool), armoirelaw01_numbers.j2 t30 b42 = some r → GG H40 [(7, .int .u64 t30.1), (8, .int .i64 t30.2), (40, .bool b42)] (OS 5 Kd.u8 B28 3 ([1, 2, 3] : List UInt8) :: OS 5 Kd.u8 B24 c25 t19.1 :: OS 5 Kd.u8 B15 c16 t10.1 :: OS 5 Kd.u8 B6 c7 t1.1 :: Fr) K) ?_ ?_
      · intro H40 l41 b42 h
        unfold armoirelaw01_numbers.j2 at h
        refine G.move rfl rfl rfl rfl ?_
        refine G.rest (l1 := [16, 17, 18]) (l2 := [19, 20, 21, 22, 23]) (fun GG K => ∀ (H43 : PH) (l44 : PH.le H40 H43) (b45 : Bool), armoirelaw01_numbers.j3 t30 b45 = some r → GG H43 [(8, .int .i64 t30.2), (44, .bool b45)] (OS 5 Kd.u8 B28 3 ([1, 2, 3] : List UInt8) :: OS 5 Kd.u8 B24 c25 t19.1 :: OS 5 Kd.u8 B15 c16 t10.1 :: OS 5 Kd.u8 B6 c7 t1.1 :: Fr) K) ?_ ?_
        · intro H43 l44 b45 h
          unfold armoirelaw01_numbers.j3 at h
          refine G.move rfl rfl rfl rfl ?_
          refine G.rest (l1 := [20, 21, 22]) (l2 := [23]) (fun GG K => ∀ (H46 : PH) (l47 : PH.le H43 H46) (b48 : Bool), armoirelaw01_numbers.j4 b48 = some r → GG H46 [(48, .bool b48)] (OS 5 Kd.u8 B28 3 ([1, 2, 3] : List UInt8) :: OS 5 Kd.u8 B24 c25 t19.1 :: OS 5 Kd.u8 B15 c16 t10.1 :: OS 5 Kd.u8 B6 c7 t1.1 :: Fr) K) ?_ ?_
          · intro H46 l47 b48 h
            unfold armoirelaw01_numbers.j4 at h
            refine G.assign rfl rfl rfl rfl ?_
            refine G.regionEnd ?_
            refine G.drop ?_
            refine G.drop ?_
            refine G.drop ?_
            refine G.drop ?_
            obtain rfl := Option.some.inj h
            exact G.ret1 Try.func17 rfl rfl (fun w hs => ⟨_, _, _, rfl, (PH.le_trans (PH.le_trans (PH.le_trans (PH.le_trans (PH.le_trans (PH.le_trans (PH.le_trans l5 l14) l23) l35) l38) l41) l44) l47), ⟨rfl, rfl⟩, hs⟩)
          intro J49
          refine G.splitB (d := 45) rfl (fun k50 => ?_) (fun k50 => ?_)
          · replace h := ifT h k50
            refine G.move rfl rfl rfl rfl ?_
            refine G.cmp (t30.2 = 0) rfl rfl rfl rfl rfl rfl Iff.rfl ?_
            refine G.pickT rfl rfl rfl rfl rfl ?_
            refine G.front3 ?_
            refine G.front3 ?_
            refine G.front3 ?_
            refine G.front3 ?_
            refine G.less ?_ (J49 H43 (PH.le_refl _) (decide (t30.2 = 0)) h)
            exact ⟨rfl, trivial⟩
          · replace h := ifFB h k50
            refine G.unwanted rfl rfl rfl rfl ?_
            refine G.unwanted rfl rfl rfl rfl ?_
            refine G.pickF rfl rfl rfl rfl rfl ?_
            refine G.front3 ?_
            refine G.front3 ?_
            refine G.front3 ?_
            refine G.front3 ?_
            refine G.less ?_ (J49 H43 (PH.le_refl _) false h)
            exact ⟨rfl, trivial⟩
        intro J51
        refine G.splitB (d := 41) rfl (fun k52 => ?_) (fun k52 => ?_)
        · replace h := ifT h k52
          refine G.move rfl rfl rfl rfl ?_
          refine G.cmp (t30.1 = 258) rfl rfl rfl rfl rfl rfl Iff.rfl ?_
          refine G.pickT rfl rfl rfl rfl rfl ?_
          refine G.front3 ?_
          refine G.front3 ?_
          refine G.front3 ?_
          refine G.front3 ?_
          refine G.less ?_ (J51 H40 (PH.le_refl _) (decide (t30.1 = 258)) h)
          exact ⟨rfl, rfl, trivial⟩
        · replace h := ifFB h k52
          refine G.unwanted rfl rfl rfl rfl ?_
          refine G.unwanted rfl rfl rfl rfl ?_
          refine G.pickF rfl rfl rfl rfl rfl ?_
          refine G.front3 ?_
          refine G.front3 ?_
          refine G.front3 ?_
          refine G.front3 ?_
          refine G.less ?_ (J51 H40 (PH.le_refl _) false h)
          exact ⟨rfl, rfl, trivial⟩
      intro J53
      refine G.splitB (d := 37) rfl (fun k54 => ?_) (fun k54 => ?_)
      · replace h := ifT h k54
        refine G.move rfl rfl rfl rfl ?_
        refine G.cmp (t19.2 = 1) rfl rfl rfl rfl rfl rfl Iff.rfl ?_
        refine G.pickT rfl rfl rfl rfl rfl ?_
        refine G.front3 ?_
        refine G.front3 ?_
        refine G.front3 ?_
        refine G.front3 ?_
        refine G.less ?_ (J53 H37 (PH.le_refl _) (decide (t19.2 = 1)) h)
        exact ⟨rfl, rfl, rfl, trivial⟩
      · replace h := ifFB h k54
        refine G.unwanted rfl rfl rfl rfl ?_
        refine G.unwanted rfl rfl rfl rfl ?_
        refine G.pickF rfl rfl rfl rfl rfl ?_
        refine G.front3 ?_
        refine G.front3 ?_
        refine G.front3 ?_
        refine G.front3 ?_
        refine G.less ?_ (J53 H37 (PH.le_refl _) false h)
        exact ⟨rfl, rfl, rfl, trivial⟩
    intro J55
    refine G.splitB (d := 33) rfl (fun k56 => ?_) (fun k56 => ?_)
    · replace h := ifT h k56
      refine G.move rfl rfl rfl rfl ?_
      refine G.cmp (t10.2 = 2) rfl rfl rfl rfl rfl rfl Iff.rfl ?_
      refine G.pickT rfl rfl rfl rfl rfl ?_
      refine G.front3 ?_
      refine G.front3 ?_
      refine G.front3 ?_
      refine G.front3 ?_
      refine G.less ?_ (J55 H34 (PH.le_refl _) (decide (t10.2 = 2)) h)
      exact ⟨rfl, rfl, rfl, rfl, trivial⟩
    · replace h := ifFB h k56
      refine G.unwanted rfl rfl rfl rfl ?_
      refine G.unwanted rfl rfl rfl rfl ?_
      refine G.pickF rfl rfl rfl rfl rfl ?_
      refine G.front3 ?_
      refine G.front3 ?_
      refine G.front3 ?_
      refine G.front3 ?_
      refine G.less ?_ (J55 H34 (PH.le_refl _) false h)
      exact ⟨rfl, rfl, rfl, rfl, trivial⟩
  intro J57
  refine G.splitP (d := 29) rfl (fun k58 => ?_) (fun k58 => ?_)
  · replace h := ifT h k58
    refine G.move rfl rfl rfl rfl ?_
    refine G.cmp (t1.2 = 0) rfl rfl rfl rfl rfl rfl Iff.rfl ?_
    refine G.pickT rfl rfl rfl rfl rfl ?_
    refine G.front3 ?_
    refine G.front3 ?_
    refine G.front3 ?_
    refine G.front3 ?_
    refine G.less ?_ (J57 H22 (PH.le_refl _) (decide (t1.2 = 0)) h)
    exact ⟨rfl, rfl, rfl, rfl, rfl, trivial⟩
  · replace h := ifF h k58
    refine G.unwanted rfl rfl rfl rfl ?_
    refine G.unwanted rfl rfl rfl rfl ?_
    refine G.pickF rfl rfl rfl rfl rfl ?_
    refine G.front3 ?_
    refine G.front3 ?_
    refine G.front3 ?_
    refine G.front3 ?_
    refine G.less ?_ (J57 H22 (PH.le_refl _) false h)
    exact ⟨rfl, rfl, rfl, rfl, rfl, trivial⟩
set_option maxRecDepth 20000 in
theorem armoireref01_Fixed.ok {O : World} {H : PH} {Fr : List Res} (a0 : Int) (a1 : Int) {r : (List UInt8) × Int} (h : armoireref01_Fixed.f a0 a1 = some r) :
    Ctr Try.prog 19 [.int .u64 a0, .int .i64 a1] O H Fr (fun v H' L' => ∃ (A0 : Option Addr) (c0 : Nat), v = .tuple #[.slice A0 r.1.length c0, .int .i64 r.2] ∧ OS 5 Kd.u8 A0 c0 r.1 :: Fr = L') := by
  refine Ctr.start (n := 33) Try.func19 rfl Try.ntmps19 rfl rfl ?_
  unfold armoireref01_Fixed.f at h
  refine G.seq ?_
  refine G.region (l := [0, 1]) rfl ?_
  refine G.assign rfl rfl rfl rfl ?_
  refine G.assign rfl rfl rfl rfl ?_
  refine G.regionEnd ?_
  refine G.seq ?_
  refine G.seq ?_
  refine G.region (l := [0, 1, 2, 3, 4, 5]) rfl ?_
  refine G.move rfl rfl rfl rfl ?_
  refine G.cmp (a1 < 1) rfl rfl rfl rfl rfl rfl Iff.rfl ?_
  refine G.move rfl rfl rfl rfl ?_
  refine G.rest (l1 := [3, 4, 5]) (l2 := []) (fun GG K => ∀ (H1 : PH) (l2 : PH.le H H1) (b3 : Bool), armoireref01_Fixed.j0 a0 a1 b3 = some r → GG H1 [(0, .int .u64 a0), (1, .int .i64 a1), (13, .bool b3)] (Fr) K) ?_ ?_
  · intro H1 l2 b3 h
    unfold armoireref01_Fixed.j0 at h
    refine G.regionEnd ?_
    refine G.cond rfl (fun k49 => ?_) (fun k49 => ?_)
    · replace h := ifT h k49
      refine G.seq ?_
      refine G.region (l := [0, 1]) rfl ?_
      refine G.assign rfl rfl rfl rfl ?_
      refine G.assign rfl rfl rfl rfl ?_
      refine G.regionEnd ?_
      refine G.osNil 5 Kd.u8 ?_
      refine G.same (d := 4) (v := .slice none (([] : List UInt8).length) 0) rfl (by simp) ?_
      obtain rfl := Option.some.inj h
      exact G.retN (rs := [.tmp 4, .tmp 5]) Try.func19 rfl rfl rfl (fun w hs => ⟨_, _, _, rfl, l2, ⟨none, 0, rfl, rfl⟩, hs⟩)
    · replace h := ifFB h k49
      refine G.skip ?_
      refine G.seq ?_
      refine G.region (l := [0, 1, 2]) rfl ?_
      refine G.move rfl rfl rfl rfl ?_
      obtain ⟨k7, h⟩ := guardS h
      refine G.makeSlice (df := Kd.u8) (z0 := 0) (m := a1) (c := a1) (z := .int .u8 0) (cz := [u8V 0]) rfl rfl rfl rfl rfl el22 (by kernel_rfl) rfl (rfl) rfl k7 ?_
      intro B6
      refine G.assign rfl rfl rfl rfl ?_
      refine G.regionEnd ?_
      refine G.seq ?_
      refine G.seq ?_
      refine G.region (l := [0, 1, 2]) rfl ?_
      refine G.move rfl rfl rfl rfl ?_
      refine G.bin (m := a1) (n := 1) (r := wi64 (a1 - 1)) rfl rfl rfl rfl rfl rfl rfl ?_
      refine G.assign rfl rfl rfl rfl ?_
      refine G.regionEnd ?_
      refine G.block ?_
      refine G.loop (fun GG K => ∀ (d38 : Nat) (H22 : PH) (l23 : PH.le H1 H22) (x24 : Int) (x25 : Int) (x26 : List UInt8), armoireref01_Fixed.l0 d38 x24 x25 x26 = some r → GG H22 [(0, .int .u64 x24), (6, .slice B6 x26.length a1.toNat), (7, .int .i64 x25)] (OS 5 Kd.u8 B6 a1.toNat x26 :: Fr) K) ?_ ?_
      · intro d38
        induction d38 with
        | zero => intro H22 l23 x24 x25 x26 h; rw [armoireref01_Fixed.l0] at h; cases h
        | succ d38 ih37 =>
          intro H22 l23 x24 x25 x26 h
          rw [armoireref01_Fixed.l0] at h
          refine G.seq ?_
          refine G.seq ?_
          refine G.region (l := [0, 1]) rfl ?_
          refine G.move rfl rfl rfl rfl ?_
          refine G.cmp (0 ≤ x25) rfl rfl rfl rfl rfl rfl Iff.rfl ?_
          refine G.regionEnd ?_
          refine G.condP rfl (fun k47 => ?_) (fun k47 => ?_)
          · replace h := ifT h k47
            refine G.skip ?_
            refine G.seq ?_
            refine G.block ?_
            refine G.seq ?_
            refine G.region (l := [0, 1, 2, 3, 4, 5, 6]) rfl ?_
            refine G.move rfl rfl rfl rfl ?_
            refine G.move rfl rfl rfl rfl ?_
            refine G.move rfl rfl rfl rfl ?_
            refine G.div (m := x24) (n := 256) (r := Int.tmod x24 256) rfl rfl rfl rfl rfl rfl (by decide) rfl ?_
            refine G.toU8 (m := Int.tmod x24 256) (b := u8of (Int.tmod x24 256)) rfl rfl rfl rfl Try.underlying30 Try.underlying5 rfl ?_
            obtain ⟨k42, h⟩ := guardS h
            have q43 : x25.toNat < x26.length := by omega
            refine G.indexO (xs := x26) (j := x25) (off := x25.toNat * 1) rfl rfl rfl rfl rfl el22 (r := 0) rfl (by simp) k42 rfl ?_
            refine G.storeO (df := Kd.u8) (y := u8of (Int.tmod x24 256)) (hj := q43) (xs' := x26.set x25.toNat (u8of (Int.tmod x24 256))) rfl rfl rfl rfl (Lens.id _ _) (by first | rfl | simp) (VR.B8 _ (u8of (Int.tmod x24 256))) sz5 rfl ?_
            refine G.regionEnd ?_
            refine G.region (l := [0, 1, 2]) rfl ?_
            refine G.move rfl rfl rfl rfl ?_
            refine G.div (m := x24) (n := 256) (r := wu64 (Int.tdiv x24 256)) rfl rfl rfl rfl rfl rfl (by decide) rfl ?_
            refine G.assign rfl rfl rfl rfl ?_
            refine G.regionEnd ?_
            refine G.inBlock ?_
            refine G.region (l := [0, 1, 2]) rfl ?_
            refine G.move rfl rfl rfl rfl ?_
            refine G.bin (m := x25) (n := 1) (r := wi64 (x25 - 1)) rfl rfl rfl rfl rfl rfl rfl ?_
            refine G.assign rfl rfl rfl rfl ?_
            refine G.regionEnd ?_
            refine G.round ?_
            refine G.same (d := 6) (v := .slice B6 ((x26.set x25.toNat (u8of (Int.tmod x24 256))).length) a1.toNat) rfl (by simp) ?_
            refine G.less ?_ (ih37 H22 l23 (wu64 (Int.tdiv x24 256)) (wi64 (x25 - 1)) (x26.set x25.toNat (u8of (Int.tmod x24 256))) h)
            exact ⟨rfl, rfl, rfl, trivial⟩
          · replace h := ifF h k47
            refine G.exit rfl ?_
            refine G.seq ?_
            refine G.seq ?_
            refine G.region (l := [0, 1]) rfl ?_
            refine G.move rfl rfl rfl rfl ?_
            refine G.cmp (0 < x24) rfl rfl rfl rfl rfl rfl Iff.rfl ?_
            refine G.regionEnd ?_
            refine G.condP rfl (fun k46 => ?_) (fun k46 => ?_)
            · replace h := ifT h k46
              refine G.seq ?_
              refine G.region (l := [0, 1]) rfl ?_
              refine G.assign rfl rfl rfl rfl ?_
              refine G.assign rfl rfl rfl rfl ?_
              refine G.regionEnd ?_
              refine G.osNil 5 Kd.u8 ?_
              refine G.same (d := 4) (v := .slice none (([] : List UInt8).length) 0) rfl (by simp) ?_
              refine G.front1 ?_
              refine G.drop ?_
              obtain rfl := Option.some.inj h
              exact G.retN (rs := [.tmp 4, .tmp 5]) Try.func19 rfl rfl rfl (fun w hs => ⟨_, _, _, rfl, (PH.le_trans l2 l23), ⟨none, 0, rfl, rfl⟩, hs⟩)
            · replace h := ifF h k46
              refine G.skip ?_
              refine G.seq ?_
              refine G.region (l := [0, 1, 2]) rfl ?_
              refine G.move rfl rfl rfl rfl ?_
              refine G.assign rfl rfl rfl rfl ?_
              refine G.assign rfl rfl rfl rfl ?_
              refine G.regionEnd ?_
              obtain rfl := Option.some.inj h
              exact G.retN (rs := [.tmp 4, .tmp 5]) Try.func19 rfl rfl rfl (fun w hs => ⟨_, _, _, rfl, (PH.le_trans l2 l23), ⟨B6, a1.toNat, rfl, rfl⟩, hs⟩)
      intro J48
      refine G.same (d := 6) (v := .slice B6 ((List.replicate a1.toNat 0 : List UInt8).length) a1.toNat) rfl (by simp) ?_
      refine G.less ?_ (J48 ((wi64 (a1 - 1) - 0 : Int).toNat + 2) H1 (PH.le_refl _) a0 (wi64 (a1 - 1)) (List.replicate a1.toNat 0 : List UInt8) h)
      exact ⟨rfl, rfl, rfl, trivial⟩
  intro J50
  refine G.splitP (d := 10) rfl (fun k51 => ?_) (fun k51 => ?_)
  · replace h := ifT h k51
    refine G.unwanted rfl rfl rfl rfl ?_
    refine G.unwanted rfl rfl rfl rfl ?_
    refine G.pickT rfl rfl rfl rfl rfl ?_
    refine G.less ?_ (J50 H (PH.le_refl _) true h)
    exact ⟨rfl, rfl, rfl, trivial⟩
  · replace h := ifF h k51
    refine G.move rfl rfl rfl rfl ?_
    refine G.cmp (8 < a1) rfl rfl rfl rfl rfl rfl Iff.rfl ?_
    refine G.pickF rfl rfl rfl rfl rfl ?_
    refine G.less ?_ (J50 H (PH.le_refl _) (decide (8 < a1)) h)
    exact ⟨rfl, rfl, rfl, trivial⟩
set_option maxRecDepth 20000 in
theorem armoireref01_Number.ok {O : World} {H : PH} {Fr : List Res} (A0 : Option Addr) (n0 : Nat) (a0 : (List UInt8)) (F0 : SlR Kd.u8 H A0 n0 a0) (a1 : Int) {r : Int × Int} (h : armoireref01_Number.f a0 a1 = some r) :
    Ctr Try.prog 21 [.slice A0 a0.length n0, .int .i64 a1] O H Fr (fun v H' L' => v = .tuple #[.int .u64 r.1, .int .i64 r.2] ∧ Fr = L') := by
  refine Ctr.start (n := 34) Try.func21 rfl Try.ntmps21 rfl rfl ?_
  unfold armoireref01_Number.f at h
  refine G.seq ?_
  refine G.region (l := [0, 1]) rfl ?_
  refine G.assign rfl rfl rfl rfl ?_
  refine G.assign rfl rfl rfl rfl ?_
  refine G.regionEnd ?_
  refine G.seq ?_
  refine G.seq ?_
  refine G.region (l := [0, 1, 2, 3, 4, 5]) rfl ?_
  refine G.move rfl rfl rfl rfl ?_
  refine G.cmp (a1 < 1) rfl rfl rfl rfl rfl rfl Iff.rfl ?_
  refine G.move rfl rfl rfl rfl ?_
  refine G.rest (l1 := [3, 4, 5]) (l2 := []) (fun GG K => ∀ (H1 : PH) (l2 : PH.le H H1) (b3 : Bool), armoireref01_Number.j0 a0 a1 b3 = some r → GG H1 [(0, .slice A0 a0.length n0), (1, .int .i64 a1), (14, .bool b3)] (Fr) K) ?_ ?_
  · intro H1 l2 b3 h
    unfold armoireref01_Number.j0 at h
    refine G.regionEnd ?_
    refine G.cond rfl (fun k25 => ?_) (fun k25 => ?_)
    · replace h := ifT h k25
      refine G.seq ?_
      refine G.region (l := [0, 1]) rfl ?_
      refine G.assign rfl rfl rfl rfl ?_
      refine G.assign rfl rfl rfl rfl ?_
      refine G.regionEnd ?_
      obtain rfl := Option.some.inj h
      exact G.retN (rs := [.tmp 4, .tmp 5]) Try.func21 rfl rfl rfl (fun w hs => ⟨_, _, _, rfl, l2, ⟨rfl, rfl⟩, hs⟩)
    · replace h := ifFB h k25
      refine G.skip ?_
      refine G.seq ?_
      refine G.seq ?_
      refine G.region (l := [0, 1, 2, 3]) rfl ?_
      refine G.move rfl rfl rfl rfl ?_
      refine G.len (m := a0.length) rfl rfl rfl rfl Try.underlying22 ?_
      refine G.move rfl rfl rfl rfl ?_
      refine G.cmp ((a0.length : Int) < a1) rfl rfl rfl rfl rfl rfl Iff.rfl ?_
      refine G.regionEnd ?_
      refine G.condP rfl (fun k24 => ?_) (fun k24 => ?_)
      · replace h := ifT h k24
        refine G.seq ?_
        refine G.region (l := [0, 1]) rfl ?_
        refine G.assign rfl rfl rfl rfl ?_
        refine G.assign rfl rfl rfl rfl ?_
        refine G.regionEnd ?_
        obtain rfl := Option.some.inj h
        exact G.retN (rs := [.tmp 4, .tmp 5]) Try.func21 rfl rfl rfl (fun w hs => ⟨_, _, _, rfl, l2, ⟨rfl, rfl⟩, hs⟩)
      · replace h := ifF h k24
        refine G.skip ?_
        refine G.seq ?_
        refine G.region (l := [0]) rfl ?_
        refine G.assign rfl rfl rfl rfl ?_
        refine G.regionEnd ?_
        refine G.seq ?_
        refine G.seq ?_
        refine G.region (l := [0, 1, 2, 3, 4]) rfl ?_
        refine G.move rfl rfl rfl rfl ?_
        refine G.move rfl rfl rfl rfl ?_
        obtain ⟨k4, h⟩ := guardS h
        refine G.cutR (xs := a0) (l := 0) (h := a1) (m := (n0 : Int)) rfl rfl rfl rfl rfl rfl rfl rfl el22 (F0.mono l2) k4 (fun hc => ⟨by omega, Int.le_refl _⟩) (by intro hh; first | rfl | cases hh) ?_
        intro B5 c6 f7
        refine G.len (m := ((a0.take a1.toNat).drop 0).length) rfl rfl rfl rfl Try.underlying22 ?_
        refine G.move rfl rfl rfl rfl ?_
        refine G.regionEnd ?_
        refine G.block ?_
        refine G.loop (fun GG K => ∀ (d18 : Nat) (H8 : PH) (l9 : PH.le H1 H8) (x10 : Int) (x11 : Int), armoireref01_Number.l0 a0 a1 d18 x10 x11 = some r → GG H8 [(6, .int .u64 x10), (21, .slice B5 ((a0.take a1.toNat).drop 0).length c6), (22, .int .i64 (((a0.take a1.toNat).drop 0).length : Int)), (23, .int .i64 x11)] (Fr) K) ?_ ?_
        · intro d18
          induction d18 with
          | zero => intro H8 l9 x10 x11 h; rw [armoireref01_Number.l0] at h; cases h
          | succ d18 ih17 =>
            intro H8 l9 x10 x11 h
            rw [armoireref01_Number.l0] at h
            refine G.seq ?_
            refine G.region (l := [0]) rfl ?_
            refine G.cmp (x11 < (((a0.take a1.toNat).drop 0).length : Int)) rfl rfl rfl rfl rfl rfl Iff.rfl ?_
            refine G.regionEnd ?_
            refine G.seq ?_
            refine G.condP rfl (fun k22 => ?_) (fun k22 => ?_)
            · replace h := ifT h k22
              refine G.skip ?_
              refine G.seq ?_
              refine G.block ?_
              refine G.seq ?_
              refine G.region (l := [0, 1, 2]) rfl ?_
              obtain ⟨k19, h⟩ := guardS h
              refine G.indexR (xs := ((a0.take a1.toNat).drop 0)) (j := x11) 0 rfl rfl rfl rfl rfl el22 (f7.mono l9) k19 ?_
              intro a20 f21
              refine G.load8 (y := ((a0.take a1.toNat).drop 0).getD x11.toNat 0) rfl rfl rfl rfl ty5 (fun w hs => Rd.ro f21 hs) ?_
              refine G.assign rfl rfl rfl rfl ?_
              refine G.regionEnd ?_
              refine G.region (l := [0, 1, 2, 3, 4, 5]) rfl ?_
              refine G.move rfl rfl rfl rfl ?_
              refine G.bin (m := x10) (n := 256) (r := wu64 (x10 * 256)) rfl rfl rfl rfl rfl rfl rfl ?_
              refine G.move rfl rfl rfl rfl ?_
              refine G.conv (m := ((((a0.take a1.toNat).drop 0).getD x11.toNat 0).toNat : Int)) (r := ((((a0.take a1.toNat).drop 0).getD x11.toNat 0).toNat : Int)) rfl rfl rfl rfl Try.underlying5 Try.underlying30 (by have := (((a0.take a1.toNat).drop 0).getD x11.toNat 0).toNat_lt; simp only [wr, wu64]; omega) ?_
              refine G.bin (m := wu64 (x10 * 256)) (n := ((((a0.take a1.toNat).drop 0).getD x11.toNat 0).toNat : Int)) (r := wu64 ((wu64 (x10 * 256)) + ((((a0.take a1.toNat).drop 0).getD x11.toNat 0).toNat : Int))) rfl rfl rfl rfl rfl rfl rfl ?_
              refine G.assign rfl rfl rfl rfl ?_
              refine G.regionEnd ?_
              refine G.inBlock ?_
              refine G.region (l := [0, 1]) rfl ?_
              refine G.bin (m := x11) (n := 1) (r := wi64 (x11 + 1)) rfl rfl rfl rfl rfl rfl rfl ?_
              refine G.move rfl rfl rfl rfl ?_
              refine G.regionEnd ?_
              refine G.round ?_
              refine G.less ?_ (ih17 H8 l9 (wu64 ((wu64 (x10 * 256)) + ((((a0.take a1.toNat).drop 0).getD x11.toNat 0).toNat : Int))) (wi64 (x11 + 1)) h)
              exact ⟨rfl, rfl, rfl, rfl, trivial⟩
            · replace h := ifF h k22
              refine G.exit rfl ?_
              refine G.seq ?_
              refine G.region (l := [0, 1, 2]) rfl ?_
              refine G.move rfl rfl rfl rfl ?_
              refine G.assign rfl rfl rfl rfl ?_
              refine G.assign rfl rfl rfl rfl ?_
              refine G.regionEnd ?_
              obtain rfl := Option.some.inj h
              exact G.retN (rs := [.tmp 4, .tmp 5]) Try.func21 rfl rfl rfl (fun w hs => ⟨_, _, _, rfl, (PH.le_trans l2 l9), ⟨rfl, rfl⟩, hs⟩)
        intro J23
        refine G.less ?_ (J23 (((((a0.take a1.toNat).drop 0).length : Int) - 0 : Int).toNat + 1) H1 (PH.le_refl _) 0 0 h)
        exact ⟨rfl, rfl, rfl, rfl, trivial⟩
  intro J26
  refine G.splitP (d := 11) rfl (fun k27 => ?_) (fun k27 => ?_)
  · replace h := ifT h k27
    refine G.unwanted rfl rfl rfl rfl ?_
    refine G.unwanted rfl rfl rfl rfl ?_
    refine G.pickT rfl rfl rfl rfl rfl ?_
    refine G.less ?_ (J26 H (PH.le_refl _) true h)
    exact ⟨rfl, rfl, rfl, trivial⟩
  · replace h := ifF h k27
    refine G.move rfl rfl rfl rfl ?_
    refine G.cmp (8 < a1) rfl rfl rfl rfl rfl rfl Iff.rfl ?_
    refine G.pickF rfl rfl rfl rfl rfl ?_
    refine G.less ?_ (J26 H (PH.le_refl _) (decide (8 < a1)) h)
    exact ⟨rfl, rfl, rfl, trivial⟩
set_option maxRecDepth 20000 in
theorem armoirelaw01_CodecNumbers.ok {O : World} {H : PH} {Fr : List Res} (a0 : Int) (A1 : Option Addr) (n1 : Nat) (a1 : (List UInt8)) (F1 : SlR Kd.u8 H A1 n1 a1) (a2 : Int) {r : Bool} (h : armoirelaw01_CodecNumbers.f a0 a1 a2 = some r) :
    Ctr Try.prog 5 [.int .u64 a0, .slice A1 a1.length n1, .int .i64 a2] O H Fr (fun v H' L' => v = .bool r ∧ Fr = L') := by
  refine Ctr.start (n := 64) Try.func5 rfl Try.ntmps5 rfl rfl ?_
  unfold armoirelaw01_CodecNumbers.f at h
  refine G.seq ?_
  refine G.region (l := [0]) rfl ?_
  refine G.assign rfl rfl rfl rfl ?_
  refine G.regionEnd ?_
  refine G.seq ?_
  refine G.region (l := [0, 1]) rfl ?_
  obtain ⟨t1, e2, h⟩ := bindS h
  refine G.call rfl rfl rfl rfl call17 (armoirelaw01_numbers.ok  e2) ?_
  rintro v3 H4 L6 l5 ⟨rfl, rfl⟩
  refine G.assign rfl rfl rfl rfl ?_
  refine G.regionEnd ?_
  refine G.seq ?_
  refine G.region (l := [0, 1, 2, 3, 4, 5, 6, 7]) rfl ?_
  refine G.move rfl rfl rfl rfl ?_
  refine G.move rfl rfl rfl rfl ?_
  obtain ⟨t7, e8, h⟩ := bindS h
  refine G.call rfl rfl rfl rfl call18 (codec_Fixed.ok a0 a2 e8) ?_
  rintro v9 H10 L15 l11 ⟨B12, c13, rfl, rfl⟩
  refine G.move rfl rfl rfl rfl ?_
  refine G.extract rfl rfl rfl rfl rfl ?_
  refine G.extract rfl rfl rfl rfl rfl ?_
  refine G.assign rfl rfl rfl rfl ?_
  refine G.assign rfl rfl rfl rfl ?_
  refine G.regionEnd ?_
  refine G.seq ?_
  refine G.region (l := [0, 1, 2, 3, 4, 5, 6, 7]) rfl ?_
  refine G.move rfl rfl rfl rfl ?_
  refine G.move rfl rfl rfl rfl ?_
  obtain ⟨t16, e17, h⟩ := bindS h
  refine G.call rfl rfl rfl rfl call19 (armoireref01_Fixed.ok a0 a2 e17) ?_
  rintro v18 H19 L24 l20 ⟨B21, c22, rfl, rfl⟩
  refine G.move rfl rfl rfl rfl ?_
  refine G.extract rfl rfl rfl rfl rfl ?_
  refine G.extract rfl rfl rfl rfl rfl ?_
  refine G.assign rfl rfl rfl rfl ?_
  refine G.assign rfl rfl rfl rfl ?_
  refine G.regionEnd ?_
  refine G.seq ?_
  refine G.region (l := [0, 1, 2, 3, 4, 5, 6, 7]) rfl ?_
  refine G.move rfl rfl rfl rfl ?_
  refine G.move rfl rfl rfl rfl ?_
  obtain ⟨t25, e26, h⟩ := bindS h
  refine G.call rfl rfl rfl rfl call20 (codec_Number.ok A1 n1 a1 (F1.mono (PH.le_trans (PH.le_trans l5 l11) l20)) a2 e26) ?_
  rintro v27 H28 L30 l29 ⟨rfl, rfl⟩
  refine G.move rfl rfl rfl rfl ?_
  refine G.extract rfl rfl rfl rfl rfl ?_
  refine G.extract rfl rfl rfl rfl rfl ?_
  refine G.assign rfl rfl rfl rfl ?_
  refine G.assign rfl rfl rfl rfl ?_
  refine G.regionEnd ?_
  refine G.seq ?_
  refine G.region (l := [0, 1, 2, 3, 4, 5, 6, 7]) rfl ?_
  refine G.move rfl rfl rfl rfl ?_
  refine G.move rfl rfl rfl rfl ?_
  obtain ⟨t31, e32, h⟩ := bindS h
  refine G.call rfl rfl rfl rfl call21 (armoireref01_Number.ok A1 n1 a1 (F1.mono (PH.le_trans (PH.le_trans (PH.le_trans l5 l11) l20) l29)) a2 e32) ?_
  rintro v33 H34 L36 l35 ⟨rfl, rfl⟩
  refine G.move rfl rfl rfl rfl ?_
  refine G.extract rfl rfl rfl rfl rfl ?_
  refine G.extract rfl rfl rfl rfl rfl ?_
  refine G.assign rfl rfl rfl rfl ?_
  refine G.assign rfl rfl rfl rfl ?_
  refine G.regionEnd ?_
  refine G.seq ?_
  refine G.region (l := [0, 1, 2, 3, 4, 5, 6, 7, 8, 9, 10, 11, 12, 13, 14, 15, 16, 17, 18, 19, 20, 21, 22, 23]) rfl ?_
  refine G.move rfl rfl rfl rfl ?_
  refine G.move rfl rfl rfl rfl ?_
  refine G.rest (l1 := [2, 3, 4, 5, 6, 7]) (l2 := [8, 9, 10, 11, 12, 13, 14, 15, 16, 17, 18, 19, 20, 21, 22, 23]) (fun GG K => ∀ (H37 : PH) (l38 : PH.le H34 H37) (b39 : Bool), armoirelaw01_CodecNumbers.j0 t7 t16 t25 t31 b39 = some r → GG H37 [(9, .int .i64 t7.2), (11, .int .i64 t16.2), (12, .int .u64 t25.1), (13, .int .i64 t25.2), (14, .int .u64 t31.1), (15, .int .i64 t31.2), (48, .bool b39)] (OS 5 Kd.u8 B21 c22 t16.1 :: OS 5 Kd.u8 B12 c13 t7.1 :: Fr) K) ?_ ?_
  · intro H37 l38 b39 h
    unfold armoirelaw01_CodecNumbers.j0 at h
    refine G.move rfl rfl rfl rfl ?_
    refine G.rest (l1 := [9, 10, 11, 12]) (l2 := [13, 14, 15, 16, 17, 18, 19, 20, 21, 22, 23]) (fun GG K => ∀ (H40 : PH) (l41 : PH.le H37 H40) (b42 : Bool), armoirelaw01_CodecNumbers.j1 t25 t31 b42 = some r → GG H40 [(12, .int .u64 t25.1), (13, .int .i64 t25.2), (14, .int .u64 t31.1), (15, .int .i64 t31.2), (53, .bool b42)] (OS 5 Kd.u8 B21 c22 t16.1 :: OS 5 Kd.u8 B12 c13 t7.1 :: Fr) K) ?_ ?_
    · intro H40 l41 b42 h
      unfold armoirelaw01_CodecNumbers.j1 at h
      refine G.move rfl rfl rfl rfl ?_
      refine G.rest (l1 := [14, 15, 16, 17]) (l2 := [18, 19, 20, 21, 22, 23]) (fun GG K => ∀ (H43 : PH) (l44 : PH.le H40 H43) (b45 : Bool), armoirelaw01_CodecNumbers.j2 t25 t31 b45 = some r → GG H43 [(13, .int .i64 t25.2), (15, .int .i64 t31.2), (58, .bool b45)] (OS 5 Kd.u8 B21 c22 t16.1 :: OS 5 Kd.u8 B12 c13 t7.1 :: Fr) K) ?_ ?_
      · intro H43 l44 b45 h
        unfold armoirelaw01_CodecNumbers.j2 at h
        refine G.move rfl rfl rfl rfl ?_
        refine G.rest (l1 := [19, 20, 21, 22]) (l2 := [23]) (fun GG K => ∀ (H46 : PH) (l47 : PH.le H43 H46) (b48 : Bool), armoirelaw01_CodecNumbers.j3 b48 = some r → GG H46 [(63, .bool b48)] (OS 5 Kd.u8 B21 c22 t16.1 :: OS 5 Kd.u8 B12 c13 t7.1 :: Fr) K) ?_ ?_
        · intro H46 l47 b48 h
          unfold armoirelaw01_CodecNumbers.j3 at h
          refine G.assign rfl rfl rfl rfl ?_
          refine G.regionEnd ?_
          refine G.drop ?_
          refine G.drop ?_
          obtain rfl := Option.some.inj h
          exact G.ret1 Try.func5 rfl rfl (fun w hs => ⟨_, _, _, rfl, (PH.le_trans (PH.le_trans (PH.le_trans (PH.le_trans (PH.le_trans (PH.le_trans (PH.le_trans (PH.le_trans l5 l11) l20) l29) l35) l38) l41) l44) l47), ⟨rfl, rfl⟩, hs⟩)
        intro J49
        refine G.splitB (d := 59) rfl (fun k50 => ?_) (fun k50 => ?_)
        · replace h := ifT h k50
          refine G.move rfl rfl rfl rfl ?_
          refine G.move rfl rfl rfl rfl ?_
          refine G.cmp (t25.2 = t31.2) rfl rfl rfl rfl rfl rfl Iff.rfl ?_
          refine G.pickT rfl rfl rfl rfl rfl ?_
          refine G.front1 ?_
          refine G.front1 ?_
          refine G.less ?_ (J49 H43 (PH.le_refl _) (decide (t25.2 = t31.2)) h)
          exact ⟨rfl, trivial⟩
        · replace h := ifFB h k50
          refine G.unwanted rfl rfl rfl rfl ?_
          refine G.unwanted rfl rfl rfl rfl ?_
          refine G.unwanted rfl rfl rfl rfl ?_
          refine G.pickF rfl rfl rfl rfl rfl ?_
          refine G.front1 ?_
          refine G.front1 ?_
          refine G.less ?_ (J49 H43 (PH.le_refl _) false h)
          exact ⟨rfl, trivial⟩
      intro J51
      refine G.splitB (d := 54) rfl (fun k52 => ?_) (fun k52 => ?_)
      · replace h := ifT h k52
        refine G.move rfl rfl rfl rfl ?_
        refine G.move rfl rfl rfl rfl ?_
        refine G.cmp (t25.1 = t31.1) rfl rfl rfl rfl rfl rfl Iff.rfl ?_
        refine G.pickT rfl rfl rfl rfl rfl ?_
        refine G.front1 ?_
        refine G.front1 ?_
        refine G.less ?_ (J51 H40 (PH.le_refl _) (decide (t25.1 = t31.1)) h)
        exact ⟨rfl, rfl, rfl, trivial⟩
      · replace h := ifFB h k52
        refine G.unwanted rfl rfl rfl rfl ?_
        refine G.unwanted rfl rfl rfl rfl ?_
        refine G.unwanted rfl rfl rfl rfl ?_
        refine G.pickF rfl rfl rfl rfl rfl ?_
        refine G.front1 ?_
        refine G.front1 ?_
        refine G.less ?_ (J51 H40 (PH.le_refl _) false h)
        exact ⟨rfl, rfl, rfl, trivial⟩
    intro J53
    refine G.splitB (d := 49) rfl (fun k54 => ?_) (fun k54 => ?_)
    · replace h := ifT h k54
      refine G.move rfl rfl rfl rfl ?_
      refine G.move rfl rfl rfl rfl ?_
      refine G.cmp (t7.2 = t16.2) rfl rfl rfl rfl rfl rfl Iff.rfl ?_
      refine G.pickT rfl rfl rfl rfl rfl ?_
      refine G.front1 ?_
      refine G.front1 ?_
      refine G.less ?_ (J53 H37 (PH.le_refl _) (decide (t7.2 = t16.2)) h)
      exact ⟨rfl, rfl, rfl, rfl, rfl, trivial⟩
    · replace h := ifFB h k54
      refine G.unwanted rfl rfl rfl rfl ?_
      refine G.unwanted rfl rfl rfl rfl ?_
      refine G.unwanted rfl rfl rfl rfl ?_
      refine G.pickF rfl rfl rfl rfl rfl ?_
      refine G.front1 ?_
      refine G.front1 ?_
      refine G.less ?_ (J53 H37 (PH.le_refl _) false h)
      exact ⟨rfl, rfl, rfl, rfl, rfl, trivial⟩
  intro J55
  refine G.splitB (d := 42) rfl (fun k56 => ?_) (fun k56 => ?_)
  · replace h := ifT h k56
    refine G.move rfl rfl rfl rfl ?_
    refine G.toStr (s := t7.1) rfl rfl rfl rfl Try.underlying22 Try.underlying5 Try.underlying9 (fun w hs => St.srcO hs (j := 1) rfl) ?_
    refine G.move rfl rfl rfl rfl ?_
    refine G.toStr (s := t16.1) rfl rfl rfl rfl Try.underlying22 Try.underlying5 Try.underlying9 (fun w hs => St.srcO hs (j := 0) rfl) ?_
    refine G.cmpS (s := t7.1) (u := t16.1) (b := decide (t7.1 = t16.1)) rfl rfl rfl rfl rfl rfl rfl ?_
    refine G.pickT rfl rfl rfl rfl rfl ?_
    refine G.front1 ?_
    refine G.front1 ?_
    refine G.less ?_ (J55 H34 (PH.le_refl _) (decide (t7.1 = t16.1)) h)
    exact ⟨rfl, rfl, rfl, rfl, rfl, rfl, rfl, trivial⟩
  · replace h := ifFB h k56
    refine G.unwanted rfl rfl rfl rfl ?_
    refine G.unwanted rfl rfl rfl rfl ?_
    refine G.unwanted rfl rfl rfl rfl ?_
    refine G.unwanted rfl rfl rfl rfl ?_
    refine G.unwanted rfl rfl rfl rfl ?_
    refine G.pickF rfl rfl rfl rfl rfl ?_
    refine G.front1 ?_
    refine G.front1 ?_
    refine G.less ?_ (J55 H34 (PH.le_refl _) false h)
    exact ⟨rfl, rfl, rfl, rfl, rfl, rfl, rfl, trivial⟩
set_option maxRecDepth 20000 in
theorem codec_Text.ok {O : World} {H : PH} {Fr : List Res} (a0 : Str) {r : (List UInt8) × Int} (h : codec_Text.f a0 = some r) :
    Ctr Try.prog 13 [strV a0] O H Fr (fun v H' L' => ∃ (A0 : Option Addr) (c0 : Nat), v = .tuple #[.slice A0 r.1.length c0, .int .i64 r.2] ∧ OS 5 Kd.u8 A0 c0 r.1 :: Fr = L') := by
  refine Ctr.start (n := 13) Try.func13 rfl Try.ntmps13 rfl rfl ?_
  unfold codec_Text.f at h
  refine G.seq ?_
  refine G.region (l := [0, 1]) rfl ?_
  refine G.assign rfl rfl rfl rfl ?_
  refine G.assign rfl rfl rfl rfl ?_
  refine G.regionEnd ?_
  refine G.seq ?_
  refine G.seq ?_
  refine G.region (l := [0, 1, 2]) rfl ?_
  refine G.move rfl rfl rfl rfl ?_
  refine G.lenS (s := a0) rfl rfl rfl rfl Try.underlying9 ?_
  refine G.cmp (255 < (a0.length : Int)) rfl rfl rfl rfl rfl rfl Iff.rfl ?_
  refine G.regionEnd ?_
  refine G.condP rfl (fun k9 => ?_) (fun k9 => ?_)
  · replace h := ifT h k9
    refine G.seq ?_
    refine G.region (l := [0, 1]) rfl ?_
    refine G.assign rfl rfl rfl rfl ?_
    refine G.assign rfl rfl rfl rfl ?_
    refine G.regionEnd ?_
    refine G.osNil 5 Kd.u8 ?_
    refine G.same (d := 2) (v := .slice none (([] : List UInt8).length) 0) rfl (by simp) ?_
    obtain rfl := Option.some.inj h
    exact G.retN (rs := [.tmp 2, .tmp 3]) Try.func13 rfl rfl rfl (fun w hs => ⟨_, _, _, rfl, (PH.le_refl _), ⟨none, 0, rfl, rfl⟩, hs⟩)
  · replace h := ifF h k9
    refine G.skip ?_
    refine G.seq ?_
    refine G.region (l := [0, 1, 2, 3, 4, 5, 6, 7]) rfl ?_
    refine G.move rfl rfl rfl rfl ?_
    refine G.lenS (s := a0) rfl rfl rfl rfl Try.underlying9 ?_
    refine G.toU8 (m := (a0.length : Int)) (b := u8of (a0.length : Int)) rfl rfl rfl rfl Try.underlying3 Try.underlying5 rfl ?_
    refine G.buildSlice (df := Kd.u8) (xs := ([u8of (a0.length : Int)] : List UInt8)) (cs := [u8V (u8of (a0.length : Int))]) rfl rfl rfl el22 (z := .int .u8 0) (cz := [u8V 0]) (by kernel_rfl) rfl rfl rfl rfl rfl rfl rfl (⟨[u8V (u8of (a0.length : Int))], _, rfl, rfl, rfl⟩) ?_
    intro B3
    refine G.move rfl rfl rfl rfl ?_
    obtain ⟨k5, h⟩ := guardS h
    refine G.append (df := Kd.u8) (xs := ([u8of (a0.length : Int)] : List UInt8)) (ys := a0) (z0 := 0) (z := .int .u8 0) (cz := [u8V 0]) rfl rfl rfl rfl (by simp) rfl el22 Try.underlying9 rfl (by kernel_rfl) rfl (rfl) (fun w hs => SrcR.str _ w _ _) ⟨by omega, by omega⟩ ?_
    intro B6 c7
    refine G.assign rfl rfl rfl rfl ?_
    refine G.assign rfl rfl rfl rfl ?_
    refine G.regionEnd ?_
    obtain rfl := Option.some.inj h
    exact G.retN (rs := [.tmp 2, .tmp 3]) Try.func13 rfl rfl rfl (fun w hs => ⟨_, _, _, rfl, (PH.le_refl _), ⟨B6, c7, rfl, rfl⟩, hs⟩)
set_option maxRecDepth 20000 in
theorem codec_ReadText.ok {O : World} {H : PH} {Fr : List Res} (A0 : Option Addr) (n0 : Nat) (a0 : (List UInt8)) (F0 : SlR Kd.u8 H A0 n0 a0) {r : Str × Int × Int} (h : codec_ReadText.f a0 = some r) :
    Ctr Try.prog 15 [.slice A0 a0.length n0] O H Fr (fun v H' L' => v = .tuple #[strV r.1, .int .i64 r.2.1, .int .i64 r.2.2] ∧ Fr = L') := by
  refine Ctr.start (n := 23) Try.func15 rfl Try.ntmps15 rfl rfl ?_
  unfold codec_ReadText.f at h
  refine G.seq ?_
  refine G.region (l := [0, 1, 2]) rfl ?_
  refine G.assign rfl rfl rfl rfl ?_
  refine G.assign rfl rfl rfl rfl ?_
  refine G.assign rfl rfl rfl rfl ?_
  refine G.regionEnd ?_
  refine G.seq ?_
  refine G.seq ?_
  refine G.region (l := [0, 1, 2]) rfl ?_
  refine G.move rfl rfl rfl rfl ?_
  refine G.len (m := a0.length) rfl rfl rfl rfl Try.underlying22 ?_
  refine G.cmp ((a0.length : Int) = 0) rfl rfl rfl rfl rfl rfl Iff.rfl ?_
  refine G.regionEnd ?_
  refine G.condP rfl (fun k9 => ?_) (fun k9 => ?_)
  · replace h := ifT h k9
    refine G.seq ?_
    refine G.region (l := [0, 1, 2]) rfl ?_
    refine G.assign rfl rfl rfl rfl ?_
    refine G.assign rfl rfl rfl rfl ?_
    refine G.assign rfl rfl rfl rfl ?_
    refine G.regionEnd ?_
    obtain rfl := Option.some.inj h
    exact G.retN (rs := [.tmp 2, .tmp 3, .tmp 4]) Try.func15 rfl rfl rfl (fun w hs => ⟨_, _, _, rfl, (PH.le_refl _), ⟨rfl, rfl⟩, hs⟩)
  · replace h := ifF h k9
    refine G.skip ?_
    refine G.seq ?_
    refine G.region (l := [0, 1, 2, 3, 4, 5]) rfl ?_
    refine G.move rfl rfl rfl rfl ?_
    obtain ⟨k1, h⟩ := guardS h
    refine G.indexR (xs := a0) (j := 0) 0 rfl rfl rfl rfl rfl el22 F0 k1 ?_
    intro a2 f3
    refine G.load8 (y := a0.getD 0 0) rfl rfl rfl rfl ty5 (fun w hs => Rd.ro f3 hs) ?_
    refine G.conv (m := ((a0.getD 0 0).toNat : Int)) (r := ((a0.getD 0 0).toNat : Int)) rfl rfl rfl rfl Try.underlying5 Try.underlying3 (by have := (a0.getD 0 0).toNat_lt; simp only [wr, wi64]; omega) ?_
    refine G.bin (m := 1) (n := ((a0.getD 0 0).toNat : Int)) (r := wi64 (1 + ((a0.getD 0 0).toNat : Int))) rfl rfl rfl rfl rfl rfl rfl ?_
    refine G.assign rfl rfl rfl rfl ?_
    refine G.regionEnd ?_
    refine G.seq ?_
    refine G.seq ?_
    refine G.region (l := [0, 1, 2, 3]) rfl ?_
    refine G.move rfl rfl rfl rfl ?_
    refine G.move rfl rfl rfl rfl ?_
    refine G.len (m := a0.length) rfl rfl rfl rfl Try.underlying22 ?_
    refine G.cmp ((a0.length : Int) < (wi64 (1 + ((a0.getD 0 0).toNat : Int)))) rfl rfl rfl rfl rfl rfl Iff.rfl ?_
    refine G.regionEnd ?_
    refine G.condP rfl (fun k8 => ?_) (fun k8 => ?_)
    · replace h := ifT h k8
      refine G.seq ?_
      refine G.region (l := [0, 1, 2]) rfl ?_
      refine G.assign rfl rfl rfl rfl ?_
      refine G.assign rfl rfl rfl rfl ?_
      refine G.assign rfl rfl rfl rfl ?_
      refine G.regionEnd ?_
      obtain rfl := Option.some.inj h
      exact G.retN (rs := [.tmp 2, .tmp 3, .tmp 4]) Try.func15 rfl rfl rfl (fun w hs => ⟨_, _, _, rfl, (PH.le_refl _), ⟨rfl, rfl⟩, hs⟩)
    · replace h := ifF h k8
      refine G.skip ?_
      refine G.seq ?_
      refine G.region (l := [0, 1, 2, 3, 4, 5, 6, 7]) rfl ?_
      refine G.move rfl rfl rfl rfl ?_
      refine G.move rfl rfl rfl rfl ?_
      obtain ⟨k4, h⟩ := guardS h
      refine G.cutR (xs := a0) (l := 1) (h := wi64 (1 + ((a0.getD 0 0).toNat : Int))) (m := (n0 : Int)) rfl rfl rfl rfl rfl rfl rfl rfl el22 F0 k4 (fun hc => ⟨by omega, Int.le_refl _⟩) (by intro hh; first | rfl | cases hh) ?_
      intro B5 c6 f7
      refine G.toStr (s := ((a0.take ((wi64 (1 + ((a0.getD 0 0).toNat : Int))).toNat)).drop 1)) rfl rfl rfl rfl Try.underlying22 Try.underlying5 Try.underlying9 (fun w hs => St.srcR hs f7) ?_
      refine G.move rfl rfl rfl rfl ?_
      refine G.assign rfl rfl rfl rfl ?_
      refine G.assign rfl rfl rfl rfl ?_
      refine G.assign rfl rfl rfl rfl ?_
      refine G.regionEnd ?_
      obtain rfl := Option.some.inj h
      exact G.retN (rs := [.tmp 2, .tmp 3, .tmp 4]) Try.func15 rfl rfl rfl (fun w hs => ⟨_, _, _, rfl, (PH.le_refl _), ⟨rfl, rfl⟩, hs⟩)
set_option maxRecDepth 20000 in
theorem armoirelaw01_texts.ok {O : World} {H : PH} {Fr : List Res}  {r : Bool} (h : armoirelaw01_texts.f  = some r) :
    Ctr Try.prog 12 [] O H Fr (fun v H' L' => v = .bool r ∧ Fr = L') := by
  refine Ctr.start (n := 36) Try.func12 rfl Try.ntmps12 rfl rfl ?_
  unfold armoirelaw01_texts.f at h
  refine G.seq ?_
  refine G.region (l := [0]) rfl ?_
  refine G.assign rfl rfl rfl rfl ?_
  refine G.regionEnd ?_
  refine G.seq ?_
  refine G.region (l := [0, 1, 2, 3, 4, 5]) rfl ?_
  obtain ⟨t1, e2, h⟩ := bindS h
  refine G.call rfl rfl rfl rfl call13 (codec_Text.ok ([97, 98] : Str) e2) ?_
  rintro v3 H4 L9 l5 ⟨B6, c7, rfl, rfl⟩
  refine G.move rfl rfl rfl rfl ?_
  refine G.extract rfl rfl rfl rfl rfl ?_
  refine G.extract rfl rfl rfl rfl rfl ?_
  refine G.assign rfl rfl rfl rfl ?_
  refine G.assign rfl rfl rfl rfl ?_
  refine G.regionEnd ?_
  refine G.seq ?_
  refine G.region (l := [0, 1, 2, 3, 4, 5, 6, 7, 8, 9]) rfl ?_
  refine G.buildSlice (df := Kd.u8) (xs := ([2, 97, 98, 99] : List UInt8)) (cs := [u8V 2, u8V 97, u8V 98, u8V 99]) rfl rfl rfl el22 (z := .int .u8 0) (cz := [u8V 0]) (by kernel_rfl) rfl rfl rfl rfl rfl rfl rfl (⟨[u8V 2], _, rfl, rfl, ⟨[u8V 97], _, rfl, rfl, ⟨[u8V 98], _, rfl, rfl, ⟨[u8V 99], _, rfl, rfl, rfl⟩⟩⟩⟩) ?_
  intro B10
  refine G.markO (xs := ([2, 97, 98, 99] : List UInt8)) rfl rfl rfl rfl Try.underlying22 Try.underlying5 (by decide) ?_
  obtain ⟨t12, e13, h⟩ := bindS h
  refine G.callB rfl rfl rfl rfl call15 (fun w hs => codec_ReadText.ok B10 4 ([2, 97, 98, 99] : List UInt8) (hs.osSl (j := 0) rfl) e13) (by rintro v H' L' ⟨rfl, rfl⟩; exact Free.nil) ?_
  rintro v14 L15 ⟨_, rfl, rfl⟩
  refine G.move rfl rfl rfl rfl ?_
  refine G.extract rfl rfl rfl rfl rfl ?_
  refine G.extract rfl rfl rfl rfl rfl ?_
  refine G.extract rfl rfl rfl rfl rfl ?_
  refine G.assign rfl rfl rfl rfl ?_
  refine G.assign rfl rfl rfl rfl ?_
  refine G.assign rfl rfl rfl rfl ?_
  refine G.regionEnd ?_
  refine G.seq ?_
  refine G.region (l := [0, 1, 2, 3, 4, 5, 6, 7, 8, 9, 10, 11, 12, 13, 14, 15, 16, 17, 18, 19]) rfl ?_
  refine G.move rfl rfl rfl rfl ?_
  refine G.toStr (s := t1.1) rfl rfl rfl rfl Try.underlying22 Try.underlying5 Try.underlying9 (fun w hs => St.srcO hs (j := 1) rfl) ?_
  refine G.cmpS (s := t1.1) (u := ([2, 97, 98] : Str)) (b := decide (t1.1 = ([2, 97, 98] : Str))) rfl rfl rfl rfl rfl rfl rfl ?_
  refine G.move rfl rfl rfl rfl ?_
  refine G.rest (l1 := [4, 5, 6]) (l2 := [7, 8, 9, 10, 11, 12, 13, 14, 15, 16, 17, 18, 19]) (fun GG K => ∀ (H16 : PH) (l17 : PH.le H4 H16) (b18 : Bool), armoirelaw01_texts.j0 t12 b18 = some r → GG H16 [(3, strV t12.1), (4, .int .i64 t12.2.1), (5, .int .i64 t12.2.2), (23, .bool b18)] (OS 5 Kd.u8 B10 4 ([2, 97, 98, 99] : List UInt8) :: OS 5 Kd.u8 B6 c7 t1.1 :: Fr) K) ?_ ?_
  · intro H16 l17 b18 h
    unfold armoirelaw01_texts.j0 at h
    refine G.move rfl rfl rfl rfl ?_
    refine G.rest (l1 := [8, 9, 10]) (l2 := [11, 12, 13, 14, 15, 16, 17, 18, 19]) (fun GG K => ∀ (H19 : PH) (l20 : PH.le H16 H19) (b21 : Bool), armoirelaw01_texts.j1 t12 b21 = some r → GG H19 [(4, .int .i64 t12.2.1), (5, .int .i64 t12.2.2), (27, .bool b21)] (OS 5 Kd.u8 B10 4 ([2, 97, 98, 99] : List UInt8) :: OS 5 Kd.u8 B6 c7 t1.1 :: Fr) K) ?_ ?_
    · intro H19 l20 b21 h
      unfold armoirelaw01_texts.j1 at h
      refine G.move rfl rfl rfl rfl ?_
      refine G.rest (l1 := [12, 13, 14]) (l2 := [15, 16, 17, 18, 19]) (fun GG K => ∀ (H22 : PH) (l23 : PH.le H19 H22) (b24 : Bool), armoirelaw01_texts.j2 t12 b24 = some r → GG H22 [(5, .int .i64 t12.2.2), (31, .bool b24)] (OS 5 Kd.u8 B10 4 ([2, 97, 98, 99] : List UInt8) :: OS 5 Kd.u8 B6 c7 t1.1 :: Fr) K) ?_ ?_
      · intro H22 l23 b24 h
        unfold armoirelaw01_texts.j2 at h
        refine G.move rfl rfl rfl rfl ?_
        refine G.rest (l1 := [16, 17, 18]) (l2 := [19]) (fun GG K => ∀ (H25 : PH) (l26 : PH.le H22 H25) (b27 : Bool), armoirelaw01_texts.j3 b27 = some r → GG H25 [(35, .bool b27)] (OS 5 Kd.u8 B10 4 ([2, 97, 98, 99] : List UInt8) :: OS 5 Kd.u8 B6 c7 t1.1 :: Fr) K) ?_ ?_
        · intro H25 l26 b27 h
          unfold armoirelaw01_texts.j3 at h
          refine G.assign rfl rfl rfl rfl ?_
          refine G.regionEnd ?_
          refine G.drop ?_
          refine G.drop ?_
          obtain rfl := Option.some.inj h
          exact G.ret1 Try.func12 rfl rfl (fun w hs => ⟨_, _, _, rfl, (PH.le_trans (PH.le_trans (PH.le_trans (PH.le_trans l5 l17) l20) l23) l26), ⟨rfl, rfl⟩, hs⟩)
        intro J28
        refine G.splitB (d := 32) rfl (fun k29 => ?_) (fun k29 => ?_)
        · replace h := ifT h k29
          refine G.move rfl rfl rfl rfl ?_
          refine G.cmp (t12.2.2 = 0) rfl rfl rfl rfl rfl rfl Iff.rfl ?_
          refine G.pickT rfl rfl rfl rfl rfl ?_
          refine G.front1 ?_
          refine G.front1 ?_
          refine G.less ?_ (J28 H22 (PH.le_refl _) (decide (t12.2.2 = 0)) h)
          exact ⟨rfl, trivial⟩
        · replace h := ifFB h k29
          refine G.unwanted rfl rfl rfl rfl ?_
          refine G.unwanted rfl rfl rfl rfl ?_
          refine G.pickF rfl rfl rfl rfl rfl ?_
          refine G.front1 ?_
          refine G.front1 ?_
          refine G.less ?_ (J28 H22 (PH.le_refl _) false h)
          exact ⟨rfl, trivial⟩
      intro J30
      refine G.splitB (d := 28) rfl (fun k31 => ?_) (fun k31 => ?_)
      · replace h := ifT h k31
        refine G.move rfl rfl rfl rfl ?_
        refine G.cmp (t12.2.1 = 3) rfl rfl rfl rfl rfl rfl Iff.rfl ?_
        refine G.pickT rfl rfl rfl rfl rfl ?_
        refine G.front1 ?_
        refine G.front1 ?_
        refine G.less ?_ (J30 H19 (PH.le_refl _) (decide (t12.2.1 = 3)) h)
        exact ⟨rfl, rfl, trivial⟩
      · replace h := ifFB h k31
        refine G.unwanted rfl rfl rfl rfl ?_
        refine G.unwanted rfl rfl rfl rfl ?_
        refine G.pickF rfl rfl rfl rfl rfl ?_
        refine G.front1 ?_
        refine G.front1 ?_
        refine G.less ?_ (J30 H19 (PH.le_refl _) false h)
        exact ⟨rfl, rfl, trivial⟩
    intro J32
    refine G.splitB (d := 24) rfl (fun k33 => ?_) (fun k33 => ?_)
    · replace h := ifT h k33
      refine G.move rfl rfl rfl rfl ?_
      refine G.cmpS (s := t12.1) (u := ([97, 98] : Str)) (b := decide (t12.1 = ([97, 98] : Str))) rfl rfl rfl rfl rfl rfl rfl ?_
      refine G.pickT rfl rfl rfl rfl rfl ?_
      refine G.front1 ?_
      refine G.front1 ?_
      refine G.less ?_ (J32 H16 (PH.le_refl _) (decide (t12.1 = ([97, 98] : Str))) h)
      exact ⟨rfl, rfl, rfl, trivial⟩
    · replace h := ifFB h k33
      refine G.unwanted rfl rfl rfl rfl ?_
      refine G.unwanted rfl rfl rfl rfl ?_
      refine G.pickF rfl rfl rfl rfl rfl ?_
      refine G.front1 ?_
      refine G.front1 ?_
      refine G.less ?_ (J32 H16 (PH.le_refl _) false h)
      exact ⟨rfl, rfl, rfl, trivial⟩
  intro J34
  refine G.splitP (d := 20) rfl (fun k35 => ?_) (fun k35 => ?_)
  · replace h := ifT h k35
    refine G.move rfl rfl rfl rfl ?_
    refine G.cmp (t1.2 = 0) rfl rfl rfl rfl rfl rfl Iff.rfl ?_
    refine G.pickT rfl rfl rfl rfl rfl ?_
    refine G.front1 ?_
    refine G.front1 ?_
    refine G.less ?_ (J34 H4 (PH.le_refl _) (decide (t1.2 = 0)) h)
    exact ⟨rfl, rfl, rfl, rfl, trivial⟩
  · replace h := ifF h k35
    refine G.unwanted rfl rfl rfl rfl ?_
    refine G.unwanted rfl rfl rfl rfl ?_
    refine G.pickF rfl rfl rfl rfl rfl ?_
    refine G.front1 ?_
    refine G.front1 ?_
    refine G.less ?_ (J34 H4 (PH.le_refl _) false h)
    exact ⟨rfl, rfl, rfl, rfl, trivial⟩
set_option maxRecDepth 20000 in
theorem armoireref01_Text.ok {O : World} {H : PH} {Fr : List Res} (a0 : Str) {r : (List UInt8) × Int} (h : armoireref01_Text.f a0 = some r) :
    Ctr Try.prog 14 [strV a0] O H Fr (fun v H' L' => ∃ (A0 : Option Addr) (c0 : Nat), v = .tuple #[.slice A0 r.1.length c0, .int .i64 r.2] ∧ OS 5 Kd.u8 A0 c0 r.1 :: Fr = L') := by
  refine Ctr.start (n := 13) Try.func14 rfl Try.ntmps14 rfl rfl ?_
  unfold armoireref01_Text.f at h
  refine G.seq ?_
  refine G.region (l := [0, 1]) rfl ?_
  refine G.assign rfl rfl rfl rfl ?_
  refine G.assign rfl rfl rfl rfl ?_
  refine G.regionEnd ?_
  refine G.seq ?_
  refine G.seq ?_
  refine G.region (l := [0, 1, 2]) rfl ?_
  refine G.move rfl rfl rfl rfl ?_
  refine G.lenS (s := a0) rfl rfl rfl rfl Try.underlying9 ?_
  refine G.cmp (255 < (a0.length : Int)) rfl rfl rfl rfl rfl rfl Iff.rfl ?_
  refine G.regionEnd ?_
  refine G.condP rfl (fun k9 => ?_) (fun k9 => ?_)
  · replace h := ifT h k9
    refine G.seq ?_
    refine G.region (l := [0, 1]) rfl ?_
    refine G.assign rfl rfl rfl rfl ?_
    refine G.assign rfl rfl rfl rfl ?_
    refine G.regionEnd ?_
    refine G.osNil 5 Kd.u8 ?_
    refine G.same (d := 2) (v := .slice none (([] : List UInt8).length) 0) rfl (by simp) ?_
    obtain rfl := Option.some.inj h
    exact G.retN (rs := [.tmp 2, .tmp 3]) Try.func14 rfl rfl rfl (fun w hs => ⟨_, _, _, rfl, (PH.le_refl _), ⟨none, 0, rfl, rfl⟩, hs⟩)
  · replace h := ifF h k9
    refine G.skip ?_
    refine G.seq ?_
    refine G.region (l := [0, 1, 2, 3, 4, 5, 6, 7]) rfl ?_
    refine G.move rfl rfl rfl rfl ?_
    refine G.lenS (s := a0) rfl rfl rfl rfl Try.underlying9 ?_
    refine G.toU8 (m := (a0.length : Int)) (b := u8of (a0.length : Int)) rfl rfl rfl rfl Try.underlying3 Try.underlying5 rfl ?_
    refine G.buildSlice (df := Kd.u8) (xs := ([u8of (a0.length : Int)] : List UInt8)) (cs := [u8V (u8of (a0.length : Int))]) rfl rfl rfl el22 (z := .int .u8 0) (cz := [u8V 0]) (by kernel_rfl) rfl rfl rfl rfl rfl rfl rfl (⟨[u8V (u8of (a0.length : Int))], _, rfl, rfl, rfl⟩) ?_
    intro B3
    refine G.move rfl rfl rfl rfl ?_
    obtain ⟨k5, h⟩ := guardS h
    refine G.append (df := Kd.u8) (xs := ([u8of (a0.length : Int)] : List UInt8)) (ys := a0) (z0 := 0) (z := .int .u8 0) (cz := [u8V 0]) rfl rfl rfl rfl (by simp) rfl el22 Try.underlying9 rfl (by kernel_rfl) rfl (rfl) (fun w hs => SrcR.str _ w _ _) ⟨by omega, by omega⟩ ?_
    intro B6 c7
    refine G.assign rfl rfl rfl rfl ?_
    refine G.assign rfl rfl rfl rfl ?_
    refine G.regionEnd ?_
    obtain rfl := Option.some.inj h
    exact G.retN (rs := [.tmp 2, .tmp 3]) Try.func14 rfl rfl rfl (fun w hs => ⟨_, _, _, rfl, (PH.le_refl _), ⟨B6, c7, rfl, rfl⟩, hs⟩)
set_option maxRecDepth 20000 in
theorem armoireref01_ReadText.ok {O : World} {H : PH} {Fr : List Res} (A0 : Option Addr) (n0 : Nat) (a0 : (List UInt8)) (F0 : SlR Kd.u8 H A0 n0 a0) {r : Str × Int × Int} (h : armoireref01_ReadText.f a0 = some r) :
    Ctr Try.prog 16 [.slice A0 a0.length n0] O H Fr (fun v H' L' => v = .tuple #[strV r.1, .int .i64 r.2.1, .int .i64 r.2.2] ∧ Fr = L') := by
  refine Ctr.start (n := 29) Try.func16 rfl Try.ntmps16 rfl rfl ?_
  unfold armoireref01_ReadText.f at h
  refine G.seq ?_
  refine G.region (l := [0, 1, 2]) rfl ?_
  refine G.assign rfl rfl rfl rfl ?_
  refine G.assign rfl rfl rfl rfl ?_
  refine G.assign rfl rfl rfl rfl ?_
  refine G.regionEnd ?_
  refine G.seq ?_
  refine G.seq ?_
  refine G.region (l := [0, 1, 2, 3, 4, 5, 6, 7, 8, 9, 10, 11, 12]) rfl ?_
  refine G.move rfl rfl rfl rfl ?_
  refine G.len (m := a0.length) rfl rfl rfl rfl Try.underlying22 ?_
  refine G.cmp ((a0.length : Int) = 0) rfl rfl rfl rfl rfl rfl Iff.rfl ?_
  refine G.move rfl rfl rfl rfl ?_
  refine G.rest (l1 := [4, 5, 6, 7, 8, 9, 10, 11, 12]) (l2 := []) (fun GG K => ∀ (H4 : PH) (l5 : PH.le H H4) (b6 : Bool), armoireref01_ReadText.j0 a0 b6 = some r → GG H4 [(0, .slice A0 a0.length n0), (18, .bool b6)] (Fr) K) ?_ ?_
  · intro H4 l5 b6 h
    unfold armoireref01_ReadText.j0 at h
    refine G.regionEnd ?_
    refine G.cond rfl (fun k14 => ?_) (fun k14 => ?_)
    · replace h := ifT h k14
      refine G.seq ?_
      refine G.region (l := [0, 1, 2]) rfl ?_
      refine G.assign rfl rfl rfl rfl ?_
      refine G.assign rfl rfl rfl rfl ?_
      refine G.assign rfl rfl rfl rfl ?_
      refine G.regionEnd ?_
      obtain rfl := Option.some.inj h
      exact G.retN (rs := [.tmp 2, .tmp 3, .tmp 4]) Try.func16 rfl rfl rfl (fun w hs => ⟨_, _, _, rfl, l5, ⟨rfl, rfl⟩, hs⟩)
    · replace h := ifFB h k14
      refine G.skip ?_
      refine G.seq ?_
      refine G.region (l := [0, 1, 2, 3, 4, 5]) rfl ?_
      refine G.move rfl rfl rfl rfl ?_
      obtain ⟨k7, h⟩ := guardS h
      refine G.indexR (xs := a0) (j := 0) 0 rfl rfl rfl rfl rfl el22 (F0.mono l5) k7 ?_
      intro a8 f9
      refine G.load8 (y := a0.getD 0 0) rfl rfl rfl rfl ty5 (fun w hs => Rd.ro f9 hs) ?_
      refine G.conv (m := ((a0.getD 0 0).toNat : Int)) (r := ((a0.getD 0 0).toNat : Int)) rfl rfl rfl rfl Try.underlying5 Try.underlying3 (by have := (a0.getD 0 0).toNat_lt; simp only [wr, wi64]; omega) ?_
      refine G.bin (m := 1) (n := ((a0.getD 0 0).toNat : Int)) (r := wi64 (1 + ((a0.getD 0 0).toNat : Int))) rfl rfl rfl rfl rfl rfl rfl ?_
      refine G.assign rfl rfl rfl rfl ?_
      refine G.regionEnd ?_
      refine G.seq ?_
      refine G.region (l := [0, 1, 2, 3, 4, 5, 6, 7]) rfl ?_
      refine G.move rfl rfl rfl rfl ?_
      refine G.move rfl rfl rfl rfl ?_
      obtain ⟨k10, h⟩ := guardS h
      refine G.cutR (xs := a0) (l := 1) (h := wi64 (1 + ((a0.getD 0 0).toNat : Int))) (m := (n0 : Int)) rfl rfl rfl rfl rfl rfl rfl rfl el22 (F0.mono l5) k10 (fun hc => ⟨by omega, Int.le_refl _⟩) (by intro hh; first | rfl | cases hh) ?_
      intro B11 c12 f13
      refine G.toStr (s := ((a0.take ((wi64 (1 + ((a0.getD 0 0).toNat : Int))).toNat)).drop 1)) rfl rfl rfl rfl Try.underlying22 Try.underlying5 Try.underlying9 (fun w hs => St.srcR hs f13) ?_
      refine G.move rfl rfl rfl rfl ?_
      refine G.assign rfl rfl rfl rfl ?_
      refine G.assign rfl rfl rfl rfl ?_
      refine G.assign rfl rfl rfl rfl ?_
      refine G.regionEnd ?_
      obtain rfl := Option.some.inj h
      exact G.retN (rs := [.tmp 2, .tmp 3, .tmp 4]) Try.func16 rfl rfl rfl (fun w hs => ⟨_, _, _, rfl, l5, ⟨rfl, rfl⟩, hs⟩)
  intro J15
  refine G.splitP (d := 9) rfl (fun k19 => ?_) (fun k19 => ?_)
  · replace h := ifT h k19
    refine G.unwanted rfl rfl rfl rfl ?_
    refine G.unwanted rfl rfl rfl rfl ?_
    refine G.unwanted rfl rfl rfl rfl ?_
    refine G.unwanted rfl rfl rfl rfl ?_
    refine G.unwanted rfl rfl rfl rfl ?_
    refine G.unwanted rfl rfl rfl rfl ?_
    refine G.unwanted rfl rfl rfl rfl ?_
    refine G.unwanted rfl rfl rfl rfl ?_
    refine G.pickT rfl rfl rfl rfl rfl ?_
    refine G.less ?_ (J15 H (PH.le_refl _) true h)
    exact ⟨rfl, rfl, trivial⟩
  · replace h := ifF h k19
    refine G.move rfl rfl rfl rfl ?_
    refine G.len (m := a0.length) rfl rfl rfl rfl Try.underlying22 ?_
    refine G.bin (m := (a0.length : Int)) (n := 1) (r := wi64 ((a0.length : Int) - 1)) rfl rfl rfl rfl rfl rfl rfl ?_
    refine G.move rfl rfl rfl rfl ?_
    obtain ⟨k16, h⟩ := guardS h
    refine G.indexR (xs := a0) (j := 0) 0 rfl rfl rfl rfl rfl el22 F0 k16 ?_
    intro a17 f18
    refine G.load8 (y := a0.getD 0 0) rfl rfl rfl rfl ty5 (fun w hs => Rd.ro f18 hs) ?_
    refine G.conv (m := ((a0.getD 0 0).toNat : Int)) (r := ((a0.getD 0 0).toNat : Int)) rfl rfl rfl rfl Try.underlying5 Try.underlying3 (by have := (a0.getD 0 0).toNat_lt; simp only [wr, wi64]; omega) ?_
    refine G.cmp ((wi64 ((a0.length : Int) - 1)) < ((a0.getD 0 0).toNat : Int)) rfl rfl rfl rfl rfl rfl Iff.rfl ?_
    refine G.pickF rfl rfl rfl rfl rfl ?_
    refine G.less ?_ (J15 H (PH.le_refl _) (decide ((wi64 ((a0.length : Int) - 1)) < ((a0.getD 0 0).toNat : Int))) h)
    exact ⟨rfl, rfl, trivial⟩
set_option maxRecDepth 20000 in
theorem armoirelaw01_CodecTexts.ok {O : World} {H : PH} {Fr : List Res} (a0 : Str) (A1 : Option Addr) (n1 : Nat) (a1 : (List UInt8)) (F1 : SlR Kd.u8 H A1 n1 a1) {r : Bool} (h : armoirelaw01_CodecTexts.f a0 a1 = some r) :
    Ctr Try.prog 3 [strV a0, .slice A1 a1.length n1] O H Fr (fun v H' L' => v = .bool r ∧ Fr = L') := by
  refine Ctr.start (n := 67) Try.func3 rfl Try.ntmps3 rfl rfl ?_
  unfold armoirelaw01_CodecTexts.f at h
  refine G.seq ?_
  refine G.region (l := [0]) rfl ?_
  refine G.assign rfl rfl rfl rfl ?_
  refine G.regionEnd ?_
  refine G.seq ?_
  refine G.region (l := [0, 1]) rfl ?_
  obtain ⟨t1, e2, h⟩ := bindS h
  refine G.call rfl rfl rfl rfl call12 (armoirelaw01_texts.ok  e2) ?_
  rintro v3 H4 L6 l5 ⟨rfl, rfl⟩
  refine G.assign rfl rfl rfl rfl ?_
  refine G.regionEnd ?_
  refine G.seq ?_
  refine G.region (l := [0, 1, 2, 3, 4, 5, 6]) rfl ?_
  refine G.move rfl rfl rfl rfl ?_
  obtain ⟨t7, e8, h⟩ := bindS h
  refine G.call rfl rfl rfl rfl call13 (codec_Text.ok a0 e8) ?_
  rintro v9 H10 L15 l11 ⟨B12, c13, rfl, rfl⟩
  refine G.move rfl rfl rfl rfl ?_
  refine G.extract rfl rfl rfl rfl rfl ?_
  refine G.extract rfl rfl rfl rfl rfl ?_
  refine G.assign rfl rfl rfl rfl ?_
  refine G.assign rfl rfl rfl rfl ?_
  refine G.regionEnd ?_
  refine G.seq ?_
  refine G.region (l := [0, 1, 2, 3, 4, 5, 6]) rfl ?_
  refine G.move rfl rfl rfl rfl ?_
  obtain ⟨t16, e17, h⟩ := bindS h
  refine G.call rfl rfl rfl rfl call14 (armoireref01_Text.ok a0 e17) ?_
  rintro v18 H19 L24 l20 ⟨B21, c22, rfl, rfl⟩
  refine G.move rfl rfl rfl rfl ?_
  refine G.extract rfl rfl rfl rfl rfl ?_
  refine G.extract rfl rfl rfl rfl rfl ?_
  refine G.assign rfl rfl rfl rfl ?_
  refine G.assign rfl rfl rfl rfl ?_
  refine G.regionEnd ?_
  refine G.seq ?_
  refine G.region (l := [0, 1, 2, 3, 4, 5, 6, 7, 8]) rfl ?_
  refine G.move rfl rfl rfl rfl ?_
  obtain ⟨t25, e26, h⟩ := bindS h
  refine G.call rfl rfl rfl rfl call15 (codec_ReadText.ok A1 n1 a1 (F1.mono (PH.le_trans (PH.le_trans l5 l11) l20)) e26) ?_
  rintro v27 H28 L30 l29 ⟨rfl, rfl⟩
  refine G.move rfl rfl rfl rfl ?_
  refine G.extract rfl rfl rfl rfl rfl ?_
  refine G.extract rfl rfl rfl rfl rfl ?_
  refine G.extract rfl rfl rfl rfl rfl ?_
  refine G.assign rfl rfl rfl rfl ?_
  refine G.assign rfl rfl rfl rfl ?_
  refine G.assign rfl rfl rfl rfl ?_
  refine G.regionEnd ?_
  refine G.seq ?_
  refine G.region (l := [0, 1, 2, 3, 4, 5, 6, 7, 8]) rfl ?_
  refine G.move rfl rfl rfl rfl ?_
  obtain ⟨t31, e32, h⟩ := bindS h
  refine G.call rfl rfl rfl rfl call16 (armoireref01_ReadText.ok A1 n1 a1 (F1.mono (PH.le_trans (PH.le_trans (PH.le_trans l5 l11) l20) l29)) e32) ?_
  rintro v33 H34 L36 l35 ⟨rfl, rfl⟩
  refine G.move rfl rfl rfl rfl ?_
  refine G.extract rfl rfl rfl rfl rfl ?_
  refine G.extract rfl rfl rfl rfl rfl ?_
  refine G.extract rfl rfl rfl rfl rfl ?_
  refine G.assign rfl rfl rfl rfl ?_
  refine G.assign rfl rfl rfl rfl ?_
  refine G.assign rfl rfl rfl rfl ?_
  refine G.regionEnd ?_
  refine G.seq ?_
  refine G.region (l := [0, 1, 2, 3, 4, 5, 6, 7, 8, 9, 10, 11, 12, 13, 14, 15, 16, 17, 18, 19, 20, 21, 22, 23, 24, 25, 26, 27, 28]) rfl ?_
  refine G.move rfl rfl rfl rfl ?_
  refine G.move rfl rfl rfl rfl ?_
  refine G.rest (l1 := [2, 3, 4, 5, 6, 7]) (l2 := [8, 9, 10, 11, 12, 13, 14, 15, 16, 17, 18, 19, 20, 21, 22, 23, 24, 25, 26, 27, 28]) (fun GG K => ∀ (H37 : PH) (l38 : PH.le H34 H37) (b39 : Bool), armoirelaw01_CodecTexts.j0 t7 t16 t25 t31 b39 = some r → GG H37 [(7, .int .i64 t7.2), (9, .int .i64 t16.2), (10, strV t25.1), (11, .int .i64 t25.2.1), (12, .int .i64 t25.2.2), (13, strV t31.1), (14, .int .i64 t31.2.1), (15, .int .i64 t31.2.2), (46, .bool b39)] (OS 5 Kd.u8 B21 c22 t16.1 :: OS 5 Kd.u8 B12 c13 t7.1 :: Fr) K) ?_ ?_
  · intro H37 l38 b39 h
    unfold armoirelaw01_CodecTexts.j0 at h
    refine G.move rfl rfl rfl rfl ?_
    refine G.rest (l1 := [9, 10, 11, 12]) (l2 := [13, 14, 15, 16, 17, 18, 19, 20, 21, 22, 23, 24, 25, 26, 27, 28]) (fun GG K => ∀ (H40 : PH) (l41 : PH.le H37 H40) (b42 : Bool), armoirelaw01_CodecTexts.j1 t25 t31 b42 = some r → GG H40 [(10, strV t25.1), (11, .int .i64 t25.2.1), (12, .int .i64 t25.2.2), (13, strV t31.1), (14, .int .i64 t31.2.1), (15, .int .i64 t31.2.2), (51, .bool b42)] (OS 5 Kd.u8 B21 c22 t16.1 :: OS 5 Kd.u8 B12 c13 t7.1 :: Fr) K) ?_ ?_
    · intro H40 l41 b42 h
      unfold armoirelaw01_CodecTexts.j1 at h
      refine G.move rfl rfl rfl rfl ?_
      refine G.rest (l1 := [14, 15, 16, 17]) (l2 := [18, 19, 20, 21, 22, 23, 24, 25, 26, 27, 28]) (fun GG K => ∀ (H43 : PH) (l44 : PH.le H40 H43) (b45 : Bool), armoirelaw01_CodecTexts.j2 t25 t31 b45 = some r → GG H43 [(11, .int .i64 t25.2.1), (12, .int .i64 t25.2.2), (14, .int .i64 t31.2.1), (15, .int .i64 t31.2.2), (56, .bool b45)] (OS 5 Kd.u8 B21 c22 t16.1 :: OS 5 Kd.u8 B12 c13 t7.1 :: Fr) K) ?_ ?_
      · intro H43 l44 b45 h
        unfold armoirelaw01_CodecTexts.j2 at h
        refine G.move rfl rfl rfl rfl ?_
        refine G.rest (l1 := [19, 20, 21, 22]) (l2 := [23, 24, 25, 26, 27, 28]) (fun GG K => ∀ (H46 : PH) (l47 : PH.le H43 H46) (b48 : Bool), armoirelaw01_CodecTexts.j3 t25 t31 b48 = some r → GG H46 [(12, .int .i64 t25.2.2), (15, .int .i64 t31.2.2), (61, .bool b48)] (OS 5 Kd.u8 B21 c22 t16.1 :: OS 5 Kd.u8 B12 c13 t7.1 :: Fr) K) ?_ ?_
        · intro H46 l47 b48 h
          unfold armoirelaw01_CodecTexts.j3 at h
          refine G.move rfl rfl rfl rfl ?_
          refine G.rest (l1 := [24, 25, 26, 27]) (l2 := [28]) (fun GG K => ∀ (H49 : PH) (l50 : PH.le H46 H49) (b51 : Bool), armoirelaw01_CodecTexts.j4 b51 = some r → GG H49 [(66, .bool b51)] (OS 5 Kd.u8 B21 c22 t16.1 :: OS 5 Kd.u8 B12 c13 t7.1 :: Fr) K) ?_ ?_
          · intro H49 l50 b51 h
            unfold armoirelaw01_CodecTexts.j4 at h
            refine G.assign rfl rfl rfl rfl ?_
            refine G.regionEnd ?_
            refine G.drop ?_
            refine G.drop ?_
            obtain rfl := Option.some.inj h
            exact G.ret1 Try.func3 rfl rfl (fun w hs => ⟨_, _, _, rfl, (PH.le_trans (PH.le_trans (PH.le_trans (PH.le_trans (PH.le_trans (PH.le_trans (PH.le_trans (PH.le_trans (PH.le_trans l5 l11) l20) l29) l35) l38) l41) l44) l47) l50), ⟨rfl, rfl⟩, hs⟩)
          intro J52
          refine G.splitB (d := 62) rfl (fun k53 => ?_) (fun k53 => ?_)
          · replace h := ifT h k53
            refine G.move rfl rfl rfl rfl ?_
            refine G.move rfl rfl rfl rfl ?_
            refine G.cmp (t25.2.2 = t31.2.2) rfl rfl rfl rfl rfl rfl Iff.rfl ?_
            refine G.pickT rfl rfl rfl rfl rfl ?_
            refine G.front1 ?_
            refine G.front1 ?_
            refine G.less ?_ (J52 H46 (PH.le_refl _) (decide (t25.2.2 = t31.2.2)) h)
            exact ⟨rfl, trivial⟩
          · replace h := ifFB h k53
            refine G.unwanted rfl rfl rfl rfl ?_
            refine G.unwanted rfl rfl rfl rfl ?_
            refine G.unwanted rfl rfl rfl rfl ?_
            refine G.pickF rfl rfl rfl rfl rfl ?_
            refine G.front1 ?_
            refine G.front1 ?_
            refine G.less ?_ (J52 H46 (PH.le_refl _) false h)
            exact ⟨rfl, trivial⟩
        intro J54
        refine G.splitB (d := 57) rfl (fun k55 => ?_) (fun k55 => ?_)
        · replace h := ifT h k55
          refine G.move rfl rfl rfl rfl ?_
          refine G.move rfl rfl rfl rfl ?_
          refine G.cmp (t25.2.1 = t31.2.1) rfl rfl rfl rfl rfl rfl Iff.rfl ?_
          refine G.pickT rfl rfl rfl rfl rfl ?_
          refine G.front1 ?_
          refine G.front1 ?_
          refine G.less ?_ (J54 H43 (PH.le_refl _) (decide (t25.2.1 = t31.2.1)) h)
          exact ⟨rfl, rfl, rfl, trivial⟩
        · replace h := ifFB h k55
          refine G.unwanted rfl rfl rfl rfl ?_
          refine G.unwanted rfl rfl rfl rfl ?_
          refine G.unwanted rfl rfl rfl rfl ?_
          refine G.pickF rfl rfl rfl rfl rfl ?_
          refine G.front1 ?_
          refine G.front1 ?_
          refine G.less ?_ (J54 H43 (PH.le_refl _) false h)
          exact ⟨rfl, rfl, rfl, trivial⟩
      intro J56
      refine G.splitB (d := 52) rfl (fun k57 => ?_) (fun k57 => ?_)
      · replace h := ifT h k57
        refine G.move rfl rfl rfl rfl ?_
        refine G.move rfl rfl rfl rfl ?_
        refine G.cmpS (s := t25.1) (u := t31.1) (b := decide (t25.1 = t31.1)) rfl rfl rfl rfl rfl rfl rfl ?_
        refine G.pickT rfl rfl rfl rfl rfl ?_
        refine G.front1 ?_
        refine G.front1 ?_
        refine G.less ?_ (J56 H40 (PH.le_refl _) (decide (t25.1 = t31.1)) h)
        exact ⟨rfl, rfl, rfl, rfl, rfl, trivial⟩
      · replace h := ifFB h k57
        refine G.unwanted rfl rfl rfl rfl ?_
        refine G.unwanted rfl rfl rfl rfl ?_
        refine G.unwanted rfl rfl rfl rfl ?_
        refine G.pickF rfl rfl rfl rfl rfl ?_
        refine G.front1 ?_
        refine G.front1 ?_
        refine G.less ?_ (J56 H40 (PH.le_refl _) false h)
        exact ⟨rfl, rfl, rfl, rfl, rfl, trivial⟩
    intro J58
    refine G.splitB (d := 47) rfl (fun k59 => ?_) (fun k59 => ?_)
    · replace h := ifT h k59
      refine G.move rfl rfl rfl rfl ?_
      refine G.move rfl rfl rfl rfl ?_
      refine G.cmp (t7.2 = t16.2) rfl rfl rfl rfl rfl rfl Iff.rfl ?_
      refine G.pickT rfl rfl rfl rfl rfl ?_
      refine G.front1 ?_
      refine G.front1 ?_
      refine G.less ?_ (J58 H37 (PH.le_refl _) (decide (t7.2 = t16.2)) h)
      exact ⟨rfl, rfl, rfl, rfl, rfl, rfl, rfl, trivial⟩
    · replace h := ifFB h k59
      refine G.unwanted rfl rfl rfl rfl ?_
      refine G.unwanted rfl rfl rfl rfl ?_
      refine G.unwanted rfl rfl rfl rfl ?_
      refine G.pickF rfl rfl rfl rfl rfl ?_
      refine G.front1 ?_
      refine G.front1 ?_
      refine G.less ?_ (J58 H37 (PH.le_refl _) false h)
      exact ⟨rfl, rfl, rfl, rfl, rfl, rfl, rfl, trivial⟩
  intro J60
  refine G.splitB (d := 40) rfl (fun k61 => ?_) (fun k61 => ?_)
  · replace h := ifT h k61
    refine G.move rfl rfl rfl rfl ?_
    refine G.toStr (s := t7.1) rfl rfl rfl rfl Try.underlying22 Try.underlying5 Try.underlying9 (fun w hs => St.srcO hs (j := 1) rfl) ?_
    refine G.move rfl rfl rfl rfl ?_
    refine G.toStr (s := t16.1) rfl rfl rfl rfl Try.underlying22 Try.underlying5 Try.underlying9 (fun w hs => St.srcO hs (j := 0) rfl) ?_
    refine G.cmpS (s := t7.1) (u := t16.1) (b := decide (t7.1 = t16.1)) rfl rfl rfl rfl rfl rfl rfl ?_
    refine G.pickT rfl rfl rfl rfl rfl ?_
    refine G.front1 ?_
    refine G.front1 ?_
    refine G.less ?_ (J60 H34 (PH.le_refl _) (decide (t7.1 = t16.1)) h)
    exact ⟨rfl, rfl, rfl, rfl, rfl, rfl, rfl, rfl, rfl, trivial⟩
  · replace h := ifFB h k61
    refine G.unwanted rfl rfl rfl rfl ?_
    refine G.unwanted rfl rfl rfl rfl ?_
    refine G.unwanted rfl rfl rfl rfl ?_
    refine G.unwanted rfl rfl rfl rfl ?_
    refine G.unwanted rfl rfl rfl rfl ?_
    refine G.pickF rfl rfl rfl rfl rfl ?_
    refine G.front1 ?_
    refine G.front1 ?_
    refine G.less ?_ (J60 H34 (PH.le_refl _) false h)
    exact ⟨rfl, rfl, rfl, rfl, rfl, rfl, rfl, rfl, rfl, trivial⟩
set_option maxRecDepth 20000 in
theorem armoirelaw01_CodecTextBack.ok {O : World} {H : PH} {Fr : List Res} (a0 : Str) (A1 : Option Addr) (n1 : Nat) (a1 : (List UInt8)) (F1 : SlR Kd.u8 H A1 n1 a1) {r : Bool} (h : armoirelaw01_CodecTextBack.f a0 a1 = some r) :
    Ctr Try.prog 4 [strV a0, .slice A1 a1.length n1] O H Fr (fun v H' L' => v = .bool r ∧ Fr = L') := by
  refine Ctr.start (n := 46) Try.func4 rfl Try.ntmps4 rfl rfl ?_
  unfold armoirelaw01_CodecTextBack.f at h
  refine G.seq ?_
  refine G.region (l := [0]) rfl ?_
  refine G.assign rfl rfl rfl rfl ?_
  refine G.regionEnd ?_
  refine G.seq ?_
  refine G.region (l := [0, 1]) rfl ?_
  obtain ⟨t1, e2, h⟩ := bindS h
  refine G.call rfl rfl rfl rfl call12 (armoirelaw01_texts.ok  e2) ?_
  rintro v3 H4 L6 l5 ⟨rfl, rfl⟩
  refine G.assign rfl rfl rfl rfl ?_
  refine G.regionEnd ?_
  refine G.seq ?_
  refine G.region (l := [0, 1, 2, 3, 4, 5, 6]) rfl ?_
  refine G.move rfl rfl rfl rfl ?_
  obtain ⟨t7, e8, h⟩ := bindS h
  refine G.call rfl rfl rfl rfl call13 (codec_Text.ok a0 e8) ?_
  rintro v9 H10 L15 l11 ⟨B12, c13, rfl, rfl⟩
  refine G.move rfl rfl rfl rfl ?_
  refine G.extract rfl rfl rfl rfl rfl ?_
  refine G.extract rfl rfl rfl rfl rfl ?_
  refine G.assign rfl rfl rfl rfl ?_
  refine G.assign rfl rfl rfl rfl ?_
  refine G.regionEnd ?_
  refine G.seq ?_
  refine G.seq ?_
  refine G.region (l := [0, 1]) rfl ?_
  refine G.move rfl rfl rfl rfl ?_
  refine G.cmp (t7.2 ≠ 0) rfl rfl rfl rfl rfl rfl Iff.rfl ?_
  refine G.regionEnd ?_
  refine G.condP rfl (fun k39 => ?_) (fun k39 => ?_)
  · replace h := ifT h k39
    refine G.seq ?_
    refine G.region (l := [0, 1]) rfl ?_
    refine G.move rfl rfl rfl rfl ?_
    refine G.assign rfl rfl rfl rfl ?_
    refine G.regionEnd ?_
    refine G.drop ?_
    obtain rfl := Option.some.inj h
    exact G.ret1 Try.func4 rfl rfl (fun w hs => ⟨_, _, _, rfl, (PH.le_trans l5 l11), ⟨rfl, rfl⟩, hs⟩)
  · replace h := ifF h k39
    refine G.skip ?_
    refine G.seq ?_
    refine G.region (l := [0, 1, 2]) rfl ?_
    refine G.move rfl rfl rfl rfl ?_
    refine G.len rfl rfl rfl rfl Try.underlying22 ?_
    refine G.assign rfl rfl rfl rfl ?_
    refine G.regionEnd ?_
    refine G.seq ?_
    refine G.region (l := [0, 1, 2, 3, 4, 5, 6, 7, 8, 9, 10]) rfl ?_
    refine G.move rfl rfl rfl rfl ?_
    refine G.move rfl rfl rfl rfl ?_
    obtain ⟨k16, h⟩ := guardS h
    refine G.append (df := Kd.u8) (xs := t7.1) (ys := a1) (z0 := 0) (z := .int .u8 0) (cz := [u8V 0]) rfl rfl rfl rfl (by simp) rfl el22 Try.underlying22 rfl (by kernel_rfl) rfl (rfl) (fun w hs => SrcR.ro (F1.mono (PH.le_trans l5 l11)) hs) ⟨by omega, by omega⟩ ?_
    intro B17 c18
    obtain ⟨t20, e21, h⟩ := bindS h
    refine G.callB rfl rfl rfl rfl call15 (fun w hs => codec_ReadText.ok B17 c18 (t7.1 ++ a1) (hs.osSl (j := 0) rfl) e21) (by rintro v H' L' ⟨rfl, rfl⟩; exact Free.nil) ?_
    rintro v22 L23 ⟨_, rfl, rfl⟩
    refine G.move rfl rfl rfl rfl ?_
    refine G.extract rfl rfl rfl rfl rfl ?_
    refine G.extract rfl rfl rfl rfl rfl ?_
    refine G.extract rfl rfl rfl rfl rfl ?_
    refine G.assign rfl rfl rfl rfl ?_
    refine G.assign rfl rfl rfl rfl ?_
    refine G.assign rfl rfl rfl rfl ?_
    refine G.regionEnd ?_
    refine G.seq ?_
    refine G.region (l := [0, 1, 2, 3, 4, 5, 6, 7, 8, 9, 10, 11, 12, 13, 14, 15]) rfl ?_
    refine G.move rfl rfl rfl rfl ?_
    refine G.move rfl rfl rfl rfl ?_
    refine G.rest (l1 := [2, 3, 4]) (l2 := [5, 6, 7, 8, 9, 10, 11, 12, 13, 14, 15]) (fun GG K => ∀ (H24 : PH) (l25 : PH.le H10 H24) (b26 : Bool), armoirelaw01_CodecTextBack.j0 a0 t7 t20 b26 = some r → GG H24 [(0, strV a0), (8, .int .i64 (t7.1.length : Int)), (9, strV t20.1), (10, .int .i64 t20.2.1), (35, .bool b26)] (OS 5 Kd.u8 B17 c18 (t7.1 ++ a1) :: Fr) K) ?_ ?_
    · intro H24 l25 b26 h
      unfold armoirelaw01_CodecTextBack.j0 at h
      refine G.move rfl rfl rfl rfl ?_
      refine G.rest (l1 := [6, 7, 8, 9]) (l2 := [10, 11, 12, 13, 14, 15]) (fun GG K => ∀ (H27 : PH) (l28 : PH.le H24 H27) (b29 : Bool), armoirelaw01_CodecTextBack.j1 t7 t20 b29 = some r → GG H27 [(8, .int .i64 (t7.1.length : Int)), (10, .int .i64 t20.2.1), (40, .bool b29)] (OS 5 Kd.u8 B17 c18 (t7.1 ++ a1) :: Fr) K) ?_ ?_
      · intro H27 l28 b29 h
        unfold armoirelaw01_CodecTextBack.j1 at h
        refine G.move rfl rfl rfl rfl ?_
        refine G.rest (l1 := [11, 12, 13, 14]) (l2 := [15]) (fun GG K => ∀ (H30 : PH) (l31 : PH.le H27 H30) (b32 : Bool), armoirelaw01_CodecTextBack.j2 b32 = some r → GG H30 [(45, .bool b32)] (OS 5 Kd.u8 B17 c18 (t7.1 ++ a1) :: Fr) K) ?_ ?_
        · intro H30 l31 b32 h
          unfold armoirelaw01_CodecTextBack.j2 at h
          refine G.assign rfl rfl rfl rfl ?_
          refine G.regionEnd ?_
          refine G.drop ?_
          obtain rfl := Option.some.inj h
          exact G.ret1 Try.func4 rfl rfl (fun w hs => ⟨_, _, _, rfl, (PH.le_trans (PH.le_trans (PH.le_trans (PH.le_trans l5 l11) l25) l28) l31), ⟨rfl, rfl⟩, hs⟩)
        intro J33
        refine G.splitB (d := 41) rfl (fun k34 => ?_) (fun k34 => ?_)
        · replace h := ifT h k34
          refine G.move rfl rfl rfl rfl ?_
          refine G.move rfl rfl rfl rfl ?_
          refine G.cmp (t20.2.1 = (t7.1.length : Int)) rfl rfl rfl rfl rfl rfl Iff.rfl ?_
          refine G.pickT rfl rfl rfl rfl rfl ?_
          refine G.less ?_ (J33 H27 (PH.le_refl _) (decide (t20.2.1 = (t7.1.length : Int))) h)
          exact ⟨rfl, trivial⟩
        · replace h := ifFB h k34
          refine G.unwanted rfl rfl rfl rfl ?_
          refine G.unwanted rfl rfl rfl rfl ?_
          refine G.unwanted rfl rfl rfl rfl ?_
          refine G.pickF rfl rfl rfl rfl rfl ?_
          refine G.less ?_ (J33 H27 (PH.le_refl _) false h)
          exact ⟨rfl, trivial⟩
      intro J35
      refine G.splitB (d := 36) rfl (fun k36 => ?_) (fun k36 => ?_)
      · replace h := ifT h k36
        refine G.move rfl rfl rfl rfl ?_
        refine G.move rfl rfl rfl rfl ?_
        refine G.cmpS (s := t20.1) (u := a0) (b := decide (t20.1 = a0)) rfl rfl rfl rfl rfl rfl rfl ?_
        refine G.pickT rfl rfl rfl rfl rfl ?_
        refine G.less ?_ (J35 H24 (PH.le_refl _) (decide (t20.1 = a0)) h)
        exact ⟨rfl, rfl, rfl, trivial⟩
      · replace h := ifFB h k36
        refine G.unwanted rfl rfl rfl rfl ?_
        refine G.unwanted rfl rfl rfl rfl ?_
        refine G.unwanted rfl rfl rfl rfl ?_
        refine G.pickF rfl rfl rfl rfl rfl ?_
        refine G.less ?_ (J35 H24 (PH.le_refl _) false h)
        exact ⟨rfl, rfl, rfl, trivial⟩
    intro J37
    refine G.splitB (d := 32) rfl (fun k38 => ?_) (fun k38 => ?_)
    · replace h := ifT h k38
      refine G.move rfl rfl rfl rfl ?_
      refine G.cmp (t20.2.2 = 0) rfl rfl rfl rfl rfl rfl Iff.rfl ?_
      refine G.pickT rfl rfl rfl rfl rfl ?_
      refine G.less ?_ (J37 H10 (PH.le_refl _) (decide (t20.2.2 = 0)) h)
      exact ⟨rfl, rfl, rfl, rfl, rfl, trivial⟩
    · replace h := ifFB h k38
      refine G.unwanted rfl rfl rfl rfl ?_
      refine G.unwanted rfl rfl rfl rfl ?_
      refine G.pickF rfl rfl rfl rfl rfl ?_
      refine G.less ?_ (J37 H10 (PH.le_refl _) false h)
      exact ⟨rfl, rfl, rfl, rfl, rfl, trivial⟩
set_option maxRecDepth 20000 in
theorem armoirelaw01_CodecBack.ok {O : World} {H : PH} {Fr : List Res} (a0 : Int) (a1 : Int) (A2 : Option Addr) (n2 : Nat) (a2 : (List UInt8)) (F2 : SlR Kd.u8 H A2 n2 a2) {r : Bool} (h : armoirelaw01_CodecBack.f a0 a1 a2 = some r) :
    Ctr Try.prog 6 [.int .u64 a0, .int .i64 a1, .slice A2 a2.length n2] O H Fr (fun v H' L' => v = .bool r ∧ Fr = L') := by
  refine Ctr.start (n := 40) Try.func6 rfl Try.ntmps6 rfl rfl ?_
  unfold armoirelaw01_CodecBack.f at h
  refine G.seq ?_
  refine G.region (l := [0]) rfl ?_
  refine G.assign rfl rfl rfl rfl ?_
  refine G.regionEnd ?_
  refine G.seq ?_
  refine G.region (l := [0, 1]) rfl ?_
  obtain ⟨t1, e2, h⟩ := bindS h
  refine G.call rfl rfl rfl rfl call17 (armoirelaw01_numbers.ok  e2) ?_
  rintro v3 H4 L6 l5 ⟨rfl, rfl⟩
  refine G.assign rfl rfl rfl rfl ?_
  refine G.regionEnd ?_
  refine G.seq ?_
  refine G.region (l := [0, 1, 2, 3, 4, 5, 6, 7]) rfl ?_
  refine G.move rfl rfl rfl rfl ?_
  refine G.move rfl rfl rfl rfl ?_
  obtain ⟨t7, e8, h⟩ := bindS h
  refine G.call rfl rfl rfl rfl call18 (codec_Fixed.ok a0 a1 e8) ?_
  rintro v9 H10 L15 l11 ⟨B12, c13, rfl, rfl⟩
  refine G.move rfl rfl rfl rfl ?_
  refine G.extract rfl rfl rfl rfl rfl ?_
  refine G.extract rfl rfl rfl rfl rfl ?_
  refine G.assign rfl rfl rfl rfl ?_
  refine G.assign rfl rfl rfl rfl ?_
  refine G.regionEnd ?_
  refine G.seq ?_
  refine G.seq ?_
  refine G.region (l := [0, 1]) rfl ?_
  refine G.move rfl rfl rfl rfl ?_
  refine G.cmp (t7.2 ≠ 0) rfl rfl rfl rfl rfl rfl Iff.rfl ?_
  refine G.regionEnd ?_
  refine G.condP rfl (fun k34 => ?_) (fun k34 => ?_)
  · replace h := ifT h k34
    refine G.seq ?_
    refine G.region (l := [0, 1]) rfl ?_
    refine G.move rfl rfl rfl rfl ?_
    refine G.assign rfl rfl rfl rfl ?_
    refine G.regionEnd ?_
    refine G.drop ?_
    obtain rfl := Option.some.inj h
    exact G.ret1 Try.func6 rfl rfl (fun w hs => ⟨_, _, _, rfl, (PH.le_trans l5 l11), ⟨rfl, rfl⟩, hs⟩)
  · replace h := ifF h k34
    refine G.skip ?_
    refine G.seq ?_
    refine G.region (l := [0, 1, 2, 3, 4, 5, 6, 7, 8, 9]) rfl ?_
    refine G.move rfl rfl rfl rfl ?_
    refine G.move rfl rfl rfl rfl ?_
    obtain ⟨k16, h⟩ := guardS h
    refine G.append (df := Kd.u8) (xs := t7.1) (ys := a2) (z0 := 0) (z := .int .u8 0) (cz := [u8V 0]) rfl rfl rfl rfl (by simp) rfl el22 Try.underlying22 rfl (by kernel_rfl) rfl (rfl) (fun w hs => SrcR.ro (F2.mono (PH.le_trans l5 l11)) hs) ⟨by omega, by omega⟩ ?_
    intro B17 c18
    refine G.move rfl rfl rfl rfl ?_
    obtain ⟨t20, e21, h⟩ := bindS h
    refine G.callB rfl rfl rfl rfl call20 (fun w hs => codec_Number.ok B17 c18 (t7.1 ++ a2) (hs.osSl (j := 0) rfl) a1 e21) (by rintro v H' L' ⟨rfl, rfl⟩; exact Free.nil) ?_
    rintro v22 L23 ⟨_, rfl, rfl⟩
    refine G.move rfl rfl rfl rfl ?_
    refine G.extract rfl rfl rfl rfl rfl ?_
    refine G.extract rfl rfl rfl rfl rfl ?_
    refine G.assign rfl rfl rfl rfl ?_
    refine G.assign rfl rfl rfl rfl ?_
    refine G.regionEnd ?_
    refine G.seq ?_
    refine G.region (l := [0, 1, 2, 3, 4, 5, 6, 7, 8, 9, 10]) rfl ?_
    refine G.move rfl rfl rfl rfl ?_
    refine G.move rfl rfl rfl rfl ?_
    refine G.rest (l1 := [2, 3, 4]) (l2 := [5, 6, 7, 8, 9, 10]) (fun GG K => ∀ (H24 : PH) (l25 : PH.le H10 H24) (b26 : Bool), armoirelaw01_CodecBack.j0 a0 t20 b26 = some r → GG H24 [(0, .int .u64 a0), (10, .int .u64 t20.1), (34, .bool b26)] (OS 5 Kd.u8 B17 c18 (t7.1 ++ a2) :: Fr) K) ?_ ?_
    · intro H24 l25 b26 h
      unfold armoirelaw01_CodecBack.j0 at h
      refine G.move rfl rfl rfl rfl ?_
      refine G.rest (l1 := [6, 7, 8, 9]) (l2 := [10]) (fun GG K => ∀ (H27 : PH) (l28 : PH.le H24 H27) (b29 : Bool), armoirelaw01_CodecBack.j1 b29 = some r → GG H27 [(39, .bool b29)] (OS 5 Kd.u8 B17 c18 (t7.1 ++ a2) :: Fr) K) ?_ ?_
      · intro H27 l28 b29 h
        unfold armoirelaw01_CodecBack.j1 at h
        refine G.assign rfl rfl rfl rfl ?_
        refine G.regionEnd ?_
        refine G.drop ?_
        obtain rfl := Option.some.inj h
        exact G.ret1 Try.func6 rfl rfl (fun w hs => ⟨_, _, _, rfl, (PH.le_trans (PH.le_trans (PH.le_trans l5 l11) l25) l28), ⟨rfl, rfl⟩, hs⟩)
      intro J30
      refine G.splitB (d := 35) rfl (fun k31 => ?_) (fun k31 => ?_)
      · replace h := ifT h k31
        refine G.move rfl rfl rfl rfl ?_
        refine G.move rfl rfl rfl rfl ?_
        refine G.cmp (t20.1 = a0) rfl rfl rfl rfl rfl rfl Iff.rfl ?_
        refine G.pickT rfl rfl rfl rfl rfl ?_
        refine G.less ?_ (J30 H24 (PH.le_refl _) (decide (t20.1 = a0)) h)
        exact ⟨rfl, trivial⟩
      · replace h := ifFB h k31
        refine G.unwanted rfl rfl rfl rfl ?_
        refine G.unwanted rfl rfl rfl rfl ?_
        refine G.unwanted rfl rfl rfl rfl ?_
        refine G.pickF rfl rfl rfl rfl rfl ?_
        refine G.less ?_ (J30 H24 (PH.le_refl _) false h)
        exact ⟨rfl, trivial⟩
    intro J32
    refine G.splitB (d := 31) rfl (fun k33 => ?_) (fun k33 => ?_)
    · replace h := ifT h k33
      refine G.move rfl rfl rfl rfl ?_
      refine G.cmp (t20.2 = 0) rfl rfl rfl rfl rfl rfl Iff.rfl ?_
      refine G.pickT rfl rfl rfl rfl rfl ?_
      refine G.less ?_ (J32 H10 (PH.le_refl _) (decide (t20.2 = 0)) h)
      exact ⟨rfl, rfl, rfl, trivial⟩
    · replace h := ifFB h k33
      refine G.unwanted rfl rfl rfl rfl ?_
      refine G.unwanted rfl rfl rfl rfl ?_
      refine G.pickF rfl rfl rfl rfl rfl ?_
      refine G.less ?_ (J32 H10 (PH.le_refl _) false h)
      exact ⟨rfl, rfl, rfl, trivial⟩
set_option maxRecDepth 20000 in
theorem armoirelaw01_CodecOrder.ok {O : World} {H : PH} {Fr : List Res} (a0 : Int) (a1 : Int) (a2 : Int) {r : Bool} (h : armoirelaw01_CodecOrder.f a0 a1 a2 = some r) :
    Ctr Try.prog 7 [.int .u64 a0, .int .u64 a1, .int .i64 a2] O H Fr (fun v H' L' => v = .bool r ∧ Fr = L') := by
  refine Ctr.start (n := 55) Try.func7 rfl Try.ntmps7 rfl rfl ?_
  unfold armoirelaw01_CodecOrder.f at h
  refine G.seq ?_
  refine G.region (l := [0]) rfl ?_
  refine G.assign rfl rfl rfl rfl ?_
  refine G.regionEnd ?_
  refine G.seq ?_
  refine G.region (l := [0, 1]) rfl ?_
  obtain ⟨t1, e2, h⟩ := bindS h
  refine G.call rfl rfl rfl rfl call17 (armoirelaw01_numbers.ok  e2) ?_
  rintro v3 H4 L6 l5 ⟨rfl, rfl⟩
  refine G.assign rfl rfl rfl rfl ?_
  refine G.regionEnd ?_
  refine G.seq ?_
  refine G.region (l := [0, 1, 2, 3, 4, 5, 6, 7]) rfl ?_
  refine G.move rfl rfl rfl rfl ?_
  refine G.move rfl rfl rfl rfl ?_
  obtain ⟨t7, e8, h⟩ := bindS h
  refine G.call rfl rfl rfl rfl call18 (codec_Fixed.ok a0 a2 e8) ?_
  rintro v9 H10 L15 l11 ⟨B12, c13, rfl, rfl⟩
  refine G.move rfl rfl rfl rfl ?_
  refine G.extract rfl rfl rfl rfl rfl ?_
  refine G.extract rfl rfl rfl rfl rfl ?_
  refine G.assign rfl rfl rfl rfl ?_
  refine G.assign rfl rfl rfl rfl ?_
  refine G.regionEnd ?_
  refine G.seq ?_
  refine G.region (l := [0, 1, 2, 3, 4, 5, 6, 7]) rfl ?_
  refine G.move rfl rfl rfl rfl ?_
  refine G.move rfl rfl rfl rfl ?_
  obtain ⟨t16, e17, h⟩ := bindS h
  refine G.call rfl rfl rfl rfl call18 (codec_Fixed.ok a1 a2 e17) ?_
  rintro v18 H19 L24 l20 ⟨B21, c22, rfl, rfl⟩
  refine G.move rfl rfl rfl rfl ?_
  refine G.extract rfl rfl rfl rfl rfl ?_
  refine G.extract rfl rfl rfl rfl rfl ?_
  refine G.assign rfl rfl rfl rfl ?_
  refine G.assign rfl rfl rfl rfl ?_
  refine G.regionEnd ?_
  refine G.seq ?_
  refine G.seq ?_
  refine G.region (l := [0, 1, 2, 3, 4, 5]) rfl ?_
  refine G.move rfl rfl rfl rfl ?_
  refine G.cmp (t7.2 ≠ 0) rfl rfl rfl rfl rfl rfl Iff.rfl ?_
  refine G.move rfl rfl rfl rfl ?_
  refine G.rest (l1 := [3, 4, 5]) (l2 := []) (fun GG K => ∀ (H25 : PH) (l26 : PH.le H19 H25) (b27 : Bool), armoirelaw01_CodecOrder.j0 a0 a1 t1 t7 t16 b27 = some r → GG H25 [(0, .int .u64 a0), (1, .int .u64 a1), (7, .bool t1), (8, .slice B12 t7.1.length c13), (10, .slice B21 t16.1.length c22), (30, .bool b27)] (OS 5 Kd.u8 B21 c22 t16.1 :: OS 5 Kd.u8 B12 c13 t7.1 :: Fr) K) ?_ ?_
  · intro H25 l26 b27 h
    unfold armoirelaw01_CodecOrder.j0 at h
    refine G.regionEnd ?_
    refine G.cond rfl (fun k38 => ?_) (fun k38 => ?_)
    · replace h := ifT h k38
      refine G.seq ?_
      refine G.region (l := [0, 1]) rfl ?_
      refine G.move rfl rfl rfl rfl ?_
      refine G.assign rfl rfl rfl rfl ?_
      refine G.regionEnd ?_
      refine G.drop ?_
      refine G.drop ?_
      obtain rfl := Option.some.inj h
      exact G.ret1 Try.func7 rfl rfl (fun w hs => ⟨_, _, _, rfl, (PH.le_trans (PH.le_trans (PH.le_trans l5 l11) l20) l26), ⟨rfl, rfl⟩, hs⟩)
    · replace h := ifFB h k38
      refine G.skip ?_
      refine G.seq ?_
      refine G.region (l := [0, 1, 2, 3, 4, 5, 6, 7, 8, 9, 10, 11, 12, 13, 14, 15, 16, 17, 18, 19, 20, 21, 22, 23]) rfl ?_
      refine G.move rfl rfl rfl rfl ?_
      refine G.move rfl rfl rfl rfl ?_
      refine G.rest (l1 := [2, 3, 4, 5, 6, 7, 8, 9, 10, 11]) (l2 := [12, 13, 14, 15, 16, 17, 18, 19, 20, 21, 22, 23]) (fun GG K => ∀ (H28 : PH) (l29 : PH.le H25 H28) (b30 : Bool), armoirelaw01_CodecOrder.j1 a0 a1 t7 t16 b30 = some r → GG H28 [(0, .int .u64 a0), (1, .int .u64 a1), (8, .slice B12 t7.1.length c13), (10, .slice B21 t16.1.length c22), (43, .bool b30)] (OS 5 Kd.u8 B21 c22 t16.1 :: OS 5 Kd.u8 B12 c13 t7.1 :: Fr) K) ?_ ?_
      · intro H28 l29 b30 h
        unfold armoirelaw01_CodecOrder.j1 at h
        refine G.move rfl rfl rfl rfl ?_
        refine G.rest (l1 := [13, 14, 15, 16, 17, 18, 19, 20, 21, 22]) (l2 := [23]) (fun GG K => ∀ (H31 : PH) (l32 : PH.le H28 H31) (b33 : Bool), armoirelaw01_CodecOrder.j2 b33 = some r → GG H31 [(54, .bool b33)] (OS 5 Kd.u8 B21 c22 t16.1 :: OS 5 Kd.u8 B12 c13 t7.1 :: Fr) K) ?_ ?_
        · intro H31 l32 b33 h
          unfold armoirelaw01_CodecOrder.j2 at h
          refine G.assign rfl rfl rfl rfl ?_
          refine G.regionEnd ?_
          refine G.drop ?_
          refine G.drop ?_
          obtain rfl := Option.some.inj h
          exact G.ret1 Try.func7 rfl rfl (fun w hs => ⟨_, _, _, rfl, (PH.le_trans (PH.le_trans (PH.le_trans (PH.le_trans (PH.le_trans l5 l11) l20) l26) l29) l32), ⟨rfl, rfl⟩, hs⟩)
        intro J34
        refine G.splitB (d := 44) rfl (fun k35 => ?_) (fun k35 => ?_)
        · replace h := ifT h k35
          refine G.move rfl rfl rfl rfl ?_
          refine G.move rfl rfl rfl rfl ?_
          refine G.cmp (a0 = a1) rfl rfl rfl rfl rfl rfl Iff.rfl ?_
          refine G.move rfl rfl rfl rfl ?_
          refine G.toStr (s := t7.1) rfl rfl rfl rfl Try.underlying22 Try.underlying5 Try.underlying9 (fun w hs => St.srcO hs (j := 1) rfl) ?_
          refine G.move rfl rfl rfl rfl ?_
          refine G.toStr (s := t16.1) rfl rfl rfl rfl Try.underlying22 Try.underlying5 Try.underlying9 (fun w hs => St.srcO hs (j := 0) rfl) ?_
          refine G.cmpS (s := t7.1) (u := t16.1) (b := decide (t7.1 = t16.1)) rfl rfl rfl rfl rfl rfl rfl ?_
          refine G.cmpB (a := (decide (a0 = a1))) (b := (decide (t7.1 = t16.1))) (r := ((decide (a0 = a1)) == (decide (t7.1 = t16.1)))) rfl rfl rfl rfl rfl Try.underlying4 rfl ?_
          refine G.pickT rfl rfl rfl rfl rfl ?_
          refine G.front1 ?_
          refine G.front1 ?_
          refine G.less ?_ (J34 H28 (PH.le_refl _) ((decide (a0 = a1)) == (decide (t7.1 = t16.1))) h)
          exact ⟨rfl, trivial⟩
        · replace h := ifFB h k35
          refine G.unwanted rfl rfl rfl rfl ?_
          refine G.unwanted rfl rfl rfl rfl ?_
          refine G.unwanted rfl rfl rfl rfl ?_
          refine G.unwanted rfl rfl rfl rfl ?_
          refine G.unwanted rfl rfl rfl rfl ?_
          refine G.unwanted rfl rfl rfl rfl ?_
          refine G.unwanted rfl rfl rfl rfl ?_
          refine G.unwanted rfl rfl rfl rfl ?_
          refine G.unwanted rfl rfl rfl rfl ?_
          refine G.pickF rfl rfl rfl rfl rfl ?_
          refine G.front1 ?_
          refine G.front1 ?_
          refine G.less ?_ (J34 H28 (PH.le_refl _) false h)
          exact ⟨rfl, trivial⟩
      intro J36
      refine G.splitB (d := 33) rfl (fun k37 => ?_) (fun k37 => ?_)
      · replace h := ifT h k37
        refine G.move rfl rfl rfl rfl ?_
        refine G.move rfl rfl rfl rfl ?_
        refine G.cmp (a0 < a1) rfl rfl rfl rfl rfl rfl Iff.rfl ?_
        refine G.move rfl rfl rfl rfl ?_
        refine G.toStr (s := t7.1) rfl rfl rfl rfl Try.underlying22 Try.underlying5 Try.underlying9 (fun w hs => St.srcO hs (j := 1) rfl) ?_
        refine G.move rfl rfl rfl rfl ?_
        refine G.toStr (s := t16.1) rfl rfl rfl rfl Try.underlying22 Try.underlying5 Try.underlying9 (fun w hs => St.srcO hs (j := 0) rfl) ?_
        refine G.cmpS (s := t7.1) (u := t16.1) (b := Op.bytesLess t7.1 t16.1) rfl rfl rfl rfl rfl rfl rfl ?_
        refine G.cmpB (a := (decide (a0 < a1))) (b := (Op.bytesLess t7.1 t16.1)) (r := ((decide (a0 < a1)) == (Op.bytesLess t7.1 t16.1))) rfl rfl rfl rfl rfl Try.underlying4 rfl ?_
        refine G.pickT rfl rfl rfl rfl rfl ?_
        refine G.front1 ?_
        refine G.front1 ?_
        refine G.less ?_ (J36 H25 (PH.le_refl _) ((decide (a0 < a1)) == (Op.bytesLess t7.1 t16.1)) h)
        exact ⟨rfl, rfl, rfl, rfl, rfl, trivial⟩
      · replace h := ifFB h k37
        refine G.unwanted rfl rfl rfl rfl ?_
        refine G.unwanted rfl rfl rfl rfl ?_
        refine G.unwanted rfl rfl rfl rfl ?_
        refine G.unwanted rfl rfl rfl rfl ?_
        refine G.unwanted rfl rfl rfl rfl ?_
        refine G.unwanted rfl rfl rfl rfl ?_
        refine G.unwanted rfl rfl rfl rfl ?_
        refine G.unwanted rfl rfl rfl rfl ?_
        refine G.unwanted rfl rfl rfl rfl ?_
        refine G.pickF rfl rfl rfl rfl rfl ?_
        refine G.front1 ?_
        refine G.front1 ?_
        refine G.less ?_ (J36 H25 (PH.le_refl _) false h)
        exact ⟨rfl, rfl, rfl, rfl, rfl, trivial⟩
  intro J39
  refine G.splitP (d := 27) rfl (fun k40 => ?_) (fun k40 => ?_)
  · replace h := ifT h k40
    refine G.unwanted rfl rfl rfl rfl ?_
    refine G.unwanted rfl rfl rfl rfl ?_
    refine G.pickT rfl rfl rfl rfl rfl ?_
    refine G.front1 ?_
    refine G.front1 ?_
    refine G.less ?_ (J39 H19 (PH.le_refl _) true h)
    exact ⟨rfl, rfl, rfl, rfl, rfl, rfl, trivial⟩
  · replace h := ifF h k40
    refine G.move rfl rfl rfl rfl ?_
    refine G.cmp (t16.2 ≠ 0) rfl rfl rfl rfl rfl rfl Iff.rfl ?_
    refine G.pickF rfl rfl rfl rfl rfl ?_
    refine G.front1 ?_
    refine G.front1 ?_
    refine G.less ?_ (J39 H19 (PH.le_refl _) (decide (t16.2 ≠ 0)) h)
    exact ⟨rfl, rfl, rfl, rfl, rfl, rfl, trivial⟩
set_option maxRecDepth 20000 in
theorem armoirelaw01_CodecCuts.ok {O : World} {H : PH} {Fr : List Res} (a0 : Int) (a1 : Str) {r : Bool} (h : armoirelaw01_CodecCuts.f a0 a1 = some r) :
    Ctr Try.prog 8 [.int .u64 a0, strV a1] O H Fr (fun v H' L' => v = .bool r ∧ Fr = L') := by
  refine Ctr.start (n := 71) Try.func8 rfl Try.ntmps8 rfl rfl ?_
  unfold armoirelaw01_CodecCuts.f at h
  refine G.seq ?_
  refine G.region (l := [0]) rfl ?_
  refine G.assign rfl rfl rfl rfl ?_
  refine G.regionEnd ?_
  refine G.seq ?_
  refine G.region (l := [0, 1, 2, 3, 4]) rfl ?_
  obtain ⟨t1, e2, h⟩ := bindS h
  refine G.call rfl rfl rfl rfl call17 (armoirelaw01_numbers.ok  e2) ?_
  rintro v3 H4 L6 l5 ⟨rfl, rfl⟩
  refine G.move rfl rfl rfl rfl ?_
  refine G.rest (l1 := [2, 3]) (l2 := [4]) (fun GG K => ∀ (H13 : PH) (l14 : PH.le H4 H13) (b15 : Bool), armoirelaw01_CodecCuts.j0 a0 a1 b15 = some r → GG H13 [(0, .int .u64 a0), (1, strV a1), (18, .bool b15)] (Fr) K) ?_ ?_
  · intro H13 l14 b15 h
    unfold armoirelaw01_CodecCuts.j0 at h
    refine G.assign rfl rfl rfl rfl ?_
    refine G.regionEnd ?_
    refine G.seq ?_
    refine G.region (l := [0, 1, 2, 3, 4, 5, 6]) rfl ?_
    refine G.move rfl rfl rfl rfl ?_
    obtain ⟨t16, e17, h⟩ := bindS h
    refine G.call rfl rfl rfl rfl call18 (codec_Fixed.ok a0 8 e17) ?_
    rintro v18 H19 L24 l20 ⟨B21, c22, rfl, rfl⟩
    refine G.move rfl rfl rfl rfl ?_
    refine G.extract rfl rfl rfl rfl rfl ?_
    refine G.extract rfl rfl rfl rfl rfl ?_
    refine G.assign rfl rfl rfl rfl ?_
    refine G.assign rfl rfl rfl rfl ?_
    refine G.regionEnd ?_
    refine G.seq ?_
    refine G.seq ?_
    refine G.region (l := [0, 1, 2, 3, 4, 5, 6]) rfl ?_
    refine G.move rfl rfl rfl rfl ?_
    refine G.cmp (t16.2 ≠ 0) rfl rfl rfl rfl rfl rfl Iff.rfl ?_
    refine G.move rfl rfl rfl rfl ?_
    refine G.rest (l1 := [3, 4, 5, 6]) (l2 := []) (fun GG K => ∀ (H25 : PH) (l26 : PH.le H19 H25) (b27 : Bool), armoirelaw01_CodecCuts.j1 a1 b15 t16 b27 = some r → GG H25 [(1, strV a1), (5, .bool b15), (6, .slice B21 t16.1.length c22), (30, .bool b27)] (OS 5 Kd.u8 B21 c22 t16.1 :: Fr) K) ?_ ?_
    · intro H25 l26 b27 h
      unfold armoirelaw01_CodecCuts.j1 at h
      refine G.regionEnd ?_
      refine G.cond rfl (fun k71 => ?_) (fun k71 => ?_)
      · replace h := ifT h k71
        refine G.seq ?_
        refine G.region (l := [0]) rfl ?_
        refine G.assign rfl rfl rfl rfl ?_
        refine G.regionEnd ?_
        refine G.drop ?_
        obtain rfl := Option.some.inj h
        exact G.ret1 Try.func8 rfl rfl (fun w hs => ⟨_, _, _, rfl, (PH.le_trans (PH.le_trans (PH.le_trans l5 l14) l20) l26), ⟨rfl, rfl⟩, hs⟩)
      · replace h := ifFB h k71
        refine G.skip ?_
        refine G.seq ?_
        refine G.region (l := [0, 1, 2, 3, 4, 5, 6, 7]) rfl ?_
        refine G.move rfl rfl rfl rfl ?_
        obtain ⟨k28, h⟩ := guardS h
        refine G.cutO (xs := t16.1) (h := 7) (m := (c22 : Int)) rfl rfl rfl rfl rfl rfl rfl rfl rfl el22 k28 (fun hc => ⟨by omega, Int.le_refl _⟩) (by intro hh; first | rfl | cases hh) ?_
        obtain ⟨t30, e31, h⟩ := bindS h
        refine G.callB rfl rfl rfl rfl call20 (fun w hs => codec_Number.ok B21 ((c22 : Int).toNat) (t16.1.take 7) (hs.osSl (j := 0) rfl) 8 e31) (by rintro v H' L' ⟨rfl, rfl⟩; exact Free.nil) ?_
        rintro v32 L33 ⟨_, rfl, rfl⟩
        refine G.move rfl rfl rfl rfl ?_
        refine G.extract rfl rfl rfl rfl rfl ?_
        refine G.extract rfl rfl rfl rfl rfl ?_
        refine G.assign rfl rfl rfl rfl ?_
        refine G.assign rfl rfl rfl rfl ?_
        refine G.regionEnd ?_
        refine G.seq ?_
        refine G.region (l := [0, 1, 2, 3, 4, 5, 6]) rfl ?_
        refine G.move rfl rfl rfl rfl ?_
        obtain ⟨t34, e35, h⟩ := bindS h
        refine G.call rfl rfl rfl rfl call13 (codec_Text.ok a1 e35) ?_
        rintro v36 H37 L42 l38 ⟨B39, c40, rfl, rfl⟩
        refine G.move rfl rfl rfl rfl ?_
        refine G.extract rfl rfl rfl rfl rfl ?_
        refine G.extract rfl rfl rfl rfl rfl ?_
        refine G.assign rfl rfl rfl rfl ?_
        refine G.assign rfl rfl rfl rfl ?_
        refine G.regionEnd ?_
        refine G.seq ?_
        refine G.seq ?_
        refine G.region (l := [0, 1]) rfl ?_
        refine G.move rfl rfl rfl rfl ?_
        refine G.cmp (t34.2 ≠ 0) rfl rfl rfl rfl rfl rfl Iff.rfl ?_
        refine G.regionEnd ?_
        refine G.condP rfl (fun k70 => ?_) (fun k70 => ?_)
        · replace h := ifT h k70
          refine G.seq ?_
          refine G.region (l := [0, 1, 2, 3, 4, 5]) rfl ?_
          refine G.move rfl rfl rfl rfl ?_
          refine G.move rfl rfl rfl rfl ?_
          refine G.rest (l1 := [2, 3, 4]) (l2 := [5]) (fun GG K => ∀ (H48 : PH) (l49 : PH.le H37 H48) (b50 : Bool), armoirelaw01_CodecCuts.j2 b50 = some r → GG H48 [(48, .bool b50)] (OS 5 Kd.u8 B39 c40 t34.1 :: OS 5 Kd.u8 B21 ((c22 : Int).toNat) (t16.1.take 7) :: Fr) K) ?_ ?_
          · intro H48 l49 b50 h
            unfold armoirelaw01_CodecCuts.j2 at h
            refine G.assign rfl rfl rfl rfl ?_
            refine G.regionEnd ?_
            refine G.drop ?_
            refine G.drop ?_
            obtain rfl := Option.some.inj h
            exact G.ret1 Try.func8 rfl rfl (fun w hs => ⟨_, _, _, rfl, (PH.le_trans (PH.le_trans (PH.le_trans (PH.le_trans (PH.le_trans l5 l14) l20) l26) l38) l49), ⟨rfl, rfl⟩, hs⟩)
          intro J51
          refine G.splitB (d := 45) rfl (fun k52 => ?_) (fun k52 => ?_)
          · replace h := ifT h k52
            refine G.move rfl rfl rfl rfl ?_
            refine G.cmp (t30.2 = 10) rfl rfl rfl rfl rfl rfl Iff.rfl ?_
            refine G.pickT rfl rfl rfl rfl rfl ?_
            refine G.front1 ?_
            refine G.front1 ?_
            refine G.less ?_ (J51 H37 (PH.le_refl _) (decide (t30.2 = 10)) h)
            exact ⟨rfl, trivial⟩
          · replace h := ifFB h k52
            refine G.unwanted rfl rfl rfl rfl ?_
            refine G.unwanted rfl rfl rfl rfl ?_
            refine G.pickF rfl rfl rfl rfl rfl ?_
            refine G.front1 ?_
            refine G.front1 ?_
            refine G.less ?_ (J51 H37 (PH.le_refl _) false h)
            exact ⟨rfl, trivial⟩
        · replace h := ifF h k70
          refine G.skip ?_
          refine G.seq ?_
          refine G.seq ?_
          refine G.region (l := [0, 1, 2]) rfl ?_
          refine G.move rfl rfl rfl rfl ?_
          refine G.len rfl rfl rfl rfl Try.underlying22 ?_
          refine G.cmp ((t34.1.length : Int) = 0) rfl rfl rfl rfl rfl rfl Iff.rfl ?_
          refine G.regionEnd ?_
          refine G.condP rfl (fun k69 => ?_) (fun k69 => ?_)
          · replace h := ifT h k69
            refine G.seq ?_
            refine G.region (l := [0]) rfl ?_
            refine G.assign rfl rfl rfl rfl ?_
            refine G.regionEnd ?_
            refine G.drop ?_
            refine G.drop ?_
            obtain rfl := Option.some.inj h
            exact G.ret1 Try.func8 rfl rfl (fun w hs => ⟨_, _, _, rfl, (PH.le_trans (PH.le_trans (PH.le_trans (PH.le_trans l5 l14) l20) l26) l38), ⟨rfl, rfl⟩, hs⟩)
          · replace h := ifF h k69
            refine G.skip ?_
            refine G.seq ?_
            refine G.region (l := [0, 1, 2, 3, 4, 5, 6, 7, 8, 9, 10, 11, 12]) rfl ?_
            refine G.move rfl rfl rfl rfl ?_
            refine G.move rfl rfl rfl rfl ?_
            refine G.len rfl rfl rfl rfl Try.underlying22 ?_
            refine G.bin (m := (t34.1.length : Int)) (n := 1) (r := wi64 ((t34.1.length : Int) - 1)) rfl rfl rfl rfl rfl rfl rfl ?_
            obtain ⟨k53, h⟩ := guardS h
            refine G.cutO (xs := t34.1) (h := wi64 ((t34.1.length : Int) - 1)) (m := (c40 : Int)) rfl rfl rfl rfl rfl rfl rfl rfl rfl el22 k53 (fun hc => ⟨by omega, Int.le_refl _⟩) (by intro hh; first | rfl | cases hh) ?_
            obtain ⟨t55, e56, h⟩ := bindS h
            refine G.callB rfl rfl rfl rfl call15 (fun w hs => codec_ReadText.ok B39 ((c40 : Int).toNat) (t34.1.take ((wi64 ((t34.1.length : Int) - 1)).toNat)) (hs.osSl (j := 0) rfl) e56) (by rintro v H' L' ⟨rfl, rfl⟩; exact Free.nil) ?_
            rintro v57 L58 ⟨_, rfl, rfl⟩
            refine G.move rfl rfl rfl rfl ?_
            refine G.extract rfl rfl rfl rfl rfl ?_
            refine G.extract rfl rfl rfl rfl rfl ?_
            refine G.extract rfl rfl rfl rfl rfl ?_
            refine G.assign rfl rfl rfl rfl ?_
            refine G.assign rfl rfl rfl rfl ?_
            refine G.assign rfl rfl rfl rfl ?_
            refine G.regionEnd ?_
            refine G.seq ?_
            refine G.region (l := [0, 1, 2, 3, 4, 5, 6, 7, 8, 9]) rfl ?_
            refine G.move rfl rfl rfl rfl ?_
            refine G.move rfl rfl rfl rfl ?_
            refine G.rest (l1 := [2, 3, 4]) (l2 := [5, 6, 7, 8, 9]) (fun GG K => ∀ (H59 : PH) (l60 : PH.le H37 H59) (b61 : Bool), armoirelaw01_CodecCuts.j3 t55 b61 = some r → GG H59 [(14, .int .i64 t55.2.2), (66, .bool b61)] (OS 5 Kd.u8 B39 ((c40 : Int).toNat) (t34.1.take ((wi64 ((t34.1.length : Int) - 1)).toNat)) :: OS 5 Kd.u8 B21 ((c22 : Int).toNat) (t16.1.take 7) :: Fr) K) ?_ ?_
            · intro H59 l60 b61 h
              unfold armoirelaw01_CodecCuts.j3 at h
              refine G.move rfl rfl rfl rfl ?_
              refine G.rest (l1 := [6, 7, 8]) (l2 := [9]) (fun GG K => ∀ (H62 : PH) (l63 : PH.le H59 H62) (b64 : Bool), armoirelaw01_CodecCuts.j4 b64 = some r → GG H62 [(70, .bool b64)] (OS 5 Kd.u8 B39 ((c40 : Int).toNat) (t34.1.take ((wi64 ((t34.1.length : Int) - 1)).toNat)) :: OS 5 Kd.u8 B21 ((c22 : Int).toNat) (t16.1.take 7) :: Fr) K) ?_ ?_
              · intro H62 l63 b64 h
                unfold armoirelaw01_CodecCuts.j4 at h
                refine G.assign rfl rfl rfl rfl ?_
                refine G.regionEnd ?_
                refine G.drop ?_
                refine G.drop ?_
                obtain rfl := Option.some.inj h
                exact G.ret1 Try.func8 rfl rfl (fun w hs => ⟨_, _, _, rfl, (PH.le_trans (PH.le_trans (PH.le_trans (PH.le_trans (PH.le_trans (PH.le_trans l5 l14) l20) l26) l38) l60) l63), ⟨rfl, rfl⟩, hs⟩)
              intro J65
              refine G.splitB (d := 67) rfl (fun k66 => ?_) (fun k66 => ?_)
              · replace h := ifT h k66
                refine G.move rfl rfl rfl rfl ?_
                refine G.cmp (t55.2.2 = 10) rfl rfl rfl rfl rfl rfl Iff.rfl ?_
                refine G.pickT rfl rfl rfl rfl rfl ?_
                refine G.front1 ?_
                refine G.front1 ?_
                refine G.less ?_ (J65 H59 (PH.le_refl _) (decide (t55.2.2 = 10)) h)
                exact ⟨rfl, trivial⟩
              · replace h := ifFB h k66
                refine G.unwanted rfl rfl rfl rfl ?_
                refine G.unwanted rfl rfl rfl rfl ?_
                refine G.pickF rfl rfl rfl rfl rfl ?_
                refine G.front1 ?_
                refine G.front1 ?_
                refine G.less ?_ (J65 H59 (PH.le_refl _) false h)
                exact ⟨rfl, trivial⟩
            intro J67
            refine G.splitB (d := 63) rfl (fun k68 => ?_) (fun k68 => ?_)
            · replace h := ifT h k68
              refine G.move rfl rfl rfl rfl ?_
              refine G.cmp (t30.2 = 10) rfl rfl rfl rfl rfl rfl Iff.rfl ?_
              refine G.pickT rfl rfl rfl rfl rfl ?_
              refine G.front1 ?_
              refine G.front1 ?_
              refine G.less ?_ (J67 H37 (PH.le_refl _) (decide (t30.2 = 10)) h)
              exact ⟨rfl, rfl, trivial⟩
            · replace h := ifFB h k68
              refine G.unwanted rfl rfl rfl rfl ?_
              refine G.unwanted rfl rfl rfl rfl ?_
              refine G.pickF rfl rfl rfl rfl rfl ?_
              refine G.front1 ?_
              refine G.front1 ?_
              refine G.less ?_ (J67 H37 (PH.le_refl _) false h)
              exact ⟨rfl, rfl, trivial⟩
    intro J72
    refine G.splitP (d := 26) rfl (fun k73 => ?_) (fun k73 => ?_)
    · replace h := ifT h k73
      refine G.unwanted rfl rfl rfl rfl ?_
      refine G.unwanted rfl rfl rfl rfl ?_
      refine G.unwanted rfl rfl rfl rfl ?_
      refine G.pickT rfl rfl rfl rfl rfl ?_
      refine G.less ?_ (J72 H19 (PH.le_refl _) true h)
      exact ⟨rfl, rfl, rfl, rfl, trivial⟩
    · replace h := ifF h k73
      refine G.move rfl rfl rfl rfl ?_
      refine G.len rfl rfl rfl rfl Try.underlying22 ?_
      refine G.cmp ((t16.1.length : Int) ≠ 8) rfl rfl rfl rfl rfl rfl Iff.rfl ?_
      refine G.pickF rfl rfl rfl rfl rfl ?_
      refine G.less ?_ (J72 H19 (PH.le_refl _) (decide ((t16.1.length : Int) ≠ 8)) h)
      exact ⟨rfl, rfl, rfl, rfl, trivial⟩
  intro J74
  refine G.splitB (d := 16) rfl (fun k81 => ?_) (fun k81 => ?_)
  · replace h := ifT h k81
    obtain ⟨t75, e76, h⟩ := bindS h
    refine G.call rfl rfl rfl rfl call12 (armoirelaw01_texts.ok  e76) ?_
    rintro v77 H78 L80 l79 ⟨rfl, rfl⟩
    refine G.pickT rfl rfl rfl rfl rfl ?_
    refine G.less ?_ (J74 H78 l79 t75 h)
    exact ⟨rfl, rfl, rfl, trivial⟩
  · replace h := ifFB h k81
    refine G.unwanted rfl rfl rfl rfl ?_
    refine G.pickF rfl rfl rfl rfl rfl ?_
    refine G.less ?_ (J74 H4 (PH.le_refl _) false h)
    exact ⟨rfl, rfl, rfl, trivial⟩
end Go.Proofs.Ytpmibpleijnpcaa
