/- Own text, printed by wip/g2: the walks. -/
import Derived.Test.YtpiliblfmpgjeaaBw2
namespace Go.Proofs.Ytpiliblfmpgjeaa
open Go K
set_option linter.unusedVariables false
set_option maxHeartbeats 1000000
set_option maxRecDepth 20000 in
theorem reads_History_Forget.ok {O : World} {H : PH} {Fr : List Res} (a0 : S_reads_History) (g0 : Nat) (A0 : Option Addr) (n0 : Nat) (a1 : Int) {r : S_reads_History} (h : reads_History_Forget.f a0 a1 = some r) :
    CtrS Try.prog 26 [.pointer (some ⟨g0, 0, none⟩), .int .u64 a1] O H (BK 60 K_R_reads_History g0 (R_reads_History.mk (A0, a0.l.length, n0)) :: OS 63 K_S_reads_was A0 n0 a0.l :: Fr) (fun v L' => ∃ (Ar0 : Option Addr) (nr0 : Nat), v = .tuple #[] ∧ BK 60 K_R_reads_History g0 (R_reads_History.mk (Ar0, r.l.length, nr0)) :: OS 63 K_S_reads_was Ar0 nr0 r.l :: Fr = L') := by
  refine CtrS.start (n := 13) Try.func26 rfl Try.ntmps26 rfl rfl ?_
  unfold reads_History_Forget.f at h
  refine G.seq ?_
  refine G.region (l := [0]) rfl ?_
  refine G.box (dk := (Kd.int .u64)) (y := a1) rfl rfl rfl rfl ⟨([.int .u64 a1] : List Value), rfl, rfl⟩ ?_
  intro g3
  refine G.regionEnd ?_
  refine G.region (l := [0, 1, 2, 3, 4, 5, 6, 7, 8, 9]) rfl ?_
  refine G.move rfl rfl rfl rfl ?_
  refine G.move rfl rfl rfl rfl ?_
  refine G.nilCheck rfl rfl rfl rfl ?_
  refine G.field (off' := 0) rfl rfl rfl rfl Try.underlying60 rfl sz58 rfl rfl ?_
  refine G.loadH (B := A0) (m := a0.l.length) (c := n0) rfl rfl rfl rfl ty58r (fun w hs => Rd.bk (R_reads_History.L_l _) hs (j := 1) rfl) ?_
  refine G.makeFunc (fs := []) (cs := [.pointer (some ⟨g3, 0, none⟩)]) rfl rfl rfl rfl rfl ?_
  refine G.inl (n' := 42) rfl rfl rfl rfl call37 Try.func37 rfl Try.ntmps37 rfl rfl ?_
  intro R5 rt6
  refine G.seq ?_
  refine G.region (l := [0]) rfl ?_
  refine G.assign rfl rfl rfl rfl ?_
  refine G.regionEnd ?_
  refine G.seq ?_
  refine G.region (l := [0, 1, 2, 3]) rfl ?_
  refine G.move rfl rfl rfl rfl ?_
  refine G.move rfl rfl rfl rfl ?_
  refine G.rest (l1 := [2]) (l2 := [3]) (fun GG K => ∀ (x222 : Int), reads_History_Forget.j0 a0 a1 x222 = some r → GG H [(0, .slice A0 a0.l.length n0), (1, .func (.func 38) #[] #[.pointer (some ⟨g3, 0, none⟩)]), (10, .int .i64 x222)] (OS 63 K_S_reads_was A0 n0 a0.l :: BK 60 K_R_reads_History g0 (R_reads_History.mk (A0, a0.l.length, n0)) :: BK 30 (Kd.int .u64) g3 a1 :: Fr) K) ?_ ?_
  · intro x222 h
    unfold reads_History_Forget.j0 at h
    refine G.assign rfl rfl rfl rfl ?_
    refine G.regionEnd ?_
    refine G.seq ?_
    refine G.seq ?_
    refine G.region (l := [0, 1]) rfl ?_
    refine G.move rfl rfl rfl rfl ?_
    refine G.cmp (x222 = (-1)) rfl rfl rfl rfl rfl rfl Iff.rfl ?_
    refine G.regionEnd ?_
    refine G.condP rfl (fun k331 => ?_) (fun k331 => ?_)
    · replace h := ifT h k331
      refine G.seq ?_
      refine G.region (l := [0, 1]) rfl ?_
      refine G.move rfl rfl rfl rfl ?_
      refine G.assign rfl rfl rfl rfl ?_
      refine G.regionEnd ?_
      refine G.ret1 Try.func37 rfl rfl (rt6 _ _ _ ?_)
      refine G.nilCheck rfl rfl rfl rfl ?_
      refine G.field (off' := 0) rfl rfl rfl rfl Try.underlying60 rfl sz58 rfl rfl ?_
      refine G.frontAt 1 rfl ?_
      refine G.store (df := Kd.hdr) (y := (A0, a0.l.length, n0)) (x1 := (R_reads_History.mk (A0, a0.l.length, n0))) rfl rfl rfl rfl (R_reads_History.L_l _) ⟨([.slice A0 a0.l.length n0] : List Value), rfl, rfl⟩ sz58 rfl ?_
      refine G.regionEnd ?_
      refine G.frontAt 2 rfl ?_
      refine G.drop ?_
      refine G.frontAt 1 rfl ?_
      refine G.frontAt 1 rfl ?_
      obtain rfl := Option.some.inj h
      exact G.endN (rs := []) Try.func26 rfl rfl rfl (fun w hs => ⟨_, _, rfl, ⟨A0, n0, rfl, rfl⟩, hs⟩)
    · replace h := ifF h k331
      refine G.skip ?_
      refine G.seq ?_
      refine G.seq ?_
      refine G.region (l := [0, 1, 2]) rfl ?_
      refine G.move rfl rfl rfl rfl ?_
      refine G.bin (m := x222) (n := 1) (r := wi64 (x222 + 1)) rfl rfl rfl rfl rfl rfl rfl ?_
      refine G.assign rfl rfl rfl rfl ?_
      refine G.regionEnd ?_
      refine G.block ?_
      refine G.loop (fun GG K => ∀ (d295 : Nat) (x258 : (List S_reads_was)) (x259 : Int) (x260 : Int), reads_History_Forget.l0 a1 d295 x258 x259 x260 = some r → GG H [(0, .slice A0 x258.length n0), (1, .func (.func 38) #[] #[.pointer (some ⟨g3, 0, none⟩)]), (5, .int .i64 x259), (6, .int .i64 x260)] (OS 63 K_S_reads_was A0 n0 x258 :: BK 60 K_R_reads_History g0 (R_reads_History.mk (A0, x258.length, n0)) :: BK 30 (Kd.int .u64) g3 a1 :: Fr) K) ?_ ?_
      · intro d295
        induction d295 with
        | zero => intro x258 x259 x260 h; rw [reads_History_Forget.l0] at h; cases h
        | succ d295 ih294 =>
          intro x258 x259 x260 h
          rw [reads_History_Forget.l0] at h
          refine G.seq ?_
          refine G.seq ?_
          refine G.region (l := [0, 1, 2, 3]) rfl ?_
          refine G.move rfl rfl rfl rfl ?_
          refine G.move rfl rfl rfl rfl ?_
          refine G.len (m := x258.length) rfl rfl rfl rfl Try.underlying58 ?_
          refine G.cmp (x260 < (x258.length : Int)) rfl rfl rfl rfl rfl rfl Iff.rfl ?_
          refine G.regionEnd ?_
          refine G.condP rfl (fun k329 => ?_) (fun k329 => ?_)
          · replace h := ifT h k329
            refine G.skip ?_
            refine G.seq ?_
            refine G.block ?_
            refine G.seq ?_
            refine G.region (l := [0, 1, 2, 3, 4, 5]) rfl ?_
            refine G.move rfl rfl rfl rfl ?_
            refine G.move rfl rfl rfl rfl ?_
            obtain ⟨k301, h⟩ := guardS h
            have q300 : x260.toNat < x258.length := by omega
            refine G.indexO (xs := x258) (j := x260) (off := x260.toNat * 2) rfl rfl rfl rfl rfl el58 (r := 0) rfl (by simp) k301 rfl ?_
            refine G.loadA (df := K_S_reads_was) (y := x258.getD x260.toNat (S_reads_was.mk 0 [])) rfl rfl rfl rfl ty63 rfl (fun w hs => Rd.osG q300 (Lens.id _ _) hs (j := 0) rfl (o := x260.toNat * 2) (by first | rfl | simp)) ?_
            intro cs302 f303
            obtain ⟨B304, c305, f306, rfl⟩ := K_S_reads_was.open f303
            refine G.alloc (dk := K_R_reads_was) (x0 := (R_reads_was.mk 0 (none, 0, 0))) (z := .agg (([.int .u64 0] : List Value) ++ (([.slice none 0 0] : List Value))).toArray) (cs := ([.int .u64 0] : List Value) ++ (([.slice none 0 0] : List Value))) rfl rfl rfl (by kernel_rfl) rfl (fun H => K_R_reads_was.mk rfl rfl) ?_
            intro g307
            refine G.store (df := K_R_reads_was) (y := (R_reads_was.mk ((x258.getD x260.toNat (S_reads_was.mk 0 [])).version) (B304, ((x258.getD x260.toNat (S_reads_was.mk 0 [])).l).length, c305))) (x1 := (R_reads_was.mk ((x258.getD x260.toNat (S_reads_was.mk 0 [])).version) (B304, ((x258.getD x260.toNat (S_reads_was.mk 0 [])).l).length, c305))) rfl rfl rfl rfl (Lens.id _ _) (VR.A (cs := ([.int .u64 ((x258.getD x260.toNat (S_reads_was.mk 0 [])).version)] : List Value) ++ (([.slice B304 ((x258.getD x260.toNat (S_reads_was.mk 0 [])).l).length c305] : List Value))) (K_R_reads_was.mk rfl rfl)) sz63 rfl ?_
            refine G.regionEnd ?_
            refine G.seq ?_
            refine G.region (l := [0, 1, 2, 3]) rfl ?_
            refine G.move rfl rfl rfl rfl ?_
            refine G.loadA (df := K_R_reads_was) (y := (R_reads_was.mk ((x258.getD x260.toNat (S_reads_was.mk 0 [])).version) (B304, ((x258.getD x260.toNat (S_reads_was.mk 0 [])).l).length, c305))) rfl rfl rfl rfl ty63r rfl (fun w hs => Rd.bk (Lens.id _ _) hs (j := 0) rfl) ?_
            intro cs309 f310
            obtain rfl := K_R_reads_was.open f310
            refine G.frontAt 3 rfl ?_
            obtain ⟨t311, e312, h⟩ := bindS h
            refine G.callSV rfl rfl rfl rfl rfl rfl call38 (reads_History_Forget_1_s2.ok (x258.getD x260.toNat (S_reads_was.mk 0 [])) B304 c305 f306 a1 g3 e312) ?_
            rintro v313 L314 ⟨rfl, rfl⟩
            refine G.not rfl rfl rfl rfl rfl ?_
            refine G.regionEnd ?_
            refine G.cond rfl (fun k325 => ?_) (fun k325 => ?_)
            · replace h := ifT h k325
              refine G.seq ?_
              refine G.region (l := [0, 1, 2, 3, 4]) rfl ?_
              refine G.move rfl rfl rfl rfl ?_
              refine G.move rfl rfl rfl rfl ?_
              refine G.loadA (df := K_R_reads_was) (y := (R_reads_was.mk ((x258.getD x260.toNat (S_reads_was.mk 0 [])).version) (B304, ((x258.getD x260.toNat (S_reads_was.mk 0 [])).l).length, c305))) rfl rfl rfl rfl ty63r rfl (fun w hs => Rd.bk (Lens.id _ _) hs (j := 1) rfl) ?_
              intro cs321 f322
              obtain rfl := K_R_reads_was.open f322
              obtain ⟨k324, h⟩ := guardS h
              have q323 : x259.toNat < x258.length := by omega
              refine G.indexO (xs := x258) (j := x259) (off := x259.toNat * 2) rfl rfl rfl rfl rfl el58 (r := 2) rfl (by simp) k324 rfl ?_
              refine G.frontAt 2 rfl ?_
              refine G.storeO (df := K_S_reads_was) (y := (x258.getD x260.toNat (S_reads_was.mk 0 []))) (hj := q323) (xs' := x258.set x259.toNat (x258.getD x260.toNat (S_reads_was.mk 0 []))) rfl rfl rfl rfl (Lens.id _ _) (by first | rfl | simp) (VR.A (cs := ([.int .u64 ((x258.getD x260.toNat (S_reads_was.mk 0 [])).version)] : List Value) ++ (([.slice B304 ((x258.getD x260.toNat (S_reads_was.mk 0 [])).l).length c305] : List Value))) (K_S_reads_was.mk rfl ⟨_, _, rfl, f306⟩)) sz63 rfl ?_
              refine G.regionEnd ?_
              refine G.region (l := [0, 1, 2]) rfl ?_
              refine G.move rfl rfl rfl rfl ?_
              refine G.bin (m := x259) (n := 1) (r := wi64 (x259 + 1)) rfl rfl rfl rfl rfl rfl rfl ?_
              refine G.assign rfl rfl rfl rfl ?_
              refine G.regionEnd ?_
              refine G.inBlock ?_
              refine G.region (l := [0, 1, 2]) rfl ?_
              refine G.move rfl rfl rfl rfl ?_
              refine G.bin (m := x260) (n := 1) (r := wi64 (x260 + 1)) rfl rfl rfl rfl rfl rfl rfl ?_
              refine G.assign rfl rfl rfl rfl ?_
              refine G.regionEnd ?_
              refine G.round ?_
              refine G.same (d := 0) (v := .slice A0 ((x258.set x259.toNat (x258.getD x260.toNat (S_reads_was.mk 0 []))).length) n0) rfl (by first | (simp; done) | (simp; omega)) ?_
              refine G.frontAt 3 rfl ?_
              refine G.headEq (r' := BK 60 K_R_reads_History g0 (R_reads_History.mk (A0, (x258.set x259.toNat (x258.getD x260.toNat (S_reads_was.mk 0 []))).length, n0))) (by first | (simp; done) | (simp; omega)) ?_
              refine G.frontAt 3 rfl ?_
              refine G.drop ?_
              refine G.frontAt 2 rfl ?_
              refine G.frontAt 1 rfl ?_
              refine G.frontAt 2 rfl ?_
              refine G.less ?_ (ih294  (x258.set x259.toNat (x258.getD x260.toNat (S_reads_was.mk 0 []))) (wi64 (x259 + 1)) (wi64 (x260 + 1)) h)
              exact ⟨rfl, rfl, rfl, rfl, trivial⟩
            · replace h := ifFB h k325
              refine G.skip ?_
              refine G.inBlock ?_
              refine G.region (l := [0, 1, 2]) rfl ?_
              refine G.move rfl rfl rfl rfl ?_
              refine G.bin (m := x260) (n := 1) (r := wi64 (x260 + 1)) rfl rfl rfl rfl rfl rfl rfl ?_
              refine G.assign rfl rfl rfl rfl ?_
              refine G.regionEnd ?_
              refine G.round ?_
              refine G.frontAt 1 rfl ?_
              refine G.drop ?_
              refine G.frontAt 2 rfl ?_
              refine G.frontAt 2 rfl ?_
              refine G.less ?_ (ih294  x258 x259 (wi64 (x260 + 1)) h)
              exact ⟨rfl, rfl, rfl, rfl, trivial⟩
          · replace h := ifF h k329
            refine G.exit rfl ?_
            refine G.seq ?_
            refine G.region (l := [0, 1, 2, 3]) rfl ?_
            refine G.move rfl rfl rfl rfl ?_
            refine G.move rfl rfl rfl rfl ?_
            obtain ⟨k326, h⟩ := guardS h
            refine G.cutV (df := K_S_reads_was) (xs := x258) (l := x259) (h := (x258.length : Int)) (r := 0) rfl rfl rfl rfl rfl rfl rfl rfl (by simp) el58 k326 ?_
            refine G.clearV (df := K_S_reads_was) (xs := x258) (z0 := (S_reads_was.mk 0 [])) (lo := x259.toNat) (n := (((x258.length : Int).toNat) - x259.toNat)) (z := .agg (([.int .u64 0] : List Value) ++ (([.slice none 0 0] : List Value))).toArray) (cz := ([.int .u64 0] : List Value) ++ (([.slice none 0 0] : List Value))) rfl rfl rfl rfl el58 (by kernel_rfl) rfl (K_S_reads_was.mk rfl ⟨none, 0, rfl, SlR.nil _ _⟩) (by have q := k326; first | omega | (simp only [List.length_set, List.length_append, List.length_replicate] at q ⊢; omega)) ?_
            refine G.regionEnd ?_
            refine G.seq ?_
            refine G.region (l := [0, 1, 2, 3]) rfl ?_
            refine G.move rfl rfl rfl rfl ?_
            refine G.move rfl rfl rfl rfl ?_
            refine G.same (d := 39) (v := .slice A0 ((x258.take x259.toNat ++ List.replicate (((x258.length : Int).toNat) - x259.toNat) (S_reads_was.mk 0 []) ++ x258.drop (x259.toNat + (((x258.length : Int).toNat) - x259.toNat))).length) n0) rfl (by first | (simp; done) | (simp; omega)) ?_
            obtain ⟨k328, h⟩ := guardS h
            refine G.cutO (xs := (x258.take x259.toNat ++ List.replicate (((x258.length : Int).toNat) - x259.toNat) (S_reads_was.mk 0 []) ++ x258.drop (x259.toNat + (((x258.length : Int).toNat) - x259.toNat)))) (h := x259) (m := (n0 : Int)) rfl rfl rfl rfl rfl rfl rfl rfl rfl el58 k328 (fun hc => ⟨by omega, Int.le_refl _⟩) (by intro hh; first | rfl | cases hh) ?_
            refine G.assign rfl rfl rfl rfl ?_
            refine G.regionEnd ?_
            refine G.ret1 Try.func37 rfl rfl (rt6 _ _ _ ?_)
            refine G.nilCheck rfl rfl rfl rfl ?_
            refine G.field (off' := 0) rfl rfl rfl rfl Try.underlying60 rfl sz58 rfl rfl ?_
            refine G.frontAt 1 rfl ?_
            refine G.store (df := Kd.hdr) (y := (A0, ((x258.take x259.toNat ++ List.replicate (((x258.length : Int).toNat) - x259.toNat) (S_reads_was.mk 0 []) ++ x258.drop (x259.toNat + (((x258.length : Int).toNat) - x259.toNat))).take x259.toNat).length, ((n0 : Int).toNat))) (x1 := (R_reads_History.mk (A0, ((x258.take x259.toNat ++ List.replicate (((x258.length : Int).toNat) - x259.toNat) (S_reads_was.mk 0 []) ++ x258.drop (x259.toNat + (((x258.length : Int).toNat) - x259.toNat))).take x259.toNat).length, ((n0 : Int).toNat)))) rfl rfl rfl rfl (R_reads_History.L_l _) ⟨([.slice A0 (((x258.take x259.toNat ++ List.replicate (((x258.length : Int).toNat) - x259.toNat) (S_reads_was.mk 0 []) ++ x258.drop (x259.toNat + (((x258.length : Int).toNat) - x259.toNat))).take x259.toNat).length) ((n0 : Int).toNat)] : List Value), rfl, rfl⟩ sz58 rfl ?_
            refine G.regionEnd ?_
            refine G.frontAt 2 rfl ?_
            refine G.drop ?_
            refine G.frontAt 1 rfl ?_
            refine G.frontAt 1 rfl ?_
            obtain rfl := Option.some.inj h
            exact G.endN (rs := []) Try.func26 rfl rfl rfl (fun w hs => ⟨_, _, rfl, ⟨A0, ((n0 : Int).toNat), rfl, rfl⟩, hs⟩)
      intro J330
      refine G.frontAt 2 rfl ?_
      refine G.frontAt 2 rfl ?_
      refine G.frontAt 2 rfl ?_
      refine G.less ?_ (J330 FUEL  a0.l x222 (wi64 (x222 + 1)) h)
      exact ⟨rfl, rfl, rfl, rfl, trivial⟩
  intro J332
  refine G.inl (n' := 19) rfl rfl rfl rfl call40 Try.func40 rfl Try.ntmps40 rfl rfl ?_
  intro R189 rt190
  refine G.seq ?_
  refine G.region (l := [0]) rfl ?_
  refine G.assign rfl rfl rfl rfl ?_
  refine G.regionEnd ?_
  refine G.seq ?_
  refine G.seq ?_
  refine G.region (l := [0, 1, 2]) rfl ?_
  refine G.move rfl rfl rfl rfl ?_
  refine G.len (m := a0.l.length) rfl rfl rfl rfl Try.underlying58 ?_
  refine G.move rfl rfl rfl rfl ?_
  refine G.regionEnd ?_
  refine G.block ?_
  refine G.loop (fun GG K => ∀ (d348 : Nat) (x333 : Int), reads_History_Forget.l1 a0 a1 d348 x333 = some r → GG H [(0, .slice A0 a0.l.length n0), (1, .func (.func 38) #[] #[.pointer (some ⟨g3, 0, none⟩)]), (7, .int .i64 (a0.l.length : Int)), (8, .int .i64 x333)] (OS 63 K_S_reads_was A0 n0 a0.l :: BK 60 K_R_reads_History g0 (R_reads_History.mk (A0, a0.l.length, n0)) :: BK 30 (Kd.int .u64) g3 a1 :: Fr) K) ?_ ?_
  · intro d348
    induction d348 with
    | zero => intro x333 h; rw [reads_History_Forget.l1] at h; cases h
    | succ d348 ih347 =>
      intro x333 h
      rw [reads_History_Forget.l1] at h
      refine G.seq ?_
      refine G.region (l := [0]) rfl ?_
      refine G.cmp (x333 < (a0.l.length : Int)) rfl rfl rfl rfl rfl rfl Iff.rfl ?_
      refine G.regionEnd ?_
      refine G.seq ?_
      refine G.condP rfl (fun k362 => ?_) (fun k362 => ?_)
      · replace h := ifT h k362
        refine G.skip ?_
        refine G.seq ?_
        refine G.block ?_
        refine G.seq ?_
        refine G.region (l := [0, 1]) rfl ?_
        refine G.move rfl rfl rfl rfl ?_
        refine G.assign rfl rfl rfl rfl ?_
        refine G.regionEnd ?_
        refine G.seq ?_
        refine G.region (l := [0, 1, 2, 3, 4, 5]) rfl ?_
        refine G.move rfl rfl rfl rfl ?_
        refine G.move rfl rfl rfl rfl ?_
        refine G.move rfl rfl rfl rfl ?_
        obtain ⟨k351, h⟩ := guardS h
        have q350 : x333.toNat < a0.l.length := by omega
        refine G.indexO (xs := a0.l) (j := x333) (off := x333.toNat * 2) rfl rfl rfl rfl rfl el58 (r := 0) rfl (by simp) k351 rfl ?_
        refine G.loadA (df := K_S_reads_was) (y := a0.l.getD x333.toNat (S_reads_was.mk 0 [])) rfl rfl rfl rfl ty63 rfl (fun w hs => Rd.osG q350 (Lens.id _ _) hs (j := 0) rfl (o := x333.toNat * 2) (by first | rfl | simp)) ?_
        intro cs352 f353
        obtain ⟨B354, c355, f356, rfl⟩ := K_S_reads_was.open f353
        refine G.frontAt 2 rfl ?_
        obtain ⟨t357, e358, h⟩ := bindS h
        refine G.callSV rfl rfl rfl rfl rfl rfl call38 (reads_History_Forget_1.ok (a0.l.getD x333.toNat (S_reads_was.mk 0 [])) B354 c355 f356 a1 g3 e358) ?_
        rintro v359 L360 ⟨rfl, rfl⟩
        refine G.regionEnd ?_
        refine G.cond rfl (fun k361 => ?_) (fun k361 => ?_)
        · replace h := ifT h k361
          refine G.seq ?_
          refine G.region (l := [0, 1]) rfl ?_
          refine G.move rfl rfl rfl rfl ?_
          refine G.assign rfl rfl rfl rfl ?_
          refine G.regionEnd ?_
          refine G.ret1 Try.func40 rfl rfl (rt190 _ _ _ ?_)
          refine G.frontAt 2 rfl ?_
          refine G.frontAt 2 rfl ?_
          refine G.less ?_ (J332  x333 h)
          exact ⟨rfl, rfl, rfl, trivial⟩
        · replace h := ifFB h k361
          refine G.skip ?_
          refine G.inBlock ?_
          refine G.region (l := [0, 1]) rfl ?_
          refine G.bin (m := x333) (n := 1) (r := wi64 (x333 + 1)) rfl rfl rfl rfl rfl rfl rfl ?_
          refine G.move rfl rfl rfl rfl ?_
          refine G.regionEnd ?_
          refine G.round ?_
          refine G.frontAt 2 rfl ?_
          refine G.frontAt 2 rfl ?_
          refine G.less ?_ (ih347  (wi64 (x333 + 1)) h)
          exact ⟨rfl, rfl, rfl, rfl, trivial⟩
      · replace h := ifF h k362
        refine G.exit rfl ?_
        refine G.seq ?_
        refine G.region (l := [0]) rfl ?_
        refine G.assign rfl rfl rfl rfl ?_
        refine G.regionEnd ?_
        refine G.ret1 Try.func40 rfl rfl (rt190 _ _ _ ?_)
        refine G.frontAt 2 rfl ?_
        refine G.frontAt 2 rfl ?_
        refine G.frontAt 2 rfl ?_
        refine G.less ?_ (J332  (-1) h)
        exact ⟨rfl, rfl, rfl, trivial⟩
  intro J363
  refine G.frontAt 1 rfl ?_
  refine G.frontAt 2 rfl ?_
  refine G.less ?_ (J363 FUEL  0 h)
  exact ⟨rfl, rfl, rfl, rfl, trivial⟩
set_option maxRecDepth 20000 in
theorem armoireref15_Forget.ok {O : World} {H : PH} {Fr : List Res} (a0 : (List S_armoireref15_Was)) (A0 : Option Addr) (n0 : Nat) (F0 : SlR K_S_armoireref15_Was H A0 n0 a0) (a1 : Int) {r : (List S_armoireref15_Was)} (h : armoireref15_Forget.f a0 a1 = some r) :
    CtrS Try.prog 27 [.slice A0 a0.length n0, .int .u64 a1] O H (Fr) (fun v L' => ∃ (Ar0 : Option Addr) (nr0 : Nat), v = .slice Ar0 r.length nr0 ∧ OS 54 K_S_armoireref15_Was Ar0 nr0 r :: Fr = L') := by
  refine CtrS.start (n := 24) Try.func27 rfl Try.ntmps27 rfl rfl ?_
  unfold armoireref15_Forget.f at h
  refine G.seq ?_
  refine G.region (l := [0]) rfl ?_
  refine G.assign rfl rfl rfl rfl ?_
  refine G.regionEnd ?_
  refine G.seq ?_
  refine G.region (l := [0]) rfl ?_
  refine G.assign rfl rfl rfl rfl ?_
  refine G.regionEnd ?_
  refine G.seq ?_
  refine G.seq ?_
  refine G.region (l := [0, 1, 2]) rfl ?_
  refine G.move rfl rfl rfl rfl ?_
  refine G.len (m := a0.length) rfl rfl rfl rfl Try.underlying51 ?_
  refine G.move rfl rfl rfl rfl ?_
  refine G.regionEnd ?_
  refine G.block ?_
  refine G.loop (fun GG K => ∀ (d76 : Nat) (B39 : Option Addr) (c40 : Nat) (x41 : (List S_armoireref15_Was)) (x42 : Int), armoireref15_Forget.l0 a0 a1 d76 x41 x42 = some r → GG H [(1, .int .u64 a1), (5, .slice B39 x41.length c40), (8, .slice A0 a0.length n0), (9, .int .i64 (a0.length : Int)), (10, .int .i64 x42)] (OS 54 K_S_armoireref15_Was B39 c40 x41 :: Fr) K) ?_ ?_
  · intro d76
    induction d76 with
    | zero => intro B39 c40 x41 x42 h; rw [armoireref15_Forget.l0] at h; cases h
    | succ d76 ih75 =>
      intro B39 c40 x41 x42 h
      rw [armoireref15_Forget.l0] at h
      refine G.seq ?_
      refine G.region (l := [0]) rfl ?_
      refine G.cmp (x42 < (a0.length : Int)) rfl rfl rfl rfl rfl rfl Iff.rfl ?_
      refine G.regionEnd ?_
      refine G.seq ?_
      refine G.condP rfl (fun k109 => ?_) (fun k109 => ?_)
      · replace h := ifT h k109
        refine G.skip ?_
        refine G.seq ?_
        refine G.block ?_
        refine G.seq ?_
        refine G.region (l := [0, 1, 2, 3]) rfl ?_
        obtain ⟨k80, h⟩ := guardS h
        refine G.indexR (xs := a0) (j := x42) (S_armoireref15_Was.mk 0 []) rfl rfl rfl rfl rfl el51 F0 k80 ?_
        intro a78 f79
        refine G.loadA (df := K_S_armoireref15_Was) (y := a0.getD x42.toNat (S_armoireref15_Was.mk 0 [])) rfl rfl rfl rfl ty54 rfl (fun w hs => Rd.ro f79 hs) ?_
        intro cs81 f82
        obtain ⟨B83, c84, f85, rfl⟩ := K_S_armoireref15_Was.open f82
        refine G.alloc (dk := K_R_armoireref15_Was) (x0 := (R_armoireref15_Was.mk 0 (none, 0, 0))) (z := .agg (([.int .u64 0] : List Value) ++ (([.slice none 0 0] : List Value))).toArray) (cs := ([.int .u64 0] : List Value) ++ (([.slice none 0 0] : List Value))) rfl rfl rfl (by kernel_rfl) rfl (fun H => K_R_armoireref15_Was.mk rfl rfl) ?_
        intro g86
        refine G.store (df := K_R_armoireref15_Was) (y := (R_armoireref15_Was.mk ((a0.getD x42.toNat (S_armoireref15_Was.mk 0 [])).version) (B83, ((a0.getD x42.toNat (S_armoireref15_Was.mk 0 [])).l).length, c84))) (x1 := (R_armoireref15_Was.mk ((a0.getD x42.toNat (S_armoireref15_Was.mk 0 [])).version) (B83, ((a0.getD x42.toNat (S_armoireref15_Was.mk 0 [])).l).length, c84))) rfl rfl rfl rfl (Lens.id _ _) (VR.A (cs := ([.int .u64 ((a0.getD x42.toNat (S_armoireref15_Was.mk 0 [])).version)] : List Value) ++ (([.slice B83 ((a0.getD x42.toNat (S_armoireref15_Was.mk 0 [])).l).length c84] : List Value))) (K_R_armoireref15_Was.mk rfl rfl)) sz54 rfl ?_
        refine G.regionEnd ?_
        refine G.seq ?_
        refine G.region (l := [0, 1, 2, 3]) rfl ?_
        refine G.field (off' := 0) rfl rfl rfl rfl Try.underlying54 rfl sz30 rfl rfl ?_
        refine G.loadI (y := (a0.getD x42.toNat (S_armoireref15_Was.mk 0 [])).version) rfl rfl rfl rfl ty30 (fun w hs => Rd.bk (R_armoireref15_Was.L_version _) hs (j := 0) rfl) ?_
        refine G.move rfl rfl rfl rfl ?_
        refine G.cmp (a1 < ((a0.getD x42.toNat (S_armoireref15_Was.mk 0 [])).version)) rfl rfl rfl rfl rfl rfl Iff.rfl ?_
        refine G.regionEnd ?_
        refine G.condP rfl (fun k108 => ?_) (fun k108 => ?_)
        · replace h := ifT h k108
          refine G.region (l := [0, 1, 2, 3, 4]) rfl ?_
          refine G.move rfl rfl rfl rfl ?_
          refine G.loadA (df := K_R_armoireref15_Was) (y := (R_armoireref15_Was.mk ((a0.getD x42.toNat (S_armoireref15_Was.mk 0 [])).version) (B83, ((a0.getD x42.toNat (S_armoireref15_Was.mk 0 [])).l).length, c84))) rfl rfl rfl rfl ty54r rfl (fun w hs => Rd.bk (Lens.id _ _) hs (j := 0) rfl) ?_
          intro cs100 f101
          obtain rfl := K_R_armoireref15_Was.open f101
          refine G.buildSliceV (df := K_S_armoireref15_Was) (xs := ([(a0.getD x42.toNat (S_armoireref15_Was.mk 0 []))] : List S_armoireref15_Was)) (z0 := (S_armoireref15_Was.mk 0 [])) (vs := [.agg (([.int .u64 ((a0.getD x42.toNat (S_armoireref15_Was.mk 0 [])).version)] : List Value) ++ (([.slice B83 ((a0.getD x42.toNat (S_armoireref15_Was.mk 0 [])).l).length c84] : List Value))).toArray]) rfl rfl rfl el51 (z := .agg (([.int .u64 0] : List Value) ++ (([.slice none 0 0] : List Value))).toArray) (cz := ([.int .u64 0] : List Value) ++ (([.slice none 0 0] : List Value))) (by kernel_rfl) rfl rfl rfl rfl rfl (K_S_armoireref15_Was.mk rfl ⟨none, 0, rfl, SlR.nil _ _⟩) ⟨(VR.A (cs := ([.int .u64 ((a0.getD x42.toNat (S_armoireref15_Was.mk 0 [])).version)] : List Value) ++ (([.slice B83 ((a0.getD x42.toNat (S_armoireref15_Was.mk 0 [])).l).length c84] : List Value))) (K_S_armoireref15_Was.mk rfl ⟨_, _, rfl, f85⟩)), trivial⟩ ?_
          intro B102
          refine G.frontAt 2 rfl ?_
          obtain ⟨k107, h⟩ := guardS h
          refine G.append (df := K_S_armoireref15_Was) (xs := x41) (ys := ([(a0.getD x42.toNat (S_armoireref15_Was.mk 0 []))] : List S_armoireref15_Was)) (z0 := (S_armoireref15_Was.mk 0 [])) (z := .agg (([.int .u64 0] : List Value) ++ (([.slice none 0 0] : List Value))).toArray) (cz := ([.int .u64 0] : List Value) ++ (([.slice none 0 0] : List Value))) rfl rfl rfl rfl (by simp) rfl el51 Try.underlying51 rfl (by kernel_rfl) rfl (K_S_armoireref15_Was.mk rfl ⟨none, 0, rfl, SlR.nil _ _⟩) (fun w hs => SrcR.os hs (j := 1) rfl) ⟨by omega, by omega⟩ ?_
          intro B104 c105
          refine G.frontAt 1 rfl ?_
          refine G.drop ?_
          refine G.assign rfl rfl rfl rfl ?_
          refine G.regionEnd ?_
          refine G.inBlock ?_
          refine G.region (l := [0, 1]) rfl ?_
          refine G.bin (m := x42) (n := 1) (r := wi64 (x42 + 1)) rfl rfl rfl rfl rfl rfl rfl ?_
          refine G.move rfl rfl rfl rfl ?_
          refine G.regionEnd ?_
          refine G.round ?_
          refine G.frontAt 1 rfl ?_
          refine G.drop ?_
          refine G.less ?_ (ih75  B104 c105 (x41 ++ ([(a0.getD x42.toNat (S_armoireref15_Was.mk 0 []))] : List S_armoireref15_Was)) (wi64 (x42 + 1)) h)
          exact ⟨rfl, rfl, rfl, rfl, rfl, trivial⟩
        · replace h := ifF h k108
          refine G.skip ?_
          refine G.inBlock ?_
          refine G.region (l := [0, 1]) rfl ?_
          refine G.bin (m := x42) (n := 1) (r := wi64 (x42 + 1)) rfl rfl rfl rfl rfl rfl rfl ?_
          refine G.move rfl rfl rfl rfl ?_
          refine G.regionEnd ?_
          refine G.round ?_
          refine G.drop ?_
          refine G.less ?_ (ih75  B39 c40 x41 (wi64 (x42 + 1)) h)
          exact ⟨rfl, rfl, rfl, rfl, rfl, trivial⟩
      · replace h := ifF h k109
        refine G.exit rfl ?_
        refine G.seq ?_
        refine G.region (l := [0, 1]) rfl ?_
        refine G.move rfl rfl rfl rfl ?_
        refine G.assign rfl rfl rfl rfl ?_
        refine G.regionEnd ?_
        obtain rfl := Option.some.inj h
        exact G.ret1 Try.func27 rfl rfl (fun w hs => ⟨_, _, rfl, ⟨B39, c40, rfl, rfl⟩, hs⟩)
  intro J110
  refine G.osNil 54 K_S_armoireref15_Was ?_
  refine G.same (d := 5) (v := .slice none (([] : List S_armoireref15_Was).length) 0) rfl (by first | (simp; done) | (simp; omega)) ?_
  refine G.less ?_ (J110 FUEL  none 0 ([] : List S_armoireref15_Was) 0 h)
  exact ⟨rfl, rfl, rfl, rfl, rfl, trivial⟩
set_option maxRecDepth 20000 in
theorem reads_History_Len.ok {O : World} {H : PH} {Fr : List Res} (a0 : S_reads_History) (g0 : Nat) (A0 : Option Addr) (n0 : Nat) {r : Int} (h : reads_History_Len.f a0 = some r) :
    CtrS Try.prog 28 [.pointer (some ⟨g0, 0, none⟩)] O H (BK 60 K_R_reads_History g0 (R_reads_History.mk (A0, a0.l.length, n0)) :: OS 63 K_S_reads_was A0 n0 a0.l :: Fr) (fun v L' => v = .int .i64 r ∧ BK 60 K_R_reads_History g0 (R_reads_History.mk (A0, a0.l.length, n0)) :: OS 63 K_S_reads_was A0 n0 a0.l :: Fr = L') := by
  refine CtrS.start (n := 8) Try.func28 rfl Try.ntmps28 rfl rfl ?_
  unfold reads_History_Len.f at h
  refine G.seq ?_
  refine G.region (l := [0]) rfl ?_
  refine G.assign rfl rfl rfl rfl ?_
  refine G.regionEnd ?_
  refine G.seq ?_
  refine G.region (l := [0, 1, 2, 3, 4, 5]) rfl ?_
  refine G.move rfl rfl rfl rfl ?_
  refine G.nilCheck rfl rfl rfl rfl ?_
  refine G.field (off' := 0) rfl rfl rfl rfl Try.underlying60 rfl sz58 rfl rfl ?_
  refine G.loadH (B := A0) (m := a0.l.length) (c := n0) rfl rfl rfl rfl ty58r (fun w hs => Rd.bk (R_reads_History.L_l _) hs (j := 0) rfl) ?_
  refine G.len (m := a0.l.length) rfl rfl rfl rfl Try.underlying58 ?_
  refine G.assign rfl rfl rfl rfl ?_
  refine G.regionEnd ?_
  refine G.frontAt 1 rfl ?_
  refine G.frontAt 1 rfl ?_
  obtain rfl := Option.some.inj h
  exact G.ret1 Try.func28 rfl rfl (fun w hs => ⟨_, _, rfl, ⟨rfl, rfl⟩, hs⟩)
set_option maxRecDepth 20000 in
theorem armoireref15_Forget_s2.ok {O : World} {H : PH} {Fr : List Res} (a0 : (List S_armoireref15_Was)) (A0 : Option Addr) (n0 : Nat) (a1 : Int) {r : (List S_armoireref15_Was)} (h : armoireref15_Forget.f a0 a1 = some r) :
    CtrS Try.prog 27 [.slice A0 a0.length n0, .int .u64 a1] O H (OS 54 K_S_armoireref15_Was A0 n0 a0 :: Fr) (fun v L' => ∃ (Ar0 : Option Addr) (nr0 : Nat), v = .slice Ar0 r.length nr0 ∧ OS 54 K_S_armoireref15_Was A0 n0 a0 :: OS 54 K_S_armoireref15_Was Ar0 nr0 r :: Fr = L') := by
  refine CtrS.start (n := 24) Try.func27 rfl Try.ntmps27 rfl rfl ?_
  unfold armoireref15_Forget.f at h
  refine G.seq ?_
  refine G.region (l := [0]) rfl ?_
  refine G.assign rfl rfl rfl rfl ?_
  refine G.regionEnd ?_
  refine G.seq ?_
  refine G.region (l := [0]) rfl ?_
  refine G.assign rfl rfl rfl rfl ?_
  refine G.regionEnd ?_
  refine G.seq ?_
  refine G.seq ?_
  refine G.region (l := [0, 1, 2]) rfl ?_
  refine G.move rfl rfl rfl rfl ?_
  refine G.len (m := a0.length) rfl rfl rfl rfl Try.underlying51 ?_
  refine G.move rfl rfl rfl rfl ?_
  refine G.regionEnd ?_
  refine G.block ?_
  refine G.loop (fun GG K => ∀ (d75 : Nat) (B39 : Option Addr) (c40 : Nat) (x41 : (List S_armoireref15_Was)) (x42 : Int), armoireref15_Forget.l0 a0 a1 d75 x41 x42 = some r → GG H [(1, .int .u64 a1), (5, .slice B39 x41.length c40), (8, .slice A0 a0.length n0), (9, .int .i64 (a0.length : Int)), (10, .int .i64 x42)] (OS 54 K_S_armoireref15_Was B39 c40 x41 :: OS 54 K_S_armoireref15_Was A0 n0 a0 :: Fr) K) ?_ ?_
  · intro d75
    induction d75 with
    | zero => intro B39 c40 x41 x42 h; rw [armoireref15_Forget.l0] at h; cases h
    | succ d75 ih74 =>
      intro B39 c40 x41 x42 h
      rw [armoireref15_Forget.l0] at h
      refine G.seq ?_
      refine G.region (l := [0]) rfl ?_
      refine G.cmp (x42 < (a0.length : Int)) rfl rfl rfl rfl rfl rfl Iff.rfl ?_
      refine G.regionEnd ?_
      refine G.seq ?_
      refine G.condP rfl (fun k107 => ?_) (fun k107 => ?_)
      · replace h := ifT h k107
        refine G.skip ?_
        refine G.seq ?_
        refine G.block ?_
        refine G.seq ?_
        refine G.region (l := [0, 1, 2, 3]) rfl ?_
        obtain ⟨k78, h⟩ := guardS h
        have q77 : x42.toNat < a0.length := by omega
        refine G.indexO (xs := a0) (j := x42) (off := x42.toNat * 2) rfl rfl rfl rfl rfl el51 (r := 1) rfl (by simp) k78 rfl ?_
        refine G.loadA (df := K_S_armoireref15_Was) (y := a0.getD x42.toNat (S_armoireref15_Was.mk 0 [])) rfl rfl rfl rfl ty54 rfl (fun w hs => Rd.osG q77 (Lens.id _ _) hs (j := 1) rfl (o := x42.toNat * 2) (by first | rfl | simp)) ?_
        intro cs79 f80
        obtain ⟨B81, c82, f83, rfl⟩ := K_S_armoireref15_Was.open f80
        refine G.alloc (dk := K_R_armoireref15_Was) (x0 := (R_armoireref15_Was.mk 0 (none, 0, 0))) (z := .agg (([.int .u64 0] : List Value) ++ (([.slice none 0 0] : List Value))).toArray) (cs := ([.int .u64 0] : List Value) ++ (([.slice none 0 0] : List Value))) rfl rfl rfl (by kernel_rfl) rfl (fun H => K_R_armoireref15_Was.mk rfl rfl) ?_
        intro g84
        refine G.store (df := K_R_armoireref15_Was) (y := (R_armoireref15_Was.mk ((a0.getD x42.toNat (S_armoireref15_Was.mk 0 [])).version) (B81, ((a0.getD x42.toNat (S_armoireref15_Was.mk 0 [])).l).length, c82))) (x1 := (R_armoireref15_Was.mk ((a0.getD x42.toNat (S_armoireref15_Was.mk 0 [])).version) (B81, ((a0.getD x42.toNat (S_armoireref15_Was.mk 0 [])).l).length, c82))) rfl rfl rfl rfl (Lens.id _ _) (VR.A (cs := ([.int .u64 ((a0.getD x42.toNat (S_armoireref15_Was.mk 0 [])).version)] : List Value) ++ (([.slice B81 ((a0.getD x42.toNat (S_armoireref15_Was.mk 0 [])).l).length c82] : List Value))) (K_R_armoireref15_Was.mk rfl rfl)) sz54 rfl ?_
        refine G.regionEnd ?_
        refine G.seq ?_
        refine G.region (l := [0, 1, 2, 3]) rfl ?_
        refine G.field (off' := 0) rfl rfl rfl rfl Try.underlying54 rfl sz30 rfl rfl ?_
        refine G.loadI (y := (a0.getD x42.toNat (S_armoireref15_Was.mk 0 [])).version) rfl rfl rfl rfl ty30 (fun w hs => Rd.bk (R_armoireref15_Was.L_version _) hs (j := 0) rfl) ?_
        refine G.move rfl rfl rfl rfl ?_
        refine G.cmp (a1 < ((a0.getD x42.toNat (S_armoireref15_Was.mk 0 [])).version)) rfl rfl rfl rfl rfl rfl Iff.rfl ?_
        refine G.regionEnd ?_
        refine G.condP rfl (fun k106 => ?_) (fun k106 => ?_)
        · replace h := ifT h k106
          refine G.region (l := [0, 1, 2, 3, 4]) rfl ?_
          refine G.move rfl rfl rfl rfl ?_
          refine G.loadA (df := K_R_armoireref15_Was) (y := (R_armoireref15_Was.mk ((a0.getD x42.toNat (S_armoireref15_Was.mk 0 [])).version) (B81, ((a0.getD x42.toNat (S_armoireref15_Was.mk 0 [])).l).length, c82))) rfl rfl rfl rfl ty54r rfl (fun w hs => Rd.bk (Lens.id _ _) hs (j := 0) rfl) ?_
          intro cs98 f99
          obtain rfl := K_R_armoireref15_Was.open f99
          refine G.buildSliceV (df := K_S_armoireref15_Was) (xs := ([(a0.getD x42.toNat (S_armoireref15_Was.mk 0 []))] : List S_armoireref15_Was)) (z0 := (S_armoireref15_Was.mk 0 [])) (vs := [.agg (([.int .u64 ((a0.getD x42.toNat (S_armoireref15_Was.mk 0 [])).version)] : List Value) ++ (([.slice B81 ((a0.getD x42.toNat (S_armoireref15_Was.mk 0 [])).l).length c82] : List Value))).toArray]) rfl rfl rfl el51 (z := .agg (([.int .u64 0] : List Value) ++ (([.slice none 0 0] : List Value))).toArray) (cz := ([.int .u64 0] : List Value) ++ (([.slice none 0 0] : List Value))) (by kernel_rfl) rfl rfl rfl rfl rfl (K_S_armoireref15_Was.mk rfl ⟨none, 0, rfl, SlR.nil _ _⟩) ⟨(VR.A (cs := ([.int .u64 ((a0.getD x42.toNat (S_armoireref15_Was.mk 0 [])).version)] : List Value) ++ (([.slice B81 ((a0.getD x42.toNat (S_armoireref15_Was.mk 0 [])).l).length c82] : List Value))) (K_S_armoireref15_Was.mk rfl ⟨_, _, rfl, f83⟩)), trivial⟩ ?_
          intro B100
          refine G.frontAt 2 rfl ?_
          obtain ⟨k105, h⟩ := guardS h
          refine G.append (df := K_S_armoireref15_Was) (xs := x41) (ys := ([(a0.getD x42.toNat (S_armoireref15_Was.mk 0 []))] : List S_armoireref15_Was)) (z0 := (S_armoireref15_Was.mk 0 [])) (z := .agg (([.int .u64 0] : List Value) ++ (([.slice none 0 0] : List Value))).toArray) (cz := ([.int .u64 0] : List Value) ++ (([.slice none 0 0] : List Value))) rfl rfl rfl rfl (by simp) rfl el51 Try.underlying51 rfl (by kernel_rfl) rfl (K_S_armoireref15_Was.mk rfl ⟨none, 0, rfl, SlR.nil _ _⟩) (fun w hs => SrcR.os hs (j := 1) rfl) ⟨by omega, by omega⟩ ?_
          intro B102 c103
          refine G.frontAt 1 rfl ?_
          refine G.drop ?_
          refine G.assign rfl rfl rfl rfl ?_
          refine G.regionEnd ?_
          refine G.inBlock ?_
          refine G.region (l := [0, 1]) rfl ?_
          refine G.bin (m := x42) (n := 1) (r := wi64 (x42 + 1)) rfl rfl rfl rfl rfl rfl rfl ?_
          refine G.move rfl rfl rfl rfl ?_
          refine G.regionEnd ?_
          refine G.round ?_
          refine G.frontAt 1 rfl ?_
          refine G.drop ?_
          refine G.frontAt 1 rfl ?_
          refine G.frontAt 1 rfl ?_
          refine G.less ?_ (ih74  B102 c103 (x41 ++ ([(a0.getD x42.toNat (S_armoireref15_Was.mk 0 []))] : List S_armoireref15_Was)) (wi64 (x42 + 1)) h)
          exact ⟨rfl, rfl, rfl, rfl, rfl, trivial⟩
        · replace h := ifF h k106
          refine G.skip ?_
          refine G.inBlock ?_
          refine G.region (l := [0, 1]) rfl ?_
          refine G.bin (m := x42) (n := 1) (r := wi64 (x42 + 1)) rfl rfl rfl rfl rfl rfl rfl ?_
          refine G.move rfl rfl rfl rfl ?_
          refine G.regionEnd ?_
          refine G.round ?_
          refine G.drop ?_
          refine G.frontAt 1 rfl ?_
          refine G.frontAt 1 rfl ?_
          refine G.less ?_ (ih74  B39 c40 x41 (wi64 (x42 + 1)) h)
          exact ⟨rfl, rfl, rfl, rfl, rfl, trivial⟩
      · replace h := ifF h k107
        refine G.exit rfl ?_
        refine G.seq ?_
        refine G.region (l := [0, 1]) rfl ?_
        refine G.move rfl rfl rfl rfl ?_
        refine G.assign rfl rfl rfl rfl ?_
        refine G.regionEnd ?_
        refine G.frontAt 1 rfl ?_
        obtain rfl := Option.some.inj h
        exact G.ret1 Try.func27 rfl rfl (fun w hs => ⟨_, _, rfl, ⟨B39, c40, rfl, rfl⟩, hs⟩)
  intro J108
  refine G.osNil 54 K_S_armoireref15_Was ?_
  refine G.same (d := 5) (v := .slice none (([] : List S_armoireref15_Was).length) 0) rfl (by first | (simp; done) | (simp; omega)) ?_
  refine G.frontAt 1 rfl ?_
  refine G.frontAt 1 rfl ?_
  refine G.less ?_ (J108 FUEL  none 0 ([] : List S_armoireref15_Was) 0 h)
  exact ⟨rfl, rfl, rfl, rfl, rfl, trivial⟩
def armoirelaw15_ReadsHistory.reg8_20 (B : List (Nat × Value)) : Reg := ⟨[[], [], [1], [], [0, 2, 3], [], [], [6], [], [8], [5, 7, 9, 4], [4, 10]], [some 77, some 78, some 79, some 80, some 81, some 82, some 83, some 84, some 85, some 86, some 87, some 88], B⟩
theorem armoirelaw15_ReadsHistory.reg8_20_ap (B : List (Nat × Value)) : (armoirelaw15_ReadsHistory.reg8_20 B).apart = true := rfl
set_option maxRecDepth 20000 in
theorem armoirelaw15_ReadsHistory.ok {O : World} {H : PH} {Fr : List Res} (a0 : (List S_armoirelaw15_Act)) (A0 : Option Addr) (n0 : Nat) (F0 : SlR K_S_armoirelaw15_Act H A0 n0 a0) {r : Bool} (h : armoirelaw15_ReadsHistory.f a0 = some r) :
    Ctr Try.prog 8 [.slice A0 a0.length n0] O H (Fr) (fun v H' L' => v = .bool r ∧ Fr = L') := by
  refine Ctr.start (n := 116) Try.func8 rfl Try.ntmps8 rfl rfl ?_
  unfold armoirelaw15_ReadsHistory.f at h
  refine G.seq ?_
  refine G.region (l := [0]) rfl ?_
  refine G.assign rfl rfl rfl rfl ?_
  refine G.regionEnd ?_
  refine G.seq ?_
  refine G.region (l := [0, 1]) rfl ?_
  obtain ⟨t1, e2, h⟩ := bindS h
  refine G.callS rfl rfl rfl rfl call9 (armoirelaw15_live.ok  e2) ?_
  rintro v3 L4 ⟨rfl, rfl⟩
  refine G.assign rfl rfl rfl rfl ?_
  refine G.regionEnd ?_
  refine G.seq ?_
  refine G.region (l := [0, 1]) rfl ?_
  obtain ⟨t5, e6, h⟩ := bindS h
  refine G.callS rfl rfl rfl rfl call14 (reads_NewHistory.ok  e6) ?_
  rintro v7 L8 ⟨g9, B11, c12, rfl, rfl⟩
  refine G.assign rfl rfl rfl rfl ?_
  refine G.regionEnd ?_
  refine G.seq ?_
  refine G.seq ?_
  refine G.region (l := [0, 1, 2, 3, 4, 5, 6]) rfl ?_
  refine G.move rfl rfl rfl rfl ?_
  refine G.eqPtr (a := (some ⟨g9, 0, none⟩)) (b := none) (r := false) rfl rfl rfl rfl rfl Try.underlying32 (by simp) ?_
  refine G.move rfl rfl rfl rfl ?_
  refine G.move rfl rfl rfl rfl ?_
  refine G.len (m := a0.length) rfl rfl rfl rfl Try.underlying29 ?_
  refine G.cmp (60 < (a0.length : Int)) rfl rfl rfl rfl rfl rfl Iff.rfl ?_
  refine G.pickF rfl rfl rfl rfl rfl ?_
  refine G.regionEnd ?_
  refine G.condP rfl (fun k1360 => ?_) (fun k1360 => ?_)
  · replace h := ifT h k1360
    refine G.seq ?_
    refine G.region (l := [0, 1, 2, 3, 4, 5]) rfl ?_
    refine G.move rfl rfl rfl rfl ?_
    refine G.move rfl rfl rfl rfl ?_
    refine G.splitB (d := 22) rfl (fun k17 => ?_) (fun k17 => ?_)
    · replace h := ifT h k17
      refine G.move rfl rfl rfl rfl ?_
      refine G.eqPtrn (a := (some ⟨g9, 0, none⟩)) (b := none) (r := true) rfl rfl rfl rfl rfl Try.underlying32 (by simp) ?_
      refine G.pickT rfl rfl rfl rfl rfl ?_
      refine G.assign rfl rfl rfl rfl ?_
      refine G.regionEnd ?_
      refine G.drop ?_
      refine G.drop ?_
      obtain rfl := Option.some.inj h
      exact G.ret1 Try.func8 rfl rfl (fun w hs => ⟨_, _, _, rfl, (PH.le_refl _), ⟨rfl, rfl⟩, hs⟩)
    · replace h := ifFB h k17
      refine G.unwanted rfl rfl rfl rfl ?_
      refine G.unwanted rfl rfl rfl rfl ?_
      refine G.pickF rfl rfl rfl rfl rfl ?_
      refine G.assign rfl rfl rfl rfl ?_
      refine G.regionEnd ?_
      refine G.drop ?_
      refine G.drop ?_
      obtain rfl := Option.some.inj h
      exact G.ret1 Try.func8 rfl rfl (fun w hs => ⟨_, _, _, rfl, (PH.le_refl _), ⟨rfl, rfl⟩, hs⟩)
  · replace h := ifF h k1360
    refine G.skip ?_
    refine G.seq ?_
    refine G.region (l := [0]) rfl ?_
    refine G.assign rfl rfl rfl rfl ?_
    refine G.regionEnd ?_
    refine G.seq ?_
    refine G.seq ?_
    refine G.region (l := [0, 1, 2]) rfl ?_
    refine G.move rfl rfl rfl rfl ?_
    refine G.len (m := a0.length) rfl rfl rfl rfl Try.underlying29 ?_
    refine G.move rfl rfl rfl rfl ?_
    refine G.regionEnd ?_
    refine G.block ?_
    refine G.loop (fun GG K => ∀ (d913 : Nat) (H464 : PH) (l465 : PH.le H H464) (B467 : Option Addr) (c468 : Nat) (x469 : (List S_reads_was)) (B471 : Option Addr) (c472 : Nat) (x473 : (List S_armoireref15_Was)) (x474 : Int), armoirelaw15_ReadsHistory.l0 a0 t1 d913 x469 x473 x474 = some r → GG H464 [(3, .bool t1), (4, .pointer (some ⟨g9, 0, none⟩)), (5, .slice B471 x473.length c472), (26, .slice A0 a0.length n0), (27, .int .i64 (a0.length : Int)), (28, .int .i64 x474)] (OS 63 K_S_reads_was B467 c468 x469 :: BK 60 K_R_reads_History g9 (R_reads_History.mk (B467, x469.length, c468)) :: OS 54 K_S_armoireref15_Was B471 c472 x473 :: Fr) K) ?_ ?_
    · intro d913
      induction d913 with
      | zero => intro H464 l465 B467 c468 x469 B471 c472 x473 x474 h; rw [armoirelaw15_ReadsHistory.l0] at h; cases h
      | succ d913 ih912 =>
        intro H464 l465 B467 c468 x469 B471 c472 x473 x474 h
        rw [armoirelaw15_ReadsHistory.l0] at h
        refine G.seq ?_
        refine G.region (l := [0]) rfl ?_
        refine G.cmp (x474 < (a0.length : Int)) rfl rfl rfl rfl rfl rfl Iff.rfl ?_
        refine G.regionEnd ?_
        refine G.seq ?_
        refine G.condP rfl (fun k1357 => ?_) (fun k1357 => ?_)
        · replace h := ifT h k1357
          refine G.skip ?_
          refine G.seq ?_
          refine G.block ?_
          refine G.seq ?_
          refine G.region (l := [0, 1, 2, 3]) rfl ?_
          obtain ⟨k917, h⟩ := guardS h
          refine G.indexR (xs := a0) (j := x474) (S_armoirelaw15_Act.mk 0 0 []) rfl rfl rfl rfl rfl el29 (F0.mono l465) k917 ?_
          intro a915 f916
          refine G.loadA (df := K_S_armoirelaw15_Act) (y := a0.getD x474.toNat (S_armoirelaw15_Act.mk 0 0 [])) rfl rfl rfl rfl ty35 rfl (fun w hs => Rd.ro f916 hs) ?_
          intro cs918 f919
          obtain ⟨B920, c921, f922, rfl⟩ := K_S_armoirelaw15_Act.open f919
          refine G.alloc (dk := K_R_armoirelaw15_Act) (x0 := (R_armoirelaw15_Act.mk 0 0 (none, 0, 0))) (z := .agg (([.int .i64 0] : List Value) ++ (([.int .u64 0] : List Value) ++ (([.slice none 0 0] : List Value)))).toArray) (cs := ([.int .i64 0] : List Value) ++ (([.int .u64 0] : List Value) ++ (([.slice none 0 0] : List Value)))) rfl rfl rfl (by kernel_rfl) rfl (fun H => K_R_armoirelaw15_Act.mk rfl rfl rfl) ?_
          intro g923
          refine G.store (df := K_R_armoirelaw15_Act) (y := (R_armoirelaw15_Act.mk ((a0.getD x474.toNat (S_armoirelaw15_Act.mk 0 0 [])).do_) ((a0.getD x474.toNat (S_armoirelaw15_Act.mk 0 0 [])).v) (B920, ((a0.getD x474.toNat (S_armoirelaw15_Act.mk 0 0 [])).l).length, c921))) (x1 := (R_armoirelaw15_Act.mk ((a0.getD x474.toNat (S_armoirelaw15_Act.mk 0 0 [])).do_) ((a0.getD x474.toNat (S_armoirelaw15_Act.mk 0 0 [])).v) (B920, ((a0.getD x474.toNat (S_armoirelaw15_Act.mk 0 0 [])).l).length, c921))) rfl rfl rfl rfl (Lens.id _ _) (VR.A (cs := ([.int .i64 ((a0.getD x474.toNat (S_armoirelaw15_Act.mk 0 0 [])).do_)] : List Value) ++ (([.int .u64 ((a0.getD x474.toNat (S_armoirelaw15_Act.mk 0 0 [])).v)] : List Value) ++ (([.slice B920 ((a0.getD x474.toNat (S_armoirelaw15_Act.mk 0 0 [])).l).length c921] : List Value)))) (K_R_armoirelaw15_Act.mk rfl rfl rfl)) sz35 rfl ?_
          refine G.regionEnd ?_
          refine G.seq ?_
          refine G.seq ?_
          refine G.region (l := [0, 1, 2, 3]) rfl ?_
          refine G.field (off' := 2) rfl rfl rfl rfl Try.underlying35 rfl sz31 rfl rfl ?_
          refine G.loadH (B := B920) (m := ((a0.getD x474.toNat (S_armoirelaw15_Act.mk 0 0 [])).l).length) (c := c921) rfl rfl rfl rfl ty31r (fun w hs => Rd.bk (R_armoirelaw15_Act.L_l _) hs (j := 0) rfl) ?_
          refine G.len (m := ((a0.getD x474.toNat (S_armoirelaw15_Act.mk 0 0 [])).l).length) rfl rfl rfl rfl Try.underlying31 ?_
          refine G.cmp (100 < (((a0.getD x474.toNat (S_armoirelaw15_Act.mk 0 0 [])).l).length : Int)) rfl rfl rfl rfl rfl rfl Iff.rfl ?_
          refine G.regionEnd ?_
          refine G.condP rfl (fun k1356 => ?_) (fun k1356 => ?_)
          · replace h := ifT h k1356
            refine G.exit rfl ?_
            refine G.region (l := [0, 1]) rfl ?_
            refine G.bin (m := x474) (n := 1) (r := wi64 (x474 + 1)) rfl rfl rfl rfl rfl rfl rfl ?_
            refine G.move rfl rfl rfl rfl ?_
            refine G.regionEnd ?_
            refine G.round ?_
            refine G.drop ?_
            refine G.frontAt 2 rfl ?_
            refine G.frontAt 2 rfl ?_
            refine G.frontAt 2 rfl ?_
            refine G.less ?_ (ih912 H464 l465 B467 c468 x469 B471 c472 x473 (wi64 (x474 + 1)) h)
            exact ⟨rfl, rfl, rfl, rfl, rfl, rfl, trivial⟩
          · replace h := ifF h k1356
            refine G.skip ?_
            refine G.seq ?_
            refine G.region (l := [0, 1, 2, 3]) rfl ?_
            refine G.field (off' := 2) rfl rfl rfl rfl Try.underlying35 rfl sz31 rfl rfl ?_
            refine G.loadH (B := B920) (m := ((a0.getD x474.toNat (S_armoirelaw15_Act.mk 0 0 [])).l).length) (c := c921) rfl rfl rfl rfl ty31r (fun w hs => Rd.bk (R_armoirelaw15_Act.L_l _) hs (j := 0) rfl) ?_
            refine G.osNil 24 K_S_api_Touch ?_
            obtain ⟨k929, h⟩ := guardS h
            refine G.append (df := K_S_api_Touch) (xs := ([] : List S_api_Touch)) (ys := (a0.getD x474.toNat (S_armoirelaw15_Act.mk 0 0 [])).l) (z0 := (S_api_Touch.mk 0 0 [] 0 0)) (z := .agg (S_api_Touch.enc (S_api_Touch.mk 0 0 [] 0 0)).toArray) (cz := S_api_Touch.enc (S_api_Touch.mk 0 0 [] 0 0)) rfl rfl rfl rfl rfl rfl el31 Try.underlying31 rfl (by kernel_rfl) rfl (K_S_api_Touch.of (S_api_Touch.mk 0 0 [] 0 0)) (fun w hs => SrcR.ro f922 hs) ⟨by omega, by omega⟩ ?_
            intro B926 c927
            refine G.assign rfl rfl rfl rfl ?_
            refine G.regionEnd ?_
            refine G.seq ?_
            refine G.seq ?_
            refine G.region (l := [0, 1]) rfl ?_
            refine G.field (off' := 0) rfl rfl rfl rfl Try.underlying35 rfl sz3 rfl rfl ?_
            refine G.loadI (y := (a0.getD x474.toNat (S_armoirelaw15_Act.mk 0 0 [])).do_) rfl rfl rfl rfl ty3 (fun w hs => Rd.bk (R_armoirelaw15_Act.L_do_ _) hs (j := 1) rfl) ?_
            refine G.regionEnd ?_
            refine G.block ?_
            refine G.seq ?_
            refine G.region (l := [0, 1]) rfl ?_
            refine G.cmp (((a0.getD x474.toNat (S_armoirelaw15_Act.mk 0 0 [])).do_) = 0) rfl rfl rfl rfl rfl rfl Iff.rfl ?_
            refine G.assign rfl rfl rfl rfl ?_
            refine G.regionEnd ?_
            refine G.tail (fun GG K => ∀ (B1067 : Option Addr) (c1068 : Nat) (x1069 : (List S_reads_was)) (B1071 : Option Addr) (c1072 : Nat) (x1073 : (List S_armoireref15_Was)), armoirelaw15_ReadsHistory.j0 a0 x474 (armoirelaw15_ReadsHistory.l0 a0 t1 d913) x1069 x1073 = some r → GG H464 [(3, .bool t1), (4, .pointer (some ⟨g9, 0, none⟩)), (5, .slice B1071 x1073.length c1072), (8, .slice B926 ((([] : List S_api_Touch) ++ (a0.getD x474.toNat (S_armoirelaw15_Act.mk 0 0 [])).l).length) c927), (26, .slice A0 a0.length n0), (27, .int .i64 (a0.length : Int)), (28, .int .i64 x474)] (OS 63 K_S_reads_was B1067 c1068 x1069 :: BK 60 K_R_reads_History g9 (R_reads_History.mk (B1067, x1069.length, c1068)) :: OS 54 K_S_armoireref15_Was B1071 c1072 x1073 :: OS 24 K_S_api_Touch B926 c927 (([] : List S_api_Touch) ++ (a0.getD x474.toNat (S_armoirelaw15_Act.mk 0 0 [])).l) :: Fr) K) ?_ ?_
            · intro B1067 c1068 x1069 B1071 c1072 x1073 h
              unfold armoirelaw15_ReadsHistory.j0 at h
              refine G.inBlock ?_
              refine G.seq ?_
              refine G.seq ?_
              refine G.region (l := [0, 1, 2]) rfl ?_
              refine G.move rfl rfl rfl rfl ?_
              refine G.len (m := ((([] : List S_api_Touch) ++ (a0.getD x474.toNat (S_armoirelaw15_Act.mk 0 0 [])).l).length)) rfl rfl rfl rfl Try.underlying31 ?_
              refine G.move rfl rfl rfl rfl ?_
              refine G.regionEnd ?_
              refine G.block ?_
              refine G.loop (fun GG K => ∀ (d1104 : Nat) (x1088 : (List S_api_Touch)) (x1089 : Int), armoirelaw15_ReadsHistory.l1 a0 x474 (armoirelaw15_ReadsHistory.l0 a0 t1 d913) x1069 x1073 d1104 x1088 x1089 = some r → GG H464 [(3, .bool t1), (4, .pointer (some ⟨g9, 0, none⟩)), (5, .slice B1071 x1073.length c1072), (8, .slice B926 x1088.length c927), (26, .slice A0 a0.length n0), (27, .int .i64 (a0.length : Int)), (28, .int .i64 x474), (100, .int .i64 (((([] : List S_api_Touch) ++ (a0.getD x474.toNat (S_armoirelaw15_Act.mk 0 0 [])).l).length) : Int)), (101, .int .i64 x1089)] (OS 63 K_S_reads_was B1067 c1068 x1069 :: BK 60 K_R_reads_History g9 (R_reads_History.mk (B1067, x1069.length, c1068)) :: OS 54 K_S_armoireref15_Was B1071 c1072 x1073 :: OS 24 K_S_api_Touch B926 c927 x1088 :: Fr) K) ?_ ?_
              · intro d1104
                induction d1104 with
                | zero => intro x1088 x1089 h; rw [armoirelaw15_ReadsHistory.l1] at h; cases h
                | succ d1104 ih1103 =>
                  intro x1088 x1089 h
                  rw [armoirelaw15_ReadsHistory.l1] at h
                  refine G.seq ?_
                  refine G.region (l := [0]) rfl ?_
                  refine G.cmp (x1089 < (((([] : List S_api_Touch) ++ (a0.getD x474.toNat (S_armoirelaw15_Act.mk 0 0 [])).l).length) : Int)) rfl rfl rfl rfl rfl rfl Iff.rfl ?_
                  refine G.regionEnd ?_
                  refine G.seq ?_
                  refine G.condP rfl (fun k1118 => ?_) (fun k1118 => ?_)
                  · replace h := ifT h k1118
                    refine G.skip ?_
                    refine G.seq ?_
                    refine G.block ?_
                    refine G.seq ?_
                    refine G.region (l := [0, 1]) rfl ?_
                    refine G.move rfl rfl rfl rfl ?_
                    refine G.assign rfl rfl rfl rfl ?_
                    refine G.regionEnd ?_
                    refine G.region (l := [0, 1, 2, 3, 4]) rfl ?_
                    refine G.move rfl rfl rfl rfl ?_
                    refine G.move rfl rfl rfl rfl ?_
                    obtain ⟨k1112, h⟩ := guardS h
                    have q1111 : x1089.toNat < x1088.length := by omega
                    refine G.indexO (xs := x1088) (j := x1089) (off := x1089.toNat * 5) rfl rfl rfl rfl rfl el31 (r := 3) rfl (by simp) k1112 rfl ?_
                    refine G.fieldO (off' := x1089.toNat * 5 + 1) rfl rfl rfl rfl Try.underlying24 rfl sz22 rfl rfl ?_
                    refine G.frontAt 3 rfl ?_
                    refine G.storeO (df := (Kd.int .u32)) (y := 0) (hj := q1111) (xs' := x1088.set x1089.toNat (S_api_Touch.mk ((x1088.getD x1089.toNat (S_api_Touch.mk 0 0 [] 0 0)).kind) 0 ((x1088.getD x1089.toNat (S_api_Touch.mk 0 0 [] 0 0)).name) ((x1088.getD x1089.toNat (S_api_Touch.mk 0 0 [] 0 0)).lo) ((x1088.getD x1089.toNat (S_api_Touch.mk 0 0 [] 0 0)).hi))) rfl rfl rfl rfl (S_api_Touch.L_ino _) (by first | rfl | simp) ⟨([.int .u32 0] : List Value), rfl, rfl⟩ sz22 (by simp [List.getD, q1111]) ?_
                    refine G.regionEnd ?_
                    refine G.inBlock ?_
                    refine G.region (l := [0, 1]) rfl ?_
                    refine G.bin (m := x1089) (n := 1) (r := wi64 (x1089 + 1)) rfl rfl rfl rfl rfl rfl rfl ?_
                    refine G.move rfl rfl rfl rfl ?_
                    refine G.regionEnd ?_
                    refine G.round ?_
                    refine G.same (d := 8) (v := .slice B926 ((x1088.set x1089.toNat (S_api_Touch.mk ((x1088.getD x1089.toNat (S_api_Touch.mk 0 0 [] 0 0)).kind) 0 ((x1088.getD x1089.toNat (S_api_Touch.mk 0 0 [] 0 0)).name) ((x1088.getD x1089.toNat (S_api_Touch.mk 0 0 [] 0 0)).lo) ((x1088.getD x1089.toNat (S_api_Touch.mk 0 0 [] 0 0)).hi))).length) c927) rfl (by first | (simp; done) | (simp; omega)) ?_
                    refine G.frontAt 3 rfl ?_
                    refine G.frontAt 3 rfl ?_
                    refine G.frontAt 3 rfl ?_
                    refine G.less ?_ (ih1103  (x1088.set x1089.toNat (S_api_Touch.mk ((x1088.getD x1089.toNat (S_api_Touch.mk 0 0 [] 0 0)).kind) 0 ((x1088.getD x1089.toNat (S_api_Touch.mk 0 0 [] 0 0)).name) ((x1088.getD x1089.toNat (S_api_Touch.mk 0 0 [] 0 0)).lo) ((x1088.getD x1089.toNat (S_api_Touch.mk 0 0 [] 0 0)).hi))) (wi64 (x1089 + 1)) h)
                    exact ⟨rfl, rfl, rfl, rfl, rfl, rfl, rfl, rfl, rfl, trivial⟩
                  · replace h := ifF h k1118
                    refine G.exit rfl ?_
                    refine G.seq ?_
                    refine G.region (l := [0, 1, 2, 3, 4]) rfl ?_
                    refine G.move rfl rfl rfl rfl ?_
                    refine G.frontAt 1 rfl ?_
                    obtain ⟨t1113, e1114, h⟩ := bindS h
                    refine G.callS rfl rfl rfl rfl call28 (reads_History_Len.ok (S_reads_History.mk x1069) g9 B1067 c1068 e1114) ?_
                    rintro v1115 L1116 ⟨rfl, rfl⟩
                    refine G.move rfl rfl rfl rfl ?_
                    refine G.len (m := x1073.length) rfl rfl rfl rfl Try.underlying51 ?_
                    refine G.cmp (t1113 ≠ (x1073.length : Int)) rfl rfl rfl rfl rfl rfl Iff.rfl ?_
                    refine G.regionEnd ?_
                    refine G.condP rfl (fun k1117 => ?_) (fun k1117 => ?_)
                    · replace h := ifT h k1117
                      refine G.seq ?_
                      refine G.region (l := [0]) rfl ?_
                      refine G.assign rfl rfl rfl rfl ?_
                      refine G.regionEnd ?_
                      refine G.drop ?_
                      refine G.drop ?_
                      refine G.drop ?_
                      refine G.drop ?_
                      obtain rfl := Option.some.inj h
                      exact G.ret1 Try.func8 rfl rfl (fun w hs => ⟨_, _, _, rfl, l465, ⟨rfl, rfl⟩, hs⟩)
                    · replace h := ifF h k1117
                      refine G.skip ?_
                      refine G.inBlock ?_
                      refine G.region (l := [0, 1]) rfl ?_
                      refine G.bin (m := x474) (n := 1) (r := wi64 (x474 + 1)) rfl rfl rfl rfl rfl rfl rfl ?_
                      refine G.move rfl rfl rfl rfl ?_
                      refine G.regionEnd ?_
                      refine G.round ?_
                      refine G.frontAt 3 rfl ?_
                      refine G.drop ?_
                      refine G.frontAt 2 rfl ?_
                      refine G.frontAt 1 rfl ?_
                      refine G.frontAt 2 rfl ?_
                      refine G.less ?_ (ih912 H464 l465 B1067 c1068 x1069 B1071 c1072 x1073 (wi64 (x474 + 1)) h)
                      exact ⟨rfl, rfl, rfl, rfl, rfl, rfl, trivial⟩
              intro J1119
              refine G.frontAt 3 rfl ?_
              refine G.frontAt 3 rfl ?_
              refine G.frontAt 3 rfl ?_
              refine G.frontAt 3 rfl ?_
              refine G.less ?_ (J1119 FUEL  (([] : List S_api_Touch) ++ (a0.getD x474.toNat (S_armoirelaw15_Act.mk 0 0 [])).l) 0 h)
              exact ⟨rfl, rfl, rfl, rfl, rfl, rfl, rfl, rfl, rfl, trivial⟩
            intro J1120
            refine G.condP rfl (fun k1355 => ?_) (fun k1355 => ?_)
            · replace h := ifT h k1355
              refine G.seq ?_
              refine G.region (l := [0, 1, 2, 3, 4, 5]) rfl ?_
              refine G.move rfl rfl rfl rfl ?_
              refine G.field (off' := 1) rfl rfl rfl rfl Try.underlying35 rfl sz30 rfl rfl ?_
              refine G.loadI (y := (a0.getD x474.toNat (S_armoirelaw15_Act.mk 0 0 [])).v) rfl rfl rfl rfl ty30 (fun w hs => Rd.bk (R_armoirelaw15_Act.L_v _) hs (j := 1) rfl) ?_
              refine G.move rfl rfl rfl rfl ?_
              refine G.frontAt 2 rfl ?_
              refine G.frontAt 3 rfl ?_
              obtain ⟨t1121, e1122, h⟩ := bindS h
              refine G.call rfl rfl rfl rfl call15 (reads_History_Add_s2.ok (S_reads_History.mk x469) g9 B467 c468 ((a0.getD x474.toNat (S_armoirelaw15_Act.mk 0 0 [])).v) (([] : List S_api_Touch) ++ (a0.getD x474.toNat (S_armoirelaw15_Act.mk 0 0 [])).l) B926 c927 e1122) ?_
              rintro v1123 H1125 L1124 l1126 ⟨B1127, c1128, rfl, rfl⟩
              refine G.assign rfl rfl rfl rfl ?_
              refine G.regionEnd ?_
              refine G.seq ?_
              refine G.region (l := [0, 1, 2, 3, 4, 5, 6]) rfl ?_
              refine G.move rfl rfl rfl rfl ?_
              refine G.field (off' := 1) rfl rfl rfl rfl Try.underlying35 rfl sz30 rfl rfl ?_
              refine G.loadI (y := (a0.getD x474.toNat (S_armoirelaw15_Act.mk 0 0 [])).v) rfl rfl rfl rfl ty30 (fun w hs => Rd.bk (R_armoirelaw15_Act.L_v _) hs (j := 3) rfl) ?_
              refine G.field (off' := 2) rfl rfl rfl rfl Try.underlying35 rfl sz31 rfl rfl ?_
              refine G.loadH (B := B920) (m := ((a0.getD x474.toNat (S_armoirelaw15_Act.mk 0 0 [])).l).length) (c := c921) rfl rfl rfl rfl ty31r (fun w hs => Rd.bk (R_armoirelaw15_Act.L_l _) hs (j := 3) rfl) ?_
              obtain ⟨t1130, e1131, h⟩ := bindS h
              refine G.callBO (m := 0) rfl rfl rfl rfl call24 rfl (fun H1 hle hsl => (armoireref15_Good.ok x473 B471 c472 (hsl (j := 4) rfl) ((a0.getD x474.toNat (S_armoirelaw15_Act.mk 0 0 [])).v) ((a0.getD x474.toNat (S_armoirelaw15_Act.mk 0 0 [])).l) B920 c921 ((f922.mono l1126).mono hle) e1131).ctr) (by rintro v H' L' ⟨rfl, rfl⟩; exact Free.nil) ?_
              rintro v1132 L1133 ⟨_, ⟨rfl, rfl⟩⟩
              refine G.assign rfl rfl rfl rfl ?_
              refine G.regionEnd ?_
              refine G.seq ?_
              refine G.seq ?_
              refine G.region (l := [0]) rfl ?_
              refine G.move rfl rfl rfl rfl ?_
              refine G.regionEnd ?_
              refine G.tail (fun GG K => ∀ (B1141 : Option Addr) (c1142 : Nat) (x1143 : (List S_armoireref15_Was)), armoirelaw15_ReadsHistory.j1 a0 x474 (armoirelaw15_ReadsHistory.l0 a0 t1 d913) t1121 t1130 x1143 = some r → GG H1125 [(3, .bool t1), (4, .pointer (some ⟨g9, 0, none⟩)), (5, .slice B1141 x1143.length c1142), (8, .slice B926 ((([] : List S_api_Touch) ++ (a0.getD x474.toNat (S_armoirelaw15_Act.mk 0 0 [])).l).length) c927), (9, .int .i64 t1121.1), (10, .bool t1130), (26, .slice A0 a0.length n0), (27, .int .i64 (a0.length : Int)), (28, .int .i64 x474)] (OS 63 K_S_reads_was B1127 c1128 t1121.2.l :: BK 60 K_R_reads_History g9 (R_reads_History.mk (B1127, t1121.2.l.length, c1128)) :: OS 54 K_S_armoireref15_Was B1141 c1142 x1143 :: OS 24 K_S_api_Touch B926 c927 (([] : List S_api_Touch) ++ (a0.getD x474.toNat (S_armoirelaw15_Act.mk 0 0 [])).l) :: Fr) K) ?_ ?_
              · intro B1141 c1142 x1143 h
                unfold armoirelaw15_ReadsHistory.j1 at h
                refine G.seq ?_
                refine G.region (l := [0, 1, 2, 3, 4, 5, 6, 7, 8, 9, 10, 11]) rfl ?_
                refine G.move rfl rfl rfl rfl ?_
                refine G.cmp (t1121.1 = 0) rfl rfl rfl rfl rfl rfl Iff.rfl ?_
                refine G.move rfl rfl rfl rfl ?_
                refine G.cmpBn (a := (decide (t1121.1 = 0))) (b := t1130) (r := ((decide (t1121.1 = 0)) != t1130)) rfl rfl rfl rfl rfl Try.underlying4 rfl ?_
                refine G.move rfl rfl rfl rfl ?_
                refine G.splitB (d := 67) rfl (fun k1239 => ?_) (fun k1239 => ?_)
                · replace h := ifT h k1239
                  refine G.unwanted rfl rfl rfl rfl ?_
                  refine G.unwanted rfl rfl rfl rfl ?_
                  refine G.unwanted rfl rfl rfl rfl ?_
                  refine G.unwanted rfl rfl rfl rfl ?_
                  refine G.unwanted rfl rfl rfl rfl ?_
                  refine G.unwanted rfl rfl rfl rfl ?_
                  refine G.pickT rfl rfl rfl rfl rfl ?_
                  refine G.regionEnd ?_
                  refine G.condT rfl ?_
                  refine G.seq ?_
                  refine G.region (l := [0]) rfl ?_
                  refine G.assign rfl rfl rfl rfl ?_
                  refine G.regionEnd ?_
                  refine G.drop ?_
                  refine G.drop ?_
                  refine G.drop ?_
                  refine G.drop ?_
                  obtain rfl := Option.some.inj h
                  exact G.ret1 Try.func8 rfl rfl (fun w hs => ⟨_, _, _, rfl, (PH.le_trans l465 l1126), ⟨rfl, rfl⟩, hs⟩)
                · replace h := ifFB h k1239
                  refine G.move rfl rfl rfl rfl ?_
                  refine G.not rfl rfl rfl rfl rfl ?_
                  refine G.move rfl rfl rfl rfl ?_
                  refine G.splitB (d := 70) rfl (fun k1238 => ?_) (fun k1238 => ?_)
                  · replace h := ifT h k1238
                    refine G.move rfl rfl rfl rfl ?_
                    refine G.cmp (t1121.1 ≠ 1) rfl rfl rfl rfl rfl rfl Iff.rfl ?_
                    refine G.pickT rfl rfl rfl rfl rfl ?_
                    refine G.pickF rfl rfl rfl rfl rfl ?_
                    refine G.regionEnd ?_
                    refine G.condP rfl (fun k1191 => ?_) (fun k1191 => ?_)
                    · replace h := ifT h k1191
                      refine G.seq ?_
                      refine G.region (l := [0]) rfl ?_
                      refine G.assign rfl rfl rfl rfl ?_
                      refine G.regionEnd ?_
                      refine G.drop ?_
                      refine G.drop ?_
                      refine G.drop ?_
                      refine G.drop ?_
                      obtain rfl := Option.some.inj h
                      exact G.ret1 Try.func8 rfl rfl (fun w hs => ⟨_, _, _, rfl, (PH.le_trans l465 l1126), ⟨rfl, rfl⟩, hs⟩)
                    · replace h := ifF h k1191
                      refine G.skip ?_
                      refine G.inBlock ?_
                      refine G.seq ?_
                      refine G.seq ?_
                      refine G.region (l := [0, 1, 2]) rfl ?_
                      refine G.move rfl rfl rfl rfl ?_
                      refine G.len (m := ((([] : List S_api_Touch) ++ (a0.getD x474.toNat (S_armoirelaw15_Act.mk 0 0 [])).l).length)) rfl rfl rfl rfl Try.underlying31 ?_
                      refine G.move rfl rfl rfl rfl ?_
                      refine G.regionEnd ?_
                      refine G.block ?_
                      refine G.loop (fun GG K => ∀ (d1175 : Nat) (x1159 : (List S_api_Touch)) (x1160 : Int), armoirelaw15_ReadsHistory.l2 a0 x474 (armoirelaw15_ReadsHistory.l0 a0 t1 d913) t1121 x1143 d1175 x1159 x1160 = some r → GG H1125 [(3, .bool t1), (4, .pointer (some ⟨g9, 0, none⟩)), (5, .slice B1141 x1143.length c1142), (8, .slice B926 x1159.length c927), (26, .slice A0 a0.length n0), (27, .int .i64 (a0.length : Int)), (28, .int .i64 x474), (68, .bool t1130), (69, .bool (!t1130)), (70, .bool true), (71, .int .i64 t1121.1), (72, .bool (decide (t1121.1 ≠ 1))), (73, .bool (decide (t1121.1 ≠ 1))), (100, .int .i64 (((([] : List S_api_Touch) ++ (a0.getD x474.toNat (S_armoirelaw15_Act.mk 0 0 [])).l).length) : Int)), (101, .int .i64 x1160)] (OS 63 K_S_reads_was B1127 c1128 t1121.2.l :: BK 60 K_R_reads_History g9 (R_reads_History.mk (B1127, t1121.2.l.length, c1128)) :: OS 54 K_S_armoireref15_Was B1141 c1142 x1143 :: OS 24 K_S_api_Touch B926 c927 x1159 :: Fr) K) ?_ ?_
                      · intro d1175
                        induction d1175 with
                        | zero => intro x1159 x1160 h; rw [armoirelaw15_ReadsHistory.l2] at h; cases h
                        | succ d1175 ih1174 =>
                          intro x1159 x1160 h
                          rw [armoirelaw15_ReadsHistory.l2] at h
                          refine G.seq ?_
                          refine G.region (l := [0]) rfl ?_
                          refine G.cmp (x1160 < (((([] : List S_api_Touch) ++ (a0.getD x474.toNat (S_armoirelaw15_Act.mk 0 0 [])).l).length) : Int)) rfl rfl rfl rfl rfl rfl Iff.rfl ?_
                          refine G.regionEnd ?_
                          refine G.seq ?_
                          refine G.condP rfl (fun k1189 => ?_) (fun k1189 => ?_)
                          · replace h := ifT h k1189
                            refine G.skip ?_
                            refine G.seq ?_
                            refine G.block ?_
                            refine G.seq ?_
                            refine G.region (l := [0, 1]) rfl ?_
                            refine G.move rfl rfl rfl rfl ?_
                            refine G.assign rfl rfl rfl rfl ?_
                            refine G.regionEnd ?_
                            refine G.region (l := [0, 1, 2, 3, 4]) rfl ?_
                            refine G.move rfl rfl rfl rfl ?_
                            refine G.move rfl rfl rfl rfl ?_
                            obtain ⟨k1183, h⟩ := guardS h
                            have q1182 : x1160.toNat < x1159.length := by omega
                            refine G.indexO (xs := x1159) (j := x1160) (off := x1160.toNat * 5) rfl rfl rfl rfl rfl el31 (r := 3) rfl (by simp) k1183 rfl ?_
                            refine G.fieldO (off' := x1160.toNat * 5 + 1) rfl rfl rfl rfl Try.underlying24 rfl sz22 rfl rfl ?_
                            refine G.frontAt 3 rfl ?_
                            refine G.storeO (df := (Kd.int .u32)) (y := 0) (hj := q1182) (xs' := x1159.set x1160.toNat (S_api_Touch.mk ((x1159.getD x1160.toNat (S_api_Touch.mk 0 0 [] 0 0)).kind) 0 ((x1159.getD x1160.toNat (S_api_Touch.mk 0 0 [] 0 0)).name) ((x1159.getD x1160.toNat (S_api_Touch.mk 0 0 [] 0 0)).lo) ((x1159.getD x1160.toNat (S_api_Touch.mk 0 0 [] 0 0)).hi))) rfl rfl rfl rfl (S_api_Touch.L_ino _) (by first | rfl | simp) ⟨([.int .u32 0] : List Value), rfl, rfl⟩ sz22 (by simp [List.getD, q1182]) ?_
                            refine G.regionEnd ?_
                            refine G.inBlock ?_
                            refine G.region (l := [0, 1]) rfl ?_
                            refine G.bin (m := x1160) (n := 1) (r := wi64 (x1160 + 1)) rfl rfl rfl rfl rfl rfl rfl ?_
                            refine G.move rfl rfl rfl rfl ?_
                            refine G.regionEnd ?_
                            refine G.round ?_
                            refine G.same (d := 8) (v := .slice B926 ((x1159.set x1160.toNat (S_api_Touch.mk ((x1159.getD x1160.toNat (S_api_Touch.mk 0 0 [] 0 0)).kind) 0 ((x1159.getD x1160.toNat (S_api_Touch.mk 0 0 [] 0 0)).name) ((x1159.getD x1160.toNat (S_api_Touch.mk 0 0 [] 0 0)).lo) ((x1159.getD x1160.toNat (S_api_Touch.mk 0 0 [] 0 0)).hi))).length) c927) rfl (by first | (simp; done) | (simp; omega)) ?_
                            refine G.frontAt 3 rfl ?_
                            refine G.frontAt 3 rfl ?_
                            refine G.frontAt 3 rfl ?_
                            refine G.less ?_ (ih1174  (x1159.set x1160.toNat (S_api_Touch.mk ((x1159.getD x1160.toNat (S_api_Touch.mk 0 0 [] 0 0)).kind) 0 ((x1159.getD x1160.toNat (S_api_Touch.mk 0 0 [] 0 0)).name) ((x1159.getD x1160.toNat (S_api_Touch.mk 0 0 [] 0 0)).lo) ((x1159.getD x1160.toNat (S_api_Touch.mk 0 0 [] 0 0)).hi))) (wi64 (x1160 + 1)) h)
                            exact ⟨rfl, rfl, rfl, rfl, rfl, rfl, rfl, rfl, rfl, rfl, rfl, rfl, rfl, rfl, rfl, trivial⟩
                          · replace h := ifF h k1189
                            refine G.exit rfl ?_
                            refine G.seq ?_
                            refine G.region (l := [0, 1, 2, 3, 4]) rfl ?_
                            refine G.move rfl rfl rfl rfl ?_
                            refine G.frontAt 1 rfl ?_
                            obtain ⟨t1184, e1185, h⟩ := bindS h
                            refine G.callS rfl rfl rfl rfl call28 (reads_History_Len.ok t1121.2 g9 B1127 c1128 e1185) ?_
                            rintro v1186 L1187 ⟨rfl, rfl⟩
                            refine G.move rfl rfl rfl rfl ?_
                            refine G.len (m := x1143.length) rfl rfl rfl rfl Try.underlying51 ?_
                            refine G.cmp (t1184 ≠ (x1143.length : Int)) rfl rfl rfl rfl rfl rfl Iff.rfl ?_
                            refine G.regionEnd ?_
                            refine G.condP rfl (fun k1188 => ?_) (fun k1188 => ?_)
                            · replace h := ifT h k1188
                              refine G.seq ?_
                              refine G.region (l := [0]) rfl ?_
                              refine G.assign rfl rfl rfl rfl ?_
                              refine G.regionEnd ?_
                              refine G.drop ?_
                              refine G.drop ?_
                              refine G.drop ?_
                              refine G.drop ?_
                              obtain rfl := Option.some.inj h
                              exact G.ret1 Try.func8 rfl rfl (fun w hs => ⟨_, _, _, rfl, (PH.le_trans l465 l1126), ⟨rfl, rfl⟩, hs⟩)
                            · replace h := ifF h k1188
                              refine G.skip ?_
                              refine G.inBlock ?_
                              refine G.region (l := [0, 1]) rfl ?_
                              refine G.bin (m := x474) (n := 1) (r := wi64 (x474 + 1)) rfl rfl rfl rfl rfl rfl rfl ?_
                              refine G.move rfl rfl rfl rfl ?_
                              refine G.regionEnd ?_
                              refine G.round ?_
                              refine G.frontAt 3 rfl ?_
                              refine G.drop ?_
                              refine G.frontAt 2 rfl ?_
                              refine G.frontAt 1 rfl ?_
                              refine G.frontAt 2 rfl ?_
                              refine G.less ?_ (ih912 H1125 (PH.le_trans l465 l1126) B1127 c1128 t1121.2.l B1141 c1142 x1143 (wi64 (x474 + 1)) h)
                              exact ⟨rfl, rfl, rfl, rfl, rfl, rfl, trivial⟩
                      intro J1190
                      refine G.frontAt 3 rfl ?_
                      refine G.frontAt 3 rfl ?_
                      refine G.frontAt 3 rfl ?_
                      refine G.frontAt 3 rfl ?_
                      refine G.less ?_ (J1190 FUEL  (([] : List S_api_Touch) ++ (a0.getD x474.toNat (S_armoirelaw15_Act.mk 0 0 [])).l) 0 h)
                      exact ⟨rfl, rfl, rfl, rfl, rfl, rfl, rfl, rfl, rfl, rfl, rfl, rfl, rfl, rfl, rfl, trivial⟩
                  · replace h := ifFB h k1238
                    refine G.unwanted rfl rfl rfl rfl ?_
                    refine G.unwanted rfl rfl rfl rfl ?_
                    refine G.pickF rfl rfl rfl rfl rfl ?_
                    refine G.pickF rfl rfl rfl rfl rfl ?_
                    refine G.regionEnd ?_
                    refine G.condF rfl ?_
                    refine G.skip ?_
                    refine G.inBlock ?_
                    refine G.seq ?_
                    refine G.seq ?_
                    refine G.region (l := [0, 1, 2]) rfl ?_
                    refine G.move rfl rfl rfl rfl ?_
                    refine G.len (m := ((([] : List S_api_Touch) ++ (a0.getD x474.toNat (S_armoirelaw15_Act.mk 0 0 [])).l).length)) rfl rfl rfl rfl Try.underlying31 ?_
                    refine G.move rfl rfl rfl rfl ?_
                    refine G.regionEnd ?_
                    refine G.block ?_
                    refine G.loop (fun GG K => ∀ (d1222 : Nat) (x1206 : (List S_api_Touch)) (x1207 : Int), armoirelaw15_ReadsHistory.l3 a0 x474 (armoirelaw15_ReadsHistory.l0 a0 t1 d913) t1121 x1143 d1222 x1206 x1207 = some r → GG H1125 [(3, .bool t1), (4, .pointer (some ⟨g9, 0, none⟩)), (5, .slice B1141 x1143.length c1142), (8, .slice B926 x1206.length c927), (26, .slice A0 a0.length n0), (27, .int .i64 (a0.length : Int)), (28, .int .i64 x474), (68, .bool t1130), (69, .bool (!t1130)), (70, .bool false), (71, undef), (72, undef), (73, .bool false), (100, .int .i64 (((([] : List S_api_Touch) ++ (a0.getD x474.toNat (S_armoirelaw15_Act.mk 0 0 [])).l).length) : Int)), (101, .int .i64 x1207)] (OS 63 K_S_reads_was B1127 c1128 t1121.2.l :: BK 60 K_R_reads_History g9 (R_reads_History.mk (B1127, t1121.2.l.length, c1128)) :: OS 54 K_S_armoireref15_Was B1141 c1142 x1143 :: OS 24 K_S_api_Touch B926 c927 x1206 :: Fr) K) ?_ ?_
                    · intro d1222
                      induction d1222 with
                      | zero => intro x1206 x1207 h; rw [armoirelaw15_ReadsHistory.l3] at h; cases h
                      | succ d1222 ih1221 =>
                        intro x1206 x1207 h
                        rw [armoirelaw15_ReadsHistory.l3] at h
                        refine G.seq ?_
                        refine G.region (l := [0]) rfl ?_
                        refine G.cmp (x1207 < (((([] : List S_api_Touch) ++ (a0.getD x474.toNat (S_armoirelaw15_Act.mk 0 0 [])).l).length) : Int)) rfl rfl rfl rfl rfl rfl Iff.rfl ?_
                        refine G.regionEnd ?_
                        refine G.seq ?_
                        refine G.condP rfl (fun k1236 => ?_) (fun k1236 => ?_)
                        · replace h := ifT h k1236
                          refine G.skip ?_
                          refine G.seq ?_
                          refine G.block ?_
                          refine G.seq ?_
                          refine G.region (l := [0, 1]) rfl ?_
                          refine G.move rfl rfl rfl rfl ?_
                          refine G.assign rfl rfl rfl rfl ?_
                          refine G.regionEnd ?_
                          refine G.region (l := [0, 1, 2, 3, 4]) rfl ?_
                          refine G.move rfl rfl rfl rfl ?_
                          refine G.move rfl rfl rfl rfl ?_
                          obtain ⟨k1230, h⟩ := guardS h
                          have q1229 : x1207.toNat < x1206.length := by omega
                          refine G.indexO (xs := x1206) (j := x1207) (off := x1207.toNat * 5) rfl rfl rfl rfl rfl el31 (r := 3) rfl (by simp) k1230 rfl ?_
                          refine G.fieldO (off' := x1207.toNat * 5 + 1) rfl rfl rfl rfl Try.underlying24 rfl sz22 rfl rfl ?_
                          refine G.frontAt 3 rfl ?_
                          refine G.storeO (df := (Kd.int .u32)) (y := 0) (hj := q1229) (xs' := x1206.set x1207.toNat (S_api_Touch.mk ((x1206.getD x1207.toNat (S_api_Touch.mk 0 0 [] 0 0)).kind) 0 ((x1206.getD x1207.toNat (S_api_Touch.mk 0 0 [] 0 0)).name) ((x1206.getD x1207.toNat (S_api_Touch.mk 0 0 [] 0 0)).lo) ((x1206.getD x1207.toNat (S_api_Touch.mk 0 0 [] 0 0)).hi))) rfl rfl rfl rfl (S_api_Touch.L_ino _) (by first | rfl | simp) ⟨([.int .u32 0] : List Value), rfl, rfl⟩ sz22 (by simp [List.getD, q1229]) ?_
                          refine G.regionEnd ?_
                          refine G.inBlock ?_
                          refine G.region (l := [0, 1]) rfl ?_
                          refine G.bin (m := x1207) (n := 1) (r := wi64 (x1207 + 1)) rfl rfl rfl rfl rfl rfl rfl ?_
                          refine G.move rfl rfl rfl rfl ?_
                          refine G.regionEnd ?_
                          refine G.round ?_
                          refine G.same (d := 8) (v := .slice B926 ((x1206.set x1207.toNat (S_api_Touch.mk ((x1206.getD x1207.toNat (S_api_Touch.mk 0 0 [] 0 0)).kind) 0 ((x1206.getD x1207.toNat (S_api_Touch.mk 0 0 [] 0 0)).name) ((x1206.getD x1207.toNat (S_api_Touch.mk 0 0 [] 0 0)).lo) ((x1206.getD x1207.toNat (S_api_Touch.mk 0 0 [] 0 0)).hi))).length) c927) rfl (by first | (simp; done) | (simp; omega)) ?_
                          refine G.frontAt 3 rfl ?_
                          refine G.frontAt 3 rfl ?_
                          refine G.frontAt 3 rfl ?_
                          refine G.less ?_ (ih1221  (x1206.set x1207.toNat (S_api_Touch.mk ((x1206.getD x1207.toNat (S_api_Touch.mk 0 0 [] 0 0)).kind) 0 ((x1206.getD x1207.toNat (S_api_Touch.mk 0 0 [] 0 0)).name) ((x1206.getD x1207.toNat (S_api_Touch.mk 0 0 [] 0 0)).lo) ((x1206.getD x1207.toNat (S_api_Touch.mk 0 0 [] 0 0)).hi))) (wi64 (x1207 + 1)) h)
                          exact ⟨rfl, rfl, rfl, rfl, rfl, rfl, rfl, rfl, rfl, rfl, rfl, rfl, rfl, rfl, rfl, trivial⟩
                        · replace h := ifF h k1236
                          refine G.exit rfl ?_
                          refine G.seq ?_
                          refine G.region (l := [0, 1, 2, 3, 4]) rfl ?_
                          refine G.move rfl rfl rfl rfl ?_
                          refine G.frontAt 1 rfl ?_
                          obtain ⟨t1231, e1232, h⟩ := bindS h
                          refine G.callS rfl rfl rfl rfl call28 (reads_History_Len.ok t1121.2 g9 B1127 c1128 e1232) ?_
                          rintro v1233 L1234 ⟨rfl, rfl⟩
                          refine G.move rfl rfl rfl rfl ?_
                          refine G.len (m := x1143.length) rfl rfl rfl rfl Try.underlying51 ?_
                          refine G.cmp (t1231 ≠ (x1143.length : Int)) rfl rfl rfl rfl rfl rfl Iff.rfl ?_
                          refine G.regionEnd ?_
                          refine G.condP rfl (fun k1235 => ?_) (fun k1235 => ?_)
                          · replace h := ifT h k1235
                            refine G.seq ?_
                            refine G.region (l := [0]) rfl ?_
                            refine G.assign rfl rfl rfl rfl ?_
                            refine G.regionEnd ?_
                            refine G.drop ?_
                            refine G.drop ?_
                            refine G.drop ?_
                            refine G.drop ?_
                            obtain rfl := Option.some.inj h
                            exact G.ret1 Try.func8 rfl rfl (fun w hs => ⟨_, _, _, rfl, (PH.le_trans l465 l1126), ⟨rfl, rfl⟩, hs⟩)
                          · replace h := ifF h k1235
                            refine G.skip ?_
                            refine G.inBlock ?_
                            refine G.region (l := [0, 1]) rfl ?_
                            refine G.bin (m := x474) (n := 1) (r := wi64 (x474 + 1)) rfl rfl rfl rfl rfl rfl rfl ?_
                            refine G.move rfl rfl rfl rfl ?_
                            refine G.regionEnd ?_
                            refine G.round ?_
                            refine G.frontAt 3 rfl ?_
                            refine G.drop ?_
                            refine G.frontAt 2 rfl ?_
                            refine G.frontAt 1 rfl ?_
                            refine G.frontAt 2 rfl ?_
                            refine G.less ?_ (ih912 H1125 (PH.le_trans l465 l1126) B1127 c1128 t1121.2.l B1141 c1142 x1143 (wi64 (x474 + 1)) h)
                            exact ⟨rfl, rfl, rfl, rfl, rfl, rfl, trivial⟩
                    intro J1237
                    refine G.frontAt 3 rfl ?_
                    refine G.frontAt 3 rfl ?_
                    refine G.frontAt 3 rfl ?_
                    refine G.frontAt 3 rfl ?_
                    refine G.less ?_ (J1237 FUEL  (([] : List S_api_Touch) ++ (a0.getD x474.toNat (S_armoirelaw15_Act.mk 0 0 [])).l) 0 h)
                    exact ⟨rfl, rfl, rfl, rfl, rfl, rfl, rfl, rfl, rfl, rfl, rfl, rfl, rfl, rfl, rfl, trivial⟩
              intro J1240
              refine G.cond rfl (fun k1247 => ?_) (fun k1247 => ?_)
              · replace h := ifT h k1247
                refine G.region (l := [0, 1, 2, 3, 4, 5, 6, 7, 8]) rfl ?_
                refine G.move rfl rfl rfl rfl ?_
                refine G.field (off' := 1) rfl rfl rfl rfl Try.underlying35 rfl sz30 rfl rfl ?_
                refine G.loadI (y := (a0.getD x474.toNat (S_armoirelaw15_Act.mk 0 0 [])).v) rfl rfl rfl rfl ty30 (fun w hs => Rd.bk (R_armoirelaw15_Act.L_v _) hs (j := 3) rfl) ?_
                refine G.field (off' := 2) rfl rfl rfl rfl Try.underlying35 rfl sz31 rfl rfl ?_
                refine G.loadH (B := B920) (m := ((a0.getD x474.toNat (S_armoirelaw15_Act.mk 0 0 [])).l).length) (c := c921) rfl rfl rfl rfl ty31r (fun w hs => Rd.bk (R_armoirelaw15_Act.L_l _) hs (j := 3) rfl) ?_
                refine G.build (z := .agg (([.int .u64 0] : List Value) ++ (([.slice none 0 0] : List Value))).toArray) (pl := [(0, 1), (1, 1)]) (cs := ([.int .u64 ((a0.getD x474.toNat (S_armoirelaw15_Act.mk 0 0 [])).v)] : List Value) ++ (([.slice B920 ((a0.getD x474.toNat (S_armoirelaw15_Act.mk 0 0 [])).l).length c921] : List Value))) rfl rfl rfl Try.underlying54 (by kernel_rfl) rfl (by kernel_rfl) (by kernel_rfl) rfl ?_
                refine G.buildSliceV (df := K_S_armoireref15_Was) (xs := ([(S_armoireref15_Was.mk ((a0.getD x474.toNat (S_armoirelaw15_Act.mk 0 0 [])).v) ((a0.getD x474.toNat (S_armoirelaw15_Act.mk 0 0 [])).l))] : List S_armoireref15_Was)) (z0 := (S_armoireref15_Was.mk 0 [])) (vs := [.agg (([.int .u64 ((a0.getD x474.toNat (S_armoirelaw15_Act.mk 0 0 [])).v)] : List Value) ++ (([.slice B920 ((a0.getD x474.toNat (S_armoirelaw15_Act.mk 0 0 [])).l).length c921] : List Value))).toArray]) rfl rfl rfl el51 (z := .agg (([.int .u64 0] : List Value) ++ (([.slice none 0 0] : List Value))).toArray) (cz := ([.int .u64 0] : List Value) ++ (([.slice none 0 0] : List Value))) (by kernel_rfl) rfl rfl rfl rfl rfl (K_S_armoireref15_Was.mk rfl ⟨none, 0, rfl, SlR.nil _ _⟩) ⟨(VR.A (cs := ([.int .u64 ((a0.getD x474.toNat (S_armoirelaw15_Act.mk 0 0 [])).v)] : List Value) ++ (([.slice B920 ((a0.getD x474.toNat (S_armoirelaw15_Act.mk 0 0 [])).l).length c921] : List Value))) (K_S_armoireref15_Was.mk rfl ⟨_, _, rfl, (f922.mono l1126)⟩)), trivial⟩ ?_
                intro B1241
                refine G.frontAt 5 rfl ?_
                obtain ⟨k1246, h⟩ := guardS h
                refine G.append (df := K_S_armoireref15_Was) (xs := x473) (ys := ([(S_armoireref15_Was.mk ((a0.getD x474.toNat (S_armoirelaw15_Act.mk 0 0 [])).v) ((a0.getD x474.toNat (S_armoirelaw15_Act.mk 0 0 [])).l))] : List S_armoireref15_Was)) (z0 := (S_armoireref15_Was.mk 0 [])) (z := .agg (([.int .u64 0] : List Value) ++ (([.slice none 0 0] : List Value))).toArray) (cz := ([.int .u64 0] : List Value) ++ (([.slice none 0 0] : List Value))) rfl rfl rfl rfl (by simp) rfl el51 Try.underlying51 rfl (by kernel_rfl) rfl (K_S_armoireref15_Was.mk rfl ⟨none, 0, rfl, SlR.nil _ _⟩) (fun w hs => SrcR.os hs (j := 1) rfl) ⟨by omega, by omega⟩ ?_
                intro B1243 c1244
                refine G.frontAt 1 rfl ?_
                refine G.drop ?_
                refine G.assign rfl rfl rfl rfl ?_
                refine G.regionEnd ?_
                refine G.frontAt 4 rfl ?_
                refine G.drop ?_
                refine G.frontAt 2 rfl ?_
                refine G.frontAt 1 rfl ?_
                refine G.frontAt 2 rfl ?_
                refine G.frontAt 3 rfl ?_
                refine G.less ?_ (J1240  B1243 c1244 (x473 ++ ([(S_armoireref15_Was.mk ((a0.getD x474.toNat (S_armoirelaw15_Act.mk 0 0 [])).v) ((a0.getD x474.toNat (S_armoirelaw15_Act.mk 0 0 [])).l))] : List S_armoireref15_Was)) h)
                exact ⟨rfl, rfl, rfl, rfl, rfl, rfl, rfl, rfl, rfl, trivial⟩
              · replace h := ifFB h k1247
                refine G.skip ?_
                refine G.frontAt 3 rfl ?_
                refine G.drop ?_
                refine G.frontAt 1 rfl ?_
                refine G.frontAt 3 rfl ?_
                refine G.frontAt 2 rfl ?_
                refine G.frontAt 3 rfl ?_
                refine G.less ?_ (J1240  B471 c472 x473 h)
                exact ⟨rfl, rfl, rfl, rfl, rfl, rfl, rfl, rfl, rfl, trivial⟩
            · replace h := ifF h k1355
              refine G.seq ?_
              refine G.region (l := [0, 1]) rfl ?_
              refine G.cmp (((a0.getD x474.toNat (S_armoirelaw15_Act.mk 0 0 [])).do_) = 1) rfl rfl rfl rfl rfl rfl Iff.rfl ?_
              refine G.assign rfl rfl rfl rfl ?_
              refine G.regionEnd ?_
              refine G.condP rfl (fun k1354 => ?_) (fun k1354 => ?_)
              · replace h := ifT h k1354
                refine G.seq ?_
                obtain ⟨t1302, e1303, h⟩ := bindS h
                obtain ⟨t1306, e1307, h⟩ := bindS h
                refine G.draw [[], [], [1], [], [0, 2, 3], [], [], [6], [], [8], [5, 7, 9, 4], [4, 10]] 12 [0, 1, 2, 3, 4, 5, 6, 7, 8, 9, 10, 11] [0, 0, 1, 0, 2, 0, 0, 1, 0, 1, 3, 4] [0, 0, 1, 0, 2, 0, 0, 1, 0, 1, 3, 4] rfl (by kernel_rfl) (by kernel_rfl) (by kernel_rfl) (by kernel_rfl) ?_
                intro C1311 ops1312 k1313
                let R1314 : Reg := armoirelaw15_ReadsHistory.reg8_20 [(3, .bool t1), (4, .pointer (some ⟨g9, 0, none⟩)), (5, .slice B471 x473.length c472), (7, .pointer (some ⟨g923, 0, none⟩)), (8, .slice B926 ((([] : List S_api_Touch) ++ (a0.getD x474.toNat (S_armoirelaw15_Act.mk 0 0 [])).l).length) c927), (26, .slice A0 a0.length n0), (27, .int .i64 (a0.length : Int)), (28, .int .i64 x474)]
                have P1316 : ∀ (m : Nat) (L : List Bool) (A : List (Nat × Value)) (l : List Nat), L.length = R1314.ds.length → R1314.Phi [some (.pointer (some ⟨g9, 0, none⟩)), some (.pointer (some ⟨g923, 1, none⟩)), some (.int .u64 ((a0.getD x474.toNat (S_armoirelaw15_Act.mk 0 0 [])).v)), some (.slice B926 ((([] : List S_api_Touch) ++ (a0.getD x474.toNat (S_armoirelaw15_Act.mk 0 0 [])).l).length) c927), some (.bool t1302), some (.slice B471 x473.length c472), some (.pointer (some ⟨g923, 1, none⟩)), some (.int .u64 ((a0.getD x474.toNat (S_armoirelaw15_Act.mk 0 0 [])).v)), some (.pointer (some ⟨g923, 2, none⟩)), some (.slice B920 ((a0.getD x474.toNat (S_armoirelaw15_Act.mk 0 0 [])).l).length c921), some (.bool t1306), some (.bool (t1302 != t1306))] [0, 1, 2, 3, 4] [] L A → left L = m → Ord R1314.ds m L l → G C1311 H464 A (BK 60 K_R_reads_History g9 (R_reads_History.mk (B467, x469.length, c468)) :: OS 63 K_S_reads_was B467 c468 x469 :: OS 24 K_S_api_Touch B926 c927 (([] : List S_api_Touch) ++ (a0.getD x474.toNat (S_armoirelaw15_Act.mk 0 0 [])).l) :: BK 35 K_R_armoirelaw15_Act g923 (R_armoirelaw15_Act.mk ((a0.getD x474.toNat (S_armoirelaw15_Act.mk 0 0 [])).do_) ((a0.getD x474.toNat (S_armoirelaw15_Act.mk 0 0 [])).v) (B920, ((a0.getD x474.toNat (S_armoirelaw15_Act.mk 0 0 [])).l).length, c921)) :: OS 54 K_S_armoireref15_Was B471 c472 x473 :: Fr) (.inRegion ops1312 l :: k1313) := by
                  refine G.phase R1314 [some (.pointer (some ⟨g9, 0, none⟩)), some (.pointer (some ⟨g923, 1, none⟩)), some (.int .u64 ((a0.getD x474.toNat (S_armoirelaw15_Act.mk 0 0 [])).v)), some (.slice B926 ((([] : List S_api_Touch) ++ (a0.getD x474.toNat (S_armoirelaw15_Act.mk 0 0 [])).l).length) c927), some (.bool t1302), some (.slice B471 x473.length c472), some (.pointer (some ⟨g923, 1, none⟩)), some (.int .u64 ((a0.getD x474.toNat (S_armoirelaw15_Act.mk 0 0 [])).v)), some (.pointer (some ⟨g923, 2, none⟩)), some (.slice B920 ((a0.getD x474.toNat (S_armoirelaw15_Act.mk 0 0 [])).l).length c921), some (.bool t1306), some (.bool (t1302 != t1306))] [5, 6, 7, 8, 9, 10, 11] [] [0, 1, 2, 3, 4] [] (armoirelaw15_ReadsHistory.reg8_20_ap _) rfl rfl ⟨⟨[.base 5], 82, .slice B471 x473.length c472, [(5, .slice B471 x473.length c472)], ⟨rfl, rfl, rfl, rfl, ?_⟩⟩, ⟨⟨[.base 7], 83, .pointer (some ⟨g923, 1, none⟩), [(7, .pointer (some ⟨g923, 0, none⟩))], ⟨rfl, rfl, rfl, rfl, ?_⟩⟩, ⟨⟨[.op 6], 84, .int .u64 ((a0.getD x474.toNat (S_armoirelaw15_Act.mk 0 0 [])).v), [(83, .pointer (some ⟨g923, 1, none⟩))], ⟨rfl, rfl, rfl, rfl, ?_⟩⟩, ⟨⟨[.base 7], 85, .pointer (some ⟨g923, 2, none⟩), [(7, .pointer (some ⟨g923, 0, none⟩))], ⟨rfl, rfl, rfl, rfl, ?_⟩⟩, ⟨⟨[.op 8], 86, .slice B920 ((a0.getD x474.toNat (S_armoirelaw15_Act.mk 0 0 [])).l).length c921, [(85, .pointer (some ⟨g923, 2, none⟩))], ⟨rfl, rfl, rfl, rfl, ?_⟩⟩, ⟨⟨[.op 5, .op 7, .op 9], 87, .bool t1306, [(82, .slice B471 x473.length c472), (84, .int .u64 ((a0.getD x474.toNat (S_armoirelaw15_Act.mk 0 0 [])).v)), (86, .slice B920 ((a0.getD x474.toNat (S_armoirelaw15_Act.mk 0 0 [])).l).length c921)], ⟨rfl, rfl, rfl, rfl, ?_⟩⟩, ⟨⟨[.op 4, .op 10], 88, .bool (t1302 != t1306), [(81, .bool t1302), (87, .bool t1306)], ⟨rfl, rfl, rfl, rfl, ?_⟩⟩, trivial⟩⟩⟩⟩⟩⟩⟩ trivial ?_
                  · intro X rest g
                    refine G.move rfl rfl rfl rfl ?_
                    exact g
                  · intro X rest g
                    refine G.field (off' := 1) rfl rfl rfl rfl Try.underlying35 rfl sz30 rfl rfl ?_
                    exact g
                  · intro X rest g
                    refine G.loadI (y := (a0.getD x474.toNat (S_armoirelaw15_Act.mk 0 0 [])).v) rfl rfl rfl rfl ty30 (fun w hs => Rd.bk (R_armoirelaw15_Act.L_v _) hs (j := 3) rfl) ?_
                    exact g
                  · intro X rest g
                    refine G.field (off' := 2) rfl rfl rfl rfl Try.underlying35 rfl sz31 rfl rfl ?_
                    exact g
                  · intro X rest g
                    refine G.loadH (B := B920) (m := ((a0.getD x474.toNat (S_armoirelaw15_Act.mk 0 0 [])).l).length) (c := c921) rfl rfl rfl rfl ty31r (fun w hs => Rd.bk (R_armoirelaw15_Act.L_l _) hs (j := 3) rfl) ?_
                    exact g
                  · intro X rest g
                    refine G.callBO (m := 0) rfl rfl rfl rfl call25 rfl (fun H1 hle hsl => (armoireref15_Meets.ok x473 B471 c472 (hsl (j := 4) rfl) ((a0.getD x474.toNat (S_armoirelaw15_Act.mk 0 0 [])).v) ((a0.getD x474.toNat (S_armoirelaw15_Act.mk 0 0 [])).l) B920 c921 (f922.mono hle) e1307).ctr) (by rintro v H' L' ⟨rfl, rfl⟩; exact Free.nil) ?_
                    rintro v1308 L1309 ⟨_, ⟨rfl, rfl⟩⟩
                    exact g
                  · intro X rest g
                    refine G.cmpBn (a := t1302) (b := t1306) (r := (t1302 != t1306)) rfl rfl rfl rfl rfl Try.underlying4 rfl ?_
                    exact g
                  · intro A L hlen hp h0
                    refine G.lessSub (B := [(3, .bool t1), (4, .pointer (some ⟨g9, 0, none⟩)), (5, .slice B471 x473.length c472), (8, .slice B926 ((([] : List S_api_Touch) ++ (a0.getD x474.toNat (S_armoirelaw15_Act.mk 0 0 [])).l).length) c927), (26, .slice A0 a0.length n0), (27, .int .i64 (a0.length : Int)), (28, .int .i64 x474), (88, .bool (t1302 != t1306))]) (hp.fin hlen h0 (src := [.base 3, .base 4, .base 5, .base 8, .base 26, .base 27, .base 28, .op 11]) rfl) ?_
                    refine G.regionEnd ?_
                    refine G.cond rfl (fun k1310 => ?_) (fun k1310 => ?_)
                    · replace h := ifT h k1310
                      refine G.seq ?_
                      refine G.region (l := [0]) rfl ?_
                      refine G.assign rfl rfl rfl rfl ?_
                      refine G.regionEnd ?_
                      refine G.drop ?_
                      refine G.drop ?_
                      refine G.drop ?_
                      refine G.drop ?_
                      refine G.drop ?_
                      obtain rfl := Option.some.inj h
                      exact G.ret1 Try.func8 rfl rfl (fun w hs => ⟨_, _, _, rfl, l465, ⟨rfl, rfl⟩, hs⟩)
                    · replace h := ifFB h k1310
                      refine G.skip ?_
                      refine G.frontAt 3 rfl ?_
                      refine G.drop ?_
                      refine G.frontAt 2 rfl ?_
                      refine G.frontAt 3 rfl ?_
                      refine G.frontAt 2 rfl ?_
                      refine G.frontAt 3 rfl ?_
                      refine G.less ?_ (J1120  B467 c468 x469 B471 c472 x473 h)
                      exact ⟨rfl, rfl, rfl, rfl, rfl, rfl, rfl, trivial⟩
                have P1315 : ∀ (m : Nat) (L : List Bool) (A : List (Nat × Value)) (l : List Nat), L.length = R1314.ds.length → R1314.Phi [some (.pointer (some ⟨g9, 0, none⟩)), some (.pointer (some ⟨g923, 1, none⟩)), some (.int .u64 ((a0.getD x474.toNat (S_armoirelaw15_Act.mk 0 0 [])).v)), some (.slice B926 ((([] : List S_api_Touch) ++ (a0.getD x474.toNat (S_armoirelaw15_Act.mk 0 0 [])).l).length) c927), none, some (.slice B471 x473.length c472), some (.pointer (some ⟨g923, 1, none⟩)), some (.int .u64 ((a0.getD x474.toNat (S_armoirelaw15_Act.mk 0 0 [])).v)), some (.pointer (some ⟨g923, 2, none⟩)), some (.slice B920 ((a0.getD x474.toNat (S_armoirelaw15_Act.mk 0 0 [])).l).length c921), none, none] [] [4, 10, 11] L A → left L = m → Ord R1314.ds m L l → G C1311 H464 A (OS 24 K_S_api_Touch B926 c927 (([] : List S_api_Touch) ++ (a0.getD x474.toNat (S_armoirelaw15_Act.mk 0 0 [])).l) :: BK 35 K_R_armoirelaw15_Act g923 (R_armoirelaw15_Act.mk ((a0.getD x474.toNat (S_armoirelaw15_Act.mk 0 0 [])).do_) ((a0.getD x474.toNat (S_armoirelaw15_Act.mk 0 0 [])).v) (B920, ((a0.getD x474.toNat (S_armoirelaw15_Act.mk 0 0 [])).l).length, c921)) :: OS 63 K_S_reads_was B467 c468 x469 :: BK 60 K_R_reads_History g9 (R_reads_History.mk (B467, x469.length, c468)) :: OS 54 K_S_armoireref15_Was B471 c472 x473 :: Fr) (.inRegion ops1312 l :: k1313) := by
                  refine G.phase R1314 [some (.pointer (some ⟨g9, 0, none⟩)), some (.pointer (some ⟨g923, 1, none⟩)), some (.int .u64 ((a0.getD x474.toNat (S_armoirelaw15_Act.mk 0 0 [])).v)), some (.slice B926 ((([] : List S_api_Touch) ++ (a0.getD x474.toNat (S_armoirelaw15_Act.mk 0 0 [])).l).length) c927), none, some (.slice B471 x473.length c472), some (.pointer (some ⟨g923, 1, none⟩)), some (.int .u64 ((a0.getD x474.toNat (S_armoirelaw15_Act.mk 0 0 [])).v)), some (.pointer (some ⟨g923, 2, none⟩)), some (.slice B920 ((a0.getD x474.toNat (S_armoirelaw15_Act.mk 0 0 [])).l).length c921), none, none] [0, 1, 2, 3, 5, 6, 7, 8, 9] [4] [] [4, 10, 11] (armoirelaw15_ReadsHistory.reg8_20_ap _) rfl rfl ⟨⟨[.base 4], 77, .pointer (some ⟨g9, 0, none⟩), [(4, .pointer (some ⟨g9, 0, none⟩))], ⟨rfl, rfl, rfl, rfl, ?_⟩⟩, ⟨⟨[.base 7], 78, .pointer (some ⟨g923, 1, none⟩), [(7, .pointer (some ⟨g923, 0, none⟩))], ⟨rfl, rfl, rfl, rfl, ?_⟩⟩, ⟨⟨[.op 1], 79, .int .u64 ((a0.getD x474.toNat (S_armoirelaw15_Act.mk 0 0 [])).v), [(78, .pointer (some ⟨g923, 1, none⟩))], ⟨rfl, rfl, rfl, rfl, ?_⟩⟩, ⟨⟨[.base 8], 80, .slice B926 ((([] : List S_api_Touch) ++ (a0.getD x474.toNat (S_armoirelaw15_Act.mk 0 0 [])).l).length) c927, [(8, .slice B926 ((([] : List S_api_Touch) ++ (a0.getD x474.toNat (S_armoirelaw15_Act.mk 0 0 [])).l).length) c927)], ⟨rfl, rfl, rfl, rfl, ?_⟩⟩, ⟨⟨[.base 5], 82, .slice B471 x473.length c472, [(5, .slice B471 x473.length c472)], ⟨rfl, rfl, rfl, rfl, ?_⟩⟩, ⟨⟨[.base 7], 83, .pointer (some ⟨g923, 1, none⟩), [(7, .pointer (some ⟨g923, 0, none⟩))], ⟨rfl, rfl, rfl, rfl, ?_⟩⟩, ⟨⟨[.op 6], 84, .int .u64 ((a0.getD x474.toNat (S_armoirelaw15_Act.mk 0 0 [])).v), [(83, .pointer (some ⟨g923, 1, none⟩))], ⟨rfl, rfl, rfl, rfl, ?_⟩⟩, ⟨⟨[.base 7], 85, .pointer (some ⟨g923, 2, none⟩), [(7, .pointer (some ⟨g923, 0, none⟩))], ⟨rfl, rfl, rfl, rfl, ?_⟩⟩, ⟨⟨[.op 8], 86, .slice B920 ((a0.getD x474.toNat (S_armoirelaw15_Act.mk 0 0 [])).l).length c921, [(85, .pointer (some ⟨g923, 2, none⟩))], ⟨rfl, rfl, rfl, rfl, ?_⟩⟩, trivial⟩⟩⟩⟩⟩⟩⟩⟩⟩ ⟨⟨[.op 0, .op 2, .op 3], [(77, .pointer (some ⟨g9, 0, none⟩)), (79, .int .u64 ((a0.getD x474.toNat (S_armoirelaw15_Act.mk 0 0 [])).v)), (80, .slice B926 ((([] : List S_api_Touch) ++ (a0.getD x474.toNat (S_armoirelaw15_Act.mk 0 0 [])).l).length) c927)], ⟨rfl, rfl, ?_⟩⟩, trivial⟩ ?_
                  · intro X rest g
                    refine G.move rfl rfl rfl rfl ?_
                    exact g
                  · intro X rest g
                    refine G.field (off' := 1) rfl rfl rfl rfl Try.underlying35 rfl sz30 rfl rfl ?_
                    exact g
                  · intro X rest g
                    refine G.loadI (y := (a0.getD x474.toNat (S_armoirelaw15_Act.mk 0 0 [])).v) rfl rfl rfl rfl ty30 (fun w hs => Rd.bk (R_armoirelaw15_Act.L_v _) hs (j := 1) rfl) ?_
                    exact g
                  · intro X rest g
                    refine G.move rfl rfl rfl rfl ?_
                    exact g
                  · intro X rest g
                    refine G.move rfl rfl rfl rfl ?_
                    exact g
                  · intro X rest g
                    refine G.field (off' := 1) rfl rfl rfl rfl Try.underlying35 rfl sz30 rfl rfl ?_
                    exact g
                  · intro X rest g
                    refine G.loadI (y := (a0.getD x474.toNat (S_armoirelaw15_Act.mk 0 0 [])).v) rfl rfl rfl rfl ty30 (fun w hs => Rd.bk (R_armoirelaw15_Act.L_v _) hs (j := 1) rfl) ?_
                    exact g
                  · intro X rest g
                    refine G.field (off' := 2) rfl rfl rfl rfl Try.underlying35 rfl sz31 rfl rfl ?_
                    exact g
                  · intro X rest g
                    refine G.loadH (B := B920) (m := ((a0.getD x474.toNat (S_armoirelaw15_Act.mk 0 0 [])).l).length) (c := c921) rfl rfl rfl rfl ty31r (fun w hs => Rd.bk (R_armoirelaw15_Act.L_l _) hs (j := 1) rfl) ?_
                    exact g
                  · intro X rest L m hlen hp hil hd hs hm ho
                    refine G.frontAt 2 rfl ?_
                    refine G.frontAt 3 rfl ?_
                    refine G.callS rfl rfl rfl rfl call16 (reads_History_Meets_s2.ok (S_reads_History.mk x469) g9 B467 c468 ((a0.getD x474.toNat (S_armoirelaw15_Act.mk 0 0 [])).v) (([] : List S_api_Touch) ++ (a0.getD x474.toNat (S_armoirelaw15_Act.mk 0 0 [])).l) B926 c927 e1303) ?_
                    rintro v1304 L1305 ⟨rfl, rfl⟩
                    refine G.frontAt 4 rfl ?_
                    refine G.frontAt 4 rfl ?_
                    refine G.frontAt 4 rfl ?_
                    refine G.frontAt 4 rfl ?_
                    refine G.frontAt 4 rfl ?_
                    exact P1316 m _ _ rest (by rw [List.length_set]; exact hlen) (hp.stepS2 2 (armoirelaw15_ReadsHistory.reg8_20_ap _) hil hd hs (by repeat (first | exact trivial | refine And.intro rfl ?_)) rfl rfl rfl rfl) hm ho
                  · intro A L hlen hp h0
                    exact (hp.notYet hlen h0 4 rfl rfl).elim
                intro l hl
                exact P1315 12 (List.replicate 12 false) _ l rfl (Reg.Phi.init 12 ⟨rfl, rfl, rfl, rfl, rfl, rfl, rfl, rfl, trivial⟩) (left_rep 12) hl
              · replace h := ifF h k1354
                refine G.seq ?_
                refine G.region (l := [0, 1]) rfl ?_
                refine G.cmp (((a0.getD x474.toNat (S_armoirelaw15_Act.mk 0 0 [])).do_) = 2) rfl rfl rfl rfl rfl rfl Iff.rfl ?_
                refine G.assign rfl rfl rfl rfl ?_
                refine G.regionEnd ?_
                refine G.condP rfl (fun k1353 => ?_) (fun k1353 => ?_)
                · replace h := ifT h k1353
                  refine G.seq ?_
                  refine G.region (l := [0, 1, 2, 3]) rfl ?_
                  refine G.move rfl rfl rfl rfl ?_
                  refine G.field (off' := 1) rfl rfl rfl rfl Try.underlying35 rfl sz30 rfl rfl ?_
                  refine G.loadI (y := (a0.getD x474.toNat (S_armoirelaw15_Act.mk 0 0 [])).v) rfl rfl rfl rfl ty30 (fun w hs => Rd.bk (R_armoirelaw15_Act.L_v _) hs (j := 1) rfl) ?_
                  refine G.frontAt 2 rfl ?_
                  refine G.frontAt 3 rfl ?_
                  obtain ⟨t1339, e1340, h⟩ := bindS h
                  refine G.callS rfl rfl rfl rfl call26 (reads_History_Forget.ok (S_reads_History.mk x469) g9 B467 c468 ((a0.getD x474.toNat (S_armoirelaw15_Act.mk 0 0 [])).v) e1340) ?_
                  rintro v1341 L1342 ⟨B1343, c1344, rfl, rfl⟩
                  refine G.regionEnd ?_
                  refine G.region (l := [0, 1, 2, 3, 4]) rfl ?_
                  refine G.move rfl rfl rfl rfl ?_
                  refine G.field (off' := 1) rfl rfl rfl rfl Try.underlying35 rfl sz30 rfl rfl ?_
                  refine G.loadI (y := (a0.getD x474.toNat (S_armoirelaw15_Act.mk 0 0 [])).v) rfl rfl rfl rfl ty30 (fun w hs => Rd.bk (R_armoirelaw15_Act.L_v _) hs (j := 3) rfl) ?_
                  refine G.frontAt 4 rfl ?_
                  obtain ⟨t1346, e1347, h⟩ := bindS h
                  refine G.callS rfl rfl rfl rfl call27 (armoireref15_Forget_s2.ok x473 B471 c472 ((a0.getD x474.toNat (S_armoirelaw15_Act.mk 0 0 [])).v) e1347) ?_
                  rintro v1348 L1349 ⟨B1350, c1351, rfl, rfl⟩
                  refine G.assign rfl rfl rfl rfl ?_
                  refine G.regionEnd ?_
                  refine G.drop ?_
                  refine G.frontAt 4 rfl ?_
                  refine G.drop ?_
                  refine G.frontAt 3 rfl ?_
                  refine G.frontAt 1 rfl ?_
                  refine G.frontAt 2 rfl ?_
                  refine G.frontAt 3 rfl ?_
                  refine G.less ?_ (J1120  B1343 c1344 t1339.l B1350 c1351 t1346 h)
                  exact ⟨rfl, rfl, rfl, rfl, rfl, rfl, rfl, trivial⟩
                · replace h := ifF h k1353
                  refine G.skip ?_
                  refine G.frontAt 1 rfl ?_
                  refine G.drop ?_
                  refine G.frontAt 3 rfl ?_
                  refine G.frontAt 3 rfl ?_
                  refine G.frontAt 3 rfl ?_
                  refine G.less ?_ (J1120  B467 c468 x469 B471 c472 x473 h)
                  exact ⟨rfl, rfl, rfl, rfl, rfl, rfl, rfl, trivial⟩
        · replace h := ifF h k1357
          refine G.exit rfl ?_
          refine G.seq ?_
          refine G.region (l := [0, 1]) rfl ?_
          refine G.move rfl rfl rfl rfl ?_
          refine G.assign rfl rfl rfl rfl ?_
          refine G.regionEnd ?_
          refine G.drop ?_
          refine G.drop ?_
          refine G.drop ?_
          obtain rfl := Option.some.inj h
          exact G.ret1 Try.func8 rfl rfl (fun w hs => ⟨_, _, _, rfl, l465, ⟨rfl, rfl⟩, hs⟩)
    intro J1358
    refine G.osNil 54 K_S_armoireref15_Was ?_
    refine G.same (d := 5) (v := .slice none (([] : List S_armoireref15_Was).length) 0) rfl (by first | (simp; done) | (simp; omega)) ?_
    refine G.frontAt 1 rfl ?_
    refine G.frontAt 2 rfl ?_
    refine G.less ?_ (J1358 FUEL H (PH.le_refl _) B11 c12 t5.l none 0 ([] : List S_armoireref15_Was) 0 h)
    exact ⟨rfl, rfl, rfl, rfl, rfl, rfl, trivial⟩
set_option maxRecDepth 20000 in
theorem armoirelaw15_ReadsMore.ok {O : World} {H : PH} {Fr : List Res} (a0 : (List S_armoirelaw15_Act)) (A0 : Option Addr) (n0 : Nat) (F0 : SlR K_S_armoirelaw15_Act H A0 n0 a0) (a1 : Int) (a2 : (List S_api_Touch)) (A2 : Option Addr) (n2 : Nat) (F2 : SlR K_S_api_Touch H A2 n2 a2) (a3 : (List S_api_Touch)) (A3 : Option Addr) (n3 : Nat) (F3 : SlR K_S_api_Touch H A3 n3 a3) {r : Bool} (h : armoirelaw15_ReadsMore.f a0 a1 a2 a3 = some r) :
    Ctr Try.prog 5 [.slice A0 a0.length n0, .int .u64 a1, .slice A2 a2.length n2, .slice A3 a3.length n3] O H (Fr) (fun v H' L' => v = .bool r ∧ Fr = L') := by
  refine Ctr.start (n := 113) Try.func5 rfl Try.ntmps5 rfl rfl ?_
  unfold armoirelaw15_ReadsMore.f at h
  refine G.seq ?_
  refine G.region (l := [0]) rfl ?_
  refine G.assign rfl rfl rfl rfl ?_
  refine G.regionEnd ?_
  refine G.seq ?_
  refine G.region (l := [0, 1]) rfl ?_
  obtain ⟨t1, e2, h⟩ := bindS h
  refine G.callS rfl rfl rfl rfl call9 (armoirelaw15_live.ok  e2) ?_
  rintro v3 L4 ⟨rfl, rfl⟩
  refine G.assign rfl rfl rfl rfl ?_
  refine G.regionEnd ?_
  refine G.seq ?_
  refine G.region (l := [0, 1]) rfl ?_
  obtain ⟨t5, e6, h⟩ := bindS h
  refine G.callS rfl rfl rfl rfl call14 (reads_NewHistory.ok  e6) ?_
  rintro v7 L8 ⟨g9, B11, c12, rfl, rfl⟩
  refine G.assign rfl rfl rfl rfl ?_
  refine G.regionEnd ?_
  refine G.seq ?_
  refine G.seq ?_
  refine G.region (l := [0, 1, 2, 3, 4, 5, 6, 7, 8, 9, 10, 11, 12, 13, 14]) rfl ?_
  refine G.move rfl rfl rfl rfl ?_
  refine G.eqPtr (a := (some ⟨g9, 0, none⟩)) (b := none) (r := false) rfl rfl rfl rfl rfl Try.underlying32 (by simp) ?_
  refine G.move rfl rfl rfl rfl ?_
  refine G.move rfl rfl rfl rfl ?_
  refine G.len (m := a0.length) rfl rfl rfl rfl Try.underlying29 ?_
  refine G.cmp (60 < (a0.length : Int)) rfl rfl rfl rfl rfl rfl Iff.rfl ?_
  refine G.pickF rfl rfl rfl rfl rfl ?_
  refine G.move rfl rfl rfl rfl ?_
  refine G.splitP (d := 26) rfl (fun k567 => ?_) (fun k567 => ?_)
  · replace h := ifT h k567
    refine G.unwanted rfl rfl rfl rfl ?_
    refine G.unwanted rfl rfl rfl rfl ?_
    refine G.unwanted rfl rfl rfl rfl ?_
    refine G.unwanted rfl rfl rfl rfl ?_
    refine G.unwanted rfl rfl rfl rfl ?_
    refine G.unwanted rfl rfl rfl rfl ?_
    refine G.pickT rfl rfl rfl rfl rfl ?_
    refine G.regionEnd ?_
    refine G.condT rfl ?_
    refine G.seq ?_
    refine G.region (l := [0, 1, 2, 3, 4, 5]) rfl ?_
    refine G.move rfl rfl rfl rfl ?_
    refine G.move rfl rfl rfl rfl ?_
    refine G.splitB (d := 35) rfl (fun k15 => ?_) (fun k15 => ?_)
    · replace h := ifT h k15
      refine G.move rfl rfl rfl rfl ?_
      refine G.eqPtrn (a := (some ⟨g9, 0, none⟩)) (b := none) (r := true) rfl rfl rfl rfl rfl Try.underlying32 (by simp) ?_
      refine G.pickT rfl rfl rfl rfl rfl ?_
      refine G.assign rfl rfl rfl rfl ?_
      refine G.regionEnd ?_
      refine G.drop ?_
      refine G.drop ?_
      obtain rfl := Option.some.inj h
      exact G.ret1 Try.func5 rfl rfl (fun w hs => ⟨_, _, _, rfl, (PH.le_refl _), ⟨rfl, rfl⟩, hs⟩)
    · replace h := ifFB h k15
      refine G.unwanted rfl rfl rfl rfl ?_
      refine G.unwanted rfl rfl rfl rfl ?_
      refine G.pickF rfl rfl rfl rfl rfl ?_
      refine G.assign rfl rfl rfl rfl ?_
      refine G.regionEnd ?_
      refine G.drop ?_
      refine G.drop ?_
      obtain rfl := Option.some.inj h
      exact G.ret1 Try.func5 rfl rfl (fun w hs => ⟨_, _, _, rfl, (PH.le_refl _), ⟨rfl, rfl⟩, hs⟩)
  · replace h := ifF h k567
    refine G.move rfl rfl rfl rfl ?_
    refine G.len (m := a2.length) rfl rfl rfl rfl Try.underlying31 ?_
    refine G.move rfl rfl rfl rfl ?_
    refine G.len (m := a3.length) rfl rfl rfl rfl Try.underlying31 ?_
    refine G.bin (m := (a2.length : Int)) (n := (a3.length : Int)) (r := wi64 ((a2.length : Int) + (a3.length : Int))) rfl rfl rfl rfl rfl rfl rfl ?_
    refine G.cmp (100 < (wi64 ((a2.length : Int) + (a3.length : Int)))) rfl rfl rfl rfl rfl rfl Iff.rfl ?_
    refine G.pickF rfl rfl rfl rfl rfl ?_
    refine G.regionEnd ?_
    refine G.condP rfl (fun k566 => ?_) (fun k566 => ?_)
    · replace h := ifT h k566
      refine G.seq ?_
      refine G.region (l := [0, 1, 2, 3, 4, 5]) rfl ?_
      refine G.move rfl rfl rfl rfl ?_
      refine G.move rfl rfl rfl rfl ?_
      refine G.splitB (d := 35) rfl (fun k19 => ?_) (fun k19 => ?_)
      · replace h := ifT h k19
        refine G.move rfl rfl rfl rfl ?_
        refine G.eqPtrn (a := (some ⟨g9, 0, none⟩)) (b := none) (r := true) rfl rfl rfl rfl rfl Try.underlying32 (by simp) ?_
        refine G.pickT rfl rfl rfl rfl rfl ?_
        refine G.assign rfl rfl rfl rfl ?_
        refine G.regionEnd ?_
        refine G.drop ?_
        refine G.drop ?_
        obtain rfl := Option.some.inj h
        exact G.ret1 Try.func5 rfl rfl (fun w hs => ⟨_, _, _, rfl, (PH.le_refl _), ⟨rfl, rfl⟩, hs⟩)
      · replace h := ifFB h k19
        refine G.unwanted rfl rfl rfl rfl ?_
        refine G.unwanted rfl rfl rfl rfl ?_
        refine G.pickF rfl rfl rfl rfl rfl ?_
        refine G.assign rfl rfl rfl rfl ?_
        refine G.regionEnd ?_
        refine G.drop ?_
        refine G.drop ?_
        obtain rfl := Option.some.inj h
        exact G.ret1 Try.func5 rfl rfl (fun w hs => ⟨_, _, _, rfl, (PH.le_refl _), ⟨rfl, rfl⟩, hs⟩)
    · replace h := ifF h k566
      refine G.skip ?_
      refine G.seq ?_
      refine G.seq ?_
      refine G.region (l := [0, 1, 2]) rfl ?_
      refine G.move rfl rfl rfl rfl ?_
      refine G.len (m := a0.length) rfl rfl rfl rfl Try.underlying29 ?_
      refine G.move rfl rfl rfl rfl ?_
      refine G.regionEnd ?_
      refine G.block ?_
      refine G.loop (fun GG K => ∀ (d385 : Nat) (H199 : PH) (l200 : PH.le H H199) (B202 : Option Addr) (c203 : Nat) (x204 : (List S_reads_was)) (x205 : Int), armoirelaw15_ReadsMore.l0 a0 a1 a2 a3 t1 d385 x204 x205 = some r → GG H199 [(1, .int .u64 a1), (2, .slice A2 a2.length n2), (3, .slice A3 a3.length n3), (9, .bool t1), (10, .pointer (some ⟨g9, 0, none⟩)), (39, .slice A0 a0.length n0), (40, .int .i64 (a0.length : Int)), (41, .int .i64 x205)] (OS 63 K_S_reads_was B202 c203 x204 :: BK 60 K_R_reads_History g9 (R_reads_History.mk (B202, x204.length, c203)) :: Fr) K) ?_ ?_
      · intro d385
        induction d385 with
        | zero => intro H199 l200 B202 c203 x204 x205 h; rw [armoirelaw15_ReadsMore.l0] at h; cases h
        | succ d385 ih384 =>
          intro H199 l200 B202 c203 x204 x205 h
          rw [armoirelaw15_ReadsMore.l0] at h
          refine G.seq ?_
          refine G.region (l := [0]) rfl ?_
          refine G.cmp (x205 < (a0.length : Int)) rfl rfl rfl rfl rfl rfl Iff.rfl ?_
          refine G.regionEnd ?_
          refine G.seq ?_
          refine G.condP rfl (fun k564 => ?_) (fun k564 => ?_)
          · replace h := ifT h k564
            refine G.skip ?_
            refine G.seq ?_
            refine G.block ?_
            refine G.seq ?_
            refine G.region (l := [0, 1, 2, 3]) rfl ?_
            obtain ⟨k460, h⟩ := guardS h
            refine G.indexR (xs := a0) (j := x205) (S_armoirelaw15_Act.mk 0 0 []) rfl rfl rfl rfl rfl el29 (F0.mono l200) k460 ?_
            intro a458 f459
            refine G.loadA (df := K_S_armoirelaw15_Act) (y := a0.getD x205.toNat (S_armoirelaw15_Act.mk 0 0 [])) rfl rfl rfl rfl ty35 rfl (fun w hs => Rd.ro f459 hs) ?_
            intro cs461 f462
            obtain ⟨B463, c464, f465, rfl⟩ := K_S_armoirelaw15_Act.open f462
            refine G.alloc (dk := K_R_armoirelaw15_Act) (x0 := (R_armoirelaw15_Act.mk 0 0 (none, 0, 0))) (z := .agg (([.int .i64 0] : List Value) ++ (([.int .u64 0] : List Value) ++ (([.slice none 0 0] : List Value)))).toArray) (cs := ([.int .i64 0] : List Value) ++ (([.int .u64 0] : List Value) ++ (([.slice none 0 0] : List Value)))) rfl rfl rfl (by kernel_rfl) rfl (fun H => K_R_armoirelaw15_Act.mk rfl rfl rfl) ?_
            intro g466
            refine G.store (df := K_R_armoirelaw15_Act) (y := (R_armoirelaw15_Act.mk ((a0.getD x205.toNat (S_armoirelaw15_Act.mk 0 0 [])).do_) ((a0.getD x205.toNat (S_armoirelaw15_Act.mk 0 0 [])).v) (B463, ((a0.getD x205.toNat (S_armoirelaw15_Act.mk 0 0 [])).l).length, c464))) (x1 := (R_armoirelaw15_Act.mk ((a0.getD x205.toNat (S_armoirelaw15_Act.mk 0 0 [])).do_) ((a0.getD x205.toNat (S_armoirelaw15_Act.mk 0 0 [])).v) (B463, ((a0.getD x205.toNat (S_armoirelaw15_Act.mk 0 0 [])).l).length, c464))) rfl rfl rfl rfl (Lens.id _ _) (VR.A (cs := ([.int .i64 ((a0.getD x205.toNat (S_armoirelaw15_Act.mk 0 0 [])).do_)] : List Value) ++ (([.int .u64 ((a0.getD x205.toNat (S_armoirelaw15_Act.mk 0 0 [])).v)] : List Value) ++ (([.slice B463 ((a0.getD x205.toNat (S_armoirelaw15_Act.mk 0 0 [])).l).length c464] : List Value)))) (K_R_armoirelaw15_Act.mk rfl rfl rfl)) sz35 rfl ?_
            refine G.regionEnd ?_
            refine G.seq ?_
            refine G.region (l := [0, 1, 2, 3]) rfl ?_
            refine G.field (off' := 2) rfl rfl rfl rfl Try.underlying35 rfl sz31 rfl rfl ?_
            refine G.loadH (B := B463) (m := ((a0.getD x205.toNat (S_armoirelaw15_Act.mk 0 0 [])).l).length) (c := c464) rfl rfl rfl rfl ty31r (fun w hs => Rd.bk (R_armoirelaw15_Act.L_l _) hs (j := 0) rfl) ?_
            refine G.len (m := ((a0.getD x205.toNat (S_armoirelaw15_Act.mk 0 0 [])).l).length) rfl rfl rfl rfl Try.underlying31 ?_
            refine G.cmp ((((a0.getD x205.toNat (S_armoirelaw15_Act.mk 0 0 [])).l).length : Int) ≤ 100) rfl rfl rfl rfl rfl rfl Iff.rfl ?_
            refine G.regionEnd ?_
            refine G.condP rfl (fun k492 => ?_) (fun k492 => ?_)
            · replace h := ifT h k492
              refine G.region (l := [0, 1, 2, 3, 4, 5]) rfl ?_
              refine G.move rfl rfl rfl rfl ?_
              refine G.field (off' := 1) rfl rfl rfl rfl Try.underlying35 rfl sz30 rfl rfl ?_
              refine G.loadI (y := (a0.getD x205.toNat (S_armoirelaw15_Act.mk 0 0 [])).v) rfl rfl rfl rfl ty30 (fun w hs => Rd.bk (R_armoirelaw15_Act.L_v _) hs (j := 0) rfl) ?_
              refine G.field (off' := 2) rfl rfl rfl rfl Try.underlying35 rfl sz31 rfl rfl ?_
              refine G.loadH (B := B463) (m := ((a0.getD x205.toNat (S_armoirelaw15_Act.mk 0 0 [])).l).length) (c := c464) rfl rfl rfl rfl ty31r (fun w hs => Rd.bk (R_armoirelaw15_Act.L_l _) hs (j := 0) rfl) ?_
              refine G.frontAt 1 rfl ?_
              refine G.frontAt 2 rfl ?_
              obtain ⟨t483, e484, h⟩ := bindS h
              refine G.call rfl rfl rfl rfl call15 (reads_History_Add.ok (S_reads_History.mk x204) g9 B202 c203 ((a0.getD x205.toNat (S_armoirelaw15_Act.mk 0 0 [])).v) ((a0.getD x205.toNat (S_armoirelaw15_Act.mk 0 0 [])).l) B463 c464 f465 e484) ?_
              rintro v485 H487 L486 l488 ⟨B489, c490, rfl, rfl⟩
              refine G.regionEnd ?_
              refine G.inBlock ?_
              refine G.region (l := [0, 1]) rfl ?_
              refine G.bin (m := x205) (n := 1) (r := wi64 (x205 + 1)) rfl rfl rfl rfl rfl rfl rfl ?_
              refine G.move rfl rfl rfl rfl ?_
              refine G.regionEnd ?_
              refine G.round ?_
              refine G.frontAt 2 rfl ?_
              refine G.drop ?_
              refine G.frontAt 1 rfl ?_
              refine G.less ?_ (ih384 H487 (PH.le_trans l200 l488) B489 c490 t483.2.l (wi64 (x205 + 1)) h)
              exact ⟨rfl, rfl, rfl, rfl, rfl, rfl, rfl, rfl, trivial⟩
            · replace h := ifF h k492
              refine G.skip ?_
              refine G.inBlock ?_
              refine G.region (l := [0, 1]) rfl ?_
              refine G.bin (m := x205) (n := 1) (r := wi64 (x205 + 1)) rfl rfl rfl rfl rfl rfl rfl ?_
              refine G.move rfl rfl rfl rfl ?_
              refine G.regionEnd ?_
              refine G.round ?_
              refine G.drop ?_
              refine G.frontAt 1 rfl ?_
              refine G.frontAt 1 rfl ?_
              refine G.less ?_ (ih384 H199 l200 B202 c203 x204 (wi64 (x205 + 1)) h)
              exact ⟨rfl, rfl, rfl, rfl, rfl, rfl, rfl, rfl, trivial⟩
          · replace h := ifF h k564
            refine G.exit rfl ?_
            refine G.seq ?_
            refine G.region (l := [0, 1, 2, 3, 4]) rfl ?_
            refine G.move rfl rfl rfl rfl ?_
            refine G.move rfl rfl rfl rfl ?_
            refine G.move rfl rfl rfl rfl ?_
            refine G.frontAt 1 rfl ?_
            obtain ⟨t493, e494, h⟩ := bindS h
            refine G.callS rfl rfl rfl rfl call16 (reads_History_Meets.ok (S_reads_History.mk x204) g9 B202 c203 a1 a2 A2 n2 (F2.mono l200) e494) ?_
            rintro v495 L496 ⟨rfl, rfl⟩
            refine G.assign rfl rfl rfl rfl ?_
            refine G.regionEnd ?_
            refine G.seq ?_
            refine G.region (l := [0, 1, 2, 3, 4]) rfl ?_
            refine G.move rfl rfl rfl rfl ?_
            refine G.move rfl rfl rfl rfl ?_
            refine G.move rfl rfl rfl rfl ?_
            refine G.frontAt 1 rfl ?_
            refine G.frontAt 1 rfl ?_
            obtain ⟨t497, e498, h⟩ := bindS h
            refine G.callS rfl rfl rfl rfl call16 (reads_History_Meets.ok (S_reads_History.mk x204) g9 B202 c203 a1 a3 A3 n3 (F3.mono l200) e498) ?_
            rintro v499 L500 ⟨rfl, rfl⟩
            refine G.assign rfl rfl rfl rfl ?_
            refine G.regionEnd ?_
            refine G.seq ?_
            refine G.region (l := [0, 1, 2, 3, 4, 5, 6, 7]) rfl ?_
            refine G.move rfl rfl rfl rfl ?_
            refine G.move rfl rfl rfl rfl ?_
            refine G.move rfl rfl rfl rfl ?_
            refine G.osNil 24 K_S_api_Touch ?_
            obtain ⟨k505, h⟩ := guardS h
            refine G.append (df := K_S_api_Touch) (xs := ([] : List S_api_Touch)) (ys := a2) (z0 := (S_api_Touch.mk 0 0 [] 0 0)) (z := .agg (S_api_Touch.enc (S_api_Touch.mk 0 0 [] 0 0)).toArray) (cz := S_api_Touch.enc (S_api_Touch.mk 0 0 [] 0 0)) rfl rfl rfl rfl rfl rfl el31 Try.underlying31 rfl (by kernel_rfl) rfl (K_S_api_Touch.of (S_api_Touch.mk 0 0 [] 0 0)) (fun w hs => SrcR.ro (F2.mono l200) hs) ⟨by omega, by omega⟩ ?_
            intro B502 c503
            refine G.move rfl rfl rfl rfl ?_
            obtain ⟨k509, h⟩ := guardS h
            refine G.append (df := K_S_api_Touch) (xs := (([] : List S_api_Touch) ++ a2)) (ys := a3) (z0 := (S_api_Touch.mk 0 0 [] 0 0)) (z := .agg (S_api_Touch.enc (S_api_Touch.mk 0 0 [] 0 0)).toArray) (cz := S_api_Touch.enc (S_api_Touch.mk 0 0 [] 0 0)) rfl rfl rfl rfl (by simp) rfl el31 Try.underlying31 rfl (by kernel_rfl) rfl (K_S_api_Touch.of (S_api_Touch.mk 0 0 [] 0 0)) (fun w hs => SrcR.ro (F3.mono l200) hs) ⟨by omega, by omega⟩ ?_
            intro B506 c507
            refine G.frontAt 2 rfl ?_
            refine G.frontAt 2 rfl ?_
            obtain ⟨t510, e511, h⟩ := bindS h
            refine G.callS rfl rfl rfl rfl call16 (reads_History_Meets_s2.ok (S_reads_History.mk x204) g9 B202 c203 a1 ((([] : List S_api_Touch) ++ a2) ++ a3) B506 c507 e511) ?_
            rintro v512 L513 ⟨rfl, rfl⟩
            refine G.assign rfl rfl rfl rfl ?_
            refine G.regionEnd ?_
            refine G.seq ?_
            refine G.region (l := [0, 1, 2, 3, 4, 5, 6, 7]) rfl ?_
            refine G.move rfl rfl rfl rfl ?_
            refine G.move rfl rfl rfl rfl ?_
            refine G.move rfl rfl rfl rfl ?_
            refine G.osNil 24 K_S_api_Touch ?_
            obtain ⟨k518, h⟩ := guardS h
            refine G.append (df := K_S_api_Touch) (xs := ([] : List S_api_Touch)) (ys := a3) (z0 := (S_api_Touch.mk 0 0 [] 0 0)) (z := .agg (S_api_Touch.enc (S_api_Touch.mk 0 0 [] 0 0)).toArray) (cz := S_api_Touch.enc (S_api_Touch.mk 0 0 [] 0 0)) rfl rfl rfl rfl rfl rfl el31 Try.underlying31 rfl (by kernel_rfl) rfl (K_S_api_Touch.of (S_api_Touch.mk 0 0 [] 0 0)) (fun w hs => SrcR.ro (F3.mono l200) hs) ⟨by omega, by omega⟩ ?_
            intro B515 c516
            refine G.move rfl rfl rfl rfl ?_
            obtain ⟨k522, h⟩ := guardS h
            refine G.append (df := K_S_api_Touch) (xs := (([] : List S_api_Touch) ++ a3)) (ys := a2) (z0 := (S_api_Touch.mk 0 0 [] 0 0)) (z := .agg (S_api_Touch.enc (S_api_Touch.mk 0 0 [] 0 0)).toArray) (cz := S_api_Touch.enc (S_api_Touch.mk 0 0 [] 0 0)) rfl rfl rfl rfl (by simp) rfl el31 Try.underlying31 rfl (by kernel_rfl) rfl (K_S_api_Touch.of (S_api_Touch.mk 0 0 [] 0 0)) (fun w hs => SrcR.ro (F2.mono l200) hs) ⟨by omega, by omega⟩ ?_
            intro B519 c520
            refine G.frontAt 2 rfl ?_
            refine G.frontAt 2 rfl ?_
            obtain ⟨t523, e524, h⟩ := bindS h
            refine G.callS rfl rfl rfl rfl call16 (reads_History_Meets_s2.ok (S_reads_History.mk x204) g9 B202 c203 a1 ((([] : List S_api_Touch) ++ a3) ++ a2) B519 c520 e524) ?_
            rintro v525 L526 ⟨rfl, rfl⟩
            refine G.assign rfl rfl rfl rfl ?_
            refine G.regionEnd ?_
            refine G.seq ?_
            refine G.region (l := [0, 1, 2, 3, 4, 5, 6, 7, 8, 9, 10, 11, 12, 13, 14, 15, 16, 17, 18, 19, 20, 21, 22, 23, 24, 25, 26, 27, 28, 29, 30, 31, 32, 33, 34, 35]) rfl ?_
            refine G.move rfl rfl rfl rfl ?_
            refine G.move rfl rfl rfl rfl ?_
            refine G.rest (l1 := [2, 3, 4, 5, 6, 7, 8]) (l2 := [9, 10, 11, 12, 13, 14, 15, 16, 17, 18, 19, 20, 21, 22, 23, 24, 25, 26, 27, 28, 29, 30, 31, 32, 33, 34, 35]) (fun GG K => ∀ (b528 : Bool), armoirelaw15_ReadsMore.j0 a1 a2 x204 t493 t510 t523 b528 = some r → GG H199 [(1, .int .u64 a1), (2, .slice A2 a2.length n2), (10, .pointer (some ⟨g9, 0, none⟩)), (13, .bool t493), (15, .bool t510), (16, .bool t523), (86, .bool b528)] (OS 63 K_S_reads_was B202 c203 x204 :: BK 60 K_R_reads_History g9 (R_reads_History.mk (B202, x204.length, c203)) :: Fr) K) ?_ ?_
            · intro b528 h
              unfold armoirelaw15_ReadsMore.j0 at h
              refine G.move rfl rfl rfl rfl ?_
              refine G.splitB (d := 87) rfl (fun k560 => ?_) (fun k560 => ?_)
              · replace h := ifT h k560
                refine G.move rfl rfl rfl rfl ?_
                refine G.move rfl rfl rfl rfl ?_
                refine G.cmpB (a := t523) (b := t510) (r := (t523 == t510)) rfl rfl rfl rfl rfl Try.underlying4 rfl ?_
                refine G.pickT rfl rfl rfl rfl rfl ?_
                refine G.move rfl rfl rfl rfl ?_
                refine G.splitB (d := 92) rfl (fun k559 => ?_) (fun k559 => ?_)
                · replace h := ifT h k559
                  refine G.move rfl rfl rfl rfl ?_
                  refine G.move rfl rfl rfl rfl ?_
                  refine G.frontAt 1 rfl ?_
                  obtain ⟨t533, e534, h⟩ := bindS h
                  refine G.callS rfl rfl rfl rfl call16 (reads_History_Meets.ok (S_reads_History.mk x204) g9 B202 c203 a1 ([] : List S_api_Touch) none 0 (SlR.nil none 0) e534) ?_
                  rintro v535 L536 ⟨rfl, rfl⟩
                  refine G.not rfl rfl rfl rfl rfl ?_
                  refine G.pickT rfl rfl rfl rfl rfl ?_
                  refine G.move rfl rfl rfl rfl ?_
                  refine G.splitB (d := 98) rfl (fun k558 => ?_) (fun k558 => ?_)
                  · replace h := ifT h k558
                    refine G.move rfl rfl rfl rfl ?_
                    refine G.not rfl rfl rfl rfl rfl ?_
                    refine G.move rfl rfl rfl rfl ?_
                    refine G.splitB (d := 101) rfl (fun k557 => ?_) (fun k557 => ?_)
                    · replace h := ifT h k557
                      refine G.unwanted rfl rfl rfl rfl ?_
                      refine G.unwanted rfl rfl rfl rfl ?_
                      refine G.pickT rfl rfl rfl rfl rfl ?_
                      refine G.move rfl rfl rfl rfl ?_
                      refine G.unwanted rfl rfl rfl rfl ?_
                      refine G.unwanted rfl rfl rfl rfl ?_
                      refine G.unwanted rfl rfl rfl rfl ?_
                      refine G.unwanted rfl rfl rfl rfl ?_
                      refine G.unwanted rfl rfl rfl rfl ?_
                      refine G.pickT rfl rfl rfl rfl rfl ?_
                      refine G.pickT rfl rfl rfl rfl rfl ?_
                      refine G.assign rfl rfl rfl rfl ?_
                      refine G.regionEnd ?_
                      refine G.drop ?_
                      refine G.drop ?_
                      obtain rfl := Option.some.inj h
                      exact G.ret1 Try.func5 rfl rfl (fun w hs => ⟨_, _, _, rfl, l200, ⟨rfl, rfl⟩, hs⟩)
                    · replace h := ifFB h k557
                      refine G.move rfl rfl rfl rfl ?_
                      refine G.cmp (a1 = 0) rfl rfl rfl rfl rfl rfl Iff.rfl ?_
                      refine G.pickF rfl rfl rfl rfl rfl ?_
                      refine G.move rfl rfl rfl rfl ?_
                      refine G.splitP (d := 105) rfl (fun k556 => ?_) (fun k556 => ?_)
                      · replace h := ifT h k556
                        refine G.unwanted rfl rfl rfl rfl ?_
                        refine G.unwanted rfl rfl rfl rfl ?_
                        refine G.unwanted rfl rfl rfl rfl ?_
                        refine G.unwanted rfl rfl rfl rfl ?_
                        refine G.unwanted rfl rfl rfl rfl ?_
                        refine G.pickT rfl rfl rfl rfl rfl ?_
                        refine G.pickT rfl rfl rfl rfl rfl ?_
                        refine G.assign rfl rfl rfl rfl ?_
                        refine G.regionEnd ?_
                        refine G.drop ?_
                        refine G.drop ?_
                        obtain rfl := Option.some.inj h
                        exact G.ret1 Try.func5 rfl rfl (fun w hs => ⟨_, _, _, rfl, l200, ⟨rfl, rfl⟩, hs⟩)
                      · replace h := ifF h k556
                        refine G.move rfl rfl rfl rfl ?_
                        refine G.move rfl rfl rfl rfl ?_
                        refine G.bin (m := a1) (n := 1) (r := wu64 (a1 - 1)) rfl rfl rfl rfl rfl rfl rfl ?_
                        refine G.move rfl rfl rfl rfl ?_
                        refine G.frontAt 1 rfl ?_
                        refine G.frontAt 1 rfl ?_
                        obtain ⟨t552, e553, h⟩ := bindS h
                        refine G.callS rfl rfl rfl rfl call16 (reads_History_Meets.ok (S_reads_History.mk x204) g9 B202 c203 (wu64 (a1 - 1)) a2 A2 n2 (F2.mono l200) e553) ?_
                        rintro v554 L555 ⟨rfl, rfl⟩
                        refine G.pickF rfl rfl rfl rfl rfl ?_
                        refine G.pickT rfl rfl rfl rfl rfl ?_
                        refine G.assign rfl rfl rfl rfl ?_
                        refine G.regionEnd ?_
                        refine G.drop ?_
                        refine G.drop ?_
                        obtain rfl := Option.some.inj h
                        exact G.ret1 Try.func5 rfl rfl (fun w hs => ⟨_, _, _, rfl, l200, ⟨rfl, rfl⟩, hs⟩)
                  · replace h := ifFB h k558
                    refine G.unwanted rfl rfl rfl rfl ?_
                    refine G.unwanted rfl rfl rfl rfl ?_
                    refine G.unwanted rfl rfl rfl rfl ?_
                    refine G.unwanted rfl rfl rfl rfl ?_
                    refine G.unwanted rfl rfl rfl rfl ?_
                    refine G.unwanted rfl rfl rfl rfl ?_
                    refine G.unwanted rfl rfl rfl rfl ?_
                    refine G.unwanted rfl rfl rfl rfl ?_
                    refine G.unwanted rfl rfl rfl rfl ?_
                    refine G.unwanted rfl rfl rfl rfl ?_
                    refine G.unwanted rfl rfl rfl rfl ?_
                    refine G.unwanted rfl rfl rfl rfl ?_
                    refine G.unwanted rfl rfl rfl rfl ?_
                    refine G.pickF rfl rfl rfl rfl rfl ?_
                    refine G.assign rfl rfl rfl rfl ?_
                    refine G.regionEnd ?_
                    refine G.drop ?_
                    refine G.drop ?_
                    obtain rfl := Option.some.inj h
                    exact G.ret1 Try.func5 rfl rfl (fun w hs => ⟨_, _, _, rfl, l200, ⟨rfl, rfl⟩, hs⟩)
                · replace h := ifFB h k559
                  refine G.unwanted rfl rfl rfl rfl ?_
                  refine G.unwanted rfl rfl rfl rfl ?_
                  refine G.unwanted rfl rfl rfl rfl ?_
                  refine G.unwanted rfl rfl rfl rfl ?_
                  refine G.pickF rfl rfl rfl rfl rfl ?_
                  refine G.move rfl rfl rfl rfl ?_
                  refine G.unwanted rfl rfl rfl rfl ?_
                  refine G.unwanted rfl rfl rfl rfl ?_
                  refine G.unwanted rfl rfl rfl rfl ?_
                  refine G.unwanted rfl rfl rfl rfl ?_
                  refine G.unwanted rfl rfl rfl rfl ?_
                  refine G.unwanted rfl rfl rfl rfl ?_
                  refine G.unwanted rfl rfl rfl rfl ?_
                  refine G.unwanted rfl rfl rfl rfl ?_
                  refine G.unwanted rfl rfl rfl rfl ?_
                  refine G.unwanted rfl rfl rfl rfl ?_
                  refine G.unwanted rfl rfl rfl rfl ?_
                  refine G.unwanted rfl rfl rfl rfl ?_
                  refine G.unwanted rfl rfl rfl rfl ?_
                  refine G.pickF rfl rfl rfl rfl rfl ?_
                  refine G.assign rfl rfl rfl rfl ?_
                  refine G.regionEnd ?_
                  refine G.drop ?_
                  refine G.drop ?_
                  obtain rfl := Option.some.inj h
                  exact G.ret1 Try.func5 rfl rfl (fun w hs => ⟨_, _, _, rfl, l200, ⟨rfl, rfl⟩, hs⟩)
              · replace h := ifFB h k560
                refine G.unwanted rfl rfl rfl rfl ?_
                refine G.unwanted rfl rfl rfl rfl ?_
                refine G.unwanted rfl rfl rfl rfl ?_
                refine G.pickF rfl rfl rfl rfl rfl ?_
                refine G.move rfl rfl rfl rfl ?_
                refine G.unwanted rfl rfl rfl rfl ?_
                refine G.unwanted rfl rfl rfl rfl ?_
                refine G.unwanted rfl rfl rfl rfl ?_
                refine G.unwanted rfl rfl rfl rfl ?_
                refine G.pickF rfl rfl rfl rfl rfl ?_
                refine G.move rfl rfl rfl rfl ?_
                refine G.unwanted rfl rfl rfl rfl ?_
                refine G.unwanted rfl rfl rfl rfl ?_
                refine G.unwanted rfl rfl rfl rfl ?_
                refine G.unwanted rfl rfl rfl rfl ?_
                refine G.unwanted rfl rfl rfl rfl ?_
                refine G.unwanted rfl rfl rfl rfl ?_
                refine G.unwanted rfl rfl rfl rfl ?_
                refine G.unwanted rfl rfl rfl rfl ?_
                refine G.unwanted rfl rfl rfl rfl ?_
                refine G.unwanted rfl rfl rfl rfl ?_
                refine G.unwanted rfl rfl rfl rfl ?_
                refine G.unwanted rfl rfl rfl rfl ?_
                refine G.unwanted rfl rfl rfl rfl ?_
                refine G.pickF rfl rfl rfl rfl rfl ?_
                refine G.assign rfl rfl rfl rfl ?_
                refine G.regionEnd ?_
                refine G.drop ?_
                refine G.drop ?_
                obtain rfl := Option.some.inj h
                exact G.ret1 Try.func5 rfl rfl (fun w hs => ⟨_, _, _, rfl, l200, ⟨rfl, rfl⟩, hs⟩)
            intro J561
            refine G.splitB (d := 79) rfl (fun k563 => ?_) (fun k563 => ?_)
            · replace h := ifT h k563
              refine G.move rfl rfl rfl rfl ?_
              refine G.move rfl rfl rfl rfl ?_
              refine G.move rfl rfl rfl rfl ?_
              refine G.splitB (d := 82) rfl (fun k562 => ?_) (fun k562 => ?_)
              · replace h := ifT h k562
                refine G.unwanted rfl rfl rfl rfl ?_
                refine G.pickT rfl rfl rfl rfl rfl ?_
                refine G.cmpB (a := t510) (b := true) (r := (t510 == true)) rfl rfl rfl rfl rfl Try.underlying4 rfl ?_
                refine G.pickT rfl rfl rfl rfl rfl ?_
                refine G.frontAt 2 rfl ?_
                refine G.drop ?_
                refine G.frontAt 2 rfl ?_
                refine G.drop ?_
                refine G.frontAt 1 rfl ?_
                refine G.less ?_ (J561  (t510 == true) h)
                exact ⟨rfl, rfl, rfl, rfl, rfl, rfl, rfl, trivial⟩
              · replace h := ifFB h k562
                refine G.move rfl rfl rfl rfl ?_
                refine G.pickF rfl rfl rfl rfl rfl ?_
                refine G.cmpB (a := t510) (b := t497) (r := (t510 == t497)) rfl rfl rfl rfl rfl Try.underlying4 rfl ?_
                refine G.pickT rfl rfl rfl rfl rfl ?_
                refine G.frontAt 2 rfl ?_
                refine G.drop ?_
                refine G.frontAt 2 rfl ?_
                refine G.drop ?_
                refine G.frontAt 1 rfl ?_
                refine G.less ?_ (J561  (t510 == t497) h)
                exact ⟨rfl, rfl, rfl, rfl, rfl, rfl, rfl, trivial⟩
            · replace h := ifFB h k563
              refine G.unwanted rfl rfl rfl rfl ?_
              refine G.unwanted rfl rfl rfl rfl ?_
              refine G.unwanted rfl rfl rfl rfl ?_
              refine G.unwanted rfl rfl rfl rfl ?_
              refine G.unwanted rfl rfl rfl rfl ?_
              refine G.unwanted rfl rfl rfl rfl ?_
              refine G.pickF rfl rfl rfl rfl rfl ?_
              refine G.move rfl rfl rfl rfl ?_
              refine G.unwanted rfl rfl rfl rfl ?_
              refine G.unwanted rfl rfl rfl rfl ?_
              refine G.unwanted rfl rfl rfl rfl ?_
              refine G.pickF rfl rfl rfl rfl rfl ?_
              refine G.move rfl rfl rfl rfl ?_
              refine G.unwanted rfl rfl rfl rfl ?_
              refine G.unwanted rfl rfl rfl rfl ?_
              refine G.unwanted rfl rfl rfl rfl ?_
              refine G.unwanted rfl rfl rfl rfl ?_
              refine G.pickF rfl rfl rfl rfl rfl ?_
              refine G.move rfl rfl rfl rfl ?_
              refine G.unwanted rfl rfl rfl rfl ?_
              refine G.unwanted rfl rfl rfl rfl ?_
              refine G.unwanted rfl rfl rfl rfl ?_
              refine G.unwanted rfl rfl rfl rfl ?_
              refine G.unwanted rfl rfl rfl rfl ?_
              refine G.unwanted rfl rfl rfl rfl ?_
              refine G.unwanted rfl rfl rfl rfl ?_
              refine G.unwanted rfl rfl rfl rfl ?_
              refine G.unwanted rfl rfl rfl rfl ?_
              refine G.unwanted rfl rfl rfl rfl ?_
              refine G.unwanted rfl rfl rfl rfl ?_
              refine G.unwanted rfl rfl rfl rfl ?_
              refine G.unwanted rfl rfl rfl rfl ?_
              refine G.pickF rfl rfl rfl rfl rfl ?_
              refine G.assign rfl rfl rfl rfl ?_
              refine G.regionEnd ?_
              refine G.drop ?_
              refine G.drop ?_
              refine G.drop ?_
              refine G.drop ?_
              obtain rfl := Option.some.inj h
              exact G.ret1 Try.func5 rfl rfl (fun w hs => ⟨_, _, _, rfl, l200, ⟨rfl, rfl⟩, hs⟩)
      intro J565
      refine G.frontAt 1 rfl ?_
      refine G.less ?_ (J565 FUEL H (PH.le_refl _) B11 c12 t5.l 0 h)
      exact ⟨rfl, rfl, rfl, rfl, rfl, rfl, rfl, rfl, trivial⟩
def armoirelaw15_ReadsUndone.reg7_25 (B : List (Nat × Value)) : Reg := ⟨[[], [], [0, 1], [2], [], [], [4, 5], [6], [3, 7]], [some 90, some 91, some 92, some 93, some 94, some 95, some 96, some 97, some 98], B⟩
theorem armoirelaw15_ReadsUndone.reg7_25_ap (B : List (Nat × Value)) : (armoirelaw15_ReadsUndone.reg7_25 B).apart = true := rfl
set_option maxRecDepth 20000 in
theorem armoirelaw15_ReadsUndone.ok {O : World} {H : PH} {Fr : List Res} (a0 : (List S_api_Touch)) (A0 : Option Addr) (n0 : Nat) (F0 : SlR K_S_api_Touch H A0 n0 a0) (a1 : (List S_api_Touch)) (A1 : Option Addr) (n1 : Nat) (F1 : SlR K_S_api_Touch H A1 n1 a1) {r : Bool} (h : armoirelaw15_ReadsUndone.f a0 a1 = some r) :
    CtrS Try.prog 7 [.slice A0 a0.length n0, .slice A1 a1.length n1] O H (Fr) (fun v L' => v = .bool r ∧ Fr = L') := by
  refine CtrS.start (n := 101) Try.func7 rfl Try.ntmps7 rfl rfl ?_
  unfold armoirelaw15_ReadsUndone.f at h
  refine G.seq ?_
  refine G.region (l := [0]) rfl ?_
  refine G.assign rfl rfl rfl rfl ?_
  refine G.regionEnd ?_
  refine G.seq ?_
  refine G.region (l := [0, 1]) rfl ?_
  obtain ⟨t1, e2, h⟩ := bindS h
  refine G.callS rfl rfl rfl rfl call9 (armoirelaw15_live.ok  e2) ?_
  rintro v3 L4 ⟨rfl, rfl⟩
  refine G.assign rfl rfl rfl rfl ?_
  refine G.regionEnd ?_
  refine G.seq ?_
  refine G.region (l := [0, 1]) rfl ?_
  obtain ⟨t5, e6, h⟩ := bindS h
  refine G.callS rfl rfl rfl rfl call17 (reads_New.ok  e6) ?_
  rintro v7 L8 ⟨g9, B11, c12, rfl, rfl⟩
  refine G.assign rfl rfl rfl rfl ?_
  refine G.regionEnd ?_
  refine G.seq ?_
  refine G.seq ?_
  refine G.region (l := [0, 1, 2, 3, 4, 5, 6, 7, 8, 9]) rfl ?_
  refine G.move rfl rfl rfl rfl ?_
  refine G.eqPtr (a := (some ⟨g9, 0, none⟩)) (b := none) (r := false) rfl rfl rfl rfl rfl Try.underlying40 (by simp) ?_
  refine G.move rfl rfl rfl rfl ?_
  refine G.move rfl rfl rfl rfl ?_
  refine G.len (m := a0.length) rfl rfl rfl rfl Try.underlying31 ?_
  refine G.move rfl rfl rfl rfl ?_
  refine G.len (m := a1.length) rfl rfl rfl rfl Try.underlying31 ?_
  refine G.bin (m := (a0.length : Int)) (n := (a1.length : Int)) (r := wi64 ((a0.length : Int) + (a1.length : Int))) rfl rfl rfl rfl rfl rfl rfl ?_
  refine G.cmp (100 < (wi64 ((a0.length : Int) + (a1.length : Int)))) rfl rfl rfl rfl rfl rfl Iff.rfl ?_
  refine G.pickF rfl rfl rfl rfl rfl ?_
  refine G.regionEnd ?_
  refine G.condP rfl (fun k2211 => ?_) (fun k2211 => ?_)
  · replace h := ifT h k2211
    refine G.seq ?_
    refine G.region (l := [0, 1, 2, 3, 4, 5]) rfl ?_
    refine G.move rfl rfl rfl rfl ?_
    refine G.move rfl rfl rfl rfl ?_
    refine G.splitB (d := 30) rfl (fun k17 => ?_) (fun k17 => ?_)
    · replace h := ifT h k17
      refine G.move rfl rfl rfl rfl ?_
      refine G.eqPtrn (a := (some ⟨g9, 0, none⟩)) (b := none) (r := true) rfl rfl rfl rfl rfl Try.underlying40 (by simp) ?_
      refine G.pickT rfl rfl rfl rfl rfl ?_
      refine G.assign rfl rfl rfl rfl ?_
      refine G.regionEnd ?_
      refine G.drop ?_
      refine G.drop ?_
      obtain rfl := Option.some.inj h
      exact G.ret1 Try.func7 rfl rfl (fun w hs => ⟨_, _, rfl, ⟨rfl, rfl⟩, hs⟩)
    · replace h := ifFB h k17
      refine G.unwanted rfl rfl rfl rfl ?_
      refine G.unwanted rfl rfl rfl rfl ?_
      refine G.pickF rfl rfl rfl rfl rfl ?_
      refine G.assign rfl rfl rfl rfl ?_
      refine G.regionEnd ?_
      refine G.drop ?_
      refine G.drop ?_
      obtain rfl := Option.some.inj h
      exact G.ret1 Try.func7 rfl rfl (fun w hs => ⟨_, _, rfl, ⟨rfl, rfl⟩, hs⟩)
  · replace h := ifF h k2211
    refine G.skip ?_
    refine G.seq ?_
    refine G.seq ?_
    refine G.region (l := [0, 1, 2]) rfl ?_
    refine G.move rfl rfl rfl rfl ?_
    refine G.len (m := a0.length) rfl rfl rfl rfl Try.underlying31 ?_
    refine G.move rfl rfl rfl rfl ?_
    refine G.regionEnd ?_
    refine G.block ?_
    refine G.loop (fun GG K => ∀ (d1475 : Nat) (B745 : Option Addr) (c746 : Nat) (x747 : (List S_api_Touch)) (x748 : Int), armoirelaw15_ReadsUndone.l0 a0 a1 t1 d1475 x747 x748 = some r → GG H [(0, .slice A0 a0.length n0), (1, .slice A1 a1.length n1), (5, .bool t1), (6, .pointer (some ⟨g9, 0, none⟩)), (34, .slice A0 a0.length n0), (35, .int .i64 (a0.length : Int)), (36, .int .i64 x748)] (OS 24 K_S_api_Touch B745 c746 x747 :: BK 69 K_R_reads_Set g9 (R_reads_Set.mk (B745, x747.length, c746)) :: Fr) K) ?_ ?_
    · intro d1475
      induction d1475 with
      | zero => intro B745 c746 x747 x748 h; rw [armoirelaw15_ReadsUndone.l0] at h; cases h
      | succ d1475 ih1474 =>
        intro B745 c746 x747 x748 h
        rw [armoirelaw15_ReadsUndone.l0] at h
        refine G.seq ?_
        refine G.region (l := [0]) rfl ?_
        refine G.cmp (x748 < (a0.length : Int)) rfl rfl rfl rfl rfl rfl Iff.rfl ?_
        refine G.regionEnd ?_
        refine G.seq ?_
        refine G.condP rfl (fun k2209 => ?_) (fun k2209 => ?_)
        · replace h := ifT h k2209
          refine G.skip ?_
          refine G.seq ?_
          refine G.block ?_
          refine G.seq ?_
          refine G.region (l := [0, 1, 2, 3]) rfl ?_
          obtain ⟨k1833, h⟩ := guardS h
          refine G.indexR (xs := a0) (j := x748) (S_api_Touch.mk 0 0 [] 0 0) rfl rfl rfl rfl rfl el31 F0 k1833 ?_
          intro a1831 f1832
          refine G.loadA (df := K_S_api_Touch) (y := a0.getD x748.toNat (S_api_Touch.mk 0 0 [] 0 0)) rfl rfl rfl rfl ty24 rfl (fun w hs => Rd.ro f1832 hs) ?_
          intro cs1834 f1835
          obtain rfl := K_S_api_Touch.open f1835
          refine G.alloc (dk := K_S_api_Touch) (x0 := (S_api_Touch.mk 0 0 [] 0 0)) (z := .agg (S_api_Touch.enc (S_api_Touch.mk 0 0 [] 0 0)).toArray) (cs := S_api_Touch.enc (S_api_Touch.mk 0 0 [] 0 0)) rfl rfl rfl (by kernel_rfl) rfl (fun H => K_S_api_Touch.of (S_api_Touch.mk 0 0 [] 0 0)) ?_
          intro g1836
          refine G.store (df := K_S_api_Touch) (y := a0.getD x748.toNat (S_api_Touch.mk 0 0 [] 0 0)) (x1 := a0.getD x748.toNat (S_api_Touch.mk 0 0 [] 0 0)) rfl rfl rfl rfl (Lens.id _ _) (VR.A (cs := S_api_Touch.enc (a0.getD x748.toNat (S_api_Touch.mk 0 0 [] 0 0))) (K_S_api_Touch.of (a0.getD x748.toNat (S_api_Touch.mk 0 0 [] 0 0)))) sz24 rfl ?_
          refine G.regionEnd ?_
          refine G.region (l := [0, 1, 2]) rfl ?_
          refine G.move rfl rfl rfl rfl ?_
          refine G.loadA (df := K_S_api_Touch) (y := a0.getD x748.toNat (S_api_Touch.mk 0 0 [] 0 0)) rfl rfl rfl rfl ty24 rfl (fun w hs => Rd.bk (Lens.id _ _) hs (j := 0) rfl) ?_
          intro cs1838 f1839
          obtain rfl := K_S_api_Touch.open f1839
          refine G.frontAt 1 rfl ?_
          refine G.frontAt 2 rfl ?_
          obtain ⟨t1840, e1841, h⟩ := bindS h
          refine G.callS rfl rfl rfl rfl call18 (reads_Set_Add.ok (S_reads_Set.mk x747) g9 B745 c746 (a0.getD x748.toNat (S_api_Touch.mk 0 0 [] 0 0)) e1841) ?_
          rintro v1842 L1843 ⟨B1844, c1845, rfl, rfl⟩
          refine G.regionEnd ?_
          refine G.inBlock ?_
          refine G.region (l := [0, 1]) rfl ?_
          refine G.bin (m := x748) (n := 1) (r := wi64 (x748 + 1)) rfl rfl rfl rfl rfl rfl rfl ?_
          refine G.move rfl rfl rfl rfl ?_
          refine G.regionEnd ?_
          refine G.round ?_
          refine G.frontAt 2 rfl ?_
          refine G.drop ?_
          refine G.frontAt 1 rfl ?_
          refine G.less ?_ (ih1474  B1844 c1845 t1840.2.l (wi64 (x748 + 1)) h)
          exact ⟨rfl, rfl, rfl, rfl, rfl, rfl, rfl, trivial⟩
        · replace h := ifF h k2209
          refine G.exit rfl ?_
          refine G.seq ?_
          refine G.region (l := [0, 1, 2]) rfl ?_
          refine G.move rfl rfl rfl rfl ?_
          refine G.frontAt 1 rfl ?_
          obtain ⟨t1847, e1848, h⟩ := bindS h
          refine G.callS rfl rfl rfl rfl call22 (reads_Set_All.ok (S_reads_Set.mk x747) g9 B745 c746 e1848) ?_
          rintro v1849 L1850 ⟨B1851, c1852, rfl, rfl⟩
          refine G.assign rfl rfl rfl rfl ?_
          refine G.regionEnd ?_
          refine G.seq ?_
          refine G.region (l := [0, 1, 2]) rfl ?_
          refine G.move rfl rfl rfl rfl ?_
          refine G.frontAt 1 rfl ?_
          refine G.frontAt 1 rfl ?_
          obtain ⟨t1854, e1855, h⟩ := bindS h
          refine G.callS rfl rfl rfl rfl call23 (reads_Set_Mark.ok (S_reads_Set.mk x747) g9 B745 c746 e1855) ?_
          rintro v1856 L1857 ⟨rfl, rfl⟩
          refine G.assign rfl rfl rfl rfl ?_
          refine G.regionEnd ?_
          refine G.seq ?_
          refine G.seq ?_
          refine G.region (l := [0, 1, 2, 3, 4, 5]) rfl ?_
          refine G.move rfl rfl rfl rfl ?_
          refine G.osNil 24 K_S_api_Touch ?_
          obtain ⟨k1862, h⟩ := guardS h
          refine G.append (df := K_S_api_Touch) (xs := ([] : List S_api_Touch)) (ys := a0) (z0 := (S_api_Touch.mk 0 0 [] 0 0)) (z := .agg (S_api_Touch.enc (S_api_Touch.mk 0 0 [] 0 0)).toArray) (cz := S_api_Touch.enc (S_api_Touch.mk 0 0 [] 0 0)) rfl rfl rfl rfl rfl rfl el31 Try.underlying31 rfl (by kernel_rfl) rfl (K_S_api_Touch.of (S_api_Touch.mk 0 0 [] 0 0)) (fun w hs => SrcR.ro F0 hs) ⟨by omega, by omega⟩ ?_
          intro B1859 c1860
          refine G.move rfl rfl rfl rfl ?_
          obtain ⟨k1866, h⟩ := guardS h
          refine G.append (df := K_S_api_Touch) (xs := (([] : List S_api_Touch) ++ a0)) (ys := a1) (z0 := (S_api_Touch.mk 0 0 [] 0 0)) (z := .agg (S_api_Touch.enc (S_api_Touch.mk 0 0 [] 0 0)).toArray) (cz := S_api_Touch.enc (S_api_Touch.mk 0 0 [] 0 0)) rfl rfl rfl rfl (by simp) rfl el31 Try.underlying31 rfl (by kernel_rfl) rfl (K_S_api_Touch.of (S_api_Touch.mk 0 0 [] 0 0)) (fun w hs => SrcR.ro F1 hs) ⟨by omega, by omega⟩ ?_
          intro B1863 c1864
          refine G.len (m := (((([] : List S_api_Touch) ++ a0) ++ a1).length)) rfl rfl rfl rfl Try.underlying31 ?_
          refine G.move rfl rfl rfl rfl ?_
          refine G.regionEnd ?_
          refine G.block ?_
          refine G.loop (fun GG K => ∀ (d2090 : Nat) (B1977 : Option Addr) (c1978 : Nat) (x1979 : (List S_api_Touch)) (x1980 : Int), armoirelaw15_ReadsUndone.l1 a0 a1 t1 t1847 t1854 d2090 x1979 x1980 = some r → GG H [(1, .slice A1 a1.length n1), (5, .bool t1), (6, .pointer (some ⟨g9, 0, none⟩)), (9, .slice B1851 t1847.length c1852), (10, .int .i64 t1854), (51, .slice B1863 (((([] : List S_api_Touch) ++ a0) ++ a1).length) c1864), (52, .int .i64 ((((([] : List S_api_Touch) ++ a0) ++ a1).length) : Int)), (53, .int .i64 x1980)] (OS 24 K_S_api_Touch B1977 c1978 x1979 :: BK 69 K_R_reads_Set g9 (R_reads_Set.mk (B1977, x1979.length, c1978)) :: OS 24 K_S_api_Touch B1851 c1852 t1847 :: OS 24 K_S_api_Touch B1863 c1864 ((([] : List S_api_Touch) ++ a0) ++ a1) :: Fr) K) ?_ ?_
          · intro d2090
            induction d2090 with
            | zero => intro B1977 c1978 x1979 x1980 h; rw [armoirelaw15_ReadsUndone.l1] at h; cases h
            | succ d2090 ih2089 =>
              intro B1977 c1978 x1979 x1980 h
              rw [armoirelaw15_ReadsUndone.l1] at h
              refine G.seq ?_
              refine G.region (l := [0]) rfl ?_
              refine G.cmp (x1980 < ((((([] : List S_api_Touch) ++ a0) ++ a1).length) : Int)) rfl rfl rfl rfl rfl rfl Iff.rfl ?_
              refine G.regionEnd ?_
              refine G.seq ?_
              refine G.condP rfl (fun k2207 => ?_) (fun k2207 => ?_)
              · replace h := ifT h k2207
                refine G.skip ?_
                refine G.seq ?_
                refine G.block ?_
                refine G.seq ?_
                refine G.region (l := [0, 1, 2, 3]) rfl ?_
                obtain ⟨k2139, h⟩ := guardS h
                have q2138 : x1980.toNat < ((([] : List S_api_Touch) ++ a0) ++ a1).length := by omega
                refine G.indexO (xs := ((([] : List S_api_Touch) ++ a0) ++ a1)) (j := x1980) (off := x1980.toNat * 5) rfl rfl rfl rfl rfl el31 (r := 3) rfl (by simp) k2139 rfl ?_
                refine G.loadA (df := K_S_api_Touch) (y := ((([] : List S_api_Touch) ++ a0) ++ a1).getD x1980.toNat (S_api_Touch.mk 0 0 [] 0 0)) rfl rfl rfl rfl ty24 rfl (fun w hs => Rd.osG q2138 (Lens.id _ _) hs (j := 3) rfl (o := x1980.toNat * 5) (by first | rfl | simp)) ?_
                intro cs2140 f2141
                obtain rfl := K_S_api_Touch.open f2141
                refine G.alloc (dk := K_S_api_Touch) (x0 := (S_api_Touch.mk 0 0 [] 0 0)) (z := .agg (S_api_Touch.enc (S_api_Touch.mk 0 0 [] 0 0)).toArray) (cs := S_api_Touch.enc (S_api_Touch.mk 0 0 [] 0 0)) rfl rfl rfl (by kernel_rfl) rfl (fun H => K_S_api_Touch.of (S_api_Touch.mk 0 0 [] 0 0)) ?_
                intro g2142
                refine G.store (df := K_S_api_Touch) (y := ((([] : List S_api_Touch) ++ a0) ++ a1).getD x1980.toNat (S_api_Touch.mk 0 0 [] 0 0)) (x1 := ((([] : List S_api_Touch) ++ a0) ++ a1).getD x1980.toNat (S_api_Touch.mk 0 0 [] 0 0)) rfl rfl rfl rfl (Lens.id _ _) (VR.A (cs := S_api_Touch.enc (((([] : List S_api_Touch) ++ a0) ++ a1).getD x1980.toNat (S_api_Touch.mk 0 0 [] 0 0))) (K_S_api_Touch.of (((([] : List S_api_Touch) ++ a0) ++ a1).getD x1980.toNat (S_api_Touch.mk 0 0 [] 0 0)))) sz24 rfl ?_
                refine G.regionEnd ?_
                refine G.region (l := [0, 1, 2]) rfl ?_
                refine G.move rfl rfl rfl rfl ?_
                refine G.loadA (df := K_S_api_Touch) (y := ((([] : List S_api_Touch) ++ a0) ++ a1).getD x1980.toNat (S_api_Touch.mk 0 0 [] 0 0)) rfl rfl rfl rfl ty24 rfl (fun w hs => Rd.bk (Lens.id _ _) hs (j := 0) rfl) ?_
                intro cs2144 f2145
                obtain rfl := K_S_api_Touch.open f2145
                refine G.frontAt 1 rfl ?_
                refine G.frontAt 2 rfl ?_
                obtain ⟨t2146, e2147, h⟩ := bindS h
                refine G.callS rfl rfl rfl rfl call18 (reads_Set_Add.ok (S_reads_Set.mk x1979) g9 B1977 c1978 (((([] : List S_api_Touch) ++ a0) ++ a1).getD x1980.toNat (S_api_Touch.mk 0 0 [] 0 0)) e2147) ?_
                rintro v2148 L2149 ⟨B2150, c2151, rfl, rfl⟩
                refine G.regionEnd ?_
                refine G.inBlock ?_
                refine G.region (l := [0, 1]) rfl ?_
                refine G.bin (m := x1980) (n := 1) (r := wi64 (x1980 + 1)) rfl rfl rfl rfl rfl rfl rfl ?_
                refine G.move rfl rfl rfl rfl ?_
                refine G.regionEnd ?_
                refine G.round ?_
                refine G.frontAt 2 rfl ?_
                refine G.drop ?_
                refine G.frontAt 3 rfl ?_
                refine G.frontAt 3 rfl ?_
                refine G.frontAt 2 rfl ?_
                refine G.frontAt 3 rfl ?_
                refine G.less ?_ (ih2089  B2150 c2151 t2146.2.l (wi64 (x1980 + 1)) h)
                exact ⟨rfl, rfl, rfl, rfl, rfl, rfl, rfl, rfl, trivial⟩
              · replace h := ifF h k2207
                refine G.exit rfl ?_
                refine G.seq ?_
                refine G.region (l := [0, 1, 2]) rfl ?_
                refine G.move rfl rfl rfl rfl ?_
                refine G.frontAt 1 rfl ?_
                obtain ⟨t2153, e2154, h⟩ := bindS h
                refine G.callS rfl rfl rfl rfl call23 (reads_Set_Mark.ok (S_reads_Set.mk x1979) g9 B1977 c1978 e2154) ?_
                rintro v2155 L2156 ⟨rfl, rfl⟩
                refine G.assign rfl rfl rfl rfl ?_
                refine G.regionEnd ?_
                refine G.seq ?_
                refine G.region (l := [0, 1, 2, 3]) rfl ?_
                refine G.move rfl rfl rfl rfl ?_
                refine G.move rfl rfl rfl rfl ?_
                refine G.frontAt 1 rfl ?_
                refine G.frontAt 1 rfl ?_
                obtain ⟨t2157, e2158, h⟩ := bindS h
                refine G.callS rfl rfl rfl rfl call20 (reads_Set_Undo.ok (S_reads_Set.mk x1979) g9 B1977 c1978 t1854 e2158) ?_
                rintro v2159 L2160 ⟨B2161, c2162, rfl, rfl⟩
                refine G.assign rfl rfl rfl rfl ?_
                refine G.regionEnd ?_
                refine G.seq ?_
                refine G.region (l := [0, 1, 2]) rfl ?_
                refine G.move rfl rfl rfl rfl ?_
                refine G.frontAt 1 rfl ?_
                refine G.frontAt 1 rfl ?_
                obtain ⟨t2164, e2165, h⟩ := bindS h
                refine G.callS rfl rfl rfl rfl call22 (reads_Set_All.ok t2157.2 g9 B2161 c2162 e2165) ?_
                rintro v2166 L2167 ⟨B2168, c2169, rfl, rfl⟩
                refine G.assign rfl rfl rfl rfl ?_
                refine G.regionEnd ?_
                refine G.seq ?_
                refine G.seq ?_
                refine G.region (l := [0, 1, 2, 3, 4, 5, 6, 7, 8, 9, 10, 11, 12, 13, 14, 15, 16]) rfl ?_
                refine G.move rfl rfl rfl rfl ?_
                refine G.cmp (t2157.1 ≠ 0) rfl rfl rfl rfl rfl rfl Iff.rfl ?_
                refine G.move rfl rfl rfl rfl ?_
                refine G.splitP (d := 70) rfl (fun k2206 => ?_) (fun k2206 => ?_)
                · replace h := ifT h k2206
                  refine G.unwanted rfl rfl rfl rfl ?_
                  refine G.unwanted rfl rfl rfl rfl ?_
                  refine G.unwanted rfl rfl rfl rfl ?_
                  refine G.unwanted rfl rfl rfl rfl ?_
                  refine G.unwanted rfl rfl rfl rfl ?_
                  refine G.pickT rfl rfl rfl rfl rfl ?_
                  refine G.move rfl rfl rfl rfl ?_
                  refine G.unwanted rfl rfl rfl rfl ?_
                  refine G.unwanted rfl rfl rfl rfl ?_
                  refine G.unwanted rfl rfl rfl rfl ?_
                  refine G.unwanted rfl rfl rfl rfl ?_
                  refine G.unwanted rfl rfl rfl rfl ?_
                  refine G.unwanted rfl rfl rfl rfl ?_
                  refine G.pickT rfl rfl rfl rfl rfl ?_
                  refine G.regionEnd ?_
                  refine G.condT rfl ?_
                  refine G.seq ?_
                  refine G.region (l := [0]) rfl ?_
                  refine G.assign rfl rfl rfl rfl ?_
                  refine G.regionEnd ?_
                  refine G.drop ?_
                  refine G.drop ?_
                  refine G.drop ?_
                  refine G.drop ?_
                  refine G.drop ?_
                  obtain rfl := Option.some.inj h
                  exact G.ret1 Try.func7 rfl rfl (fun w hs => ⟨_, _, rfl, ⟨rfl, rfl⟩, hs⟩)
                · replace h := ifF h k2206
                  refine G.move rfl rfl rfl rfl ?_
                  refine G.len (m := t1847.length) rfl rfl rfl rfl Try.underlying31 ?_
                  refine G.move rfl rfl rfl rfl ?_
                  refine G.len (m := t2164.length) rfl rfl rfl rfl Try.underlying31 ?_
                  refine G.cmp ((t1847.length : Int) ≠ (t2164.length : Int)) rfl rfl rfl rfl rfl rfl Iff.rfl ?_
                  refine G.pickF rfl rfl rfl rfl rfl ?_
                  refine G.move rfl rfl rfl rfl ?_
                  refine G.splitP (d := 77) rfl (fun k2205 => ?_) (fun k2205 => ?_)
                  · replace h := ifT h k2205
                    refine G.unwanted rfl rfl rfl rfl ?_
                    refine G.unwanted rfl rfl rfl rfl ?_
                    refine G.unwanted rfl rfl rfl rfl ?_
                    refine G.unwanted rfl rfl rfl rfl ?_
                    refine G.unwanted rfl rfl rfl rfl ?_
                    refine G.unwanted rfl rfl rfl rfl ?_
                    refine G.pickT rfl rfl rfl rfl rfl ?_
                    refine G.regionEnd ?_
                    refine G.condT rfl ?_
                    refine G.seq ?_
                    refine G.region (l := [0]) rfl ?_
                    refine G.assign rfl rfl rfl rfl ?_
                    refine G.regionEnd ?_
                    refine G.drop ?_
                    refine G.drop ?_
                    refine G.drop ?_
                    refine G.drop ?_
                    refine G.drop ?_
                    obtain rfl := Option.some.inj h
                    exact G.ret1 Try.func7 rfl rfl (fun w hs => ⟨_, _, rfl, ⟨rfl, rfl⟩, hs⟩)
                  · replace h := ifF h k2205
                    refine G.move rfl rfl rfl rfl ?_
                    refine G.move rfl rfl rfl rfl ?_
                    refine G.move rfl rfl rfl rfl ?_
                    refine G.len (m := a1.length) rfl rfl rfl rfl Try.underlying31 ?_
                    refine G.bin (m := t1854) (n := (a1.length : Int)) (r := wi64 (t1854 + (a1.length : Int))) rfl rfl rfl rfl rfl rfl rfl ?_
                    refine G.cmp ((wi64 (t1854 + (a1.length : Int))) < t2153) rfl rfl rfl rfl rfl rfl Iff.rfl ?_
                    refine G.pickF rfl rfl rfl rfl rfl ?_
                    refine G.regionEnd ?_
                    refine G.condP rfl (fun k2204 => ?_) (fun k2204 => ?_)
                    · replace h := ifT h k2204
                      refine G.seq ?_
                      refine G.region (l := [0]) rfl ?_
                      refine G.assign rfl rfl rfl rfl ?_
                      refine G.regionEnd ?_
                      refine G.drop ?_
                      refine G.drop ?_
                      refine G.drop ?_
                      refine G.drop ?_
                      refine G.drop ?_
                      obtain rfl := Option.some.inj h
                      exact G.ret1 Try.func7 rfl rfl (fun w hs => ⟨_, _, rfl, ⟨rfl, rfl⟩, hs⟩)
                    · replace h := ifF h k2204
                      refine G.skip ?_
                      refine G.seq ?_
                      refine G.seq ?_
                      refine G.region (l := [0, 1, 2]) rfl ?_
                      refine G.move rfl rfl rfl rfl ?_
                      refine G.len (m := t1847.length) rfl rfl rfl rfl Try.underlying31 ?_
                      refine G.move rfl rfl rfl rfl ?_
                      refine G.regionEnd ?_
                      refine G.block ?_
                      refine G.loop (fun GG K => ∀ (d2183 : Nat) (x2171 : Int), armoirelaw15_ReadsUndone.l2 t1 t1847 t2164 d2183 x2171 = some r → GG H [(5, .bool t1), (9, .slice B1851 t1847.length c1852), (15, .slice B2168 t2164.length c2169), (86, .int .i64 (t1847.length : Int)), (87, .int .i64 x2171)] (OS 24 K_S_api_Touch B1851 c1852 t1847 :: OS 24 K_S_api_Touch B2168 c2169 t2164 :: Fr) K) ?_ ?_
                      · intro d2183
                        induction d2183 with
                        | zero => intro x2171 h; rw [armoirelaw15_ReadsUndone.l2] at h; cases h
                        | succ d2183 ih2182 =>
                          intro x2171 h
                          rw [armoirelaw15_ReadsUndone.l2] at h
                          refine G.seq ?_
                          refine G.region (l := [0]) rfl ?_
                          refine G.cmp (x2171 < (t1847.length : Int)) rfl rfl rfl rfl rfl rfl Iff.rfl ?_
                          refine G.regionEnd ?_
                          refine G.seq ?_
                          refine G.condP rfl (fun k2202 => ?_) (fun k2202 => ?_)
                          · replace h := ifT h k2202
                            refine G.skip ?_
                            refine G.seq ?_
                            refine G.block ?_
                            refine G.seq ?_
                            refine G.region (l := [0, 1]) rfl ?_
                            refine G.move rfl rfl rfl rfl ?_
                            refine G.assign rfl rfl rfl rfl ?_
                            refine G.regionEnd ?_
                            refine G.seq ?_
                            obtain ⟨k2186, h⟩ := guardS h
                            have q2185 : x2171.toNat < t1847.length := by omega
                            obtain ⟨k2190, h⟩ := guardS h
                            have q2189 : x2171.toNat < t2164.length := by omega
                            refine G.draw [[], [], [0, 1], [2], [], [], [4, 5], [6], [3, 7]] 9 [0, 1, 2, 3, 4, 5, 6, 7, 8] [0, 0, 1, 2, 0, 0, 1, 2, 3] [0, 0, 1, 2, 0, 0, 1, 2, 3] rfl (by kernel_rfl) (by kernel_rfl) (by kernel_rfl) (by kernel_rfl) ?_
                            intro C2194 ops2195 k2196
                            let R2197 : Reg := armoirelaw15_ReadsUndone.reg7_25 [(5, .bool t1), (9, .slice B1851 t1847.length c1852), (15, .slice B2168 t2164.length c2169), (16, .int .i64 x2171), (86, .int .i64 (t1847.length : Int)), (87, .int .i64 x2171)]
                            have P2201 : ∀ (m : Nat) (L : List Bool) (A : List (Nat × Value)) (l : List Nat), L.length = R2197.ds.length → R2197.Phi [some (.slice B1851 t1847.length c1852), some (.int .i64 x2171), some (.pointer (some (plc B1851 (x2171.toNat * 5)))), some (.agg (S_api_Touch.enc (t1847.getD x2171.toNat (S_api_Touch.mk 0 0 [] 0 0))).toArray), some (.slice B2168 t2164.length c2169), some (.int .i64 x2171), some (.pointer (some (plc B2168 (x2171.toNat * 5)))), some (.agg (S_api_Touch.enc (t2164.getD x2171.toNat (S_api_Touch.mk 0 0 [] 0 0))).toArray), some (.bool (decide ((t1847.getD x2171.toNat (S_api_Touch.mk 0 0 [] 0 0)) ≠ (t2164.getD x2171.toNat (S_api_Touch.mk 0 0 [] 0 0)))))] [0, 1, 2, 3, 4, 5, 6, 7] [] L A → left L = m → Ord R2197.ds m L l → G C2194 H A (OS 24 K_S_api_Touch B1851 c1852 t1847 :: OS 24 K_S_api_Touch B2168 c2169 t2164 :: Fr) (.inRegion ops2195 l :: k2196) := by
                              refine G.phase R2197 [some (.slice B1851 t1847.length c1852), some (.int .i64 x2171), some (.pointer (some (plc B1851 (x2171.toNat * 5)))), some (.agg (S_api_Touch.enc (t1847.getD x2171.toNat (S_api_Touch.mk 0 0 [] 0 0))).toArray), some (.slice B2168 t2164.length c2169), some (.int .i64 x2171), some (.pointer (some (plc B2168 (x2171.toNat * 5)))), some (.agg (S_api_Touch.enc (t2164.getD x2171.toNat (S_api_Touch.mk 0 0 [] 0 0))).toArray), some (.bool (decide ((t1847.getD x2171.toNat (S_api_Touch.mk 0 0 [] 0 0)) ≠ (t2164.getD x2171.toNat (S_api_Touch.mk 0 0 [] 0 0)))))] [8] [] [0, 1, 2, 3, 4, 5, 6, 7] [] (armoirelaw15_ReadsUndone.reg7_25_ap _) rfl rfl ⟨⟨[.op 3, .op 7], 98, .bool (decide ((t1847.getD x2171.toNat (S_api_Touch.mk 0 0 [] 0 0)) ≠ (t2164.getD x2171.toNat (S_api_Touch.mk 0 0 [] 0 0)))), [(93, .agg (S_api_Touch.enc (t1847.getD x2171.toNat (S_api_Touch.mk 0 0 [] 0 0))).toArray), (97, .agg (S_api_Touch.enc (t2164.getD x2171.toNat (S_api_Touch.mk 0 0 [] 0 0))).toArray)], ⟨rfl, rfl, rfl, rfl, ?_⟩⟩, trivial⟩ trivial ?_
                              · intro X rest g
                                refine G.neqA (dk := K_S_api_Touch) (x := t1847.getD x2171.toNat (S_api_Touch.mk 0 0 [] 0 0)) (y := t2164.getD x2171.toNat (S_api_Touch.mk 0 0 [] 0 0)) rfl rfl rfl rfl rfl rfl (by kernel_rfl) eq24 rfl (K_S_api_Touch.of (t1847.getD x2171.toNat (S_api_Touch.mk 0 0 [] 0 0))) (K_S_api_Touch.of (t2164.getD x2171.toNat (S_api_Touch.mk 0 0 [] 0 0))) ?_
                                exact g
                              · intro A L hlen hp h0
                                refine G.lessSub (B := [(5, .bool t1), (9, .slice B1851 t1847.length c1852), (15, .slice B2168 t2164.length c2169), (86, .int .i64 (t1847.length : Int)), (87, .int .i64 x2171), (98, .bool (decide ((t1847.getD x2171.toNat (S_api_Touch.mk 0 0 [] 0 0)) ≠ (t2164.getD x2171.toNat (S_api_Touch.mk 0 0 [] 0 0)))))]) (hp.fin hlen h0 (src := [.base 5, .base 9, .base 15, .base 86, .base 87, .op 8]) rfl) ?_
                                refine G.regionEnd ?_
                                refine G.condP rfl (fun k2193 => ?_) (fun k2193 => ?_)
                                · replace h := ifT h k2193
                                  refine G.seq ?_
                                  refine G.region (l := [0]) rfl ?_
                                  refine G.assign rfl rfl rfl rfl ?_
                                  refine G.regionEnd ?_
                                  refine G.drop ?_
                                  refine G.drop ?_
                                  obtain rfl := Option.some.inj h
                                  exact G.ret1 Try.func7 rfl rfl (fun w hs => ⟨_, _, rfl, ⟨rfl, rfl⟩, hs⟩)
                                · replace h := ifF h k2193
                                  refine G.skip ?_
                                  refine G.inBlock ?_
                                  refine G.region (l := [0, 1]) rfl ?_
                                  refine G.bin (m := x2171) (n := 1) (r := wi64 (x2171 + 1)) rfl rfl rfl rfl rfl rfl rfl ?_
                                  refine G.move rfl rfl rfl rfl ?_
                                  refine G.regionEnd ?_
                                  refine G.round ?_
                                  refine G.frontAt 1 rfl ?_
                                  refine G.frontAt 1 rfl ?_
                                  refine G.less ?_ (ih2182  (wi64 (x2171 + 1)) h)
                                  exact ⟨rfl, rfl, rfl, rfl, rfl, trivial⟩
                            have P2200 : ∀ (m : Nat) (L : List Bool) (A : List (Nat × Value)) (l : List Nat), L.length = R2197.ds.length → R2197.Phi [some (.slice B1851 t1847.length c1852), some (.int .i64 x2171), some (.pointer (some (plc B1851 (x2171.toNat * 5)))), none, some (.slice B2168 t2164.length c2169), some (.int .i64 x2171), some (.pointer (some (plc B2168 (x2171.toNat * 5)))), some (.agg (S_api_Touch.enc (t2164.getD x2171.toNat (S_api_Touch.mk 0 0 [] 0 0))).toArray), none] [4, 5, 6, 7] [3, 8] L A → left L = m → Ord R2197.ds m L l → G C2194 H A (OS 24 K_S_api_Touch B1851 c1852 t1847 :: OS 24 K_S_api_Touch B2168 c2169 t2164 :: Fr) (.inRegion ops2195 l :: k2196) := by
                              refine G.phase R2197 [some (.slice B1851 t1847.length c1852), some (.int .i64 x2171), some (.pointer (some (plc B1851 (x2171.toNat * 5)))), none, some (.slice B2168 t2164.length c2169), some (.int .i64 x2171), some (.pointer (some (plc B2168 (x2171.toNat * 5)))), some (.agg (S_api_Touch.enc (t2164.getD x2171.toNat (S_api_Touch.mk 0 0 [] 0 0))).toArray), none] [0, 1, 2] [3] [4, 5, 6, 7] [3, 8] (armoirelaw15_ReadsUndone.reg7_25_ap _) rfl rfl ⟨⟨[.base 9], 90, .slice B1851 t1847.length c1852, [(9, .slice B1851 t1847.length c1852)], ⟨rfl, rfl, rfl, rfl, ?_⟩⟩, ⟨⟨[.base 16], 91, .int .i64 x2171, [(16, .int .i64 x2171)], ⟨rfl, rfl, rfl, rfl, ?_⟩⟩, ⟨⟨[.op 0, .op 1], 92, .pointer (some (plc B1851 (x2171.toNat * 5))), [(90, .slice B1851 t1847.length c1852), (91, .int .i64 x2171)], ⟨rfl, rfl, rfl, rfl, ?_⟩⟩, trivial⟩⟩⟩ ⟨⟨[.op 2], [(92, .pointer (some (plc B1851 (x2171.toNat * 5))))], ⟨rfl, rfl, ?_⟩⟩, trivial⟩ ?_
                              · intro X rest g
                                refine G.move rfl rfl rfl rfl ?_
                                exact g
                              · intro X rest g
                                refine G.move rfl rfl rfl rfl ?_
                                exact g
                              · intro X rest g
                                refine G.indexO (xs := t1847) (j := x2171) (off := x2171.toNat * 5) rfl rfl rfl rfl rfl el31 (r := 0) rfl (by simp) k2186 rfl ?_
                                exact g
                              · intro X rest L m hlen hp hil hd hs hm ho
                                refine G.loadA (df := K_S_api_Touch) (y := t1847.getD x2171.toNat (S_api_Touch.mk 0 0 [] 0 0)) rfl rfl rfl rfl ty24 rfl (fun w hs => Rd.osG q2185 (Lens.id _ _) hs (j := 0) rfl (o := x2171.toNat * 5) (by first | rfl | simp)) ?_
                                intro cs2187 f2188
                                obtain rfl := K_S_api_Touch.open f2188
                                refine G.frontAt 1 rfl ?_
                                refine G.frontAt 1 rfl ?_
                                exact P2201 m _ _ rest (by rw [List.length_set]; exact hlen) (hp.stepS2 2 (armoirelaw15_ReadsUndone.reg7_25_ap _) hil hd hs (by repeat (first | exact trivial | refine And.intro rfl ?_)) rfl rfl rfl rfl) hm ho
                              · intro A L hlen hp h0
                                exact (hp.notYet hlen h0 3 rfl rfl).elim
                            have P2199 : ∀ (m : Nat) (L : List Bool) (A : List (Nat × Value)) (l : List Nat), L.length = R2197.ds.length → R2197.Phi [some (.slice B1851 t1847.length c1852), some (.int .i64 x2171), some (.pointer (some (plc B1851 (x2171.toNat * 5)))), some (.agg (S_api_Touch.enc (t1847.getD x2171.toNat (S_api_Touch.mk 0 0 [] 0 0))).toArray), some (.slice B2168 t2164.length c2169), some (.int .i64 x2171), some (.pointer (some (plc B2168 (x2171.toNat * 5)))), none, none] [0, 1, 2, 3] [7, 8] L A → left L = m → Ord R2197.ds m L l → G C2194 H A (OS 24 K_S_api_Touch B1851 c1852 t1847 :: OS 24 K_S_api_Touch B2168 c2169 t2164 :: Fr) (.inRegion ops2195 l :: k2196) := by
                              refine G.phase R2197 [some (.slice B1851 t1847.length c1852), some (.int .i64 x2171), some (.pointer (some (plc B1851 (x2171.toNat * 5)))), some (.agg (S_api_Touch.enc (t1847.getD x2171.toNat (S_api_Touch.mk 0 0 [] 0 0))).toArray), some (.slice B2168 t2164.length c2169), some (.int .i64 x2171), some (.pointer (some (plc B2168 (x2171.toNat * 5)))), none, none] [4, 5, 6] [7] [0, 1, 2, 3] [7, 8] (armoirelaw15_ReadsUndone.reg7_25_ap _) rfl rfl ⟨⟨[.base 15], 94, .slice B2168 t2164.length c2169, [(15, .slice B2168 t2164.length c2169)], ⟨rfl, rfl, rfl, rfl, ?_⟩⟩, ⟨⟨[.base 16], 95, .int .i64 x2171, [(16, .int .i64 x2171)], ⟨rfl, rfl, rfl, rfl, ?_⟩⟩, ⟨⟨[.op 4, .op 5], 96, .pointer (some (plc B2168 (x2171.toNat * 5))), [(94, .slice B2168 t2164.length c2169), (95, .int .i64 x2171)], ⟨rfl, rfl, rfl, rfl, ?_⟩⟩, trivial⟩⟩⟩ ⟨⟨[.op 6], [(96, .pointer (some (plc B2168 (x2171.toNat * 5))))], ⟨rfl, rfl, ?_⟩⟩, trivial⟩ ?_
                              · intro X rest g
                                refine G.move rfl rfl rfl rfl ?_
                                exact g
                              · intro X rest g
                                refine G.move rfl rfl rfl rfl ?_
                                exact g
                              · intro X rest g
                                refine G.indexO (xs := t2164) (j := x2171) (off := x2171.toNat * 5) rfl rfl rfl rfl rfl el31 (r := 1) rfl (by simp) k2190 rfl ?_
                                exact g
                              · intro X rest L m hlen hp hil hd hs hm ho
                                refine G.loadA (df := K_S_api_Touch) (y := t2164.getD x2171.toNat (S_api_Touch.mk 0 0 [] 0 0)) rfl rfl rfl rfl ty24 rfl (fun w hs => Rd.osG q2189 (Lens.id _ _) hs (j := 1) rfl (o := x2171.toNat * 5) (by first | rfl | simp)) ?_
                                intro cs2191 f2192
                                obtain rfl := K_S_api_Touch.open f2192
                                refine G.frontAt 1 rfl ?_
                                refine G.frontAt 1 rfl ?_
                                exact P2201 m _ _ rest (by rw [List.length_set]; exact hlen) (hp.stepS2 2 (armoirelaw15_ReadsUndone.reg7_25_ap _) hil hd hs (by repeat (first | exact trivial | refine And.intro rfl ?_)) rfl rfl rfl rfl) hm ho
                              · intro A L hlen hp h0
                                exact (hp.notYet hlen h0 7 rfl rfl).elim
                            have P2198 : ∀ (m : Nat) (L : List Bool) (A : List (Nat × Value)) (l : List Nat), L.length = R2197.ds.length → R2197.Phi [some (.slice B1851 t1847.length c1852), some (.int .i64 x2171), some (.pointer (some (plc B1851 (x2171.toNat * 5)))), none, some (.slice B2168 t2164.length c2169), some (.int .i64 x2171), some (.pointer (some (plc B2168 (x2171.toNat * 5)))), none, none] [] [3, 7, 8] L A → left L = m → Ord R2197.ds m L l → G C2194 H A (OS 24 K_S_api_Touch B1851 c1852 t1847 :: OS 24 K_S_api_Touch B2168 c2169 t2164 :: Fr) (.inRegion ops2195 l :: k2196) := by
                              refine G.phase R2197 [some (.slice B1851 t1847.length c1852), some (.int .i64 x2171), some (.pointer (some (plc B1851 (x2171.toNat * 5)))), none, some (.slice B2168 t2164.length c2169), some (.int .i64 x2171), some (.pointer (some (plc B2168 (x2171.toNat * 5)))), none, none] [0, 1, 2, 4, 5, 6] [3, 7] [] [3, 7, 8] (armoirelaw15_ReadsUndone.reg7_25_ap _) rfl rfl ⟨⟨[.base 9], 90, .slice B1851 t1847.length c1852, [(9, .slice B1851 t1847.length c1852)], ⟨rfl, rfl, rfl, rfl, ?_⟩⟩, ⟨⟨[.base 16], 91, .int .i64 x2171, [(16, .int .i64 x2171)], ⟨rfl, rfl, rfl, rfl, ?_⟩⟩, ⟨⟨[.op 0, .op 1], 92, .pointer (some (plc B1851 (x2171.toNat * 5))), [(90, .slice B1851 t1847.length c1852), (91, .int .i64 x2171)], ⟨rfl, rfl, rfl, rfl, ?_⟩⟩, ⟨⟨[.base 15], 94, .slice B2168 t2164.length c2169, [(15, .slice B2168 t2164.length c2169)], ⟨rfl, rfl, rfl, rfl, ?_⟩⟩, ⟨⟨[.base 16], 95, .int .i64 x2171, [(16, .int .i64 x2171)], ⟨rfl, rfl, rfl, rfl, ?_⟩⟩, ⟨⟨[.op 4, .op 5], 96, .pointer (some (plc B2168 (x2171.toNat * 5))), [(94, .slice B2168 t2164.length c2169), (95, .int .i64 x2171)], ⟨rfl, rfl, rfl, rfl, ?_⟩⟩, trivial⟩⟩⟩⟩⟩⟩ ⟨⟨[.op 2], [(92, .pointer (some (plc B1851 (x2171.toNat * 5))))], ⟨rfl, rfl, ?_⟩⟩, ⟨⟨[.op 6], [(96, .pointer (some (plc B2168 (x2171.toNat * 5))))], ⟨rfl, rfl, ?_⟩⟩, trivial⟩⟩ ?_
                              · intro X rest g
                                refine G.move rfl rfl rfl rfl ?_
                                exact g
                              · intro X rest g
                                refine G.move rfl rfl rfl rfl ?_
                                exact g
                              · intro X rest g
                                refine G.indexO (xs := t1847) (j := x2171) (off := x2171.toNat * 5) rfl rfl rfl rfl rfl el31 (r := 0) rfl (by simp) k2186 rfl ?_
                                exact g
                              · intro X rest g
                                refine G.move rfl rfl rfl rfl ?_
                                exact g
                              · intro X rest g
                                refine G.move rfl rfl rfl rfl ?_
                                exact g
                              · intro X rest g
                                refine G.indexO (xs := t2164) (j := x2171) (off := x2171.toNat * 5) rfl rfl rfl rfl rfl el31 (r := 1) rfl (by simp) k2190 rfl ?_
                                exact g
                              · intro X rest L m hlen hp hil hd hs hm ho
                                refine G.loadA (df := K_S_api_Touch) (y := t1847.getD x2171.toNat (S_api_Touch.mk 0 0 [] 0 0)) rfl rfl rfl rfl ty24 rfl (fun w hs => Rd.osG q2185 (Lens.id _ _) hs (j := 0) rfl (o := x2171.toNat * 5) (by first | rfl | simp)) ?_
                                intro cs2187 f2188
                                obtain rfl := K_S_api_Touch.open f2188
                                refine G.frontAt 1 rfl ?_
                                refine G.frontAt 1 rfl ?_
                                exact P2199 m _ _ rest (by rw [List.length_set]; exact hlen) (hp.stepS2 2 (armoirelaw15_ReadsUndone.reg7_25_ap _) hil hd hs (by repeat (first | exact trivial | refine And.intro rfl ?_)) rfl rfl rfl rfl) hm ho
                              · intro X rest L m hlen hp hil hd hs hm ho
                                refine G.loadA (df := K_S_api_Touch) (y := t2164.getD x2171.toNat (S_api_Touch.mk 0 0 [] 0 0)) rfl rfl rfl rfl ty24 rfl (fun w hs => Rd.osG q2189 (Lens.id _ _) hs (j := 1) rfl (o := x2171.toNat * 5) (by first | rfl | simp)) ?_
                                intro cs2191 f2192
                                obtain rfl := K_S_api_Touch.open f2192
                                refine G.frontAt 1 rfl ?_
                                refine G.frontAt 1 rfl ?_
                                exact P2200 m _ _ rest (by rw [List.length_set]; exact hlen) (hp.stepS2 2 (armoirelaw15_ReadsUndone.reg7_25_ap _) hil hd hs (by repeat (first | exact trivial | refine And.intro rfl ?_)) rfl rfl rfl rfl) hm ho
                              · intro A L hlen hp h0
                                exact (hp.notYet hlen h0 3 rfl rfl).elim
                            intro l hl
                            exact P2198 9 (List.replicate 9 false) _ l rfl (Reg.Phi.init 9 ⟨rfl, rfl, rfl, rfl, rfl, rfl, trivial⟩) (left_rep 9) hl
                          · replace h := ifF h k2202
                            refine G.exit rfl ?_
                            refine G.seq ?_
                            refine G.region (l := [0, 1]) rfl ?_
                            refine G.move rfl rfl rfl rfl ?_
                            refine G.assign rfl rfl rfl rfl ?_
                            refine G.regionEnd ?_
                            refine G.drop ?_
                            refine G.drop ?_
                            obtain rfl := Option.some.inj h
                            exact G.ret1 Try.func7 rfl rfl (fun w hs => ⟨_, _, rfl, ⟨rfl, rfl⟩, hs⟩)
                      intro J2203
                      refine G.drop ?_
                      refine G.drop ?_
                      refine G.frontAt 2 rfl ?_
                      refine G.drop ?_
                      refine G.frontAt 1 rfl ?_
                      refine G.less ?_ (J2203 FUEL  0 h)
                      exact ⟨rfl, rfl, rfl, rfl, rfl, trivial⟩
          intro J2208
          refine G.frontAt 3 rfl ?_
          refine G.frontAt 2 rfl ?_
          refine G.frontAt 3 rfl ?_
          refine G.less ?_ (J2208 FUEL  B745 c746 x747 0 h)
          exact ⟨rfl, rfl, rfl, rfl, rfl, rfl, rfl, rfl, trivial⟩
    intro J2210
    refine G.frontAt 1 rfl ?_
    refine G.less ?_ (J2210 FUEL  B11 c12 t5.l 0 h)
    exact ⟨rfl, rfl, rfl, rfl, rfl, rfl, rfl, trivial⟩
end Go.Proofs.Ytpiliblfmpgjeaa
