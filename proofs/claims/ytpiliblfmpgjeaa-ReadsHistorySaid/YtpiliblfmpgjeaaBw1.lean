/- Own text, printed by wip/g2: the walks. -/
import Derived.Test.YtpiliblfmpgjeaaBw0
namespace Go.Proofs.Ytpiliblfmpgjeaa
open Go K
set_option linter.unusedVariables false
set_option maxHeartbeats 1000000
def armoirelaw15_ReadsSets.reg6_13 (B : List (Nat × Value)) : Reg := ⟨[[], [], [1], [0, 2], [], [4], [5, 3], [3, 6]], [some 46, some 47, some 48, some 49, some 50, some 51, some 52, some 53], B⟩
theorem armoirelaw15_ReadsSets.reg6_13_ap (B : List (Nat × Value)) : (armoirelaw15_ReadsSets.reg6_13 B).apart = true := rfl
set_option maxRecDepth 20000 in
theorem armoirelaw15_ReadsSets.ok {O : World} {H : PH} {Fr : List Res} (a0 : (List S_armoirelaw15_Op)) (A0 : Option Addr) (n0 : Nat) (F0 : SlR K_S_armoirelaw15_Op H A0 n0 a0) {r : Bool} (h : armoirelaw15_ReadsSets.f a0 = some r) :
    CtrS Try.prog 6 [.slice A0 a0.length n0] O H (Fr) (fun v L' => v = .bool r ∧ Fr = L') := by
  refine CtrS.start (n := 86) Try.func6 rfl Try.ntmps6 rfl rfl ?_
  unfold armoirelaw15_ReadsSets.f at h
  refine G.seq ?_
  refine G.region (l := [0]) rfl ?_
  refine G.assign rfl rfl rfl rfl ?_
  refine G.regionEnd ?_
  refine G.seq ?_
  refine G.region (l := [0, 1]) rfl ?_
  obtain ⟨t1, e2, h⟩ := bindS h
  refine G.callS rfl rfl rfl rfl call9 (armoirelaw15_live.ok  e2) ?_
  rintro v3 L4 ⟨rfl, rfl⟩
  refine G.assign rfl rfl rfl rfl ?_
  refine G.regionEnd ?_
  refine G.seq ?_
  refine G.region (l := [0, 1]) rfl ?_
  obtain ⟨t5, e6, h⟩ := bindS h
  refine G.callS rfl rfl rfl rfl call17 (reads_New.ok  e6) ?_
  rintro v7 L8 ⟨g9, B11, c12, rfl, rfl⟩
  refine G.assign rfl rfl rfl rfl ?_
  refine G.regionEnd ?_
  refine G.seq ?_
  refine G.seq ?_
  refine G.region (l := [0, 1, 2, 3, 4, 5, 6]) rfl ?_
  refine G.move rfl rfl rfl rfl ?_
  refine G.eqPtr (a := (some ⟨g9, 0, none⟩)) (b := none) (r := false) rfl rfl rfl rfl rfl Try.underlying40 (by simp) ?_
  refine G.move rfl rfl rfl rfl ?_
  refine G.move rfl rfl rfl rfl ?_
  refine G.len (m := a0.length) rfl rfl rfl rfl Try.underlying39 ?_
  refine G.cmp (100 < (a0.length : Int)) rfl rfl rfl rfl rfl rfl Iff.rfl ?_
  refine G.pickF rfl rfl rfl rfl rfl ?_
  refine G.regionEnd ?_
  refine G.condP rfl (fun k662 => ?_) (fun k662 => ?_)
  · replace h := ifT h k662
    refine G.seq ?_
    refine G.region (l := [0, 1, 2, 3, 4, 5]) rfl ?_
    refine G.move rfl rfl rfl rfl ?_
    refine G.move rfl rfl rfl rfl ?_
    refine G.splitB (d := 20) rfl (fun k17 => ?_) (fun k17 => ?_)
    · replace h := ifT h k17
      refine G.move rfl rfl rfl rfl ?_
      refine G.eqPtrn (a := (some ⟨g9, 0, none⟩)) (b := none) (r := true) rfl rfl rfl rfl rfl Try.underlying40 (by simp) ?_
      refine G.pickT rfl rfl rfl rfl rfl ?_
      refine G.assign rfl rfl rfl rfl ?_
      refine G.regionEnd ?_
      refine G.drop ?_
      refine G.drop ?_
      obtain rfl := Option.some.inj h
      exact G.ret1 Try.func6 rfl rfl (fun w hs => ⟨_, _, rfl, ⟨rfl, rfl⟩, hs⟩)
    · replace h := ifFB h k17
      refine G.unwanted rfl rfl rfl rfl ?_
      refine G.unwanted rfl rfl rfl rfl ?_
      refine G.pickF rfl rfl rfl rfl rfl ?_
      refine G.assign rfl rfl rfl rfl ?_
      refine G.regionEnd ?_
      refine G.drop ?_
      refine G.drop ?_
      obtain rfl := Option.some.inj h
      exact G.ret1 Try.func6 rfl rfl (fun w hs => ⟨_, _, rfl, ⟨rfl, rfl⟩, hs⟩)
  · replace h := ifF h k662
    refine G.skip ?_
    refine G.seq ?_
    refine G.region (l := [0]) rfl ?_
    refine G.assign rfl rfl rfl rfl ?_
    refine G.regionEnd ?_
    refine G.seq ?_
    refine G.seq ?_
    refine G.region (l := [0, 1, 2]) rfl ?_
    refine G.move rfl rfl rfl rfl ?_
    refine G.len (m := a0.length) rfl rfl rfl rfl Try.underlying39 ?_
    refine G.move rfl rfl rfl rfl ?_
    refine G.regionEnd ?_
    refine G.block ?_
    refine G.loop (fun GG K => ∀ (d453 : Nat) (B249 : Option Addr) (c250 : Nat) (x251 : (List S_api_Touch)) (B253 : Option Addr) (c254 : Nat) (x255 : (List S_api_Touch)) (x256 : Int), armoirelaw15_ReadsSets.l0 a0 t1 d453 x251 x255 x256 = some r → GG H [(3, .bool t1), (4, .pointer (some ⟨g9, 0, none⟩)), (5, .slice B253 x255.length c254), (24, .slice A0 a0.length n0), (25, .int .i64 (a0.length : Int)), (26, .int .i64 x256)] (OS 24 K_S_api_Touch B249 c250 x251 :: BK 69 K_R_reads_Set g9 (R_reads_Set.mk (B249, x251.length, c250)) :: OS 24 K_S_api_Touch B253 c254 x255 :: Fr) K) ?_ ?_
    · intro d453
      induction d453 with
      | zero => intro B249 c250 x251 B253 c254 x255 x256 h; rw [armoirelaw15_ReadsSets.l0] at h; cases h
      | succ d453 ih452 =>
        intro B249 c250 x251 B253 c254 x255 x256 h
        rw [armoirelaw15_ReadsSets.l0] at h
        refine G.seq ?_
        refine G.region (l := [0]) rfl ?_
        refine G.cmp (x256 < (a0.length : Int)) rfl rfl rfl rfl rfl rfl Iff.rfl ?_
        refine G.regionEnd ?_
        refine G.seq ?_
        refine G.condP rfl (fun k659 => ?_) (fun k659 => ?_)
        · replace h := ifT h k659
          refine G.skip ?_
          refine G.seq ?_
          refine G.block ?_
          refine G.seq ?_
          refine G.region (l := [0, 1, 2, 3]) rfl ?_
          obtain ⟨k457, h⟩ := guardS h
          refine G.indexR (xs := a0) (j := x256) (S_armoirelaw15_Op.mk 0 0 (S_api_Touch.mk 0 0 [] 0 0)) rfl rfl rfl rfl rfl el39 F0 k457 ?_
          intro a455 f456
          refine G.loadA (df := K_S_armoirelaw15_Op) (y := a0.getD x256.toNat (S_armoirelaw15_Op.mk 0 0 (S_api_Touch.mk 0 0 [] 0 0))) rfl rfl rfl rfl ty43 rfl (fun w hs => Rd.ro f456 hs) ?_
          intro cs458 f459
          obtain rfl := K_S_armoirelaw15_Op.open f459
          refine G.alloc (dk := K_S_armoirelaw15_Op) (x0 := (S_armoirelaw15_Op.mk 0 0 (S_api_Touch.mk 0 0 [] 0 0))) (z := .agg (S_armoirelaw15_Op.enc (S_armoirelaw15_Op.mk 0 0 (S_api_Touch.mk 0 0 [] 0 0))).toArray) (cs := S_armoirelaw15_Op.enc (S_armoirelaw15_Op.mk 0 0 (S_api_Touch.mk 0 0 [] 0 0))) rfl rfl rfl (by kernel_rfl) rfl (fun H => K_S_armoirelaw15_Op.of (S_armoirelaw15_Op.mk 0 0 (S_api_Touch.mk 0 0 [] 0 0))) ?_
          intro g460
          refine G.store (df := K_S_armoirelaw15_Op) (y := a0.getD x256.toNat (S_armoirelaw15_Op.mk 0 0 (S_api_Touch.mk 0 0 [] 0 0))) (x1 := a0.getD x256.toNat (S_armoirelaw15_Op.mk 0 0 (S_api_Touch.mk 0 0 [] 0 0))) rfl rfl rfl rfl (Lens.id _ _) (VR.A (cs := S_armoirelaw15_Op.enc (a0.getD x256.toNat (S_armoirelaw15_Op.mk 0 0 (S_api_Touch.mk 0 0 [] 0 0)))) (K_S_armoirelaw15_Op.of (a0.getD x256.toNat (S_armoirelaw15_Op.mk 0 0 (S_api_Touch.mk 0 0 [] 0 0))))) sz43 rfl ?_
          refine G.regionEnd ?_
          refine G.seq ?_
          refine G.region (l := [0, 1, 2]) rfl ?_
          refine G.field (off' := 1) rfl rfl rfl rfl Try.underlying43 rfl sz3 rfl rfl ?_
          refine G.loadI (y := (a0.getD x256.toNat (S_armoirelaw15_Op.mk 0 0 (S_api_Touch.mk 0 0 [] 0 0))).n) rfl rfl rfl rfl ty3 (fun w hs => Rd.bk (S_armoirelaw15_Op.L_n _) hs (j := 0) rfl) ?_
          refine G.assign rfl rfl rfl rfl ?_
          refine G.regionEnd ?_
          refine G.seq ?_
          refine G.seq ?_
          refine G.region (l := [0, 1, 2]) rfl ?_
          refine G.field (off' := 0) rfl rfl rfl rfl Try.underlying43 rfl sz3 rfl rfl ?_
          refine G.loadI (y := (a0.getD x256.toNat (S_armoirelaw15_Op.mk 0 0 (S_api_Touch.mk 0 0 [] 0 0))).do_) rfl rfl rfl rfl ty3 (fun w hs => Rd.bk (S_armoirelaw15_Op.L_do_ _) hs (j := 0) rfl) ?_
          refine G.cmp (((a0.getD x256.toNat (S_armoirelaw15_Op.mk 0 0 (S_api_Touch.mk 0 0 [] 0 0))).do_) = 1) rfl rfl rfl rfl rfl rfl Iff.rfl ?_
          refine G.regionEnd ?_
          refine G.tail (fun GG K => ∀ (x462 : Int), armoirelaw15_ReadsSets.j0 a0 x251 x255 x256 (armoirelaw15_ReadsSets.l0 a0 t1 d453) x462 = some r → GG H [(3, .bool t1), (4, .pointer (some ⟨g9, 0, none⟩)), (5, .slice B253 x255.length c254), (7, .pointer (some ⟨g460, 0, none⟩)), (8, .int .i64 x462), (24, .slice A0 a0.length n0), (25, .int .i64 (a0.length : Int)), (26, .int .i64 x256)] (OS 24 K_S_api_Touch B249 c250 x251 :: BK 69 K_R_reads_Set g9 (R_reads_Set.mk (B249, x251.length, c250)) :: OS 24 K_S_api_Touch B253 c254 x255 :: BK 43 K_S_armoirelaw15_Op g460 (a0.getD x256.toNat (S_armoirelaw15_Op.mk 0 0 (S_api_Touch.mk 0 0 [] 0 0))) :: Fr) K) ?_ ?_
          · intro x462 h
            unfold armoirelaw15_ReadsSets.j0 at h
            refine G.seq ?_
            refine G.seq ?_
            refine G.region (l := [0, 1, 2]) rfl ?_
            refine G.field (off' := 0) rfl rfl rfl rfl Try.underlying43 rfl sz3 rfl rfl ?_
            refine G.loadI (y := (a0.getD x256.toNat (S_armoirelaw15_Op.mk 0 0 (S_api_Touch.mk 0 0 [] 0 0))).do_) rfl rfl rfl rfl ty3 (fun w hs => Rd.bk (S_armoirelaw15_Op.L_do_ _) hs (j := 3) rfl) ?_
            refine G.cmp (((a0.getD x256.toNat (S_armoirelaw15_Op.mk 0 0 (S_api_Touch.mk 0 0 [] 0 0))).do_) = 0) rfl rfl rfl rfl rfl rfl Iff.rfl ?_
            refine G.regionEnd ?_
            refine G.condP rfl (fun k656 => ?_) (fun k656 => ?_)
            · replace h := ifT h k656
              refine G.seq ?_
              refine G.seq ?_
              obtain ⟨t548, e549, h⟩ := bindS h
              obtain ⟨t557, e558, h⟩ := bindS h
              refine G.draw [[], [], [1], [0, 2], [], [4], [5, 3], [3, 6]] 8 [0, 1, 2, 3, 4, 5, 6, 7] [0, 0, 1, 2, 0, 1, 3, 4] [0, 0, 1, 2, 0, 1, 3, 4] rfl (by kernel_rfl) (by kernel_rfl) (by kernel_rfl) (by kernel_rfl) ?_
              intro C606 ops607 k608
              let R609 : Reg := armoirelaw15_ReadsSets.reg6_13 [(3, .bool t1), (4, .pointer (some ⟨g9, 0, none⟩)), (5, .slice B253 x255.length c254), (7, .pointer (some ⟨g460, 0, none⟩)), (24, .slice A0 a0.length n0), (25, .int .i64 (a0.length : Int)), (26, .int .i64 x256)]
              have P615 : ∀ (B552 : Option Addr) (c553 : Nat) (m : Nat) (L : List Bool) (A : List (Nat × Value)) (l : List Nat), L.length = R609.ds.length → R609.Phi [some (.pointer (some ⟨g9, 0, none⟩)), some (.pointer (some ⟨g460, 2, none⟩)), some (.agg (S_api_Touch.enc ((a0.getD x256.toNat (S_armoirelaw15_Op.mk 0 0 (S_api_Touch.mk 0 0 [] 0 0))).t)).toArray), some (.int .i64 t548.1), some (.pointer (some ⟨g460, 2, none⟩)), some (.agg (S_api_Touch.enc ((a0.getD x256.toNat (S_armoirelaw15_Op.mk 0 0 (S_api_Touch.mk 0 0 [] 0 0))).t)).toArray), some (.int .i64 t557), some (.bool (decide (t548.1 ≠ t557)))] [0, 1, 2, 3, 4, 5] [] L A → left L = m → Ord R609.ds m L l → G C606 H A (BK 69 K_R_reads_Set g9 (R_reads_Set.mk (B552, t548.2.l.length, c553)) :: OS 24 K_S_api_Touch B552 c553 t548.2.l :: OS 24 K_S_api_Touch B253 c254 x255 :: BK 43 K_S_armoirelaw15_Op g460 (a0.getD x256.toNat (S_armoirelaw15_Op.mk 0 0 (S_api_Touch.mk 0 0 [] 0 0))) :: Fr) (.inRegion ops607 l :: k608) := by
                intro B552 c553
                refine G.phase R609 [some (.pointer (some ⟨g9, 0, none⟩)), some (.pointer (some ⟨g460, 2, none⟩)), some (.agg (S_api_Touch.enc ((a0.getD x256.toNat (S_armoirelaw15_Op.mk 0 0 (S_api_Touch.mk 0 0 [] 0 0))).t)).toArray), some (.int .i64 t548.1), some (.pointer (some ⟨g460, 2, none⟩)), some (.agg (S_api_Touch.enc ((a0.getD x256.toNat (S_armoirelaw15_Op.mk 0 0 (S_api_Touch.mk 0 0 [] 0 0))).t)).toArray), some (.int .i64 t557), some (.bool (decide (t548.1 ≠ t557)))] [6, 7] [] [0, 1, 2, 3, 4, 5] [] (armoirelaw15_ReadsSets.reg6_13_ap _) rfl rfl ⟨⟨[.op 5], 52, .int .i64 t557, [(51, .agg (S_api_Touch.enc ((a0.getD x256.toNat (S_armoirelaw15_Op.mk 0 0 (S_api_Touch.mk 0 0 [] 0 0))).t)).toArray)], ⟨rfl, rfl, rfl, rfl, ?_⟩⟩, ⟨⟨[.op 3, .op 6], 53, .bool (decide (t548.1 ≠ t557)), [(49, .int .i64 t548.1), (52, .int .i64 t557)], ⟨rfl, rfl, rfl, rfl, ?_⟩⟩, trivial⟩⟩ trivial ?_
                · intro X rest g
                  refine G.callBO (m := 0) rfl rfl rfl rfl call11 rfl (fun H1 hle hsl => (armoireref15_Check.ok ((a0.getD x256.toNat (S_armoirelaw15_Op.mk 0 0 (S_api_Touch.mk 0 0 [] 0 0))).t) e558).ctr) (by rintro v H' L' ⟨rfl, rfl⟩; exact Free.nil) ?_
                  rintro v559 L560 ⟨_, ⟨rfl, rfl⟩⟩
                  exact g
                · intro X rest g
                  refine G.cmp (t548.1 ≠ t557) rfl rfl rfl rfl rfl rfl Iff.rfl ?_
                  exact g
                · intro A L hlen hp h0
                  refine G.lessSub (B := [(3, .bool t1), (4, .pointer (some ⟨g9, 0, none⟩)), (5, .slice B253 x255.length c254), (7, .pointer (some ⟨g460, 0, none⟩)), (24, .slice A0 a0.length n0), (25, .int .i64 (a0.length : Int)), (26, .int .i64 x256), (53, .bool (decide (t548.1 ≠ t557)))]) (hp.fin hlen h0 (src := [.base 3, .base 4, .base 5, .base 7, .base 24, .base 25, .base 26, .op 7]) rfl) ?_
                  refine G.regionEnd ?_
                  refine G.condP rfl (fun k605 => ?_) (fun k605 => ?_)
                  · replace h := ifT h k605
                    refine G.seq ?_
                    refine G.region (l := [0]) rfl ?_
                    refine G.assign rfl rfl rfl rfl ?_
                    refine G.regionEnd ?_
                    refine G.drop ?_
                    refine G.drop ?_
                    refine G.drop ?_
                    refine G.drop ?_
                    obtain rfl := Option.some.inj h
                    exact G.ret1 Try.func6 rfl rfl (fun w hs => ⟨_, _, rfl, ⟨rfl, rfl⟩, hs⟩)
                  · replace h := ifF h k605
                    refine G.skip ?_
                    refine G.seq ?_
                    refine G.region (l := [0, 1, 2, 3]) rfl ?_
                    refine G.field (off' := 2) rfl rfl rfl rfl Try.underlying43 rfl sz24 rfl rfl ?_
                    refine G.loadA (df := K_S_api_Touch) (y := (a0.getD x256.toNat (S_armoirelaw15_Op.mk 0 0 (S_api_Touch.mk 0 0 [] 0 0))).t) rfl rfl rfl rfl ty24 rfl (fun w hs => Rd.bk (S_armoirelaw15_Op.L_t _) hs (j := 3) rfl) ?_
                    intro cs561 f562
                    obtain rfl := K_S_api_Touch.open f562
                    obtain ⟨t563, e564, h⟩ := bindS h
                    refine G.callS rfl rfl rfl rfl call11 (armoireref15_Check.ok ((a0.getD x256.toNat (S_armoirelaw15_Op.mk 0 0 (S_api_Touch.mk 0 0 [] 0 0))).t) e564) ?_
                    rintro v565 L566 ⟨rfl, rfl⟩
                    refine G.cmp (t563 = 0) rfl rfl rfl rfl rfl rfl Iff.rfl ?_
                    refine G.regionEnd ?_
                    refine G.condP rfl (fun k604 => ?_) (fun k604 => ?_)
                    · replace h := ifT h k604
                      refine G.region (l := [0, 1, 2, 3, 4]) rfl ?_
                      refine G.move rfl rfl rfl rfl ?_
                      refine G.field (off' := 2) rfl rfl rfl rfl Try.underlying43 rfl sz24 rfl rfl ?_
                      refine G.loadA (df := K_S_api_Touch) (y := (a0.getD x256.toNat (S_armoirelaw15_Op.mk 0 0 (S_api_Touch.mk 0 0 [] 0 0))).t) rfl rfl rfl rfl ty24 rfl (fun w hs => Rd.bk (S_armoirelaw15_Op.L_t _) hs (j := 3) rfl) ?_
                      intro cs585 f586
                      obtain rfl := K_S_api_Touch.open f586
                      refine G.frontAt 2 rfl ?_
                      obtain ⟨t587, e588, h⟩ := bindS h
                      refine G.callS rfl rfl rfl rfl call19 (armoireref15_Add.ok x255 B253 c254 ((a0.getD x256.toNat (S_armoirelaw15_Op.mk 0 0 (S_api_Touch.mk 0 0 [] 0 0))).t) e588) ?_
                      rintro v589 L590 ⟨B591, c592, rfl, rfl⟩
                      refine G.assign rfl rfl rfl rfl ?_
                      refine G.regionEnd ?_
                      refine G.seq ?_
                      refine G.region (l := [0, 1, 2, 3]) rfl ?_
                      refine G.move rfl rfl rfl rfl ?_
                      refine G.move rfl rfl rfl rfl ?_
                      refine G.frontAt 2 rfl ?_
                      refine G.frontAt 2 rfl ?_
                      obtain ⟨t594, e595, h⟩ := bindS h
                      refine G.callBO (m := 2) rfl rfl rfl rfl call21 rfl (fun H1 hle hsl => (armoirelaw15_same.ok t548.2 g9 B552 c553 t587 B591 c592 (hsl (j := 0) rfl) e595).ctr) (by rintro v H' L' ⟨rfl, rfl⟩; exact (Free.cons (Free.bk flat_R_reads_Set) (Free.cons (Free.os flat_S_api_Touch) Free.nil))) ?_
                      rintro v596 L597 ⟨_, ⟨rfl, rfl⟩⟩
                      refine G.not rfl rfl rfl rfl rfl ?_
                      refine G.regionEnd ?_
                      refine G.cond rfl (fun k598 => ?_) (fun k598 => ?_)
                      · replace h := ifT h k598
                        refine G.seq ?_
                        refine G.region (l := [0]) rfl ?_
                        refine G.assign rfl rfl rfl rfl ?_
                        refine G.regionEnd ?_
                        refine G.drop ?_
                        refine G.drop ?_
                        refine G.drop ?_
                        refine G.drop ?_
                        obtain rfl := Option.some.inj h
                        exact G.ret1 Try.func6 rfl rfl (fun w hs => ⟨_, _, rfl, ⟨rfl, rfl⟩, hs⟩)
                      · replace h := ifFB h k598
                        refine G.skip ?_
                        refine G.inBlock ?_
                        refine G.region (l := [0, 1]) rfl ?_
                        refine G.bin (m := x256) (n := 1) (r := wi64 (x256 + 1)) rfl rfl rfl rfl rfl rfl rfl ?_
                        refine G.move rfl rfl rfl rfl ?_
                        refine G.regionEnd ?_
                        refine G.round ?_
                        refine G.frontAt 3 rfl ?_
                        refine G.drop ?_
                        refine G.frontAt 2 rfl ?_
                        refine G.frontAt 1 rfl ?_
                        refine G.frontAt 2 rfl ?_
                        refine G.less ?_ (ih452  B552 c553 t548.2.l B591 c592 t587 (wi64 (x256 + 1)) h)
                        exact ⟨rfl, rfl, rfl, rfl, rfl, rfl, trivial⟩
                    · replace h := ifF h k604
                      refine G.skip ?_
                      refine G.seq ?_
                      refine G.region (l := [0, 1, 2, 3]) rfl ?_
                      refine G.move rfl rfl rfl rfl ?_
                      refine G.move rfl rfl rfl rfl ?_
                      refine G.frontAt 1 rfl ?_
                      refine G.frontAt 1 rfl ?_
                      obtain ⟨t599, e600, h⟩ := bindS h
                      refine G.callBO (m := 2) rfl rfl rfl rfl call21 rfl (fun H1 hle hsl => (armoirelaw15_same.ok t548.2 g9 B552 c553 x255 B253 c254 (hsl (j := 0) rfl) e600).ctr) (by rintro v H' L' ⟨rfl, rfl⟩; exact (Free.cons (Free.bk flat_R_reads_Set) (Free.cons (Free.os flat_S_api_Touch) Free.nil))) ?_
                      rintro v601 L602 ⟨_, ⟨rfl, rfl⟩⟩
                      refine G.not rfl rfl rfl rfl rfl ?_
                      refine G.regionEnd ?_
                      refine G.cond rfl (fun k603 => ?_) (fun k603 => ?_)
                      · replace h := ifT h k603
                        refine G.seq ?_
                        refine G.region (l := [0]) rfl ?_
                        refine G.assign rfl rfl rfl rfl ?_
                        refine G.regionEnd ?_
                        refine G.drop ?_
                        refine G.drop ?_
                        refine G.drop ?_
                        refine G.drop ?_
                        obtain rfl := Option.some.inj h
                        exact G.ret1 Try.func6 rfl rfl (fun w hs => ⟨_, _, rfl, ⟨rfl, rfl⟩, hs⟩)
                      · replace h := ifFB h k603
                        refine G.skip ?_
                        refine G.inBlock ?_
                        refine G.region (l := [0, 1]) rfl ?_
                        refine G.bin (m := x256) (n := 1) (r := wi64 (x256 + 1)) rfl rfl rfl rfl rfl rfl rfl ?_
                        refine G.move rfl rfl rfl rfl ?_
                        refine G.regionEnd ?_
                        refine G.round ?_
                        refine G.frontAt 3 rfl ?_
                        refine G.drop ?_
                        refine G.frontAt 2 rfl ?_
                        refine G.frontAt 1 rfl ?_
                        refine G.frontAt 2 rfl ?_
                        refine G.less ?_ (ih452  B552 c553 t548.2.l B253 c254 x255 (wi64 (x256 + 1)) h)
                        exact ⟨rfl, rfl, rfl, rfl, rfl, rfl, trivial⟩
              have P614 : ∀ (m : Nat) (L : List Bool) (A : List (Nat × Value)) (l : List Nat), L.length = R609.ds.length → R609.Phi [some (.pointer (some ⟨g9, 0, none⟩)), some (.pointer (some ⟨g460, 2, none⟩)), some (.agg (S_api_Touch.enc ((a0.getD x256.toNat (S_armoirelaw15_Op.mk 0 0 (S_api_Touch.mk 0 0 [] 0 0))).t)).toArray), none, some (.pointer (some ⟨g460, 2, none⟩)), some (.agg (S_api_Touch.enc ((a0.getD x256.toNat (S_armoirelaw15_Op.mk 0 0 (S_api_Touch.mk 0 0 [] 0 0))).t)).toArray), none, none] [1, 2, 4, 5] [3, 6, 7] L A → left L = m → Ord R609.ds m L l → G C606 H A (OS 24 K_S_api_Touch B249 c250 x251 :: BK 69 K_R_reads_Set g9 (R_reads_Set.mk (B249, x251.length, c250)) :: OS 24 K_S_api_Touch B253 c254 x255 :: BK 43 K_S_armoirelaw15_Op g460 (a0.getD x256.toNat (S_armoirelaw15_Op.mk 0 0 (S_api_Touch.mk 0 0 [] 0 0))) :: Fr) (.inRegion ops607 l :: k608) := by
                refine G.phase R609 [some (.pointer (some ⟨g9, 0, none⟩)), some (.pointer (some ⟨g460, 2, none⟩)), some (.agg (S_api_Touch.enc ((a0.getD x256.toNat (S_armoirelaw15_Op.mk 0 0 (S_api_Touch.mk 0 0 [] 0 0))).t)).toArray), none, some (.pointer (some ⟨g460, 2, none⟩)), some (.agg (S_api_Touch.enc ((a0.getD x256.toNat (S_armoirelaw15_Op.mk 0 0 (S_api_Touch.mk 0 0 [] 0 0))).t)).toArray), none, none] [0] [3] [1, 2, 4, 5] [3, 6, 7] (armoirelaw15_ReadsSets.reg6_13_ap _) rfl rfl ⟨⟨[.base 4], 46, .pointer (some ⟨g9, 0, none⟩), [(4, .pointer (some ⟨g9, 0, none⟩))], ⟨rfl, rfl, rfl, rfl, ?_⟩⟩, trivial⟩ ⟨⟨[.op 0, .op 2], [(46, .pointer (some ⟨g9, 0, none⟩)), (48, .agg (S_api_Touch.enc ((a0.getD x256.toNat (S_armoirelaw15_Op.mk 0 0 (S_api_Touch.mk 0 0 [] 0 0))).t)).toArray)], ⟨rfl, rfl, ?_⟩⟩, trivial⟩ ?_
                · intro X rest g
                  refine G.move rfl rfl rfl rfl ?_
                  exact g
                · intro X rest L m hlen hp hil hd hs hm ho
                  refine G.frontAt 1 rfl ?_
                  refine G.callBO (m := 2) rfl rfl rfl rfl call18 rfl (fun H1 hle hsl => (reads_Set_Add.ok (S_reads_Set.mk x251) g9 B249 c250 ((a0.getD x256.toNat (S_armoirelaw15_Op.mk 0 0 (S_api_Touch.mk 0 0 [] 0 0))).t) e549).ctr) (by rintro v H' L' ⟨_, _, rfl, rfl⟩; exact (Free.cons (Free.bk flat_R_reads_Set) (Free.cons (Free.os flat_S_api_Touch) Free.nil))) ?_
                  rintro v550 L551 ⟨_, ⟨B552, c553, rfl, rfl⟩⟩
                  refine G.frontAt 3 rfl ?_
                  refine G.frontAt 3 rfl ?_
                  refine G.frontAt 3 rfl ?_
                  refine G.frontAt 3 rfl ?_
                  exact P615 B552 c553 m _ _ rest (by rw [List.length_set]; exact hlen) (hp.stepS2 1 (armoirelaw15_ReadsSets.reg6_13_ap _) hil hd hs (by repeat (first | exact trivial | refine And.intro rfl ?_)) rfl rfl rfl rfl) hm ho
                · intro A L hlen hp h0
                  exact (hp.notYet hlen h0 3 rfl rfl).elim
              have P613 : ∀ (B552 : Option Addr) (c553 : Nat) (m : Nat) (L : List Bool) (A : List (Nat × Value)) (l : List Nat), L.length = R609.ds.length → R609.Phi [some (.pointer (some ⟨g9, 0, none⟩)), some (.pointer (some ⟨g460, 2, none⟩)), some (.agg (S_api_Touch.enc ((a0.getD x256.toNat (S_armoirelaw15_Op.mk 0 0 (S_api_Touch.mk 0 0 [] 0 0))).t)).toArray), some (.int .i64 t548.1), some (.pointer (some ⟨g460, 2, none⟩)), none, none, none] [0, 1, 2, 3] [5, 6, 7] L A → left L = m → Ord R609.ds m L l → G C606 H A (BK 69 K_R_reads_Set g9 (R_reads_Set.mk (B552, t548.2.l.length, c553)) :: OS 24 K_S_api_Touch B552 c553 t548.2.l :: OS 24 K_S_api_Touch B253 c254 x255 :: BK 43 K_S_armoirelaw15_Op g460 (a0.getD x256.toNat (S_armoirelaw15_Op.mk 0 0 (S_api_Touch.mk 0 0 [] 0 0))) :: Fr) (.inRegion ops607 l :: k608) := by
                intro B552 c553
                refine G.phase R609 [some (.pointer (some ⟨g9, 0, none⟩)), some (.pointer (some ⟨g460, 2, none⟩)), some (.agg (S_api_Touch.enc ((a0.getD x256.toNat (S_armoirelaw15_Op.mk 0 0 (S_api_Touch.mk 0 0 [] 0 0))).t)).toArray), some (.int .i64 t548.1), some (.pointer (some ⟨g460, 2, none⟩)), none, none, none] [4] [5] [0, 1, 2, 3] [5, 6, 7] (armoirelaw15_ReadsSets.reg6_13_ap _) rfl rfl ⟨⟨[.base 7], 50, .pointer (some ⟨g460, 2, none⟩), [(7, .pointer (some ⟨g460, 0, none⟩))], ⟨rfl, rfl, rfl, rfl, ?_⟩⟩, trivial⟩ ⟨⟨[.op 4], [(50, .pointer (some ⟨g460, 2, none⟩))], ⟨rfl, rfl, ?_⟩⟩, trivial⟩ ?_
                · intro X rest g
                  refine G.field (off' := 2) rfl rfl rfl rfl Try.underlying43 rfl sz24 rfl rfl ?_
                  exact g
                · intro X rest L m hlen hp hil hd hs hm ho
                  refine G.loadA (df := K_S_api_Touch) (y := (a0.getD x256.toNat (S_armoirelaw15_Op.mk 0 0 (S_api_Touch.mk 0 0 [] 0 0))).t) rfl rfl rfl rfl ty24 rfl (fun w hs => Rd.bk (S_armoirelaw15_Op.L_t _) hs (j := 3) rfl) ?_
                  intro cs555 f556
                  obtain rfl := K_S_api_Touch.open f556
                  refine G.frontAt 3 rfl ?_
                  refine G.frontAt 3 rfl ?_
                  refine G.frontAt 3 rfl ?_
                  refine G.frontAt 3 rfl ?_
                  exact P615 B552 c553 m _ _ rest (by rw [List.length_set]; exact hlen) (hp.stepS2 1 (armoirelaw15_ReadsSets.reg6_13_ap _) hil hd hs (by repeat (first | exact trivial | refine And.intro rfl ?_)) rfl rfl rfl rfl) hm ho
                · intro A L hlen hp h0
                  exact (hp.notYet hlen h0 5 rfl rfl).elim
              have P612 : ∀ (m : Nat) (L : List Bool) (A : List (Nat × Value)) (l : List Nat), L.length = R609.ds.length → R609.Phi [some (.pointer (some ⟨g9, 0, none⟩)), some (.pointer (some ⟨g460, 2, none⟩)), none, none, some (.pointer (some ⟨g460, 2, none⟩)), some (.agg (S_api_Touch.enc ((a0.getD x256.toNat (S_armoirelaw15_Op.mk 0 0 (S_api_Touch.mk 0 0 [] 0 0))).t)).toArray), none, none] [4, 5] [2, 3, 6, 7] L A → left L = m → Ord R609.ds m L l → G C606 H A (OS 24 K_S_api_Touch B249 c250 x251 :: BK 69 K_R_reads_Set g9 (R_reads_Set.mk (B249, x251.length, c250)) :: OS 24 K_S_api_Touch B253 c254 x255 :: BK 43 K_S_armoirelaw15_Op g460 (a0.getD x256.toNat (S_armoirelaw15_Op.mk 0 0 (S_api_Touch.mk 0 0 [] 0 0))) :: Fr) (.inRegion ops607 l :: k608) := by
                refine G.phase R609 [some (.pointer (some ⟨g9, 0, none⟩)), some (.pointer (some ⟨g460, 2, none⟩)), none, none, some (.pointer (some ⟨g460, 2, none⟩)), some (.agg (S_api_Touch.enc ((a0.getD x256.toNat (S_armoirelaw15_Op.mk 0 0 (S_api_Touch.mk 0 0 [] 0 0))).t)).toArray), none, none] [0, 1] [2] [4, 5] [2, 3, 6, 7] (armoirelaw15_ReadsSets.reg6_13_ap _) rfl rfl ⟨⟨[.base 4], 46, .pointer (some ⟨g9, 0, none⟩), [(4, .pointer (some ⟨g9, 0, none⟩))], ⟨rfl, rfl, rfl, rfl, ?_⟩⟩, ⟨⟨[.base 7], 47, .pointer (some ⟨g460, 2, none⟩), [(7, .pointer (some ⟨g460, 0, none⟩))], ⟨rfl, rfl, rfl, rfl, ?_⟩⟩, trivial⟩⟩ ⟨⟨[.op 1], [(47, .pointer (some ⟨g460, 2, none⟩))], ⟨rfl, rfl, ?_⟩⟩, trivial⟩ ?_
                · intro X rest g
                  refine G.move rfl rfl rfl rfl ?_
                  exact g
                · intro X rest g
                  refine G.field (off' := 2) rfl rfl rfl rfl Try.underlying43 rfl sz24 rfl rfl ?_
                  exact g
                · intro X rest L m hlen hp hil hd hs hm ho
                  refine G.loadA (df := K_S_api_Touch) (y := (a0.getD x256.toNat (S_armoirelaw15_Op.mk 0 0 (S_api_Touch.mk 0 0 [] 0 0))).t) rfl rfl rfl rfl ty24 rfl (fun w hs => Rd.bk (S_armoirelaw15_Op.L_t _) hs (j := 3) rfl) ?_
                  intro cs546 f547
                  obtain rfl := K_S_api_Touch.open f547
                  refine G.frontAt 3 rfl ?_
                  refine G.frontAt 3 rfl ?_
                  refine G.frontAt 3 rfl ?_
                  refine G.frontAt 3 rfl ?_
                  exact P614 m _ _ rest (by rw [List.length_set]; exact hlen) (hp.stepS2 1 (armoirelaw15_ReadsSets.reg6_13_ap _) hil hd hs (by repeat (first | exact trivial | refine And.intro rfl ?_)) rfl rfl rfl rfl) hm ho
                · intro A L hlen hp h0
                  exact (hp.notYet hlen h0 2 rfl rfl).elim
              have P611 : ∀ (m : Nat) (L : List Bool) (A : List (Nat × Value)) (l : List Nat), L.length = R609.ds.length → R609.Phi [some (.pointer (some ⟨g9, 0, none⟩)), some (.pointer (some ⟨g460, 2, none⟩)), some (.agg (S_api_Touch.enc ((a0.getD x256.toNat (S_armoirelaw15_Op.mk 0 0 (S_api_Touch.mk 0 0 [] 0 0))).t)).toArray), none, some (.pointer (some ⟨g460, 2, none⟩)), none, none, none] [1, 2] [3, 5, 6, 7] L A → left L = m → Ord R609.ds m L l → G C606 H A (OS 24 K_S_api_Touch B249 c250 x251 :: BK 69 K_R_reads_Set g9 (R_reads_Set.mk (B249, x251.length, c250)) :: OS 24 K_S_api_Touch B253 c254 x255 :: BK 43 K_S_armoirelaw15_Op g460 (a0.getD x256.toNat (S_armoirelaw15_Op.mk 0 0 (S_api_Touch.mk 0 0 [] 0 0))) :: Fr) (.inRegion ops607 l :: k608) := by
                refine G.phase R609 [some (.pointer (some ⟨g9, 0, none⟩)), some (.pointer (some ⟨g460, 2, none⟩)), some (.agg (S_api_Touch.enc ((a0.getD x256.toNat (S_armoirelaw15_Op.mk 0 0 (S_api_Touch.mk 0 0 [] 0 0))).t)).toArray), none, some (.pointer (some ⟨g460, 2, none⟩)), none, none, none] [0, 4] [3, 5] [1, 2] [3, 5, 6, 7] (armoirelaw15_ReadsSets.reg6_13_ap _) rfl rfl ⟨⟨[.base 4], 46, .pointer (some ⟨g9, 0, none⟩), [(4, .pointer (some ⟨g9, 0, none⟩))], ⟨rfl, rfl, rfl, rfl, ?_⟩⟩, ⟨⟨[.base 7], 50, .pointer (some ⟨g460, 2, none⟩), [(7, .pointer (some ⟨g460, 0, none⟩))], ⟨rfl, rfl, rfl, rfl, ?_⟩⟩, trivial⟩⟩ ⟨⟨[.op 0, .op 2], [(46, .pointer (some ⟨g9, 0, none⟩)), (48, .agg (S_api_Touch.enc ((a0.getD x256.toNat (S_armoirelaw15_Op.mk 0 0 (S_api_Touch.mk 0 0 [] 0 0))).t)).toArray)], ⟨rfl, rfl, ?_⟩⟩, ⟨⟨[.op 4], [(50, .pointer (some ⟨g460, 2, none⟩))], ⟨rfl, rfl, ?_⟩⟩, trivial⟩⟩ ?_
                · intro X rest g
                  refine G.move rfl rfl rfl rfl ?_
                  exact g
                · intro X rest g
                  refine G.field (off' := 2) rfl rfl rfl rfl Try.underlying43 rfl sz24 rfl rfl ?_
                  exact g
                · intro X rest L m hlen hp hil hd hs hm ho
                  refine G.frontAt 1 rfl ?_
                  refine G.callBO (m := 2) rfl rfl rfl rfl call18 rfl (fun H1 hle hsl => (reads_Set_Add.ok (S_reads_Set.mk x251) g9 B249 c250 ((a0.getD x256.toNat (S_armoirelaw15_Op.mk 0 0 (S_api_Touch.mk 0 0 [] 0 0))).t) e549).ctr) (by rintro v H' L' ⟨_, _, rfl, rfl⟩; exact (Free.cons (Free.bk flat_R_reads_Set) (Free.cons (Free.os flat_S_api_Touch) Free.nil))) ?_
                  rintro v550 L551 ⟨_, ⟨B552, c553, rfl, rfl⟩⟩
                  refine G.frontAt 3 rfl ?_
                  refine G.frontAt 3 rfl ?_
                  refine G.frontAt 3 rfl ?_
                  refine G.frontAt 3 rfl ?_
                  exact P613 B552 c553 m _ _ rest (by rw [List.length_set]; exact hlen) (hp.stepS2 1 (armoirelaw15_ReadsSets.reg6_13_ap _) hil hd hs (by repeat (first | exact trivial | refine And.intro rfl ?_)) rfl rfl rfl rfl) hm ho
                · intro X rest L m hlen hp hil hd hs hm ho
                  refine G.loadA (df := K_S_api_Touch) (y := (a0.getD x256.toNat (S_armoirelaw15_Op.mk 0 0 (S_api_Touch.mk 0 0 [] 0 0))).t) rfl rfl rfl rfl ty24 rfl (fun w hs => Rd.bk (S_armoirelaw15_Op.L_t _) hs (j := 3) rfl) ?_
                  intro cs555 f556
                  obtain rfl := K_S_api_Touch.open f556
                  refine G.frontAt 3 rfl ?_
                  refine G.frontAt 3 rfl ?_
                  refine G.frontAt 3 rfl ?_
                  refine G.frontAt 3 rfl ?_
                  exact P614 m _ _ rest (by rw [List.length_set]; exact hlen) (hp.stepS2 1 (armoirelaw15_ReadsSets.reg6_13_ap _) hil hd hs (by repeat (first | exact trivial | refine And.intro rfl ?_)) rfl rfl rfl rfl) hm ho
                · intro A L hlen hp h0
                  exact (hp.notYet hlen h0 3 rfl rfl).elim
              have P610 : ∀ (m : Nat) (L : List Bool) (A : List (Nat × Value)) (l : List Nat), L.length = R609.ds.length → R609.Phi [some (.pointer (some ⟨g9, 0, none⟩)), some (.pointer (some ⟨g460, 2, none⟩)), none, none, some (.pointer (some ⟨g460, 2, none⟩)), none, none, none] [] [2, 3, 5, 6, 7] L A → left L = m → Ord R609.ds m L l → G C606 H A (OS 24 K_S_api_Touch B249 c250 x251 :: BK 69 K_R_reads_Set g9 (R_reads_Set.mk (B249, x251.length, c250)) :: OS 24 K_S_api_Touch B253 c254 x255 :: BK 43 K_S_armoirelaw15_Op g460 (a0.getD x256.toNat (S_armoirelaw15_Op.mk 0 0 (S_api_Touch.mk 0 0 [] 0 0))) :: Fr) (.inRegion ops607 l :: k608) := by
                refine G.phase R609 [some (.pointer (some ⟨g9, 0, none⟩)), some (.pointer (some ⟨g460, 2, none⟩)), none, none, some (.pointer (some ⟨g460, 2, none⟩)), none, none, none] [0, 1, 4] [2, 5] [] [2, 3, 5, 6, 7] (armoirelaw15_ReadsSets.reg6_13_ap _) rfl rfl ⟨⟨[.base 4], 46, .pointer (some ⟨g9, 0, none⟩), [(4, .pointer (some ⟨g9, 0, none⟩))], ⟨rfl, rfl, rfl, rfl, ?_⟩⟩, ⟨⟨[.base 7], 47, .pointer (some ⟨g460, 2, none⟩), [(7, .pointer (some ⟨g460, 0, none⟩))], ⟨rfl, rfl, rfl, rfl, ?_⟩⟩, ⟨⟨[.base 7], 50, .pointer (some ⟨g460, 2, none⟩), [(7, .pointer (some ⟨g460, 0, none⟩))], ⟨rfl, rfl, rfl, rfl, ?_⟩⟩, trivial⟩⟩⟩ ⟨⟨[.op 1], [(47, .pointer (some ⟨g460, 2, none⟩))], ⟨rfl, rfl, ?_⟩⟩, ⟨⟨[.op 4], [(50, .pointer (some ⟨g460, 2, none⟩))], ⟨rfl, rfl, ?_⟩⟩, trivial⟩⟩ ?_
                · intro X rest g
                  refine G.move rfl rfl rfl rfl ?_
                  exact g
                · intro X rest g
                  refine G.field (off' := 2) rfl rfl rfl rfl Try.underlying43 rfl sz24 rfl rfl ?_
                  exact g
                · intro X rest g
                  refine G.field (off' := 2) rfl rfl rfl rfl Try.underlying43 rfl sz24 rfl rfl ?_
                  exact g
                · intro X rest L m hlen hp hil hd hs hm ho
                  refine G.loadA (df := K_S_api_Touch) (y := (a0.getD x256.toNat (S_armoirelaw15_Op.mk 0 0 (S_api_Touch.mk 0 0 [] 0 0))).t) rfl rfl rfl rfl ty24 rfl (fun w hs => Rd.bk (S_armoirelaw15_Op.L_t _) hs (j := 3) rfl) ?_
                  intro cs546 f547
                  obtain rfl := K_S_api_Touch.open f547
                  refine G.frontAt 3 rfl ?_
                  refine G.frontAt 3 rfl ?_
                  refine G.frontAt 3 rfl ?_
                  refine G.frontAt 3 rfl ?_
                  exact P611 m _ _ rest (by rw [List.length_set]; exact hlen) (hp.stepS2 1 (armoirelaw15_ReadsSets.reg6_13_ap _) hil hd hs (by repeat (first | exact trivial | refine And.intro rfl ?_)) rfl rfl rfl rfl) hm ho
                · intro X rest L m hlen hp hil hd hs hm ho
                  refine G.loadA (df := K_S_api_Touch) (y := (a0.getD x256.toNat (S_armoirelaw15_Op.mk 0 0 (S_api_Touch.mk 0 0 [] 0 0))).t) rfl rfl rfl rfl ty24 rfl (fun w hs => Rd.bk (S_armoirelaw15_Op.L_t _) hs (j := 3) rfl) ?_
                  intro cs555 f556
                  obtain rfl := K_S_api_Touch.open f556
                  refine G.frontAt 3 rfl ?_
                  refine G.frontAt 3 rfl ?_
                  refine G.frontAt 3 rfl ?_
                  refine G.frontAt 3 rfl ?_
                  exact P612 m _ _ rest (by rw [List.length_set]; exact hlen) (hp.stepS2 1 (armoirelaw15_ReadsSets.reg6_13_ap _) hil hd hs (by repeat (first | exact trivial | refine And.intro rfl ?_)) rfl rfl rfl rfl) hm ho
                · intro A L hlen hp h0
                  exact (hp.notYet hlen h0 2 rfl rfl).elim
              intro l hl
              exact P610 8 (List.replicate 8 false) _ l rfl (Reg.Phi.init 8 ⟨rfl, rfl, rfl, rfl, rfl, rfl, rfl, trivial⟩) (left_rep 8) hl
            · replace h := ifF h k656
              refine G.seq ?_
              refine G.region (l := [0]) rfl ?_
              refine G.assign rfl rfl rfl rfl ?_
              refine G.regionEnd ?_
              refine G.seq ?_
              refine G.seq ?_
              refine G.region (l := [0, 1, 2, 3, 4, 5, 6, 7]) rfl ?_
              refine G.move rfl rfl rfl rfl ?_
              refine G.cmp (x462 < 0) rfl rfl rfl rfl rfl rfl Iff.rfl ?_
              refine G.move rfl rfl rfl rfl ?_
              refine G.splitP (d := 64) rfl (fun k655 => ?_) (fun k655 => ?_)
              · replace h := ifT h k655
                refine G.unwanted rfl rfl rfl rfl ?_
                refine G.unwanted rfl rfl rfl rfl ?_
                refine G.unwanted rfl rfl rfl rfl ?_
                refine G.unwanted rfl rfl rfl rfl ?_
                refine G.pickT rfl rfl rfl rfl rfl ?_
                refine G.regionEnd ?_
                refine G.condT rfl ?_
                refine G.region (l := [0]) rfl ?_
                refine G.assign rfl rfl rfl rfl ?_
                refine G.regionEnd ?_
                refine G.seq ?_
                refine G.seq ?_
                refine G.region (l := [0, 1, 2, 3, 4]) rfl ?_
                refine G.move rfl rfl rfl rfl ?_
                refine G.move rfl rfl rfl rfl ?_
                refine G.frontAt 1 rfl ?_
                obtain ⟨t616, e617, h⟩ := bindS h
                refine G.callS rfl rfl rfl rfl call20 (reads_Set_Undo.ok (S_reads_Set.mk x251) g9 B249 c250 x462 e617) ?_
                rintro v618 L619 ⟨B620, c621, rfl, rfl⟩
                refine G.move rfl rfl rfl rfl ?_
                refine G.cmp (t616.1 ≠ 1) rfl rfl rfl rfl rfl rfl Iff.rfl ?_
                refine G.regionEnd ?_
                refine G.condP rfl (fun k628 => ?_) (fun k628 => ?_)
                · replace h := ifT h k628
                  refine G.seq ?_
                  refine G.region (l := [0]) rfl ?_
                  refine G.assign rfl rfl rfl rfl ?_
                  refine G.regionEnd ?_
                  refine G.drop ?_
                  refine G.drop ?_
                  refine G.drop ?_
                  refine G.drop ?_
                  obtain rfl := Option.some.inj h
                  exact G.ret1 Try.func6 rfl rfl (fun w hs => ⟨_, _, rfl, ⟨rfl, rfl⟩, hs⟩)
                · replace h := ifF h k628
                  refine G.skip ?_
                  refine G.seq ?_
                  refine G.region (l := [0, 1]) rfl ?_
                  refine G.move rfl rfl rfl rfl ?_
                  refine G.cmp (False) rfl rfl rfl rfl rfl rfl (by simp [cmpP]) ?_
                  refine G.regionEnd ?_
                  refine G.condF rfl ?_
                  refine G.skip ?_
                  refine G.seq ?_
                  refine G.region (l := [0, 1, 2, 3]) rfl ?_
                  refine G.move rfl rfl rfl rfl ?_
                  refine G.move rfl rfl rfl rfl ?_
                  refine G.frontAt 1 rfl ?_
                  refine G.frontAt 1 rfl ?_
                  obtain ⟨t623, e624, h⟩ := bindS h
                  refine G.callBO (m := 2) rfl rfl rfl rfl call21 rfl (fun H1 hle hsl => (armoirelaw15_same.ok t616.2 g9 B620 c621 x255 B253 c254 (hsl (j := 0) rfl) e624).ctr) (by rintro v H' L' ⟨rfl, rfl⟩; exact (Free.cons (Free.bk flat_R_reads_Set) (Free.cons (Free.os flat_S_api_Touch) Free.nil))) ?_
                  rintro v625 L626 ⟨_, ⟨rfl, rfl⟩⟩
                  refine G.not rfl rfl rfl rfl rfl ?_
                  refine G.regionEnd ?_
                  refine G.cond rfl (fun k627 => ?_) (fun k627 => ?_)
                  · replace h := ifT h k627
                    refine G.seq ?_
                    refine G.region (l := [0]) rfl ?_
                    refine G.assign rfl rfl rfl rfl ?_
                    refine G.regionEnd ?_
                    refine G.drop ?_
                    refine G.drop ?_
                    refine G.drop ?_
                    refine G.drop ?_
                    obtain rfl := Option.some.inj h
                    exact G.ret1 Try.func6 rfl rfl (fun w hs => ⟨_, _, rfl, ⟨rfl, rfl⟩, hs⟩)
                  · replace h := ifFB h k627
                    refine G.skip ?_
                    refine G.inBlock ?_
                    refine G.region (l := [0, 1]) rfl ?_
                    refine G.bin (m := x256) (n := 1) (r := wi64 (x256 + 1)) rfl rfl rfl rfl rfl rfl rfl ?_
                    refine G.move rfl rfl rfl rfl ?_
                    refine G.regionEnd ?_
                    refine G.round ?_
                    refine G.frontAt 3 rfl ?_
                    refine G.drop ?_
                    refine G.frontAt 2 rfl ?_
                    refine G.frontAt 1 rfl ?_
                    refine G.frontAt 2 rfl ?_
                    refine G.less ?_ (ih452  B620 c621 t616.2.l B253 c254 x255 (wi64 (x256 + 1)) h)
                    exact ⟨rfl, rfl, rfl, rfl, rfl, rfl, trivial⟩
              · replace h := ifF h k655
                refine G.move rfl rfl rfl rfl ?_
                refine G.move rfl rfl rfl rfl ?_
                refine G.len (m := x255.length) rfl rfl rfl rfl Try.underlying31 ?_
                refine G.cmp ((x255.length : Int) < x462) rfl rfl rfl rfl rfl rfl Iff.rfl ?_
                refine G.pickF rfl rfl rfl rfl rfl ?_
                refine G.regionEnd ?_
                refine G.tail (fun GG K => ∀ (x629 : Int), armoirelaw15_ReadsSets.j1 x251 x255 x256 (armoirelaw15_ReadsSets.l0 a0 t1 d453) x462 x629 = some r → GG H [(3, .bool t1), (4, .pointer (some ⟨g9, 0, none⟩)), (5, .slice B253 x255.length c254), (8, .int .i64 x462), (9, .int .i64 x629), (24, .slice A0 a0.length n0), (25, .int .i64 (a0.length : Int)), (26, .int .i64 x256), (65, .int .i64 x462), (66, .slice B253 x255.length c254), (67, .int .i64 (x255.length : Int)), (68, .bool (decide ((x255.length : Int) < x462)))] (OS 24 K_S_api_Touch B249 c250 x251 :: BK 69 K_R_reads_Set g9 (R_reads_Set.mk (B249, x251.length, c250)) :: OS 24 K_S_api_Touch B253 c254 x255 :: Fr) K) ?_ ?_
                · intro x629 h
                  unfold armoirelaw15_ReadsSets.j1 at h
                  refine G.seq ?_
                  refine G.seq ?_
                  refine G.region (l := [0, 1, 2, 3, 4]) rfl ?_
                  refine G.move rfl rfl rfl rfl ?_
                  refine G.move rfl rfl rfl rfl ?_
                  refine G.frontAt 1 rfl ?_
                  obtain ⟨t630, e631, h⟩ := bindS h
                  refine G.callS rfl rfl rfl rfl call20 (reads_Set_Undo.ok (S_reads_Set.mk x251) g9 B249 c250 x462 e631) ?_
                  rintro v632 L633 ⟨B634, c635, rfl, rfl⟩
                  refine G.move rfl rfl rfl rfl ?_
                  refine G.cmp (t630.1 ≠ x629) rfl rfl rfl rfl rfl rfl Iff.rfl ?_
                  refine G.regionEnd ?_
                  refine G.condP rfl (fun k652 => ?_) (fun k652 => ?_)
                  · replace h := ifT h k652
                    refine G.seq ?_
                    refine G.region (l := [0]) rfl ?_
                    refine G.assign rfl rfl rfl rfl ?_
                    refine G.regionEnd ?_
                    refine G.drop ?_
                    refine G.drop ?_
                    refine G.drop ?_
                    obtain rfl := Option.some.inj h
                    exact G.ret1 Try.func6 rfl rfl (fun w hs => ⟨_, _, rfl, ⟨rfl, rfl⟩, hs⟩)
                  · replace h := ifF h k652
                    refine G.skip ?_
                    refine G.seq ?_
                    refine G.region (l := [0, 1]) rfl ?_
                    refine G.move rfl rfl rfl rfl ?_
                    refine G.cmp (x629 = 0) rfl rfl rfl rfl rfl rfl Iff.rfl ?_
                    refine G.regionEnd ?_
                    refine G.condP rfl (fun k651 => ?_) (fun k651 => ?_)
                    · replace h := ifT h k651
                      refine G.region (l := [0, 1, 2, 3]) rfl ?_
                      refine G.move rfl rfl rfl rfl ?_
                      refine G.move rfl rfl rfl rfl ?_
                      obtain ⟨k640, h⟩ := guardS h
                      refine G.frontAt 2 rfl ?_
                      refine G.cutO (xs := x255) (h := x462) (m := (c254 : Int)) rfl rfl rfl rfl rfl rfl rfl rfl rfl el31 k640 (fun hc => ⟨by omega, Int.le_refl _⟩) (by intro hh; first | rfl | cases hh) ?_
                      refine G.assign rfl rfl rfl rfl ?_
                      refine G.regionEnd ?_
                      refine G.seq ?_
                      refine G.region (l := [0, 1, 2, 3]) rfl ?_
                      refine G.move rfl rfl rfl rfl ?_
                      refine G.move rfl rfl rfl rfl ?_
                      refine G.frontAt 2 rfl ?_
                      refine G.frontAt 2 rfl ?_
                      obtain ⟨t641, e642, h⟩ := bindS h
                      refine G.callBO (m := 2) rfl rfl rfl rfl call21 rfl (fun H1 hle hsl => (armoirelaw15_same.ok t630.2 g9 B634 c635 (x255.take x462.toNat) B253 ((c254 : Int).toNat) (hsl (j := 0) rfl) e642).ctr) (by rintro v H' L' ⟨rfl, rfl⟩; exact (Free.cons (Free.bk flat_R_reads_Set) (Free.cons (Free.os flat_S_api_Touch) Free.nil))) ?_
                      rintro v643 L644 ⟨_, ⟨rfl, rfl⟩⟩
                      refine G.not rfl rfl rfl rfl rfl ?_
                      refine G.regionEnd ?_
                      refine G.cond rfl (fun k645 => ?_) (fun k645 => ?_)
                      · replace h := ifT h k645
                        refine G.seq ?_
                        refine G.region (l := [0]) rfl ?_
                        refine G.assign rfl rfl rfl rfl ?_
                        refine G.regionEnd ?_
                        refine G.drop ?_
                        refine G.drop ?_
                        refine G.drop ?_
                        obtain rfl := Option.some.inj h
                        exact G.ret1 Try.func6 rfl rfl (fun w hs => ⟨_, _, rfl, ⟨rfl, rfl⟩, hs⟩)
                      · replace h := ifFB h k645
                        refine G.skip ?_
                        refine G.inBlock ?_
                        refine G.region (l := [0, 1]) rfl ?_
                        refine G.bin (m := x256) (n := 1) (r := wi64 (x256 + 1)) rfl rfl rfl rfl rfl rfl rfl ?_
                        refine G.move rfl rfl rfl rfl ?_
                        refine G.regionEnd ?_
                        refine G.round ?_
                        refine G.frontAt 2 rfl ?_
                        refine G.frontAt 1 rfl ?_
                        refine G.frontAt 2 rfl ?_
                        refine G.less ?_ (ih452  B634 c635 t630.2.l B253 ((c254 : Int).toNat) (x255.take x462.toNat) (wi64 (x256 + 1)) h)
                        exact ⟨rfl, rfl, rfl, rfl, rfl, rfl, trivial⟩
                    · replace h := ifF h k651
                      refine G.skip ?_
                      refine G.seq ?_
                      refine G.region (l := [0, 1, 2, 3]) rfl ?_
                      refine G.move rfl rfl rfl rfl ?_
                      refine G.move rfl rfl rfl rfl ?_
                      refine G.frontAt 1 rfl ?_
                      refine G.frontAt 1 rfl ?_
                      obtain ⟨t646, e647, h⟩ := bindS h
                      refine G.callBO (m := 2) rfl rfl rfl rfl call21 rfl (fun H1 hle hsl => (armoirelaw15_same.ok t630.2 g9 B634 c635 x255 B253 c254 (hsl (j := 0) rfl) e647).ctr) (by rintro v H' L' ⟨rfl, rfl⟩; exact (Free.cons (Free.bk flat_R_reads_Set) (Free.cons (Free.os flat_S_api_Touch) Free.nil))) ?_
                      rintro v648 L649 ⟨_, ⟨rfl, rfl⟩⟩
                      refine G.not rfl rfl rfl rfl rfl ?_
                      refine G.regionEnd ?_
                      refine G.cond rfl (fun k650 => ?_) (fun k650 => ?_)
                      · replace h := ifT h k650
                        refine G.seq ?_
                        refine G.region (l := [0]) rfl ?_
                        refine G.assign rfl rfl rfl rfl ?_
                        refine G.regionEnd ?_
                        refine G.drop ?_
                        refine G.drop ?_
                        refine G.drop ?_
                        obtain rfl := Option.some.inj h
                        exact G.ret1 Try.func6 rfl rfl (fun w hs => ⟨_, _, rfl, ⟨rfl, rfl⟩, hs⟩)
                      · replace h := ifFB h k650
                        refine G.skip ?_
                        refine G.inBlock ?_
                        refine G.region (l := [0, 1]) rfl ?_
                        refine G.bin (m := x256) (n := 1) (r := wi64 (x256 + 1)) rfl rfl rfl rfl rfl rfl rfl ?_
                        refine G.move rfl rfl rfl rfl ?_
                        refine G.regionEnd ?_
                        refine G.round ?_
                        refine G.frontAt 2 rfl ?_
                        refine G.frontAt 1 rfl ?_
                        refine G.frontAt 2 rfl ?_
                        refine G.less ?_ (ih452  B634 c635 t630.2.l B253 c254 x255 (wi64 (x256 + 1)) h)
                        exact ⟨rfl, rfl, rfl, rfl, rfl, rfl, trivial⟩
                intro J653
                refine G.condP rfl (fun k654 => ?_) (fun k654 => ?_)
                · replace h := ifT h k654
                  refine G.region (l := [0]) rfl ?_
                  refine G.assign rfl rfl rfl rfl ?_
                  refine G.regionEnd ?_
                  refine G.frontAt 3 rfl ?_
                  refine G.drop ?_
                  refine G.frontAt 2 rfl ?_
                  refine G.frontAt 2 rfl ?_
                  refine G.frontAt 2 rfl ?_
                  refine G.less ?_ (J653  1 h)
                  exact ⟨rfl, rfl, rfl, rfl, rfl, rfl, rfl, rfl, rfl, rfl, rfl, rfl, trivial⟩
                · replace h := ifF h k654
                  refine G.skip ?_
                  refine G.frontAt 3 rfl ?_
                  refine G.drop ?_
                  refine G.frontAt 2 rfl ?_
                  refine G.frontAt 2 rfl ?_
                  refine G.frontAt 2 rfl ?_
                  refine G.less ?_ (J653  0 h)
                  exact ⟨rfl, rfl, rfl, rfl, rfl, rfl, rfl, rfl, rfl, rfl, rfl, rfl, trivial⟩
          intro J657
          refine G.condP rfl (fun k658 => ?_) (fun k658 => ?_)
          · replace h := ifT h k658
            refine G.region (l := [0, 1, 2, 3, 4, 5, 6, 7, 8]) rfl ?_
            refine G.move rfl rfl rfl rfl ?_
            refine G.len (m := x255.length) rfl rfl rfl rfl Try.underlying31 ?_
            refine G.field (off' := 1) rfl rfl rfl rfl Try.underlying43 rfl sz3 rfl rfl ?_
            refine G.loadI (y := (a0.getD x256.toNat (S_armoirelaw15_Op.mk 0 0 (S_api_Touch.mk 0 0 [] 0 0))).n) rfl rfl rfl rfl ty3 (fun w hs => Rd.bk (S_armoirelaw15_Op.L_n _) hs (j := 0) rfl) ?_
            refine G.div (m := (a0.getD x256.toNat (S_armoirelaw15_Op.mk 0 0 (S_api_Touch.mk 0 0 [] 0 0))).n) (n := 9) (r := Int.tmod ((a0.getD x256.toNat (S_armoirelaw15_Op.mk 0 0 (S_api_Touch.mk 0 0 [] 0 0))).n) 9) rfl rfl rfl rfl rfl rfl (by decide) rfl ?_
            refine G.bin (m := Int.tmod ((a0.getD x256.toNat (S_armoirelaw15_Op.mk 0 0 (S_api_Touch.mk 0 0 [] 0 0))).n) 9) (n := 9) (r := wi64 ((Int.tmod ((a0.getD x256.toNat (S_armoirelaw15_Op.mk 0 0 (S_api_Touch.mk 0 0 [] 0 0))).n) 9) + 9)) rfl rfl rfl rfl rfl rfl rfl ?_
            refine G.div (m := wi64 ((Int.tmod ((a0.getD x256.toNat (S_armoirelaw15_Op.mk 0 0 (S_api_Touch.mk 0 0 [] 0 0))).n) 9) + 9)) (n := 9) (r := Int.tmod (wi64 ((Int.tmod ((a0.getD x256.toNat (S_armoirelaw15_Op.mk 0 0 (S_api_Touch.mk 0 0 [] 0 0))).n) 9) + 9)) 9) rfl rfl rfl rfl rfl rfl (by decide) rfl ?_
            refine G.bin (m := (x255.length : Int)) (n := Int.tmod (wi64 ((Int.tmod ((a0.getD x256.toNat (S_armoirelaw15_Op.mk 0 0 (S_api_Touch.mk 0 0 [] 0 0))).n) 9) + 9)) 9) (r := wi64 ((x255.length : Int) - (Int.tmod (wi64 ((Int.tmod ((a0.getD x256.toNat (S_armoirelaw15_Op.mk 0 0 (S_api_Touch.mk 0 0 [] 0 0))).n) 9) + 9)) 9))) rfl rfl rfl rfl rfl rfl rfl ?_
            refine G.assign rfl rfl rfl rfl ?_
            refine G.regionEnd ?_
            refine G.frontAt 3 rfl ?_
            refine G.frontAt 3 rfl ?_
            refine G.frontAt 3 rfl ?_
            refine G.less ?_ (J657  (wi64 ((x255.length : Int) - (Int.tmod (wi64 ((Int.tmod ((a0.getD x256.toNat (S_armoirelaw15_Op.mk 0 0 (S_api_Touch.mk 0 0 [] 0 0))).n) 9) + 9)) 9))) h)
            exact ⟨rfl, rfl, rfl, rfl, rfl, rfl, rfl, rfl, trivial⟩
          · replace h := ifF h k658
            refine G.skip ?_
            refine G.frontAt 3 rfl ?_
            refine G.frontAt 3 rfl ?_
            refine G.frontAt 3 rfl ?_
            refine G.less ?_ (J657  ((a0.getD x256.toNat (S_armoirelaw15_Op.mk 0 0 (S_api_Touch.mk 0 0 [] 0 0))).n) h)
            exact ⟨rfl, rfl, rfl, rfl, rfl, rfl, rfl, rfl, trivial⟩
        · replace h := ifF h k659
          refine G.exit rfl ?_
          refine G.seq ?_
          refine G.region (l := [0, 1]) rfl ?_
          refine G.move rfl rfl rfl rfl ?_
          refine G.assign rfl rfl rfl rfl ?_
          refine G.regionEnd ?_
          refine G.drop ?_
          refine G.drop ?_
          refine G.drop ?_
          obtain rfl := Option.some.inj h
          exact G.ret1 Try.func6 rfl rfl (fun w hs => ⟨_, _, rfl, ⟨rfl, rfl⟩, hs⟩)
    intro J660
    refine G.osNil 24 K_S_api_Touch ?_
    refine G.same (d := 5) (v := .slice none (([] : List S_api_Touch).length) 0) rfl (by first | (simp; done) | (simp; omega)) ?_
    refine G.frontAt 1 rfl ?_
    refine G.frontAt 2 rfl ?_
    refine G.less ?_ (J660 FUEL  B11 c12 t5.l none 0 ([] : List S_api_Touch) 0 h)
    exact ⟨rfl, rfl, rfl, rfl, rfl, rfl, trivial⟩
set_option maxRecDepth 20000 in
theorem reads_NewHistory.ok {O : World} {H : PH} {Fr : List Res}  {r : S_reads_History} (h : reads_NewHistory.f  = some r) :
    CtrS Try.prog 14 [] O H (Fr) (fun v L' => ∃ (gr0 : Nat) (Ar0 : Option Addr) (nr0 : Nat), v = .pointer (some ⟨gr0, 0, none⟩) ∧ BK 60 K_R_reads_History gr0 (R_reads_History.mk (Ar0, r.l.length, nr0)) :: OS 63 K_S_reads_was Ar0 nr0 r.l :: Fr = L') := by
  refine CtrS.start (n := 3) Try.func14 rfl Try.ntmps14 rfl rfl ?_
  unfold reads_NewHistory.f at h
  refine G.seq ?_
  refine G.region (l := [0]) rfl ?_
  refine G.assign rfl rfl rfl rfl ?_
  refine G.regionEnd ?_
  refine G.seq ?_
  refine G.region (l := [0, 1, 2]) rfl ?_
  refine G.build (z := .agg (([.slice none 0 0] : List Value)).toArray) (pl := [(0, 1)]) (cs := ([.slice none 0 0] : List Value)) rfl rfl rfl Try.underlying60 (by kernel_rfl) rfl (by kernel_rfl) (by kernel_rfl) rfl ?_
  refine G.box (dk := K_R_reads_History) (y := (R_reads_History.mk (none, 0, 0))) rfl rfl rfl rfl (VR.A (cs := ([.slice none 0 0] : List Value)) (K_R_reads_History.mk rfl)) ?_
  intro g1
  refine G.assign rfl rfl rfl rfl ?_
  refine G.regionEnd ?_
  refine G.osNil 63 K_S_reads_was ?_
  refine G.frontAt 1 rfl ?_
  refine G.headEq (r' := BK 60 K_R_reads_History g1 (R_reads_History.mk (none, ([] : List S_reads_was).length, 0))) (by first | (simp; done) | (simp; omega)) ?_
  refine G.frontAt 1 rfl ?_
  refine G.frontAt 1 rfl ?_
  obtain rfl := Option.some.inj h
  exact G.ret1 Try.func14 rfl rfl (fun w hs => ⟨_, _, rfl, ⟨g1, none, 0, rfl, rfl⟩, hs⟩)
set_option maxRecDepth 20000 in
theorem reads_History_Add_1.ok {O : World} {H : PH} {Fr : List Res} (a0 : S_api_Touch) {r : Bool} (h : reads_History_Add_1.f a0 = some r) :
    CtrS Try.prog 29 [.agg (S_api_Touch.enc a0).toArray] O H (Fr) (fun v L' => v = .bool r ∧ Fr = L') := by
  refine CtrS.start (n := 6) Try.func29 rfl Try.ntmps29 rfl rfl ?_
  unfold reads_History_Add_1.f at h
  refine G.seq ?_
  refine G.region (l := [0, 1]) rfl ?_
  refine G.box (dk := K_S_api_Touch) (y := a0) rfl rfl rfl rfl (VR.A (cs := S_api_Touch.enc a0) (K_S_api_Touch.of a0)) ?_
  intro g1
  refine G.assign rfl rfl rfl rfl ?_
  refine G.regionEnd ?_
  refine G.seq ?_
  refine G.region (l := [0, 1, 2, 3]) rfl ?_
  refine G.loadA (df := K_S_api_Touch) (y := a0) rfl rfl rfl rfl ty24 rfl (fun w hs => Rd.bk (Lens.id _ _) hs (j := 0) rfl) ?_
  intro cs3 f4
  obtain rfl := K_S_api_Touch.open f4
  obtain ⟨t5, e6, h⟩ := bindS h
  refine G.callS rfl rfl rfl rfl call10 (reads_Check.ok a0 e6) ?_
  rintro v7 L8 ⟨rfl, rfl⟩
  refine G.cmp (t5 ≠ 0) rfl rfl rfl rfl rfl rfl Iff.rfl ?_
  refine G.assign rfl rfl rfl rfl ?_
  refine G.regionEnd ?_
  refine G.drop ?_
  obtain rfl := Option.some.inj h
  exact G.ret1 Try.func29 rfl rfl (fun w hs => ⟨_, _, rfl, ⟨rfl, rfl⟩, hs⟩)
def reads_History_Add.reg15_5 (B : List (Nat × Value)) : Reg := ⟨[[], [], [1], [2], [3], [], [], [6], [5, 7], [8], [4, 9, 7], [0, 0, 1, 2, 3, 4, 5, 6, 7, 8, 9, 10], [11, 0, 1, 2, 3, 4, 5, 6, 7, 8, 9, 10], [12, 10, 10, 0, 1, 2, 3, 4, 5, 6, 7, 8, 9, 10]], [some 34, some 35, some 36, some 37, some 38, some 39, some 40, some 41, some 42, some 43, some 44, some 45, some 46, none], B⟩
theorem reads_History_Add.reg15_5_ap (B : List (Nat × Value)) : (reads_History_Add.reg15_5 B).apart = true := rfl
set_option maxRecDepth 20000 in
theorem reads_History_Add.ok {O : World} {H : PH} {Fr : List Res} (a0 : S_reads_History) (g0 : Nat) (A0 : Option Addr) (n0 : Nat) (a1 : Int) (a2 : (List S_api_Touch)) (A2 : Option Addr) (n2 : Nat) (F2 : SlR K_S_api_Touch H A2 n2 a2) {r : Int × S_reads_History} (h : reads_History_Add.f a0 a1 a2 = some r) :
    Ctr Try.prog 15 [.pointer (some ⟨g0, 0, none⟩), .int .u64 a1, .slice A2 a2.length n2] O H (BK 60 K_R_reads_History g0 (R_reads_History.mk (A0, a0.l.length, n0)) :: OS 63 K_S_reads_was A0 n0 a0.l :: Fr) (fun v H' L' => ∃ (Ar0 : Option Addr) (nr0 : Nat), v = .int .i64 r.1 ∧ BK 60 K_R_reads_History g0 (R_reads_History.mk (Ar0, r.2.l.length, nr0)) :: OS 63 K_S_reads_was Ar0 nr0 r.2.l :: Fr = L') := by
  refine Ctr.start (n := 47) Try.func15 rfl Try.ntmps15 rfl rfl ?_
  unfold reads_History_Add.f at h
  refine G.seq ?_
  refine G.region (l := [0]) rfl ?_
  refine G.assign rfl rfl rfl rfl ?_
  refine G.regionEnd ?_
  refine G.seq ?_
  refine G.region (l := [0]) rfl ?_
  refine G.assign rfl rfl rfl rfl ?_
  refine G.regionEnd ?_
  refine G.seq ?_
  refine G.seq ?_
  refine G.region (l := [0, 1, 2, 3, 4, 5]) rfl ?_
  refine G.move rfl rfl rfl rfl ?_
  refine G.nilCheck rfl rfl rfl rfl ?_
  refine G.field (off' := 0) rfl rfl rfl rfl Try.underlying60 rfl sz58 rfl rfl ?_
  refine G.loadH (B := A0) (m := a0.l.length) (c := n0) rfl rfl rfl rfl ty58r (fun w hs => Rd.bk (R_reads_History.L_l _) hs (j := 0) rfl) ?_
  refine G.len (m := a0.l.length) rfl rfl rfl rfl Try.underlying58 ?_
  refine G.assign rfl rfl rfl rfl ?_
  refine G.regionEnd ?_
  refine G.seq ?_
  refine G.region (l := [0, 1, 2, 3, 4, 5, 6, 7, 8, 9, 10, 11, 12, 13, 14, 15, 16, 17, 18, 19]) rfl ?_
  refine G.move rfl rfl rfl rfl ?_
  refine G.cmp (0 < (a0.l.length : Int)) rfl rfl rfl rfl rfl rfl Iff.rfl ?_
  refine G.move rfl rfl rfl rfl ?_
  refine G.splitP (d := 16) rfl (fun k468 => ?_) (fun k468 => ?_)
  · replace h := ifT h k468
    refine G.move rfl rfl rfl rfl ?_
    refine G.nilCheck rfl rfl rfl rfl ?_
    refine G.field (off' := 0) rfl rfl rfl rfl Try.underlying60 rfl sz58 rfl rfl ?_
    refine G.loadH (B := A0) (m := a0.l.length) (c := n0) rfl rfl rfl rfl ty58r (fun w hs => Rd.bk (R_reads_History.L_l _) hs (j := 0) rfl) ?_
    refine G.move rfl rfl rfl rfl ?_
    refine G.bin (m := (a0.l.length : Int)) (n := 1) (r := wi64 ((a0.l.length : Int) - 1)) rfl rfl rfl rfl rfl rfl rfl ?_
    obtain ⟨k6, h⟩ := guardS h
    have q5 : (wi64 ((a0.l.length : Int) - 1)).toNat < a0.l.length := by omega
    refine G.indexO (xs := a0.l) (j := wi64 ((a0.l.length : Int) - 1)) (off := (wi64 ((a0.l.length : Int) - 1)).toNat * 2) rfl rfl rfl rfl rfl el58 (r := 1) rfl (by simp) k6 rfl ?_
    refine G.fieldO (off' := (wi64 ((a0.l.length : Int) - 1)).toNat * 2) rfl rfl rfl rfl Try.underlying63 rfl sz30 rfl rfl ?_
    refine G.loadI (y := (a0.l.getD ((wi64 ((a0.l.length : Int) - 1)).toNat) (S_reads_was.mk 0 [])).version) rfl rfl rfl rfl ty30 (fun w hs => Rd.osG q5 (S_reads_was.L_version _) hs (j := 1) rfl (o := (wi64 ((a0.l.length : Int) - 1)).toNat * 2) (by first | rfl | simp)) ?_
    refine G.move rfl rfl rfl rfl ?_
    refine G.cmp (a1 ≤ ((a0.l.getD ((wi64 ((a0.l.length : Int) - 1)).toNat) (S_reads_was.mk 0 [])).version)) rfl rfl rfl rfl rfl rfl Iff.rfl ?_
    refine G.pickT rfl rfl rfl rfl rfl ?_
    refine G.move rfl rfl rfl rfl ?_
    refine G.rest (l1 := [16, 17, 18, 19]) (l2 := []) (fun GG K => ∀ (b124 : Bool), reads_History_Add.j0 a0 a1 a2 b124 = some r → GG H [(0, .pointer (some ⟨g0, 0, none⟩)), (1, .int .u64 a1), (2, .slice A2 a2.length n2), (33, .bool b124)] (OS 63 K_S_reads_was A0 n0 a0.l :: BK 60 K_R_reads_History g0 (R_reads_History.mk (A0, a0.l.length, n0)) :: Fr) K) ?_ ?_
    · intro b124 h
      unfold reads_History_Add.j0 at h
      refine G.regionEnd ?_
      refine G.cond rfl (fun k150 => ?_) (fun k150 => ?_)
      · replace h := ifT h k150
        refine G.seq ?_
        refine G.region (l := [0]) rfl ?_
        refine G.assign rfl rfl rfl rfl ?_
        refine G.regionEnd ?_
        refine G.frontAt 1 rfl ?_
        obtain rfl := Option.some.inj h
        exact G.ret1 Try.func15 rfl rfl (fun w hs => ⟨_, _, _, rfl, (PH.le_refl _), ⟨A0, n0, rfl, rfl⟩, hs⟩)
      · replace h := ifFB h k150
        refine G.skip ?_
        refine G.seq ?_
        obtain ⟨t125, e126, h⟩ := bindS h
        obtain ⟨k140, h⟩ := guardS h
        refine G.draw [[], [], [1], [2], [3], [], [], [6], [5, 7], [8], [4, 9, 7], [0, 0, 1, 2, 3, 4, 5, 6, 7, 8, 9, 10], [11, 0, 1, 2, 3, 4, 5, 6, 7, 8, 9, 10], [12, 10, 10, 0, 1, 2, 3, 4, 5, 6, 7, 8, 9, 10]] 14 [0, 1, 2, 3, 4, 5, 6, 7, 8, 9, 10, 11, 12, 13] [0, 0, 1, 2, 3, 0, 0, 1, 2, 3, 4, 5, 6, 7] [0, 0, 1, 2, 3, 0, 0, 1, 2, 3, 4, 5, 6, 7] rfl (by kernel_rfl) (by kernel_rfl) (by kernel_rfl) (by kernel_rfl) ?_
        intro C141 ops142 k143
        let R144 : Reg := reads_History_Add.reg15_5 [(0, .pointer (some ⟨g0, 0, none⟩)), (1, .int .u64 a1), (2, .slice A2 a2.length n2)]
        have P149 : ∀ (B129 : Option Addr) (c130 : Nat) (H132 : PH) (l133 : PH.le H H132) (B135 : Option Addr) (B137 : Option Addr) (c138 : Nat) (m : Nat) (L : List Bool) (A : List (Nat × Value)) (l : List Nat), L.length = R144.ds.length → R144.Phi [some (.pointer (some ⟨g0, 0, none⟩)), some (.pointer (some ⟨g0, 0, none⟩)), some (.pointer (some ⟨g0, 0, none⟩)), some (.pointer (some ⟨g0, 0, none⟩)), some (.slice A0 a0.l.length n0), some (.int .u64 a1), some (.slice A2 a2.length n2), some (.slice B129 t125.length c130), some (.agg (([.int .u64 a1] : List Value) ++ (([.slice B129 t125.length c130] : List Value))).toArray), some (.slice B135 (([(S_reads_was.mk a1 t125)] : List S_reads_was).length) 1), some (.slice B137 ((a0.l ++ ([(S_reads_was.mk a1 t125)] : List S_reads_was)).length) c138), some (.pointer (some ⟨g0, 0, none⟩)), some (.pointer (some ⟨g0, 0, none⟩)), none] [0, 1, 2, 3, 4, 5, 6, 7, 8, 9, 10, 11, 12, 13] [] L A → left L = m → Ord R144.ds m L l → G C141 H132 A (BK 60 K_R_reads_History g0 (R_reads_History.mk (B137, (a0.l ++ ([(S_reads_was.mk a1 t125)] : List S_reads_was)).length, c138)) :: OS 63 K_S_reads_was B137 c138 (a0.l ++ ([(S_reads_was.mk a1 t125)] : List S_reads_was)) :: Fr) (.inRegion ops142 l :: k143) := by
          intro B129 c130 H132 l133 B135 B137 c138
          refine G.phase R144 [some (.pointer (some ⟨g0, 0, none⟩)), some (.pointer (some ⟨g0, 0, none⟩)), some (.pointer (some ⟨g0, 0, none⟩)), some (.pointer (some ⟨g0, 0, none⟩)), some (.slice A0 a0.l.length n0), some (.int .u64 a1), some (.slice A2 a2.length n2), some (.slice B129 t125.length c130), some (.agg (([.int .u64 a1] : List Value) ++ (([.slice B129 t125.length c130] : List Value))).toArray), some (.slice B135 (([(S_reads_was.mk a1 t125)] : List S_reads_was).length) 1), some (.slice B137 ((a0.l ++ ([(S_reads_was.mk a1 t125)] : List S_reads_was)).length) c138), some (.pointer (some ⟨g0, 0, none⟩)), some (.pointer (some ⟨g0, 0, none⟩)), none] [] [] [0, 1, 2, 3, 4, 5, 6, 7, 8, 9, 10, 11, 12, 13] [] (reads_History_Add.reg15_5_ap _) rfl rfl trivial trivial ?_
          · intro A L hlen hp h0
            refine G.lessSub (B := []) (hp.fin hlen h0 (src := []) rfl) ?_
            refine G.regionEnd ?_
            refine G.seq ?_
            refine G.region (l := [0]) rfl ?_
            refine G.assign rfl rfl rfl rfl ?_
            refine G.regionEnd ?_
            refine G.frontAt 1 rfl ?_
            refine G.frontAt 1 rfl ?_
            obtain rfl := Option.some.inj h
            exact G.ret1 Try.func15 rfl rfl (fun w hs => ⟨_, _, _, rfl, l133, ⟨B137, c138, rfl, rfl⟩, hs⟩)
        have P148 : ∀ (B129 : Option Addr) (c130 : Nat) (H132 : PH) (l133 : PH.le H H132) (B135 : Option Addr) (B137 : Option Addr) (c138 : Nat) (m : Nat) (L : List Bool) (A : List (Nat × Value)) (l : List Nat), L.length = R144.ds.length → R144.Phi [some (.pointer (some ⟨g0, 0, none⟩)), some (.pointer (some ⟨g0, 0, none⟩)), some (.pointer (some ⟨g0, 0, none⟩)), some (.pointer (some ⟨g0, 0, none⟩)), some (.slice A0 a0.l.length n0), some (.int .u64 a1), some (.slice A2 a2.length n2), some (.slice B129 t125.length c130), some (.agg (([.int .u64 a1] : List Value) ++ (([.slice B129 t125.length c130] : List Value))).toArray), some (.slice B135 (([(S_reads_was.mk a1 t125)] : List S_reads_was).length) 1), some (.slice B137 ((a0.l ++ ([(S_reads_was.mk a1 t125)] : List S_reads_was)).length) c138), some (.pointer (some ⟨g0, 0, none⟩)), some (.pointer (some ⟨g0, 0, none⟩)), none] [1, 2, 3, 4, 5, 6, 7, 8, 9, 10] [13] L A → left L = m → Ord R144.ds m L l → G C141 H132 A (OS 63 K_S_reads_was B137 c138 (a0.l ++ ([(S_reads_was.mk a1 t125)] : List S_reads_was)) :: BK 60 K_R_reads_History g0 (R_reads_History.mk (A0, a0.l.length, n0)) :: Fr) (.inRegion ops142 l :: k143) := by
          intro B129 c130 H132 l133 B135 B137 c138
          refine G.phase R144 [some (.pointer (some ⟨g0, 0, none⟩)), some (.pointer (some ⟨g0, 0, none⟩)), some (.pointer (some ⟨g0, 0, none⟩)), some (.pointer (some ⟨g0, 0, none⟩)), some (.slice A0 a0.l.length n0), some (.int .u64 a1), some (.slice A2 a2.length n2), some (.slice B129 t125.length c130), some (.agg (([.int .u64 a1] : List Value) ++ (([.slice B129 t125.length c130] : List Value))).toArray), some (.slice B135 (([(S_reads_was.mk a1 t125)] : List S_reads_was).length) 1), some (.slice B137 ((a0.l ++ ([(S_reads_was.mk a1 t125)] : List S_reads_was)).length) c138), some (.pointer (some ⟨g0, 0, none⟩)), some (.pointer (some ⟨g0, 0, none⟩)), none] [0, 11, 12] [13] [1, 2, 3, 4, 5, 6, 7, 8, 9, 10] [13] (reads_History_Add.reg15_5_ap _) rfl rfl ⟨⟨[.base 0], 34, .pointer (some ⟨g0, 0, none⟩), [(0, .pointer (some ⟨g0, 0, none⟩))], ⟨rfl, rfl, rfl, rfl, ?_⟩⟩, ⟨⟨[.op 0], 45, .pointer (some ⟨g0, 0, none⟩), [(34, .pointer (some ⟨g0, 0, none⟩))], ⟨rfl, rfl, rfl, rfl, ?_⟩⟩, ⟨⟨[.op 11], 46, .pointer (some ⟨g0, 0, none⟩), [(45, .pointer (some ⟨g0, 0, none⟩))], ⟨rfl, rfl, rfl, rfl, ?_⟩⟩, trivial⟩⟩⟩ ⟨⟨[.op 10, .op 12], [(44, .slice B137 ((a0.l ++ ([(S_reads_was.mk a1 t125)] : List S_reads_was)).length) c138), (46, .pointer (some ⟨g0, 0, none⟩))], ⟨rfl, rfl, ?_⟩⟩, trivial⟩ ?_
          · intro X rest g
            refine G.move rfl rfl rfl rfl ?_
            exact g
          · intro X rest g
            refine G.nilCheck rfl rfl rfl rfl ?_
            exact g
          · intro X rest g
            refine G.field (off' := 0) rfl rfl rfl rfl Try.underlying60 rfl sz58 rfl rfl ?_
            exact g
          · intro X rest L m hlen hp hil hd hs hm ho
            refine G.frontAt 1 rfl ?_
            refine G.store (df := Kd.hdr) (y := (B137, (a0.l ++ ([(S_reads_was.mk a1 t125)] : List S_reads_was)).length, c138)) (x1 := (R_reads_History.mk (B137, (a0.l ++ ([(S_reads_was.mk a1 t125)] : List S_reads_was)).length, c138))) rfl rfl rfl rfl (R_reads_History.L_l _) ⟨([.slice B137 ((a0.l ++ ([(S_reads_was.mk a1 t125)] : List S_reads_was)).length) c138] : List Value), rfl, rfl⟩ sz58 rfl ?_
            refine G.frontAt 1 rfl ?_
            refine G.frontAt 1 rfl ?_
            exact P149 B129 c130 H132 l133 B135 B137 c138 m _ _ rest (by rw [List.length_set]; exact hlen) (hp.stepN2 2 (reads_History_Add.reg15_5_ap _) hil hd hs (by repeat (first | exact trivial | refine And.intro rfl ?_)) rfl rfl rfl) hm ho
          · intro A L hlen hp h0
            exact (hp.notYet hlen h0 13 rfl rfl).elim
        have P147 : ∀ (B129 : Option Addr) (c130 : Nat) (H132 : PH) (l133 : PH.le H H132) (B135 : Option Addr) (m : Nat) (L : List Bool) (A : List (Nat × Value)) (l : List Nat), L.length = R144.ds.length → R144.Phi [some (.pointer (some ⟨g0, 0, none⟩)), some (.pointer (some ⟨g0, 0, none⟩)), some (.pointer (some ⟨g0, 0, none⟩)), some (.pointer (some ⟨g0, 0, none⟩)), some (.slice A0 a0.l.length n0), some (.int .u64 a1), some (.slice A2 a2.length n2), some (.slice B129 t125.length c130), some (.agg (([.int .u64 a1] : List Value) ++ (([.slice B129 t125.length c130] : List Value))).toArray), some (.slice B135 (([(S_reads_was.mk a1 t125)] : List S_reads_was).length) 1), none, none, none, none] [5, 6, 7, 8, 9] [10, 11, 12, 13] L A → left L = m → Ord R144.ds m L l → G C141 H132 A (OS 63 K_S_reads_was B135 1 ([(S_reads_was.mk a1 t125)] : List S_reads_was) :: OS 63 K_S_reads_was A0 n0 a0.l :: BK 60 K_R_reads_History g0 (R_reads_History.mk (A0, a0.l.length, n0)) :: Fr) (.inRegion ops142 l :: k143) := by
          intro B129 c130 H132 l133 B135
          refine G.phase R144 [some (.pointer (some ⟨g0, 0, none⟩)), some (.pointer (some ⟨g0, 0, none⟩)), some (.pointer (some ⟨g0, 0, none⟩)), some (.pointer (some ⟨g0, 0, none⟩)), some (.slice A0 a0.l.length n0), some (.int .u64 a1), some (.slice A2 a2.length n2), some (.slice B129 t125.length c130), some (.agg (([.int .u64 a1] : List Value) ++ (([.slice B129 t125.length c130] : List Value))).toArray), some (.slice B135 (([(S_reads_was.mk a1 t125)] : List S_reads_was).length) 1), none, none, none, none] [0, 1, 2, 3, 4] [10] [5, 6, 7, 8, 9] [10, 11, 12, 13] (reads_History_Add.reg15_5_ap _) rfl rfl ⟨⟨[.base 0], 34, .pointer (some ⟨g0, 0, none⟩), [(0, .pointer (some ⟨g0, 0, none⟩))], ⟨rfl, rfl, rfl, rfl, ?_⟩⟩, ⟨⟨[.base 0], 35, .pointer (some ⟨g0, 0, none⟩), [(0, .pointer (some ⟨g0, 0, none⟩))], ⟨rfl, rfl, rfl, rfl, ?_⟩⟩, ⟨⟨[.op 1], 36, .pointer (some ⟨g0, 0, none⟩), [(35, .pointer (some ⟨g0, 0, none⟩))], ⟨rfl, rfl, rfl, rfl, ?_⟩⟩, ⟨⟨[.op 2], 37, .pointer (some ⟨g0, 0, none⟩), [(36, .pointer (some ⟨g0, 0, none⟩))], ⟨rfl, rfl, rfl, rfl, ?_⟩⟩, ⟨⟨[.op 3], 38, .slice A0 a0.l.length n0, [(37, .pointer (some ⟨g0, 0, none⟩))], ⟨rfl, rfl, rfl, rfl, ?_⟩⟩, trivial⟩⟩⟩⟩⟩ ⟨⟨[.op 4, .op 9], [(38, .slice A0 a0.l.length n0), (43, .slice B135 (([(S_reads_was.mk a1 t125)] : List S_reads_was).length) 1)], ⟨rfl, rfl, ?_⟩⟩, trivial⟩ ?_
          · intro X rest g
            refine G.move rfl rfl rfl rfl ?_
            exact g
          · intro X rest g
            refine G.move rfl rfl rfl rfl ?_
            exact g
          · intro X rest g
            refine G.nilCheck rfl rfl rfl rfl ?_
            exact g
          · intro X rest g
            refine G.field (off' := 0) rfl rfl rfl rfl Try.underlying60 rfl sz58 rfl rfl ?_
            exact g
          · intro X rest g
            refine G.loadH (B := A0) (m := a0.l.length) (c := n0) rfl rfl rfl rfl ty58r (fun w hs => Rd.bk (R_reads_History.L_l _) hs (j := 2) rfl) ?_
            exact g
          · intro X rest L m hlen hp hil hd hs hm ho
            refine G.frontAt 1 rfl ?_
            refine G.append (df := K_S_reads_was) (xs := a0.l) (ys := ([(S_reads_was.mk a1 t125)] : List S_reads_was)) (z0 := (S_reads_was.mk 0 [])) (z := .agg (([.int .u64 0] : List Value) ++ (([.slice none 0 0] : List Value))).toArray) (cz := ([.int .u64 0] : List Value) ++ (([.slice none 0 0] : List Value))) rfl rfl rfl rfl (by simp) rfl el58 Try.underlying58 rfl (by kernel_rfl) rfl (K_S_reads_was.mk rfl ⟨none, 0, rfl, SlR.nil _ _⟩) (fun w hs => SrcR.os hs (j := 1) rfl) ⟨by omega, by omega⟩ ?_
            intro B137 c138
            refine G.frontAt 1 rfl ?_
            refine G.drop ?_
            refine G.frontAt 1 rfl ?_
            refine G.frontAt 1 rfl ?_
            exact P148 B129 c130 H132 l133 B135 B137 c138 m _ _ rest (by rw [List.length_set]; exact hlen) (hp.stepS2 4 (reads_History_Add.reg15_5_ap _) hil hd hs (by repeat (first | exact trivial | refine And.intro rfl ?_)) rfl rfl rfl rfl) hm ho
          · intro A L hlen hp h0
            exact (hp.notYet hlen h0 10 rfl rfl).elim
        have P146 : ∀ (B129 : Option Addr) (c130 : Nat) (m : Nat) (L : List Bool) (A : List (Nat × Value)) (l : List Nat), L.length = R144.ds.length → R144.Phi [some (.pointer (some ⟨g0, 0, none⟩)), some (.pointer (some ⟨g0, 0, none⟩)), some (.pointer (some ⟨g0, 0, none⟩)), some (.pointer (some ⟨g0, 0, none⟩)), some (.slice A0 a0.l.length n0), some (.int .u64 a1), some (.slice A2 a2.length n2), some (.slice B129 t125.length c130), some (.agg (([.int .u64 a1] : List Value) ++ (([.slice B129 t125.length c130] : List Value))).toArray), none, none, none, none, none] [6, 7] [9, 10, 11, 12, 13] L A → left L = m → Ord R144.ds m L l → G C141 H A (OS 24 K_S_api_Touch B129 c130 t125 :: OS 63 K_S_reads_was A0 n0 a0.l :: BK 60 K_R_reads_History g0 (R_reads_History.mk (A0, a0.l.length, n0)) :: Fr) (.inRegion ops142 l :: k143) := by
          intro B129 c130
          refine G.phase R144 [some (.pointer (some ⟨g0, 0, none⟩)), some (.pointer (some ⟨g0, 0, none⟩)), some (.pointer (some ⟨g0, 0, none⟩)), some (.pointer (some ⟨g0, 0, none⟩)), some (.slice A0 a0.l.length n0), some (.int .u64 a1), some (.slice A2 a2.length n2), some (.slice B129 t125.length c130), some (.agg (([.int .u64 a1] : List Value) ++ (([.slice B129 t125.length c130] : List Value))).toArray), none, none, none, none, none] [0, 1, 2, 3, 4, 5, 8] [9] [6, 7] [9, 10, 11, 12, 13] (reads_History_Add.reg15_5_ap _) rfl rfl ⟨⟨[.base 0], 34, .pointer (some ⟨g0, 0, none⟩), [(0, .pointer (some ⟨g0, 0, none⟩))], ⟨rfl, rfl, rfl, rfl, ?_⟩⟩, ⟨⟨[.base 0], 35, .pointer (some ⟨g0, 0, none⟩), [(0, .pointer (some ⟨g0, 0, none⟩))], ⟨rfl, rfl, rfl, rfl, ?_⟩⟩, ⟨⟨[.op 1], 36, .pointer (some ⟨g0, 0, none⟩), [(35, .pointer (some ⟨g0, 0, none⟩))], ⟨rfl, rfl, rfl, rfl, ?_⟩⟩, ⟨⟨[.op 2], 37, .pointer (some ⟨g0, 0, none⟩), [(36, .pointer (some ⟨g0, 0, none⟩))], ⟨rfl, rfl, rfl, rfl, ?_⟩⟩, ⟨⟨[.op 3], 38, .slice A0 a0.l.length n0, [(37, .pointer (some ⟨g0, 0, none⟩))], ⟨rfl, rfl, rfl, rfl, ?_⟩⟩, ⟨⟨[.base 1], 39, .int .u64 a1, [(1, .int .u64 a1)], ⟨rfl, rfl, rfl, rfl, ?_⟩⟩, ⟨⟨[.op 5, .op 7], 42, .agg (([.int .u64 a1] : List Value) ++ (([.slice B129 t125.length c130] : List Value))).toArray, [(39, .int .u64 a1), (41, .slice B129 t125.length c130)], ⟨rfl, rfl, rfl, rfl, ?_⟩⟩, trivial⟩⟩⟩⟩⟩⟩⟩ ⟨⟨[.op 8], [(42, .agg (([.int .u64 a1] : List Value) ++ (([.slice B129 t125.length c130] : List Value))).toArray)], ⟨rfl, rfl, ?_⟩⟩, trivial⟩ ?_
          · intro X rest g
            refine G.move rfl rfl rfl rfl ?_
            exact g
          · intro X rest g
            refine G.move rfl rfl rfl rfl ?_
            exact g
          · intro X rest g
            refine G.nilCheck rfl rfl rfl rfl ?_
            exact g
          · intro X rest g
            refine G.field (off' := 0) rfl rfl rfl rfl Try.underlying60 rfl sz58 rfl rfl ?_
            exact g
          · intro X rest g
            refine G.loadH (B := A0) (m := a0.l.length) (c := n0) rfl rfl rfl rfl ty58r (fun w hs => Rd.bk (R_reads_History.L_l _) hs (j := 2) rfl) ?_
            exact g
          · intro X rest g
            refine G.move rfl rfl rfl rfl ?_
            exact g
          · intro X rest g
            refine G.build (z := .agg (([.int .u64 0] : List Value) ++ (([.slice none 0 0] : List Value))).toArray) (pl := [(0, 1), (1, 1)]) (cs := ([.int .u64 a1] : List Value) ++ (([.slice B129 t125.length c130] : List Value))) rfl rfl rfl Try.underlying63 (by kernel_rfl) rfl (by kernel_rfl) (by kernel_rfl) rfl ?_
            exact g
          · intro X rest L m hlen hp hil hd hs hm ho
            refine G.freezeO ?_
            intro H132 l133 f134
            refine G.buildSliceV (df := K_S_reads_was) (xs := ([(S_reads_was.mk a1 t125)] : List S_reads_was)) (z0 := (S_reads_was.mk 0 [])) (vs := [.agg (([.int .u64 a1] : List Value) ++ (([.slice B129 t125.length c130] : List Value))).toArray]) rfl rfl rfl el58 (z := .agg (([.int .u64 0] : List Value) ++ (([.slice none 0 0] : List Value))).toArray) (cz := ([.int .u64 0] : List Value) ++ (([.slice none 0 0] : List Value))) (by kernel_rfl) rfl rfl rfl rfl rfl (K_S_reads_was.mk rfl ⟨none, 0, rfl, SlR.nil _ _⟩) ⟨(VR.A (cs := ([.int .u64 a1] : List Value) ++ (([.slice B129 t125.length c130] : List Value))) (K_S_reads_was.mk rfl ⟨_, _, rfl, f134⟩)), trivial⟩ ?_
            intro B135
            refine G.frontAt 2 rfl ?_
            refine G.frontAt 2 rfl ?_
            refine G.frontAt 2 rfl ?_
            exact P147 B129 c130 H132 l133 B135 m _ _ rest (by rw [List.length_set]; exact hlen) (hp.stepS2 2 (reads_History_Add.reg15_5_ap _) hil hd hs (by repeat (first | exact trivial | refine And.intro rfl ?_)) rfl rfl rfl rfl) hm ho
          · intro A L hlen hp h0
            exact (hp.notYet hlen h0 9 rfl rfl).elim
        have P145 : ∀ (m : Nat) (L : List Bool) (A : List (Nat × Value)) (l : List Nat), L.length = R144.ds.length → R144.Phi [some (.pointer (some ⟨g0, 0, none⟩)), some (.pointer (some ⟨g0, 0, none⟩)), some (.pointer (some ⟨g0, 0, none⟩)), some (.pointer (some ⟨g0, 0, none⟩)), some (.slice A0 a0.l.length n0), some (.int .u64 a1), some (.slice A2 a2.length n2), none, none, none, none, none, none, none] [] [7, 8, 9, 10, 11, 12, 13] L A → left L = m → Ord R144.ds m L l → G C141 H A (OS 63 K_S_reads_was A0 n0 a0.l :: BK 60 K_R_reads_History g0 (R_reads_History.mk (A0, a0.l.length, n0)) :: Fr) (.inRegion ops142 l :: k143) := by
          refine G.phase R144 [some (.pointer (some ⟨g0, 0, none⟩)), some (.pointer (some ⟨g0, 0, none⟩)), some (.pointer (some ⟨g0, 0, none⟩)), some (.pointer (some ⟨g0, 0, none⟩)), some (.slice A0 a0.l.length n0), some (.int .u64 a1), some (.slice A2 a2.length n2), none, none, none, none, none, none, none] [0, 1, 2, 3, 4, 5, 6] [7] [] [7, 8, 9, 10, 11, 12, 13] (reads_History_Add.reg15_5_ap _) rfl rfl ⟨⟨[.base 0], 34, .pointer (some ⟨g0, 0, none⟩), [(0, .pointer (some ⟨g0, 0, none⟩))], ⟨rfl, rfl, rfl, rfl, ?_⟩⟩, ⟨⟨[.base 0], 35, .pointer (some ⟨g0, 0, none⟩), [(0, .pointer (some ⟨g0, 0, none⟩))], ⟨rfl, rfl, rfl, rfl, ?_⟩⟩, ⟨⟨[.op 1], 36, .pointer (some ⟨g0, 0, none⟩), [(35, .pointer (some ⟨g0, 0, none⟩))], ⟨rfl, rfl, rfl, rfl, ?_⟩⟩, ⟨⟨[.op 2], 37, .pointer (some ⟨g0, 0, none⟩), [(36, .pointer (some ⟨g0, 0, none⟩))], ⟨rfl, rfl, rfl, rfl, ?_⟩⟩, ⟨⟨[.op 3], 38, .slice A0 a0.l.length n0, [(37, .pointer (some ⟨g0, 0, none⟩))], ⟨rfl, rfl, rfl, rfl, ?_⟩⟩, ⟨⟨[.base 1], 39, .int .u64 a1, [(1, .int .u64 a1)], ⟨rfl, rfl, rfl, rfl, ?_⟩⟩, ⟨⟨[.base 2], 40, .slice A2 a2.length n2, [(2, .slice A2 a2.length n2)], ⟨rfl, rfl, rfl, rfl, ?_⟩⟩, trivial⟩⟩⟩⟩⟩⟩⟩ ⟨⟨[.op 6], [(40, .slice A2 a2.length n2)], ⟨rfl, rfl, ?_⟩⟩, trivial⟩ ?_
          · intro X rest g
            refine G.move rfl rfl rfl rfl ?_
            exact g
          · intro X rest g
            refine G.move rfl rfl rfl rfl ?_
            exact g
          · intro X rest g
            refine G.nilCheck rfl rfl rfl rfl ?_
            exact g
          · intro X rest g
            refine G.field (off' := 0) rfl rfl rfl rfl Try.underlying60 rfl sz58 rfl rfl ?_
            exact g
          · intro X rest g
            refine G.loadH (B := A0) (m := a0.l.length) (c := n0) rfl rfl rfl rfl ty58r (fun w hs => Rd.bk (R_reads_History.L_l _) hs (j := 1) rfl) ?_
            exact g
          · intro X rest g
            refine G.move rfl rfl rfl rfl ?_
            exact g
          · intro X rest g
            refine G.move rfl rfl rfl rfl ?_
            exact g
          · intro X rest L m hlen hp hil hd hs hm ho
            refine G.callBO (m := 0) rfl rfl rfl rfl call31 rfl (fun H1 hle hsl => (slices_Clone_Lapi_Touch_api_Touch.ok a2 A2 n2 (F2.mono hle) e126).ctr) (by rintro v H' L' ⟨_, _, rfl, rfl⟩; exact (Free.cons (Free.os flat_S_api_Touch) Free.nil)) ?_
            rintro v127 L128 ⟨_, ⟨B129, c130, rfl, rfl⟩⟩
            refine G.frontAt 2 rfl ?_
            refine G.frontAt 2 rfl ?_
            refine G.frontAt 2 rfl ?_
            exact P146 B129 c130 m _ _ rest (by rw [List.length_set]; exact hlen) (hp.stepS2 1 (reads_History_Add.reg15_5_ap _) hil hd hs (by repeat (first | exact trivial | refine And.intro rfl ?_)) rfl rfl rfl rfl) hm ho
          · intro A L hlen hp h0
            exact (hp.notYet hlen h0 7 rfl rfl).elim
        intro l hl
        exact P145 14 (List.replicate 14 false) _ l rfl (Reg.Phi.init 14 ⟨rfl, rfl, rfl, trivial⟩) (left_rep 14) hl
    intro J151
    refine G.rest (l1 := [16, 17, 18, 19]) (l2 := []) (fun GG K => ∀ (b152 : Bool), reads_History_Add.j1 a0 a1 a2 b152 = some r → GG H [(0, .pointer (some ⟨g0, 0, none⟩)), (1, .int .u64 a1), (2, .slice A2 a2.length n2), (33, .bool b152)] (OS 63 K_S_reads_was A0 n0 a0.l :: BK 60 K_R_reads_History g0 (R_reads_History.mk (A0, a0.l.length, n0)) :: Fr) K) ?_ ?_
    · intro b152 h
      unfold reads_History_Add.j1 at h
      refine G.regionEnd ?_
      refine G.cond rfl (fun k178 => ?_) (fun k178 => ?_)
      · replace h := ifT h k178
        refine G.seq ?_
        refine G.region (l := [0]) rfl ?_
        refine G.assign rfl rfl rfl rfl ?_
        refine G.regionEnd ?_
        refine G.frontAt 1 rfl ?_
        obtain rfl := Option.some.inj h
        exact G.ret1 Try.func15 rfl rfl (fun w hs => ⟨_, _, _, rfl, (PH.le_refl _), ⟨A0, n0, rfl, rfl⟩, hs⟩)
      · replace h := ifFB h k178
        refine G.skip ?_
        refine G.seq ?_
        obtain ⟨t153, e154, h⟩ := bindS h
        obtain ⟨k168, h⟩ := guardS h
        refine G.draw [[], [], [1], [2], [3], [], [], [6], [5, 7], [8], [4, 9, 7], [0, 0, 1, 2, 3, 4, 5, 6, 7, 8, 9, 10], [11, 0, 1, 2, 3, 4, 5, 6, 7, 8, 9, 10], [12, 10, 10, 0, 1, 2, 3, 4, 5, 6, 7, 8, 9, 10]] 14 [0, 1, 2, 3, 4, 5, 6, 7, 8, 9, 10, 11, 12, 13] [0, 0, 1, 2, 3, 0, 0, 1, 2, 3, 4, 5, 6, 7] [0, 0, 1, 2, 3, 0, 0, 1, 2, 3, 4, 5, 6, 7] rfl (by kernel_rfl) (by kernel_rfl) (by kernel_rfl) (by kernel_rfl) ?_
        intro C169 ops170 k171
        let R172 : Reg := reads_History_Add.reg15_5 [(0, .pointer (some ⟨g0, 0, none⟩)), (1, .int .u64 a1), (2, .slice A2 a2.length n2)]
        have P177 : ∀ (B157 : Option Addr) (c158 : Nat) (H160 : PH) (l161 : PH.le H H160) (B163 : Option Addr) (B165 : Option Addr) (c166 : Nat) (m : Nat) (L : List Bool) (A : List (Nat × Value)) (l : List Nat), L.length = R172.ds.length → R172.Phi [some (.pointer (some ⟨g0, 0, none⟩)), some (.pointer (some ⟨g0, 0, none⟩)), some (.pointer (some ⟨g0, 0, none⟩)), some (.pointer (some ⟨g0, 0, none⟩)), some (.slice A0 a0.l.length n0), some (.int .u64 a1), some (.slice A2 a2.length n2), some (.slice B157 t153.length c158), some (.agg (([.int .u64 a1] : List Value) ++ (([.slice B157 t153.length c158] : List Value))).toArray), some (.slice B163 (([(S_reads_was.mk a1 t153)] : List S_reads_was).length) 1), some (.slice B165 ((a0.l ++ ([(S_reads_was.mk a1 t153)] : List S_reads_was)).length) c166), some (.pointer (some ⟨g0, 0, none⟩)), some (.pointer (some ⟨g0, 0, none⟩)), none] [0, 1, 2, 3, 4, 5, 6, 7, 8, 9, 10, 11, 12, 13] [] L A → left L = m → Ord R172.ds m L l → G C169 H160 A (BK 60 K_R_reads_History g0 (R_reads_History.mk (B165, (a0.l ++ ([(S_reads_was.mk a1 t153)] : List S_reads_was)).length, c166)) :: OS 63 K_S_reads_was B165 c166 (a0.l ++ ([(S_reads_was.mk a1 t153)] : List S_reads_was)) :: Fr) (.inRegion ops170 l :: k171) := by
          intro B157 c158 H160 l161 B163 B165 c166
          refine G.phase R172 [some (.pointer (some ⟨g0, 0, none⟩)), some (.pointer (some ⟨g0, 0, none⟩)), some (.pointer (some ⟨g0, 0, none⟩)), some (.pointer (some ⟨g0, 0, none⟩)), some (.slice A0 a0.l.length n0), some (.int .u64 a1), some (.slice A2 a2.length n2), some (.slice B157 t153.length c158), some (.agg (([.int .u64 a1] : List Value) ++ (([.slice B157 t153.length c158] : List Value))).toArray), some (.slice B163 (([(S_reads_was.mk a1 t153)] : List S_reads_was).length) 1), some (.slice B165 ((a0.l ++ ([(S_reads_was.mk a1 t153)] : List S_reads_was)).length) c166), some (.pointer (some ⟨g0, 0, none⟩)), some (.pointer (some ⟨g0, 0, none⟩)), none] [] [] [0, 1, 2, 3, 4, 5, 6, 7, 8, 9, 10, 11, 12, 13] [] (reads_History_Add.reg15_5_ap _) rfl rfl trivial trivial ?_
          · intro A L hlen hp h0
            refine G.lessSub (B := []) (hp.fin hlen h0 (src := []) rfl) ?_
            refine G.regionEnd ?_
            refine G.seq ?_
            refine G.region (l := [0]) rfl ?_
            refine G.assign rfl rfl rfl rfl ?_
            refine G.regionEnd ?_
            refine G.frontAt 1 rfl ?_
            refine G.frontAt 1 rfl ?_
            obtain rfl := Option.some.inj h
            exact G.ret1 Try.func15 rfl rfl (fun w hs => ⟨_, _, _, rfl, l161, ⟨B165, c166, rfl, rfl⟩, hs⟩)
        have P176 : ∀ (B157 : Option Addr) (c158 : Nat) (H160 : PH) (l161 : PH.le H H160) (B163 : Option Addr) (B165 : Option Addr) (c166 : Nat) (m : Nat) (L : List Bool) (A : List (Nat × Value)) (l : List Nat), L.length = R172.ds.length → R172.Phi [some (.pointer (some ⟨g0, 0, none⟩)), some (.pointer (some ⟨g0, 0, none⟩)), some (.pointer (some ⟨g0, 0, none⟩)), some (.pointer (some ⟨g0, 0, none⟩)), some (.slice A0 a0.l.length n0), some (.int .u64 a1), some (.slice A2 a2.length n2), some (.slice B157 t153.length c158), some (.agg (([.int .u64 a1] : List Value) ++ (([.slice B157 t153.length c158] : List Value))).toArray), some (.slice B163 (([(S_reads_was.mk a1 t153)] : List S_reads_was).length) 1), some (.slice B165 ((a0.l ++ ([(S_reads_was.mk a1 t153)] : List S_reads_was)).length) c166), some (.pointer (some ⟨g0, 0, none⟩)), some (.pointer (some ⟨g0, 0, none⟩)), none] [1, 2, 3, 4, 5, 6, 7, 8, 9, 10] [13] L A → left L = m → Ord R172.ds m L l → G C169 H160 A (OS 63 K_S_reads_was B165 c166 (a0.l ++ ([(S_reads_was.mk a1 t153)] : List S_reads_was)) :: BK 60 K_R_reads_History g0 (R_reads_History.mk (A0, a0.l.length, n0)) :: Fr) (.inRegion ops170 l :: k171) := by
          intro B157 c158 H160 l161 B163 B165 c166
          refine G.phase R172 [some (.pointer (some ⟨g0, 0, none⟩)), some (.pointer (some ⟨g0, 0, none⟩)), some (.pointer (some ⟨g0, 0, none⟩)), some (.pointer (some ⟨g0, 0, none⟩)), some (.slice A0 a0.l.length n0), some (.int .u64 a1), some (.slice A2 a2.length n2), some (.slice B157 t153.length c158), some (.agg (([.int .u64 a1] : List Value) ++ (([.slice B157 t153.length c158] : List Value))).toArray), some (.slice B163 (([(S_reads_was.mk a1 t153)] : List S_reads_was).length) 1), some (.slice B165 ((a0.l ++ ([(S_reads_was.mk a1 t153)] : List S_reads_was)).length) c166), some (.pointer (some ⟨g0, 0, none⟩)), some (.pointer (some ⟨g0, 0, none⟩)), none] [0, 11, 12] [13] [1, 2, 3, 4, 5, 6, 7, 8, 9, 10] [13] (reads_History_Add.reg15_5_ap _) rfl rfl ⟨⟨[.base 0], 34, .pointer (some ⟨g0, 0, none⟩), [(0, .pointer (some ⟨g0, 0, none⟩))], ⟨rfl, rfl, rfl, rfl, ?_⟩⟩, ⟨⟨[.op 0], 45, .pointer (some ⟨g0, 0, none⟩), [(34, .pointer (some ⟨g0, 0, none⟩))], ⟨rfl, rfl, rfl, rfl, ?_⟩⟩, ⟨⟨[.op 11], 46, .pointer (some ⟨g0, 0, none⟩), [(45, .pointer (some ⟨g0, 0, none⟩))], ⟨rfl, rfl, rfl, rfl, ?_⟩⟩, trivial⟩⟩⟩ ⟨⟨[.op 10, .op 12], [(44, .slice B165 ((a0.l ++ ([(S_reads_was.mk a1 t153)] : List S_reads_was)).length) c166), (46, .pointer (some ⟨g0, 0, none⟩))], ⟨rfl, rfl, ?_⟩⟩, trivial⟩ ?_
          · intro X rest g
            refine G.move rfl rfl rfl rfl ?_
            exact g
          · intro X rest g
            refine G.nilCheck rfl rfl rfl rfl ?_
            exact g
          · intro X rest g
            refine G.field (off' := 0) rfl rfl rfl rfl Try.underlying60 rfl sz58 rfl rfl ?_
            exact g
          · intro X rest L m hlen hp hil hd hs hm ho
            refine G.frontAt 1 rfl ?_
            refine G.store (df := Kd.hdr) (y := (B165, (a0.l ++ ([(S_reads_was.mk a1 t153)] : List S_reads_was)).length, c166)) (x1 := (R_reads_History.mk (B165, (a0.l ++ ([(S_reads_was.mk a1 t153)] : List S_reads_was)).length, c166))) rfl rfl rfl rfl (R_reads_History.L_l _) ⟨([.slice B165 ((a0.l ++ ([(S_reads_was.mk a1 t153)] : List S_reads_was)).length) c166] : List Value), rfl, rfl⟩ sz58 rfl ?_
            refine G.frontAt 1 rfl ?_
            refine G.frontAt 1 rfl ?_
            exact P177 B157 c158 H160 l161 B163 B165 c166 m _ _ rest (by rw [List.length_set]; exact hlen) (hp.stepN2 2 (reads_History_Add.reg15_5_ap _) hil hd hs (by repeat (first | exact trivial | refine And.intro rfl ?_)) rfl rfl rfl) hm ho
          · intro A L hlen hp h0
            exact (hp.notYet hlen h0 13 rfl rfl).elim
        have P175 : ∀ (B157 : Option Addr) (c158 : Nat) (H160 : PH) (l161 : PH.le H H160) (B163 : Option Addr) (m : Nat) (L : List Bool) (A : List (Nat × Value)) (l : List Nat), L.length = R172.ds.length → R172.Phi [some (.pointer (some ⟨g0, 0, none⟩)), some (.pointer (some ⟨g0, 0, none⟩)), some (.pointer (some ⟨g0, 0, none⟩)), some (.pointer (some ⟨g0, 0, none⟩)), some (.slice A0 a0.l.length n0), some (.int .u64 a1), some (.slice A2 a2.length n2), some (.slice B157 t153.length c158), some (.agg (([.int .u64 a1] : List Value) ++ (([.slice B157 t153.length c158] : List Value))).toArray), some (.slice B163 (([(S_reads_was.mk a1 t153)] : List S_reads_was).length) 1), none, none, none, none] [5, 6, 7, 8, 9] [10, 11, 12, 13] L A → left L = m → Ord R172.ds m L l → G C169 H160 A (OS 63 K_S_reads_was B163 1 ([(S_reads_was.mk a1 t153)] : List S_reads_was) :: OS 63 K_S_reads_was A0 n0 a0.l :: BK 60 K_R_reads_History g0 (R_reads_History.mk (A0, a0.l.length, n0)) :: Fr) (.inRegion ops170 l :: k171) := by
          intro B157 c158 H160 l161 B163
          refine G.phase R172 [some (.pointer (some ⟨g0, 0, none⟩)), some (.pointer (some ⟨g0, 0, none⟩)), some (.pointer (some ⟨g0, 0, none⟩)), some (.pointer (some ⟨g0, 0, none⟩)), some (.slice A0 a0.l.length n0), some (.int .u64 a1), some (.slice A2 a2.length n2), some (.slice B157 t153.length c158), some (.agg (([.int .u64 a1] : List Value) ++ (([.slice B157 t153.length c158] : List Value))).toArray), some (.slice B163 (([(S_reads_was.mk a1 t153)] : List S_reads_was).length) 1), none, none, none, none] [0, 1, 2, 3, 4] [10] [5, 6, 7, 8, 9] [10, 11, 12, 13] (reads_History_Add.reg15_5_ap _) rfl rfl ⟨⟨[.base 0], 34, .pointer (some ⟨g0, 0, none⟩), [(0, .pointer (some ⟨g0, 0, none⟩))], ⟨rfl, rfl, rfl, rfl, ?_⟩⟩, ⟨⟨[.base 0], 35, .pointer (some ⟨g0, 0, none⟩), [(0, .pointer (some ⟨g0, 0, none⟩))], ⟨rfl, rfl, rfl, rfl, ?_⟩⟩, ⟨⟨[.op 1], 36, .pointer (some ⟨g0, 0, none⟩), [(35, .pointer (some ⟨g0, 0, none⟩))], ⟨rfl, rfl, rfl, rfl, ?_⟩⟩, ⟨⟨[.op 2], 37, .pointer (some ⟨g0, 0, none⟩), [(36, .pointer (some ⟨g0, 0, none⟩))], ⟨rfl, rfl, rfl, rfl, ?_⟩⟩, ⟨⟨[.op 3], 38, .slice A0 a0.l.length n0, [(37, .pointer (some ⟨g0, 0, none⟩))], ⟨rfl, rfl, rfl, rfl, ?_⟩⟩, trivial⟩⟩⟩⟩⟩ ⟨⟨[.op 4, .op 9], [(38, .slice A0 a0.l.length n0), (43, .slice B163 (([(S_reads_was.mk a1 t153)] : List S_reads_was).length) 1)], ⟨rfl, rfl, ?_⟩⟩, trivial⟩ ?_
          · intro X rest g
            refine G.move rfl rfl rfl rfl ?_
            exact g
          · intro X rest g
            refine G.move rfl rfl rfl rfl ?_
            exact g
          · intro X rest g
            refine G.nilCheck rfl rfl rfl rfl ?_
            exact g
          · intro X rest g
            refine G.field (off' := 0) rfl rfl rfl rfl Try.underlying60 rfl sz58 rfl rfl ?_
            exact g
          · intro X rest g
            refine G.loadH (B := A0) (m := a0.l.length) (c := n0) rfl rfl rfl rfl ty58r (fun w hs => Rd.bk (R_reads_History.L_l _) hs (j := 2) rfl) ?_
            exact g
          · intro X rest L m hlen hp hil hd hs hm ho
            refine G.frontAt 1 rfl ?_
            refine G.append (df := K_S_reads_was) (xs := a0.l) (ys := ([(S_reads_was.mk a1 t153)] : List S_reads_was)) (z0 := (S_reads_was.mk 0 [])) (z := .agg (([.int .u64 0] : List Value) ++ (([.slice none 0 0] : List Value))).toArray) (cz := ([.int .u64 0] : List Value) ++ (([.slice none 0 0] : List Value))) rfl rfl rfl rfl (by simp) rfl el58 Try.underlying58 rfl (by kernel_rfl) rfl (K_S_reads_was.mk rfl ⟨none, 0, rfl, SlR.nil _ _⟩) (fun w hs => SrcR.os hs (j := 1) rfl) ⟨by omega, by omega⟩ ?_
            intro B165 c166
            refine G.frontAt 1 rfl ?_
            refine G.drop ?_
            refine G.frontAt 1 rfl ?_
            refine G.frontAt 1 rfl ?_
            exact P176 B157 c158 H160 l161 B163 B165 c166 m _ _ rest (by rw [List.length_set]; exact hlen) (hp.stepS2 4 (reads_History_Add.reg15_5_ap _) hil hd hs (by repeat (first | exact trivial | refine And.intro rfl ?_)) rfl rfl rfl rfl) hm ho
          · intro A L hlen hp h0
            exact (hp.notYet hlen h0 10 rfl rfl).elim
        have P174 : ∀ (B157 : Option Addr) (c158 : Nat) (m : Nat) (L : List Bool) (A : List (Nat × Value)) (l : List Nat), L.length = R172.ds.length → R172.Phi [some (.pointer (some ⟨g0, 0, none⟩)), some (.pointer (some ⟨g0, 0, none⟩)), some (.pointer (some ⟨g0, 0, none⟩)), some (.pointer (some ⟨g0, 0, none⟩)), some (.slice A0 a0.l.length n0), some (.int .u64 a1), some (.slice A2 a2.length n2), some (.slice B157 t153.length c158), some (.agg (([.int .u64 a1] : List Value) ++ (([.slice B157 t153.length c158] : List Value))).toArray), none, none, none, none, none] [6, 7] [9, 10, 11, 12, 13] L A → left L = m → Ord R172.ds m L l → G C169 H A (OS 24 K_S_api_Touch B157 c158 t153 :: OS 63 K_S_reads_was A0 n0 a0.l :: BK 60 K_R_reads_History g0 (R_reads_History.mk (A0, a0.l.length, n0)) :: Fr) (.inRegion ops170 l :: k171) := by
          intro B157 c158
          refine G.phase R172 [some (.pointer (some ⟨g0, 0, none⟩)), some (.pointer (some ⟨g0, 0, none⟩)), some (.pointer (some ⟨g0, 0, none⟩)), some (.pointer (some ⟨g0, 0, none⟩)), some (.slice A0 a0.l.length n0), some (.int .u64 a1), some (.slice A2 a2.length n2), some (.slice B157 t153.length c158), some (.agg (([.int .u64 a1] : List Value) ++ (([.slice B157 t153.length c158] : List Value))).toArray), none, none, none, none, none] [0, 1, 2, 3, 4, 5, 8] [9] [6, 7] [9, 10, 11, 12, 13] (reads_History_Add.reg15_5_ap _) rfl rfl ⟨⟨[.base 0], 34, .pointer (some ⟨g0, 0, none⟩), [(0, .pointer (some ⟨g0, 0, none⟩))], ⟨rfl, rfl, rfl, rfl, ?_⟩⟩, ⟨⟨[.base 0], 35, .pointer (some ⟨g0, 0, none⟩), [(0, .pointer (some ⟨g0, 0, none⟩))], ⟨rfl, rfl, rfl, rfl, ?_⟩⟩, ⟨⟨[.op 1], 36, .pointer (some ⟨g0, 0, none⟩), [(35, .pointer (some ⟨g0, 0, none⟩))], ⟨rfl, rfl, rfl, rfl, ?_⟩⟩, ⟨⟨[.op 2], 37, .pointer (some ⟨g0, 0, none⟩), [(36, .pointer (some ⟨g0, 0, none⟩))], ⟨rfl, rfl, rfl, rfl, ?_⟩⟩, ⟨⟨[.op 3], 38, .slice A0 a0.l.length n0, [(37, .pointer (some ⟨g0, 0, none⟩))], ⟨rfl, rfl, rfl, rfl, ?_⟩⟩, ⟨⟨[.base 1], 39, .int .u64 a1, [(1, .int .u64 a1)], ⟨rfl, rfl, rfl, rfl, ?_⟩⟩, ⟨⟨[.op 5, .op 7], 42, .agg (([.int .u64 a1] : List Value) ++ (([.slice B157 t153.length c158] : List Value))).toArray, [(39, .int .u64 a1), (41, .slice B157 t153.length c158)], ⟨rfl, rfl, rfl, rfl, ?_⟩⟩, trivial⟩⟩⟩⟩⟩⟩⟩ ⟨⟨[.op 8], [(42, .agg (([.int .u64 a1] : List Value) ++ (([.slice B157 t153.length c158] : List Value))).toArray)], ⟨rfl, rfl, ?_⟩⟩, trivial⟩ ?_
          · intro X rest g
            refine G.move rfl rfl rfl rfl ?_
            exact g
          · intro X rest g
            refine G.move rfl rfl rfl rfl ?_
            exact g
          · intro X rest g
            refine G.nilCheck rfl rfl rfl rfl ?_
            exact g
          · intro X rest g
            refine G.field (off' := 0) rfl rfl rfl rfl Try.underlying60 rfl sz58 rfl rfl ?_
            exact g
          · intro X rest g
            refine G.loadH (B := A0) (m := a0.l.length) (c := n0) rfl rfl rfl rfl ty58r (fun w hs => Rd.bk (R_reads_History.L_l _) hs (j := 2) rfl) ?_
            exact g
          · intro X rest g
            refine G.move rfl rfl rfl rfl ?_
            exact g
          · intro X rest g
            refine G.build (z := .agg (([.int .u64 0] : List Value) ++ (([.slice none 0 0] : List Value))).toArray) (pl := [(0, 1), (1, 1)]) (cs := ([.int .u64 a1] : List Value) ++ (([.slice B157 t153.length c158] : List Value))) rfl rfl rfl Try.underlying63 (by kernel_rfl) rfl (by kernel_rfl) (by kernel_rfl) rfl ?_
            exact g
          · intro X rest L m hlen hp hil hd hs hm ho
            refine G.freezeO ?_
            intro H160 l161 f162
            refine G.buildSliceV (df := K_S_reads_was) (xs := ([(S_reads_was.mk a1 t153)] : List S_reads_was)) (z0 := (S_reads_was.mk 0 [])) (vs := [.agg (([.int .u64 a1] : List Value) ++ (([.slice B157 t153.length c158] : List Value))).toArray]) rfl rfl rfl el58 (z := .agg (([.int .u64 0] : List Value) ++ (([.slice none 0 0] : List Value))).toArray) (cz := ([.int .u64 0] : List Value) ++ (([.slice none 0 0] : List Value))) (by kernel_rfl) rfl rfl rfl rfl rfl (K_S_reads_was.mk rfl ⟨none, 0, rfl, SlR.nil _ _⟩) ⟨(VR.A (cs := ([.int .u64 a1] : List Value) ++ (([.slice B157 t153.length c158] : List Value))) (K_S_reads_was.mk rfl ⟨_, _, rfl, f162⟩)), trivial⟩ ?_
            intro B163
            refine G.frontAt 2 rfl ?_
            refine G.frontAt 2 rfl ?_
            refine G.frontAt 2 rfl ?_
            exact P175 B157 c158 H160 l161 B163 m _ _ rest (by rw [List.length_set]; exact hlen) (hp.stepS2 2 (reads_History_Add.reg15_5_ap _) hil hd hs (by repeat (first | exact trivial | refine And.intro rfl ?_)) rfl rfl rfl rfl) hm ho
          · intro A L hlen hp h0
            exact (hp.notYet hlen h0 9 rfl rfl).elim
        have P173 : ∀ (m : Nat) (L : List Bool) (A : List (Nat × Value)) (l : List Nat), L.length = R172.ds.length → R172.Phi [some (.pointer (some ⟨g0, 0, none⟩)), some (.pointer (some ⟨g0, 0, none⟩)), some (.pointer (some ⟨g0, 0, none⟩)), some (.pointer (some ⟨g0, 0, none⟩)), some (.slice A0 a0.l.length n0), some (.int .u64 a1), some (.slice A2 a2.length n2), none, none, none, none, none, none, none] [] [7, 8, 9, 10, 11, 12, 13] L A → left L = m → Ord R172.ds m L l → G C169 H A (OS 63 K_S_reads_was A0 n0 a0.l :: BK 60 K_R_reads_History g0 (R_reads_History.mk (A0, a0.l.length, n0)) :: Fr) (.inRegion ops170 l :: k171) := by
          refine G.phase R172 [some (.pointer (some ⟨g0, 0, none⟩)), some (.pointer (some ⟨g0, 0, none⟩)), some (.pointer (some ⟨g0, 0, none⟩)), some (.pointer (some ⟨g0, 0, none⟩)), some (.slice A0 a0.l.length n0), some (.int .u64 a1), some (.slice A2 a2.length n2), none, none, none, none, none, none, none] [0, 1, 2, 3, 4, 5, 6] [7] [] [7, 8, 9, 10, 11, 12, 13] (reads_History_Add.reg15_5_ap _) rfl rfl ⟨⟨[.base 0], 34, .pointer (some ⟨g0, 0, none⟩), [(0, .pointer (some ⟨g0, 0, none⟩))], ⟨rfl, rfl, rfl, rfl, ?_⟩⟩, ⟨⟨[.base 0], 35, .pointer (some ⟨g0, 0, none⟩), [(0, .pointer (some ⟨g0, 0, none⟩))], ⟨rfl, rfl, rfl, rfl, ?_⟩⟩, ⟨⟨[.op 1], 36, .pointer (some ⟨g0, 0, none⟩), [(35, .pointer (some ⟨g0, 0, none⟩))], ⟨rfl, rfl, rfl, rfl, ?_⟩⟩, ⟨⟨[.op 2], 37, .pointer (some ⟨g0, 0, none⟩), [(36, .pointer (some ⟨g0, 0, none⟩))], ⟨rfl, rfl, rfl, rfl, ?_⟩⟩, ⟨⟨[.op 3], 38, .slice A0 a0.l.length n0, [(37, .pointer (some ⟨g0, 0, none⟩))], ⟨rfl, rfl, rfl, rfl, ?_⟩⟩, ⟨⟨[.base 1], 39, .int .u64 a1, [(1, .int .u64 a1)], ⟨rfl, rfl, rfl, rfl, ?_⟩⟩, ⟨⟨[.base 2], 40, .slice A2 a2.length n2, [(2, .slice A2 a2.length n2)], ⟨rfl, rfl, rfl, rfl, ?_⟩⟩, trivial⟩⟩⟩⟩⟩⟩⟩ ⟨⟨[.op 6], [(40, .slice A2 a2.length n2)], ⟨rfl, rfl, ?_⟩⟩, trivial⟩ ?_
          · intro X rest g
            refine G.move rfl rfl rfl rfl ?_
            exact g
          · intro X rest g
            refine G.move rfl rfl rfl rfl ?_
            exact g
          · intro X rest g
            refine G.nilCheck rfl rfl rfl rfl ?_
            exact g
          · intro X rest g
            refine G.field (off' := 0) rfl rfl rfl rfl Try.underlying60 rfl sz58 rfl rfl ?_
            exact g
          · intro X rest g
            refine G.loadH (B := A0) (m := a0.l.length) (c := n0) rfl rfl rfl rfl ty58r (fun w hs => Rd.bk (R_reads_History.L_l _) hs (j := 1) rfl) ?_
            exact g
          · intro X rest g
            refine G.move rfl rfl rfl rfl ?_
            exact g
          · intro X rest g
            refine G.move rfl rfl rfl rfl ?_
            exact g
          · intro X rest L m hlen hp hil hd hs hm ho
            refine G.callBO (m := 0) rfl rfl rfl rfl call31 rfl (fun H1 hle hsl => (slices_Clone_Lapi_Touch_api_Touch.ok a2 A2 n2 (F2.mono hle) e154).ctr) (by rintro v H' L' ⟨_, _, rfl, rfl⟩; exact (Free.cons (Free.os flat_S_api_Touch) Free.nil)) ?_
            rintro v155 L156 ⟨_, ⟨B157, c158, rfl, rfl⟩⟩
            refine G.frontAt 2 rfl ?_
            refine G.frontAt 2 rfl ?_
            refine G.frontAt 2 rfl ?_
            exact P174 B157 c158 m _ _ rest (by rw [List.length_set]; exact hlen) (hp.stepS2 1 (reads_History_Add.reg15_5_ap _) hil hd hs (by repeat (first | exact trivial | refine And.intro rfl ?_)) rfl rfl rfl rfl) hm ho
          · intro A L hlen hp h0
            exact (hp.notYet hlen h0 7 rfl rfl).elim
        intro l hl
        exact P173 14 (List.replicate 14 false) _ l rfl (Reg.Phi.init 14 ⟨rfl, rfl, rfl, trivial⟩) (left_rep 14) hl
    intro J179
    refine G.splitP (d := 29) rfl (fun k297 => ?_) (fun k297 => ?_)
    · replace h := ifT h k297
      refine G.unwanted rfl rfl rfl rfl ?_
      refine G.unwanted rfl rfl rfl rfl ?_
      refine G.unwanted rfl rfl rfl rfl ?_
      refine G.pickT rfl rfl rfl rfl rfl ?_
      refine G.frontAt 1 rfl ?_
      refine G.less ?_ (J151  true h)
      exact ⟨rfl, rfl, rfl, rfl, trivial⟩
    · replace h := ifF h k297
      refine G.move rfl rfl rfl rfl ?_
      refine G.move rfl rfl rfl rfl ?_
      refine G.inl (n' := 9) rfl rfl rfl rfl call30 Try.func30 rfl Try.ntmps30 rfl rfl ?_
      intro R180 rt181
      refine G.seq ?_
      refine G.region (l := [0]) rfl ?_
      refine G.assign rfl rfl rfl rfl ?_
      refine G.regionEnd ?_
      refine G.seq ?_
      refine G.region (l := [0, 1, 2, 3, 4]) rfl ?_
      refine G.move rfl rfl rfl rfl ?_
      refine G.move rfl rfl rfl rfl ?_
      refine G.inl (n' := 19) rfl rfl rfl rfl call39 Try.func39 rfl Try.ntmps39 rfl rfl ?_
      intro R240 rt241
      refine G.seq ?_
      refine G.region (l := [0]) rfl ?_
      refine G.assign rfl rfl rfl rfl ?_
      refine G.regionEnd ?_
      refine G.seq ?_
      refine G.seq ?_
      refine G.region (l := [0, 1, 2]) rfl ?_
      refine G.move rfl rfl rfl rfl ?_
      refine G.len (m := a2.length) rfl rfl rfl rfl Try.underlying31 ?_
      refine G.move rfl rfl rfl rfl ?_
      refine G.regionEnd ?_
      refine G.block ?_
      refine G.loop (fun GG K => ∀ (d283 : Nat) (x270 : Int), reads_History_Add.l0 a0 a1 a2 d283 x270 = some r → GG H [(0, .slice A2 a2.length n2), (1, .func (.func 29) #[] #[]), (7, .int .i64 (a2.length : Int)), (8, .int .i64 x270)] (OS 63 K_S_reads_was A0 n0 a0.l :: BK 60 K_R_reads_History g0 (R_reads_History.mk (A0, a0.l.length, n0)) :: Fr) K) ?_ ?_
      · intro d283
        induction d283 with
        | zero => intro x270 h; rw [reads_History_Add.l0] at h; cases h
        | succ d283 ih282 =>
          intro x270 h
          rw [reads_History_Add.l0] at h
          refine G.seq ?_
          refine G.region (l := [0]) rfl ?_
          refine G.cmp (x270 < (a2.length : Int)) rfl rfl rfl rfl rfl rfl Iff.rfl ?_
          refine G.regionEnd ?_
          refine G.seq ?_
          refine G.condP rfl (fun k295 => ?_) (fun k295 => ?_)
          · replace h := ifT h k295
            refine G.skip ?_
            refine G.seq ?_
            refine G.block ?_
            refine G.seq ?_
            refine G.region (l := [0, 1]) rfl ?_
            refine G.move rfl rfl rfl rfl ?_
            refine G.assign rfl rfl rfl rfl ?_
            refine G.regionEnd ?_
            refine G.seq ?_
            refine G.region (l := [0, 1, 2, 3, 4, 5]) rfl ?_
            refine G.move rfl rfl rfl rfl ?_
            refine G.move rfl rfl rfl rfl ?_
            refine G.move rfl rfl rfl rfl ?_
            obtain ⟨k287, h⟩ := guardS h
            refine G.indexR (xs := a2) (j := x270) (S_api_Touch.mk 0 0 [] 0 0) rfl rfl rfl rfl rfl el31 F2 k287 ?_
            intro a285 f286
            refine G.loadA (df := K_S_api_Touch) (y := a2.getD x270.toNat (S_api_Touch.mk 0 0 [] 0 0)) rfl rfl rfl rfl ty24 rfl (fun w hs => Rd.ro f286 hs) ?_
            intro cs288 f289
            obtain rfl := K_S_api_Touch.open f289
            obtain ⟨t290, e291, h⟩ := bindS h
            refine G.callSV rfl rfl rfl rfl rfl rfl call29 (reads_History_Add_1.ok (a2.getD x270.toNat (S_api_Touch.mk 0 0 [] 0 0)) e291) ?_
            rintro v292 L293 ⟨rfl, rfl⟩
            refine G.regionEnd ?_
            refine G.cond rfl (fun k294 => ?_) (fun k294 => ?_)
            · replace h := ifT h k294
              refine G.seq ?_
              refine G.region (l := [0, 1]) rfl ?_
              refine G.move rfl rfl rfl rfl ?_
              refine G.assign rfl rfl rfl rfl ?_
              refine G.regionEnd ?_
              refine G.ret1 Try.func39 rfl rfl (rt241 _ _ _ ?_)
              refine G.cmp (0 ≤ x270) rfl rfl rfl rfl rfl rfl Iff.rfl ?_
              refine G.assign rfl rfl rfl rfl ?_
              refine G.regionEnd ?_
              refine G.ret1 Try.func30 rfl rfl (rt181 _ _ _ ?_)
              refine G.pickF rfl rfl rfl rfl rfl ?_
              refine G.frontAt 1 rfl ?_
              refine G.frontAt 1 rfl ?_
              refine G.less ?_ (J179  (decide (0 ≤ x270)) h)
              exact ⟨rfl, rfl, rfl, rfl, trivial⟩
            · replace h := ifFB h k294
              refine G.skip ?_
              refine G.inBlock ?_
              refine G.region (l := [0, 1]) rfl ?_
              refine G.bin (m := x270) (n := 1) (r := wi64 (x270 + 1)) rfl rfl rfl rfl rfl rfl rfl ?_
              refine G.move rfl rfl rfl rfl ?_
              refine G.regionEnd ?_
              refine G.round ?_
              refine G.frontAt 1 rfl ?_
              refine G.frontAt 1 rfl ?_
              refine G.less ?_ (ih282  (wi64 (x270 + 1)) h)
              exact ⟨rfl, rfl, rfl, rfl, trivial⟩
          · replace h := ifF h k295
            refine G.exit rfl ?_
            refine G.seq ?_
            refine G.region (l := [0]) rfl ?_
            refine G.assign rfl rfl rfl rfl ?_
            refine G.regionEnd ?_
            refine G.ret1 Try.func39 rfl rfl (rt241 _ _ _ ?_)
            refine G.cmp (False) rfl rfl rfl rfl rfl rfl (by simp [cmpP]) ?_
            refine G.assign rfl rfl rfl rfl ?_
            refine G.regionEnd ?_
            refine G.ret1 Try.func30 rfl rfl (rt181 _ _ _ ?_)
            refine G.pickF rfl rfl rfl rfl rfl ?_
            refine G.frontAt 1 rfl ?_
            refine G.frontAt 1 rfl ?_
            refine G.less ?_ (J151  false h)
            exact ⟨rfl, rfl, rfl, rfl, trivial⟩
      intro J296
      refine G.frontAt 1 rfl ?_
      refine G.less ?_ (J296 FUEL  0 h)
      exact ⟨rfl, rfl, rfl, rfl, trivial⟩
  · replace h := ifF h k468
    refine G.unwanted rfl rfl rfl rfl ?_
    refine G.unwanted rfl rfl rfl rfl ?_
    refine G.unwanted rfl rfl rfl rfl ?_
    refine G.unwanted rfl rfl rfl rfl ?_
    refine G.unwanted rfl rfl rfl rfl ?_
    refine G.unwanted rfl rfl rfl rfl ?_
    refine G.unwanted rfl rfl rfl rfl ?_
    refine G.unwanted rfl rfl rfl rfl ?_
    refine G.unwanted rfl rfl rfl rfl ?_
    refine G.unwanted rfl rfl rfl rfl ?_
    refine G.unwanted rfl rfl rfl rfl ?_
    refine G.pickF rfl rfl rfl rfl rfl ?_
    refine G.move rfl rfl rfl rfl ?_
    refine G.move rfl rfl rfl rfl ?_
    refine G.move rfl rfl rfl rfl ?_
    refine G.rest (l1 := [18]) (l2 := [19]) (fun GG K => ∀ (b357 : Bool), reads_History_Add.j2 a0 a1 a2 b357 = some r → GG H [(0, .pointer (some ⟨g0, 0, none⟩)), (1, .int .u64 a1), (2, .slice A2 a2.length n2), (29, .bool false), (32, .bool b357)] (OS 63 K_S_reads_was A0 n0 a0.l :: BK 60 K_R_reads_History g0 (R_reads_History.mk (A0, a0.l.length, n0)) :: Fr) K) ?_ ?_
    · intro b357 h
      unfold reads_History_Add.j2 at h
      refine G.pickF rfl rfl rfl rfl rfl ?_
      refine G.regionEnd ?_
      refine G.cond rfl (fun k383 => ?_) (fun k383 => ?_)
      · replace h := ifT h k383
        refine G.seq ?_
        refine G.region (l := [0]) rfl ?_
        refine G.assign rfl rfl rfl rfl ?_
        refine G.regionEnd ?_
        refine G.frontAt 1 rfl ?_
        obtain rfl := Option.some.inj h
        exact G.ret1 Try.func15 rfl rfl (fun w hs => ⟨_, _, _, rfl, (PH.le_refl _), ⟨A0, n0, rfl, rfl⟩, hs⟩)
      · replace h := ifFB h k383
        refine G.skip ?_
        refine G.seq ?_
        obtain ⟨t358, e359, h⟩ := bindS h
        obtain ⟨k373, h⟩ := guardS h
        refine G.draw [[], [], [1], [2], [3], [], [], [6], [5, 7], [8], [4, 9, 7], [0, 0, 1, 2, 3, 4, 5, 6, 7, 8, 9, 10], [11, 0, 1, 2, 3, 4, 5, 6, 7, 8, 9, 10], [12, 10, 10, 0, 1, 2, 3, 4, 5, 6, 7, 8, 9, 10]] 14 [0, 1, 2, 3, 4, 5, 6, 7, 8, 9, 10, 11, 12, 13] [0, 0, 1, 2, 3, 0, 0, 1, 2, 3, 4, 5, 6, 7] [0, 0, 1, 2, 3, 0, 0, 1, 2, 3, 4, 5, 6, 7] rfl (by kernel_rfl) (by kernel_rfl) (by kernel_rfl) (by kernel_rfl) ?_
        intro C374 ops375 k376
        let R377 : Reg := reads_History_Add.reg15_5 [(0, .pointer (some ⟨g0, 0, none⟩)), (1, .int .u64 a1), (2, .slice A2 a2.length n2)]
        have P382 : ∀ (B362 : Option Addr) (c363 : Nat) (H365 : PH) (l366 : PH.le H H365) (B368 : Option Addr) (B370 : Option Addr) (c371 : Nat) (m : Nat) (L : List Bool) (A : List (Nat × Value)) (l : List Nat), L.length = R377.ds.length → R377.Phi [some (.pointer (some ⟨g0, 0, none⟩)), some (.pointer (some ⟨g0, 0, none⟩)), some (.pointer (some ⟨g0, 0, none⟩)), some (.pointer (some ⟨g0, 0, none⟩)), some (.slice A0 a0.l.length n0), some (.int .u64 a1), some (.slice A2 a2.length n2), some (.slice B362 t358.length c363), some (.agg (([.int .u64 a1] : List Value) ++ (([.slice B362 t358.length c363] : List Value))).toArray), some (.slice B368 (([(S_reads_was.mk a1 t358)] : List S_reads_was).length) 1), some (.slice B370 ((a0.l ++ ([(S_reads_was.mk a1 t358)] : List S_reads_was)).length) c371), some (.pointer (some ⟨g0, 0, none⟩)), some (.pointer (some ⟨g0, 0, none⟩)), none] [0, 1, 2, 3, 4, 5, 6, 7, 8, 9, 10, 11, 12, 13] [] L A → left L = m → Ord R377.ds m L l → G C374 H365 A (BK 60 K_R_reads_History g0 (R_reads_History.mk (B370, (a0.l ++ ([(S_reads_was.mk a1 t358)] : List S_reads_was)).length, c371)) :: OS 63 K_S_reads_was B370 c371 (a0.l ++ ([(S_reads_was.mk a1 t358)] : List S_reads_was)) :: Fr) (.inRegion ops375 l :: k376) := by
          intro B362 c363 H365 l366 B368 B370 c371
          refine G.phase R377 [some (.pointer (some ⟨g0, 0, none⟩)), some (.pointer (some ⟨g0, 0, none⟩)), some (.pointer (some ⟨g0, 0, none⟩)), some (.pointer (some ⟨g0, 0, none⟩)), some (.slice A0 a0.l.length n0), some (.int .u64 a1), some (.slice A2 a2.length n2), some (.slice B362 t358.length c363), some (.agg (([.int .u64 a1] : List Value) ++ (([.slice B362 t358.length c363] : List Value))).toArray), some (.slice B368 (([(S_reads_was.mk a1 t358)] : List S_reads_was).length) 1), some (.slice B370 ((a0.l ++ ([(S_reads_was.mk a1 t358)] : List S_reads_was)).length) c371), some (.pointer (some ⟨g0, 0, none⟩)), some (.pointer (some ⟨g0, 0, none⟩)), none] [] [] [0, 1, 2, 3, 4, 5, 6, 7, 8, 9, 10, 11, 12, 13] [] (reads_History_Add.reg15_5_ap _) rfl rfl trivial trivial ?_
          · intro A L hlen hp h0
            refine G.lessSub (B := []) (hp.fin hlen h0 (src := []) rfl) ?_
            refine G.regionEnd ?_
            refine G.seq ?_
            refine G.region (l := [0]) rfl ?_
            refine G.assign rfl rfl rfl rfl ?_
            refine G.regionEnd ?_
            refine G.frontAt 1 rfl ?_
            refine G.frontAt 1 rfl ?_
            obtain rfl := Option.some.inj h
            exact G.ret1 Try.func15 rfl rfl (fun w hs => ⟨_, _, _, rfl, l366, ⟨B370, c371, rfl, rfl⟩, hs⟩)
        have P381 : ∀ (B362 : Option Addr) (c363 : Nat) (H365 : PH) (l366 : PH.le H H365) (B368 : Option Addr) (B370 : Option Addr) (c371 : Nat) (m : Nat) (L : List Bool) (A : List (Nat × Value)) (l : List Nat), L.length = R377.ds.length → R377.Phi [some (.pointer (some ⟨g0, 0, none⟩)), some (.pointer (some ⟨g0, 0, none⟩)), some (.pointer (some ⟨g0, 0, none⟩)), some (.pointer (some ⟨g0, 0, none⟩)), some (.slice A0 a0.l.length n0), some (.int .u64 a1), some (.slice A2 a2.length n2), some (.slice B362 t358.length c363), some (.agg (([.int .u64 a1] : List Value) ++ (([.slice B362 t358.length c363] : List Value))).toArray), some (.slice B368 (([(S_reads_was.mk a1 t358)] : List S_reads_was).length) 1), some (.slice B370 ((a0.l ++ ([(S_reads_was.mk a1 t358)] : List S_reads_was)).length) c371), some (.pointer (some ⟨g0, 0, none⟩)), some (.pointer (some ⟨g0, 0, none⟩)), none] [1, 2, 3, 4, 5, 6, 7, 8, 9, 10] [13] L A → left L = m → Ord R377.ds m L l → G C374 H365 A (OS 63 K_S_reads_was B370 c371 (a0.l ++ ([(S_reads_was.mk a1 t358)] : List S_reads_was)) :: BK 60 K_R_reads_History g0 (R_reads_History.mk (A0, a0.l.length, n0)) :: Fr) (.inRegion ops375 l :: k376) := by
          intro B362 c363 H365 l366 B368 B370 c371
          refine G.phase R377 [some (.pointer (some ⟨g0, 0, none⟩)), some (.pointer (some ⟨g0, 0, none⟩)), some (.pointer (some ⟨g0, 0, none⟩)), some (.pointer (some ⟨g0, 0, none⟩)), some (.slice A0 a0.l.length n0), some (.int .u64 a1), some (.slice A2 a2.length n2), some (.slice B362 t358.length c363), some (.agg (([.int .u64 a1] : List Value) ++ (([.slice B362 t358.length c363] : List Value))).toArray), some (.slice B368 (([(S_reads_was.mk a1 t358)] : List S_reads_was).length) 1), some (.slice B370 ((a0.l ++ ([(S_reads_was.mk a1 t358)] : List S_reads_was)).length) c371), some (.pointer (some ⟨g0, 0, none⟩)), some (.pointer (some ⟨g0, 0, none⟩)), none] [0, 11, 12] [13] [1, 2, 3, 4, 5, 6, 7, 8, 9, 10] [13] (reads_History_Add.reg15_5_ap _) rfl rfl ⟨⟨[.base 0], 34, .pointer (some ⟨g0, 0, none⟩), [(0, .pointer (some ⟨g0, 0, none⟩))], ⟨rfl, rfl, rfl, rfl, ?_⟩⟩, ⟨⟨[.op 0], 45, .pointer (some ⟨g0, 0, none⟩), [(34, .pointer (some ⟨g0, 0, none⟩))], ⟨rfl, rfl, rfl, rfl, ?_⟩⟩, ⟨⟨[.op 11], 46, .pointer (some ⟨g0, 0, none⟩), [(45, .pointer (some ⟨g0, 0, none⟩))], ⟨rfl, rfl, rfl, rfl, ?_⟩⟩, trivial⟩⟩⟩ ⟨⟨[.op 10, .op 12], [(44, .slice B370 ((a0.l ++ ([(S_reads_was.mk a1 t358)] : List S_reads_was)).length) c371), (46, .pointer (some ⟨g0, 0, none⟩))], ⟨rfl, rfl, ?_⟩⟩, trivial⟩ ?_
          · intro X rest g
            refine G.move rfl rfl rfl rfl ?_
            exact g
          · intro X rest g
            refine G.nilCheck rfl rfl rfl rfl ?_
            exact g
          · intro X rest g
            refine G.field (off' := 0) rfl rfl rfl rfl Try.underlying60 rfl sz58 rfl rfl ?_
            exact g
          · intro X rest L m hlen hp hil hd hs hm ho
            refine G.frontAt 1 rfl ?_
            refine G.store (df := Kd.hdr) (y := (B370, (a0.l ++ ([(S_reads_was.mk a1 t358)] : List S_reads_was)).length, c371)) (x1 := (R_reads_History.mk (B370, (a0.l ++ ([(S_reads_was.mk a1 t358)] : List S_reads_was)).length, c371))) rfl rfl rfl rfl (R_reads_History.L_l _) ⟨([.slice B370 ((a0.l ++ ([(S_reads_was.mk a1 t358)] : List S_reads_was)).length) c371] : List Value), rfl, rfl⟩ sz58 rfl ?_
            refine G.frontAt 1 rfl ?_
            refine G.frontAt 1 rfl ?_
            exact P382 B362 c363 H365 l366 B368 B370 c371 m _ _ rest (by rw [List.length_set]; exact hlen) (hp.stepN2 2 (reads_History_Add.reg15_5_ap _) hil hd hs (by repeat (first | exact trivial | refine And.intro rfl ?_)) rfl rfl rfl) hm ho
          · intro A L hlen hp h0
            exact (hp.notYet hlen h0 13 rfl rfl).elim
        have P380 : ∀ (B362 : Option Addr) (c363 : Nat) (H365 : PH) (l366 : PH.le H H365) (B368 : Option Addr) (m : Nat) (L : List Bool) (A : List (Nat × Value)) (l : List Nat), L.length = R377.ds.length → R377.Phi [some (.pointer (some ⟨g0, 0, none⟩)), some (.pointer (some ⟨g0, 0, none⟩)), some (.pointer (some ⟨g0, 0, none⟩)), some (.pointer (some ⟨g0, 0, none⟩)), some (.slice A0 a0.l.length n0), some (.int .u64 a1), some (.slice A2 a2.length n2), some (.slice B362 t358.length c363), some (.agg (([.int .u64 a1] : List Value) ++ (([.slice B362 t358.length c363] : List Value))).toArray), some (.slice B368 (([(S_reads_was.mk a1 t358)] : List S_reads_was).length) 1), none, none, none, none] [5, 6, 7, 8, 9] [10, 11, 12, 13] L A → left L = m → Ord R377.ds m L l → G C374 H365 A (OS 63 K_S_reads_was B368 1 ([(S_reads_was.mk a1 t358)] : List S_reads_was) :: OS 63 K_S_reads_was A0 n0 a0.l :: BK 60 K_R_reads_History g0 (R_reads_History.mk (A0, a0.l.length, n0)) :: Fr) (.inRegion ops375 l :: k376) := by
          intro B362 c363 H365 l366 B368
          refine G.phase R377 [some (.pointer (some ⟨g0, 0, none⟩)), some (.pointer (some ⟨g0, 0, none⟩)), some (.pointer (some ⟨g0, 0, none⟩)), some (.pointer (some ⟨g0, 0, none⟩)), some (.slice A0 a0.l.length n0), some (.int .u64 a1), some (.slice A2 a2.length n2), some (.slice B362 t358.length c363), some (.agg (([.int .u64 a1] : List Value) ++ (([.slice B362 t358.length c363] : List Value))).toArray), some (.slice B368 (([(S_reads_was.mk a1 t358)] : List S_reads_was).length) 1), none, none, none, none] [0, 1, 2, 3, 4] [10] [5, 6, 7, 8, 9] [10, 11, 12, 13] (reads_History_Add.reg15_5_ap _) rfl rfl ⟨⟨[.base 0], 34, .pointer (some ⟨g0, 0, none⟩), [(0, .pointer (some ⟨g0, 0, none⟩))], ⟨rfl, rfl, rfl, rfl, ?_⟩⟩, ⟨⟨[.base 0], 35, .pointer (some ⟨g0, 0, none⟩), [(0, .pointer (some ⟨g0, 0, none⟩))], ⟨rfl, rfl, rfl, rfl, ?_⟩⟩, ⟨⟨[.op 1], 36, .pointer (some ⟨g0, 0, none⟩), [(35, .pointer (some ⟨g0, 0, none⟩))], ⟨rfl, rfl, rfl, rfl, ?_⟩⟩, ⟨⟨[.op 2], 37, .pointer (some ⟨g0, 0, none⟩), [(36, .pointer (some ⟨g0, 0, none⟩))], ⟨rfl, rfl, rfl, rfl, ?_⟩⟩, ⟨⟨[.op 3], 38, .slice A0 a0.l.length n0, [(37, .pointer (some ⟨g0, 0, none⟩))], ⟨rfl, rfl, rfl, rfl, ?_⟩⟩, trivial⟩⟩⟩⟩⟩ ⟨⟨[.op 4, .op 9], [(38, .slice A0 a0.l.length n0), (43, .slice B368 (([(S_reads_was.mk a1 t358)] : List S_reads_was).length) 1)], ⟨rfl, rfl, ?_⟩⟩, trivial⟩ ?_
          · intro X rest g
            refine G.move rfl rfl rfl rfl ?_
            exact g
          · intro X rest g
            refine G.move rfl rfl rfl rfl ?_
            exact g
          · intro X rest g
            refine G.nilCheck rfl rfl rfl rfl ?_
            exact g
          · intro X rest g
            refine G.field (off' := 0) rfl rfl rfl rfl Try.underlying60 rfl sz58 rfl rfl ?_
            exact g
          · intro X rest g
            refine G.loadH (B := A0) (m := a0.l.length) (c := n0) rfl rfl rfl rfl ty58r (fun w hs => Rd.bk (R_reads_History.L_l _) hs (j := 2) rfl) ?_
            exact g
          · intro X rest L m hlen hp hil hd hs hm ho
            refine G.frontAt 1 rfl ?_
            refine G.append (df := K_S_reads_was) (xs := a0.l) (ys := ([(S_reads_was.mk a1 t358)] : List S_reads_was)) (z0 := (S_reads_was.mk 0 [])) (z := .agg (([.int .u64 0] : List Value) ++ (([.slice none 0 0] : List Value))).toArray) (cz := ([.int .u64 0] : List Value) ++ (([.slice none 0 0] : List Value))) rfl rfl rfl rfl (by simp) rfl el58 Try.underlying58 rfl (by kernel_rfl) rfl (K_S_reads_was.mk rfl ⟨none, 0, rfl, SlR.nil _ _⟩) (fun w hs => SrcR.os hs (j := 1) rfl) ⟨by omega, by omega⟩ ?_
            intro B370 c371
            refine G.frontAt 1 rfl ?_
            refine G.drop ?_
            refine G.frontAt 1 rfl ?_
            refine G.frontAt 1 rfl ?_
            exact P381 B362 c363 H365 l366 B368 B370 c371 m _ _ rest (by rw [List.length_set]; exact hlen) (hp.stepS2 4 (reads_History_Add.reg15_5_ap _) hil hd hs (by repeat (first | exact trivial | refine And.intro rfl ?_)) rfl rfl rfl rfl) hm ho
          · intro A L hlen hp h0
            exact (hp.notYet hlen h0 10 rfl rfl).elim
        have P379 : ∀ (B362 : Option Addr) (c363 : Nat) (m : Nat) (L : List Bool) (A : List (Nat × Value)) (l : List Nat), L.length = R377.ds.length → R377.Phi [some (.pointer (some ⟨g0, 0, none⟩)), some (.pointer (some ⟨g0, 0, none⟩)), some (.pointer (some ⟨g0, 0, none⟩)), some (.pointer (some ⟨g0, 0, none⟩)), some (.slice A0 a0.l.length n0), some (.int .u64 a1), some (.slice A2 a2.length n2), some (.slice B362 t358.length c363), some (.agg (([.int .u64 a1] : List Value) ++ (([.slice B362 t358.length c363] : List Value))).toArray), none, none, none, none, none] [6, 7] [9, 10, 11, 12, 13] L A → left L = m → Ord R377.ds m L l → G C374 H A (OS 24 K_S_api_Touch B362 c363 t358 :: OS 63 K_S_reads_was A0 n0 a0.l :: BK 60 K_R_reads_History g0 (R_reads_History.mk (A0, a0.l.length, n0)) :: Fr) (.inRegion ops375 l :: k376) := by
          intro B362 c363
          refine G.phase R377 [some (.pointer (some ⟨g0, 0, none⟩)), some (.pointer (some ⟨g0, 0, none⟩)), some (.pointer (some ⟨g0, 0, none⟩)), some (.pointer (some ⟨g0, 0, none⟩)), some (.slice A0 a0.l.length n0), some (.int .u64 a1), some (.slice A2 a2.length n2), some (.slice B362 t358.length c363), some (.agg (([.int .u64 a1] : List Value) ++ (([.slice B362 t358.length c363] : List Value))).toArray), none, none, none, none, none] [0, 1, 2, 3, 4, 5, 8] [9] [6, 7] [9, 10, 11, 12, 13] (reads_History_Add.reg15_5_ap _) rfl rfl ⟨⟨[.base 0], 34, .pointer (some ⟨g0, 0, none⟩), [(0, .pointer (some ⟨g0, 0, none⟩))], ⟨rfl, rfl, rfl, rfl, ?_⟩⟩, ⟨⟨[.base 0], 35, .pointer (some ⟨g0, 0, none⟩), [(0, .pointer (some ⟨g0, 0, none⟩))], ⟨rfl, rfl, rfl, rfl, ?_⟩⟩, ⟨⟨[.op 1], 36, .pointer (some ⟨g0, 0, none⟩), [(35, .pointer (some ⟨g0, 0, none⟩))], ⟨rfl, rfl, rfl, rfl, ?_⟩⟩, ⟨⟨[.op 2], 37, .pointer (some ⟨g0, 0, none⟩), [(36, .pointer (some ⟨g0, 0, none⟩))], ⟨rfl, rfl, rfl, rfl, ?_⟩⟩, ⟨⟨[.op 3], 38, .slice A0 a0.l.length n0, [(37, .pointer (some ⟨g0, 0, none⟩))], ⟨rfl, rfl, rfl, rfl, ?_⟩⟩, ⟨⟨[.base 1], 39, .int .u64 a1, [(1, .int .u64 a1)], ⟨rfl, rfl, rfl, rfl, ?_⟩⟩, ⟨⟨[.op 5, .op 7], 42, .agg (([.int .u64 a1] : List Value) ++ (([.slice B362 t358.length c363] : List Value))).toArray, [(39, .int .u64 a1), (41, .slice B362 t358.length c363)], ⟨rfl, rfl, rfl, rfl, ?_⟩⟩, trivial⟩⟩⟩⟩⟩⟩⟩ ⟨⟨[.op 8], [(42, .agg (([.int .u64 a1] : List Value) ++ (([.slice B362 t358.length c363] : List Value))).toArray)], ⟨rfl, rfl, ?_⟩⟩, trivial⟩ ?_
          · intro X rest g
            refine G.move rfl rfl rfl rfl ?_
            exact g
          · intro X rest g
            refine G.move rfl rfl rfl rfl ?_
            exact g
          · intro X rest g
            refine G.nilCheck rfl rfl rfl rfl ?_
            exact g
          · intro X rest g
            refine G.field (off' := 0) rfl rfl rfl rfl Try.underlying60 rfl sz58 rfl rfl ?_
            exact g
          · intro X rest g
            refine G.loadH (B := A0) (m := a0.l.length) (c := n0) rfl rfl rfl rfl ty58r (fun w hs => Rd.bk (R_reads_History.L_l _) hs (j := 2) rfl) ?_
            exact g
          · intro X rest g
            refine G.move rfl rfl rfl rfl ?_
            exact g
          · intro X rest g
            refine G.build (z := .agg (([.int .u64 0] : List Value) ++ (([.slice none 0 0] : List Value))).toArray) (pl := [(0, 1), (1, 1)]) (cs := ([.int .u64 a1] : List Value) ++ (([.slice B362 t358.length c363] : List Value))) rfl rfl rfl Try.underlying63 (by kernel_rfl) rfl (by kernel_rfl) (by kernel_rfl) rfl ?_
            exact g
          · intro X rest L m hlen hp hil hd hs hm ho
            refine G.freezeO ?_
            intro H365 l366 f367
            refine G.buildSliceV (df := K_S_reads_was) (xs := ([(S_reads_was.mk a1 t358)] : List S_reads_was)) (z0 := (S_reads_was.mk 0 [])) (vs := [.agg (([.int .u64 a1] : List Value) ++ (([.slice B362 t358.length c363] : List Value))).toArray]) rfl rfl rfl el58 (z := .agg (([.int .u64 0] : List Value) ++ (([.slice none 0 0] : List Value))).toArray) (cz := ([.int .u64 0] : List Value) ++ (([.slice none 0 0] : List Value))) (by kernel_rfl) rfl rfl rfl rfl rfl (K_S_reads_was.mk rfl ⟨none, 0, rfl, SlR.nil _ _⟩) ⟨(VR.A (cs := ([.int .u64 a1] : List Value) ++ (([.slice B362 t358.length c363] : List Value))) (K_S_reads_was.mk rfl ⟨_, _, rfl, f367⟩)), trivial⟩ ?_
            intro B368
            refine G.frontAt 2 rfl ?_
            refine G.frontAt 2 rfl ?_
            refine G.frontAt 2 rfl ?_
            exact P380 B362 c363 H365 l366 B368 m _ _ rest (by rw [List.length_set]; exact hlen) (hp.stepS2 2 (reads_History_Add.reg15_5_ap _) hil hd hs (by repeat (first | exact trivial | refine And.intro rfl ?_)) rfl rfl rfl rfl) hm ho
          · intro A L hlen hp h0
            exact (hp.notYet hlen h0 9 rfl rfl).elim
        have P378 : ∀ (m : Nat) (L : List Bool) (A : List (Nat × Value)) (l : List Nat), L.length = R377.ds.length → R377.Phi [some (.pointer (some ⟨g0, 0, none⟩)), some (.pointer (some ⟨g0, 0, none⟩)), some (.pointer (some ⟨g0, 0, none⟩)), some (.pointer (some ⟨g0, 0, none⟩)), some (.slice A0 a0.l.length n0), some (.int .u64 a1), some (.slice A2 a2.length n2), none, none, none, none, none, none, none] [] [7, 8, 9, 10, 11, 12, 13] L A → left L = m → Ord R377.ds m L l → G C374 H A (OS 63 K_S_reads_was A0 n0 a0.l :: BK 60 K_R_reads_History g0 (R_reads_History.mk (A0, a0.l.length, n0)) :: Fr) (.inRegion ops375 l :: k376) := by
          refine G.phase R377 [some (.pointer (some ⟨g0, 0, none⟩)), some (.pointer (some ⟨g0, 0, none⟩)), some (.pointer (some ⟨g0, 0, none⟩)), some (.pointer (some ⟨g0, 0, none⟩)), some (.slice A0 a0.l.length n0), some (.int .u64 a1), some (.slice A2 a2.length n2), none, none, none, none, none, none, none] [0, 1, 2, 3, 4, 5, 6] [7] [] [7, 8, 9, 10, 11, 12, 13] (reads_History_Add.reg15_5_ap _) rfl rfl ⟨⟨[.base 0], 34, .pointer (some ⟨g0, 0, none⟩), [(0, .pointer (some ⟨g0, 0, none⟩))], ⟨rfl, rfl, rfl, rfl, ?_⟩⟩, ⟨⟨[.base 0], 35, .pointer (some ⟨g0, 0, none⟩), [(0, .pointer (some ⟨g0, 0, none⟩))], ⟨rfl, rfl, rfl, rfl, ?_⟩⟩, ⟨⟨[.op 1], 36, .pointer (some ⟨g0, 0, none⟩), [(35, .pointer (some ⟨g0, 0, none⟩))], ⟨rfl, rfl, rfl, rfl, ?_⟩⟩, ⟨⟨[.op 2], 37, .pointer (some ⟨g0, 0, none⟩), [(36, .pointer (some ⟨g0, 0, none⟩))], ⟨rfl, rfl, rfl, rfl, ?_⟩⟩, ⟨⟨[.op 3], 38, .slice A0 a0.l.length n0, [(37, .pointer (some ⟨g0, 0, none⟩))], ⟨rfl, rfl, rfl, rfl, ?_⟩⟩, ⟨⟨[.base 1], 39, .int .u64 a1, [(1, .int .u64 a1)], ⟨rfl, rfl, rfl, rfl, ?_⟩⟩, ⟨⟨[.base 2], 40, .slice A2 a2.length n2, [(2, .slice A2 a2.length n2)], ⟨rfl, rfl, rfl, rfl, ?_⟩⟩, trivial⟩⟩⟩⟩⟩⟩⟩ ⟨⟨[.op 6], [(40, .slice A2 a2.length n2)], ⟨rfl, rfl, ?_⟩⟩, trivial⟩ ?_
          · intro X rest g
            refine G.move rfl rfl rfl rfl ?_
            exact g
          · intro X rest g
            refine G.move rfl rfl rfl rfl ?_
            exact g
          · intro X rest g
            refine G.nilCheck rfl rfl rfl rfl ?_
            exact g
          · intro X rest g
            refine G.field (off' := 0) rfl rfl rfl rfl Try.underlying60 rfl sz58 rfl rfl ?_
            exact g
          · intro X rest g
            refine G.loadH (B := A0) (m := a0.l.length) (c := n0) rfl rfl rfl rfl ty58r (fun w hs => Rd.bk (R_reads_History.L_l _) hs (j := 1) rfl) ?_
            exact g
          · intro X rest g
            refine G.move rfl rfl rfl rfl ?_
            exact g
          · intro X rest g
            refine G.move rfl rfl rfl rfl ?_
            exact g
          · intro X rest L m hlen hp hil hd hs hm ho
            refine G.callBO (m := 0) rfl rfl rfl rfl call31 rfl (fun H1 hle hsl => (slices_Clone_Lapi_Touch_api_Touch.ok a2 A2 n2 (F2.mono hle) e359).ctr) (by rintro v H' L' ⟨_, _, rfl, rfl⟩; exact (Free.cons (Free.os flat_S_api_Touch) Free.nil)) ?_
            rintro v360 L361 ⟨_, ⟨B362, c363, rfl, rfl⟩⟩
            refine G.frontAt 2 rfl ?_
            refine G.frontAt 2 rfl ?_
            refine G.frontAt 2 rfl ?_
            exact P379 B362 c363 m _ _ rest (by rw [List.length_set]; exact hlen) (hp.stepS2 1 (reads_History_Add.reg15_5_ap _) hil hd hs (by repeat (first | exact trivial | refine And.intro rfl ?_)) rfl rfl rfl rfl) hm ho
          · intro A L hlen hp h0
            exact (hp.notYet hlen h0 7 rfl rfl).elim
        intro l hl
        exact P378 14 (List.replicate 14 false) _ l rfl (Reg.Phi.init 14 ⟨rfl, rfl, rfl, trivial⟩) (left_rep 14) hl
    intro J384
    refine G.rest (l1 := [18]) (l2 := [19]) (fun GG K => reads_History_Add.j3 a0 a1 a2 = some r → GG H [(0, .pointer (some ⟨g0, 0, none⟩)), (1, .int .u64 a1), (2, .slice A2 a2.length n2), (29, .bool false), (32, .bool false)] (OS 63 K_S_reads_was A0 n0 a0.l :: BK 60 K_R_reads_History g0 (R_reads_History.mk (A0, a0.l.length, n0)) :: Fr) K) ?_ ?_
    · intro  h
      unfold reads_History_Add.j3 at h
      refine G.pickF rfl rfl rfl rfl rfl ?_
      refine G.regionEnd ?_
      refine G.condF rfl ?_
      refine G.skip ?_
      refine G.seq ?_
      obtain ⟨t385, e386, h⟩ := bindS h
      obtain ⟨k400, h⟩ := guardS h
      refine G.draw [[], [], [1], [2], [3], [], [], [6], [5, 7], [8], [4, 9, 7], [0, 0, 1, 2, 3, 4, 5, 6, 7, 8, 9, 10], [11, 0, 1, 2, 3, 4, 5, 6, 7, 8, 9, 10], [12, 10, 10, 0, 1, 2, 3, 4, 5, 6, 7, 8, 9, 10]] 14 [0, 1, 2, 3, 4, 5, 6, 7, 8, 9, 10, 11, 12, 13] [0, 0, 1, 2, 3, 0, 0, 1, 2, 3, 4, 5, 6, 7] [0, 0, 1, 2, 3, 0, 0, 1, 2, 3, 4, 5, 6, 7] rfl (by kernel_rfl) (by kernel_rfl) (by kernel_rfl) (by kernel_rfl) ?_
      intro C401 ops402 k403
      let R404 : Reg := reads_History_Add.reg15_5 [(0, .pointer (some ⟨g0, 0, none⟩)), (1, .int .u64 a1), (2, .slice A2 a2.length n2)]
      have P409 : ∀ (B389 : Option Addr) (c390 : Nat) (H392 : PH) (l393 : PH.le H H392) (B395 : Option Addr) (B397 : Option Addr) (c398 : Nat) (m : Nat) (L : List Bool) (A : List (Nat × Value)) (l : List Nat), L.length = R404.ds.length → R404.Phi [some (.pointer (some ⟨g0, 0, none⟩)), some (.pointer (some ⟨g0, 0, none⟩)), some (.pointer (some ⟨g0, 0, none⟩)), some (.pointer (some ⟨g0, 0, none⟩)), some (.slice A0 a0.l.length n0), some (.int .u64 a1), some (.slice A2 a2.length n2), some (.slice B389 t385.length c390), some (.agg (([.int .u64 a1] : List Value) ++ (([.slice B389 t385.length c390] : List Value))).toArray), some (.slice B395 (([(S_reads_was.mk a1 t385)] : List S_reads_was).length) 1), some (.slice B397 ((a0.l ++ ([(S_reads_was.mk a1 t385)] : List S_reads_was)).length) c398), some (.pointer (some ⟨g0, 0, none⟩)), some (.pointer (some ⟨g0, 0, none⟩)), none] [0, 1, 2, 3, 4, 5, 6, 7, 8, 9, 10, 11, 12, 13] [] L A → left L = m → Ord R404.ds m L l → G C401 H392 A (BK 60 K_R_reads_History g0 (R_reads_History.mk (B397, (a0.l ++ ([(S_reads_was.mk a1 t385)] : List S_reads_was)).length, c398)) :: OS 63 K_S_reads_was B397 c398 (a0.l ++ ([(S_reads_was.mk a1 t385)] : List S_reads_was)) :: Fr) (.inRegion ops402 l :: k403) := by
        intro B389 c390 H392 l393 B395 B397 c398
        refine G.phase R404 [some (.pointer (some ⟨g0, 0, none⟩)), some (.pointer (some ⟨g0, 0, none⟩)), some (.pointer (some ⟨g0, 0, none⟩)), some (.pointer (some ⟨g0, 0, none⟩)), some (.slice A0 a0.l.length n0), some (.int .u64 a1), some (.slice A2 a2.length n2), some (.slice B389 t385.length c390), some (.agg (([.int .u64 a1] : List Value) ++ (([.slice B389 t385.length c390] : List Value))).toArray), some (.slice B395 (([(S_reads_was.mk a1 t385)] : List S_reads_was).length) 1), some (.slice B397 ((a0.l ++ ([(S_reads_was.mk a1 t385)] : List S_reads_was)).length) c398), some (.pointer (some ⟨g0, 0, none⟩)), some (.pointer (some ⟨g0, 0, none⟩)), none] [] [] [0, 1, 2, 3, 4, 5, 6, 7, 8, 9, 10, 11, 12, 13] [] (reads_History_Add.reg15_5_ap _) rfl rfl trivial trivial ?_
        · intro A L hlen hp h0
          refine G.lessSub (B := []) (hp.fin hlen h0 (src := []) rfl) ?_
          refine G.regionEnd ?_
          refine G.seq ?_
          refine G.region (l := [0]) rfl ?_
          refine G.assign rfl rfl rfl rfl ?_
          refine G.regionEnd ?_
          refine G.frontAt 1 rfl ?_
          refine G.frontAt 1 rfl ?_
          obtain rfl := Option.some.inj h
          exact G.ret1 Try.func15 rfl rfl (fun w hs => ⟨_, _, _, rfl, l393, ⟨B397, c398, rfl, rfl⟩, hs⟩)
      have P408 : ∀ (B389 : Option Addr) (c390 : Nat) (H392 : PH) (l393 : PH.le H H392) (B395 : Option Addr) (B397 : Option Addr) (c398 : Nat) (m : Nat) (L : List Bool) (A : List (Nat × Value)) (l : List Nat), L.length = R404.ds.length → R404.Phi [some (.pointer (some ⟨g0, 0, none⟩)), some (.pointer (some ⟨g0, 0, none⟩)), some (.pointer (some ⟨g0, 0, none⟩)), some (.pointer (some ⟨g0, 0, none⟩)), some (.slice A0 a0.l.length n0), some (.int .u64 a1), some (.slice A2 a2.length n2), some (.slice B389 t385.length c390), some (.agg (([.int .u64 a1] : List Value) ++ (([.slice B389 t385.length c390] : List Value))).toArray), some (.slice B395 (([(S_reads_was.mk a1 t385)] : List S_reads_was).length) 1), some (.slice B397 ((a0.l ++ ([(S_reads_was.mk a1 t385)] : List S_reads_was)).length) c398), some (.pointer (some ⟨g0, 0, none⟩)), some (.pointer (some ⟨g0, 0, none⟩)), none] [1, 2, 3, 4, 5, 6, 7, 8, 9, 10] [13] L A → left L = m → Ord R404.ds m L l → G C401 H392 A (OS 63 K_S_reads_was B397 c398 (a0.l ++ ([(S_reads_was.mk a1 t385)] : List S_reads_was)) :: BK 60 K_R_reads_History g0 (R_reads_History.mk (A0, a0.l.length, n0)) :: Fr) (.inRegion ops402 l :: k403) := by
        intro B389 c390 H392 l393 B395 B397 c398
        refine G.phase R404 [some (.pointer (some ⟨g0, 0, none⟩)), some (.pointer (some ⟨g0, 0, none⟩)), some (.pointer (some ⟨g0, 0, none⟩)), some (.pointer (some ⟨g0, 0, none⟩)), some (.slice A0 a0.l.length n0), some (.int .u64 a1), some (.slice A2 a2.length n2), some (.slice B389 t385.length c390), some (.agg (([.int .u64 a1] : List Value) ++ (([.slice B389 t385.length c390] : List Value))).toArray), some (.slice B395 (([(S_reads_was.mk a1 t385)] : List S_reads_was).length) 1), some (.slice B397 ((a0.l ++ ([(S_reads_was.mk a1 t385)] : List S_reads_was)).length) c398), some (.pointer (some ⟨g0, 0, none⟩)), some (.pointer (some ⟨g0, 0, none⟩)), none] [0, 11, 12] [13] [1, 2, 3, 4, 5, 6, 7, 8, 9, 10] [13] (reads_History_Add.reg15_5_ap _) rfl rfl ⟨⟨[.base 0], 34, .pointer (some ⟨g0, 0, none⟩), [(0, .pointer (some ⟨g0, 0, none⟩))], ⟨rfl, rfl, rfl, rfl, ?_⟩⟩, ⟨⟨[.op 0], 45, .pointer (some ⟨g0, 0, none⟩), [(34, .pointer (some ⟨g0, 0, none⟩))], ⟨rfl, rfl, rfl, rfl, ?_⟩⟩, ⟨⟨[.op 11], 46, .pointer (some ⟨g0, 0, none⟩), [(45, .pointer (some ⟨g0, 0, none⟩))], ⟨rfl, rfl, rfl, rfl, ?_⟩⟩, trivial⟩⟩⟩ ⟨⟨[.op 10, .op 12], [(44, .slice B397 ((a0.l ++ ([(S_reads_was.mk a1 t385)] : List S_reads_was)).length) c398), (46, .pointer (some ⟨g0, 0, none⟩))], ⟨rfl, rfl, ?_⟩⟩, trivial⟩ ?_
        · intro X rest g
          refine G.move rfl rfl rfl rfl ?_
          exact g
        · intro X rest g
          refine G.nilCheck rfl rfl rfl rfl ?_
          exact g
        · intro X rest g
          refine G.field (off' := 0) rfl rfl rfl rfl Try.underlying60 rfl sz58 rfl rfl ?_
          exact g
        · intro X rest L m hlen hp hil hd hs hm ho
          refine G.frontAt 1 rfl ?_
          refine G.store (df := Kd.hdr) (y := (B397, (a0.l ++ ([(S_reads_was.mk a1 t385)] : List S_reads_was)).length, c398)) (x1 := (R_reads_History.mk (B397, (a0.l ++ ([(S_reads_was.mk a1 t385)] : List S_reads_was)).length, c398))) rfl rfl rfl rfl (R_reads_History.L_l _) ⟨([.slice B397 ((a0.l ++ ([(S_reads_was.mk a1 t385)] : List S_reads_was)).length) c398] : List Value), rfl, rfl⟩ sz58 rfl ?_
          refine G.frontAt 1 rfl ?_
          refine G.frontAt 1 rfl ?_
          exact P409 B389 c390 H392 l393 B395 B397 c398 m _ _ rest (by rw [List.length_set]; exact hlen) (hp.stepN2 2 (reads_History_Add.reg15_5_ap _) hil hd hs (by repeat (first | exact trivial | refine And.intro rfl ?_)) rfl rfl rfl) hm ho
        · intro A L hlen hp h0
          exact (hp.notYet hlen h0 13 rfl rfl).elim
      have P407 : ∀ (B389 : Option Addr) (c390 : Nat) (H392 : PH) (l393 : PH.le H H392) (B395 : Option Addr) (m : Nat) (L : List Bool) (A : List (Nat × Value)) (l : List Nat), L.length = R404.ds.length → R404.Phi [some (.pointer (some ⟨g0, 0, none⟩)), some (.pointer (some ⟨g0, 0, none⟩)), some (.pointer (some ⟨g0, 0, none⟩)), some (.pointer (some ⟨g0, 0, none⟩)), some (.slice A0 a0.l.length n0), some (.int .u64 a1), some (.slice A2 a2.length n2), some (.slice B389 t385.length c390), some (.agg (([.int .u64 a1] : List Value) ++ (([.slice B389 t385.length c390] : List Value))).toArray), some (.slice B395 (([(S_reads_was.mk a1 t385)] : List S_reads_was).length) 1), none, none, none, none] [5, 6, 7, 8, 9] [10, 11, 12, 13] L A → left L = m → Ord R404.ds m L l → G C401 H392 A (OS 63 K_S_reads_was B395 1 ([(S_reads_was.mk a1 t385)] : List S_reads_was) :: OS 63 K_S_reads_was A0 n0 a0.l :: BK 60 K_R_reads_History g0 (R_reads_History.mk (A0, a0.l.length, n0)) :: Fr) (.inRegion ops402 l :: k403) := by
        intro B389 c390 H392 l393 B395
        refine G.phase R404 [some (.pointer (some ⟨g0, 0, none⟩)), some (.pointer (some ⟨g0, 0, none⟩)), some (.pointer (some ⟨g0, 0, none⟩)), some (.pointer (some ⟨g0, 0, none⟩)), some (.slice A0 a0.l.length n0), some (.int .u64 a1), some (.slice A2 a2.length n2), some (.slice B389 t385.length c390), some (.agg (([.int .u64 a1] : List Value) ++ (([.slice B389 t385.length c390] : List Value))).toArray), some (.slice B395 (([(S_reads_was.mk a1 t385)] : List S_reads_was).length) 1), none, none, none, none] [0, 1, 2, 3, 4] [10] [5, 6, 7, 8, 9] [10, 11, 12, 13] (reads_History_Add.reg15_5_ap _) rfl rfl ⟨⟨[.base 0], 34, .pointer (some ⟨g0, 0, none⟩), [(0, .pointer (some ⟨g0, 0, none⟩))], ⟨rfl, rfl, rfl, rfl, ?_⟩⟩, ⟨⟨[.base 0], 35, .pointer (some ⟨g0, 0, none⟩), [(0, .pointer (some ⟨g0, 0, none⟩))], ⟨rfl, rfl, rfl, rfl, ?_⟩⟩, ⟨⟨[.op 1], 36, .pointer (some ⟨g0, 0, none⟩), [(35, .pointer (some ⟨g0, 0, none⟩))], ⟨rfl, rfl, rfl, rfl, ?_⟩⟩, ⟨⟨[.op 2], 37, .pointer (some ⟨g0, 0, none⟩), [(36, .pointer (some ⟨g0, 0, none⟩))], ⟨rfl, rfl, rfl, rfl, ?_⟩⟩, ⟨⟨[.op 3], 38, .slice A0 a0.l.length n0, [(37, .pointer (some ⟨g0, 0, none⟩))], ⟨rfl, rfl, rfl, rfl, ?_⟩⟩, trivial⟩⟩⟩⟩⟩ ⟨⟨[.op 4, .op 9], [(38, .slice A0 a0.l.length n0), (43, .slice B395 (([(S_reads_was.mk a1 t385)] : List S_reads_was).length) 1)], ⟨rfl, rfl, ?_⟩⟩, trivial⟩ ?_
        · intro X rest g
          refine G.move rfl rfl rfl rfl ?_
          exact g
        · intro X rest g
          refine G.move rfl rfl rfl rfl ?_
          exact g
        · intro X rest g
          refine G.nilCheck rfl rfl rfl rfl ?_
          exact g
        · intro X rest g
          refine G.field (off' := 0) rfl rfl rfl rfl Try.underlying60 rfl sz58 rfl rfl ?_
          exact g
        · intro X rest g
          refine G.loadH (B := A0) (m := a0.l.length) (c := n0) rfl rfl rfl rfl ty58r (fun w hs => Rd.bk (R_reads_History.L_l _) hs (j := 2) rfl) ?_
          exact g
        · intro X rest L m hlen hp hil hd hs hm ho
          refine G.frontAt 1 rfl ?_
          refine G.append (df := K_S_reads_was) (xs := a0.l) (ys := ([(S_reads_was.mk a1 t385)] : List S_reads_was)) (z0 := (S_reads_was.mk 0 [])) (z := .agg (([.int .u64 0] : List Value) ++ (([.slice none 0 0] : List Value))).toArray) (cz := ([.int .u64 0] : List Value) ++ (([.slice none 0 0] : List Value))) rfl rfl rfl rfl (by simp) rfl el58 Try.underlying58 rfl (by kernel_rfl) rfl (K_S_reads_was.mk rfl ⟨none, 0, rfl, SlR.nil _ _⟩) (fun w hs => SrcR.os hs (j := 1) rfl) ⟨by omega, by omega⟩ ?_
          intro B397 c398
          refine G.frontAt 1 rfl ?_
          refine G.drop ?_
          refine G.frontAt 1 rfl ?_
          refine G.frontAt 1 rfl ?_
          exact P408 B389 c390 H392 l393 B395 B397 c398 m _ _ rest (by rw [List.length_set]; exact hlen) (hp.stepS2 4 (reads_History_Add.reg15_5_ap _) hil hd hs (by repeat (first | exact trivial | refine And.intro rfl ?_)) rfl rfl rfl rfl) hm ho
        · intro A L hlen hp h0
          exact (hp.notYet hlen h0 10 rfl rfl).elim
      have P406 : ∀ (B389 : Option Addr) (c390 : Nat) (m : Nat) (L : List Bool) (A : List (Nat × Value)) (l : List Nat), L.length = R404.ds.length → R404.Phi [some (.pointer (some ⟨g0, 0, none⟩)), some (.pointer (some ⟨g0, 0, none⟩)), some (.pointer (some ⟨g0, 0, none⟩)), some (.pointer (some ⟨g0, 0, none⟩)), some (.slice A0 a0.l.length n0), some (.int .u64 a1), some (.slice A2 a2.length n2), some (.slice B389 t385.length c390), some (.agg (([.int .u64 a1] : List Value) ++ (([.slice B389 t385.length c390] : List Value))).toArray), none, none, none, none, none] [6, 7] [9, 10, 11, 12, 13] L A → left L = m → Ord R404.ds m L l → G C401 H A (OS 24 K_S_api_Touch B389 c390 t385 :: OS 63 K_S_reads_was A0 n0 a0.l :: BK 60 K_R_reads_History g0 (R_reads_History.mk (A0, a0.l.length, n0)) :: Fr) (.inRegion ops402 l :: k403) := by
        intro B389 c390
        refine G.phase R404 [some (.pointer (some ⟨g0, 0, none⟩)), some (.pointer (some ⟨g0, 0, none⟩)), some (.pointer (some ⟨g0, 0, none⟩)), some (.pointer (some ⟨g0, 0, none⟩)), some (.slice A0 a0.l.length n0), some (.int .u64 a1), some (.slice A2 a2.length n2), some (.slice B389 t385.length c390), some (.agg (([.int .u64 a1] : List Value) ++ (([.slice B389 t385.length c390] : List Value))).toArray), none, none, none, none, none] [0, 1, 2, 3, 4, 5, 8] [9] [6, 7] [9, 10, 11, 12, 13] (reads_History_Add.reg15_5_ap _) rfl rfl ⟨⟨[.base 0], 34, .pointer (some ⟨g0, 0, none⟩), [(0, .pointer (some ⟨g0, 0, none⟩))], ⟨rfl, rfl, rfl, rfl, ?_⟩⟩, ⟨⟨[.base 0], 35, .pointer (some ⟨g0, 0, none⟩), [(0, .pointer (some ⟨g0, 0, none⟩))], ⟨rfl, rfl, rfl, rfl, ?_⟩⟩, ⟨⟨[.op 1], 36, .pointer (some ⟨g0, 0, none⟩), [(35, .pointer (some ⟨g0, 0, none⟩))], ⟨rfl, rfl, rfl, rfl, ?_⟩⟩, ⟨⟨[.op 2], 37, .pointer (some ⟨g0, 0, none⟩), [(36, .pointer (some ⟨g0, 0, none⟩))], ⟨rfl, rfl, rfl, rfl, ?_⟩⟩, ⟨⟨[.op 3], 38, .slice A0 a0.l.length n0, [(37, .pointer (some ⟨g0, 0, none⟩))], ⟨rfl, rfl, rfl, rfl, ?_⟩⟩, ⟨⟨[.base 1], 39, .int .u64 a1, [(1, .int .u64 a1)], ⟨rfl, rfl, rfl, rfl, ?_⟩⟩, ⟨⟨[.op 5, .op 7], 42, .agg (([.int .u64 a1] : List Value) ++ (([.slice B389 t385.length c390] : List Value))).toArray, [(39, .int .u64 a1), (41, .slice B389 t385.length c390)], ⟨rfl, rfl, rfl, rfl, ?_⟩⟩, trivial⟩⟩⟩⟩⟩⟩⟩ ⟨⟨[.op 8], [(42, .agg (([.int .u64 a1] : List Value) ++ (([.slice B389 t385.length c390] : List Value))).toArray)], ⟨rfl, rfl, ?_⟩⟩, trivial⟩ ?_
        · intro X rest g
          refine G.move rfl rfl rfl rfl ?_
          exact g
        · intro X rest g
          refine G.move rfl rfl rfl rfl ?_
          exact g
        · intro X rest g
          refine G.nilCheck rfl rfl rfl rfl ?_
          exact g
        · intro X rest g
          refine G.field (off' := 0) rfl rfl rfl rfl Try.underlying60 rfl sz58 rfl rfl ?_
          exact g
        · intro X rest g
          refine G.loadH (B := A0) (m := a0.l.length) (c := n0) rfl rfl rfl rfl ty58r (fun w hs => Rd.bk (R_reads_History.L_l _) hs (j := 2) rfl) ?_
          exact g
        · intro X rest g
          refine G.move rfl rfl rfl rfl ?_
          exact g
        · intro X rest g
          refine G.build (z := .agg (([.int .u64 0] : List Value) ++ (([.slice none 0 0] : List Value))).toArray) (pl := [(0, 1), (1, 1)]) (cs := ([.int .u64 a1] : List Value) ++ (([.slice B389 t385.length c390] : List Value))) rfl rfl rfl Try.underlying63 (by kernel_rfl) rfl (by kernel_rfl) (by kernel_rfl) rfl ?_
          exact g
        · intro X rest L m hlen hp hil hd hs hm ho
          refine G.freezeO ?_
          intro H392 l393 f394
          refine G.buildSliceV (df := K_S_reads_was) (xs := ([(S_reads_was.mk a1 t385)] : List S_reads_was)) (z0 := (S_reads_was.mk 0 [])) (vs := [.agg (([.int .u64 a1] : List Value) ++ (([.slice B389 t385.length c390] : List Value))).toArray]) rfl rfl rfl el58 (z := .agg (([.int .u64 0] : List Value) ++ (([.slice none 0 0] : List Value))).toArray) (cz := ([.int .u64 0] : List Value) ++ (([.slice none 0 0] : List Value))) (by kernel_rfl) rfl rfl rfl rfl rfl (K_S_reads_was.mk rfl ⟨none, 0, rfl, SlR.nil _ _⟩) ⟨(VR.A (cs := ([.int .u64 a1] : List Value) ++ (([.slice B389 t385.length c390] : List Value))) (K_S_reads_was.mk rfl ⟨_, _, rfl, f394⟩)), trivial⟩ ?_
          intro B395
          refine G.frontAt 2 rfl ?_
          refine G.frontAt 2 rfl ?_
          refine G.frontAt 2 rfl ?_
          exact P407 B389 c390 H392 l393 B395 m _ _ rest (by rw [List.length_set]; exact hlen) (hp.stepS2 2 (reads_History_Add.reg15_5_ap _) hil hd hs (by repeat (first | exact trivial | refine And.intro rfl ?_)) rfl rfl rfl rfl) hm ho
        · intro A L hlen hp h0
          exact (hp.notYet hlen h0 9 rfl rfl).elim
      have P405 : ∀ (m : Nat) (L : List Bool) (A : List (Nat × Value)) (l : List Nat), L.length = R404.ds.length → R404.Phi [some (.pointer (some ⟨g0, 0, none⟩)), some (.pointer (some ⟨g0, 0, none⟩)), some (.pointer (some ⟨g0, 0, none⟩)), some (.pointer (some ⟨g0, 0, none⟩)), some (.slice A0 a0.l.length n0), some (.int .u64 a1), some (.slice A2 a2.length n2), none, none, none, none, none, none, none] [] [7, 8, 9, 10, 11, 12, 13] L A → left L = m → Ord R404.ds m L l → G C401 H A (OS 63 K_S_reads_was A0 n0 a0.l :: BK 60 K_R_reads_History g0 (R_reads_History.mk (A0, a0.l.length, n0)) :: Fr) (.inRegion ops402 l :: k403) := by
        refine G.phase R404 [some (.pointer (some ⟨g0, 0, none⟩)), some (.pointer (some ⟨g0, 0, none⟩)), some (.pointer (some ⟨g0, 0, none⟩)), some (.pointer (some ⟨g0, 0, none⟩)), some (.slice A0 a0.l.length n0), some (.int .u64 a1), some (.slice A2 a2.length n2), none, none, none, none, none, none, none] [0, 1, 2, 3, 4, 5, 6] [7] [] [7, 8, 9, 10, 11, 12, 13] (reads_History_Add.reg15_5_ap _) rfl rfl ⟨⟨[.base 0], 34, .pointer (some ⟨g0, 0, none⟩), [(0, .pointer (some ⟨g0, 0, none⟩))], ⟨rfl, rfl, rfl, rfl, ?_⟩⟩, ⟨⟨[.base 0], 35, .pointer (some ⟨g0, 0, none⟩), [(0, .pointer (some ⟨g0, 0, none⟩))], ⟨rfl, rfl, rfl, rfl, ?_⟩⟩, ⟨⟨[.op 1], 36, .pointer (some ⟨g0, 0, none⟩), [(35, .pointer (some ⟨g0, 0, none⟩))], ⟨rfl, rfl, rfl, rfl, ?_⟩⟩, ⟨⟨[.op 2], 37, .pointer (some ⟨g0, 0, none⟩), [(36, .pointer (some ⟨g0, 0, none⟩))], ⟨rfl, rfl, rfl, rfl, ?_⟩⟩, ⟨⟨[.op 3], 38, .slice A0 a0.l.length n0, [(37, .pointer (some ⟨g0, 0, none⟩))], ⟨rfl, rfl, rfl, rfl, ?_⟩⟩, ⟨⟨[.base 1], 39, .int .u64 a1, [(1, .int .u64 a1)], ⟨rfl, rfl, rfl, rfl, ?_⟩⟩, ⟨⟨[.base 2], 40, .slice A2 a2.length n2, [(2, .slice A2 a2.length n2)], ⟨rfl, rfl, rfl, rfl, ?_⟩⟩, trivial⟩⟩⟩⟩⟩⟩⟩ ⟨⟨[.op 6], [(40, .slice A2 a2.length n2)], ⟨rfl, rfl, ?_⟩⟩, trivial⟩ ?_
        · intro X rest g
          refine G.move rfl rfl rfl rfl ?_
          exact g
        · intro X rest g
          refine G.move rfl rfl rfl rfl ?_
          exact g
        · intro X rest g
          refine G.nilCheck rfl rfl rfl rfl ?_
          exact g
        · intro X rest g
          refine G.field (off' := 0) rfl rfl rfl rfl Try.underlying60 rfl sz58 rfl rfl ?_
          exact g
        · intro X rest g
          refine G.loadH (B := A0) (m := a0.l.length) (c := n0) rfl rfl rfl rfl ty58r (fun w hs => Rd.bk (R_reads_History.L_l _) hs (j := 1) rfl) ?_
          exact g
        · intro X rest g
          refine G.move rfl rfl rfl rfl ?_
          exact g
        · intro X rest g
          refine G.move rfl rfl rfl rfl ?_
          exact g
        · intro X rest L m hlen hp hil hd hs hm ho
          refine G.callBO (m := 0) rfl rfl rfl rfl call31 rfl (fun H1 hle hsl => (slices_Clone_Lapi_Touch_api_Touch.ok a2 A2 n2 (F2.mono hle) e386).ctr) (by rintro v H' L' ⟨_, _, rfl, rfl⟩; exact (Free.cons (Free.os flat_S_api_Touch) Free.nil)) ?_
          rintro v387 L388 ⟨_, ⟨B389, c390, rfl, rfl⟩⟩
          refine G.frontAt 2 rfl ?_
          refine G.frontAt 2 rfl ?_
          refine G.frontAt 2 rfl ?_
          exact P406 B389 c390 m _ _ rest (by rw [List.length_set]; exact hlen) (hp.stepS2 1 (reads_History_Add.reg15_5_ap _) hil hd hs (by repeat (first | exact trivial | refine And.intro rfl ?_)) rfl rfl rfl rfl) hm ho
        · intro A L hlen hp h0
          exact (hp.notYet hlen h0 7 rfl rfl).elim
      intro l hl
      exact P405 14 (List.replicate 14 false) _ l rfl (Reg.Phi.init 14 ⟨rfl, rfl, rfl, trivial⟩) (left_rep 14) hl
    intro J410
    refine G.inl (n' := 9) rfl rfl rfl rfl call30 Try.func30 rfl Try.ntmps30 rfl rfl ?_
    intro R298 rt299
    refine G.seq ?_
    refine G.region (l := [0]) rfl ?_
    refine G.assign rfl rfl rfl rfl ?_
    refine G.regionEnd ?_
    refine G.seq ?_
    refine G.region (l := [0, 1, 2, 3, 4]) rfl ?_
    refine G.move rfl rfl rfl rfl ?_
    refine G.move rfl rfl rfl rfl ?_
    refine G.inl (n' := 19) rfl rfl rfl rfl call39 Try.func39 rfl Try.ntmps39 rfl rfl ?_
    intro R411 rt412
    refine G.seq ?_
    refine G.region (l := [0]) rfl ?_
    refine G.assign rfl rfl rfl rfl ?_
    refine G.regionEnd ?_
    refine G.seq ?_
    refine G.seq ?_
    refine G.region (l := [0, 1, 2]) rfl ?_
    refine G.move rfl rfl rfl rfl ?_
    refine G.len (m := a2.length) rfl rfl rfl rfl Try.underlying31 ?_
    refine G.move rfl rfl rfl rfl ?_
    refine G.regionEnd ?_
    refine G.block ?_
    refine G.loop (fun GG K => ∀ (d454 : Nat) (x441 : Int), reads_History_Add.l1 a0 a1 a2 d454 x441 = some r → GG H [(0, .slice A2 a2.length n2), (1, .func (.func 29) #[] #[]), (7, .int .i64 (a2.length : Int)), (8, .int .i64 x441)] (OS 63 K_S_reads_was A0 n0 a0.l :: BK 60 K_R_reads_History g0 (R_reads_History.mk (A0, a0.l.length, n0)) :: Fr) K) ?_ ?_
    · intro d454
      induction d454 with
      | zero => intro x441 h; rw [reads_History_Add.l1] at h; cases h
      | succ d454 ih453 =>
        intro x441 h
        rw [reads_History_Add.l1] at h
        refine G.seq ?_
        refine G.region (l := [0]) rfl ?_
        refine G.cmp (x441 < (a2.length : Int)) rfl rfl rfl rfl rfl rfl Iff.rfl ?_
        refine G.regionEnd ?_
        refine G.seq ?_
        refine G.condP rfl (fun k466 => ?_) (fun k466 => ?_)
        · replace h := ifT h k466
          refine G.skip ?_
          refine G.seq ?_
          refine G.block ?_
          refine G.seq ?_
          refine G.region (l := [0, 1]) rfl ?_
          refine G.move rfl rfl rfl rfl ?_
          refine G.assign rfl rfl rfl rfl ?_
          refine G.regionEnd ?_
          refine G.seq ?_
          refine G.region (l := [0, 1, 2, 3, 4, 5]) rfl ?_
          refine G.move rfl rfl rfl rfl ?_
          refine G.move rfl rfl rfl rfl ?_
          refine G.move rfl rfl rfl rfl ?_
          obtain ⟨k458, h⟩ := guardS h
          refine G.indexR (xs := a2) (j := x441) (S_api_Touch.mk 0 0 [] 0 0) rfl rfl rfl rfl rfl el31 F2 k458 ?_
          intro a456 f457
          refine G.loadA (df := K_S_api_Touch) (y := a2.getD x441.toNat (S_api_Touch.mk 0 0 [] 0 0)) rfl rfl rfl rfl ty24 rfl (fun w hs => Rd.ro f457 hs) ?_
          intro cs459 f460
          obtain rfl := K_S_api_Touch.open f460
          obtain ⟨t461, e462, h⟩ := bindS h
          refine G.callSV rfl rfl rfl rfl rfl rfl call29 (reads_History_Add_1.ok (a2.getD x441.toNat (S_api_Touch.mk 0 0 [] 0 0)) e462) ?_
          rintro v463 L464 ⟨rfl, rfl⟩
          refine G.regionEnd ?_
          refine G.cond rfl (fun k465 => ?_) (fun k465 => ?_)
          · replace h := ifT h k465
            refine G.seq ?_
            refine G.region (l := [0, 1]) rfl ?_
            refine G.move rfl rfl rfl rfl ?_
            refine G.assign rfl rfl rfl rfl ?_
            refine G.regionEnd ?_
            refine G.ret1 Try.func39 rfl rfl (rt412 _ _ _ ?_)
            refine G.cmp (0 ≤ x441) rfl rfl rfl rfl rfl rfl Iff.rfl ?_
            refine G.assign rfl rfl rfl rfl ?_
            refine G.regionEnd ?_
            refine G.ret1 Try.func30 rfl rfl (rt299 _ _ _ ?_)
            refine G.frontAt 1 rfl ?_
            refine G.frontAt 1 rfl ?_
            refine G.less ?_ (J384  (decide (0 ≤ x441)) h)
            exact ⟨rfl, rfl, rfl, rfl, rfl, trivial⟩
          · replace h := ifFB h k465
            refine G.skip ?_
            refine G.inBlock ?_
            refine G.region (l := [0, 1]) rfl ?_
            refine G.bin (m := x441) (n := 1) (r := wi64 (x441 + 1)) rfl rfl rfl rfl rfl rfl rfl ?_
            refine G.move rfl rfl rfl rfl ?_
            refine G.regionEnd ?_
            refine G.round ?_
            refine G.frontAt 1 rfl ?_
            refine G.frontAt 1 rfl ?_
            refine G.less ?_ (ih453  (wi64 (x441 + 1)) h)
            exact ⟨rfl, rfl, rfl, rfl, trivial⟩
        · replace h := ifF h k466
          refine G.exit rfl ?_
          refine G.seq ?_
          refine G.region (l := [0]) rfl ?_
          refine G.assign rfl rfl rfl rfl ?_
          refine G.regionEnd ?_
          refine G.ret1 Try.func39 rfl rfl (rt412 _ _ _ ?_)
          refine G.cmp (False) rfl rfl rfl rfl rfl rfl (by simp [cmpP]) ?_
          refine G.assign rfl rfl rfl rfl ?_
          refine G.regionEnd ?_
          refine G.ret1 Try.func30 rfl rfl (rt299 _ _ _ ?_)
          refine G.frontAt 1 rfl ?_
          refine G.frontAt 1 rfl ?_
          refine G.less ?_ (J410   h)
          exact ⟨rfl, rfl, rfl, rfl, rfl, trivial⟩
    intro J467
    refine G.frontAt 1 rfl ?_
    refine G.less ?_ (J467 FUEL  0 h)
    exact ⟨rfl, rfl, rfl, rfl, trivial⟩
end Go.Proofs.Ytpiliblfmpgjeaa
