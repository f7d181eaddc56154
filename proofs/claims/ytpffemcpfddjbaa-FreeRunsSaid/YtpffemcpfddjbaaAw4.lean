/- Own text, printed by wip/g2: the walks. -/
import Derived.Test.YtpffemcpfddjbaaAw3
namespace Go.Proofs.Ytpffemcpfddjbaa
open Go K
set_option linter.unusedVariables false
set_option maxHeartbeats 1000000
def armoirelaw06_same.reg21_2 (B : List (Nat × Value)) : Reg := ⟨[[], [], [1], [2], [3], [], [5], [6], [7], [8], [4, 9], [10], [0, 11], [12], [13], [13], [15, 13], [16, 13], [17, 13], [18, 13], [14, 19, 13], [13, 20]], [some 13, some 14, some 15, some 16, some 17, some 18, some 19, some 20, some 21, some 22, some 23, some 24, some 25, some 26, some 27, some 28, some 29, some 30, some 31, some 32, some 33, some 34], B⟩
theorem armoirelaw06_same.reg21_2_ap (B : List (Nat × Value)) : (armoirelaw06_same.reg21_2 B).apart = true := rfl
set_option maxRecDepth 20000 in
theorem armoirelaw06_same.ok {O : World} {H : PH} {Fr : List Res} (a0 : S_free_Map) (g0 : Nat) (A0 : Option Addr) (n0 : Nat) (a1 : S_armoireref06_Map) (g1 : Nat) (A1 : Option Addr) (n1 : Nat) {r : Bool} (h : armoirelaw06_same.f a0 a1 = some r) :
    CtrS Try.prog 21 [.pointer (some ⟨g0, 0, none⟩), .pointer (some ⟨g1, 0, none⟩)] O H (BK 53 K_R_free_Map g0 (R_free_Map.mk a0.from_ (A0, a0.kinds.length, n0)) :: OS 54 Kd.u8 A0 n0 a0.kinds :: BK 59 K_R_armoireref06_Map g1 (R_armoireref06_Map.mk a1.from_ (A1, a1.k.length, n1)) :: OS 3 (Kd.int .i64) A1 n1 a1.k :: Fr) (fun v L' => v = .bool r ∧ BK 53 K_R_free_Map g0 (R_free_Map.mk a0.from_ (A0, a0.kinds.length, n0)) :: OS 54 Kd.u8 A0 n0 a0.kinds :: BK 59 K_R_armoireref06_Map g1 (R_armoireref06_Map.mk a1.from_ (A1, a1.k.length, n1)) :: OS 3 (Kd.int .i64) A1 n1 a1.k :: Fr = L') := by
  refine CtrS.start (n := 71) Try.func21 rfl Try.ntmps21 rfl rfl ?_
  unfold armoirelaw06_same.f at h
  refine G.seq ?_
  refine G.region (l := [0]) rfl ?_
  refine G.assign rfl rfl rfl rfl ?_
  refine G.regionEnd ?_
  refine G.seq ?_
  refine G.seq ?_
  refine G.region (l := [0, 1, 2, 3, 4, 5]) rfl ?_
  refine G.move rfl rfl rfl rfl ?_
  refine G.nilCheck rfl rfl rfl rfl ?_
  refine G.field (off' := 0) rfl rfl rfl rfl Try.underlying59 rfl sz3 rfl rfl ?_
  refine G.loadI (y := a1.from_) rfl rfl rfl rfl ty3 (fun w hs => Rd.bk (R_armoireref06_Map.L_from_ _) hs (j := 2) rfl) ?_
  refine G.bin (m := a1.from_) (n := 2) (r := wi64 (a1.from_ - 2)) rfl rfl rfl rfl rfl rfl rfl ?_
  refine G.assign rfl rfl rfl rfl ?_
  refine G.regionEnd ?_
  refine G.block ?_
  refine G.loop (fun GG K => ∀ (d325 : Nat) (x5 : Int), armoirelaw06_same.l0 a0 a1 d325 x5 = some r → GG H [(0, .pointer (some ⟨g0, 0, none⟩)), (1, .pointer (some ⟨g1, 0, none⟩)), (5, .int .i64 x5)] (OS 54 Kd.u8 A0 n0 a0.kinds :: BK 53 K_R_free_Map g0 (R_free_Map.mk a0.from_ (A0, a0.kinds.length, n0)) :: OS 3 (Kd.int .i64) A1 n1 a1.k :: BK 59 K_R_armoireref06_Map g1 (R_armoireref06_Map.mk a1.from_ (A1, a1.k.length, n1)) :: Fr) K) ?_ ?_
  · intro d325
    induction d325 with
    | zero => intro x5 h; rw [armoirelaw06_same.l0] at h; cases h
    | succ d325 ih324 =>
      intro x5 h
      rw [armoirelaw06_same.l0] at h
      refine G.seq ?_
      refine G.seq ?_
      refine byP (p := x5 < (wi64 ((wi64 (a1.from_ + (a1.k.length : Int))) + 2))) (fun k327 => ?_) (fun k327 => ?_)
      · replace h := ifT h k327
        refine G.draw [[], [], [1], [2], [3], [], [5], [6], [7], [8], [4, 9], [10], [0, 11], [12], [13], [13], [15, 13], [16, 13], [17, 13], [18, 13], [14, 19, 13], [13, 20]] 22 [0, 1, 2, 3, 4, 5, 6, 7, 8, 9, 10, 11, 12, 13, 14, 15, 16, 17, 18, 19, 20, 21] [0, 0, 1, 2, 3, 0, 1, 2, 3, 4, 5, 6, 7, 8, 9, 9, 10, 11, 12, 13, 14, 15] [0, 0, 1, 2, 3, 0, 1, 2, 3, 4, 5, 6, 7, 8, 9, 9, 10, 11, 12, 13, 14, 15] rfl (by kernel_rfl) (by kernel_rfl) (by kernel_rfl) (by kernel_rfl) ?_
        intro C553 ops554 k555
        let R556 : Reg := armoirelaw06_same.reg21_2 [(0, .pointer (some ⟨g0, 0, none⟩)), (1, .pointer (some ⟨g1, 0, none⟩)), (5, .int .i64 x5)]
        have P557 : ∀ (m : Nat) (L : List Bool) (A : List (Nat × Value)) (l : List Nat), L.length = R556.ds.length → R556.Phi [some (.int .i64 x5), some (.pointer (some ⟨g1, 0, none⟩)), some (.pointer (some ⟨g1, 0, none⟩)), some (.pointer (some ⟨g1, 0, none⟩)), some (.int .i64 a1.from_), some (.pointer (some ⟨g1, 0, none⟩)), some (.pointer (some ⟨g1, 0, none⟩)), some (.pointer (some ⟨g1, 1, none⟩)), some (.slice A1 a1.k.length n1), some (.int .i64 (a1.k.length : Int)), some (.int .i64 (wi64 (a1.from_ + (a1.k.length : Int)))), some (.int .i64 (wi64 ((wi64 (a1.from_ + (a1.k.length : Int))) + 2))), some (.bool (decide (x5 < (wi64 ((wi64 (a1.from_ + (a1.k.length : Int))) + 2))))), some (.bool true), some (.int .i64 x5), some (.pointer (some ⟨g1, 0, none⟩)), some (.pointer (some ⟨g1, 0, none⟩)), some (.pointer (some ⟨g1, 0, none⟩)), some (.int .i64 a1.from_), some (.int .i64 (wi64 (a1.from_ + 40))), some (.bool (decide (x5 < (wi64 (a1.from_ + 40))))), some (.bool (decide (x5 < (wi64 (a1.from_ + 40)))))] [] [] L A → left L = m → Ord R556.ds m L l → G C553 H A (OS 54 Kd.u8 A0 n0 a0.kinds :: BK 53 K_R_free_Map g0 (R_free_Map.mk a0.from_ (A0, a0.kinds.length, n0)) :: OS 3 (Kd.int .i64) A1 n1 a1.k :: BK 59 K_R_armoireref06_Map g1 (R_armoireref06_Map.mk a1.from_ (A1, a1.k.length, n1)) :: Fr) (.inRegion ops554 l :: k555) := by
          refine G.phase R556 [some (.int .i64 x5), some (.pointer (some ⟨g1, 0, none⟩)), some (.pointer (some ⟨g1, 0, none⟩)), some (.pointer (some ⟨g1, 0, none⟩)), some (.int .i64 a1.from_), some (.pointer (some ⟨g1, 0, none⟩)), some (.pointer (some ⟨g1, 0, none⟩)), some (.pointer (some ⟨g1, 1, none⟩)), some (.slice A1 a1.k.length n1), some (.int .i64 (a1.k.length : Int)), some (.int .i64 (wi64 (a1.from_ + (a1.k.length : Int)))), some (.int .i64 (wi64 ((wi64 (a1.from_ + (a1.k.length : Int))) + 2))), some (.bool (decide (x5 < (wi64 ((wi64 (a1.from_ + (a1.k.length : Int))) + 2))))), some (.bool true), some (.int .i64 x5), some (.pointer (some ⟨g1, 0, none⟩)), some (.pointer (some ⟨g1, 0, none⟩)), some (.pointer (some ⟨g1, 0, none⟩)), some (.int .i64 a1.from_), some (.int .i64 (wi64 (a1.from_ + 40))), some (.bool (decide (x5 < (wi64 (a1.from_ + 40))))), some (.bool (decide (x5 < (wi64 (a1.from_ + 40)))))] [0, 1, 2, 3, 4, 5, 6, 7, 8, 9, 10, 11, 12, 13, 14, 15, 16, 17, 18, 19, 20, 21] [] [] [] (armoirelaw06_same.reg21_2_ap _) rfl rfl ⟨⟨[.base 5], 13, .int .i64 x5, [(5, .int .i64 x5)], ⟨rfl, rfl, rfl, rfl, ?_⟩⟩, ⟨⟨[.base 1], 14, .pointer (some ⟨g1, 0, none⟩), [(1, .pointer (some ⟨g1, 0, none⟩))], ⟨rfl, rfl, rfl, rfl, ?_⟩⟩, ⟨⟨[.op 1], 15, .pointer (some ⟨g1, 0, none⟩), [(14, .pointer (some ⟨g1, 0, none⟩))], ⟨rfl, rfl, rfl, rfl, ?_⟩⟩, ⟨⟨[.op 2], 16, .pointer (some ⟨g1, 0, none⟩), [(15, .pointer (some ⟨g1, 0, none⟩))], ⟨rfl, rfl, rfl, rfl, ?_⟩⟩, ⟨⟨[.op 3], 17, .int .i64 a1.from_, [(16, .pointer (some ⟨g1, 0, none⟩))], ⟨rfl, rfl, rfl, rfl, ?_⟩⟩, ⟨⟨[.base 1], 18, .pointer (some ⟨g1, 0, none⟩), [(1, .pointer (some ⟨g1, 0, none⟩))], ⟨rfl, rfl, rfl, rfl, ?_⟩⟩, ⟨⟨[.op 5], 19, .pointer (some ⟨g1, 0, none⟩), [(18, .pointer (some ⟨g1, 0, none⟩))], ⟨rfl, rfl, rfl, rfl, ?_⟩⟩, ⟨⟨[.op 6], 20, .pointer (some ⟨g1, 1, none⟩), [(19, .pointer (some ⟨g1, 0, none⟩))], ⟨rfl, rfl, rfl, rfl, ?_⟩⟩, ⟨⟨[.op 7], 21, .slice A1 a1.k.length n1, [(20, .pointer (some ⟨g1, 1, none⟩))], ⟨rfl, rfl, rfl, rfl, ?_⟩⟩, ⟨⟨[.op 8], 22, .int .i64 (a1.k.length : Int), [(21, .slice A1 a1.k.length n1)], ⟨rfl, rfl, rfl, rfl, ?_⟩⟩, ⟨⟨[.op 4, .op 9], 23, .int .i64 (wi64 (a1.from_ + (a1.k.length : Int))), [(17, .int .i64 a1.from_), (22, .int .i64 (a1.k.length : Int))], ⟨rfl, rfl, rfl, rfl, ?_⟩⟩, ⟨⟨[.op 10], 24, .int .i64 (wi64 ((wi64 (a1.from_ + (a1.k.length : Int))) + 2)), [(23, .int .i64 (wi64 (a1.from_ + (a1.k.length : Int))))], ⟨rfl, rfl, rfl, rfl, ?_⟩⟩, ⟨⟨[.op 0, .op 11], 25, .bool (decide (x5 < (wi64 ((wi64 (a1.from_ + (a1.k.length : Int))) + 2)))), [(13, .int .i64 x5), (24, .int .i64 (wi64 ((wi64 (a1.from_ + (a1.k.length : Int))) + 2)))], ⟨rfl, rfl, rfl, rfl, ?_⟩⟩, ⟨⟨[.op 12], 26, .bool true, [(25, .bool (decide (x5 < (wi64 ((wi64 (a1.from_ + (a1.k.length : Int))) + 2)))))], ⟨rfl, rfl, rfl, rfl, ?_⟩⟩, ⟨⟨[.base 5, .op 13], 27, .int .i64 x5, [(5, .int .i64 x5), (26, .bool true)], ⟨rfl, rfl, rfl, rfl, ?_⟩⟩, ⟨⟨[.base 1, .op 13], 28, .pointer (some ⟨g1, 0, none⟩), [(1, .pointer (some ⟨g1, 0, none⟩)), (26, .bool true)], ⟨rfl, rfl, rfl, rfl, ?_⟩⟩, ⟨⟨[.op 13, .op 15], 29, .pointer (some ⟨g1, 0, none⟩), [(26, .bool true), (28, .pointer (some ⟨g1, 0, none⟩))], ⟨rfl, rfl, rfl, rfl, ?_⟩⟩, ⟨⟨[.op 13, .op 16], 30, .pointer (some ⟨g1, 0, none⟩), [(26, .bool true), (29, .pointer (some ⟨g1, 0, none⟩))], ⟨rfl, rfl, rfl, rfl, ?_⟩⟩, ⟨⟨[.op 13, .op 17], 31, .int .i64 a1.from_, [(26, .bool true), (30, .pointer (some ⟨g1, 0, none⟩))], ⟨rfl, rfl, rfl, rfl, ?_⟩⟩, ⟨⟨[.op 13, .op 18], 32, .int .i64 (wi64 (a1.from_ + 40)), [(26, .bool true), (31, .int .i64 a1.from_)], ⟨rfl, rfl, rfl, rfl, ?_⟩⟩, ⟨⟨[.op 13, .op 14, .op 19], 33, .bool (decide (x5 < (wi64 (a1.from_ + 40)))), [(26, .bool true), (27, .int .i64 x5), (32, .int .i64 (wi64 (a1.from_ + 40)))], ⟨rfl, rfl, rfl, rfl, ?_⟩⟩, ⟨⟨[.op 13, .op 20], 34, .bool (decide (x5 < (wi64 (a1.from_ + 40)))), [(26, .bool true), (33, .bool (decide (x5 < (wi64 (a1.from_ + 40)))))], ⟨rfl, rfl, rfl, rfl, ?_⟩⟩, trivial⟩⟩⟩⟩⟩⟩⟩⟩⟩⟩⟩⟩⟩⟩⟩⟩⟩⟩⟩⟩⟩⟩ trivial ?_
          · intro X rest g
            refine G.move rfl rfl rfl rfl ?_
            exact g
          · intro X rest g
            refine G.move rfl rfl rfl rfl ?_
            exact g
          · intro X rest g
            refine G.nilCheck rfl rfl rfl rfl ?_
            exact g
          · intro X rest g
            refine G.field (off' := 0) rfl rfl rfl rfl Try.underlying59 rfl sz3 rfl rfl ?_
            exact g
          · intro X rest g
            refine G.loadI (y := a1.from_) rfl rfl rfl rfl ty3 (fun w hs => Rd.bk (R_armoireref06_Map.L_from_ _) hs (j := 3) rfl) ?_
            exact g
          · intro X rest g
            refine G.move rfl rfl rfl rfl ?_
            exact g
          · intro X rest g
            refine G.nilCheck rfl rfl rfl rfl ?_
            exact g
          · intro X rest g
            refine G.field (off' := 1) rfl rfl rfl rfl Try.underlying59 rfl sz28 rfl rfl ?_
            exact g
          · intro X rest g
            refine G.loadH (B := A1) (m := a1.k.length) (c := n1) rfl rfl rfl rfl ty28r (fun w hs => Rd.bk (R_armoireref06_Map.L_k _) hs (j := 3) rfl) ?_
            exact g
          · intro X rest g
            refine G.len (m := a1.k.length) rfl rfl rfl rfl Try.underlying28 ?_
            exact g
          · intro X rest g
            refine G.bin (m := a1.from_) (n := (a1.k.length : Int)) (r := wi64 (a1.from_ + (a1.k.length : Int))) rfl rfl rfl rfl rfl rfl rfl ?_
            exact g
          · intro X rest g
            refine G.bin (m := wi64 (a1.from_ + (a1.k.length : Int))) (n := 2) (r := wi64 ((wi64 (a1.from_ + (a1.k.length : Int))) + 2)) rfl rfl rfl rfl rfl rfl rfl ?_
            exact g
          · intro X rest g
            refine G.cmp (x5 < (wi64 ((wi64 (a1.from_ + (a1.k.length : Int))) + 2))) rfl rfl rfl rfl rfl rfl Iff.rfl ?_
            exact g
          · intro X rest g
            refine G.move rfl rfl rfl rfl ?_
            refine G.same (d := 26) (v := .bool true) rfl (by simp [k327]) ?_
            refine G.shadow ?_
            exact g
          · intro X rest g
            refine G.move rfl rfl rfl rfl ?_
            exact g
          · intro X rest g
            refine G.move rfl rfl rfl rfl ?_
            exact g
          · intro X rest g
            refine G.nilCheck rfl rfl rfl rfl ?_
            exact g
          · intro X rest g
            refine G.field (off' := 0) rfl rfl rfl rfl Try.underlying59 rfl sz3 rfl rfl ?_
            exact g
          · intro X rest g
            refine G.loadI (y := a1.from_) rfl rfl rfl rfl ty3 (fun w hs => Rd.bk (R_armoireref06_Map.L_from_ _) hs (j := 3) rfl) ?_
            exact g
          · intro X rest g
            refine G.bin (m := a1.from_) (n := 40) (r := wi64 (a1.from_ + 40)) rfl rfl rfl rfl rfl rfl rfl ?_
            exact g
          · intro X rest g
            refine G.cmp (x5 < (wi64 (a1.from_ + 40))) rfl rfl rfl rfl rfl rfl Iff.rfl ?_
            exact g
          · intro X rest g
            refine G.pickT rfl rfl rfl rfl rfl ?_
            exact g
          · intro A L hlen hp h0
            refine G.lessSub (B := [(0, .pointer (some ⟨g0, 0, none⟩)), (1, .pointer (some ⟨g1, 0, none⟩)), (5, .int .i64 x5), (27, .int .i64 x5), (28, .pointer (some ⟨g1, 0, none⟩)), (29, .pointer (some ⟨g1, 0, none⟩)), (30, .pointer (some ⟨g1, 0, none⟩)), (31, .int .i64 a1.from_), (32, .int .i64 (wi64 (a1.from_ + 40))), (33, .bool (decide (x5 < (wi64 (a1.from_ + 40))))), (34, .bool (decide (x5 < (wi64 (a1.from_ + 40)))))]) (hp.fin hlen h0 (src := [.base 0, .base 1, .base 5, .op 14, .op 15, .op 16, .op 17, .op 18, .op 19, .op 20, .op 21]) rfl) ?_
            refine G.regionEnd ?_
            refine G.condP rfl (fun k552 => ?_) (fun k552 => ?_)
            · replace h := ifT h k552
              refine G.skip ?_
              refine G.seq ?_
              refine G.block ?_
              refine G.seq ?_
              refine G.region (l := [0]) rfl ?_
              refine G.assign rfl rfl rfl rfl ?_
              refine G.regionEnd ?_
              refine G.seq ?_
              refine G.seq ?_
              refine G.region (l := [0]) rfl ?_
              refine G.move rfl rfl rfl rfl ?_
              refine G.regionEnd ?_
              refine G.block ?_
              refine G.loop (fun GG K => ∀ (d440 : Nat) (x420 : Int) (x421 : Int), armoirelaw06_same.l1 a0 a1 x5 (armoirelaw06_same.l0 a0 a1 d325) d440 x420 x421 = some r → GG H [(0, .pointer (some ⟨g0, 0, none⟩)), (1, .pointer (some ⟨g1, 0, none⟩)), (5, .int .i64 x5), (6, .int .i64 x420), (27, .int .i64 x5), (28, .pointer (some ⟨g1, 0, none⟩)), (29, .pointer (some ⟨g1, 0, none⟩)), (30, .pointer (some ⟨g1, 0, none⟩)), (31, .int .i64 a1.from_), (32, .int .i64 (wi64 (a1.from_ + 40))), (33, .bool (decide (x5 < (wi64 (a1.from_ + 40))))), (37, .int .i64 x421)] (OS 54 Kd.u8 A0 n0 a0.kinds :: BK 53 K_R_free_Map g0 (R_free_Map.mk a0.from_ (A0, a0.kinds.length, n0)) :: OS 3 (Kd.int .i64) A1 n1 a1.k :: BK 59 K_R_armoireref06_Map g1 (R_armoireref06_Map.mk a1.from_ (A1, a1.k.length, n1)) :: Fr) K) ?_ ?_
              · intro d440
                induction d440 with
                | zero => intro x420 x421 h; rw [armoirelaw06_same.l1] at h; cases h
                | succ d440 ih439 =>
                  intro x420 x421 h
                  rw [armoirelaw06_same.l1] at h
                  refine G.seq ?_
                  refine G.region (l := [0]) rfl ?_
                  refine G.cmp (x421 < 3) rfl rfl rfl rfl rfl rfl Iff.rfl ?_
                  refine G.regionEnd ?_
                  refine G.seq ?_
                  refine G.condP rfl (fun k458 => ?_) (fun k458 => ?_)
                  · replace h := ifT h k458
                    refine G.skip ?_
                    refine G.seq ?_
                    refine G.block ?_
                    refine G.seq ?_
                    refine G.region (l := [0, 1]) rfl ?_
                    refine G.move rfl rfl rfl rfl ?_
                    refine G.assign rfl rfl rfl rfl ?_
                    refine G.regionEnd ?_
                    refine G.seq ?_
                    refine G.region (l := [0, 1, 2, 3]) rfl ?_
                    refine G.move rfl rfl rfl rfl ?_
                    refine G.move rfl rfl rfl rfl ?_
                    refine G.move rfl rfl rfl rfl ?_
                    refine G.frontAt 2 rfl ?_
                    refine G.frontAt 3 rfl ?_
                    obtain ⟨t447, e448, h⟩ := bindS h
                    refine G.callS rfl rfl rfl rfl call28 (armoireref06_Map_Is.ok a1 g1 A1 n1 x5 x421 e448) ?_
                    rintro v449 L450 ⟨rfl, rfl⟩
                    refine G.regionEnd ?_
                    refine G.cond rfl (fun k452 => ?_) (fun k452 => ?_)
                    · replace h := ifT h k452
                      refine G.region (l := [0, 1, 2]) rfl ?_
                      refine G.move rfl rfl rfl rfl ?_
                      refine G.bin (m := 1) (n := x421) (r := wi64 (1 + x421)) rfl rfl rfl rfl rfl rfl rfl ?_
                      refine G.assign rfl rfl rfl rfl ?_
                      refine G.regionEnd ?_
                      refine G.inBlock ?_
                      refine G.region (l := [0, 1]) rfl ?_
                      refine G.bin (m := x421) (n := 1) (r := wi64 (x421 + 1)) rfl rfl rfl rfl rfl rfl rfl ?_
                      refine G.move rfl rfl rfl rfl ?_
                      refine G.regionEnd ?_
                      refine G.round ?_
                      refine G.frontAt 1 rfl ?_
                      refine G.frontAt 3 rfl ?_
                      refine G.frontAt 3 rfl ?_
                      refine G.less ?_ (ih439  (wi64 (1 + x421)) (wi64 (x421 + 1)) h)
                      exact ⟨rfl, rfl, rfl, rfl, rfl, rfl, rfl, rfl, rfl, rfl, rfl, rfl, trivial⟩
                    · replace h := ifFB h k452
                      refine G.skip ?_
                      refine G.inBlock ?_
                      refine G.region (l := [0, 1]) rfl ?_
                      refine G.bin (m := x421) (n := 1) (r := wi64 (x421 + 1)) rfl rfl rfl rfl rfl rfl rfl ?_
                      refine G.move rfl rfl rfl rfl ?_
                      refine G.regionEnd ?_
                      refine G.round ?_
                      refine G.frontAt 1 rfl ?_
                      refine G.frontAt 3 rfl ?_
                      refine G.frontAt 3 rfl ?_
                      refine G.less ?_ (ih439  x420 (wi64 (x421 + 1)) h)
                      exact ⟨rfl, rfl, rfl, rfl, rfl, rfl, rfl, rfl, rfl, rfl, rfl, rfl, trivial⟩
                  · replace h := ifF h k458
                    refine G.exit rfl ?_
                    refine G.seq ?_
                    refine G.region (l := [0, 1, 2, 3, 4]) rfl ?_
                    refine G.move rfl rfl rfl rfl ?_
                    refine G.move rfl rfl rfl rfl ?_
                    refine G.frontAt 1 rfl ?_
                    obtain ⟨t453, e454, h⟩ := bindS h
                    refine G.callS rfl rfl rfl rfl call29 (free_Map_Is.ok a0 g0 A0 n0 x5 e454) ?_
                    rintro v455 L456 ⟨rfl, rfl⟩
                    refine G.move rfl rfl rfl rfl ?_
                    refine G.cmp (t453 ≠ x420) rfl rfl rfl rfl rfl rfl Iff.rfl ?_
                    refine G.regionEnd ?_
                    refine G.condP rfl (fun k457 => ?_) (fun k457 => ?_)
                    · replace h := ifT h k457
                      refine G.seq ?_
                      refine G.region (l := [0]) rfl ?_
                      refine G.assign rfl rfl rfl rfl ?_
                      refine G.regionEnd ?_
                      refine G.frontAt 2 rfl ?_
                      refine G.frontAt 3 rfl ?_
                      refine G.frontAt 3 rfl ?_
                      refine G.frontAt 3 rfl ?_
                      obtain rfl := Option.some.inj h
                      exact G.ret1 Try.func21 rfl rfl (fun w hs => ⟨_, _, rfl, ⟨rfl, rfl⟩, hs⟩)
                    · replace h := ifF h k457
                      refine G.skip ?_
                      refine G.inBlock ?_
                      refine G.region (l := [0, 1, 2]) rfl ?_
                      refine G.move rfl rfl rfl rfl ?_
                      refine G.bin (m := x5) (n := 1) (r := wi64 (x5 + 1)) rfl rfl rfl rfl rfl rfl rfl ?_
                      refine G.assign rfl rfl rfl rfl ?_
                      refine G.regionEnd ?_
                      refine G.round ?_
                      refine G.frontAt 3 rfl ?_
                      refine G.frontAt 3 rfl ?_
                      refine G.frontAt 2 rfl ?_
                      refine G.frontAt 3 rfl ?_
                      refine G.less ?_ (ih324  (wi64 (x5 + 1)) h)
                      exact ⟨rfl, rfl, rfl, trivial⟩
              intro J459
              refine G.frontAt 3 rfl ?_
              refine G.frontAt 3 rfl ?_
              refine G.frontAt 3 rfl ?_
              refine G.frontAt 3 rfl ?_
              refine G.less ?_ (J459 FUEL  0 0 h)
              exact ⟨rfl, rfl, rfl, rfl, rfl, rfl, rfl, rfl, rfl, rfl, rfl, rfl, trivial⟩
            · replace h := ifF h k552
              refine G.exit rfl ?_
              refine G.seq ?_
              refine G.region (l := [0, 1, 2, 3, 4, 5, 6, 7, 8, 9, 10, 11, 12, 13, 14, 15, 16, 17, 18, 19]) rfl ?_
              refine G.move rfl rfl rfl rfl ?_
              refine G.frontAt 1 rfl ?_
              obtain ⟨t460, e461, h⟩ := bindS h
              refine G.callS rfl rfl rfl rfl call13 (free_Map_Free.ok a0 g0 A0 n0 e461) ?_
              rintro v462 L463 ⟨B464, c465, rfl, rfl⟩
              refine G.move rfl rfl rfl rfl ?_
              refine G.frontAt 3 rfl ?_
              refine G.frontAt 4 rfl ?_
              obtain ⟨t467, e468, h⟩ := bindS h
              refine G.callS rfl rfl rfl rfl call31 (armoireref06_Map_All.ok a1 g1 A1 n1 0 e468) ?_
              rintro v469 L470 ⟨B471, c472, rfl, rfl⟩
              refine G.frontAt 2 rfl ?_
              refine G.frontAt 5 rfl ?_
              obtain ⟨t474, e475, h⟩ := bindS h
              refine G.callS rfl rfl rfl rfl call30 (armoirelaw06_list.ok t460 B464 c465 t467 B471 c472 e475) ?_
              rintro v476 L477 ⟨rfl, rfl⟩
              refine G.move rfl rfl rfl rfl ?_
              refine G.splitB (d := 57) rfl (fun k551 => ?_) (fun k551 => ?_)
              · replace h := ifT h k551
                refine G.move rfl rfl rfl rfl ?_
                refine G.frontAt 5 rfl ?_
                refine G.frontAt 5 rfl ?_
                obtain ⟨t496, e497, h⟩ := bindS h
                refine G.callS rfl rfl rfl rfl call16 (free_Map_Taken.ok a0 g0 A0 n0 e497) ?_
                rintro v498 L499 ⟨B500, c501, rfl, rfl⟩
                refine G.move rfl rfl rfl rfl ?_
                refine G.frontAt 6 rfl ?_
                refine G.frontAt 6 rfl ?_
                obtain ⟨t503, e504, h⟩ := bindS h
                refine G.callS rfl rfl rfl rfl call31 (armoireref06_Map_All.ok a1 g1 A1 n1 1 e504) ?_
                rintro v505 L506 ⟨B507, c508, rfl, rfl⟩
                refine G.frontAt 2 rfl ?_
                refine G.frontAt 5 rfl ?_
                obtain ⟨t510, e511, h⟩ := bindS h
                refine G.callS rfl rfl rfl rfl call30 (armoirelaw06_list.ok t496 B500 c501 t503 B507 c508 e511) ?_
                rintro v512 L513 ⟨rfl, rfl⟩
                refine G.pickT rfl rfl rfl rfl rfl ?_
                refine G.move rfl rfl rfl rfl ?_
                refine G.splitB (d := 64) rfl (fun k550 => ?_) (fun k550 => ?_)
                · replace h := ifT h k550
                  refine G.move rfl rfl rfl rfl ?_
                  refine G.frontAt 5 rfl ?_
                  refine G.frontAt 5 rfl ?_
                  obtain ⟨t532, e533, h⟩ := bindS h
                  refine G.callS rfl rfl rfl rfl call9 (free_Map_Waiting.ok a0 g0 A0 n0 e533) ?_
                  rintro v534 L535 ⟨B536, c537, rfl, rfl⟩
                  refine G.move rfl rfl rfl rfl ?_
                  refine G.frontAt 6 rfl ?_
                  refine G.frontAt 6 rfl ?_
                  obtain ⟨t539, e540, h⟩ := bindS h
                  refine G.callS rfl rfl rfl rfl call31 (armoireref06_Map_All.ok a1 g1 A1 n1 2 e540) ?_
                  rintro v541 L542 ⟨B543, c544, rfl, rfl⟩
                  refine G.frontAt 2 rfl ?_
                  refine G.frontAt 5 rfl ?_
                  obtain ⟨t546, e547, h⟩ := bindS h
                  refine G.callS rfl rfl rfl rfl call30 (armoirelaw06_list.ok t532 B536 c537 t539 B543 c544 e547) ?_
                  rintro v548 L549 ⟨rfl, rfl⟩
                  refine G.pickT rfl rfl rfl rfl rfl ?_
                  refine G.assign rfl rfl rfl rfl ?_
                  refine G.regionEnd ?_
                  refine G.drop ?_
                  refine G.drop ?_
                  refine G.frontAt 4 rfl ?_
                  refine G.drop ?_
                  refine G.frontAt 4 rfl ?_
                  refine G.drop ?_
                  refine G.frontAt 4 rfl ?_
                  refine G.drop ?_
                  refine G.frontAt 4 rfl ?_
                  refine G.drop ?_
                  refine G.frontAt 1 rfl ?_
                  refine G.frontAt 1 rfl ?_
                  refine G.frontAt 3 rfl ?_
                  refine G.frontAt 3 rfl ?_
                  obtain rfl := Option.some.inj h
                  exact G.ret1 Try.func21 rfl rfl (fun w hs => ⟨_, _, rfl, ⟨rfl, rfl⟩, hs⟩)
                · replace h := ifFB h k550
                  refine G.unwanted rfl rfl rfl rfl ?_
                  refine G.unwanted rfl rfl rfl rfl ?_
                  refine G.unwanted rfl rfl rfl rfl ?_
                  refine G.unwanted rfl rfl rfl rfl ?_
                  refine G.unwanted rfl rfl rfl rfl ?_
                  refine G.pickF rfl rfl rfl rfl rfl ?_
                  refine G.assign rfl rfl rfl rfl ?_
                  refine G.regionEnd ?_
                  refine G.drop ?_
                  refine G.drop ?_
                  refine G.frontAt 4 rfl ?_
                  refine G.drop ?_
                  refine G.frontAt 4 rfl ?_
                  refine G.drop ?_
                  refine G.frontAt 1 rfl ?_
                  refine G.frontAt 1 rfl ?_
                  refine G.frontAt 3 rfl ?_
                  refine G.frontAt 3 rfl ?_
                  obtain rfl := Option.some.inj h
                  exact G.ret1 Try.func21 rfl rfl (fun w hs => ⟨_, _, rfl, ⟨rfl, rfl⟩, hs⟩)
              · replace h := ifFB h k551
                refine G.unwanted rfl rfl rfl rfl ?_
                refine G.unwanted rfl rfl rfl rfl ?_
                refine G.unwanted rfl rfl rfl rfl ?_
                refine G.unwanted rfl rfl rfl rfl ?_
                refine G.unwanted rfl rfl rfl rfl ?_
                refine G.pickF rfl rfl rfl rfl rfl ?_
                refine G.move rfl rfl rfl rfl ?_
                refine G.unwanted rfl rfl rfl rfl ?_
                refine G.unwanted rfl rfl rfl rfl ?_
                refine G.unwanted rfl rfl rfl rfl ?_
                refine G.unwanted rfl rfl rfl rfl ?_
                refine G.unwanted rfl rfl rfl rfl ?_
                refine G.pickF rfl rfl rfl rfl rfl ?_
                refine G.assign rfl rfl rfl rfl ?_
                refine G.regionEnd ?_
                refine G.drop ?_
                refine G.drop ?_
                refine G.frontAt 1 rfl ?_
                refine G.frontAt 1 rfl ?_
                refine G.frontAt 3 rfl ?_
                refine G.frontAt 3 rfl ?_
                obtain rfl := Option.some.inj h
                exact G.ret1 Try.func21 rfl rfl (fun w hs => ⟨_, _, rfl, ⟨rfl, rfl⟩, hs⟩)
        intro l hl
        exact P557 22 (List.replicate 22 false) _ l rfl (Reg.Phi.init 22 ⟨rfl, rfl, rfl, trivial⟩) (left_rep 22) hl
      · replace h := ifF h k327
        refine G.draw [[], [], [1], [2], [3], [], [5], [6], [7], [8], [4, 9], [10], [0, 11], [12], [13], [13], [15, 13], [16, 13], [17, 13], [18, 13], [14, 19, 13], [13, 20]] 22 [0, 1, 2, 3, 4, 5, 6, 7, 8, 9, 10, 11, 12, 13, 14, 15, 16, 17, 18, 19, 20, 21] [0, 0, 1, 2, 3, 0, 1, 2, 3, 4, 5, 6, 7, 8, 9, 9, 10, 11, 12, 13, 14, 15] [0, 0, 1, 2, 3, 0, 1, 2, 3, 4, 5, 6, 7, 8, 9, 9, 10, 11, 12, 13, 14, 15] rfl (by kernel_rfl) (by kernel_rfl) (by kernel_rfl) (by kernel_rfl) ?_
        intro C650 ops651 k652
        let R653 : Reg := armoirelaw06_same.reg21_2 [(0, .pointer (some ⟨g0, 0, none⟩)), (1, .pointer (some ⟨g1, 0, none⟩)), (5, .int .i64 x5)]
        have P654 : ∀ (m : Nat) (L : List Bool) (A : List (Nat × Value)) (l : List Nat), L.length = R653.ds.length → R653.Phi [some (.int .i64 x5), some (.pointer (some ⟨g1, 0, none⟩)), some (.pointer (some ⟨g1, 0, none⟩)), some (.pointer (some ⟨g1, 0, none⟩)), some (.int .i64 a1.from_), some (.pointer (some ⟨g1, 0, none⟩)), some (.pointer (some ⟨g1, 0, none⟩)), some (.pointer (some ⟨g1, 1, none⟩)), some (.slice A1 a1.k.length n1), some (.int .i64 (a1.k.length : Int)), some (.int .i64 (wi64 (a1.from_ + (a1.k.length : Int)))), some (.int .i64 (wi64 ((wi64 (a1.from_ + (a1.k.length : Int))) + 2))), some (.bool (decide (x5 < (wi64 ((wi64 (a1.from_ + (a1.k.length : Int))) + 2))))), some (.bool false), some (undef), some (undef), some (undef), some (undef), some (undef), some (undef), some (undef), some (.bool false)] [] [] L A → left L = m → Ord R653.ds m L l → G C650 H A (OS 54 Kd.u8 A0 n0 a0.kinds :: BK 53 K_R_free_Map g0 (R_free_Map.mk a0.from_ (A0, a0.kinds.length, n0)) :: OS 3 (Kd.int .i64) A1 n1 a1.k :: BK 59 K_R_armoireref06_Map g1 (R_armoireref06_Map.mk a1.from_ (A1, a1.k.length, n1)) :: Fr) (.inRegion ops651 l :: k652) := by
          refine G.phase R653 [some (.int .i64 x5), some (.pointer (some ⟨g1, 0, none⟩)), some (.pointer (some ⟨g1, 0, none⟩)), some (.pointer (some ⟨g1, 0, none⟩)), some (.int .i64 a1.from_), some (.pointer (some ⟨g1, 0, none⟩)), some (.pointer (some ⟨g1, 0, none⟩)), some (.pointer (some ⟨g1, 1, none⟩)), some (.slice A1 a1.k.length n1), some (.int .i64 (a1.k.length : Int)), some (.int .i64 (wi64 (a1.from_ + (a1.k.length : Int)))), some (.int .i64 (wi64 ((wi64 (a1.from_ + (a1.k.length : Int))) + 2))), some (.bool (decide (x5 < (wi64 ((wi64 (a1.from_ + (a1.k.length : Int))) + 2))))), some (.bool false), some (undef), some (undef), some (undef), some (undef), some (undef), some (undef), some (undef), some (.bool false)] [0, 1, 2, 3, 4, 5, 6, 7, 8, 9, 10, 11, 12, 13, 14, 15, 16, 17, 18, 19, 20, 21] [] [] [] (armoirelaw06_same.reg21_2_ap _) rfl rfl ⟨⟨[.base 5], 13, .int .i64 x5, [(5, .int .i64 x5)], ⟨rfl, rfl, rfl, rfl, ?_⟩⟩, ⟨⟨[.base 1], 14, .pointer (some ⟨g1, 0, none⟩), [(1, .pointer (some ⟨g1, 0, none⟩))], ⟨rfl, rfl, rfl, rfl, ?_⟩⟩, ⟨⟨[.op 1], 15, .pointer (some ⟨g1, 0, none⟩), [(14, .pointer (some ⟨g1, 0, none⟩))], ⟨rfl, rfl, rfl, rfl, ?_⟩⟩, ⟨⟨[.op 2], 16, .pointer (some ⟨g1, 0, none⟩), [(15, .pointer (some ⟨g1, 0, none⟩))], ⟨rfl, rfl, rfl, rfl, ?_⟩⟩, ⟨⟨[.op 3], 17, .int .i64 a1.from_, [(16, .pointer (some ⟨g1, 0, none⟩))], ⟨rfl, rfl, rfl, rfl, ?_⟩⟩, ⟨⟨[.base 1], 18, .pointer (some ⟨g1, 0, none⟩), [(1, .pointer (some ⟨g1, 0, none⟩))], ⟨rfl, rfl, rfl, rfl, ?_⟩⟩, ⟨⟨[.op 5], 19, .pointer (some ⟨g1, 0, none⟩), [(18, .pointer (some ⟨g1, 0, none⟩))], ⟨rfl, rfl, rfl, rfl, ?_⟩⟩, ⟨⟨[.op 6], 20, .pointer (some ⟨g1, 1, none⟩), [(19, .pointer (some ⟨g1, 0, none⟩))], ⟨rfl, rfl, rfl, rfl, ?_⟩⟩, ⟨⟨[.op 7], 21, .slice A1 a1.k.length n1, [(20, .pointer (some ⟨g1, 1, none⟩))], ⟨rfl, rfl, rfl, rfl, ?_⟩⟩, ⟨⟨[.op 8], 22, .int .i64 (a1.k.length : Int), [(21, .slice A1 a1.k.length n1)], ⟨rfl, rfl, rfl, rfl, ?_⟩⟩, ⟨⟨[.op 4, .op 9], 23, .int .i64 (wi64 (a1.from_ + (a1.k.length : Int))), [(17, .int .i64 a1.from_), (22, .int .i64 (a1.k.length : Int))], ⟨rfl, rfl, rfl, rfl, ?_⟩⟩, ⟨⟨[.op 10], 24, .int .i64 (wi64 ((wi64 (a1.from_ + (a1.k.length : Int))) + 2)), [(23, .int .i64 (wi64 (a1.from_ + (a1.k.length : Int))))], ⟨rfl, rfl, rfl, rfl, ?_⟩⟩, ⟨⟨[.op 0, .op 11], 25, .bool (decide (x5 < (wi64 ((wi64 (a1.from_ + (a1.k.length : Int))) + 2)))), [(13, .int .i64 x5), (24, .int .i64 (wi64 ((wi64 (a1.from_ + (a1.k.length : Int))) + 2)))], ⟨rfl, rfl, rfl, rfl, ?_⟩⟩, ⟨⟨[.op 12], 26, .bool false, [(25, .bool (decide (x5 < (wi64 ((wi64 (a1.from_ + (a1.k.length : Int))) + 2)))))], ⟨rfl, rfl, rfl, rfl, ?_⟩⟩, ⟨⟨[.base 5, .op 13], 27, undef, [(5, .int .i64 x5), (26, .bool false)], ⟨rfl, rfl, rfl, rfl, ?_⟩⟩, ⟨⟨[.base 1, .op 13], 28, undef, [(1, .pointer (some ⟨g1, 0, none⟩)), (26, .bool false)], ⟨rfl, rfl, rfl, rfl, ?_⟩⟩, ⟨⟨[.op 13, .op 15], 29, undef, [(26, .bool false), (28, undef)], ⟨rfl, rfl, rfl, rfl, ?_⟩⟩, ⟨⟨[.op 13, .op 16], 30, undef, [(26, .bool false), (29, undef)], ⟨rfl, rfl, rfl, rfl, ?_⟩⟩, ⟨⟨[.op 13, .op 17], 31, undef, [(26, .bool false), (30, undef)], ⟨rfl, rfl, rfl, rfl, ?_⟩⟩, ⟨⟨[.op 13, .op 18], 32, undef, [(26, .bool false), (31, undef)], ⟨rfl, rfl, rfl, rfl, ?_⟩⟩, ⟨⟨[.op 13, .op 14, .op 19], 33, undef, [(26, .bool false), (27, undef), (32, undef)], ⟨rfl, rfl, rfl, rfl, ?_⟩⟩, ⟨⟨[.op 13, .op 20], 34, .bool false, [(26, .bool false), (33, undef)], ⟨rfl, rfl, rfl, rfl, ?_⟩⟩, trivial⟩⟩⟩⟩⟩⟩⟩⟩⟩⟩⟩⟩⟩⟩⟩⟩⟩⟩⟩⟩⟩⟩ trivial ?_
          · intro X rest g
            refine G.move rfl rfl rfl rfl ?_
            exact g
          · intro X rest g
            refine G.move rfl rfl rfl rfl ?_
            exact g
          · intro X rest g
            refine G.nilCheck rfl rfl rfl rfl ?_
            exact g
          · intro X rest g
            refine G.field (off' := 0) rfl rfl rfl rfl Try.underlying59 rfl sz3 rfl rfl ?_
            exact g
          · intro X rest g
            refine G.loadI (y := a1.from_) rfl rfl rfl rfl ty3 (fun w hs => Rd.bk (R_armoireref06_Map.L_from_ _) hs (j := 3) rfl) ?_
            exact g
          · intro X rest g
            refine G.move rfl rfl rfl rfl ?_
            exact g
          · intro X rest g
            refine G.nilCheck rfl rfl rfl rfl ?_
            exact g
          · intro X rest g
            refine G.field (off' := 1) rfl rfl rfl rfl Try.underlying59 rfl sz28 rfl rfl ?_
            exact g
          · intro X rest g
            refine G.loadH (B := A1) (m := a1.k.length) (c := n1) rfl rfl rfl rfl ty28r (fun w hs => Rd.bk (R_armoireref06_Map.L_k _) hs (j := 3) rfl) ?_
            exact g
          · intro X rest g
            refine G.len (m := a1.k.length) rfl rfl rfl rfl Try.underlying28 ?_
            exact g
          · intro X rest g
            refine G.bin (m := a1.from_) (n := (a1.k.length : Int)) (r := wi64 (a1.from_ + (a1.k.length : Int))) rfl rfl rfl rfl rfl rfl rfl ?_
            exact g
          · intro X rest g
            refine G.bin (m := wi64 (a1.from_ + (a1.k.length : Int))) (n := 2) (r := wi64 ((wi64 (a1.from_ + (a1.k.length : Int))) + 2)) rfl rfl rfl rfl rfl rfl rfl ?_
            exact g
          · intro X rest g
            refine G.cmp (x5 < (wi64 ((wi64 (a1.from_ + (a1.k.length : Int))) + 2))) rfl rfl rfl rfl rfl rfl Iff.rfl ?_
            exact g
          · intro X rest g
            refine G.move rfl rfl rfl rfl ?_
            refine G.same (d := 26) (v := .bool false) rfl (by simp [k327]) ?_
            refine G.shadow ?_
            exact g
          · intro X rest g
            refine G.unwanted rfl rfl rfl rfl ?_
            exact g
          · intro X rest g
            refine G.unwanted rfl rfl rfl rfl ?_
            exact g
          · intro X rest g
            refine G.unwanted rfl rfl rfl rfl ?_
            exact g
          · intro X rest g
            refine G.unwanted rfl rfl rfl rfl ?_
            exact g
          · intro X rest g
            refine G.unwanted rfl rfl rfl rfl ?_
            exact g
          · intro X rest g
            refine G.unwanted rfl rfl rfl rfl ?_
            exact g
          · intro X rest g
            refine G.unwanted rfl rfl rfl rfl ?_
            exact g
          · intro X rest g
            refine G.pickF rfl rfl rfl rfl rfl ?_
            exact g
          · intro A L hlen hp h0
            refine G.lessSub (B := [(0, .pointer (some ⟨g0, 0, none⟩)), (1, .pointer (some ⟨g1, 0, none⟩)), (5, .int .i64 x5), (27, undef), (28, undef), (29, undef), (30, undef), (31, undef), (32, undef), (33, undef), (34, .bool false)]) (hp.fin hlen h0 (src := [.base 0, .base 1, .base 5, .op 14, .op 15, .op 16, .op 17, .op 18, .op 19, .op 20, .op 21]) rfl) ?_
            refine G.regionEnd ?_
            refine G.condF rfl ?_
            refine G.exit rfl ?_
            refine G.seq ?_
            refine G.region (l := [0, 1, 2, 3, 4, 5, 6, 7, 8, 9, 10, 11, 12, 13, 14, 15, 16, 17, 18, 19]) rfl ?_
            refine G.move rfl rfl rfl rfl ?_
            refine G.frontAt 1 rfl ?_
            obtain ⟨t558, e559, h⟩ := bindS h
            refine G.callS rfl rfl rfl rfl call13 (free_Map_Free.ok a0 g0 A0 n0 e559) ?_
            rintro v560 L561 ⟨B562, c563, rfl, rfl⟩
            refine G.move rfl rfl rfl rfl ?_
            refine G.frontAt 3 rfl ?_
            refine G.frontAt 4 rfl ?_
            obtain ⟨t565, e566, h⟩ := bindS h
            refine G.callS rfl rfl rfl rfl call31 (armoireref06_Map_All.ok a1 g1 A1 n1 0 e566) ?_
            rintro v567 L568 ⟨B569, c570, rfl, rfl⟩
            refine G.frontAt 2 rfl ?_
            refine G.frontAt 5 rfl ?_
            obtain ⟨t572, e573, h⟩ := bindS h
            refine G.callS rfl rfl rfl rfl call30 (armoirelaw06_list.ok t558 B562 c563 t565 B569 c570 e573) ?_
            rintro v574 L575 ⟨rfl, rfl⟩
            refine G.move rfl rfl rfl rfl ?_
            refine G.splitB (d := 57) rfl (fun k649 => ?_) (fun k649 => ?_)
            · replace h := ifT h k649
              refine G.move rfl rfl rfl rfl ?_
              refine G.frontAt 5 rfl ?_
              refine G.frontAt 5 rfl ?_
              obtain ⟨t594, e595, h⟩ := bindS h
              refine G.callS rfl rfl rfl rfl call16 (free_Map_Taken.ok a0 g0 A0 n0 e595) ?_
              rintro v596 L597 ⟨B598, c599, rfl, rfl⟩
              refine G.move rfl rfl rfl rfl ?_
              refine G.frontAt 6 rfl ?_
              refine G.frontAt 6 rfl ?_
              obtain ⟨t601, e602, h⟩ := bindS h
              refine G.callS rfl rfl rfl rfl call31 (armoireref06_Map_All.ok a1 g1 A1 n1 1 e602) ?_
              rintro v603 L604 ⟨B605, c606, rfl, rfl⟩
              refine G.frontAt 2 rfl ?_
              refine G.frontAt 5 rfl ?_
              obtain ⟨t608, e609, h⟩ := bindS h
              refine G.callS rfl rfl rfl rfl call30 (armoirelaw06_list.ok t594 B598 c599 t601 B605 c606 e609) ?_
              rintro v610 L611 ⟨rfl, rfl⟩
              refine G.pickT rfl rfl rfl rfl rfl ?_
              refine G.move rfl rfl rfl rfl ?_
              refine G.splitB (d := 64) rfl (fun k648 => ?_) (fun k648 => ?_)
              · replace h := ifT h k648
                refine G.move rfl rfl rfl rfl ?_
                refine G.frontAt 5 rfl ?_
                refine G.frontAt 5 rfl ?_
                obtain ⟨t630, e631, h⟩ := bindS h
                refine G.callS rfl rfl rfl rfl call9 (free_Map_Waiting.ok a0 g0 A0 n0 e631) ?_
                rintro v632 L633 ⟨B634, c635, rfl, rfl⟩
                refine G.move rfl rfl rfl rfl ?_
                refine G.frontAt 6 rfl ?_
                refine G.frontAt 6 rfl ?_
                obtain ⟨t637, e638, h⟩ := bindS h
                refine G.callS rfl rfl rfl rfl call31 (armoireref06_Map_All.ok a1 g1 A1 n1 2 e638) ?_
                rintro v639 L640 ⟨B641, c642, rfl, rfl⟩
                refine G.frontAt 2 rfl ?_
                refine G.frontAt 5 rfl ?_
                obtain ⟨t644, e645, h⟩ := bindS h
                refine G.callS rfl rfl rfl rfl call30 (armoirelaw06_list.ok t630 B634 c635 t637 B641 c642 e645) ?_
                rintro v646 L647 ⟨rfl, rfl⟩
                refine G.pickT rfl rfl rfl rfl rfl ?_
                refine G.assign rfl rfl rfl rfl ?_
                refine G.regionEnd ?_
                refine G.drop ?_
                refine G.drop ?_
                refine G.frontAt 4 rfl ?_
                refine G.drop ?_
                refine G.frontAt 4 rfl ?_
                refine G.drop ?_
                refine G.frontAt 4 rfl ?_
                refine G.drop ?_
                refine G.frontAt 4 rfl ?_
                refine G.drop ?_
                refine G.frontAt 1 rfl ?_
                refine G.frontAt 1 rfl ?_
                refine G.frontAt 3 rfl ?_
                refine G.frontAt 3 rfl ?_
                obtain rfl := Option.some.inj h
                exact G.ret1 Try.func21 rfl rfl (fun w hs => ⟨_, _, rfl, ⟨rfl, rfl⟩, hs⟩)
              · replace h := ifFB h k648
                refine G.unwanted rfl rfl rfl rfl ?_
                refine G.unwanted rfl rfl rfl rfl ?_
                refine G.unwanted rfl rfl rfl rfl ?_
                refine G.unwanted rfl rfl rfl rfl ?_
                refine G.unwanted rfl rfl rfl rfl ?_
                refine G.pickF rfl rfl rfl rfl rfl ?_
                refine G.assign rfl rfl rfl rfl ?_
                refine G.regionEnd ?_
                refine G.drop ?_
                refine G.drop ?_
                refine G.frontAt 4 rfl ?_
                refine G.drop ?_
                refine G.frontAt 4 rfl ?_
                refine G.drop ?_
                refine G.frontAt 1 rfl ?_
                refine G.frontAt 1 rfl ?_
                refine G.frontAt 3 rfl ?_
                refine G.frontAt 3 rfl ?_
                obtain rfl := Option.some.inj h
                exact G.ret1 Try.func21 rfl rfl (fun w hs => ⟨_, _, rfl, ⟨rfl, rfl⟩, hs⟩)
            · replace h := ifFB h k649
              refine G.unwanted rfl rfl rfl rfl ?_
              refine G.unwanted rfl rfl rfl rfl ?_
              refine G.unwanted rfl rfl rfl rfl ?_
              refine G.unwanted rfl rfl rfl rfl ?_
              refine G.unwanted rfl rfl rfl rfl ?_
              refine G.pickF rfl rfl rfl rfl rfl ?_
              refine G.move rfl rfl rfl rfl ?_
              refine G.unwanted rfl rfl rfl rfl ?_
              refine G.unwanted rfl rfl rfl rfl ?_
              refine G.unwanted rfl rfl rfl rfl ?_
              refine G.unwanted rfl rfl rfl rfl ?_
              refine G.unwanted rfl rfl rfl rfl ?_
              refine G.pickF rfl rfl rfl rfl rfl ?_
              refine G.assign rfl rfl rfl rfl ?_
              refine G.regionEnd ?_
              refine G.drop ?_
              refine G.drop ?_
              refine G.frontAt 1 rfl ?_
              refine G.frontAt 1 rfl ?_
              refine G.frontAt 3 rfl ?_
              refine G.frontAt 3 rfl ?_
              obtain rfl := Option.some.inj h
              exact G.ret1 Try.func21 rfl rfl (fun w hs => ⟨_, _, rfl, ⟨rfl, rfl⟩, hs⟩)
        intro l hl
        exact P654 22 (List.replicate 22 false) _ l rfl (Reg.Phi.init 22 ⟨rfl, rfl, rfl, trivial⟩) (left_rep 22) hl
  intro J655
  refine G.frontAt 2 rfl ?_
  refine G.frontAt 3 rfl ?_
  refine G.frontAt 2 rfl ?_
  refine G.frontAt 3 rfl ?_
  refine G.less ?_ (J655 FUEL  (wi64 (a1.from_ - 2)) h)
  exact ⟨rfl, rfl, rfl, trivial⟩
set_option maxRecDepth 20000 in
theorem armoireref06_Map_TakeRun.ok {O : World} {H : PH} {Fr : List Res} (a0 : S_armoireref06_Map) (g0 : Nat) (A0 : Option Addr) (n0 : Nat) (a1 : Int) {r : Int × Int × S_armoireref06_Map} (h : armoireref06_Map_TakeRun.f a0 a1 = some r) :
    CtrS Try.prog 18 [.pointer (some ⟨g0, 0, none⟩), .int .i64 a1] O H (BK 59 K_R_armoireref06_Map g0 (R_armoireref06_Map.mk a0.from_ (A0, a0.k.length, n0)) :: OS 3 (Kd.int .i64) A0 n0 a0.k :: Fr) (fun v L' => v = .tuple #[.int .i64 r.1, .int .i64 r.2.1] ∧ BK 59 K_R_armoireref06_Map g0 (R_armoireref06_Map.mk r.2.2.from_ (A0, r.2.2.k.length, n0)) :: OS 3 (Kd.int .i64) A0 n0 r.2.2.k :: Fr = L') := by
  refine CtrS.start (n := 64) Try.func18 rfl Try.ntmps18 rfl rfl ?_
  unfold armoireref06_Map_TakeRun.f at h
  refine G.seq ?_
  refine G.region (l := [0, 1]) rfl ?_
  refine G.assign rfl rfl rfl rfl ?_
  refine G.assign rfl rfl rfl rfl ?_
  refine G.regionEnd ?_
  refine G.seq ?_
  refine G.seq ?_
  refine G.region (l := [0, 1]) rfl ?_
  refine G.move rfl rfl rfl rfl ?_
  refine G.cmp (a1 < 1) rfl rfl rfl rfl rfl rfl Iff.rfl ?_
  refine G.regionEnd ?_
  refine G.condP rfl (fun k182 => ?_) (fun k182 => ?_)
  · replace h := ifT h k182
    refine G.seq ?_
    refine G.region (l := [0, 1]) rfl ?_
    refine G.assign rfl rfl rfl rfl ?_
    refine G.assign rfl rfl rfl rfl ?_
    refine G.regionEnd ?_
    refine G.frontAt 1 rfl ?_
    refine G.frontAt 1 rfl ?_
    obtain rfl := Option.some.inj h
    exact G.retN (rs := [.tmp 4, .tmp 5]) Try.func18 rfl rfl rfl (fun w hs => ⟨_, _, rfl, ⟨rfl, rfl⟩, hs⟩)
  · replace h := ifF h k182
    refine G.skip ?_
    refine G.seq ?_
    refine G.seq ?_
    refine G.region (l := [0]) rfl ?_
    refine G.assign rfl rfl rfl rfl ?_
    refine G.regionEnd ?_
    refine G.block ?_
    refine G.loop (fun GG K => ∀ (d92 : Nat) (x3 : Int), armoireref06_Map_TakeRun.l0 a0 a1 d92 x3 = some r → GG H [(0, .pointer (some ⟨g0, 0, none⟩)), (1, .int .i64 a1), (6, .int .i64 x3)] (OS 3 (Kd.int .i64) A0 n0 a0.k :: BK 59 K_R_armoireref06_Map g0 (R_armoireref06_Map.mk a0.from_ (A0, a0.k.length, n0)) :: Fr) K) ?_ ?_
    · intro d92
      induction d92 with
      | zero => intro x3 h; rw [armoireref06_Map_TakeRun.l0] at h; cases h
      | succ d92 ih91 =>
        intro x3 h
        rw [armoireref06_Map_TakeRun.l0] at h
        refine G.seq ?_
        refine G.seq ?_
        refine G.region (l := [0, 1, 2, 3, 4, 5, 6, 7, 8]) rfl ?_
        refine G.move rfl rfl rfl rfl ?_
        refine G.move rfl rfl rfl rfl ?_
        refine G.nilCheck rfl rfl rfl rfl ?_
        refine G.field (off' := 1) rfl rfl rfl rfl Try.underlying59 rfl sz28 rfl rfl ?_
        refine G.loadH (B := A0) (m := a0.k.length) (c := n0) rfl rfl rfl rfl ty28r (fun w hs => Rd.bk (R_armoireref06_Map.L_k _) hs (j := 1) rfl) ?_
        refine G.len (m := a0.k.length) rfl rfl rfl rfl Try.underlying28 ?_
        refine G.move rfl rfl rfl rfl ?_
        refine G.bin (m := (a0.k.length : Int)) (n := x3) (r := wi64 ((a0.k.length : Int) - x3)) rfl rfl rfl rfl rfl rfl rfl ?_
        refine G.cmp (a1 ≤ (wi64 ((a0.k.length : Int) - x3))) rfl rfl rfl rfl rfl rfl Iff.rfl ?_
        refine G.regionEnd ?_
        refine G.condP rfl (fun k180 => ?_) (fun k180 => ?_)
        · replace h := ifT h k180
          refine G.skip ?_
          refine G.seq ?_
          refine G.block ?_
          refine G.seq ?_
          refine G.region (l := [0]) rfl ?_
          refine G.assign rfl rfl rfl rfl ?_
          refine G.regionEnd ?_
          refine G.seq ?_
          refine G.seq ?_
          refine G.region (l := [0, 1]) rfl ?_
          refine G.move rfl rfl rfl rfl ?_
          refine G.assign rfl rfl rfl rfl ?_
          refine G.regionEnd ?_
          refine G.block ?_
          refine G.loop (fun GG K => ∀ (d137 : Nat) (b94 : Bool) (x95 : Int), armoireref06_Map_TakeRun.l1 a0 a1 x3 (armoireref06_Map_TakeRun.l0 a0 a1 d92) d137 b94 x95 = some r → GG H [(0, .pointer (some ⟨g0, 0, none⟩)), (1, .int .i64 a1), (6, .int .i64 x3), (7, .bool b94), (8, .int .i64 x95)] (OS 3 (Kd.int .i64) A0 n0 a0.k :: BK 59 K_R_armoireref06_Map g0 (R_armoireref06_Map.mk a0.from_ (A0, a0.k.length, n0)) :: Fr) K) ?_ ?_
          · intro d137
            induction d137 with
            | zero => intro b94 x95 h; rw [armoireref06_Map_TakeRun.l1] at h; cases h
            | succ d137 ih136 =>
              intro b94 x95 h
              rw [armoireref06_Map_TakeRun.l1] at h
              refine G.seq ?_
              refine G.seq ?_
              refine G.region (l := [0, 1, 2, 3, 4]) rfl ?_
              refine G.move rfl rfl rfl rfl ?_
              refine G.move rfl rfl rfl rfl ?_
              refine G.move rfl rfl rfl rfl ?_
              refine G.bin (m := x3) (n := a1) (r := wi64 (x3 + a1)) rfl rfl rfl rfl rfl rfl rfl ?_
              refine G.cmp (x95 < (wi64 (x3 + a1))) rfl rfl rfl rfl rfl rfl Iff.rfl ?_
              refine G.regionEnd ?_
              refine G.condP rfl (fun k178 => ?_) (fun k178 => ?_)
              · replace h := ifT h k178
                refine G.skip ?_
                refine G.seq ?_
                refine G.block ?_
                refine G.region (l := [0, 1, 2, 3, 4, 5, 6, 7, 8, 9, 10, 11]) rfl ?_
                refine G.move rfl rfl rfl rfl ?_
                refine G.move rfl rfl rfl rfl ?_
                refine G.splitB (d := 32) rfl (fun k160 => ?_) (fun k160 => ?_)
                · replace h := ifT h k160
                  refine G.move rfl rfl rfl rfl ?_
                  refine G.nilCheck rfl rfl rfl rfl ?_
                  refine G.field (off' := 1) rfl rfl rfl rfl Try.underlying59 rfl sz28 rfl rfl ?_
                  refine G.loadH (B := A0) (m := a0.k.length) (c := n0) rfl rfl rfl rfl ty28r (fun w hs => Rd.bk (R_armoireref06_Map.L_k _) hs (j := 1) rfl) ?_
                  refine G.move rfl rfl rfl rfl ?_
                  obtain ⟨k159, h⟩ := guardS h
                  have q158 : x95.toNat < a0.k.length := by omega
                  refine G.indexO (xs := a0.k) (j := x95) (off := x95.toNat * 1) rfl rfl rfl rfl rfl el28 (r := 0) rfl (by simp) k159 rfl ?_
                  refine G.loadI (y := a0.k.getD x95.toNat 0) rfl rfl rfl rfl ty3 (fun w hs => Rd.osG q158 (Lens.id _ _) hs (j := 0) rfl (o := x95.toNat * 1) (by first | rfl | simp)) ?_
                  refine G.cmp ((a0.k.getD x95.toNat 0) = 0) rfl rfl rfl rfl rfl rfl Iff.rfl ?_
                  refine G.pickT rfl rfl rfl rfl rfl ?_
                  refine G.assign rfl rfl rfl rfl ?_
                  refine G.regionEnd ?_
                  refine G.inBlock ?_
                  refine G.region (l := [0, 1, 2]) rfl ?_
                  refine G.move rfl rfl rfl rfl ?_
                  refine G.bin (m := x95) (n := 1) (r := wi64 (x95 + 1)) rfl rfl rfl rfl rfl rfl rfl ?_
                  refine G.assign rfl rfl rfl rfl ?_
                  refine G.regionEnd ?_
                  refine G.round ?_
                  refine G.frontAt 1 rfl ?_
                  refine G.frontAt 1 rfl ?_
                  refine G.less ?_ (ih136  (decide ((a0.k.getD x95.toNat 0) = 0)) (wi64 (x95 + 1)) h)
                  exact ⟨rfl, rfl, rfl, rfl, rfl, trivial⟩
                · replace h := ifFB h k160
                  refine G.unwanted rfl rfl rfl rfl ?_
                  refine G.unwanted rfl rfl rfl rfl ?_
                  refine G.unwanted rfl rfl rfl rfl ?_
                  refine G.unwanted rfl rfl rfl rfl ?_
                  refine G.unwanted rfl rfl rfl rfl ?_
                  refine G.unwanted rfl rfl rfl rfl ?_
                  refine G.unwanted rfl rfl rfl rfl ?_
                  refine G.unwanted rfl rfl rfl rfl ?_
                  refine G.pickF rfl rfl rfl rfl rfl ?_
                  refine G.assign rfl rfl rfl rfl ?_
                  refine G.regionEnd ?_
                  refine G.inBlock ?_
                  refine G.region (l := [0, 1, 2]) rfl ?_
                  refine G.move rfl rfl rfl rfl ?_
                  refine G.bin (m := x95) (n := 1) (r := wi64 (x95 + 1)) rfl rfl rfl rfl rfl rfl rfl ?_
                  refine G.assign rfl rfl rfl rfl ?_
                  refine G.regionEnd ?_
                  refine G.round ?_
                  refine G.frontAt 1 rfl ?_
                  refine G.frontAt 1 rfl ?_
                  refine G.less ?_ (ih136  false (wi64 (x95 + 1)) h)
                  exact ⟨rfl, rfl, rfl, rfl, rfl, trivial⟩
              · replace h := ifF h k178
                refine G.exit rfl ?_
                refine G.seq ?_
                refine G.seq ?_
                refine G.region (l := [0, 1]) rfl ?_
                refine G.move rfl rfl rfl rfl ?_
                refine G.not rfl rfl rfl rfl rfl ?_
                refine G.regionEnd ?_
                refine G.cond rfl (fun k177 => ?_) (fun k177 => ?_)
                · replace h := ifT h k177
                  refine G.exit rfl ?_
                  refine G.region (l := [0, 1, 2]) rfl ?_
                  refine G.move rfl rfl rfl rfl ?_
                  refine G.bin (m := x3) (n := 1) (r := wi64 (x3 + 1)) rfl rfl rfl rfl rfl rfl rfl ?_
                  refine G.assign rfl rfl rfl rfl ?_
                  refine G.regionEnd ?_
                  refine G.round ?_
                  refine G.frontAt 1 rfl ?_
                  refine G.frontAt 1 rfl ?_
                  refine G.less ?_ (ih91  (wi64 (x3 + 1)) h)
                  exact ⟨rfl, rfl, rfl, trivial⟩
                · replace h := ifFB h k177
                  refine G.skip ?_
                  refine G.seq ?_
                  refine G.seq ?_
                  refine G.region (l := [0, 1]) rfl ?_
                  refine G.move rfl rfl rfl rfl ?_
                  refine G.assign rfl rfl rfl rfl ?_
                  refine G.regionEnd ?_
                  refine G.block ?_
                  refine G.loop (fun GG K => ∀ (d171 : Nat) (x165 : (List Int)) (x166 : Int), armoireref06_Map_TakeRun.l2 a0 a1 x3 d171 x165 x166 = some r → GG H [(0, .pointer (some ⟨g0, 0, none⟩)), (1, .int .i64 a1), (6, .int .i64 x3), (9, .int .i64 x166)] (OS 3 (Kd.int .i64) A0 n0 x165 :: BK 59 K_R_armoireref06_Map g0 (R_armoireref06_Map.mk a0.from_ (A0, x165.length, n0)) :: Fr) K) ?_ ?_
                  · intro d171
                    induction d171 with
                    | zero => intro x165 x166 h; rw [armoireref06_Map_TakeRun.l2] at h; cases h
                    | succ d171 ih170 =>
                      intro x165 x166 h
                      rw [armoireref06_Map_TakeRun.l2] at h
                      refine G.seq ?_
                      refine G.seq ?_
                      refine G.region (l := [0, 1, 2, 3, 4]) rfl ?_
                      refine G.move rfl rfl rfl rfl ?_
                      refine G.move rfl rfl rfl rfl ?_
                      refine G.move rfl rfl rfl rfl ?_
                      refine G.bin (m := x3) (n := a1) (r := wi64 (x3 + a1)) rfl rfl rfl rfl rfl rfl rfl ?_
                      refine G.cmp (x166 < (wi64 (x3 + a1))) rfl rfl rfl rfl rfl rfl Iff.rfl ?_
                      refine G.regionEnd ?_
                      refine G.condP rfl (fun k175 => ?_) (fun k175 => ?_)
                      · replace h := ifT h k175
                        refine G.skip ?_
                        refine G.seq ?_
                        refine G.block ?_
                        refine G.region (l := [0, 1, 2, 3, 4, 5, 6]) rfl ?_
                        refine G.move rfl rfl rfl rfl ?_
                        refine G.nilCheck rfl rfl rfl rfl ?_
                        refine G.field (off' := 1) rfl rfl rfl rfl Try.underlying59 rfl sz28 rfl rfl ?_
                        refine G.loadH (B := A0) (m := x165.length) (c := n0) rfl rfl rfl rfl ty28r (fun w hs => Rd.bk (R_armoireref06_Map.L_k _) hs (j := 1) rfl) ?_
                        refine G.move rfl rfl rfl rfl ?_
                        obtain ⟨k174, h⟩ := guardS h
                        have q173 : x166.toNat < x165.length := by omega
                        refine G.indexO (xs := x165) (j := x166) (off := x166.toNat * 1) rfl rfl rfl rfl rfl el28 (r := 0) rfl (by simp) k174 rfl ?_
                        refine G.storeO (df := (Kd.int .i64)) (y := 1) (hj := q173) (xs' := x165.set x166.toNat 1) rfl rfl rfl rfl (Lens.id _ _) (by first | rfl | simp) ⟨([.int .i64 1] : List Value), rfl, rfl⟩ sz3 rfl ?_
                        refine G.regionEnd ?_
                        refine G.inBlock ?_
                        refine G.region (l := [0, 1, 2]) rfl ?_
                        refine G.move rfl rfl rfl rfl ?_
                        refine G.bin (m := x166) (n := 1) (r := wi64 (x166 + 1)) rfl rfl rfl rfl rfl rfl rfl ?_
                        refine G.assign rfl rfl rfl rfl ?_
                        refine G.regionEnd ?_
                        refine G.round ?_
                        refine G.frontAt 1 rfl ?_
                        refine G.headEq (r' := BK 59 K_R_armoireref06_Map g0 (R_armoireref06_Map.mk a0.from_ (A0, (x165.set x166.toNat 1).length, n0))) (by first | (simp; done) | (simp; omega)) ?_
                        refine G.frontAt 1 rfl ?_
                        refine G.less ?_ (ih170  (x165.set x166.toNat 1) (wi64 (x166 + 1)) h)
                        exact ⟨rfl, rfl, rfl, rfl, trivial⟩
                      · replace h := ifF h k175
                        refine G.exit rfl ?_
                        refine G.seq ?_
                        refine G.region (l := [0, 1, 2, 3, 4, 5, 6, 7]) rfl ?_
                        refine G.move rfl rfl rfl rfl ?_
                        refine G.nilCheck rfl rfl rfl rfl ?_
                        refine G.field (off' := 0) rfl rfl rfl rfl Try.underlying59 rfl sz3 rfl rfl ?_
                        refine G.loadI (y := a0.from_) rfl rfl rfl rfl ty3 (fun w hs => Rd.bk (R_armoireref06_Map.L_from_ _) hs (j := 1) rfl) ?_
                        refine G.move rfl rfl rfl rfl ?_
                        refine G.bin (m := a0.from_) (n := x3) (r := wi64 (a0.from_ + x3)) rfl rfl rfl rfl rfl rfl rfl ?_
                        refine G.assign rfl rfl rfl rfl ?_
                        refine G.assign rfl rfl rfl rfl ?_
                        refine G.regionEnd ?_
                        refine G.frontAt 1 rfl ?_
                        obtain rfl := Option.some.inj h
                        exact G.retN (rs := [.tmp 4, .tmp 5]) Try.func18 rfl rfl rfl (fun w hs => ⟨_, _, rfl, ⟨rfl, rfl⟩, hs⟩)
                  intro J176
                  refine G.frontAt 1 rfl ?_
                  refine G.frontAt 1 rfl ?_
                  refine G.less ?_ (J176 FUEL  a0.k x3 h)
                  exact ⟨rfl, rfl, rfl, rfl, trivial⟩
          intro J179
          refine G.frontAt 1 rfl ?_
          refine G.frontAt 1 rfl ?_
          refine G.less ?_ (J179 FUEL  true x3 h)
          exact ⟨rfl, rfl, rfl, rfl, rfl, trivial⟩
        · replace h := ifF h k180
          refine G.exit rfl ?_
          refine G.seq ?_
          refine G.region (l := [0, 1]) rfl ?_
          refine G.assign rfl rfl rfl rfl ?_
          refine G.assign rfl rfl rfl rfl ?_
          refine G.regionEnd ?_
          refine G.frontAt 1 rfl ?_
          obtain rfl := Option.some.inj h
          exact G.retN (rs := [.tmp 4, .tmp 5]) Try.func18 rfl rfl rfl (fun w hs => ⟨_, _, rfl, ⟨rfl, rfl⟩, hs⟩)
    intro J181
    refine G.frontAt 1 rfl ?_
    refine G.less ?_ (J181 FUEL  0 h)
    exact ⟨rfl, rfl, rfl, trivial⟩
set_option maxRecDepth 20000 in
theorem free_Map_Give.ok {O : World} {H : PH} {Fr : List Res} (a0 : S_free_Map) (g0 : Nat) (A0 : Option Addr) (n0 : Nat) (a1 : Int) {r : Int × S_free_Map} (h : free_Map_Give.f a0 a1 = some r) :
    CtrS Try.prog 15 [.pointer (some ⟨g0, 0, none⟩), .int .i64 a1] O H (BK 53 K_R_free_Map g0 (R_free_Map.mk a0.from_ (A0, a0.kinds.length, n0)) :: OS 54 Kd.u8 A0 n0 a0.kinds :: Fr) (fun v L' => v = .int .i64 r.1 ∧ BK 53 K_R_free_Map g0 (R_free_Map.mk r.2.from_ (A0, r.2.kinds.length, n0)) :: OS 54 Kd.u8 A0 n0 r.2.kinds :: Fr = L') := by
  refine CtrS.start (n := 8) Try.func15 rfl Try.ntmps15 rfl rfl ?_
  unfold free_Map_Give.f at h
  refine G.seq ?_
  refine G.region (l := [0]) rfl ?_
  refine G.assign rfl rfl rfl rfl ?_
  refine G.regionEnd ?_
  refine G.seq ?_
  refine G.region (l := [0, 1, 2, 3]) rfl ?_
  refine G.move rfl rfl rfl rfl ?_
  refine G.move rfl rfl rfl rfl ?_
  refine G.frontAt 1 rfl ?_
  refine G.frontAt 1 rfl ?_
  obtain ⟨t3, e4, h⟩ := bindS h
  refine G.callS rfl rfl rfl rfl call26 (free_Map_turn.ok a0 g0 A0 n0 a1 0 e4) ?_
  rintro v5 L6 ⟨rfl, rfl⟩
  refine G.assign rfl rfl rfl rfl ?_
  refine G.regionEnd ?_
  refine G.frontAt 1 rfl ?_
  refine G.frontAt 1 rfl ?_
  obtain rfl := Option.some.inj h
  exact G.ret1 Try.func15 rfl rfl (fun w hs => ⟨_, _, rfl, ⟨rfl, rfl⟩, hs⟩)
def armoireref06_Map_Turn.reg19_3 (B : List (Nat × Value)) : Reg := ⟨[[], [0], [1], [2], [], [], [5], [6], [7], [4, 8], [], [3, 9, 0, 1, 2, 3, 4, 5, 6, 7, 8, 9, 10], [11, 10, 0, 1, 2, 3, 4, 5, 6, 7, 8, 9, 10]], [some 11, some 12, some 13, some 14, some 15, some 16, some 17, some 18, some 19, some 20, some 21, some 22, none], B⟩
theorem armoireref06_Map_Turn.reg19_3_ap (B : List (Nat × Value)) : (armoireref06_Map_Turn.reg19_3 B).apart = true := rfl
set_option maxRecDepth 20000 in
theorem armoireref06_Map_Turn.ok {O : World} {H : PH} {Fr : List Res} (a0 : S_armoireref06_Map) (g0 : Nat) (A0 : Option Addr) (n0 : Nat) (a1 : Int) (a2 : Int) {r : Int × S_armoireref06_Map} (h : armoireref06_Map_Turn.f a0 a1 a2 = some r) :
    CtrS Try.prog 19 [.pointer (some ⟨g0, 0, none⟩), .int .i64 a1, .int .i64 a2] O H (BK 59 K_R_armoireref06_Map g0 (R_armoireref06_Map.mk a0.from_ (A0, a0.k.length, n0)) :: OS 3 (Kd.int .i64) A0 n0 a0.k :: Fr) (fun v L' => v = .int .i64 r.1 ∧ BK 59 K_R_armoireref06_Map g0 (R_armoireref06_Map.mk r.2.from_ (A0, r.2.k.length, n0)) :: OS 3 (Kd.int .i64) A0 n0 r.2.k :: Fr = L') := by
  refine CtrS.start (n := 23) Try.func19 rfl Try.ntmps19 rfl rfl ?_
  unfold armoireref06_Map_Turn.f at h
  refine G.seq ?_
  refine G.region (l := [0]) rfl ?_
  refine G.assign rfl rfl rfl rfl ?_
  refine G.regionEnd ?_
  refine G.seq ?_
  refine G.seq ?_
  refine G.region (l := [0, 1, 2, 3]) rfl ?_
  refine G.move rfl rfl rfl rfl ?_
  refine G.move rfl rfl rfl rfl ?_
  refine G.frontAt 1 rfl ?_
  refine G.frontAt 1 rfl ?_
  obtain ⟨t3, e4, h⟩ := bindS h
  refine G.callS rfl rfl rfl rfl call28 (armoireref06_Map_Is.ok a0 g0 A0 n0 a1 1 e4) ?_
  rintro v5 L6 ⟨rfl, rfl⟩
  refine G.not rfl rfl rfl rfl rfl ?_
  refine G.regionEnd ?_
  refine G.cond rfl (fun k15 => ?_) (fun k15 => ?_)
  · replace h := ifT h k15
    refine G.seq ?_
    refine G.region (l := [0]) rfl ?_
    refine G.assign rfl rfl rfl rfl ?_
    refine G.regionEnd ?_
    refine G.frontAt 1 rfl ?_
    refine G.frontAt 1 rfl ?_
    obtain rfl := Option.some.inj h
    exact G.ret1 Try.func19 rfl rfl (fun w hs => ⟨_, _, rfl, ⟨rfl, rfl⟩, hs⟩)
  · replace h := ifFB h k15
    refine G.skip ?_
    refine G.seq ?_
    obtain ⟨k8, h⟩ := guardS h
    have q7 : (wi64 (a1 - a0.from_)).toNat < a0.k.length := by omega
    refine G.draw [[], [0], [1], [2], [], [], [5], [6], [7], [4, 8], [], [3, 9, 0, 1, 2, 3, 4, 5, 6, 7, 8, 9, 10], [11, 10, 0, 1, 2, 3, 4, 5, 6, 7, 8, 9, 10]] 13 [0, 1, 2, 3, 4, 5, 6, 7, 8, 9, 10, 11, 12] [0, 1, 2, 3, 0, 0, 1, 2, 3, 4, 0, 5, 6] [0, 1, 2, 3, 0, 0, 1, 2, 3, 4, 0, 5, 6] rfl (by kernel_rfl) (by kernel_rfl) (by kernel_rfl) (by kernel_rfl) ?_
    intro C9 ops10 k11
    let R12 : Reg := armoireref06_Map_Turn.reg19_3 [(0, .pointer (some ⟨g0, 0, none⟩)), (1, .int .i64 a1), (2, .int .i64 a2)]
    have P14 : ∀ (m : Nat) (L : List Bool) (A : List (Nat × Value)) (l : List Nat), L.length = R12.ds.length → R12.Phi [some (.pointer (some ⟨g0, 0, none⟩)), some (.pointer (some ⟨g0, 0, none⟩)), some (.pointer (some ⟨g0, 1, none⟩)), some (.slice A0 a0.k.length n0), some (.int .i64 a1), some (.pointer (some ⟨g0, 0, none⟩)), some (.pointer (some ⟨g0, 0, none⟩)), some (.pointer (some ⟨g0, 0, none⟩)), some (.int .i64 a0.from_), some (.int .i64 (wi64 (a1 - a0.from_))), some (.int .i64 a2), some (.pointer (some (plc A0 ((wi64 (a1 - a0.from_)).toNat * 1)))), none] [0, 1, 2, 3, 4, 5, 6, 7, 8, 9, 10, 11, 12] [] L A → left L = m → Ord R12.ds m L l → G C9 H A (OS 3 (Kd.int .i64) A0 n0 (a0.k.set ((wi64 (a1 - a0.from_)).toNat) a2) :: BK 59 K_R_armoireref06_Map g0 (R_armoireref06_Map.mk a0.from_ (A0, a0.k.length, n0)) :: Fr) (.inRegion ops10 l :: k11) := by
      refine G.phase R12 [some (.pointer (some ⟨g0, 0, none⟩)), some (.pointer (some ⟨g0, 0, none⟩)), some (.pointer (some ⟨g0, 1, none⟩)), some (.slice A0 a0.k.length n0), some (.int .i64 a1), some (.pointer (some ⟨g0, 0, none⟩)), some (.pointer (some ⟨g0, 0, none⟩)), some (.pointer (some ⟨g0, 0, none⟩)), some (.int .i64 a0.from_), some (.int .i64 (wi64 (a1 - a0.from_))), some (.int .i64 a2), some (.pointer (some (plc A0 ((wi64 (a1 - a0.from_)).toNat * 1)))), none] [] [] [0, 1, 2, 3, 4, 5, 6, 7, 8, 9, 10, 11, 12] [] (armoireref06_Map_Turn.reg19_3_ap _) rfl rfl trivial trivial ?_
      · intro A L hlen hp h0
        refine G.lessSub (B := []) (hp.fin hlen h0 (src := []) rfl) ?_
        refine G.regionEnd ?_
        refine G.seq ?_
        refine G.region (l := [0]) rfl ?_
        refine G.assign rfl rfl rfl rfl ?_
        refine G.regionEnd ?_
        refine G.frontAt 1 rfl ?_
        refine G.headEq (r' := BK 59 K_R_armoireref06_Map g0 (R_armoireref06_Map.mk a0.from_ (A0, (a0.k.set ((wi64 (a1 - a0.from_)).toNat) a2).length, n0))) (by first | (simp; done) | (simp; omega)) ?_
        refine G.frontAt 1 rfl ?_
        refine G.frontAt 1 rfl ?_
        obtain rfl := Option.some.inj h
        exact G.ret1 Try.func19 rfl rfl (fun w hs => ⟨_, _, rfl, ⟨rfl, rfl⟩, hs⟩)
    have P13 : ∀ (m : Nat) (L : List Bool) (A : List (Nat × Value)) (l : List Nat), L.length = R12.ds.length → R12.Phi [some (.pointer (some ⟨g0, 0, none⟩)), some (.pointer (some ⟨g0, 0, none⟩)), some (.pointer (some ⟨g0, 1, none⟩)), some (.slice A0 a0.k.length n0), some (.int .i64 a1), some (.pointer (some ⟨g0, 0, none⟩)), some (.pointer (some ⟨g0, 0, none⟩)), some (.pointer (some ⟨g0, 0, none⟩)), some (.int .i64 a0.from_), some (.int .i64 (wi64 (a1 - a0.from_))), some (.int .i64 a2), some (.pointer (some (plc A0 ((wi64 (a1 - a0.from_)).toNat * 1)))), none] [] [12] L A → left L = m → Ord R12.ds m L l → G C9 H A (BK 59 K_R_armoireref06_Map g0 (R_armoireref06_Map.mk a0.from_ (A0, a0.k.length, n0)) :: OS 3 (Kd.int .i64) A0 n0 a0.k :: Fr) (.inRegion ops10 l :: k11) := by
      refine G.phase R12 [some (.pointer (some ⟨g0, 0, none⟩)), some (.pointer (some ⟨g0, 0, none⟩)), some (.pointer (some ⟨g0, 1, none⟩)), some (.slice A0 a0.k.length n0), some (.int .i64 a1), some (.pointer (some ⟨g0, 0, none⟩)), some (.pointer (some ⟨g0, 0, none⟩)), some (.pointer (some ⟨g0, 0, none⟩)), some (.int .i64 a0.from_), some (.int .i64 (wi64 (a1 - a0.from_))), some (.int .i64 a2), some (.pointer (some (plc A0 ((wi64 (a1 - a0.from_)).toNat * 1)))), none] [0, 1, 2, 3, 4, 5, 6, 7, 8, 9, 10, 11] [12] [] [12] (armoireref06_Map_Turn.reg19_3_ap _) rfl rfl ⟨⟨[.base 0], 11, .pointer (some ⟨g0, 0, none⟩), [(0, .pointer (some ⟨g0, 0, none⟩))], ⟨rfl, rfl, rfl, rfl, ?_⟩⟩, ⟨⟨[.op 0], 12, .pointer (some ⟨g0, 0, none⟩), [(11, .pointer (some ⟨g0, 0, none⟩))], ⟨rfl, rfl, rfl, rfl, ?_⟩⟩, ⟨⟨[.op 1], 13, .pointer (some ⟨g0, 1, none⟩), [(12, .pointer (some ⟨g0, 0, none⟩))], ⟨rfl, rfl, rfl, rfl, ?_⟩⟩, ⟨⟨[.op 2], 14, .slice A0 a0.k.length n0, [(13, .pointer (some ⟨g0, 1, none⟩))], ⟨rfl, rfl, rfl, rfl, ?_⟩⟩, ⟨⟨[.base 1], 15, .int .i64 a1, [(1, .int .i64 a1)], ⟨rfl, rfl, rfl, rfl, ?_⟩⟩, ⟨⟨[.base 0], 16, .pointer (some ⟨g0, 0, none⟩), [(0, .pointer (some ⟨g0, 0, none⟩))], ⟨rfl, rfl, rfl, rfl, ?_⟩⟩, ⟨⟨[.op 5], 17, .pointer (some ⟨g0, 0, none⟩), [(16, .pointer (some ⟨g0, 0, none⟩))], ⟨rfl, rfl, rfl, rfl, ?_⟩⟩, ⟨⟨[.op 6], 18, .pointer (some ⟨g0, 0, none⟩), [(17, .pointer (some ⟨g0, 0, none⟩))], ⟨rfl, rfl, rfl, rfl, ?_⟩⟩, ⟨⟨[.op 7], 19, .int .i64 a0.from_, [(18, .pointer (some ⟨g0, 0, none⟩))], ⟨rfl, rfl, rfl, rfl, ?_⟩⟩, ⟨⟨[.op 4, .op 8], 20, .int .i64 (wi64 (a1 - a0.from_)), [(15, .int .i64 a1), (19, .int .i64 a0.from_)], ⟨rfl, rfl, rfl, rfl, ?_⟩⟩, ⟨⟨[.base 2], 21, .int .i64 a2, [(2, .int .i64 a2)], ⟨rfl, rfl, rfl, rfl, ?_⟩⟩, ⟨⟨[.op 3, .op 9], 22, .pointer (some (plc A0 ((wi64 (a1 - a0.from_)).toNat * 1))), [(14, .slice A0 a0.k.length n0), (20, .int .i64 (wi64 (a1 - a0.from_)))], ⟨rfl, rfl, rfl, rfl, ?_⟩⟩, trivial⟩⟩⟩⟩⟩⟩⟩⟩⟩⟩⟩⟩ ⟨⟨[.op 10, .op 11], [(21, .int .i64 a2), (22, .pointer (some (plc A0 ((wi64 (a1 - a0.from_)).toNat * 1))))], ⟨rfl, rfl, ?_⟩⟩, trivial⟩ ?_
      · intro X rest g
        refine G.move rfl rfl rfl rfl ?_
        exact g
      · intro X rest g
        refine G.nilCheck rfl rfl rfl rfl ?_
        exact g
      · intro X rest g
        refine G.field (off' := 1) rfl rfl rfl rfl Try.underlying59 rfl sz28 rfl rfl ?_
        exact g
      · intro X rest g
        refine G.loadH (B := A0) (m := a0.k.length) (c := n0) rfl rfl rfl rfl ty28r (fun w hs => Rd.bk (R_armoireref06_Map.L_k _) hs (j := 0) rfl) ?_
        exact g
      · intro X rest g
        refine G.move rfl rfl rfl rfl ?_
        exact g
      · intro X rest g
        refine G.move rfl rfl rfl rfl ?_
        exact g
      · intro X rest g
        refine G.nilCheck rfl rfl rfl rfl ?_
        exact g
      · intro X rest g
        refine G.field (off' := 0) rfl rfl rfl rfl Try.underlying59 rfl sz3 rfl rfl ?_
        exact g
      · intro X rest g
        refine G.loadI (y := a0.from_) rfl rfl rfl rfl ty3 (fun w hs => Rd.bk (R_armoireref06_Map.L_from_ _) hs (j := 0) rfl) ?_
        exact g
      · intro X rest g
        refine G.bin (m := a1) (n := a0.from_) (r := wi64 (a1 - a0.from_)) rfl rfl rfl rfl rfl rfl rfl ?_
        exact g
      · intro X rest g
        refine G.move rfl rfl rfl rfl ?_
        exact g
      · intro X rest g
        refine G.indexO (xs := a0.k) (j := wi64 (a1 - a0.from_)) (off := (wi64 (a1 - a0.from_)).toNat * 1) rfl rfl rfl rfl rfl el28 (r := 1) rfl (by simp) k8 rfl ?_
        exact g
      · intro X rest L m hlen hp hil hd hs hm ho
        refine G.frontAt 1 rfl ?_
        refine G.storeO (df := (Kd.int .i64)) (y := a2) (hj := q7) (xs' := a0.k.set ((wi64 (a1 - a0.from_)).toNat) a2) rfl rfl rfl rfl (Lens.id _ _) (by first | rfl | simp) ⟨([.int .i64 a2] : List Value), rfl, rfl⟩ sz3 rfl ?_
        refine G.frontAt 1 rfl ?_
        refine G.frontAt 1 rfl ?_
        exact P14 m _ _ rest (by rw [List.length_set]; exact hlen) (hp.stepN2 1 (armoireref06_Map_Turn.reg19_3_ap _) hil hd hs (by repeat (first | exact trivial | refine And.intro rfl ?_)) rfl rfl rfl) hm ho
      · intro A L hlen hp h0
        exact (hp.notYet hlen h0 12 rfl rfl).elim
    intro l hl
    exact P13 13 (List.replicate 13 false) _ l rfl (Reg.Phi.init 13 ⟨rfl, rfl, rfl, trivial⟩) (left_rep 13) hl
set_option maxRecDepth 20000 in
theorem armoireref06_Map_Sweep.ok {O : World} {H : PH} {Fr : List Res} (a0 : S_armoireref06_Map) (g0 : Nat) (A0 : Option Addr) (n0 : Nat) (a1 : (List Int)) (A1 : Option Addr) (n1 : Nat) (F1 : SlR (Kd.int .i64) H A1 n1 a1) {r : Int × S_armoireref06_Map} (h : armoireref06_Map_Sweep.f a0 a1 = some r) :
    CtrS Try.prog 20 [.pointer (some ⟨g0, 0, none⟩), .slice A1 a1.length n1] O H (BK 59 K_R_armoireref06_Map g0 (R_armoireref06_Map.mk a0.from_ (A0, a0.k.length, n0)) :: OS 3 (Kd.int .i64) A0 n0 a0.k :: Fr) (fun v L' => v = .int .i64 r.1 ∧ BK 59 K_R_armoireref06_Map g0 (R_armoireref06_Map.mk r.2.from_ (A0, r.2.k.length, n0)) :: OS 3 (Kd.int .i64) A0 n0 r.2.k :: Fr = L') := by
  refine CtrS.start (n := 55) Try.func20 rfl Try.ntmps20 rfl rfl ?_
  unfold armoireref06_Map_Sweep.f at h
  refine G.seq ?_
  refine G.region (l := [0]) rfl ?_
  refine G.assign rfl rfl rfl rfl ?_
  refine G.regionEnd ?_
  refine G.seq ?_
  refine G.region (l := [0]) rfl ?_
  refine G.assign rfl rfl rfl rfl ?_
  refine G.regionEnd ?_
  refine G.seq ?_
  refine G.seq ?_
  refine G.region (l := [0, 1, 2, 3, 4, 5]) rfl ?_
  refine G.move rfl rfl rfl rfl ?_
  refine G.nilCheck rfl rfl rfl rfl ?_
  refine G.field (off' := 1) rfl rfl rfl rfl Try.underlying59 rfl sz28 rfl rfl ?_
  refine G.loadH (B := A0) (m := a0.k.length) (c := n0) rfl rfl rfl rfl ty28r (fun w hs => Rd.bk (R_armoireref06_Map.L_k _) hs (j := 0) rfl) ?_
  refine G.len (m := a0.k.length) rfl rfl rfl rfl Try.underlying28 ?_
  refine G.move rfl rfl rfl rfl ?_
  refine G.regionEnd ?_
  refine G.block ?_
  refine G.loop (fun GG K => ∀ (d112 : Nat) (x56 : Int) (x57 : (List Int)) (x58 : Int) (x59 : Int), armoireref06_Map_Sweep.l0 a0 a1 d112 x56 x57 x58 x59 = some r → GG H [(0, .pointer (some ⟨g0, 0, none⟩)), (1, .slice A1 a1.length n1), (5, .int .i64 x58), (14, .slice A0 x57.length n0), (15, .int .i64 (a0.k.length : Int)), (16, .int .i64 x59)] (OS 3 (Kd.int .i64) A0 n0 x57 :: BK 59 K_R_armoireref06_Map g0 (R_armoireref06_Map.mk x56 (A0, x57.length, n0)) :: Fr) K) ?_ ?_
  · intro d112
    induction d112 with
    | zero => intro x56 x57 x58 x59 h; rw [armoireref06_Map_Sweep.l0] at h; cases h
    | succ d112 ih111 =>
      intro x56 x57 x58 x59 h
      rw [armoireref06_Map_Sweep.l0] at h
      refine G.seq ?_
      refine G.region (l := [0]) rfl ?_
      refine G.cmp (x59 < (a0.k.length : Int)) rfl rfl rfl rfl rfl rfl Iff.rfl ?_
      refine G.regionEnd ?_
      refine G.seq ?_
      refine G.condP rfl (fun k164 => ?_) (fun k164 => ?_)
      · replace h := ifT h k164
        refine G.skip ?_
        refine G.seq ?_
        refine G.block ?_
        refine G.seq ?_
        refine G.region (l := [0, 1, 2, 3, 4]) rfl ?_
        refine G.move rfl rfl rfl rfl ?_
        obtain ⟨k115, h⟩ := guardS h
        have q114 : x59.toNat < x57.length := by omega
        refine G.indexO (xs := x57) (j := x59) (off := x59.toNat * 1) rfl rfl rfl rfl rfl el28 (r := 0) rfl (by simp) k115 rfl ?_
        refine G.loadI (y := x57.getD x59.toNat 0) rfl rfl rfl rfl ty3 (fun w hs => Rd.osG q114 (Lens.id _ _) hs (j := 0) rfl (o := x59.toNat * 1) (by first | rfl | simp)) ?_
        refine G.assign rfl rfl rfl rfl ?_
        refine G.assign rfl rfl rfl rfl ?_
        refine G.regionEnd ?_
        refine G.seq ?_
        refine G.region (l := [0]) rfl ?_
        refine G.assign rfl rfl rfl rfl ?_
        refine G.regionEnd ?_
        refine G.seq ?_
        refine G.seq ?_
        refine G.region (l := [0, 1, 2]) rfl ?_
        refine G.move rfl rfl rfl rfl ?_
        refine G.len (m := a1.length) rfl rfl rfl rfl Try.underlying28 ?_
        refine G.move rfl rfl rfl rfl ?_
        refine G.regionEnd ?_
        refine G.block ?_
        refine G.loop (fun GG K => ∀ (d140 : Nat) (b116 : Bool) (x117 : Int), armoireref06_Map_Sweep.l1 a1 x56 x57 x58 x59 (armoireref06_Map_Sweep.l0 a0 a1 d112) d140 b116 x117 = some r → GG H [(0, .pointer (some ⟨g0, 0, none⟩)), (1, .slice A1 a1.length n1), (5, .int .i64 x58), (6, .int .i64 x59), (7, .int .i64 (x57.getD x59.toNat 0)), (8, .bool b116), (14, .slice A0 x57.length n0), (15, .int .i64 (a0.k.length : Int)), (16, .int .i64 x59), (21, .slice A1 a1.length n1), (22, .int .i64 (a1.length : Int)), (23, .int .i64 x117)] (OS 3 (Kd.int .i64) A0 n0 x57 :: BK 59 K_R_armoireref06_Map g0 (R_armoireref06_Map.mk x56 (A0, x57.length, n0)) :: Fr) K) ?_ ?_
        · intro d140
          induction d140 with
          | zero => intro b116 x117 h; rw [armoireref06_Map_Sweep.l1] at h; cases h
          | succ d140 ih139 =>
            intro b116 x117 h
            rw [armoireref06_Map_Sweep.l1] at h
            refine G.seq ?_
            refine G.region (l := [0]) rfl ?_
            refine G.cmp (x117 < (a1.length : Int)) rfl rfl rfl rfl rfl rfl Iff.rfl ?_
            refine G.regionEnd ?_
            refine G.seq ?_
            refine G.condP rfl (fun k162 => ?_) (fun k162 => ?_)
            · replace h := ifT h k162
              refine G.skip ?_
              refine G.seq ?_
              refine G.block ?_
              refine G.seq ?_
              refine G.region (l := [0, 1, 2]) rfl ?_
              obtain ⟨k152, h⟩ := guardS h
              refine G.indexR (xs := a1) (j := x117) 0 rfl rfl rfl rfl rfl el28 F1 k152 ?_
              intro a150 f151
              refine G.loadI (y := a1.getD x117.toNat 0) rfl rfl rfl rfl ty3 (fun w hs => Rd.ro f151 hs) ?_
              refine G.assign rfl rfl rfl rfl ?_
              refine G.regionEnd ?_
              refine G.region (l := [0, 1, 2, 3, 4, 5, 6, 7, 8, 9, 10, 11]) rfl ?_
              refine G.move rfl rfl rfl rfl ?_
              refine G.move rfl rfl rfl rfl ?_
              refine G.splitB (d := 28) rfl (fun k153 => ?_) (fun k153 => ?_)
              · replace h := ifT h k153
                refine G.unwanted rfl rfl rfl rfl ?_
                refine G.unwanted rfl rfl rfl rfl ?_
                refine G.unwanted rfl rfl rfl rfl ?_
                refine G.unwanted rfl rfl rfl rfl ?_
                refine G.unwanted rfl rfl rfl rfl ?_
                refine G.unwanted rfl rfl rfl rfl ?_
                refine G.unwanted rfl rfl rfl rfl ?_
                refine G.unwanted rfl rfl rfl rfl ?_
                refine G.pickT rfl rfl rfl rfl rfl ?_
                refine G.assign rfl rfl rfl rfl ?_
                refine G.regionEnd ?_
                refine G.inBlock ?_
                refine G.region (l := [0, 1]) rfl ?_
                refine G.bin (m := x117) (n := 1) (r := wi64 (x117 + 1)) rfl rfl rfl rfl rfl rfl rfl ?_
                refine G.move rfl rfl rfl rfl ?_
                refine G.regionEnd ?_
                refine G.round ?_
                refine G.frontAt 1 rfl ?_
                refine G.frontAt 1 rfl ?_
                refine G.less ?_ (ih139  true (wi64 (x117 + 1)) h)
                exact ⟨rfl, rfl, rfl, rfl, rfl, rfl, rfl, rfl, rfl, rfl, rfl, rfl, trivial⟩
              · replace h := ifFB h k153
                refine G.move rfl rfl rfl rfl ?_
                refine G.move rfl rfl rfl rfl ?_
                refine G.nilCheck rfl rfl rfl rfl ?_
                refine G.field (off' := 0) rfl rfl rfl rfl Try.underlying59 rfl sz3 rfl rfl ?_
                refine G.loadI (y := x56) rfl rfl rfl rfl ty3 (fun w hs => Rd.bk (R_armoireref06_Map.L_from_ _) hs (j := 1) rfl) ?_
                refine G.move rfl rfl rfl rfl ?_
                refine G.bin (m := x56) (n := x59) (r := wi64 (x56 + x59)) rfl rfl rfl rfl rfl rfl rfl ?_
                refine G.cmp ((a1.getD x117.toNat 0) = (wi64 (x56 + x59))) rfl rfl rfl rfl rfl rfl Iff.rfl ?_
                refine G.pickF rfl rfl rfl rfl rfl ?_
                refine G.assign rfl rfl rfl rfl ?_
                refine G.regionEnd ?_
                refine G.inBlock ?_
                refine G.region (l := [0, 1]) rfl ?_
                refine G.bin (m := x117) (n := 1) (r := wi64 (x117 + 1)) rfl rfl rfl rfl rfl rfl rfl ?_
                refine G.move rfl rfl rfl rfl ?_
                refine G.regionEnd ?_
                refine G.round ?_
                refine G.frontAt 1 rfl ?_
                refine G.frontAt 1 rfl ?_
                refine G.less ?_ (ih139  (decide ((a1.getD x117.toNat 0) = (wi64 (x56 + x59)))) (wi64 (x117 + 1)) h)
                exact ⟨rfl, rfl, rfl, rfl, rfl, rfl, rfl, rfl, rfl, rfl, rfl, rfl, trivial⟩
            · replace h := ifF h k162
              refine G.exit rfl ?_
              refine G.seq ?_
              refine G.region (l := [0, 1, 2, 3, 4, 5]) rfl ?_
              refine G.move rfl rfl rfl rfl ?_
              refine G.cmp ((x57.getD x59.toNat 0) = 2) rfl rfl rfl rfl rfl rfl Iff.rfl ?_
              refine G.move rfl rfl rfl rfl ?_
              refine G.splitP (d := 41) rfl (fun k161 => ?_) (fun k161 => ?_)
              · replace h := ifT h k161
                refine G.move rfl rfl rfl rfl ?_
                refine G.not rfl rfl rfl rfl rfl ?_
                refine G.pickT rfl rfl rfl rfl rfl ?_
                refine G.regionEnd ?_
                refine G.cond rfl (fun k160 => ?_) (fun k160 => ?_)
                · replace h := ifT h k160
                  refine G.seq ?_
                  refine G.region (l := [0, 1, 2, 3, 4, 5, 6]) rfl ?_
                  refine G.move rfl rfl rfl rfl ?_
                  refine G.nilCheck rfl rfl rfl rfl ?_
                  refine G.field (off' := 1) rfl rfl rfl rfl Try.underlying59 rfl sz28 rfl rfl ?_
                  refine G.loadH (B := A0) (m := x57.length) (c := n0) rfl rfl rfl rfl ty28r (fun w hs => Rd.bk (R_armoireref06_Map.L_k _) hs (j := 1) rfl) ?_
                  refine G.move rfl rfl rfl rfl ?_
                  obtain ⟨k159, h⟩ := guardS h
                  have q158 : x59.toNat < x57.length := by omega
                  refine G.indexO (xs := x57) (j := x59) (off := x59.toNat * 1) rfl rfl rfl rfl rfl el28 (r := 0) rfl (by simp) k159 rfl ?_
                  refine G.storeO (df := (Kd.int .i64)) (y := 0) (hj := q158) (xs' := x57.set x59.toNat 0) rfl rfl rfl rfl (Lens.id _ _) (by first | rfl | simp) ⟨([.int .i64 0] : List Value), rfl, rfl⟩ sz3 rfl ?_
                  refine G.regionEnd ?_
                  refine G.region (l := [0, 1, 2]) rfl ?_
                  refine G.move rfl rfl rfl rfl ?_
                  refine G.bin (m := x58) (n := 1) (r := wi64 (x58 + 1)) rfl rfl rfl rfl rfl rfl rfl ?_
                  refine G.assign rfl rfl rfl rfl ?_
                  refine G.regionEnd ?_
                  refine G.inBlock ?_
                  refine G.region (l := [0, 1]) rfl ?_
                  refine G.bin (m := x59) (n := 1) (r := wi64 (x59 + 1)) rfl rfl rfl rfl rfl rfl rfl ?_
                  refine G.move rfl rfl rfl rfl ?_
                  refine G.regionEnd ?_
                  refine G.round ?_
                  refine G.same (d := 14) (v := .slice A0 ((x57.set x59.toNat 0).length) n0) rfl (by first | (simp; done) | (simp; omega)) ?_
                  refine G.frontAt 1 rfl ?_
                  refine G.headEq (r' := BK 59 K_R_armoireref06_Map g0 (R_armoireref06_Map.mk x56 (A0, (x57.set x59.toNat 0).length, n0))) (by first | (simp; done) | (simp; omega)) ?_
                  refine G.frontAt 1 rfl ?_
                  refine G.less ?_ (ih111  x56 (x57.set x59.toNat 0) (wi64 (x58 + 1)) (wi64 (x59 + 1)) h)
                  exact ⟨rfl, rfl, rfl, rfl, rfl, rfl, trivial⟩
                · replace h := ifFB h k160
                  refine G.skip ?_
                  refine G.inBlock ?_
                  refine G.region (l := [0, 1]) rfl ?_
                  refine G.bin (m := x59) (n := 1) (r := wi64 (x59 + 1)) rfl rfl rfl rfl rfl rfl rfl ?_
                  refine G.move rfl rfl rfl rfl ?_
                  refine G.regionEnd ?_
                  refine G.round ?_
                  refine G.frontAt 1 rfl ?_
                  refine G.frontAt 1 rfl ?_
                  refine G.less ?_ (ih111  x56 x57 x58 (wi64 (x59 + 1)) h)
                  exact ⟨rfl, rfl, rfl, rfl, rfl, rfl, trivial⟩
              · replace h := ifF h k161
                refine G.unwanted rfl rfl rfl rfl ?_
                refine G.unwanted rfl rfl rfl rfl ?_
                refine G.pickF rfl rfl rfl rfl rfl ?_
                refine G.regionEnd ?_
                refine G.condF rfl ?_
                refine G.skip ?_
                refine G.inBlock ?_
                refine G.region (l := [0, 1]) rfl ?_
                refine G.bin (m := x59) (n := 1) (r := wi64 (x59 + 1)) rfl rfl rfl rfl rfl rfl rfl ?_
                refine G.move rfl rfl rfl rfl ?_
                refine G.regionEnd ?_
                refine G.round ?_
                refine G.frontAt 1 rfl ?_
                refine G.frontAt 1 rfl ?_
                refine G.less ?_ (ih111  x56 x57 x58 (wi64 (x59 + 1)) h)
                exact ⟨rfl, rfl, rfl, rfl, rfl, rfl, trivial⟩
        intro J163
        refine G.frontAt 1 rfl ?_
        refine G.frontAt 1 rfl ?_
        refine G.less ?_ (J163 FUEL  false 0 h)
        exact ⟨rfl, rfl, rfl, rfl, rfl, rfl, rfl, rfl, rfl, rfl, rfl, rfl, trivial⟩
      · replace h := ifF h k164
        refine G.exit rfl ?_
        refine G.seq ?_
        refine G.region (l := [0, 1]) rfl ?_
        refine G.move rfl rfl rfl rfl ?_
        refine G.assign rfl rfl rfl rfl ?_
        refine G.regionEnd ?_
        refine G.frontAt 1 rfl ?_
        obtain rfl := Option.some.inj h
        exact G.ret1 Try.func20 rfl rfl (fun w hs => ⟨_, _, rfl, ⟨rfl, rfl⟩, hs⟩)
  intro J165
  refine G.frontAt 1 rfl ?_
  refine G.less ?_ (J165 FUEL  a0.from_ a0.k 0 0 h)
  exact ⟨rfl, rfl, rfl, rfl, rfl, rfl, trivial⟩
set_option maxRecDepth 20000 in
theorem slices_Clone_Lfree_kind_free_kind.ok {O : World} {H : PH} {Fr : List Res} (a0 : (List UInt8)) (A0 : Option Addr) (n0 : Nat) (F0 : SlR Kd.u8 H A0 n0 a0) {r : (List UInt8)} (h : slices_Clone_Lfree_kind_free_kind.f a0 = some r) :
    CtrS Try.prog 32 [.slice A0 a0.length n0] O H (Fr) (fun v L' => ∃ (Ar0 : Option Addr) (nr0 : Nat), v = .slice Ar0 r.length nr0 ∧ OS 54 Kd.u8 Ar0 nr0 r :: Fr = L') := by
  refine CtrS.start (n := 8) Try.func32 rfl Try.ntmps32 rfl rfl ?_
  unfold slices_Clone_Lfree_kind_free_kind.f at h
  refine G.seq ?_
  refine G.region (l := [0]) rfl ?_
  refine G.assign rfl rfl rfl rfl ?_
  refine G.regionEnd ?_
  refine G.seq ?_
  refine G.seq ?_
  refine G.region (l := [0, 1]) rfl ?_
  refine G.move rfl rfl rfl rfl ?_
  refine G.eqNil rfl rfl rfl rfl rfl Try.underlying51 ?_
  refine G.regionEnd ?_
  refine G.cond rfl (fun k1 => ?_) (fun k1 => ?_)
  · have hx2 : a0 = [] := SlR.nil_of F0 k1
    replace h : (some ([] : List UInt8)) = some r := by
      first | (rw [hx2] at h; simpa using h) | (simp only [hx2] at h ⊢; simpa using h)
    refine G.seq ?_
    refine G.region (l := [0]) rfl ?_
    refine G.assign rfl rfl rfl rfl ?_
    refine G.regionEnd ?_
    refine G.osNil 54 Kd.u8 ?_
    refine G.same (d := 2) (v := .slice none (([] : List UInt8).length) 0) rfl (by first | (simp; done) | (simp; omega)) ?_
    obtain rfl := Option.some.inj h
    exact G.ret1 Try.func32 rfl rfl (fun w hs => ⟨_, _, rfl, ⟨none, 0, rfl, rfl⟩, hs⟩)
  · refine G.skip ?_
    refine G.seq ?_
    refine G.region (l := [0, 1, 2, 3]) rfl ?_
    refine G.buildSlice0 (df := Kd.u8) rfl rfl rfl el51 ?_
    intro B4
    refine G.move rfl rfl rfl rfl ?_
    obtain ⟨k9, h⟩ := guardS h
    refine G.append (df := Kd.u8) (xs := ([] : List UInt8)) (ys := a0) (z0 := 0) (z := .int .u8 0) (cz := ([u8V 0] : List Value)) rfl rfl rfl rfl (by simp) rfl el51 Try.underlying51 rfl (by kernel_rfl) rfl (rfl) (fun w hs => SrcR.ro F0 hs) ⟨by omega, by omega⟩ ?_
    intro B6 c7
    refine G.assign rfl rfl rfl rfl ?_
    refine G.regionEnd ?_
    obtain rfl := Option.some.inj h
    exact G.ret1 Try.func32 rfl rfl (fun w hs => ⟨_, _, rfl, ⟨B6, c7, rfl, rfl⟩, hs⟩)
def free_Map_Clone.reg22_1 (B : List (Nat × Value)) : Reg := ⟨[[], [0], [1], [2], [], [4], [5], [6], [7], [3, 8], [9], [10, 8, 0, 1, 2, 3, 4, 5, 6, 7, 8, 9, 10]], [some 3, some 4, some 5, some 6, some 7, some 8, some 9, some 10, some 11, some 12, some 13, some 2], B⟩
theorem free_Map_Clone.reg22_1_ap (B : List (Nat × Value)) : (free_Map_Clone.reg22_1 B).apart = true := rfl
set_option maxRecDepth 20000 in
theorem free_Map_Clone.ok {O : World} {H : PH} {Fr : List Res} (a0 : S_free_Map) (g0 : Nat) (A0 : Option Addr) (n0 : Nat) {r : S_free_Map} (h : free_Map_Clone.f a0 = some r) :
    CtrS Try.prog 22 [.pointer (some ⟨g0, 0, none⟩)] O H (BK 53 K_R_free_Map g0 (R_free_Map.mk a0.from_ (A0, a0.kinds.length, n0)) :: OS 54 Kd.u8 A0 n0 a0.kinds :: Fr) (fun v L' => ∃ (gr0 : Nat) (Ar0 : Option Addr) (nr0 : Nat), v = .pointer (some ⟨gr0, 0, none⟩) ∧ BK 53 K_R_free_Map g0 (R_free_Map.mk a0.from_ (A0, a0.kinds.length, n0)) :: OS 54 Kd.u8 A0 n0 a0.kinds :: BK 53 K_R_free_Map gr0 (R_free_Map.mk r.from_ (Ar0, r.kinds.length, nr0)) :: OS 54 Kd.u8 Ar0 nr0 r.kinds :: Fr = L') := by
  refine CtrS.start (n := 14) Try.func22 rfl Try.ntmps22 rfl rfl ?_
  unfold free_Map_Clone.f at h
  refine G.seq ?_
  refine G.region (l := [0]) rfl ?_
  refine G.assign rfl rfl rfl rfl ?_
  refine G.regionEnd ?_
  refine G.seq ?_
  obtain ⟨t3, e4, h⟩ := bindS h
  refine G.draw [[], [0], [1], [2], [], [4], [5], [6], [7], [3, 8], [9], [10, 8, 0, 1, 2, 3, 4, 5, 6, 7, 8, 9, 10]] 12 [0, 1, 2, 3, 4, 5, 6, 7, 8, 9, 10, 11] [0, 1, 2, 3, 0, 1, 2, 3, 4, 5, 6, 7] [0, 1, 2, 3, 0, 1, 2, 3, 4, 5, 6, 7] rfl (by kernel_rfl) (by kernel_rfl) (by kernel_rfl) (by kernel_rfl) ?_
  intro C12 ops13 k14
  let R15 : Reg := free_Map_Clone.reg22_1 [(0, .pointer (some ⟨g0, 0, none⟩)), (2, .pointer none)]
  have P18 : ∀ (B7 : Option Addr) (c8 : Nat) (g10 : Nat) (m : Nat) (L : List Bool) (A : List (Nat × Value)) (l : List Nat), L.length = R15.ds.length → R15.Phi [some (.pointer (some ⟨g0, 0, none⟩)), some (.pointer (some ⟨g0, 0, none⟩)), some (.pointer (some ⟨g0, 0, none⟩)), some (.int .i64 a0.from_), some (.pointer (some ⟨g0, 0, none⟩)), some (.pointer (some ⟨g0, 0, none⟩)), some (.pointer (some ⟨g0, 1, none⟩)), some (.slice A0 a0.kinds.length n0), some (.slice B7 t3.length c8), some (.agg (([.int .i64 a0.from_] : List Value) ++ (([.slice B7 t3.length c8] : List Value))).toArray), some (.pointer (some ⟨g10, 0, none⟩)), some (.pointer (some ⟨g10, 0, none⟩))] [0, 1, 2, 3, 4, 5, 6, 7, 8, 9, 10] [] L A → left L = m → Ord R15.ds m L l → G C12 H A (BK 53 K_R_free_Map g10 (R_free_Map.mk a0.from_ (B7, t3.length, c8)) :: OS 54 Kd.u8 B7 c8 t3 :: BK 53 K_R_free_Map g0 (R_free_Map.mk a0.from_ (A0, a0.kinds.length, n0)) :: OS 54 Kd.u8 A0 n0 a0.kinds :: Fr) (.inRegion ops13 l :: k14) := by
    intro B7 c8 g10
    refine G.phase R15 [some (.pointer (some ⟨g0, 0, none⟩)), some (.pointer (some ⟨g0, 0, none⟩)), some (.pointer (some ⟨g0, 0, none⟩)), some (.int .i64 a0.from_), some (.pointer (some ⟨g0, 0, none⟩)), some (.pointer (some ⟨g0, 0, none⟩)), some (.pointer (some ⟨g0, 1, none⟩)), some (.slice A0 a0.kinds.length n0), some (.slice B7 t3.length c8), some (.agg (([.int .i64 a0.from_] : List Value) ++ (([.slice B7 t3.length c8] : List Value))).toArray), some (.pointer (some ⟨g10, 0, none⟩)), some (.pointer (some ⟨g10, 0, none⟩))] [11] [] [0, 1, 2, 3, 4, 5, 6, 7, 8, 9, 10] [] (free_Map_Clone.reg22_1_ap _) rfl rfl ⟨⟨[.op 10], 2, .pointer (some ⟨g10, 0, none⟩), [(13, .pointer (some ⟨g10, 0, none⟩))], ⟨rfl, rfl, rfl, rfl, ?_⟩⟩, trivial⟩ trivial ?_
    · intro X rest g
      refine G.assign rfl rfl rfl rfl ?_
      exact g
    · intro A L hlen hp h0
      refine G.lessSub (B := [(2, .pointer (some ⟨g10, 0, none⟩))]) (hp.fin hlen h0 (src := [.op 11]) rfl) ?_
      refine G.regionEnd ?_
      refine G.frontAt 1 rfl ?_
      refine G.frontAt 1 rfl ?_
      refine G.frontAt 3 rfl ?_
      refine G.frontAt 3 rfl ?_
      obtain rfl := Option.some.inj h
      exact G.ret1 Try.func22 rfl rfl (fun w hs => ⟨_, _, rfl, ⟨g10, B7, c8, rfl, rfl⟩, hs⟩)
  have P17 : ∀ (B7 : Option Addr) (c8 : Nat) (m : Nat) (L : List Bool) (A : List (Nat × Value)) (l : List Nat), L.length = R15.ds.length → R15.Phi [some (.pointer (some ⟨g0, 0, none⟩)), some (.pointer (some ⟨g0, 0, none⟩)), some (.pointer (some ⟨g0, 0, none⟩)), some (.int .i64 a0.from_), some (.pointer (some ⟨g0, 0, none⟩)), some (.pointer (some ⟨g0, 0, none⟩)), some (.pointer (some ⟨g0, 1, none⟩)), some (.slice A0 a0.kinds.length n0), some (.slice B7 t3.length c8), some (.agg (([.int .i64 a0.from_] : List Value) ++ (([.slice B7 t3.length c8] : List Value))).toArray), none, none] [4, 5, 6, 7, 8] [10, 11] L A → left L = m → Ord R15.ds m L l → G C12 H A (OS 54 Kd.u8 B7 c8 t3 :: BK 53 K_R_free_Map g0 (R_free_Map.mk a0.from_ (A0, a0.kinds.length, n0)) :: OS 54 Kd.u8 A0 n0 a0.kinds :: Fr) (.inRegion ops13 l :: k14) := by
    intro B7 c8
    refine G.phase R15 [some (.pointer (some ⟨g0, 0, none⟩)), some (.pointer (some ⟨g0, 0, none⟩)), some (.pointer (some ⟨g0, 0, none⟩)), some (.int .i64 a0.from_), some (.pointer (some ⟨g0, 0, none⟩)), some (.pointer (some ⟨g0, 0, none⟩)), some (.pointer (some ⟨g0, 1, none⟩)), some (.slice A0 a0.kinds.length n0), some (.slice B7 t3.length c8), some (.agg (([.int .i64 a0.from_] : List Value) ++ (([.slice B7 t3.length c8] : List Value))).toArray), none, none] [0, 1, 2, 3, 9] [10] [4, 5, 6, 7, 8] [10, 11] (free_Map_Clone.reg22_1_ap _) rfl rfl ⟨⟨[.base 0], 3, .pointer (some ⟨g0, 0, none⟩), [(0, .pointer (some ⟨g0, 0, none⟩))], ⟨rfl, rfl, rfl, rfl, ?_⟩⟩, ⟨⟨[.op 0], 4, .pointer (some ⟨g0, 0, none⟩), [(3, .pointer (some ⟨g0, 0, none⟩))], ⟨rfl, rfl, rfl, rfl, ?_⟩⟩, ⟨⟨[.op 1], 5, .pointer (some ⟨g0, 0, none⟩), [(4, .pointer (some ⟨g0, 0, none⟩))], ⟨rfl, rfl, rfl, rfl, ?_⟩⟩, ⟨⟨[.op 2], 6, .int .i64 a0.from_, [(5, .pointer (some ⟨g0, 0, none⟩))], ⟨rfl, rfl, rfl, rfl, ?_⟩⟩, ⟨⟨[.op 3, .op 8], 12, .agg (([.int .i64 a0.from_] : List Value) ++ (([.slice B7 t3.length c8] : List Value))).toArray, [(6, .int .i64 a0.from_), (11, .slice B7 t3.length c8)], ⟨rfl, rfl, rfl, rfl, ?_⟩⟩, trivial⟩⟩⟩⟩⟩ ⟨⟨[.op 9], [(12, .agg (([.int .i64 a0.from_] : List Value) ++ (([.slice B7 t3.length c8] : List Value))).toArray)], ⟨rfl, rfl, ?_⟩⟩, trivial⟩ ?_
    · intro X rest g
      refine G.move rfl rfl rfl rfl ?_
      exact g
    · intro X rest g
      refine G.nilCheck rfl rfl rfl rfl ?_
      exact g
    · intro X rest g
      refine G.field (off' := 0) rfl rfl rfl rfl Try.underlying53 rfl sz3 rfl rfl ?_
      exact g
    · intro X rest g
      refine G.loadI (y := a0.from_) rfl rfl rfl rfl ty3 (fun w hs => Rd.bk (R_free_Map.L_from_ _) hs (j := 1) rfl) ?_
      exact g
    · intro X rest g
      refine G.build (z := .agg (([.int .i64 0] : List Value) ++ (([.slice none 0 0] : List Value))).toArray) (pl := [(0, 1), (1, 1)]) (cs := ([.int .i64 a0.from_] : List Value) ++ (([.slice B7 t3.length c8] : List Value))) rfl rfl rfl Try.underlying53 (by kernel_rfl) rfl (by kernel_rfl) (by kernel_rfl) rfl ?_
      exact g
    · intro X rest L m hlen hp hil hd hs hm ho
      refine G.box (dk := K_R_free_Map) (y := (R_free_Map.mk a0.from_ (B7, t3.length, c8))) rfl rfl rfl rfl (VR.A (cs := ([.int .i64 a0.from_] : List Value) ++ (([.slice B7 t3.length c8] : List Value))) (K_R_free_Map.mk rfl rfl)) ?_
      intro g10
      refine G.frontAt 3 rfl ?_
      refine G.frontAt 3 rfl ?_
      refine G.frontAt 3 rfl ?_
      refine G.frontAt 3 rfl ?_
      exact P18 B7 c8 g10 m _ _ rest (by rw [List.length_set]; exact hlen) (hp.stepS2 5 (free_Map_Clone.reg22_1_ap _) hil hd hs (by repeat (first | exact trivial | refine And.intro rfl ?_)) rfl rfl rfl rfl) hm ho
    · intro A L hlen hp h0
      exact (hp.notYet hlen h0 10 rfl rfl).elim
  have P16 : ∀ (m : Nat) (L : List Bool) (A : List (Nat × Value)) (l : List Nat), L.length = R15.ds.length → R15.Phi [some (.pointer (some ⟨g0, 0, none⟩)), some (.pointer (some ⟨g0, 0, none⟩)), some (.pointer (some ⟨g0, 0, none⟩)), some (.int .i64 a0.from_), some (.pointer (some ⟨g0, 0, none⟩)), some (.pointer (some ⟨g0, 0, none⟩)), some (.pointer (some ⟨g0, 1, none⟩)), some (.slice A0 a0.kinds.length n0), none, none, none, none] [] [8, 9, 10, 11] L A → left L = m → Ord R15.ds m L l → G C12 H A (BK 53 K_R_free_Map g0 (R_free_Map.mk a0.from_ (A0, a0.kinds.length, n0)) :: OS 54 Kd.u8 A0 n0 a0.kinds :: Fr) (.inRegion ops13 l :: k14) := by
    refine G.phase R15 [some (.pointer (some ⟨g0, 0, none⟩)), some (.pointer (some ⟨g0, 0, none⟩)), some (.pointer (some ⟨g0, 0, none⟩)), some (.int .i64 a0.from_), some (.pointer (some ⟨g0, 0, none⟩)), some (.pointer (some ⟨g0, 0, none⟩)), some (.pointer (some ⟨g0, 1, none⟩)), some (.slice A0 a0.kinds.length n0), none, none, none, none] [0, 1, 2, 3, 4, 5, 6, 7] [8] [] [8, 9, 10, 11] (free_Map_Clone.reg22_1_ap _) rfl rfl ⟨⟨[.base 0], 3, .pointer (some ⟨g0, 0, none⟩), [(0, .pointer (some ⟨g0, 0, none⟩))], ⟨rfl, rfl, rfl, rfl, ?_⟩⟩, ⟨⟨[.op 0], 4, .pointer (some ⟨g0, 0, none⟩), [(3, .pointer (some ⟨g0, 0, none⟩))], ⟨rfl, rfl, rfl, rfl, ?_⟩⟩, ⟨⟨[.op 1], 5, .pointer (some ⟨g0, 0, none⟩), [(4, .pointer (some ⟨g0, 0, none⟩))], ⟨rfl, rfl, rfl, rfl, ?_⟩⟩, ⟨⟨[.op 2], 6, .int .i64 a0.from_, [(5, .pointer (some ⟨g0, 0, none⟩))], ⟨rfl, rfl, rfl, rfl, ?_⟩⟩, ⟨⟨[.base 0], 7, .pointer (some ⟨g0, 0, none⟩), [(0, .pointer (some ⟨g0, 0, none⟩))], ⟨rfl, rfl, rfl, rfl, ?_⟩⟩, ⟨⟨[.op 4], 8, .pointer (some ⟨g0, 0, none⟩), [(7, .pointer (some ⟨g0, 0, none⟩))], ⟨rfl, rfl, rfl, rfl, ?_⟩⟩, ⟨⟨[.op 5], 9, .pointer (some ⟨g0, 1, none⟩), [(8, .pointer (some ⟨g0, 0, none⟩))], ⟨rfl, rfl, rfl, rfl, ?_⟩⟩, ⟨⟨[.op 6], 10, .slice A0 a0.kinds.length n0, [(9, .pointer (some ⟨g0, 1, none⟩))], ⟨rfl, rfl, rfl, rfl, ?_⟩⟩, trivial⟩⟩⟩⟩⟩⟩⟩⟩ ⟨⟨[.op 7], [(10, .slice A0 a0.kinds.length n0)], ⟨rfl, rfl, ?_⟩⟩, trivial⟩ ?_
    · intro X rest g
      refine G.move rfl rfl rfl rfl ?_
      exact g
    · intro X rest g
      refine G.nilCheck rfl rfl rfl rfl ?_
      exact g
    · intro X rest g
      refine G.field (off' := 0) rfl rfl rfl rfl Try.underlying53 rfl sz3 rfl rfl ?_
      exact g
    · intro X rest g
      refine G.loadI (y := a0.from_) rfl rfl rfl rfl ty3 (fun w hs => Rd.bk (R_free_Map.L_from_ _) hs (j := 0) rfl) ?_
      exact g
    · intro X rest g
      refine G.move rfl rfl rfl rfl ?_
      exact g
    · intro X rest g
      refine G.nilCheck rfl rfl rfl rfl ?_
      exact g
    · intro X rest g
      refine G.field (off' := 1) rfl rfl rfl rfl Try.underlying53 rfl sz51 rfl rfl ?_
      exact g
    · intro X rest g
      refine G.loadH (B := A0) (m := a0.kinds.length) (c := n0) rfl rfl rfl rfl ty51r (fun w hs => Rd.bk (R_free_Map.L_kinds _) hs (j := 0) rfl) ?_
      exact g
    · intro X rest L m hlen hp hil hd hs hm ho
      refine G.callBO (m := 0) rfl rfl rfl rfl call32 rfl (fun H1 hle hsl => (slices_Clone_Lfree_kind_free_kind.ok a0.kinds A0 n0 (hsl (j := 1) rfl) e4).ctr) (by rintro v H' L' ⟨_, _, rfl, rfl⟩; exact (Free.cons (Free.os Flat.u8) Free.nil)) ?_
      rintro v5 L6 ⟨_, ⟨B7, c8, rfl, rfl⟩⟩
      refine G.frontAt 2 rfl ?_
      refine G.frontAt 2 rfl ?_
      refine G.frontAt 2 rfl ?_
      exact P17 B7 c8 m _ _ rest (by rw [List.length_set]; exact hlen) (hp.stepS2 4 (free_Map_Clone.reg22_1_ap _) hil hd hs (by repeat (first | exact trivial | refine And.intro rfl ?_)) rfl rfl rfl rfl) hm ho
    · intro A L hlen hp h0
      exact (hp.notYet hlen h0 8 rfl rfl).elim
  intro l hl
  exact P16 12 (List.replicate 12 false) _ l rfl (Reg.Phi.init 12 ⟨rfl, rfl, trivial⟩) (left_rep 12) hl
end Go.Proofs.Ytpffemcpfddjbaa
