/- Own text, printed by wip/g2: the walks. -/
import Derived.Test.YtpffemcpfddjbaaAw0
namespace Go.Proofs.Ytpffemcpfddjbaa
open Go K
set_option linter.unusedVariables false
set_option maxHeartbeats 1000000
def armoirelaw06_live.reg8_10 (B : List (Nat × Value)) : Reg := ⟨[[], [0], [1], [2], [], [], [4, 5], [3, 6, 0, 1, 2, 3, 4, 5, 6], [7, 0, 1, 2, 3, 4, 5, 6]], [some 52, some 53, some 54, some 55, some 56, some 57, some 58, some 59, none], B⟩
theorem armoirelaw06_live.reg8_10_ap (B : List (Nat × Value)) : (armoirelaw06_live.reg8_10 B).apart = true := rfl
def armoirelaw06_live.reg8_8 (B : List (Nat × Value)) : Reg := ⟨[[], [0], [1], [2], [], [], [4, 5], [3, 6], [7], [8]], [some 42, some 43, some 44, some 45, some 46, some 47, some 48, some 49, some 50, some 51], B⟩
theorem armoirelaw06_live.reg8_8_ap (B : List (Nat × Value)) : (armoirelaw06_live.reg8_8 B).apart = true := rfl
def armoirelaw06_live.reg8_4 (B : List (Nat × Value)) : Reg := ⟨[[], [], [], [1, 2], [3, 3], [0, 4], [5], [6, 0, 1, 2, 3, 4, 5, 6]], [some 29, some 30, some 31, some 32, some 33, some 34, some 35, some 9], B⟩
theorem armoirelaw06_live.reg8_4_ap (B : List (Nat × Value)) : (armoirelaw06_live.reg8_4 B).apart = true := rfl
def armoirelaw06_live.ds8_4 : List (List Nat) := [[], [], [], [1, 2], [3, 3], [0, 4], [5], [6, 0, 1, 2, 3, 4, 5, 6]]
set_option maxRecDepth 20000 in
theorem armoirelaw06_live.ok {O : World} {H : PH} {Fr : List Res}  {r : Bool} (h : armoirelaw06_live.f  = some r) :
    CtrS Try.prog 7 [] O H (Fr) (fun v L' => v = .bool r ∧ Fr = L') := by
  refine CtrS.start (n := 106) Try.func7 rfl Try.ntmps7 rfl rfl ?_
  unfold armoirelaw06_live.f at h
  refine G.seq ?_
  refine G.region (l := [0]) rfl ?_
  refine G.assign rfl rfl rfl rfl ?_
  refine G.regionEnd ?_
  refine G.seq ?_
  refine G.region (l := [0, 1, 2, 3, 4, 5, 6]) rfl ?_
  refine G.buildSliceV (df := (Kd.int .i64)) (xs := ([5] : List Int)) (z0 := 0) (vs := [.int .i64 5]) rfl rfl rfl el28 (z := .int .i64 0) (cz := ([.int .i64 0] : List Value)) (by kernel_rfl) rfl rfl rfl rfl rfl (rfl) ⟨⟨([.int .i64 5] : List Value), rfl, rfl⟩, trivial⟩ ?_
  intro B1
  refine G.rest (l1 := [1]) (l2 := [2, 3, 4, 5, 6]) (fun GG K => ∀ (g179 : Nat) (B181 : Option Addr) (c182 : Nat) (x183 : (List UInt8)), armoirelaw06_live.j0 x183 = some r → GG H [(18, .tuple #[.pointer (some ⟨g179, 0, none⟩), .int .i64 0])] (OS 54 Kd.u8 B181 c182 x183 :: BK 53 K_R_free_Map g179 (R_free_Map.mk 4 (B181, x183.length, c182)) :: Fr) K) ?_ ?_
  · intro g179 B181 c182 x183 h
    unfold armoirelaw06_live.j0 at h
    refine G.move rfl rfl rfl rfl ?_
    refine G.extract rfl rfl rfl rfl rfl ?_
    refine G.extract rfl rfl rfl rfl rfl ?_
    refine G.assign rfl rfl rfl rfl ?_
    refine G.assign rfl rfl rfl rfl ?_
    refine G.regionEnd ?_
    refine G.seq ?_
    refine G.seq ?_
    refine G.region (l := [0, 1, 2, 3, 4, 5]) rfl ?_
    refine G.move rfl rfl rfl rfl ?_
    refine G.eqPtr (a := (some ⟨g179, 0, none⟩)) (b := none) (r := false) rfl rfl rfl rfl rfl Try.underlying24 (by simp) ?_
    refine G.move rfl rfl rfl rfl ?_
    refine G.move rfl rfl rfl rfl ?_
    refine G.cmp (False) rfl rfl rfl rfl rfl rfl (by simp [cmpP]) ?_
    refine G.pickF rfl rfl rfl rfl rfl ?_
    refine G.regionEnd ?_
    refine G.condF rfl ?_
    refine G.skip ?_
    refine G.seq ?_
    refine G.region (l := [0, 1, 2, 3, 4, 5, 6]) rfl ?_
    refine G.move rfl rfl rfl rfl ?_
    refine G.frontAt 1 rfl ?_
    obtain ⟨t184, e185, h⟩ := bindS h
    refine G.callS rfl rfl rfl rfl call14 (free_Map_Take.ok (S_free_Map.mk 4 x183) g179 B181 c182 e185) ?_
    rintro v186 L187 ⟨rfl, rfl⟩
    refine G.move rfl rfl rfl rfl ?_
    refine G.extract rfl rfl rfl rfl rfl ?_
    refine G.extract rfl rfl rfl rfl rfl ?_
    refine G.assign rfl rfl rfl rfl ?_
    refine G.assign rfl rfl rfl rfl ?_
    refine G.regionEnd ?_
    refine G.seq ?_
    refine G.region (l := [0, 1, 2, 3, 4, 5, 6]) rfl ?_
    refine G.move rfl rfl rfl rfl ?_
    refine G.frontAt 1 rfl ?_
    refine G.frontAt 1 rfl ?_
    obtain ⟨t188, e189, h⟩ := bindS h
    refine G.callS rfl rfl rfl rfl call10 (free_Map_TakeRun.ok t184.2.2 g179 B181 c182 2 e189) ?_
    rintro v190 L191 ⟨rfl, rfl⟩
    refine G.move rfl rfl rfl rfl ?_
    refine G.extract rfl rfl rfl rfl rfl ?_
    refine G.extract rfl rfl rfl rfl rfl ?_
    refine G.assign rfl rfl rfl rfl ?_
    refine G.assign rfl rfl rfl rfl ?_
    refine G.regionEnd ?_
    refine G.seq ?_
    refine G.region (l := [0, 1, 2]) rfl ?_
    refine G.move rfl rfl rfl rfl ?_
    refine G.frontAt 1 rfl ?_
    refine G.frontAt 1 rfl ?_
    obtain ⟨t192, e193, h⟩ := bindS h
    refine G.callS rfl rfl rfl rfl call11 (free_Map_Defer.ok t188.2.2 g179 B181 c182 4 e193) ?_
    rintro v194 L195 ⟨rfl, rfl⟩
    refine G.assign rfl rfl rfl rfl ?_
    refine G.regionEnd ?_
    refine G.seq ?_
    refine G.region (l := [0, 1, 2]) rfl ?_
    refine G.move rfl rfl rfl rfl ?_
    refine G.frontAt 1 rfl ?_
    refine G.frontAt 1 rfl ?_
    obtain ⟨t196, e197, h⟩ := bindS h
    refine G.callS rfl rfl rfl rfl call13 (free_Map_Free.ok t192.2 g179 B181 c182 e197) ?_
    rintro v198 L199 ⟨B200, c201, rfl, rfl⟩
    refine G.assign rfl rfl rfl rfl ?_
    refine G.regionEnd ?_
    refine G.seq ?_
    refine G.region (l := [0, 1, 2]) rfl ?_
    refine G.move rfl rfl rfl rfl ?_
    refine G.frontAt 1 rfl ?_
    refine G.frontAt 1 rfl ?_
    obtain ⟨t203, e204, h⟩ := bindS h
    refine G.callS rfl rfl rfl rfl call9 (free_Map_Waiting.ok t192.2 g179 B181 c182 e204) ?_
    rintro v205 L206 ⟨B207, c208, rfl, rfl⟩
    refine G.assign rfl rfl rfl rfl ?_
    refine G.regionEnd ?_
    refine G.seq ?_
    refine G.region (l := [0, 1, 2, 3, 4, 5, 6]) rfl ?_
    refine G.move rfl rfl rfl rfl ?_
    refine G.frontAt 1 rfl ?_
    refine G.frontAt 1 rfl ?_
    obtain ⟨t210, e211, h⟩ := bindS h
    refine G.callS rfl rfl rfl rfl call14 (free_Map_Take.ok t192.2 g179 B181 c182 e211) ?_
    rintro v212 L213 ⟨rfl, rfl⟩
    refine G.move rfl rfl rfl rfl ?_
    refine G.extract rfl rfl rfl rfl rfl ?_
    refine G.extract rfl rfl rfl rfl rfl ?_
    refine G.assign rfl rfl rfl rfl ?_
    refine G.assign rfl rfl rfl rfl ?_
    refine G.regionEnd ?_
    refine G.seq ?_
    refine G.region (l := [0, 1, 2, 3]) rfl ?_
    refine G.move rfl rfl rfl rfl ?_
    refine G.buildSliceV (df := (Kd.int .i64)) (xs := ([4] : List Int)) (z0 := 0) (vs := [.int .i64 4]) rfl rfl rfl el28 (z := .int .i64 0) (cz := ([.int .i64 0] : List Value)) (by kernel_rfl) rfl rfl rfl rfl rfl (rfl) ⟨⟨([.int .i64 4] : List Value), rfl, rfl⟩, trivial⟩ ?_
    intro B214
    refine G.frontAt 2 rfl ?_
    refine G.frontAt 2 rfl ?_
    obtain ⟨t216, e217, h⟩ := bindS h
    refine G.callBO (m := 2) rfl rfl rfl rfl call12 rfl (fun H1 hle hsl => (free_Map_Sweep.ok t210.2.2 g179 B181 c182 ([4] : List Int) B214 1 (hsl (j := 0) rfl) e217).ctr) (by rintro v H' L' ⟨rfl, rfl⟩; exact (Free.cons (Free.bk flat_R_free_Map) (Free.cons (Free.os Flat.u8) Free.nil))) ?_
    rintro v218 L219 ⟨_, ⟨rfl, rfl⟩⟩
    refine G.assign rfl rfl rfl rfl ?_
    refine G.regionEnd ?_
    refine G.seq ?_
    refine G.region (l := [0, 1, 2]) rfl ?_
    refine G.move rfl rfl rfl rfl ?_
    refine G.frontAt 1 rfl ?_
    refine G.frontAt 1 rfl ?_
    obtain ⟨t220, e221, h⟩ := bindS h
    refine G.callS rfl rfl rfl rfl call12 (free_Map_Sweep.ok t216.2 g179 B181 c182 ([] : List Int) none 0 (SlR.nil none 0) e221) ?_
    rintro v222 L223 ⟨rfl, rfl⟩
    refine G.assign rfl rfl rfl rfl ?_
    refine G.regionEnd ?_
    refine G.seq ?_
    refine G.region (l := [0, 1, 2, 3, 4, 5, 6]) rfl ?_
    refine G.move rfl rfl rfl rfl ?_
    refine G.frontAt 1 rfl ?_
    refine G.frontAt 1 rfl ?_
    obtain ⟨t224, e225, h⟩ := bindS h
    refine G.callS rfl rfl rfl rfl call14 (free_Map_Take.ok t220.2 g179 B181 c182 e225) ?_
    rintro v226 L227 ⟨rfl, rfl⟩
    refine G.move rfl rfl rfl rfl ?_
    refine G.extract rfl rfl rfl rfl rfl ?_
    refine G.extract rfl rfl rfl rfl rfl ?_
    refine G.assign rfl rfl rfl rfl ?_
    refine G.assign rfl rfl rfl rfl ?_
    refine G.regionEnd ?_
    refine G.seq ?_
    refine G.region (l := [0, 1, 2, 3, 4, 5, 6, 7, 8, 9, 10, 11, 12, 13, 14, 15, 16, 17, 18, 19, 20, 21, 22, 23, 24, 25, 26, 27, 28, 29, 30, 31, 32, 33, 34, 35, 36, 37, 38, 39, 40, 41, 42, 43, 44, 45, 46, 47, 48]) rfl ?_
    refine G.move rfl rfl rfl rfl ?_
    refine G.cmp (t184.1 = 4) rfl rfl rfl rfl rfl rfl Iff.rfl ?_
    refine G.move rfl rfl rfl rfl ?_
    refine G.splitP (d := 60) rfl (fun k245 => ?_) (fun k245 => ?_)
    · replace h := ifT h k245
      refine G.move rfl rfl rfl rfl ?_
      refine G.cmp (t188.1 = 6) rfl rfl rfl rfl rfl rfl Iff.rfl ?_
      refine G.pickT rfl rfl rfl rfl rfl ?_
      refine G.move rfl rfl rfl rfl ?_
      refine G.splitP (d := 64) rfl (fun k244 => ?_) (fun k244 => ?_)
      · replace h := ifT h k244
        refine G.move rfl rfl rfl rfl ?_
        refine G.cmp (t192.1 = 0) rfl rfl rfl rfl rfl rfl Iff.rfl ?_
        refine G.pickT rfl rfl rfl rfl rfl ?_
        refine G.move rfl rfl rfl rfl ?_
        refine G.splitP (d := 68) rfl (fun k243 => ?_) (fun k243 => ?_)
        · replace h := ifT h k243
          refine G.move rfl rfl rfl rfl ?_
          refine G.len (m := t196.length) rfl rfl rfl rfl Try.underlying28 ?_
          refine G.cmp ((t196.length : Int) = 2) rfl rfl rfl rfl rfl rfl Iff.rfl ?_
          refine G.pickT rfl rfl rfl rfl rfl ?_
          refine G.move rfl rfl rfl rfl ?_
          refine G.splitP (d := 73) rfl (fun k242 => ?_) (fun k242 => ?_)
          · replace h := ifT h k242
            refine G.move rfl rfl rfl rfl ?_
            obtain ⟨k231, h⟩ := guardS h
            have q230 : 0 < t196.length := by omega
            refine G.indexO (xs := t196) (j := 0) (off := 0 * 1) rfl rfl rfl rfl rfl el28 (r := 4) rfl (by simp) k231 rfl ?_
            refine G.loadI (y := t196.getD 0 0) rfl rfl rfl rfl ty3 (fun w hs => Rd.osG q230 (Lens.id _ _) hs (j := 4) rfl (o := 0 * 1) (by first | rfl | simp)) ?_
            refine G.cmp ((t196.getD 0 0) = 8) rfl rfl rfl rfl rfl rfl Iff.rfl ?_
            refine G.pickT rfl rfl rfl rfl rfl ?_
            refine G.move rfl rfl rfl rfl ?_
            refine G.splitP (d := 79) rfl (fun k241 => ?_) (fun k241 => ?_)
            · replace h := ifT h k241
              refine G.move rfl rfl rfl rfl ?_
              refine G.len (m := t203.length) rfl rfl rfl rfl Try.underlying28 ?_
              refine G.cmp ((t203.length : Int) = 1) rfl rfl rfl rfl rfl rfl Iff.rfl ?_
              refine G.pickT rfl rfl rfl rfl rfl ?_
              refine G.move rfl rfl rfl rfl ?_
              refine G.splitP (d := 84) rfl (fun k240 => ?_) (fun k240 => ?_)
              · replace h := ifT h k240
                refine G.move rfl rfl rfl rfl ?_
                obtain ⟨k235, h⟩ := guardS h
                have q234 : 0 < t203.length := by omega
                refine G.indexO (xs := t203) (j := 0) (off := 0 * 1) rfl rfl rfl rfl rfl el28 (r := 3) rfl (by simp) k235 rfl ?_
                refine G.loadI (y := t203.getD 0 0) rfl rfl rfl rfl ty3 (fun w hs => Rd.osG q234 (Lens.id _ _) hs (j := 3) rfl (o := 0 * 1) (by first | rfl | simp)) ?_
                refine G.cmp ((t203.getD 0 0) = 4) rfl rfl rfl rfl rfl rfl Iff.rfl ?_
                refine G.pickT rfl rfl rfl rfl rfl ?_
                refine G.move rfl rfl rfl rfl ?_
                refine G.splitP (d := 90) rfl (fun k239 => ?_) (fun k239 => ?_)
                · replace h := ifT h k239
                  refine G.move rfl rfl rfl rfl ?_
                  refine G.cmp (t210.1 = 8) rfl rfl rfl rfl rfl rfl Iff.rfl ?_
                  refine G.pickT rfl rfl rfl rfl rfl ?_
                  refine G.move rfl rfl rfl rfl ?_
                  refine G.splitP (d := 94) rfl (fun k238 => ?_) (fun k238 => ?_)
                  · replace h := ifT h k238
                    refine G.move rfl rfl rfl rfl ?_
                    refine G.cmp (t216.1 = 0) rfl rfl rfl rfl rfl rfl Iff.rfl ?_
                    refine G.pickT rfl rfl rfl rfl rfl ?_
                    refine G.move rfl rfl rfl rfl ?_
                    refine G.splitP (d := 98) rfl (fun k237 => ?_) (fun k237 => ?_)
                    · replace h := ifT h k237
                      refine G.move rfl rfl rfl rfl ?_
                      refine G.cmp (t220.1 = 1) rfl rfl rfl rfl rfl rfl Iff.rfl ?_
                      refine G.pickT rfl rfl rfl rfl rfl ?_
                      refine G.move rfl rfl rfl rfl ?_
                      refine G.splitP (d := 102) rfl (fun k236 => ?_) (fun k236 => ?_)
                      · replace h := ifT h k236
                        refine G.move rfl rfl rfl rfl ?_
                        refine G.cmp (t224.1 = 4) rfl rfl rfl rfl rfl rfl Iff.rfl ?_
                        refine G.pickT rfl rfl rfl rfl rfl ?_
                        refine G.assign rfl rfl rfl rfl ?_
                        refine G.regionEnd ?_
                        refine G.drop ?_
                        refine G.drop ?_
                        refine G.drop ?_
                        refine G.drop ?_
                        refine G.drop ?_
                        obtain rfl := Option.some.inj h
                        exact G.ret1 Try.func7 rfl rfl (fun w hs => ⟨_, _, rfl, ⟨rfl, rfl⟩, hs⟩)
                      · replace h := ifF h k236
                        refine G.unwanted rfl rfl rfl rfl ?_
                        refine G.unwanted rfl rfl rfl rfl ?_
                        refine G.pickF rfl rfl rfl rfl rfl ?_
                        refine G.assign rfl rfl rfl rfl ?_
                        refine G.regionEnd ?_
                        refine G.drop ?_
                        refine G.drop ?_
                        refine G.drop ?_
                        refine G.drop ?_
                        refine G.drop ?_
                        obtain rfl := Option.some.inj h
                        exact G.ret1 Try.func7 rfl rfl (fun w hs => ⟨_, _, rfl, ⟨rfl, rfl⟩, hs⟩)
                    · replace h := ifF h k237
                      refine G.unwanted rfl rfl rfl rfl ?_
                      refine G.unwanted rfl rfl rfl rfl ?_
                      refine G.pickF rfl rfl rfl rfl rfl ?_
                      refine G.move rfl rfl rfl rfl ?_
                      refine G.unwanted rfl rfl rfl rfl ?_
                      refine G.unwanted rfl rfl rfl rfl ?_
                      refine G.pickF rfl rfl rfl rfl rfl ?_
                      refine G.assign rfl rfl rfl rfl ?_
                      refine G.regionEnd ?_
                      refine G.drop ?_
                      refine G.drop ?_
                      refine G.drop ?_
                      refine G.drop ?_
                      refine G.drop ?_
                      obtain rfl := Option.some.inj h
                      exact G.ret1 Try.func7 rfl rfl (fun w hs => ⟨_, _, rfl, ⟨rfl, rfl⟩, hs⟩)
                  · replace h := ifF h k238
                    refine G.unwanted rfl rfl rfl rfl ?_
                    refine G.unwanted rfl rfl rfl rfl ?_
                    refine G.pickF rfl rfl rfl rfl rfl ?_
                    refine G.move rfl rfl rfl rfl ?_
                    refine G.unwanted rfl rfl rfl rfl ?_
                    refine G.unwanted rfl rfl rfl rfl ?_
                    refine G.pickF rfl rfl rfl rfl rfl ?_
                    refine G.move rfl rfl rfl rfl ?_
                    refine G.unwanted rfl rfl rfl rfl ?_
                    refine G.unwanted rfl rfl rfl rfl ?_
                    refine G.pickF rfl rfl rfl rfl rfl ?_
                    refine G.assign rfl rfl rfl rfl ?_
                    refine G.regionEnd ?_
                    refine G.drop ?_
                    refine G.drop ?_
                    refine G.drop ?_
                    refine G.drop ?_
                    refine G.drop ?_
                    obtain rfl := Option.some.inj h
                    exact G.ret1 Try.func7 rfl rfl (fun w hs => ⟨_, _, rfl, ⟨rfl, rfl⟩, hs⟩)
                · replace h := ifF h k239
                  refine G.unwanted rfl rfl rfl rfl ?_
                  refine G.unwanted rfl rfl rfl rfl ?_
                  refine G.pickF rfl rfl rfl rfl rfl ?_
                  refine G.move rfl rfl rfl rfl ?_
                  refine G.unwanted rfl rfl rfl rfl ?_
                  refine G.unwanted rfl rfl rfl rfl ?_
                  refine G.pickF rfl rfl rfl rfl rfl ?_
                  refine G.move rfl rfl rfl rfl ?_
                  refine G.unwanted rfl rfl rfl rfl ?_
                  refine G.unwanted rfl rfl rfl rfl ?_
                  refine G.pickF rfl rfl rfl rfl rfl ?_
                  refine G.move rfl rfl rfl rfl ?_
                  refine G.unwanted rfl rfl rfl rfl ?_
                  refine G.unwanted rfl rfl rfl rfl ?_
                  refine G.pickF rfl rfl rfl rfl rfl ?_
                  refine G.assign rfl rfl rfl rfl ?_
                  refine G.regionEnd ?_
                  refine G.drop ?_
                  refine G.drop ?_
                  refine G.drop ?_
                  refine G.drop ?_
                  refine G.drop ?_
                  obtain rfl := Option.some.inj h
                  exact G.ret1 Try.func7 rfl rfl (fun w hs => ⟨_, _, rfl, ⟨rfl, rfl⟩, hs⟩)
              · replace h := ifF h k240
                refine G.unwanted rfl rfl rfl rfl ?_
                refine G.unwanted rfl rfl rfl rfl ?_
                refine G.unwanted rfl rfl rfl rfl ?_
                refine G.unwanted rfl rfl rfl rfl ?_
                refine G.pickF rfl rfl rfl rfl rfl ?_
                refine G.move rfl rfl rfl rfl ?_
                refine G.unwanted rfl rfl rfl rfl ?_
                refine G.unwanted rfl rfl rfl rfl ?_
                refine G.pickF rfl rfl rfl rfl rfl ?_
                refine G.move rfl rfl rfl rfl ?_
                refine G.unwanted rfl rfl rfl rfl ?_
                refine G.unwanted rfl rfl rfl rfl ?_
                refine G.pickF rfl rfl rfl rfl rfl ?_
                refine G.move rfl rfl rfl rfl ?_
                refine G.unwanted rfl rfl rfl rfl ?_
                refine G.unwanted rfl rfl rfl rfl ?_
                refine G.pickF rfl rfl rfl rfl rfl ?_
                refine G.move rfl rfl rfl rfl ?_
                refine G.unwanted rfl rfl rfl rfl ?_
                refine G.unwanted rfl rfl rfl rfl ?_
                refine G.pickF rfl rfl rfl rfl rfl ?_
                refine G.assign rfl rfl rfl rfl ?_
                refine G.regionEnd ?_
                refine G.drop ?_
                refine G.drop ?_
                refine G.drop ?_
                refine G.drop ?_
                refine G.drop ?_
                obtain rfl := Option.some.inj h
                exact G.ret1 Try.func7 rfl rfl (fun w hs => ⟨_, _, rfl, ⟨rfl, rfl⟩, hs⟩)
            · replace h := ifF h k241
              refine G.unwanted rfl rfl rfl rfl ?_
              refine G.unwanted rfl rfl rfl rfl ?_
              refine G.unwanted rfl rfl rfl rfl ?_
              refine G.pickF rfl rfl rfl rfl rfl ?_
              refine G.move rfl rfl rfl rfl ?_
              refine G.unwanted rfl rfl rfl rfl ?_
              refine G.unwanted rfl rfl rfl rfl ?_
              refine G.unwanted rfl rfl rfl rfl ?_
              refine G.unwanted rfl rfl rfl rfl ?_
              refine G.pickF rfl rfl rfl rfl rfl ?_
              refine G.move rfl rfl rfl rfl ?_
              refine G.unwanted rfl rfl rfl rfl ?_
              refine G.unwanted rfl rfl rfl rfl ?_
              refine G.pickF rfl rfl rfl rfl rfl ?_
              refine G.move rfl rfl rfl rfl ?_
              refine G.unwanted rfl rfl rfl rfl ?_
              refine G.unwanted rfl rfl rfl rfl ?_
              refine G.pickF rfl rfl rfl rfl rfl ?_
              refine G.move rfl rfl rfl rfl ?_
              refine G.unwanted rfl rfl rfl rfl ?_
              refine G.unwanted rfl rfl rfl rfl ?_
              refine G.pickF rfl rfl rfl rfl rfl ?_
              refine G.move rfl rfl rfl rfl ?_
              refine G.unwanted rfl rfl rfl rfl ?_
              refine G.unwanted rfl rfl rfl rfl ?_
              refine G.pickF rfl rfl rfl rfl rfl ?_
              refine G.assign rfl rfl rfl rfl ?_
              refine G.regionEnd ?_
              refine G.drop ?_
              refine G.drop ?_
              refine G.drop ?_
              refine G.drop ?_
              refine G.drop ?_
              obtain rfl := Option.some.inj h
              exact G.ret1 Try.func7 rfl rfl (fun w hs => ⟨_, _, rfl, ⟨rfl, rfl⟩, hs⟩)
          · replace h := ifF h k242
            refine G.unwanted rfl rfl rfl rfl ?_
            refine G.unwanted rfl rfl rfl rfl ?_
            refine G.unwanted rfl rfl rfl rfl ?_
            refine G.unwanted rfl rfl rfl rfl ?_
            refine G.pickF rfl rfl rfl rfl rfl ?_
            refine G.move rfl rfl rfl rfl ?_
            refine G.unwanted rfl rfl rfl rfl ?_
            refine G.unwanted rfl rfl rfl rfl ?_
            refine G.unwanted rfl rfl rfl rfl ?_
            refine G.pickF rfl rfl rfl rfl rfl ?_
            refine G.move rfl rfl rfl rfl ?_
            refine G.unwanted rfl rfl rfl rfl ?_
            refine G.unwanted rfl rfl rfl rfl ?_
            refine G.unwanted rfl rfl rfl rfl ?_
            refine G.unwanted rfl rfl rfl rfl ?_
            refine G.pickF rfl rfl rfl rfl rfl ?_
            refine G.move rfl rfl rfl rfl ?_
            refine G.unwanted rfl rfl rfl rfl ?_
            refine G.unwanted rfl rfl rfl rfl ?_
            refine G.pickF rfl rfl rfl rfl rfl ?_
            refine G.move rfl rfl rfl rfl ?_
            refine G.unwanted rfl rfl rfl rfl ?_
            refine G.unwanted rfl rfl rfl rfl ?_
            refine G.pickF rfl rfl rfl rfl rfl ?_
            refine G.move rfl rfl rfl rfl ?_
            refine G.unwanted rfl rfl rfl rfl ?_
            refine G.unwanted rfl rfl rfl rfl ?_
            refine G.pickF rfl rfl rfl rfl rfl ?_
            refine G.move rfl rfl rfl rfl ?_
            refine G.unwanted rfl rfl rfl rfl ?_
            refine G.unwanted rfl rfl rfl rfl ?_
            refine G.pickF rfl rfl rfl rfl rfl ?_
            refine G.assign rfl rfl rfl rfl ?_
            refine G.regionEnd ?_
            refine G.drop ?_
            refine G.drop ?_
            refine G.drop ?_
            refine G.drop ?_
            refine G.drop ?_
            obtain rfl := Option.some.inj h
            exact G.ret1 Try.func7 rfl rfl (fun w hs => ⟨_, _, rfl, ⟨rfl, rfl⟩, hs⟩)
        · replace h := ifF h k243
          refine G.unwanted rfl rfl rfl rfl ?_
          refine G.unwanted rfl rfl rfl rfl ?_
          refine G.unwanted rfl rfl rfl rfl ?_
          refine G.pickF rfl rfl rfl rfl rfl ?_
          refine G.move rfl rfl rfl rfl ?_
          refine G.unwanted rfl rfl rfl rfl ?_
          refine G.unwanted rfl rfl rfl rfl ?_
          refine G.unwanted rfl rfl rfl rfl ?_
          refine G.unwanted rfl rfl rfl rfl ?_
          refine G.pickF rfl rfl rfl rfl rfl ?_
          refine G.move rfl rfl rfl rfl ?_
          refine G.unwanted rfl rfl rfl rfl ?_
          refine G.unwanted rfl rfl rfl rfl ?_
          refine G.unwanted rfl rfl rfl rfl ?_
          refine G.pickF rfl rfl rfl rfl rfl ?_
          refine G.move rfl rfl rfl rfl ?_
          refine G.unwanted rfl rfl rfl rfl ?_
          refine G.unwanted rfl rfl rfl rfl ?_
          refine G.unwanted rfl rfl rfl rfl ?_
          refine G.unwanted rfl rfl rfl rfl ?_
          refine G.pickF rfl rfl rfl rfl rfl ?_
          refine G.move rfl rfl rfl rfl ?_
          refine G.unwanted rfl rfl rfl rfl ?_
          refine G.unwanted rfl rfl rfl rfl ?_
          refine G.pickF rfl rfl rfl rfl rfl ?_
          refine G.move rfl rfl rfl rfl ?_
          refine G.unwanted rfl rfl rfl rfl ?_
          refine G.unwanted rfl rfl rfl rfl ?_
          refine G.pickF rfl rfl rfl rfl rfl ?_
          refine G.move rfl rfl rfl rfl ?_
          refine G.unwanted rfl rfl rfl rfl ?_
          refine G.unwanted rfl rfl rfl rfl ?_
          refine G.pickF rfl rfl rfl rfl rfl ?_
          refine G.move rfl rfl rfl rfl ?_
          refine G.unwanted rfl rfl rfl rfl ?_
          refine G.unwanted rfl rfl rfl rfl ?_
          refine G.pickF rfl rfl rfl rfl rfl ?_
          refine G.assign rfl rfl rfl rfl ?_
          refine G.regionEnd ?_
          refine G.drop ?_
          refine G.drop ?_
          refine G.drop ?_
          refine G.drop ?_
          refine G.drop ?_
          obtain rfl := Option.some.inj h
          exact G.ret1 Try.func7 rfl rfl (fun w hs => ⟨_, _, rfl, ⟨rfl, rfl⟩, hs⟩)
      · replace h := ifF h k244
        refine G.unwanted rfl rfl rfl rfl ?_
        refine G.unwanted rfl rfl rfl rfl ?_
        refine G.pickF rfl rfl rfl rfl rfl ?_
        refine G.move rfl rfl rfl rfl ?_
        refine G.unwanted rfl rfl rfl rfl ?_
        refine G.unwanted rfl rfl rfl rfl ?_
        refine G.unwanted rfl rfl rfl rfl ?_
        refine G.pickF rfl rfl rfl rfl rfl ?_
        refine G.move rfl rfl rfl rfl ?_
        refine G.unwanted rfl rfl rfl rfl ?_
        refine G.unwanted rfl rfl rfl rfl ?_
        refine G.unwanted rfl rfl rfl rfl ?_
        refine G.unwanted rfl rfl rfl rfl ?_
        refine G.pickF rfl rfl rfl rfl rfl ?_
        refine G.move rfl rfl rfl rfl ?_
        refine G.unwanted rfl rfl rfl rfl ?_
        refine G.unwanted rfl rfl rfl rfl ?_
        refine G.unwanted rfl rfl rfl rfl ?_
        refine G.pickF rfl rfl rfl rfl rfl ?_
        refine G.move rfl rfl rfl rfl ?_
        refine G.unwanted rfl rfl rfl rfl ?_
        refine G.unwanted rfl rfl rfl rfl ?_
        refine G.unwanted rfl rfl rfl rfl ?_
        refine G.unwanted rfl rfl rfl rfl ?_
        refine G.pickF rfl rfl rfl rfl rfl ?_
        refine G.move rfl rfl rfl rfl ?_
        refine G.unwanted rfl rfl rfl rfl ?_
        refine G.unwanted rfl rfl rfl rfl ?_
        refine G.pickF rfl rfl rfl rfl rfl ?_
        refine G.move rfl rfl rfl rfl ?_
        refine G.unwanted rfl rfl rfl rfl ?_
        refine G.unwanted rfl rfl rfl rfl ?_
        refine G.pickF rfl rfl rfl rfl rfl ?_
        refine G.move rfl rfl rfl rfl ?_
        refine G.unwanted rfl rfl rfl rfl ?_
        refine G.unwanted rfl rfl rfl rfl ?_
        refine G.pickF rfl rfl rfl rfl rfl ?_
        refine G.move rfl rfl rfl rfl ?_
        refine G.unwanted rfl rfl rfl rfl ?_
        refine G.unwanted rfl rfl rfl rfl ?_
        refine G.pickF rfl rfl rfl rfl rfl ?_
        refine G.assign rfl rfl rfl rfl ?_
        refine G.regionEnd ?_
        refine G.drop ?_
        refine G.drop ?_
        refine G.drop ?_
        refine G.drop ?_
        refine G.drop ?_
        obtain rfl := Option.some.inj h
        exact G.ret1 Try.func7 rfl rfl (fun w hs => ⟨_, _, rfl, ⟨rfl, rfl⟩, hs⟩)
    · replace h := ifF h k245
      refine G.unwanted rfl rfl rfl rfl ?_
      refine G.unwanted rfl rfl rfl rfl ?_
      refine G.pickF rfl rfl rfl rfl rfl ?_
      refine G.move rfl rfl rfl rfl ?_
      refine G.unwanted rfl rfl rfl rfl ?_
      refine G.unwanted rfl rfl rfl rfl ?_
      refine G.pickF rfl rfl rfl rfl rfl ?_
      refine G.move rfl rfl rfl rfl ?_
      refine G.unwanted rfl rfl rfl rfl ?_
      refine G.unwanted rfl rfl rfl rfl ?_
      refine G.unwanted rfl rfl rfl rfl ?_
      refine G.pickF rfl rfl rfl rfl rfl ?_
      refine G.move rfl rfl rfl rfl ?_
      refine G.unwanted rfl rfl rfl rfl ?_
      refine G.unwanted rfl rfl rfl rfl ?_
      refine G.unwanted rfl rfl rfl rfl ?_
      refine G.unwanted rfl rfl rfl rfl ?_
      refine G.pickF rfl rfl rfl rfl rfl ?_
      refine G.move rfl rfl rfl rfl ?_
      refine G.unwanted rfl rfl rfl rfl ?_
      refine G.unwanted rfl rfl rfl rfl ?_
      refine G.unwanted rfl rfl rfl rfl ?_
      refine G.pickF rfl rfl rfl rfl rfl ?_
      refine G.move rfl rfl rfl rfl ?_
      refine G.unwanted rfl rfl rfl rfl ?_
      refine G.unwanted rfl rfl rfl rfl ?_
      refine G.unwanted rfl rfl rfl rfl ?_
      refine G.unwanted rfl rfl rfl rfl ?_
      refine G.pickF rfl rfl rfl rfl rfl ?_
      refine G.move rfl rfl rfl rfl ?_
      refine G.unwanted rfl rfl rfl rfl ?_
      refine G.unwanted rfl rfl rfl rfl ?_
      refine G.pickF rfl rfl rfl rfl rfl ?_
      refine G.move rfl rfl rfl rfl ?_
      refine G.unwanted rfl rfl rfl rfl ?_
      refine G.unwanted rfl rfl rfl rfl ?_
      refine G.pickF rfl rfl rfl rfl rfl ?_
      refine G.move rfl rfl rfl rfl ?_
      refine G.unwanted rfl rfl rfl rfl ?_
      refine G.unwanted rfl rfl rfl rfl ?_
      refine G.pickF rfl rfl rfl rfl rfl ?_
      refine G.move rfl rfl rfl rfl ?_
      refine G.unwanted rfl rfl rfl rfl ?_
      refine G.unwanted rfl rfl rfl rfl ?_
      refine G.pickF rfl rfl rfl rfl rfl ?_
      refine G.assign rfl rfl rfl rfl ?_
      refine G.regionEnd ?_
      refine G.drop ?_
      refine G.drop ?_
      refine G.drop ?_
      refine G.drop ?_
      refine G.drop ?_
      obtain rfl := Option.some.inj h
      exact G.ret1 Try.func7 rfl rfl (fun w hs => ⟨_, _, rfl, ⟨rfl, rfl⟩, hs⟩)
  intro J246
  refine G.inl (n' := 62) rfl rfl rfl rfl call8 Try.func8 rfl Try.ntmps8 rfl rfl ?_
  intro R3 rt4
  refine G.seq ?_
  refine G.region (l := [0, 1, 2, 3]) rfl ?_
  refine G.box (dk := (Kd.int .i64)) (y := 4) rfl rfl rfl rfl ⟨([.int .i64 4] : List Value), rfl, rfl⟩ ?_
  intro g247
  refine G.box (dk := (Kd.int .i64)) (y := 10) rfl rfl rfl rfl ⟨([.int .i64 10] : List Value), rfl, rfl⟩ ?_
  intro g249
  refine G.assign rfl rfl rfl rfl ?_
  refine G.assign rfl rfl rfl rfl ?_
  refine G.regionEnd ?_
  refine G.seq ?_
  refine G.region (l := [0, 1]) rfl ?_
  refine G.makeFunc (fs := []) (cs := [.pointer (some ⟨g247, 0, none⟩), .pointer (some ⟨g249, 0, none⟩)]) rfl rfl rfl rfl rfl ?_
  refine G.assign rfl rfl rfl rfl ?_
  refine G.regionEnd ?_
  refine G.seq ?_
  refine G.seq ?_
  refine G.region (l := [0, 1, 2, 3, 4, 5, 6, 7, 8, 9, 10, 11, 12, 13, 14, 15]) rfl ?_
  refine G.loadI (y := 4) rfl rfl rfl rfl ty3 (fun w hs => Rd.bk (Lens.id _ _) hs (j := 1) rfl) ?_
  refine G.cmp (False) rfl rfl rfl rfl rfl rfl (by simp [cmpP]) ?_
  refine G.move rfl rfl rfl rfl ?_
  refine G.loadI (y := 10) rfl rfl rfl rfl ty3 (fun w hs => Rd.bk (Lens.id _ _) hs (j := 0) rfl) ?_
  refine G.loadI (y := 4) rfl rfl rfl rfl ty3 (fun w hs => Rd.bk (Lens.id _ _) hs (j := 1) rfl) ?_
  refine G.cmp (False) rfl rfl rfl rfl rfl rfl (by simp [cmpP]) ?_
  refine G.pickF rfl rfl rfl rfl rfl ?_
  refine G.move rfl rfl rfl rfl ?_
  refine G.loadI (y := 10) rfl rfl rfl rfl ty3 (fun w hs => Rd.bk (Lens.id _ _) hs (j := 0) rfl) ?_
  refine G.cmp (False) rfl rfl rfl rfl rfl rfl (by simp [cmpP]) ?_
  refine G.pickF rfl rfl rfl rfl rfl ?_
  refine G.move rfl rfl rfl rfl ?_
  refine G.move rfl rfl rfl rfl ?_
  refine G.move rfl rfl rfl rfl ?_
  refine G.rest (l1 := [14]) (l2 := [15]) (fun GG K => ∀ (b298 : Bool), armoirelaw06_live.j1 b298 = some r → GG H [(2, .slice B1 (([5] : List Int).length) 1), (3, .pointer (some ⟨g247, 0, none⟩)), (4, .pointer (some ⟨g249, 0, none⟩)), (24, .bool false), (27, .bool b298)] (OS 3 (Kd.int .i64) B1 1 ([5] : List Int) :: BK 3 (Kd.int .i64) g247 4 :: BK 3 (Kd.int .i64) g249 10 :: Fr) K) ?_ ?_
  · intro b298 h
    unfold armoirelaw06_live.j1 at h
    refine G.pickF rfl rfl rfl rfl rfl ?_
    refine G.regionEnd ?_
    refine G.cond rfl (fun k357 => ?_) (fun k357 => ?_)
    · replace h := ifT h k357
      refine G.seq ?_
      refine G.region (l := [0, 1]) rfl ?_
      refine G.assign rfl rfl rfl rfl ?_
      refine G.assign rfl rfl rfl rfl ?_
      refine G.regionEnd ?_
      refine G.retN (rs := [.tmp 6, .tmp 7]) Try.func8 rfl rfl rfl (rt4 _ _ _ ?_)
      refine G.move rfl rfl rfl rfl ?_
      refine G.extract rfl rfl rfl rfl rfl ?_
      refine G.extract rfl rfl rfl rfl rfl ?_
      refine G.assign rfl rfl rfl rfl ?_
      refine G.assign rfl rfl rfl rfl ?_
      refine G.regionEnd ?_
      refine G.seq ?_
      refine G.seq ?_
      refine G.region (l := [0, 1, 2, 3, 4, 5]) rfl ?_
      refine G.move rfl rfl rfl rfl ?_
      refine G.eqPtr (a := none) (b := none) (r := true) rfl rfl rfl rfl rfl Try.underlying24 (by simp) ?_
      refine G.move rfl rfl rfl rfl ?_
      refine G.unwanted rfl rfl rfl rfl ?_
      refine G.unwanted rfl rfl rfl rfl ?_
      refine G.pickT rfl rfl rfl rfl rfl ?_
      refine G.regionEnd ?_
      refine G.condT rfl ?_
      refine G.seq ?_
      refine G.region (l := [0]) rfl ?_
      refine G.assign rfl rfl rfl rfl ?_
      refine G.regionEnd ?_
      refine G.drop ?_
      refine G.drop ?_
      refine G.drop ?_
      obtain rfl := Option.some.inj h
      exact G.ret1 Try.func7 rfl rfl (fun w hs => ⟨_, _, rfl, ⟨rfl, rfl⟩, hs⟩)
    · replace h := ifFB h k357
      refine G.skip ?_
      refine G.seq ?_
      obtain ⟨k301, h⟩ := guardS h
      refine G.draw armoirelaw06_live.ds8_4 8 [0, 1, 2, 3, 4, 5, 6, 7] [0, 0, 0, 1, 2, 3, 4, 5] [0, 0, 0, 1, 2, 3, 4, 5] rfl (by kernel_rfl) (by kernel_rfl) (by kernel_rfl) (by kernel_rfl) ?_
      intro C354 ops355 k356
      have d14 : ∀ (B299 : Option Addr) (g302 : Nat) (l : List Nat), Ord armoirelaw06_live.ds8_4 0 [true, true, true, true, true, true, true, true] l → G C354 H [(2, .slice B1 (([5] : List Int).length) 1), (3, .pointer (some ⟨g247, 0, none⟩)), (9, .pointer (some ⟨g302, 0, none⟩))] (BK 53 K_R_free_Map g302 (R_free_Map.mk 4 (B299, (List.replicate 6 0 : List UInt8).length, 6)) :: OS 54 Kd.u8 B299 6 (List.replicate 6 0 : List UInt8) :: OS 3 (Kd.int .i64) B1 1 ([5] : List Int) :: BK 3 (Kd.int .i64) g247 4 :: BK 3 (Kd.int .i64) g249 10 :: Fr) (.inRegion ops355 l :: k356) := by
        intro B299 g302 l hl
        refine G.drawnAll hl ?_
        refine G.regionEnd ?_
        refine G.seq ?_
        refine G.seq ?_
        refine G.region (l := [0, 1, 2]) rfl ?_
        refine G.move rfl rfl rfl rfl ?_
        refine G.len (m := (([5] : List Int).length)) rfl rfl rfl rfl Try.underlying28 ?_
        refine G.move rfl rfl rfl rfl ?_
        refine G.regionEnd ?_
        refine G.block ?_
        refine G.loop (fun GG K => ∀ (d324 : Nat) (x313 : (List UInt8)) (x314 : Int), armoirelaw06_live.l0 d324 x313 x314 = some r → GG H [(3, .pointer (some ⟨g247, 0, none⟩)), (9, .pointer (some ⟨g302, 0, none⟩)), (36, .slice B1 (([5] : List Int).length) 1), (37, .int .i64 ((([5] : List Int).length) : Int)), (38, .int .i64 x314)] (BK 3 (Kd.int .i64) g247 4 :: OS 54 Kd.u8 B299 6 x313 :: BK 53 K_R_free_Map g302 (R_free_Map.mk 4 (B299, x313.length, 6)) :: OS 3 (Kd.int .i64) B1 1 ([5] : List Int) :: Fr) K) ?_ ?_
        · intro d324
          induction d324 with
          | zero => intro x313 x314 h; rw [armoirelaw06_live.l0] at h; cases h
          | succ d324 ih323 =>
            intro x313 x314 h
            rw [armoirelaw06_live.l0] at h
            refine G.seq ?_
            refine G.region (l := [0]) rfl ?_
            refine G.cmp (x314 < ((([5] : List Int).length) : Int)) rfl rfl rfl rfl rfl rfl Iff.rfl ?_
            refine G.regionEnd ?_
            refine G.seq ?_
            refine G.condP rfl (fun k344 => ?_) (fun k344 => ?_)
            · replace h := ifT h k344
              refine G.skip ?_
              refine G.seq ?_
              refine G.block ?_
              refine G.seq ?_
              refine G.region (l := [0, 1, 2]) rfl ?_
              obtain ⟨k327, h⟩ := guardS h
              have q326 : x314.toNat < ([5] : List Int).length := by omega
              refine G.indexO (xs := ([5] : List Int)) (j := x314) (off := x314.toNat * 1) rfl rfl rfl rfl rfl el28 (r := 3) rfl (by simp) k327 rfl ?_
              refine G.loadI (y := ([5] : List Int).getD x314.toNat 0) rfl rfl rfl rfl ty3 (fun w hs => Rd.osG q326 (Lens.id _ _) hs (j := 3) rfl (o := x314.toNat * 1) (by first | rfl | simp)) ?_
              refine G.assign rfl rfl rfl rfl ?_
              refine G.regionEnd ?_
              refine G.seq ?_
              refine G.seq ?_
              obtain ⟨k329, h⟩ := guardS h
              have q328 : (wi64 ((([5] : List Int).getD x314.toNat 0) - 4)).toNat < x313.length := by omega
              refine G.draw [[], [0], [1], [2], [], [], [4, 5], [3, 6], [7], [8]] 10 [0, 1, 2, 3, 4, 5, 6, 7, 8, 9] [0, 1, 2, 3, 0, 0, 1, 4, 5, 6] [0, 1, 2, 3, 0, 0, 1, 4, 5, 6] rfl (by kernel_rfl) (by kernel_rfl) (by kernel_rfl) (by kernel_rfl) ?_
              intro C339 ops340 k341
              let R342 : Reg := armoirelaw06_live.reg8_8 [(3, .pointer (some ⟨g247, 0, none⟩)), (9, .pointer (some ⟨g302, 0, none⟩)), (11, .int .i64 (([5] : List Int).getD x314.toNat 0)), (36, .slice B1 (([5] : List Int).length) 1), (37, .int .i64 ((([5] : List Int).length) : Int)), (38, .int .i64 x314)]
              have P343 : ∀ (m : Nat) (L : List Bool) (A : List (Nat × Value)) (l : List Nat), L.length = R342.ds.length → R342.Phi [some (.pointer (some ⟨g302, 0, none⟩)), some (.pointer (some ⟨g302, 0, none⟩)), some (.pointer (some ⟨g302, 1, none⟩)), some (.slice B299 x313.length 6), some (.int .i64 (([5] : List Int).getD x314.toNat 0)), some (.int .i64 4), some (.int .i64 (wi64 ((([5] : List Int).getD x314.toNat 0) - 4))), some (.pointer (some (plc B299 ((wi64 ((([5] : List Int).getD x314.toNat 0) - 4)).toNat * 1)))), some (u8V (x313.getD ((wi64 ((([5] : List Int).getD x314.toNat 0) - 4)).toNat) 0)), some (.bool (decide ((x313.getD ((wi64 ((([5] : List Int).getD x314.toNat 0) - 4)).toNat) 0) ≠ 0)))] [] [] L A → left L = m → Ord R342.ds m L l → G C339 H A (BK 3 (Kd.int .i64) g247 4 :: OS 54 Kd.u8 B299 6 x313 :: BK 53 K_R_free_Map g302 (R_free_Map.mk 4 (B299, x313.length, 6)) :: OS 3 (Kd.int .i64) B1 1 ([5] : List Int) :: Fr) (.inRegion ops340 l :: k341) := by
                refine G.phase R342 [some (.pointer (some ⟨g302, 0, none⟩)), some (.pointer (some ⟨g302, 0, none⟩)), some (.pointer (some ⟨g302, 1, none⟩)), some (.slice B299 x313.length 6), some (.int .i64 (([5] : List Int).getD x314.toNat 0)), some (.int .i64 4), some (.int .i64 (wi64 ((([5] : List Int).getD x314.toNat 0) - 4))), some (.pointer (some (plc B299 ((wi64 ((([5] : List Int).getD x314.toNat 0) - 4)).toNat * 1)))), some (u8V (x313.getD ((wi64 ((([5] : List Int).getD x314.toNat 0) - 4)).toNat) 0)), some (.bool (decide ((x313.getD ((wi64 ((([5] : List Int).getD x314.toNat 0) - 4)).toNat) 0) ≠ 0)))] [0, 1, 2, 3, 4, 5, 6, 7, 8, 9] [] [] [] (armoirelaw06_live.reg8_8_ap _) rfl rfl ⟨⟨[.base 9], 42, .pointer (some ⟨g302, 0, none⟩), [(9, .pointer (some ⟨g302, 0, none⟩))], ⟨rfl, rfl, rfl, rfl, ?_⟩⟩, ⟨⟨[.op 0], 43, .pointer (some ⟨g302, 0, none⟩), [(42, .pointer (some ⟨g302, 0, none⟩))], ⟨rfl, rfl, rfl, rfl, ?_⟩⟩, ⟨⟨[.op 1], 44, .pointer (some ⟨g302, 1, none⟩), [(43, .pointer (some ⟨g302, 0, none⟩))], ⟨rfl, rfl, rfl, rfl, ?_⟩⟩, ⟨⟨[.op 2], 45, .slice B299 x313.length 6, [(44, .pointer (some ⟨g302, 1, none⟩))], ⟨rfl, rfl, rfl, rfl, ?_⟩⟩, ⟨⟨[.base 11], 46, .int .i64 (([5] : List Int).getD x314.toNat 0), [(11, .int .i64 (([5] : List Int).getD x314.toNat 0))], ⟨rfl, rfl, rfl, rfl, ?_⟩⟩, ⟨⟨[.base 3], 47, .int .i64 4, [(3, .pointer (some ⟨g247, 0, none⟩))], ⟨rfl, rfl, rfl, rfl, ?_⟩⟩, ⟨⟨[.op 4, .op 5], 48, .int .i64 (wi64 ((([5] : List Int).getD x314.toNat 0) - 4)), [(46, .int .i64 (([5] : List Int).getD x314.toNat 0)), (47, .int .i64 4)], ⟨rfl, rfl, rfl, rfl, ?_⟩⟩, ⟨⟨[.op 3, .op 6], 49, .pointer (some (plc B299 ((wi64 ((([5] : List Int).getD x314.toNat 0) - 4)).toNat * 1))), [(45, .slice B299 x313.length 6), (48, .int .i64 (wi64 ((([5] : List Int).getD x314.toNat 0) - 4)))], ⟨rfl, rfl, rfl, rfl, ?_⟩⟩, ⟨⟨[.op 7], 50, u8V (x313.getD ((wi64 ((([5] : List Int).getD x314.toNat 0) - 4)).toNat) 0), [(49, .pointer (some (plc B299 ((wi64 ((([5] : List Int).getD x314.toNat 0) - 4)).toNat * 1))))], ⟨rfl, rfl, rfl, rfl, ?_⟩⟩, ⟨⟨[.op 8], 51, .bool (decide ((x313.getD ((wi64 ((([5] : List Int).getD x314.toNat 0) - 4)).toNat) 0) ≠ 0)), [(50, u8V (x313.getD ((wi64 ((([5] : List Int).getD x314.toNat 0) - 4)).toNat) 0))], ⟨rfl, rfl, rfl, rfl, ?_⟩⟩, trivial⟩⟩⟩⟩⟩⟩⟩⟩⟩⟩ trivial ?_
                · intro X rest g
                  refine G.move rfl rfl rfl rfl ?_
                  exact g
                · intro X rest g
                  refine G.nilCheck rfl rfl rfl rfl ?_
                  exact g
                · intro X rest g
                  refine G.field (off' := 1) rfl rfl rfl rfl Try.underlying53 rfl sz51 rfl rfl ?_
                  exact g
                · intro X rest g
                  refine G.loadH (B := B299) (m := x313.length) (c := 6) rfl rfl rfl rfl ty51r (fun w hs => Rd.bk (R_free_Map.L_kinds _) hs (j := 2) rfl) ?_
                  exact g
                · intro X rest g
                  refine G.move rfl rfl rfl rfl ?_
                  exact g
                · intro X rest g
                  refine G.loadI (y := 4) rfl rfl rfl rfl ty3 (fun w hs => Rd.bk (Lens.id _ _) hs (j := 0) rfl) ?_
                  exact g
                · intro X rest g
                  refine G.bin (m := ([5] : List Int).getD x314.toNat 0) (n := 4) (r := wi64 ((([5] : List Int).getD x314.toNat 0) - 4)) rfl rfl rfl rfl rfl rfl rfl ?_
                  exact g
                · intro X rest g
                  refine G.indexO (xs := x313) (j := wi64 ((([5] : List Int).getD x314.toNat 0) - 4)) (off := (wi64 ((([5] : List Int).getD x314.toNat 0) - 4)).toNat * 1) rfl rfl rfl rfl rfl el51 (r := 1) rfl (by simp) k329 rfl ?_
                  exact g
                · intro X rest g
                  refine G.load8 (y := x313.getD ((wi64 ((([5] : List Int).getD x314.toNat 0) - 4)).toNat) 0) rfl rfl rfl rfl ty54 (fun w hs => Rd.osG q328 (Lens.id _ _) hs (j := 1) rfl (o := (wi64 ((([5] : List Int).getD x314.toNat 0) - 4)).toNat * 1) (by first | rfl | simp)) ?_
                  exact g
                · intro X rest g
                  refine G.cmp ((x313.getD ((wi64 ((([5] : List Int).getD x314.toNat 0) - 4)).toNat) 0) ≠ 0) rfl rfl rfl rfl rfl rfl (c8_neq (x313.getD ((wi64 ((([5] : List Int).getD x314.toNat 0) - 4)).toNat) 0) 0) ?_
                  exact g
                · intro A L hlen hp h0
                  refine G.lessSub (B := [(3, .pointer (some ⟨g247, 0, none⟩)), (9, .pointer (some ⟨g302, 0, none⟩)), (11, .int .i64 (([5] : List Int).getD x314.toNat 0)), (36, .slice B1 (([5] : List Int).length) 1), (37, .int .i64 ((([5] : List Int).length) : Int)), (38, .int .i64 x314), (51, .bool (decide ((x313.getD ((wi64 ((([5] : List Int).getD x314.toNat 0) - 4)).toNat) 0) ≠ 0)))]) (hp.fin hlen h0 (src := [.base 3, .base 9, .base 11, .base 36, .base 37, .base 38, .op 9]) rfl) ?_
                  refine G.regionEnd ?_
                  refine G.condP rfl (fun k338 => ?_) (fun k338 => ?_)
                  · replace h := ifT h k338
                    refine G.seq ?_
                    refine G.region (l := [0, 1]) rfl ?_
                    refine G.assign rfl rfl rfl rfl ?_
                    refine G.assign rfl rfl rfl rfl ?_
                    refine G.regionEnd ?_
                    refine G.retN (rs := [.tmp 6, .tmp 7]) Try.func8 rfl rfl rfl (rt4 _ _ _ ?_)
                    refine G.move rfl rfl rfl rfl ?_
                    refine G.extract rfl rfl rfl rfl rfl ?_
                    refine G.extract rfl rfl rfl rfl rfl ?_
                    refine G.assign rfl rfl rfl rfl ?_
                    refine G.assign rfl rfl rfl rfl ?_
                    refine G.regionEnd ?_
                    refine G.seq ?_
                    refine G.seq ?_
                    refine G.region (l := [0, 1, 2, 3, 4, 5]) rfl ?_
                    refine G.move rfl rfl rfl rfl ?_
                    refine G.eqPtr (a := none) (b := none) (r := true) rfl rfl rfl rfl rfl Try.underlying24 (by simp) ?_
                    refine G.move rfl rfl rfl rfl ?_
                    refine G.unwanted rfl rfl rfl rfl ?_
                    refine G.unwanted rfl rfl rfl rfl ?_
                    refine G.pickT rfl rfl rfl rfl rfl ?_
                    refine G.regionEnd ?_
                    refine G.condT rfl ?_
                    refine G.seq ?_
                    refine G.region (l := [0]) rfl ?_
                    refine G.assign rfl rfl rfl rfl ?_
                    refine G.regionEnd ?_
                    refine G.drop ?_
                    refine G.drop ?_
                    refine G.drop ?_
                    refine G.drop ?_
                    obtain rfl := Option.some.inj h
                    exact G.ret1 Try.func7 rfl rfl (fun w hs => ⟨_, _, rfl, ⟨rfl, rfl⟩, hs⟩)
                  · replace h := ifF h k338
                    refine G.skip ?_
                    obtain ⟨k331, h⟩ := guardS h
                    have q330 : (wi64 ((([5] : List Int).getD x314.toNat 0) - 4)).toNat < x313.length := by omega
                    refine G.draw [[], [0], [1], [2], [], [], [4, 5], [3, 6, 0, 1, 2, 3, 4, 5, 6], [7, 0, 1, 2, 3, 4, 5, 6]] 9 [0, 1, 2, 3, 4, 5, 6, 7, 8] [0, 1, 2, 3, 0, 0, 1, 4, 5] [0, 1, 2, 3, 0, 0, 1, 4, 5] rfl (by kernel_rfl) (by kernel_rfl) (by kernel_rfl) (by kernel_rfl) ?_
                    intro C332 ops333 k334
                    let R335 : Reg := armoirelaw06_live.reg8_10 [(3, .pointer (some ⟨g247, 0, none⟩)), (9, .pointer (some ⟨g302, 0, none⟩)), (11, .int .i64 (([5] : List Int).getD x314.toNat 0)), (36, .slice B1 (([5] : List Int).length) 1), (37, .int .i64 ((([5] : List Int).length) : Int)), (38, .int .i64 x314)]
                    have P337 : ∀ (m : Nat) (L : List Bool) (A : List (Nat × Value)) (l : List Nat), L.length = R335.ds.length → R335.Phi [some (.pointer (some ⟨g302, 0, none⟩)), some (.pointer (some ⟨g302, 0, none⟩)), some (.pointer (some ⟨g302, 1, none⟩)), some (.slice B299 x313.length 6), some (.int .i64 (([5] : List Int).getD x314.toNat 0)), some (.int .i64 4), some (.int .i64 (wi64 ((([5] : List Int).getD x314.toNat 0) - 4))), some (.pointer (some (plc B299 ((wi64 ((([5] : List Int).getD x314.toNat 0) - 4)).toNat * 1)))), none] [0, 1, 2, 3, 4, 5, 6, 7, 8] [] L A → left L = m → Ord R335.ds m L l → G C332 H A (OS 54 Kd.u8 B299 6 (x313.set ((wi64 ((([5] : List Int).getD x314.toNat 0) - 4)).toNat) 1) :: BK 3 (Kd.int .i64) g247 4 :: BK 53 K_R_free_Map g302 (R_free_Map.mk 4 (B299, x313.length, 6)) :: OS 3 (Kd.int .i64) B1 1 ([5] : List Int) :: Fr) (.inRegion ops333 l :: k334) := by
                      refine G.phase R335 [some (.pointer (some ⟨g302, 0, none⟩)), some (.pointer (some ⟨g302, 0, none⟩)), some (.pointer (some ⟨g302, 1, none⟩)), some (.slice B299 x313.length 6), some (.int .i64 (([5] : List Int).getD x314.toNat 0)), some (.int .i64 4), some (.int .i64 (wi64 ((([5] : List Int).getD x314.toNat 0) - 4))), some (.pointer (some (plc B299 ((wi64 ((([5] : List Int).getD x314.toNat 0) - 4)).toNat * 1)))), none] [] [] [0, 1, 2, 3, 4, 5, 6, 7, 8] [] (armoirelaw06_live.reg8_10_ap _) rfl rfl trivial trivial ?_
                      · intro A L hlen hp h0
                        refine G.lessSub (B := [(3, .pointer (some ⟨g247, 0, none⟩)), (9, .pointer (some ⟨g302, 0, none⟩)), (36, .slice B1 (([5] : List Int).length) 1), (37, .int .i64 ((([5] : List Int).length) : Int)), (38, .int .i64 x314)]) (hp.fin hlen h0 (src := [.base 3, .base 9, .base 36, .base 37, .base 38]) rfl) ?_
                        refine G.regionEnd ?_
                        refine G.inBlock ?_
                        refine G.region (l := [0, 1]) rfl ?_
                        refine G.bin (m := x314) (n := 1) (r := wi64 (x314 + 1)) rfl rfl rfl rfl rfl rfl rfl ?_
                        refine G.move rfl rfl rfl rfl ?_
                        refine G.regionEnd ?_
                        refine G.round ?_
                        refine G.frontAt 2 rfl ?_
                        refine G.headEq (r' := BK 53 K_R_free_Map g302 (R_free_Map.mk 4 (B299, (x313.set ((wi64 ((([5] : List Int).getD x314.toNat 0) - 4)).toNat) 1).length, 6))) (by first | (simp; done) | (simp; omega)) ?_
                        refine G.frontAt 3 rfl ?_
                        refine G.frontAt 1 rfl ?_
                        refine G.frontAt 2 rfl ?_
                        refine G.frontAt 3 rfl ?_
                        refine G.less ?_ (ih323  (x313.set ((wi64 ((([5] : List Int).getD x314.toNat 0) - 4)).toNat) 1) (wi64 (x314 + 1)) h)
                        exact ⟨rfl, rfl, rfl, rfl, rfl, trivial⟩
                    have P336 : ∀ (m : Nat) (L : List Bool) (A : List (Nat × Value)) (l : List Nat), L.length = R335.ds.length → R335.Phi [some (.pointer (some ⟨g302, 0, none⟩)), some (.pointer (some ⟨g302, 0, none⟩)), some (.pointer (some ⟨g302, 1, none⟩)), some (.slice B299 x313.length 6), some (.int .i64 (([5] : List Int).getD x314.toNat 0)), some (.int .i64 4), some (.int .i64 (wi64 ((([5] : List Int).getD x314.toNat 0) - 4))), some (.pointer (some (plc B299 ((wi64 ((([5] : List Int).getD x314.toNat 0) - 4)).toNat * 1)))), none] [] [8] L A → left L = m → Ord R335.ds m L l → G C332 H A (BK 3 (Kd.int .i64) g247 4 :: OS 54 Kd.u8 B299 6 x313 :: BK 53 K_R_free_Map g302 (R_free_Map.mk 4 (B299, x313.length, 6)) :: OS 3 (Kd.int .i64) B1 1 ([5] : List Int) :: Fr) (.inRegion ops333 l :: k334) := by
                      refine G.phase R335 [some (.pointer (some ⟨g302, 0, none⟩)), some (.pointer (some ⟨g302, 0, none⟩)), some (.pointer (some ⟨g302, 1, none⟩)), some (.slice B299 x313.length 6), some (.int .i64 (([5] : List Int).getD x314.toNat 0)), some (.int .i64 4), some (.int .i64 (wi64 ((([5] : List Int).getD x314.toNat 0) - 4))), some (.pointer (some (plc B299 ((wi64 ((([5] : List Int).getD x314.toNat 0) - 4)).toNat * 1)))), none] [0, 1, 2, 3, 4, 5, 6, 7] [8] [] [8] (armoirelaw06_live.reg8_10_ap _) rfl rfl ⟨⟨[.base 9], 52, .pointer (some ⟨g302, 0, none⟩), [(9, .pointer (some ⟨g302, 0, none⟩))], ⟨rfl, rfl, rfl, rfl, ?_⟩⟩, ⟨⟨[.op 0], 53, .pointer (some ⟨g302, 0, none⟩), [(52, .pointer (some ⟨g302, 0, none⟩))], ⟨rfl, rfl, rfl, rfl, ?_⟩⟩, ⟨⟨[.op 1], 54, .pointer (some ⟨g302, 1, none⟩), [(53, .pointer (some ⟨g302, 0, none⟩))], ⟨rfl, rfl, rfl, rfl, ?_⟩⟩, ⟨⟨[.op 2], 55, .slice B299 x313.length 6, [(54, .pointer (some ⟨g302, 1, none⟩))], ⟨rfl, rfl, rfl, rfl, ?_⟩⟩, ⟨⟨[.base 11], 56, .int .i64 (([5] : List Int).getD x314.toNat 0), [(11, .int .i64 (([5] : List Int).getD x314.toNat 0))], ⟨rfl, rfl, rfl, rfl, ?_⟩⟩, ⟨⟨[.base 3], 57, .int .i64 4, [(3, .pointer (some ⟨g247, 0, none⟩))], ⟨rfl, rfl, rfl, rfl, ?_⟩⟩, ⟨⟨[.op 4, .op 5], 58, .int .i64 (wi64 ((([5] : List Int).getD x314.toNat 0) - 4)), [(56, .int .i64 (([5] : List Int).getD x314.toNat 0)), (57, .int .i64 4)], ⟨rfl, rfl, rfl, rfl, ?_⟩⟩, ⟨⟨[.op 3, .op 6], 59, .pointer (some (plc B299 ((wi64 ((([5] : List Int).getD x314.toNat 0) - 4)).toNat * 1))), [(55, .slice B299 x313.length 6), (58, .int .i64 (wi64 ((([5] : List Int).getD x314.toNat 0) - 4)))], ⟨rfl, rfl, rfl, rfl, ?_⟩⟩, trivial⟩⟩⟩⟩⟩⟩⟩⟩ ⟨⟨[.op 7], [(59, .pointer (some (plc B299 ((wi64 ((([5] : List Int).getD x314.toNat 0) - 4)).toNat * 1))))], ⟨rfl, rfl, ?_⟩⟩, trivial⟩ ?_
                      · intro X rest g
                        refine G.move rfl rfl rfl rfl ?_
                        exact g
                      · intro X rest g
                        refine G.nilCheck rfl rfl rfl rfl ?_
                        exact g
                      · intro X rest g
                        refine G.field (off' := 1) rfl rfl rfl rfl Try.underlying53 rfl sz51 rfl rfl ?_
                        exact g
                      · intro X rest g
                        refine G.loadH (B := B299) (m := x313.length) (c := 6) rfl rfl rfl rfl ty51r (fun w hs => Rd.bk (R_free_Map.L_kinds _) hs (j := 2) rfl) ?_
                        exact g
                      · intro X rest g
                        refine G.move rfl rfl rfl rfl ?_
                        exact g
                      · intro X rest g
                        refine G.loadI (y := 4) rfl rfl rfl rfl ty3 (fun w hs => Rd.bk (Lens.id _ _) hs (j := 0) rfl) ?_
                        exact g
                      · intro X rest g
                        refine G.bin (m := ([5] : List Int).getD x314.toNat 0) (n := 4) (r := wi64 ((([5] : List Int).getD x314.toNat 0) - 4)) rfl rfl rfl rfl rfl rfl rfl ?_
                        exact g
                      · intro X rest g
                        refine G.indexO (xs := x313) (j := wi64 ((([5] : List Int).getD x314.toNat 0) - 4)) (off := (wi64 ((([5] : List Int).getD x314.toNat 0) - 4)).toNat * 1) rfl rfl rfl rfl rfl el51 (r := 1) rfl (by simp) k331 rfl ?_
                        exact g
                      · intro X rest L m hlen hp hil hd hs hm ho
                        refine G.frontAt 1 rfl ?_
                        refine G.storeO (df := Kd.u8) (y := 1) (hj := q330) (xs' := x313.set ((wi64 ((([5] : List Int).getD x314.toNat 0) - 4)).toNat) 1) rfl rfl rfl rfl (Lens.id _ _) (by first | rfl | simp) ⟨([u8V 1] : List Value), rfl, rfl⟩ sz54 rfl ?_
                        refine G.frontAt 3 rfl ?_
                        refine G.frontAt 3 rfl ?_
                        refine G.frontAt 3 rfl ?_
                        refine G.frontAt 3 rfl ?_
                        exact P337 m _ _ rest (by rw [List.length_set]; exact hlen) (hp.stepN2 1 (armoirelaw06_live.reg8_10_ap _) hil hd hs (by repeat (first | exact trivial | refine And.intro rfl ?_)) rfl rfl rfl) hm ho
                      · intro A L hlen hp h0
                        exact (hp.notYet hlen h0 8 rfl rfl).elim
                    intro l hl
                    exact P336 9 (List.replicate 9 false) _ l rfl (Reg.Phi.init 9 ⟨rfl, rfl, rfl, rfl, rfl, rfl, trivial⟩) (left_rep 9) hl
              intro l hl
              exact P343 10 (List.replicate 10 false) _ l rfl (Reg.Phi.init 10 ⟨rfl, rfl, rfl, rfl, rfl, rfl, trivial⟩) (left_rep 10) hl
            · replace h := ifF h k344
              refine G.exit rfl ?_
              refine G.seq ?_
              refine G.region (l := [0, 1, 2]) rfl ?_
              refine G.move rfl rfl rfl rfl ?_
              refine G.assign rfl rfl rfl rfl ?_
              refine G.assign rfl rfl rfl rfl ?_
              refine G.regionEnd ?_
              refine G.retN (rs := [.tmp 6, .tmp 7]) Try.func8 rfl rfl rfl (rt4 _ _ _ ?_)
              refine G.drop ?_
              refine G.frontAt 2 rfl ?_
              refine G.drop ?_
              refine G.frontAt 1 rfl ?_
              refine G.frontAt 1 rfl ?_
              refine G.less ?_ (J246  g302 B299 6 x313 h)
              exact ⟨rfl, trivial⟩
        intro J345
        refine G.frontAt 4 rfl ?_
        refine G.drop ?_
        refine G.frontAt 2 rfl ?_
        refine G.frontAt 1 rfl ?_
        refine G.frontAt 2 rfl ?_
        refine G.frontAt 3 rfl ?_
        refine G.less ?_ (J345 FUEL  (List.replicate 6 0 : List UInt8) 0 h)
        exact ⟨rfl, rfl, rfl, rfl, rfl, trivial⟩
      have d13 : ∀ (B299 : Option Addr) (g302 : Nat) (l : List Nat), Ord armoirelaw06_live.ds8_4 1 [true, true, true, true, true, true, true, false] l → G C354 H [(2, .slice B1 (([5] : List Int).length) 1), (3, .pointer (some ⟨g247, 0, none⟩)), (35, .pointer (some ⟨g302, 0, none⟩))] (BK 53 K_R_free_Map g302 (R_free_Map.mk 4 (B299, (List.replicate 6 0 : List UInt8).length, 6)) :: OS 54 Kd.u8 B299 6 (List.replicate 6 0 : List UInt8) :: OS 3 (Kd.int .i64) B1 1 ([5] : List Int) :: BK 3 (Kd.int .i64) g247 4 :: BK 3 (Kd.int .i64) g249 10 :: Fr) (.inRegion ops355 l :: k356) := by
        intro B299 g302 l hl
        refine G.fork [7] hl rfl (And.intro ?_ trivial)
        · intro rest ho
          refine G.assign rfl rfl rfl rfl ?_
          refine G.frontAt 4 rfl ?_
          refine G.frontAt 4 rfl ?_
          refine G.frontAt 4 rfl ?_
          refine G.frontAt 4 rfl ?_
          refine G.frontAt 4 rfl ?_
          refine G.less ?_ (d14 B299 g302 rest ho)
          exact ⟨rfl, rfl, rfl, trivial⟩
      have d12 : ∀ (B299 : Option Addr) (l : List Nat), Ord armoirelaw06_live.ds8_4 2 [true, true, true, true, true, true, false, false] l → G C354 H [(2, .slice B1 (([5] : List Int).length) 1), (3, .pointer (some ⟨g247, 0, none⟩)), (34, .agg (([.int .i64 4] : List Value) ++ (([.slice B299 ((List.replicate 6 0 : List UInt8).length) 6] : List Value))).toArray)] (OS 54 Kd.u8 B299 6 (List.replicate 6 0 : List UInt8) :: OS 3 (Kd.int .i64) B1 1 ([5] : List Int) :: BK 3 (Kd.int .i64) g247 4 :: BK 3 (Kd.int .i64) g249 10 :: Fr) (.inRegion ops355 l :: k356) := by
        intro B299 l hl
        refine G.fork [6] hl rfl (And.intro ?_ trivial)
        · intro rest ho
          refine G.box (dk := K_R_free_Map) (y := (R_free_Map.mk 4 (B299, (List.replicate 6 0 : List UInt8).length, 6))) rfl rfl rfl rfl (VR.A (cs := ([.int .i64 4] : List Value) ++ (([.slice B299 ((List.replicate 6 0 : List UInt8).length) 6] : List Value))) (K_R_free_Map.mk rfl rfl)) ?_
          intro g302
          refine G.frontAt 4 rfl ?_
          refine G.frontAt 4 rfl ?_
          refine G.frontAt 4 rfl ?_
          refine G.frontAt 4 rfl ?_
          refine G.frontAt 4 rfl ?_
          refine G.less ?_ (d13 B299 g302 rest ho)
          exact ⟨rfl, rfl, rfl, trivial⟩
      have d11 : ∀ (B299 : Option Addr) (l : List Nat), Ord armoirelaw06_live.ds8_4 3 [true, true, true, true, true, false, false, false] l → G C354 H [(2, .slice B1 (([5] : List Int).length) 1), (3, .pointer (some ⟨g247, 0, none⟩)), (29, .int .i64 4), (33, .slice B299 6 6)] (OS 54 Kd.u8 B299 6 (List.replicate 6 0 : List UInt8) :: OS 3 (Kd.int .i64) B1 1 ([5] : List Int) :: BK 3 (Kd.int .i64) g247 4 :: BK 3 (Kd.int .i64) g249 10 :: Fr) (.inRegion ops355 l :: k356) := by
        intro B299 l hl
        refine G.fork [5] hl rfl (And.intro ?_ trivial)
        · intro rest ho
          refine G.same (d := 33) (v := .slice B299 ((List.replicate 6 0 : List UInt8).length) 6) rfl (by first | (simp; done) | (simp; omega)) ?_
          refine G.build (z := .agg (([.int .i64 0] : List Value) ++ (([.slice none 0 0] : List Value))).toArray) (pl := [(0, 1), (1, 1)]) (cs := ([.int .i64 4] : List Value) ++ (([.slice B299 ((List.replicate 6 0 : List UInt8).length) 6] : List Value))) rfl rfl rfl Try.underlying53 (by kernel_rfl) rfl (by kernel_rfl) (by kernel_rfl) rfl ?_
          refine G.frontAt 3 rfl ?_
          refine G.frontAt 3 rfl ?_
          refine G.frontAt 3 rfl ?_
          refine G.frontAt 3 rfl ?_
          refine G.less ?_ (d12 B299 rest ho)
          exact ⟨rfl, rfl, rfl, trivial⟩
      have d10 : ∀ (B299 : Option Addr) (l : List Nat), Ord armoirelaw06_live.ds8_4 4 [false, true, true, true, true, false, false, false] l → G C354 H [(2, .slice B1 (([5] : List Int).length) 1), (3, .pointer (some ⟨g247, 0, none⟩)), (33, .slice B299 6 6)] (OS 54 Kd.u8 B299 6 (List.replicate 6 0 : List UInt8) :: OS 3 (Kd.int .i64) B1 1 ([5] : List Int) :: BK 3 (Kd.int .i64) g247 4 :: BK 3 (Kd.int .i64) g249 10 :: Fr) (.inRegion ops355 l :: k356) := by
        intro B299 l hl
        refine G.fork [0] hl rfl (And.intro ?_ trivial)
        · intro rest ho
          refine G.loadI (y := 4) rfl rfl rfl rfl ty3 (fun w hs => Rd.bk (Lens.id _ _) hs (j := 2) rfl) ?_
          refine G.frontAt 3 rfl ?_
          refine G.frontAt 3 rfl ?_
          refine G.frontAt 3 rfl ?_
          refine G.frontAt 3 rfl ?_
          refine G.less ?_ (d11 B299 rest ho)
          exact ⟨rfl, rfl, rfl, rfl, trivial⟩
      have d9 : ∀ (l : List Nat), Ord armoirelaw06_live.ds8_4 4 [true, true, true, true, false, false, false, false] l → G C354 H [(2, .slice B1 (([5] : List Int).length) 1), (3, .pointer (some ⟨g247, 0, none⟩)), (29, .int .i64 4), (32, .int .i64 6)] (OS 3 (Kd.int .i64) B1 1 ([5] : List Int) :: BK 3 (Kd.int .i64) g247 4 :: BK 3 (Kd.int .i64) g249 10 :: Fr) (.inRegion ops355 l :: k356) := by
        intro  l hl
        refine G.fork [4] hl rfl (And.intro ?_ trivial)
        · intro rest ho
          refine G.makeSlice (df := Kd.u8) (z0 := 0) (m := 6) (c := 6) (z := .int .u8 0) (cz := ([u8V 0] : List Value)) rfl rfl rfl rfl rfl el51 (by kernel_rfl) rfl (rfl) rfl k301 ?_
          intro B299
          refine G.frontAt 3 rfl ?_
          refine G.frontAt 3 rfl ?_
          refine G.frontAt 3 rfl ?_
          refine G.frontAt 3 rfl ?_
          refine G.less ?_ (d11 B299 rest ho)
          exact ⟨rfl, rfl, rfl, rfl, trivial⟩
      have d8 : ∀ (l : List Nat), Ord armoirelaw06_live.ds8_4 5 [false, true, true, true, false, false, false, false] l → G C354 H [(2, .slice B1 (([5] : List Int).length) 1), (3, .pointer (some ⟨g247, 0, none⟩)), (32, .int .i64 6)] (OS 3 (Kd.int .i64) B1 1 ([5] : List Int) :: BK 3 (Kd.int .i64) g247 4 :: BK 3 (Kd.int .i64) g249 10 :: Fr) (.inRegion ops355 l :: k356) := by
        intro  l hl
        refine G.fork [0, 4] hl rfl (And.intro ?_ (And.intro ?_ trivial))
        · intro rest ho
          refine G.loadI (y := 4) rfl rfl rfl rfl ty3 (fun w hs => Rd.bk (Lens.id _ _) hs (j := 1) rfl) ?_
          refine G.frontAt 2 rfl ?_
          refine G.frontAt 2 rfl ?_
          refine G.frontAt 2 rfl ?_
          refine G.less ?_ (d9 rest ho)
          exact ⟨rfl, rfl, rfl, rfl, trivial⟩
        · intro rest ho
          refine G.makeSlice (df := Kd.u8) (z0 := 0) (m := 6) (c := 6) (z := .int .u8 0) (cz := ([u8V 0] : List Value)) rfl rfl rfl rfl rfl el51 (by kernel_rfl) rfl (rfl) rfl k301 ?_
          intro B299
          refine G.frontAt 3 rfl ?_
          refine G.frontAt 3 rfl ?_
          refine G.frontAt 3 rfl ?_
          refine G.frontAt 3 rfl ?_
          refine G.less ?_ (d10 B299 rest ho)
          exact ⟨rfl, rfl, rfl, trivial⟩
      have d7 : ∀ (l : List Nat), Ord armoirelaw06_live.ds8_4 5 [true, true, true, false, false, false, false, false] l → G C354 H [(2, .slice B1 (([5] : List Int).length) 1), (3, .pointer (some ⟨g247, 0, none⟩)), (29, .int .i64 4), (30, .int .i64 10), (31, .int .i64 4)] (OS 3 (Kd.int .i64) B1 1 ([5] : List Int) :: BK 3 (Kd.int .i64) g247 4 :: BK 3 (Kd.int .i64) g249 10 :: Fr) (.inRegion ops355 l :: k356) := by
        intro  l hl
        refine G.fork [3] hl rfl (And.intro ?_ trivial)
        · intro rest ho
          refine G.bin (m := 10) (n := 4) (r := 6) rfl rfl rfl rfl rfl rfl (by decide +kernel) ?_
          refine G.frontAt 2 rfl ?_
          refine G.frontAt 2 rfl ?_
          refine G.frontAt 2 rfl ?_
          refine G.less ?_ (d9 rest ho)
          exact ⟨rfl, rfl, rfl, rfl, trivial⟩
      have d6 : ∀ (l : List Nat), Ord armoirelaw06_live.ds8_4 6 [false, true, true, false, false, false, false, false] l → G C354 H [(2, .slice B1 (([5] : List Int).length) 1), (3, .pointer (some ⟨g247, 0, none⟩)), (30, .int .i64 10), (31, .int .i64 4)] (OS 3 (Kd.int .i64) B1 1 ([5] : List Int) :: BK 3 (Kd.int .i64) g247 4 :: BK 3 (Kd.int .i64) g249 10 :: Fr) (.inRegion ops355 l :: k356) := by
        intro  l hl
        refine G.fork [0, 3] hl rfl (And.intro ?_ (And.intro ?_ trivial))
        · intro rest ho
          refine G.loadI (y := 4) rfl rfl rfl rfl ty3 (fun w hs => Rd.bk (Lens.id _ _) hs (j := 1) rfl) ?_
          refine G.frontAt 2 rfl ?_
          refine G.frontAt 2 rfl ?_
          refine G.frontAt 2 rfl ?_
          refine G.less ?_ (d7 rest ho)
          exact ⟨rfl, rfl, rfl, rfl, rfl, trivial⟩
        · intro rest ho
          refine G.bin (m := 10) (n := 4) (r := 6) rfl rfl rfl rfl rfl rfl (by decide +kernel) ?_
          refine G.frontAt 2 rfl ?_
          refine G.frontAt 2 rfl ?_
          refine G.frontAt 2 rfl ?_
          refine G.less ?_ (d8 rest ho)
          exact ⟨rfl, rfl, rfl, trivial⟩
      have d5 : ∀ (l : List Nat), Ord armoirelaw06_live.ds8_4 6 [true, false, true, false, false, false, false, false] l → G C354 H [(2, .slice B1 (([5] : List Int).length) 1), (3, .pointer (some ⟨g247, 0, none⟩)), (4, .pointer (some ⟨g249, 0, none⟩)), (29, .int .i64 4), (31, .int .i64 4)] (OS 3 (Kd.int .i64) B1 1 ([5] : List Int) :: BK 3 (Kd.int .i64) g247 4 :: BK 3 (Kd.int .i64) g249 10 :: Fr) (.inRegion ops355 l :: k356) := by
        intro  l hl
        refine G.fork [1] hl rfl (And.intro ?_ trivial)
        · intro rest ho
          refine G.loadI (y := 10) rfl rfl rfl rfl ty3 (fun w hs => Rd.bk (Lens.id _ _) hs (j := 2) rfl) ?_
          refine G.frontAt 2 rfl ?_
          refine G.frontAt 2 rfl ?_
          refine G.frontAt 2 rfl ?_
          refine G.less ?_ (d7 rest ho)
          exact ⟨rfl, rfl, rfl, rfl, rfl, trivial⟩
      have d4 : ∀ (l : List Nat), Ord armoirelaw06_live.ds8_4 6 [true, true, false, false, false, false, false, false] l → G C354 H [(2, .slice B1 (([5] : List Int).length) 1), (3, .pointer (some ⟨g247, 0, none⟩)), (29, .int .i64 4), (30, .int .i64 10)] (OS 3 (Kd.int .i64) B1 1 ([5] : List Int) :: BK 3 (Kd.int .i64) g247 4 :: BK 3 (Kd.int .i64) g249 10 :: Fr) (.inRegion ops355 l :: k356) := by
        intro  l hl
        refine G.fork [2] hl rfl (And.intro ?_ trivial)
        · intro rest ho
          refine G.loadI (y := 4) rfl rfl rfl rfl ty3 (fun w hs => Rd.bk (Lens.id _ _) hs (j := 1) rfl) ?_
          refine G.frontAt 2 rfl ?_
          refine G.frontAt 2 rfl ?_
          refine G.frontAt 2 rfl ?_
          refine G.less ?_ (d7 rest ho)
          exact ⟨rfl, rfl, rfl, rfl, rfl, trivial⟩
      have d3 : ∀ (l : List Nat), Ord armoirelaw06_live.ds8_4 7 [false, false, true, false, false, false, false, false] l → G C354 H [(2, .slice B1 (([5] : List Int).length) 1), (3, .pointer (some ⟨g247, 0, none⟩)), (4, .pointer (some ⟨g249, 0, none⟩)), (31, .int .i64 4)] (OS 3 (Kd.int .i64) B1 1 ([5] : List Int) :: BK 3 (Kd.int .i64) g247 4 :: BK 3 (Kd.int .i64) g249 10 :: Fr) (.inRegion ops355 l :: k356) := by
        intro  l hl
        refine G.fork [0, 1] hl rfl (And.intro ?_ (And.intro ?_ trivial))
        · intro rest ho
          refine G.loadI (y := 4) rfl rfl rfl rfl ty3 (fun w hs => Rd.bk (Lens.id _ _) hs (j := 1) rfl) ?_
          refine G.frontAt 2 rfl ?_
          refine G.frontAt 2 rfl ?_
          refine G.frontAt 2 rfl ?_
          refine G.less ?_ (d5 rest ho)
          exact ⟨rfl, rfl, rfl, rfl, rfl, trivial⟩
        · intro rest ho
          refine G.loadI (y := 10) rfl rfl rfl rfl ty3 (fun w hs => Rd.bk (Lens.id _ _) hs (j := 2) rfl) ?_
          refine G.frontAt 2 rfl ?_
          refine G.frontAt 2 rfl ?_
          refine G.frontAt 2 rfl ?_
          refine G.less ?_ (d6 rest ho)
          exact ⟨rfl, rfl, rfl, rfl, trivial⟩
      have d2 : ∀ (l : List Nat), Ord armoirelaw06_live.ds8_4 7 [false, true, false, false, false, false, false, false] l → G C354 H [(2, .slice B1 (([5] : List Int).length) 1), (3, .pointer (some ⟨g247, 0, none⟩)), (30, .int .i64 10)] (OS 3 (Kd.int .i64) B1 1 ([5] : List Int) :: BK 3 (Kd.int .i64) g247 4 :: BK 3 (Kd.int .i64) g249 10 :: Fr) (.inRegion ops355 l :: k356) := by
        intro  l hl
        refine G.fork [0, 2] hl rfl (And.intro ?_ (And.intro ?_ trivial))
        · intro rest ho
          refine G.loadI (y := 4) rfl rfl rfl rfl ty3 (fun w hs => Rd.bk (Lens.id _ _) hs (j := 1) rfl) ?_
          refine G.frontAt 2 rfl ?_
          refine G.frontAt 2 rfl ?_
          refine G.frontAt 2 rfl ?_
          refine G.less ?_ (d4 rest ho)
          exact ⟨rfl, rfl, rfl, rfl, trivial⟩
        · intro rest ho
          refine G.loadI (y := 4) rfl rfl rfl rfl ty3 (fun w hs => Rd.bk (Lens.id _ _) hs (j := 1) rfl) ?_
          refine G.frontAt 2 rfl ?_
          refine G.frontAt 2 rfl ?_
          refine G.frontAt 2 rfl ?_
          refine G.less ?_ (d6 rest ho)
          exact ⟨rfl, rfl, rfl, rfl, trivial⟩
      have d1 : ∀ (l : List Nat), Ord armoirelaw06_live.ds8_4 7 [true, false, false, false, false, false, false, false] l → G C354 H [(2, .slice B1 (([5] : List Int).length) 1), (3, .pointer (some ⟨g247, 0, none⟩)), (4, .pointer (some ⟨g249, 0, none⟩)), (29, .int .i64 4)] (OS 3 (Kd.int .i64) B1 1 ([5] : List Int) :: BK 3 (Kd.int .i64) g247 4 :: BK 3 (Kd.int .i64) g249 10 :: Fr) (.inRegion ops355 l :: k356) := by
        intro  l hl
        refine G.fork [1, 2] hl rfl (And.intro ?_ (And.intro ?_ trivial))
        · intro rest ho
          refine G.loadI (y := 10) rfl rfl rfl rfl ty3 (fun w hs => Rd.bk (Lens.id _ _) hs (j := 2) rfl) ?_
          refine G.frontAt 2 rfl ?_
          refine G.frontAt 2 rfl ?_
          refine G.frontAt 2 rfl ?_
          refine G.less ?_ (d4 rest ho)
          exact ⟨rfl, rfl, rfl, rfl, trivial⟩
        · intro rest ho
          refine G.loadI (y := 4) rfl rfl rfl rfl ty3 (fun w hs => Rd.bk (Lens.id _ _) hs (j := 1) rfl) ?_
          refine G.frontAt 2 rfl ?_
          refine G.frontAt 2 rfl ?_
          refine G.frontAt 2 rfl ?_
          refine G.less ?_ (d5 rest ho)
          exact ⟨rfl, rfl, rfl, rfl, rfl, trivial⟩
      have d0 : ∀ (l : List Nat), Ord armoirelaw06_live.ds8_4 8 [false, false, false, false, false, false, false, false] l → G C354 H [(2, .slice B1 (([5] : List Int).length) 1), (3, .pointer (some ⟨g247, 0, none⟩)), (4, .pointer (some ⟨g249, 0, none⟩))] (OS 3 (Kd.int .i64) B1 1 ([5] : List Int) :: BK 3 (Kd.int .i64) g247 4 :: BK 3 (Kd.int .i64) g249 10 :: Fr) (.inRegion ops355 l :: k356) := by
        intro  l hl
        refine G.fork [0, 1, 2] hl rfl (And.intro ?_ (And.intro ?_ (And.intro ?_ trivial)))
        · intro rest ho
          refine G.loadI (y := 4) rfl rfl rfl rfl ty3 (fun w hs => Rd.bk (Lens.id _ _) hs (j := 1) rfl) ?_
          refine G.frontAt 2 rfl ?_
          refine G.frontAt 2 rfl ?_
          refine G.frontAt 2 rfl ?_
          refine G.less ?_ (d1 rest ho)
          exact ⟨rfl, rfl, rfl, rfl, trivial⟩
        · intro rest ho
          refine G.loadI (y := 10) rfl rfl rfl rfl ty3 (fun w hs => Rd.bk (Lens.id _ _) hs (j := 2) rfl) ?_
          refine G.frontAt 2 rfl ?_
          refine G.frontAt 2 rfl ?_
          refine G.frontAt 2 rfl ?_
          refine G.less ?_ (d2 rest ho)
          exact ⟨rfl, rfl, rfl, trivial⟩
        · intro rest ho
          refine G.loadI (y := 4) rfl rfl rfl rfl ty3 (fun w hs => Rd.bk (Lens.id _ _) hs (j := 1) rfl) ?_
          refine G.frontAt 2 rfl ?_
          refine G.frontAt 2 rfl ?_
          refine G.frontAt 2 rfl ?_
          refine G.less ?_ (d3 rest ho)
          exact ⟨rfl, rfl, rfl, rfl, trivial⟩
      intro l hl
      refine G.less ?_ (d0 l hl)
      exact ⟨rfl, rfl, rfl, trivial⟩
  intro J358
  refine G.rest (l1 := [14]) (l2 := [15]) (fun GG K => armoirelaw06_live.j2 = some r → GG H [(2, .slice B1 (([5] : List Int).length) 1), (3, .pointer (some ⟨g247, 0, none⟩)), (4, .pointer (some ⟨g249, 0, none⟩)), (24, .bool false), (27, .bool false)] (OS 3 (Kd.int .i64) B1 1 ([5] : List Int) :: BK 3 (Kd.int .i64) g247 4 :: BK 3 (Kd.int .i64) g249 10 :: Fr) K) ?_ ?_
  · intro  h
    unfold armoirelaw06_live.j2 at h
    refine G.pickF rfl rfl rfl rfl rfl ?_
    refine G.regionEnd ?_
    refine G.condF rfl ?_
    refine G.skip ?_
    refine G.seq ?_
    obtain ⟨k361, h⟩ := guardS h
    refine G.draw armoirelaw06_live.ds8_4 8 [0, 1, 2, 3, 4, 5, 6, 7] [0, 0, 0, 1, 2, 3, 4, 5] [0, 0, 0, 1, 2, 3, 4, 5] rfl (by kernel_rfl) (by kernel_rfl) (by kernel_rfl) (by kernel_rfl) ?_
    intro C414 ops415 k416
    have d14 : ∀ (B359 : Option Addr) (g362 : Nat) (l : List Nat), Ord armoirelaw06_live.ds8_4 0 [true, true, true, true, true, true, true, true] l → G C414 H [(2, .slice B1 (([5] : List Int).length) 1), (3, .pointer (some ⟨g247, 0, none⟩)), (9, .pointer (some ⟨g362, 0, none⟩))] (BK 53 K_R_free_Map g362 (R_free_Map.mk 4 (B359, (List.replicate 6 0 : List UInt8).length, 6)) :: OS 54 Kd.u8 B359 6 (List.replicate 6 0 : List UInt8) :: OS 3 (Kd.int .i64) B1 1 ([5] : List Int) :: BK 3 (Kd.int .i64) g247 4 :: BK 3 (Kd.int .i64) g249 10 :: Fr) (.inRegion ops415 l :: k416) := by
      intro B359 g362 l hl
      refine G.drawnAll hl ?_
      refine G.regionEnd ?_
      refine G.seq ?_
      refine G.seq ?_
      refine G.region (l := [0, 1, 2]) rfl ?_
      refine G.move rfl rfl rfl rfl ?_
      refine G.len (m := (([5] : List Int).length)) rfl rfl rfl rfl Try.underlying28 ?_
      refine G.move rfl rfl rfl rfl ?_
      refine G.regionEnd ?_
      refine G.block ?_
      refine G.loop (fun GG K => ∀ (d384 : Nat) (x373 : (List UInt8)) (x374 : Int), armoirelaw06_live.l1 d384 x373 x374 = some r → GG H [(3, .pointer (some ⟨g247, 0, none⟩)), (9, .pointer (some ⟨g362, 0, none⟩)), (36, .slice B1 (([5] : List Int).length) 1), (37, .int .i64 ((([5] : List Int).length) : Int)), (38, .int .i64 x374)] (BK 3 (Kd.int .i64) g247 4 :: OS 54 Kd.u8 B359 6 x373 :: BK 53 K_R_free_Map g362 (R_free_Map.mk 4 (B359, x373.length, 6)) :: OS 3 (Kd.int .i64) B1 1 ([5] : List Int) :: Fr) K) ?_ ?_
      · intro d384
        induction d384 with
        | zero => intro x373 x374 h; rw [armoirelaw06_live.l1] at h; cases h
        | succ d384 ih383 =>
          intro x373 x374 h
          rw [armoirelaw06_live.l1] at h
          refine G.seq ?_
          refine G.region (l := [0]) rfl ?_
          refine G.cmp (x374 < ((([5] : List Int).length) : Int)) rfl rfl rfl rfl rfl rfl Iff.rfl ?_
          refine G.regionEnd ?_
          refine G.seq ?_
          refine G.condP rfl (fun k404 => ?_) (fun k404 => ?_)
          · replace h := ifT h k404
            refine G.skip ?_
            refine G.seq ?_
            refine G.block ?_
            refine G.seq ?_
            refine G.region (l := [0, 1, 2]) rfl ?_
            obtain ⟨k387, h⟩ := guardS h
            have q386 : x374.toNat < ([5] : List Int).length := by omega
            refine G.indexO (xs := ([5] : List Int)) (j := x374) (off := x374.toNat * 1) rfl rfl rfl rfl rfl el28 (r := 3) rfl (by simp) k387 rfl ?_
            refine G.loadI (y := ([5] : List Int).getD x374.toNat 0) rfl rfl rfl rfl ty3 (fun w hs => Rd.osG q386 (Lens.id _ _) hs (j := 3) rfl (o := x374.toNat * 1) (by first | rfl | simp)) ?_
            refine G.assign rfl rfl rfl rfl ?_
            refine G.regionEnd ?_
            refine G.seq ?_
            refine G.seq ?_
            obtain ⟨k389, h⟩ := guardS h
            have q388 : (wi64 ((([5] : List Int).getD x374.toNat 0) - 4)).toNat < x373.length := by omega
            refine G.draw [[], [0], [1], [2], [], [], [4, 5], [3, 6], [7], [8]] 10 [0, 1, 2, 3, 4, 5, 6, 7, 8, 9] [0, 1, 2, 3, 0, 0, 1, 4, 5, 6] [0, 1, 2, 3, 0, 0, 1, 4, 5, 6] rfl (by kernel_rfl) (by kernel_rfl) (by kernel_rfl) (by kernel_rfl) ?_
            intro C399 ops400 k401
            let R402 : Reg := armoirelaw06_live.reg8_8 [(3, .pointer (some ⟨g247, 0, none⟩)), (9, .pointer (some ⟨g362, 0, none⟩)), (11, .int .i64 (([5] : List Int).getD x374.toNat 0)), (36, .slice B1 (([5] : List Int).length) 1), (37, .int .i64 ((([5] : List Int).length) : Int)), (38, .int .i64 x374)]
            have P403 : ∀ (m : Nat) (L : List Bool) (A : List (Nat × Value)) (l : List Nat), L.length = R402.ds.length → R402.Phi [some (.pointer (some ⟨g362, 0, none⟩)), some (.pointer (some ⟨g362, 0, none⟩)), some (.pointer (some ⟨g362, 1, none⟩)), some (.slice B359 x373.length 6), some (.int .i64 (([5] : List Int).getD x374.toNat 0)), some (.int .i64 4), some (.int .i64 (wi64 ((([5] : List Int).getD x374.toNat 0) - 4))), some (.pointer (some (plc B359 ((wi64 ((([5] : List Int).getD x374.toNat 0) - 4)).toNat * 1)))), some (u8V (x373.getD ((wi64 ((([5] : List Int).getD x374.toNat 0) - 4)).toNat) 0)), some (.bool (decide ((x373.getD ((wi64 ((([5] : List Int).getD x374.toNat 0) - 4)).toNat) 0) ≠ 0)))] [] [] L A → left L = m → Ord R402.ds m L l → G C399 H A (BK 3 (Kd.int .i64) g247 4 :: OS 54 Kd.u8 B359 6 x373 :: BK 53 K_R_free_Map g362 (R_free_Map.mk 4 (B359, x373.length, 6)) :: OS 3 (Kd.int .i64) B1 1 ([5] : List Int) :: Fr) (.inRegion ops400 l :: k401) := by
              refine G.phase R402 [some (.pointer (some ⟨g362, 0, none⟩)), some (.pointer (some ⟨g362, 0, none⟩)), some (.pointer (some ⟨g362, 1, none⟩)), some (.slice B359 x373.length 6), some (.int .i64 (([5] : List Int).getD x374.toNat 0)), some (.int .i64 4), some (.int .i64 (wi64 ((([5] : List Int).getD x374.toNat 0) - 4))), some (.pointer (some (plc B359 ((wi64 ((([5] : List Int).getD x374.toNat 0) - 4)).toNat * 1)))), some (u8V (x373.getD ((wi64 ((([5] : List Int).getD x374.toNat 0) - 4)).toNat) 0)), some (.bool (decide ((x373.getD ((wi64 ((([5] : List Int).getD x374.toNat 0) - 4)).toNat) 0) ≠ 0)))] [0, 1, 2, 3, 4, 5, 6, 7, 8, 9] [] [] [] (armoirelaw06_live.reg8_8_ap _) rfl rfl ⟨⟨[.base 9], 42, .pointer (some ⟨g362, 0, none⟩), [(9, .pointer (some ⟨g362, 0, none⟩))], ⟨rfl, rfl, rfl, rfl, ?_⟩⟩, ⟨⟨[.op 0], 43, .pointer (some ⟨g362, 0, none⟩), [(42, .pointer (some ⟨g362, 0, none⟩))], ⟨rfl, rfl, rfl, rfl, ?_⟩⟩, ⟨⟨[.op 1], 44, .pointer (some ⟨g362, 1, none⟩), [(43, .pointer (some ⟨g362, 0, none⟩))], ⟨rfl, rfl, rfl, rfl, ?_⟩⟩, ⟨⟨[.op 2], 45, .slice B359 x373.length 6, [(44, .pointer (some ⟨g362, 1, none⟩))], ⟨rfl, rfl, rfl, rfl, ?_⟩⟩, ⟨⟨[.base 11], 46, .int .i64 (([5] : List Int).getD x374.toNat 0), [(11, .int .i64 (([5] : List Int).getD x374.toNat 0))], ⟨rfl, rfl, rfl, rfl, ?_⟩⟩, ⟨⟨[.base 3], 47, .int .i64 4, [(3, .pointer (some ⟨g247, 0, none⟩))], ⟨rfl, rfl, rfl, rfl, ?_⟩⟩, ⟨⟨[.op 4, .op 5], 48, .int .i64 (wi64 ((([5] : List Int).getD x374.toNat 0) - 4)), [(46, .int .i64 (([5] : List Int).getD x374.toNat 0)), (47, .int .i64 4)], ⟨rfl, rfl, rfl, rfl, ?_⟩⟩, ⟨⟨[.op 3, .op 6], 49, .pointer (some (plc B359 ((wi64 ((([5] : List Int).getD x374.toNat 0) - 4)).toNat * 1))), [(45, .slice B359 x373.length 6), (48, .int .i64 (wi64 ((([5] : List Int).getD x374.toNat 0) - 4)))], ⟨rfl, rfl, rfl, rfl, ?_⟩⟩, ⟨⟨[.op 7], 50, u8V (x373.getD ((wi64 ((([5] : List Int).getD x374.toNat 0) - 4)).toNat) 0), [(49, .pointer (some (plc B359 ((wi64 ((([5] : List Int).getD x374.toNat 0) - 4)).toNat * 1))))], ⟨rfl, rfl, rfl, rfl, ?_⟩⟩, ⟨⟨[.op 8], 51, .bool (decide ((x373.getD ((wi64 ((([5] : List Int).getD x374.toNat 0) - 4)).toNat) 0) ≠ 0)), [(50, u8V (x373.getD ((wi64 ((([5] : List Int).getD x374.toNat 0) - 4)).toNat) 0))], ⟨rfl, rfl, rfl, rfl, ?_⟩⟩, trivial⟩⟩⟩⟩⟩⟩⟩⟩⟩⟩ trivial ?_
              · intro X rest g
                refine G.move rfl rfl rfl rfl ?_
                exact g
              · intro X rest g
                refine G.nilCheck rfl rfl rfl rfl ?_
                exact g
              · intro X rest g
                refine G.field (off' := 1) rfl rfl rfl rfl Try.underlying53 rfl sz51 rfl rfl ?_
                exact g
              · intro X rest g
                refine G.loadH (B := B359) (m := x373.length) (c := 6) rfl rfl rfl rfl ty51r (fun w hs => Rd.bk (R_free_Map.L_kinds _) hs (j := 2) rfl) ?_
                exact g
              · intro X rest g
                refine G.move rfl rfl rfl rfl ?_
                exact g
              · intro X rest g
                refine G.loadI (y := 4) rfl rfl rfl rfl ty3 (fun w hs => Rd.bk (Lens.id _ _) hs (j := 0) rfl) ?_
                exact g
              · intro X rest g
                refine G.bin (m := ([5] : List Int).getD x374.toNat 0) (n := 4) (r := wi64 ((([5] : List Int).getD x374.toNat 0) - 4)) rfl rfl rfl rfl rfl rfl rfl ?_
                exact g
              · intro X rest g
                refine G.indexO (xs := x373) (j := wi64 ((([5] : List Int).getD x374.toNat 0) - 4)) (off := (wi64 ((([5] : List Int).getD x374.toNat 0) - 4)).toNat * 1) rfl rfl rfl rfl rfl el51 (r := 1) rfl (by simp) k389 rfl ?_
                exact g
              · intro X rest g
                refine G.load8 (y := x373.getD ((wi64 ((([5] : List Int).getD x374.toNat 0) - 4)).toNat) 0) rfl rfl rfl rfl ty54 (fun w hs => Rd.osG q388 (Lens.id _ _) hs (j := 1) rfl (o := (wi64 ((([5] : List Int).getD x374.toNat 0) - 4)).toNat * 1) (by first | rfl | simp)) ?_
                exact g
              · intro X rest g
                refine G.cmp ((x373.getD ((wi64 ((([5] : List Int).getD x374.toNat 0) - 4)).toNat) 0) ≠ 0) rfl rfl rfl rfl rfl rfl (c8_neq (x373.getD ((wi64 ((([5] : List Int).getD x374.toNat 0) - 4)).toNat) 0) 0) ?_
                exact g
              · intro A L hlen hp h0
                refine G.lessSub (B := [(3, .pointer (some ⟨g247, 0, none⟩)), (9, .pointer (some ⟨g362, 0, none⟩)), (11, .int .i64 (([5] : List Int).getD x374.toNat 0)), (36, .slice B1 (([5] : List Int).length) 1), (37, .int .i64 ((([5] : List Int).length) : Int)), (38, .int .i64 x374), (51, .bool (decide ((x373.getD ((wi64 ((([5] : List Int).getD x374.toNat 0) - 4)).toNat) 0) ≠ 0)))]) (hp.fin hlen h0 (src := [.base 3, .base 9, .base 11, .base 36, .base 37, .base 38, .op 9]) rfl) ?_
                refine G.regionEnd ?_
                refine G.condP rfl (fun k398 => ?_) (fun k398 => ?_)
                · replace h := ifT h k398
                  refine G.seq ?_
                  refine G.region (l := [0, 1]) rfl ?_
                  refine G.assign rfl rfl rfl rfl ?_
                  refine G.assign rfl rfl rfl rfl ?_
                  refine G.regionEnd ?_
                  refine G.retN (rs := [.tmp 6, .tmp 7]) Try.func8 rfl rfl rfl (rt4 _ _ _ ?_)
                  refine G.move rfl rfl rfl rfl ?_
                  refine G.extract rfl rfl rfl rfl rfl ?_
                  refine G.extract rfl rfl rfl rfl rfl ?_
                  refine G.assign rfl rfl rfl rfl ?_
                  refine G.assign rfl rfl rfl rfl ?_
                  refine G.regionEnd ?_
                  refine G.seq ?_
                  refine G.seq ?_
                  refine G.region (l := [0, 1, 2, 3, 4, 5]) rfl ?_
                  refine G.move rfl rfl rfl rfl ?_
                  refine G.eqPtr (a := none) (b := none) (r := true) rfl rfl rfl rfl rfl Try.underlying24 (by simp) ?_
                  refine G.move rfl rfl rfl rfl ?_
                  refine G.unwanted rfl rfl rfl rfl ?_
                  refine G.unwanted rfl rfl rfl rfl ?_
                  refine G.pickT rfl rfl rfl rfl rfl ?_
                  refine G.regionEnd ?_
                  refine G.condT rfl ?_
                  refine G.seq ?_
                  refine G.region (l := [0]) rfl ?_
                  refine G.assign rfl rfl rfl rfl ?_
                  refine G.regionEnd ?_
                  refine G.drop ?_
                  refine G.drop ?_
                  refine G.drop ?_
                  refine G.drop ?_
                  obtain rfl := Option.some.inj h
                  exact G.ret1 Try.func7 rfl rfl (fun w hs => ⟨_, _, rfl, ⟨rfl, rfl⟩, hs⟩)
                · replace h := ifF h k398
                  refine G.skip ?_
                  obtain ⟨k391, h⟩ := guardS h
                  have q390 : (wi64 ((([5] : List Int).getD x374.toNat 0) - 4)).toNat < x373.length := by omega
                  refine G.draw [[], [0], [1], [2], [], [], [4, 5], [3, 6, 0, 1, 2, 3, 4, 5, 6], [7, 0, 1, 2, 3, 4, 5, 6]] 9 [0, 1, 2, 3, 4, 5, 6, 7, 8] [0, 1, 2, 3, 0, 0, 1, 4, 5] [0, 1, 2, 3, 0, 0, 1, 4, 5] rfl (by kernel_rfl) (by kernel_rfl) (by kernel_rfl) (by kernel_rfl) ?_
                  intro C392 ops393 k394
                  let R395 : Reg := armoirelaw06_live.reg8_10 [(3, .pointer (some ⟨g247, 0, none⟩)), (9, .pointer (some ⟨g362, 0, none⟩)), (11, .int .i64 (([5] : List Int).getD x374.toNat 0)), (36, .slice B1 (([5] : List Int).length) 1), (37, .int .i64 ((([5] : List Int).length) : Int)), (38, .int .i64 x374)]
                  have P397 : ∀ (m : Nat) (L : List Bool) (A : List (Nat × Value)) (l : List Nat), L.length = R395.ds.length → R395.Phi [some (.pointer (some ⟨g362, 0, none⟩)), some (.pointer (some ⟨g362, 0, none⟩)), some (.pointer (some ⟨g362, 1, none⟩)), some (.slice B359 x373.length 6), some (.int .i64 (([5] : List Int).getD x374.toNat 0)), some (.int .i64 4), some (.int .i64 (wi64 ((([5] : List Int).getD x374.toNat 0) - 4))), some (.pointer (some (plc B359 ((wi64 ((([5] : List Int).getD x374.toNat 0) - 4)).toNat * 1)))), none] [0, 1, 2, 3, 4, 5, 6, 7, 8] [] L A → left L = m → Ord R395.ds m L l → G C392 H A (OS 54 Kd.u8 B359 6 (x373.set ((wi64 ((([5] : List Int).getD x374.toNat 0) - 4)).toNat) 1) :: BK 3 (Kd.int .i64) g247 4 :: BK 53 K_R_free_Map g362 (R_free_Map.mk 4 (B359, x373.length, 6)) :: OS 3 (Kd.int .i64) B1 1 ([5] : List Int) :: Fr) (.inRegion ops393 l :: k394) := by
                    refine G.phase R395 [some (.pointer (some ⟨g362, 0, none⟩)), some (.pointer (some ⟨g362, 0, none⟩)), some (.pointer (some ⟨g362, 1, none⟩)), some (.slice B359 x373.length 6), some (.int .i64 (([5] : List Int).getD x374.toNat 0)), some (.int .i64 4), some (.int .i64 (wi64 ((([5] : List Int).getD x374.toNat 0) - 4))), some (.pointer (some (plc B359 ((wi64 ((([5] : List Int).getD x374.toNat 0) - 4)).toNat * 1)))), none] [] [] [0, 1, 2, 3, 4, 5, 6, 7, 8] [] (armoirelaw06_live.reg8_10_ap _) rfl rfl trivial trivial ?_
                    · intro A L hlen hp h0
                      refine G.lessSub (B := [(3, .pointer (some ⟨g247, 0, none⟩)), (9, .pointer (some ⟨g362, 0, none⟩)), (36, .slice B1 (([5] : List Int).length) 1), (37, .int .i64 ((([5] : List Int).length) : Int)), (38, .int .i64 x374)]) (hp.fin hlen h0 (src := [.base 3, .base 9, .base 36, .base 37, .base 38]) rfl) ?_
                      refine G.regionEnd ?_
                      refine G.inBlock ?_
                      refine G.region (l := [0, 1]) rfl ?_
                      refine G.bin (m := x374) (n := 1) (r := wi64 (x374 + 1)) rfl rfl rfl rfl rfl rfl rfl ?_
                      refine G.move rfl rfl rfl rfl ?_
                      refine G.regionEnd ?_
                      refine G.round ?_
                      refine G.frontAt 2 rfl ?_
                      refine G.headEq (r' := BK 53 K_R_free_Map g362 (R_free_Map.mk 4 (B359, (x373.set ((wi64 ((([5] : List Int).getD x374.toNat 0) - 4)).toNat) 1).length, 6))) (by first | (simp; done) | (simp; omega)) ?_
                      refine G.frontAt 3 rfl ?_
                      refine G.frontAt 1 rfl ?_
                      refine G.frontAt 2 rfl ?_
                      refine G.frontAt 3 rfl ?_
                      refine G.less ?_ (ih383  (x373.set ((wi64 ((([5] : List Int).getD x374.toNat 0) - 4)).toNat) 1) (wi64 (x374 + 1)) h)
                      exact ⟨rfl, rfl, rfl, rfl, rfl, trivial⟩
                  have P396 : ∀ (m : Nat) (L : List Bool) (A : List (Nat × Value)) (l : List Nat), L.length = R395.ds.length → R395.Phi [some (.pointer (some ⟨g362, 0, none⟩)), some (.pointer (some ⟨g362, 0, none⟩)), some (.pointer (some ⟨g362, 1, none⟩)), some (.slice B359 x373.length 6), some (.int .i64 (([5] : List Int).getD x374.toNat 0)), some (.int .i64 4), some (.int .i64 (wi64 ((([5] : List Int).getD x374.toNat 0) - 4))), some (.pointer (some (plc B359 ((wi64 ((([5] : List Int).getD x374.toNat 0) - 4)).toNat * 1)))), none] [] [8] L A → left L = m → Ord R395.ds m L l → G C392 H A (BK 3 (Kd.int .i64) g247 4 :: OS 54 Kd.u8 B359 6 x373 :: BK 53 K_R_free_Map g362 (R_free_Map.mk 4 (B359, x373.length, 6)) :: OS 3 (Kd.int .i64) B1 1 ([5] : List Int) :: Fr) (.inRegion ops393 l :: k394) := by
                    refine G.phase R395 [some (.pointer (some ⟨g362, 0, none⟩)), some (.pointer (some ⟨g362, 0, none⟩)), some (.pointer (some ⟨g362, 1, none⟩)), some (.slice B359 x373.length 6), some (.int .i64 (([5] : List Int).getD x374.toNat 0)), some (.int .i64 4), some (.int .i64 (wi64 ((([5] : List Int).getD x374.toNat 0) - 4))), some (.pointer (some (plc B359 ((wi64 ((([5] : List Int).getD x374.toNat 0) - 4)).toNat * 1)))), none] [0, 1, 2, 3, 4, 5, 6, 7] [8] [] [8] (armoirelaw06_live.reg8_10_ap _) rfl rfl ⟨⟨[.base 9], 52, .pointer (some ⟨g362, 0, none⟩), [(9, .pointer (some ⟨g362, 0, none⟩))], ⟨rfl, rfl, rfl, rfl, ?_⟩⟩, ⟨⟨[.op 0], 53, .pointer (some ⟨g362, 0, none⟩), [(52, .pointer (some ⟨g362, 0, none⟩))], ⟨rfl, rfl, rfl, rfl, ?_⟩⟩, ⟨⟨[.op 1], 54, .pointer (some ⟨g362, 1, none⟩), [(53, .pointer (some ⟨g362, 0, none⟩))], ⟨rfl, rfl, rfl, rfl, ?_⟩⟩, ⟨⟨[.op 2], 55, .slice B359 x373.length 6, [(54, .pointer (some ⟨g362, 1, none⟩))], ⟨rfl, rfl, rfl, rfl, ?_⟩⟩, ⟨⟨[.base 11], 56, .int .i64 (([5] : List Int).getD x374.toNat 0), [(11, .int .i64 (([5] : List Int).getD x374.toNat 0))], ⟨rfl, rfl, rfl, rfl, ?_⟩⟩, ⟨⟨[.base 3], 57, .int .i64 4, [(3, .pointer (some ⟨g247, 0, none⟩))], ⟨rfl, rfl, rfl, rfl, ?_⟩⟩, ⟨⟨[.op 4, .op 5], 58, .int .i64 (wi64 ((([5] : List Int).getD x374.toNat 0) - 4)), [(56, .int .i64 (([5] : List Int).getD x374.toNat 0)), (57, .int .i64 4)], ⟨rfl, rfl, rfl, rfl, ?_⟩⟩, ⟨⟨[.op 3, .op 6], 59, .pointer (some (plc B359 ((wi64 ((([5] : List Int).getD x374.toNat 0) - 4)).toNat * 1))), [(55, .slice B359 x373.length 6), (58, .int .i64 (wi64 ((([5] : List Int).getD x374.toNat 0) - 4)))], ⟨rfl, rfl, rfl, rfl, ?_⟩⟩, trivial⟩⟩⟩⟩⟩⟩⟩⟩ ⟨⟨[.op 7], [(59, .pointer (some (plc B359 ((wi64 ((([5] : List Int).getD x374.toNat 0) - 4)).toNat * 1))))], ⟨rfl, rfl, ?_⟩⟩, trivial⟩ ?_
                    · intro X rest g
                      refine G.move rfl rfl rfl rfl ?_
                      exact g
                    · intro X rest g
                      refine G.nilCheck rfl rfl rfl rfl ?_
                      exact g
                    · intro X rest g
                      refine G.field (off' := 1) rfl rfl rfl rfl Try.underlying53 rfl sz51 rfl rfl ?_
                      exact g
                    · intro X rest g
                      refine G.loadH (B := B359) (m := x373.length) (c := 6) rfl rfl rfl rfl ty51r (fun w hs => Rd.bk (R_free_Map.L_kinds _) hs (j := 2) rfl) ?_
                      exact g
                    · intro X rest g
                      refine G.move rfl rfl rfl rfl ?_
                      exact g
                    · intro X rest g
                      refine G.loadI (y := 4) rfl rfl rfl rfl ty3 (fun w hs => Rd.bk (Lens.id _ _) hs (j := 0) rfl) ?_
                      exact g
                    · intro X rest g
                      refine G.bin (m := ([5] : List Int).getD x374.toNat 0) (n := 4) (r := wi64 ((([5] : List Int).getD x374.toNat 0) - 4)) rfl rfl rfl rfl rfl rfl rfl ?_
                      exact g
                    · intro X rest g
                      refine G.indexO (xs := x373) (j := wi64 ((([5] : List Int).getD x374.toNat 0) - 4)) (off := (wi64 ((([5] : List Int).getD x374.toNat 0) - 4)).toNat * 1) rfl rfl rfl rfl rfl el51 (r := 1) rfl (by simp) k391 rfl ?_
                      exact g
                    · intro X rest L m hlen hp hil hd hs hm ho
                      refine G.frontAt 1 rfl ?_
                      refine G.storeO (df := Kd.u8) (y := 1) (hj := q390) (xs' := x373.set ((wi64 ((([5] : List Int).getD x374.toNat 0) - 4)).toNat) 1) rfl rfl rfl rfl (Lens.id _ _) (by first | rfl | simp) ⟨([u8V 1] : List Value), rfl, rfl⟩ sz54 rfl ?_
                      refine G.frontAt 3 rfl ?_
                      refine G.frontAt 3 rfl ?_
                      refine G.frontAt 3 rfl ?_
                      refine G.frontAt 3 rfl ?_
                      exact P397 m _ _ rest (by rw [List.length_set]; exact hlen) (hp.stepN2 1 (armoirelaw06_live.reg8_10_ap _) hil hd hs (by repeat (first | exact trivial | refine And.intro rfl ?_)) rfl rfl rfl) hm ho
                    · intro A L hlen hp h0
                      exact (hp.notYet hlen h0 8 rfl rfl).elim
                  intro l hl
                  exact P396 9 (List.replicate 9 false) _ l rfl (Reg.Phi.init 9 ⟨rfl, rfl, rfl, rfl, rfl, rfl, trivial⟩) (left_rep 9) hl
            intro l hl
            exact P403 10 (List.replicate 10 false) _ l rfl (Reg.Phi.init 10 ⟨rfl, rfl, rfl, rfl, rfl, rfl, trivial⟩) (left_rep 10) hl
          · replace h := ifF h k404
            refine G.exit rfl ?_
            refine G.seq ?_
            refine G.region (l := [0, 1, 2]) rfl ?_
            refine G.move rfl rfl rfl rfl ?_
            refine G.assign rfl rfl rfl rfl ?_
            refine G.assign rfl rfl rfl rfl ?_
            refine G.regionEnd ?_
            refine G.retN (rs := [.tmp 6, .tmp 7]) Try.func8 rfl rfl rfl (rt4 _ _ _ ?_)
            refine G.drop ?_
            refine G.frontAt 2 rfl ?_
            refine G.drop ?_
            refine G.frontAt 1 rfl ?_
            refine G.frontAt 1 rfl ?_
            refine G.less ?_ (J246  g362 B359 6 x373 h)
            exact ⟨rfl, trivial⟩
      intro J405
      refine G.frontAt 4 rfl ?_
      refine G.drop ?_
      refine G.frontAt 2 rfl ?_
      refine G.frontAt 1 rfl ?_
      refine G.frontAt 2 rfl ?_
      refine G.frontAt 3 rfl ?_
      refine G.less ?_ (J405 FUEL  (List.replicate 6 0 : List UInt8) 0 h)
      exact ⟨rfl, rfl, rfl, rfl, rfl, trivial⟩
    have d13 : ∀ (B359 : Option Addr) (g362 : Nat) (l : List Nat), Ord armoirelaw06_live.ds8_4 1 [true, true, true, true, true, true, true, false] l → G C414 H [(2, .slice B1 (([5] : List Int).length) 1), (3, .pointer (some ⟨g247, 0, none⟩)), (35, .pointer (some ⟨g362, 0, none⟩))] (BK 53 K_R_free_Map g362 (R_free_Map.mk 4 (B359, (List.replicate 6 0 : List UInt8).length, 6)) :: OS 54 Kd.u8 B359 6 (List.replicate 6 0 : List UInt8) :: OS 3 (Kd.int .i64) B1 1 ([5] : List Int) :: BK 3 (Kd.int .i64) g247 4 :: BK 3 (Kd.int .i64) g249 10 :: Fr) (.inRegion ops415 l :: k416) := by
      intro B359 g362 l hl
      refine G.fork [7] hl rfl (And.intro ?_ trivial)
      · intro rest ho
        refine G.assign rfl rfl rfl rfl ?_
        refine G.frontAt 4 rfl ?_
        refine G.frontAt 4 rfl ?_
        refine G.frontAt 4 rfl ?_
        refine G.frontAt 4 rfl ?_
        refine G.frontAt 4 rfl ?_
        refine G.less ?_ (d14 B359 g362 rest ho)
        exact ⟨rfl, rfl, rfl, trivial⟩
    have d12 : ∀ (B359 : Option Addr) (l : List Nat), Ord armoirelaw06_live.ds8_4 2 [true, true, true, true, true, true, false, false] l → G C414 H [(2, .slice B1 (([5] : List Int).length) 1), (3, .pointer (some ⟨g247, 0, none⟩)), (34, .agg (([.int .i64 4] : List Value) ++ (([.slice B359 ((List.replicate 6 0 : List UInt8).length) 6] : List Value))).toArray)] (OS 54 Kd.u8 B359 6 (List.replicate 6 0 : List UInt8) :: OS 3 (Kd.int .i64) B1 1 ([5] : List Int) :: BK 3 (Kd.int .i64) g247 4 :: BK 3 (Kd.int .i64) g249 10 :: Fr) (.inRegion ops415 l :: k416) := by
      intro B359 l hl
      refine G.fork [6] hl rfl (And.intro ?_ trivial)
      · intro rest ho
        refine G.box (dk := K_R_free_Map) (y := (R_free_Map.mk 4 (B359, (List.replicate 6 0 : List UInt8).length, 6))) rfl rfl rfl rfl (VR.A (cs := ([.int .i64 4] : List Value) ++ (([.slice B359 ((List.replicate 6 0 : List UInt8).length) 6] : List Value))) (K_R_free_Map.mk rfl rfl)) ?_
        intro g362
        refine G.frontAt 4 rfl ?_
        refine G.frontAt 4 rfl ?_
        refine G.frontAt 4 rfl ?_
        refine G.frontAt 4 rfl ?_
        refine G.frontAt 4 rfl ?_
        refine G.less ?_ (d13 B359 g362 rest ho)
        exact ⟨rfl, rfl, rfl, trivial⟩
    have d11 : ∀ (B359 : Option Addr) (l : List Nat), Ord armoirelaw06_live.ds8_4 3 [true, true, true, true, true, false, false, false] l → G C414 H [(2, .slice B1 (([5] : List Int).length) 1), (3, .pointer (some ⟨g247, 0, none⟩)), (29, .int .i64 4), (33, .slice B359 6 6)] (OS 54 Kd.u8 B359 6 (List.replicate 6 0 : List UInt8) :: OS 3 (Kd.int .i64) B1 1 ([5] : List Int) :: BK 3 (Kd.int .i64) g247 4 :: BK 3 (Kd.int .i64) g249 10 :: Fr) (.inRegion ops415 l :: k416) := by
      intro B359 l hl
      refine G.fork [5] hl rfl (And.intro ?_ trivial)
      · intro rest ho
        refine G.same (d := 33) (v := .slice B359 ((List.replicate 6 0 : List UInt8).length) 6) rfl (by first | (simp; done) | (simp; omega)) ?_
        refine G.build (z := .agg (([.int .i64 0] : List Value) ++ (([.slice none 0 0] : List Value))).toArray) (pl := [(0, 1), (1, 1)]) (cs := ([.int .i64 4] : List Value) ++ (([.slice B359 ((List.replicate 6 0 : List UInt8).length) 6] : List Value))) rfl rfl rfl Try.underlying53 (by kernel_rfl) rfl (by kernel_rfl) (by kernel_rfl) rfl ?_
        refine G.frontAt 3 rfl ?_
        refine G.frontAt 3 rfl ?_
        refine G.frontAt 3 rfl ?_
        refine G.frontAt 3 rfl ?_
        refine G.less ?_ (d12 B359 rest ho)
        exact ⟨rfl, rfl, rfl, trivial⟩
    have d10 : ∀ (B359 : Option Addr) (l : List Nat), Ord armoirelaw06_live.ds8_4 4 [false, true, true, true, true, false, false, false] l → G C414 H [(2, .slice B1 (([5] : List Int).length) 1), (3, .pointer (some ⟨g247, 0, none⟩)), (33, .slice B359 6 6)] (OS 54 Kd.u8 B359 6 (List.replicate 6 0 : List UInt8) :: OS 3 (Kd.int .i64) B1 1 ([5] : List Int) :: BK 3 (Kd.int .i64) g247 4 :: BK 3 (Kd.int .i64) g249 10 :: Fr) (.inRegion ops415 l :: k416) := by
      intro B359 l hl
      refine G.fork [0] hl rfl (And.intro ?_ trivial)
      · intro rest ho
        refine G.loadI (y := 4) rfl rfl rfl rfl ty3 (fun w hs => Rd.bk (Lens.id _ _) hs (j := 2) rfl) ?_
        refine G.frontAt 3 rfl ?_
        refine G.frontAt 3 rfl ?_
        refine G.frontAt 3 rfl ?_
        refine G.frontAt 3 rfl ?_
        refine G.less ?_ (d11 B359 rest ho)
        exact ⟨rfl, rfl, rfl, rfl, trivial⟩
    have d9 : ∀ (l : List Nat), Ord armoirelaw06_live.ds8_4 4 [true, true, true, true, false, false, false, false] l → G C414 H [(2, .slice B1 (([5] : List Int).length) 1), (3, .pointer (some ⟨g247, 0, none⟩)), (29, .int .i64 4), (32, .int .i64 6)] (OS 3 (Kd.int .i64) B1 1 ([5] : List Int) :: BK 3 (Kd.int .i64) g247 4 :: BK 3 (Kd.int .i64) g249 10 :: Fr) (.inRegion ops415 l :: k416) := by
      intro  l hl
      refine G.fork [4] hl rfl (And.intro ?_ trivial)
      · intro rest ho
        refine G.makeSlice (df := Kd.u8) (z0 := 0) (m := 6) (c := 6) (z := .int .u8 0) (cz := ([u8V 0] : List Value)) rfl rfl rfl rfl rfl el51 (by kernel_rfl) rfl (rfl) rfl k361 ?_
        intro B359
        refine G.frontAt 3 rfl ?_
        refine G.frontAt 3 rfl ?_
        refine G.frontAt 3 rfl ?_
        refine G.frontAt 3 rfl ?_
        refine G.less ?_ (d11 B359 rest ho)
        exact ⟨rfl, rfl, rfl, rfl, trivial⟩
    have d8 : ∀ (l : List Nat), Ord armoirelaw06_live.ds8_4 5 [false, true, true, true, false, false, false, false] l → G C414 H [(2, .slice B1 (([5] : List Int).length) 1), (3, .pointer (some ⟨g247, 0, none⟩)), (32, .int .i64 6)] (OS 3 (Kd.int .i64) B1 1 ([5] : List Int) :: BK 3 (Kd.int .i64) g247 4 :: BK 3 (Kd.int .i64) g249 10 :: Fr) (.inRegion ops415 l :: k416) := by
      intro  l hl
      refine G.fork [0, 4] hl rfl (And.intro ?_ (And.intro ?_ trivial))
      · intro rest ho
        refine G.loadI (y := 4) rfl rfl rfl rfl ty3 (fun w hs => Rd.bk (Lens.id _ _) hs (j := 1) rfl) ?_
        refine G.frontAt 2 rfl ?_
        refine G.frontAt 2 rfl ?_
        refine G.frontAt 2 rfl ?_
        refine G.less ?_ (d9 rest ho)
        exact ⟨rfl, rfl, rfl, rfl, trivial⟩
      · intro rest ho
        refine G.makeSlice (df := Kd.u8) (z0 := 0) (m := 6) (c := 6) (z := .int .u8 0) (cz := ([u8V 0] : List Value)) rfl rfl rfl rfl rfl el51 (by kernel_rfl) rfl (rfl) rfl k361 ?_
        intro B359
        refine G.frontAt 3 rfl ?_
        refine G.frontAt 3 rfl ?_
        refine G.frontAt 3 rfl ?_
        refine G.frontAt 3 rfl ?_
        refine G.less ?_ (d10 B359 rest ho)
        exact ⟨rfl, rfl, rfl, trivial⟩
    have d7 : ∀ (l : List Nat), Ord armoirelaw06_live.ds8_4 5 [true, true, true, false, false, false, false, false] l → G C414 H [(2, .slice B1 (([5] : List Int).length) 1), (3, .pointer (some ⟨g247, 0, none⟩)), (29, .int .i64 4), (30, .int .i64 10), (31, .int .i64 4)] (OS 3 (Kd.int .i64) B1 1 ([5] : List Int) :: BK 3 (Kd.int .i64) g247 4 :: BK 3 (Kd.int .i64) g249 10 :: Fr) (.inRegion ops415 l :: k416) := by
      intro  l hl
      refine G.fork [3] hl rfl (And.intro ?_ trivial)
      · intro rest ho
        refine G.bin (m := 10) (n := 4) (r := 6) rfl rfl rfl rfl rfl rfl (by decide +kernel) ?_
        refine G.frontAt 2 rfl ?_
        refine G.frontAt 2 rfl ?_
        refine G.frontAt 2 rfl ?_
        refine G.less ?_ (d9 rest ho)
        exact ⟨rfl, rfl, rfl, rfl, trivial⟩
    have d6 : ∀ (l : List Nat), Ord armoirelaw06_live.ds8_4 6 [false, true, true, false, false, false, false, false] l → G C414 H [(2, .slice B1 (([5] : List Int).length) 1), (3, .pointer (some ⟨g247, 0, none⟩)), (30, .int .i64 10), (31, .int .i64 4)] (OS 3 (Kd.int .i64) B1 1 ([5] : List Int) :: BK 3 (Kd.int .i64) g247 4 :: BK 3 (Kd.int .i64) g249 10 :: Fr) (.inRegion ops415 l :: k416) := by
      intro  l hl
      refine G.fork [0, 3] hl rfl (And.intro ?_ (And.intro ?_ trivial))
      · intro rest ho
        refine G.loadI (y := 4) rfl rfl rfl rfl ty3 (fun w hs => Rd.bk (Lens.id _ _) hs (j := 1) rfl) ?_
        refine G.frontAt 2 rfl ?_
        refine G.frontAt 2 rfl ?_
        refine G.frontAt 2 rfl ?_
        refine G.less ?_ (d7 rest ho)
        exact ⟨rfl, rfl, rfl, rfl, rfl, trivial⟩
      · intro rest ho
        refine G.bin (m := 10) (n := 4) (r := 6) rfl rfl rfl rfl rfl rfl (by decide +kernel) ?_
        refine G.frontAt 2 rfl ?_
        refine G.frontAt 2 rfl ?_
        refine G.frontAt 2 rfl ?_
        refine G.less ?_ (d8 rest ho)
        exact ⟨rfl, rfl, rfl, trivial⟩
    have d5 : ∀ (l : List Nat), Ord armoirelaw06_live.ds8_4 6 [true, false, true, false, false, false, false, false] l → G C414 H [(2, .slice B1 (([5] : List Int).length) 1), (3, .pointer (some ⟨g247, 0, none⟩)), (4, .pointer (some ⟨g249, 0, none⟩)), (29, .int .i64 4), (31, .int .i64 4)] (OS 3 (Kd.int .i64) B1 1 ([5] : List Int) :: BK 3 (Kd.int .i64) g247 4 :: BK 3 (Kd.int .i64) g249 10 :: Fr) (.inRegion ops415 l :: k416) := by
      intro  l hl
      refine G.fork [1] hl rfl (And.intro ?_ trivial)
      · intro rest ho
        refine G.loadI (y := 10) rfl rfl rfl rfl ty3 (fun w hs => Rd.bk (Lens.id _ _) hs (j := 2) rfl) ?_
        refine G.frontAt 2 rfl ?_
        refine G.frontAt 2 rfl ?_
        refine G.frontAt 2 rfl ?_
        refine G.less ?_ (d7 rest ho)
        exact ⟨rfl, rfl, rfl, rfl, rfl, trivial⟩
    have d4 : ∀ (l : List Nat), Ord armoirelaw06_live.ds8_4 6 [true, true, false, false, false, false, false, false] l → G C414 H [(2, .slice B1 (([5] : List Int).length) 1), (3, .pointer (some ⟨g247, 0, none⟩)), (29, .int .i64 4), (30, .int .i64 10)] (OS 3 (Kd.int .i64) B1 1 ([5] : List Int) :: BK 3 (Kd.int .i64) g247 4 :: BK 3 (Kd.int .i64) g249 10 :: Fr) (.inRegion ops415 l :: k416) := by
      intro  l hl
      refine G.fork [2] hl rfl (And.intro ?_ trivial)
      · intro rest ho
        refine G.loadI (y := 4) rfl rfl rfl rfl ty3 (fun w hs => Rd.bk (Lens.id _ _) hs (j := 1) rfl) ?_
        refine G.frontAt 2 rfl ?_
        refine G.frontAt 2 rfl ?_
        refine G.frontAt 2 rfl ?_
        refine G.less ?_ (d7 rest ho)
        exact ⟨rfl, rfl, rfl, rfl, rfl, trivial⟩
    have d3 : ∀ (l : List Nat), Ord armoirelaw06_live.ds8_4 7 [false, false, true, false, false, false, false, false] l → G C414 H [(2, .slice B1 (([5] : List Int).length) 1), (3, .pointer (some ⟨g247, 0, none⟩)), (4, .pointer (some ⟨g249, 0, none⟩)), (31, .int .i64 4)] (OS 3 (Kd.int .i64) B1 1 ([5] : List Int) :: BK 3 (Kd.int .i64) g247 4 :: BK 3 (Kd.int .i64) g249 10 :: Fr) (.inRegion ops415 l :: k416) := by
      intro  l hl
      refine G.fork [0, 1] hl rfl (And.intro ?_ (And.intro ?_ trivial))
      · intro rest ho
        refine G.loadI (y := 4) rfl rfl rfl rfl ty3 (fun w hs => Rd.bk (Lens.id _ _) hs (j := 1) rfl) ?_
        refine G.frontAt 2 rfl ?_
        refine G.frontAt 2 rfl ?_
        refine G.frontAt 2 rfl ?_
        refine G.less ?_ (d5 rest ho)
        exact ⟨rfl, rfl, rfl, rfl, rfl, trivial⟩
      · intro rest ho
        refine G.loadI (y := 10) rfl rfl rfl rfl ty3 (fun w hs => Rd.bk (Lens.id _ _) hs (j := 2) rfl) ?_
        refine G.frontAt 2 rfl ?_
        refine G.frontAt 2 rfl ?_
        refine G.frontAt 2 rfl ?_
        refine G.less ?_ (d6 rest ho)
        exact ⟨rfl, rfl, rfl, rfl, trivial⟩
    have d2 : ∀ (l : List Nat), Ord armoirelaw06_live.ds8_4 7 [false, true, false, false, false, false, false, false] l → G C414 H [(2, .slice B1 (([5] : List Int).length) 1), (3, .pointer (some ⟨g247, 0, none⟩)), (30, .int .i64 10)] (OS 3 (Kd.int .i64) B1 1 ([5] : List Int) :: BK 3 (Kd.int .i64) g247 4 :: BK 3 (Kd.int .i64) g249 10 :: Fr) (.inRegion ops415 l :: k416) := by
      intro  l hl
      refine G.fork [0, 2] hl rfl (And.intro ?_ (And.intro ?_ trivial))
      · intro rest ho
        refine G.loadI (y := 4) rfl rfl rfl rfl ty3 (fun w hs => Rd.bk (Lens.id _ _) hs (j := 1) rfl) ?_
        refine G.frontAt 2 rfl ?_
        refine G.frontAt 2 rfl ?_
        refine G.frontAt 2 rfl ?_
        refine G.less ?_ (d4 rest ho)
        exact ⟨rfl, rfl, rfl, rfl, trivial⟩
      · intro rest ho
        refine G.loadI (y := 4) rfl rfl rfl rfl ty3 (fun w hs => Rd.bk (Lens.id _ _) hs (j := 1) rfl) ?_
        refine G.frontAt 2 rfl ?_
        refine G.frontAt 2 rfl ?_
        refine G.frontAt 2 rfl ?_
        refine G.less ?_ (d6 rest ho)
        exact ⟨rfl, rfl, rfl, rfl, trivial⟩
    have d1 : ∀ (l : List Nat), Ord armoirelaw06_live.ds8_4 7 [true, false, false, false, false, false, false, false] l → G C414 H [(2, .slice B1 (([5] : List Int).length) 1), (3, .pointer (some ⟨g247, 0, none⟩)), (4, .pointer (some ⟨g249, 0, none⟩)), (29, .int .i64 4)] (OS 3 (Kd.int .i64) B1 1 ([5] : List Int) :: BK 3 (Kd.int .i64) g247 4 :: BK 3 (Kd.int .i64) g249 10 :: Fr) (.inRegion ops415 l :: k416) := by
      intro  l hl
      refine G.fork [1, 2] hl rfl (And.intro ?_ (And.intro ?_ trivial))
      · intro rest ho
        refine G.loadI (y := 10) rfl rfl rfl rfl ty3 (fun w hs => Rd.bk (Lens.id _ _) hs (j := 2) rfl) ?_
        refine G.frontAt 2 rfl ?_
        refine G.frontAt 2 rfl ?_
        refine G.frontAt 2 rfl ?_
        refine G.less ?_ (d4 rest ho)
        exact ⟨rfl, rfl, rfl, rfl, trivial⟩
      · intro rest ho
        refine G.loadI (y := 4) rfl rfl rfl rfl ty3 (fun w hs => Rd.bk (Lens.id _ _) hs (j := 1) rfl) ?_
        refine G.frontAt 2 rfl ?_
        refine G.frontAt 2 rfl ?_
        refine G.frontAt 2 rfl ?_
        refine G.less ?_ (d5 rest ho)
        exact ⟨rfl, rfl, rfl, rfl, rfl, trivial⟩
    have d0 : ∀ (l : List Nat), Ord armoirelaw06_live.ds8_4 8 [false, false, false, false, false, false, false, false] l → G C414 H [(2, .slice B1 (([5] : List Int).length) 1), (3, .pointer (some ⟨g247, 0, none⟩)), (4, .pointer (some ⟨g249, 0, none⟩))] (OS 3 (Kd.int .i64) B1 1 ([5] : List Int) :: BK 3 (Kd.int .i64) g247 4 :: BK 3 (Kd.int .i64) g249 10 :: Fr) (.inRegion ops415 l :: k416) := by
      intro  l hl
      refine G.fork [0, 1, 2] hl rfl (And.intro ?_ (And.intro ?_ (And.intro ?_ trivial)))
      · intro rest ho
        refine G.loadI (y := 4) rfl rfl rfl rfl ty3 (fun w hs => Rd.bk (Lens.id _ _) hs (j := 1) rfl) ?_
        refine G.frontAt 2 rfl ?_
        refine G.frontAt 2 rfl ?_
        refine G.frontAt 2 rfl ?_
        refine G.less ?_ (d1 rest ho)
        exact ⟨rfl, rfl, rfl, rfl, trivial⟩
      · intro rest ho
        refine G.loadI (y := 10) rfl rfl rfl rfl ty3 (fun w hs => Rd.bk (Lens.id _ _) hs (j := 2) rfl) ?_
        refine G.frontAt 2 rfl ?_
        refine G.frontAt 2 rfl ?_
        refine G.frontAt 2 rfl ?_
        refine G.less ?_ (d2 rest ho)
        exact ⟨rfl, rfl, rfl, trivial⟩
      · intro rest ho
        refine G.loadI (y := 4) rfl rfl rfl rfl ty3 (fun w hs => Rd.bk (Lens.id _ _) hs (j := 1) rfl) ?_
        refine G.frontAt 2 rfl ?_
        refine G.frontAt 2 rfl ?_
        refine G.frontAt 2 rfl ?_
        refine G.less ?_ (d3 rest ho)
        exact ⟨rfl, rfl, rfl, rfl, trivial⟩
    intro l hl
    refine G.less ?_ (d0 l hl)
    exact ⟨rfl, rfl, rfl, trivial⟩
  intro J417
  refine G.inl (n' := 9) rfl rfl rfl rfl call24 Try.func24 rfl Try.ntmps24 rfl rfl ?_
  intro R251 rt252
  refine G.seq ?_
  refine G.region (l := [0]) rfl ?_
  refine G.assign rfl rfl rfl rfl ?_
  refine G.regionEnd ?_
  refine G.seq ?_
  refine G.region (l := [0, 1, 2, 3, 4]) rfl ?_
  refine G.move rfl rfl rfl rfl ?_
  refine G.move rfl rfl rfl rfl ?_
  refine G.inl (n' := 19) rfl rfl rfl rfl call33 Try.func33 rfl Try.ntmps33 rfl rfl ?_
  intro R418 rt419
  refine G.seq ?_
  refine G.region (l := [0]) rfl ?_
  refine G.assign rfl rfl rfl rfl ?_
  refine G.regionEnd ?_
  refine G.seq ?_
  refine G.seq ?_
  refine G.region (l := [0, 1, 2]) rfl ?_
  refine G.move rfl rfl rfl rfl ?_
  refine G.len (m := (([5] : List Int).length)) rfl rfl rfl rfl Try.underlying28 ?_
  refine G.move rfl rfl rfl rfl ?_
  refine G.regionEnd ?_
  refine G.block ?_
  refine G.loop (fun GG K => ∀ (d452 : Nat) (x442 : Int), armoirelaw06_live.l2 d452 x442 = some r → GG H [(0, .slice B1 (([5] : List Int).length) 1), (1, .func (.func 23) #[] #[.pointer (some ⟨g247, 0, none⟩), .pointer (some ⟨g249, 0, none⟩)]), (7, .int .i64 ((([5] : List Int).length) : Int)), (8, .int .i64 x442)] (OS 3 (Kd.int .i64) B1 1 ([5] : List Int) :: BK 3 (Kd.int .i64) g247 4 :: BK 3 (Kd.int .i64) g249 10 :: Fr) K) ?_ ?_
  · intro d452
    induction d452 with
    | zero => intro x442 h; rw [armoirelaw06_live.l2] at h; cases h
    | succ d452 ih451 =>
      intro x442 h
      rw [armoirelaw06_live.l2] at h
      refine G.seq ?_
      refine G.region (l := [0]) rfl ?_
      refine G.cmp (x442 < ((([5] : List Int).length) : Int)) rfl rfl rfl rfl rfl rfl Iff.rfl ?_
      refine G.regionEnd ?_
      refine G.seq ?_
      refine G.condP rfl (fun k461 => ?_) (fun k461 => ?_)
      · replace h := ifT h k461
        refine G.skip ?_
        refine G.seq ?_
        refine G.block ?_
        refine G.seq ?_
        refine G.region (l := [0, 1]) rfl ?_
        refine G.move rfl rfl rfl rfl ?_
        refine G.assign rfl rfl rfl rfl ?_
        refine G.regionEnd ?_
        refine G.seq ?_
        refine G.region (l := [0, 1, 2, 3, 4, 5]) rfl ?_
        refine G.move rfl rfl rfl rfl ?_
        refine G.move rfl rfl rfl rfl ?_
        refine G.move rfl rfl rfl rfl ?_
        obtain ⟨k455, h⟩ := guardS h
        have q454 : x442.toNat < ([5] : List Int).length := by omega
        refine G.indexO (xs := ([5] : List Int)) (j := x442) (off := x442.toNat * 1) rfl rfl rfl rfl rfl el28 (r := 0) rfl (by simp) k455 rfl ?_
        refine G.loadI (y := ([5] : List Int).getD x442.toNat 0) rfl rfl rfl rfl ty3 (fun w hs => Rd.osG q454 (Lens.id _ _) hs (j := 0) rfl (o := x442.toNat * 1) (by first | rfl | simp)) ?_
        refine G.frontAt 2 rfl ?_
        refine G.frontAt 2 rfl ?_
        obtain ⟨t456, e457, h⟩ := bindS h
        refine G.callSV rfl rfl rfl rfl rfl rfl call23 (free_New_1.ok (([5] : List Int).getD x442.toNat 0) 4 g247 10 g249 e457) ?_
        rintro v458 L459 ⟨rfl, rfl⟩
        refine G.regionEnd ?_
        refine G.cond rfl (fun k460 => ?_) (fun k460 => ?_)
        · replace h := ifT h k460
          refine G.seq ?_
          refine G.region (l := [0, 1]) rfl ?_
          refine G.move rfl rfl rfl rfl ?_
          refine G.assign rfl rfl rfl rfl ?_
          refine G.regionEnd ?_
          refine G.ret1 Try.func33 rfl rfl (rt419 _ _ _ ?_)
          refine G.cmp (0 ≤ x442) rfl rfl rfl rfl rfl rfl Iff.rfl ?_
          refine G.assign rfl rfl rfl rfl ?_
          refine G.regionEnd ?_
          refine G.ret1 Try.func24 rfl rfl (rt252 _ _ _ ?_)
          refine G.frontAt 1 rfl ?_
          refine G.frontAt 1 rfl ?_
          refine G.frontAt 2 rfl ?_
          refine G.less ?_ (J358  (decide (0 ≤ x442)) h)
          exact ⟨rfl, rfl, rfl, rfl, rfl, trivial⟩
        · replace h := ifFB h k460
          refine G.skip ?_
          refine G.inBlock ?_
          refine G.region (l := [0, 1]) rfl ?_
          refine G.bin (m := x442) (n := 1) (r := wi64 (x442 + 1)) rfl rfl rfl rfl rfl rfl rfl ?_
          refine G.move rfl rfl rfl rfl ?_
          refine G.regionEnd ?_
          refine G.round ?_
          refine G.frontAt 1 rfl ?_
          refine G.frontAt 1 rfl ?_
          refine G.frontAt 2 rfl ?_
          refine G.less ?_ (ih451  (wi64 (x442 + 1)) h)
          exact ⟨rfl, rfl, rfl, rfl, trivial⟩
      · replace h := ifF h k461
        refine G.exit rfl ?_
        refine G.seq ?_
        refine G.region (l := [0]) rfl ?_
        refine G.assign rfl rfl rfl rfl ?_
        refine G.regionEnd ?_
        refine G.ret1 Try.func33 rfl rfl (rt419 _ _ _ ?_)
        refine G.cmp (False) rfl rfl rfl rfl rfl rfl (by simp [cmpP]) ?_
        refine G.assign rfl rfl rfl rfl ?_
        refine G.regionEnd ?_
        refine G.ret1 Try.func24 rfl rfl (rt252 _ _ _ ?_)
        refine G.frontAt 2 rfl ?_
        refine G.frontAt 2 rfl ?_
        refine G.frontAt 2 rfl ?_
        refine G.less ?_ (J417   h)
        exact ⟨rfl, rfl, rfl, rfl, rfl, trivial⟩
  intro J462
  refine G.frontAt 1 rfl ?_
  refine G.frontAt 2 rfl ?_
  refine G.less ?_ (J462 FUEL  0 h)
  exact ⟨rfl, rfl, rfl, rfl, trivial⟩
end Go.Proofs.Ytpffemcpfddjbaa
