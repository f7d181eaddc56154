/- Own text, printed by wip/gen: the walks. -/
import Derived.Test.YtpiliblfmpgjeaaAw0
namespace Go.Proofs.Ytpiliblfmpgjeaa
open Go K
set_option linter.unusedVariables false
set_option maxHeartbeats 1000000
def armoirelaw15_ReadsMeet.ds2 : List (List Nat) := [[], [0], [1], [2, 1, 1], [1], [4, 3, 1], [3, 5, 1], [1, 6], [7, 5], [8], [8], [9, 10, 8, 8], [8], [8], [12, 13, 11, 8], [11, 14, 8], [8, 15], [16, 14], [17], [17], [18, 19, 17, 17], [17], [17], [21, 22, 20, 17], [20, 23, 17], [17, 24], [25, 23, 0, 1, 2, 3, 4, 5, 6, 7, 8, 9, 10, 11, 12, 13, 14, 15, 16, 17, 18, 19, 20, 21, 22, 23, 24, 25]]
set_option maxRecDepth 20000 in
theorem armoirelaw15_ReadsMeet.ok {O : World} {H : PH} {Fr : List Res} (C0 : List Value) (a0 : api_Touch) (F0 : K_api_Touch.R H a0 C0) (C1 : List Value) (a1 : api_Touch) (F1 : K_api_Touch.R H a1 C1) {r : Bool} (h : armoirelaw15_ReadsMeet.f a0 a1 = some r) :
    Ctr Try.prog 3 [.agg C0.toArray, .agg C1.toArray] O H Fr (fun v H' L' => v = .bool r ∧ Fr = L') := by
  refine Ctr.start (n := 33) Try.func3 rfl Try.ntmps3 rfl rfl ?_
  unfold armoirelaw15_ReadsMeet.f at h
  refine G.seq ?_
  refine G.region (l := [0, 1, 2]) rfl ?_
  refine G.box (dk := K_api_Touch) (y := a0) rfl rfl rfl rfl (VR.A F0) ?_
  intro g1
  refine G.box (dk := K_api_Touch) (y := a1) rfl rfl rfl rfl (VR.A F1) ?_
  intro g3
  refine G.assign rfl rfl rfl rfl ?_
  refine G.regionEnd ?_
  refine G.seq ?_
  refine G.region (l := [0, 1]) rfl ?_
  obtain ⟨t5, e6, h⟩ := bindS h
  refine G.call rfl rfl rfl rfl call9 (armoirelaw15_live.ok  e6) ?_
  rintro v7 H8 L10 l9 ⟨rfl, rfl⟩
  refine G.assign rfl rfl rfl rfl ?_
  refine G.regionEnd ?_
  refine G.seq ?_
  refine G.tail (fun GG K => ∀ (H135 : PH) (l136 : PH.le H8 H135) (b137 : Bool), armoirelaw15_ReadsMeet.j0 b137 = some r → GG H135 [(4, .bool b137)] (BK 24 K_api_Touch g3 a1 :: BK 24 K_api_Touch g1 a0 :: Fr) K) ?_ ?_
  · intro H135 l136 b137 h
    unfold armoirelaw15_ReadsMeet.j0 at h
    refine G.drop ?_
    refine G.drop ?_
    obtain rfl := Option.some.inj h
    exact G.ret1 Try.func3 rfl rfl (fun w hs => ⟨_, _, _, rfl, (PH.le_trans l9 l136), ⟨rfl, rfl⟩, hs⟩)
  intro J138
  refine byB (b := t5) (fun k11 => ?_) (fun k11 => ?_)
  · replace h := ifT h k11
    obtain ⟨t141, e142, h⟩ := bindS h
    obtain ⟨t147, e148, h⟩ := bindS h
    refine G.tail (fun GG K => ∀ (H205 : PH) (l206 : PH.le H8 H205) (b207 : Bool), armoirelaw15_ReadsMeet.j1 b207 = some r → GG H205 [(4, .bool b207)] (BK 24 K_api_Touch g3 a1 :: BK 24 K_api_Touch g1 a0 :: Fr) K) ?_ ?_
    · intro H205 l206 b207 h
      unfold armoirelaw15_ReadsMeet.j1 at h
      refine G.front1 ?_
      refine G.front1 ?_
      refine G.less ?_ (J138 H205 l206 b207 h)
      exact ⟨rfl, trivial⟩
    intro J208
    refine byP (p := t141 = t147) (fun k151 => ?_) (fun k151 => ?_)
    · replace h := ifT h k151
      obtain ⟨t213, e214, h⟩ := bindS h
      obtain ⟨t221, e222, h⟩ := bindS h
      refine G.tail (fun GG K => ∀ (H242 : PH) (l243 : PH.le H8 H242) (b244 : Bool), armoirelaw15_ReadsMeet.j2 b244 = some r → GG H242 [(4, .bool b244)] (BK 24 K_api_Touch g3 a1 :: BK 24 K_api_Touch g1 a0 :: Fr) K) ?_ ?_
      · intro H242 l243 b244 h
        unfold armoirelaw15_ReadsMeet.j2 at h
        refine G.front1 ?_
        refine G.front1 ?_
        refine G.less ?_ (J208 H242 l243 b244 h)
        exact ⟨rfl, trivial⟩
      intro J245
      refine byB (b := (t213 == t221)) (fun k225 => ?_) (fun k225 => ?_)
      · replace h := ifT h k225
        obtain ⟨t250, e251, h⟩ := bindS h
        obtain ⟨t258, e259, h⟩ := bindS h
        refine G.draw armoirelaw15_ReadsMeet.ds2 27 [0, 1, 2, 3, 4, 5, 6, 7, 8, 9, 10, 11, 12, 13, 14, 15, 16, 17, 18, 19, 20, 21, 22, 23, 24, 25, 26] [0, 1, 2, 3, 2, 4, 5, 6, 7, 8, 8, 9, 8, 8, 10, 11, 12, 13, 14, 14, 15, 14, 14, 16, 17, 18, 19] [0, 1, 2, 3, 2, 4, 5, 6, 7, 8, 8, 9, 8, 8, 10, 11, 12, 13, 14, 14, 15, 14, 14, 16, 17, 18, 19] rfl (by kernel_rfl) (by kernel_rfl) (by kernel_rfl) (by kernel_rfl) ?_
        intro C262 ops263 k264
        have d57 : ∀ (l : List Nat), Ord armoirelaw15_ReadsMeet.ds2 0 [true, true, true, true, true, true, true, true, true, true, true, true, true, true, true, true, true, true, true, true, true, true, true, true, true, true, true] l → G C262 H8 [(4, .bool (t250 == t258))] (BK 24 K_api_Touch g3 a1 :: BK 24 K_api_Touch g1 a0 :: Fr) (.inRegion ops263 l :: k264) := by
          intro  l hl
          refine G.drawnAll hl ?_
          refine G.regionEnd ?_
          refine G.front1 ?_
          refine G.front1 ?_
          refine G.less ?_ (J245 H8 (PH.le_refl _) (t250 == t258) h)
          exact ⟨rfl, trivial⟩
        have d56 : ∀ (l : List Nat), Ord armoirelaw15_ReadsMeet.ds2 1 [true, true, true, true, true, true, true, true, true, true, true, true, true, true, true, true, true, true, true, true, true, true, true, true, true, true, false] l → G C262 H8 [(32, .bool (t250 == t258))] (BK 24 K_api_Touch g3 a1 :: BK 24 K_api_Touch g1 a0 :: Fr) (.inRegion ops263 l :: k264) := by
          intro  l hl
          refine G.fork [26] hl rfl (And.intro ?_ trivial)
          · intro rest ho
            refine G.assign rfl rfl rfl rfl ?_
            refine G.front1 ?_
            refine G.front1 ?_
            refine G.less ?_ (d57 rest ho)
            exact ⟨rfl, trivial⟩
        have d55 : ∀ (l : List Nat), Ord armoirelaw15_ReadsMeet.ds2 2 [true, true, true, true, true, true, true, true, true, true, true, true, true, true, true, true, true, true, true, true, true, true, true, true, true, false, false] l → G C262 H8 [(24, .bool true), (31, .bool (t250 == t258))] (BK 24 K_api_Touch g3 a1 :: BK 24 K_api_Touch g1 a0 :: Fr) (.inRegion ops263 l :: k264) := by
          intro  l hl
          refine G.fork [25] hl rfl (And.intro ?_ trivial)
          · intro rest ho
            refine G.pickT rfl rfl rfl rfl rfl ?_
            refine G.front1 ?_
            refine G.front1 ?_
            refine G.less ?_ (d56 rest ho)
            exact ⟨rfl, trivial⟩
        have d54 : ∀ (l : List Nat), Ord armoirelaw15_ReadsMeet.ds2 3 [true, true, true, true, true, true, true, true, true, true, true, true, true, true, true, true, true, true, true, true, true, true, true, true, false, false, false] l → G C262 H8 [(24, .bool true), (27, .bool t250), (30, .bool t258)] (BK 24 K_api_Touch g3 a1 :: BK 24 K_api_Touch g1 a0 :: Fr) (.inRegion ops263 l :: k264) := by
          intro  l hl
          refine G.fork [24] hl rfl (And.intro ?_ trivial)
          · intro rest ho
            refine G.cmpB (a := t250) (b := t258) (r := (t250 == t258)) rfl rfl rfl rfl rfl Try.underlying4 rfl ?_
            refine G.front1 ?_
            refine G.front1 ?_
            refine G.less ?_ (d55 rest ho)
            exact ⟨rfl, rfl, trivial⟩
        have d53 : ∀ (cs254 : List Value) (f255 : K_api_Touch.R H8 a1 cs254) (cs256 : List Value) (f257 : K_api_Touch.R H8 a0 cs256) (l : List Nat), Ord armoirelaw15_ReadsMeet.ds2 4 [true, true, true, true, true, true, true, true, true, true, true, true, true, true, true, true, true, true, true, true, true, true, true, false, false, false, false] l → G C262 H8 [(24, .bool true), (27, .bool t250), (28, .agg cs254.toArray), (29, .agg cs256.toArray)] (BK 24 K_api_Touch g3 a1 :: BK 24 K_api_Touch g1 a0 :: Fr) (.inRegion ops263 l :: k264) := by
          intro cs254 f255 cs256 f257 l hl
          refine G.fork [23] hl rfl (And.intro ?_ trivial)
          · intro rest ho
            refine G.callB rfl rfl rfl rfl call13 (fun w hs => armoireref15_Meet.ok cs254 a1 (K_api_Touch.mono hs.ro f255) cs256 a0 (K_api_Touch.mono hs.ro f257) e259) (by rintro v H' L' ⟨rfl, rfl⟩; exact Free.nil) ?_
            rintro v260 L261 ⟨_, rfl, rfl⟩
            refine G.front1 ?_
            refine G.front1 ?_
            refine G.less ?_ (d54 rest ho)
            exact ⟨rfl, rfl, rfl, trivial⟩
        have d52 : ∀ (cs246 : List Value) (f247 : K_api_Touch.R H8 a1 cs246) (cs248 : List Value) (f249 : K_api_Touch.R H8 a0 cs248) (cs254 : List Value) (f255 : K_api_Touch.R H8 a1 cs254) (cs256 : List Value) (f257 : K_api_Touch.R H8 a0 cs256) (l : List Nat), Ord armoirelaw15_ReadsMeet.ds2 5 [true, true, true, true, true, true, true, true, true, true, true, true, true, true, true, true, true, true, true, true, false, true, true, false, false, false, false] l → G C262 H8 [(24, .bool true), (25, .agg cs246.toArray), (26, .agg cs248.toArray), (28, .agg cs254.toArray), (29, .agg cs256.toArray)] (BK 24 K_api_Touch g3 a1 :: BK 24 K_api_Touch g1 a0 :: Fr) (.inRegion ops263 l :: k264) := by
          intro cs246 f247 cs248 f249 cs254 f255 cs256 f257 l hl
          refine G.fork [20] hl rfl (And.intro ?_ trivial)
          · intro rest ho
            refine G.callB rfl rfl rfl rfl call12 (fun w hs => reads_Meet.ok cs246 a1 (K_api_Touch.mono hs.ro f247) cs248 a0 (K_api_Touch.mono hs.ro f249) e251) (by rintro v H' L' ⟨rfl, rfl⟩; exact Free.nil) ?_
            rintro v252 L253 ⟨_, rfl, rfl⟩
            refine G.front1 ?_
            refine G.front1 ?_
            refine G.less ?_ (d53 cs254 f255 cs256 f257 rest ho)
            exact ⟨rfl, rfl, rfl, rfl, trivial⟩
        have d51 : ∀ (cs256 : List Value) (f257 : K_api_Touch.R H8 a0 cs256) (l : List Nat), Ord armoirelaw15_ReadsMeet.ds2 5 [true, true, true, true, true, true, true, true, true, true, true, true, true, true, true, true, true, true, true, true, true, false, true, false, false, false, false] l → G C262 H8 [(3, .pointer (some ⟨g3, 0, none⟩)), (24, .bool true), (27, .bool t250), (29, .agg cs256.toArray)] (BK 24 K_api_Touch g3 a1 :: BK 24 K_api_Touch g1 a0 :: Fr) (.inRegion ops263 l :: k264) := by
          intro cs256 f257 l hl
          refine G.fork [21] hl rfl (And.intro ?_ trivial)
          · intro rest ho
            refine G.loadA (df := K_api_Touch) (y := a1) rfl rfl rfl rfl ty24 rfl (fun w hs => Rd.bk (Lens.id _ _) hs (j := 0) rfl) ?_
            intro cs254 f255
            refine G.front1 ?_
            refine G.front1 ?_
            refine G.less ?_ (d53 cs254 f255 cs256 f257 rest ho)
            exact ⟨rfl, rfl, rfl, rfl, trivial⟩
        have d50 : ∀ (cs254 : List Value) (f255 : K_api_Touch.R H8 a1 cs254) (l : List Nat), Ord armoirelaw15_ReadsMeet.ds2 5 [true, true, true, true, true, true, true, true, true, true, true, true, true, true, true, true, true, true, true, true, true, true, false, false, false, false, false] l → G C262 H8 [(2, .pointer (some ⟨g1, 0, none⟩)), (24, .bool true), (27, .bool t250), (28, .agg cs254.toArray)] (BK 24 K_api_Touch g3 a1 :: BK 24 K_api_Touch g1 a0 :: Fr) (.inRegion ops263 l :: k264) := by
          intro cs254 f255 l hl
          refine G.fork [22] hl rfl (And.intro ?_ trivial)
          · intro rest ho
            refine G.loadA (df := K_api_Touch) (y := a0) rfl rfl rfl rfl ty24 rfl (fun w hs => Rd.bk (Lens.id _ _) hs (j := 1) rfl) ?_
            intro cs256 f257
            refine G.front1 ?_
            refine G.front1 ?_
            refine G.less ?_ (d53 cs254 f255 cs256 f257 rest ho)
            exact ⟨rfl, rfl, rfl, rfl, trivial⟩
        have d49 : ∀ (cs248 : List Value) (f249 : K_api_Touch.R H8 a0 cs248) (cs254 : List Value) (f255 : K_api_Touch.R H8 a1 cs254) (cs256 : List Value) (f257 : K_api_Touch.R H8 a0 cs256) (l : List Nat), Ord armoirelaw15_ReadsMeet.ds2 6 [true, true, true, true, true, true, true, true, true, true, true, true, true, true, true, true, true, true, false, true, false, true, true, false, false, false, false] l → G C262 H8 [(3, .pointer (some ⟨g3, 0, none⟩)), (24, .bool true), (26, .agg cs248.toArray), (28, .agg cs254.toArray), (29, .agg cs256.toArray)] (BK 24 K_api_Touch g3 a1 :: BK 24 K_api_Touch g1 a0 :: Fr) (.inRegion ops263 l :: k264) := by
          intro cs248 f249 cs254 f255 cs256 f257 l hl
          refine G.fork [18] hl rfl (And.intro ?_ trivial)
          · intro rest ho
            refine G.loadA (df := K_api_Touch) (y := a1) rfl rfl rfl rfl ty24 rfl (fun w hs => Rd.bk (Lens.id _ _) hs (j := 0) rfl) ?_
            intro cs246 f247
            refine G.front1 ?_
            refine G.front1 ?_
            refine G.less ?_ (d52 cs246 f247 cs248 f249 cs254 f255 cs256 f257 rest ho)
            exact ⟨rfl, rfl, rfl, rfl, rfl, trivial⟩
        have d48 : ∀ (cs246 : List Value) (f247 : K_api_Touch.R H8 a1 cs246) (cs254 : List Value) (f255 : K_api_Touch.R H8 a1 cs254) (cs256 : List Value) (f257 : K_api_Touch.R H8 a0 cs256) (l : List Nat), Ord armoirelaw15_ReadsMeet.ds2 6 [true, true, true, true, true, true, true, true, true, true, true, true, true, true, true, true, true, true, true, false, false, true, true, false, false, false, false] l → G C262 H8 [(2, .pointer (some ⟨g1, 0, none⟩)), (24, .bool true), (25, .agg cs246.toArray), (28, .agg cs254.toArray), (29, .agg cs256.toArray)] (BK 24 K_api_Touch g3 a1 :: BK 24 K_api_Touch g1 a0 :: Fr) (.inRegion ops263 l :: k264) := by
          intro cs246 f247 cs254 f255 cs256 f257 l hl
          refine G.fork [19] hl rfl (And.intro ?_ trivial)
          · intro rest ho
            refine G.loadA (df := K_api_Touch) (y := a0) rfl rfl rfl rfl ty24 rfl (fun w hs => Rd.bk (Lens.id _ _) hs (j := 1) rfl) ?_
            intro cs248 f249
            refine G.front1 ?_
            refine G.front1 ?_
            refine G.less ?_ (d52 cs246 f247 cs248 f249 cs254 f255 cs256 f257 rest ho)
            exact ⟨rfl, rfl, rfl, rfl, rfl, trivial⟩
        have d47 : ∀ (cs246 : List Value) (f247 : K_api_Touch.R H8 a1 cs246) (cs248 : List Value) (f249 : K_api_Touch.R H8 a0 cs248) (cs256 : List Value) (f257 : K_api_Touch.R H8 a0 cs256) (l : List Nat), Ord armoirelaw15_ReadsMeet.ds2 6 [true, true, true, true, true, true, true, true, true, true, true, true, true, true, true, true, true, true, true, true, false, false, true, false, false, false, false] l → G C262 H8 [(3, .pointer (some ⟨g3, 0, none⟩)), (24, .bool true), (25, .agg cs246.toArray), (26, .agg cs248.toArray), (29, .agg cs256.toArray)] (BK 24 K_api_Touch g3 a1 :: BK 24 K_api_Touch g1 a0 :: Fr) (.inRegion ops263 l :: k264) := by
          intro cs246 f247 cs248 f249 cs256 f257 l hl
          refine G.fork [20, 21] hl rfl (And.intro ?_ (And.intro ?_ trivial))
          · intro rest ho
            refine G.callB rfl rfl rfl rfl call12 (fun w hs => reads_Meet.ok cs246 a1 (K_api_Touch.mono hs.ro f247) cs248 a0 (K_api_Touch.mono hs.ro f249) e251) (by rintro v H' L' ⟨rfl, rfl⟩; exact Free.nil) ?_
            rintro v252 L253 ⟨_, rfl, rfl⟩
            refine G.front1 ?_
            refine G.front1 ?_
            refine G.less ?_ (d51 cs256 f257 rest ho)
            exact ⟨rfl, rfl, rfl, rfl, trivial⟩
          · intro rest ho
            refine G.loadA (df := K_api_Touch) (y := a1) rfl rfl rfl rfl ty24 rfl (fun w hs => Rd.bk (Lens.id _ _) hs (j := 0) rfl) ?_
            intro cs254 f255
            refine G.front1 ?_
            refine G.front1 ?_
            refine G.less ?_ (d52 cs246 f247 cs248 f249 cs254 f255 cs256 f257 rest ho)
            exact ⟨rfl, rfl, rfl, rfl, rfl, trivial⟩
        have d46 : ∀ (cs246 : List Value) (f247 : K_api_Touch.R H8 a1 cs246) (cs248 : List Value) (f249 : K_api_Touch.R H8 a0 cs248) (cs254 : List Value) (f255 : K_api_Touch.R H8 a1 cs254) (l : List Nat), Ord armoirelaw15_ReadsMeet.ds2 6 [true, true, true, true, true, true, true, true, true, true, true, true, true, true, true, true, true, true, true, true, false, true, false, false, false, false, false] l → G C262 H8 [(2, .pointer (some ⟨g1, 0, none⟩)), (24, .bool true), (25, .agg cs246.toArray), (26, .agg cs248.toArray), (28, .agg cs254.toArray)] (BK 24 K_api_Touch g3 a1 :: BK 24 K_api_Touch g1 a0 :: Fr) (.inRegion ops263 l :: k264) := by
          intro cs246 f247 cs248 f249 cs254 f255 l hl
          refine G.fork [20, 22] hl rfl (And.intro ?_ (And.intro ?_ trivial))
          · intro rest ho
            refine G.callB rfl rfl rfl rfl call12 (fun w hs => reads_Meet.ok cs246 a1 (K_api_Touch.mono hs.ro f247) cs248 a0 (K_api_Touch.mono hs.ro f249) e251) (by rintro v H' L' ⟨rfl, rfl⟩; exact Free.nil) ?_
            rintro v252 L253 ⟨_, rfl, rfl⟩
            refine G.front1 ?_
            refine G.front1 ?_
            refine G.less ?_ (d50 cs254 f255 rest ho)
            exact ⟨rfl, rfl, rfl, rfl, trivial⟩
          · intro rest ho
            refine G.loadA (df := K_api_Touch) (y := a0) rfl rfl rfl rfl ty24 rfl (fun w hs => Rd.bk (Lens.id _ _) hs (j := 1) rfl) ?_
            intro cs256 f257
            refine G.front1 ?_
            refine G.front1 ?_
            refine G.less ?_ (d52 cs246 f247 cs248 f249 cs254 f255 cs256 f257 rest ho)
            exact ⟨rfl, rfl, rfl, rfl, rfl, trivial⟩
        have d45 : ∀ (l : List Nat), Ord armoirelaw15_ReadsMeet.ds2 6 [true, true, true, true, true, true, true, true, true, true, true, true, true, true, true, true, true, true, true, true, true, false, false, false, false, false, false] l → G C262 H8 [(2, .pointer (some ⟨g1, 0, none⟩)), (3, .pointer (some ⟨g3, 0, none⟩)), (24, .bool true), (27, .bool t250)] (BK 24 K_api_Touch g3 a1 :: BK 24 K_api_Touch g1 a0 :: Fr) (.inRegion ops263 l :: k264) := by
          intro  l hl
          refine G.fork [21, 22] hl rfl (And.intro ?_ (And.intro ?_ trivial))
          · intro rest ho
            refine G.loadA (df := K_api_Touch) (y := a1) rfl rfl rfl rfl ty24 rfl (fun w hs => Rd.bk (Lens.id _ _) hs (j := 0) rfl) ?_
            intro cs254 f255
            refine G.front1 ?_
            refine G.front1 ?_
            refine G.less ?_ (d50 cs254 f255 rest ho)
            exact ⟨rfl, rfl, rfl, rfl, trivial⟩
          · intro rest ho
            refine G.loadA (df := K_api_Touch) (y := a0) rfl rfl rfl rfl ty24 rfl (fun w hs => Rd.bk (Lens.id _ _) hs (j := 1) rfl) ?_
            intro cs256 f257
            refine G.front1 ?_
            refine G.front1 ?_
            refine G.less ?_ (d51 cs256 f257 rest ho)
            exact ⟨rfl, rfl, rfl, rfl, trivial⟩
        have d44 : ∀ (cs254 : List Value) (f255 : K_api_Touch.R H8 a1 cs254) (cs256 : List Value) (f257 : K_api_Touch.R H8 a0 cs256) (l : List Nat), Ord armoirelaw15_ReadsMeet.ds2 7 [true, true, true, true, true, true, true, true, true, true, true, true, true, true, true, true, true, true, false, false, false, true, true, false, false, false, false] l → G C262 H8 [(2, .pointer (some ⟨g1, 0, none⟩)), (3, .pointer (some ⟨g3, 0, none⟩)), (24, .bool true), (28, .agg cs254.toArray), (29, .agg cs256.toArray)] (BK 24 K_api_Touch g3 a1 :: BK 24 K_api_Touch g1 a0 :: Fr) (.inRegion ops263 l :: k264) := by
          intro cs254 f255 cs256 f257 l hl
          refine G.fork [18, 19] hl rfl (And.intro ?_ (And.intro ?_ trivial))
          · intro rest ho
            refine G.loadA (df := K_api_Touch) (y := a1) rfl rfl rfl rfl ty24 rfl (fun w hs => Rd.bk (Lens.id _ _) hs (j := 0) rfl) ?_
            intro cs246 f247
            refine G.front1 ?_
            refine G.front1 ?_
            refine G.less ?_ (d48 cs246 f247 cs254 f255 cs256 f257 rest ho)
            exact ⟨rfl, rfl, rfl, rfl, rfl, trivial⟩
          · intro rest ho
            refine G.loadA (df := K_api_Touch) (y := a0) rfl rfl rfl rfl ty24 rfl (fun w hs => Rd.bk (Lens.id _ _) hs (j := 1) rfl) ?_
            intro cs248 f249
            refine G.front1 ?_
            refine G.front1 ?_
            refine G.less ?_ (d49 cs248 f249 cs254 f255 cs256 f257 rest ho)
            exact ⟨rfl, rfl, rfl, rfl, rfl, trivial⟩
        have d43 : ∀ (cs248 : List Value) (f249 : K_api_Touch.R H8 a0 cs248) (cs256 : List Value) (f257 : K_api_Touch.R H8 a0 cs256) (l : List Nat), Ord armoirelaw15_ReadsMeet.ds2 7 [true, true, true, true, true, true, true, true, true, true, true, true, true, true, true, true, true, true, false, true, false, false, true, false, false, false, false] l → G C262 H8 [(3, .pointer (some ⟨g3, 0, none⟩)), (24, .bool true), (26, .agg cs248.toArray), (29, .agg cs256.toArray)] (BK 24 K_api_Touch g3 a1 :: BK 24 K_api_Touch g1 a0 :: Fr) (.inRegion ops263 l :: k264) := by
          intro cs248 f249 cs256 f257 l hl
          refine G.fork [18, 21] hl rfl (And.intro ?_ (And.intro ?_ trivial))
          · intro rest ho
            refine G.loadA (df := K_api_Touch) (y := a1) rfl rfl rfl rfl ty24 rfl (fun w hs => Rd.bk (Lens.id _ _) hs (j := 0) rfl) ?_
            intro cs246 f247
            refine G.front1 ?_
            refine G.front1 ?_
            refine G.less ?_ (d47 cs246 f247 cs248 f249 cs256 f257 rest ho)
            exact ⟨rfl, rfl, rfl, rfl, rfl, trivial⟩
          · intro rest ho
            refine G.loadA (df := K_api_Touch) (y := a1) rfl rfl rfl rfl ty24 rfl (fun w hs => Rd.bk (Lens.id _ _) hs (j := 0) rfl) ?_
            intro cs254 f255
            refine G.front1 ?_
            refine G.front1 ?_
            refine G.less ?_ (d49 cs248 f249 cs254 f255 cs256 f257 rest ho)
            exact ⟨rfl, rfl, rfl, rfl, rfl, trivial⟩
        have d42 : ∀ (cs248 : List Value) (f249 : K_api_Touch.R H8 a0 cs248) (cs254 : List Value) (f255 : K_api_Touch.R H8 a1 cs254) (l : List Nat), Ord armoirelaw15_ReadsMeet.ds2 7 [true, true, true, true, true, true, true, true, true, true, true, true, true, true, true, true, true, true, false, true, false, true, false, false, false, false, false] l → G C262 H8 [(2, .pointer (some ⟨g1, 0, none⟩)), (3, .pointer (some ⟨g3, 0, none⟩)), (24, .bool true), (26, .agg cs248.toArray), (28, .agg cs254.toArray)] (BK 24 K_api_Touch g3 a1 :: BK 24 K_api_Touch g1 a0 :: Fr) (.inRegion ops263 l :: k264) := by
          intro cs248 f249 cs254 f255 l hl
          refine G.fork [18, 22] hl rfl (And.intro ?_ (And.intro ?_ trivial))
          · intro rest ho
            refine G.loadA (df := K_api_Touch) (y := a1) rfl rfl rfl rfl ty24 rfl (fun w hs => Rd.bk (Lens.id _ _) hs (j := 0) rfl) ?_
            intro cs246 f247
            refine G.front1 ?_
            refine G.front1 ?_
            refine G.less ?_ (d46 cs246 f247 cs248 f249 cs254 f255 rest ho)
            exact ⟨rfl, rfl, rfl, rfl, rfl, trivial⟩
          · intro rest ho
            refine G.loadA (df := K_api_Touch) (y := a0) rfl rfl rfl rfl ty24 rfl (fun w hs => Rd.bk (Lens.id _ _) hs (j := 1) rfl) ?_
            intro cs256 f257
            refine G.front1 ?_
            refine G.front1 ?_
            refine G.less ?_ (d49 cs248 f249 cs254 f255 cs256 f257 rest ho)
            exact ⟨rfl, rfl, rfl, rfl, rfl, trivial⟩
        have d41 : ∀ (cs246 : List Value) (f247 : K_api_Touch.R H8 a1 cs246) (cs256 : List Value) (f257 : K_api_Touch.R H8 a0 cs256) (l : List Nat), Ord armoirelaw15_ReadsMeet.ds2 7 [true, true, true, true, true, true, true, true, true, true, true, true, true, true, true, true, true, true, true, false, false, false, true, false, false, false, false] l → G C262 H8 [(2, .pointer (some ⟨g1, 0, none⟩)), (3, .pointer (some ⟨g3, 0, none⟩)), (24, .bool true), (25, .agg cs246.toArray), (29, .agg cs256.toArray)] (BK 24 K_api_Touch g3 a1 :: BK 24 K_api_Touch g1 a0 :: Fr) (.inRegion ops263 l :: k264) := by
          intro cs246 f247 cs256 f257 l hl
          refine G.fork [19, 21] hl rfl (And.intro ?_ (And.intro ?_ trivial))
          · intro rest ho
            refine G.loadA (df := K_api_Touch) (y := a0) rfl rfl rfl rfl ty24 rfl (fun w hs => Rd.bk (Lens.id _ _) hs (j := 1) rfl) ?_
            intro cs248 f249
            refine G.front1 ?_
            refine G.front1 ?_
            refine G.less ?_ (d47 cs246 f247 cs248 f249 cs256 f257 rest ho)
            exact ⟨rfl, rfl, rfl, rfl, rfl, trivial⟩
          · intro rest ho
            refine G.loadA (df := K_api_Touch) (y := a1) rfl rfl rfl rfl ty24 rfl (fun w hs => Rd.bk (Lens.id _ _) hs (j := 0) rfl) ?_
            intro cs254 f255
            refine G.front1 ?_
            refine G.front1 ?_
            refine G.less ?_ (d48 cs246 f247 cs254 f255 cs256 f257 rest ho)
            exact ⟨rfl, rfl, rfl, rfl, rfl, trivial⟩
        have d40 : ∀ (cs246 : List Value) (f247 : K_api_Touch.R H8 a1 cs246) (cs254 : List Value) (f255 : K_api_Touch.R H8 a1 cs254) (l : List Nat), Ord armoirelaw15_ReadsMeet.ds2 7 [true, true, true, true, true, true, true, true, true, true, true, true, true, true, true, true, true, true, true, false, false, true, false, false, false, false, false] l → G C262 H8 [(2, .pointer (some ⟨g1, 0, none⟩)), (24, .bool true), (25, .agg cs246.toArray), (28, .agg cs254.toArray)] (BK 24 K_api_Touch g3 a1 :: BK 24 K_api_Touch g1 a0 :: Fr) (.inRegion ops263 l :: k264) := by
          intro cs246 f247 cs254 f255 l hl
          refine G.fork [19, 22] hl rfl (And.intro ?_ (And.intro ?_ trivial))
          · intro rest ho
            refine G.loadA (df := K_api_Touch) (y := a0) rfl rfl rfl rfl ty24 rfl (fun w hs => Rd.bk (Lens.id _ _) hs (j := 1) rfl) ?_
            intro cs248 f249
            refine G.front1 ?_
            refine G.front1 ?_
            refine G.less ?_ (d46 cs246 f247 cs248 f249 cs254 f255 rest ho)
            exact ⟨rfl, rfl, rfl, rfl, rfl, trivial⟩
          · intro rest ho
            refine G.loadA (df := K_api_Touch) (y := a0) rfl rfl rfl rfl ty24 rfl (fun w hs => Rd.bk (Lens.id _ _) hs (j := 1) rfl) ?_
            intro cs256 f257
            refine G.front1 ?_
            refine G.front1 ?_
            refine G.less ?_ (d48 cs246 f247 cs254 f255 cs256 f257 rest ho)
            exact ⟨rfl, rfl, rfl, rfl, rfl, trivial⟩
        have d39 : ∀ (cs246 : List Value) (f247 : K_api_Touch.R H8 a1 cs246) (cs248 : List Value) (f249 : K_api_Touch.R H8 a0 cs248) (l : List Nat), Ord armoirelaw15_ReadsMeet.ds2 7 [true, true, true, true, true, true, true, true, true, true, true, true, true, true, true, true, true, true, true, true, false, false, false, false, false, false, false] l → G C262 H8 [(2, .pointer (some ⟨g1, 0, none⟩)), (3, .pointer (some ⟨g3, 0, none⟩)), (24, .bool true), (25, .agg cs246.toArray), (26, .agg cs248.toArray)] (BK 24 K_api_Touch g3 a1 :: BK 24 K_api_Touch g1 a0 :: Fr) (.inRegion ops263 l :: k264) := by
          intro cs246 f247 cs248 f249 l hl
          refine G.fork [20, 21, 22] hl rfl (And.intro ?_ (And.intro ?_ (And.intro ?_ trivial)))
          · intro rest ho
            refine G.callB rfl rfl rfl rfl call12 (fun w hs => reads_Meet.ok cs246 a1 (K_api_Touch.mono hs.ro f247) cs248 a0 (K_api_Touch.mono hs.ro f249) e251) (by rintro v H' L' ⟨rfl, rfl⟩; exact Free.nil) ?_
            rintro v252 L253 ⟨_, rfl, rfl⟩
            refine G.front1 ?_
            refine G.front1 ?_
            refine G.less ?_ (d45 rest ho)
            exact ⟨rfl, rfl, rfl, rfl, trivial⟩
          · intro rest ho
            refine G.loadA (df := K_api_Touch) (y := a1) rfl rfl rfl rfl ty24 rfl (fun w hs => Rd.bk (Lens.id _ _) hs (j := 0) rfl) ?_
            intro cs254 f255
            refine G.front1 ?_
            refine G.front1 ?_
            refine G.less ?_ (d46 cs246 f247 cs248 f249 cs254 f255 rest ho)
            exact ⟨rfl, rfl, rfl, rfl, rfl, trivial⟩
          · intro rest ho
            refine G.loadA (df := K_api_Touch) (y := a0) rfl rfl rfl rfl ty24 rfl (fun w hs => Rd.bk (Lens.id _ _) hs (j := 1) rfl) ?_
            intro cs256 f257
            refine G.front1 ?_
            refine G.front1 ?_
            refine G.less ?_ (d47 cs246 f247 cs248 f249 cs256 f257 rest ho)
            exact ⟨rfl, rfl, rfl, rfl, rfl, trivial⟩
        have d38 : ∀ (cs256 : List Value) (f257 : K_api_Touch.R H8 a0 cs256) (l : List Nat), Ord armoirelaw15_ReadsMeet.ds2 8 [true, true, true, true, true, true, true, true, true, true, true, true, true, true, true, true, true, true, false, false, false, false, true, false, false, false, false] l → G C262 H8 [(2, .pointer (some ⟨g1, 0, none⟩)), (3, .pointer (some ⟨g3, 0, none⟩)), (24, .bool true), (29, .agg cs256.toArray)] (BK 24 K_api_Touch g3 a1 :: BK 24 K_api_Touch g1 a0 :: Fr) (.inRegion ops263 l :: k264) := by
          intro cs256 f257 l hl
          refine G.fork [18, 19, 21] hl rfl (And.intro ?_ (And.intro ?_ (And.intro ?_ trivial)))
          · intro rest ho
            refine G.loadA (df := K_api_Touch) (y := a1) rfl rfl rfl rfl ty24 rfl (fun w hs => Rd.bk (Lens.id _ _) hs (j := 0) rfl) ?_
            intro cs246 f247
            refine G.front1 ?_
            refine G.front1 ?_
            refine G.less ?_ (d41 cs246 f247 cs256 f257 rest ho)
            exact ⟨rfl, rfl, rfl, rfl, rfl, trivial⟩
          · intro rest ho
            refine G.loadA (df := K_api_Touch) (y := a0) rfl rfl rfl rfl ty24 rfl (fun w hs => Rd.bk (Lens.id _ _) hs (j := 1) rfl) ?_
            intro cs248 f249
            refine G.front1 ?_
            refine G.front1 ?_
            refine G.less ?_ (d43 cs248 f249 cs256 f257 rest ho)
            exact ⟨rfl, rfl, rfl, rfl, trivial⟩
          · intro rest ho
            refine G.loadA (df := K_api_Touch) (y := a1) rfl rfl rfl rfl ty24 rfl (fun w hs => Rd.bk (Lens.id _ _) hs (j := 0) rfl) ?_
            intro cs254 f255
            refine G.front1 ?_
            refine G.front1 ?_
            refine G.less ?_ (d44 cs254 f255 cs256 f257 rest ho)
            exact ⟨rfl, rfl, rfl, rfl, rfl, trivial⟩
        have d37 : ∀ (cs254 : List Value) (f255 : K_api_Touch.R H8 a1 cs254) (l : List Nat), Ord armoirelaw15_ReadsMeet.ds2 8 [true, true, true, true, true, true, true, true, true, true, true, true, true, true, true, true, true, true, false, false, false, true, false, false, false, false, false] l → G C262 H8 [(2, .pointer (some ⟨g1, 0, none⟩)), (3, .pointer (some ⟨g3, 0, none⟩)), (24, .bool true), (28, .agg cs254.toArray)] (BK 24 K_api_Touch g3 a1 :: BK 24 K_api_Touch g1 a0 :: Fr) (.inRegion ops263 l :: k264) := by
          intro cs254 f255 l hl
          refine G.fork [18, 19, 22] hl rfl (And.intro ?_ (And.intro ?_ (And.intro ?_ trivial)))
          · intro rest ho
            refine G.loadA (df := K_api_Touch) (y := a1) rfl rfl rfl rfl ty24 rfl (fun w hs => Rd.bk (Lens.id _ _) hs (j := 0) rfl) ?_
            intro cs246 f247
            refine G.front1 ?_
            refine G.front1 ?_
            refine G.less ?_ (d40 cs246 f247 cs254 f255 rest ho)
            exact ⟨rfl, rfl, rfl, rfl, trivial⟩
          · intro rest ho
            refine G.loadA (df := K_api_Touch) (y := a0) rfl rfl rfl rfl ty24 rfl (fun w hs => Rd.bk (Lens.id _ _) hs (j := 1) rfl) ?_
            intro cs248 f249
            refine G.front1 ?_
            refine G.front1 ?_
            refine G.less ?_ (d42 cs248 f249 cs254 f255 rest ho)
            exact ⟨rfl, rfl, rfl, rfl, rfl, trivial⟩
          · intro rest ho
            refine G.loadA (df := K_api_Touch) (y := a0) rfl rfl rfl rfl ty24 rfl (fun w hs => Rd.bk (Lens.id _ _) hs (j := 1) rfl) ?_
            intro cs256 f257
            refine G.front1 ?_
            refine G.front1 ?_
            refine G.less ?_ (d44 cs254 f255 cs256 f257 rest ho)
            exact ⟨rfl, rfl, rfl, rfl, rfl, trivial⟩
        have d36 : ∀ (cs248 : List Value) (f249 : K_api_Touch.R H8 a0 cs248) (l : List Nat), Ord armoirelaw15_ReadsMeet.ds2 8 [true, true, true, true, true, true, true, true, true, true, true, true, true, true, true, true, true, true, false, true, false, false, false, false, false, false, false] l → G C262 H8 [(2, .pointer (some ⟨g1, 0, none⟩)), (3, .pointer (some ⟨g3, 0, none⟩)), (24, .bool true), (26, .agg cs248.toArray)] (BK 24 K_api_Touch g3 a1 :: BK 24 K_api_Touch g1 a0 :: Fr) (.inRegion ops263 l :: k264) := by
          intro cs248 f249 l hl
          refine G.fork [18, 21, 22] hl rfl (And.intro ?_ (And.intro ?_ (And.intro ?_ trivial)))
          · intro rest ho
            refine G.loadA (df := K_api_Touch) (y := a1) rfl rfl rfl rfl ty24 rfl (fun w hs => Rd.bk (Lens.id _ _) hs (j := 0) rfl) ?_
            intro cs246 f247
            refine G.front1 ?_
            refine G.front1 ?_
            refine G.less ?_ (d39 cs246 f247 cs248 f249 rest ho)
            exact ⟨rfl, rfl, rfl, rfl, rfl, trivial⟩
          · intro rest ho
            refine G.loadA (df := K_api_Touch) (y := a1) rfl rfl rfl rfl ty24 rfl (fun w hs => Rd.bk (Lens.id _ _) hs (j := 0) rfl) ?_
            intro cs254 f255
            refine G.front1 ?_
            refine G.front1 ?_
            refine G.less ?_ (d42 cs248 f249 cs254 f255 rest ho)
            exact ⟨rfl, rfl, rfl, rfl, rfl, trivial⟩
          · intro rest ho
            refine G.loadA (df := K_api_Touch) (y := a0) rfl rfl rfl rfl ty24 rfl (fun w hs => Rd.bk (Lens.id _ _) hs (j := 1) rfl) ?_
            intro cs256 f257
            refine G.front1 ?_
            refine G.front1 ?_
            refine G.less ?_ (d43 cs248 f249 cs256 f257 rest ho)
            exact ⟨rfl, rfl, rfl, rfl, trivial⟩
        have d35 : ∀ (cs246 : List Value) (f247 : K_api_Touch.R H8 a1 cs246) (l : List Nat), Ord armoirelaw15_ReadsMeet.ds2 8 [true, true, true, true, true, true, true, true, true, true, true, true, true, true, true, true, true, true, true, false, false, false, false, false, false, false, false] l → G C262 H8 [(2, .pointer (some ⟨g1, 0, none⟩)), (3, .pointer (some ⟨g3, 0, none⟩)), (24, .bool true), (25, .agg cs246.toArray)] (BK 24 K_api_Touch g3 a1 :: BK 24 K_api_Touch g1 a0 :: Fr) (.inRegion ops263 l :: k264) := by
          intro cs246 f247 l hl
          refine G.fork [19, 21, 22] hl rfl (And.intro ?_ (And.intro ?_ (And.intro ?_ trivial)))
          · intro rest ho
            refine G.loadA (df := K_api_Touch) (y := a0) rfl rfl rfl rfl ty24 rfl (fun w hs => Rd.bk (Lens.id _ _) hs (j := 1) rfl) ?_
            intro cs248 f249
            refine G.front1 ?_
            refine G.front1 ?_
            refine G.less ?_ (d39 cs246 f247 cs248 f249 rest ho)
            exact ⟨rfl, rfl, rfl, rfl, rfl, trivial⟩
          · intro rest ho
            refine G.loadA (df := K_api_Touch) (y := a1) rfl rfl rfl rfl ty24 rfl (fun w hs => Rd.bk (Lens.id _ _) hs (j := 0) rfl) ?_
            intro cs254 f255
            refine G.front1 ?_
            refine G.front1 ?_
            refine G.less ?_ (d40 cs246 f247 cs254 f255 rest ho)
            exact ⟨rfl, rfl, rfl, rfl, trivial⟩
          · intro rest ho
            refine G.loadA (df := K_api_Touch) (y := a0) rfl rfl rfl rfl ty24 rfl (fun w hs => Rd.bk (Lens.id _ _) hs (j := 1) rfl) ?_
            intro cs256 f257
            refine G.front1 ?_
            refine G.front1 ?_
            refine G.less ?_ (d41 cs246 f247 cs256 f257 rest ho)
            exact ⟨rfl, rfl, rfl, rfl, rfl, trivial⟩
        have d34 : ∀ (l : List Nat), Ord armoirelaw15_ReadsMeet.ds2 9 [true, true, true, true, true, true, true, true, true, true, true, true, true, true, true, true, true, true, false, false, false, false, false, false, false, false, false] l → G C262 H8 [(2, .pointer (some ⟨g1, 0, none⟩)), (3, .pointer (some ⟨g3, 0, none⟩)), (24, .bool true)] (BK 24 K_api_Touch g3 a1 :: BK 24 K_api_Touch g1 a0 :: Fr) (.inRegion ops263 l :: k264) := by
          intro  l hl
          refine G.fork [18, 19, 21, 22] hl rfl (And.intro ?_ (And.intro ?_ (And.intro ?_ (And.intro ?_ trivial))))
          · intro rest ho
            refine G.loadA (df := K_api_Touch) (y := a1) rfl rfl rfl rfl ty24 rfl (fun w hs => Rd.bk (Lens.id _ _) hs (j := 0) rfl) ?_
            intro cs246 f247
            refine G.front1 ?_
            refine G.front1 ?_
            refine G.less ?_ (d35 cs246 f247 rest ho)
            exact ⟨rfl, rfl, rfl, rfl, trivial⟩
          · intro rest ho
            refine G.loadA (df := K_api_Touch) (y := a0) rfl rfl rfl rfl ty24 rfl (fun w hs => Rd.bk (Lens.id _ _) hs (j := 1) rfl) ?_
            intro cs248 f249
            refine G.front1 ?_
            refine G.front1 ?_
            refine G.less ?_ (d36 cs248 f249 rest ho)
            exact ⟨rfl, rfl, rfl, rfl, trivial⟩
          · intro rest ho
            refine G.loadA (df := K_api_Touch) (y := a1) rfl rfl rfl rfl ty24 rfl (fun w hs => Rd.bk (Lens.id _ _) hs (j := 0) rfl) ?_
            intro cs254 f255
            refine G.front1 ?_
            refine G.front1 ?_
            refine G.less ?_ (d37 cs254 f255 rest ho)
            exact ⟨rfl, rfl, rfl, rfl, trivial⟩
          · intro rest ho
            refine G.loadA (df := K_api_Touch) (y := a0) rfl rfl rfl rfl ty24 rfl (fun w hs => Rd.bk (Lens.id _ _) hs (j := 1) rfl) ?_
            intro cs256 f257
            refine G.front1 ?_
            refine G.front1 ?_
            refine G.less ?_ (d38 cs256 f257 rest ho)
            exact ⟨rfl, rfl, rfl, rfl, trivial⟩
        have d33 : ∀ (l : List Nat), Ord armoirelaw15_ReadsMeet.ds2 10 [true, true, true, true, true, true, true, true, true, true, true, true, true, true, true, true, true, false, false, false, false, false, false, false, false, false, false] l → G C262 H8 [(2, .pointer (some ⟨g1, 0, none⟩)), (3, .pointer (some ⟨g3, 0, none⟩)), (23, .bool (t213 == t221))] (BK 24 K_api_Touch g3 a1 :: BK 24 K_api_Touch g1 a0 :: Fr) (.inRegion ops263 l :: k264) := by
          intro  l hl
          refine G.fork [17] hl rfl (And.intro ?_ trivial)
          · intro rest ho
            refine G.move rfl rfl rfl rfl ?_
            refine G.same (d := 24) (v := .bool true) rfl (by simp [k225]) ?_
            refine G.front1 ?_
            refine G.front1 ?_
            refine G.less ?_ (d34 rest ho)
            exact ⟨rfl, rfl, rfl, trivial⟩
        have d32 : ∀ (l : List Nat), Ord armoirelaw15_ReadsMeet.ds2 11 [true, true, true, true, true, true, true, true, true, true, true, true, true, true, true, true, false, false, false, false, false, false, false, false, false, false, false] l → G C262 H8 [(2, .pointer (some ⟨g1, 0, none⟩)), (3, .pointer (some ⟨g3, 0, none⟩)), (15, .bool true), (22, .bool (t213 == t221))] (BK 24 K_api_Touch g3 a1 :: BK 24 K_api_Touch g1 a0 :: Fr) (.inRegion ops263 l :: k264) := by
          intro  l hl
          refine G.fork [16] hl rfl (And.intro ?_ trivial)
          · intro rest ho
            refine G.pickT rfl rfl rfl rfl rfl ?_
            refine G.front1 ?_
            refine G.front1 ?_
            refine G.less ?_ (d33 rest ho)
            exact ⟨rfl, rfl, rfl, trivial⟩
        have d31 : ∀ (l : List Nat), Ord armoirelaw15_ReadsMeet.ds2 12 [true, true, true, true, true, true, true, true, true, true, true, true, true, true, true, false, false, false, false, false, false, false, false, false, false, false, false] l → G C262 H8 [(2, .pointer (some ⟨g1, 0, none⟩)), (3, .pointer (some ⟨g3, 0, none⟩)), (15, .bool true), (18, .bool t213), (21, .bool t221)] (BK 24 K_api_Touch g3 a1 :: BK 24 K_api_Touch g1 a0 :: Fr) (.inRegion ops263 l :: k264) := by
          intro  l hl
          refine G.fork [15] hl rfl (And.intro ?_ trivial)
          · intro rest ho
            refine G.cmpB (a := t213) (b := t221) (r := (t213 == t221)) rfl rfl rfl rfl rfl Try.underlying4 rfl ?_
            refine G.front1 ?_
            refine G.front1 ?_
            refine G.less ?_ (d32 rest ho)
            exact ⟨rfl, rfl, rfl, rfl, trivial⟩
        have d30 : ∀ (cs217 : List Value) (f218 : K_api_Touch.R H8 a0 cs217) (cs219 : List Value) (f220 : K_api_Touch.R H8 a1 cs219) (l : List Nat), Ord armoirelaw15_ReadsMeet.ds2 13 [true, true, true, true, true, true, true, true, true, true, true, true, true, true, false, false, false, false, false, false, false, false, false, false, false, false, false] l → G C262 H8 [(2, .pointer (some ⟨g1, 0, none⟩)), (3, .pointer (some ⟨g3, 0, none⟩)), (15, .bool true), (18, .bool t213), (19, .agg cs217.toArray), (20, .agg cs219.toArray)] (BK 24 K_api_Touch g3 a1 :: BK 24 K_api_Touch g1 a0 :: Fr) (.inRegion ops263 l :: k264) := by
          intro cs217 f218 cs219 f220 l hl
          refine G.fork [14] hl rfl (And.intro ?_ trivial)
          · intro rest ho
            refine G.callB rfl rfl rfl rfl call13 (fun w hs => armoireref15_Meet.ok cs217 a0 (K_api_Touch.mono hs.ro f218) cs219 a1 (K_api_Touch.mono hs.ro f220) e222) (by rintro v H' L' ⟨rfl, rfl⟩; exact Free.nil) ?_
            rintro v223 L224 ⟨_, rfl, rfl⟩
            refine G.front1 ?_
            refine G.front1 ?_
            refine G.less ?_ (d31 rest ho)
            exact ⟨rfl, rfl, rfl, rfl, rfl, trivial⟩
        have d29 : ∀ (cs209 : List Value) (f210 : K_api_Touch.R H8 a0 cs209) (cs211 : List Value) (f212 : K_api_Touch.R H8 a1 cs211) (cs217 : List Value) (f218 : K_api_Touch.R H8 a0 cs217) (cs219 : List Value) (f220 : K_api_Touch.R H8 a1 cs219) (l : List Nat), Ord armoirelaw15_ReadsMeet.ds2 14 [true, true, true, true, true, true, true, true, true, true, true, false, true, true, false, false, false, false, false, false, false, false, false, false, false, false, false] l → G C262 H8 [(2, .pointer (some ⟨g1, 0, none⟩)), (3, .pointer (some ⟨g3, 0, none⟩)), (15, .bool true), (16, .agg cs209.toArray), (17, .agg cs211.toArray), (19, .agg cs217.toArray), (20, .agg cs219.toArray)] (BK 24 K_api_Touch g3 a1 :: BK 24 K_api_Touch g1 a0 :: Fr) (.inRegion ops263 l :: k264) := by
          intro cs209 f210 cs211 f212 cs217 f218 cs219 f220 l hl
          refine G.fork [11] hl rfl (And.intro ?_ trivial)
          · intro rest ho
            refine G.callB rfl rfl rfl rfl call12 (fun w hs => reads_Meet.ok cs209 a0 (K_api_Touch.mono hs.ro f210) cs211 a1 (K_api_Touch.mono hs.ro f212) e214) (by rintro v H' L' ⟨rfl, rfl⟩; exact Free.nil) ?_
            rintro v215 L216 ⟨_, rfl, rfl⟩
            refine G.front1 ?_
            refine G.front1 ?_
            refine G.less ?_ (d30 cs217 f218 cs219 f220 rest ho)
            exact ⟨rfl, rfl, rfl, rfl, rfl, rfl, trivial⟩
        have d28 : ∀ (cs219 : List Value) (f220 : K_api_Touch.R H8 a1 cs219) (l : List Nat), Ord armoirelaw15_ReadsMeet.ds2 14 [true, true, true, true, true, true, true, true, true, true, true, true, false, true, false, false, false, false, false, false, false, false, false, false, false, false, false] l → G C262 H8 [(2, .pointer (some ⟨g1, 0, none⟩)), (3, .pointer (some ⟨g3, 0, none⟩)), (15, .bool true), (18, .bool t213), (20, .agg cs219.toArray)] (BK 24 K_api_Touch g3 a1 :: BK 24 K_api_Touch g1 a0 :: Fr) (.inRegion ops263 l :: k264) := by
          intro cs219 f220 l hl
          refine G.fork [12] hl rfl (And.intro ?_ trivial)
          · intro rest ho
            refine G.loadA (df := K_api_Touch) (y := a0) rfl rfl rfl rfl ty24 rfl (fun w hs => Rd.bk (Lens.id _ _) hs (j := 1) rfl) ?_
            intro cs217 f218
            refine G.front1 ?_
            refine G.front1 ?_
            refine G.less ?_ (d30 cs217 f218 cs219 f220 rest ho)
            exact ⟨rfl, rfl, rfl, rfl, rfl, rfl, trivial⟩
        have d27 : ∀ (cs217 : List Value) (f218 : K_api_Touch.R H8 a0 cs217) (l : List Nat), Ord armoirelaw15_ReadsMeet.ds2 14 [true, true, true, true, true, true, true, true, true, true, true, true, true, false, false, false, false, false, false, false, false, false, false, false, false, false, false] l → G C262 H8 [(2, .pointer (some ⟨g1, 0, none⟩)), (3, .pointer (some ⟨g3, 0, none⟩)), (15, .bool true), (18, .bool t213), (19, .agg cs217.toArray)] (BK 24 K_api_Touch g3 a1 :: BK 24 K_api_Touch g1 a0 :: Fr) (.inRegion ops263 l :: k264) := by
          intro cs217 f218 l hl
          refine G.fork [13] hl rfl (And.intro ?_ trivial)
          · intro rest ho
            refine G.loadA (df := K_api_Touch) (y := a1) rfl rfl rfl rfl ty24 rfl (fun w hs => Rd.bk (Lens.id _ _) hs (j := 0) rfl) ?_
            intro cs219 f220
            refine G.front1 ?_
            refine G.front1 ?_
            refine G.less ?_ (d30 cs217 f218 cs219 f220 rest ho)
            exact ⟨rfl, rfl, rfl, rfl, rfl, rfl, trivial⟩
        have d26 : ∀ (cs211 : List Value) (f212 : K_api_Touch.R H8 a1 cs211) (cs217 : List Value) (f218 : K_api_Touch.R H8 a0 cs217) (cs219 : List Value) (f220 : K_api_Touch.R H8 a1 cs219) (l : List Nat), Ord armoirelaw15_ReadsMeet.ds2 15 [true, true, true, true, true, true, true, true, true, false, true, false, true, true, false, false, false, false, false, false, false, false, false, false, false, false, false] l → G C262 H8 [(2, .pointer (some ⟨g1, 0, none⟩)), (3, .pointer (some ⟨g3, 0, none⟩)), (15, .bool true), (17, .agg cs211.toArray), (19, .agg cs217.toArray), (20, .agg cs219.toArray)] (BK 24 K_api_Touch g3 a1 :: BK 24 K_api_Touch g1 a0 :: Fr) (.inRegion ops263 l :: k264) := by
          intro cs211 f212 cs217 f218 cs219 f220 l hl
          refine G.fork [9] hl rfl (And.intro ?_ trivial)
          · intro rest ho
            refine G.loadA (df := K_api_Touch) (y := a0) rfl rfl rfl rfl ty24 rfl (fun w hs => Rd.bk (Lens.id _ _) hs (j := 1) rfl) ?_
            intro cs209 f210
            refine G.front1 ?_
            refine G.front1 ?_
            refine G.less ?_ (d29 cs209 f210 cs211 f212 cs217 f218 cs219 f220 rest ho)
            exact ⟨rfl, rfl, rfl, rfl, rfl, rfl, rfl, trivial⟩
        have d25 : ∀ (cs209 : List Value) (f210 : K_api_Touch.R H8 a0 cs209) (cs217 : List Value) (f218 : K_api_Touch.R H8 a0 cs217) (cs219 : List Value) (f220 : K_api_Touch.R H8 a1 cs219) (l : List Nat), Ord armoirelaw15_ReadsMeet.ds2 15 [true, true, true, true, true, true, true, true, true, true, false, false, true, true, false, false, false, false, false, false, false, false, false, false, false, false, false] l → G C262 H8 [(2, .pointer (some ⟨g1, 0, none⟩)), (3, .pointer (some ⟨g3, 0, none⟩)), (15, .bool true), (16, .agg cs209.toArray), (19, .agg cs217.toArray), (20, .agg cs219.toArray)] (BK 24 K_api_Touch g3 a1 :: BK 24 K_api_Touch g1 a0 :: Fr) (.inRegion ops263 l :: k264) := by
          intro cs209 f210 cs217 f218 cs219 f220 l hl
          refine G.fork [10] hl rfl (And.intro ?_ trivial)
          · intro rest ho
            refine G.loadA (df := K_api_Touch) (y := a1) rfl rfl rfl rfl ty24 rfl (fun w hs => Rd.bk (Lens.id _ _) hs (j := 0) rfl) ?_
            intro cs211 f212
            refine G.front1 ?_
            refine G.front1 ?_
            refine G.less ?_ (d29 cs209 f210 cs211 f212 cs217 f218 cs219 f220 rest ho)
            exact ⟨rfl, rfl, rfl, rfl, rfl, rfl, rfl, trivial⟩
        have d24 : ∀ (cs209 : List Value) (f210 : K_api_Touch.R H8 a0 cs209) (cs211 : List Value) (f212 : K_api_Touch.R H8 a1 cs211) (cs219 : List Value) (f220 : K_api_Touch.R H8 a1 cs219) (l : List Nat), Ord armoirelaw15_ReadsMeet.ds2 15 [true, true, true, true, true, true, true, true, true, true, true, false, false, true, false, false, false, false, false, false, false, false, false, false, false, false, false] l → G C262 H8 [(2, .pointer (some ⟨g1, 0, none⟩)), (3, .pointer (some ⟨g3, 0, none⟩)), (15, .bool true), (16, .agg cs209.toArray), (17, .agg cs211.toArray), (20, .agg cs219.toArray)] (BK 24 K_api_Touch g3 a1 :: BK 24 K_api_Touch g1 a0 :: Fr) (.inRegion ops263 l :: k264) := by
          intro cs209 f210 cs211 f212 cs219 f220 l hl
          refine G.fork [11, 12] hl rfl (And.intro ?_ (And.intro ?_ trivial))
          · intro rest ho
            refine G.callB rfl rfl rfl rfl call12 (fun w hs => reads_Meet.ok cs209 a0 (K_api_Touch.mono hs.ro f210) cs211 a1 (K_api_Touch.mono hs.ro f212) e214) (by rintro v H' L' ⟨rfl, rfl⟩; exact Free.nil) ?_
            rintro v215 L216 ⟨_, rfl, rfl⟩
            refine G.front1 ?_
            refine G.front1 ?_
            refine G.less ?_ (d28 cs219 f220 rest ho)
            exact ⟨rfl, rfl, rfl, rfl, rfl, trivial⟩
          · intro rest ho
            refine G.loadA (df := K_api_Touch) (y := a0) rfl rfl rfl rfl ty24 rfl (fun w hs => Rd.bk (Lens.id _ _) hs (j := 1) rfl) ?_
            intro cs217 f218
            refine G.front1 ?_
            refine G.front1 ?_
            refine G.less ?_ (d29 cs209 f210 cs211 f212 cs217 f218 cs219 f220 rest ho)
            exact ⟨rfl, rfl, rfl, rfl, rfl, rfl, rfl, trivial⟩
        have d23 : ∀ (cs209 : List Value) (f210 : K_api_Touch.R H8 a0 cs209) (cs211 : List Value) (f212 : K_api_Touch.R H8 a1 cs211) (cs217 : List Value) (f218 : K_api_Touch.R H8 a0 cs217) (l : List Nat), Ord armoirelaw15_ReadsMeet.ds2 15 [true, true, true, true, true, true, true, true, true, true, true, false, true, false, false, false, false, false, false, false, false, false, false, false, false, false, false] l → G C262 H8 [(2, .pointer (some ⟨g1, 0, none⟩)), (3, .pointer (some ⟨g3, 0, none⟩)), (15, .bool true), (16, .agg cs209.toArray), (17, .agg cs211.toArray), (19, .agg cs217.toArray)] (BK 24 K_api_Touch g3 a1 :: BK 24 K_api_Touch g1 a0 :: Fr) (.inRegion ops263 l :: k264) := by
          intro cs209 f210 cs211 f212 cs217 f218 l hl
          refine G.fork [11, 13] hl rfl (And.intro ?_ (And.intro ?_ trivial))
          · intro rest ho
            refine G.callB rfl rfl rfl rfl call12 (fun w hs => reads_Meet.ok cs209 a0 (K_api_Touch.mono hs.ro f210) cs211 a1 (K_api_Touch.mono hs.ro f212) e214) (by rintro v H' L' ⟨rfl, rfl⟩; exact Free.nil) ?_
            rintro v215 L216 ⟨_, rfl, rfl⟩
            refine G.front1 ?_
            refine G.front1 ?_
            refine G.less ?_ (d27 cs217 f218 rest ho)
            exact ⟨rfl, rfl, rfl, rfl, rfl, trivial⟩
          · intro rest ho
            refine G.loadA (df := K_api_Touch) (y := a1) rfl rfl rfl rfl ty24 rfl (fun w hs => Rd.bk (Lens.id _ _) hs (j := 0) rfl) ?_
            intro cs219 f220
            refine G.front1 ?_
            refine G.front1 ?_
            refine G.less ?_ (d29 cs209 f210 cs211 f212 cs217 f218 cs219 f220 rest ho)
            exact ⟨rfl, rfl, rfl, rfl, rfl, rfl, rfl, trivial⟩
        have d22 : ∀ (l : List Nat), Ord armoirelaw15_ReadsMeet.ds2 15 [true, true, true, true, true, true, true, true, true, true, true, true, false, false, false, false, false, false, false, false, false, false, false, false, false, false, false] l → G C262 H8 [(2, .pointer (some ⟨g1, 0, none⟩)), (3, .pointer (some ⟨g3, 0, none⟩)), (15, .bool true), (18, .bool t213)] (BK 24 K_api_Touch g3 a1 :: BK 24 K_api_Touch g1 a0 :: Fr) (.inRegion ops263 l :: k264) := by
          intro  l hl
          refine G.fork [12, 13] hl rfl (And.intro ?_ (And.intro ?_ trivial))
          · intro rest ho
            refine G.loadA (df := K_api_Touch) (y := a0) rfl rfl rfl rfl ty24 rfl (fun w hs => Rd.bk (Lens.id _ _) hs (j := 1) rfl) ?_
            intro cs217 f218
            refine G.front1 ?_
            refine G.front1 ?_
            refine G.less ?_ (d27 cs217 f218 rest ho)
            exact ⟨rfl, rfl, rfl, rfl, rfl, trivial⟩
          · intro rest ho
            refine G.loadA (df := K_api_Touch) (y := a1) rfl rfl rfl rfl ty24 rfl (fun w hs => Rd.bk (Lens.id _ _) hs (j := 0) rfl) ?_
            intro cs219 f220
            refine G.front1 ?_
            refine G.front1 ?_
            refine G.less ?_ (d28 cs219 f220 rest ho)
            exact ⟨rfl, rfl, rfl, rfl, rfl, trivial⟩
        have d21 : ∀ (cs217 : List Value) (f218 : K_api_Touch.R H8 a0 cs217) (cs219 : List Value) (f220 : K_api_Touch.R H8 a1 cs219) (l : List Nat), Ord armoirelaw15_ReadsMeet.ds2 16 [true, true, true, true, true, true, true, true, true, false, false, false, true, true, false, false, false, false, false, false, false, false, false, false, false, false, false] l → G C262 H8 [(2, .pointer (some ⟨g1, 0, none⟩)), (3, .pointer (some ⟨g3, 0, none⟩)), (15, .bool true), (19, .agg cs217.toArray), (20, .agg cs219.toArray)] (BK 24 K_api_Touch g3 a1 :: BK 24 K_api_Touch g1 a0 :: Fr) (.inRegion ops263 l :: k264) := by
          intro cs217 f218 cs219 f220 l hl
          refine G.fork [9, 10] hl rfl (And.intro ?_ (And.intro ?_ trivial))
          · intro rest ho
            refine G.loadA (df := K_api_Touch) (y := a0) rfl rfl rfl rfl ty24 rfl (fun w hs => Rd.bk (Lens.id _ _) hs (j := 1) rfl) ?_
            intro cs209 f210
            refine G.front1 ?_
            refine G.front1 ?_
            refine G.less ?_ (d25 cs209 f210 cs217 f218 cs219 f220 rest ho)
            exact ⟨rfl, rfl, rfl, rfl, rfl, rfl, trivial⟩
          · intro rest ho
            refine G.loadA (df := K_api_Touch) (y := a1) rfl rfl rfl rfl ty24 rfl (fun w hs => Rd.bk (Lens.id _ _) hs (j := 0) rfl) ?_
            intro cs211 f212
            refine G.front1 ?_
            refine G.front1 ?_
            refine G.less ?_ (d26 cs211 f212 cs217 f218 cs219 f220 rest ho)
            exact ⟨rfl, rfl, rfl, rfl, rfl, rfl, trivial⟩
        have d20 : ∀ (cs211 : List Value) (f212 : K_api_Touch.R H8 a1 cs211) (cs219 : List Value) (f220 : K_api_Touch.R H8 a1 cs219) (l : List Nat), Ord armoirelaw15_ReadsMeet.ds2 16 [true, true, true, true, true, true, true, true, true, false, true, false, false, true, false, false, false, false, false, false, false, false, false, false, false, false, false] l → G C262 H8 [(2, .pointer (some ⟨g1, 0, none⟩)), (3, .pointer (some ⟨g3, 0, none⟩)), (15, .bool true), (17, .agg cs211.toArray), (20, .agg cs219.toArray)] (BK 24 K_api_Touch g3 a1 :: BK 24 K_api_Touch g1 a0 :: Fr) (.inRegion ops263 l :: k264) := by
          intro cs211 f212 cs219 f220 l hl
          refine G.fork [9, 12] hl rfl (And.intro ?_ (And.intro ?_ trivial))
          · intro rest ho
            refine G.loadA (df := K_api_Touch) (y := a0) rfl rfl rfl rfl ty24 rfl (fun w hs => Rd.bk (Lens.id _ _) hs (j := 1) rfl) ?_
            intro cs209 f210
            refine G.front1 ?_
            refine G.front1 ?_
            refine G.less ?_ (d24 cs209 f210 cs211 f212 cs219 f220 rest ho)
            exact ⟨rfl, rfl, rfl, rfl, rfl, rfl, trivial⟩
          · intro rest ho
            refine G.loadA (df := K_api_Touch) (y := a0) rfl rfl rfl rfl ty24 rfl (fun w hs => Rd.bk (Lens.id _ _) hs (j := 1) rfl) ?_
            intro cs217 f218
            refine G.front1 ?_
            refine G.front1 ?_
            refine G.less ?_ (d26 cs211 f212 cs217 f218 cs219 f220 rest ho)
            exact ⟨rfl, rfl, rfl, rfl, rfl, rfl, trivial⟩
        have d19 : ∀ (cs211 : List Value) (f212 : K_api_Touch.R H8 a1 cs211) (cs217 : List Value) (f218 : K_api_Touch.R H8 a0 cs217) (l : List Nat), Ord armoirelaw15_ReadsMeet.ds2 16 [true, true, true, true, true, true, true, true, true, false, true, false, true, false, false, false, false, false, false, false, false, false, false, false, false, false, false] l → G C262 H8 [(2, .pointer (some ⟨g1, 0, none⟩)), (3, .pointer (some ⟨g3, 0, none⟩)), (15, .bool true), (17, .agg cs211.toArray), (19, .agg cs217.toArray)] (BK 24 K_api_Touch g3 a1 :: BK 24 K_api_Touch g1 a0 :: Fr) (.inRegion ops263 l :: k264) := by
          intro cs211 f212 cs217 f218 l hl
          refine G.fork [9, 13] hl rfl (And.intro ?_ (And.intro ?_ trivial))
          · intro rest ho
            refine G.loadA (df := K_api_Touch) (y := a0) rfl rfl rfl rfl ty24 rfl (fun w hs => Rd.bk (Lens.id _ _) hs (j := 1) rfl) ?_
            intro cs209 f210
            refine G.front1 ?_
            refine G.front1 ?_
            refine G.less ?_ (d23 cs209 f210 cs211 f212 cs217 f218 rest ho)
            exact ⟨rfl, rfl, rfl, rfl, rfl, rfl, trivial⟩
          · intro rest ho
            refine G.loadA (df := K_api_Touch) (y := a1) rfl rfl rfl rfl ty24 rfl (fun w hs => Rd.bk (Lens.id _ _) hs (j := 0) rfl) ?_
            intro cs219 f220
            refine G.front1 ?_
            refine G.front1 ?_
            refine G.less ?_ (d26 cs211 f212 cs217 f218 cs219 f220 rest ho)
            exact ⟨rfl, rfl, rfl, rfl, rfl, rfl, trivial⟩
        have d18 : ∀ (cs209 : List Value) (f210 : K_api_Touch.R H8 a0 cs209) (cs219 : List Value) (f220 : K_api_Touch.R H8 a1 cs219) (l : List Nat), Ord armoirelaw15_ReadsMeet.ds2 16 [true, true, true, true, true, true, true, true, true, true, false, false, false, true, false, false, false, false, false, false, false, false, false, false, false, false, false] l → G C262 H8 [(2, .pointer (some ⟨g1, 0, none⟩)), (3, .pointer (some ⟨g3, 0, none⟩)), (15, .bool true), (16, .agg cs209.toArray), (20, .agg cs219.toArray)] (BK 24 K_api_Touch g3 a1 :: BK 24 K_api_Touch g1 a0 :: Fr) (.inRegion ops263 l :: k264) := by
          intro cs209 f210 cs219 f220 l hl
          refine G.fork [10, 12] hl rfl (And.intro ?_ (And.intro ?_ trivial))
          · intro rest ho
            refine G.loadA (df := K_api_Touch) (y := a1) rfl rfl rfl rfl ty24 rfl (fun w hs => Rd.bk (Lens.id _ _) hs (j := 0) rfl) ?_
            intro cs211 f212
            refine G.front1 ?_
            refine G.front1 ?_
            refine G.less ?_ (d24 cs209 f210 cs211 f212 cs219 f220 rest ho)
            exact ⟨rfl, rfl, rfl, rfl, rfl, rfl, trivial⟩
          · intro rest ho
            refine G.loadA (df := K_api_Touch) (y := a0) rfl rfl rfl rfl ty24 rfl (fun w hs => Rd.bk (Lens.id _ _) hs (j := 1) rfl) ?_
            intro cs217 f218
            refine G.front1 ?_
            refine G.front1 ?_
            refine G.less ?_ (d25 cs209 f210 cs217 f218 cs219 f220 rest ho)
            exact ⟨rfl, rfl, rfl, rfl, rfl, rfl, trivial⟩
        have d17 : ∀ (cs209 : List Value) (f210 : K_api_Touch.R H8 a0 cs209) (cs217 : List Value) (f218 : K_api_Touch.R H8 a0 cs217) (l : List Nat), Ord armoirelaw15_ReadsMeet.ds2 16 [true, true, true, true, true, true, true, true, true, true, false, false, true, false, false, false, false, false, false, false, false, false, false, false, false, false, false] l → G C262 H8 [(2, .pointer (some ⟨g1, 0, none⟩)), (3, .pointer (some ⟨g3, 0, none⟩)), (15, .bool true), (16, .agg cs209.toArray), (19, .agg cs217.toArray)] (BK 24 K_api_Touch g3 a1 :: BK 24 K_api_Touch g1 a0 :: Fr) (.inRegion ops263 l :: k264) := by
          intro cs209 f210 cs217 f218 l hl
          refine G.fork [10, 13] hl rfl (And.intro ?_ (And.intro ?_ trivial))
          · intro rest ho
            refine G.loadA (df := K_api_Touch) (y := a1) rfl rfl rfl rfl ty24 rfl (fun w hs => Rd.bk (Lens.id _ _) hs (j := 0) rfl) ?_
            intro cs211 f212
            refine G.front1 ?_
            refine G.front1 ?_
            refine G.less ?_ (d23 cs209 f210 cs211 f212 cs217 f218 rest ho)
            exact ⟨rfl, rfl, rfl, rfl, rfl, rfl, trivial⟩
          · intro rest ho
            refine G.loadA (df := K_api_Touch) (y := a1) rfl rfl rfl rfl ty24 rfl (fun w hs => Rd.bk (Lens.id _ _) hs (j := 0) rfl) ?_
            intro cs219 f220
            refine G.front1 ?_
            refine G.front1 ?_
            refine G.less ?_ (d25 cs209 f210 cs217 f218 cs219 f220 rest ho)
            exact ⟨rfl, rfl, rfl, rfl, rfl, rfl, trivial⟩
        have d16 : ∀ (cs209 : List Value) (f210 : K_api_Touch.R H8 a0 cs209) (cs211 : List Value) (f212 : K_api_Touch.R H8 a1 cs211) (l : List Nat), Ord armoirelaw15_ReadsMeet.ds2 16 [true, true, true, true, true, true, true, true, true, true, true, false, false, false, false, false, false, false, false, false, false, false, false, false, false, false, false] l → G C262 H8 [(2, .pointer (some ⟨g1, 0, none⟩)), (3, .pointer (some ⟨g3, 0, none⟩)), (15, .bool true), (16, .agg cs209.toArray), (17, .agg cs211.toArray)] (BK 24 K_api_Touch g3 a1 :: BK 24 K_api_Touch g1 a0 :: Fr) (.inRegion ops263 l :: k264) := by
          intro cs209 f210 cs211 f212 l hl
          refine G.fork [11, 12, 13] hl rfl (And.intro ?_ (And.intro ?_ (And.intro ?_ trivial)))
          · intro rest ho
            refine G.callB rfl rfl rfl rfl call12 (fun w hs => reads_Meet.ok cs209 a0 (K_api_Touch.mono hs.ro f210) cs211 a1 (K_api_Touch.mono hs.ro f212) e214) (by rintro v H' L' ⟨rfl, rfl⟩; exact Free.nil) ?_
            rintro v215 L216 ⟨_, rfl, rfl⟩
            refine G.front1 ?_
            refine G.front1 ?_
            refine G.less ?_ (d22 rest ho)
            exact ⟨rfl, rfl, rfl, rfl, trivial⟩
          · intro rest ho
            refine G.loadA (df := K_api_Touch) (y := a0) rfl rfl rfl rfl ty24 rfl (fun w hs => Rd.bk (Lens.id _ _) hs (j := 1) rfl) ?_
            intro cs217 f218
            refine G.front1 ?_
            refine G.front1 ?_
            refine G.less ?_ (d23 cs209 f210 cs211 f212 cs217 f218 rest ho)
            exact ⟨rfl, rfl, rfl, rfl, rfl, rfl, trivial⟩
          · intro rest ho
            refine G.loadA (df := K_api_Touch) (y := a1) rfl rfl rfl rfl ty24 rfl (fun w hs => Rd.bk (Lens.id _ _) hs (j := 0) rfl) ?_
            intro cs219 f220
            refine G.front1 ?_
            refine G.front1 ?_
            refine G.less ?_ (d24 cs209 f210 cs211 f212 cs219 f220 rest ho)
            exact ⟨rfl, rfl, rfl, rfl, rfl, rfl, trivial⟩
        have d15 : ∀ (cs219 : List Value) (f220 : K_api_Touch.R H8 a1 cs219) (l : List Nat), Ord armoirelaw15_ReadsMeet.ds2 17 [true, true, true, true, true, true, true, true, true, false, false, false, false, true, false, false, false, false, false, false, false, false, false, false, false, false, false] l → G C262 H8 [(2, .pointer (some ⟨g1, 0, none⟩)), (3, .pointer (some ⟨g3, 0, none⟩)), (15, .bool true), (20, .agg cs219.toArray)] (BK 24 K_api_Touch g3 a1 :: BK 24 K_api_Touch g1 a0 :: Fr) (.inRegion ops263 l :: k264) := by
          intro cs219 f220 l hl
          refine G.fork [9, 10, 12] hl rfl (And.intro ?_ (And.intro ?_ (And.intro ?_ trivial)))
          · intro rest ho
            refine G.loadA (df := K_api_Touch) (y := a0) rfl rfl rfl rfl ty24 rfl (fun w hs => Rd.bk (Lens.id _ _) hs (j := 1) rfl) ?_
            intro cs209 f210
            refine G.front1 ?_
            refine G.front1 ?_
            refine G.less ?_ (d18 cs209 f210 cs219 f220 rest ho)
            exact ⟨rfl, rfl, rfl, rfl, rfl, trivial⟩
          · intro rest ho
            refine G.loadA (df := K_api_Touch) (y := a1) rfl rfl rfl rfl ty24 rfl (fun w hs => Rd.bk (Lens.id _ _) hs (j := 0) rfl) ?_
            intro cs211 f212
            refine G.front1 ?_
            refine G.front1 ?_
            refine G.less ?_ (d20 cs211 f212 cs219 f220 rest ho)
            exact ⟨rfl, rfl, rfl, rfl, rfl, trivial⟩
          · intro rest ho
            refine G.loadA (df := K_api_Touch) (y := a0) rfl rfl rfl rfl ty24 rfl (fun w hs => Rd.bk (Lens.id _ _) hs (j := 1) rfl) ?_
            intro cs217 f218
            refine G.front1 ?_
            refine G.front1 ?_
            refine G.less ?_ (d21 cs217 f218 cs219 f220 rest ho)
            exact ⟨rfl, rfl, rfl, rfl, rfl, trivial⟩
        have d14 : ∀ (cs217 : List Value) (f218 : K_api_Touch.R H8 a0 cs217) (l : List Nat), Ord armoirelaw15_ReadsMeet.ds2 17 [true, true, true, true, true, true, true, true, true, false, false, false, true, false, false, false, false, false, false, false, false, false, false, false, false, false, false] l → G C262 H8 [(2, .pointer (some ⟨g1, 0, none⟩)), (3, .pointer (some ⟨g3, 0, none⟩)), (15, .bool true), (19, .agg cs217.toArray)] (BK 24 K_api_Touch g3 a1 :: BK 24 K_api_Touch g1 a0 :: Fr) (.inRegion ops263 l :: k264) := by
          intro cs217 f218 l hl
          refine G.fork [9, 10, 13] hl rfl (And.intro ?_ (And.intro ?_ (And.intro ?_ trivial)))
          · intro rest ho
            refine G.loadA (df := K_api_Touch) (y := a0) rfl rfl rfl rfl ty24 rfl (fun w hs => Rd.bk (Lens.id _ _) hs (j := 1) rfl) ?_
            intro cs209 f210
            refine G.front1 ?_
            refine G.front1 ?_
            refine G.less ?_ (d17 cs209 f210 cs217 f218 rest ho)
            exact ⟨rfl, rfl, rfl, rfl, rfl, trivial⟩
          · intro rest ho
            refine G.loadA (df := K_api_Touch) (y := a1) rfl rfl rfl rfl ty24 rfl (fun w hs => Rd.bk (Lens.id _ _) hs (j := 0) rfl) ?_
            intro cs211 f212
            refine G.front1 ?_
            refine G.front1 ?_
            refine G.less ?_ (d19 cs211 f212 cs217 f218 rest ho)
            exact ⟨rfl, rfl, rfl, rfl, rfl, trivial⟩
          · intro rest ho
            refine G.loadA (df := K_api_Touch) (y := a1) rfl rfl rfl rfl ty24 rfl (fun w hs => Rd.bk (Lens.id _ _) hs (j := 0) rfl) ?_
            intro cs219 f220
            refine G.front1 ?_
            refine G.front1 ?_
            refine G.less ?_ (d21 cs217 f218 cs219 f220 rest ho)
            exact ⟨rfl, rfl, rfl, rfl, rfl, trivial⟩
        have d13 : ∀ (cs211 : List Value) (f212 : K_api_Touch.R H8 a1 cs211) (l : List Nat), Ord armoirelaw15_ReadsMeet.ds2 17 [true, true, true, true, true, true, true, true, true, false, true, false, false, false, false, false, false, false, false, false, false, false, false, false, false, false, false] l → G C262 H8 [(2, .pointer (some ⟨g1, 0, none⟩)), (3, .pointer (some ⟨g3, 0, none⟩)), (15, .bool true), (17, .agg cs211.toArray)] (BK 24 K_api_Touch g3 a1 :: BK 24 K_api_Touch g1 a0 :: Fr) (.inRegion ops263 l :: k264) := by
          intro cs211 f212 l hl
          refine G.fork [9, 12, 13] hl rfl (And.intro ?_ (And.intro ?_ (And.intro ?_ trivial)))
          · intro rest ho
            refine G.loadA (df := K_api_Touch) (y := a0) rfl rfl rfl rfl ty24 rfl (fun w hs => Rd.bk (Lens.id _ _) hs (j := 1) rfl) ?_
            intro cs209 f210
            refine G.front1 ?_
            refine G.front1 ?_
            refine G.less ?_ (d16 cs209 f210 cs211 f212 rest ho)
            exact ⟨rfl, rfl, rfl, rfl, rfl, trivial⟩
          · intro rest ho
            refine G.loadA (df := K_api_Touch) (y := a0) rfl rfl rfl rfl ty24 rfl (fun w hs => Rd.bk (Lens.id _ _) hs (j := 1) rfl) ?_
            intro cs217 f218
            refine G.front1 ?_
            refine G.front1 ?_
            refine G.less ?_ (d19 cs211 f212 cs217 f218 rest ho)
            exact ⟨rfl, rfl, rfl, rfl, rfl, trivial⟩
          · intro rest ho
            refine G.loadA (df := K_api_Touch) (y := a1) rfl rfl rfl rfl ty24 rfl (fun w hs => Rd.bk (Lens.id _ _) hs (j := 0) rfl) ?_
            intro cs219 f220
            refine G.front1 ?_
            refine G.front1 ?_
            refine G.less ?_ (d20 cs211 f212 cs219 f220 rest ho)
            exact ⟨rfl, rfl, rfl, rfl, rfl, trivial⟩
        have d12 : ∀ (cs209 : List Value) (f210 : K_api_Touch.R H8 a0 cs209) (l : List Nat), Ord armoirelaw15_ReadsMeet.ds2 17 [true, true, true, true, true, true, true, true, true, true, false, false, false, false, false, false, false, false, false, false, false, false, false, false, false, false, false] l → G C262 H8 [(2, .pointer (some ⟨g1, 0, none⟩)), (3, .pointer (some ⟨g3, 0, none⟩)), (15, .bool true), (16, .agg cs209.toArray)] (BK 24 K_api_Touch g3 a1 :: BK 24 K_api_Touch g1 a0 :: Fr) (.inRegion ops263 l :: k264) := by
          intro cs209 f210 l hl
          refine G.fork [10, 12, 13] hl rfl (And.intro ?_ (And.intro ?_ (And.intro ?_ trivial)))
          · intro rest ho
            refine G.loadA (df := K_api_Touch) (y := a1) rfl rfl rfl rfl ty24 rfl (fun w hs => Rd.bk (Lens.id _ _) hs (j := 0) rfl) ?_
            intro cs211 f212
            refine G.front1 ?_
            refine G.front1 ?_
            refine G.less ?_ (d16 cs209 f210 cs211 f212 rest ho)
            exact ⟨rfl, rfl, rfl, rfl, rfl, trivial⟩
          · intro rest ho
            refine G.loadA (df := K_api_Touch) (y := a0) rfl rfl rfl rfl ty24 rfl (fun w hs => Rd.bk (Lens.id _ _) hs (j := 1) rfl) ?_
            intro cs217 f218
            refine G.front1 ?_
            refine G.front1 ?_
            refine G.less ?_ (d17 cs209 f210 cs217 f218 rest ho)
            exact ⟨rfl, rfl, rfl, rfl, rfl, trivial⟩
          · intro rest ho
            refine G.loadA (df := K_api_Touch) (y := a1) rfl rfl rfl rfl ty24 rfl (fun w hs => Rd.bk (Lens.id _ _) hs (j := 0) rfl) ?_
            intro cs219 f220
            refine G.front1 ?_
            refine G.front1 ?_
            refine G.less ?_ (d18 cs209 f210 cs219 f220 rest ho)
            exact ⟨rfl, rfl, rfl, rfl, rfl, trivial⟩
        have d11 : ∀ (l : List Nat), Ord armoirelaw15_ReadsMeet.ds2 18 [true, true, true, true, true, true, true, true, true, false, false, false, false, false, false, false, false, false, false, false, false, false, false, false, false, false, false] l → G C262 H8 [(2, .pointer (some ⟨g1, 0, none⟩)), (3, .pointer (some ⟨g3, 0, none⟩)), (15, .bool true)] (BK 24 K_api_Touch g3 a1 :: BK 24 K_api_Touch g1 a0 :: Fr) (.inRegion ops263 l :: k264) := by
          intro  l hl
          refine G.fork [9, 10, 12, 13] hl rfl (And.intro ?_ (And.intro ?_ (And.intro ?_ (And.intro ?_ trivial))))
          · intro rest ho
            refine G.loadA (df := K_api_Touch) (y := a0) rfl rfl rfl rfl ty24 rfl (fun w hs => Rd.bk (Lens.id _ _) hs (j := 1) rfl) ?_
            intro cs209 f210
            refine G.front1 ?_
            refine G.front1 ?_
            refine G.less ?_ (d12 cs209 f210 rest ho)
            exact ⟨rfl, rfl, rfl, rfl, trivial⟩
          · intro rest ho
            refine G.loadA (df := K_api_Touch) (y := a1) rfl rfl rfl rfl ty24 rfl (fun w hs => Rd.bk (Lens.id _ _) hs (j := 0) rfl) ?_
            intro cs211 f212
            refine G.front1 ?_
            refine G.front1 ?_
            refine G.less ?_ (d13 cs211 f212 rest ho)
            exact ⟨rfl, rfl, rfl, rfl, trivial⟩
          · intro rest ho
            refine G.loadA (df := K_api_Touch) (y := a0) rfl rfl rfl rfl ty24 rfl (fun w hs => Rd.bk (Lens.id _ _) hs (j := 1) rfl) ?_
            intro cs217 f218
            refine G.front1 ?_
            refine G.front1 ?_
            refine G.less ?_ (d14 cs217 f218 rest ho)
            exact ⟨rfl, rfl, rfl, rfl, trivial⟩
          · intro rest ho
            refine G.loadA (df := K_api_Touch) (y := a1) rfl rfl rfl rfl ty24 rfl (fun w hs => Rd.bk (Lens.id _ _) hs (j := 0) rfl) ?_
            intro cs219 f220
            refine G.front1 ?_
            refine G.front1 ?_
            refine G.less ?_ (d15 cs219 f220 rest ho)
            exact ⟨rfl, rfl, rfl, rfl, trivial⟩
        have d10 : ∀ (l : List Nat), Ord armoirelaw15_ReadsMeet.ds2 19 [true, true, true, true, true, true, true, true, false, false, false, false, false, false, false, false, false, false, false, false, false, false, false, false, false, false, false] l → G C262 H8 [(2, .pointer (some ⟨g1, 0, none⟩)), (3, .pointer (some ⟨g3, 0, none⟩)), (14, .bool (decide (t141 = t147)))] (BK 24 K_api_Touch g3 a1 :: BK 24 K_api_Touch g1 a0 :: Fr) (.inRegion ops263 l :: k264) := by
          intro  l hl
          refine G.fork [8] hl rfl (And.intro ?_ trivial)
          · intro rest ho
            refine G.move rfl rfl rfl rfl ?_
            refine G.same (d := 15) (v := .bool true) rfl (by simp [k151]) ?_
            refine G.front1 ?_
            refine G.front1 ?_
            refine G.less ?_ (d11 rest ho)
            exact ⟨rfl, rfl, rfl, trivial⟩
        have d9 : ∀ (l : List Nat), Ord armoirelaw15_ReadsMeet.ds2 20 [true, true, true, true, true, true, true, false, false, false, false, false, false, false, false, false, false, false, false, false, false, false, false, false, false, false, false] l → G C262 H8 [(2, .pointer (some ⟨g1, 0, none⟩)), (3, .pointer (some ⟨g3, 0, none⟩)), (8, .bool true), (13, .bool (decide (t141 = t147)))] (BK 24 K_api_Touch g3 a1 :: BK 24 K_api_Touch g1 a0 :: Fr) (.inRegion ops263 l :: k264) := by
          intro  l hl
          refine G.fork [7] hl rfl (And.intro ?_ trivial)
          · intro rest ho
            refine G.pickT rfl rfl rfl rfl rfl ?_
            refine G.front1 ?_
            refine G.front1 ?_
            refine G.less ?_ (d10 rest ho)
            exact ⟨rfl, rfl, rfl, trivial⟩
        have d8 : ∀ (l : List Nat), Ord armoirelaw15_ReadsMeet.ds2 21 [true, true, true, true, true, true, false, false, false, false, false, false, false, false, false, false, false, false, false, false, false, false, false, false, false, false, false] l → G C262 H8 [(2, .pointer (some ⟨g1, 0, none⟩)), (3, .pointer (some ⟨g3, 0, none⟩)), (8, .bool true), (10, .int .i64 t141), (12, .int .i64 t147)] (BK 24 K_api_Touch g3 a1 :: BK 24 K_api_Touch g1 a0 :: Fr) (.inRegion ops263 l :: k264) := by
          intro  l hl
          refine G.fork [6] hl rfl (And.intro ?_ trivial)
          · intro rest ho
            refine G.cmp (t141 = t147) rfl rfl rfl rfl rfl rfl Iff.rfl ?_
            refine G.front1 ?_
            refine G.front1 ?_
            refine G.less ?_ (d9 rest ho)
            exact ⟨rfl, rfl, rfl, rfl, trivial⟩
        have d7 : ∀ (cs145 : List Value) (f146 : K_api_Touch.R H8 a0 cs145) (l : List Nat), Ord armoirelaw15_ReadsMeet.ds2 22 [true, true, true, true, true, false, false, false, false, false, false, false, false, false, false, false, false, false, false, false, false, false, false, false, false, false, false] l → G C262 H8 [(2, .pointer (some ⟨g1, 0, none⟩)), (3, .pointer (some ⟨g3, 0, none⟩)), (8, .bool true), (10, .int .i64 t141), (11, .agg cs145.toArray)] (BK 24 K_api_Touch g3 a1 :: BK 24 K_api_Touch g1 a0 :: Fr) (.inRegion ops263 l :: k264) := by
          intro cs145 f146 l hl
          refine G.fork [5] hl rfl (And.intro ?_ trivial)
          · intro rest ho
            refine G.callB rfl rfl rfl rfl call11 (fun w hs => armoireref15_Check.ok cs145 a0 (K_api_Touch.mono hs.ro f146) e148) (by rintro v H' L' ⟨rfl, rfl⟩; exact Free.nil) ?_
            rintro v149 L150 ⟨_, rfl, rfl⟩
            refine G.front1 ?_
            refine G.front1 ?_
            refine G.less ?_ (d8 rest ho)
            exact ⟨rfl, rfl, rfl, rfl, rfl, trivial⟩
        have d6 : ∀ (cs139 : List Value) (f140 : K_api_Touch.R H8 a0 cs139) (cs145 : List Value) (f146 : K_api_Touch.R H8 a0 cs145) (l : List Nat), Ord armoirelaw15_ReadsMeet.ds2 23 [true, true, true, false, true, false, false, false, false, false, false, false, false, false, false, false, false, false, false, false, false, false, false, false, false, false, false] l → G C262 H8 [(2, .pointer (some ⟨g1, 0, none⟩)), (3, .pointer (some ⟨g3, 0, none⟩)), (8, .bool true), (9, .agg cs139.toArray), (11, .agg cs145.toArray)] (BK 24 K_api_Touch g3 a1 :: BK 24 K_api_Touch g1 a0 :: Fr) (.inRegion ops263 l :: k264) := by
          intro cs139 f140 cs145 f146 l hl
          refine G.fork [3] hl rfl (And.intro ?_ trivial)
          · intro rest ho
            refine G.callB rfl rfl rfl rfl call10 (fun w hs => reads_Check.ok cs139 a0 (K_api_Touch.mono hs.ro f140) e142) (by rintro v H' L' ⟨rfl, rfl⟩; exact Free.nil) ?_
            rintro v143 L144 ⟨_, rfl, rfl⟩
            refine G.front1 ?_
            refine G.front1 ?_
            refine G.less ?_ (d7 cs145 f146 rest ho)
            exact ⟨rfl, rfl, rfl, rfl, rfl, trivial⟩
        have d5 : ∀ (l : List Nat), Ord armoirelaw15_ReadsMeet.ds2 23 [true, true, true, true, false, false, false, false, false, false, false, false, false, false, false, false, false, false, false, false, false, false, false, false, false, false, false] l → G C262 H8 [(2, .pointer (some ⟨g1, 0, none⟩)), (3, .pointer (some ⟨g3, 0, none⟩)), (8, .bool true), (10, .int .i64 t141)] (BK 24 K_api_Touch g3 a1 :: BK 24 K_api_Touch g1 a0 :: Fr) (.inRegion ops263 l :: k264) := by
          intro  l hl
          refine G.fork [4] hl rfl (And.intro ?_ trivial)
          · intro rest ho
            refine G.loadA (df := K_api_Touch) (y := a0) rfl rfl rfl rfl ty24 rfl (fun w hs => Rd.bk (Lens.id _ _) hs (j := 1) rfl) ?_
            intro cs145 f146
            refine G.front1 ?_
            refine G.front1 ?_
            refine G.less ?_ (d7 cs145 f146 rest ho)
            exact ⟨rfl, rfl, rfl, rfl, rfl, trivial⟩
        have d4 : ∀ (cs145 : List Value) (f146 : K_api_Touch.R H8 a0 cs145) (l : List Nat), Ord armoirelaw15_ReadsMeet.ds2 24 [true, true, false, false, true, false, false, false, false, false, false, false, false, false, false, false, false, false, false, false, false, false, false, false, false, false, false] l → G C262 H8 [(2, .pointer (some ⟨g1, 0, none⟩)), (3, .pointer (some ⟨g3, 0, none⟩)), (8, .bool true), (11, .agg cs145.toArray)] (BK 24 K_api_Touch g3 a1 :: BK 24 K_api_Touch g1 a0 :: Fr) (.inRegion ops263 l :: k264) := by
          intro cs145 f146 l hl
          refine G.fork [2] hl rfl (And.intro ?_ trivial)
          · intro rest ho
            refine G.loadA (df := K_api_Touch) (y := a0) rfl rfl rfl rfl ty24 rfl (fun w hs => Rd.bk (Lens.id _ _) hs (j := 1) rfl) ?_
            intro cs139 f140
            refine G.front1 ?_
            refine G.front1 ?_
            refine G.less ?_ (d6 cs139 f140 cs145 f146 rest ho)
            exact ⟨rfl, rfl, rfl, rfl, rfl, trivial⟩
        have d3 : ∀ (cs139 : List Value) (f140 : K_api_Touch.R H8 a0 cs139) (l : List Nat), Ord armoirelaw15_ReadsMeet.ds2 24 [true, true, true, false, false, false, false, false, false, false, false, false, false, false, false, false, false, false, false, false, false, false, false, false, false, false, false] l → G C262 H8 [(2, .pointer (some ⟨g1, 0, none⟩)), (3, .pointer (some ⟨g3, 0, none⟩)), (8, .bool true), (9, .agg cs139.toArray)] (BK 24 K_api_Touch g3 a1 :: BK 24 K_api_Touch g1 a0 :: Fr) (.inRegion ops263 l :: k264) := by
          intro cs139 f140 l hl
          refine G.fork [3, 4] hl rfl (And.intro ?_ (And.intro ?_ trivial))
          · intro rest ho
            refine G.callB rfl rfl rfl rfl call10 (fun w hs => reads_Check.ok cs139 a0 (K_api_Touch.mono hs.ro f140) e142) (by rintro v H' L' ⟨rfl, rfl⟩; exact Free.nil) ?_
            rintro v143 L144 ⟨_, rfl, rfl⟩
            refine G.front1 ?_
            refine G.front1 ?_
            refine G.less ?_ (d5 rest ho)
            exact ⟨rfl, rfl, rfl, rfl, trivial⟩
          · intro rest ho
            refine G.loadA (df := K_api_Touch) (y := a0) rfl rfl rfl rfl ty24 rfl (fun w hs => Rd.bk (Lens.id _ _) hs (j := 1) rfl) ?_
            intro cs145 f146
            refine G.front1 ?_
            refine G.front1 ?_
            refine G.less ?_ (d6 cs139 f140 cs145 f146 rest ho)
            exact ⟨rfl, rfl, rfl, rfl, rfl, trivial⟩
        have d2 : ∀ (l : List Nat), Ord armoirelaw15_ReadsMeet.ds2 25 [true, true, false, false, false, false, false, false, false, false, false, false, false, false, false, false, false, false, false, false, false, false, false, false, false, false, false] l → G C262 H8 [(2, .pointer (some ⟨g1, 0, none⟩)), (3, .pointer (some ⟨g3, 0, none⟩)), (8, .bool true)] (BK 24 K_api_Touch g3 a1 :: BK 24 K_api_Touch g1 a0 :: Fr) (.inRegion ops263 l :: k264) := by
          intro  l hl
          refine G.fork [2, 4] hl rfl (And.intro ?_ (And.intro ?_ trivial))
          · intro rest ho
            refine G.loadA (df := K_api_Touch) (y := a0) rfl rfl rfl rfl ty24 rfl (fun w hs => Rd.bk (Lens.id _ _) hs (j := 1) rfl) ?_
            intro cs139 f140
            refine G.front1 ?_
            refine G.front1 ?_
            refine G.less ?_ (d3 cs139 f140 rest ho)
            exact ⟨rfl, rfl, rfl, rfl, trivial⟩
          · intro rest ho
            refine G.loadA (df := K_api_Touch) (y := a0) rfl rfl rfl rfl ty24 rfl (fun w hs => Rd.bk (Lens.id _ _) hs (j := 1) rfl) ?_
            intro cs145 f146
            refine G.front1 ?_
            refine G.front1 ?_
            refine G.less ?_ (d4 cs145 f146 rest ho)
            exact ⟨rfl, rfl, rfl, rfl, trivial⟩
        have d1 : ∀ (l : List Nat), Ord armoirelaw15_ReadsMeet.ds2 26 [true, false, false, false, false, false, false, false, false, false, false, false, false, false, false, false, false, false, false, false, false, false, false, false, false, false, false] l → G C262 H8 [(2, .pointer (some ⟨g1, 0, none⟩)), (3, .pointer (some ⟨g3, 0, none⟩)), (7, .bool t5)] (BK 24 K_api_Touch g3 a1 :: BK 24 K_api_Touch g1 a0 :: Fr) (.inRegion ops263 l :: k264) := by
          intro  l hl
          refine G.fork [1] hl rfl (And.intro ?_ trivial)
          · intro rest ho
            refine G.move rfl rfl rfl rfl ?_
            refine G.same (d := 8) (v := .bool true) rfl (by simp [k11]) ?_
            refine G.front1 ?_
            refine G.front1 ?_
            refine G.less ?_ (d2 rest ho)
            exact ⟨rfl, rfl, rfl, trivial⟩
        have d0 : ∀ (l : List Nat), Ord armoirelaw15_ReadsMeet.ds2 27 [false, false, false, false, false, false, false, false, false, false, false, false, false, false, false, false, false, false, false, false, false, false, false, false, false, false, false] l → G C262 H8 [(2, .pointer (some ⟨g1, 0, none⟩)), (3, .pointer (some ⟨g3, 0, none⟩)), (5, .bool t5)] (BK 24 K_api_Touch g3 a1 :: BK 24 K_api_Touch g1 a0 :: Fr) (.inRegion ops263 l :: k264) := by
          intro  l hl
          refine G.fork [0] hl rfl (And.intro ?_ trivial)
          · intro rest ho
            refine G.move rfl rfl rfl rfl ?_
            refine G.front1 ?_
            refine G.front1 ?_
            refine G.less ?_ (d1 rest ho)
            exact ⟨rfl, rfl, rfl, trivial⟩
        intro l hl
        refine G.less ?_ (d0 l hl)
        exact ⟨rfl, rfl, rfl, trivial⟩
      · replace h := ifFB h k225
        refine G.draw armoirelaw15_ReadsMeet.ds2 27 [0, 1, 2, 3, 4, 5, 6, 7, 8, 9, 10, 11, 12, 13, 14, 15, 16, 17, 18, 19, 20, 21, 22, 23, 24, 25, 26] [0, 1, 2, 3, 2, 4, 5, 6, 7, 8, 8, 9, 8, 8, 10, 11, 12, 13, 14, 14, 15, 14, 14, 16, 17, 18, 19] [0, 1, 2, 3, 2, 4, 5, 6, 7, 8, 8, 9, 8, 8, 10, 11, 12, 13, 14, 14, 15, 14, 14, 16, 17, 18, 19] rfl (by kernel_rfl) (by kernel_rfl) (by kernel_rfl) (by kernel_rfl) ?_
        intro C265 ops266 k267
        have d57 : ∀ (l : List Nat), Ord armoirelaw15_ReadsMeet.ds2 0 [true, true, true, true, true, true, true, true, true, true, true, true, true, true, true, true, true, true, true, true, true, true, true, true, true, true, true] l → G C265 H8 [(4, .bool false)] (BK 24 K_api_Touch g3 a1 :: BK 24 K_api_Touch g1 a0 :: Fr) (.inRegion ops266 l :: k267) := by
          intro  l hl
          refine G.drawnAll hl ?_
          refine G.regionEnd ?_
          refine G.front1 ?_
          refine G.front1 ?_
          refine G.less ?_ (J245 H8 (PH.le_refl _) false h)
          exact ⟨rfl, trivial⟩
        have d56 : ∀ (l : List Nat), Ord armoirelaw15_ReadsMeet.ds2 1 [true, true, true, true, true, true, true, true, true, true, true, true, true, true, true, true, true, true, true, true, true, true, true, true, true, true, false] l → G C265 H8 [(32, .bool false)] (BK 24 K_api_Touch g3 a1 :: BK 24 K_api_Touch g1 a0 :: Fr) (.inRegion ops266 l :: k267) := by
          intro  l hl
          refine G.fork [26] hl rfl (And.intro ?_ trivial)
          · intro rest ho
            refine G.assign rfl rfl rfl rfl ?_
            refine G.front1 ?_
            refine G.front1 ?_
            refine G.less ?_ (d57 rest ho)
            exact ⟨rfl, trivial⟩
        have d55 : ∀ (l : List Nat), Ord armoirelaw15_ReadsMeet.ds2 2 [true, true, true, true, true, true, true, true, true, true, true, true, true, true, true, true, true, true, true, true, true, true, true, true, true, false, false] l → G C265 H8 [(24, .bool false), (31, undef)] (BK 24 K_api_Touch g3 a1 :: BK 24 K_api_Touch g1 a0 :: Fr) (.inRegion ops266 l :: k267) := by
          intro  l hl
          refine G.fork [25] hl rfl (And.intro ?_ trivial)
          · intro rest ho
            refine G.pickF rfl rfl rfl rfl rfl ?_
            refine G.front1 ?_
            refine G.front1 ?_
            refine G.less ?_ (d56 rest ho)
            exact ⟨rfl, trivial⟩
        have d54 : ∀ (l : List Nat), Ord armoirelaw15_ReadsMeet.ds2 3 [true, true, true, true, true, true, true, true, true, true, true, true, true, true, true, true, true, true, true, true, true, true, true, true, false, false, false] l → G C265 H8 [(24, .bool false), (27, undef), (30, undef)] (BK 24 K_api_Touch g3 a1 :: BK 24 K_api_Touch g1 a0 :: Fr) (.inRegion ops266 l :: k267) := by
          intro  l hl
          refine G.fork [24] hl rfl (And.intro ?_ trivial)
          · intro rest ho
            refine G.unwanted rfl rfl rfl rfl ?_
            refine G.front1 ?_
            refine G.front1 ?_
            refine G.less ?_ (d55 rest ho)
            exact ⟨rfl, rfl, trivial⟩
        have d53 : ∀ (l : List Nat), Ord armoirelaw15_ReadsMeet.ds2 4 [true, true, true, true, true, true, true, true, true, true, true, true, true, true, true, true, true, true, true, true, true, true, true, false, false, false, false] l → G C265 H8 [(24, .bool false), (27, undef), (28, undef), (29, undef)] (BK 24 K_api_Touch g3 a1 :: BK 24 K_api_Touch g1 a0 :: Fr) (.inRegion ops266 l :: k267) := by
          intro  l hl
          refine G.fork [23] hl rfl (And.intro ?_ trivial)
          · intro rest ho
            refine G.unwanted rfl rfl rfl rfl ?_
            refine G.front1 ?_
            refine G.front1 ?_
            refine G.less ?_ (d54 rest ho)
            exact ⟨rfl, rfl, rfl, trivial⟩
        have d52 : ∀ (l : List Nat), Ord armoirelaw15_ReadsMeet.ds2 5 [true, true, true, true, true, true, true, true, true, true, true, true, true, true, true, true, true, true, true, true, false, true, true, false, false, false, false] l → G C265 H8 [(24, .bool false), (25, undef), (26, undef), (28, undef), (29, undef)] (BK 24 K_api_Touch g3 a1 :: BK 24 K_api_Touch g1 a0 :: Fr) (.inRegion ops266 l :: k267) := by
          intro  l hl
          refine G.fork [20] hl rfl (And.intro ?_ trivial)
          · intro rest ho
            refine G.unwanted rfl rfl rfl rfl ?_
            refine G.front1 ?_
            refine G.front1 ?_
            refine G.less ?_ (d53 rest ho)
            exact ⟨rfl, rfl, rfl, rfl, trivial⟩
        have d51 : ∀ (l : List Nat), Ord armoirelaw15_ReadsMeet.ds2 5 [true, true, true, true, true, true, true, true, true, true, true, true, true, true, true, true, true, true, true, true, true, false, true, false, false, false, false] l → G C265 H8 [(3, .pointer (some ⟨g3, 0, none⟩)), (24, .bool false), (27, undef), (29, undef)] (BK 24 K_api_Touch g3 a1 :: BK 24 K_api_Touch g1 a0 :: Fr) (.inRegion ops266 l :: k267) := by
          intro  l hl
          refine G.fork [21] hl rfl (And.intro ?_ trivial)
          · intro rest ho
            refine G.unwanted rfl rfl rfl rfl ?_
            refine G.front1 ?_
            refine G.front1 ?_
            refine G.less ?_ (d53 rest ho)
            exact ⟨rfl, rfl, rfl, rfl, trivial⟩
        have d50 : ∀ (l : List Nat), Ord armoirelaw15_ReadsMeet.ds2 5 [true, true, true, true, true, true, true, true, true, true, true, true, true, true, true, true, true, true, true, true, true, true, false, false, false, false, false] l → G C265 H8 [(2, .pointer (some ⟨g1, 0, none⟩)), (24, .bool false), (27, undef), (28, undef)] (BK 24 K_api_Touch g3 a1 :: BK 24 K_api_Touch g1 a0 :: Fr) (.inRegion ops266 l :: k267) := by
          intro  l hl
          refine G.fork [22] hl rfl (And.intro ?_ trivial)
          · intro rest ho
            refine G.unwanted rfl rfl rfl rfl ?_
            refine G.front1 ?_
            refine G.front1 ?_
            refine G.less ?_ (d53 rest ho)
            exact ⟨rfl, rfl, rfl, rfl, trivial⟩
        have d49 : ∀ (l : List Nat), Ord armoirelaw15_ReadsMeet.ds2 6 [true, true, true, true, true, true, true, true, true, true, true, true, true, true, true, true, true, true, false, true, false, true, true, false, false, false, false] l → G C265 H8 [(3, .pointer (some ⟨g3, 0, none⟩)), (24, .bool false), (26, undef), (28, undef), (29, undef)] (BK 24 K_api_Touch g3 a1 :: BK 24 K_api_Touch g1 a0 :: Fr) (.inRegion ops266 l :: k267) := by
          intro  l hl
          refine G.fork [18] hl rfl (And.intro ?_ trivial)
          · intro rest ho
            refine G.unwanted rfl rfl rfl rfl ?_
            refine G.front1 ?_
            refine G.front1 ?_
            refine G.less ?_ (d52 rest ho)
            exact ⟨rfl, rfl, rfl, rfl, rfl, trivial⟩
        have d48 : ∀ (l : List Nat), Ord armoirelaw15_ReadsMeet.ds2 6 [true, true, true, true, true, true, true, true, true, true, true, true, true, true, true, true, true, true, true, false, false, true, true, false, false, false, false] l → G C265 H8 [(2, .pointer (some ⟨g1, 0, none⟩)), (24, .bool false), (25, undef), (28, undef), (29, undef)] (BK 24 K_api_Touch g3 a1 :: BK 24 K_api_Touch g1 a0 :: Fr) (.inRegion ops266 l :: k267) := by
          intro  l hl
          refine G.fork [19] hl rfl (And.intro ?_ trivial)
          · intro rest ho
            refine G.unwanted rfl rfl rfl rfl ?_
            refine G.front1 ?_
            refine G.front1 ?_
            refine G.less ?_ (d52 rest ho)
            exact ⟨rfl, rfl, rfl, rfl, rfl, trivial⟩
        have d47 : ∀ (l : List Nat), Ord armoirelaw15_ReadsMeet.ds2 6 [true, true, true, true, true, true, true, true, true, true, true, true, true, true, true, true, true, true, true, true, false, false, true, false, false, false, false] l → G C265 H8 [(3, .pointer (some ⟨g3, 0, none⟩)), (24, .bool false), (25, undef), (26, undef), (29, undef)] (BK 24 K_api_Touch g3 a1 :: BK 24 K_api_Touch g1 a0 :: Fr) (.inRegion ops266 l :: k267) := by
          intro  l hl
          refine G.fork [20, 21] hl rfl (And.intro ?_ (And.intro ?_ trivial))
          · intro rest ho
            refine G.unwanted rfl rfl rfl rfl ?_
            refine G.front1 ?_
            refine G.front1 ?_
            refine G.less ?_ (d51 rest ho)
            exact ⟨rfl, rfl, rfl, rfl, trivial⟩
          · intro rest ho
            refine G.unwanted rfl rfl rfl rfl ?_
            refine G.front1 ?_
            refine G.front1 ?_
            refine G.less ?_ (d52 rest ho)
            exact ⟨rfl, rfl, rfl, rfl, rfl, trivial⟩
        have d46 : ∀ (l : List Nat), Ord armoirelaw15_ReadsMeet.ds2 6 [true, true, true, true, true, true, true, true, true, true, true, true, true, true, true, true, true, true, true, true, false, true, false, false, false, false, false] l → G C265 H8 [(2, .pointer (some ⟨g1, 0, none⟩)), (24, .bool false), (25, undef), (26, undef), (28, undef)] (BK 24 K_api_Touch g3 a1 :: BK 24 K_api_Touch g1 a0 :: Fr) (.inRegion ops266 l :: k267) := by
          intro  l hl
          refine G.fork [20, 22] hl rfl (And.intro ?_ (And.intro ?_ trivial))
          · intro rest ho
            refine G.unwanted rfl rfl rfl rfl ?_
            refine G.front1 ?_
            refine G.front1 ?_
            refine G.less ?_ (d50 rest ho)
            exact ⟨rfl, rfl, rfl, rfl, trivial⟩
          · intro rest ho
            refine G.unwanted rfl rfl rfl rfl ?_
            refine G.front1 ?_
            refine G.front1 ?_
            refine G.less ?_ (d52 rest ho)
            exact ⟨rfl, rfl, rfl, rfl, rfl, trivial⟩
        have d45 : ∀ (l : List Nat), Ord armoirelaw15_ReadsMeet.ds2 6 [true, true, true, true, true, true, true, true, true, true, true, true, true, true, true, true, true, true, true, true, true, false, false, false, false, false, false] l → G C265 H8 [(2, .pointer (some ⟨g1, 0, none⟩)), (3, .pointer (some ⟨g3, 0, none⟩)), (24, .bool false), (27, undef)] (BK 24 K_api_Touch g3 a1 :: BK 24 K_api_Touch g1 a0 :: Fr) (.inRegion ops266 l :: k267) := by
          intro  l hl
          refine G.fork [21, 22] hl rfl (And.intro ?_ (And.intro ?_ trivial))
          · intro rest ho
            refine G.unwanted rfl rfl rfl rfl ?_
            refine G.front1 ?_
            refine G.front1 ?_
            refine G.less ?_ (d50 rest ho)
            exact ⟨rfl, rfl, rfl, rfl, trivial⟩
          · intro rest ho
            refine G.unwanted rfl rfl rfl rfl ?_
            refine G.front1 ?_
            refine G.front1 ?_
            refine G.less ?_ (d51 rest ho)
            exact ⟨rfl, rfl, rfl, rfl, trivial⟩
        have d44 : ∀ (l : List Nat), Ord armoirelaw15_ReadsMeet.ds2 7 [true, true, true, true, true, true, true, true, true, true, true, true, true, true, true, true, true, true, false, false, false, true, true, false, false, false, false] l → G C265 H8 [(2, .pointer (some ⟨g1, 0, none⟩)), (3, .pointer (some ⟨g3, 0, none⟩)), (24, .bool false), (28, undef), (29, undef)] (BK 24 K_api_Touch g3 a1 :: BK 24 K_api_Touch g1 a0 :: Fr) (.inRegion ops266 l :: k267) := by
          intro  l hl
          refine G.fork [18, 19] hl rfl (And.intro ?_ (And.intro ?_ trivial))
          · intro rest ho
            refine G.unwanted rfl rfl rfl rfl ?_
            refine G.front1 ?_
            refine G.front1 ?_
            refine G.less ?_ (d48 rest ho)
            exact ⟨rfl, rfl, rfl, rfl, rfl, trivial⟩
          · intro rest ho
            refine G.unwanted rfl rfl rfl rfl ?_
            refine G.front1 ?_
            refine G.front1 ?_
            refine G.less ?_ (d49 rest ho)
            exact ⟨rfl, rfl, rfl, rfl, rfl, trivial⟩
        have d43 : ∀ (l : List Nat), Ord armoirelaw15_ReadsMeet.ds2 7 [true, true, true, true, true, true, true, true, true, true, true, true, true, true, true, true, true, true, false, true, false, false, true, false, false, false, false] l → G C265 H8 [(3, .pointer (some ⟨g3, 0, none⟩)), (24, .bool false), (26, undef), (29, undef)] (BK 24 K_api_Touch g3 a1 :: BK 24 K_api_Touch g1 a0 :: Fr) (.inRegion ops266 l :: k267) := by
          intro  l hl
          refine G.fork [18, 21] hl rfl (And.intro ?_ (And.intro ?_ trivial))
          · intro rest ho
            refine G.unwanted rfl rfl rfl rfl ?_
            refine G.front1 ?_
            refine G.front1 ?_
            refine G.less ?_ (d47 rest ho)
            exact ⟨rfl, rfl, rfl, rfl, rfl, trivial⟩
          · intro rest ho
            refine G.unwanted rfl rfl rfl rfl ?_
            refine G.front1 ?_
            refine G.front1 ?_
            refine G.less ?_ (d49 rest ho)
            exact ⟨rfl, rfl, rfl, rfl, rfl, trivial⟩
        have d42 : ∀ (l : List Nat), Ord armoirelaw15_ReadsMeet.ds2 7 [true, true, true, true, true, true, true, true, true, true, true, true, true, true, true, true, true, true, false, true, false, true, false, false, false, false, false] l → G C265 H8 [(2, .pointer (some ⟨g1, 0, none⟩)), (3, .pointer (some ⟨g3, 0, none⟩)), (24, .bool false), (26, undef), (28, undef)] (BK 24 K_api_Touch g3 a1 :: BK 24 K_api_Touch g1 a0 :: Fr) (.inRegion ops266 l :: k267) := by
          intro  l hl
          refine G.fork [18, 22] hl rfl (And.intro ?_ (And.intro ?_ trivial))
          · intro rest ho
            refine G.unwanted rfl rfl rfl rfl ?_
            refine G.front1 ?_
            refine G.front1 ?_
            refine G.less ?_ (d46 rest ho)
            exact ⟨rfl, rfl, rfl, rfl, rfl, trivial⟩
          · intro rest ho
            refine G.unwanted rfl rfl rfl rfl ?_
            refine G.front1 ?_
            refine G.front1 ?_
            refine G.less ?_ (d49 rest ho)
            exact ⟨rfl, rfl, rfl, rfl, rfl, trivial⟩
        have d41 : ∀ (l : List Nat), Ord armoirelaw15_ReadsMeet.ds2 7 [true, true, true, true, true, true, true, true, true, true, true, true, true, true, true, true, true, true, true, false, false, false, true, false, false, false, false] l → G C265 H8 [(2, .pointer (some ⟨g1, 0, none⟩)), (3, .pointer (some ⟨g3, 0, none⟩)), (24, .bool false), (25, undef), (29, undef)] (BK 24 K_api_Touch g3 a1 :: BK 24 K_api_Touch g1 a0 :: Fr) (.inRegion ops266 l :: k267) := by
          intro  l hl
          refine G.fork [19, 21] hl rfl (And.intro ?_ (And.intro ?_ trivial))
          · intro rest ho
            refine G.unwanted rfl rfl rfl rfl ?_
            refine G.front1 ?_
            refine G.front1 ?_
            refine G.less ?_ (d47 rest ho)
            exact ⟨rfl, rfl, rfl, rfl, rfl, trivial⟩
          · intro rest ho
            refine G.unwanted rfl rfl rfl rfl ?_
            refine G.front1 ?_
            refine G.front1 ?_
            refine G.less ?_ (d48 rest ho)
            exact ⟨rfl, rfl, rfl, rfl, rfl, trivial⟩
        have d40 : ∀ (l : List Nat), Ord armoirelaw15_ReadsMeet.ds2 7 [true, true, true, true, true, true, true, true, true, true, true, true, true, true, true, true, true, true, true, false, false, true, false, false, false, false, false] l → G C265 H8 [(2, .pointer (some ⟨g1, 0, none⟩)), (24, .bool false), (25, undef), (28, undef)] (BK 24 K_api_Touch g3 a1 :: BK 24 K_api_Touch g1 a0 :: Fr) (.inRegion ops266 l :: k267) := by
          intro  l hl
          refine G.fork [19, 22] hl rfl (And.intro ?_ (And.intro ?_ trivial))
          · intro rest ho
            refine G.unwanted rfl rfl rfl rfl ?_
            refine G.front1 ?_
            refine G.front1 ?_
            refine G.less ?_ (d46 rest ho)
            exact ⟨rfl, rfl, rfl, rfl, rfl, trivial⟩
          · intro rest ho
            refine G.unwanted rfl rfl rfl rfl ?_
            refine G.front1 ?_
            refine G.front1 ?_
            refine G.less ?_ (d48 rest ho)
            exact ⟨rfl, rfl, rfl, rfl, rfl, trivial⟩
        have d39 : ∀ (l : List Nat), Ord armoirelaw15_ReadsMeet.ds2 7 [true, true, true, true, true, true, true, true, true, true, true, true, true, true, true, true, true, true, true, true, false, false, false, false, false, false, false] l → G C265 H8 [(2, .pointer (some ⟨g1, 0, none⟩)), (3, .pointer (some ⟨g3, 0, none⟩)), (24, .bool false), (25, undef), (26, undef)] (BK 24 K_api_Touch g3 a1 :: BK 24 K_api_Touch g1 a0 :: Fr) (.inRegion ops266 l :: k267) := by
          intro  l hl
          refine G.fork [20, 21, 22] hl rfl (And.intro ?_ (And.intro ?_ (And.intro ?_ trivial)))
          · intro rest ho
            refine G.unwanted rfl rfl rfl rfl ?_
            refine G.front1 ?_
            refine G.front1 ?_
            refine G.less ?_ (d45 rest ho)
            exact ⟨rfl, rfl, rfl, rfl, trivial⟩
          · intro rest ho
            refine G.unwanted rfl rfl rfl rfl ?_
            refine G.front1 ?_
            refine G.front1 ?_
            refine G.less ?_ (d46 rest ho)
            exact ⟨rfl, rfl, rfl, rfl, rfl, trivial⟩
          · intro rest ho
            refine G.unwanted rfl rfl rfl rfl ?_
            refine G.front1 ?_
            refine G.front1 ?_
            refine G.less ?_ (d47 rest ho)
            exact ⟨rfl, rfl, rfl, rfl, rfl, trivial⟩
        have d38 : ∀ (l : List Nat), Ord armoirelaw15_ReadsMeet.ds2 8 [true, true, true, true, true, true, true, true, true, true, true, true, true, true, true, true, true, true, false, false, false, false, true, false, false, false, false] l → G C265 H8 [(2, .pointer (some ⟨g1, 0, none⟩)), (3, .pointer (some ⟨g3, 0, none⟩)), (24, .bool false), (29, undef)] (BK 24 K_api_Touch g3 a1 :: BK 24 K_api_Touch g1 a0 :: Fr) (.inRegion ops266 l :: k267) := by
          intro  l hl
          refine G.fork [18, 19, 21] hl rfl (And.intro ?_ (And.intro ?_ (And.intro ?_ trivial)))
          · intro rest ho
            refine G.unwanted rfl rfl rfl rfl ?_
            refine G.front1 ?_
            refine G.front1 ?_
            refine G.less ?_ (d41 rest ho)
            exact ⟨rfl, rfl, rfl, rfl, rfl, trivial⟩
          · intro rest ho
            refine G.unwanted rfl rfl rfl rfl ?_
            refine G.front1 ?_
            refine G.front1 ?_
            refine G.less ?_ (d43 rest ho)
            exact ⟨rfl, rfl, rfl, rfl, trivial⟩
          · intro rest ho
            refine G.unwanted rfl rfl rfl rfl ?_
            refine G.front1 ?_
            refine G.front1 ?_
            refine G.less ?_ (d44 rest ho)
            exact ⟨rfl, rfl, rfl, rfl, rfl, trivial⟩
        have d37 : ∀ (l : List Nat), Ord armoirelaw15_ReadsMeet.ds2 8 [true, true, true, true, true, true, true, true, true, true, true, true, true, true, true, true, true, true, false, false, false, true, false, false, false, false, false] l → G C265 H8 [(2, .pointer (some ⟨g1, 0, none⟩)), (3, .pointer (some ⟨g3, 0, none⟩)), (24, .bool false), (28, undef)] (BK 24 K_api_Touch g3 a1 :: BK 24 K_api_Touch g1 a0 :: Fr) (.inRegion ops266 l :: k267) := by
          intro  l hl
          refine G.fork [18, 19, 22] hl rfl (And.intro ?_ (And.intro ?_ (And.intro ?_ trivial)))
          · intro rest ho
            refine G.unwanted rfl rfl rfl rfl ?_
            refine G.front1 ?_
            refine G.front1 ?_
            refine G.less ?_ (d40 rest ho)
            exact ⟨rfl, rfl, rfl, rfl, trivial⟩
          · intro rest ho
            refine G.unwanted rfl rfl rfl rfl ?_
            refine G.front1 ?_
            refine G.front1 ?_
            refine G.less ?_ (d42 rest ho)
            exact ⟨rfl, rfl, rfl, rfl, rfl, trivial⟩
          · intro rest ho
            refine G.unwanted rfl rfl rfl rfl ?_
            refine G.front1 ?_
            refine G.front1 ?_
            refine G.less ?_ (d44 rest ho)
            exact ⟨rfl, rfl, rfl, rfl, rfl, trivial⟩
        have d36 : ∀ (l : List Nat), Ord armoirelaw15_ReadsMeet.ds2 8 [true, true, true, true, true, true, true, true, true, true, true, true, true, true, true, true, true, true, false, true, false, false, false, false, false, false, false] l → G C265 H8 [(2, .pointer (some ⟨g1, 0, none⟩)), (3, .pointer (some ⟨g3, 0, none⟩)), (24, .bool false), (26, undef)] (BK 24 K_api_Touch g3 a1 :: BK 24 K_api_Touch g1 a0 :: Fr) (.inRegion ops266 l :: k267) := by
          intro  l hl
          refine G.fork [18, 21, 22] hl rfl (And.intro ?_ (And.intro ?_ (And.intro ?_ trivial)))
          · intro rest ho
            refine G.unwanted rfl rfl rfl rfl ?_
            refine G.front1 ?_
            refine G.front1 ?_
            refine G.less ?_ (d39 rest ho)
            exact ⟨rfl, rfl, rfl, rfl, rfl, trivial⟩
          · intro rest ho
            refine G.unwanted rfl rfl rfl rfl ?_
            refine G.front1 ?_
            refine G.front1 ?_
            refine G.less ?_ (d42 rest ho)
            exact ⟨rfl, rfl, rfl, rfl, rfl, trivial⟩
          · intro rest ho
            refine G.unwanted rfl rfl rfl rfl ?_
            refine G.front1 ?_
            refine G.front1 ?_
            refine G.less ?_ (d43 rest ho)
            exact ⟨rfl, rfl, rfl, rfl, trivial⟩
        have d35 : ∀ (l : List Nat), Ord armoirelaw15_ReadsMeet.ds2 8 [true, true, true, true, true, true, true, true, true, true, true, true, true, true, true, true, true, true, true, false, false, false, false, false, false, false, false] l → G C265 H8 [(2, .pointer (some ⟨g1, 0, none⟩)), (3, .pointer (some ⟨g3, 0, none⟩)), (24, .bool false), (25, undef)] (BK 24 K_api_Touch g3 a1 :: BK 24 K_api_Touch g1 a0 :: Fr) (.inRegion ops266 l :: k267) := by
          intro  l hl
          refine G.fork [19, 21, 22] hl rfl (And.intro ?_ (And.intro ?_ (And.intro ?_ trivial)))
          · intro rest ho
            refine G.unwanted rfl rfl rfl rfl ?_
            refine G.front1 ?_
            refine G.front1 ?_
            refine G.less ?_ (d39 rest ho)
            exact ⟨rfl, rfl, rfl, rfl, rfl, trivial⟩
          · intro rest ho
            refine G.unwanted rfl rfl rfl rfl ?_
            refine G.front1 ?_
            refine G.front1 ?_
            refine G.less ?_ (d40 rest ho)
            exact ⟨rfl, rfl, rfl, rfl, trivial⟩
          · intro rest ho
            refine G.unwanted rfl rfl rfl rfl ?_
            refine G.front1 ?_
            refine G.front1 ?_
            refine G.less ?_ (d41 rest ho)
            exact ⟨rfl, rfl, rfl, rfl, rfl, trivial⟩
        have d34 : ∀ (l : List Nat), Ord armoirelaw15_ReadsMeet.ds2 9 [true, true, true, true, true, true, true, true, true, true, true, true, true, true, true, true, true, true, false, false, false, false, false, false, false, false, false] l → G C265 H8 [(2, .pointer (some ⟨g1, 0, none⟩)), (3, .pointer (some ⟨g3, 0, none⟩)), (24, .bool false)] (BK 24 K_api_Touch g3 a1 :: BK 24 K_api_Touch g1 a0 :: Fr) (.inRegion ops266 l :: k267) := by
          intro  l hl
          refine G.fork [18, 19, 21, 22] hl rfl (And.intro ?_ (And.intro ?_ (And.intro ?_ (And.intro ?_ trivial))))
          · intro rest ho
            refine G.unwanted rfl rfl rfl rfl ?_
            refine G.front1 ?_
            refine G.front1 ?_
            refine G.less ?_ (d35 rest ho)
            exact ⟨rfl, rfl, rfl, rfl, trivial⟩
          · intro rest ho
            refine G.unwanted rfl rfl rfl rfl ?_
            refine G.front1 ?_
            refine G.front1 ?_
            refine G.less ?_ (d36 rest ho)
            exact ⟨rfl, rfl, rfl, rfl, trivial⟩
          · intro rest ho
            refine G.unwanted rfl rfl rfl rfl ?_
            refine G.front1 ?_
            refine G.front1 ?_
            refine G.less ?_ (d37 rest ho)
            exact ⟨rfl, rfl, rfl, rfl, trivial⟩
          · intro rest ho
            refine G.unwanted rfl rfl rfl rfl ?_
            refine G.front1 ?_
            refine G.front1 ?_
            refine G.less ?_ (d38 rest ho)
            exact ⟨rfl, rfl, rfl, rfl, trivial⟩
        have d33 : ∀ (l : List Nat), Ord armoirelaw15_ReadsMeet.ds2 10 [true, true, true, true, true, true, true, true, true, true, true, true, true, true, true, true, true, false, false, false, false, false, false, false, false, false, false] l → G C265 H8 [(2, .pointer (some ⟨g1, 0, none⟩)), (3, .pointer (some ⟨g3, 0, none⟩)), (23, .bool (t213 == t221))] (BK 24 K_api_Touch g3 a1 :: BK 24 K_api_Touch g1 a0 :: Fr) (.inRegion ops266 l :: k267) := by
          intro  l hl
          refine G.fork [17] hl rfl (And.intro ?_ trivial)
          · intro rest ho
            refine G.move rfl rfl rfl rfl ?_
            refine G.same (d := 24) (v := .bool false) rfl (by simp [k225]) ?_
            refine G.front1 ?_
            refine G.front1 ?_
            refine G.less ?_ (d34 rest ho)
            exact ⟨rfl, rfl, rfl, trivial⟩
        have d32 : ∀ (l : List Nat), Ord armoirelaw15_ReadsMeet.ds2 11 [true, true, true, true, true, true, true, true, true, true, true, true, true, true, true, true, false, false, false, false, false, false, false, false, false, false, false] l → G C265 H8 [(2, .pointer (some ⟨g1, 0, none⟩)), (3, .pointer (some ⟨g3, 0, none⟩)), (15, .bool true), (22, .bool (t213 == t221))] (BK 24 K_api_Touch g3 a1 :: BK 24 K_api_Touch g1 a0 :: Fr) (.inRegion ops266 l :: k267) := by
          intro  l hl
          refine G.fork [16] hl rfl (And.intro ?_ trivial)
          · intro rest ho
            refine G.pickT rfl rfl rfl rfl rfl ?_
            refine G.front1 ?_
            refine G.front1 ?_
            refine G.less ?_ (d33 rest ho)
            exact ⟨rfl, rfl, rfl, trivial⟩
        have d31 : ∀ (l : List Nat), Ord armoirelaw15_ReadsMeet.ds2 12 [true, true, true, true, true, true, true, true, true, true, true, true, true, true, true, false, false, false, false, false, false, false, false, false, false, false, false] l → G C265 H8 [(2, .pointer (some ⟨g1, 0, none⟩)), (3, .pointer (some ⟨g3, 0, none⟩)), (15, .bool true), (18, .bool t213), (21, .bool t221)] (BK 24 K_api_Touch g3 a1 :: BK 24 K_api_Touch g1 a0 :: Fr) (.inRegion ops266 l :: k267) := by
          intro  l hl
          refine G.fork [15] hl rfl (And.intro ?_ trivial)
          · intro rest ho
            refine G.cmpB (a := t213) (b := t221) (r := (t213 == t221)) rfl rfl rfl rfl rfl Try.underlying4 rfl ?_
            refine G.front1 ?_
            refine G.front1 ?_
            refine G.less ?_ (d32 rest ho)
            exact ⟨rfl, rfl, rfl, rfl, trivial⟩
        have d30 : ∀ (cs217 : List Value) (f218 : K_api_Touch.R H8 a0 cs217) (cs219 : List Value) (f220 : K_api_Touch.R H8 a1 cs219) (l : List Nat), Ord armoirelaw15_ReadsMeet.ds2 13 [true, true, true, true, true, true, true, true, true, true, true, true, true, true, false, false, false, false, false, false, false, false, false, false, false, false, false] l → G C265 H8 [(2, .pointer (some ⟨g1, 0, none⟩)), (3, .pointer (some ⟨g3, 0, none⟩)), (15, .bool true), (18, .bool t213), (19, .agg cs217.toArray), (20, .agg cs219.toArray)] (BK 24 K_api_Touch g3 a1 :: BK 24 K_api_Touch g1 a0 :: Fr) (.inRegion ops266 l :: k267) := by
          intro cs217 f218 cs219 f220 l hl
          refine G.fork [14] hl rfl (And.intro ?_ trivial)
          · intro rest ho
            refine G.callB rfl rfl rfl rfl call13 (fun w hs => armoireref15_Meet.ok cs217 a0 (K_api_Touch.mono hs.ro f218) cs219 a1 (K_api_Touch.mono hs.ro f220) e222) (by rintro v H' L' ⟨rfl, rfl⟩; exact Free.nil) ?_
            rintro v223 L224 ⟨_, rfl, rfl⟩
            refine G.front1 ?_
            refine G.front1 ?_
            refine G.less ?_ (d31 rest ho)
            exact ⟨rfl, rfl, rfl, rfl, rfl, trivial⟩
        have d29 : ∀ (cs209 : List Value) (f210 : K_api_Touch.R H8 a0 cs209) (cs211 : List Value) (f212 : K_api_Touch.R H8 a1 cs211) (cs217 : List Value) (f218 : K_api_Touch.R H8 a0 cs217) (cs219 : List Value) (f220 : K_api_Touch.R H8 a1 cs219) (l : List Nat), Ord armoirelaw15_ReadsMeet.ds2 14 [true, true, true, true, true, true, true, true, true, true, true, false, true, true, false, false, false, false, false, false, false, false, false, false, false, false, false] l → G C265 H8 [(2, .pointer (some ⟨g1, 0, none⟩)), (3, .pointer (some ⟨g3, 0, none⟩)), (15, .bool true), (16, .agg cs209.toArray), (17, .agg cs211.toArray), (19, .agg cs217.toArray), (20, .agg cs219.toArray)] (BK 24 K_api_Touch g3 a1 :: BK 24 K_api_Touch g1 a0 :: Fr) (.inRegion ops266 l :: k267) := by
          intro cs209 f210 cs211 f212 cs217 f218 cs219 f220 l hl
          refine G.fork [11] hl rfl (And.intro ?_ trivial)
          · intro rest ho
            refine G.callB rfl rfl rfl rfl call12 (fun w hs => reads_Meet.ok cs209 a0 (K_api_Touch.mono hs.ro f210) cs211 a1 (K_api_Touch.mono hs.ro f212) e214) (by rintro v H' L' ⟨rfl, rfl⟩; exact Free.nil) ?_
            rintro v215 L216 ⟨_, rfl, rfl⟩
            refine G.front1 ?_
            refine G.front1 ?_
            refine G.less ?_ (d30 cs217 f218 cs219 f220 rest ho)
            exact ⟨rfl, rfl, rfl, rfl, rfl, rfl, trivial⟩
        have d28 : ∀ (cs219 : List Value) (f220 : K_api_Touch.R H8 a1 cs219) (l : List Nat), Ord armoirelaw15_ReadsMeet.ds2 14 [true, true, true, true, true, true, true, true, true, true, true, true, false, true, false, false, false, false, false, false, false, false, false, false, false, false, false] l → G C265 H8 [(2, .pointer (some ⟨g1, 0, none⟩)), (3, .pointer (some ⟨g3, 0, none⟩)), (15, .bool true), (18, .bool t213), (20, .agg cs219.toArray)] (BK 24 K_api_Touch g3 a1 :: BK 24 K_api_Touch g1 a0 :: Fr) (.inRegion ops266 l :: k267) := by
          intro cs219 f220 l hl
          refine G.fork [12] hl rfl (And.intro ?_ trivial)
          · intro rest ho
            refine G.loadA (df := K_api_Touch) (y := a0) rfl rfl rfl rfl ty24 rfl (fun w hs => Rd.bk (Lens.id _ _) hs (j := 1) rfl) ?_
            intro cs217 f218
            refine G.front1 ?_
            refine G.front1 ?_
            refine G.less ?_ (d30 cs217 f218 cs219 f220 rest ho)
            exact ⟨rfl, rfl, rfl, rfl, rfl, rfl, trivial⟩
        have d27 : ∀ (cs217 : List Value) (f218 : K_api_Touch.R H8 a0 cs217) (l : List Nat), Ord armoirelaw15_ReadsMeet.ds2 14 [true, true, true, true, true, true, true, true, true, true, true, true, true, false, false, false, false, false, false, false, false, false, false, false, false, false, false] l → G C265 H8 [(2, .pointer (some ⟨g1, 0, none⟩)), (3, .pointer (some ⟨g3, 0, none⟩)), (15, .bool true), (18, .bool t213), (19, .agg cs217.toArray)] (BK 24 K_api_Touch g3 a1 :: BK 24 K_api_Touch g1 a0 :: Fr) (.inRegion ops266 l :: k267) := by
          intro cs217 f218 l hl
          refine G.fork [13] hl rfl (And.intro ?_ trivial)
          · intro rest ho
            refine G.loadA (df := K_api_Touch) (y := a1) rfl rfl rfl rfl ty24 rfl (fun w hs => Rd.bk (Lens.id _ _) hs (j := 0) rfl) ?_
            intro cs219 f220
            refine G.front1 ?_
            refine G.front1 ?_
            refine G.less ?_ (d30 cs217 f218 cs219 f220 rest ho)
            exact ⟨rfl, rfl, rfl, rfl, rfl, rfl, trivial⟩
        have d26 : ∀ (cs211 : List Value) (f212 : K_api_Touch.R H8 a1 cs211) (cs217 : List Value) (f218 : K_api_Touch.R H8 a0 cs217) (cs219 : List Value) (f220 : K_api_Touch.R H8 a1 cs219) (l : List Nat), Ord armoirelaw15_ReadsMeet.ds2 15 [true, true, true, true, true, true, true, true, true, false, true, false, true, true, false, false, false, false, false, false, false, false, false, false, false, false, false] l → G C265 H8 [(2, .pointer (some ⟨g1, 0, none⟩)), (3, .pointer (some ⟨g3, 0, none⟩)), (15, .bool true), (17, .agg cs211.toArray), (19, .agg cs217.toArray), (20, .agg cs219.toArray)] (BK 24 K_api_Touch g3 a1 :: BK 24 K_api_Touch g1 a0 :: Fr) (.inRegion ops266 l :: k267) := by
          intro cs211 f212 cs217 f218 cs219 f220 l hl
          refine G.fork [9] hl rfl (And.intro ?_ trivial)
          · intro rest ho
            refine G.loadA (df := K_api_Touch) (y := a0) rfl rfl rfl rfl ty24 rfl (fun w hs => Rd.bk (Lens.id _ _) hs (j := 1) rfl) ?_
            intro cs209 f210
            refine G.front1 ?_
            refine G.front1 ?_
            refine G.less ?_ (d29 cs209 f210 cs211 f212 cs217 f218 cs219 f220 rest ho)
            exact ⟨rfl, rfl, rfl, rfl, rfl, rfl, rfl, trivial⟩
        have d25 : ∀ (cs209 : List Value) (f210 : K_api_Touch.R H8 a0 cs209) (cs217 : List Value) (f218 : K_api_Touch.R H8 a0 cs217) (cs219 : List Value) (f220 : K_api_Touch.R H8 a1 cs219) (l : List Nat), Ord armoirelaw15_ReadsMeet.ds2 15 [true, true, true, true, true, true, true, true, true, true, false, false, true, true, false, false, false, false, false, false, false, false, false, false, false, false, false] l → G C265 H8 [(2, .pointer (some ⟨g1, 0, none⟩)), (3, .pointer (some ⟨g3, 0, none⟩)), (15, .bool true), (16, .agg cs209.toArray), (19, .agg cs217.toArray), (20, .agg cs219.toArray)] (BK 24 K_api_Touch g3 a1 :: BK 24 K_api_Touch g1 a0 :: Fr) (.inRegion ops266 l :: k267) := by
          intro cs209 f210 cs217 f218 cs219 f220 l hl
          refine G.fork [10] hl rfl (And.intro ?_ trivial)
          · intro rest ho
            refine G.loadA (df := K_api_Touch) (y := a1) rfl rfl rfl rfl ty24 rfl (fun w hs => Rd.bk (Lens.id _ _) hs (j := 0) rfl) ?_
            intro cs211 f212
            refine G.front1 ?_
            refine G.front1 ?_
            refine G.less ?_ (d29 cs209 f210 cs211 f212 cs217 f218 cs219 f220 rest ho)
            exact ⟨rfl, rfl, rfl, rfl, rfl, rfl, rfl, trivial⟩
        have d24 : ∀ (cs209 : List Value) (f210 : K_api_Touch.R H8 a0 cs209) (cs211 : List Value) (f212 : K_api_Touch.R H8 a1 cs211) (cs219 : List Value) (f220 : K_api_Touch.R H8 a1 cs219) (l : List Nat), Ord armoirelaw15_ReadsMeet.ds2 15 [true, true, true, true, true, true, true, true, true, true, true, false, false, true, false, false, false, false, false, false, false, false, false, false, false, false, false] l → G C265 H8 [(2, .pointer (some ⟨g1, 0, none⟩)), (3, .pointer (some ⟨g3, 0, none⟩)), (15, .bool true), (16, .agg cs209.toArray), (17, .agg cs211.toArray), (20, .agg cs219.toArray)] (BK 24 K_api_Touch g3 a1 :: BK 24 K_api_Touch g1 a0 :: Fr) (.inRegion ops266 l :: k267) := by
          intro cs209 f210 cs211 f212 cs219 f220 l hl
          refine G.fork [11, 12] hl rfl (And.intro ?_ (And.intro ?_ trivial))
          · intro rest ho
            refine G.callB rfl rfl rfl rfl call12 (fun w hs => reads_Meet.ok cs209 a0 (K_api_Touch.mono hs.ro f210) cs211 a1 (K_api_Touch.mono hs.ro f212) e214) (by rintro v H' L' ⟨rfl, rfl⟩; exact Free.nil) ?_
            rintro v215 L216 ⟨_, rfl, rfl⟩
            refine G.front1 ?_
            refine G.front1 ?_
            refine G.less ?_ (d28 cs219 f220 rest ho)
            exact ⟨rfl, rfl, rfl, rfl, rfl, trivial⟩
          · intro rest ho
            refine G.loadA (df := K_api_Touch) (y := a0) rfl rfl rfl rfl ty24 rfl (fun w hs => Rd.bk (Lens.id _ _) hs (j := 1) rfl) ?_
            intro cs217 f218
            refine G.front1 ?_
            refine G.front1 ?_
            refine G.less ?_ (d29 cs209 f210 cs211 f212 cs217 f218 cs219 f220 rest ho)
            exact ⟨rfl, rfl, rfl, rfl, rfl, rfl, rfl, trivial⟩
        have d23 : ∀ (cs209 : List Value) (f210 : K_api_Touch.R H8 a0 cs209) (cs211 : List Value) (f212 : K_api_Touch.R H8 a1 cs211) (cs217 : List Value) (f218 : K_api_Touch.R H8 a0 cs217) (l : List Nat), Ord armoirelaw15_ReadsMeet.ds2 15 [true, true, true, true, true, true, true, true, true, true, true, false, true, false, false, false, false, false, false, false, false, false, false, false, false, false, false] l → G C265 H8 [(2, .pointer (some ⟨g1, 0, none⟩)), (3, .pointer (some ⟨g3, 0, none⟩)), (15, .bool true), (16, .agg cs209.toArray), (17, .agg cs211.toArray), (19, .agg cs217.toArray)] (BK 24 K_api_Touch g3 a1 :: BK 24 K_api_Touch g1 a0 :: Fr) (.inRegion ops266 l :: k267) := by
          intro cs209 f210 cs211 f212 cs217 f218 l hl
          refine G.fork [11, 13] hl rfl (And.intro ?_ (And.intro ?_ trivial))
          · intro rest ho
            refine G.callB rfl rfl rfl rfl call12 (fun w hs => reads_Meet.ok cs209 a0 (K_api_Touch.mono hs.ro f210) cs211 a1 (K_api_Touch.mono hs.ro f212) e214) (by rintro v H' L' ⟨rfl, rfl⟩; exact Free.nil) ?_
            rintro v215 L216 ⟨_, rfl, rfl⟩
            refine G.front1 ?_
            refine G.front1 ?_
            refine G.less ?_ (d27 cs217 f218 rest ho)
            exact ⟨rfl, rfl, rfl, rfl, rfl, trivial⟩
          · intro rest ho
            refine G.loadA (df := K_api_Touch) (y := a1) rfl rfl rfl rfl ty24 rfl (fun w hs => Rd.bk (Lens.id _ _) hs (j := 0) rfl) ?_
            intro cs219 f220
            refine G.front1 ?_
            refine G.front1 ?_
            refine G.less ?_ (d29 cs209 f210 cs211 f212 cs217 f218 cs219 f220 rest ho)
            exact ⟨rfl, rfl, rfl, rfl, rfl, rfl, rfl, trivial⟩
        have d22 : ∀ (l : List Nat), Ord armoirelaw15_ReadsMeet.ds2 15 [true, true, true, true, true, true, true, true, true, true, true, true, false, false, false, false, false, false, false, false, false, false, false, false, false, false, false] l → G C265 H8 [(2, .pointer (some ⟨g1, 0, none⟩)), (3, .pointer (some ⟨g3, 0, none⟩)), (15, .bool true), (18, .bool t213)] (BK 24 K_api_Touch g3 a1 :: BK 24 K_api_Touch g1 a0 :: Fr) (.inRegion ops266 l :: k267) := by
          intro  l hl
          refine G.fork [12, 13] hl rfl (And.intro ?_ (And.intro ?_ trivial))
          · intro rest ho
            refine G.loadA (df := K_api_Touch) (y := a0) rfl rfl rfl rfl ty24 rfl (fun w hs => Rd.bk (Lens.id _ _) hs (j := 1) rfl) ?_
            intro cs217 f218
            refine G.front1 ?_
            refine G.front1 ?_
            refine G.less ?_ (d27 cs217 f218 rest ho)
            exact ⟨rfl, rfl, rfl, rfl, rfl, trivial⟩
          · intro rest ho
            refine G.loadA (df := K_api_Touch) (y := a1) rfl rfl rfl rfl ty24 rfl (fun w hs => Rd.bk (Lens.id _ _) hs (j := 0) rfl) ?_
            intro cs219 f220
            refine G.front1 ?_
            refine G.front1 ?_
            refine G.less ?_ (d28 cs219 f220 rest ho)
            exact ⟨rfl, rfl, rfl, rfl, rfl, trivial⟩
        have d21 : ∀ (cs217 : List Value) (f218 : K_api_Touch.R H8 a0 cs217) (cs219 : List Value) (f220 : K_api_Touch.R H8 a1 cs219) (l : List Nat), Ord armoirelaw15_ReadsMeet.ds2 16 [true, true, true, true, true, true, true, true, true, false, false, false, true, true, false, false, false, false, false, false, false, false, false, false, false, false, false] l → G C265 H8 [(2, .pointer (some ⟨g1, 0, none⟩)), (3, .pointer (some ⟨g3, 0, none⟩)), (15, .bool true), (19, .agg cs217.toArray), (20, .agg cs219.toArray)] (BK 24 K_api_Touch g3 a1 :: BK 24 K_api_Touch g1 a0 :: Fr) (.inRegion ops266 l :: k267) := by
          intro cs217 f218 cs219 f220 l hl
          refine G.fork [9, 10] hl rfl (And.intro ?_ (And.intro ?_ trivial))
          · intro rest ho
            refine G.loadA (df := K_api_Touch) (y := a0) rfl rfl rfl rfl ty24 rfl (fun w hs => Rd.bk (Lens.id _ _) hs (j := 1) rfl) ?_
            intro cs209 f210
            refine G.front1 ?_
            refine G.front1 ?_
            refine G.less ?_ (d25 cs209 f210 cs217 f218 cs219 f220 rest ho)
            exact ⟨rfl, rfl, rfl, rfl, rfl, rfl, trivial⟩
          · intro rest ho
            refine G.loadA (df := K_api_Touch) (y := a1) rfl rfl rfl rfl ty24 rfl (fun w hs => Rd.bk (Lens.id _ _) hs (j := 0) rfl) ?_
            intro cs211 f212
            refine G.front1 ?_
            refine G.front1 ?_
            refine G.less ?_ (d26 cs211 f212 cs217 f218 cs219 f220 rest ho)
            exact ⟨rfl, rfl, rfl, rfl, rfl, rfl, trivial⟩
        have d20 : ∀ (cs211 : List Value) (f212 : K_api_Touch.R H8 a1 cs211) (cs219 : List Value) (f220 : K_api_Touch.R H8 a1 cs219) (l : List Nat), Ord armoirelaw15_ReadsMeet.ds2 16 [true, true, true, true, true, true, true, true, true, false, true, false, false, true, false, false, false, false, false, false, false, false, false, false, false, false, false] l → G C265 H8 [(2, .pointer (some ⟨g1, 0, none⟩)), (3, .pointer (some ⟨g3, 0, none⟩)), (15, .bool true), (17, .agg cs211.toArray), (20, .agg cs219.toArray)] (BK 24 K_api_Touch g3 a1 :: BK 24 K_api_Touch g1 a0 :: Fr) (.inRegion ops266 l :: k267) := by
          intro cs211 f212 cs219 f220 l hl
          refine G.fork [9, 12] hl rfl (And.intro ?_ (And.intro ?_ trivial))
          · intro rest ho
            refine G.loadA (df := K_api_Touch) (y := a0) rfl rfl rfl rfl ty24 rfl (fun w hs => Rd.bk (Lens.id _ _) hs (j := 1) rfl) ?_
            intro cs209 f210
            refine G.front1 ?_
            refine G.front1 ?_
            refine G.less ?_ (d24 cs209 f210 cs211 f212 cs219 f220 rest ho)
            exact ⟨rfl, rfl, rfl, rfl, rfl, rfl, trivial⟩
          · intro rest ho
            refine G.loadA (df := K_api_Touch) (y := a0) rfl rfl rfl rfl ty24 rfl (fun w hs => Rd.bk (Lens.id _ _) hs (j := 1) rfl) ?_
            intro cs217 f218
            refine G.front1 ?_
            refine G.front1 ?_
            refine G.less ?_ (d26 cs211 f212 cs217 f218 cs219 f220 rest ho)
            exact ⟨rfl, rfl, rfl, rfl, rfl, rfl, trivial⟩
        have d19 : ∀ (cs211 : List Value) (f212 : K_api_Touch.R H8 a1 cs211) (cs217 : List Value) (f218 : K_api_Touch.R H8 a0 cs217) (l : List Nat), Ord armoirelaw15_ReadsMeet.ds2 16 [true, true, true, true, true, true, true, true, true, false, true, false, true, false, false, false, false, false, false, false, false, false, false, false, false, false, false] l → G C265 H8 [(2, .pointer (some ⟨g1, 0, none⟩)), (3, .pointer (some ⟨g3, 0, none⟩)), (15, .bool true), (17, .agg cs211.toArray), (19, .agg cs217.toArray)] (BK 24 K_api_Touch g3 a1 :: BK 24 K_api_Touch g1 a0 :: Fr) (.inRegion ops266 l :: k267) := by
          intro cs211 f212 cs217 f218 l hl
          refine G.fork [9, 13] hl rfl (And.intro ?_ (And.intro ?_ trivial))
          · intro rest ho
            refine G.loadA (df := K_api_Touch) (y := a0) rfl rfl rfl rfl ty24 rfl (fun w hs => Rd.bk (Lens.id _ _) hs (j := 1) rfl) ?_
            intro cs209 f210
            refine G.front1 ?_
            refine G.front1 ?_
            refine G.less ?_ (d23 cs209 f210 cs211 f212 cs217 f218 rest ho)
            exact ⟨rfl, rfl, rfl, rfl, rfl, rfl, trivial⟩
          · intro rest ho
            refine G.loadA (df := K_api_Touch) (y := a1) rfl rfl rfl rfl ty24 rfl (fun w hs => Rd.bk (Lens.id _ _) hs (j := 0) rfl) ?_
            intro cs219 f220
            refine G.front1 ?_
            refine G.front1 ?_
            refine G.less ?_ (d26 cs211 f212 cs217 f218 cs219 f220 rest ho)
            exact ⟨rfl, rfl, rfl, rfl, rfl, rfl, trivial⟩
        have d18 : ∀ (cs209 : List Value) (f210 : K_api_Touch.R H8 a0 cs209) (cs219 : List Value) (f220 : K_api_Touch.R H8 a1 cs219) (l : List Nat), Ord armoirelaw15_ReadsMeet.ds2 16 [true, true, true, true, true, true, true, true, true, true, false, false, false, true, false, false, false, false, false, false, false, false, false, false, false, false, false] l → G C265 H8 [(2, .pointer (some ⟨g1, 0, none⟩)), (3, .pointer (some ⟨g3, 0, none⟩)), (15, .bool true), (16, .agg cs209.toArray), (20, .agg cs219.toArray)] (BK 24 K_api_Touch g3 a1 :: BK 24 K_api_Touch g1 a0 :: Fr) (.inRegion ops266 l :: k267) := by
          intro cs209 f210 cs219 f220 l hl
          refine G.fork [10, 12] hl rfl (And.intro ?_ (And.intro ?_ trivial))
          · intro rest ho
            refine G.loadA (df := K_api_Touch) (y := a1) rfl rfl rfl rfl ty24 rfl (fun w hs => Rd.bk (Lens.id _ _) hs (j := 0) rfl) ?_
            intro cs211 f212
            refine G.front1 ?_
            refine G.front1 ?_
            refine G.less ?_ (d24 cs209 f210 cs211 f212 cs219 f220 rest ho)
            exact ⟨rfl, rfl, rfl, rfl, rfl, rfl, trivial⟩
          · intro rest ho
            refine G.loadA (df := K_api_Touch) (y := a0) rfl rfl rfl rfl ty24 rfl (fun w hs => Rd.bk (Lens.id _ _) hs (j := 1) rfl) ?_
            intro cs217 f218
            refine G.front1 ?_
            refine G.front1 ?_
            refine G.less ?_ (d25 cs209 f210 cs217 f218 cs219 f220 rest ho)
            exact ⟨rfl, rfl, rfl, rfl, rfl, rfl, trivial⟩
        have d17 : ∀ (cs209 : List Value) (f210 : K_api_Touch.R H8 a0 cs209) (cs217 : List Value) (f218 : K_api_Touch.R H8 a0 cs217) (l : List Nat), Ord armoirelaw15_ReadsMeet.ds2 16 [true, true, true, true, true, true, true, true, true, true, false, false, true, false, false, false, false, false, false, false, false, false, false, false, false, false, false] l → G C265 H8 [(2, .pointer (some ⟨g1, 0, none⟩)), (3, .pointer (some ⟨g3, 0, none⟩)), (15, .bool true), (16, .agg cs209.toArray), (19, .agg cs217.toArray)] (BK 24 K_api_Touch g3 a1 :: BK 24 K_api_Touch g1 a0 :: Fr) (.inRegion ops266 l :: k267) := by
          intro cs209 f210 cs217 f218 l hl
          refine G.fork [10, 13] hl rfl (And.intro ?_ (And.intro ?_ trivial))
          · intro rest ho
            refine G.loadA (df := K_api_Touch) (y := a1) rfl rfl rfl rfl ty24 rfl (fun w hs => Rd.bk (Lens.id _ _) hs (j := 0) rfl) ?_
            intro cs211 f212
            refine G.front1 ?_
            refine G.front1 ?_
            refine G.less ?_ (d23 cs209 f210 cs211 f212 cs217 f218 rest ho)
            exact ⟨rfl, rfl, rfl, rfl, rfl, rfl, trivial⟩
          · intro rest ho
            refine G.loadA (df := K_api_Touch) (y := a1) rfl rfl rfl rfl ty24 rfl (fun w hs => Rd.bk (Lens.id _ _) hs (j := 0) rfl) ?_
            intro cs219 f220
            refine G.front1 ?_
            refine G.front1 ?_
            refine G.less ?_ (d25 cs209 f210 cs217 f218 cs219 f220 rest ho)
            exact ⟨rfl, rfl, rfl, rfl, rfl, rfl, trivial⟩
        have d16 : ∀ (cs209 : List Value) (f210 : K_api_Touch.R H8 a0 cs209) (cs211 : List Value) (f212 : K_api_Touch.R H8 a1 cs211) (l : List Nat), Ord armoirelaw15_ReadsMeet.ds2 16 [true, true, true, true, true, true, true, true, true, true, true, false, false, false, false, false, false, false, false, false, false, false, false, false, false, false, false] l → G C265 H8 [(2, .pointer (some ⟨g1, 0, none⟩)), (3, .pointer (some ⟨g3, 0, none⟩)), (15, .bool true), (16, .agg cs209.toArray), (17, .agg cs211.toArray)] (BK 24 K_api_Touch g3 a1 :: BK 24 K_api_Touch g1 a0 :: Fr) (.inRegion ops266 l :: k267) := by
          intro cs209 f210 cs211 f212 l hl
          refine G.fork [11, 12, 13] hl rfl (And.intro ?_ (And.intro ?_ (And.intro ?_ trivial)))
          · intro rest ho
            refine G.callB rfl rfl rfl rfl call12 (fun w hs => reads_Meet.ok cs209 a0 (K_api_Touch.mono hs.ro f210) cs211 a1 (K_api_Touch.mono hs.ro f212) e214) (by rintro v H' L' ⟨rfl, rfl⟩; exact Free.nil) ?_
            rintro v215 L216 ⟨_, rfl, rfl⟩
            refine G.front1 ?_
            refine G.front1 ?_
            refine G.less ?_ (d22 rest ho)
            exact ⟨rfl, rfl, rfl, rfl, trivial⟩
          · intro rest ho
            refine G.loadA (df := K_api_Touch) (y := a0) rfl rfl rfl rfl ty24 rfl (fun w hs => Rd.bk (Lens.id _ _) hs (j := 1) rfl) ?_
            intro cs217 f218
            refine G.front1 ?_
            refine G.front1 ?_
            refine G.less ?_ (d23 cs209 f210 cs211 f212 cs217 f218 rest ho)
            exact ⟨rfl, rfl, rfl, rfl, rfl, rfl, trivial⟩
          · intro rest ho
            refine G.loadA (df := K_api_Touch) (y := a1) rfl rfl rfl rfl ty24 rfl (fun w hs => Rd.bk (Lens.id _ _) hs (j := 0) rfl) ?_
            intro cs219 f220
            refine G.front1 ?_
            refine G.front1 ?_
            refine G.less ?_ (d24 cs209 f210 cs211 f212 cs219 f220 rest ho)
            exact ⟨rfl, rfl, rfl, rfl, rfl, rfl, trivial⟩
        have d15 : ∀ (cs219 : List Value) (f220 : K_api_Touch.R H8 a1 cs219) (l : List Nat), Ord armoirelaw15_ReadsMeet.ds2 17 [true, true, true, true, true, true, true, true, true, false, false, false, false, true, false, false, false, false, false, false, false, false, false, false, false, false, false] l → G C265 H8 [(2, .pointer (some ⟨g1, 0, none⟩)), (3, .pointer (some ⟨g3, 0, none⟩)), (15, .bool true), (20, .agg cs219.toArray)] (BK 24 K_api_Touch g3 a1 :: BK 24 K_api_Touch g1 a0 :: Fr) (.inRegion ops266 l :: k267) := by
          intro cs219 f220 l hl
          refine G.fork [9, 10, 12] hl rfl (And.intro ?_ (And.intro ?_ (And.intro ?_ trivial)))
          · intro rest ho
            refine G.loadA (df := K_api_Touch) (y := a0) rfl rfl rfl rfl ty24 rfl (fun w hs => Rd.bk (Lens.id _ _) hs (j := 1) rfl) ?_
            intro cs209 f210
            refine G.front1 ?_
            refine G.front1 ?_
            refine G.less ?_ (d18 cs209 f210 cs219 f220 rest ho)
            exact ⟨rfl, rfl, rfl, rfl, rfl, trivial⟩
          · intro rest ho
            refine G.loadA (df := K_api_Touch) (y := a1) rfl rfl rfl rfl ty24 rfl (fun w hs => Rd.bk (Lens.id _ _) hs (j := 0) rfl) ?_
            intro cs211 f212
            refine G.front1 ?_
            refine G.front1 ?_
            refine G.less ?_ (d20 cs211 f212 cs219 f220 rest ho)
            exact ⟨rfl, rfl, rfl, rfl, rfl, trivial⟩
          · intro rest ho
            refine G.loadA (df := K_api_Touch) (y := a0) rfl rfl rfl rfl ty24 rfl (fun w hs => Rd.bk (Lens.id _ _) hs (j := 1) rfl) ?_
            intro cs217 f218
            refine G.front1 ?_
            refine G.front1 ?_
            refine G.less ?_ (d21 cs217 f218 cs219 f220 rest ho)
            exact ⟨rfl, rfl, rfl, rfl, rfl, trivial⟩
        have d14 : ∀ (cs217 : List Value) (f218 : K_api_Touch.R H8 a0 cs217) (l : List Nat), Ord armoirelaw15_ReadsMeet.ds2 17 [true, true, true, true, true, true, true, true, true, false, false, false, true, false, false, false, false, false, false, false, false, false, false, false, false, false, false] l → G C265 H8 [(2, .pointer (some ⟨g1, 0, none⟩)), (3, .pointer (some ⟨g3, 0, none⟩)), (15, .bool true), (19, .agg cs217.toArray)] (BK 24 K_api_Touch g3 a1 :: BK 24 K_api_Touch g1 a0 :: Fr) (.inRegion ops266 l :: k267) := by
          intro cs217 f218 l hl
          refine G.fork [9, 10, 13] hl rfl (And.intro ?_ (And.intro ?_ (And.intro ?_ trivial)))
          · intro rest ho
            refine G.loadA (df := K_api_Touch) (y := a0) rfl rfl rfl rfl ty24 rfl (fun w hs => Rd.bk (Lens.id _ _) hs (j := 1) rfl) ?_
            intro cs209 f210
            refine G.front1 ?_
            refine G.front1 ?_
            refine G.less ?_ (d17 cs209 f210 cs217 f218 rest ho)
            exact ⟨rfl, rfl, rfl, rfl, rfl, trivial⟩
          · intro rest ho
            refine G.loadA (df := K_api_Touch) (y := a1) rfl rfl rfl rfl ty24 rfl (fun w hs => Rd.bk (Lens.id _ _) hs (j := 0) rfl) ?_
            intro cs211 f212
            refine G.front1 ?_
            refine G.front1 ?_
            refine G.less ?_ (d19 cs211 f212 cs217 f218 rest ho)
            exact ⟨rfl, rfl, rfl, rfl, rfl, trivial⟩
          · intro rest ho
            refine G.loadA (df := K_api_Touch) (y := a1) rfl rfl rfl rfl ty24 rfl (fun w hs => Rd.bk (Lens.id _ _) hs (j := 0) rfl) ?_
            intro cs219 f220
            refine G.front1 ?_
            refine G.front1 ?_
            refine G.less ?_ (d21 cs217 f218 cs219 f220 rest ho)
            exact ⟨rfl, rfl, rfl, rfl, rfl, trivial⟩
        have d13 : ∀ (cs211 : List Value) (f212 : K_api_Touch.R H8 a1 cs211) (l : List Nat), Ord armoirelaw15_ReadsMeet.ds2 17 [true, true, true, true, true, true, true, true, true, false, true, false, false, false, false, false, false, false, false, false, false, false, false, false, false, false, false] l → G C265 H8 [(2, .pointer (some ⟨g1, 0, none⟩)), (3, .pointer (some ⟨g3, 0, none⟩)), (15, .bool true), (17, .agg cs211.toArray)] (BK 24 K_api_Touch g3 a1 :: BK 24 K_api_Touch g1 a0 :: Fr) (.inRegion ops266 l :: k267) := by
          intro cs211 f212 l hl
          refine G.fork [9, 12, 13] hl rfl (And.intro ?_ (And.intro ?_ (And.intro ?_ trivial)))
          · intro rest ho
            refine G.loadA (df := K_api_Touch) (y := a0) rfl rfl rfl rfl ty24 rfl (fun w hs => Rd.bk (Lens.id _ _) hs (j := 1) rfl) ?_
            intro cs209 f210
            refine G.front1 ?_
            refine G.front1 ?_
            refine G.less ?_ (d16 cs209 f210 cs211 f212 rest ho)
            exact ⟨rfl, rfl, rfl, rfl, rfl, trivial⟩
          · intro rest ho
            refine G.loadA (df := K_api_Touch) (y := a0) rfl rfl rfl rfl ty24 rfl (fun w hs => Rd.bk (Lens.id _ _) hs (j := 1) rfl) ?_
            intro cs217 f218
            refine G.front1 ?_
            refine G.front1 ?_
            refine G.less ?_ (d19 cs211 f212 cs217 f218 rest ho)
            exact ⟨rfl, rfl, rfl, rfl, rfl, trivial⟩
          · intro rest ho
            refine G.loadA (df := K_api_Touch) (y := a1) rfl rfl rfl rfl ty24 rfl (fun w hs => Rd.bk (Lens.id _ _) hs (j := 0) rfl) ?_
            intro cs219 f220
            refine G.front1 ?_
            refine G.front1 ?_
            refine G.less ?_ (d20 cs211 f212 cs219 f220 rest ho)
            exact ⟨rfl, rfl, rfl, rfl, rfl, trivial⟩
        have d12 : ∀ (cs209 : List Value) (f210 : K_api_Touch.R H8 a0 cs209) (l : List Nat), Ord armoirelaw15_ReadsMeet.ds2 17 [true, true, true, true, true, true, true, true, true, true, false, false, false, false, false, false, false, false, false, false, false, false, false, false, false, false, false] l → G C265 H8 [(2, .pointer (some ⟨g1, 0, none⟩)), (3, .pointer (some ⟨g3, 0, none⟩)), (15, .bool true), (16, .agg cs209.toArray)] (BK 24 K_api_Touch g3 a1 :: BK 24 K_api_Touch g1 a0 :: Fr) (.inRegion ops266 l :: k267) := by
          intro cs209 f210 l hl
          refine G.fork [10, 12, 13] hl rfl (And.intro ?_ (And.intro ?_ (And.intro ?_ trivial)))
          · intro rest ho
            refine G.loadA (df := K_api_Touch) (y := a1) rfl rfl rfl rfl ty24 rfl (fun w hs => Rd.bk (Lens.id _ _) hs (j := 0) rfl) ?_
            intro cs211 f212
            refine G.front1 ?_
            refine G.front1 ?_
            refine G.less ?_ (d16 cs209 f210 cs211 f212 rest ho)
            exact ⟨rfl, rfl, rfl, rfl, rfl, trivial⟩
          · intro rest ho
            refine G.loadA (df := K_api_Touch) (y := a0) rfl rfl rfl rfl ty24 rfl (fun w hs => Rd.bk (Lens.id _ _) hs (j := 1) rfl) ?_
            intro cs217 f218
            refine G.front1 ?_
            refine G.front1 ?_
            refine G.less ?_ (d17 cs209 f210 cs217 f218 rest ho)
            exact ⟨rfl, rfl, rfl, rfl, rfl, trivial⟩
          · intro rest ho
            refine G.loadA (df := K_api_Touch) (y := a1) rfl rfl rfl rfl ty24 rfl (fun w hs => Rd.bk (Lens.id _ _) hs (j := 0) rfl) ?_
            intro cs219 f220
            refine G.front1 ?_
            refine G.front1 ?_
            refine G.less ?_ (d18 cs209 f210 cs219 f220 rest ho)
            exact ⟨rfl, rfl, rfl, rfl, rfl, trivial⟩
        have d11 : ∀ (l : List Nat), Ord armoirelaw15_ReadsMeet.ds2 18 [true, true, true, true, true, true, true, true, true, false, false, false, false, false, false, false, false, false, false, false, false, false, false, false, false, false, false] l → G C265 H8 [(2, .pointer (some ⟨g1, 0, none⟩)), (3, .pointer (some ⟨g3, 0, none⟩)), (15, .bool true)] (BK 24 K_api_Touch g3 a1 :: BK 24 K_api_Touch g1 a0 :: Fr) (.inRegion ops266 l :: k267) := by
          intro  l hl
          refine G.fork [9, 10, 12, 13] hl rfl (And.intro ?_ (And.intro ?_ (And.intro ?_ (And.intro ?_ trivial))))
          · intro rest ho
            refine G.loadA (df := K_api_Touch) (y := a0) rfl rfl rfl rfl ty24 rfl (fun w hs => Rd.bk (Lens.id _ _) hs (j := 1) rfl) ?_
            intro cs209 f210
            refine G.front1 ?_
            refine G.front1 ?_
            refine G.less ?_ (d12 cs209 f210 rest ho)
            exact ⟨rfl, rfl, rfl, rfl, trivial⟩
          · intro rest ho
            refine G.loadA (df := K_api_Touch) (y := a1) rfl rfl rfl rfl ty24 rfl (fun w hs => Rd.bk (Lens.id _ _) hs (j := 0) rfl) ?_
            intro cs211 f212
            refine G.front1 ?_
            refine G.front1 ?_
            refine G.less ?_ (d13 cs211 f212 rest ho)
            exact ⟨rfl, rfl, rfl, rfl, trivial⟩
          · intro rest ho
            refine G.loadA (df := K_api_Touch) (y := a0) rfl rfl rfl rfl ty24 rfl (fun w hs => Rd.bk (Lens.id _ _) hs (j := 1) rfl) ?_
            intro cs217 f218
            refine G.front1 ?_
            refine G.front1 ?_
            refine G.less ?_ (d14 cs217 f218 rest ho)
            exact ⟨rfl, rfl, rfl, rfl, trivial⟩
          · intro rest ho
            refine G.loadA (df := K_api_Touch) (y := a1) rfl rfl rfl rfl ty24 rfl (fun w hs => Rd.bk (Lens.id _ _) hs (j := 0) rfl) ?_
            intro cs219 f220
            refine G.front1 ?_
            refine G.front1 ?_
            refine G.less ?_ (d15 cs219 f220 rest ho)
            exact ⟨rfl, rfl, rfl, rfl, trivial⟩
        have d10 : ∀ (l : List Nat), Ord armoirelaw15_ReadsMeet.ds2 19 [true, true, true, true, true, true, true, true, false, false, false, false, false, false, false, false, false, false, false, false, false, false, false, false, false, false, false] l → G C265 H8 [(2, .pointer (some ⟨g1, 0, none⟩)), (3, .pointer (some ⟨g3, 0, none⟩)), (14, .bool (decide (t141 = t147)))] (BK 24 K_api_Touch g3 a1 :: BK 24 K_api_Touch g1 a0 :: Fr) (.inRegion ops266 l :: k267) := by
          intro  l hl
          refine G.fork [8] hl rfl (And.intro ?_ trivial)
          · intro rest ho
            refine G.move rfl rfl rfl rfl ?_
            refine G.same (d := 15) (v := .bool true) rfl (by simp [k151]) ?_
            refine G.front1 ?_
            refine G.front1 ?_
            refine G.less ?_ (d11 rest ho)
            exact ⟨rfl, rfl, rfl, trivial⟩
        have d9 : ∀ (l : List Nat), Ord armoirelaw15_ReadsMeet.ds2 20 [true, true, true, true, true, true, true, false, false, false, false, false, false, false, false, false, false, false, false, false, false, false, false, false, false, false, false] l → G C265 H8 [(2, .pointer (some ⟨g1, 0, none⟩)), (3, .pointer (some ⟨g3, 0, none⟩)), (8, .bool true), (13, .bool (decide (t141 = t147)))] (BK 24 K_api_Touch g3 a1 :: BK 24 K_api_Touch g1 a0 :: Fr) (.inRegion ops266 l :: k267) := by
          intro  l hl
          refine G.fork [7] hl rfl (And.intro ?_ trivial)
          · intro rest ho
            refine G.pickT rfl rfl rfl rfl rfl ?_
            refine G.front1 ?_
            refine G.front1 ?_
            refine G.less ?_ (d10 rest ho)
            exact ⟨rfl, rfl, rfl, trivial⟩
        have d8 : ∀ (l : List Nat), Ord armoirelaw15_ReadsMeet.ds2 21 [true, true, true, true, true, true, false, false, false, false, false, false, false, false, false, false, false, false, false, false, false, false, false, false, false, false, false] l → G C265 H8 [(2, .pointer (some ⟨g1, 0, none⟩)), (3, .pointer (some ⟨g3, 0, none⟩)), (8, .bool true), (10, .int .i64 t141), (12, .int .i64 t147)] (BK 24 K_api_Touch g3 a1 :: BK 24 K_api_Touch g1 a0 :: Fr) (.inRegion ops266 l :: k267) := by
          intro  l hl
          refine G.fork [6] hl rfl (And.intro ?_ trivial)
          · intro rest ho
            refine G.cmp (t141 = t147) rfl rfl rfl rfl rfl rfl Iff.rfl ?_
            refine G.front1 ?_
            refine G.front1 ?_
            refine G.less ?_ (d9 rest ho)
            exact ⟨rfl, rfl, rfl, rfl, trivial⟩
        have d7 : ∀ (cs145 : List Value) (f146 : K_api_Touch.R H8 a0 cs145) (l : List Nat), Ord armoirelaw15_ReadsMeet.ds2 22 [true, true, true, true, true, false, false, false, false, false, false, false, false, false, false, false, false, false, false, false, false, false, false, false, false, false, false] l → G C265 H8 [(2, .pointer (some ⟨g1, 0, none⟩)), (3, .pointer (some ⟨g3, 0, none⟩)), (8, .bool true), (10, .int .i64 t141), (11, .agg cs145.toArray)] (BK 24 K_api_Touch g3 a1 :: BK 24 K_api_Touch g1 a0 :: Fr) (.inRegion ops266 l :: k267) := by
          intro cs145 f146 l hl
          refine G.fork [5] hl rfl (And.intro ?_ trivial)
          · intro rest ho
            refine G.callB rfl rfl rfl rfl call11 (fun w hs => armoireref15_Check.ok cs145 a0 (K_api_Touch.mono hs.ro f146) e148) (by rintro v H' L' ⟨rfl, rfl⟩; exact Free.nil) ?_
            rintro v149 L150 ⟨_, rfl, rfl⟩
            refine G.front1 ?_
            refine G.front1 ?_
            refine G.less ?_ (d8 rest ho)
            exact ⟨rfl, rfl, rfl, rfl, rfl, trivial⟩
        have d6 : ∀ (cs139 : List Value) (f140 : K_api_Touch.R H8 a0 cs139) (cs145 : List Value) (f146 : K_api_Touch.R H8 a0 cs145) (l : List Nat), Ord armoirelaw15_ReadsMeet.ds2 23 [true, true, true, false, true, false, false, false, false, false, false, false, false, false, false, false, false, false, false, false, false, false, false, false, false, false, false] l → G C265 H8 [(2, .pointer (some ⟨g1, 0, none⟩)), (3, .pointer (some ⟨g3, 0, none⟩)), (8, .bool true), (9, .agg cs139.toArray), (11, .agg cs145.toArray)] (BK 24 K_api_Touch g3 a1 :: BK 24 K_api_Touch g1 a0 :: Fr) (.inRegion ops266 l :: k267) := by
          intro cs139 f140 cs145 f146 l hl
          refine G.fork [3] hl rfl (And.intro ?_ trivial)
          · intro rest ho
            refine G.callB rfl rfl rfl rfl call10 (fun w hs => reads_Check.ok cs139 a0 (K_api_Touch.mono hs.ro f140) e142) (by rintro v H' L' ⟨rfl, rfl⟩; exact Free.nil) ?_
            rintro v143 L144 ⟨_, rfl, rfl⟩
            refine G.front1 ?_
            refine G.front1 ?_
            refine G.less ?_ (d7 cs145 f146 rest ho)
            exact ⟨rfl, rfl, rfl, rfl, rfl, trivial⟩
        have d5 : ∀ (l : List Nat), Ord armoirelaw15_ReadsMeet.ds2 23 [true, true, true, true, false, false, false, false, false, false, false, false, false, false, false, false, false, false, false, false, false, false, false, false, false, false, false] l → G C265 H8 [(2, .pointer (some ⟨g1, 0, none⟩)), (3, .pointer (some ⟨g3, 0, none⟩)), (8, .bool true), (10, .int .i64 t141)] (BK 24 K_api_Touch g3 a1 :: BK 24 K_api_Touch g1 a0 :: Fr) (.inRegion ops266 l :: k267) := by
          intro  l hl
          refine G.fork [4] hl rfl (And.intro ?_ trivial)
          · intro rest ho
            refine G.loadA (df := K_api_Touch) (y := a0) rfl rfl rfl rfl ty24 rfl (fun w hs => Rd.bk (Lens.id _ _) hs (j := 1) rfl) ?_
            intro cs145 f146
            refine G.front1 ?_
            refine G.front1 ?_
            refine G.less ?_ (d7 cs145 f146 rest ho)
            exact ⟨rfl, rfl, rfl, rfl, rfl, trivial⟩
        have d4 : ∀ (cs145 : List Value) (f146 : K_api_Touch.R H8 a0 cs145) (l : List Nat), Ord armoirelaw15_ReadsMeet.ds2 24 [true, true, false, false, true, false, false, false, false, false, false, false, false, false, false, false, false, false, false, false, false, false, false, false, false, false, false] l → G C265 H8 [(2, .pointer (some ⟨g1, 0, none⟩)), (3, .pointer (some ⟨g3, 0, none⟩)), (8, .bool true), (11, .agg cs145.toArray)] (BK 24 K_api_Touch g3 a1 :: BK 24 K_api_Touch g1 a0 :: Fr) (.inRegion ops266 l :: k267) := by
          intro cs145 f146 l hl
          refine G.fork [2] hl rfl (And.intro ?_ trivial)
          · intro rest ho
            refine G.loadA (df := K_api_Touch) (y := a0) rfl rfl rfl rfl ty24 rfl (fun w hs => Rd.bk (Lens.id _ _) hs (j := 1) rfl) ?_
            intro cs139 f140
            refine G.front1 ?_
            refine G.front1 ?_
            refine G.less ?_ (d6 cs139 f140 cs145 f146 rest ho)
            exact ⟨rfl, rfl, rfl, rfl, rfl, trivial⟩
        have d3 : ∀ (cs139 : List Value) (f140 : K_api_Touch.R H8 a0 cs139) (l : List Nat), Ord armoirelaw15_ReadsMeet.ds2 24 [true, true, true, false, false, false, false, false, false, false, false, false, false, false, false, false, false, false, false, false, false, false, false, false, false, false, false] l → G C265 H8 [(2, .pointer (some ⟨g1, 0, none⟩)), (3, .pointer (some ⟨g3, 0, none⟩)), (8, .bool true), (9, .agg cs139.toArray)] (BK 24 K_api_Touch g3 a1 :: BK 24 K_api_Touch g1 a0 :: Fr) (.inRegion ops266 l :: k267) := by
          intro cs139 f140 l hl
          refine G.fork [3, 4] hl rfl (And.intro ?_ (And.intro ?_ trivial))
          · intro rest ho
            refine G.callB rfl rfl rfl rfl call10 (fun w hs => reads_Check.ok cs139 a0 (K_api_Touch.mono hs.ro f140) e142) (by rintro v H' L' ⟨rfl, rfl⟩; exact Free.nil) ?_
            rintro v143 L144 ⟨_, rfl, rfl⟩
            refine G.front1 ?_
            refine G.front1 ?_
            refine G.less ?_ (d5 rest ho)
            exact ⟨rfl, rfl, rfl, rfl, trivial⟩
          · intro rest ho
            refine G.loadA (df := K_api_Touch) (y := a0) rfl rfl rfl rfl ty24 rfl (fun w hs => Rd.bk (Lens.id _ _) hs (j := 1) rfl) ?_
            intro cs145 f146
            refine G.front1 ?_
            refine G.front1 ?_
            refine G.less ?_ (d6 cs139 f140 cs145 f146 rest ho)
            exact ⟨rfl, rfl, rfl, rfl, rfl, trivial⟩
        have d2 : ∀ (l : List Nat), Ord armoirelaw15_ReadsMeet.ds2 25 [true, true, false, false, false, false, false, false, false, false, false, false, false, false, false, false, false, false, false, false, false, false, false, false, false, false, false] l → G C265 H8 [(2, .pointer (some ⟨g1, 0, none⟩)), (3, .pointer (some ⟨g3, 0, none⟩)), (8, .bool true)] (BK 24 K_api_Touch g3 a1 :: BK 24 K_api_Touch g1 a0 :: Fr) (.inRegion ops266 l :: k267) := by
          intro  l hl
          refine G.fork [2, 4] hl rfl (And.intro ?_ (And.intro ?_ trivial))
          · intro rest ho
            refine G.loadA (df := K_api_Touch) (y := a0) rfl rfl rfl rfl ty24 rfl (fun w hs => Rd.bk (Lens.id _ _) hs (j := 1) rfl) ?_
            intro cs139 f140
            refine G.front1 ?_
            refine G.front1 ?_
            refine G.less ?_ (d3 cs139 f140 rest ho)
            exact ⟨rfl, rfl, rfl, rfl, trivial⟩
          · intro rest ho
            refine G.loadA (df := K_api_Touch) (y := a0) rfl rfl rfl rfl ty24 rfl (fun w hs => Rd.bk (Lens.id _ _) hs (j := 1) rfl) ?_
            intro cs145 f146
            refine G.front1 ?_
            refine G.front1 ?_
            refine G.less ?_ (d4 cs145 f146 rest ho)
            exact ⟨rfl, rfl, rfl, rfl, trivial⟩
        have d1 : ∀ (l : List Nat), Ord armoirelaw15_ReadsMeet.ds2 26 [true, false, false, false, false, false, false, false, false, false, false, false, false, false, false, false, false, false, false, false, false, false, false, false, false, false, false] l → G C265 H8 [(2, .pointer (some ⟨g1, 0, none⟩)), (3, .pointer (some ⟨g3, 0, none⟩)), (7, .bool t5)] (BK 24 K_api_Touch g3 a1 :: BK 24 K_api_Touch g1 a0 :: Fr) (.inRegion ops266 l :: k267) := by
          intro  l hl
          refine G.fork [1] hl rfl (And.intro ?_ trivial)
          · intro rest ho
            refine G.move rfl rfl rfl rfl ?_
            refine G.same (d := 8) (v := .bool true) rfl (by simp [k11]) ?_
            refine G.front1 ?_
            refine G.front1 ?_
            refine G.less ?_ (d2 rest ho)
            exact ⟨rfl, rfl, rfl, trivial⟩
        have d0 : ∀ (l : List Nat), Ord armoirelaw15_ReadsMeet.ds2 27 [false, false, false, false, false, false, false, false, false, false, false, false, false, false, false, false, false, false, false, false, false, false, false, false, false, false, false] l → G C265 H8 [(2, .pointer (some ⟨g1, 0, none⟩)), (3, .pointer (some ⟨g3, 0, none⟩)), (5, .bool t5)] (BK 24 K_api_Touch g3 a1 :: BK 24 K_api_Touch g1 a0 :: Fr) (.inRegion ops266 l :: k267) := by
          intro  l hl
          refine G.fork [0] hl rfl (And.intro ?_ trivial)
          · intro rest ho
            refine G.move rfl rfl rfl rfl ?_
            refine G.front1 ?_
            refine G.front1 ?_
            refine G.less ?_ (d1 rest ho)
            exact ⟨rfl, rfl, rfl, trivial⟩
        intro l hl
        refine G.less ?_ (d0 l hl)
        exact ⟨rfl, rfl, rfl, trivial⟩
    · replace h := ifF h k151
      refine G.draw armoirelaw15_ReadsMeet.ds2 27 [0, 1, 2, 3, 4, 5, 6, 7, 8, 9, 10, 11, 12, 13, 14, 15, 16, 17, 18, 19, 20, 21, 22, 23, 24, 25, 26] [0, 1, 2, 3, 2, 4, 5, 6, 7, 8, 8, 9, 8, 8, 10, 11, 12, 13, 14, 14, 15, 14, 14, 16, 17, 18, 19] [0, 1, 2, 3, 2, 4, 5, 6, 7, 8, 8, 9, 8, 8, 10, 11, 12, 13, 14, 14, 15, 14, 14, 16, 17, 18, 19] rfl (by kernel_rfl) (by kernel_rfl) (by kernel_rfl) (by kernel_rfl) ?_
      intro C268 ops269 k270
      have d57 : ∀ (l : List Nat), Ord armoirelaw15_ReadsMeet.ds2 0 [true, true, true, true, true, true, true, true, true, true, true, true, true, true, true, true, true, true, true, true, true, true, true, true, true, true, true] l → G C268 H8 [(4, .bool false)] (BK 24 K_api_Touch g3 a1 :: BK 24 K_api_Touch g1 a0 :: Fr) (.inRegion ops269 l :: k270) := by
        intro  l hl
        refine G.drawnAll hl ?_
        refine G.regionEnd ?_
        refine G.front1 ?_
        refine G.front1 ?_
        refine G.less ?_ (J208 H8 (PH.le_refl _) false h)
        exact ⟨rfl, trivial⟩
      have d56 : ∀ (l : List Nat), Ord armoirelaw15_ReadsMeet.ds2 1 [true, true, true, true, true, true, true, true, true, true, true, true, true, true, true, true, true, true, true, true, true, true, true, true, true, true, false] l → G C268 H8 [(32, .bool false)] (BK 24 K_api_Touch g3 a1 :: BK 24 K_api_Touch g1 a0 :: Fr) (.inRegion ops269 l :: k270) := by
        intro  l hl
        refine G.fork [26] hl rfl (And.intro ?_ trivial)
        · intro rest ho
          refine G.assign rfl rfl rfl rfl ?_
          refine G.front1 ?_
          refine G.front1 ?_
          refine G.less ?_ (d57 rest ho)
          exact ⟨rfl, trivial⟩
      have d55 : ∀ (l : List Nat), Ord armoirelaw15_ReadsMeet.ds2 2 [true, true, true, true, true, true, true, true, true, true, true, true, true, true, true, true, true, true, true, true, true, true, true, true, true, false, false] l → G C268 H8 [(24, .bool false), (31, undef)] (BK 24 K_api_Touch g3 a1 :: BK 24 K_api_Touch g1 a0 :: Fr) (.inRegion ops269 l :: k270) := by
        intro  l hl
        refine G.fork [25] hl rfl (And.intro ?_ trivial)
        · intro rest ho
          refine G.pickF rfl rfl rfl rfl rfl ?_
          refine G.front1 ?_
          refine G.front1 ?_
          refine G.less ?_ (d56 rest ho)
          exact ⟨rfl, trivial⟩
      have d54 : ∀ (l : List Nat), Ord armoirelaw15_ReadsMeet.ds2 3 [true, true, true, true, true, true, true, true, true, true, true, true, true, true, true, true, true, true, true, true, true, true, true, true, false, false, false] l → G C268 H8 [(24, .bool false), (27, undef), (30, undef)] (BK 24 K_api_Touch g3 a1 :: BK 24 K_api_Touch g1 a0 :: Fr) (.inRegion ops269 l :: k270) := by
        intro  l hl
        refine G.fork [24] hl rfl (And.intro ?_ trivial)
        · intro rest ho
          refine G.unwanted rfl rfl rfl rfl ?_
          refine G.front1 ?_
          refine G.front1 ?_
          refine G.less ?_ (d55 rest ho)
          exact ⟨rfl, rfl, trivial⟩
      have d53 : ∀ (l : List Nat), Ord armoirelaw15_ReadsMeet.ds2 4 [true, true, true, true, true, true, true, true, true, true, true, true, true, true, true, true, true, true, true, true, true, true, true, false, false, false, false] l → G C268 H8 [(24, .bool false), (27, undef), (28, undef), (29, undef)] (BK 24 K_api_Touch g3 a1 :: BK 24 K_api_Touch g1 a0 :: Fr) (.inRegion ops269 l :: k270) := by
        intro  l hl
        refine G.fork [23] hl rfl (And.intro ?_ trivial)
        · intro rest ho
          refine G.unwanted rfl rfl rfl rfl ?_
          refine G.front1 ?_
          refine G.front1 ?_
          refine G.less ?_ (d54 rest ho)
          exact ⟨rfl, rfl, rfl, trivial⟩
      have d52 : ∀ (l : List Nat), Ord armoirelaw15_ReadsMeet.ds2 5 [true, true, true, true, true, true, true, true, true, true, true, true, true, true, true, true, true, true, true, true, false, true, true, false, false, false, false] l → G C268 H8 [(24, .bool false), (25, undef), (26, undef), (28, undef), (29, undef)] (BK 24 K_api_Touch g3 a1 :: BK 24 K_api_Touch g1 a0 :: Fr) (.inRegion ops269 l :: k270) := by
        intro  l hl
        refine G.fork [20] hl rfl (And.intro ?_ trivial)
        · intro rest ho
          refine G.unwanted rfl rfl rfl rfl ?_
          refine G.front1 ?_
          refine G.front1 ?_
          refine G.less ?_ (d53 rest ho)
          exact ⟨rfl, rfl, rfl, rfl, trivial⟩
      have d51 : ∀ (l : List Nat), Ord armoirelaw15_ReadsMeet.ds2 5 [true, true, true, true, true, true, true, true, true, true, true, true, true, true, true, true, true, true, true, true, true, false, true, false, false, false, false] l → G C268 H8 [(3, .pointer (some ⟨g3, 0, none⟩)), (24, .bool false), (27, undef), (29, undef)] (BK 24 K_api_Touch g3 a1 :: BK 24 K_api_Touch g1 a0 :: Fr) (.inRegion ops269 l :: k270) := by
        intro  l hl
        refine G.fork [21] hl rfl (And.intro ?_ trivial)
        · intro rest ho
          refine G.unwanted rfl rfl rfl rfl ?_
          refine G.front1 ?_
          refine G.front1 ?_
          refine G.less ?_ (d53 rest ho)
          exact ⟨rfl, rfl, rfl, rfl, trivial⟩
      have d50 : ∀ (l : List Nat), Ord armoirelaw15_ReadsMeet.ds2 5 [true, true, true, true, true, true, true, true, true, true, true, true, true, true, true, true, true, true, true, true, true, true, false, false, false, false, false] l → G C268 H8 [(2, .pointer (some ⟨g1, 0, none⟩)), (24, .bool false), (27, undef), (28, undef)] (BK 24 K_api_Touch g3 a1 :: BK 24 K_api_Touch g1 a0 :: Fr) (.inRegion ops269 l :: k270) := by
        intro  l hl
        refine G.fork [22] hl rfl (And.intro ?_ trivial)
        · intro rest ho
          refine G.unwanted rfl rfl rfl rfl ?_
          refine G.front1 ?_
          refine G.front1 ?_
          refine G.less ?_ (d53 rest ho)
          exact ⟨rfl, rfl, rfl, rfl, trivial⟩
      have d49 : ∀ (l : List Nat), Ord armoirelaw15_ReadsMeet.ds2 6 [true, true, true, true, true, true, true, true, true, true, true, true, true, true, true, true, true, true, false, true, false, true, true, false, false, false, false] l → G C268 H8 [(3, .pointer (some ⟨g3, 0, none⟩)), (24, .bool false), (26, undef), (28, undef), (29, undef)] (BK 24 K_api_Touch g3 a1 :: BK 24 K_api_Touch g1 a0 :: Fr) (.inRegion ops269 l :: k270) := by
        intro  l hl
        refine G.fork [18] hl rfl (And.intro ?_ trivial)
        · intro rest ho
          refine G.unwanted rfl rfl rfl rfl ?_
          refine G.front1 ?_
          refine G.front1 ?_
          refine G.less ?_ (d52 rest ho)
          exact ⟨rfl, rfl, rfl, rfl, rfl, trivial⟩
      have d48 : ∀ (l : List Nat), Ord armoirelaw15_ReadsMeet.ds2 6 [true, true, true, true, true, true, true, true, true, true, true, true, true, true, true, true, true, true, true, false, false, true, true, false, false, false, false] l → G C268 H8 [(2, .pointer (some ⟨g1, 0, none⟩)), (24, .bool false), (25, undef), (28, undef), (29, undef)] (BK 24 K_api_Touch g3 a1 :: BK 24 K_api_Touch g1 a0 :: Fr) (.inRegion ops269 l :: k270) := by
        intro  l hl
        refine G.fork [19] hl rfl (And.intro ?_ trivial)
        · intro rest ho
          refine G.unwanted rfl rfl rfl rfl ?_
          refine G.front1 ?_
          refine G.front1 ?_
          refine G.less ?_ (d52 rest ho)
          exact ⟨rfl, rfl, rfl, rfl, rfl, trivial⟩
      have d47 : ∀ (l : List Nat), Ord armoirelaw15_ReadsMeet.ds2 6 [true, true, true, true, true, true, true, true, true, true, true, true, true, true, true, true, true, true, true, true, false, false, true, false, false, false, false] l → G C268 H8 [(3, .pointer (some ⟨g3, 0, none⟩)), (24, .bool false), (25, undef), (26, undef), (29, undef)] (BK 24 K_api_Touch g3 a1 :: BK 24 K_api_Touch g1 a0 :: Fr) (.inRegion ops269 l :: k270) := by
        intro  l hl
        refine G.fork [20, 21] hl rfl (And.intro ?_ (And.intro ?_ trivial))
        · intro rest ho
          refine G.unwanted rfl rfl rfl rfl ?_
          refine G.front1 ?_
          refine G.front1 ?_
          refine G.less ?_ (d51 rest ho)
          exact ⟨rfl, rfl, rfl, rfl, trivial⟩
        · intro rest ho
          refine G.unwanted rfl rfl rfl rfl ?_
          refine G.front1 ?_
          refine G.front1 ?_
          refine G.less ?_ (d52 rest ho)
          exact ⟨rfl, rfl, rfl, rfl, rfl, trivial⟩
      have d46 : ∀ (l : List Nat), Ord armoirelaw15_ReadsMeet.ds2 6 [true, true, true, true, true, true, true, true, true, true, true, true, true, true, true, true, true, true, true, true, false, true, false, false, false, false, false] l → G C268 H8 [(2, .pointer (some ⟨g1, 0, none⟩)), (24, .bool false), (25, undef), (26, undef), (28, undef)] (BK 24 K_api_Touch g3 a1 :: BK 24 K_api_Touch g1 a0 :: Fr) (.inRegion ops269 l :: k270) := by
        intro  l hl
        refine G.fork [20, 22] hl rfl (And.intro ?_ (And.intro ?_ trivial))
        · intro rest ho
          refine G.unwanted rfl rfl rfl rfl ?_
          refine G.front1 ?_
          refine G.front1 ?_
          refine G.less ?_ (d50 rest ho)
          exact ⟨rfl, rfl, rfl, rfl, trivial⟩
        · intro rest ho
          refine G.unwanted rfl rfl rfl rfl ?_
          refine G.front1 ?_
          refine G.front1 ?_
          refine G.less ?_ (d52 rest ho)
          exact ⟨rfl, rfl, rfl, rfl, rfl, trivial⟩
      have d45 : ∀ (l : List Nat), Ord armoirelaw15_ReadsMeet.ds2 6 [true, true, true, true, true, true, true, true, true, true, true, true, true, true, true, true, true, true, true, true, true, false, false, false, false, false, false] l → G C268 H8 [(2, .pointer (some ⟨g1, 0, none⟩)), (3, .pointer (some ⟨g3, 0, none⟩)), (24, .bool false), (27, undef)] (BK 24 K_api_Touch g3 a1 :: BK 24 K_api_Touch g1 a0 :: Fr) (.inRegion ops269 l :: k270) := by
        intro  l hl
        refine G.fork [21, 22] hl rfl (And.intro ?_ (And.intro ?_ trivial))
        · intro rest ho
          refine G.unwanted rfl rfl rfl rfl ?_
          refine G.front1 ?_
          refine G.front1 ?_
          refine G.less ?_ (d50 rest ho)
          exact ⟨rfl, rfl, rfl, rfl, trivial⟩
        · intro rest ho
          refine G.unwanted rfl rfl rfl rfl ?_
          refine G.front1 ?_
          refine G.front1 ?_
          refine G.less ?_ (d51 rest ho)
          exact ⟨rfl, rfl, rfl, rfl, trivial⟩
      have d44 : ∀ (l : List Nat), Ord armoirelaw15_ReadsMeet.ds2 7 [true, true, true, true, true, true, true, true, true, true, true, true, true, true, true, true, true, true, false, false, false, true, true, false, false, false, false] l → G C268 H8 [(2, .pointer (some ⟨g1, 0, none⟩)), (3, .pointer (some ⟨g3, 0, none⟩)), (24, .bool false), (28, undef), (29, undef)] (BK 24 K_api_Touch g3 a1 :: BK 24 K_api_Touch g1 a0 :: Fr) (.inRegion ops269 l :: k270) := by
        intro  l hl
        refine G.fork [18, 19] hl rfl (And.intro ?_ (And.intro ?_ trivial))
        · intro rest ho
          refine G.unwanted rfl rfl rfl rfl ?_
          refine G.front1 ?_
          refine G.front1 ?_
          refine G.less ?_ (d48 rest ho)
          exact ⟨rfl, rfl, rfl, rfl, rfl, trivial⟩
        · intro rest ho
          refine G.unwanted rfl rfl rfl rfl ?_
          refine G.front1 ?_
          refine G.front1 ?_
          refine G.less ?_ (d49 rest ho)
          exact ⟨rfl, rfl, rfl, rfl, rfl, trivial⟩
      have d43 : ∀ (l : List Nat), Ord armoirelaw15_ReadsMeet.ds2 7 [true, true, true, true, true, true, true, true, true, true, true, true, true, true, true, true, true, true, false, true, false, false, true, false, false, false, false] l → G C268 H8 [(3, .pointer (some ⟨g3, 0, none⟩)), (24, .bool false), (26, undef), (29, undef)] (BK 24 K_api_Touch g3 a1 :: BK 24 K_api_Touch g1 a0 :: Fr) (.inRegion ops269 l :: k270) := by
        intro  l hl
        refine G.fork [18, 21] hl rfl (And.intro ?_ (And.intro ?_ trivial))
        · intro rest ho
          refine G.unwanted rfl rfl rfl rfl ?_
          refine G.front1 ?_
          refine G.front1 ?_
          refine G.less ?_ (d47 rest ho)
          exact ⟨rfl, rfl, rfl, rfl, rfl, trivial⟩
        · intro rest ho
          refine G.unwanted rfl rfl rfl rfl ?_
          refine G.front1 ?_
          refine G.front1 ?_
          refine G.less ?_ (d49 rest ho)
          exact ⟨rfl, rfl, rfl, rfl, rfl, trivial⟩
      have d42 : ∀ (l : List Nat), Ord armoirelaw15_ReadsMeet.ds2 7 [true, true, true, true, true, true, true, true, true, true, true, true, true, true, true, true, true, true, false, true, false, true, false, false, false, false, false] l → G C268 H8 [(2, .pointer (some ⟨g1, 0, none⟩)), (3, .pointer (some ⟨g3, 0, none⟩)), (24, .bool false), (26, undef), (28, undef)] (BK 24 K_api_Touch g3 a1 :: BK 24 K_api_Touch g1 a0 :: Fr) (.inRegion ops269 l :: k270) := by
        intro  l hl
        refine G.fork [18, 22] hl rfl (And.intro ?_ (And.intro ?_ trivial))
        · intro rest ho
          refine G.unwanted rfl rfl rfl rfl ?_
          refine G.front1 ?_
          refine G.front1 ?_
          refine G.less ?_ (d46 rest ho)
          exact ⟨rfl, rfl, rfl, rfl, rfl, trivial⟩
        · intro rest ho
          refine G.unwanted rfl rfl rfl rfl ?_
          refine G.front1 ?_
          refine G.front1 ?_
          refine G.less ?_ (d49 rest ho)
          exact ⟨rfl, rfl, rfl, rfl, rfl, trivial⟩
      have d41 : ∀ (l : List Nat), Ord armoirelaw15_ReadsMeet.ds2 7 [true, true, true, true, true, true, true, true, true, true, true, true, true, true, true, true, true, true, true, false, false, false, true, false, false, false, false] l → G C268 H8 [(2, .pointer (some ⟨g1, 0, none⟩)), (3, .pointer (some ⟨g3, 0, none⟩)), (24, .bool false), (25, undef), (29, undef)] (BK 24 K_api_Touch g3 a1 :: BK 24 K_api_Touch g1 a0 :: Fr) (.inRegion ops269 l :: k270) := by
        intro  l hl
        refine G.fork [19, 21] hl rfl (And.intro ?_ (And.intro ?_ trivial))
        · intro rest ho
          refine G.unwanted rfl rfl rfl rfl ?_
          refine G.front1 ?_
          refine G.front1 ?_
          refine G.less ?_ (d47 rest ho)
          exact ⟨rfl, rfl, rfl, rfl, rfl, trivial⟩
        · intro rest ho
          refine G.unwanted rfl rfl rfl rfl ?_
          refine G.front1 ?_
          refine G.front1 ?_
          refine G.less ?_ (d48 rest ho)
          exact ⟨rfl, rfl, rfl, rfl, rfl, trivial⟩
      have d40 : ∀ (l : List Nat), Ord armoirelaw15_ReadsMeet.ds2 7 [true, true, true, true, true, true, true, true, true, true, true, true, true, true, true, true, true, true, true, false, false, true, false, false, false, false, false] l → G C268 H8 [(2, .pointer (some ⟨g1, 0, none⟩)), (24, .bool false), (25, undef), (28, undef)] (BK 24 K_api_Touch g3 a1 :: BK 24 K_api_Touch g1 a0 :: Fr) (.inRegion ops269 l :: k270) := by
        intro  l hl
        refine G.fork [19, 22] hl rfl (And.intro ?_ (And.intro ?_ trivial))
        · intro rest ho
          refine G.unwanted rfl rfl rfl rfl ?_
          refine G.front1 ?_
          refine G.front1 ?_
          refine G.less ?_ (d46 rest ho)
          exact ⟨rfl, rfl, rfl, rfl, rfl, trivial⟩
        · intro rest ho
          refine G.unwanted rfl rfl rfl rfl ?_
          refine G.front1 ?_
          refine G.front1 ?_
          refine G.less ?_ (d48 rest ho)
          exact ⟨rfl, rfl, rfl, rfl, rfl, trivial⟩
      have d39 : ∀ (l : List Nat), Ord armoirelaw15_ReadsMeet.ds2 7 [true, true, true, true, true, true, true, true, true, true, true, true, true, true, true, true, true, true, true, true, false, false, false, false, false, false, false] l → G C268 H8 [(2, .pointer (some ⟨g1, 0, none⟩)), (3, .pointer (some ⟨g3, 0, none⟩)), (24, .bool false), (25, undef), (26, undef)] (BK 24 K_api_Touch g3 a1 :: BK 24 K_api_Touch g1 a0 :: Fr) (.inRegion ops269 l :: k270) := by
        intro  l hl
        refine G.fork [20, 21, 22] hl rfl (And.intro ?_ (And.intro ?_ (And.intro ?_ trivial)))
        · intro rest ho
          refine G.unwanted rfl rfl rfl rfl ?_
          refine G.front1 ?_
          refine G.front1 ?_
          refine G.less ?_ (d45 rest ho)
          exact ⟨rfl, rfl, rfl, rfl, trivial⟩
        · intro rest ho
          refine G.unwanted rfl rfl rfl rfl ?_
          refine G.front1 ?_
          refine G.front1 ?_
          refine G.less ?_ (d46 rest ho)
          exact ⟨rfl, rfl, rfl, rfl, rfl, trivial⟩
        · intro rest ho
          refine G.unwanted rfl rfl rfl rfl ?_
          refine G.front1 ?_
          refine G.front1 ?_
          refine G.less ?_ (d47 rest ho)
          exact ⟨rfl, rfl, rfl, rfl, rfl, trivial⟩
      have d38 : ∀ (l : List Nat), Ord armoirelaw15_ReadsMeet.ds2 8 [true, true, true, true, true, true, true, true, true, true, true, true, true, true, true, true, true, true, false, false, false, false, true, false, false, false, false] l → G C268 H8 [(2, .pointer (some ⟨g1, 0, none⟩)), (3, .pointer (some ⟨g3, 0, none⟩)), (24, .bool false), (29, undef)] (BK 24 K_api_Touch g3 a1 :: BK 24 K_api_Touch g1 a0 :: Fr) (.inRegion ops269 l :: k270) := by
        intro  l hl
        refine G.fork [18, 19, 21] hl rfl (And.intro ?_ (And.intro ?_ (And.intro ?_ trivial)))
        · intro rest ho
          refine G.unwanted rfl rfl rfl rfl ?_
          refine G.front1 ?_
          refine G.front1 ?_
          refine G.less ?_ (d41 rest ho)
          exact ⟨rfl, rfl, rfl, rfl, rfl, trivial⟩
        · intro rest ho
          refine G.unwanted rfl rfl rfl rfl ?_
          refine G.front1 ?_
          refine G.front1 ?_
          refine G.less ?_ (d43 rest ho)
          exact ⟨rfl, rfl, rfl, rfl, trivial⟩
        · intro rest ho
          refine G.unwanted rfl rfl rfl rfl ?_
          refine G.front1 ?_
          refine G.front1 ?_
          refine G.less ?_ (d44 rest ho)
          exact ⟨rfl, rfl, rfl, rfl, rfl, trivial⟩
      have d37 : ∀ (l : List Nat), Ord armoirelaw15_ReadsMeet.ds2 8 [true, true, true, true, true, true, true, true, true, true, true, true, true, true, true, true, true, true, false, false, false, true, false, false, false, false, false] l → G C268 H8 [(2, .pointer (some ⟨g1, 0, none⟩)), (3, .pointer (some ⟨g3, 0, none⟩)), (24, .bool false), (28, undef)] (BK 24 K_api_Touch g3 a1 :: BK 24 K_api_Touch g1 a0 :: Fr) (.inRegion ops269 l :: k270) := by
        intro  l hl
        refine G.fork [18, 19, 22] hl rfl (And.intro ?_ (And.intro ?_ (And.intro ?_ trivial)))
        · intro rest ho
          refine G.unwanted rfl rfl rfl rfl ?_
          refine G.front1 ?_
          refine G.front1 ?_
          refine G.less ?_ (d40 rest ho)
          exact ⟨rfl, rfl, rfl, rfl, trivial⟩
        · intro rest ho
          refine G.unwanted rfl rfl rfl rfl ?_
          refine G.front1 ?_
          refine G.front1 ?_
          refine G.less ?_ (d42 rest ho)
          exact ⟨rfl, rfl, rfl, rfl, rfl, trivial⟩
        · intro rest ho
          refine G.unwanted rfl rfl rfl rfl ?_
          refine G.front1 ?_
          refine G.front1 ?_
          refine G.less ?_ (d44 rest ho)
          exact ⟨rfl, rfl, rfl, rfl, rfl, trivial⟩
      have d36 : ∀ (l : List Nat), Ord armoirelaw15_ReadsMeet.ds2 8 [true, true, true, true, true, true, true, true, true, true, true, true, true, true, true, true, true, true, false, true, false, false, false, false, false, false, false] l → G C268 H8 [(2, .pointer (some ⟨g1, 0, none⟩)), (3, .pointer (some ⟨g3, 0, none⟩)), (24, .bool false), (26, undef)] (BK 24 K_api_Touch g3 a1 :: BK 24 K_api_Touch g1 a0 :: Fr) (.inRegion ops269 l :: k270) := by
        intro  l hl
        refine G.fork [18, 21, 22] hl rfl (And.intro ?_ (And.intro ?_ (And.intro ?_ trivial)))
        · intro rest ho
          refine G.unwanted rfl rfl rfl rfl ?_
          refine G.front1 ?_
          refine G.front1 ?_
          refine G.less ?_ (d39 rest ho)
          exact ⟨rfl, rfl, rfl, rfl, rfl, trivial⟩
        · intro rest ho
          refine G.unwanted rfl rfl rfl rfl ?_
          refine G.front1 ?_
          refine G.front1 ?_
          refine G.less ?_ (d42 rest ho)
          exact ⟨rfl, rfl, rfl, rfl, rfl, trivial⟩
        · intro rest ho
          refine G.unwanted rfl rfl rfl rfl ?_
          refine G.front1 ?_
          refine G.front1 ?_
          refine G.less ?_ (d43 rest ho)
          exact ⟨rfl, rfl, rfl, rfl, trivial⟩
      have d35 : ∀ (l : List Nat), Ord armoirelaw15_ReadsMeet.ds2 8 [true, true, true, true, true, true, true, true, true, true, true, true, true, true, true, true, true, true, true, false, false, false, false, false, false, false, false] l → G C268 H8 [(2, .pointer (some ⟨g1, 0, none⟩)), (3, .pointer (some ⟨g3, 0, none⟩)), (24, .bool false), (25, undef)] (BK 24 K_api_Touch g3 a1 :: BK 24 K_api_Touch g1 a0 :: Fr) (.inRegion ops269 l :: k270) := by
        intro  l hl
        refine G.fork [19, 21, 22] hl rfl (And.intro ?_ (And.intro ?_ (And.intro ?_ trivial)))
        · intro rest ho
          refine G.unwanted rfl rfl rfl rfl ?_
          refine G.front1 ?_
          refine G.front1 ?_
          refine G.less ?_ (d39 rest ho)
          exact ⟨rfl, rfl, rfl, rfl, rfl, trivial⟩
        · intro rest ho
          refine G.unwanted rfl rfl rfl rfl ?_
          refine G.front1 ?_
          refine G.front1 ?_
          refine G.less ?_ (d40 rest ho)
          exact ⟨rfl, rfl, rfl, rfl, trivial⟩
        · intro rest ho
          refine G.unwanted rfl rfl rfl rfl ?_
          refine G.front1 ?_
          refine G.front1 ?_
          refine G.less ?_ (d41 rest ho)
          exact ⟨rfl, rfl, rfl, rfl, rfl, trivial⟩
      have d34 : ∀ (l : List Nat), Ord armoirelaw15_ReadsMeet.ds2 9 [true, true, true, true, true, true, true, true, true, true, true, true, true, true, true, true, true, true, false, false, false, false, false, false, false, false, false] l → G C268 H8 [(2, .pointer (some ⟨g1, 0, none⟩)), (3, .pointer (some ⟨g3, 0, none⟩)), (24, .bool false)] (BK 24 K_api_Touch g3 a1 :: BK 24 K_api_Touch g1 a0 :: Fr) (.inRegion ops269 l :: k270) := by
        intro  l hl
        refine G.fork [18, 19, 21, 22] hl rfl (And.intro ?_ (And.intro ?_ (And.intro ?_ (And.intro ?_ trivial))))
        · intro rest ho
          refine G.unwanted rfl rfl rfl rfl ?_
          refine G.front1 ?_
          refine G.front1 ?_
          refine G.less ?_ (d35 rest ho)
          exact ⟨rfl, rfl, rfl, rfl, trivial⟩
        · intro rest ho
          refine G.unwanted rfl rfl rfl rfl ?_
          refine G.front1 ?_
          refine G.front1 ?_
          refine G.less ?_ (d36 rest ho)
          exact ⟨rfl, rfl, rfl, rfl, trivial⟩
        · intro rest ho
          refine G.unwanted rfl rfl rfl rfl ?_
          refine G.front1 ?_
          refine G.front1 ?_
          refine G.less ?_ (d37 rest ho)
          exact ⟨rfl, rfl, rfl, rfl, trivial⟩
        · intro rest ho
          refine G.unwanted rfl rfl rfl rfl ?_
          refine G.front1 ?_
          refine G.front1 ?_
          refine G.less ?_ (d38 rest ho)
          exact ⟨rfl, rfl, rfl, rfl, trivial⟩
      have d33 : ∀ (l : List Nat), Ord armoirelaw15_ReadsMeet.ds2 10 [true, true, true, true, true, true, true, true, true, true, true, true, true, true, true, true, true, false, false, false, false, false, false, false, false, false, false] l → G C268 H8 [(2, .pointer (some ⟨g1, 0, none⟩)), (3, .pointer (some ⟨g3, 0, none⟩)), (23, .bool false)] (BK 24 K_api_Touch g3 a1 :: BK 24 K_api_Touch g1 a0 :: Fr) (.inRegion ops269 l :: k270) := by
        intro  l hl
        refine G.fork [17] hl rfl (And.intro ?_ trivial)
        · intro rest ho
          refine G.move rfl rfl rfl rfl ?_
          refine G.front1 ?_
          refine G.front1 ?_
          refine G.less ?_ (d34 rest ho)
          exact ⟨rfl, rfl, rfl, trivial⟩
      have d32 : ∀ (l : List Nat), Ord armoirelaw15_ReadsMeet.ds2 11 [true, true, true, true, true, true, true, true, true, true, true, true, true, true, true, true, false, false, false, false, false, false, false, false, false, false, false] l → G C268 H8 [(2, .pointer (some ⟨g1, 0, none⟩)), (3, .pointer (some ⟨g3, 0, none⟩)), (15, .bool false), (22, undef)] (BK 24 K_api_Touch g3 a1 :: BK 24 K_api_Touch g1 a0 :: Fr) (.inRegion ops269 l :: k270) := by
        intro  l hl
        refine G.fork [16] hl rfl (And.intro ?_ trivial)
        · intro rest ho
          refine G.pickF rfl rfl rfl rfl rfl ?_
          refine G.front1 ?_
          refine G.front1 ?_
          refine G.less ?_ (d33 rest ho)
          exact ⟨rfl, rfl, rfl, trivial⟩
      have d31 : ∀ (l : List Nat), Ord armoirelaw15_ReadsMeet.ds2 12 [true, true, true, true, true, true, true, true, true, true, true, true, true, true, true, false, false, false, false, false, false, false, false, false, false, false, false] l → G C268 H8 [(2, .pointer (some ⟨g1, 0, none⟩)), (3, .pointer (some ⟨g3, 0, none⟩)), (15, .bool false), (18, undef), (21, undef)] (BK 24 K_api_Touch g3 a1 :: BK 24 K_api_Touch g1 a0 :: Fr) (.inRegion ops269 l :: k270) := by
        intro  l hl
        refine G.fork [15] hl rfl (And.intro ?_ trivial)
        · intro rest ho
          refine G.unwanted rfl rfl rfl rfl ?_
          refine G.front1 ?_
          refine G.front1 ?_
          refine G.less ?_ (d32 rest ho)
          exact ⟨rfl, rfl, rfl, rfl, trivial⟩
      have d30 : ∀ (l : List Nat), Ord armoirelaw15_ReadsMeet.ds2 13 [true, true, true, true, true, true, true, true, true, true, true, true, true, true, false, false, false, false, false, false, false, false, false, false, false, false, false] l → G C268 H8 [(2, .pointer (some ⟨g1, 0, none⟩)), (3, .pointer (some ⟨g3, 0, none⟩)), (15, .bool false), (18, undef), (19, undef), (20, undef)] (BK 24 K_api_Touch g3 a1 :: BK 24 K_api_Touch g1 a0 :: Fr) (.inRegion ops269 l :: k270) := by
        intro  l hl
        refine G.fork [14] hl rfl (And.intro ?_ trivial)
        · intro rest ho
          refine G.unwanted rfl rfl rfl rfl ?_
          refine G.front1 ?_
          refine G.front1 ?_
          refine G.less ?_ (d31 rest ho)
          exact ⟨rfl, rfl, rfl, rfl, rfl, trivial⟩
      have d29 : ∀ (l : List Nat), Ord armoirelaw15_ReadsMeet.ds2 14 [true, true, true, true, true, true, true, true, true, true, true, false, true, true, false, false, false, false, false, false, false, false, false, false, false, false, false] l → G C268 H8 [(2, .pointer (some ⟨g1, 0, none⟩)), (3, .pointer (some ⟨g3, 0, none⟩)), (15, .bool false), (16, undef), (17, undef), (19, undef), (20, undef)] (BK 24 K_api_Touch g3 a1 :: BK 24 K_api_Touch g1 a0 :: Fr) (.inRegion ops269 l :: k270) := by
        intro  l hl
        refine G.fork [11] hl rfl (And.intro ?_ trivial)
        · intro rest ho
          refine G.unwanted rfl rfl rfl rfl ?_
          refine G.front1 ?_
          refine G.front1 ?_
          refine G.less ?_ (d30 rest ho)
          exact ⟨rfl, rfl, rfl, rfl, rfl, rfl, trivial⟩
      have d28 : ∀ (l : List Nat), Ord armoirelaw15_ReadsMeet.ds2 14 [true, true, true, true, true, true, true, true, true, true, true, true, false, true, false, false, false, false, false, false, false, false, false, false, false, false, false] l → G C268 H8 [(2, .pointer (some ⟨g1, 0, none⟩)), (3, .pointer (some ⟨g3, 0, none⟩)), (15, .bool false), (18, undef), (20, undef)] (BK 24 K_api_Touch g3 a1 :: BK 24 K_api_Touch g1 a0 :: Fr) (.inRegion ops269 l :: k270) := by
        intro  l hl
        refine G.fork [12] hl rfl (And.intro ?_ trivial)
        · intro rest ho
          refine G.unwanted rfl rfl rfl rfl ?_
          refine G.front1 ?_
          refine G.front1 ?_
          refine G.less ?_ (d30 rest ho)
          exact ⟨rfl, rfl, rfl, rfl, rfl, rfl, trivial⟩
      have d27 : ∀ (l : List Nat), Ord armoirelaw15_ReadsMeet.ds2 14 [true, true, true, true, true, true, true, true, true, true, true, true, true, false, false, false, false, false, false, false, false, false, false, false, false, false, false] l → G C268 H8 [(2, .pointer (some ⟨g1, 0, none⟩)), (3, .pointer (some ⟨g3, 0, none⟩)), (15, .bool false), (18, undef), (19, undef)] (BK 24 K_api_Touch g3 a1 :: BK 24 K_api_Touch g1 a0 :: Fr) (.inRegion ops269 l :: k270) := by
        intro  l hl
        refine G.fork [13] hl rfl (And.intro ?_ trivial)
        · intro rest ho
          refine G.unwanted rfl rfl rfl rfl ?_
          refine G.front1 ?_
          refine G.front1 ?_
          refine G.less ?_ (d30 rest ho)
          exact ⟨rfl, rfl, rfl, rfl, rfl, rfl, trivial⟩
      have d26 : ∀ (l : List Nat), Ord armoirelaw15_ReadsMeet.ds2 15 [true, true, true, true, true, true, true, true, true, false, true, false, true, true, false, false, false, false, false, false, false, false, false, false, false, false, false] l → G C268 H8 [(2, .pointer (some ⟨g1, 0, none⟩)), (3, .pointer (some ⟨g3, 0, none⟩)), (15, .bool false), (17, undef), (19, undef), (20, undef)] (BK 24 K_api_Touch g3 a1 :: BK 24 K_api_Touch g1 a0 :: Fr) (.inRegion ops269 l :: k270) := by
        intro  l hl
        refine G.fork [9] hl rfl (And.intro ?_ trivial)
        · intro rest ho
          refine G.unwanted rfl rfl rfl rfl ?_
          refine G.front1 ?_
          refine G.front1 ?_
          refine G.less ?_ (d29 rest ho)
          exact ⟨rfl, rfl, rfl, rfl, rfl, rfl, rfl, trivial⟩
      have d25 : ∀ (l : List Nat), Ord armoirelaw15_ReadsMeet.ds2 15 [true, true, true, true, true, true, true, true, true, true, false, false, true, true, false, false, false, false, false, false, false, false, false, false, false, false, false] l → G C268 H8 [(2, .pointer (some ⟨g1, 0, none⟩)), (3, .pointer (some ⟨g3, 0, none⟩)), (15, .bool false), (16, undef), (19, undef), (20, undef)] (BK 24 K_api_Touch g3 a1 :: BK 24 K_api_Touch g1 a0 :: Fr) (.inRegion ops269 l :: k270) := by
        intro  l hl
        refine G.fork [10] hl rfl (And.intro ?_ trivial)
        · intro rest ho
          refine G.unwanted rfl rfl rfl rfl ?_
          refine G.front1 ?_
          refine G.front1 ?_
          refine G.less ?_ (d29 rest ho)
          exact ⟨rfl, rfl, rfl, rfl, rfl, rfl, rfl, trivial⟩
      have d24 : ∀ (l : List Nat), Ord armoirelaw15_ReadsMeet.ds2 15 [true, true, true, true, true, true, true, true, true, true, true, false, false, true, false, false, false, false, false, false, false, false, false, false, false, false, false] l → G C268 H8 [(2, .pointer (some ⟨g1, 0, none⟩)), (3, .pointer (some ⟨g3, 0, none⟩)), (15, .bool false), (16, undef), (17, undef), (20, undef)] (BK 24 K_api_Touch g3 a1 :: BK 24 K_api_Touch g1 a0 :: Fr) (.inRegion ops269 l :: k270) := by
        intro  l hl
        refine G.fork [11, 12] hl rfl (And.intro ?_ (And.intro ?_ trivial))
        · intro rest ho
          refine G.unwanted rfl rfl rfl rfl ?_
          refine G.front1 ?_
          refine G.front1 ?_
          refine G.less ?_ (d28 rest ho)
          exact ⟨rfl, rfl, rfl, rfl, rfl, trivial⟩
        · intro rest ho
          refine G.unwanted rfl rfl rfl rfl ?_
          refine G.front1 ?_
          refine G.front1 ?_
          refine G.less ?_ (d29 rest ho)
          exact ⟨rfl, rfl, rfl, rfl, rfl, rfl, rfl, trivial⟩
      have d23 : ∀ (l : List Nat), Ord armoirelaw15_ReadsMeet.ds2 15 [true, true, true, true, true, true, true, true, true, true, true, false, true, false, false, false, false, false, false, false, false, false, false, false, false, false, false] l → G C268 H8 [(2, .pointer (some ⟨g1, 0, none⟩)), (3, .pointer (some ⟨g3, 0, none⟩)), (15, .bool false), (16, undef), (17, undef), (19, undef)] (BK 24 K_api_Touch g3 a1 :: BK 24 K_api_Touch g1 a0 :: Fr) (.inRegion ops269 l :: k270) := by
        intro  l hl
        refine G.fork [11, 13] hl rfl (And.intro ?_ (And.intro ?_ trivial))
        · intro rest ho
          refine G.unwanted rfl rfl rfl rfl ?_
          refine G.front1 ?_
          refine G.front1 ?_
          refine G.less ?_ (d27 rest ho)
          exact ⟨rfl, rfl, rfl, rfl, rfl, trivial⟩
        · intro rest ho
          refine G.unwanted rfl rfl rfl rfl ?_
          refine G.front1 ?_
          refine G.front1 ?_
          refine G.less ?_ (d29 rest ho)
          exact ⟨rfl, rfl, rfl, rfl, rfl, rfl, rfl, trivial⟩
      have d22 : ∀ (l : List Nat), Ord armoirelaw15_ReadsMeet.ds2 15 [true, true, true, true, true, true, true, true, true, true, true, true, false, false, false, false, false, false, false, false, false, false, false, false, false, false, false] l → G C268 H8 [(2, .pointer (some ⟨g1, 0, none⟩)), (3, .pointer (some ⟨g3, 0, none⟩)), (15, .bool false), (18, undef)] (BK 24 K_api_Touch g3 a1 :: BK 24 K_api_Touch g1 a0 :: Fr) (.inRegion ops269 l :: k270) := by
        intro  l hl
        refine G.fork [12, 13] hl rfl (And.intro ?_ (And.intro ?_ trivial))
        · intro rest ho
          refine G.unwanted rfl rfl rfl rfl ?_
          refine G.front1 ?_
          refine G.front1 ?_
          refine G.less ?_ (d27 rest ho)
          exact ⟨rfl, rfl, rfl, rfl, rfl, trivial⟩
        · intro rest ho
          refine G.unwanted rfl rfl rfl rfl ?_
          refine G.front1 ?_
          refine G.front1 ?_
          refine G.less ?_ (d28 rest ho)
          exact ⟨rfl, rfl, rfl, rfl, rfl, trivial⟩
      have d21 : ∀ (l : List Nat), Ord armoirelaw15_ReadsMeet.ds2 16 [true, true, true, true, true, true, true, true, true, false, false, false, true, true, false, false, false, false, false, false, false, false, false, false, false, false, false] l → G C268 H8 [(2, .pointer (some ⟨g1, 0, none⟩)), (3, .pointer (some ⟨g3, 0, none⟩)), (15, .bool false), (19, undef), (20, undef)] (BK 24 K_api_Touch g3 a1 :: BK 24 K_api_Touch g1 a0 :: Fr) (.inRegion ops269 l :: k270) := by
        intro  l hl
        refine G.fork [9, 10] hl rfl (And.intro ?_ (And.intro ?_ trivial))
        · intro rest ho
          refine G.unwanted rfl rfl rfl rfl ?_
          refine G.front1 ?_
          refine G.front1 ?_
          refine G.less ?_ (d25 rest ho)
          exact ⟨rfl, rfl, rfl, rfl, rfl, rfl, trivial⟩
        · intro rest ho
          refine G.unwanted rfl rfl rfl rfl ?_
          refine G.front1 ?_
          refine G.front1 ?_
          refine G.less ?_ (d26 rest ho)
          exact ⟨rfl, rfl, rfl, rfl, rfl, rfl, trivial⟩
      have d20 : ∀ (l : List Nat), Ord armoirelaw15_ReadsMeet.ds2 16 [true, true, true, true, true, true, true, true, true, false, true, false, false, true, false, false, false, false, false, false, false, false, false, false, false, false, false] l → G C268 H8 [(2, .pointer (some ⟨g1, 0, none⟩)), (3, .pointer (some ⟨g3, 0, none⟩)), (15, .bool false), (17, undef), (20, undef)] (BK 24 K_api_Touch g3 a1 :: BK 24 K_api_Touch g1 a0 :: Fr) (.inRegion ops269 l :: k270) := by
        intro  l hl
        refine G.fork [9, 12] hl rfl (And.intro ?_ (And.intro ?_ trivial))
        · intro rest ho
          refine G.unwanted rfl rfl rfl rfl ?_
          refine G.front1 ?_
          refine G.front1 ?_
          refine G.less ?_ (d24 rest ho)
          exact ⟨rfl, rfl, rfl, rfl, rfl, rfl, trivial⟩
        · intro rest ho
          refine G.unwanted rfl rfl rfl rfl ?_
          refine G.front1 ?_
          refine G.front1 ?_
          refine G.less ?_ (d26 rest ho)
          exact ⟨rfl, rfl, rfl, rfl, rfl, rfl, trivial⟩
      have d19 : ∀ (l : List Nat), Ord armoirelaw15_ReadsMeet.ds2 16 [true, true, true, true, true, true, true, true, true, false, true, false, true, false, false, false, false, false, false, false, false, false, false, false, false, false, false] l → G C268 H8 [(2, .pointer (some ⟨g1, 0, none⟩)), (3, .pointer (some ⟨g3, 0, none⟩)), (15, .bool false), (17, undef), (19, undef)] (BK 24 K_api_Touch g3 a1 :: BK 24 K_api_Touch g1 a0 :: Fr) (.inRegion ops269 l :: k270) := by
        intro  l hl
        refine G.fork [9, 13] hl rfl (And.intro ?_ (And.intro ?_ trivial))
        · intro rest ho
          refine G.unwanted rfl rfl rfl rfl ?_
          refine G.front1 ?_
          refine G.front1 ?_
          refine G.less ?_ (d23 rest ho)
          exact ⟨rfl, rfl, rfl, rfl, rfl, rfl, trivial⟩
        · intro rest ho
          refine G.unwanted rfl rfl rfl rfl ?_
          refine G.front1 ?_
          refine G.front1 ?_
          refine G.less ?_ (d26 rest ho)
          exact ⟨rfl, rfl, rfl, rfl, rfl, rfl, trivial⟩
      have d18 : ∀ (l : List Nat), Ord armoirelaw15_ReadsMeet.ds2 16 [true, true, true, true, true, true, true, true, true, true, false, false, false, true, false, false, false, false, false, false, false, false, false, false, false, false, false] l → G C268 H8 [(2, .pointer (some ⟨g1, 0, none⟩)), (3, .pointer (some ⟨g3, 0, none⟩)), (15, .bool false), (16, undef), (20, undef)] (BK 24 K_api_Touch g3 a1 :: BK 24 K_api_Touch g1 a0 :: Fr) (.inRegion ops269 l :: k270) := by
        intro  l hl
        refine G.fork [10, 12] hl rfl (And.intro ?_ (And.intro ?_ trivial))
        · intro rest ho
          refine G.unwanted rfl rfl rfl rfl ?_
          refine G.front1 ?_
          refine G.front1 ?_
          refine G.less ?_ (d24 rest ho)
          exact ⟨rfl, rfl, rfl, rfl, rfl, rfl, trivial⟩
        · intro rest ho
          refine G.unwanted rfl rfl rfl rfl ?_
          refine G.front1 ?_
          refine G.front1 ?_
          refine G.less ?_ (d25 rest ho)
          exact ⟨rfl, rfl, rfl, rfl, rfl, rfl, trivial⟩
      have d17 : ∀ (l : List Nat), Ord armoirelaw15_ReadsMeet.ds2 16 [true, true, true, true, true, true, true, true, true, true, false, false, true, false, false, false, false, false, false, false, false, false, false, false, false, false, false] l → G C268 H8 [(2, .pointer (some ⟨g1, 0, none⟩)), (3, .pointer (some ⟨g3, 0, none⟩)), (15, .bool false), (16, undef), (19, undef)] (BK 24 K_api_Touch g3 a1 :: BK 24 K_api_Touch g1 a0 :: Fr) (.inRegion ops269 l :: k270) := by
        intro  l hl
        refine G.fork [10, 13] hl rfl (And.intro ?_ (And.intro ?_ trivial))
        · intro rest ho
          refine G.unwanted rfl rfl rfl rfl ?_
          refine G.front1 ?_
          refine G.front1 ?_
          refine G.less ?_ (d23 rest ho)
          exact ⟨rfl, rfl, rfl, rfl, rfl, rfl, trivial⟩
        · intro rest ho
          refine G.unwanted rfl rfl rfl rfl ?_
          refine G.front1 ?_
          refine G.front1 ?_
          refine G.less ?_ (d25 rest ho)
          exact ⟨rfl, rfl, rfl, rfl, rfl, rfl, trivial⟩
      have d16 : ∀ (l : List Nat), Ord armoirelaw15_ReadsMeet.ds2 16 [true, true, true, true, true, true, true, true, true, true, true, false, false, false, false, false, false, false, false, false, false, false, false, false, false, false, false] l → G C268 H8 [(2, .pointer (some ⟨g1, 0, none⟩)), (3, .pointer (some ⟨g3, 0, none⟩)), (15, .bool false), (16, undef), (17, undef)] (BK 24 K_api_Touch g3 a1 :: BK 24 K_api_Touch g1 a0 :: Fr) (.inRegion ops269 l :: k270) := by
        intro  l hl
        refine G.fork [11, 12, 13] hl rfl (And.intro ?_ (And.intro ?_ (And.intro ?_ trivial)))
        · intro rest ho
          refine G.unwanted rfl rfl rfl rfl ?_
          refine G.front1 ?_
          refine G.front1 ?_
          refine G.less ?_ (d22 rest ho)
          exact ⟨rfl, rfl, rfl, rfl, trivial⟩
        · intro rest ho
          refine G.unwanted rfl rfl rfl rfl ?_
          refine G.front1 ?_
          refine G.front1 ?_
          refine G.less ?_ (d23 rest ho)
          exact ⟨rfl, rfl, rfl, rfl, rfl, rfl, trivial⟩
        · intro rest ho
          refine G.unwanted rfl rfl rfl rfl ?_
          refine G.front1 ?_
          refine G.front1 ?_
          refine G.less ?_ (d24 rest ho)
          exact ⟨rfl, rfl, rfl, rfl, rfl, rfl, trivial⟩
      have d15 : ∀ (l : List Nat), Ord armoirelaw15_ReadsMeet.ds2 17 [true, true, true, true, true, true, true, true, true, false, false, false, false, true, false, false, false, false, false, false, false, false, false, false, false, false, false] l → G C268 H8 [(2, .pointer (some ⟨g1, 0, none⟩)), (3, .pointer (some ⟨g3, 0, none⟩)), (15, .bool false), (20, undef)] (BK 24 K_api_Touch g3 a1 :: BK 24 K_api_Touch g1 a0 :: Fr) (.inRegion ops269 l :: k270) := by
        intro  l hl
        refine G.fork [9, 10, 12] hl rfl (And.intro ?_ (And.intro ?_ (And.intro ?_ trivial)))
        · intro rest ho
          refine G.unwanted rfl rfl rfl rfl ?_
          refine G.front1 ?_
          refine G.front1 ?_
          refine G.less ?_ (d18 rest ho)
          exact ⟨rfl, rfl, rfl, rfl, rfl, trivial⟩
        · intro rest ho
          refine G.unwanted rfl rfl rfl rfl ?_
          refine G.front1 ?_
          refine G.front1 ?_
          refine G.less ?_ (d20 rest ho)
          exact ⟨rfl, rfl, rfl, rfl, rfl, trivial⟩
        · intro rest ho
          refine G.unwanted rfl rfl rfl rfl ?_
          refine G.front1 ?_
          refine G.front1 ?_
          refine G.less ?_ (d21 rest ho)
          exact ⟨rfl, rfl, rfl, rfl, rfl, trivial⟩
      have d14 : ∀ (l : List Nat), Ord armoirelaw15_ReadsMeet.ds2 17 [true, true, true, true, true, true, true, true, true, false, false, false, true, false, false, false, false, false, false, false, false, false, false, false, false, false, false] l → G C268 H8 [(2, .pointer (some ⟨g1, 0, none⟩)), (3, .pointer (some ⟨g3, 0, none⟩)), (15, .bool false), (19, undef)] (BK 24 K_api_Touch g3 a1 :: BK 24 K_api_Touch g1 a0 :: Fr) (.inRegion ops269 l :: k270) := by
        intro  l hl
        refine G.fork [9, 10, 13] hl rfl (And.intro ?_ (And.intro ?_ (And.intro ?_ trivial)))
        · intro rest ho
          refine G.unwanted rfl rfl rfl rfl ?_
          refine G.front1 ?_
          refine G.front1 ?_
          refine G.less ?_ (d17 rest ho)
          exact ⟨rfl, rfl, rfl, rfl, rfl, trivial⟩
        · intro rest ho
          refine G.unwanted rfl rfl rfl rfl ?_
          refine G.front1 ?_
          refine G.front1 ?_
          refine G.less ?_ (d19 rest ho)
          exact ⟨rfl, rfl, rfl, rfl, rfl, trivial⟩
        · intro rest ho
          refine G.unwanted rfl rfl rfl rfl ?_
          refine G.front1 ?_
          refine G.front1 ?_
          refine G.less ?_ (d21 rest ho)
          exact ⟨rfl, rfl, rfl, rfl, rfl, trivial⟩
      have d13 : ∀ (l : List Nat), Ord armoirelaw15_ReadsMeet.ds2 17 [true, true, true, true, true, true, true, true, true, false, true, false, false, false, false, false, false, false, false, false, false, false, false, false, false, false, false] l → G C268 H8 [(2, .pointer (some ⟨g1, 0, none⟩)), (3, .pointer (some ⟨g3, 0, none⟩)), (15, .bool false), (17, undef)] (BK 24 K_api_Touch g3 a1 :: BK 24 K_api_Touch g1 a0 :: Fr) (.inRegion ops269 l :: k270) := by
        intro  l hl
        refine G.fork [9, 12, 13] hl rfl (And.intro ?_ (And.intro ?_ (And.intro ?_ trivial)))
        · intro rest ho
          refine G.unwanted rfl rfl rfl rfl ?_
          refine G.front1 ?_
          refine G.front1 ?_
          refine G.less ?_ (d16 rest ho)
          exact ⟨rfl, rfl, rfl, rfl, rfl, trivial⟩
        · intro rest ho
          refine G.unwanted rfl rfl rfl rfl ?_
          refine G.front1 ?_
          refine G.front1 ?_
          refine G.less ?_ (d19 rest ho)
          exact ⟨rfl, rfl, rfl, rfl, rfl, trivial⟩
        · intro rest ho
          refine G.unwanted rfl rfl rfl rfl ?_
          refine G.front1 ?_
          refine G.front1 ?_
          refine G.less ?_ (d20 rest ho)
          exact ⟨rfl, rfl, rfl, rfl, rfl, trivial⟩
      have d12 : ∀ (l : List Nat), Ord armoirelaw15_ReadsMeet.ds2 17 [true, true, true, true, true, true, true, true, true, true, false, false, false, false, false, false, false, false, false, false, false, false, false, false, false, false, false] l → G C268 H8 [(2, .pointer (some ⟨g1, 0, none⟩)), (3, .pointer (some ⟨g3, 0, none⟩)), (15, .bool false), (16, undef)] (BK 24 K_api_Touch g3 a1 :: BK 24 K_api_Touch g1 a0 :: Fr) (.inRegion ops269 l :: k270) := by
        intro  l hl
        refine G.fork [10, 12, 13] hl rfl (And.intro ?_ (And.intro ?_ (And.intro ?_ trivial)))
        · intro rest ho
          refine G.unwanted rfl rfl rfl rfl ?_
          refine G.front1 ?_
          refine G.front1 ?_
          refine G.less ?_ (d16 rest ho)
          exact ⟨rfl, rfl, rfl, rfl, rfl, trivial⟩
        · intro rest ho
          refine G.unwanted rfl rfl rfl rfl ?_
          refine G.front1 ?_
          refine G.front1 ?_
          refine G.less ?_ (d17 rest ho)
          exact ⟨rfl, rfl, rfl, rfl, rfl, trivial⟩
        · intro rest ho
          refine G.unwanted rfl rfl rfl rfl ?_
          refine G.front1 ?_
          refine G.front1 ?_
          refine G.less ?_ (d18 rest ho)
          exact ⟨rfl, rfl, rfl, rfl, rfl, trivial⟩
      have d11 : ∀ (l : List Nat), Ord armoirelaw15_ReadsMeet.ds2 18 [true, true, true, true, true, true, true, true, true, false, false, false, false, false, false, false, false, false, false, false, false, false, false, false, false, false, false] l → G C268 H8 [(2, .pointer (some ⟨g1, 0, none⟩)), (3, .pointer (some ⟨g3, 0, none⟩)), (15, .bool false)] (BK 24 K_api_Touch g3 a1 :: BK 24 K_api_Touch g1 a0 :: Fr) (.inRegion ops269 l :: k270) := by
        intro  l hl
        refine G.fork [9, 10, 12, 13] hl rfl (And.intro ?_ (And.intro ?_ (And.intro ?_ (And.intro ?_ trivial))))
        · intro rest ho
          refine G.unwanted rfl rfl rfl rfl ?_
          refine G.front1 ?_
          refine G.front1 ?_
          refine G.less ?_ (d12 rest ho)
          exact ⟨rfl, rfl, rfl, rfl, trivial⟩
        · intro rest ho
          refine G.unwanted rfl rfl rfl rfl ?_
          refine G.front1 ?_
          refine G.front1 ?_
          refine G.less ?_ (d13 rest ho)
          exact ⟨rfl, rfl, rfl, rfl, trivial⟩
        · intro rest ho
          refine G.unwanted rfl rfl rfl rfl ?_
          refine G.front1 ?_
          refine G.front1 ?_
          refine G.less ?_ (d14 rest ho)
          exact ⟨rfl, rfl, rfl, rfl, trivial⟩
        · intro rest ho
          refine G.unwanted rfl rfl rfl rfl ?_
          refine G.front1 ?_
          refine G.front1 ?_
          refine G.less ?_ (d15 rest ho)
          exact ⟨rfl, rfl, rfl, rfl, trivial⟩
      have d10 : ∀ (l : List Nat), Ord armoirelaw15_ReadsMeet.ds2 19 [true, true, true, true, true, true, true, true, false, false, false, false, false, false, false, false, false, false, false, false, false, false, false, false, false, false, false] l → G C268 H8 [(2, .pointer (some ⟨g1, 0, none⟩)), (3, .pointer (some ⟨g3, 0, none⟩)), (14, .bool (decide (t141 = t147)))] (BK 24 K_api_Touch g3 a1 :: BK 24 K_api_Touch g1 a0 :: Fr) (.inRegion ops269 l :: k270) := by
        intro  l hl
        refine G.fork [8] hl rfl (And.intro ?_ trivial)
        · intro rest ho
          refine G.move rfl rfl rfl rfl ?_
          refine G.same (d := 15) (v := .bool false) rfl (by simp [k151]) ?_
          refine G.front1 ?_
          refine G.front1 ?_
          refine G.less ?_ (d11 rest ho)
          exact ⟨rfl, rfl, rfl, trivial⟩
      have d9 : ∀ (l : List Nat), Ord armoirelaw15_ReadsMeet.ds2 20 [true, true, true, true, true, true, true, false, false, false, false, false, false, false, false, false, false, false, false, false, false, false, false, false, false, false, false] l → G C268 H8 [(2, .pointer (some ⟨g1, 0, none⟩)), (3, .pointer (some ⟨g3, 0, none⟩)), (8, .bool true), (13, .bool (decide (t141 = t147)))] (BK 24 K_api_Touch g3 a1 :: BK 24 K_api_Touch g1 a0 :: Fr) (.inRegion ops269 l :: k270) := by
        intro  l hl
        refine G.fork [7] hl rfl (And.intro ?_ trivial)
        · intro rest ho
          refine G.pickT rfl rfl rfl rfl rfl ?_
          refine G.front1 ?_
          refine G.front1 ?_
          refine G.less ?_ (d10 rest ho)
          exact ⟨rfl, rfl, rfl, trivial⟩
      have d8 : ∀ (l : List Nat), Ord armoirelaw15_ReadsMeet.ds2 21 [true, true, true, true, true, true, false, false, false, false, false, false, false, false, false, false, false, false, false, false, false, false, false, false, false, false, false] l → G C268 H8 [(2, .pointer (some ⟨g1, 0, none⟩)), (3, .pointer (some ⟨g3, 0, none⟩)), (8, .bool true), (10, .int .i64 t141), (12, .int .i64 t147)] (BK 24 K_api_Touch g3 a1 :: BK 24 K_api_Touch g1 a0 :: Fr) (.inRegion ops269 l :: k270) := by
        intro  l hl
        refine G.fork [6] hl rfl (And.intro ?_ trivial)
        · intro rest ho
          refine G.cmp (t141 = t147) rfl rfl rfl rfl rfl rfl Iff.rfl ?_
          refine G.front1 ?_
          refine G.front1 ?_
          refine G.less ?_ (d9 rest ho)
          exact ⟨rfl, rfl, rfl, rfl, trivial⟩
      have d7 : ∀ (cs145 : List Value) (f146 : K_api_Touch.R H8 a0 cs145) (l : List Nat), Ord armoirelaw15_ReadsMeet.ds2 22 [true, true, true, true, true, false, false, false, false, false, false, false, false, false, false, false, false, false, false, false, false, false, false, false, false, false, false] l → G C268 H8 [(2, .pointer (some ⟨g1, 0, none⟩)), (3, .pointer (some ⟨g3, 0, none⟩)), (8, .bool true), (10, .int .i64 t141), (11, .agg cs145.toArray)] (BK 24 K_api_Touch g3 a1 :: BK 24 K_api_Touch g1 a0 :: Fr) (.inRegion ops269 l :: k270) := by
        intro cs145 f146 l hl
        refine G.fork [5] hl rfl (And.intro ?_ trivial)
        · intro rest ho
          refine G.callB rfl rfl rfl rfl call11 (fun w hs => armoireref15_Check.ok cs145 a0 (K_api_Touch.mono hs.ro f146) e148) (by rintro v H' L' ⟨rfl, rfl⟩; exact Free.nil) ?_
          rintro v149 L150 ⟨_, rfl, rfl⟩
          refine G.front1 ?_
          refine G.front1 ?_
          refine G.less ?_ (d8 rest ho)
          exact ⟨rfl, rfl, rfl, rfl, rfl, trivial⟩
      have d6 : ∀ (cs139 : List Value) (f140 : K_api_Touch.R H8 a0 cs139) (cs145 : List Value) (f146 : K_api_Touch.R H8 a0 cs145) (l : List Nat), Ord armoirelaw15_ReadsMeet.ds2 23 [true, true, true, false, true, false, false, false, false, false, false, false, false, false, false, false, false, false, false, false, false, false, false, false, false, false, false] l → G C268 H8 [(2, .pointer (some ⟨g1, 0, none⟩)), (3, .pointer (some ⟨g3, 0, none⟩)), (8, .bool true), (9, .agg cs139.toArray), (11, .agg cs145.toArray)] (BK 24 K_api_Touch g3 a1 :: BK 24 K_api_Touch g1 a0 :: Fr) (.inRegion ops269 l :: k270) := by
        intro cs139 f140 cs145 f146 l hl
        refine G.fork [3] hl rfl (And.intro ?_ trivial)
        · intro rest ho
          refine G.callB rfl rfl rfl rfl call10 (fun w hs => reads_Check.ok cs139 a0 (K_api_Touch.mono hs.ro f140) e142) (by rintro v H' L' ⟨rfl, rfl⟩; exact Free.nil) ?_
          rintro v143 L144 ⟨_, rfl, rfl⟩
          refine G.front1 ?_
          refine G.front1 ?_
          refine G.less ?_ (d7 cs145 f146 rest ho)
          exact ⟨rfl, rfl, rfl, rfl, rfl, trivial⟩
      have d5 : ∀ (l : List Nat), Ord armoirelaw15_ReadsMeet.ds2 23 [true, true, true, true, false, false, false, false, false, false, false, false, false, false, false, false, false, false, false, false, false, false, false, false, false, false, false] l → G C268 H8 [(2, .pointer (some ⟨g1, 0, none⟩)), (3, .pointer (some ⟨g3, 0, none⟩)), (8, .bool true), (10, .int .i64 t141)] (BK 24 K_api_Touch g3 a1 :: BK 24 K_api_Touch g1 a0 :: Fr) (.inRegion ops269 l :: k270) := by
        intro  l hl
        refine G.fork [4] hl rfl (And.intro ?_ trivial)
        · intro rest ho
          refine G.loadA (df := K_api_Touch) (y := a0) rfl rfl rfl rfl ty24 rfl (fun w hs => Rd.bk (Lens.id _ _) hs (j := 1) rfl) ?_
          intro cs145 f146
          refine G.front1 ?_
          refine G.front1 ?_
          refine G.less ?_ (d7 cs145 f146 rest ho)
          exact ⟨rfl, rfl, rfl, rfl, rfl, trivial⟩
      have d4 : ∀ (cs145 : List Value) (f146 : K_api_Touch.R H8 a0 cs145) (l : List Nat), Ord armoirelaw15_ReadsMeet.ds2 24 [true, true, false, false, true, false, false, false, false, false, false, false, false, false, false, false, false, false, false, false, false, false, false, false, false, false, false] l → G C268 H8 [(2, .pointer (some ⟨g1, 0, none⟩)), (3, .pointer (some ⟨g3, 0, none⟩)), (8, .bool true), (11, .agg cs145.toArray)] (BK 24 K_api_Touch g3 a1 :: BK 24 K_api_Touch g1 a0 :: Fr) (.inRegion ops269 l :: k270) := by
        intro cs145 f146 l hl
        refine G.fork [2] hl rfl (And.intro ?_ trivial)
        · intro rest ho
          refine G.loadA (df := K_api_Touch) (y := a0) rfl rfl rfl rfl ty24 rfl (fun w hs => Rd.bk (Lens.id _ _) hs (j := 1) rfl) ?_
          intro cs139 f140
          refine G.front1 ?_
          refine G.front1 ?_
          refine G.less ?_ (d6 cs139 f140 cs145 f146 rest ho)
          exact ⟨rfl, rfl, rfl, rfl, rfl, trivial⟩
      have d3 : ∀ (cs139 : List Value) (f140 : K_api_Touch.R H8 a0 cs139) (l : List Nat), Ord armoirelaw15_ReadsMeet.ds2 24 [true, true, true, false, false, false, false, false, false, false, false, false, false, false, false, false, false, false, false, false, false, false, false, false, false, false, false] l → G C268 H8 [(2, .pointer (some ⟨g1, 0, none⟩)), (3, .pointer (some ⟨g3, 0, none⟩)), (8, .bool true), (9, .agg cs139.toArray)] (BK 24 K_api_Touch g3 a1 :: BK 24 K_api_Touch g1 a0 :: Fr) (.inRegion ops269 l :: k270) := by
        intro cs139 f140 l hl
        refine G.fork [3, 4] hl rfl (And.intro ?_ (And.intro ?_ trivial))
        · intro rest ho
          refine G.callB rfl rfl rfl rfl call10 (fun w hs => reads_Check.ok cs139 a0 (K_api_Touch.mono hs.ro f140) e142) (by rintro v H' L' ⟨rfl, rfl⟩; exact Free.nil) ?_
          rintro v143 L144 ⟨_, rfl, rfl⟩
          refine G.front1 ?_
          refine G.front1 ?_
          refine G.less ?_ (d5 rest ho)
          exact ⟨rfl, rfl, rfl, rfl, trivial⟩
        · intro rest ho
          refine G.loadA (df := K_api_Touch) (y := a0) rfl rfl rfl rfl ty24 rfl (fun w hs => Rd.bk (Lens.id _ _) hs (j := 1) rfl) ?_
          intro cs145 f146
          refine G.front1 ?_
          refine G.front1 ?_
          refine G.less ?_ (d6 cs139 f140 cs145 f146 rest ho)
          exact ⟨rfl, rfl, rfl, rfl, rfl, trivial⟩
      have d2 : ∀ (l : List Nat), Ord armoirelaw15_ReadsMeet.ds2 25 [true, true, false, false, false, false, false, false, false, false, false, false, false, false, false, false, false, false, false, false, false, false, false, false, false, false, false] l → G C268 H8 [(2, .pointer (some ⟨g1, 0, none⟩)), (3, .pointer (some ⟨g3, 0, none⟩)), (8, .bool true)] (BK 24 K_api_Touch g3 a1 :: BK 24 K_api_Touch g1 a0 :: Fr) (.inRegion ops269 l :: k270) := by
        intro  l hl
        refine G.fork [2, 4] hl rfl (And.intro ?_ (And.intro ?_ trivial))
        · intro rest ho
          refine G.loadA (df := K_api_Touch) (y := a0) rfl rfl rfl rfl ty24 rfl (fun w hs => Rd.bk (Lens.id _ _) hs (j := 1) rfl) ?_
          intro cs139 f140
          refine G.front1 ?_
          refine G.front1 ?_
          refine G.less ?_ (d3 cs139 f140 rest ho)
          exact ⟨rfl, rfl, rfl, rfl, trivial⟩
        · intro rest ho
          refine G.loadA (df := K_api_Touch) (y := a0) rfl rfl rfl rfl ty24 rfl (fun w hs => Rd.bk (Lens.id _ _) hs (j := 1) rfl) ?_
          intro cs145 f146
          refine G.front1 ?_
          refine G.front1 ?_
          refine G.less ?_ (d4 cs145 f146 rest ho)
          exact ⟨rfl, rfl, rfl, rfl, trivial⟩
      have d1 : ∀ (l : List Nat), Ord armoirelaw15_ReadsMeet.ds2 26 [true, false, false, false, false, false, false, false, false, false, false, false, false, false, false, false, false, false, false, false, false, false, false, false, false, false, false] l → G C268 H8 [(2, .pointer (some ⟨g1, 0, none⟩)), (3, .pointer (some ⟨g3, 0, none⟩)), (7, .bool t5)] (BK 24 K_api_Touch g3 a1 :: BK 24 K_api_Touch g1 a0 :: Fr) (.inRegion ops269 l :: k270) := by
        intro  l hl
        refine G.fork [1] hl rfl (And.intro ?_ trivial)
        · intro rest ho
          refine G.move rfl rfl rfl rfl ?_
          refine G.same (d := 8) (v := .bool true) rfl (by simp [k11]) ?_
          refine G.front1 ?_
          refine G.front1 ?_
          refine G.less ?_ (d2 rest ho)
          exact ⟨rfl, rfl, rfl, trivial⟩
      have d0 : ∀ (l : List Nat), Ord armoirelaw15_ReadsMeet.ds2 27 [false, false, false, false, false, false, false, false, false, false, false, false, false, false, false, false, false, false, false, false, false, false, false, false, false, false, false] l → G C268 H8 [(2, .pointer (some ⟨g1, 0, none⟩)), (3, .pointer (some ⟨g3, 0, none⟩)), (5, .bool t5)] (BK 24 K_api_Touch g3 a1 :: BK 24 K_api_Touch g1 a0 :: Fr) (.inRegion ops269 l :: k270) := by
        intro  l hl
        refine G.fork [0] hl rfl (And.intro ?_ trivial)
        · intro rest ho
          refine G.move rfl rfl rfl rfl ?_
          refine G.front1 ?_
          refine G.front1 ?_
          refine G.less ?_ (d1 rest ho)
          exact ⟨rfl, rfl, rfl, trivial⟩
      intro l hl
      refine G.less ?_ (d0 l hl)
      exact ⟨rfl, rfl, rfl, trivial⟩
  · replace h := ifFB h k11
    refine G.draw armoirelaw15_ReadsMeet.ds2 27 [0, 1, 2, 3, 4, 5, 6, 7, 8, 9, 10, 11, 12, 13, 14, 15, 16, 17, 18, 19, 20, 21, 22, 23, 24, 25, 26] [0, 1, 2, 3, 2, 4, 5, 6, 7, 8, 8, 9, 8, 8, 10, 11, 12, 13, 14, 14, 15, 14, 14, 16, 17, 18, 19] [0, 1, 2, 3, 2, 4, 5, 6, 7, 8, 8, 9, 8, 8, 10, 11, 12, 13, 14, 14, 15, 14, 14, 16, 17, 18, 19] rfl (by kernel_rfl) (by kernel_rfl) (by kernel_rfl) (by kernel_rfl) ?_
    intro C271 ops272 k273
    have d57 : ∀ (l : List Nat), Ord armoirelaw15_ReadsMeet.ds2 0 [true, true, true, true, true, true, true, true, true, true, true, true, true, true, true, true, true, true, true, true, true, true, true, true, true, true, true] l → G C271 H8 [(4, .bool false)] (BK 24 K_api_Touch g3 a1 :: BK 24 K_api_Touch g1 a0 :: Fr) (.inRegion ops272 l :: k273) := by
      intro  l hl
      refine G.drawnAll hl ?_
      refine G.regionEnd ?_
      refine G.front1 ?_
      refine G.front1 ?_
      refine G.less ?_ (J138 H8 (PH.le_refl _) false h)
      exact ⟨rfl, trivial⟩
    have d56 : ∀ (l : List Nat), Ord armoirelaw15_ReadsMeet.ds2 1 [true, true, true, true, true, true, true, true, true, true, true, true, true, true, true, true, true, true, true, true, true, true, true, true, true, true, false] l → G C271 H8 [(32, .bool false)] (BK 24 K_api_Touch g3 a1 :: BK 24 K_api_Touch g1 a0 :: Fr) (.inRegion ops272 l :: k273) := by
      intro  l hl
      refine G.fork [26] hl rfl (And.intro ?_ trivial)
      · intro rest ho
        refine G.assign rfl rfl rfl rfl ?_
        refine G.front1 ?_
        refine G.front1 ?_
        refine G.less ?_ (d57 rest ho)
        exact ⟨rfl, trivial⟩
    have d55 : ∀ (l : List Nat), Ord armoirelaw15_ReadsMeet.ds2 2 [true, true, true, true, true, true, true, true, true, true, true, true, true, true, true, true, true, true, true, true, true, true, true, true, true, false, false] l → G C271 H8 [(24, .bool false), (31, undef)] (BK 24 K_api_Touch g3 a1 :: BK 24 K_api_Touch g1 a0 :: Fr) (.inRegion ops272 l :: k273) := by
      intro  l hl
      refine G.fork [25] hl rfl (And.intro ?_ trivial)
      · intro rest ho
        refine G.pickF rfl rfl rfl rfl rfl ?_
        refine G.front1 ?_
        refine G.front1 ?_
        refine G.less ?_ (d56 rest ho)
        exact ⟨rfl, trivial⟩
    have d54 : ∀ (l : List Nat), Ord armoirelaw15_ReadsMeet.ds2 3 [true, true, true, true, true, true, true, true, true, true, true, true, true, true, true, true, true, true, true, true, true, true, true, true, false, false, false] l → G C271 H8 [(24, .bool false), (27, undef), (30, undef)] (BK 24 K_api_Touch g3 a1 :: BK 24 K_api_Touch g1 a0 :: Fr) (.inRegion ops272 l :: k273) := by
      intro  l hl
      refine G.fork [24] hl rfl (And.intro ?_ trivial)
      · intro rest ho
        refine G.unwanted rfl rfl rfl rfl ?_
        refine G.front1 ?_
        refine G.front1 ?_
        refine G.less ?_ (d55 rest ho)
        exact ⟨rfl, rfl, trivial⟩
    have d53 : ∀ (l : List Nat), Ord armoirelaw15_ReadsMeet.ds2 4 [true, true, true, true, true, true, true, true, true, true, true, true, true, true, true, true, true, true, true, true, true, true, true, false, false, false, false] l → G C271 H8 [(24, .bool false), (27, undef), (28, undef), (29, undef)] (BK 24 K_api_Touch g3 a1 :: BK 24 K_api_Touch g1 a0 :: Fr) (.inRegion ops272 l :: k273) := by
      intro  l hl
      refine G.fork [23] hl rfl (And.intro ?_ trivial)
      · intro rest ho
        refine G.unwanted rfl rfl rfl rfl ?_
        refine G.front1 ?_
        refine G.front1 ?_
        refine G.less ?_ (d54 rest ho)
        exact ⟨rfl, rfl, rfl, trivial⟩
    have d52 : ∀ (l : List Nat), Ord armoirelaw15_ReadsMeet.ds2 5 [true, true, true, true, true, true, true, true, true, true, true, true, true, true, true, true, true, true, true, true, false, true, true, false, false, false, false] l → G C271 H8 [(24, .bool false), (25, undef), (26, undef), (28, undef), (29, undef)] (BK 24 K_api_Touch g3 a1 :: BK 24 K_api_Touch g1 a0 :: Fr) (.inRegion ops272 l :: k273) := by
      intro  l hl
      refine G.fork [20] hl rfl (And.intro ?_ trivial)
      · intro rest ho
        refine G.unwanted rfl rfl rfl rfl ?_
        refine G.front1 ?_
        refine G.front1 ?_
        refine G.less ?_ (d53 rest ho)
        exact ⟨rfl, rfl, rfl, rfl, trivial⟩
    have d51 : ∀ (l : List Nat), Ord armoirelaw15_ReadsMeet.ds2 5 [true, true, true, true, true, true, true, true, true, true, true, true, true, true, true, true, true, true, true, true, true, false, true, false, false, false, false] l → G C271 H8 [(3, .pointer (some ⟨g3, 0, none⟩)), (24, .bool false), (27, undef), (29, undef)] (BK 24 K_api_Touch g3 a1 :: BK 24 K_api_Touch g1 a0 :: Fr) (.inRegion ops272 l :: k273) := by
      intro  l hl
      refine G.fork [21] hl rfl (And.intro ?_ trivial)
      · intro rest ho
        refine G.unwanted rfl rfl rfl rfl ?_
        refine G.front1 ?_
        refine G.front1 ?_
        refine G.less ?_ (d53 rest ho)
        exact ⟨rfl, rfl, rfl, rfl, trivial⟩
    have d50 : ∀ (l : List Nat), Ord armoirelaw15_ReadsMeet.ds2 5 [true, true, true, true, true, true, true, true, true, true, true, true, true, true, true, true, true, true, true, true, true, true, false, false, false, false, false] l → G C271 H8 [(2, .pointer (some ⟨g1, 0, none⟩)), (24, .bool false), (27, undef), (28, undef)] (BK 24 K_api_Touch g3 a1 :: BK 24 K_api_Touch g1 a0 :: Fr) (.inRegion ops272 l :: k273) := by
      intro  l hl
      refine G.fork [22] hl rfl (And.intro ?_ trivial)
      · intro rest ho
        refine G.unwanted rfl rfl rfl rfl ?_
        refine G.front1 ?_
        refine G.front1 ?_
        refine G.less ?_ (d53 rest ho)
        exact ⟨rfl, rfl, rfl, rfl, trivial⟩
    have d49 : ∀ (l : List Nat), Ord armoirelaw15_ReadsMeet.ds2 6 [true, true, true, true, true, true, true, true, true, true, true, true, true, true, true, true, true, true, false, true, false, true, true, false, false, false, false] l → G C271 H8 [(3, .pointer (some ⟨g3, 0, none⟩)), (24, .bool false), (26, undef), (28, undef), (29, undef)] (BK 24 K_api_Touch g3 a1 :: BK 24 K_api_Touch g1 a0 :: Fr) (.inRegion ops272 l :: k273) := by
      intro  l hl
      refine G.fork [18] hl rfl (And.intro ?_ trivial)
      · intro rest ho
        refine G.unwanted rfl rfl rfl rfl ?_
        refine G.front1 ?_
        refine G.front1 ?_
        refine G.less ?_ (d52 rest ho)
        exact ⟨rfl, rfl, rfl, rfl, rfl, trivial⟩
    have d48 : ∀ (l : List Nat), Ord armoirelaw15_ReadsMeet.ds2 6 [true, true, true, true, true, true, true, true, true, true, true, true, true, true, true, true, true, true, true, false, false, true, true, false, false, false, false] l → G C271 H8 [(2, .pointer (some ⟨g1, 0, none⟩)), (24, .bool false), (25, undef), (28, undef), (29, undef)] (BK 24 K_api_Touch g3 a1 :: BK 24 K_api_Touch g1 a0 :: Fr) (.inRegion ops272 l :: k273) := by
      intro  l hl
      refine G.fork [19] hl rfl (And.intro ?_ trivial)
      · intro rest ho
        refine G.unwanted rfl rfl rfl rfl ?_
        refine G.front1 ?_
        refine G.front1 ?_
        refine G.less ?_ (d52 rest ho)
        exact ⟨rfl, rfl, rfl, rfl, rfl, trivial⟩
    have d47 : ∀ (l : List Nat), Ord armoirelaw15_ReadsMeet.ds2 6 [true, true, true, true, true, true, true, true, true, true, true, true, true, true, true, true, true, true, true, true, false, false, true, false, false, false, false] l → G C271 H8 [(3, .pointer (some ⟨g3, 0, none⟩)), (24, .bool false), (25, undef), (26, undef), (29, undef)] (BK 24 K_api_Touch g3 a1 :: BK 24 K_api_Touch g1 a0 :: Fr) (.inRegion ops272 l :: k273) := by
      intro  l hl
      refine G.fork [20, 21] hl rfl (And.intro ?_ (And.intro ?_ trivial))
      · intro rest ho
        refine G.unwanted rfl rfl rfl rfl ?_
        refine G.front1 ?_
        refine G.front1 ?_
        refine G.less ?_ (d51 rest ho)
        exact ⟨rfl, rfl, rfl, rfl, trivial⟩
      · intro rest ho
        refine G.unwanted rfl rfl rfl rfl ?_
        refine G.front1 ?_
        refine G.front1 ?_
        refine G.less ?_ (d52 rest ho)
        exact ⟨rfl, rfl, rfl, rfl, rfl, trivial⟩
    have d46 : ∀ (l : List Nat), Ord armoirelaw15_ReadsMeet.ds2 6 [true, true, true, true, true, true, true, true, true, true, true, true, true, true, true, true, true, true, true, true, false, true, false, false, false, false, false] l → G C271 H8 [(2, .pointer (some ⟨g1, 0, none⟩)), (24, .bool false), (25, undef), (26, undef), (28, undef)] (BK 24 K_api_Touch g3 a1 :: BK 24 K_api_Touch g1 a0 :: Fr) (.inRegion ops272 l :: k273) := by
      intro  l hl
      refine G.fork [20, 22] hl rfl (And.intro ?_ (And.intro ?_ trivial))
      · intro rest ho
        refine G.unwanted rfl rfl rfl rfl ?_
        refine G.front1 ?_
        refine G.front1 ?_
        refine G.less ?_ (d50 rest ho)
        exact ⟨rfl, rfl, rfl, rfl, trivial⟩
      · intro rest ho
        refine G.unwanted rfl rfl rfl rfl ?_
        refine G.front1 ?_
        refine G.front1 ?_
        refine G.less ?_ (d52 rest ho)
        exact ⟨rfl, rfl, rfl, rfl, rfl, trivial⟩
    have d45 : ∀ (l : List Nat), Ord armoirelaw15_ReadsMeet.ds2 6 [true, true, true, true, true, true, true, true, true, true, true, true, true, true, true, true, true, true, true, true, true, false, false, false, false, false, false] l → G C271 H8 [(2, .pointer (some ⟨g1, 0, none⟩)), (3, .pointer (some ⟨g3, 0, none⟩)), (24, .bool false), (27, undef)] (BK 24 K_api_Touch g3 a1 :: BK 24 K_api_Touch g1 a0 :: Fr) (.inRegion ops272 l :: k273) := by
      intro  l hl
      refine G.fork [21, 22] hl rfl (And.intro ?_ (And.intro ?_ trivial))
      · intro rest ho
        refine G.unwanted rfl rfl rfl rfl ?_
        refine G.front1 ?_
        refine G.front1 ?_
        refine G.less ?_ (d50 rest ho)
        exact ⟨rfl, rfl, rfl, rfl, trivial⟩
      · intro rest ho
        refine G.unwanted rfl rfl rfl rfl ?_
        refine G.front1 ?_
        refine G.front1 ?_
        refine G.less ?_ (d51 rest ho)
        exact ⟨rfl, rfl, rfl, rfl, trivial⟩
    have d44 : ∀ (l : List Nat), Ord armoirelaw15_ReadsMeet.ds2 7 [true, true, true, true, true, true, true, true, true, true, true, true, true, true, true, true, true, true, false, false, false, true, true, false, false, false, false] l → G C271 H8 [(2, .pointer (some ⟨g1, 0, none⟩)), (3, .pointer (some ⟨g3, 0, none⟩)), (24, .bool false), (28, undef), (29, undef)] (BK 24 K_api_Touch g3 a1 :: BK 24 K_api_Touch g1 a0 :: Fr) (.inRegion ops272 l :: k273) := by
      intro  l hl
      refine G.fork [18, 19] hl rfl (And.intro ?_ (And.intro ?_ trivial))
      · intro rest ho
        refine G.unwanted rfl rfl rfl rfl ?_
        refine G.front1 ?_
        refine G.front1 ?_
        refine G.less ?_ (d48 rest ho)
        exact ⟨rfl, rfl, rfl, rfl, rfl, trivial⟩
      · intro rest ho
        refine G.unwanted rfl rfl rfl rfl ?_
        refine G.front1 ?_
        refine G.front1 ?_
        refine G.less ?_ (d49 rest ho)
        exact ⟨rfl, rfl, rfl, rfl, rfl, trivial⟩
    have d43 : ∀ (l : List Nat), Ord armoirelaw15_ReadsMeet.ds2 7 [true, true, true, true, true, true, true, true, true, true, true, true, true, true, true, true, true, true, false, true, false, false, true, false, false, false, false] l → G C271 H8 [(3, .pointer (some ⟨g3, 0, none⟩)), (24, .bool false), (26, undef), (29, undef)] (BK 24 K_api_Touch g3 a1 :: BK 24 K_api_Touch g1 a0 :: Fr) (.inRegion ops272 l :: k273) := by
      intro  l hl
      refine G.fork [18, 21] hl rfl (And.intro ?_ (And.intro ?_ trivial))
      · intro rest ho
        refine G.unwanted rfl rfl rfl rfl ?_
        refine G.front1 ?_
        refine G.front1 ?_
        refine G.less ?_ (d47 rest ho)
        exact ⟨rfl, rfl, rfl, rfl, rfl, trivial⟩
      · intro rest ho
        refine G.unwanted rfl rfl rfl rfl ?_
        refine G.front1 ?_
        refine G.front1 ?_
        refine G.less ?_ (d49 rest ho)
        exact ⟨rfl, rfl, rfl, rfl, rfl, trivial⟩
    have d42 : ∀ (l : List Nat), Ord armoirelaw15_ReadsMeet.ds2 7 [true, true, true, true, true, true, true, true, true, true, true, true, true, true, true, true, true, true, false, true, false, true, false, false, false, false, false] l → G C271 H8 [(2, .pointer (some ⟨g1, 0, none⟩)), (3, .pointer (some ⟨g3, 0, none⟩)), (24, .bool false), (26, undef), (28, undef)] (BK 24 K_api_Touch g3 a1 :: BK 24 K_api_Touch g1 a0 :: Fr) (.inRegion ops272 l :: k273) := by
      intro  l hl
      refine G.fork [18, 22] hl rfl (And.intro ?_ (And.intro ?_ trivial))
      · intro rest ho
        refine G.unwanted rfl rfl rfl rfl ?_
        refine G.front1 ?_
        refine G.front1 ?_
        refine G.less ?_ (d46 rest ho)
        exact ⟨rfl, rfl, rfl, rfl, rfl, trivial⟩
      · intro rest ho
        refine G.unwanted rfl rfl rfl rfl ?_
        refine G.front1 ?_
        refine G.front1 ?_
        refine G.less ?_ (d49 rest ho)
        exact ⟨rfl, rfl, rfl, rfl, rfl, trivial⟩
    have d41 : ∀ (l : List Nat), Ord armoirelaw15_ReadsMeet.ds2 7 [true, true, true, true, true, true, true, true, true, true, true, true, true, true, true, true, true, true, true, false, false, false, true, false, false, false, false] l → G C271 H8 [(2, .pointer (some ⟨g1, 0, none⟩)), (3, .pointer (some ⟨g3, 0, none⟩)), (24, .bool false), (25, undef), (29, undef)] (BK 24 K_api_Touch g3 a1 :: BK 24 K_api_Touch g1 a0 :: Fr) (.inRegion ops272 l :: k273) := by
      intro  l hl
      refine G.fork [19, 21] hl rfl (And.intro ?_ (And.intro ?_ trivial))
      · intro rest ho
        refine G.unwanted rfl rfl rfl rfl ?_
        refine G.front1 ?_
        refine G.front1 ?_
        refine G.less ?_ (d47 rest ho)
        exact ⟨rfl, rfl, rfl, rfl, rfl, trivial⟩
      · intro rest ho
        refine G.unwanted rfl rfl rfl rfl ?_
        refine G.front1 ?_
        refine G.front1 ?_
        refine G.less ?_ (d48 rest ho)
        exact ⟨rfl, rfl, rfl, rfl, rfl, trivial⟩
    have d40 : ∀ (l : List Nat), Ord armoirelaw15_ReadsMeet.ds2 7 [true, true, true, true, true, true, true, true, true, true, true, true, true, true, true, true, true, true, true, false, false, true, false, false, false, false, false] l → G C271 H8 [(2, .pointer (some ⟨g1, 0, none⟩)), (24, .bool false), (25, undef), (28, undef)] (BK 24 K_api_Touch g3 a1 :: BK 24 K_api_Touch g1 a0 :: Fr) (.inRegion ops272 l :: k273) := by
      intro  l hl
      refine G.fork [19, 22] hl rfl (And.intro ?_ (And.intro ?_ trivial))
      · intro rest ho
        refine G.unwanted rfl rfl rfl rfl ?_
        refine G.front1 ?_
        refine G.front1 ?_
        refine G.less ?_ (d46 rest ho)
        exact ⟨rfl, rfl, rfl, rfl, rfl, trivial⟩
      · intro rest ho
        refine G.unwanted rfl rfl rfl rfl ?_
        refine G.front1 ?_
        refine G.front1 ?_
        refine G.less ?_ (d48 rest ho)
        exact ⟨rfl, rfl, rfl, rfl, rfl, trivial⟩
    have d39 : ∀ (l : List Nat), Ord armoirelaw15_ReadsMeet.ds2 7 [true, true, true, true, true, true, true, true, true, true, true, true, true, true, true, true, true, true, true, true, false, false, false, false, false, false, false] l → G C271 H8 [(2, .pointer (some ⟨g1, 0, none⟩)), (3, .pointer (some ⟨g3, 0, none⟩)), (24, .bool false), (25, undef), (26, undef)] (BK 24 K_api_Touch g3 a1 :: BK 24 K_api_Touch g1 a0 :: Fr) (.inRegion ops272 l :: k273) := by
      intro  l hl
      refine G.fork [20, 21, 22] hl rfl (And.intro ?_ (And.intro ?_ (And.intro ?_ trivial)))
      · intro rest ho
        refine G.unwanted rfl rfl rfl rfl ?_
        refine G.front1 ?_
        refine G.front1 ?_
        refine G.less ?_ (d45 rest ho)
        exact ⟨rfl, rfl, rfl, rfl, trivial⟩
      · intro rest ho
        refine G.unwanted rfl rfl rfl rfl ?_
        refine G.front1 ?_
        refine G.front1 ?_
        refine G.less ?_ (d46 rest ho)
        exact ⟨rfl, rfl, rfl, rfl, rfl, trivial⟩
      · intro rest ho
        refine G.unwanted rfl rfl rfl rfl ?_
        refine G.front1 ?_
        refine G.front1 ?_
        refine G.less ?_ (d47 rest ho)
        exact ⟨rfl, rfl, rfl, rfl, rfl, trivial⟩
    have d38 : ∀ (l : List Nat), Ord armoirelaw15_ReadsMeet.ds2 8 [true, true, true, true, true, true, true, true, true, true, true, true, true, true, true, true, true, true, false, false, false, false, true, false, false, false, false] l → G C271 H8 [(2, .pointer (some ⟨g1, 0, none⟩)), (3, .pointer (some ⟨g3, 0, none⟩)), (24, .bool false), (29, undef)] (BK 24 K_api_Touch g3 a1 :: BK 24 K_api_Touch g1 a0 :: Fr) (.inRegion ops272 l :: k273) := by
      intro  l hl
      refine G.fork [18, 19, 21] hl rfl (And.intro ?_ (And.intro ?_ (And.intro ?_ trivial)))
      · intro rest ho
        refine G.unwanted rfl rfl rfl rfl ?_
        refine G.front1 ?_
        refine G.front1 ?_
        refine G.less ?_ (d41 rest ho)
        exact ⟨rfl, rfl, rfl, rfl, rfl, trivial⟩
      · intro rest ho
        refine G.unwanted rfl rfl rfl rfl ?_
        refine G.front1 ?_
        refine G.front1 ?_
        refine G.less ?_ (d43 rest ho)
        exact ⟨rfl, rfl, rfl, rfl, trivial⟩
      · intro rest ho
        refine G.unwanted rfl rfl rfl rfl ?_
        refine G.front1 ?_
        refine G.front1 ?_
        refine G.less ?_ (d44 rest ho)
        exact ⟨rfl, rfl, rfl, rfl, rfl, trivial⟩
    have d37 : ∀ (l : List Nat), Ord armoirelaw15_ReadsMeet.ds2 8 [true, true, true, true, true, true, true, true, true, true, true, true, true, true, true, true, true, true, false, false, false, true, false, false, false, false, false] l → G C271 H8 [(2, .pointer (some ⟨g1, 0, none⟩)), (3, .pointer (some ⟨g3, 0, none⟩)), (24, .bool false), (28, undef)] (BK 24 K_api_Touch g3 a1 :: BK 24 K_api_Touch g1 a0 :: Fr) (.inRegion ops272 l :: k273) := by
      intro  l hl
      refine G.fork [18, 19, 22] hl rfl (And.intro ?_ (And.intro ?_ (And.intro ?_ trivial)))
      · intro rest ho
        refine G.unwanted rfl rfl rfl rfl ?_
        refine G.front1 ?_
        refine G.front1 ?_
        refine G.less ?_ (d40 rest ho)
        exact ⟨rfl, rfl, rfl, rfl, trivial⟩
      · intro rest ho
        refine G.unwanted rfl rfl rfl rfl ?_
        refine G.front1 ?_
        refine G.front1 ?_
        refine G.less ?_ (d42 rest ho)
        exact ⟨rfl, rfl, rfl, rfl, rfl, trivial⟩
      · intro rest ho
        refine G.unwanted rfl rfl rfl rfl ?_
        refine G.front1 ?_
        refine G.front1 ?_
        refine G.less ?_ (d44 rest ho)
        exact ⟨rfl, rfl, rfl, rfl, rfl, trivial⟩
    have d36 : ∀ (l : List Nat), Ord armoirelaw15_ReadsMeet.ds2 8 [true, true, true, true, true, true, true, true, true, true, true, true, true, true, true, true, true, true, false, true, false, false, false, false, false, false, false] l → G C271 H8 [(2, .pointer (some ⟨g1, 0, none⟩)), (3, .pointer (some ⟨g3, 0, none⟩)), (24, .bool false), (26, undef)] (BK 24 K_api_Touch g3 a1 :: BK 24 K_api_Touch g1 a0 :: Fr) (.inRegion ops272 l :: k273) := by
      intro  l hl
      refine G.fork [18, 21, 22] hl rfl (And.intro ?_ (And.intro ?_ (And.intro ?_ trivial)))
      · intro rest ho
        refine G.unwanted rfl rfl rfl rfl ?_
        refine G.front1 ?_
        refine G.front1 ?_
        refine G.less ?_ (d39 rest ho)
        exact ⟨rfl, rfl, rfl, rfl, rfl, trivial⟩
      · intro rest ho
        refine G.unwanted rfl rfl rfl rfl ?_
        refine G.front1 ?_
        refine G.front1 ?_
        refine G.less ?_ (d42 rest ho)
        exact ⟨rfl, rfl, rfl, rfl, rfl, trivial⟩
      · intro rest ho
        refine G.unwanted rfl rfl rfl rfl ?_
        refine G.front1 ?_
        refine G.front1 ?_
        refine G.less ?_ (d43 rest ho)
        exact ⟨rfl, rfl, rfl, rfl, trivial⟩
    have d35 : ∀ (l : List Nat), Ord armoirelaw15_ReadsMeet.ds2 8 [true, true, true, true, true, true, true, true, true, true, true, true, true, true, true, true, true, true, true, false, false, false, false, false, false, false, false] l → G C271 H8 [(2, .pointer (some ⟨g1, 0, none⟩)), (3, .pointer (some ⟨g3, 0, none⟩)), (24, .bool false), (25, undef)] (BK 24 K_api_Touch g3 a1 :: BK 24 K_api_Touch g1 a0 :: Fr) (.inRegion ops272 l :: k273) := by
      intro  l hl
      refine G.fork [19, 21, 22] hl rfl (And.intro ?_ (And.intro ?_ (And.intro ?_ trivial)))
      · intro rest ho
        refine G.unwanted rfl rfl rfl rfl ?_
        refine G.front1 ?_
        refine G.front1 ?_
        refine G.less ?_ (d39 rest ho)
        exact ⟨rfl, rfl, rfl, rfl, rfl, trivial⟩
      · intro rest ho
        refine G.unwanted rfl rfl rfl rfl ?_
        refine G.front1 ?_
        refine G.front1 ?_
        refine G.less ?_ (d40 rest ho)
        exact ⟨rfl, rfl, rfl, rfl, trivial⟩
      · intro rest ho
        refine G.unwanted rfl rfl rfl rfl ?_
        refine G.front1 ?_
        refine G.front1 ?_
        refine G.less ?_ (d41 rest ho)
        exact ⟨rfl, rfl, rfl, rfl, rfl, trivial⟩
    have d34 : ∀ (l : List Nat), Ord armoirelaw15_ReadsMeet.ds2 9 [true, true, true, true, true, true, true, true, true, true, true, true, true, true, true, true, true, true, false, false, false, false, false, false, false, false, false] l → G C271 H8 [(2, .pointer (some ⟨g1, 0, none⟩)), (3, .pointer (some ⟨g3, 0, none⟩)), (24, .bool false)] (BK 24 K_api_Touch g3 a1 :: BK 24 K_api_Touch g1 a0 :: Fr) (.inRegion ops272 l :: k273) := by
      intro  l hl
      refine G.fork [18, 19, 21, 22] hl rfl (And.intro ?_ (And.intro ?_ (And.intro ?_ (And.intro ?_ trivial))))
      · intro rest ho
        refine G.unwanted rfl rfl rfl rfl ?_
        refine G.front1 ?_
        refine G.front1 ?_
        refine G.less ?_ (d35 rest ho)
        exact ⟨rfl, rfl, rfl, rfl, trivial⟩
      · intro rest ho
        refine G.unwanted rfl rfl rfl rfl ?_
        refine G.front1 ?_
        refine G.front1 ?_
        refine G.less ?_ (d36 rest ho)
        exact ⟨rfl, rfl, rfl, rfl, trivial⟩
      · intro rest ho
        refine G.unwanted rfl rfl rfl rfl ?_
        refine G.front1 ?_
        refine G.front1 ?_
        refine G.less ?_ (d37 rest ho)
        exact ⟨rfl, rfl, rfl, rfl, trivial⟩
      · intro rest ho
        refine G.unwanted rfl rfl rfl rfl ?_
        refine G.front1 ?_
        refine G.front1 ?_
        refine G.less ?_ (d38 rest ho)
        exact ⟨rfl, rfl, rfl, rfl, trivial⟩
    have d33 : ∀ (l : List Nat), Ord armoirelaw15_ReadsMeet.ds2 10 [true, true, true, true, true, true, true, true, true, true, true, true, true, true, true, true, true, false, false, false, false, false, false, false, false, false, false] l → G C271 H8 [(2, .pointer (some ⟨g1, 0, none⟩)), (3, .pointer (some ⟨g3, 0, none⟩)), (23, .bool false)] (BK 24 K_api_Touch g3 a1 :: BK 24 K_api_Touch g1 a0 :: Fr) (.inRegion ops272 l :: k273) := by
      intro  l hl
      refine G.fork [17] hl rfl (And.intro ?_ trivial)
      · intro rest ho
        refine G.move rfl rfl rfl rfl ?_
        refine G.front1 ?_
        refine G.front1 ?_
        refine G.less ?_ (d34 rest ho)
        exact ⟨rfl, rfl, rfl, trivial⟩
    have d32 : ∀ (l : List Nat), Ord armoirelaw15_ReadsMeet.ds2 11 [true, true, true, true, true, true, true, true, true, true, true, true, true, true, true, true, false, false, false, false, false, false, false, false, false, false, false] l → G C271 H8 [(2, .pointer (some ⟨g1, 0, none⟩)), (3, .pointer (some ⟨g3, 0, none⟩)), (15, .bool false), (22, undef)] (BK 24 K_api_Touch g3 a1 :: BK 24 K_api_Touch g1 a0 :: Fr) (.inRegion ops272 l :: k273) := by
      intro  l hl
      refine G.fork [16] hl rfl (And.intro ?_ trivial)
      · intro rest ho
        refine G.pickF rfl rfl rfl rfl rfl ?_
        refine G.front1 ?_
        refine G.front1 ?_
        refine G.less ?_ (d33 rest ho)
        exact ⟨rfl, rfl, rfl, trivial⟩
    have d31 : ∀ (l : List Nat), Ord armoirelaw15_ReadsMeet.ds2 12 [true, true, true, true, true, true, true, true, true, true, true, true, true, true, true, false, false, false, false, false, false, false, false, false, false, false, false] l → G C271 H8 [(2, .pointer (some ⟨g1, 0, none⟩)), (3, .pointer (some ⟨g3, 0, none⟩)), (15, .bool false), (18, undef), (21, undef)] (BK 24 K_api_Touch g3 a1 :: BK 24 K_api_Touch g1 a0 :: Fr) (.inRegion ops272 l :: k273) := by
      intro  l hl
      refine G.fork [15] hl rfl (And.intro ?_ trivial)
      · intro rest ho
        refine G.unwanted rfl rfl rfl rfl ?_
        refine G.front1 ?_
        refine G.front1 ?_
        refine G.less ?_ (d32 rest ho)
        exact ⟨rfl, rfl, rfl, rfl, trivial⟩
    have d30 : ∀ (l : List Nat), Ord armoirelaw15_ReadsMeet.ds2 13 [true, true, true, true, true, true, true, true, true, true, true, true, true, true, false, false, false, false, false, false, false, false, false, false, false, false, false] l → G C271 H8 [(2, .pointer (some ⟨g1, 0, none⟩)), (3, .pointer (some ⟨g3, 0, none⟩)), (15, .bool false), (18, undef), (19, undef), (20, undef)] (BK 24 K_api_Touch g3 a1 :: BK 24 K_api_Touch g1 a0 :: Fr) (.inRegion ops272 l :: k273) := by
      intro  l hl
      refine G.fork [14] hl rfl (And.intro ?_ trivial)
      · intro rest ho
        refine G.unwanted rfl rfl rfl rfl ?_
        refine G.front1 ?_
        refine G.front1 ?_
        refine G.less ?_ (d31 rest ho)
        exact ⟨rfl, rfl, rfl, rfl, rfl, trivial⟩
    have d29 : ∀ (l : List Nat), Ord armoirelaw15_ReadsMeet.ds2 14 [true, true, true, true, true, true, true, true, true, true, true, false, true, true, false, false, false, false, false, false, false, false, false, false, false, false, false] l → G C271 H8 [(2, .pointer (some ⟨g1, 0, none⟩)), (3, .pointer (some ⟨g3, 0, none⟩)), (15, .bool false), (16, undef), (17, undef), (19, undef), (20, undef)] (BK 24 K_api_Touch g3 a1 :: BK 24 K_api_Touch g1 a0 :: Fr) (.inRegion ops272 l :: k273) := by
      intro  l hl
      refine G.fork [11] hl rfl (And.intro ?_ trivial)
      · intro rest ho
        refine G.unwanted rfl rfl rfl rfl ?_
        refine G.front1 ?_
        refine G.front1 ?_
        refine G.less ?_ (d30 rest ho)
        exact ⟨rfl, rfl, rfl, rfl, rfl, rfl, trivial⟩
    have d28 : ∀ (l : List Nat), Ord armoirelaw15_ReadsMeet.ds2 14 [true, true, true, true, true, true, true, true, true, true, true, true, false, true, false, false, false, false, false, false, false, false, false, false, false, false, false] l → G C271 H8 [(2, .pointer (some ⟨g1, 0, none⟩)), (3, .pointer (some ⟨g3, 0, none⟩)), (15, .bool false), (18, undef), (20, undef)] (BK 24 K_api_Touch g3 a1 :: BK 24 K_api_Touch g1 a0 :: Fr) (.inRegion ops272 l :: k273) := by
      intro  l hl
      refine G.fork [12] hl rfl (And.intro ?_ trivial)
      · intro rest ho
        refine G.unwanted rfl rfl rfl rfl ?_
        refine G.front1 ?_
        refine G.front1 ?_
        refine G.less ?_ (d30 rest ho)
        exact ⟨rfl, rfl, rfl, rfl, rfl, rfl, trivial⟩
    have d27 : ∀ (l : List Nat), Ord armoirelaw15_ReadsMeet.ds2 14 [true, true, true, true, true, true, true, true, true, true, true, true, true, false, false, false, false, false, false, false, false, false, false, false, false, false, false] l → G C271 H8 [(2, .pointer (some ⟨g1, 0, none⟩)), (3, .pointer (some ⟨g3, 0, none⟩)), (15, .bool false), (18, undef), (19, undef)] (BK 24 K_api_Touch g3 a1 :: BK 24 K_api_Touch g1 a0 :: Fr) (.inRegion ops272 l :: k273) := by
      intro  l hl
      refine G.fork [13] hl rfl (And.intro ?_ trivial)
      · intro rest ho
        refine G.unwanted rfl rfl rfl rfl ?_
        refine G.front1 ?_
        refine G.front1 ?_
        refine G.less ?_ (d30 rest ho)
        exact ⟨rfl, rfl, rfl, rfl, rfl, rfl, trivial⟩
    have d26 : ∀ (l : List Nat), Ord armoirelaw15_ReadsMeet.ds2 15 [true, true, true, true, true, true, true, true, true, false, true, false, true, true, false, false, false, false, false, false, false, false, false, false, false, false, false] l → G C271 H8 [(2, .pointer (some ⟨g1, 0, none⟩)), (3, .pointer (some ⟨g3, 0, none⟩)), (15, .bool false), (17, undef), (19, undef), (20, undef)] (BK 24 K_api_Touch g3 a1 :: BK 24 K_api_Touch g1 a0 :: Fr) (.inRegion ops272 l :: k273) := by
      intro  l hl
      refine G.fork [9] hl rfl (And.intro ?_ trivial)
      · intro rest ho
        refine G.unwanted rfl rfl rfl rfl ?_
        refine G.front1 ?_
        refine G.front1 ?_
        refine G.less ?_ (d29 rest ho)
        exact ⟨rfl, rfl, rfl, rfl, rfl, rfl, rfl, trivial⟩
    have d25 : ∀ (l : List Nat), Ord armoirelaw15_ReadsMeet.ds2 15 [true, true, true, true, true, true, true, true, true, true, false, false, true, true, false, false, false, false, false, false, false, false, false, false, false, false, false] l → G C271 H8 [(2, .pointer (some ⟨g1, 0, none⟩)), (3, .pointer (some ⟨g3, 0, none⟩)), (15, .bool false), (16, undef), (19, undef), (20, undef)] (BK 24 K_api_Touch g3 a1 :: BK 24 K_api_Touch g1 a0 :: Fr) (.inRegion ops272 l :: k273) := by
      intro  l hl
      refine G.fork [10] hl rfl (And.intro ?_ trivial)
      · intro rest ho
        refine G.unwanted rfl rfl rfl rfl ?_
        refine G.front1 ?_
        refine G.front1 ?_
        refine G.less ?_ (d29 rest ho)
        exact ⟨rfl, rfl, rfl, rfl, rfl, rfl, rfl, trivial⟩
    have d24 : ∀ (l : List Nat), Ord armoirelaw15_ReadsMeet.ds2 15 [true, true, true, true, true, true, true, true, true, true, true, false, false, true, false, false, false, false, false, false, false, false, false, false, false, false, false] l → G C271 H8 [(2, .pointer (some ⟨g1, 0, none⟩)), (3, .pointer (some ⟨g3, 0, none⟩)), (15, .bool false), (16, undef), (17, undef), (20, undef)] (BK 24 K_api_Touch g3 a1 :: BK 24 K_api_Touch g1 a0 :: Fr) (.inRegion ops272 l :: k273) := by
      intro  l hl
      refine G.fork [11, 12] hl rfl (And.intro ?_ (And.intro ?_ trivial))
      · intro rest ho
        refine G.unwanted rfl rfl rfl rfl ?_
        refine G.front1 ?_
        refine G.front1 ?_
        refine G.less ?_ (d28 rest ho)
        exact ⟨rfl, rfl, rfl, rfl, rfl, trivial⟩
      · intro rest ho
        refine G.unwanted rfl rfl rfl rfl ?_
        refine G.front1 ?_
        refine G.front1 ?_
        refine G.less ?_ (d29 rest ho)
        exact ⟨rfl, rfl, rfl, rfl, rfl, rfl, rfl, trivial⟩
    have d23 : ∀ (l : List Nat), Ord armoirelaw15_ReadsMeet.ds2 15 [true, true, true, true, true, true, true, true, true, true, true, false, true, false, false, false, false, false, false, false, false, false, false, false, false, false, false] l → G C271 H8 [(2, .pointer (some ⟨g1, 0, none⟩)), (3, .pointer (some ⟨g3, 0, none⟩)), (15, .bool false), (16, undef), (17, undef), (19, undef)] (BK 24 K_api_Touch g3 a1 :: BK 24 K_api_Touch g1 a0 :: Fr) (.inRegion ops272 l :: k273) := by
      intro  l hl
      refine G.fork [11, 13] hl rfl (And.intro ?_ (And.intro ?_ trivial))
      · intro rest ho
        refine G.unwanted rfl rfl rfl rfl ?_
        refine G.front1 ?_
        refine G.front1 ?_
        refine G.less ?_ (d27 rest ho)
        exact ⟨rfl, rfl, rfl, rfl, rfl, trivial⟩
      · intro rest ho
        refine G.unwanted rfl rfl rfl rfl ?_
        refine G.front1 ?_
        refine G.front1 ?_
        refine G.less ?_ (d29 rest ho)
        exact ⟨rfl, rfl, rfl, rfl, rfl, rfl, rfl, trivial⟩
    have d22 : ∀ (l : List Nat), Ord armoirelaw15_ReadsMeet.ds2 15 [true, true, true, true, true, true, true, true, true, true, true, true, false, false, false, false, false, false, false, false, false, false, false, false, false, false, false] l → G C271 H8 [(2, .pointer (some ⟨g1, 0, none⟩)), (3, .pointer (some ⟨g3, 0, none⟩)), (15, .bool false), (18, undef)] (BK 24 K_api_Touch g3 a1 :: BK 24 K_api_Touch g1 a0 :: Fr) (.inRegion ops272 l :: k273) := by
      intro  l hl
      refine G.fork [12, 13] hl rfl (And.intro ?_ (And.intro ?_ trivial))
      · intro rest ho
        refine G.unwanted rfl rfl rfl rfl ?_
        refine G.front1 ?_
        refine G.front1 ?_
        refine G.less ?_ (d27 rest ho)
        exact ⟨rfl, rfl, rfl, rfl, rfl, trivial⟩
      · intro rest ho
        refine G.unwanted rfl rfl rfl rfl ?_
        refine G.front1 ?_
        refine G.front1 ?_
        refine G.less ?_ (d28 rest ho)
        exact ⟨rfl, rfl, rfl, rfl, rfl, trivial⟩
    have d21 : ∀ (l : List Nat), Ord armoirelaw15_ReadsMeet.ds2 16 [true, true, true, true, true, true, true, true, true, false, false, false, true, true, false, false, false, false, false, false, false, false, false, false, false, false, false] l → G C271 H8 [(2, .pointer (some ⟨g1, 0, none⟩)), (3, .pointer (some ⟨g3, 0, none⟩)), (15, .bool false), (19, undef), (20, undef)] (BK 24 K_api_Touch g3 a1 :: BK 24 K_api_Touch g1 a0 :: Fr) (.inRegion ops272 l :: k273) := by
      intro  l hl
      refine G.fork [9, 10] hl rfl (And.intro ?_ (And.intro ?_ trivial))
      · intro rest ho
        refine G.unwanted rfl rfl rfl rfl ?_
        refine G.front1 ?_
        refine G.front1 ?_
        refine G.less ?_ (d25 rest ho)
        exact ⟨rfl, rfl, rfl, rfl, rfl, rfl, trivial⟩
      · intro rest ho
        refine G.unwanted rfl rfl rfl rfl ?_
        refine G.front1 ?_
        refine G.front1 ?_
        refine G.less ?_ (d26 rest ho)
        exact ⟨rfl, rfl, rfl, rfl, rfl, rfl, trivial⟩
    have d20 : ∀ (l : List Nat), Ord armoirelaw15_ReadsMeet.ds2 16 [true, true, true, true, true, true, true, true, true, false, true, false, false, true, false, false, false, false, false, false, false, false, false, false, false, false, false] l → G C271 H8 [(2, .pointer (some ⟨g1, 0, none⟩)), (3, .pointer (some ⟨g3, 0, none⟩)), (15, .bool false), (17, undef), (20, undef)] (BK 24 K_api_Touch g3 a1 :: BK 24 K_api_Touch g1 a0 :: Fr) (.inRegion ops272 l :: k273) := by
      intro  l hl
      refine G.fork [9, 12] hl rfl (And.intro ?_ (And.intro ?_ trivial))
      · intro rest ho
        refine G.unwanted rfl rfl rfl rfl ?_
        refine G.front1 ?_
        refine G.front1 ?_
        refine G.less ?_ (d24 rest ho)
        exact ⟨rfl, rfl, rfl, rfl, rfl, rfl, trivial⟩
      · intro rest ho
        refine G.unwanted rfl rfl rfl rfl ?_
        refine G.front1 ?_
        refine G.front1 ?_
        refine G.less ?_ (d26 rest ho)
        exact ⟨rfl, rfl, rfl, rfl, rfl, rfl, trivial⟩
    have d19 : ∀ (l : List Nat), Ord armoirelaw15_ReadsMeet.ds2 16 [true, true, true, true, true, true, true, true, true, false, true, false, true, false, false, false, false, false, false, false, false, false, false, false, false, false, false] l → G C271 H8 [(2, .pointer (some ⟨g1, 0, none⟩)), (3, .pointer (some ⟨g3, 0, none⟩)), (15, .bool false), (17, undef), (19, undef)] (BK 24 K_api_Touch g3 a1 :: BK 24 K_api_Touch g1 a0 :: Fr) (.inRegion ops272 l :: k273) := by
      intro  l hl
      refine G.fork [9, 13] hl rfl (And.intro ?_ (And.intro ?_ trivial))
      · intro rest ho
        refine G.unwanted rfl rfl rfl rfl ?_
        refine G.front1 ?_
        refine G.front1 ?_
        refine G.less ?_ (d23 rest ho)
        exact ⟨rfl, rfl, rfl, rfl, rfl, rfl, trivial⟩
      · intro rest ho
        refine G.unwanted rfl rfl rfl rfl ?_
        refine G.front1 ?_
        refine G.front1 ?_
        refine G.less ?_ (d26 rest ho)
        exact ⟨rfl, rfl, rfl, rfl, rfl, rfl, trivial⟩
    have d18 : ∀ (l : List Nat), Ord armoirelaw15_ReadsMeet.ds2 16 [true, true, true, true, true, true, true, true, true, true, false, false, false, true, false, false, false, false, false, false, false, false, false, false, false, false, false] l → G C271 H8 [(2, .pointer (some ⟨g1, 0, none⟩)), (3, .pointer (some ⟨g3, 0, none⟩)), (15, .bool false), (16, undef), (20, undef)] (BK 24 K_api_Touch g3 a1 :: BK 24 K_api_Touch g1 a0 :: Fr) (.inRegion ops272 l :: k273) := by
      intro  l hl
      refine G.fork [10, 12] hl rfl (And.intro ?_ (And.intro ?_ trivial))
      · intro rest ho
        refine G.unwanted rfl rfl rfl rfl ?_
        refine G.front1 ?_
        refine G.front1 ?_
        refine G.less ?_ (d24 rest ho)
        exact ⟨rfl, rfl, rfl, rfl, rfl, rfl, trivial⟩
      · intro rest ho
        refine G.unwanted rfl rfl rfl rfl ?_
        refine G.front1 ?_
        refine G.front1 ?_
        refine G.less ?_ (d25 rest ho)
        exact ⟨rfl, rfl, rfl, rfl, rfl, rfl, trivial⟩
    have d17 : ∀ (l : List Nat), Ord armoirelaw15_ReadsMeet.ds2 16 [true, true, true, true, true, true, true, true, true, true, false, false, true, false, false, false, false, false, false, false, false, false, false, false, false, false, false] l → G C271 H8 [(2, .pointer (some ⟨g1, 0, none⟩)), (3, .pointer (some ⟨g3, 0, none⟩)), (15, .bool false), (16, undef), (19, undef)] (BK 24 K_api_Touch g3 a1 :: BK 24 K_api_Touch g1 a0 :: Fr) (.inRegion ops272 l :: k273) := by
      intro  l hl
      refine G.fork [10, 13] hl rfl (And.intro ?_ (And.intro ?_ trivial))
      · intro rest ho
        refine G.unwanted rfl rfl rfl rfl ?_
        refine G.front1 ?_
        refine G.front1 ?_
        refine G.less ?_ (d23 rest ho)
        exact ⟨rfl, rfl, rfl, rfl, rfl, rfl, trivial⟩
      · intro rest ho
        refine G.unwanted rfl rfl rfl rfl ?_
        refine G.front1 ?_
        refine G.front1 ?_
        refine G.less ?_ (d25 rest ho)
        exact ⟨rfl, rfl, rfl, rfl, rfl, rfl, trivial⟩
    have d16 : ∀ (l : List Nat), Ord armoirelaw15_ReadsMeet.ds2 16 [true, true, true, true, true, true, true, true, true, true, true, false, false, false, false, false, false, false, false, false, false, false, false, false, false, false, false] l → G C271 H8 [(2, .pointer (some ⟨g1, 0, none⟩)), (3, .pointer (some ⟨g3, 0, none⟩)), (15, .bool false), (16, undef), (17, undef)] (BK 24 K_api_Touch g3 a1 :: BK 24 K_api_Touch g1 a0 :: Fr) (.inRegion ops272 l :: k273) := by
      intro  l hl
      refine G.fork [11, 12, 13] hl rfl (And.intro ?_ (And.intro ?_ (And.intro ?_ trivial)))
      · intro rest ho
        refine G.unwanted rfl rfl rfl rfl ?_
        refine G.front1 ?_
        refine G.front1 ?_
        refine G.less ?_ (d22 rest ho)
        exact ⟨rfl, rfl, rfl, rfl, trivial⟩
      · intro rest ho
        refine G.unwanted rfl rfl rfl rfl ?_
        refine G.front1 ?_
        refine G.front1 ?_
        refine G.less ?_ (d23 rest ho)
        exact ⟨rfl, rfl, rfl, rfl, rfl, rfl, trivial⟩
      · intro rest ho
        refine G.unwanted rfl rfl rfl rfl ?_
        refine G.front1 ?_
        refine G.front1 ?_
        refine G.less ?_ (d24 rest ho)
        exact ⟨rfl, rfl, rfl, rfl, rfl, rfl, trivial⟩
    have d15 : ∀ (l : List Nat), Ord armoirelaw15_ReadsMeet.ds2 17 [true, true, true, true, true, true, true, true, true, false, false, false, false, true, false, false, false, false, false, false, false, false, false, false, false, false, false] l → G C271 H8 [(2, .pointer (some ⟨g1, 0, none⟩)), (3, .pointer (some ⟨g3, 0, none⟩)), (15, .bool false), (20, undef)] (BK 24 K_api_Touch g3 a1 :: BK 24 K_api_Touch g1 a0 :: Fr) (.inRegion ops272 l :: k273) := by
      intro  l hl
      refine G.fork [9, 10, 12] hl rfl (And.intro ?_ (And.intro ?_ (And.intro ?_ trivial)))
      · intro rest ho
        refine G.unwanted rfl rfl rfl rfl ?_
        refine G.front1 ?_
        refine G.front1 ?_
        refine G.less ?_ (d18 rest ho)
        exact ⟨rfl, rfl, rfl, rfl, rfl, trivial⟩
      · intro rest ho
        refine G.unwanted rfl rfl rfl rfl ?_
        refine G.front1 ?_
        refine G.front1 ?_
        refine G.less ?_ (d20 rest ho)
        exact ⟨rfl, rfl, rfl, rfl, rfl, trivial⟩
      · intro rest ho
        refine G.unwanted rfl rfl rfl rfl ?_
        refine G.front1 ?_
        refine G.front1 ?_
        refine G.less ?_ (d21 rest ho)
        exact ⟨rfl, rfl, rfl, rfl, rfl, trivial⟩
    have d14 : ∀ (l : List Nat), Ord armoirelaw15_ReadsMeet.ds2 17 [true, true, true, true, true, true, true, true, true, false, false, false, true, false, false, false, false, false, false, false, false, false, false, false, false, false, false] l → G C271 H8 [(2, .pointer (some ⟨g1, 0, none⟩)), (3, .pointer (some ⟨g3, 0, none⟩)), (15, .bool false), (19, undef)] (BK 24 K_api_Touch g3 a1 :: BK 24 K_api_Touch g1 a0 :: Fr) (.inRegion ops272 l :: k273) := by
      intro  l hl
      refine G.fork [9, 10, 13] hl rfl (And.intro ?_ (And.intro ?_ (And.intro ?_ trivial)))
      · intro rest ho
        refine G.unwanted rfl rfl rfl rfl ?_
        refine G.front1 ?_
        refine G.front1 ?_
        refine G.less ?_ (d17 rest ho)
        exact ⟨rfl, rfl, rfl, rfl, rfl, trivial⟩
      · intro rest ho
        refine G.unwanted rfl rfl rfl rfl ?_
        refine G.front1 ?_
        refine G.front1 ?_
        refine G.less ?_ (d19 rest ho)
        exact ⟨rfl, rfl, rfl, rfl, rfl, trivial⟩
      · intro rest ho
        refine G.unwanted rfl rfl rfl rfl ?_
        refine G.front1 ?_
        refine G.front1 ?_
        refine G.less ?_ (d21 rest ho)
        exact ⟨rfl, rfl, rfl, rfl, rfl, trivial⟩
    have d13 : ∀ (l : List Nat), Ord armoirelaw15_ReadsMeet.ds2 17 [true, true, true, true, true, true, true, true, true, false, true, false, false, false, false, false, false, false, false, false, false, false, false, false, false, false, false] l → G C271 H8 [(2, .pointer (some ⟨g1, 0, none⟩)), (3, .pointer (some ⟨g3, 0, none⟩)), (15, .bool false), (17, undef)] (BK 24 K_api_Touch g3 a1 :: BK 24 K_api_Touch g1 a0 :: Fr) (.inRegion ops272 l :: k273) := by
      intro  l hl
      refine G.fork [9, 12, 13] hl rfl (And.intro ?_ (And.intro ?_ (And.intro ?_ trivial)))
      · intro rest ho
        refine G.unwanted rfl rfl rfl rfl ?_
        refine G.front1 ?_
        refine G.front1 ?_
        refine G.less ?_ (d16 rest ho)
        exact ⟨rfl, rfl, rfl, rfl, rfl, trivial⟩
      · intro rest ho
        refine G.unwanted rfl rfl rfl rfl ?_
        refine G.front1 ?_
        refine G.front1 ?_
        refine G.less ?_ (d19 rest ho)
        exact ⟨rfl, rfl, rfl, rfl, rfl, trivial⟩
      · intro rest ho
        refine G.unwanted rfl rfl rfl rfl ?_
        refine G.front1 ?_
        refine G.front1 ?_
        refine G.less ?_ (d20 rest ho)
        exact ⟨rfl, rfl, rfl, rfl, rfl, trivial⟩
    have d12 : ∀ (l : List Nat), Ord armoirelaw15_ReadsMeet.ds2 17 [true, true, true, true, true, true, true, true, true, true, false, false, false, false, false, false, false, false, false, false, false, false, false, false, false, false, false] l → G C271 H8 [(2, .pointer (some ⟨g1, 0, none⟩)), (3, .pointer (some ⟨g3, 0, none⟩)), (15, .bool false), (16, undef)] (BK 24 K_api_Touch g3 a1 :: BK 24 K_api_Touch g1 a0 :: Fr) (.inRegion ops272 l :: k273) := by
      intro  l hl
      refine G.fork [10, 12, 13] hl rfl (And.intro ?_ (And.intro ?_ (And.intro ?_ trivial)))
      · intro rest ho
        refine G.unwanted rfl rfl rfl rfl ?_
        refine G.front1 ?_
        refine G.front1 ?_
        refine G.less ?_ (d16 rest ho)
        exact ⟨rfl, rfl, rfl, rfl, rfl, trivial⟩
      · intro rest ho
        refine G.unwanted rfl rfl rfl rfl ?_
        refine G.front1 ?_
        refine G.front1 ?_
        refine G.less ?_ (d17 rest ho)
        exact ⟨rfl, rfl, rfl, rfl, rfl, trivial⟩
      · intro rest ho
        refine G.unwanted rfl rfl rfl rfl ?_
        refine G.front1 ?_
        refine G.front1 ?_
        refine G.less ?_ (d18 rest ho)
        exact ⟨rfl, rfl, rfl, rfl, rfl, trivial⟩
    have d11 : ∀ (l : List Nat), Ord armoirelaw15_ReadsMeet.ds2 18 [true, true, true, true, true, true, true, true, true, false, false, false, false, false, false, false, false, false, false, false, false, false, false, false, false, false, false] l → G C271 H8 [(2, .pointer (some ⟨g1, 0, none⟩)), (3, .pointer (some ⟨g3, 0, none⟩)), (15, .bool false)] (BK 24 K_api_Touch g3 a1 :: BK 24 K_api_Touch g1 a0 :: Fr) (.inRegion ops272 l :: k273) := by
      intro  l hl
      refine G.fork [9, 10, 12, 13] hl rfl (And.intro ?_ (And.intro ?_ (And.intro ?_ (And.intro ?_ trivial))))
      · intro rest ho
        refine G.unwanted rfl rfl rfl rfl ?_
        refine G.front1 ?_
        refine G.front1 ?_
        refine G.less ?_ (d12 rest ho)
        exact ⟨rfl, rfl, rfl, rfl, trivial⟩
      · intro rest ho
        refine G.unwanted rfl rfl rfl rfl ?_
        refine G.front1 ?_
        refine G.front1 ?_
        refine G.less ?_ (d13 rest ho)
        exact ⟨rfl, rfl, rfl, rfl, trivial⟩
      · intro rest ho
        refine G.unwanted rfl rfl rfl rfl ?_
        refine G.front1 ?_
        refine G.front1 ?_
        refine G.less ?_ (d14 rest ho)
        exact ⟨rfl, rfl, rfl, rfl, trivial⟩
      · intro rest ho
        refine G.unwanted rfl rfl rfl rfl ?_
        refine G.front1 ?_
        refine G.front1 ?_
        refine G.less ?_ (d15 rest ho)
        exact ⟨rfl, rfl, rfl, rfl, trivial⟩
    have d10 : ∀ (l : List Nat), Ord armoirelaw15_ReadsMeet.ds2 19 [true, true, true, true, true, true, true, true, false, false, false, false, false, false, false, false, false, false, false, false, false, false, false, false, false, false, false] l → G C271 H8 [(2, .pointer (some ⟨g1, 0, none⟩)), (3, .pointer (some ⟨g3, 0, none⟩)), (14, .bool false)] (BK 24 K_api_Touch g3 a1 :: BK 24 K_api_Touch g1 a0 :: Fr) (.inRegion ops272 l :: k273) := by
      intro  l hl
      refine G.fork [8] hl rfl (And.intro ?_ trivial)
      · intro rest ho
        refine G.move rfl rfl rfl rfl ?_
        refine G.front1 ?_
        refine G.front1 ?_
        refine G.less ?_ (d11 rest ho)
        exact ⟨rfl, rfl, rfl, trivial⟩
    have d9 : ∀ (l : List Nat), Ord armoirelaw15_ReadsMeet.ds2 20 [true, true, true, true, true, true, true, false, false, false, false, false, false, false, false, false, false, false, false, false, false, false, false, false, false, false, false] l → G C271 H8 [(2, .pointer (some ⟨g1, 0, none⟩)), (3, .pointer (some ⟨g3, 0, none⟩)), (8, .bool false), (13, undef)] (BK 24 K_api_Touch g3 a1 :: BK 24 K_api_Touch g1 a0 :: Fr) (.inRegion ops272 l :: k273) := by
      intro  l hl
      refine G.fork [7] hl rfl (And.intro ?_ trivial)
      · intro rest ho
        refine G.pickF rfl rfl rfl rfl rfl ?_
        refine G.front1 ?_
        refine G.front1 ?_
        refine G.less ?_ (d10 rest ho)
        exact ⟨rfl, rfl, rfl, trivial⟩
    have d8 : ∀ (l : List Nat), Ord armoirelaw15_ReadsMeet.ds2 21 [true, true, true, true, true, true, false, false, false, false, false, false, false, false, false, false, false, false, false, false, false, false, false, false, false, false, false] l → G C271 H8 [(2, .pointer (some ⟨g1, 0, none⟩)), (3, .pointer (some ⟨g3, 0, none⟩)), (8, .bool false), (10, undef), (12, undef)] (BK 24 K_api_Touch g3 a1 :: BK 24 K_api_Touch g1 a0 :: Fr) (.inRegion ops272 l :: k273) := by
      intro  l hl
      refine G.fork [6] hl rfl (And.intro ?_ trivial)
      · intro rest ho
        refine G.unwanted rfl rfl rfl rfl ?_
        refine G.front1 ?_
        refine G.front1 ?_
        refine G.less ?_ (d9 rest ho)
        exact ⟨rfl, rfl, rfl, rfl, trivial⟩
    have d7 : ∀ (l : List Nat), Ord armoirelaw15_ReadsMeet.ds2 22 [true, true, true, true, true, false, false, false, false, false, false, false, false, false, false, false, false, false, false, false, false, false, false, false, false, false, false] l → G C271 H8 [(2, .pointer (some ⟨g1, 0, none⟩)), (3, .pointer (some ⟨g3, 0, none⟩)), (8, .bool false), (10, undef), (11, undef)] (BK 24 K_api_Touch g3 a1 :: BK 24 K_api_Touch g1 a0 :: Fr) (.inRegion ops272 l :: k273) := by
      intro  l hl
      refine G.fork [5] hl rfl (And.intro ?_ trivial)
      · intro rest ho
        refine G.unwanted rfl rfl rfl rfl ?_
        refine G.front1 ?_
        refine G.front1 ?_
        refine G.less ?_ (d8 rest ho)
        exact ⟨rfl, rfl, rfl, rfl, rfl, trivial⟩
    have d6 : ∀ (l : List Nat), Ord armoirelaw15_ReadsMeet.ds2 23 [true, true, true, false, true, false, false, false, false, false, false, false, false, false, false, false, false, false, false, false, false, false, false, false, false, false, false] l → G C271 H8 [(2, .pointer (some ⟨g1, 0, none⟩)), (3, .pointer (some ⟨g3, 0, none⟩)), (8, .bool false), (9, undef), (11, undef)] (BK 24 K_api_Touch g3 a1 :: BK 24 K_api_Touch g1 a0 :: Fr) (.inRegion ops272 l :: k273) := by
      intro  l hl
      refine G.fork [3] hl rfl (And.intro ?_ trivial)
      · intro rest ho
        refine G.unwanted rfl rfl rfl rfl ?_
        refine G.front1 ?_
        refine G.front1 ?_
        refine G.less ?_ (d7 rest ho)
        exact ⟨rfl, rfl, rfl, rfl, rfl, trivial⟩
    have d5 : ∀ (l : List Nat), Ord armoirelaw15_ReadsMeet.ds2 23 [true, true, true, true, false, false, false, false, false, false, false, false, false, false, false, false, false, false, false, false, false, false, false, false, false, false, false] l → G C271 H8 [(2, .pointer (some ⟨g1, 0, none⟩)), (3, .pointer (some ⟨g3, 0, none⟩)), (8, .bool false), (10, undef)] (BK 24 K_api_Touch g3 a1 :: BK 24 K_api_Touch g1 a0 :: Fr) (.inRegion ops272 l :: k273) := by
      intro  l hl
      refine G.fork [4] hl rfl (And.intro ?_ trivial)
      · intro rest ho
        refine G.unwanted rfl rfl rfl rfl ?_
        refine G.front1 ?_
        refine G.front1 ?_
        refine G.less ?_ (d7 rest ho)
        exact ⟨rfl, rfl, rfl, rfl, rfl, trivial⟩
    have d4 : ∀ (l : List Nat), Ord armoirelaw15_ReadsMeet.ds2 24 [true, true, false, false, true, false, false, false, false, false, false, false, false, false, false, false, false, false, false, false, false, false, false, false, false, false, false] l → G C271 H8 [(2, .pointer (some ⟨g1, 0, none⟩)), (3, .pointer (some ⟨g3, 0, none⟩)), (8, .bool false), (11, undef)] (BK 24 K_api_Touch g3 a1 :: BK 24 K_api_Touch g1 a0 :: Fr) (.inRegion ops272 l :: k273) := by
      intro  l hl
      refine G.fork [2] hl rfl (And.intro ?_ trivial)
      · intro rest ho
        refine G.unwanted rfl rfl rfl rfl ?_
        refine G.front1 ?_
        refine G.front1 ?_
        refine G.less ?_ (d6 rest ho)
        exact ⟨rfl, rfl, rfl, rfl, rfl, trivial⟩
    have d3 : ∀ (l : List Nat), Ord armoirelaw15_ReadsMeet.ds2 24 [true, true, true, false, false, false, false, false, false, false, false, false, false, false, false, false, false, false, false, false, false, false, false, false, false, false, false] l → G C271 H8 [(2, .pointer (some ⟨g1, 0, none⟩)), (3, .pointer (some ⟨g3, 0, none⟩)), (8, .bool false), (9, undef)] (BK 24 K_api_Touch g3 a1 :: BK 24 K_api_Touch g1 a0 :: Fr) (.inRegion ops272 l :: k273) := by
      intro  l hl
      refine G.fork [3, 4] hl rfl (And.intro ?_ (And.intro ?_ trivial))
      · intro rest ho
        refine G.unwanted rfl rfl rfl rfl ?_
        refine G.front1 ?_
        refine G.front1 ?_
        refine G.less ?_ (d5 rest ho)
        exact ⟨rfl, rfl, rfl, rfl, trivial⟩
      · intro rest ho
        refine G.unwanted rfl rfl rfl rfl ?_
        refine G.front1 ?_
        refine G.front1 ?_
        refine G.less ?_ (d6 rest ho)
        exact ⟨rfl, rfl, rfl, rfl, rfl, trivial⟩
    have d2 : ∀ (l : List Nat), Ord armoirelaw15_ReadsMeet.ds2 25 [true, true, false, false, false, false, false, false, false, false, false, false, false, false, false, false, false, false, false, false, false, false, false, false, false, false, false] l → G C271 H8 [(2, .pointer (some ⟨g1, 0, none⟩)), (3, .pointer (some ⟨g3, 0, none⟩)), (8, .bool false)] (BK 24 K_api_Touch g3 a1 :: BK 24 K_api_Touch g1 a0 :: Fr) (.inRegion ops272 l :: k273) := by
      intro  l hl
      refine G.fork [2, 4] hl rfl (And.intro ?_ (And.intro ?_ trivial))
      · intro rest ho
        refine G.unwanted rfl rfl rfl rfl ?_
        refine G.front1 ?_
        refine G.front1 ?_
        refine G.less ?_ (d3 rest ho)
        exact ⟨rfl, rfl, rfl, rfl, trivial⟩
      · intro rest ho
        refine G.unwanted rfl rfl rfl rfl ?_
        refine G.front1 ?_
        refine G.front1 ?_
        refine G.less ?_ (d4 rest ho)
        exact ⟨rfl, rfl, rfl, rfl, trivial⟩
    have d1 : ∀ (l : List Nat), Ord armoirelaw15_ReadsMeet.ds2 26 [true, false, false, false, false, false, false, false, false, false, false, false, false, false, false, false, false, false, false, false, false, false, false, false, false, false, false] l → G C271 H8 [(2, .pointer (some ⟨g1, 0, none⟩)), (3, .pointer (some ⟨g3, 0, none⟩)), (7, .bool t5)] (BK 24 K_api_Touch g3 a1 :: BK 24 K_api_Touch g1 a0 :: Fr) (.inRegion ops272 l :: k273) := by
      intro  l hl
      refine G.fork [1] hl rfl (And.intro ?_ trivial)
      · intro rest ho
        refine G.move rfl rfl rfl rfl ?_
        refine G.same (d := 8) (v := .bool false) rfl (by simp [k11]) ?_
        refine G.front1 ?_
        refine G.front1 ?_
        refine G.less ?_ (d2 rest ho)
        exact ⟨rfl, rfl, rfl, trivial⟩
    have d0 : ∀ (l : List Nat), Ord armoirelaw15_ReadsMeet.ds2 27 [false, false, false, false, false, false, false, false, false, false, false, false, false, false, false, false, false, false, false, false, false, false, false, false, false, false, false] l → G C271 H8 [(2, .pointer (some ⟨g1, 0, none⟩)), (3, .pointer (some ⟨g3, 0, none⟩)), (5, .bool t5)] (BK 24 K_api_Touch g3 a1 :: BK 24 K_api_Touch g1 a0 :: Fr) (.inRegion ops272 l :: k273) := by
      intro  l hl
      refine G.fork [0] hl rfl (And.intro ?_ trivial)
      · intro rest ho
        refine G.move rfl rfl rfl rfl ?_
        refine G.front1 ?_
        refine G.front1 ?_
        refine G.less ?_ (d1 rest ho)
        exact ⟨rfl, rfl, rfl, trivial⟩
    intro l hl
    refine G.less ?_ (d0 l hl)
    exact ⟨rfl, rfl, rfl, trivial⟩
end Go.Proofs.Ytpiliblfmpgjeaa
