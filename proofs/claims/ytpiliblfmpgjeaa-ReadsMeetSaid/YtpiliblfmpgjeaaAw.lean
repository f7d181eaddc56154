/- Own text, printed by wip/gen: the walks. -/
import Derived.Test.YtpiliblfmpgjeaaAw1
namespace Go.Proofs.Ytpiliblfmpgjeaa
open Go K
set_option linter.unusedVariables false
set_option maxHeartbeats 1000000
set_option maxRecDepth 20000 in
theorem armoirelaw15_ReadsApart.ok {O : World} {H : PH} {Fr : List Res} (C0 : List Value) (a0 : api_Touch) (F0 : K_api_Touch.R H a0 C0) (C1 : List Value) (a1 : api_Touch) (F1 : K_api_Touch.R H a1 C1) {r : Bool} (h : armoirelaw15_ReadsApart.f a0 a1 = some r) :
    Ctr Try.prog 4 [.agg C0.toArray, .agg C1.toArray] O H Fr (fun v H' L' => v = .bool r ∧ Fr = L') := by
  refine Ctr.start (n := 59) Try.func4 rfl Try.ntmps4 rfl rfl ?_
  unfold armoirelaw15_ReadsApart.f at h
  refine G.seq ?_
  refine G.region (l := [0, 1, 2]) rfl ?_
  refine G.box (dk := K_api_Touch) (y := a0) rfl rfl rfl rfl (VR.A F0) ?_
  intro g1
  refine G.box (dk := K_api_Touch) (y := a1) rfl rfl rfl rfl (VR.A F1) ?_
  intro g3
  refine G.assign rfl rfl rfl rfl ?_
  refine G.regionEnd ?_
  refine G.seq ?_
  refine G.region (l := [0, 1]) rfl ?_
  obtain ⟨t5, e6, h⟩ := bindS h
  refine G.call rfl rfl rfl rfl call9 (armoirelaw15_live.ok  e6) ?_
  rintro v7 H8 L10 l9 ⟨rfl, rfl⟩
  refine G.assign rfl rfl rfl rfl ?_
  refine G.regionEnd ?_
  refine G.seq ?_
  refine G.seq ?_
  refine G.region (l := [0, 1, 2, 3, 4, 5, 6, 7]) rfl ?_
  refine G.loadA (df := K_api_Touch) (y := a0) rfl rfl rfl rfl ty24 rfl (fun w hs => Rd.bk (Lens.id _ _) hs (j := 1) rfl) ?_
  intro cs11 f12
  obtain ⟨t13, e14, h⟩ := bindS h
  refine G.call rfl rfl rfl rfl call10 (reads_Check.ok cs11 a0 f12 e14) ?_
  rintro v15 H16 L18 l17 ⟨rfl, rfl⟩
  refine G.cmp (t13 ≠ 0) rfl rfl rfl rfl rfl rfl Iff.rfl ?_
  refine G.move rfl rfl rfl rfl ?_
  refine G.rest (l1 := [4, 5, 6, 7]) (l2 := []) (fun GG K => ∀ (H27 : PH) (l28 : PH.le H16 H27) (b29 : Bool), armoirelaw15_ReadsApart.j0 a0 a1 t5 b29 = some r → GG H27 [(2, .pointer (some ⟨g1, 0, none⟩)), (3, .pointer (some ⟨g3, 0, none⟩)), (5, .bool t5), (14, .bool b29)] (BK 24 K_api_Touch g3 a1 :: BK 24 K_api_Touch g1 a0 :: Fr) K) ?_ ?_
  · intro H27 l28 b29 h
    unfold armoirelaw15_ReadsApart.j0 at h
    refine G.regionEnd ?_
    refine G.cond rfl (fun k246 => ?_) (fun k246 => ?_)
    · replace h := ifT h k246
      refine G.seq ?_
      refine G.region (l := [0, 1, 2, 3, 4, 5, 6, 7]) rfl ?_
      refine G.move rfl rfl rfl rfl ?_
      refine G.move rfl rfl rfl rfl ?_
      refine G.rest (l1 := [2, 3, 4, 5, 6]) (l2 := [7]) (fun GG K => ∀ (H65 : PH) (l66 : PH.le H27 H65) (b67 : Bool), armoirelaw15_ReadsApart.j1 b67 = some r → GG H65 [(21, .bool b67)] (BK 24 K_api_Touch g3 a1 :: BK 24 K_api_Touch g1 a0 :: Fr) K) ?_ ?_
      · intro H65 l66 b67 h
        unfold armoirelaw15_ReadsApart.j1 at h
        refine G.assign rfl rfl rfl rfl ?_
        refine G.regionEnd ?_
        refine G.drop ?_
        refine G.drop ?_
        obtain rfl := Option.some.inj h
        exact G.ret1 Try.func4 rfl rfl (fun w hs => ⟨_, _, _, rfl, (PH.le_trans (PH.le_trans (PH.le_trans l9 l17) l28) l66), ⟨rfl, rfl⟩, hs⟩)
      intro J68
      refine G.splitB (d := 16) rfl (fun k79 => ?_) (fun k79 => ?_)
      · replace h := ifT h k79
        refine G.loadA (df := K_api_Touch) (y := a0) rfl rfl rfl rfl ty24 rfl (fun w hs => Rd.bk (Lens.id _ _) hs (j := 1) rfl) ?_
        intro cs69 f70
        refine G.loadA (df := K_api_Touch) (y := a1) rfl rfl rfl rfl ty24 rfl (fun w hs => Rd.bk (Lens.id _ _) hs (j := 0) rfl) ?_
        intro cs71 f72
        obtain ⟨t73, e74, h⟩ := bindS h
        refine G.call rfl rfl rfl rfl call12 (reads_Meet.ok cs69 a0 f70 cs71 a1 f72 e74) ?_
        rintro v75 H76 L78 l77 ⟨rfl, rfl⟩
        refine G.not rfl rfl rfl rfl rfl ?_
        refine G.pickT rfl rfl rfl rfl rfl ?_
        refine G.front1 ?_
        refine G.front1 ?_
        refine G.less ?_ (J68 H76 l77 (!t73) h)
        exact ⟨rfl, trivial⟩
      · replace h := ifFB h k79
        refine G.unwanted rfl rfl rfl rfl ?_
        refine G.unwanted rfl rfl rfl rfl ?_
        refine G.unwanted rfl rfl rfl rfl ?_
        refine G.unwanted rfl rfl rfl rfl ?_
        refine G.pickF rfl rfl rfl rfl rfl ?_
        refine G.front1 ?_
        refine G.front1 ?_
        refine G.less ?_ (J68 H27 (PH.le_refl _) false h)
        exact ⟨rfl, trivial⟩
    · replace h := ifFB h k246
      refine G.skip ?_
      refine G.seq ?_
      refine G.seq ?_
      refine G.region (l := [0, 1, 2, 3, 4]) rfl ?_
      refine G.field (off' := 1) rfl rfl rfl rfl Try.underlying24 rfl sz22 rfl rfl ?_
      refine G.loadI (y := a0.ino) rfl rfl rfl rfl ty22 (fun w hs => Rd.bk (api_Touch.L_ino _) hs (j := 1) rfl) ?_
      refine G.field (off' := 1) rfl rfl rfl rfl Try.underlying24 rfl sz22 rfl rfl ?_
      refine G.loadI (y := a1.ino) rfl rfl rfl rfl ty22 (fun w hs => Rd.bk (api_Touch.L_ino _) hs (j := 0) rfl) ?_
      refine G.cmp (a0.ino ≠ a1.ino) rfl rfl rfl rfl rfl rfl Iff.rfl ?_
      refine G.regionEnd ?_
      refine G.condP rfl (fun k245 => ?_) (fun k245 => ?_)
      · replace h := ifT h k245
        refine G.seq ?_
        refine G.region (l := [0, 1, 2, 3, 4, 5, 6, 7]) rfl ?_
        refine G.move rfl rfl rfl rfl ?_
        refine G.move rfl rfl rfl rfl ?_
        refine G.rest (l1 := [2, 3, 4, 5, 6]) (l2 := [7]) (fun GG K => ∀ (H115 : PH) (l116 : PH.le H27 H115) (b117 : Bool), armoirelaw15_ReadsApart.j2 b117 = some r → GG H115 [(33, .bool b117)] (BK 24 K_api_Touch g3 a1 :: BK 24 K_api_Touch g1 a0 :: Fr) K) ?_ ?_
        · intro H115 l116 b117 h
          unfold armoirelaw15_ReadsApart.j2 at h
          refine G.assign rfl rfl rfl rfl ?_
          refine G.regionEnd ?_
          refine G.drop ?_
          refine G.drop ?_
          obtain rfl := Option.some.inj h
          exact G.ret1 Try.func4 rfl rfl (fun w hs => ⟨_, _, _, rfl, (PH.le_trans (PH.le_trans (PH.le_trans l9 l17) l28) l116), ⟨rfl, rfl⟩, hs⟩)
        intro J118
        refine G.splitB (d := 28) rfl (fun k129 => ?_) (fun k129 => ?_)
        · replace h := ifT h k129
          refine G.loadA (df := K_api_Touch) (y := a0) rfl rfl rfl rfl ty24 rfl (fun w hs => Rd.bk (Lens.id _ _) hs (j := 1) rfl) ?_
          intro cs119 f120
          refine G.loadA (df := K_api_Touch) (y := a1) rfl rfl rfl rfl ty24 rfl (fun w hs => Rd.bk (Lens.id _ _) hs (j := 0) rfl) ?_
          intro cs121 f122
          obtain ⟨t123, e124, h⟩ := bindS h
          refine G.call rfl rfl rfl rfl call12 (reads_Meet.ok cs119 a0 f120 cs121 a1 f122 e124) ?_
          rintro v125 H126 L128 l127 ⟨rfl, rfl⟩
          refine G.not rfl rfl rfl rfl rfl ?_
          refine G.pickT rfl rfl rfl rfl rfl ?_
          refine G.front1 ?_
          refine G.front1 ?_
          refine G.less ?_ (J118 H126 l127 (!t123) h)
          exact ⟨rfl, trivial⟩
        · replace h := ifFB h k129
          refine G.unwanted rfl rfl rfl rfl ?_
          refine G.unwanted rfl rfl rfl rfl ?_
          refine G.unwanted rfl rfl rfl rfl ?_
          refine G.unwanted rfl rfl rfl rfl ?_
          refine G.pickF rfl rfl rfl rfl rfl ?_
          refine G.front1 ?_
          refine G.front1 ?_
          refine G.less ?_ (J118 H27 (PH.le_refl _) false h)
          exact ⟨rfl, trivial⟩
      · replace h := ifF h k245
        refine G.skip ?_
        refine G.seq ?_
        refine G.seq ?_
        refine G.region (l := [0, 1, 2, 3, 4, 5, 6, 7]) rfl ?_
        refine G.loadA (df := K_api_Touch) (y := a0) rfl rfl rfl rfl ty24 rfl (fun w hs => Rd.bk (Lens.id _ _) hs (j := 1) rfl) ?_
        intro cs130 f131
        refine G.loadA (df := K_api_Touch) (y := a1) rfl rfl rfl rfl ty24 rfl (fun w hs => Rd.bk (Lens.id _ _) hs (j := 0) rfl) ?_
        intro cs132 f133
        refine G.eqA (dk := K_api_Touch) (x := a0) (y := a1) rfl rfl rfl rfl rfl rfl (by kernel_rfl) eq24 rfl f131 f133 ?_
        refine G.move rfl rfl rfl rfl ?_
        refine G.rest (l1 := [4, 5, 6, 7]) (l2 := []) (fun GG K => ∀ (H134 : PH) (l135 : PH.le H27 H134) (b136 : Bool), armoirelaw15_ReadsApart.j3 a0 a1 t5 b136 = some r → GG H134 [(2, .pointer (some ⟨g1, 0, none⟩)), (3, .pointer (some ⟨g3, 0, none⟩)), (5, .bool t5), (41, .bool b136)] (BK 24 K_api_Touch g3 a1 :: BK 24 K_api_Touch g1 a0 :: Fr) K) ?_ ?_
        · intro H134 l135 b136 h
          unfold armoirelaw15_ReadsApart.j3 at h
          refine G.regionEnd ?_
          refine G.cond rfl (fun k242 => ?_) (fun k242 => ?_)
          · replace h := ifT h k242
            refine G.seq ?_
            refine G.region (l := [0, 1, 2, 3, 4, 5, 6]) rfl ?_
            refine G.move rfl rfl rfl rfl ?_
            refine G.move rfl rfl rfl rfl ?_
            refine G.rest (l1 := [2, 3, 4, 5]) (l2 := [6]) (fun GG K => ∀ (H172 : PH) (l173 : PH.le H134 H172) (b174 : Bool), armoirelaw15_ReadsApart.j4 b174 = some r → GG H172 [(47, .bool b174)] (BK 24 K_api_Touch g3 a1 :: BK 24 K_api_Touch g1 a0 :: Fr) K) ?_ ?_
            · intro H172 l173 b174 h
              unfold armoirelaw15_ReadsApart.j4 at h
              refine G.assign rfl rfl rfl rfl ?_
              refine G.regionEnd ?_
              refine G.drop ?_
              refine G.drop ?_
              obtain rfl := Option.some.inj h
              exact G.ret1 Try.func4 rfl rfl (fun w hs => ⟨_, _, _, rfl, (PH.le_trans (PH.le_trans (PH.le_trans (PH.le_trans l9 l17) l28) l135) l173), ⟨rfl, rfl⟩, hs⟩)
            intro J175
            refine G.splitB (d := 43) rfl (fun k186 => ?_) (fun k186 => ?_)
            · replace h := ifT h k186
              refine G.loadA (df := K_api_Touch) (y := a0) rfl rfl rfl rfl ty24 rfl (fun w hs => Rd.bk (Lens.id _ _) hs (j := 1) rfl) ?_
              intro cs176 f177
              refine G.loadA (df := K_api_Touch) (y := a1) rfl rfl rfl rfl ty24 rfl (fun w hs => Rd.bk (Lens.id _ _) hs (j := 0) rfl) ?_
              intro cs178 f179
              obtain ⟨t180, e181, h⟩ := bindS h
              refine G.call rfl rfl rfl rfl call12 (reads_Meet.ok cs176 a0 f177 cs178 a1 f179 e181) ?_
              rintro v182 H183 L185 l184 ⟨rfl, rfl⟩
              refine G.pickT rfl rfl rfl rfl rfl ?_
              refine G.front1 ?_
              refine G.front1 ?_
              refine G.less ?_ (J175 H183 l184 t180 h)
              exact ⟨rfl, trivial⟩
            · replace h := ifFB h k186
              refine G.unwanted rfl rfl rfl rfl ?_
              refine G.unwanted rfl rfl rfl rfl ?_
              refine G.unwanted rfl rfl rfl rfl ?_
              refine G.pickF rfl rfl rfl rfl rfl ?_
              refine G.front1 ?_
              refine G.front1 ?_
              refine G.less ?_ (J175 H134 (PH.le_refl _) false h)
              exact ⟨rfl, trivial⟩
          · replace h := ifFB h k242
            refine G.skip ?_
            refine G.seq ?_
            refine G.region (l := [0, 1, 2, 3, 4, 5, 6, 7, 8, 9, 10, 11]) rfl ?_
            refine G.move rfl rfl rfl rfl ?_
            refine G.move rfl rfl rfl rfl ?_
            refine G.rest (l1 := [2, 3, 4, 5, 6, 7, 8, 9, 10]) (l2 := [11]) (fun GG K => ∀ (H212 : PH) (l213 : PH.le H134 H212) (b214 : Bool), armoirelaw15_ReadsApart.j5 b214 = some r → GG H212 [(58, .bool b214)] (BK 24 K_api_Touch g3 a1 :: BK 24 K_api_Touch g1 a0 :: Fr) K) ?_ ?_
            · intro H212 l213 b214 h
              unfold armoirelaw15_ReadsApart.j5 at h
              refine G.assign rfl rfl rfl rfl ?_
              refine G.regionEnd ?_
              refine G.drop ?_
              refine G.drop ?_
              obtain rfl := Option.some.inj h
              exact G.ret1 Try.func4 rfl rfl (fun w hs => ⟨_, _, _, rfl, (PH.le_trans (PH.le_trans (PH.le_trans (PH.le_trans l9 l17) l28) l135) l213), ⟨rfl, rfl⟩, hs⟩)
            intro J215
            refine G.splitB (d := 49) rfl (fun k241 => ?_) (fun k241 => ?_)
            · replace h := ifT h k241
              refine G.field (off' := 0) rfl rfl rfl rfl Try.underlying24 rfl sz3 rfl rfl ?_
              refine G.loadI (y := a1.kind) rfl rfl rfl rfl ty3 (fun w hs => Rd.bk (api_Touch.L_kind _) hs (j := 0) rfl) ?_
              refine G.cmp (a1.kind ≠ 7) rfl rfl rfl rfl rfl rfl Iff.rfl ?_
              refine G.move rfl rfl rfl rfl ?_
              refine G.rest (l1 := [6, 7, 8, 9]) (l2 := [10, 11]) (fun GG K => ∀ (H226 : PH) (l227 : PH.le H134 H226) (b228 : Bool), armoirelaw15_ReadsApart.j6 b228 = some r → GG H226 [(49, .bool true), (57, .bool b228)] (BK 24 K_api_Touch g3 a1 :: BK 24 K_api_Touch g1 a0 :: Fr) K) ?_ ?_
              · intro H226 l227 b228 h
                unfold armoirelaw15_ReadsApart.j6 at h
                refine G.pickT rfl rfl rfl rfl rfl ?_
                refine G.front1 ?_
                refine G.front1 ?_
                refine G.less ?_ (J215 H226 l227 b228 h)
                exact ⟨rfl, trivial⟩
              intro J229
              refine G.splitP (d := 53) rfl (fun k240 => ?_) (fun k240 => ?_)
              · replace h := ifT h k240
                refine G.unwanted rfl rfl rfl rfl ?_
                refine G.unwanted rfl rfl rfl rfl ?_
                refine G.unwanted rfl rfl rfl rfl ?_
                refine G.pickT rfl rfl rfl rfl rfl ?_
                refine G.front1 ?_
                refine G.front1 ?_
                refine G.less ?_ (J229 H134 (PH.le_refl _) true h)
                exact ⟨rfl, rfl, trivial⟩
              · replace h := ifF h k240
                refine G.loadA (df := K_api_Touch) (y := a0) rfl rfl rfl rfl ty24 rfl (fun w hs => Rd.bk (Lens.id _ _) hs (j := 1) rfl) ?_
                intro cs230 f231
                refine G.loadA (df := K_api_Touch) (y := a1) rfl rfl rfl rfl ty24 rfl (fun w hs => Rd.bk (Lens.id _ _) hs (j := 0) rfl) ?_
                intro cs232 f233
                obtain ⟨t234, e235, h⟩ := bindS h
                refine G.call rfl rfl rfl rfl call12 (reads_Meet.ok cs230 a0 f231 cs232 a1 f233 e235) ?_
                rintro v236 H237 L239 l238 ⟨rfl, rfl⟩
                refine G.pickF rfl rfl rfl rfl rfl ?_
                refine G.front1 ?_
                refine G.front1 ?_
                refine G.less ?_ (J229 H237 l238 t234 h)
                exact ⟨rfl, rfl, trivial⟩
            · replace h := ifFB h k241
              refine G.unwanted rfl rfl rfl rfl ?_
              refine G.unwanted rfl rfl rfl rfl ?_
              refine G.unwanted rfl rfl rfl rfl ?_
              refine G.unwanted rfl rfl rfl rfl ?_
              refine G.unwanted rfl rfl rfl rfl ?_
              refine G.unwanted rfl rfl rfl rfl ?_
              refine G.unwanted rfl rfl rfl rfl ?_
              refine G.unwanted rfl rfl rfl rfl ?_
              refine G.pickF rfl rfl rfl rfl rfl ?_
              refine G.front1 ?_
              refine G.front1 ?_
              refine G.less ?_ (J215 H134 (PH.le_refl _) false h)
              exact ⟨rfl, trivial⟩
        intro J243
        refine G.splitP (d := 37) rfl (fun k244 => ?_) (fun k244 => ?_)
        · replace h := ifT h k244
          refine G.field (off' := 0) rfl rfl rfl rfl Try.underlying24 rfl sz3 rfl rfl ?_
          refine G.loadI (y := a0.kind) rfl rfl rfl rfl ty3 (fun w hs => Rd.bk (api_Touch.L_kind _) hs (j := 1) rfl) ?_
          refine G.cmp (a0.kind ≠ 6) rfl rfl rfl rfl rfl rfl Iff.rfl ?_
          refine G.pickT rfl rfl rfl rfl rfl ?_
          refine G.front1 ?_
          refine G.front1 ?_
          refine G.less ?_ (J243 H27 (PH.le_refl _) (decide (a0.kind ≠ 6)) h)
          exact ⟨rfl, rfl, rfl, rfl, trivial⟩
        · replace h := ifF h k244
          refine G.unwanted rfl rfl rfl rfl ?_
          refine G.unwanted rfl rfl rfl rfl ?_
          refine G.unwanted rfl rfl rfl rfl ?_
          refine G.pickF rfl rfl rfl rfl rfl ?_
          refine G.front1 ?_
          refine G.front1 ?_
          refine G.less ?_ (J243 H27 (PH.le_refl _) false h)
          exact ⟨rfl, rfl, rfl, rfl, trivial⟩
  intro J247
  refine G.splitP (d := 10) rfl (fun k256 => ?_) (fun k256 => ?_)
  · replace h := ifT h k256
    refine G.unwanted rfl rfl rfl rfl ?_
    refine G.unwanted rfl rfl rfl rfl ?_
    refine G.unwanted rfl rfl rfl rfl ?_
    refine G.pickT rfl rfl rfl rfl rfl ?_
    refine G.front1 ?_
    refine G.front1 ?_
    refine G.less ?_ (J247 H16 (PH.le_refl _) true h)
    exact ⟨rfl, rfl, rfl, rfl, trivial⟩
  · replace h := ifF h k256
    refine G.loadA (df := K_api_Touch) (y := a1) rfl rfl rfl rfl ty24 rfl (fun w hs => Rd.bk (Lens.id _ _) hs (j := 0) rfl) ?_
    intro cs248 f249
    obtain ⟨t250, e251, h⟩ := bindS h
    refine G.call rfl rfl rfl rfl call10 (reads_Check.ok cs248 a1 f249 e251) ?_
    rintro v252 H253 L255 l254 ⟨rfl, rfl⟩
    refine G.cmp (t250 ≠ 0) rfl rfl rfl rfl rfl rfl Iff.rfl ?_
    refine G.pickF rfl rfl rfl rfl rfl ?_
    refine G.front1 ?_
    refine G.front1 ?_
    refine G.less ?_ (J247 H253 l254 (decide (t250 ≠ 0)) h)
    exact ⟨rfl, rfl, rfl, rfl, trivial⟩
end Go.Proofs.Ytpiliblfmpgjeaa
