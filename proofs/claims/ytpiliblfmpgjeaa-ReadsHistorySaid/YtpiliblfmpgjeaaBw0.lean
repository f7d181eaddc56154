/- Own text, printed by wip/g2: the walks. -/
import Derived.Test.YtpiliblfmpgjeaaBf
namespace Go.Proofs.Ytpiliblfmpgjeaa
open Go K
set_option linter.unusedVariables false
set_option maxHeartbeats 1000000
def reads_Check.reg10_5 (B : List (Nat × Value)) : Reg := ⟨[[], [0], [], [2], [0, 1], [4, 1, 0, 1], [0, 1, 2, 3, 4, 5], [6, 3, 5, 0, 1, 2, 3, 4, 5]], [some 13, some 14, some 15, some 16, some 17, none, some 18, none], B⟩
theorem reads_Check.reg10_5_ap (B : List (Nat × Value)) : (reads_Check.reg10_5 B).apart = true := rfl
set_option maxRecDepth 20000 in
theorem reads_Check.ok {O : World} {H : PH} {Fr : List Res} (a0 : S_api_Touch) {r : Int} (h : reads_Check.f a0 = some r) :
    CtrS Try.prog 10 [.agg (S_api_Touch.enc a0).toArray] O H (Fr) (fun v L' => v = .int .i64 r ∧ Fr = L') := by
  refine CtrS.start (n := 56) Try.func10 rfl Try.ntmps10 rfl rfl ?_
  unfold reads_Check.f at h
  refine G.seq ?_
  refine G.region (l := [0, 1]) rfl ?_
  refine G.box (dk := K_S_api_Touch) (y := a0) rfl rfl rfl rfl (VR.A (cs := S_api_Touch.enc a0) (K_S_api_Touch.of a0)) ?_
  intro g1
  refine G.assign rfl rfl rfl rfl ?_
  refine G.regionEnd ?_
  refine G.seq ?_
  refine G.region (l := [0, 1, 2, 3, 4, 5, 6]) rfl ?_
  refine G.field (off' := 0) rfl rfl rfl rfl Try.underlying24 rfl sz3 rfl rfl ?_
  refine G.loadI (y := a0.kind) rfl rfl rfl rfl ty3 (fun w hs => Rd.bk (S_api_Touch.L_kind _) hs (j := 0) rfl) ?_
  refine G.field (off' := 1) rfl rfl rfl rfl Try.underlying24 rfl sz22 rfl rfl ?_
  refine G.loadI (y := a0.ino) rfl rfl rfl rfl ty22 (fun w hs => Rd.bk (S_api_Touch.L_ino _) hs (j := 0) rfl) ?_
  refine G.build (z := .agg (S_api_Touch.enc (S_api_Touch.mk 0 0 [] 0 0)).toArray) (pl := [(0, 1), (1, 1), (2, 1), (3, 1), (4, 1)]) (cs := S_api_Touch.enc (S_api_Touch.mk a0.kind a0.ino [] 0 0)) rfl rfl rfl Try.underlying24 (by kernel_rfl) rfl (by kernel_rfl) (by kernel_rfl) rfl ?_
  refine G.alloc (dk := K_S_api_Touch) (x0 := (S_api_Touch.mk 0 0 [] 0 0)) (z := .agg (S_api_Touch.enc (S_api_Touch.mk 0 0 [] 0 0)).toArray) (cs := S_api_Touch.enc (S_api_Touch.mk 0 0 [] 0 0)) rfl rfl rfl (by kernel_rfl) rfl (fun H => K_S_api_Touch.of (S_api_Touch.mk 0 0 [] 0 0)) ?_
  intro g3
  refine G.store (df := K_S_api_Touch) (y := (S_api_Touch.mk a0.kind a0.ino [] 0 0)) (x1 := (S_api_Touch.mk a0.kind a0.ino [] 0 0)) rfl rfl rfl rfl (Lens.id _ _) (VR.A (cs := S_api_Touch.enc (S_api_Touch.mk a0.kind a0.ino [] 0 0)) (K_S_api_Touch.of (S_api_Touch.mk a0.kind a0.ino [] 0 0))) sz24 rfl ?_
  refine G.regionEnd ?_
  refine G.seq ?_
  refine G.seq ?_
  refine G.region (l := [0, 1]) rfl ?_
  refine G.field (off' := 0) rfl rfl rfl rfl Try.underlying24 rfl sz3 rfl rfl ?_
  refine G.loadI (y := a0.kind) rfl rfl rfl rfl ty3 (fun w hs => Rd.bk (S_api_Touch.L_kind _) hs (j := 1) rfl) ?_
  refine G.regionEnd ?_
  refine G.block ?_
  refine G.seq ?_
  refine G.region (l := [0, 1]) rfl ?_
  refine G.cmp (a0.kind = 4) rfl rfl rfl rfl rfl rfl Iff.rfl ?_
  refine G.assign rfl rfl rfl rfl ?_
  refine G.regionEnd ?_
  refine G.tail (fun GG K => ∀ (x90 : Str) (x91 : Int) (x92 : Int), reads_Check.j0 a0 x90 x91 x92 = some r → GG H [(1, .pointer (some ⟨g1, 0, none⟩)), (3, .pointer (some ⟨g3, 0, none⟩))] (BK 24 K_S_api_Touch g1 a0 :: BK 24 K_S_api_Touch g3 (S_api_Touch.mk a0.kind a0.ino x90 x91 x92) :: Fr) K) ?_ ?_
  · intro x90 x91 x92 h
    unfold reads_Check.j0 at h
    refine G.inBlock ?_
    refine G.seq ?_
    refine G.seq ?_
    refine G.region (l := [0, 1, 2, 3, 4, 5, 6, 7]) rfl ?_
    refine G.field (off' := 1) rfl rfl rfl rfl Try.underlying24 rfl sz22 rfl rfl ?_
    refine G.loadI (y := a0.ino) rfl rfl rfl rfl ty22 (fun w hs => Rd.bk (S_api_Touch.L_ino _) hs (j := 0) rfl) ?_
    refine G.cmp (a0.ino = 0) rfl rfl rfl rfl rfl rfl Iff.rfl ?_
    refine G.move rfl rfl rfl rfl ?_
    refine G.splitP (d := 51) rfl (fun k102 => ?_) (fun k102 => ?_)
    · replace h := ifT h k102
      refine G.unwanted rfl rfl rfl rfl ?_
      refine G.unwanted rfl rfl rfl rfl ?_
      refine G.unwanted rfl rfl rfl rfl ?_
      refine G.pickT rfl rfl rfl rfl rfl ?_
      refine G.regionEnd ?_
      refine G.condT rfl ?_
      refine G.seq ?_
      refine G.region (l := [0]) rfl ?_
      refine G.assign rfl rfl rfl rfl ?_
      refine G.regionEnd ?_
      refine G.drop ?_
      refine G.drop ?_
      obtain rfl := Option.some.inj h
      exact G.ret1 Try.func10 rfl rfl (fun w hs => ⟨_, _, rfl, ⟨rfl, rfl⟩, hs⟩)
    · replace h := ifF h k102
      refine G.loadA (df := K_S_api_Touch) (y := a0) rfl rfl rfl rfl ty24 rfl (fun w hs => Rd.bk (Lens.id _ _) hs (j := 0) rfl) ?_
      intro cs97 f98
      obtain rfl := K_S_api_Touch.open f98
      refine G.loadA (df := K_S_api_Touch) (y := (S_api_Touch.mk a0.kind a0.ino x90 x91 x92)) rfl rfl rfl rfl ty24 rfl (fun w hs => Rd.bk (Lens.id _ _) hs (j := 1) rfl) ?_
      intro cs99 f100
      obtain rfl := K_S_api_Touch.open f100
      refine G.neqA (dk := K_S_api_Touch) (x := a0) (y := (S_api_Touch.mk a0.kind a0.ino x90 x91 x92)) rfl rfl rfl rfl rfl rfl (by kernel_rfl) eq24 rfl (K_S_api_Touch.of a0) (K_S_api_Touch.of (S_api_Touch.mk a0.kind a0.ino x90 x91 x92)) ?_
      refine G.pickF rfl rfl rfl rfl rfl ?_
      refine G.regionEnd ?_
      refine G.condP rfl (fun k101 => ?_) (fun k101 => ?_)
      · replace h := ifT h k101
        refine G.seq ?_
        refine G.region (l := [0]) rfl ?_
        refine G.assign rfl rfl rfl rfl ?_
        refine G.regionEnd ?_
        refine G.drop ?_
        refine G.drop ?_
        obtain rfl := Option.some.inj h
        exact G.ret1 Try.func10 rfl rfl (fun w hs => ⟨_, _, rfl, ⟨rfl, rfl⟩, hs⟩)
      · replace h := ifF h k101
        refine G.skip ?_
        refine G.seq ?_
        refine G.region (l := [0]) rfl ?_
        refine G.assign rfl rfl rfl rfl ?_
        refine G.regionEnd ?_
        refine G.drop ?_
        refine G.drop ?_
        obtain rfl := Option.some.inj h
        exact G.ret1 Try.func10 rfl rfl (fun w hs => ⟨_, _, rfl, ⟨rfl, rfl⟩, hs⟩)
  intro J103
  refine G.condP rfl (fun k196 => ?_) (fun k196 => ?_)
  · replace h := ifT h k196
    refine G.seq ?_
    refine G.draw [[], [0], [], [2], [0, 1], [4, 1, 0, 1], [0, 1, 2, 3, 4, 5], [6, 3, 5, 0, 1, 2, 3, 4, 5]] 8 [0, 1, 2, 3, 4, 5, 6, 7] [0, 1, 0, 1, 2, 3, 4, 5] [0, 1, 4, 5, 2, 3, 6, 7] rfl (by kernel_rfl) (by kernel_rfl) (by kernel_rfl) (by kernel_rfl) ?_
    intro C107 ops108 k109
    let R110 : Reg := reads_Check.reg10_5 [(1, .pointer (some ⟨g1, 0, none⟩)), (3, .pointer (some ⟨g3, 0, none⟩))]
    have P113 : ∀ (m : Nat) (L : List Bool) (A : List (Nat × Value)) (l : List Nat), L.length = R110.ds.length → R110.Phi [some (.pointer (some ⟨g1, 3, none⟩)), some (.int .i64 a0.lo), some (.pointer (some ⟨g1, 4, none⟩)), some (.int .i64 a0.hi), some (.pointer (some ⟨g3, 3, none⟩)), none, some (.pointer (some ⟨g3, 4, none⟩)), none] [0, 1, 2, 3, 4, 5, 6, 7] [] L A → left L = m → Ord R110.ds m L l → G C107 H A (BK 24 K_S_api_Touch g3 (S_api_Touch.mk a0.kind a0.ino [] a0.lo a0.hi) :: BK 24 K_S_api_Touch g1 a0 :: Fr) (.inRegion ops108 l :: k109) := by
      refine G.phase R110 [some (.pointer (some ⟨g1, 3, none⟩)), some (.int .i64 a0.lo), some (.pointer (some ⟨g1, 4, none⟩)), some (.int .i64 a0.hi), some (.pointer (some ⟨g3, 3, none⟩)), none, some (.pointer (some ⟨g3, 4, none⟩)), none] [] [] [0, 1, 2, 3, 4, 5, 6, 7] [] (reads_Check.reg10_5_ap _) rfl rfl trivial trivial ?_
      · intro A L hlen hp h0
        refine G.lessSub (B := [(1, .pointer (some ⟨g1, 0, none⟩)), (3, .pointer (some ⟨g3, 0, none⟩))]) (hp.fin hlen h0 (src := [.base 1, .base 3]) rfl) ?_
        refine G.regionEnd ?_
        refine G.seq ?_
        refine G.region (l := [0, 1, 2, 3, 4, 5, 6, 7, 8, 9, 10, 11, 12, 13, 14]) rfl ?_
        refine G.field (off' := 3) rfl rfl rfl rfl Try.underlying24 rfl sz3 rfl rfl ?_
        refine G.loadI (y := a0.lo) rfl rfl rfl rfl ty3 (fun w hs => Rd.bk (S_api_Touch.L_lo _) hs (j := 1) rfl) ?_
        refine G.cmp (a0.lo < 0) rfl rfl rfl rfl rfl rfl Iff.rfl ?_
        refine G.move rfl rfl rfl rfl ?_
        refine G.splitP (d := 22) rfl (fun k106 => ?_) (fun k106 => ?_)
        · replace h := ifT h k106
          refine G.unwanted rfl rfl rfl rfl ?_
          refine G.unwanted rfl rfl rfl rfl ?_
          refine G.unwanted rfl rfl rfl rfl ?_
          refine G.unwanted rfl rfl rfl rfl ?_
          refine G.unwanted rfl rfl rfl rfl ?_
          refine G.pickT rfl rfl rfl rfl rfl ?_
          refine G.move rfl rfl rfl rfl ?_
          refine G.unwanted rfl rfl rfl rfl ?_
          refine G.unwanted rfl rfl rfl rfl ?_
          refine G.unwanted rfl rfl rfl rfl ?_
          refine G.pickT rfl rfl rfl rfl rfl ?_
          refine G.regionEnd ?_
          refine G.condT rfl ?_
          refine G.seq ?_
          refine G.region (l := [0]) rfl ?_
          refine G.assign rfl rfl rfl rfl ?_
          refine G.regionEnd ?_
          refine G.drop ?_
          refine G.drop ?_
          obtain rfl := Option.some.inj h
          exact G.ret1 Try.func10 rfl rfl (fun w hs => ⟨_, _, rfl, ⟨rfl, rfl⟩, hs⟩)
        · replace h := ifF h k106
          refine G.field (off' := 3) rfl rfl rfl rfl Try.underlying24 rfl sz3 rfl rfl ?_
          refine G.loadI (y := a0.lo) rfl rfl rfl rfl ty3 (fun w hs => Rd.bk (S_api_Touch.L_lo _) hs (j := 1) rfl) ?_
          refine G.field (off' := 4) rfl rfl rfl rfl Try.underlying24 rfl sz3 rfl rfl ?_
          refine G.loadI (y := a0.hi) rfl rfl rfl rfl ty3 (fun w hs => Rd.bk (S_api_Touch.L_hi _) hs (j := 1) rfl) ?_
          refine G.cmp (a0.hi ≤ a0.lo) rfl rfl rfl rfl rfl rfl Iff.rfl ?_
          refine G.pickF rfl rfl rfl rfl rfl ?_
          refine G.move rfl rfl rfl rfl ?_
          refine G.splitP (d := 29) rfl (fun k105 => ?_) (fun k105 => ?_)
          · replace h := ifT h k105
            refine G.unwanted rfl rfl rfl rfl ?_
            refine G.unwanted rfl rfl rfl rfl ?_
            refine G.unwanted rfl rfl rfl rfl ?_
            refine G.pickT rfl rfl rfl rfl rfl ?_
            refine G.regionEnd ?_
            refine G.condT rfl ?_
            refine G.seq ?_
            refine G.region (l := [0]) rfl ?_
            refine G.assign rfl rfl rfl rfl ?_
            refine G.regionEnd ?_
            refine G.drop ?_
            refine G.drop ?_
            obtain rfl := Option.some.inj h
            exact G.ret1 Try.func10 rfl rfl (fun w hs => ⟨_, _, rfl, ⟨rfl, rfl⟩, hs⟩)
          · replace h := ifF h k105
            refine G.field (off' := 4) rfl rfl rfl rfl Try.underlying24 rfl sz3 rfl rfl ?_
            refine G.loadI (y := a0.hi) rfl rfl rfl rfl ty3 (fun w hs => Rd.bk (S_api_Touch.L_hi _) hs (j := 1) rfl) ?_
            refine G.cmp (512 < a0.hi) rfl rfl rfl rfl rfl rfl Iff.rfl ?_
            refine G.pickF rfl rfl rfl rfl rfl ?_
            refine G.regionEnd ?_
            refine G.condP rfl (fun k104 => ?_) (fun k104 => ?_)
            · replace h := ifT h k104
              refine G.seq ?_
              refine G.region (l := [0]) rfl ?_
              refine G.assign rfl rfl rfl rfl ?_
              refine G.regionEnd ?_
              refine G.drop ?_
              refine G.drop ?_
              obtain rfl := Option.some.inj h
              exact G.ret1 Try.func10 rfl rfl (fun w hs => ⟨_, _, rfl, ⟨rfl, rfl⟩, hs⟩)
            · replace h := ifF h k104
              refine G.skip ?_
              refine G.frontAt 1 rfl ?_
              refine G.less ?_ (J103  [] a0.lo a0.hi h)
              exact ⟨rfl, rfl, trivial⟩
    have P112 : ∀ (m : Nat) (L : List Bool) (A : List (Nat × Value)) (l : List Nat), L.length = R110.ds.length → R110.Phi [some (.pointer (some ⟨g1, 3, none⟩)), some (.int .i64 a0.lo), some (.pointer (some ⟨g1, 4, none⟩)), some (.int .i64 a0.hi), some (.pointer (some ⟨g3, 3, none⟩)), none, some (.pointer (some ⟨g3, 4, none⟩)), none] [0, 1, 4, 5] [7] L A → left L = m → Ord R110.ds m L l → G C107 H A (BK 24 K_S_api_Touch g3 (S_api_Touch.mk a0.kind a0.ino [] a0.lo 0) :: BK 24 K_S_api_Touch g1 a0 :: Fr) (.inRegion ops108 l :: k109) := by
      refine G.phase R110 [some (.pointer (some ⟨g1, 3, none⟩)), some (.int .i64 a0.lo), some (.pointer (some ⟨g1, 4, none⟩)), some (.int .i64 a0.hi), some (.pointer (some ⟨g3, 3, none⟩)), none, some (.pointer (some ⟨g3, 4, none⟩)), none] [2, 3, 6] [7] [0, 1, 4, 5] [7] (reads_Check.reg10_5_ap _) rfl rfl ⟨⟨[.base 1], 15, .pointer (some ⟨g1, 4, none⟩), [(1, .pointer (some ⟨g1, 0, none⟩))], ⟨rfl, rfl, rfl, rfl, ?_⟩⟩, ⟨⟨[.op 2], 16, .int .i64 a0.hi, [(15, .pointer (some ⟨g1, 4, none⟩))], ⟨rfl, rfl, rfl, rfl, ?_⟩⟩, ⟨⟨[.base 3], 18, .pointer (some ⟨g3, 4, none⟩), [(3, .pointer (some ⟨g3, 0, none⟩))], ⟨rfl, rfl, rfl, rfl, ?_⟩⟩, trivial⟩⟩⟩ ⟨⟨[.op 3, .op 6], [(16, .int .i64 a0.hi), (18, .pointer (some ⟨g3, 4, none⟩))], ⟨rfl, rfl, ?_⟩⟩, trivial⟩ ?_
      · intro X rest g
        refine G.field (off' := 4) rfl rfl rfl rfl Try.underlying24 rfl sz3 rfl rfl ?_
        exact g
      · intro X rest g
        refine G.loadI (y := a0.hi) rfl rfl rfl rfl ty3 (fun w hs => Rd.bk (S_api_Touch.L_hi _) hs (j := 1) rfl) ?_
        exact g
      · intro X rest g
        refine G.field (off' := 4) rfl rfl rfl rfl Try.underlying24 rfl sz3 rfl rfl ?_
        exact g
      · intro X rest L m hlen hp hil hd hs hm ho
        refine G.store (df := (Kd.int .i64)) (y := a0.hi) (x1 := (S_api_Touch.mk a0.kind a0.ino [] a0.lo a0.hi)) rfl rfl rfl rfl (S_api_Touch.L_hi _) ⟨([.int .i64 a0.hi] : List Value), rfl, rfl⟩ sz3 rfl ?_
        refine G.frontAt 1 rfl ?_
        refine G.frontAt 1 rfl ?_
        exact P113 m _ _ rest (by rw [List.length_set]; exact hlen) (hp.stepN2 1 (reads_Check.reg10_5_ap _) hil hd hs (by repeat (first | exact trivial | refine And.intro rfl ?_)) rfl rfl rfl) hm ho
      · intro A L hlen hp h0
        exact (hp.notYet hlen h0 7 rfl rfl).elim
    have P111 : ∀ (m : Nat) (L : List Bool) (A : List (Nat × Value)) (l : List Nat), L.length = R110.ds.length → R110.Phi [some (.pointer (some ⟨g1, 3, none⟩)), some (.int .i64 a0.lo), some (.pointer (some ⟨g1, 4, none⟩)), some (.int .i64 a0.hi), some (.pointer (some ⟨g3, 3, none⟩)), none, none, none] [] [5, 6, 7] L A → left L = m → Ord R110.ds m L l → G C107 H A (BK 24 K_S_api_Touch g3 (S_api_Touch.mk a0.kind a0.ino [] 0 0) :: BK 24 K_S_api_Touch g1 a0 :: Fr) (.inRegion ops108 l :: k109) := by
      refine G.phase R110 [some (.pointer (some ⟨g1, 3, none⟩)), some (.int .i64 a0.lo), some (.pointer (some ⟨g1, 4, none⟩)), some (.int .i64 a0.hi), some (.pointer (some ⟨g3, 3, none⟩)), none, none, none] [0, 1, 2, 3, 4] [5] [] [5, 6, 7] (reads_Check.reg10_5_ap _) rfl rfl ⟨⟨[.base 1], 13, .pointer (some ⟨g1, 3, none⟩), [(1, .pointer (some ⟨g1, 0, none⟩))], ⟨rfl, rfl, rfl, rfl, ?_⟩⟩, ⟨⟨[.op 0], 14, .int .i64 a0.lo, [(13, .pointer (some ⟨g1, 3, none⟩))], ⟨rfl, rfl, rfl, rfl, ?_⟩⟩, ⟨⟨[.base 1], 15, .pointer (some ⟨g1, 4, none⟩), [(1, .pointer (some ⟨g1, 0, none⟩))], ⟨rfl, rfl, rfl, rfl, ?_⟩⟩, ⟨⟨[.op 2], 16, .int .i64 a0.hi, [(15, .pointer (some ⟨g1, 4, none⟩))], ⟨rfl, rfl, rfl, rfl, ?_⟩⟩, ⟨⟨[.base 3], 17, .pointer (some ⟨g3, 3, none⟩), [(3, .pointer (some ⟨g3, 0, none⟩))], ⟨rfl, rfl, rfl, rfl, ?_⟩⟩, trivial⟩⟩⟩⟩⟩ ⟨⟨[.op 1, .op 4], [(14, .int .i64 a0.lo), (17, .pointer (some ⟨g3, 3, none⟩))], ⟨rfl, rfl, ?_⟩⟩, trivial⟩ ?_
      · intro X rest g
        refine G.field (off' := 3) rfl rfl rfl rfl Try.underlying24 rfl sz3 rfl rfl ?_
        exact g
      · intro X rest g
        refine G.loadI (y := a0.lo) rfl rfl rfl rfl ty3 (fun w hs => Rd.bk (S_api_Touch.L_lo _) hs (j := 1) rfl) ?_
        exact g
      · intro X rest g
        refine G.field (off' := 4) rfl rfl rfl rfl Try.underlying24 rfl sz3 rfl rfl ?_
        exact g
      · intro X rest g
        refine G.loadI (y := a0.hi) rfl rfl rfl rfl ty3 (fun w hs => Rd.bk (S_api_Touch.L_hi _) hs (j := 1) rfl) ?_
        exact g
      · intro X rest g
        refine G.field (off' := 3) rfl rfl rfl rfl Try.underlying24 rfl sz3 rfl rfl ?_
        exact g
      · intro X rest L m hlen hp hil hd hs hm ho
        refine G.store (df := (Kd.int .i64)) (y := a0.lo) (x1 := (S_api_Touch.mk a0.kind a0.ino [] a0.lo 0)) rfl rfl rfl rfl (S_api_Touch.L_lo _) ⟨([.int .i64 a0.lo] : List Value), rfl, rfl⟩ sz3 rfl ?_
        refine G.frontAt 1 rfl ?_
        refine G.frontAt 1 rfl ?_
        exact P112 m _ _ rest (by rw [List.length_set]; exact hlen) (hp.stepN2 1 (reads_Check.reg10_5_ap _) hil hd hs (by repeat (first | exact trivial | refine And.intro rfl ?_)) rfl rfl rfl) hm ho
      · intro A L hlen hp h0
        exact (hp.notYet hlen h0 5 rfl rfl).elim
    intro l hl
    exact P111 8 (List.replicate 8 false) _ l rfl (Reg.Phi.init 8 ⟨rfl, rfl, trivial⟩) (left_rep 8) hl
  · replace h := ifF h k196
    refine G.seq ?_
    refine G.region (l := [0, 1]) rfl ?_
    refine G.cmp (a0.kind = 5) rfl rfl rfl rfl rfl rfl Iff.rfl ?_
    refine G.assign rfl rfl rfl rfl ?_
    refine G.regionEnd ?_
    refine G.condP rfl (fun k195 => ?_) (fun k195 => ?_)
    · replace h := ifT h k195
      refine G.seq ?_
      refine G.region (l := [0, 1, 2, 3]) rfl ?_
      refine G.field (off' := 2) rfl rfl rfl rfl Try.underlying24 rfl sz9 rfl rfl ?_
      refine G.loadS (y := a0.name) rfl rfl rfl rfl ty9 (fun w hs => Rd.bk (S_api_Touch.L_name _) hs (j := 1) rfl) ?_
      refine G.field (off' := 2) rfl rfl rfl rfl Try.underlying24 rfl sz9 rfl rfl ?_
      refine G.store (df := Kd.str) (y := a0.name) (x1 := (S_api_Touch.mk a0.kind a0.ino a0.name 0 0)) rfl rfl rfl rfl (S_api_Touch.L_name _) ⟨([strV a0.name] : List Value), rfl, rfl⟩ sz9 rfl ?_
      refine G.regionEnd ?_
      refine G.seq ?_
      refine G.region (l := [0, 1, 2]) rfl ?_
      refine G.field (off' := 2) rfl rfl rfl rfl Try.underlying24 rfl sz9 rfl rfl ?_
      refine G.loadS (y := a0.name) rfl rfl rfl rfl ty9 (fun w hs => Rd.bk (S_api_Touch.L_name _) hs (j := 1) rfl) ?_
      refine G.cmpS (s := a0.name) (u := ([] : Str)) (b := decide (a0.name = ([] : Str))) rfl rfl rfl rfl rfl rfl rfl ?_
      refine G.regionEnd ?_
      refine G.condP rfl (fun k155 => ?_) (fun k155 => ?_)
      · replace h := ifT h k155
        refine G.seq ?_
        refine G.region (l := [0]) rfl ?_
        refine G.assign rfl rfl rfl rfl ?_
        refine G.regionEnd ?_
        refine G.drop ?_
        refine G.drop ?_
        obtain rfl := Option.some.inj h
        exact G.ret1 Try.func10 rfl rfl (fun w hs => ⟨_, _, rfl, ⟨rfl, rfl⟩, hs⟩)
      · replace h := ifF h k155
        refine G.skip ?_
        refine G.frontAt 1 rfl ?_
        refine G.less ?_ (J103  a0.name 0 0 h)
        exact ⟨rfl, rfl, trivial⟩
    · replace h := ifF h k195
      refine G.seq ?_
      refine G.seq ?_
      refine G.region (l := [0, 1]) rfl ?_
      refine G.cmp (a0.kind = 1) rfl rfl rfl rfl rfl rfl Iff.rfl ?_
      refine G.assign rfl rfl rfl rfl ?_
      refine G.regionEnd ?_
      refine G.condP rfl (fun k194 => ?_) (fun k194 => ?_)
      · replace h := ifT h k194
        refine G.skip ?_
        refine G.condP rfl (fun k172 => ?_) (fun k172 => ?_)
        · replace h := ifT h k172
          refine G.skip ?_
          refine G.frontAt 1 rfl ?_
          refine G.less ?_ (J103  [] 0 0 h)
          exact ⟨rfl, rfl, trivial⟩
        · replace h := ifF h k172
          refine G.seq ?_
          refine G.region (l := [0]) rfl ?_
          refine G.assign rfl rfl rfl rfl ?_
          refine G.regionEnd ?_
          refine G.drop ?_
          refine G.drop ?_
          obtain rfl := Option.some.inj h
          exact G.ret1 Try.func10 rfl rfl (fun w hs => ⟨_, _, rfl, ⟨rfl, rfl⟩, hs⟩)
      · replace h := ifF h k194
        refine G.seq ?_
        refine G.region (l := [0, 1]) rfl ?_
        refine G.cmp (a0.kind = 2) rfl rfl rfl rfl rfl rfl Iff.rfl ?_
        refine G.assign rfl rfl rfl rfl ?_
        refine G.regionEnd ?_
        refine G.condP rfl (fun k193 => ?_) (fun k193 => ?_)
        · replace h := ifT h k193
          refine G.skip ?_
          refine G.condP rfl (fun k181 => ?_) (fun k181 => ?_)
          · replace h := ifT h k181
            refine G.skip ?_
            refine G.frontAt 1 rfl ?_
            refine G.less ?_ (J103  [] 0 0 h)
            exact ⟨rfl, rfl, trivial⟩
          · replace h := ifF h k181
            refine G.seq ?_
            refine G.region (l := [0]) rfl ?_
            refine G.assign rfl rfl rfl rfl ?_
            refine G.regionEnd ?_
            refine G.drop ?_
            refine G.drop ?_
            obtain rfl := Option.some.inj h
            exact G.ret1 Try.func10 rfl rfl (fun w hs => ⟨_, _, rfl, ⟨rfl, rfl⟩, hs⟩)
        · replace h := ifF h k193
          refine G.seq ?_
          refine G.region (l := [0, 1]) rfl ?_
          refine G.cmp (a0.kind = 3) rfl rfl rfl rfl rfl rfl Iff.rfl ?_
          refine G.assign rfl rfl rfl rfl ?_
          refine G.regionEnd ?_
          refine G.condP rfl (fun k192 => ?_) (fun k192 => ?_)
          · replace h := ifT h k192
            refine G.skip ?_
            refine G.condP rfl (fun k186 => ?_) (fun k186 => ?_)
            · replace h := ifT h k186
              refine G.skip ?_
              refine G.frontAt 1 rfl ?_
              refine G.less ?_ (J103  [] 0 0 h)
              exact ⟨rfl, rfl, trivial⟩
            · replace h := ifF h k186
              refine G.seq ?_
              refine G.region (l := [0]) rfl ?_
              refine G.assign rfl rfl rfl rfl ?_
              refine G.regionEnd ?_
              refine G.drop ?_
              refine G.drop ?_
              obtain rfl := Option.some.inj h
              exact G.ret1 Try.func10 rfl rfl (fun w hs => ⟨_, _, rfl, ⟨rfl, rfl⟩, hs⟩)
          · replace h := ifF h k192
            refine G.seq ?_
            refine G.region (l := [0, 1]) rfl ?_
            refine G.cmp (a0.kind = 6) rfl rfl rfl rfl rfl rfl Iff.rfl ?_
            refine G.assign rfl rfl rfl rfl ?_
            refine G.regionEnd ?_
            refine G.condP rfl (fun k191 => ?_) (fun k191 => ?_)
            · replace h := ifT h k191
              refine G.skip ?_
              refine G.condP rfl (fun k189 => ?_) (fun k189 => ?_)
              · replace h := ifT h k189
                refine G.skip ?_
                refine G.frontAt 1 rfl ?_
                refine G.less ?_ (J103  [] 0 0 h)
                exact ⟨rfl, rfl, trivial⟩
              · replace h := ifF h k189
                refine G.seq ?_
                refine G.region (l := [0]) rfl ?_
                refine G.assign rfl rfl rfl rfl ?_
                refine G.regionEnd ?_
                refine G.drop ?_
                refine G.drop ?_
                obtain rfl := Option.some.inj h
                exact G.ret1 Try.func10 rfl rfl (fun w hs => ⟨_, _, rfl, ⟨rfl, rfl⟩, hs⟩)
            · replace h := ifF h k191
              refine G.region (l := [0, 1]) rfl ?_
              refine G.cmp (a0.kind = 7) rfl rfl rfl rfl rfl rfl Iff.rfl ?_
              refine G.assign rfl rfl rfl rfl ?_
              refine G.regionEnd ?_
              refine G.condP rfl (fun k190 => ?_) (fun k190 => ?_)
              · replace h := ifT h k190
                refine G.skip ?_
                refine G.frontAt 1 rfl ?_
                refine G.less ?_ (J103  [] 0 0 h)
                exact ⟨rfl, rfl, trivial⟩
              · replace h := ifF h k190
                refine G.seq ?_
                refine G.region (l := [0]) rfl ?_
                refine G.assign rfl rfl rfl rfl ?_
                refine G.regionEnd ?_
                refine G.drop ?_
                refine G.drop ?_
                obtain rfl := Option.some.inj h
                exact G.ret1 Try.func10 rfl rfl (fun w hs => ⟨_, _, rfl, ⟨rfl, rfl⟩, hs⟩)
set_option maxRecDepth 20000 in
theorem reads_Meet.ok {O : World} {H : PH} {Fr : List Res} (a0 : S_api_Touch) (a1 : S_api_Touch) {r : Bool} (h : reads_Meet.f a0 a1 = some r) :
    CtrS Try.prog 12 [.agg (S_api_Touch.enc a0).toArray, .agg (S_api_Touch.enc a1).toArray] O H (Fr) (fun v L' => v = .bool r ∧ Fr = L') := by
  refine CtrS.start (n := 78) Try.func12 rfl Try.ntmps12 rfl rfl ?_
  unfold reads_Meet.f at h
  refine G.seq ?_
  refine G.region (l := [0, 1, 2]) rfl ?_
  refine G.box (dk := K_S_api_Touch) (y := a0) rfl rfl rfl rfl (VR.A (cs := S_api_Touch.enc a0) (K_S_api_Touch.of a0)) ?_
  intro g1
  refine G.box (dk := K_S_api_Touch) (y := a1) rfl rfl rfl rfl (VR.A (cs := S_api_Touch.enc a1) (K_S_api_Touch.of a1)) ?_
  intro g3
  refine G.assign rfl rfl rfl rfl ?_
  refine G.regionEnd ?_
  refine G.seq ?_
  refine G.seq ?_
  refine G.region (l := [0, 1, 2, 3, 4, 5, 6, 7, 8, 9, 10, 11, 12, 13, 14]) rfl ?_
  refine G.loadA (df := K_S_api_Touch) (y := a0) rfl rfl rfl rfl ty24 rfl (fun w hs => Rd.bk (Lens.id _ _) hs (j := 1) rfl) ?_
  intro cs5 f6
  obtain rfl := K_S_api_Touch.open f6
  obtain ⟨t7, e8, h⟩ := bindS h
  refine G.callS rfl rfl rfl rfl call10 (reads_Check.ok a0 e8) ?_
  rintro v9 L10 ⟨rfl, rfl⟩
  refine G.cmp (t7 ≠ 0) rfl rfl rfl rfl rfl rfl Iff.rfl ?_
  refine G.move rfl rfl rfl rfl ?_
  refine G.splitP (d := 9) rfl (fun k46 => ?_) (fun k46 => ?_)
  · replace h := ifT h k46
    refine G.unwanted rfl rfl rfl rfl ?_
    refine G.unwanted rfl rfl rfl rfl ?_
    refine G.unwanted rfl rfl rfl rfl ?_
    refine G.pickT rfl rfl rfl rfl rfl ?_
    refine G.move rfl rfl rfl rfl ?_
    refine G.unwanted rfl rfl rfl rfl ?_
    refine G.unwanted rfl rfl rfl rfl ?_
    refine G.unwanted rfl rfl rfl rfl ?_
    refine G.unwanted rfl rfl rfl rfl ?_
    refine G.unwanted rfl rfl rfl rfl ?_
    refine G.pickT rfl rfl rfl rfl rfl ?_
    refine G.regionEnd ?_
    refine G.condT rfl ?_
    refine G.seq ?_
    refine G.region (l := [0]) rfl ?_
    refine G.assign rfl rfl rfl rfl ?_
    refine G.regionEnd ?_
    refine G.drop ?_
    refine G.drop ?_
    obtain rfl := Option.some.inj h
    exact G.ret1 Try.func12 rfl rfl (fun w hs => ⟨_, _, rfl, ⟨rfl, rfl⟩, hs⟩)
  · replace h := ifF h k46
    refine G.loadA (df := K_S_api_Touch) (y := a1) rfl rfl rfl rfl ty24 rfl (fun w hs => Rd.bk (Lens.id _ _) hs (j := 0) rfl) ?_
    intro cs17 f18
    obtain rfl := K_S_api_Touch.open f18
    obtain ⟨t19, e20, h⟩ := bindS h
    refine G.callS rfl rfl rfl rfl call10 (reads_Check.ok a1 e20) ?_
    rintro v21 L22 ⟨rfl, rfl⟩
    refine G.cmp (t19 ≠ 0) rfl rfl rfl rfl rfl rfl Iff.rfl ?_
    refine G.pickF rfl rfl rfl rfl rfl ?_
    refine G.move rfl rfl rfl rfl ?_
    refine G.splitP (d := 14) rfl (fun k45 => ?_) (fun k45 => ?_)
    · replace h := ifT h k45
      refine G.unwanted rfl rfl rfl rfl ?_
      refine G.unwanted rfl rfl rfl rfl ?_
      refine G.unwanted rfl rfl rfl rfl ?_
      refine G.unwanted rfl rfl rfl rfl ?_
      refine G.unwanted rfl rfl rfl rfl ?_
      refine G.pickT rfl rfl rfl rfl rfl ?_
      refine G.regionEnd ?_
      refine G.condT rfl ?_
      refine G.seq ?_
      refine G.region (l := [0]) rfl ?_
      refine G.assign rfl rfl rfl rfl ?_
      refine G.regionEnd ?_
      refine G.drop ?_
      refine G.drop ?_
      obtain rfl := Option.some.inj h
      exact G.ret1 Try.func12 rfl rfl (fun w hs => ⟨_, _, rfl, ⟨rfl, rfl⟩, hs⟩)
    · replace h := ifF h k45
      refine G.field (off' := 1) rfl rfl rfl rfl Try.underlying24 rfl sz22 rfl rfl ?_
      refine G.loadI (y := a0.ino) rfl rfl rfl rfl ty22 (fun w hs => Rd.bk (S_api_Touch.L_ino _) hs (j := 1) rfl) ?_
      refine G.field (off' := 1) rfl rfl rfl rfl Try.underlying24 rfl sz22 rfl rfl ?_
      refine G.loadI (y := a1.ino) rfl rfl rfl rfl ty22 (fun w hs => Rd.bk (S_api_Touch.L_ino _) hs (j := 0) rfl) ?_
      refine G.cmp (a0.ino ≠ a1.ino) rfl rfl rfl rfl rfl rfl Iff.rfl ?_
      refine G.pickF rfl rfl rfl rfl rfl ?_
      refine G.regionEnd ?_
      refine G.condP rfl (fun k44 => ?_) (fun k44 => ?_)
      · replace h := ifT h k44
        refine G.seq ?_
        refine G.region (l := [0]) rfl ?_
        refine G.assign rfl rfl rfl rfl ?_
        refine G.regionEnd ?_
        refine G.drop ?_
        refine G.drop ?_
        obtain rfl := Option.some.inj h
        exact G.ret1 Try.func12 rfl rfl (fun w hs => ⟨_, _, rfl, ⟨rfl, rfl⟩, hs⟩)
      · replace h := ifF h k44
        refine G.skip ?_
        refine G.seq ?_
        refine G.region (l := [0, 1, 2, 3, 4, 5]) rfl ?_
        refine G.field (off' := 0) rfl rfl rfl rfl Try.underlying24 rfl sz3 rfl rfl ?_
        refine G.loadI (y := a0.kind) rfl rfl rfl rfl ty3 (fun w hs => Rd.bk (S_api_Touch.L_kind _) hs (j := 1) rfl) ?_
        refine G.field (off' := 0) rfl rfl rfl rfl Try.underlying24 rfl sz3 rfl rfl ?_
        refine G.loadI (y := a1.kind) rfl rfl rfl rfl ty3 (fun w hs => Rd.bk (S_api_Touch.L_kind _) hs (j := 0) rfl) ?_
        refine G.cmp (a0.kind = a1.kind) rfl rfl rfl rfl rfl rfl Iff.rfl ?_
        refine G.assign rfl rfl rfl rfl ?_
        refine G.regionEnd ?_
        refine G.seq ?_
        refine G.seq ?_
        refine G.region (l := [0, 1]) rfl ?_
        refine G.field (off' := 0) rfl rfl rfl rfl Try.underlying24 rfl sz3 rfl rfl ?_
        refine G.loadI (y := a1.kind) rfl rfl rfl rfl ty3 (fun w hs => Rd.bk (S_api_Touch.L_kind _) hs (j := 0) rfl) ?_
        refine G.regionEnd ?_
        refine G.block ?_
        refine G.seq ?_
        refine G.block ?_
        refine G.seq ?_
        refine G.block ?_
        refine G.seq ?_
        refine G.block ?_
        refine G.seq ?_
        refine G.block ?_
        refine G.seq ?_
        refine G.seq ?_
        refine G.seq ?_
        refine G.region (l := [0, 1]) rfl ?_
        refine G.cmp (a1.kind = 7) rfl rfl rfl rfl rfl rfl Iff.rfl ?_
        refine G.assign rfl rfl rfl rfl ?_
        refine G.regionEnd ?_
        refine G.condP rfl (fun k43 => ?_) (fun k43 => ?_)
        · replace h := ifT h k43
          refine G.exit rfl ?_
          refine G.region (l := [0]) rfl ?_
          refine G.assign rfl rfl rfl rfl ?_
          refine G.regionEnd ?_
          refine G.inBlock ?_
          refine G.seq ?_
          refine G.seq ?_
          refine G.region (l := [0, 1]) rfl ?_
          refine G.move rfl rfl rfl rfl ?_
          refine G.assign rfl rfl rfl rfl ?_
          refine G.regionEnd ?_
          refine G.drop ?_
          refine G.drop ?_
          obtain rfl := Option.some.inj h
          exact G.ret1 Try.func12 rfl rfl (fun w hs => ⟨_, _, rfl, ⟨rfl, rfl⟩, hs⟩)
        · replace h := ifF h k43
          refine G.skip ?_
          refine G.seq ?_
          refine G.seq ?_
          refine G.seq ?_
          refine G.region (l := [0, 1]) rfl ?_
          refine G.cmp (a1.kind = 1) rfl rfl rfl rfl rfl rfl Iff.rfl ?_
          refine G.assign rfl rfl rfl rfl ?_
          refine G.regionEnd ?_
          refine G.tail (fun GG K => ∀ (b25 : Bool), reads_Meet.j0 a0 a1 b25 = some r → GG H [(2, .pointer (some ⟨g1, 0, none⟩)), (3, .pointer (some ⟨g3, 0, none⟩)), (5, .bool (decide (a0.kind = a1.kind))), (27, .int .i64 a1.kind), (30, .bool b25)] (BK 24 K_S_api_Touch g1 a0 :: BK 24 K_S_api_Touch g3 a1 :: Fr) K) ?_ ?_
          · intro b25 h
            unfold reads_Meet.j0 at h
            refine G.cond rfl (fun k38 => ?_) (fun k38 => ?_)
            · replace h := ifT h k38
              refine G.exit rfl ?_
              refine G.seq ?_
              refine G.seq ?_
              refine G.region (l := [0, 1]) rfl ?_
              refine G.move rfl rfl rfl rfl ?_
              refine G.assign rfl rfl rfl rfl ?_
              refine G.regionEnd ?_
              refine G.drop ?_
              refine G.drop ?_
              obtain rfl := Option.some.inj h
              exact G.ret1 Try.func12 rfl rfl (fun w hs => ⟨_, _, rfl, ⟨rfl, rfl⟩, hs⟩)
            · replace h := ifFB h k38
              refine G.skip ?_
              refine G.seq ?_
              refine G.seq ?_
              refine G.region (l := [0, 1]) rfl ?_
              refine G.cmp (a1.kind = 4) rfl rfl rfl rfl rfl rfl Iff.rfl ?_
              refine G.assign rfl rfl rfl rfl ?_
              refine G.regionEnd ?_
              refine G.condP rfl (fun k37 => ?_) (fun k37 => ?_)
              · replace h := ifT h k37
                refine G.exit rfl ?_
                refine G.seq ?_
                refine G.seq ?_
                refine G.region (l := [0, 1, 2, 3, 4, 5, 6, 7, 8, 9, 10, 11, 12, 13, 14, 15]) rfl ?_
                refine G.move rfl rfl rfl rfl ?_
                refine G.move rfl rfl rfl rfl ?_
                refine G.splitP (d := 40) rfl (fun k29 => ?_) (fun k29 => ?_)
                · replace h := ifT h k29
                  refine G.field (off' := 3) rfl rfl rfl rfl Try.underlying24 rfl sz3 rfl rfl ?_
                  refine G.loadI (y := a0.lo) rfl rfl rfl rfl ty3 (fun w hs => Rd.bk (S_api_Touch.L_lo _) hs (j := 0) rfl) ?_
                  refine G.field (off' := 4) rfl rfl rfl rfl Try.underlying24 rfl sz3 rfl rfl ?_
                  refine G.loadI (y := a1.hi) rfl rfl rfl rfl ty3 (fun w hs => Rd.bk (S_api_Touch.L_hi _) hs (j := 1) rfl) ?_
                  refine G.cmp (a0.lo < a1.hi) rfl rfl rfl rfl rfl rfl Iff.rfl ?_
                  refine G.pickT rfl rfl rfl rfl rfl ?_
                  refine G.move rfl rfl rfl rfl ?_
                  refine G.splitP (d := 47) rfl (fun k28 => ?_) (fun k28 => ?_)
                  · replace h := ifT h k28
                    refine G.field (off' := 3) rfl rfl rfl rfl Try.underlying24 rfl sz3 rfl rfl ?_
                    refine G.loadI (y := a1.lo) rfl rfl rfl rfl ty3 (fun w hs => Rd.bk (S_api_Touch.L_lo _) hs (j := 1) rfl) ?_
                    refine G.field (off' := 4) rfl rfl rfl rfl Try.underlying24 rfl sz3 rfl rfl ?_
                    refine G.loadI (y := a0.hi) rfl rfl rfl rfl ty3 (fun w hs => Rd.bk (S_api_Touch.L_hi _) hs (j := 0) rfl) ?_
                    refine G.cmp (a1.lo < a0.hi) rfl rfl rfl rfl rfl rfl Iff.rfl ?_
                    refine G.pickT rfl rfl rfl rfl rfl ?_
                    refine G.assign rfl rfl rfl rfl ?_
                    refine G.regionEnd ?_
                    refine G.drop ?_
                    refine G.drop ?_
                    obtain rfl := Option.some.inj h
                    exact G.ret1 Try.func12 rfl rfl (fun w hs => ⟨_, _, rfl, ⟨rfl, rfl⟩, hs⟩)
                  · replace h := ifF h k28
                    refine G.unwanted rfl rfl rfl rfl ?_
                    refine G.unwanted rfl rfl rfl rfl ?_
                    refine G.unwanted rfl rfl rfl rfl ?_
                    refine G.unwanted rfl rfl rfl rfl ?_
                    refine G.unwanted rfl rfl rfl rfl ?_
                    refine G.pickF rfl rfl rfl rfl rfl ?_
                    refine G.assign rfl rfl rfl rfl ?_
                    refine G.regionEnd ?_
                    refine G.drop ?_
                    refine G.drop ?_
                    obtain rfl := Option.some.inj h
                    exact G.ret1 Try.func12 rfl rfl (fun w hs => ⟨_, _, rfl, ⟨rfl, rfl⟩, hs⟩)
                · replace h := ifF h k29
                  refine G.unwanted rfl rfl rfl rfl ?_
                  refine G.unwanted rfl rfl rfl rfl ?_
                  refine G.unwanted rfl rfl rfl rfl ?_
                  refine G.unwanted rfl rfl rfl rfl ?_
                  refine G.unwanted rfl rfl rfl rfl ?_
                  refine G.pickF rfl rfl rfl rfl rfl ?_
                  refine G.move rfl rfl rfl rfl ?_
                  refine G.unwanted rfl rfl rfl rfl ?_
                  refine G.unwanted rfl rfl rfl rfl ?_
                  refine G.unwanted rfl rfl rfl rfl ?_
                  refine G.unwanted rfl rfl rfl rfl ?_
                  refine G.unwanted rfl rfl rfl rfl ?_
                  refine G.pickF rfl rfl rfl rfl rfl ?_
                  refine G.assign rfl rfl rfl rfl ?_
                  refine G.regionEnd ?_
                  refine G.drop ?_
                  refine G.drop ?_
                  obtain rfl := Option.some.inj h
                  exact G.ret1 Try.func12 rfl rfl (fun w hs => ⟨_, _, rfl, ⟨rfl, rfl⟩, hs⟩)
              · replace h := ifF h k37
                refine G.skip ?_
                refine G.seq ?_
                refine G.region (l := [0, 1]) rfl ?_
                refine G.cmp (a1.kind = 5) rfl rfl rfl rfl rfl rfl Iff.rfl ?_
                refine G.assign rfl rfl rfl rfl ?_
                refine G.regionEnd ?_
                refine G.condP rfl (fun k36 => ?_) (fun k36 => ?_)
                · replace h := ifT h k36
                  refine G.exit rfl ?_
                  refine G.seq ?_
                  refine G.seq ?_
                  refine G.region (l := [0, 1, 2, 3, 4, 5, 6, 7, 8, 9, 10, 11, 12, 13]) rfl ?_
                  refine G.move rfl rfl rfl rfl ?_
                  refine G.move rfl rfl rfl rfl ?_
                  refine G.splitP (d := 55) rfl (fun k33 => ?_) (fun k33 => ?_)
                  · replace h := ifT h k33
                    refine G.field (off' := 2) rfl rfl rfl rfl Try.underlying24 rfl sz9 rfl rfl ?_
                    refine G.loadS (y := a0.name) rfl rfl rfl rfl ty9 (fun w hs => Rd.bk (S_api_Touch.L_name _) hs (j := 0) rfl) ?_
                    refine G.field (off' := 2) rfl rfl rfl rfl Try.underlying24 rfl sz9 rfl rfl ?_
                    refine G.loadS (y := a1.name) rfl rfl rfl rfl ty9 (fun w hs => Rd.bk (S_api_Touch.L_name _) hs (j := 1) rfl) ?_
                    refine G.cmpS (s := a0.name) (u := a1.name) (b := decide (a0.name = a1.name)) rfl rfl rfl rfl rfl rfl rfl ?_
                    refine G.pickT rfl rfl rfl rfl rfl ?_
                    refine G.move rfl rfl rfl rfl ?_
                    refine G.splitP (d := 62) rfl (fun k32 => ?_) (fun k32 => ?_)
                    · replace h := ifT h k32
                      refine G.unwanted rfl rfl rfl rfl ?_
                      refine G.unwanted rfl rfl rfl rfl ?_
                      refine G.unwanted rfl rfl rfl rfl ?_
                      refine G.pickT rfl rfl rfl rfl rfl ?_
                      refine G.assign rfl rfl rfl rfl ?_
                      refine G.regionEnd ?_
                      refine G.drop ?_
                      refine G.drop ?_
                      obtain rfl := Option.some.inj h
                      exact G.ret1 Try.func12 rfl rfl (fun w hs => ⟨_, _, rfl, ⟨rfl, rfl⟩, hs⟩)
                    · replace h := ifF h k32
                      refine G.field (off' := 0) rfl rfl rfl rfl Try.underlying24 rfl sz3 rfl rfl ?_
                      refine G.loadI (y := a0.kind) rfl rfl rfl rfl ty3 (fun w hs => Rd.bk (S_api_Touch.L_kind _) hs (j := 0) rfl) ?_
                      refine G.cmp (a0.kind = 6) rfl rfl rfl rfl rfl rfl Iff.rfl ?_
                      refine G.pickF rfl rfl rfl rfl rfl ?_
                      refine G.assign rfl rfl rfl rfl ?_
                      refine G.regionEnd ?_
                      refine G.drop ?_
                      refine G.drop ?_
                      obtain rfl := Option.some.inj h
                      exact G.ret1 Try.func12 rfl rfl (fun w hs => ⟨_, _, rfl, ⟨rfl, rfl⟩, hs⟩)
                  · replace h := ifF h k33
                    refine G.unwanted rfl rfl rfl rfl ?_
                    refine G.unwanted rfl rfl rfl rfl ?_
                    refine G.unwanted rfl rfl rfl rfl ?_
                    refine G.unwanted rfl rfl rfl rfl ?_
                    refine G.unwanted rfl rfl rfl rfl ?_
                    refine G.pickF rfl rfl rfl rfl rfl ?_
                    refine G.move rfl rfl rfl rfl ?_
                    refine G.field (off' := 0) rfl rfl rfl rfl Try.underlying24 rfl sz3 rfl rfl ?_
                    refine G.loadI (y := a0.kind) rfl rfl rfl rfl ty3 (fun w hs => Rd.bk (S_api_Touch.L_kind _) hs (j := 0) rfl) ?_
                    refine G.cmp (a0.kind = 6) rfl rfl rfl rfl rfl rfl Iff.rfl ?_
                    refine G.pickF rfl rfl rfl rfl rfl ?_
                    refine G.assign rfl rfl rfl rfl ?_
                    refine G.regionEnd ?_
                    refine G.drop ?_
                    refine G.drop ?_
                    obtain rfl := Option.some.inj h
                    exact G.ret1 Try.func12 rfl rfl (fun w hs => ⟨_, _, rfl, ⟨rfl, rfl⟩, hs⟩)
                · replace h := ifF h k36
                  refine G.skip ?_
                  refine G.exit rfl ?_
                  refine G.seq ?_
                  refine G.region (l := [0, 1, 2, 3, 4, 5, 6, 7, 8, 9, 10, 11]) rfl ?_
                  refine G.move rfl rfl rfl rfl ?_
                  refine G.move rfl rfl rfl rfl ?_
                  refine G.splitP (d := 68) rfl (fun k35 => ?_) (fun k35 => ?_)
                  · replace h := ifT h k35
                    refine G.field (off' := 0) rfl rfl rfl rfl Try.underlying24 rfl sz3 rfl rfl ?_
                    refine G.loadI (y := a0.kind) rfl rfl rfl rfl ty3 (fun w hs => Rd.bk (S_api_Touch.L_kind _) hs (j := 0) rfl) ?_
                    refine G.cmp (a0.kind ≠ 7) rfl rfl rfl rfl rfl rfl Iff.rfl ?_
                    refine G.pickT rfl rfl rfl rfl rfl ?_
                    refine G.move rfl rfl rfl rfl ?_
                    refine G.splitP (d := 73) rfl (fun k34 => ?_) (fun k34 => ?_)
                    · replace h := ifT h k34
                      refine G.field (off' := 0) rfl rfl rfl rfl Try.underlying24 rfl sz3 rfl rfl ?_
                      refine G.loadI (y := a0.kind) rfl rfl rfl rfl ty3 (fun w hs => Rd.bk (S_api_Touch.L_kind _) hs (j := 0) rfl) ?_
                      refine G.cmp (a0.kind ≠ 6) rfl rfl rfl rfl rfl rfl Iff.rfl ?_
                      refine G.pickT rfl rfl rfl rfl rfl ?_
                      refine G.assign rfl rfl rfl rfl ?_
                      refine G.regionEnd ?_
                      refine G.drop ?_
                      refine G.drop ?_
                      obtain rfl := Option.some.inj h
                      exact G.ret1 Try.func12 rfl rfl (fun w hs => ⟨_, _, rfl, ⟨rfl, rfl⟩, hs⟩)
                    · replace h := ifF h k34
                      refine G.unwanted rfl rfl rfl rfl ?_
                      refine G.unwanted rfl rfl rfl rfl ?_
                      refine G.unwanted rfl rfl rfl rfl ?_
                      refine G.pickF rfl rfl rfl rfl rfl ?_
                      refine G.assign rfl rfl rfl rfl ?_
                      refine G.regionEnd ?_
                      refine G.drop ?_
                      refine G.drop ?_
                      obtain rfl := Option.some.inj h
                      exact G.ret1 Try.func12 rfl rfl (fun w hs => ⟨_, _, rfl, ⟨rfl, rfl⟩, hs⟩)
                  · replace h := ifF h k35
                    refine G.unwanted rfl rfl rfl rfl ?_
                    refine G.unwanted rfl rfl rfl rfl ?_
                    refine G.unwanted rfl rfl rfl rfl ?_
                    refine G.pickF rfl rfl rfl rfl rfl ?_
                    refine G.move rfl rfl rfl rfl ?_
                    refine G.unwanted rfl rfl rfl rfl ?_
                    refine G.unwanted rfl rfl rfl rfl ?_
                    refine G.unwanted rfl rfl rfl rfl ?_
                    refine G.pickF rfl rfl rfl rfl rfl ?_
                    refine G.assign rfl rfl rfl rfl ?_
                    refine G.regionEnd ?_
                    refine G.drop ?_
                    refine G.drop ?_
                    obtain rfl := Option.some.inj h
                    exact G.ret1 Try.func12 rfl rfl (fun w hs => ⟨_, _, rfl, ⟨rfl, rfl⟩, hs⟩)
          intro J39
          refine G.condP rfl (fun k42 => ?_) (fun k42 => ?_)
          · replace h := ifT h k42
            refine G.skip ?_
            refine G.frontAt 1 rfl ?_
            refine G.less ?_ (J39  (decide (a1.kind = 1)) h)
            exact ⟨rfl, rfl, rfl, rfl, rfl, trivial⟩
          · replace h := ifF h k42
            refine G.seq ?_
            refine G.region (l := [0, 1]) rfl ?_
            refine G.cmp (a1.kind = 2) rfl rfl rfl rfl rfl rfl Iff.rfl ?_
            refine G.assign rfl rfl rfl rfl ?_
            refine G.regionEnd ?_
            refine G.condP rfl (fun k41 => ?_) (fun k41 => ?_)
            · replace h := ifT h k41
              refine G.skip ?_
              refine G.frontAt 1 rfl ?_
              refine G.less ?_ (J39  (decide (a1.kind = 2)) h)
              exact ⟨rfl, rfl, rfl, rfl, rfl, trivial⟩
            · replace h := ifF h k41
              refine G.region (l := [0, 1]) rfl ?_
              refine G.cmp (a1.kind = 3) rfl rfl rfl rfl rfl rfl Iff.rfl ?_
              refine G.assign rfl rfl rfl rfl ?_
              refine G.regionEnd ?_
              refine G.frontAt 1 rfl ?_
              refine G.less ?_ (J39  (decide (a1.kind = 3)) h)
              exact ⟨rfl, rfl, rfl, rfl, rfl, trivial⟩
set_option maxRecDepth 20000 in
theorem armoirelaw15_live.ok {O : World} {H : PH} {Fr : List Res}  {r : Bool} (h : armoirelaw15_live.f  = some r) :
    CtrS Try.prog 9 [] O H (Fr) (fun v L' => v = .bool r ∧ Fr = L') := by
  refine CtrS.start (n := 41) Try.func9 rfl Try.ntmps9 rfl rfl ?_
  unfold armoirelaw15_live.f at h
  refine G.seq ?_
  refine G.region (l := [0]) rfl ?_
  refine G.assign rfl rfl rfl rfl ?_
  refine G.regionEnd ?_
  refine G.seq ?_
  refine G.region (l := [0, 1, 2]) rfl ?_
  refine G.build (z := .agg (S_api_Touch.enc (S_api_Touch.mk 0 0 [] 0 0)).toArray) (pl := [(0, 1), (1, 1), (2, 1), (3, 1), (4, 1)]) (cs := S_api_Touch.enc (S_api_Touch.mk 6 1 [] 0 0)) rfl rfl rfl Try.underlying24 (by kernel_rfl) rfl (by kernel_rfl) (by kernel_rfl) rfl ?_
  refine G.alloc (dk := K_S_api_Touch) (x0 := (S_api_Touch.mk 0 0 [] 0 0)) (z := .agg (S_api_Touch.enc (S_api_Touch.mk 0 0 [] 0 0)).toArray) (cs := S_api_Touch.enc (S_api_Touch.mk 0 0 [] 0 0)) rfl rfl rfl (by kernel_rfl) rfl (fun H => K_S_api_Touch.of (S_api_Touch.mk 0 0 [] 0 0)) ?_
  intro g1
  refine G.store (df := K_S_api_Touch) (y := (S_api_Touch.mk 6 1 [] 0 0)) (x1 := (S_api_Touch.mk 6 1 [] 0 0)) rfl rfl rfl rfl (Lens.id _ _) (VR.A (cs := S_api_Touch.enc (S_api_Touch.mk 6 1 [] 0 0)) (K_S_api_Touch.of (S_api_Touch.mk 6 1 [] 0 0))) sz24 rfl ?_
  refine G.regionEnd ?_
  refine G.seq ?_
  refine G.region (l := [0, 1, 2]) rfl ?_
  refine G.build (z := .agg (S_api_Touch.enc (S_api_Touch.mk 0 0 [] 0 0)).toArray) (pl := [(0, 1), (1, 1), (2, 1), (3, 1), (4, 1)]) (cs := S_api_Touch.enc (S_api_Touch.mk 5 1 ([98] : Str) 0 0)) rfl rfl rfl Try.underlying24 (by kernel_rfl) rfl (by kernel_rfl) (by kernel_rfl) rfl ?_
  refine G.alloc (dk := K_S_api_Touch) (x0 := (S_api_Touch.mk 0 0 [] 0 0)) (z := .agg (S_api_Touch.enc (S_api_Touch.mk 0 0 [] 0 0)).toArray) (cs := S_api_Touch.enc (S_api_Touch.mk 0 0 [] 0 0)) rfl rfl rfl (by kernel_rfl) rfl (fun H => K_S_api_Touch.of (S_api_Touch.mk 0 0 [] 0 0)) ?_
  intro g3
  refine G.store (df := K_S_api_Touch) (y := (S_api_Touch.mk 5 1 ([98] : Str) 0 0)) (x1 := (S_api_Touch.mk 5 1 ([98] : Str) 0 0)) rfl rfl rfl rfl (Lens.id _ _) (VR.A (cs := S_api_Touch.enc (S_api_Touch.mk 5 1 ([98] : Str) 0 0)) (K_S_api_Touch.of (S_api_Touch.mk 5 1 ([98] : Str) 0 0))) sz24 rfl ?_
  refine G.regionEnd ?_
  refine G.seq ?_
  refine G.region (l := [0, 1, 2]) rfl ?_
  refine G.build (z := .agg (S_api_Touch.enc (S_api_Touch.mk 0 0 [] 0 0)).toArray) (pl := [(0, 1), (1, 1), (2, 1), (3, 1), (4, 1)]) (cs := S_api_Touch.enc (S_api_Touch.mk 4 2 [] 0 4)) rfl rfl rfl Try.underlying24 (by kernel_rfl) rfl (by kernel_rfl) (by kernel_rfl) rfl ?_
  refine G.alloc (dk := K_S_api_Touch) (x0 := (S_api_Touch.mk 0 0 [] 0 0)) (z := .agg (S_api_Touch.enc (S_api_Touch.mk 0 0 [] 0 0)).toArray) (cs := S_api_Touch.enc (S_api_Touch.mk 0 0 [] 0 0)) rfl rfl rfl (by kernel_rfl) rfl (fun H => K_S_api_Touch.of (S_api_Touch.mk 0 0 [] 0 0)) ?_
  intro g5
  refine G.store (df := K_S_api_Touch) (y := (S_api_Touch.mk 4 2 [] 0 4)) (x1 := (S_api_Touch.mk 4 2 [] 0 4)) rfl rfl rfl rfl (Lens.id _ _) (VR.A (cs := S_api_Touch.enc (S_api_Touch.mk 4 2 [] 0 4)) (K_S_api_Touch.of (S_api_Touch.mk 4 2 [] 0 4))) sz24 rfl ?_
  refine G.regionEnd ?_
  refine G.seq ?_
  refine G.region (l := [0, 1, 2]) rfl ?_
  refine G.build (z := .agg (S_api_Touch.enc (S_api_Touch.mk 0 0 [] 0 0)).toArray) (pl := [(0, 1), (1, 1), (2, 1), (3, 1), (4, 1)]) (cs := S_api_Touch.enc (S_api_Touch.mk 4 2 [] 3 9)) rfl rfl rfl Try.underlying24 (by kernel_rfl) rfl (by kernel_rfl) (by kernel_rfl) rfl ?_
  refine G.alloc (dk := K_S_api_Touch) (x0 := (S_api_Touch.mk 0 0 [] 0 0)) (z := .agg (S_api_Touch.enc (S_api_Touch.mk 0 0 [] 0 0)).toArray) (cs := S_api_Touch.enc (S_api_Touch.mk 0 0 [] 0 0)) rfl rfl rfl (by kernel_rfl) rfl (fun H => K_S_api_Touch.of (S_api_Touch.mk 0 0 [] 0 0)) ?_
  intro g7
  refine G.store (df := K_S_api_Touch) (y := (S_api_Touch.mk 4 2 [] 3 9)) (x1 := (S_api_Touch.mk 4 2 [] 3 9)) rfl rfl rfl rfl (Lens.id _ _) (VR.A (cs := S_api_Touch.enc (S_api_Touch.mk 4 2 [] 3 9)) (K_S_api_Touch.of (S_api_Touch.mk 4 2 [] 3 9))) sz24 rfl ?_
  refine G.regionEnd ?_
  refine G.seq ?_
  refine G.region (l := [0, 1, 2]) rfl ?_
  refine G.build (z := .agg (S_api_Touch.enc (S_api_Touch.mk 0 0 [] 0 0)).toArray) (pl := [(0, 1), (1, 1), (2, 1), (3, 1), (4, 1)]) (cs := S_api_Touch.enc (S_api_Touch.mk 4 2 [] 4 9)) rfl rfl rfl Try.underlying24 (by kernel_rfl) rfl (by kernel_rfl) (by kernel_rfl) rfl ?_
  refine G.alloc (dk := K_S_api_Touch) (x0 := (S_api_Touch.mk 0 0 [] 0 0)) (z := .agg (S_api_Touch.enc (S_api_Touch.mk 0 0 [] 0 0)).toArray) (cs := S_api_Touch.enc (S_api_Touch.mk 0 0 [] 0 0)) rfl rfl rfl (by kernel_rfl) rfl (fun H => K_S_api_Touch.of (S_api_Touch.mk 0 0 [] 0 0)) ?_
  intro g9
  refine G.store (df := K_S_api_Touch) (y := (S_api_Touch.mk 4 2 [] 4 9)) (x1 := (S_api_Touch.mk 4 2 [] 4 9)) rfl rfl rfl rfl (Lens.id _ _) (VR.A (cs := S_api_Touch.enc (S_api_Touch.mk 4 2 [] 4 9)) (K_S_api_Touch.of (S_api_Touch.mk 4 2 [] 4 9))) sz24 rfl ?_
  refine G.regionEnd ?_
  refine G.seq ?_
  refine G.region (l := [0, 1, 2, 3, 4, 5, 6, 7, 8, 9, 10, 11, 12, 13, 14, 15, 16, 17, 18, 19, 20, 21, 22, 23, 24, 25, 26, 27, 28, 29, 30]) rfl ?_
  refine G.loadA (df := K_S_api_Touch) (y := (S_api_Touch.mk 6 1 [] 0 0)) rfl rfl rfl rfl ty24 rfl (fun w hs => Rd.bk (Lens.id _ _) hs (j := 4) rfl) ?_
  intro cs11 f12
  obtain rfl := K_S_api_Touch.open f12
  refine G.loadA (df := K_S_api_Touch) (y := (S_api_Touch.mk 5 1 ([98] : Str) 0 0)) rfl rfl rfl rfl ty24 rfl (fun w hs => Rd.bk (Lens.id _ _) hs (j := 3) rfl) ?_
  intro cs13 f14
  obtain rfl := K_S_api_Touch.open f14
  obtain ⟨t15, e16, h⟩ := bindS h
  refine G.callS rfl rfl rfl rfl call12 (reads_Meet.ok (S_api_Touch.mk 6 1 [] 0 0) (S_api_Touch.mk 5 1 ([98] : Str) 0 0) e16) ?_
  rintro v17 L18 ⟨rfl, rfl⟩
  refine G.move rfl rfl rfl rfl ?_
  refine G.splitB (d := 14) rfl (fun k83 => ?_) (fun k83 => ?_)
  · replace h := ifT h k83
    refine G.build (z := .agg (S_api_Touch.enc (S_api_Touch.mk 0 0 [] 0 0)).toArray) (pl := [(0, 1), (1, 1), (2, 1), (3, 1), (4, 1)]) (cs := S_api_Touch.enc (S_api_Touch.mk 5 1 ([97] : Str) 0 0)) rfl rfl rfl Try.underlying24 (by kernel_rfl) rfl (by kernel_rfl) (by kernel_rfl) rfl ?_
    refine G.loadA (df := K_S_api_Touch) (y := (S_api_Touch.mk 5 1 ([98] : Str) 0 0)) rfl rfl rfl rfl ty24 rfl (fun w hs => Rd.bk (Lens.id _ _) hs (j := 3) rfl) ?_
    intro cs25 f26
    obtain rfl := K_S_api_Touch.open f26
    obtain ⟨t27, e28, h⟩ := bindS h
    refine G.callS rfl rfl rfl rfl call12 (reads_Meet.ok (S_api_Touch.mk 5 1 ([97] : Str) 0 0) (S_api_Touch.mk 5 1 ([98] : Str) 0 0) e28) ?_
    rintro v29 L30 ⟨rfl, rfl⟩
    refine G.not rfl rfl rfl rfl rfl ?_
    refine G.pickT rfl rfl rfl rfl rfl ?_
    refine G.move rfl rfl rfl rfl ?_
    refine G.splitB (d := 20) rfl (fun k82 => ?_) (fun k82 => ?_)
    · replace h := ifT h k82
      refine G.loadA (df := K_S_api_Touch) (y := (S_api_Touch.mk 4 2 [] 0 4)) rfl rfl rfl rfl ty24 rfl (fun w hs => Rd.bk (Lens.id _ _) hs (j := 2) rfl) ?_
      intro cs39 f40
      obtain rfl := K_S_api_Touch.open f40
      refine G.loadA (df := K_S_api_Touch) (y := (S_api_Touch.mk 4 2 [] 3 9)) rfl rfl rfl rfl ty24 rfl (fun w hs => Rd.bk (Lens.id _ _) hs (j := 1) rfl) ?_
      intro cs41 f42
      obtain rfl := K_S_api_Touch.open f42
      obtain ⟨t43, e44, h⟩ := bindS h
      refine G.callS rfl rfl rfl rfl call12 (reads_Meet.ok (S_api_Touch.mk 4 2 [] 0 4) (S_api_Touch.mk 4 2 [] 3 9) e44) ?_
      rintro v45 L46 ⟨rfl, rfl⟩
      refine G.pickT rfl rfl rfl rfl rfl ?_
      refine G.move rfl rfl rfl rfl ?_
      refine G.splitB (d := 25) rfl (fun k81 => ?_) (fun k81 => ?_)
      · replace h := ifT h k81
        refine G.loadA (df := K_S_api_Touch) (y := (S_api_Touch.mk 4 2 [] 0 4)) rfl rfl rfl rfl ty24 rfl (fun w hs => Rd.bk (Lens.id _ _) hs (j := 2) rfl) ?_
        intro cs55 f56
        obtain rfl := K_S_api_Touch.open f56
        refine G.loadA (df := K_S_api_Touch) (y := (S_api_Touch.mk 4 2 [] 4 9)) rfl rfl rfl rfl ty24 rfl (fun w hs => Rd.bk (Lens.id _ _) hs (j := 0) rfl) ?_
        intro cs57 f58
        obtain rfl := K_S_api_Touch.open f58
        obtain ⟨t59, e60, h⟩ := bindS h
        refine G.callS rfl rfl rfl rfl call12 (reads_Meet.ok (S_api_Touch.mk 4 2 [] 0 4) (S_api_Touch.mk 4 2 [] 4 9) e60) ?_
        rintro v61 L62 ⟨rfl, rfl⟩
        refine G.not rfl rfl rfl rfl rfl ?_
        refine G.pickT rfl rfl rfl rfl rfl ?_
        refine G.move rfl rfl rfl rfl ?_
        refine G.splitB (d := 31) rfl (fun k80 => ?_) (fun k80 => ?_)
        · replace h := ifT h k80
          refine G.build (z := .agg (S_api_Touch.enc (S_api_Touch.mk 0 0 [] 0 0)).toArray) (pl := [(0, 1), (1, 1), (2, 1), (3, 1), (4, 1)]) (cs := S_api_Touch.enc (S_api_Touch.mk 3 2 [] 0 0)) rfl rfl rfl Try.underlying24 (by kernel_rfl) rfl (by kernel_rfl) (by kernel_rfl) rfl ?_
          refine G.build (z := .agg (S_api_Touch.enc (S_api_Touch.mk 0 0 [] 0 0)).toArray) (pl := [(0, 1), (1, 1), (2, 1), (3, 1), (4, 1)]) (cs := S_api_Touch.enc (S_api_Touch.mk 7 2 [] 0 0)) rfl rfl rfl Try.underlying24 (by kernel_rfl) rfl (by kernel_rfl) (by kernel_rfl) rfl ?_
          obtain ⟨t67, e68, h⟩ := bindS h
          refine G.callS rfl rfl rfl rfl call12 (reads_Meet.ok (S_api_Touch.mk 3 2 [] 0 0) (S_api_Touch.mk 7 2 [] 0 0) e68) ?_
          rintro v69 L70 ⟨rfl, rfl⟩
          refine G.pickT rfl rfl rfl rfl rfl ?_
          refine G.move rfl rfl rfl rfl ?_
          refine G.splitB (d := 36) rfl (fun k79 => ?_) (fun k79 => ?_)
          · replace h := ifT h k79
            refine G.build (z := .agg (S_api_Touch.enc (S_api_Touch.mk 0 0 [] 0 0)).toArray) (pl := [(0, 1), (1, 1), (2, 1), (3, 1), (4, 1)]) (cs := S_api_Touch.enc (S_api_Touch.mk 0 0 [] 0 0)) rfl rfl rfl Try.underlying24 (by kernel_rfl) rfl (by kernel_rfl) (by kernel_rfl) rfl ?_
            obtain ⟨t75, e76, h⟩ := bindS h
            refine G.callS rfl rfl rfl rfl call10 (reads_Check.ok (S_api_Touch.mk 0 0 [] 0 0) e76) ?_
            rintro v77 L78 ⟨rfl, rfl⟩
            refine G.cmp (t75 = 1) rfl rfl rfl rfl rfl rfl Iff.rfl ?_
            refine G.pickT rfl rfl rfl rfl rfl ?_
            refine G.assign rfl rfl rfl rfl ?_
            refine G.regionEnd ?_
            refine G.drop ?_
            refine G.drop ?_
            refine G.drop ?_
            refine G.drop ?_
            refine G.drop ?_
            obtain rfl := Option.some.inj h
            exact G.ret1 Try.func9 rfl rfl (fun w hs => ⟨_, _, rfl, ⟨rfl, rfl⟩, hs⟩)
          · replace h := ifFB h k79
            refine G.unwanted rfl rfl rfl rfl ?_
            refine G.unwanted rfl rfl rfl rfl ?_
            refine G.unwanted rfl rfl rfl rfl ?_
            refine G.pickF rfl rfl rfl rfl rfl ?_
            refine G.assign rfl rfl rfl rfl ?_
            refine G.regionEnd ?_
            refine G.drop ?_
            refine G.drop ?_
            refine G.drop ?_
            refine G.drop ?_
            refine G.drop ?_
            obtain rfl := Option.some.inj h
            exact G.ret1 Try.func9 rfl rfl (fun w hs => ⟨_, _, rfl, ⟨rfl, rfl⟩, hs⟩)
        · replace h := ifFB h k80
          refine G.unwanted rfl rfl rfl rfl ?_
          refine G.unwanted rfl rfl rfl rfl ?_
          refine G.unwanted rfl rfl rfl rfl ?_
          refine G.pickF rfl rfl rfl rfl rfl ?_
          refine G.move rfl rfl rfl rfl ?_
          refine G.unwanted rfl rfl rfl rfl ?_
          refine G.unwanted rfl rfl rfl rfl ?_
          refine G.unwanted rfl rfl rfl rfl ?_
          refine G.pickF rfl rfl rfl rfl rfl ?_
          refine G.assign rfl rfl rfl rfl ?_
          refine G.regionEnd ?_
          refine G.drop ?_
          refine G.drop ?_
          refine G.drop ?_
          refine G.drop ?_
          refine G.drop ?_
          obtain rfl := Option.some.inj h
          exact G.ret1 Try.func9 rfl rfl (fun w hs => ⟨_, _, rfl, ⟨rfl, rfl⟩, hs⟩)
      · replace h := ifFB h k81
        refine G.unwanted rfl rfl rfl rfl ?_
        refine G.unwanted rfl rfl rfl rfl ?_
        refine G.unwanted rfl rfl rfl rfl ?_
        refine G.unwanted rfl rfl rfl rfl ?_
        refine G.pickF rfl rfl rfl rfl rfl ?_
        refine G.move rfl rfl rfl rfl ?_
        refine G.unwanted rfl rfl rfl rfl ?_
        refine G.unwanted rfl rfl rfl rfl ?_
        refine G.unwanted rfl rfl rfl rfl ?_
        refine G.pickF rfl rfl rfl rfl rfl ?_
        refine G.move rfl rfl rfl rfl ?_
        refine G.unwanted rfl rfl rfl rfl ?_
        refine G.unwanted rfl rfl rfl rfl ?_
        refine G.unwanted rfl rfl rfl rfl ?_
        refine G.pickF rfl rfl rfl rfl rfl ?_
        refine G.assign rfl rfl rfl rfl ?_
        refine G.regionEnd ?_
        refine G.drop ?_
        refine G.drop ?_
        refine G.drop ?_
        refine G.drop ?_
        refine G.drop ?_
        obtain rfl := Option.some.inj h
        exact G.ret1 Try.func9 rfl rfl (fun w hs => ⟨_, _, rfl, ⟨rfl, rfl⟩, hs⟩)
    · replace h := ifFB h k82
      refine G.unwanted rfl rfl rfl rfl ?_
      refine G.unwanted rfl rfl rfl rfl ?_
      refine G.unwanted rfl rfl rfl rfl ?_
      refine G.pickF rfl rfl rfl rfl rfl ?_
      refine G.move rfl rfl rfl rfl ?_
      refine G.unwanted rfl rfl rfl rfl ?_
      refine G.unwanted rfl rfl rfl rfl ?_
      refine G.unwanted rfl rfl rfl rfl ?_
      refine G.unwanted rfl rfl rfl rfl ?_
      refine G.pickF rfl rfl rfl rfl rfl ?_
      refine G.move rfl rfl rfl rfl ?_
      refine G.unwanted rfl rfl rfl rfl ?_
      refine G.unwanted rfl rfl rfl rfl ?_
      refine G.unwanted rfl rfl rfl rfl ?_
      refine G.pickF rfl rfl rfl rfl rfl ?_
      refine G.move rfl rfl rfl rfl ?_
      refine G.unwanted rfl rfl rfl rfl ?_
      refine G.unwanted rfl rfl rfl rfl ?_
      refine G.unwanted rfl rfl rfl rfl ?_
      refine G.pickF rfl rfl rfl rfl rfl ?_
      refine G.assign rfl rfl rfl rfl ?_
      refine G.regionEnd ?_
      refine G.drop ?_
      refine G.drop ?_
      refine G.drop ?_
      refine G.drop ?_
      refine G.drop ?_
      obtain rfl := Option.some.inj h
      exact G.ret1 Try.func9 rfl rfl (fun w hs => ⟨_, _, rfl, ⟨rfl, rfl⟩, hs⟩)
  · replace h := ifFB h k83
    refine G.unwanted rfl rfl rfl rfl ?_
    refine G.unwanted rfl rfl rfl rfl ?_
    refine G.unwanted rfl rfl rfl rfl ?_
    refine G.unwanted rfl rfl rfl rfl ?_
    refine G.pickF rfl rfl rfl rfl rfl ?_
    refine G.move rfl rfl rfl rfl ?_
    refine G.unwanted rfl rfl rfl rfl ?_
    refine G.unwanted rfl rfl rfl rfl ?_
    refine G.unwanted rfl rfl rfl rfl ?_
    refine G.pickF rfl rfl rfl rfl rfl ?_
    refine G.move rfl rfl rfl rfl ?_
    refine G.unwanted rfl rfl rfl rfl ?_
    refine G.unwanted rfl rfl rfl rfl ?_
    refine G.unwanted rfl rfl rfl rfl ?_
    refine G.unwanted rfl rfl rfl rfl ?_
    refine G.pickF rfl rfl rfl rfl rfl ?_
    refine G.move rfl rfl rfl rfl ?_
    refine G.unwanted rfl rfl rfl rfl ?_
    refine G.unwanted rfl rfl rfl rfl ?_
    refine G.unwanted rfl rfl rfl rfl ?_
    refine G.pickF rfl rfl rfl rfl rfl ?_
    refine G.move rfl rfl rfl rfl ?_
    refine G.unwanted rfl rfl rfl rfl ?_
    refine G.unwanted rfl rfl rfl rfl ?_
    refine G.unwanted rfl rfl rfl rfl ?_
    refine G.pickF rfl rfl rfl rfl rfl ?_
    refine G.assign rfl rfl rfl rfl ?_
    refine G.regionEnd ?_
    refine G.drop ?_
    refine G.drop ?_
    refine G.drop ?_
    refine G.drop ?_
    refine G.drop ?_
    obtain rfl := Option.some.inj h
    exact G.ret1 Try.func9 rfl rfl (fun w hs => ⟨_, _, rfl, ⟨rfl, rfl⟩, hs⟩)
set_option maxRecDepth 20000 in
theorem reads_New.ok {O : World} {H : PH} {Fr : List Res}  {r : S_reads_Set} (h : reads_New.f  = some r) :
    CtrS Try.prog 17 [] O H (Fr) (fun v L' => ∃ (gr0 : Nat) (Ar0 : Option Addr) (nr0 : Nat), v = .pointer (some ⟨gr0, 0, none⟩) ∧ BK 69 K_R_reads_Set gr0 (R_reads_Set.mk (Ar0, r.l.length, nr0)) :: OS 24 K_S_api_Touch Ar0 nr0 r.l :: Fr = L') := by
  refine CtrS.start (n := 3) Try.func17 rfl Try.ntmps17 rfl rfl ?_
  unfold reads_New.f at h
  refine G.seq ?_
  refine G.region (l := [0]) rfl ?_
  refine G.assign rfl rfl rfl rfl ?_
  refine G.regionEnd ?_
  refine G.seq ?_
  refine G.region (l := [0, 1, 2]) rfl ?_
  refine G.build (z := .agg (([.slice none 0 0] : List Value)).toArray) (pl := [(0, 1)]) (cs := ([.slice none 0 0] : List Value)) rfl rfl rfl Try.underlying69 (by kernel_rfl) rfl (by kernel_rfl) (by kernel_rfl) rfl ?_
  refine G.box (dk := K_R_reads_Set) (y := (R_reads_Set.mk (none, 0, 0))) rfl rfl rfl rfl (VR.A (cs := ([.slice none 0 0] : List Value)) (K_R_reads_Set.mk rfl)) ?_
  intro g1
  refine G.assign rfl rfl rfl rfl ?_
  refine G.regionEnd ?_
  refine G.osNil 24 K_S_api_Touch ?_
  refine G.frontAt 1 rfl ?_
  refine G.headEq (r' := BK 69 K_R_reads_Set g1 (R_reads_Set.mk (none, ([] : List S_api_Touch).length, 0))) (by first | (simp; done) | (simp; omega)) ?_
  refine G.frontAt 1 rfl ?_
  refine G.frontAt 1 rfl ?_
  obtain rfl := Option.some.inj h
  exact G.ret1 Try.func17 rfl rfl (fun w hs => ⟨_, _, rfl, ⟨g1, none, 0, rfl, rfl⟩, hs⟩)
def slices_Index_Lapi_Touch_api_Touch.reg41_4 (B : List (Nat × Value)) : Reg := ⟨[[], [], [], [1, 2], [3], [0, 4]], [some 11, some 12, some 13, some 14, some 15, some 16], B⟩
theorem slices_Index_Lapi_Touch_api_Touch.reg41_4_ap (B : List (Nat × Value)) : (slices_Index_Lapi_Touch_api_Touch.reg41_4 B).apart = true := rfl
set_option maxRecDepth 20000 in
theorem slices_Index_Lapi_Touch_api_Touch.ok {O : World} {H : PH} {Fr : List Res} (a0 : (List S_api_Touch)) (A0 : Option Addr) (n0 : Nat) (F0 : SlR K_S_api_Touch H A0 n0 a0) (a1 : S_api_Touch) {r : Int} (h : slices_Index_Lapi_Touch_api_Touch.f a0 a1 = some r) :
    CtrS Try.prog 41 [.slice A0 a0.length n0, .agg (S_api_Touch.enc a1).toArray] O H (Fr) (fun v L' => v = .int .i64 r ∧ Fr = L') := by
  refine CtrS.start (n := 19) Try.func41 rfl Try.ntmps41 rfl rfl ?_
  unfold slices_Index_Lapi_Touch_api_Touch.f at h
  refine G.seq ?_
  refine G.region (l := [0, 1]) rfl ?_
  refine G.box (dk := K_S_api_Touch) (y := a1) rfl rfl rfl rfl (VR.A (cs := S_api_Touch.enc a1) (K_S_api_Touch.of a1)) ?_
  intro g1
  refine G.assign rfl rfl rfl rfl ?_
  refine G.regionEnd ?_
  refine G.seq ?_
  refine G.seq ?_
  refine G.region (l := [0, 1, 2]) rfl ?_
  refine G.move rfl rfl rfl rfl ?_
  refine G.len (m := a0.length) rfl rfl rfl rfl Try.underlying31 ?_
  refine G.move rfl rfl rfl rfl ?_
  refine G.regionEnd ?_
  refine G.block ?_
  refine G.loop (fun GG K => ∀ (d14 : Nat) (x3 : Int), slices_Index_Lapi_Touch_api_Touch.l0 a0 a1 d14 x3 = some r → GG H [(0, .slice A0 a0.length n0), (3, .pointer (some ⟨g1, 0, none⟩)), (7, .int .i64 (a0.length : Int)), (8, .int .i64 x3)] (BK 24 K_S_api_Touch g1 a1 :: Fr) K) ?_ ?_
  · intro d14
    induction d14 with
    | zero => intro x3 h; rw [slices_Index_Lapi_Touch_api_Touch.l0] at h; cases h
    | succ d14 ih13 =>
      intro x3 h
      rw [slices_Index_Lapi_Touch_api_Touch.l0] at h
      refine G.seq ?_
      refine G.region (l := [0]) rfl ?_
      refine G.cmp (x3 < (a0.length : Int)) rfl rfl rfl rfl rfl rfl Iff.rfl ?_
      refine G.regionEnd ?_
      refine G.seq ?_
      refine G.condP rfl (fun k34 => ?_) (fun k34 => ?_)
      · replace h := ifT h k34
        refine G.skip ?_
        refine G.seq ?_
        refine G.block ?_
        refine G.seq ?_
        refine G.region (l := [0, 1]) rfl ?_
        refine G.move rfl rfl rfl rfl ?_
        refine G.assign rfl rfl rfl rfl ?_
        refine G.regionEnd ?_
        refine G.seq ?_
        obtain ⟨k20, h⟩ := guardS h
        refine G.draw [[], [], [], [1, 2], [3], [0, 4]] 6 [0, 1, 2, 3, 4, 5] [0, 0, 0, 1, 2, 3] [0, 0, 0, 1, 2, 3] rfl (by kernel_rfl) (by kernel_rfl) (by kernel_rfl) (by kernel_rfl) ?_
        intro C24 ops25 k26
        let R27 : Reg := slices_Index_Lapi_Touch_api_Touch.reg41_4 [(0, .slice A0 a0.length n0), (3, .pointer (some ⟨g1, 0, none⟩)), (5, .int .i64 x3), (7, .int .i64 (a0.length : Int)), (8, .int .i64 x3)]
        have P33 : ∀ (a18 : Addr) (f19 : PtR K_S_api_Touch H a18 (a0.getD x3.toNat (S_api_Touch.mk 0 0 [] 0 0))) (m : Nat) (L : List Bool) (A : List (Nat × Value)) (l : List Nat), L.length = R27.ds.length → R27.Phi [some (.agg (S_api_Touch.enc a1).toArray), some (.slice A0 a0.length n0), some (.int .i64 x3), some (.pointer (some a18)), some (.agg (S_api_Touch.enc (a0.getD x3.toNat (S_api_Touch.mk 0 0 [] 0 0))).toArray), some (.bool (decide (a1 = (a0.getD x3.toNat (S_api_Touch.mk 0 0 [] 0 0)))))] [0, 1, 2, 3, 4] [] L A → left L = m → Ord R27.ds m L l → G C24 H A (BK 24 K_S_api_Touch g1 a1 :: Fr) (.inRegion ops25 l :: k26) := by
          intro a18 f19
          refine G.phase R27 [some (.agg (S_api_Touch.enc a1).toArray), some (.slice A0 a0.length n0), some (.int .i64 x3), some (.pointer (some a18)), some (.agg (S_api_Touch.enc (a0.getD x3.toNat (S_api_Touch.mk 0 0 [] 0 0))).toArray), some (.bool (decide (a1 = (a0.getD x3.toNat (S_api_Touch.mk 0 0 [] 0 0)))))] [5] [] [0, 1, 2, 3, 4] [] (slices_Index_Lapi_Touch_api_Touch.reg41_4_ap _) rfl rfl ⟨⟨[.op 0, .op 4], 16, .bool (decide (a1 = (a0.getD x3.toNat (S_api_Touch.mk 0 0 [] 0 0)))), [(11, .agg (S_api_Touch.enc a1).toArray), (15, .agg (S_api_Touch.enc (a0.getD x3.toNat (S_api_Touch.mk 0 0 [] 0 0))).toArray)], ⟨rfl, rfl, rfl, rfl, ?_⟩⟩, trivial⟩ trivial ?_
          · intro X rest g
            refine G.eqA (dk := K_S_api_Touch) (x := a1) (y := a0.getD x3.toNat (S_api_Touch.mk 0 0 [] 0 0)) rfl rfl rfl rfl rfl rfl (by kernel_rfl) eq24 rfl (K_S_api_Touch.of a1) (K_S_api_Touch.of (a0.getD x3.toNat (S_api_Touch.mk 0 0 [] 0 0))) ?_
            exact g
          · intro A L hlen hp h0
            refine G.lessSub (B := [(0, .slice A0 a0.length n0), (3, .pointer (some ⟨g1, 0, none⟩)), (5, .int .i64 x3), (7, .int .i64 (a0.length : Int)), (8, .int .i64 x3), (16, .bool (decide (a1 = (a0.getD x3.toNat (S_api_Touch.mk 0 0 [] 0 0)))))]) (hp.fin hlen h0 (src := [.base 0, .base 3, .base 5, .base 7, .base 8, .op 5]) rfl) ?_
            refine G.regionEnd ?_
            refine G.condP rfl (fun k23 => ?_) (fun k23 => ?_)
            · replace h := ifT h k23
              refine G.seq ?_
              refine G.region (l := [0, 1]) rfl ?_
              refine G.move rfl rfl rfl rfl ?_
              refine G.assign rfl rfl rfl rfl ?_
              refine G.regionEnd ?_
              refine G.drop ?_
              obtain rfl := Option.some.inj h
              exact G.ret1 Try.func41 rfl rfl (fun w hs => ⟨_, _, rfl, ⟨rfl, rfl⟩, hs⟩)
            · replace h := ifF h k23
              refine G.skip ?_
              refine G.inBlock ?_
              refine G.region (l := [0, 1]) rfl ?_
              refine G.bin (m := x3) (n := 1) (r := wi64 (x3 + 1)) rfl rfl rfl rfl rfl rfl rfl ?_
              refine G.move rfl rfl rfl rfl ?_
              refine G.regionEnd ?_
              refine G.round ?_
              refine G.less ?_ (ih13  (wi64 (x3 + 1)) h)
              exact ⟨rfl, rfl, rfl, rfl, trivial⟩
        have P32 : ∀ (a18 : Addr) (f19 : PtR K_S_api_Touch H a18 (a0.getD x3.toNat (S_api_Touch.mk 0 0 [] 0 0))) (m : Nat) (L : List Bool) (A : List (Nat × Value)) (l : List Nat), L.length = R27.ds.length → R27.Phi [none, some (.slice A0 a0.length n0), some (.int .i64 x3), some (.pointer (some a18)), some (.agg (S_api_Touch.enc (a0.getD x3.toNat (S_api_Touch.mk 0 0 [] 0 0))).toArray), none] [1, 2, 3, 4] [0, 5] L A → left L = m → Ord R27.ds m L l → G C24 H A (BK 24 K_S_api_Touch g1 a1 :: Fr) (.inRegion ops25 l :: k26) := by
          intro a18 f19
          refine G.phase R27 [none, some (.slice A0 a0.length n0), some (.int .i64 x3), some (.pointer (some a18)), some (.agg (S_api_Touch.enc (a0.getD x3.toNat (S_api_Touch.mk 0 0 [] 0 0))).toArray), none] [] [0] [1, 2, 3, 4] [0, 5] (slices_Index_Lapi_Touch_api_Touch.reg41_4_ap _) rfl rfl trivial ⟨⟨[.base 3], [(3, .pointer (some ⟨g1, 0, none⟩))], ⟨rfl, rfl, ?_⟩⟩, trivial⟩ ?_
          · intro X rest L m hlen hp hil hd hs hm ho
            refine G.loadA (df := K_S_api_Touch) (y := a1) rfl rfl rfl rfl ty24 rfl (fun w hs => Rd.bk (Lens.id _ _) hs (j := 0) rfl) ?_
            intro cs16 f17
            obtain rfl := K_S_api_Touch.open f17
            exact P33 a18 f19 m _ _ rest (by rw [List.length_set]; exact hlen) (hp.stepS2 0 (slices_Index_Lapi_Touch_api_Touch.reg41_4_ap _) hil hd hs (by repeat (first | exact trivial | refine And.intro rfl ?_)) rfl rfl rfl rfl) hm ho
          · intro A L hlen hp h0
            exact (hp.notYet hlen h0 0 rfl rfl).elim
        have P31 : ∀ (a18 : Addr) (f19 : PtR K_S_api_Touch H a18 (a0.getD x3.toNat (S_api_Touch.mk 0 0 [] 0 0))) (m : Nat) (L : List Bool) (A : List (Nat × Value)) (l : List Nat), L.length = R27.ds.length → R27.Phi [some (.agg (S_api_Touch.enc a1).toArray), some (.slice A0 a0.length n0), some (.int .i64 x3), some (.pointer (some a18)), none, none] [0, 1, 2, 3] [4, 5] L A → left L = m → Ord R27.ds m L l → G C24 H A (BK 24 K_S_api_Touch g1 a1 :: Fr) (.inRegion ops25 l :: k26) := by
          intro a18 f19
          refine G.phase R27 [some (.agg (S_api_Touch.enc a1).toArray), some (.slice A0 a0.length n0), some (.int .i64 x3), some (.pointer (some a18)), none, none] [] [4] [0, 1, 2, 3] [4, 5] (slices_Index_Lapi_Touch_api_Touch.reg41_4_ap _) rfl rfl trivial ⟨⟨[.op 3], [(14, .pointer (some a18))], ⟨rfl, rfl, ?_⟩⟩, trivial⟩ ?_
          · intro X rest L m hlen hp hil hd hs hm ho
            refine G.loadA (df := K_S_api_Touch) (y := a0.getD x3.toNat (S_api_Touch.mk 0 0 [] 0 0)) rfl rfl rfl rfl ty24 rfl (fun w hs => Rd.ro f19 hs) ?_
            intro cs21 f22
            obtain rfl := K_S_api_Touch.open f22
            exact P33 a18 f19 m _ _ rest (by rw [List.length_set]; exact hlen) (hp.stepS2 0 (slices_Index_Lapi_Touch_api_Touch.reg41_4_ap _) hil hd hs (by repeat (first | exact trivial | refine And.intro rfl ?_)) rfl rfl rfl rfl) hm ho
          · intro A L hlen hp h0
            exact (hp.notYet hlen h0 4 rfl rfl).elim
        have P30 : ∀ (a18 : Addr) (f19 : PtR K_S_api_Touch H a18 (a0.getD x3.toNat (S_api_Touch.mk 0 0 [] 0 0))) (m : Nat) (L : List Bool) (A : List (Nat × Value)) (l : List Nat), L.length = R27.ds.length → R27.Phi [none, some (.slice A0 a0.length n0), some (.int .i64 x3), some (.pointer (some a18)), none, none] [1, 2, 3] [0, 4, 5] L A → left L = m → Ord R27.ds m L l → G C24 H A (BK 24 K_S_api_Touch g1 a1 :: Fr) (.inRegion ops25 l :: k26) := by
          intro a18 f19
          refine G.phase R27 [none, some (.slice A0 a0.length n0), some (.int .i64 x3), some (.pointer (some a18)), none, none] [] [0, 4] [1, 2, 3] [0, 4, 5] (slices_Index_Lapi_Touch_api_Touch.reg41_4_ap _) rfl rfl trivial ⟨⟨[.base 3], [(3, .pointer (some ⟨g1, 0, none⟩))], ⟨rfl, rfl, ?_⟩⟩, ⟨⟨[.op 3], [(14, .pointer (some a18))], ⟨rfl, rfl, ?_⟩⟩, trivial⟩⟩ ?_
          · intro X rest L m hlen hp hil hd hs hm ho
            refine G.loadA (df := K_S_api_Touch) (y := a1) rfl rfl rfl rfl ty24 rfl (fun w hs => Rd.bk (Lens.id _ _) hs (j := 0) rfl) ?_
            intro cs16 f17
            obtain rfl := K_S_api_Touch.open f17
            exact P31 a18 f19 m _ _ rest (by rw [List.length_set]; exact hlen) (hp.stepS2 0 (slices_Index_Lapi_Touch_api_Touch.reg41_4_ap _) hil hd hs (by repeat (first | exact trivial | refine And.intro rfl ?_)) rfl rfl rfl rfl) hm ho
          · intro X rest L m hlen hp hil hd hs hm ho
            refine G.loadA (df := K_S_api_Touch) (y := a0.getD x3.toNat (S_api_Touch.mk 0 0 [] 0 0)) rfl rfl rfl rfl ty24 rfl (fun w hs => Rd.ro f19 hs) ?_
            intro cs21 f22
            obtain rfl := K_S_api_Touch.open f22
            exact P32 a18 f19 m _ _ rest (by rw [List.length_set]; exact hlen) (hp.stepS2 0 (slices_Index_Lapi_Touch_api_Touch.reg41_4_ap _) hil hd hs (by repeat (first | exact trivial | refine And.intro rfl ?_)) rfl rfl rfl rfl) hm ho
          · intro A L hlen hp h0
            exact (hp.notYet hlen h0 0 rfl rfl).elim
        have P29 : ∀ (m : Nat) (L : List Bool) (A : List (Nat × Value)) (l : List Nat), L.length = R27.ds.length → R27.Phi [some (.agg (S_api_Touch.enc a1).toArray), some (.slice A0 a0.length n0), some (.int .i64 x3), none, none, none] [0] [3, 4, 5] L A → left L = m → Ord R27.ds m L l → G C24 H A (BK 24 K_S_api_Touch g1 a1 :: Fr) (.inRegion ops25 l :: k26) := by
          refine G.phase R27 [some (.agg (S_api_Touch.enc a1).toArray), some (.slice A0 a0.length n0), some (.int .i64 x3), none, none, none] [1, 2] [3] [0] [3, 4, 5] (slices_Index_Lapi_Touch_api_Touch.reg41_4_ap _) rfl rfl ⟨⟨[.base 0], 12, .slice A0 a0.length n0, [(0, .slice A0 a0.length n0)], ⟨rfl, rfl, rfl, rfl, ?_⟩⟩, ⟨⟨[.base 5], 13, .int .i64 x3, [(5, .int .i64 x3)], ⟨rfl, rfl, rfl, rfl, ?_⟩⟩, trivial⟩⟩ ⟨⟨[.op 1, .op 2], [(12, .slice A0 a0.length n0), (13, .int .i64 x3)], ⟨rfl, rfl, ?_⟩⟩, trivial⟩ ?_
          · intro X rest g
            refine G.move rfl rfl rfl rfl ?_
            exact g
          · intro X rest g
            refine G.move rfl rfl rfl rfl ?_
            exact g
          · intro X rest L m hlen hp hil hd hs hm ho
            refine G.indexR (xs := a0) (j := x3) (S_api_Touch.mk 0 0 [] 0 0) rfl rfl rfl rfl rfl el31 F0 k20 ?_
            intro a18 f19
            exact P31 a18 f19 m _ _ rest (by rw [List.length_set]; exact hlen) (hp.stepS2 1 (slices_Index_Lapi_Touch_api_Touch.reg41_4_ap _) hil hd hs (by repeat (first | exact trivial | refine And.intro rfl ?_)) rfl rfl rfl rfl) hm ho
          · intro A L hlen hp h0
            exact (hp.notYet hlen h0 3 rfl rfl).elim
        have P28 : ∀ (m : Nat) (L : List Bool) (A : List (Nat × Value)) (l : List Nat), L.length = R27.ds.length → R27.Phi [none, some (.slice A0 a0.length n0), some (.int .i64 x3), none, none, none] [] [0, 3, 4, 5] L A → left L = m → Ord R27.ds m L l → G C24 H A (BK 24 K_S_api_Touch g1 a1 :: Fr) (.inRegion ops25 l :: k26) := by
          refine G.phase R27 [none, some (.slice A0 a0.length n0), some (.int .i64 x3), none, none, none] [1, 2] [0, 3] [] [0, 3, 4, 5] (slices_Index_Lapi_Touch_api_Touch.reg41_4_ap _) rfl rfl ⟨⟨[.base 0], 12, .slice A0 a0.length n0, [(0, .slice A0 a0.length n0)], ⟨rfl, rfl, rfl, rfl, ?_⟩⟩, ⟨⟨[.base 5], 13, .int .i64 x3, [(5, .int .i64 x3)], ⟨rfl, rfl, rfl, rfl, ?_⟩⟩, trivial⟩⟩ ⟨⟨[.base 3], [(3, .pointer (some ⟨g1, 0, none⟩))], ⟨rfl, rfl, ?_⟩⟩, ⟨⟨[.op 1, .op 2], [(12, .slice A0 a0.length n0), (13, .int .i64 x3)], ⟨rfl, rfl, ?_⟩⟩, trivial⟩⟩ ?_
          · intro X rest g
            refine G.move rfl rfl rfl rfl ?_
            exact g
          · intro X rest g
            refine G.move rfl rfl rfl rfl ?_
            exact g
          · intro X rest L m hlen hp hil hd hs hm ho
            refine G.loadA (df := K_S_api_Touch) (y := a1) rfl rfl rfl rfl ty24 rfl (fun w hs => Rd.bk (Lens.id _ _) hs (j := 0) rfl) ?_
            intro cs16 f17
            obtain rfl := K_S_api_Touch.open f17
            exact P29 m _ _ rest (by rw [List.length_set]; exact hlen) (hp.stepS2 0 (slices_Index_Lapi_Touch_api_Touch.reg41_4_ap _) hil hd hs (by repeat (first | exact trivial | refine And.intro rfl ?_)) rfl rfl rfl rfl) hm ho
          · intro X rest L m hlen hp hil hd hs hm ho
            refine G.indexR (xs := a0) (j := x3) (S_api_Touch.mk 0 0 [] 0 0) rfl rfl rfl rfl rfl el31 F0 k20 ?_
            intro a18 f19
            exact P30 a18 f19 m _ _ rest (by rw [List.length_set]; exact hlen) (hp.stepS2 1 (slices_Index_Lapi_Touch_api_Touch.reg41_4_ap _) hil hd hs (by repeat (first | exact trivial | refine And.intro rfl ?_)) rfl rfl rfl rfl) hm ho
          · intro A L hlen hp h0
            exact (hp.notYet hlen h0 0 rfl rfl).elim
        intro l hl
        exact P28 6 (List.replicate 6 false) _ l rfl (Reg.Phi.init 6 ⟨rfl, rfl, rfl, rfl, rfl, trivial⟩) (left_rep 6) hl
      · replace h := ifF h k34
        refine G.exit rfl ?_
        refine G.seq ?_
        refine G.region (l := [0]) rfl ?_
        refine G.assign rfl rfl rfl rfl ?_
        refine G.regionEnd ?_
        refine G.drop ?_
        obtain rfl := Option.some.inj h
        exact G.ret1 Try.func41 rfl rfl (fun w hs => ⟨_, _, rfl, ⟨rfl, rfl⟩, hs⟩)
  intro J35
  refine G.less ?_ (J35 FUEL  0 h)
  exact ⟨rfl, rfl, rfl, rfl, trivial⟩
set_option maxRecDepth 20000 in
theorem slices_Contains_Lapi_Touch_api_Touch.ok {O : World} {H : PH} {Fr : List Res} (a0 : (List S_api_Touch)) (A0 : Option Addr) (n0 : Nat) (F0 : SlR K_S_api_Touch H A0 n0 a0) (a1 : S_api_Touch) {r : Bool} (h : slices_Contains_Lapi_Touch_api_Touch.f a0 a1 = some r) :
    CtrS Try.prog 36 [.slice A0 a0.length n0, .agg (S_api_Touch.enc a1).toArray] O H (Fr) (fun v L' => v = .bool r ∧ Fr = L') := by
  refine CtrS.start (n := 9) Try.func36 rfl Try.ntmps36 rfl rfl ?_
  unfold slices_Contains_Lapi_Touch_api_Touch.f at h
  refine G.seq ?_
  refine G.region (l := [0, 1]) rfl ?_
  refine G.box (dk := K_S_api_Touch) (y := a1) rfl rfl rfl rfl (VR.A (cs := S_api_Touch.enc a1) (K_S_api_Touch.of a1)) ?_
  intro g1
  refine G.assign rfl rfl rfl rfl ?_
  refine G.regionEnd ?_
  refine G.seq ?_
  refine G.region (l := [0, 1, 2, 3, 4]) rfl ?_
  refine G.move rfl rfl rfl rfl ?_
  refine G.loadA (df := K_S_api_Touch) (y := a1) rfl rfl rfl rfl ty24 rfl (fun w hs => Rd.bk (Lens.id _ _) hs (j := 0) rfl) ?_
  intro cs3 f4
  obtain rfl := K_S_api_Touch.open f4
  obtain ⟨t5, e6, h⟩ := bindS h
  refine G.callS rfl rfl rfl rfl call41 (slices_Index_Lapi_Touch_api_Touch.ok a0 A0 n0 F0 a1 e6) ?_
  rintro v7 L8 ⟨rfl, rfl⟩
  refine G.cmp (0 ≤ t5) rfl rfl rfl rfl rfl rfl Iff.rfl ?_
  refine G.assign rfl rfl rfl rfl ?_
  refine G.regionEnd ?_
  refine G.drop ?_
  obtain rfl := Option.some.inj h
  exact G.ret1 Try.func36 rfl rfl (fun w hs => ⟨_, _, rfl, ⟨rfl, rfl⟩, hs⟩)
def reads_Set_Add.reg18_5 (B : List (Nat × Value)) : Reg := ⟨[[], [], [1], [2], [3], [], [5], [4, 6], [0, 0, 1, 2, 3, 4, 5, 6, 7], [8, 0, 1, 2, 3, 4, 5, 6, 7], [9, 7, 7, 0, 1, 2, 3, 4, 5, 6, 7]], [some 18, some 19, some 20, some 21, some 22, some 23, some 24, some 25, some 26, some 27, none], B⟩
theorem reads_Set_Add.reg18_5_ap (B : List (Nat × Value)) : (reads_Set_Add.reg18_5 B).apart = true := rfl
def reads_Set_Add.reg18_4 (B : List (Nat × Value)) : Reg := ⟨[[], [0], [1], [2], [], [3, 4], [5]], [some 11, some 12, some 13, some 14, some 15, some 16, some 17], B⟩
theorem reads_Set_Add.reg18_4_ap (B : List (Nat × Value)) : (reads_Set_Add.reg18_4 B).apart = true := rfl
set_option maxRecDepth 20000 in
theorem reads_Set_Add.ok {O : World} {H : PH} {Fr : List Res} (a0 : S_reads_Set) (g0 : Nat) (A0 : Option Addr) (n0 : Nat) (a1 : S_api_Touch) {r : Int × S_reads_Set} (h : reads_Set_Add.f a0 a1 = some r) :
    CtrS Try.prog 18 [.pointer (some ⟨g0, 0, none⟩), .agg (S_api_Touch.enc a1).toArray] O H (BK 69 K_R_reads_Set g0 (R_reads_Set.mk (A0, a0.l.length, n0)) :: OS 24 K_S_api_Touch A0 n0 a0.l :: Fr) (fun v L' => ∃ (Ar0 : Option Addr) (nr0 : Nat), v = .int .i64 r.1 ∧ BK 69 K_R_reads_Set g0 (R_reads_Set.mk (Ar0, r.2.l.length, nr0)) :: OS 24 K_S_api_Touch Ar0 nr0 r.2.l :: Fr = L') := by
  refine CtrS.start (n := 28) Try.func18 rfl Try.ntmps18 rfl rfl ?_
  unfold reads_Set_Add.f at h
  refine G.seq ?_
  refine G.region (l := [0, 1]) rfl ?_
  refine G.box (dk := K_S_api_Touch) (y := a1) rfl rfl rfl rfl (VR.A (cs := S_api_Touch.enc a1) (K_S_api_Touch.of a1)) ?_
  intro g3
  refine G.assign rfl rfl rfl rfl ?_
  refine G.regionEnd ?_
  refine G.seq ?_
  refine G.seq ?_
  refine G.region (l := [0, 1, 2]) rfl ?_
  refine G.loadA (df := K_S_api_Touch) (y := a1) rfl rfl rfl rfl ty24 rfl (fun w hs => Rd.bk (Lens.id _ _) hs (j := 0) rfl) ?_
  intro cs5 f6
  obtain rfl := K_S_api_Touch.open f6
  obtain ⟨t7, e8, h⟩ := bindS h
  refine G.callS rfl rfl rfl rfl call10 (reads_Check.ok a1 e8) ?_
  rintro v9 L10 ⟨rfl, rfl⟩
  refine G.assign rfl rfl rfl rfl ?_
  refine G.regionEnd ?_
  refine G.seq ?_
  refine G.region (l := [0, 1]) rfl ?_
  refine G.move rfl rfl rfl rfl ?_
  refine G.cmp (t7 ≠ 0) rfl rfl rfl rfl rfl rfl Iff.rfl ?_
  refine G.regionEnd ?_
  refine G.condP rfl (fun k53 => ?_) (fun k53 => ?_)
  · replace h := ifT h k53
    refine G.seq ?_
    refine G.region (l := [0, 1]) rfl ?_
    refine G.move rfl rfl rfl rfl ?_
    refine G.assign rfl rfl rfl rfl ?_
    refine G.regionEnd ?_
    refine G.drop ?_
    refine G.frontAt 1 rfl ?_
    refine G.frontAt 1 rfl ?_
    obtain rfl := Option.some.inj h
    exact G.ret1 Try.func18 rfl rfl (fun w hs => ⟨_, _, rfl, ⟨A0, n0, rfl, rfl⟩, hs⟩)
  · replace h := ifF h k53
    refine G.skip ?_
    refine G.seq ?_
    refine G.seq ?_
    obtain ⟨t13, e14, h⟩ := bindS h
    refine G.draw [[], [0], [1], [2], [], [3, 4], [5]] 7 [0, 1, 2, 3, 4, 5, 6] [0, 1, 2, 3, 0, 4, 5] [0, 1, 2, 3, 0, 4, 5] rfl (by kernel_rfl) (by kernel_rfl) (by kernel_rfl) (by kernel_rfl) ?_
    intro C47 ops48 k49
    let R50 : Reg := reads_Set_Add.reg18_4 [(0, .pointer (some ⟨g0, 0, none⟩)), (3, .pointer (some ⟨g3, 0, none⟩))]
    have P52 : ∀ (m : Nat) (L : List Bool) (A : List (Nat × Value)) (l : List Nat), L.length = R50.ds.length → R50.Phi [some (.pointer (some ⟨g0, 0, none⟩)), some (.pointer (some ⟨g0, 0, none⟩)), some (.pointer (some ⟨g0, 0, none⟩)), some (.slice A0 a0.l.length n0), some (.agg (S_api_Touch.enc a1).toArray), some (.bool t13), some (.bool (!t13))] [4] [] L A → left L = m → Ord R50.ds m L l → G C47 H A (BK 24 K_S_api_Touch g3 a1 :: BK 69 K_R_reads_Set g0 (R_reads_Set.mk (A0, a0.l.length, n0)) :: OS 24 K_S_api_Touch A0 n0 a0.l :: Fr) (.inRegion ops48 l :: k49) := by
      refine G.phase R50 [some (.pointer (some ⟨g0, 0, none⟩)), some (.pointer (some ⟨g0, 0, none⟩)), some (.pointer (some ⟨g0, 0, none⟩)), some (.slice A0 a0.l.length n0), some (.agg (S_api_Touch.enc a1).toArray), some (.bool t13), some (.bool (!t13))] [0, 1, 2, 3, 5, 6] [] [4] [] (reads_Set_Add.reg18_4_ap _) rfl rfl ⟨⟨[.base 0], 11, .pointer (some ⟨g0, 0, none⟩), [(0, .pointer (some ⟨g0, 0, none⟩))], ⟨rfl, rfl, rfl, rfl, ?_⟩⟩, ⟨⟨[.op 0], 12, .pointer (some ⟨g0, 0, none⟩), [(11, .pointer (some ⟨g0, 0, none⟩))], ⟨rfl, rfl, rfl, rfl, ?_⟩⟩, ⟨⟨[.op 1], 13, .pointer (some ⟨g0, 0, none⟩), [(12, .pointer (some ⟨g0, 0, none⟩))], ⟨rfl, rfl, rfl, rfl, ?_⟩⟩, ⟨⟨[.op 2], 14, .slice A0 a0.l.length n0, [(13, .pointer (some ⟨g0, 0, none⟩))], ⟨rfl, rfl, rfl, rfl, ?_⟩⟩, ⟨⟨[.op 3, .op 4], 16, .bool t13, [(14, .slice A0 a0.l.length n0), (15, .agg (S_api_Touch.enc a1).toArray)], ⟨rfl, rfl, rfl, rfl, ?_⟩⟩, ⟨⟨[.op 5], 17, .bool (!t13), [(16, .bool t13)], ⟨rfl, rfl, rfl, rfl, ?_⟩⟩, trivial⟩⟩⟩⟩⟩⟩ trivial ?_
      · intro X rest g
        refine G.move rfl rfl rfl rfl ?_
        exact g
      · intro X rest g
        refine G.nilCheck rfl rfl rfl rfl ?_
        exact g
      · intro X rest g
        refine G.field (off' := 0) rfl rfl rfl rfl Try.underlying69 rfl sz31 rfl rfl ?_
        exact g
      · intro X rest g
        refine G.loadH (B := A0) (m := a0.l.length) (c := n0) rfl rfl rfl rfl ty31r (fun w hs => Rd.bk (R_reads_Set.L_l _) hs (j := 1) rfl) ?_
        exact g
      · intro X rest g
        refine G.callBO (m := 0) rfl rfl rfl rfl call36 rfl (fun H1 hle hsl => (slices_Contains_Lapi_Touch_api_Touch.ok a0.l A0 n0 (hsl (j := 2) rfl) a1 e14).ctr) (by rintro v H' L' ⟨rfl, rfl⟩; exact Free.nil) ?_
        rintro v15 L16 ⟨_, ⟨rfl, rfl⟩⟩
        exact g
      · intro X rest g
        refine G.not rfl rfl rfl rfl rfl ?_
        exact g
      · intro A L hlen hp h0
        refine G.lessSub (B := [(0, .pointer (some ⟨g0, 0, none⟩)), (3, .pointer (some ⟨g3, 0, none⟩)), (17, .bool (!t13))]) (hp.fin hlen h0 (src := [.base 0, .base 3, .op 6]) rfl) ?_
        refine G.regionEnd ?_
        refine G.cond rfl (fun k46 => ?_) (fun k46 => ?_)
        · replace h := ifT h k46
          obtain ⟨k36, h⟩ := guardS h
          refine G.draw [[], [], [1], [2], [3], [], [5], [4, 6], [0, 0, 1, 2, 3, 4, 5, 6, 7], [8, 0, 1, 2, 3, 4, 5, 6, 7], [9, 7, 7, 0, 1, 2, 3, 4, 5, 6, 7]] 11 [0, 1, 2, 3, 4, 5, 6, 7, 8, 9, 10] [0, 0, 1, 2, 3, 0, 1, 4, 5, 6, 7] [0, 0, 1, 2, 3, 0, 1, 4, 5, 6, 7] rfl (by kernel_rfl) (by kernel_rfl) (by kernel_rfl) (by kernel_rfl) ?_
          intro C37 ops38 k39
          let R40 : Reg := reads_Set_Add.reg18_5 [(0, .pointer (some ⟨g0, 0, none⟩)), (3, .pointer (some ⟨g3, 0, none⟩))]
          have P45 : ∀ (B31 : Option Addr) (B33 : Option Addr) (c34 : Nat) (m : Nat) (L : List Bool) (A : List (Nat × Value)) (l : List Nat), L.length = R40.ds.length → R40.Phi [some (.pointer (some ⟨g0, 0, none⟩)), some (.pointer (some ⟨g0, 0, none⟩)), some (.pointer (some ⟨g0, 0, none⟩)), some (.pointer (some ⟨g0, 0, none⟩)), some (.slice A0 a0.l.length n0), some (.agg (S_api_Touch.enc a1).toArray), some (.slice B31 (([a1] : List S_api_Touch).length) 1), some (.slice B33 ((a0.l ++ ([a1] : List S_api_Touch)).length) c34), some (.pointer (some ⟨g0, 0, none⟩)), some (.pointer (some ⟨g0, 0, none⟩)), none] [0, 1, 2, 3, 4, 5, 6, 7, 8, 9, 10] [] L A → left L = m → Ord R40.ds m L l → G C37 H A (BK 69 K_R_reads_Set g0 (R_reads_Set.mk (B33, (a0.l ++ ([a1] : List S_api_Touch)).length, c34)) :: OS 24 K_S_api_Touch B33 c34 (a0.l ++ ([a1] : List S_api_Touch)) :: BK 24 K_S_api_Touch g3 a1 :: Fr) (.inRegion ops38 l :: k39) := by
            intro B31 B33 c34
            refine G.phase R40 [some (.pointer (some ⟨g0, 0, none⟩)), some (.pointer (some ⟨g0, 0, none⟩)), some (.pointer (some ⟨g0, 0, none⟩)), some (.pointer (some ⟨g0, 0, none⟩)), some (.slice A0 a0.l.length n0), some (.agg (S_api_Touch.enc a1).toArray), some (.slice B31 (([a1] : List S_api_Touch).length) 1), some (.slice B33 ((a0.l ++ ([a1] : List S_api_Touch)).length) c34), some (.pointer (some ⟨g0, 0, none⟩)), some (.pointer (some ⟨g0, 0, none⟩)), none] [] [] [0, 1, 2, 3, 4, 5, 6, 7, 8, 9, 10] [] (reads_Set_Add.reg18_5_ap _) rfl rfl trivial trivial ?_
            · intro A L hlen hp h0
              refine G.lessSub (B := []) (hp.fin hlen h0 (src := []) rfl) ?_
              refine G.regionEnd ?_
              refine G.seq ?_
              refine G.region (l := [0]) rfl ?_
              refine G.assign rfl rfl rfl rfl ?_
              refine G.regionEnd ?_
              refine G.frontAt 2 rfl ?_
              refine G.drop ?_
              refine G.frontAt 1 rfl ?_
              refine G.frontAt 1 rfl ?_
              obtain rfl := Option.some.inj h
              exact G.ret1 Try.func18 rfl rfl (fun w hs => ⟨_, _, rfl, ⟨B33, c34, rfl, rfl⟩, hs⟩)
          have P44 : ∀ (B31 : Option Addr) (B33 : Option Addr) (c34 : Nat) (m : Nat) (L : List Bool) (A : List (Nat × Value)) (l : List Nat), L.length = R40.ds.length → R40.Phi [some (.pointer (some ⟨g0, 0, none⟩)), some (.pointer (some ⟨g0, 0, none⟩)), some (.pointer (some ⟨g0, 0, none⟩)), some (.pointer (some ⟨g0, 0, none⟩)), some (.slice A0 a0.l.length n0), some (.agg (S_api_Touch.enc a1).toArray), some (.slice B31 (([a1] : List S_api_Touch).length) 1), some (.slice B33 ((a0.l ++ ([a1] : List S_api_Touch)).length) c34), some (.pointer (some ⟨g0, 0, none⟩)), some (.pointer (some ⟨g0, 0, none⟩)), none] [1, 2, 3, 4, 5, 6, 7] [10] L A → left L = m → Ord R40.ds m L l → G C37 H A (OS 24 K_S_api_Touch B33 c34 (a0.l ++ ([a1] : List S_api_Touch)) :: BK 24 K_S_api_Touch g3 a1 :: BK 69 K_R_reads_Set g0 (R_reads_Set.mk (A0, a0.l.length, n0)) :: Fr) (.inRegion ops38 l :: k39) := by
            intro B31 B33 c34
            refine G.phase R40 [some (.pointer (some ⟨g0, 0, none⟩)), some (.pointer (some ⟨g0, 0, none⟩)), some (.pointer (some ⟨g0, 0, none⟩)), some (.pointer (some ⟨g0, 0, none⟩)), some (.slice A0 a0.l.length n0), some (.agg (S_api_Touch.enc a1).toArray), some (.slice B31 (([a1] : List S_api_Touch).length) 1), some (.slice B33 ((a0.l ++ ([a1] : List S_api_Touch)).length) c34), some (.pointer (some ⟨g0, 0, none⟩)), some (.pointer (some ⟨g0, 0, none⟩)), none] [0, 8, 9] [10] [1, 2, 3, 4, 5, 6, 7] [10] (reads_Set_Add.reg18_5_ap _) rfl rfl ⟨⟨[.base 0], 18, .pointer (some ⟨g0, 0, none⟩), [(0, .pointer (some ⟨g0, 0, none⟩))], ⟨rfl, rfl, rfl, rfl, ?_⟩⟩, ⟨⟨[.op 0], 26, .pointer (some ⟨g0, 0, none⟩), [(18, .pointer (some ⟨g0, 0, none⟩))], ⟨rfl, rfl, rfl, rfl, ?_⟩⟩, ⟨⟨[.op 8], 27, .pointer (some ⟨g0, 0, none⟩), [(26, .pointer (some ⟨g0, 0, none⟩))], ⟨rfl, rfl, rfl, rfl, ?_⟩⟩, trivial⟩⟩⟩ ⟨⟨[.op 7, .op 9], [(25, .slice B33 ((a0.l ++ ([a1] : List S_api_Touch)).length) c34), (27, .pointer (some ⟨g0, 0, none⟩))], ⟨rfl, rfl, ?_⟩⟩, trivial⟩ ?_
            · intro X rest g
              refine G.move rfl rfl rfl rfl ?_
              exact g
            · intro X rest g
              refine G.nilCheck rfl rfl rfl rfl ?_
              exact g
            · intro X rest g
              refine G.field (off' := 0) rfl rfl rfl rfl Try.underlying69 rfl sz31 rfl rfl ?_
              exact g
            · intro X rest L m hlen hp hil hd hs hm ho
              refine G.frontAt 2 rfl ?_
              refine G.store (df := Kd.hdr) (y := (B33, (a0.l ++ ([a1] : List S_api_Touch)).length, c34)) (x1 := (R_reads_Set.mk (B33, (a0.l ++ ([a1] : List S_api_Touch)).length, c34))) rfl rfl rfl rfl (R_reads_Set.L_l _) ⟨([.slice B33 ((a0.l ++ ([a1] : List S_api_Touch)).length) c34] : List Value), rfl, rfl⟩ sz31 rfl ?_
              refine G.frontAt 2 rfl ?_
              refine G.frontAt 2 rfl ?_
              refine G.frontAt 2 rfl ?_
              exact P45 B31 B33 c34 m _ _ rest (by rw [List.length_set]; exact hlen) (hp.stepN2 2 (reads_Set_Add.reg18_5_ap _) hil hd hs (by repeat (first | exact trivial | refine And.intro rfl ?_)) rfl rfl rfl) hm ho
            · intro A L hlen hp h0
              exact (hp.notYet hlen h0 10 rfl rfl).elim
          have P43 : ∀ (B31 : Option Addr) (m : Nat) (L : List Bool) (A : List (Nat × Value)) (l : List Nat), L.length = R40.ds.length → R40.Phi [some (.pointer (some ⟨g0, 0, none⟩)), some (.pointer (some ⟨g0, 0, none⟩)), some (.pointer (some ⟨g0, 0, none⟩)), some (.pointer (some ⟨g0, 0, none⟩)), some (.slice A0 a0.l.length n0), some (.agg (S_api_Touch.enc a1).toArray), some (.slice B31 (([a1] : List S_api_Touch).length) 1), none, none, none, none] [5, 6] [7, 8, 9, 10] L A → left L = m → Ord R40.ds m L l → G C37 H A (OS 24 K_S_api_Touch B31 1 ([a1] : List S_api_Touch) :: BK 24 K_S_api_Touch g3 a1 :: BK 69 K_R_reads_Set g0 (R_reads_Set.mk (A0, a0.l.length, n0)) :: OS 24 K_S_api_Touch A0 n0 a0.l :: Fr) (.inRegion ops38 l :: k39) := by
            intro B31
            refine G.phase R40 [some (.pointer (some ⟨g0, 0, none⟩)), some (.pointer (some ⟨g0, 0, none⟩)), some (.pointer (some ⟨g0, 0, none⟩)), some (.pointer (some ⟨g0, 0, none⟩)), some (.slice A0 a0.l.length n0), some (.agg (S_api_Touch.enc a1).toArray), some (.slice B31 (([a1] : List S_api_Touch).length) 1), none, none, none, none] [0, 1, 2, 3, 4] [7] [5, 6] [7, 8, 9, 10] (reads_Set_Add.reg18_5_ap _) rfl rfl ⟨⟨[.base 0], 18, .pointer (some ⟨g0, 0, none⟩), [(0, .pointer (some ⟨g0, 0, none⟩))], ⟨rfl, rfl, rfl, rfl, ?_⟩⟩, ⟨⟨[.base 0], 19, .pointer (some ⟨g0, 0, none⟩), [(0, .pointer (some ⟨g0, 0, none⟩))], ⟨rfl, rfl, rfl, rfl, ?_⟩⟩, ⟨⟨[.op 1], 20, .pointer (some ⟨g0, 0, none⟩), [(19, .pointer (some ⟨g0, 0, none⟩))], ⟨rfl, rfl, rfl, rfl, ?_⟩⟩, ⟨⟨[.op 2], 21, .pointer (some ⟨g0, 0, none⟩), [(20, .pointer (some ⟨g0, 0, none⟩))], ⟨rfl, rfl, rfl, rfl, ?_⟩⟩, ⟨⟨[.op 3], 22, .slice A0 a0.l.length n0, [(21, .pointer (some ⟨g0, 0, none⟩))], ⟨rfl, rfl, rfl, rfl, ?_⟩⟩, trivial⟩⟩⟩⟩⟩ ⟨⟨[.op 4, .op 6], [(22, .slice A0 a0.l.length n0), (24, .slice B31 (([a1] : List S_api_Touch).length) 1)], ⟨rfl, rfl, ?_⟩⟩, trivial⟩ ?_
            · intro X rest g
              refine G.move rfl rfl rfl rfl ?_
              exact g
            · intro X rest g
              refine G.move rfl rfl rfl rfl ?_
              exact g
            · intro X rest g
              refine G.nilCheck rfl rfl rfl rfl ?_
              exact g
            · intro X rest g
              refine G.field (off' := 0) rfl rfl rfl rfl Try.underlying69 rfl sz31 rfl rfl ?_
              exact g
            · intro X rest g
              refine G.loadH (B := A0) (m := a0.l.length) (c := n0) rfl rfl rfl rfl ty31r (fun w hs => Rd.bk (R_reads_Set.L_l _) hs (j := 2) rfl) ?_
              exact g
            · intro X rest L m hlen hp hil hd hs hm ho
              refine G.frontAt 3 rfl ?_
              refine G.append (df := K_S_api_Touch) (xs := a0.l) (ys := ([a1] : List S_api_Touch)) (z0 := (S_api_Touch.mk 0 0 [] 0 0)) (z := .agg (S_api_Touch.enc (S_api_Touch.mk 0 0 [] 0 0)).toArray) (cz := S_api_Touch.enc (S_api_Touch.mk 0 0 [] 0 0)) rfl rfl rfl rfl (by simp) rfl el31 Try.underlying31 rfl (by kernel_rfl) rfl (K_S_api_Touch.of (S_api_Touch.mk 0 0 [] 0 0)) (fun w hs => SrcR.os hs (j := 1) rfl) ⟨by omega, by omega⟩ ?_
              intro B33 c34
              refine G.frontAt 1 rfl ?_
              refine G.drop ?_
              refine G.frontAt 2 rfl ?_
              refine G.frontAt 2 rfl ?_
              refine G.frontAt 2 rfl ?_
              exact P44 B31 B33 c34 m _ _ rest (by rw [List.length_set]; exact hlen) (hp.stepS2 4 (reads_Set_Add.reg18_5_ap _) hil hd hs (by repeat (first | exact trivial | refine And.intro rfl ?_)) rfl rfl rfl rfl) hm ho
            · intro A L hlen hp h0
              exact (hp.notYet hlen h0 7 rfl rfl).elim
          have P42 : ∀ (m : Nat) (L : List Bool) (A : List (Nat × Value)) (l : List Nat), L.length = R40.ds.length → R40.Phi [some (.pointer (some ⟨g0, 0, none⟩)), some (.pointer (some ⟨g0, 0, none⟩)), some (.pointer (some ⟨g0, 0, none⟩)), some (.pointer (some ⟨g0, 0, none⟩)), some (.slice A0 a0.l.length n0), some (.agg (S_api_Touch.enc a1).toArray), none, none, none, none, none] [5] [6, 7, 8, 9, 10] L A → left L = m → Ord R40.ds m L l → G C37 H A (BK 24 K_S_api_Touch g3 a1 :: BK 69 K_R_reads_Set g0 (R_reads_Set.mk (A0, a0.l.length, n0)) :: OS 24 K_S_api_Touch A0 n0 a0.l :: Fr) (.inRegion ops38 l :: k39) := by
            refine G.phase R40 [some (.pointer (some ⟨g0, 0, none⟩)), some (.pointer (some ⟨g0, 0, none⟩)), some (.pointer (some ⟨g0, 0, none⟩)), some (.pointer (some ⟨g0, 0, none⟩)), some (.slice A0 a0.l.length n0), some (.agg (S_api_Touch.enc a1).toArray), none, none, none, none, none] [0, 1, 2, 3, 4] [6] [5] [6, 7, 8, 9, 10] (reads_Set_Add.reg18_5_ap _) rfl rfl ⟨⟨[.base 0], 18, .pointer (some ⟨g0, 0, none⟩), [(0, .pointer (some ⟨g0, 0, none⟩))], ⟨rfl, rfl, rfl, rfl, ?_⟩⟩, ⟨⟨[.base 0], 19, .pointer (some ⟨g0, 0, none⟩), [(0, .pointer (some ⟨g0, 0, none⟩))], ⟨rfl, rfl, rfl, rfl, ?_⟩⟩, ⟨⟨[.op 1], 20, .pointer (some ⟨g0, 0, none⟩), [(19, .pointer (some ⟨g0, 0, none⟩))], ⟨rfl, rfl, rfl, rfl, ?_⟩⟩, ⟨⟨[.op 2], 21, .pointer (some ⟨g0, 0, none⟩), [(20, .pointer (some ⟨g0, 0, none⟩))], ⟨rfl, rfl, rfl, rfl, ?_⟩⟩, ⟨⟨[.op 3], 22, .slice A0 a0.l.length n0, [(21, .pointer (some ⟨g0, 0, none⟩))], ⟨rfl, rfl, rfl, rfl, ?_⟩⟩, trivial⟩⟩⟩⟩⟩ ⟨⟨[.op 5], [(23, .agg (S_api_Touch.enc a1).toArray)], ⟨rfl, rfl, ?_⟩⟩, trivial⟩ ?_
            · intro X rest g
              refine G.move rfl rfl rfl rfl ?_
              exact g
            · intro X rest g
              refine G.move rfl rfl rfl rfl ?_
              exact g
            · intro X rest g
              refine G.nilCheck rfl rfl rfl rfl ?_
              exact g
            · intro X rest g
              refine G.field (off' := 0) rfl rfl rfl rfl Try.underlying69 rfl sz31 rfl rfl ?_
              exact g
            · intro X rest g
              refine G.loadH (B := A0) (m := a0.l.length) (c := n0) rfl rfl rfl rfl ty31r (fun w hs => Rd.bk (R_reads_Set.L_l _) hs (j := 1) rfl) ?_
              exact g
            · intro X rest L m hlen hp hil hd hs hm ho
              refine G.buildSliceV (df := K_S_api_Touch) (xs := ([a1] : List S_api_Touch)) (z0 := (S_api_Touch.mk 0 0 [] 0 0)) (vs := [.agg (S_api_Touch.enc a1).toArray]) rfl rfl rfl el31 (z := .agg (S_api_Touch.enc (S_api_Touch.mk 0 0 [] 0 0)).toArray) (cz := S_api_Touch.enc (S_api_Touch.mk 0 0 [] 0 0)) (by kernel_rfl) rfl rfl rfl rfl rfl (K_S_api_Touch.of (S_api_Touch.mk 0 0 [] 0 0)) ⟨(VR.A (cs := S_api_Touch.enc a1) (K_S_api_Touch.of a1)), trivial⟩ ?_
              intro B31
              refine G.frontAt 3 rfl ?_
              refine G.frontAt 3 rfl ?_
              refine G.frontAt 3 rfl ?_
              refine G.frontAt 3 rfl ?_
              exact P43 B31 m _ _ rest (by rw [List.length_set]; exact hlen) (hp.stepS2 0 (reads_Set_Add.reg18_5_ap _) hil hd hs (by repeat (first | exact trivial | refine And.intro rfl ?_)) rfl rfl rfl rfl) hm ho
            · intro A L hlen hp h0
              exact (hp.notYet hlen h0 6 rfl rfl).elim
          have P41 : ∀ (m : Nat) (L : List Bool) (A : List (Nat × Value)) (l : List Nat), L.length = R40.ds.length → R40.Phi [some (.pointer (some ⟨g0, 0, none⟩)), some (.pointer (some ⟨g0, 0, none⟩)), some (.pointer (some ⟨g0, 0, none⟩)), some (.pointer (some ⟨g0, 0, none⟩)), some (.slice A0 a0.l.length n0), none, none, none, none, none, none] [] [5, 6, 7, 8, 9, 10] L A → left L = m → Ord R40.ds m L l → G C37 H A (BK 24 K_S_api_Touch g3 a1 :: BK 69 K_R_reads_Set g0 (R_reads_Set.mk (A0, a0.l.length, n0)) :: OS 24 K_S_api_Touch A0 n0 a0.l :: Fr) (.inRegion ops38 l :: k39) := by
            refine G.phase R40 [some (.pointer (some ⟨g0, 0, none⟩)), some (.pointer (some ⟨g0, 0, none⟩)), some (.pointer (some ⟨g0, 0, none⟩)), some (.pointer (some ⟨g0, 0, none⟩)), some (.slice A0 a0.l.length n0), none, none, none, none, none, none] [0, 1, 2, 3, 4] [5] [] [5, 6, 7, 8, 9, 10] (reads_Set_Add.reg18_5_ap _) rfl rfl ⟨⟨[.base 0], 18, .pointer (some ⟨g0, 0, none⟩), [(0, .pointer (some ⟨g0, 0, none⟩))], ⟨rfl, rfl, rfl, rfl, ?_⟩⟩, ⟨⟨[.base 0], 19, .pointer (some ⟨g0, 0, none⟩), [(0, .pointer (some ⟨g0, 0, none⟩))], ⟨rfl, rfl, rfl, rfl, ?_⟩⟩, ⟨⟨[.op 1], 20, .pointer (some ⟨g0, 0, none⟩), [(19, .pointer (some ⟨g0, 0, none⟩))], ⟨rfl, rfl, rfl, rfl, ?_⟩⟩, ⟨⟨[.op 2], 21, .pointer (some ⟨g0, 0, none⟩), [(20, .pointer (some ⟨g0, 0, none⟩))], ⟨rfl, rfl, rfl, rfl, ?_⟩⟩, ⟨⟨[.op 3], 22, .slice A0 a0.l.length n0, [(21, .pointer (some ⟨g0, 0, none⟩))], ⟨rfl, rfl, rfl, rfl, ?_⟩⟩, trivial⟩⟩⟩⟩⟩ ⟨⟨[.base 3], [(3, .pointer (some ⟨g3, 0, none⟩))], ⟨rfl, rfl, ?_⟩⟩, trivial⟩ ?_
            · intro X rest g
              refine G.move rfl rfl rfl rfl ?_
              exact g
            · intro X rest g
              refine G.move rfl rfl rfl rfl ?_
              exact g
            · intro X rest g
              refine G.nilCheck rfl rfl rfl rfl ?_
              exact g
            · intro X rest g
              refine G.field (off' := 0) rfl rfl rfl rfl Try.underlying69 rfl sz31 rfl rfl ?_
              exact g
            · intro X rest g
              refine G.loadH (B := A0) (m := a0.l.length) (c := n0) rfl rfl rfl rfl ty31r (fun w hs => Rd.bk (R_reads_Set.L_l _) hs (j := 1) rfl) ?_
              exact g
            · intro X rest L m hlen hp hil hd hs hm ho
              refine G.loadA (df := K_S_api_Touch) (y := a1) rfl rfl rfl rfl ty24 rfl (fun w hs => Rd.bk (Lens.id _ _) hs (j := 0) rfl) ?_
              intro cs29 f30
              obtain rfl := K_S_api_Touch.open f30
              refine G.frontAt 2 rfl ?_
              refine G.frontAt 2 rfl ?_
              refine G.frontAt 2 rfl ?_
              exact P42 m _ _ rest (by rw [List.length_set]; exact hlen) (hp.stepS2 0 (reads_Set_Add.reg18_5_ap _) hil hd hs (by repeat (first | exact trivial | refine And.intro rfl ?_)) rfl rfl rfl rfl) hm ho
            · intro A L hlen hp h0
              exact (hp.notYet hlen h0 5 rfl rfl).elim
          intro l hl
          exact P41 11 (List.replicate 11 false) _ l rfl (Reg.Phi.init 11 ⟨rfl, rfl, trivial⟩) (left_rep 11) hl
        · replace h := ifFB h k46
          refine G.skip ?_
          refine G.seq ?_
          refine G.region (l := [0]) rfl ?_
          refine G.assign rfl rfl rfl rfl ?_
          refine G.regionEnd ?_
          refine G.drop ?_
          refine G.frontAt 1 rfl ?_
          refine G.frontAt 1 rfl ?_
          obtain rfl := Option.some.inj h
          exact G.ret1 Try.func18 rfl rfl (fun w hs => ⟨_, _, rfl, ⟨A0, n0, rfl, rfl⟩, hs⟩)
    have P51 : ∀ (m : Nat) (L : List Bool) (A : List (Nat × Value)) (l : List Nat), L.length = R50.ds.length → R50.Phi [some (.pointer (some ⟨g0, 0, none⟩)), some (.pointer (some ⟨g0, 0, none⟩)), some (.pointer (some ⟨g0, 0, none⟩)), some (.slice A0 a0.l.length n0), none, none, none] [] [4, 5, 6] L A → left L = m → Ord R50.ds m L l → G C47 H A (BK 24 K_S_api_Touch g3 a1 :: BK 69 K_R_reads_Set g0 (R_reads_Set.mk (A0, a0.l.length, n0)) :: OS 24 K_S_api_Touch A0 n0 a0.l :: Fr) (.inRegion ops48 l :: k49) := by
      refine G.phase R50 [some (.pointer (some ⟨g0, 0, none⟩)), some (.pointer (some ⟨g0, 0, none⟩)), some (.pointer (some ⟨g0, 0, none⟩)), some (.slice A0 a0.l.length n0), none, none, none] [0, 1, 2, 3] [4] [] [4, 5, 6] (reads_Set_Add.reg18_4_ap _) rfl rfl ⟨⟨[.base 0], 11, .pointer (some ⟨g0, 0, none⟩), [(0, .pointer (some ⟨g0, 0, none⟩))], ⟨rfl, rfl, rfl, rfl, ?_⟩⟩, ⟨⟨[.op 0], 12, .pointer (some ⟨g0, 0, none⟩), [(11, .pointer (some ⟨g0, 0, none⟩))], ⟨rfl, rfl, rfl, rfl, ?_⟩⟩, ⟨⟨[.op 1], 13, .pointer (some ⟨g0, 0, none⟩), [(12, .pointer (some ⟨g0, 0, none⟩))], ⟨rfl, rfl, rfl, rfl, ?_⟩⟩, ⟨⟨[.op 2], 14, .slice A0 a0.l.length n0, [(13, .pointer (some ⟨g0, 0, none⟩))], ⟨rfl, rfl, rfl, rfl, ?_⟩⟩, trivial⟩⟩⟩⟩ ⟨⟨[.base 3], [(3, .pointer (some ⟨g3, 0, none⟩))], ⟨rfl, rfl, ?_⟩⟩, trivial⟩ ?_
      · intro X rest g
        refine G.move rfl rfl rfl rfl ?_
        exact g
      · intro X rest g
        refine G.nilCheck rfl rfl rfl rfl ?_
        exact g
      · intro X rest g
        refine G.field (off' := 0) rfl rfl rfl rfl Try.underlying69 rfl sz31 rfl rfl ?_
        exact g
      · intro X rest g
        refine G.loadH (B := A0) (m := a0.l.length) (c := n0) rfl rfl rfl rfl ty31r (fun w hs => Rd.bk (R_reads_Set.L_l _) hs (j := 1) rfl) ?_
        exact g
      · intro X rest L m hlen hp hil hd hs hm ho
        refine G.loadA (df := K_S_api_Touch) (y := a1) rfl rfl rfl rfl ty24 rfl (fun w hs => Rd.bk (Lens.id _ _) hs (j := 0) rfl) ?_
        intro cs11 f12
        obtain rfl := K_S_api_Touch.open f12
        refine G.frontAt 2 rfl ?_
        refine G.frontAt 2 rfl ?_
        refine G.frontAt 2 rfl ?_
        exact P52 m _ _ rest (by rw [List.length_set]; exact hlen) (hp.stepS2 0 (reads_Set_Add.reg18_4_ap _) hil hd hs (by repeat (first | exact trivial | refine And.intro rfl ?_)) rfl rfl rfl rfl) hm ho
      · intro A L hlen hp h0
        exact (hp.notYet hlen h0 4 rfl rfl).elim
    intro l hl
    exact P51 7 (List.replicate 7 false) _ l rfl (Reg.Phi.init 7 ⟨rfl, rfl, trivial⟩) (left_rep 7) hl
set_option maxRecDepth 20000 in
theorem armoireref15_Check.ok {O : World} {H : PH} {Fr : List Res} (a0 : S_api_Touch) {r : Int} (h : armoireref15_Check.f a0 = some r) :
    CtrS Try.prog 11 [.agg (S_api_Touch.enc a0).toArray] O H (Fr) (fun v L' => v = .int .i64 r ∧ Fr = L') := by
  refine CtrS.start (n := 65) Try.func11 rfl Try.ntmps11 rfl rfl ?_
  unfold armoireref15_Check.f at h
  refine G.seq ?_
  refine G.region (l := [0, 1]) rfl ?_
  refine G.box (dk := K_S_api_Touch) (y := a0) rfl rfl rfl rfl (VR.A (cs := S_api_Touch.enc a0) (K_S_api_Touch.of a0)) ?_
  intro g1
  refine G.assign rfl rfl rfl rfl ?_
  refine G.regionEnd ?_
  refine G.seq ?_
  refine G.region (l := [0, 1, 2, 3, 4, 5, 6]) rfl ?_
  refine G.field (off' := 0) rfl rfl rfl rfl Try.underlying24 rfl sz3 rfl rfl ?_
  refine G.loadI (y := a0.kind) rfl rfl rfl rfl ty3 (fun w hs => Rd.bk (S_api_Touch.L_kind _) hs (j := 0) rfl) ?_
  refine G.field (off' := 1) rfl rfl rfl rfl Try.underlying24 rfl sz22 rfl rfl ?_
  refine G.loadI (y := a0.ino) rfl rfl rfl rfl ty22 (fun w hs => Rd.bk (S_api_Touch.L_ino _) hs (j := 0) rfl) ?_
  refine G.build (z := .agg (S_api_Touch.enc (S_api_Touch.mk 0 0 [] 0 0)).toArray) (pl := [(0, 1), (1, 1), (2, 1), (3, 1), (4, 1)]) (cs := S_api_Touch.enc (S_api_Touch.mk a0.kind a0.ino [] 0 0)) rfl rfl rfl Try.underlying24 (by kernel_rfl) rfl (by kernel_rfl) (by kernel_rfl) rfl ?_
  refine G.alloc (dk := K_S_api_Touch) (x0 := (S_api_Touch.mk 0 0 [] 0 0)) (z := .agg (S_api_Touch.enc (S_api_Touch.mk 0 0 [] 0 0)).toArray) (cs := S_api_Touch.enc (S_api_Touch.mk 0 0 [] 0 0)) rfl rfl rfl (by kernel_rfl) rfl (fun H => K_S_api_Touch.of (S_api_Touch.mk 0 0 [] 0 0)) ?_
  intro g3
  refine G.store (df := K_S_api_Touch) (y := (S_api_Touch.mk a0.kind a0.ino [] 0 0)) (x1 := (S_api_Touch.mk a0.kind a0.ino [] 0 0)) rfl rfl rfl rfl (Lens.id _ _) (VR.A (cs := S_api_Touch.enc (S_api_Touch.mk a0.kind a0.ino [] 0 0)) (K_S_api_Touch.of (S_api_Touch.mk a0.kind a0.ino [] 0 0))) sz24 rfl ?_
  refine G.regionEnd ?_
  refine G.seq ?_
  refine G.region (l := [0, 1, 2, 3]) rfl ?_
  refine G.field (off' := 1) rfl rfl rfl rfl Try.underlying24 rfl sz22 rfl rfl ?_
  refine G.loadI (y := a0.ino) rfl rfl rfl rfl ty22 (fun w hs => Rd.bk (S_api_Touch.L_ino _) hs (j := 1) rfl) ?_
  refine G.cmp (a0.ino ≠ 0) rfl rfl rfl rfl rfl rfl Iff.rfl ?_
  refine G.assign rfl rfl rfl rfl ?_
  refine G.regionEnd ?_
  refine G.seq ?_
  refine G.seq ?_
  refine G.region (l := [0, 1]) rfl ?_
  refine G.field (off' := 0) rfl rfl rfl rfl Try.underlying24 rfl sz3 rfl rfl ?_
  refine G.loadI (y := a0.kind) rfl rfl rfl rfl ty3 (fun w hs => Rd.bk (S_api_Touch.L_kind _) hs (j := 1) rfl) ?_
  refine G.regionEnd ?_
  refine G.block ?_
  refine G.seq ?_
  refine G.seq ?_
  refine G.region (l := [0, 1]) rfl ?_
  refine G.cmp (a0.kind = 1) rfl rfl rfl rfl rfl rfl Iff.rfl ?_
  refine G.assign rfl rfl rfl rfl ?_
  refine G.regionEnd ?_
  refine G.tail (fun GG K => ∀ (b19 : Bool), armoireref15_Check.j0 a0 b19 = some r → GG H [(1, .pointer (some ⟨g1, 0, none⟩)), (3, .pointer (some ⟨g3, 0, none⟩)), (4, .bool (decide (a0.ino ≠ 0))), (14, .int .i64 a0.kind), (15, .bool b19)] (BK 24 K_S_api_Touch g1 a0 :: BK 24 K_S_api_Touch g3 (S_api_Touch.mk a0.kind a0.ino [] 0 0) :: Fr) K) ?_ ?_
  · intro b19 h
    unfold armoireref15_Check.j0 at h
    refine G.tail (fun GG K => ∀ (x42 : Str) (x43 : Int) (x44 : Int) (b45 : Bool), armoireref15_Check.j1 a0 x42 x43 x44 b45 = some r → GG H [(1, .pointer (some ⟨g1, 0, none⟩)), (3, .pointer (some ⟨g3, 0, none⟩)), (4, .bool b45)] (BK 24 K_S_api_Touch g1 a0 :: BK 24 K_S_api_Touch g3 (S_api_Touch.mk a0.kind a0.ino x42 x43 x44) :: Fr) K) ?_ ?_
    · intro x42 x43 x44 b45 h
      unfold armoireref15_Check.j1 at h
      refine G.inBlock ?_
      refine G.seq ?_
      refine G.seq ?_
      refine G.region (l := [0, 1, 2, 3, 4, 5, 6]) rfl ?_
      refine G.move rfl rfl rfl rfl ?_
      refine G.not rfl rfl rfl rfl rfl ?_
      refine G.move rfl rfl rfl rfl ?_
      refine G.splitB (d := 60) rfl (fun k55 => ?_) (fun k55 => ?_)
      · replace h := ifT h k55
        refine G.unwanted rfl rfl rfl rfl ?_
        refine G.unwanted rfl rfl rfl rfl ?_
        refine G.unwanted rfl rfl rfl rfl ?_
        refine G.pickT rfl rfl rfl rfl rfl ?_
        refine G.regionEnd ?_
        refine G.condT rfl ?_
        refine G.seq ?_
        refine G.region (l := [0]) rfl ?_
        refine G.assign rfl rfl rfl rfl ?_
        refine G.regionEnd ?_
        refine G.drop ?_
        refine G.drop ?_
        obtain rfl := Option.some.inj h
        exact G.ret1 Try.func11 rfl rfl (fun w hs => ⟨_, _, rfl, ⟨rfl, rfl⟩, hs⟩)
      · replace h := ifFB h k55
        refine G.loadA (df := K_S_api_Touch) (y := a0) rfl rfl rfl rfl ty24 rfl (fun w hs => Rd.bk (Lens.id _ _) hs (j := 0) rfl) ?_
        intro cs50 f51
        obtain rfl := K_S_api_Touch.open f51
        refine G.loadA (df := K_S_api_Touch) (y := (S_api_Touch.mk a0.kind a0.ino x42 x43 x44)) rfl rfl rfl rfl ty24 rfl (fun w hs => Rd.bk (Lens.id _ _) hs (j := 1) rfl) ?_
        intro cs52 f53
        obtain rfl := K_S_api_Touch.open f53
        refine G.neqA (dk := K_S_api_Touch) (x := a0) (y := (S_api_Touch.mk a0.kind a0.ino x42 x43 x44)) rfl rfl rfl rfl rfl rfl (by kernel_rfl) eq24 rfl (K_S_api_Touch.of a0) (K_S_api_Touch.of (S_api_Touch.mk a0.kind a0.ino x42 x43 x44)) ?_
        refine G.pickF rfl rfl rfl rfl rfl ?_
        refine G.regionEnd ?_
        refine G.condP rfl (fun k54 => ?_) (fun k54 => ?_)
        · replace h := ifT h k54
          refine G.seq ?_
          refine G.region (l := [0]) rfl ?_
          refine G.assign rfl rfl rfl rfl ?_
          refine G.regionEnd ?_
          refine G.drop ?_
          refine G.drop ?_
          obtain rfl := Option.some.inj h
          exact G.ret1 Try.func11 rfl rfl (fun w hs => ⟨_, _, rfl, ⟨rfl, rfl⟩, hs⟩)
        · replace h := ifF h k54
          refine G.skip ?_
          refine G.seq ?_
          refine G.region (l := [0]) rfl ?_
          refine G.assign rfl rfl rfl rfl ?_
          refine G.regionEnd ?_
          refine G.drop ?_
          refine G.drop ?_
          obtain rfl := Option.some.inj h
          exact G.ret1 Try.func11 rfl rfl (fun w hs => ⟨_, _, rfl, ⟨rfl, rfl⟩, hs⟩)
    intro J56
    refine G.cond rfl (fun k82 => ?_) (fun k82 => ?_)
    · replace h := ifT h k82
      refine G.skip ?_
      refine G.frontAt 1 rfl ?_
      refine G.frontAt 1 rfl ?_
      refine G.less ?_ (J56  [] 0 0 (decide (a0.ino ≠ 0)) h)
      exact ⟨rfl, rfl, rfl, trivial⟩
    · replace h := ifFB h k82
      refine G.seq ?_
      refine G.region (l := [0, 1]) rfl ?_
      refine G.cmp (a0.kind = 4) rfl rfl rfl rfl rfl rfl Iff.rfl ?_
      refine G.assign rfl rfl rfl rfl ?_
      refine G.regionEnd ?_
      refine G.condP rfl (fun k81 => ?_) (fun k81 => ?_)
      · replace h := ifT h k81
        refine G.seq ?_
        refine G.region (l := [0, 1, 2, 3]) rfl ?_
        refine G.field (off' := 3) rfl rfl rfl rfl Try.underlying24 rfl sz3 rfl rfl ?_
        refine G.loadI (y := a0.lo) rfl rfl rfl rfl ty3 (fun w hs => Rd.bk (S_api_Touch.L_lo _) hs (j := 0) rfl) ?_
        refine G.field (off' := 3) rfl rfl rfl rfl Try.underlying24 rfl sz3 rfl rfl ?_
        refine G.frontAt 1 rfl ?_
        refine G.store (df := (Kd.int .i64)) (y := a0.lo) (x1 := (S_api_Touch.mk a0.kind a0.ino [] a0.lo 0)) rfl rfl rfl rfl (S_api_Touch.L_lo _) ⟨([.int .i64 a0.lo] : List Value), rfl, rfl⟩ sz3 rfl ?_
        refine G.regionEnd ?_
        refine G.seq ?_
        refine G.region (l := [0, 1, 2, 3]) rfl ?_
        refine G.field (off' := 4) rfl rfl rfl rfl Try.underlying24 rfl sz3 rfl rfl ?_
        refine G.loadI (y := a0.hi) rfl rfl rfl rfl ty3 (fun w hs => Rd.bk (S_api_Touch.L_hi _) hs (j := 1) rfl) ?_
        refine G.field (off' := 4) rfl rfl rfl rfl Try.underlying24 rfl sz3 rfl rfl ?_
        refine G.store (df := (Kd.int .i64)) (y := a0.hi) (x1 := (S_api_Touch.mk a0.kind a0.ino [] a0.lo a0.hi)) rfl rfl rfl rfl (S_api_Touch.L_hi _) ⟨([.int .i64 a0.hi] : List Value), rfl, rfl⟩ sz3 rfl ?_
        refine G.regionEnd ?_
        refine G.region (l := [0, 1, 2, 3, 4, 5, 6, 7, 8, 9, 10, 11, 12, 13, 14, 15, 16, 17, 18]) rfl ?_
        refine G.move rfl rfl rfl rfl ?_
        refine G.move rfl rfl rfl rfl ?_
        refine G.splitP (d := 30) rfl (fun k76 => ?_) (fun k76 => ?_)
        · replace h := ifT h k76
          refine G.field (off' := 3) rfl rfl rfl rfl Try.underlying24 rfl sz3 rfl rfl ?_
          refine G.loadI (y := a0.lo) rfl rfl rfl rfl ty3 (fun w hs => Rd.bk (S_api_Touch.L_lo _) hs (j := 1) rfl) ?_
          refine G.cmp (0 ≤ a0.lo) rfl rfl rfl rfl rfl rfl Iff.rfl ?_
          refine G.pickT rfl rfl rfl rfl rfl ?_
          refine G.move rfl rfl rfl rfl ?_
          refine G.splitP (d := 35) rfl (fun k75 => ?_) (fun k75 => ?_)
          · replace h := ifT h k75
            refine G.field (off' := 3) rfl rfl rfl rfl Try.underlying24 rfl sz3 rfl rfl ?_
            refine G.loadI (y := a0.lo) rfl rfl rfl rfl ty3 (fun w hs => Rd.bk (S_api_Touch.L_lo _) hs (j := 1) rfl) ?_
            refine G.field (off' := 4) rfl rfl rfl rfl Try.underlying24 rfl sz3 rfl rfl ?_
            refine G.loadI (y := a0.hi) rfl rfl rfl rfl ty3 (fun w hs => Rd.bk (S_api_Touch.L_hi _) hs (j := 1) rfl) ?_
            refine G.cmp (a0.lo < a0.hi) rfl rfl rfl rfl rfl rfl Iff.rfl ?_
            refine G.pickT rfl rfl rfl rfl rfl ?_
            refine G.move rfl rfl rfl rfl ?_
            refine G.splitP (d := 42) rfl (fun k74 => ?_) (fun k74 => ?_)
            · replace h := ifT h k74
              refine G.field (off' := 4) rfl rfl rfl rfl Try.underlying24 rfl sz3 rfl rfl ?_
              refine G.loadI (y := a0.hi) rfl rfl rfl rfl ty3 (fun w hs => Rd.bk (S_api_Touch.L_hi _) hs (j := 1) rfl) ?_
              refine G.cmp (a0.hi ≤ 512) rfl rfl rfl rfl rfl rfl Iff.rfl ?_
              refine G.pickT rfl rfl rfl rfl rfl ?_
              refine G.assign rfl rfl rfl rfl ?_
              refine G.regionEnd ?_
              refine G.frontAt 1 rfl ?_
              refine G.less ?_ (J56  [] a0.lo a0.hi (decide (a0.hi ≤ 512)) h)
              exact ⟨rfl, rfl, rfl, trivial⟩
            · replace h := ifF h k74
              refine G.unwanted rfl rfl rfl rfl ?_
              refine G.unwanted rfl rfl rfl rfl ?_
              refine G.unwanted rfl rfl rfl rfl ?_
              refine G.pickF rfl rfl rfl rfl rfl ?_
              refine G.assign rfl rfl rfl rfl ?_
              refine G.regionEnd ?_
              refine G.inBlock ?_
              refine G.seq ?_
              refine G.seq ?_
              refine G.region (l := [0, 1, 2, 3, 4, 5, 6]) rfl ?_
              refine G.move rfl rfl rfl rfl ?_
              refine G.not rfl rfl rfl rfl rfl ?_
              refine G.move rfl rfl rfl rfl ?_
              refine G.unwanted rfl rfl rfl rfl ?_
              refine G.unwanted rfl rfl rfl rfl ?_
              refine G.unwanted rfl rfl rfl rfl ?_
              refine G.pickT rfl rfl rfl rfl rfl ?_
              refine G.regionEnd ?_
              refine G.condT rfl ?_
              refine G.seq ?_
              refine G.region (l := [0]) rfl ?_
              refine G.assign rfl rfl rfl rfl ?_
              refine G.regionEnd ?_
              refine G.drop ?_
              refine G.drop ?_
              obtain rfl := Option.some.inj h
              exact G.ret1 Try.func11 rfl rfl (fun w hs => ⟨_, _, rfl, ⟨rfl, rfl⟩, hs⟩)
          · replace h := ifF h k75
            refine G.unwanted rfl rfl rfl rfl ?_
            refine G.unwanted rfl rfl rfl rfl ?_
            refine G.unwanted rfl rfl rfl rfl ?_
            refine G.unwanted rfl rfl rfl rfl ?_
            refine G.unwanted rfl rfl rfl rfl ?_
            refine G.pickF rfl rfl rfl rfl rfl ?_
            refine G.move rfl rfl rfl rfl ?_
            refine G.unwanted rfl rfl rfl rfl ?_
            refine G.unwanted rfl rfl rfl rfl ?_
            refine G.unwanted rfl rfl rfl rfl ?_
            refine G.pickF rfl rfl rfl rfl rfl ?_
            refine G.assign rfl rfl rfl rfl ?_
            refine G.regionEnd ?_
            refine G.inBlock ?_
            refine G.seq ?_
            refine G.seq ?_
            refine G.region (l := [0, 1, 2, 3, 4, 5, 6]) rfl ?_
            refine G.move rfl rfl rfl rfl ?_
            refine G.not rfl rfl rfl rfl rfl ?_
            refine G.move rfl rfl rfl rfl ?_
            refine G.unwanted rfl rfl rfl rfl ?_
            refine G.unwanted rfl rfl rfl rfl ?_
            refine G.unwanted rfl rfl rfl rfl ?_
            refine G.pickT rfl rfl rfl rfl rfl ?_
            refine G.regionEnd ?_
            refine G.condT rfl ?_
            refine G.seq ?_
            refine G.region (l := [0]) rfl ?_
            refine G.assign rfl rfl rfl rfl ?_
            refine G.regionEnd ?_
            refine G.drop ?_
            refine G.drop ?_
            obtain rfl := Option.some.inj h
            exact G.ret1 Try.func11 rfl rfl (fun w hs => ⟨_, _, rfl, ⟨rfl, rfl⟩, hs⟩)
        · replace h := ifF h k76
          refine G.unwanted rfl rfl rfl rfl ?_
          refine G.unwanted rfl rfl rfl rfl ?_
          refine G.unwanted rfl rfl rfl rfl ?_
          refine G.pickF rfl rfl rfl rfl rfl ?_
          refine G.move rfl rfl rfl rfl ?_
          refine G.unwanted rfl rfl rfl rfl ?_
          refine G.unwanted rfl rfl rfl rfl ?_
          refine G.unwanted rfl rfl rfl rfl ?_
          refine G.unwanted rfl rfl rfl rfl ?_
          refine G.unwanted rfl rfl rfl rfl ?_
          refine G.pickF rfl rfl rfl rfl rfl ?_
          refine G.move rfl rfl rfl rfl ?_
          refine G.unwanted rfl rfl rfl rfl ?_
          refine G.unwanted rfl rfl rfl rfl ?_
          refine G.unwanted rfl rfl rfl rfl ?_
          refine G.pickF rfl rfl rfl rfl rfl ?_
          refine G.assign rfl rfl rfl rfl ?_
          refine G.regionEnd ?_
          refine G.inBlock ?_
          refine G.seq ?_
          refine G.seq ?_
          refine G.region (l := [0, 1, 2, 3, 4, 5, 6]) rfl ?_
          refine G.move rfl rfl rfl rfl ?_
          refine G.not rfl rfl rfl rfl rfl ?_
          refine G.move rfl rfl rfl rfl ?_
          refine G.unwanted rfl rfl rfl rfl ?_
          refine G.unwanted rfl rfl rfl rfl ?_
          refine G.unwanted rfl rfl rfl rfl ?_
          refine G.pickT rfl rfl rfl rfl rfl ?_
          refine G.regionEnd ?_
          refine G.condT rfl ?_
          refine G.seq ?_
          refine G.region (l := [0]) rfl ?_
          refine G.assign rfl rfl rfl rfl ?_
          refine G.regionEnd ?_
          refine G.drop ?_
          refine G.drop ?_
          obtain rfl := Option.some.inj h
          exact G.ret1 Try.func11 rfl rfl (fun w hs => ⟨_, _, rfl, ⟨rfl, rfl⟩, hs⟩)
      · replace h := ifF h k81
        refine G.seq ?_
        refine G.region (l := [0, 1]) rfl ?_
        refine G.cmp (a0.kind = 5) rfl rfl rfl rfl rfl rfl Iff.rfl ?_
        refine G.assign rfl rfl rfl rfl ?_
        refine G.regionEnd ?_
        refine G.condP rfl (fun k80 => ?_) (fun k80 => ?_)
        · replace h := ifT h k80
          refine G.seq ?_
          refine G.region (l := [0, 1, 2, 3]) rfl ?_
          refine G.field (off' := 2) rfl rfl rfl rfl Try.underlying24 rfl sz9 rfl rfl ?_
          refine G.loadS (y := a0.name) rfl rfl rfl rfl ty9 (fun w hs => Rd.bk (S_api_Touch.L_name _) hs (j := 0) rfl) ?_
          refine G.field (off' := 2) rfl rfl rfl rfl Try.underlying24 rfl sz9 rfl rfl ?_
          refine G.frontAt 1 rfl ?_
          refine G.store (df := Kd.str) (y := a0.name) (x1 := (S_api_Touch.mk a0.kind a0.ino a0.name 0 0)) rfl rfl rfl rfl (S_api_Touch.L_name _) ⟨([strV a0.name] : List Value), rfl, rfl⟩ sz9 rfl ?_
          refine G.regionEnd ?_
          refine G.region (l := [0, 1, 2, 3, 4, 5, 6]) rfl ?_
          refine G.move rfl rfl rfl rfl ?_
          refine G.move rfl rfl rfl rfl ?_
          refine G.splitP (d := 53) rfl (fun k79 => ?_) (fun k79 => ?_)
          · replace h := ifT h k79
            refine G.field (off' := 2) rfl rfl rfl rfl Try.underlying24 rfl sz9 rfl rfl ?_
            refine G.loadS (y := a0.name) rfl rfl rfl rfl ty9 (fun w hs => Rd.bk (S_api_Touch.L_name _) hs (j := 1) rfl) ?_
            refine G.cmpS (s := a0.name) (u := ([] : Str)) (b := decide (a0.name ≠ ([] : Str))) rfl rfl rfl rfl rfl rfl rfl ?_
            refine G.pickT rfl rfl rfl rfl rfl ?_
            refine G.assign rfl rfl rfl rfl ?_
            refine G.regionEnd ?_
            refine G.frontAt 1 rfl ?_
            refine G.less ?_ (J56  a0.name 0 0 (decide (a0.name ≠ ([] : Str))) h)
            exact ⟨rfl, rfl, rfl, trivial⟩
          · replace h := ifF h k79
            refine G.unwanted rfl rfl rfl rfl ?_
            refine G.unwanted rfl rfl rfl rfl ?_
            refine G.unwanted rfl rfl rfl rfl ?_
            refine G.pickF rfl rfl rfl rfl rfl ?_
            refine G.assign rfl rfl rfl rfl ?_
            refine G.regionEnd ?_
            refine G.inBlock ?_
            refine G.seq ?_
            refine G.seq ?_
            refine G.region (l := [0, 1, 2, 3, 4, 5, 6]) rfl ?_
            refine G.move rfl rfl rfl rfl ?_
            refine G.not rfl rfl rfl rfl rfl ?_
            refine G.move rfl rfl rfl rfl ?_
            refine G.unwanted rfl rfl rfl rfl ?_
            refine G.unwanted rfl rfl rfl rfl ?_
            refine G.unwanted rfl rfl rfl rfl ?_
            refine G.pickT rfl rfl rfl rfl rfl ?_
            refine G.regionEnd ?_
            refine G.condT rfl ?_
            refine G.seq ?_
            refine G.region (l := [0]) rfl ?_
            refine G.assign rfl rfl rfl rfl ?_
            refine G.regionEnd ?_
            refine G.drop ?_
            refine G.drop ?_
            obtain rfl := Option.some.inj h
            exact G.ret1 Try.func11 rfl rfl (fun w hs => ⟨_, _, rfl, ⟨rfl, rfl⟩, hs⟩)
        · replace h := ifF h k80
          refine G.region (l := [0]) rfl ?_
          refine G.assign rfl rfl rfl rfl ?_
          refine G.regionEnd ?_
          refine G.inBlock ?_
          refine G.seq ?_
          refine G.seq ?_
          refine G.region (l := [0, 1, 2, 3, 4, 5, 6]) rfl ?_
          refine G.move rfl rfl rfl rfl ?_
          refine G.not rfl rfl rfl rfl rfl ?_
          refine G.move rfl rfl rfl rfl ?_
          refine G.unwanted rfl rfl rfl rfl ?_
          refine G.unwanted rfl rfl rfl rfl ?_
          refine G.unwanted rfl rfl rfl rfl ?_
          refine G.pickT rfl rfl rfl rfl rfl ?_
          refine G.regionEnd ?_
          refine G.condT rfl ?_
          refine G.seq ?_
          refine G.region (l := [0]) rfl ?_
          refine G.assign rfl rfl rfl rfl ?_
          refine G.regionEnd ?_
          refine G.drop ?_
          refine G.drop ?_
          obtain rfl := Option.some.inj h
          exact G.ret1 Try.func11 rfl rfl (fun w hs => ⟨_, _, rfl, ⟨rfl, rfl⟩, hs⟩)
  intro J83
  refine G.condP rfl (fun k98 => ?_) (fun k98 => ?_)
  · replace h := ifT h k98
    refine G.skip ?_
    refine G.frontAt 1 rfl ?_
    refine G.less ?_ (J83  (decide (a0.kind = 1)) h)
    exact ⟨rfl, rfl, rfl, rfl, rfl, trivial⟩
  · replace h := ifF h k98
    refine G.seq ?_
    refine G.region (l := [0, 1]) rfl ?_
    refine G.cmp (a0.kind = 2) rfl rfl rfl rfl rfl rfl Iff.rfl ?_
    refine G.assign rfl rfl rfl rfl ?_
    refine G.regionEnd ?_
    refine G.condP rfl (fun k97 => ?_) (fun k97 => ?_)
    · replace h := ifT h k97
      refine G.skip ?_
      refine G.frontAt 1 rfl ?_
      refine G.less ?_ (J83  (decide (a0.kind = 2)) h)
      exact ⟨rfl, rfl, rfl, rfl, rfl, trivial⟩
    · replace h := ifF h k97
      refine G.seq ?_
      refine G.region (l := [0, 1]) rfl ?_
      refine G.cmp (a0.kind = 3) rfl rfl rfl rfl rfl rfl Iff.rfl ?_
      refine G.assign rfl rfl rfl rfl ?_
      refine G.regionEnd ?_
      refine G.condP rfl (fun k96 => ?_) (fun k96 => ?_)
      · replace h := ifT h k96
        refine G.skip ?_
        refine G.frontAt 1 rfl ?_
        refine G.less ?_ (J83  (decide (a0.kind = 3)) h)
        exact ⟨rfl, rfl, rfl, rfl, rfl, trivial⟩
      · replace h := ifF h k96
        refine G.seq ?_
        refine G.region (l := [0, 1]) rfl ?_
        refine G.cmp (a0.kind = 6) rfl rfl rfl rfl rfl rfl Iff.rfl ?_
        refine G.assign rfl rfl rfl rfl ?_
        refine G.regionEnd ?_
        refine G.condP rfl (fun k95 => ?_) (fun k95 => ?_)
        · replace h := ifT h k95
          refine G.skip ?_
          refine G.frontAt 1 rfl ?_
          refine G.less ?_ (J83  (decide (a0.kind = 6)) h)
          exact ⟨rfl, rfl, rfl, rfl, rfl, trivial⟩
        · replace h := ifF h k95
          refine G.region (l := [0, 1]) rfl ?_
          refine G.cmp (a0.kind = 7) rfl rfl rfl rfl rfl rfl Iff.rfl ?_
          refine G.assign rfl rfl rfl rfl ?_
          refine G.regionEnd ?_
          refine G.frontAt 1 rfl ?_
          refine G.less ?_ (J83  (decide (a0.kind = 7)) h)
          exact ⟨rfl, rfl, rfl, rfl, rfl, trivial⟩
def armoireref15_Add.reg19_7 (B : List (Nat × Value)) : Reg := ⟨[[], [], [1], [], [3], [0, 2, 4], [], [6], [5, 7], [8, 8, 0, 1, 2, 3, 4, 5, 6, 7, 8]], [some 18, some 19, some 20, some 21, some 22, some 23, some 24, some 25, some 26, some 4], B⟩
theorem armoireref15_Add.reg19_7_ap (B : List (Nat × Value)) : (armoireref15_Add.reg19_7 B).apart = true := rfl
set_option maxRecDepth 20000 in
theorem armoireref15_Add.ok {O : World} {H : PH} {Fr : List Res} (a0 : (List S_api_Touch)) (A0 : Option Addr) (n0 : Nat) (a1 : S_api_Touch) {r : (List S_api_Touch)} (h : armoireref15_Add.f a0 a1 = some r) :
    CtrS Try.prog 19 [.slice A0 a0.length n0, .agg (S_api_Touch.enc a1).toArray] O H (OS 24 K_S_api_Touch A0 n0 a0 :: Fr) (fun v L' => ∃ (Ar0 : Option Addr) (nr0 : Nat), v = .slice Ar0 r.length nr0 ∧ OS 24 K_S_api_Touch Ar0 nr0 r :: Fr = L') := by
  refine CtrS.start (n := 27) Try.func19 rfl Try.ntmps19 rfl rfl ?_
  unfold armoireref15_Add.f at h
  refine G.seq ?_
  refine G.region (l := [0, 1]) rfl ?_
  refine G.box (dk := K_S_api_Touch) (y := a1) rfl rfl rfl rfl (VR.A (cs := S_api_Touch.enc a1) (K_S_api_Touch.of a1)) ?_
  intro g2
  refine G.assign rfl rfl rfl rfl ?_
  refine G.regionEnd ?_
  refine G.seq ?_
  refine G.seq ?_
  refine G.region (l := [0, 1, 2]) rfl ?_
  refine G.move rfl rfl rfl rfl ?_
  refine G.len (m := a0.length) rfl rfl rfl rfl Try.underlying31 ?_
  refine G.move rfl rfl rfl rfl ?_
  refine G.regionEnd ?_
  refine G.block ?_
  refine G.loop (fun GG K => ∀ (d38 : Nat) (x4 : Int), armoireref15_Add.l0 a0 a1 d38 x4 = some r → GG H [(0, .slice A0 a0.length n0), (3, .pointer (some ⟨g2, 0, none⟩)), (7, .slice A0 a0.length n0), (8, .int .i64 (a0.length : Int)), (9, .int .i64 x4)] (OS 24 K_S_api_Touch A0 n0 a0 :: BK 24 K_S_api_Touch g2 a1 :: Fr) K) ?_ ?_
  · intro d38
    induction d38 with
    | zero => intro x4 h; rw [armoireref15_Add.l0] at h; cases h
    | succ d38 ih37 =>
      intro x4 h
      rw [armoireref15_Add.l0] at h
      refine G.seq ?_
      refine G.region (l := [0]) rfl ?_
      refine G.cmp (x4 < (a0.length : Int)) rfl rfl rfl rfl rfl rfl Iff.rfl ?_
      refine G.regionEnd ?_
      refine G.seq ?_
      refine G.condP rfl (fun k82 => ?_) (fun k82 => ?_)
      · replace h := ifT h k82
        refine G.skip ?_
        refine G.seq ?_
        refine G.block ?_
        refine G.seq ?_
        refine G.region (l := [0, 1, 2, 3]) rfl ?_
        obtain ⟨k51, h⟩ := guardS h
        have q50 : x4.toNat < a0.length := by omega
        refine G.indexO (xs := a0) (j := x4) (off := x4.toNat * 5) rfl rfl rfl rfl rfl el31 (r := 0) rfl (by simp) k51 rfl ?_
        refine G.loadA (df := K_S_api_Touch) (y := a0.getD x4.toNat (S_api_Touch.mk 0 0 [] 0 0)) rfl rfl rfl rfl ty24 rfl (fun w hs => Rd.osG q50 (Lens.id _ _) hs (j := 0) rfl (o := x4.toNat * 5) (by first | rfl | simp)) ?_
        intro cs52 f53
        obtain rfl := K_S_api_Touch.open f53
        refine G.alloc (dk := K_S_api_Touch) (x0 := (S_api_Touch.mk 0 0 [] 0 0)) (z := .agg (S_api_Touch.enc (S_api_Touch.mk 0 0 [] 0 0)).toArray) (cs := S_api_Touch.enc (S_api_Touch.mk 0 0 [] 0 0)) rfl rfl rfl (by kernel_rfl) rfl (fun H => K_S_api_Touch.of (S_api_Touch.mk 0 0 [] 0 0)) ?_
        intro g54
        refine G.store (df := K_S_api_Touch) (y := a0.getD x4.toNat (S_api_Touch.mk 0 0 [] 0 0)) (x1 := a0.getD x4.toNat (S_api_Touch.mk 0 0 [] 0 0)) rfl rfl rfl rfl (Lens.id _ _) (VR.A (cs := S_api_Touch.enc (a0.getD x4.toNat (S_api_Touch.mk 0 0 [] 0 0))) (K_S_api_Touch.of (a0.getD x4.toNat (S_api_Touch.mk 0 0 [] 0 0)))) sz24 rfl ?_
        refine G.regionEnd ?_
        refine G.seq ?_
        refine G.region (l := [0, 1, 2]) rfl ?_
        refine G.loadA (df := K_S_api_Touch) (y := a0.getD x4.toNat (S_api_Touch.mk 0 0 [] 0 0)) rfl rfl rfl rfl ty24 rfl (fun w hs => Rd.bk (Lens.id _ _) hs (j := 0) rfl) ?_
        intro cs56 f57
        obtain rfl := K_S_api_Touch.open f57
        refine G.loadA (df := K_S_api_Touch) (y := a1) rfl rfl rfl rfl ty24 rfl (fun w hs => Rd.bk (Lens.id _ _) hs (j := 2) rfl) ?_
        intro cs58 f59
        obtain rfl := K_S_api_Touch.open f59
        refine G.eqA (dk := K_S_api_Touch) (x := a0.getD x4.toNat (S_api_Touch.mk 0 0 [] 0 0)) (y := a1) rfl rfl rfl rfl rfl rfl (by kernel_rfl) eq24 rfl (K_S_api_Touch.of (a0.getD x4.toNat (S_api_Touch.mk 0 0 [] 0 0))) (K_S_api_Touch.of a1) ?_
        refine G.regionEnd ?_
        refine G.condP rfl (fun k60 => ?_) (fun k60 => ?_)
        · replace h := ifT h k60
          refine G.seq ?_
          refine G.region (l := [0, 1]) rfl ?_
          refine G.move rfl rfl rfl rfl ?_
          refine G.assign rfl rfl rfl rfl ?_
          refine G.regionEnd ?_
          refine G.drop ?_
          refine G.frontAt 1 rfl ?_
          refine G.drop ?_
          obtain rfl := Option.some.inj h
          exact G.ret1 Try.func19 rfl rfl (fun w hs => ⟨_, _, rfl, ⟨A0, n0, rfl, rfl⟩, hs⟩)
        · replace h := ifF h k60
          refine G.skip ?_
          refine G.inBlock ?_
          refine G.region (l := [0, 1]) rfl ?_
          refine G.bin (m := x4) (n := 1) (r := wi64 (x4 + 1)) rfl rfl rfl rfl rfl rfl rfl ?_
          refine G.move rfl rfl rfl rfl ?_
          refine G.regionEnd ?_
          refine G.round ?_
          refine G.drop ?_
          refine G.frontAt 1 rfl ?_
          refine G.frontAt 1 rfl ?_
          refine G.less ?_ (ih37  (wi64 (x4 + 1)) h)
          exact ⟨rfl, rfl, rfl, rfl, rfl, trivial⟩
      · replace h := ifF h k82
        refine G.exit rfl ?_
        refine G.seq ?_
        obtain ⟨k62, h⟩ := guardS h
        obtain ⟨k70, h⟩ := guardS h
        refine G.draw [[], [], [1], [], [3], [0, 2, 4], [], [6], [5, 7], [8, 8, 0, 1, 2, 3, 4, 5, 6, 7, 8]] 10 [0, 1, 2, 3, 4, 5, 6, 7, 8, 9] [0, 0, 1, 0, 1, 2, 0, 1, 3, 4] [0, 0, 1, 0, 1, 2, 0, 1, 3, 4] rfl (by kernel_rfl) (by kernel_rfl) (by kernel_rfl) (by kernel_rfl) ?_
        intro C71 ops72 k73
        let R74 : Reg := armoireref15_Add.reg19_7 [(0, .slice A0 a0.length n0), (3, .pointer (some ⟨g2, 0, none⟩))]
        have P81 : ∀ (B65 : Option Addr) (B67 : Option Addr) (c68 : Nat) (m : Nat) (L : List Bool) (A : List (Nat × Value)) (l : List Nat), L.length = R74.ds.length → R74.Phi [some (.slice A0 a0.length n0), some (.slice A0 a0.length n0), some (.int .i64 (a0.length : Int)), some (.slice A0 a0.length n0), some (.int .i64 (a0.length : Int)), some (.slice A0 ((a0.take ((a0.length : Int).toNat)).length) ((a0.length : Int).toNat)), some (.agg (S_api_Touch.enc a1).toArray), some (.slice B65 (([a1] : List S_api_Touch).length) 1), some (.slice B67 ((a0.take ((a0.length : Int).toNat) ++ ([a1] : List S_api_Touch)).length) c68), some (.slice B67 ((a0.take ((a0.length : Int).toNat) ++ ([a1] : List S_api_Touch)).length) c68)] [0, 1, 2, 3, 4, 5, 6, 7, 8] [] L A → left L = m → Ord R74.ds m L l → G C71 H A (OS 24 K_S_api_Touch B67 c68 (a0.take ((a0.length : Int).toNat) ++ ([a1] : List S_api_Touch)) :: BK 24 K_S_api_Touch g2 a1 :: Fr) (.inRegion ops72 l :: k73) := by
          intro B65 B67 c68
          refine G.phase R74 [some (.slice A0 a0.length n0), some (.slice A0 a0.length n0), some (.int .i64 (a0.length : Int)), some (.slice A0 a0.length n0), some (.int .i64 (a0.length : Int)), some (.slice A0 ((a0.take ((a0.length : Int).toNat)).length) ((a0.length : Int).toNat)), some (.agg (S_api_Touch.enc a1).toArray), some (.slice B65 (([a1] : List S_api_Touch).length) 1), some (.slice B67 ((a0.take ((a0.length : Int).toNat) ++ ([a1] : List S_api_Touch)).length) c68), some (.slice B67 ((a0.take ((a0.length : Int).toNat) ++ ([a1] : List S_api_Touch)).length) c68)] [9] [] [0, 1, 2, 3, 4, 5, 6, 7, 8] [] (armoireref15_Add.reg19_7_ap _) rfl rfl ⟨⟨[.op 8], 4, .slice B67 ((a0.take ((a0.length : Int).toNat) ++ ([a1] : List S_api_Touch)).length) c68, [(26, .slice B67 ((a0.take ((a0.length : Int).toNat) ++ ([a1] : List S_api_Touch)).length) c68)], ⟨rfl, rfl, rfl, rfl, ?_⟩⟩, trivial⟩ trivial ?_
          · intro X rest g
            refine G.assign rfl rfl rfl rfl ?_
            exact g
          · intro A L hlen hp h0
            refine G.lessSub (B := [(4, .slice B67 ((a0.take ((a0.length : Int).toNat) ++ ([a1] : List S_api_Touch)).length) c68)]) (hp.fin hlen h0 (src := [.op 9]) rfl) ?_
            refine G.regionEnd ?_
            refine G.frontAt 1 rfl ?_
            refine G.drop ?_
            obtain rfl := Option.some.inj h
            exact G.ret1 Try.func19 rfl rfl (fun w hs => ⟨_, _, rfl, ⟨B67, c68, rfl, rfl⟩, hs⟩)
        have P80 : ∀ (B65 : Option Addr) (m : Nat) (L : List Bool) (A : List (Nat × Value)) (l : List Nat), L.length = R74.ds.length → R74.Phi [some (.slice A0 a0.length n0), some (.slice A0 a0.length n0), some (.int .i64 (a0.length : Int)), some (.slice A0 a0.length n0), some (.int .i64 (a0.length : Int)), some (.slice A0 ((a0.take ((a0.length : Int).toNat)).length) ((a0.length : Int).toNat)), some (.agg (S_api_Touch.enc a1).toArray), some (.slice B65 (([a1] : List S_api_Touch).length) 1), none, none] [0, 1, 2, 3, 4, 5, 6, 7] [8, 9] L A → left L = m → Ord R74.ds m L l → G C71 H A (OS 24 K_S_api_Touch B65 1 ([a1] : List S_api_Touch) :: OS 24 K_S_api_Touch A0 ((a0.length : Int).toNat) (a0.take ((a0.length : Int).toNat)) :: BK 24 K_S_api_Touch g2 a1 :: Fr) (.inRegion ops72 l :: k73) := by
          intro B65
          refine G.phase R74 [some (.slice A0 a0.length n0), some (.slice A0 a0.length n0), some (.int .i64 (a0.length : Int)), some (.slice A0 a0.length n0), some (.int .i64 (a0.length : Int)), some (.slice A0 ((a0.take ((a0.length : Int).toNat)).length) ((a0.length : Int).toNat)), some (.agg (S_api_Touch.enc a1).toArray), some (.slice B65 (([a1] : List S_api_Touch).length) 1), none, none] [] [8] [0, 1, 2, 3, 4, 5, 6, 7] [8, 9] (armoireref15_Add.reg19_7_ap _) rfl rfl trivial ⟨⟨[.op 5, .op 7], [(23, .slice A0 ((a0.take ((a0.length : Int).toNat)).length) ((a0.length : Int).toNat)), (25, .slice B65 (([a1] : List S_api_Touch).length) 1)], ⟨rfl, rfl, ?_⟩⟩, trivial⟩ ?_
          · intro X rest L m hlen hp hil hd hs hm ho
            refine G.frontAt 1 rfl ?_
            refine G.append (df := K_S_api_Touch) (xs := a0.take ((a0.length : Int).toNat)) (ys := ([a1] : List S_api_Touch)) (z0 := (S_api_Touch.mk 0 0 [] 0 0)) (z := .agg (S_api_Touch.enc (S_api_Touch.mk 0 0 [] 0 0)).toArray) (cz := S_api_Touch.enc (S_api_Touch.mk 0 0 [] 0 0)) rfl rfl rfl rfl (by simp) rfl el31 Try.underlying31 rfl (by kernel_rfl) rfl (K_S_api_Touch.of (S_api_Touch.mk 0 0 [] 0 0)) (fun w hs => SrcR.os hs (j := 1) rfl) ⟨by omega, by omega⟩ ?_
            intro B67 c68
            refine G.frontAt 1 rfl ?_
            refine G.drop ?_
            refine G.frontAt 1 rfl ?_
            refine G.frontAt 1 rfl ?_
            exact P81 B65 B67 c68 m _ _ rest (by rw [List.length_set]; exact hlen) (hp.stepS2 0 (armoireref15_Add.reg19_7_ap _) hil hd hs (by repeat (first | exact trivial | refine And.intro rfl ?_)) rfl rfl rfl rfl) hm ho
          · intro A L hlen hp h0
            exact (hp.notYet hlen h0 8 rfl rfl).elim
        have P79 : ∀ (B65 : Option Addr) (m : Nat) (L : List Bool) (A : List (Nat × Value)) (l : List Nat), L.length = R74.ds.length → R74.Phi [some (.slice A0 a0.length n0), some (.slice A0 a0.length n0), some (.int .i64 (a0.length : Int)), some (.slice A0 a0.length n0), some (.int .i64 (a0.length : Int)), none, some (.agg (S_api_Touch.enc a1).toArray), some (.slice B65 (([a1] : List S_api_Touch).length) 1), none, none] [6, 7] [5, 8, 9] L A → left L = m → Ord R74.ds m L l → G C71 H A (OS 24 K_S_api_Touch B65 1 ([a1] : List S_api_Touch) :: OS 24 K_S_api_Touch A0 n0 a0 :: BK 24 K_S_api_Touch g2 a1 :: Fr) (.inRegion ops72 l :: k73) := by
          intro B65
          refine G.phase R74 [some (.slice A0 a0.length n0), some (.slice A0 a0.length n0), some (.int .i64 (a0.length : Int)), some (.slice A0 a0.length n0), some (.int .i64 (a0.length : Int)), none, some (.agg (S_api_Touch.enc a1).toArray), some (.slice B65 (([a1] : List S_api_Touch).length) 1), none, none] [0, 1, 2, 3, 4] [5] [6, 7] [5, 8, 9] (armoireref15_Add.reg19_7_ap _) rfl rfl ⟨⟨[.base 0], 18, .slice A0 a0.length n0, [(0, .slice A0 a0.length n0)], ⟨rfl, rfl, rfl, rfl, ?_⟩⟩, ⟨⟨[.base 0], 19, .slice A0 a0.length n0, [(0, .slice A0 a0.length n0)], ⟨rfl, rfl, rfl, rfl, ?_⟩⟩, ⟨⟨[.op 1], 20, .int .i64 (a0.length : Int), [(19, .slice A0 a0.length n0)], ⟨rfl, rfl, rfl, rfl, ?_⟩⟩, ⟨⟨[.base 0], 21, .slice A0 a0.length n0, [(0, .slice A0 a0.length n0)], ⟨rfl, rfl, rfl, rfl, ?_⟩⟩, ⟨⟨[.op 3], 22, .int .i64 (a0.length : Int), [(21, .slice A0 a0.length n0)], ⟨rfl, rfl, rfl, rfl, ?_⟩⟩, trivial⟩⟩⟩⟩⟩ ⟨⟨[.op 0, .op 2, .op 4], [(18, .slice A0 a0.length n0), (20, .int .i64 (a0.length : Int)), (22, .int .i64 (a0.length : Int))], ⟨rfl, rfl, ?_⟩⟩, trivial⟩ ?_
          · intro X rest g
            refine G.move rfl rfl rfl rfl ?_
            exact g
          · intro X rest g
            refine G.move rfl rfl rfl rfl ?_
            exact g
          · intro X rest g
            refine G.len (m := a0.length) rfl rfl rfl rfl Try.underlying31 ?_
            exact g
          · intro X rest g
            refine G.move rfl rfl rfl rfl ?_
            exact g
          · intro X rest g
            refine G.len (m := a0.length) rfl rfl rfl rfl Try.underlying31 ?_
            exact g
          · intro X rest L m hlen hp hil hd hs hm ho
            refine G.frontAt 1 rfl ?_
            refine G.cutO (xs := a0) (h := (a0.length : Int)) (m := (a0.length : Int)) rfl rfl rfl rfl rfl rfl rfl rfl rfl el31 k62 (fun hc => ⟨Int.le_refl _, by omega⟩) (by intro hh; first | rfl | cases hh) ?_
            refine G.frontAt 2 rfl ?_
            refine G.frontAt 1 rfl ?_
            refine G.frontAt 2 rfl ?_
            exact P80 B65 m _ _ rest (by rw [List.length_set]; exact hlen) (hp.stepS2 2 (armoireref15_Add.reg19_7_ap _) hil hd hs (by repeat (first | exact trivial | refine And.intro rfl ?_)) rfl rfl rfl rfl) hm ho
          · intro A L hlen hp h0
            exact (hp.notYet hlen h0 5 rfl rfl).elim
        have P78 : ∀ (m : Nat) (L : List Bool) (A : List (Nat × Value)) (l : List Nat), L.length = R74.ds.length → R74.Phi [some (.slice A0 a0.length n0), some (.slice A0 a0.length n0), some (.int .i64 (a0.length : Int)), some (.slice A0 a0.length n0), some (.int .i64 (a0.length : Int)), some (.slice A0 ((a0.take ((a0.length : Int).toNat)).length) ((a0.length : Int).toNat)), some (.agg (S_api_Touch.enc a1).toArray), none, none, none] [0, 1, 2, 3, 4, 5, 6] [7, 8, 9] L A → left L = m → Ord R74.ds m L l → G C71 H A (OS 24 K_S_api_Touch A0 ((a0.length : Int).toNat) (a0.take ((a0.length : Int).toNat)) :: BK 24 K_S_api_Touch g2 a1 :: Fr) (.inRegion ops72 l :: k73) := by
          refine G.phase R74 [some (.slice A0 a0.length n0), some (.slice A0 a0.length n0), some (.int .i64 (a0.length : Int)), some (.slice A0 a0.length n0), some (.int .i64 (a0.length : Int)), some (.slice A0 ((a0.take ((a0.length : Int).toNat)).length) ((a0.length : Int).toNat)), some (.agg (S_api_Touch.enc a1).toArray), none, none, none] [] [7] [0, 1, 2, 3, 4, 5, 6] [7, 8, 9] (armoireref15_Add.reg19_7_ap _) rfl rfl trivial ⟨⟨[.op 6], [(24, .agg (S_api_Touch.enc a1).toArray)], ⟨rfl, rfl, ?_⟩⟩, trivial⟩ ?_
          · intro X rest L m hlen hp hil hd hs hm ho
            refine G.buildSliceV (df := K_S_api_Touch) (xs := ([a1] : List S_api_Touch)) (z0 := (S_api_Touch.mk 0 0 [] 0 0)) (vs := [.agg (S_api_Touch.enc a1).toArray]) rfl rfl rfl el31 (z := .agg (S_api_Touch.enc (S_api_Touch.mk 0 0 [] 0 0)).toArray) (cz := S_api_Touch.enc (S_api_Touch.mk 0 0 [] 0 0)) (by kernel_rfl) rfl rfl rfl rfl rfl (K_S_api_Touch.of (S_api_Touch.mk 0 0 [] 0 0)) ⟨(VR.A (cs := S_api_Touch.enc a1) (K_S_api_Touch.of a1)), trivial⟩ ?_
            intro B65
            refine G.frontAt 2 rfl ?_
            refine G.frontAt 2 rfl ?_
            refine G.frontAt 2 rfl ?_
            exact P80 B65 m _ _ rest (by rw [List.length_set]; exact hlen) (hp.stepS2 0 (armoireref15_Add.reg19_7_ap _) hil hd hs (by repeat (first | exact trivial | refine And.intro rfl ?_)) rfl rfl rfl rfl) hm ho
          · intro A L hlen hp h0
            exact (hp.notYet hlen h0 7 rfl rfl).elim
        have P77 : ∀ (m : Nat) (L : List Bool) (A : List (Nat × Value)) (l : List Nat), L.length = R74.ds.length → R74.Phi [some (.slice A0 a0.length n0), some (.slice A0 a0.length n0), some (.int .i64 (a0.length : Int)), some (.slice A0 a0.length n0), some (.int .i64 (a0.length : Int)), none, some (.agg (S_api_Touch.enc a1).toArray), none, none, none] [6] [5, 7, 8, 9] L A → left L = m → Ord R74.ds m L l → G C71 H A (OS 24 K_S_api_Touch A0 n0 a0 :: BK 24 K_S_api_Touch g2 a1 :: Fr) (.inRegion ops72 l :: k73) := by
          refine G.phase R74 [some (.slice A0 a0.length n0), some (.slice A0 a0.length n0), some (.int .i64 (a0.length : Int)), some (.slice A0 a0.length n0), some (.int .i64 (a0.length : Int)), none, some (.agg (S_api_Touch.enc a1).toArray), none, none, none] [0, 1, 2, 3, 4] [5, 7] [6] [5, 7, 8, 9] (armoireref15_Add.reg19_7_ap _) rfl rfl ⟨⟨[.base 0], 18, .slice A0 a0.length n0, [(0, .slice A0 a0.length n0)], ⟨rfl, rfl, rfl, rfl, ?_⟩⟩, ⟨⟨[.base 0], 19, .slice A0 a0.length n0, [(0, .slice A0 a0.length n0)], ⟨rfl, rfl, rfl, rfl, ?_⟩⟩, ⟨⟨[.op 1], 20, .int .i64 (a0.length : Int), [(19, .slice A0 a0.length n0)], ⟨rfl, rfl, rfl, rfl, ?_⟩⟩, ⟨⟨[.base 0], 21, .slice A0 a0.length n0, [(0, .slice A0 a0.length n0)], ⟨rfl, rfl, rfl, rfl, ?_⟩⟩, ⟨⟨[.op 3], 22, .int .i64 (a0.length : Int), [(21, .slice A0 a0.length n0)], ⟨rfl, rfl, rfl, rfl, ?_⟩⟩, trivial⟩⟩⟩⟩⟩ ⟨⟨[.op 0, .op 2, .op 4], [(18, .slice A0 a0.length n0), (20, .int .i64 (a0.length : Int)), (22, .int .i64 (a0.length : Int))], ⟨rfl, rfl, ?_⟩⟩, ⟨⟨[.op 6], [(24, .agg (S_api_Touch.enc a1).toArray)], ⟨rfl, rfl, ?_⟩⟩, trivial⟩⟩ ?_
          · intro X rest g
            refine G.move rfl rfl rfl rfl ?_
            exact g
          · intro X rest g
            refine G.move rfl rfl rfl rfl ?_
            exact g
          · intro X rest g
            refine G.len (m := a0.length) rfl rfl rfl rfl Try.underlying31 ?_
            exact g
          · intro X rest g
            refine G.move rfl rfl rfl rfl ?_
            exact g
          · intro X rest g
            refine G.len (m := a0.length) rfl rfl rfl rfl Try.underlying31 ?_
            exact g
          · intro X rest L m hlen hp hil hd hs hm ho
            refine G.cutO (xs := a0) (h := (a0.length : Int)) (m := (a0.length : Int)) rfl rfl rfl rfl rfl rfl rfl rfl rfl el31 k62 (fun hc => ⟨Int.le_refl _, by omega⟩) (by intro hh; first | rfl | cases hh) ?_
            refine G.frontAt 1 rfl ?_
            refine G.frontAt 1 rfl ?_
            exact P78 m _ _ rest (by rw [List.length_set]; exact hlen) (hp.stepS2 2 (armoireref15_Add.reg19_7_ap _) hil hd hs (by repeat (first | exact trivial | refine And.intro rfl ?_)) rfl rfl rfl rfl) hm ho
          · intro X rest L m hlen hp hil hd hs hm ho
            refine G.buildSliceV (df := K_S_api_Touch) (xs := ([a1] : List S_api_Touch)) (z0 := (S_api_Touch.mk 0 0 [] 0 0)) (vs := [.agg (S_api_Touch.enc a1).toArray]) rfl rfl rfl el31 (z := .agg (S_api_Touch.enc (S_api_Touch.mk 0 0 [] 0 0)).toArray) (cz := S_api_Touch.enc (S_api_Touch.mk 0 0 [] 0 0)) (by kernel_rfl) rfl rfl rfl rfl rfl (K_S_api_Touch.of (S_api_Touch.mk 0 0 [] 0 0)) ⟨(VR.A (cs := S_api_Touch.enc a1) (K_S_api_Touch.of a1)), trivial⟩ ?_
            intro B65
            refine G.frontAt 2 rfl ?_
            refine G.frontAt 2 rfl ?_
            refine G.frontAt 2 rfl ?_
            exact P79 B65 m _ _ rest (by rw [List.length_set]; exact hlen) (hp.stepS2 0 (armoireref15_Add.reg19_7_ap _) hil hd hs (by repeat (first | exact trivial | refine And.intro rfl ?_)) rfl rfl rfl rfl) hm ho
          · intro A L hlen hp h0
            exact (hp.notYet hlen h0 5 rfl rfl).elim
        have P76 : ∀ (m : Nat) (L : List Bool) (A : List (Nat × Value)) (l : List Nat), L.length = R74.ds.length → R74.Phi [some (.slice A0 a0.length n0), some (.slice A0 a0.length n0), some (.int .i64 (a0.length : Int)), some (.slice A0 a0.length n0), some (.int .i64 (a0.length : Int)), some (.slice A0 ((a0.take ((a0.length : Int).toNat)).length) ((a0.length : Int).toNat)), none, none, none, none] [0, 1, 2, 3, 4, 5] [6, 7, 8, 9] L A → left L = m → Ord R74.ds m L l → G C71 H A (OS 24 K_S_api_Touch A0 ((a0.length : Int).toNat) (a0.take ((a0.length : Int).toNat)) :: BK 24 K_S_api_Touch g2 a1 :: Fr) (.inRegion ops72 l :: k73) := by
          refine G.phase R74 [some (.slice A0 a0.length n0), some (.slice A0 a0.length n0), some (.int .i64 (a0.length : Int)), some (.slice A0 a0.length n0), some (.int .i64 (a0.length : Int)), some (.slice A0 ((a0.take ((a0.length : Int).toNat)).length) ((a0.length : Int).toNat)), none, none, none, none] [] [6] [0, 1, 2, 3, 4, 5] [6, 7, 8, 9] (armoireref15_Add.reg19_7_ap _) rfl rfl trivial ⟨⟨[.base 3], [(3, .pointer (some ⟨g2, 0, none⟩))], ⟨rfl, rfl, ?_⟩⟩, trivial⟩ ?_
          · intro X rest L m hlen hp hil hd hs hm ho
            refine G.loadA (df := K_S_api_Touch) (y := a1) rfl rfl rfl rfl ty24 rfl (fun w hs => Rd.bk (Lens.id _ _) hs (j := 1) rfl) ?_
            intro cs63 f64
            obtain rfl := K_S_api_Touch.open f64
            refine G.frontAt 1 rfl ?_
            refine G.frontAt 1 rfl ?_
            exact P78 m _ _ rest (by rw [List.length_set]; exact hlen) (hp.stepS2 0 (armoireref15_Add.reg19_7_ap _) hil hd hs (by repeat (first | exact trivial | refine And.intro rfl ?_)) rfl rfl rfl rfl) hm ho
          · intro A L hlen hp h0
            exact (hp.notYet hlen h0 6 rfl rfl).elim
        have P75 : ∀ (m : Nat) (L : List Bool) (A : List (Nat × Value)) (l : List Nat), L.length = R74.ds.length → R74.Phi [some (.slice A0 a0.length n0), some (.slice A0 a0.length n0), some (.int .i64 (a0.length : Int)), some (.slice A0 a0.length n0), some (.int .i64 (a0.length : Int)), none, none, none, none, none] [] [5, 6, 7, 8, 9] L A → left L = m → Ord R74.ds m L l → G C71 H A (OS 24 K_S_api_Touch A0 n0 a0 :: BK 24 K_S_api_Touch g2 a1 :: Fr) (.inRegion ops72 l :: k73) := by
          refine G.phase R74 [some (.slice A0 a0.length n0), some (.slice A0 a0.length n0), some (.int .i64 (a0.length : Int)), some (.slice A0 a0.length n0), some (.int .i64 (a0.length : Int)), none, none, none, none, none] [0, 1, 2, 3, 4] [5, 6] [] [5, 6, 7, 8, 9] (armoireref15_Add.reg19_7_ap _) rfl rfl ⟨⟨[.base 0], 18, .slice A0 a0.length n0, [(0, .slice A0 a0.length n0)], ⟨rfl, rfl, rfl, rfl, ?_⟩⟩, ⟨⟨[.base 0], 19, .slice A0 a0.length n0, [(0, .slice A0 a0.length n0)], ⟨rfl, rfl, rfl, rfl, ?_⟩⟩, ⟨⟨[.op 1], 20, .int .i64 (a0.length : Int), [(19, .slice A0 a0.length n0)], ⟨rfl, rfl, rfl, rfl, ?_⟩⟩, ⟨⟨[.base 0], 21, .slice A0 a0.length n0, [(0, .slice A0 a0.length n0)], ⟨rfl, rfl, rfl, rfl, ?_⟩⟩, ⟨⟨[.op 3], 22, .int .i64 (a0.length : Int), [(21, .slice A0 a0.length n0)], ⟨rfl, rfl, rfl, rfl, ?_⟩⟩, trivial⟩⟩⟩⟩⟩ ⟨⟨[.op 0, .op 2, .op 4], [(18, .slice A0 a0.length n0), (20, .int .i64 (a0.length : Int)), (22, .int .i64 (a0.length : Int))], ⟨rfl, rfl, ?_⟩⟩, ⟨⟨[.base 3], [(3, .pointer (some ⟨g2, 0, none⟩))], ⟨rfl, rfl, ?_⟩⟩, trivial⟩⟩ ?_
          · intro X rest g
            refine G.move rfl rfl rfl rfl ?_
            exact g
          · intro X rest g
            refine G.move rfl rfl rfl rfl ?_
            exact g
          · intro X rest g
            refine G.len (m := a0.length) rfl rfl rfl rfl Try.underlying31 ?_
            exact g
          · intro X rest g
            refine G.move rfl rfl rfl rfl ?_
            exact g
          · intro X rest g
            refine G.len (m := a0.length) rfl rfl rfl rfl Try.underlying31 ?_
            exact g
          · intro X rest L m hlen hp hil hd hs hm ho
            refine G.cutO (xs := a0) (h := (a0.length : Int)) (m := (a0.length : Int)) rfl rfl rfl rfl rfl rfl rfl rfl rfl el31 k62 (fun hc => ⟨Int.le_refl _, by omega⟩) (by intro hh; first | rfl | cases hh) ?_
            refine G.frontAt 1 rfl ?_
            refine G.frontAt 1 rfl ?_
            exact P76 m _ _ rest (by rw [List.length_set]; exact hlen) (hp.stepS2 2 (armoireref15_Add.reg19_7_ap _) hil hd hs (by repeat (first | exact trivial | refine And.intro rfl ?_)) rfl rfl rfl rfl) hm ho
          · intro X rest L m hlen hp hil hd hs hm ho
            refine G.loadA (df := K_S_api_Touch) (y := a1) rfl rfl rfl rfl ty24 rfl (fun w hs => Rd.bk (Lens.id _ _) hs (j := 1) rfl) ?_
            intro cs63 f64
            obtain rfl := K_S_api_Touch.open f64
            refine G.frontAt 1 rfl ?_
            refine G.frontAt 1 rfl ?_
            exact P77 m _ _ rest (by rw [List.length_set]; exact hlen) (hp.stepS2 0 (armoireref15_Add.reg19_7_ap _) hil hd hs (by repeat (first | exact trivial | refine And.intro rfl ?_)) rfl rfl rfl rfl) hm ho
          · intro A L hlen hp h0
            exact (hp.notYet hlen h0 5 rfl rfl).elim
        intro l hl
        exact P75 10 (List.replicate 10 false) _ l rfl (Reg.Phi.init 10 ⟨rfl, rfl, trivial⟩) (left_rep 10) hl
  intro J83
  refine G.frontAt 1 rfl ?_
  refine G.less ?_ (J83 FUEL  0 h)
  exact ⟨rfl, rfl, rfl, rfl, rfl, trivial⟩
set_option maxRecDepth 20000 in
theorem reads_Set_Undo.ok {O : World} {H : PH} {Fr : List Res} (a0 : S_reads_Set) (g0 : Nat) (A0 : Option Addr) (n0 : Nat) (a1 : Int) {r : Int × S_reads_Set} (h : reads_Set_Undo.f a0 a1 = some r) :
    CtrS Try.prog 20 [.pointer (some ⟨g0, 0, none⟩), .int .i64 a1] O H (BK 69 K_R_reads_Set g0 (R_reads_Set.mk (A0, a0.l.length, n0)) :: OS 24 K_S_api_Touch A0 n0 a0.l :: Fr) (fun v L' => ∃ (Ar0 : Option Addr) (nr0 : Nat), v = .int .i64 r.1 ∧ BK 69 K_R_reads_Set g0 (R_reads_Set.mk (Ar0, r.2.l.length, nr0)) :: OS 24 K_S_api_Touch Ar0 nr0 r.2.l :: Fr = L') := by
  refine CtrS.start (n := 26) Try.func20 rfl Try.ntmps20 rfl rfl ?_
  unfold reads_Set_Undo.f at h
  refine G.seq ?_
  refine G.region (l := [0]) rfl ?_
  refine G.assign rfl rfl rfl rfl ?_
  refine G.regionEnd ?_
  refine G.seq ?_
  refine G.seq ?_
  refine G.region (l := [0, 1, 2, 3, 4, 5, 6, 7, 8, 9, 10]) rfl ?_
  refine G.move rfl rfl rfl rfl ?_
  refine G.cmp (a1 < 0) rfl rfl rfl rfl rfl rfl Iff.rfl ?_
  refine G.move rfl rfl rfl rfl ?_
  refine G.splitP (d := 7) rfl (fun k6 => ?_) (fun k6 => ?_)
  · replace h := ifT h k6
    refine G.unwanted rfl rfl rfl rfl ?_
    refine G.unwanted rfl rfl rfl rfl ?_
    refine G.unwanted rfl rfl rfl rfl ?_
    refine G.unwanted rfl rfl rfl rfl ?_
    refine G.unwanted rfl rfl rfl rfl ?_
    refine G.unwanted rfl rfl rfl rfl ?_
    refine G.unwanted rfl rfl rfl rfl ?_
    refine G.pickT rfl rfl rfl rfl rfl ?_
    refine G.regionEnd ?_
    refine G.condT rfl ?_
    refine G.seq ?_
    refine G.region (l := [0]) rfl ?_
    refine G.assign rfl rfl rfl rfl ?_
    refine G.regionEnd ?_
    refine G.frontAt 1 rfl ?_
    refine G.frontAt 1 rfl ?_
    obtain rfl := Option.some.inj h
    exact G.ret1 Try.func20 rfl rfl (fun w hs => ⟨_, _, rfl, ⟨A0, n0, rfl, rfl⟩, hs⟩)
  · replace h := ifF h k6
    refine G.move rfl rfl rfl rfl ?_
    refine G.move rfl rfl rfl rfl ?_
    refine G.nilCheck rfl rfl rfl rfl ?_
    refine G.field (off' := 0) rfl rfl rfl rfl Try.underlying69 rfl sz31 rfl rfl ?_
    refine G.loadH (B := A0) (m := a0.l.length) (c := n0) rfl rfl rfl rfl ty31r (fun w hs => Rd.bk (R_reads_Set.L_l _) hs (j := 0) rfl) ?_
    refine G.len (m := a0.l.length) rfl rfl rfl rfl Try.underlying31 ?_
    refine G.cmp ((a0.l.length : Int) < a1) rfl rfl rfl rfl rfl rfl Iff.rfl ?_
    refine G.pickF rfl rfl rfl rfl rfl ?_
    refine G.regionEnd ?_
    refine G.condP rfl (fun k5 => ?_) (fun k5 => ?_)
    · replace h := ifT h k5
      refine G.seq ?_
      refine G.region (l := [0]) rfl ?_
      refine G.assign rfl rfl rfl rfl ?_
      refine G.regionEnd ?_
      refine G.frontAt 1 rfl ?_
      refine G.frontAt 1 rfl ?_
      obtain rfl := Option.some.inj h
      exact G.ret1 Try.func20 rfl rfl (fun w hs => ⟨_, _, rfl, ⟨A0, n0, rfl, rfl⟩, hs⟩)
    · replace h := ifF h k5
      refine G.skip ?_
      refine G.seq ?_
      refine G.region (l := [0, 1, 2, 3, 4, 5, 6, 7, 8, 9, 10]) rfl ?_
      refine G.move rfl rfl rfl rfl ?_
      refine G.move rfl rfl rfl rfl ?_
      refine G.nilCheck rfl rfl rfl rfl ?_
      refine G.field (off' := 0) rfl rfl rfl rfl Try.underlying69 rfl sz31 rfl rfl ?_
      refine G.loadH (B := A0) (m := a0.l.length) (c := n0) rfl rfl rfl rfl ty31r (fun w hs => Rd.bk (R_reads_Set.L_l _) hs (j := 0) rfl) ?_
      refine G.move rfl rfl rfl rfl ?_
      refine G.move rfl rfl rfl rfl ?_
      obtain ⟨k4, h⟩ := guardS h
      refine G.frontAt 1 rfl ?_
      refine G.cutO (xs := a0.l) (h := a1) (m := a1) rfl rfl rfl rfl rfl rfl rfl rfl rfl el31 k4 (fun hc => ⟨Int.le_refl _, by omega⟩) (by intro hh; first | rfl | cases hh) ?_
      refine G.nilCheck rfl rfl rfl rfl ?_
      refine G.field (off' := 0) rfl rfl rfl rfl Try.underlying69 rfl sz31 rfl rfl ?_
      refine G.frontAt 1 rfl ?_
      refine G.store (df := Kd.hdr) (y := (A0, (a0.l.take a1.toNat).length, a1.toNat)) (x1 := (R_reads_Set.mk (A0, (a0.l.take a1.toNat).length, a1.toNat))) rfl rfl rfl rfl (R_reads_Set.L_l _) ⟨([.slice A0 ((a0.l.take a1.toNat).length) a1.toNat] : List Value), rfl, rfl⟩ sz31 rfl ?_
      refine G.regionEnd ?_
      refine G.seq ?_
      refine G.region (l := [0]) rfl ?_
      refine G.assign rfl rfl rfl rfl ?_
      refine G.regionEnd ?_
      refine G.frontAt 1 rfl ?_
      refine G.frontAt 1 rfl ?_
      obtain rfl := Option.some.inj h
      exact G.ret1 Try.func20 rfl rfl (fun w hs => ⟨_, _, rfl, ⟨A0, a1.toNat, rfl, rfl⟩, hs⟩)
set_option maxRecDepth 20000 in
theorem slices_Clone_Lapi_Touch_api_Touch.ok {O : World} {H : PH} {Fr : List Res} (a0 : (List S_api_Touch)) (A0 : Option Addr) (n0 : Nat) (F0 : SlR K_S_api_Touch H A0 n0 a0) {r : (List S_api_Touch)} (h : slices_Clone_Lapi_Touch_api_Touch.f a0 = some r) :
    CtrS Try.prog 31 [.slice A0 a0.length n0] O H (Fr) (fun v L' => ∃ (Ar0 : Option Addr) (nr0 : Nat), v = .slice Ar0 r.length nr0 ∧ OS 24 K_S_api_Touch Ar0 nr0 r :: Fr = L') := by
  refine CtrS.start (n := 8) Try.func31 rfl Try.ntmps31 rfl rfl ?_
  unfold slices_Clone_Lapi_Touch_api_Touch.f at h
  refine G.seq ?_
  refine G.region (l := [0]) rfl ?_
  refine G.assign rfl rfl rfl rfl ?_
  refine G.regionEnd ?_
  refine G.seq ?_
  refine G.seq ?_
  refine G.region (l := [0, 1]) rfl ?_
  refine G.move rfl rfl rfl rfl ?_
  refine G.eqNil rfl rfl rfl rfl rfl Try.underlying31 ?_
  refine G.regionEnd ?_
  refine G.cond rfl (fun k1 => ?_) (fun k1 => ?_)
  · have hx2 : a0 = [] := SlR.nil_of F0 k1
    replace h : (some ([] : List S_api_Touch)) = some r := by
      first | (rw [hx2] at h; simpa using h) | (simp only [hx2] at h ⊢; simpa using h)
    refine G.seq ?_
    refine G.region (l := [0]) rfl ?_
    refine G.assign rfl rfl rfl rfl ?_
    refine G.regionEnd ?_
    refine G.osNil 24 K_S_api_Touch ?_
    refine G.same (d := 2) (v := .slice none (([] : List S_api_Touch).length) 0) rfl (by first | (simp; done) | (simp; omega)) ?_
    obtain rfl := Option.some.inj h
    exact G.ret1 Try.func31 rfl rfl (fun w hs => ⟨_, _, rfl, ⟨none, 0, rfl, rfl⟩, hs⟩)
  · refine G.skip ?_
    refine G.seq ?_
    refine G.region (l := [0, 1, 2, 3]) rfl ?_
    refine G.buildSlice0 (df := K_S_api_Touch) rfl rfl rfl el31 ?_
    intro B4
    refine G.move rfl rfl rfl rfl ?_
    obtain ⟨k9, h⟩ := guardS h
    refine G.append (df := K_S_api_Touch) (xs := ([] : List S_api_Touch)) (ys := a0) (z0 := (S_api_Touch.mk 0 0 [] 0 0)) (z := .agg (S_api_Touch.enc (S_api_Touch.mk 0 0 [] 0 0)).toArray) (cz := S_api_Touch.enc (S_api_Touch.mk 0 0 [] 0 0)) rfl rfl rfl rfl (by simp) rfl el31 Try.underlying31 rfl (by kernel_rfl) rfl (K_S_api_Touch.of (S_api_Touch.mk 0 0 [] 0 0)) (fun w hs => SrcR.ro F0 hs) ⟨by omega, by omega⟩ ?_
    intro B6 c7
    refine G.assign rfl rfl rfl rfl ?_
    refine G.regionEnd ?_
    obtain rfl := Option.some.inj h
    exact G.ret1 Try.func31 rfl rfl (fun w hs => ⟨_, _, rfl, ⟨B6, c7, rfl, rfl⟩, hs⟩)
set_option maxRecDepth 20000 in
theorem reads_Set_All.ok {O : World} {H : PH} {Fr : List Res} (a0 : S_reads_Set) (g0 : Nat) (A0 : Option Addr) (n0 : Nat) {r : (List S_api_Touch)} (h : reads_Set_All.f a0 = some r) :
    CtrS Try.prog 22 [.pointer (some ⟨g0, 0, none⟩)] O H (BK 69 K_R_reads_Set g0 (R_reads_Set.mk (A0, a0.l.length, n0)) :: OS 24 K_S_api_Touch A0 n0 a0.l :: Fr) (fun v L' => ∃ (Ar0 : Option Addr) (nr0 : Nat), v = .slice Ar0 r.length nr0 ∧ BK 69 K_R_reads_Set g0 (R_reads_Set.mk (A0, a0.l.length, n0)) :: OS 24 K_S_api_Touch A0 n0 a0.l :: OS 24 K_S_api_Touch Ar0 nr0 r :: Fr = L') := by
  refine CtrS.start (n := 8) Try.func22 rfl Try.ntmps22 rfl rfl ?_
  unfold reads_Set_All.f at h
  refine G.seq ?_
  refine G.region (l := [0]) rfl ?_
  refine G.assign rfl rfl rfl rfl ?_
  refine G.regionEnd ?_
  refine G.seq ?_
  refine G.region (l := [0, 1, 2, 3, 4, 5]) rfl ?_
  refine G.move rfl rfl rfl rfl ?_
  refine G.nilCheck rfl rfl rfl rfl ?_
  refine G.field (off' := 0) rfl rfl rfl rfl Try.underlying69 rfl sz31 rfl rfl ?_
  refine G.loadH (B := A0) (m := a0.l.length) (c := n0) rfl rfl rfl rfl ty31r (fun w hs => Rd.bk (R_reads_Set.L_l _) hs (j := 0) rfl) ?_
  obtain ⟨t3, e4, h⟩ := bindS h
  refine G.callBO (m := 0) rfl rfl rfl rfl call31 rfl (fun H1 hle hsl => (slices_Clone_Lapi_Touch_api_Touch.ok a0.l A0 n0 (hsl (j := 1) rfl) e4).ctr) (by rintro v H' L' ⟨_, _, rfl, rfl⟩; exact (Free.cons (Free.os flat_S_api_Touch) Free.nil)) ?_
  rintro v5 L6 ⟨_, ⟨B7, c8, rfl, rfl⟩⟩
  refine G.assign rfl rfl rfl rfl ?_
  refine G.regionEnd ?_
  refine G.frontAt 2 rfl ?_
  refine G.frontAt 2 rfl ?_
  obtain rfl := Option.some.inj h
  exact G.ret1 Try.func22 rfl rfl (fun w hs => ⟨_, _, rfl, ⟨B7, c8, rfl, rfl⟩, hs⟩)
set_option maxRecDepth 20000 in
theorem reads_Set_Mark.ok {O : World} {H : PH} {Fr : List Res} (a0 : S_reads_Set) (g0 : Nat) (A0 : Option Addr) (n0 : Nat) {r : Int} (h : reads_Set_Mark.f a0 = some r) :
    CtrS Try.prog 23 [.pointer (some ⟨g0, 0, none⟩)] O H (BK 69 K_R_reads_Set g0 (R_reads_Set.mk (A0, a0.l.length, n0)) :: OS 24 K_S_api_Touch A0 n0 a0.l :: Fr) (fun v L' => v = .int .i64 r ∧ BK 69 K_R_reads_Set g0 (R_reads_Set.mk (A0, a0.l.length, n0)) :: OS 24 K_S_api_Touch A0 n0 a0.l :: Fr = L') := by
  refine CtrS.start (n := 8) Try.func23 rfl Try.ntmps23 rfl rfl ?_
  unfold reads_Set_Mark.f at h
  refine G.seq ?_
  refine G.region (l := [0]) rfl ?_
  refine G.assign rfl rfl rfl rfl ?_
  refine G.regionEnd ?_
  refine G.seq ?_
  refine G.region (l := [0, 1, 2, 3, 4, 5]) rfl ?_
  refine G.move rfl rfl rfl rfl ?_
  refine G.nilCheck rfl rfl rfl rfl ?_
  refine G.field (off' := 0) rfl rfl rfl rfl Try.underlying69 rfl sz31 rfl rfl ?_
  refine G.loadH (B := A0) (m := a0.l.length) (c := n0) rfl rfl rfl rfl ty31r (fun w hs => Rd.bk (R_reads_Set.L_l _) hs (j := 0) rfl) ?_
  refine G.len (m := a0.l.length) rfl rfl rfl rfl Try.underlying31 ?_
  refine G.assign rfl rfl rfl rfl ?_
  refine G.regionEnd ?_
  refine G.frontAt 1 rfl ?_
  refine G.frontAt 1 rfl ?_
  obtain rfl := Option.some.inj h
  exact G.ret1 Try.func23 rfl rfl (fun w hs => ⟨_, _, rfl, ⟨rfl, rfl⟩, hs⟩)
def armoirelaw15_same.reg21_7 (B : List (Nat × Value)) : Reg := ⟨[[], [], [0, 1], [2], [], [], [4, 5], [6], [3, 7]], [some 26, some 27, some 28, some 29, some 30, some 31, some 32, some 33, some 34], B⟩
theorem armoirelaw15_same.reg21_7_ap (B : List (Nat × Value)) : (armoirelaw15_same.reg21_7 B).apart = true := rfl
set_option maxRecDepth 20000 in
theorem armoirelaw15_same.ok {O : World} {H : PH} {Fr : List Res} (a0 : S_reads_Set) (g0 : Nat) (A0 : Option Addr) (n0 : Nat) (a1 : (List S_api_Touch)) (A1 : Option Addr) (n1 : Nat) (F1 : SlR K_S_api_Touch H A1 n1 a1) {r : Bool} (h : armoirelaw15_same.f a0 a1 = some r) :
    CtrS Try.prog 21 [.pointer (some ⟨g0, 0, none⟩), .slice A1 a1.length n1] O H (BK 69 K_R_reads_Set g0 (R_reads_Set.mk (A0, a0.l.length, n0)) :: OS 24 K_S_api_Touch A0 n0 a0.l :: Fr) (fun v L' => v = .bool r ∧ BK 69 K_R_reads_Set g0 (R_reads_Set.mk (A0, a0.l.length, n0)) :: OS 24 K_S_api_Touch A0 n0 a0.l :: Fr = L') := by
  refine CtrS.start (n := 40) Try.func21 rfl Try.ntmps21 rfl rfl ?_
  unfold armoirelaw15_same.f at h
  refine G.seq ?_
  refine G.region (l := [0]) rfl ?_
  refine G.assign rfl rfl rfl rfl ?_
  refine G.regionEnd ?_
  refine G.seq ?_
  refine G.region (l := [0, 1, 2]) rfl ?_
  refine G.move rfl rfl rfl rfl ?_
  refine G.frontAt 1 rfl ?_
  refine G.frontAt 1 rfl ?_
  obtain ⟨t3, e4, h⟩ := bindS h
  refine G.callS rfl rfl rfl rfl call22 (reads_Set_All.ok a0 g0 A0 n0 e4) ?_
  rintro v5 L6 ⟨B7, c8, rfl, rfl⟩
  refine G.assign rfl rfl rfl rfl ?_
  refine G.regionEnd ?_
  refine G.seq ?_
  refine G.seq ?_
  refine G.region (l := [0, 1, 2, 3, 4, 5, 6, 7, 8, 9, 10, 11]) rfl ?_
  refine G.move rfl rfl rfl rfl ?_
  refine G.len (m := t3.length) rfl rfl rfl rfl Try.underlying31 ?_
  refine G.move rfl rfl rfl rfl ?_
  refine G.len (m := a1.length) rfl rfl rfl rfl Try.underlying31 ?_
  refine G.cmp ((t3.length : Int) ≠ (a1.length : Int)) rfl rfl rfl rfl rfl rfl Iff.rfl ?_
  refine G.move rfl rfl rfl rfl ?_
  refine G.splitP (d := 14) rfl (fun k75 => ?_) (fun k75 => ?_)
  · replace h := ifT h k75
    refine G.unwanted rfl rfl rfl rfl ?_
    refine G.unwanted rfl rfl rfl rfl ?_
    refine G.unwanted rfl rfl rfl rfl ?_
    refine G.unwanted rfl rfl rfl rfl ?_
    refine G.unwanted rfl rfl rfl rfl ?_
    refine G.pickT rfl rfl rfl rfl rfl ?_
    refine G.regionEnd ?_
    refine G.condT rfl ?_
    refine G.seq ?_
    refine G.region (l := [0]) rfl ?_
    refine G.assign rfl rfl rfl rfl ?_
    refine G.regionEnd ?_
    refine G.frontAt 2 rfl ?_
    refine G.drop ?_
    refine G.frontAt 1 rfl ?_
    refine G.frontAt 1 rfl ?_
    obtain rfl := Option.some.inj h
    exact G.ret1 Try.func21 rfl rfl (fun w hs => ⟨_, _, rfl, ⟨rfl, rfl⟩, hs⟩)
  · replace h := ifF h k75
    refine G.move rfl rfl rfl rfl ?_
    refine G.frontAt 1 rfl ?_
    refine G.frontAt 1 rfl ?_
    obtain ⟨t14, e15, h⟩ := bindS h
    refine G.callS rfl rfl rfl rfl call23 (reads_Set_Mark.ok a0 g0 A0 n0 e15) ?_
    rintro v16 L17 ⟨rfl, rfl⟩
    refine G.move rfl rfl rfl rfl ?_
    refine G.len (m := a1.length) rfl rfl rfl rfl Try.underlying31 ?_
    refine G.cmp (t14 ≠ (a1.length : Int)) rfl rfl rfl rfl rfl rfl Iff.rfl ?_
    refine G.pickF rfl rfl rfl rfl rfl ?_
    refine G.regionEnd ?_
    refine G.condP rfl (fun k74 => ?_) (fun k74 => ?_)
    · replace h := ifT h k74
      refine G.seq ?_
      refine G.region (l := [0]) rfl ?_
      refine G.assign rfl rfl rfl rfl ?_
      refine G.regionEnd ?_
      refine G.frontAt 2 rfl ?_
      refine G.drop ?_
      refine G.frontAt 1 rfl ?_
      refine G.frontAt 1 rfl ?_
      obtain rfl := Option.some.inj h
      exact G.ret1 Try.func21 rfl rfl (fun w hs => ⟨_, _, rfl, ⟨rfl, rfl⟩, hs⟩)
    · replace h := ifF h k74
      refine G.skip ?_
      refine G.seq ?_
      refine G.seq ?_
      refine G.region (l := [0, 1, 2]) rfl ?_
      refine G.move rfl rfl rfl rfl ?_
      refine G.len (m := t3.length) rfl rfl rfl rfl Try.underlying31 ?_
      refine G.move rfl rfl rfl rfl ?_
      refine G.regionEnd ?_
      refine G.block ?_
      refine G.loop (fun GG K => ∀ (d48 : Nat) (x32 : (List S_api_Touch)) (x33 : Int), armoirelaw15_same.l0 a1 t3 d48 x32 x33 = some r → GG H [(1, .slice A1 a1.length n1), (5, .slice B7 x32.length c8), (22, .int .i64 (t3.length : Int)), (23, .int .i64 x33)] (OS 24 K_S_api_Touch B7 c8 x32 :: OS 24 K_S_api_Touch A0 n0 a0.l :: BK 69 K_R_reads_Set g0 (R_reads_Set.mk (A0, a0.l.length, n0)) :: Fr) K) ?_ ?_
      · intro d48
        induction d48 with
        | zero => intro x32 x33 h; rw [armoirelaw15_same.l0] at h; cases h
        | succ d48 ih47 =>
          intro x32 x33 h
          rw [armoirelaw15_same.l0] at h
          refine G.seq ?_
          refine G.region (l := [0]) rfl ?_
          refine G.cmp (x33 < (t3.length : Int)) rfl rfl rfl rfl rfl rfl Iff.rfl ?_
          refine G.regionEnd ?_
          refine G.seq ?_
          refine G.condP rfl (fun k72 => ?_) (fun k72 => ?_)
          · replace h := ifT h k72
            refine G.skip ?_
            refine G.seq ?_
            refine G.block ?_
            refine G.seq ?_
            refine G.region (l := [0, 1]) rfl ?_
            refine G.move rfl rfl rfl rfl ?_
            refine G.assign rfl rfl rfl rfl ?_
            refine G.regionEnd ?_
            refine G.seq ?_
            refine G.seq ?_
            obtain ⟨k51, h⟩ := guardS h
            have q50 : x33.toNat < x32.length := by omega
            obtain ⟨k56, h⟩ := guardS h
            refine G.draw [[], [], [0, 1], [2], [], [], [4, 5], [6], [3, 7]] 9 [0, 1, 2, 3, 4, 5, 6, 7, 8] [0, 0, 1, 2, 0, 0, 1, 2, 3] [0, 0, 1, 2, 0, 0, 1, 2, 3] rfl (by kernel_rfl) (by kernel_rfl) (by kernel_rfl) (by kernel_rfl) ?_
            intro C62 ops63 k64
            let R65 : Reg := armoirelaw15_same.reg21_7 [(1, .slice A1 a1.length n1), (5, .slice B7 x32.length c8), (6, .int .i64 x33), (22, .int .i64 (t3.length : Int)), (23, .int .i64 x33)]
            have P71 : ∀ (a54 : Addr) (f55 : PtR K_S_api_Touch H a54 (a1.getD x33.toNat (S_api_Touch.mk 0 0 [] 0 0))) (m : Nat) (L : List Bool) (A : List (Nat × Value)) (l : List Nat), L.length = R65.ds.length → R65.Phi [some (.slice B7 x32.length c8), some (.int .i64 x33), some (.pointer (some (plc B7 (x33.toNat * 5)))), some (.agg (S_api_Touch.enc (x32.getD x33.toNat (S_api_Touch.mk 0 0 [] 0 0))).toArray), some (.slice A1 a1.length n1), some (.int .i64 x33), some (.pointer (some a54)), some (.agg (S_api_Touch.enc (a1.getD x33.toNat (S_api_Touch.mk 0 0 [] 0 0))).toArray), some (.bool (decide ((x32.getD x33.toNat (S_api_Touch.mk 0 0 [] 0 0)) ≠ (a1.getD x33.toNat (S_api_Touch.mk 0 0 [] 0 0)))))] [0, 1, 2, 3, 4, 5, 6, 7] [] L A → left L = m → Ord R65.ds m L l → G C62 H A (OS 24 K_S_api_Touch B7 c8 x32 :: OS 24 K_S_api_Touch A0 n0 a0.l :: BK 69 K_R_reads_Set g0 (R_reads_Set.mk (A0, a0.l.length, n0)) :: Fr) (.inRegion ops63 l :: k64) := by
              intro a54 f55
              refine G.phase R65 [some (.slice B7 x32.length c8), some (.int .i64 x33), some (.pointer (some (plc B7 (x33.toNat * 5)))), some (.agg (S_api_Touch.enc (x32.getD x33.toNat (S_api_Touch.mk 0 0 [] 0 0))).toArray), some (.slice A1 a1.length n1), some (.int .i64 x33), some (.pointer (some a54)), some (.agg (S_api_Touch.enc (a1.getD x33.toNat (S_api_Touch.mk 0 0 [] 0 0))).toArray), some (.bool (decide ((x32.getD x33.toNat (S_api_Touch.mk 0 0 [] 0 0)) ≠ (a1.getD x33.toNat (S_api_Touch.mk 0 0 [] 0 0)))))] [8] [] [0, 1, 2, 3, 4, 5, 6, 7] [] (armoirelaw15_same.reg21_7_ap _) rfl rfl ⟨⟨[.op 3, .op 7], 34, .bool (decide ((x32.getD x33.toNat (S_api_Touch.mk 0 0 [] 0 0)) ≠ (a1.getD x33.toNat (S_api_Touch.mk 0 0 [] 0 0)))), [(29, .agg (S_api_Touch.enc (x32.getD x33.toNat (S_api_Touch.mk 0 0 [] 0 0))).toArray), (33, .agg (S_api_Touch.enc (a1.getD x33.toNat (S_api_Touch.mk 0 0 [] 0 0))).toArray)], ⟨rfl, rfl, rfl, rfl, ?_⟩⟩, trivial⟩ trivial ?_
              · intro X rest g
                refine G.neqA (dk := K_S_api_Touch) (x := x32.getD x33.toNat (S_api_Touch.mk 0 0 [] 0 0)) (y := a1.getD x33.toNat (S_api_Touch.mk 0 0 [] 0 0)) rfl rfl rfl rfl rfl rfl (by kernel_rfl) eq24 rfl (K_S_api_Touch.of (x32.getD x33.toNat (S_api_Touch.mk 0 0 [] 0 0))) (K_S_api_Touch.of (a1.getD x33.toNat (S_api_Touch.mk 0 0 [] 0 0))) ?_
                exact g
              · intro A L hlen hp h0
                refine G.lessSub (B := [(1, .slice A1 a1.length n1), (5, .slice B7 x32.length c8), (6, .int .i64 x33), (22, .int .i64 (t3.length : Int)), (23, .int .i64 x33), (34, .bool (decide ((x32.getD x33.toNat (S_api_Touch.mk 0 0 [] 0 0)) ≠ (a1.getD x33.toNat (S_api_Touch.mk 0 0 [] 0 0)))))]) (hp.fin hlen h0 (src := [.base 1, .base 5, .base 6, .base 22, .base 23, .op 8]) rfl) ?_
                refine G.regionEnd ?_
                refine G.condP rfl (fun k61 => ?_) (fun k61 => ?_)
                · replace h := ifT h k61
                  refine G.seq ?_
                  refine G.region (l := [0]) rfl ?_
                  refine G.assign rfl rfl rfl rfl ?_
                  refine G.regionEnd ?_
                  refine G.drop ?_
                  refine G.frontAt 1 rfl ?_
                  obtain rfl := Option.some.inj h
                  exact G.ret1 Try.func21 rfl rfl (fun w hs => ⟨_, _, rfl, ⟨rfl, rfl⟩, hs⟩)
                · replace h := ifF h k61
                  refine G.skip ?_
                  refine G.region (l := [0, 1, 2, 3, 4]) rfl ?_
                  refine G.move rfl rfl rfl rfl ?_
                  refine G.move rfl rfl rfl rfl ?_
                  obtain ⟨k60, h⟩ := guardS h
                  have q59 : x33.toNat < x32.length := by omega
                  refine G.indexO (xs := x32) (j := x33) (off := x33.toNat * 5) rfl rfl rfl rfl rfl el31 (r := 0) rfl (by simp) k60 rfl ?_
                  refine G.fieldO (off' := x33.toNat * 5 + 1) rfl rfl rfl rfl Try.underlying24 rfl sz22 rfl rfl ?_
                  refine G.storeO (df := (Kd.int .u32)) (y := 0) (hj := q59) (xs' := x32.set x33.toNat (S_api_Touch.mk ((x32.getD x33.toNat (S_api_Touch.mk 0 0 [] 0 0)).kind) 0 ((x32.getD x33.toNat (S_api_Touch.mk 0 0 [] 0 0)).name) ((x32.getD x33.toNat (S_api_Touch.mk 0 0 [] 0 0)).lo) ((x32.getD x33.toNat (S_api_Touch.mk 0 0 [] 0 0)).hi))) rfl rfl rfl rfl (S_api_Touch.L_ino _) (by first | rfl | simp) ⟨([.int .u32 0] : List Value), rfl, rfl⟩ sz22 (by simp [List.getD, q59]) ?_
                  refine G.regionEnd ?_
                  refine G.inBlock ?_
                  refine G.region (l := [0, 1]) rfl ?_
                  refine G.bin (m := x33) (n := 1) (r := wi64 (x33 + 1)) rfl rfl rfl rfl rfl rfl rfl ?_
                  refine G.move rfl rfl rfl rfl ?_
                  refine G.regionEnd ?_
                  refine G.round ?_
                  refine G.same (d := 5) (v := .slice B7 ((x32.set x33.toNat (S_api_Touch.mk ((x32.getD x33.toNat (S_api_Touch.mk 0 0 [] 0 0)).kind) 0 ((x32.getD x33.toNat (S_api_Touch.mk 0 0 [] 0 0)).name) ((x32.getD x33.toNat (S_api_Touch.mk 0 0 [] 0 0)).lo) ((x32.getD x33.toNat (S_api_Touch.mk 0 0 [] 0 0)).hi))).length) c8) rfl (by first | (simp; done) | (simp; omega)) ?_
                  refine G.frontAt 2 rfl ?_
                  refine G.frontAt 2 rfl ?_
                  refine G.frontAt 2 rfl ?_
                  refine G.less ?_ (ih47  (x32.set x33.toNat (S_api_Touch.mk ((x32.getD x33.toNat (S_api_Touch.mk 0 0 [] 0 0)).kind) 0 ((x32.getD x33.toNat (S_api_Touch.mk 0 0 [] 0 0)).name) ((x32.getD x33.toNat (S_api_Touch.mk 0 0 [] 0 0)).lo) ((x32.getD x33.toNat (S_api_Touch.mk 0 0 [] 0 0)).hi))) (wi64 (x33 + 1)) h)
                  exact ⟨rfl, rfl, rfl, rfl, trivial⟩
            have P70 : ∀ (a54 : Addr) (f55 : PtR K_S_api_Touch H a54 (a1.getD x33.toNat (S_api_Touch.mk 0 0 [] 0 0))) (m : Nat) (L : List Bool) (A : List (Nat × Value)) (l : List Nat), L.length = R65.ds.length → R65.Phi [some (.slice B7 x32.length c8), some (.int .i64 x33), some (.pointer (some (plc B7 (x33.toNat * 5)))), none, some (.slice A1 a1.length n1), some (.int .i64 x33), some (.pointer (some a54)), some (.agg (S_api_Touch.enc (a1.getD x33.toNat (S_api_Touch.mk 0 0 [] 0 0))).toArray), none] [4, 5, 6, 7] [3, 8] L A → left L = m → Ord R65.ds m L l → G C62 H A (OS 24 K_S_api_Touch B7 c8 x32 :: OS 24 K_S_api_Touch A0 n0 a0.l :: BK 69 K_R_reads_Set g0 (R_reads_Set.mk (A0, a0.l.length, n0)) :: Fr) (.inRegion ops63 l :: k64) := by
              intro a54 f55
              refine G.phase R65 [some (.slice B7 x32.length c8), some (.int .i64 x33), some (.pointer (some (plc B7 (x33.toNat * 5)))), none, some (.slice A1 a1.length n1), some (.int .i64 x33), some (.pointer (some a54)), some (.agg (S_api_Touch.enc (a1.getD x33.toNat (S_api_Touch.mk 0 0 [] 0 0))).toArray), none] [0, 1, 2] [3] [4, 5, 6, 7] [3, 8] (armoirelaw15_same.reg21_7_ap _) rfl rfl ⟨⟨[.base 5], 26, .slice B7 x32.length c8, [(5, .slice B7 x32.length c8)], ⟨rfl, rfl, rfl, rfl, ?_⟩⟩, ⟨⟨[.base 6], 27, .int .i64 x33, [(6, .int .i64 x33)], ⟨rfl, rfl, rfl, rfl, ?_⟩⟩, ⟨⟨[.op 0, .op 1], 28, .pointer (some (plc B7 (x33.toNat * 5))), [(26, .slice B7 x32.length c8), (27, .int .i64 x33)], ⟨rfl, rfl, rfl, rfl, ?_⟩⟩, trivial⟩⟩⟩ ⟨⟨[.op 2], [(28, .pointer (some (plc B7 (x33.toNat * 5))))], ⟨rfl, rfl, ?_⟩⟩, trivial⟩ ?_
              · intro X rest g
                refine G.move rfl rfl rfl rfl ?_
                exact g
              · intro X rest g
                refine G.move rfl rfl rfl rfl ?_
                exact g
              · intro X rest g
                refine G.indexO (xs := x32) (j := x33) (off := x33.toNat * 5) rfl rfl rfl rfl rfl el31 (r := 0) rfl (by simp) k51 rfl ?_
                exact g
              · intro X rest L m hlen hp hil hd hs hm ho
                refine G.loadA (df := K_S_api_Touch) (y := x32.getD x33.toNat (S_api_Touch.mk 0 0 [] 0 0)) rfl rfl rfl rfl ty24 rfl (fun w hs => Rd.osG q50 (Lens.id _ _) hs (j := 0) rfl (o := x33.toNat * 5) (by first | rfl | simp)) ?_
                intro cs52 f53
                obtain rfl := K_S_api_Touch.open f53
                refine G.frontAt 2 rfl ?_
                refine G.frontAt 2 rfl ?_
                refine G.frontAt 2 rfl ?_
                exact P71 a54 f55 m _ _ rest (by rw [List.length_set]; exact hlen) (hp.stepS2 2 (armoirelaw15_same.reg21_7_ap _) hil hd hs (by repeat (first | exact trivial | refine And.intro rfl ?_)) rfl rfl rfl rfl) hm ho
              · intro A L hlen hp h0
                exact (hp.notYet hlen h0 3 rfl rfl).elim
            have P69 : ∀ (a54 : Addr) (f55 : PtR K_S_api_Touch H a54 (a1.getD x33.toNat (S_api_Touch.mk 0 0 [] 0 0))) (m : Nat) (L : List Bool) (A : List (Nat × Value)) (l : List Nat), L.length = R65.ds.length → R65.Phi [some (.slice B7 x32.length c8), some (.int .i64 x33), some (.pointer (some (plc B7 (x33.toNat * 5)))), some (.agg (S_api_Touch.enc (x32.getD x33.toNat (S_api_Touch.mk 0 0 [] 0 0))).toArray), some (.slice A1 a1.length n1), some (.int .i64 x33), some (.pointer (some a54)), none, none] [0, 1, 2, 3, 4, 5, 6] [7, 8] L A → left L = m → Ord R65.ds m L l → G C62 H A (OS 24 K_S_api_Touch B7 c8 x32 :: OS 24 K_S_api_Touch A0 n0 a0.l :: BK 69 K_R_reads_Set g0 (R_reads_Set.mk (A0, a0.l.length, n0)) :: Fr) (.inRegion ops63 l :: k64) := by
              intro a54 f55
              refine G.phase R65 [some (.slice B7 x32.length c8), some (.int .i64 x33), some (.pointer (some (plc B7 (x33.toNat * 5)))), some (.agg (S_api_Touch.enc (x32.getD x33.toNat (S_api_Touch.mk 0 0 [] 0 0))).toArray), some (.slice A1 a1.length n1), some (.int .i64 x33), some (.pointer (some a54)), none, none] [] [7] [0, 1, 2, 3, 4, 5, 6] [7, 8] (armoirelaw15_same.reg21_7_ap _) rfl rfl trivial ⟨⟨[.op 6], [(32, .pointer (some a54))], ⟨rfl, rfl, ?_⟩⟩, trivial⟩ ?_
              · intro X rest L m hlen hp hil hd hs hm ho
                refine G.loadA (df := K_S_api_Touch) (y := a1.getD x33.toNat (S_api_Touch.mk 0 0 [] 0 0)) rfl rfl rfl rfl ty24 rfl (fun w hs => Rd.ro f55 hs) ?_
                intro cs57 f58
                obtain rfl := K_S_api_Touch.open f58
                refine G.frontAt 2 rfl ?_
                refine G.frontAt 2 rfl ?_
                refine G.frontAt 2 rfl ?_
                exact P71 a54 f55 m _ _ rest (by rw [List.length_set]; exact hlen) (hp.stepS2 0 (armoirelaw15_same.reg21_7_ap _) hil hd hs (by repeat (first | exact trivial | refine And.intro rfl ?_)) rfl rfl rfl rfl) hm ho
              · intro A L hlen hp h0
                exact (hp.notYet hlen h0 7 rfl rfl).elim
            have P68 : ∀ (a54 : Addr) (f55 : PtR K_S_api_Touch H a54 (a1.getD x33.toNat (S_api_Touch.mk 0 0 [] 0 0))) (m : Nat) (L : List Bool) (A : List (Nat × Value)) (l : List Nat), L.length = R65.ds.length → R65.Phi [some (.slice B7 x32.length c8), some (.int .i64 x33), some (.pointer (some (plc B7 (x33.toNat * 5)))), none, some (.slice A1 a1.length n1), some (.int .i64 x33), some (.pointer (some a54)), none, none] [4, 5, 6] [3, 7, 8] L A → left L = m → Ord R65.ds m L l → G C62 H A (OS 24 K_S_api_Touch B7 c8 x32 :: OS 24 K_S_api_Touch A0 n0 a0.l :: BK 69 K_R_reads_Set g0 (R_reads_Set.mk (A0, a0.l.length, n0)) :: Fr) (.inRegion ops63 l :: k64) := by
              intro a54 f55
              refine G.phase R65 [some (.slice B7 x32.length c8), some (.int .i64 x33), some (.pointer (some (plc B7 (x33.toNat * 5)))), none, some (.slice A1 a1.length n1), some (.int .i64 x33), some (.pointer (some a54)), none, none] [0, 1, 2] [3, 7] [4, 5, 6] [3, 7, 8] (armoirelaw15_same.reg21_7_ap _) rfl rfl ⟨⟨[.base 5], 26, .slice B7 x32.length c8, [(5, .slice B7 x32.length c8)], ⟨rfl, rfl, rfl, rfl, ?_⟩⟩, ⟨⟨[.base 6], 27, .int .i64 x33, [(6, .int .i64 x33)], ⟨rfl, rfl, rfl, rfl, ?_⟩⟩, ⟨⟨[.op 0, .op 1], 28, .pointer (some (plc B7 (x33.toNat * 5))), [(26, .slice B7 x32.length c8), (27, .int .i64 x33)], ⟨rfl, rfl, rfl, rfl, ?_⟩⟩, trivial⟩⟩⟩ ⟨⟨[.op 2], [(28, .pointer (some (plc B7 (x33.toNat * 5))))], ⟨rfl, rfl, ?_⟩⟩, ⟨⟨[.op 6], [(32, .pointer (some a54))], ⟨rfl, rfl, ?_⟩⟩, trivial⟩⟩ ?_
              · intro X rest g
                refine G.move rfl rfl rfl rfl ?_
                exact g
              · intro X rest g
                refine G.move rfl rfl rfl rfl ?_
                exact g
              · intro X rest g
                refine G.indexO (xs := x32) (j := x33) (off := x33.toNat * 5) rfl rfl rfl rfl rfl el31 (r := 0) rfl (by simp) k51 rfl ?_
                exact g
              · intro X rest L m hlen hp hil hd hs hm ho
                refine G.loadA (df := K_S_api_Touch) (y := x32.getD x33.toNat (S_api_Touch.mk 0 0 [] 0 0)) rfl rfl rfl rfl ty24 rfl (fun w hs => Rd.osG q50 (Lens.id _ _) hs (j := 0) rfl (o := x33.toNat * 5) (by first | rfl | simp)) ?_
                intro cs52 f53
                obtain rfl := K_S_api_Touch.open f53
                refine G.frontAt 2 rfl ?_
                refine G.frontAt 2 rfl ?_
                refine G.frontAt 2 rfl ?_
                exact P69 a54 f55 m _ _ rest (by rw [List.length_set]; exact hlen) (hp.stepS2 2 (armoirelaw15_same.reg21_7_ap _) hil hd hs (by repeat (first | exact trivial | refine And.intro rfl ?_)) rfl rfl rfl rfl) hm ho
              · intro X rest L m hlen hp hil hd hs hm ho
                refine G.loadA (df := K_S_api_Touch) (y := a1.getD x33.toNat (S_api_Touch.mk 0 0 [] 0 0)) rfl rfl rfl rfl ty24 rfl (fun w hs => Rd.ro f55 hs) ?_
                intro cs57 f58
                obtain rfl := K_S_api_Touch.open f58
                refine G.frontAt 2 rfl ?_
                refine G.frontAt 2 rfl ?_
                refine G.frontAt 2 rfl ?_
                exact P70 a54 f55 m _ _ rest (by rw [List.length_set]; exact hlen) (hp.stepS2 0 (armoirelaw15_same.reg21_7_ap _) hil hd hs (by repeat (first | exact trivial | refine And.intro rfl ?_)) rfl rfl rfl rfl) hm ho
              · intro A L hlen hp h0
                exact (hp.notYet hlen h0 3 rfl rfl).elim
            have P67 : ∀ (m : Nat) (L : List Bool) (A : List (Nat × Value)) (l : List Nat), L.length = R65.ds.length → R65.Phi [some (.slice B7 x32.length c8), some (.int .i64 x33), some (.pointer (some (plc B7 (x33.toNat * 5)))), some (.agg (S_api_Touch.enc (x32.getD x33.toNat (S_api_Touch.mk 0 0 [] 0 0))).toArray), some (.slice A1 a1.length n1), some (.int .i64 x33), none, none, none] [0, 1, 2, 3] [6, 7, 8] L A → left L = m → Ord R65.ds m L l → G C62 H A (OS 24 K_S_api_Touch B7 c8 x32 :: OS 24 K_S_api_Touch A0 n0 a0.l :: BK 69 K_R_reads_Set g0 (R_reads_Set.mk (A0, a0.l.length, n0)) :: Fr) (.inRegion ops63 l :: k64) := by
              refine G.phase R65 [some (.slice B7 x32.length c8), some (.int .i64 x33), some (.pointer (some (plc B7 (x33.toNat * 5)))), some (.agg (S_api_Touch.enc (x32.getD x33.toNat (S_api_Touch.mk 0 0 [] 0 0))).toArray), some (.slice A1 a1.length n1), some (.int .i64 x33), none, none, none] [4, 5] [6] [0, 1, 2, 3] [6, 7, 8] (armoirelaw15_same.reg21_7_ap _) rfl rfl ⟨⟨[.base 1], 30, .slice A1 a1.length n1, [(1, .slice A1 a1.length n1)], ⟨rfl, rfl, rfl, rfl, ?_⟩⟩, ⟨⟨[.base 6], 31, .int .i64 x33, [(6, .int .i64 x33)], ⟨rfl, rfl, rfl, rfl, ?_⟩⟩, trivial⟩⟩ ⟨⟨[.op 4, .op 5], [(30, .slice A1 a1.length n1), (31, .int .i64 x33)], ⟨rfl, rfl, ?_⟩⟩, trivial⟩ ?_
              · intro X rest g
                refine G.move rfl rfl rfl rfl ?_
                exact g
              · intro X rest g
                refine G.move rfl rfl rfl rfl ?_
                exact g
              · intro X rest L m hlen hp hil hd hs hm ho
                refine G.indexR (xs := a1) (j := x33) (S_api_Touch.mk 0 0 [] 0 0) rfl rfl rfl rfl rfl el31 F1 k56 ?_
                intro a54 f55
                refine G.frontAt 2 rfl ?_
                refine G.frontAt 2 rfl ?_
                refine G.frontAt 2 rfl ?_
                exact P69 a54 f55 m _ _ rest (by rw [List.length_set]; exact hlen) (hp.stepS2 1 (armoirelaw15_same.reg21_7_ap _) hil hd hs (by repeat (first | exact trivial | refine And.intro rfl ?_)) rfl rfl rfl rfl) hm ho
              · intro A L hlen hp h0
                exact (hp.notYet hlen h0 6 rfl rfl).elim
            have P66 : ∀ (m : Nat) (L : List Bool) (A : List (Nat × Value)) (l : List Nat), L.length = R65.ds.length → R65.Phi [some (.slice B7 x32.length c8), some (.int .i64 x33), some (.pointer (some (plc B7 (x33.toNat * 5)))), none, some (.slice A1 a1.length n1), some (.int .i64 x33), none, none, none] [] [3, 6, 7, 8] L A → left L = m → Ord R65.ds m L l → G C62 H A (OS 24 K_S_api_Touch B7 c8 x32 :: OS 24 K_S_api_Touch A0 n0 a0.l :: BK 69 K_R_reads_Set g0 (R_reads_Set.mk (A0, a0.l.length, n0)) :: Fr) (.inRegion ops63 l :: k64) := by
              refine G.phase R65 [some (.slice B7 x32.length c8), some (.int .i64 x33), some (.pointer (some (plc B7 (x33.toNat * 5)))), none, some (.slice A1 a1.length n1), some (.int .i64 x33), none, none, none] [0, 1, 2, 4, 5] [3, 6] [] [3, 6, 7, 8] (armoirelaw15_same.reg21_7_ap _) rfl rfl ⟨⟨[.base 5], 26, .slice B7 x32.length c8, [(5, .slice B7 x32.length c8)], ⟨rfl, rfl, rfl, rfl, ?_⟩⟩, ⟨⟨[.base 6], 27, .int .i64 x33, [(6, .int .i64 x33)], ⟨rfl, rfl, rfl, rfl, ?_⟩⟩, ⟨⟨[.op 0, .op 1], 28, .pointer (some (plc B7 (x33.toNat * 5))), [(26, .slice B7 x32.length c8), (27, .int .i64 x33)], ⟨rfl, rfl, rfl, rfl, ?_⟩⟩, ⟨⟨[.base 1], 30, .slice A1 a1.length n1, [(1, .slice A1 a1.length n1)], ⟨rfl, rfl, rfl, rfl, ?_⟩⟩, ⟨⟨[.base 6], 31, .int .i64 x33, [(6, .int .i64 x33)], ⟨rfl, rfl, rfl, rfl, ?_⟩⟩, trivial⟩⟩⟩⟩⟩ ⟨⟨[.op 2], [(28, .pointer (some (plc B7 (x33.toNat * 5))))], ⟨rfl, rfl, ?_⟩⟩, ⟨⟨[.op 4, .op 5], [(30, .slice A1 a1.length n1), (31, .int .i64 x33)], ⟨rfl, rfl, ?_⟩⟩, trivial⟩⟩ ?_
              · intro X rest g
                refine G.move rfl rfl rfl rfl ?_
                exact g
              · intro X rest g
                refine G.move rfl rfl rfl rfl ?_
                exact g
              · intro X rest g
                refine G.indexO (xs := x32) (j := x33) (off := x33.toNat * 5) rfl rfl rfl rfl rfl el31 (r := 0) rfl (by simp) k51 rfl ?_
                exact g
              · intro X rest g
                refine G.move rfl rfl rfl rfl ?_
                exact g
              · intro X rest g
                refine G.move rfl rfl rfl rfl ?_
                exact g
              · intro X rest L m hlen hp hil hd hs hm ho
                refine G.loadA (df := K_S_api_Touch) (y := x32.getD x33.toNat (S_api_Touch.mk 0 0 [] 0 0)) rfl rfl rfl rfl ty24 rfl (fun w hs => Rd.osG q50 (Lens.id _ _) hs (j := 0) rfl (o := x33.toNat * 5) (by first | rfl | simp)) ?_
                intro cs52 f53
                obtain rfl := K_S_api_Touch.open f53
                refine G.frontAt 2 rfl ?_
                refine G.frontAt 2 rfl ?_
                refine G.frontAt 2 rfl ?_
                exact P67 m _ _ rest (by rw [List.length_set]; exact hlen) (hp.stepS2 2 (armoirelaw15_same.reg21_7_ap _) hil hd hs (by repeat (first | exact trivial | refine And.intro rfl ?_)) rfl rfl rfl rfl) hm ho
              · intro X rest L m hlen hp hil hd hs hm ho
                refine G.indexR (xs := a1) (j := x33) (S_api_Touch.mk 0 0 [] 0 0) rfl rfl rfl rfl rfl el31 F1 k56 ?_
                intro a54 f55
                refine G.frontAt 2 rfl ?_
                refine G.frontAt 2 rfl ?_
                refine G.frontAt 2 rfl ?_
                exact P68 a54 f55 m _ _ rest (by rw [List.length_set]; exact hlen) (hp.stepS2 1 (armoirelaw15_same.reg21_7_ap _) hil hd hs (by repeat (first | exact trivial | refine And.intro rfl ?_)) rfl rfl rfl rfl) hm ho
              · intro A L hlen hp h0
                exact (hp.notYet hlen h0 3 rfl rfl).elim
            intro l hl
            exact P66 9 (List.replicate 9 false) _ l rfl (Reg.Phi.init 9 ⟨rfl, rfl, rfl, rfl, rfl, trivial⟩) (left_rep 9) hl
          · replace h := ifF h k72
            refine G.exit rfl ?_
            refine G.seq ?_
            refine G.region (l := [0]) rfl ?_
            refine G.assign rfl rfl rfl rfl ?_
            refine G.regionEnd ?_
            refine G.drop ?_
            refine G.frontAt 1 rfl ?_
            obtain rfl := Option.some.inj h
            exact G.ret1 Try.func21 rfl rfl (fun w hs => ⟨_, _, rfl, ⟨rfl, rfl⟩, hs⟩)
      intro J73
      refine G.frontAt 1 rfl ?_
      refine G.frontAt 2 rfl ?_
      refine G.less ?_ (J73 FUEL  t3 0 h)
      exact ⟨rfl, rfl, rfl, rfl, trivial⟩
end Go.Proofs.Ytpiliblfmpgjeaa
