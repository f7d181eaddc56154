/- Own text, printed by wip/g2: the walks. -/
import Derived.Test.YtpiliblfmpgjeaaBw1
namespace Go.Proofs.Ytpiliblfmpgjeaa
open Go K
set_option linter.unusedVariables false
set_option maxHeartbeats 1000000
def reads_History_Add_s2.reg15_5 (B : List (Nat × Value)) : Reg := ⟨[[], [], [1], [2], [3], [], [], [6], [5, 7], [8], [4, 9, 7], [0, 0, 1, 2, 3, 4, 5, 6, 7, 8, 9, 10], [11, 0, 1, 2, 3, 4, 5, 6, 7, 8, 9, 10], [12, 10, 10, 0, 1, 2, 3, 4, 5, 6, 7, 8, 9, 10]], [some 34, some 35, some 36, some 37, some 38, some 39, some 40, some 41, some 42, some 43, some 44, some 45, some 46, none], B⟩
theorem reads_History_Add_s2.reg15_5_ap (B : List (Nat × Value)) : (reads_History_Add_s2.reg15_5 B).apart = true := rfl
set_option maxRecDepth 20000 in
theorem reads_History_Add_s2.ok {O : World} {H : PH} {Fr : List Res} (a0 : S_reads_History) (g0 : Nat) (A0 : Option Addr) (n0 : Nat) (a1 : Int) (a2 : (List S_api_Touch)) (A2 : Option Addr) (n2 : Nat) {r : Int × S_reads_History} (h : reads_History_Add.f a0 a1 a2 = some r) :
    Ctr Try.prog 15 [.pointer (some ⟨g0, 0, none⟩), .int .u64 a1, .slice A2 a2.length n2] O H (BK 60 K_R_reads_History g0 (R_reads_History.mk (A0, a0.l.length, n0)) :: OS 63 K_S_reads_was A0 n0 a0.l :: OS 24 K_S_api_Touch A2 n2 a2 :: Fr) (fun v H' L' => ∃ (Ar0 : Option Addr) (nr0 : Nat), v = .int .i64 r.1 ∧ BK 60 K_R_reads_History g0 (R_reads_History.mk (Ar0, r.2.l.length, nr0)) :: OS 24 K_S_api_Touch A2 n2 a2 :: OS 63 K_S_reads_was Ar0 nr0 r.2.l :: Fr = L') := by
  refine Ctr.start (n := 47) Try.func15 rfl Try.ntmps15 rfl rfl ?_
  unfold reads_History_Add.f at h
  refine G.seq ?_
  refine G.region (l := [0]) rfl ?_
  refine G.assign rfl rfl rfl rfl ?_
  refine G.regionEnd ?_
  refine G.seq ?_
  refine G.region (l := [0]) rfl ?_
  refine G.assign rfl rfl rfl rfl ?_
  refine G.regionEnd ?_
  refine G.seq ?_
  refine G.seq ?_
  refine G.region (l := [0, 1, 2, 3, 4, 5]) rfl ?_
  refine G.move rfl rfl rfl rfl ?_
  refine G.nilCheck rfl rfl rfl rfl ?_
  refine G.field (off' := 0) rfl rfl rfl rfl Try.underlying60 rfl sz58 rfl rfl ?_
  refine G.loadH (B := A0) (m := a0.l.length) (c := n0) rfl rfl rfl rfl ty58r (fun w hs => Rd.bk (R_reads_History.L_l _) hs (j := 0) rfl) ?_
  refine G.len (m := a0.l.length) rfl rfl rfl rfl Try.underlying58 ?_
  refine G.assign rfl rfl rfl rfl ?_
  refine G.regionEnd ?_
  refine G.seq ?_
  refine G.region (l := [0, 1, 2, 3, 4, 5, 6, 7, 8, 9, 10, 11, 12, 13, 14, 15, 16, 17, 18, 19]) rfl ?_
  refine G.move rfl rfl rfl rfl ?_
  refine G.cmp (0 < (a0.l.length : Int)) rfl rfl rfl rfl rfl rfl Iff.rfl ?_
  refine G.move rfl rfl rfl rfl ?_
  refine G.splitP (d := 16) rfl (fun k445 => ?_) (fun k445 => ?_)
  · replace h := ifT h k445
    refine G.move rfl rfl rfl rfl ?_
    refine G.nilCheck rfl rfl rfl rfl ?_
    refine G.field (off' := 0) rfl rfl rfl rfl Try.underlying60 rfl sz58 rfl rfl ?_
    refine G.loadH (B := A0) (m := a0.l.length) (c := n0) rfl rfl rfl rfl ty58r (fun w hs => Rd.bk (R_reads_History.L_l _) hs (j := 0) rfl) ?_
    refine G.move rfl rfl rfl rfl ?_
    refine G.bin (m := (a0.l.length : Int)) (n := 1) (r := wi64 ((a0.l.length : Int) - 1)) rfl rfl rfl rfl rfl rfl rfl ?_
    obtain ⟨k7, h⟩ := guardS h
    have q6 : (wi64 ((a0.l.length : Int) - 1)).toNat < a0.l.length := by omega
    refine G.indexO (xs := a0.l) (j := wi64 ((a0.l.length : Int) - 1)) (off := (wi64 ((a0.l.length : Int) - 1)).toNat * 2) rfl rfl rfl rfl rfl el58 (r := 1) rfl (by simp) k7 rfl ?_
    refine G.fieldO (off' := (wi64 ((a0.l.length : Int) - 1)).toNat * 2) rfl rfl rfl rfl Try.underlying63 rfl sz30 rfl rfl ?_
    refine G.loadI (y := (a0.l.getD ((wi64 ((a0.l.length : Int) - 1)).toNat) (S_reads_was.mk 0 [])).version) rfl rfl rfl rfl ty30 (fun w hs => Rd.osG q6 (S_reads_was.L_version _) hs (j := 1) rfl (o := (wi64 ((a0.l.length : Int) - 1)).toNat * 2) (by first | rfl | simp)) ?_
    refine G.move rfl rfl rfl rfl ?_
    refine G.cmp (a1 ≤ ((a0.l.getD ((wi64 ((a0.l.length : Int) - 1)).toNat) (S_reads_was.mk 0 [])).version)) rfl rfl rfl rfl rfl rfl Iff.rfl ?_
    refine G.pickT rfl rfl rfl rfl rfl ?_
    refine G.move rfl rfl rfl rfl ?_
    refine G.rest (l1 := [16, 17, 18, 19]) (l2 := []) (fun GG K => ∀ (b117 : Bool), reads_History_Add.j0 a0 a1 a2 b117 = some r → GG H [(0, .pointer (some ⟨g0, 0, none⟩)), (1, .int .u64 a1), (2, .slice A2 a2.length n2), (33, .bool b117)] (OS 63 K_S_reads_was A0 n0 a0.l :: BK 60 K_R_reads_History g0 (R_reads_History.mk (A0, a0.l.length, n0)) :: OS 24 K_S_api_Touch A2 n2 a2 :: Fr) K) ?_ ?_
    · intro b117 h
      unfold reads_History_Add.j0 at h
      refine G.regionEnd ?_
      refine G.cond rfl (fun k143 => ?_) (fun k143 => ?_)
      · replace h := ifT h k143
        refine G.seq ?_
        refine G.region (l := [0]) rfl ?_
        refine G.assign rfl rfl rfl rfl ?_
        refine G.regionEnd ?_
        refine G.frontAt 2 rfl ?_
        refine G.frontAt 2 rfl ?_
        obtain rfl := Option.some.inj h
        exact G.ret1 Try.func15 rfl rfl (fun w hs => ⟨_, _, _, rfl, (PH.le_refl _), ⟨A0, n0, rfl, rfl⟩, hs⟩)
      · replace h := ifFB h k143
        refine G.skip ?_
        refine G.seq ?_
        obtain ⟨t118, e119, h⟩ := bindS h
        obtain ⟨k133, h⟩ := guardS h
        refine G.draw [[], [], [1], [2], [3], [], [], [6], [5, 7], [8], [4, 9, 7], [0, 0, 1, 2, 3, 4, 5, 6, 7, 8, 9, 10], [11, 0, 1, 2, 3, 4, 5, 6, 7, 8, 9, 10], [12, 10, 10, 0, 1, 2, 3, 4, 5, 6, 7, 8, 9, 10]] 14 [0, 1, 2, 3, 4, 5, 6, 7, 8, 9, 10, 11, 12, 13] [0, 0, 1, 2, 3, 0, 0, 1, 2, 3, 4, 5, 6, 7] [0, 0, 1, 2, 3, 0, 0, 1, 2, 3, 4, 5, 6, 7] rfl (by kernel_rfl) (by kernel_rfl) (by kernel_rfl) (by kernel_rfl) ?_
        intro C134 ops135 k136
        let R137 : Reg := reads_History_Add_s2.reg15_5 [(0, .pointer (some ⟨g0, 0, none⟩)), (1, .int .u64 a1), (2, .slice A2 a2.length n2)]
        have P142 : ∀ (B122 : Option Addr) (c123 : Nat) (H125 : PH) (l126 : PH.le H H125) (B128 : Option Addr) (B130 : Option Addr) (c131 : Nat) (m : Nat) (L : List Bool) (A : List (Nat × Value)) (l : List Nat), L.length = R137.ds.length → R137.Phi [some (.pointer (some ⟨g0, 0, none⟩)), some (.pointer (some ⟨g0, 0, none⟩)), some (.pointer (some ⟨g0, 0, none⟩)), some (.pointer (some ⟨g0, 0, none⟩)), some (.slice A0 a0.l.length n0), some (.int .u64 a1), some (.slice A2 a2.length n2), some (.slice B122 t118.length c123), some (.agg (([.int .u64 a1] : List Value) ++ (([.slice B122 t118.length c123] : List Value))).toArray), some (.slice B128 (([(S_reads_was.mk a1 t118)] : List S_reads_was).length) 1), some (.slice B130 ((a0.l ++ ([(S_reads_was.mk a1 t118)] : List S_reads_was)).length) c131), some (.pointer (some ⟨g0, 0, none⟩)), some (.pointer (some ⟨g0, 0, none⟩)), none] [0, 1, 2, 3, 4, 5, 6, 7, 8, 9, 10, 11, 12, 13] [] L A → left L = m → Ord R137.ds m L l → G C134 H125 A (BK 60 K_R_reads_History g0 (R_reads_History.mk (B130, (a0.l ++ ([(S_reads_was.mk a1 t118)] : List S_reads_was)).length, c131)) :: OS 63 K_S_reads_was B130 c131 (a0.l ++ ([(S_reads_was.mk a1 t118)] : List S_reads_was)) :: OS 24 K_S_api_Touch A2 n2 a2 :: Fr) (.inRegion ops135 l :: k136) := by
          intro B122 c123 H125 l126 B128 B130 c131
          refine G.phase R137 [some (.pointer (some ⟨g0, 0, none⟩)), some (.pointer (some ⟨g0, 0, none⟩)), some (.pointer (some ⟨g0, 0, none⟩)), some (.pointer (some ⟨g0, 0, none⟩)), some (.slice A0 a0.l.length n0), some (.int .u64 a1), some (.slice A2 a2.length n2), some (.slice B122 t118.length c123), some (.agg (([.int .u64 a1] : List Value) ++ (([.slice B122 t118.length c123] : List Value))).toArray), some (.slice B128 (([(S_reads_was.mk a1 t118)] : List S_reads_was).length) 1), some (.slice B130 ((a0.l ++ ([(S_reads_was.mk a1 t118)] : List S_reads_was)).length) c131), some (.pointer (some ⟨g0, 0, none⟩)), some (.pointer (some ⟨g0, 0, none⟩)), none] [] [] [0, 1, 2, 3, 4, 5, 6, 7, 8, 9, 10, 11, 12, 13] [] (reads_History_Add_s2.reg15_5_ap _) rfl rfl trivial trivial ?_
          · intro A L hlen hp h0
            refine G.lessSub (B := []) (hp.fin hlen h0 (src := []) rfl) ?_
            refine G.regionEnd ?_
            refine G.seq ?_
            refine G.region (l := [0]) rfl ?_
            refine G.assign rfl rfl rfl rfl ?_
            refine G.regionEnd ?_
            refine G.frontAt 1 rfl ?_
            refine G.frontAt 2 rfl ?_
            refine G.frontAt 2 rfl ?_
            obtain rfl := Option.some.inj h
            exact G.ret1 Try.func15 rfl rfl (fun w hs => ⟨_, _, _, rfl, l126, ⟨B130, c131, rfl, rfl⟩, hs⟩)
        have P141 : ∀ (B122 : Option Addr) (c123 : Nat) (H125 : PH) (l126 : PH.le H H125) (B128 : Option Addr) (B130 : Option Addr) (c131 : Nat) (m : Nat) (L : List Bool) (A : List (Nat × Value)) (l : List Nat), L.length = R137.ds.length → R137.Phi [some (.pointer (some ⟨g0, 0, none⟩)), some (.pointer (some ⟨g0, 0, none⟩)), some (.pointer (some ⟨g0, 0, none⟩)), some (.pointer (some ⟨g0, 0, none⟩)), some (.slice A0 a0.l.length n0), some (.int .u64 a1), some (.slice A2 a2.length n2), some (.slice B122 t118.length c123), some (.agg (([.int .u64 a1] : List Value) ++ (([.slice B122 t118.length c123] : List Value))).toArray), some (.slice B128 (([(S_reads_was.mk a1 t118)] : List S_reads_was).length) 1), some (.slice B130 ((a0.l ++ ([(S_reads_was.mk a1 t118)] : List S_reads_was)).length) c131), some (.pointer (some ⟨g0, 0, none⟩)), some (.pointer (some ⟨g0, 0, none⟩)), none] [1, 2, 3, 4, 5, 6, 7, 8, 9, 10] [13] L A → left L = m → Ord R137.ds m L l → G C134 H125 A (OS 63 K_S_reads_was B130 c131 (a0.l ++ ([(S_reads_was.mk a1 t118)] : List S_reads_was)) :: BK 60 K_R_reads_History g0 (R_reads_History.mk (A0, a0.l.length, n0)) :: OS 24 K_S_api_Touch A2 n2 a2 :: Fr) (.inRegion ops135 l :: k136) := by
          intro B122 c123 H125 l126 B128 B130 c131
          refine G.phase R137 [some (.pointer (some ⟨g0, 0, none⟩)), some (.pointer (some ⟨g0, 0, none⟩)), some (.pointer (some ⟨g0, 0, none⟩)), some (.pointer (some ⟨g0, 0, none⟩)), some (.slice A0 a0.l.length n0), some (.int .u64 a1), some (.slice A2 a2.length n2), some (.slice B122 t118.length c123), some (.agg (([.int .u64 a1] : List Value) ++ (([.slice B122 t118.length c123] : List Value))).toArray), some (.slice B128 (([(S_reads_was.mk a1 t118)] : List S_reads_was).length) 1), some (.slice B130 ((a0.l ++ ([(S_reads_was.mk a1 t118)] : List S_reads_was)).length) c131), some (.pointer (some ⟨g0, 0, none⟩)), some (.pointer (some ⟨g0, 0, none⟩)), none] [0, 11, 12] [13] [1, 2, 3, 4, 5, 6, 7, 8, 9, 10] [13] (reads_History_Add_s2.reg15_5_ap _) rfl rfl ⟨⟨[.base 0], 34, .pointer (some ⟨g0, 0, none⟩), [(0, .pointer (some ⟨g0, 0, none⟩))], ⟨rfl, rfl, rfl, rfl, ?_⟩⟩, ⟨⟨[.op 0], 45, .pointer (some ⟨g0, 0, none⟩), [(34, .pointer (some ⟨g0, 0, none⟩))], ⟨rfl, rfl, rfl, rfl, ?_⟩⟩, ⟨⟨[.op 11], 46, .pointer (some ⟨g0, 0, none⟩), [(45, .pointer (some ⟨g0, 0, none⟩))], ⟨rfl, rfl, rfl, rfl, ?_⟩⟩, trivial⟩⟩⟩ ⟨⟨[.op 10, .op 12], [(44, .slice B130 ((a0.l ++ ([(S_reads_was.mk a1 t118)] : List S_reads_was)).length) c131), (46, .pointer (some ⟨g0, 0, none⟩))], ⟨rfl, rfl, ?_⟩⟩, trivial⟩ ?_
          · intro X rest g
            refine G.move rfl rfl rfl rfl ?_
            exact g
          · intro X rest g
            refine G.nilCheck rfl rfl rfl rfl ?_
            exact g
          · intro X rest g
            refine G.field (off' := 0) rfl rfl rfl rfl Try.underlying60 rfl sz58 rfl rfl ?_
            exact g
          · intro X rest L m hlen hp hil hd hs hm ho
            refine G.frontAt 1 rfl ?_
            refine G.store (df := Kd.hdr) (y := (B130, (a0.l ++ ([(S_reads_was.mk a1 t118)] : List S_reads_was)).length, c131)) (x1 := (R_reads_History.mk (B130, (a0.l ++ ([(S_reads_was.mk a1 t118)] : List S_reads_was)).length, c131))) rfl rfl rfl rfl (R_reads_History.L_l _) ⟨([.slice B130 ((a0.l ++ ([(S_reads_was.mk a1 t118)] : List S_reads_was)).length) c131] : List Value), rfl, rfl⟩ sz58 rfl ?_
            refine G.frontAt 2 rfl ?_
            refine G.frontAt 2 rfl ?_
            refine G.frontAt 2 rfl ?_
            exact P142 B122 c123 H125 l126 B128 B130 c131 m _ _ rest (by rw [List.length_set]; exact hlen) (hp.stepN2 2 (reads_History_Add_s2.reg15_5_ap _) hil hd hs (by repeat (first | exact trivial | refine And.intro rfl ?_)) rfl rfl rfl) hm ho
          · intro A L hlen hp h0
            exact (hp.notYet hlen h0 13 rfl rfl).elim
        have P140 : ∀ (B122 : Option Addr) (c123 : Nat) (H125 : PH) (l126 : PH.le H H125) (B128 : Option Addr) (m : Nat) (L : List Bool) (A : List (Nat × Value)) (l : List Nat), L.length = R137.ds.length → R137.Phi [some (.pointer (some ⟨g0, 0, none⟩)), some (.pointer (some ⟨g0, 0, none⟩)), some (.pointer (some ⟨g0, 0, none⟩)), some (.pointer (some ⟨g0, 0, none⟩)), some (.slice A0 a0.l.length n0), some (.int .u64 a1), some (.slice A2 a2.length n2), some (.slice B122 t118.length c123), some (.agg (([.int .u64 a1] : List Value) ++ (([.slice B122 t118.length c123] : List Value))).toArray), some (.slice B128 (([(S_reads_was.mk a1 t118)] : List S_reads_was).length) 1), none, none, none, none] [5, 6, 7, 8, 9] [10, 11, 12, 13] L A → left L = m → Ord R137.ds m L l → G C134 H125 A (OS 63 K_S_reads_was B128 1 ([(S_reads_was.mk a1 t118)] : List S_reads_was) :: OS 63 K_S_reads_was A0 n0 a0.l :: BK 60 K_R_reads_History g0 (R_reads_History.mk (A0, a0.l.length, n0)) :: OS 24 K_S_api_Touch A2 n2 a2 :: Fr) (.inRegion ops135 l :: k136) := by
          intro B122 c123 H125 l126 B128
          refine G.phase R137 [some (.pointer (some ⟨g0, 0, none⟩)), some (.pointer (some ⟨g0, 0, none⟩)), some (.pointer (some ⟨g0, 0, none⟩)), some (.pointer (some ⟨g0, 0, none⟩)), some (.slice A0 a0.l.length n0), some (.int .u64 a1), some (.slice A2 a2.length n2), some (.slice B122 t118.length c123), some (.agg (([.int .u64 a1] : List Value) ++ (([.slice B122 t118.length c123] : List Value))).toArray), some (.slice B128 (([(S_reads_was.mk a1 t118)] : List S_reads_was).length) 1), none, none, none, none] [0, 1, 2, 3, 4] [10] [5, 6, 7, 8, 9] [10, 11, 12, 13] (reads_History_Add_s2.reg15_5_ap _) rfl rfl ⟨⟨[.base 0], 34, .pointer (some ⟨g0, 0, none⟩), [(0, .pointer (some ⟨g0, 0, none⟩))], ⟨rfl, rfl, rfl, rfl, ?_⟩⟩, ⟨⟨[.base 0], 35, .pointer (some ⟨g0, 0, none⟩), [(0, .pointer (some ⟨g0, 0, none⟩))], ⟨rfl, rfl, rfl, rfl, ?_⟩⟩, ⟨⟨[.op 1], 36, .pointer (some ⟨g0, 0, none⟩), [(35, .pointer (some ⟨g0, 0, none⟩))], ⟨rfl, rfl, rfl, rfl, ?_⟩⟩, ⟨⟨[.op 2], 37, .pointer (some ⟨g0, 0, none⟩), [(36, .pointer (some ⟨g0, 0, none⟩))], ⟨rfl, rfl, rfl, rfl, ?_⟩⟩, ⟨⟨[.op 3], 38, .slice A0 a0.l.length n0, [(37, .pointer (some ⟨g0, 0, none⟩))], ⟨rfl, rfl, rfl, rfl, ?_⟩⟩, trivial⟩⟩⟩⟩⟩ ⟨⟨[.op 4, .op 9], [(38, .slice A0 a0.l.length n0), (43, .slice B128 (([(S_reads_was.mk a1 t118)] : List S_reads_was).length) 1)], ⟨rfl, rfl, ?_⟩⟩, trivial⟩ ?_
          · intro X rest g
            refine G.move rfl rfl rfl rfl ?_
            exact g
          · intro X rest g
            refine G.move rfl rfl rfl rfl ?_
            exact g
          · intro X rest g
            refine G.nilCheck rfl rfl rfl rfl ?_
            exact g
          · intro X rest g
            refine G.field (off' := 0) rfl rfl rfl rfl Try.underlying60 rfl sz58 rfl rfl ?_
            exact g
          · intro X rest g
            refine G.loadH (B := A0) (m := a0.l.length) (c := n0) rfl rfl rfl rfl ty58r (fun w hs => Rd.bk (R_reads_History.L_l _) hs (j := 2) rfl) ?_
            exact g
          · intro X rest L m hlen hp hil hd hs hm ho
            refine G.frontAt 1 rfl ?_
            refine G.append (df := K_S_reads_was) (xs := a0.l) (ys := ([(S_reads_was.mk a1 t118)] : List S_reads_was)) (z0 := (S_reads_was.mk 0 [])) (z := .agg (([.int .u64 0] : List Value) ++ (([.slice none 0 0] : List Value))).toArray) (cz := ([.int .u64 0] : List Value) ++ (([.slice none 0 0] : List Value))) rfl rfl rfl rfl (by simp) rfl el58 Try.underlying58 rfl (by kernel_rfl) rfl (K_S_reads_was.mk rfl ⟨none, 0, rfl, SlR.nil _ _⟩) (fun w hs => SrcR.os hs (j := 1) rfl) ⟨by omega, by omega⟩ ?_
            intro B130 c131
            refine G.frontAt 1 rfl ?_
            refine G.drop ?_
            refine G.frontAt 2 rfl ?_
            refine G.frontAt 2 rfl ?_
            refine G.frontAt 2 rfl ?_
            exact P141 B122 c123 H125 l126 B128 B130 c131 m _ _ rest (by rw [List.length_set]; exact hlen) (hp.stepS2 4 (reads_History_Add_s2.reg15_5_ap _) hil hd hs (by repeat (first | exact trivial | refine And.intro rfl ?_)) rfl rfl rfl rfl) hm ho
          · intro A L hlen hp h0
            exact (hp.notYet hlen h0 10 rfl rfl).elim
        have P139 : ∀ (B122 : Option Addr) (c123 : Nat) (m : Nat) (L : List Bool) (A : List (Nat × Value)) (l : List Nat), L.length = R137.ds.length → R137.Phi [some (.pointer (some ⟨g0, 0, none⟩)), some (.pointer (some ⟨g0, 0, none⟩)), some (.pointer (some ⟨g0, 0, none⟩)), some (.pointer (some ⟨g0, 0, none⟩)), some (.slice A0 a0.l.length n0), some (.int .u64 a1), some (.slice A2 a2.length n2), some (.slice B122 t118.length c123), some (.agg (([.int .u64 a1] : List Value) ++ (([.slice B122 t118.length c123] : List Value))).toArray), none, none, none, none, none] [6, 7] [9, 10, 11, 12, 13] L A → left L = m → Ord R137.ds m L l → G C134 H A (OS 24 K_S_api_Touch B122 c123 t118 :: OS 63 K_S_reads_was A0 n0 a0.l :: BK 60 K_R_reads_History g0 (R_reads_History.mk (A0, a0.l.length, n0)) :: OS 24 K_S_api_Touch A2 n2 a2 :: Fr) (.inRegion ops135 l :: k136) := by
          intro B122 c123
          refine G.phase R137 [some (.pointer (some ⟨g0, 0, none⟩)), some (.pointer (some ⟨g0, 0, none⟩)), some (.pointer (some ⟨g0, 0, none⟩)), some (.pointer (some ⟨g0, 0, none⟩)), some (.slice A0 a0.l.length n0), some (.int .u64 a1), some (.slice A2 a2.length n2), some (.slice B122 t118.length c123), some (.agg (([.int .u64 a1] : List Value) ++ (([.slice B122 t118.length c123] : List Value))).toArray), none, none, none, none, none] [0, 1, 2, 3, 4, 5, 8] [9] [6, 7] [9, 10, 11, 12, 13] (reads_History_Add_s2.reg15_5_ap _) rfl rfl ⟨⟨[.base 0], 34, .pointer (some ⟨g0, 0, none⟩), [(0, .pointer (some ⟨g0, 0, none⟩))], ⟨rfl, rfl, rfl, rfl, ?_⟩⟩, ⟨⟨[.base 0], 35, .pointer (some ⟨g0, 0, none⟩), [(0, .pointer (some ⟨g0, 0, none⟩))], ⟨rfl, rfl, rfl, rfl, ?_⟩⟩, ⟨⟨[.op 1], 36, .pointer (some ⟨g0, 0, none⟩), [(35, .pointer (some ⟨g0, 0, none⟩))], ⟨rfl, rfl, rfl, rfl, ?_⟩⟩, ⟨⟨[.op 2], 37, .pointer (some ⟨g0, 0, none⟩), [(36, .pointer (some ⟨g0, 0, none⟩))], ⟨rfl, rfl, rfl, rfl, ?_⟩⟩, ⟨⟨[.op 3], 38, .slice A0 a0.l.length n0, [(37, .pointer (some ⟨g0, 0, none⟩))], ⟨rfl, rfl, rfl, rfl, ?_⟩⟩, ⟨⟨[.base 1], 39, .int .u64 a1, [(1, .int .u64 a1)], ⟨rfl, rfl, rfl, rfl, ?_⟩⟩, ⟨⟨[.op 5, .op 7], 42, .agg (([.int .u64 a1] : List Value) ++ (([.slice B122 t118.length c123] : List Value))).toArray, [(39, .int .u64 a1), (41, .slice B122 t118.length c123)], ⟨rfl, rfl, rfl, rfl, ?_⟩⟩, trivial⟩⟩⟩⟩⟩⟩⟩ ⟨⟨[.op 8], [(42, .agg (([.int .u64 a1] : List Value) ++ (([.slice B122 t118.length c123] : List Value))).toArray)], ⟨rfl, rfl, ?_⟩⟩, trivial⟩ ?_
          · intro X rest g
            refine G.move rfl rfl rfl rfl ?_
            exact g
          · intro X rest g
            refine G.move rfl rfl rfl rfl ?_
            exact g
          · intro X rest g
            refine G.nilCheck rfl rfl rfl rfl ?_
            exact g
          · intro X rest g
            refine G.field (off' := 0) rfl rfl rfl rfl Try.underlying60 rfl sz58 rfl rfl ?_
            exact g
          · intro X rest g
            refine G.loadH (B := A0) (m := a0.l.length) (c := n0) rfl rfl rfl rfl ty58r (fun w hs => Rd.bk (R_reads_History.L_l _) hs (j := 2) rfl) ?_
            exact g
          · intro X rest g
            refine G.move rfl rfl rfl rfl ?_
            exact g
          · intro X rest g
            refine G.build (z := .agg (([.int .u64 0] : List Value) ++ (([.slice none 0 0] : List Value))).toArray) (pl := [(0, 1), (1, 1)]) (cs := ([.int .u64 a1] : List Value) ++ (([.slice B122 t118.length c123] : List Value))) rfl rfl rfl Try.underlying63 (by kernel_rfl) rfl (by kernel_rfl) (by kernel_rfl) rfl ?_
            exact g
          · intro X rest L m hlen hp hil hd hs hm ho
            refine G.freezeO ?_
            intro H125 l126 f127
            refine G.buildSliceV (df := K_S_reads_was) (xs := ([(S_reads_was.mk a1 t118)] : List S_reads_was)) (z0 := (S_reads_was.mk 0 [])) (vs := [.agg (([.int .u64 a1] : List Value) ++ (([.slice B122 t118.length c123] : List Value))).toArray]) rfl rfl rfl el58 (z := .agg (([.int .u64 0] : List Value) ++ (([.slice none 0 0] : List Value))).toArray) (cz := ([.int .u64 0] : List Value) ++ (([.slice none 0 0] : List Value))) (by kernel_rfl) rfl rfl rfl rfl rfl (K_S_reads_was.mk rfl ⟨none, 0, rfl, SlR.nil _ _⟩) ⟨(VR.A (cs := ([.int .u64 a1] : List Value) ++ (([.slice B122 t118.length c123] : List Value))) (K_S_reads_was.mk rfl ⟨_, _, rfl, f127⟩)), trivial⟩ ?_
            intro B128
            refine G.frontAt 3 rfl ?_
            refine G.frontAt 3 rfl ?_
            refine G.frontAt 3 rfl ?_
            refine G.frontAt 3 rfl ?_
            exact P140 B122 c123 H125 l126 B128 m _ _ rest (by rw [List.length_set]; exact hlen) (hp.stepS2 2 (reads_History_Add_s2.reg15_5_ap _) hil hd hs (by repeat (first | exact trivial | refine And.intro rfl ?_)) rfl rfl rfl rfl) hm ho
          · intro A L hlen hp h0
            exact (hp.notYet hlen h0 9 rfl rfl).elim
        have P138 : ∀ (m : Nat) (L : List Bool) (A : List (Nat × Value)) (l : List Nat), L.length = R137.ds.length → R137.Phi [some (.pointer (some ⟨g0, 0, none⟩)), some (.pointer (some ⟨g0, 0, none⟩)), some (.pointer (some ⟨g0, 0, none⟩)), some (.pointer (some ⟨g0, 0, none⟩)), some (.slice A0 a0.l.length n0), some (.int .u64 a1), some (.slice A2 a2.length n2), none, none, none, none, none, none, none] [] [7, 8, 9, 10, 11, 12, 13] L A → left L = m → Ord R137.ds m L l → G C134 H A (OS 63 K_S_reads_was A0 n0 a0.l :: BK 60 K_R_reads_History g0 (R_reads_History.mk (A0, a0.l.length, n0)) :: OS 24 K_S_api_Touch A2 n2 a2 :: Fr) (.inRegion ops135 l :: k136) := by
          refine G.phase R137 [some (.pointer (some ⟨g0, 0, none⟩)), some (.pointer (some ⟨g0, 0, none⟩)), some (.pointer (some ⟨g0, 0, none⟩)), some (.pointer (some ⟨g0, 0, none⟩)), some (.slice A0 a0.l.length n0), some (.int .u64 a1), some (.slice A2 a2.length n2), none, none, none, none, none, none, none] [0, 1, 2, 3, 4, 5, 6] [7] [] [7, 8, 9, 10, 11, 12, 13] (reads_History_Add_s2.reg15_5_ap _) rfl rfl ⟨⟨[.base 0], 34, .pointer (some ⟨g0, 0, none⟩), [(0, .pointer (some ⟨g0, 0, none⟩))], ⟨rfl, rfl, rfl, rfl, ?_⟩⟩, ⟨⟨[.base 0], 35, .pointer (some ⟨g0, 0, none⟩), [(0, .pointer (some ⟨g0, 0, none⟩))], ⟨rfl, rfl, rfl, rfl, ?_⟩⟩, ⟨⟨[.op 1], 36, .pointer (some ⟨g0, 0, none⟩), [(35, .pointer (some ⟨g0, 0, none⟩))], ⟨rfl, rfl, rfl, rfl, ?_⟩⟩, ⟨⟨[.op 2], 37, .pointer (some ⟨g0, 0, none⟩), [(36, .pointer (some ⟨g0, 0, none⟩))], ⟨rfl, rfl, rfl, rfl, ?_⟩⟩, ⟨⟨[.op 3], 38, .slice A0 a0.l.length n0, [(37, .pointer (some ⟨g0, 0, none⟩))], ⟨rfl, rfl, rfl, rfl, ?_⟩⟩, ⟨⟨[.base 1], 39, .int .u64 a1, [(1, .int .u64 a1)], ⟨rfl, rfl, rfl, rfl, ?_⟩⟩, ⟨⟨[.base 2], 40, .slice A2 a2.length n2, [(2, .slice A2 a2.length n2)], ⟨rfl, rfl, rfl, rfl, ?_⟩⟩, trivial⟩⟩⟩⟩⟩⟩⟩ ⟨⟨[.op 6], [(40, .slice A2 a2.length n2)], ⟨rfl, rfl, ?_⟩⟩, trivial⟩ ?_
          · intro X rest g
            refine G.move rfl rfl rfl rfl ?_
            exact g
          · intro X rest g
            refine G.move rfl rfl rfl rfl ?_
            exact g
          · intro X rest g
            refine G.nilCheck rfl rfl rfl rfl ?_
            exact g
          · intro X rest g
            refine G.field (off' := 0) rfl rfl rfl rfl Try.underlying60 rfl sz58 rfl rfl ?_
            exact g
          · intro X rest g
            refine G.loadH (B := A0) (m := a0.l.length) (c := n0) rfl rfl rfl rfl ty58r (fun w hs => Rd.bk (R_reads_History.L_l _) hs (j := 1) rfl) ?_
            exact g
          · intro X rest g
            refine G.move rfl rfl rfl rfl ?_
            exact g
          · intro X rest g
            refine G.move rfl rfl rfl rfl ?_
            exact g
          · intro X rest L m hlen hp hil hd hs hm ho
            refine G.callBO (m := 0) rfl rfl rfl rfl call31 rfl (fun H1 hle hsl => (slices_Clone_Lapi_Touch_api_Touch.ok a2 A2 n2 (hsl (j := 2) rfl) e119).ctr) (by rintro v H' L' ⟨_, _, rfl, rfl⟩; exact (Free.cons (Free.os flat_S_api_Touch) Free.nil)) ?_
            rintro v120 L121 ⟨_, ⟨B122, c123, rfl, rfl⟩⟩
            refine G.frontAt 3 rfl ?_
            refine G.frontAt 3 rfl ?_
            refine G.frontAt 3 rfl ?_
            refine G.frontAt 3 rfl ?_
            exact P139 B122 c123 m _ _ rest (by rw [List.length_set]; exact hlen) (hp.stepS2 1 (reads_History_Add_s2.reg15_5_ap _) hil hd hs (by repeat (first | exact trivial | refine And.intro rfl ?_)) rfl rfl rfl rfl) hm ho
          · intro A L hlen hp h0
            exact (hp.notYet hlen h0 7 rfl rfl).elim
        intro l hl
        exact P138 14 (List.replicate 14 false) _ l rfl (Reg.Phi.init 14 ⟨rfl, rfl, rfl, trivial⟩) (left_rep 14) hl
    intro J144
    refine G.rest (l1 := [16, 17, 18, 19]) (l2 := []) (fun GG K => ∀ (b145 : Bool), reads_History_Add.j1 a0 a1 a2 b145 = some r → GG H [(0, .pointer (some ⟨g0, 0, none⟩)), (1, .int .u64 a1), (2, .slice A2 a2.length n2), (33, .bool b145)] (OS 63 K_S_reads_was A0 n0 a0.l :: BK 60 K_R_reads_History g0 (R_reads_History.mk (A0, a0.l.length, n0)) :: OS 24 K_S_api_Touch A2 n2 a2 :: Fr) K) ?_ ?_
    · intro b145 h
      unfold reads_History_Add.j1 at h
      refine G.regionEnd ?_
      refine G.cond rfl (fun k171 => ?_) (fun k171 => ?_)
      · replace h := ifT h k171
        refine G.seq ?_
        refine G.region (l := [0]) rfl ?_
        refine G.assign rfl rfl rfl rfl ?_
        refine G.regionEnd ?_
        refine G.frontAt 2 rfl ?_
        refine G.frontAt 2 rfl ?_
        obtain rfl := Option.some.inj h
        exact G.ret1 Try.func15 rfl rfl (fun w hs => ⟨_, _, _, rfl, (PH.le_refl _), ⟨A0, n0, rfl, rfl⟩, hs⟩)
      · replace h := ifFB h k171
        refine G.skip ?_
        refine G.seq ?_
        obtain ⟨t146, e147, h⟩ := bindS h
        obtain ⟨k161, h⟩ := guardS h
        refine G.draw [[], [], [1], [2], [3], [], [], [6], [5, 7], [8], [4, 9, 7], [0, 0, 1, 2, 3, 4, 5, 6, 7, 8, 9, 10], [11, 0, 1, 2, 3, 4, 5, 6, 7, 8, 9, 10], [12, 10, 10, 0, 1, 2, 3, 4, 5, 6, 7, 8, 9, 10]] 14 [0, 1, 2, 3, 4, 5, 6, 7, 8, 9, 10, 11, 12, 13] [0, 0, 1, 2, 3, 0, 0, 1, 2, 3, 4, 5, 6, 7] [0, 0, 1, 2, 3, 0, 0, 1, 2, 3, 4, 5, 6, 7] rfl (by kernel_rfl) (by kernel_rfl) (by kernel_rfl) (by kernel_rfl) ?_
        intro C162 ops163 k164
        let R165 : Reg := reads_History_Add_s2.reg15_5 [(0, .pointer (some ⟨g0, 0, none⟩)), (1, .int .u64 a1), (2, .slice A2 a2.length n2)]
        have P170 : ∀ (B150 : Option Addr) (c151 : Nat) (H153 : PH) (l154 : PH.le H H153) (B156 : Option Addr) (B158 : Option Addr) (c159 : Nat) (m : Nat) (L : List Bool) (A : List (Nat × Value)) (l : List Nat), L.length = R165.ds.length → R165.Phi [some (.pointer (some ⟨g0, 0, none⟩)), some (.pointer (some ⟨g0, 0, none⟩)), some (.pointer (some ⟨g0, 0, none⟩)), some (.pointer (some ⟨g0, 0, none⟩)), some (.slice A0 a0.l.length n0), some (.int .u64 a1), some (.slice A2 a2.length n2), some (.slice B150 t146.length c151), some (.agg (([.int .u64 a1] : List Value) ++ (([.slice B150 t146.length c151] : List Value))).toArray), some (.slice B156 (([(S_reads_was.mk a1 t146)] : List S_reads_was).length) 1), some (.slice B158 ((a0.l ++ ([(S_reads_was.mk a1 t146)] : List S_reads_was)).length) c159), some (.pointer (some ⟨g0, 0, none⟩)), some (.pointer (some ⟨g0, 0, none⟩)), none] [0, 1, 2, 3, 4, 5, 6, 7, 8, 9, 10, 11, 12, 13] [] L A → left L = m → Ord R165.ds m L l → G C162 H153 A (BK 60 K_R_reads_History g0 (R_reads_History.mk (B158, (a0.l ++ ([(S_reads_was.mk a1 t146)] : List S_reads_was)).length, c159)) :: OS 63 K_S_reads_was B158 c159 (a0.l ++ ([(S_reads_was.mk a1 t146)] : List S_reads_was)) :: OS 24 K_S_api_Touch A2 n2 a2 :: Fr) (.inRegion ops163 l :: k164) := by
          intro B150 c151 H153 l154 B156 B158 c159
          refine G.phase R165 [some (.pointer (some ⟨g0, 0, none⟩)), some (.pointer (some ⟨g0, 0, none⟩)), some (.pointer (some ⟨g0, 0, none⟩)), some (.pointer (some ⟨g0, 0, none⟩)), some (.slice A0 a0.l.length n0), some (.int .u64 a1), some (.slice A2 a2.length n2), some (.slice B150 t146.length c151), some (.agg (([.int .u64 a1] : List Value) ++ (([.slice B150 t146.length c151] : List Value))).toArray), some (.slice B156 (([(S_reads_was.mk a1 t146)] : List S_reads_was).length) 1), some (.slice B158 ((a0.l ++ ([(S_reads_was.mk a1 t146)] : List S_reads_was)).length) c159), some (.pointer (some ⟨g0, 0, none⟩)), some (.pointer (some ⟨g0, 0, none⟩)), none] [] [] [0, 1, 2, 3, 4, 5, 6, 7, 8, 9, 10, 11, 12, 13] [] (reads_History_Add_s2.reg15_5_ap _) rfl rfl trivial trivial ?_
          · intro A L hlen hp h0
            refine G.lessSub (B := []) (hp.fin hlen h0 (src := []) rfl) ?_
            refine G.regionEnd ?_
            refine G.seq ?_
            refine G.region (l := [0]) rfl ?_
            refine G.assign rfl rfl rfl rfl ?_
            refine G.regionEnd ?_
            refine G.frontAt 1 rfl ?_
            refine G.frontAt 2 rfl ?_
            refine G.frontAt 2 rfl ?_
            obtain rfl := Option.some.inj h
            exact G.ret1 Try.func15 rfl rfl (fun w hs => ⟨_, _, _, rfl, l154, ⟨B158, c159, rfl, rfl⟩, hs⟩)
        have P169 : ∀ (B150 : Option Addr) (c151 : Nat) (H153 : PH) (l154 : PH.le H H153) (B156 : Option Addr) (B158 : Option Addr) (c159 : Nat) (m : Nat) (L : List Bool) (A : List (Nat × Value)) (l : List Nat), L.length = R165.ds.length → R165.Phi [some (.pointer (some ⟨g0, 0, none⟩)), some (.pointer (some ⟨g0, 0, none⟩)), some (.pointer (some ⟨g0, 0, none⟩)), some (.pointer (some ⟨g0, 0, none⟩)), some (.slice A0 a0.l.length n0), some (.int .u64 a1), some (.slice A2 a2.length n2), some (.slice B150 t146.length c151), some (.agg (([.int .u64 a1] : List Value) ++ (([.slice B150 t146.length c151] : List Value))).toArray), some (.slice B156 (([(S_reads_was.mk a1 t146)] : List S_reads_was).length) 1), some (.slice B158 ((a0.l ++ ([(S_reads_was.mk a1 t146)] : List S_reads_was)).length) c159), some (.pointer (some ⟨g0, 0, none⟩)), some (.pointer (some ⟨g0, 0, none⟩)), none] [1, 2, 3, 4, 5, 6, 7, 8, 9, 10] [13] L A → left L = m → Ord R165.ds m L l → G C162 H153 A (OS 63 K_S_reads_was B158 c159 (a0.l ++ ([(S_reads_was.mk a1 t146)] : List S_reads_was)) :: BK 60 K_R_reads_History g0 (R_reads_History.mk (A0, a0.l.length, n0)) :: OS 24 K_S_api_Touch A2 n2 a2 :: Fr) (.inRegion ops163 l :: k164) := by
          intro B150 c151 H153 l154 B156 B158 c159
          refine G.phase R165 [some (.pointer (some ⟨g0, 0, none⟩)), some (.pointer (some ⟨g0, 0, none⟩)), some (.pointer (some ⟨g0, 0, none⟩)), some (.pointer (some ⟨g0, 0, none⟩)), some (.slice A0 a0.l.length n0), some (.int .u64 a1), some (.slice A2 a2.length n2), some (.slice B150 t146.length c151), some (.agg (([.int .u64 a1] : List Value) ++ (([.slice B150 t146.length c151] : List Value))).toArray), some (.slice B156 (([(S_reads_was.mk a1 t146)] : List S_reads_was).length) 1), some (.slice B158 ((a0.l ++ ([(S_reads_was.mk a1 t146)] : List S_reads_was)).length) c159), some (.pointer (some ⟨g0, 0, none⟩)), some (.pointer (some ⟨g0, 0, none⟩)), none] [0, 11, 12] [13] [1, 2, 3, 4, 5, 6, 7, 8, 9, 10] [13] (reads_History_Add_s2.reg15_5_ap _) rfl rfl ⟨⟨[.base 0], 34, .pointer (some ⟨g0, 0, none⟩), [(0, .pointer (some ⟨g0, 0, none⟩))], ⟨rfl, rfl, rfl, rfl, ?_⟩⟩, ⟨⟨[.op 0], 45, .pointer (some ⟨g0, 0, none⟩), [(34, .pointer (some ⟨g0, 0, none⟩))], ⟨rfl, rfl, rfl, rfl, ?_⟩⟩, ⟨⟨[.op 11], 46, .pointer (some ⟨g0, 0, none⟩), [(45, .pointer (some ⟨g0, 0, none⟩))], ⟨rfl, rfl, rfl, rfl, ?_⟩⟩, trivial⟩⟩⟩ ⟨⟨[.op 10, .op 12], [(44, .slice B158 ((a0.l ++ ([(S_reads_was.mk a1 t146)] : List S_reads_was)).length) c159), (46, .pointer (some ⟨g0, 0, none⟩))], ⟨rfl, rfl, ?_⟩⟩, trivial⟩ ?_
          · intro X rest g
            refine G.move rfl rfl rfl rfl ?_
            exact g
          · intro X rest g
            refine G.nilCheck rfl rfl rfl rfl ?_
            exact g
          · intro X rest g
            refine G.field (off' := 0) rfl rfl rfl rfl Try.underlying60 rfl sz58 rfl rfl ?_
            exact g
          · intro X rest L m hlen hp hil hd hs hm ho
            refine G.frontAt 1 rfl ?_
            refine G.store (df := Kd.hdr) (y := (B158, (a0.l ++ ([(S_reads_was.mk a1 t146)] : List S_reads_was)).length, c159)) (x1 := (R_reads_History.mk (B158, (a0.l ++ ([(S_reads_was.mk a1 t146)] : List S_reads_was)).length, c159))) rfl rfl rfl rfl (R_reads_History.L_l _) ⟨([.slice B158 ((a0.l ++ ([(S_reads_was.mk a1 t146)] : List S_reads_was)).length) c159] : List Value), rfl, rfl⟩ sz58 rfl ?_
            refine G.frontAt 2 rfl ?_
            refine G.frontAt 2 rfl ?_
            refine G.frontAt 2 rfl ?_
            exact P170 B150 c151 H153 l154 B156 B158 c159 m _ _ rest (by rw [List.length_set]; exact hlen) (hp.stepN2 2 (reads_History_Add_s2.reg15_5_ap _) hil hd hs (by repeat (first | exact trivial | refine And.intro rfl ?_)) rfl rfl rfl) hm ho
          · intro A L hlen hp h0
            exact (hp.notYet hlen h0 13 rfl rfl).elim
        have P168 : ∀ (B150 : Option Addr) (c151 : Nat) (H153 : PH) (l154 : PH.le H H153) (B156 : Option Addr) (m : Nat) (L : List Bool) (A : List (Nat × Value)) (l : List Nat), L.length = R165.ds.length → R165.Phi [some (.pointer (some ⟨g0, 0, none⟩)), some (.pointer (some ⟨g0, 0, none⟩)), some (.pointer (some ⟨g0, 0, none⟩)), some (.pointer (some ⟨g0, 0, none⟩)), some (.slice A0 a0.l.length n0), some (.int .u64 a1), some (.slice A2 a2.length n2), some (.slice B150 t146.length c151), some (.agg (([.int .u64 a1] : List Value) ++ (([.slice B150 t146.length c151] : List Value))).toArray), some (.slice B156 (([(S_reads_was.mk a1 t146)] : List S_reads_was).length) 1), none, none, none, none] [5, 6, 7, 8, 9] [10, 11, 12, 13] L A → left L = m → Ord R165.ds m L l → G C162 H153 A (OS 63 K_S_reads_was B156 1 ([(S_reads_was.mk a1 t146)] : List S_reads_was) :: OS 63 K_S_reads_was A0 n0 a0.l :: BK 60 K_R_reads_History g0 (R_reads_History.mk (A0, a0.l.length, n0)) :: OS 24 K_S_api_Touch A2 n2 a2 :: Fr) (.inRegion ops163 l :: k164) := by
          intro B150 c151 H153 l154 B156
          refine G.phase R165 [some (.pointer (some ⟨g0, 0, none⟩)), some (.pointer (some ⟨g0, 0, none⟩)), some (.pointer (some ⟨g0, 0, none⟩)), some (.pointer (some ⟨g0, 0, none⟩)), some (.slice A0 a0.l.length n0), some (.int .u64 a1), some (.slice A2 a2.length n2), some (.slice B150 t146.length c151), some (.agg (([.int .u64 a1] : List Value) ++ (([.slice B150 t146.length c151] : List Value))).toArray), some (.slice B156 (([(S_reads_was.mk a1 t146)] : List S_reads_was).length) 1), none, none, none, none] [0, 1, 2, 3, 4] [10] [5, 6, 7, 8, 9] [10, 11, 12, 13] (reads_History_Add_s2.reg15_5_ap _) rfl rfl ⟨⟨[.base 0], 34, .pointer (some ⟨g0, 0, none⟩), [(0, .pointer (some ⟨g0, 0, none⟩))], ⟨rfl, rfl, rfl, rfl, ?_⟩⟩, ⟨⟨[.base 0], 35, .pointer (some ⟨g0, 0, none⟩), [(0, .pointer (some ⟨g0, 0, none⟩))], ⟨rfl, rfl, rfl, rfl, ?_⟩⟩, ⟨⟨[.op 1], 36, .pointer (some ⟨g0, 0, none⟩), [(35, .pointer (some ⟨g0, 0, none⟩))], ⟨rfl, rfl, rfl, rfl, ?_⟩⟩, ⟨⟨[.op 2], 37, .pointer (some ⟨g0, 0, none⟩), [(36, .pointer (some ⟨g0, 0, none⟩))], ⟨rfl, rfl, rfl, rfl, ?_⟩⟩, ⟨⟨[.op 3], 38, .slice A0 a0.l.length n0, [(37, .pointer (some ⟨g0, 0, none⟩))], ⟨rfl, rfl, rfl, rfl, ?_⟩⟩, trivial⟩⟩⟩⟩⟩ ⟨⟨[.op 4, .op 9], [(38, .slice A0 a0.l.length n0), (43, .slice B156 (([(S_reads_was.mk a1 t146)] : List S_reads_was).length) 1)], ⟨rfl, rfl, ?_⟩⟩, trivial⟩ ?_
          · intro X rest g
            refine G.move rfl rfl rfl rfl ?_
            exact g
          · intro X rest g
            refine G.move rfl rfl rfl rfl ?_
            exact g
          · intro X rest g
            refine G.nilCheck rfl rfl rfl rfl ?_
            exact g
          · intro X rest g
            refine G.field (off' := 0) rfl rfl rfl rfl Try.underlying60 rfl sz58 rfl rfl ?_
            exact g
          · intro X rest g
            refine G.loadH (B := A0) (m := a0.l.length) (c := n0) rfl rfl rfl rfl ty58r (fun w hs => Rd.bk (R_reads_History.L_l _) hs (j := 2) rfl) ?_
            exact g
          · intro X rest L m hlen hp hil hd hs hm ho
            refine G.frontAt 1 rfl ?_
            refine G.append (df := K_S_reads_was) (xs := a0.l) (ys := ([(S_reads_was.mk a1 t146)] : List S_reads_was)) (z0 := (S_reads_was.mk 0 [])) (z := .agg (([.int .u64 0] : List Value) ++ (([.slice none 0 0] : List Value))).toArray) (cz := ([.int .u64 0] : List Value) ++ (([.slice none 0 0] : List Value))) rfl rfl rfl rfl (by simp) rfl el58 Try.underlying58 rfl (by kernel_rfl) rfl (K_S_reads_was.mk rfl ⟨none, 0, rfl, SlR.nil _ _⟩) (fun w hs => SrcR.os hs (j := 1) rfl) ⟨by omega, by omega⟩ ?_
            intro B158 c159
            refine G.frontAt 1 rfl ?_
            refine G.drop ?_
            refine G.frontAt 2 rfl ?_
            refine G.frontAt 2 rfl ?_
            refine G.frontAt 2 rfl ?_
            exact P169 B150 c151 H153 l154 B156 B158 c159 m _ _ rest (by rw [List.length_set]; exact hlen) (hp.stepS2 4 (reads_History_Add_s2.reg15_5_ap _) hil hd hs (by repeat (first | exact trivial | refine And.intro rfl ?_)) rfl rfl rfl rfl) hm ho
          · intro A L hlen hp h0
            exact (hp.notYet hlen h0 10 rfl rfl).elim
        have P167 : ∀ (B150 : Option Addr) (c151 : Nat) (m : Nat) (L : List Bool) (A : List (Nat × Value)) (l : List Nat), L.length = R165.ds.length → R165.Phi [some (.pointer (some ⟨g0, 0, none⟩)), some (.pointer (some ⟨g0, 0, none⟩)), some (.pointer (some ⟨g0, 0, none⟩)), some (.pointer (some ⟨g0, 0, none⟩)), some (.slice A0 a0.l.length n0), some (.int .u64 a1), some (.slice A2 a2.length n2), some (.slice B150 t146.length c151), some (.agg (([.int .u64 a1] : List Value) ++ (([.slice B150 t146.length c151] : List Value))).toArray), none, none, none, none, none] [6, 7] [9, 10, 11, 12, 13] L A → left L = m → Ord R165.ds m L l → G C162 H A (OS 24 K_S_api_Touch B150 c151 t146 :: OS 63 K_S_reads_was A0 n0 a0.l :: BK 60 K_R_reads_History g0 (R_reads_History.mk (A0, a0.l.length, n0)) :: OS 24 K_S_api_Touch A2 n2 a2 :: Fr) (.inRegion ops163 l :: k164) := by
          intro B150 c151
          refine G.phase R165 [some (.pointer (some ⟨g0, 0, none⟩)), some (.pointer (some ⟨g0, 0, none⟩)), some (.pointer (some ⟨g0, 0, none⟩)), some (.pointer (some ⟨g0, 0, none⟩)), some (.slice A0 a0.l.length n0), some (.int .u64 a1), some (.slice A2 a2.length n2), some (.slice B150 t146.length c151), some (.agg (([.int .u64 a1] : List Value) ++ (([.slice B150 t146.length c151] : List Value))).toArray), none, none, none, none, none] [0, 1, 2, 3, 4, 5, 8] [9] [6, 7] [9, 10, 11, 12, 13] (reads_History_Add_s2.reg15_5_ap _) rfl rfl ⟨⟨[.base 0], 34, .pointer (some ⟨g0, 0, none⟩), [(0, .pointer (some ⟨g0, 0, none⟩))], ⟨rfl, rfl, rfl, rfl, ?_⟩⟩, ⟨⟨[.base 0], 35, .pointer (some ⟨g0, 0, none⟩), [(0, .pointer (some ⟨g0, 0, none⟩))], ⟨rfl, rfl, rfl, rfl, ?_⟩⟩, ⟨⟨[.op 1], 36, .pointer (some ⟨g0, 0, none⟩), [(35, .pointer (some ⟨g0, 0, none⟩))], ⟨rfl, rfl, rfl, rfl, ?_⟩⟩, ⟨⟨[.op 2], 37, .pointer (some ⟨g0, 0, none⟩), [(36, .pointer (some ⟨g0, 0, none⟩))], ⟨rfl, rfl, rfl, rfl, ?_⟩⟩, ⟨⟨[.op 3], 38, .slice A0 a0.l.length n0, [(37, .pointer (some ⟨g0, 0, none⟩))], ⟨rfl, rfl, rfl, rfl, ?_⟩⟩, ⟨⟨[.base 1], 39, .int .u64 a1, [(1, .int .u64 a1)], ⟨rfl, rfl, rfl, rfl, ?_⟩⟩, ⟨⟨[.op 5, .op 7], 42, .agg (([.int .u64 a1] : List Value) ++ (([.slice B150 t146.length c151] : List Value))).toArray, [(39, .int .u64 a1), (41, .slice B150 t146.length c151)], ⟨rfl, rfl, rfl, rfl, ?_⟩⟩, trivial⟩⟩⟩⟩⟩⟩⟩ ⟨⟨[.op 8], [(42, .agg (([.int .u64 a1] : List Value) ++ (([.slice B150 t146.length c151] : List Value))).toArray)], ⟨rfl, rfl, ?_⟩⟩, trivial⟩ ?_
          · intro X rest g
            refine G.move rfl rfl rfl rfl ?_
            exact g
          · intro X rest g
            refine G.move rfl rfl rfl rfl ?_
            exact g
          · intro X rest g
            refine G.nilCheck rfl rfl rfl rfl ?_
            exact g
          · intro X rest g
            refine G.field (off' := 0) rfl rfl rfl rfl Try.underlying60 rfl sz58 rfl rfl ?_
            exact g
          · intro X rest g
            refine G.loadH (B := A0) (m := a0.l.length) (c := n0) rfl rfl rfl rfl ty58r (fun w hs => Rd.bk (R_reads_History.L_l _) hs (j := 2) rfl) ?_
            exact g
          · intro X rest g
            refine G.move rfl rfl rfl rfl ?_
            exact g
          · intro X rest g
            refine G.build (z := .agg (([.int .u64 0] : List Value) ++ (([.slice none 0 0] : List Value))).toArray) (pl := [(0, 1), (1, 1)]) (cs := ([.int .u64 a1] : List Value) ++ (([.slice B150 t146.length c151] : List Value))) rfl rfl rfl Try.underlying63 (by kernel_rfl) rfl (by kernel_rfl) (by kernel_rfl) rfl ?_
            exact g
          · intro X rest L m hlen hp hil hd hs hm ho
            refine G.freezeO ?_
            intro H153 l154 f155
            refine G.buildSliceV (df := K_S_reads_was) (xs := ([(S_reads_was.mk a1 t146)] : List S_reads_was)) (z0 := (S_reads_was.mk 0 [])) (vs := [.agg (([.int .u64 a1] : List Value) ++ (([.slice B150 t146.length c151] : List Value))).toArray]) rfl rfl rfl el58 (z := .agg (([.int .u64 0] : List Value) ++ (([.slice none 0 0] : List Value))).toArray) (cz := ([.int .u64 0] : List Value) ++ (([.slice none 0 0] : List Value))) (by kernel_rfl) rfl rfl rfl rfl rfl (K_S_reads_was.mk rfl ⟨none, 0, rfl, SlR.nil _ _⟩) ⟨(VR.A (cs := ([.int .u64 a1] : List Value) ++ (([.slice B150 t146.length c151] : List Value))) (K_S_reads_was.mk rfl ⟨_, _, rfl, f155⟩)), trivial⟩ ?_
            intro B156
            refine G.frontAt 3 rfl ?_
            refine G.frontAt 3 rfl ?_
            refine G.frontAt 3 rfl ?_
            refine G.frontAt 3 rfl ?_
            exact P168 B150 c151 H153 l154 B156 m _ _ rest (by rw [List.length_set]; exact hlen) (hp.stepS2 2 (reads_History_Add_s2.reg15_5_ap _) hil hd hs (by repeat (first | exact trivial | refine And.intro rfl ?_)) rfl rfl rfl rfl) hm ho
          · intro A L hlen hp h0
            exact (hp.notYet hlen h0 9 rfl rfl).elim
        have P166 : ∀ (m : Nat) (L : List Bool) (A : List (Nat × Value)) (l : List Nat), L.length = R165.ds.length → R165.Phi [some (.pointer (some ⟨g0, 0, none⟩)), some (.pointer (some ⟨g0, 0, none⟩)), some (.pointer (some ⟨g0, 0, none⟩)), some (.pointer (some ⟨g0, 0, none⟩)), some (.slice A0 a0.l.length n0), some (.int .u64 a1), some (.slice A2 a2.length n2), none, none, none, none, none, none, none] [] [7, 8, 9, 10, 11, 12, 13] L A → left L = m → Ord R165.ds m L l → G C162 H A (OS 63 K_S_reads_was A0 n0 a0.l :: BK 60 K_R_reads_History g0 (R_reads_History.mk (A0, a0.l.length, n0)) :: OS 24 K_S_api_Touch A2 n2 a2 :: Fr) (.inRegion ops163 l :: k164) := by
          refine G.phase R165 [some (.pointer (some ⟨g0, 0, none⟩)), some (.pointer (some ⟨g0, 0, none⟩)), some (.pointer (some ⟨g0, 0, none⟩)), some (.pointer (some ⟨g0, 0, none⟩)), some (.slice A0 a0.l.length n0), some (.int .u64 a1), some (.slice A2 a2.length n2), none, none, none, none, none, none, none] [0, 1, 2, 3, 4, 5, 6] [7] [] [7, 8, 9, 10, 11, 12, 13] (reads_History_Add_s2.reg15_5_ap _) rfl rfl ⟨⟨[.base 0], 34, .pointer (some ⟨g0, 0, none⟩), [(0, .pointer (some ⟨g0, 0, none⟩))], ⟨rfl, rfl, rfl, rfl, ?_⟩⟩, ⟨⟨[.base 0], 35, .pointer (some ⟨g0, 0, none⟩), [(0, .pointer (some ⟨g0, 0, none⟩))], ⟨rfl, rfl, rfl, rfl, ?_⟩⟩, ⟨⟨[.op 1], 36, .pointer (some ⟨g0, 0, none⟩), [(35, .pointer (some ⟨g0, 0, none⟩))], ⟨rfl, rfl, rfl, rfl, ?_⟩⟩, ⟨⟨[.op 2], 37, .pointer (some ⟨g0, 0, none⟩), [(36, .pointer (some ⟨g0, 0, none⟩))], ⟨rfl, rfl, rfl, rfl, ?_⟩⟩, ⟨⟨[.op 3], 38, .slice A0 a0.l.length n0, [(37, .pointer (some ⟨g0, 0, none⟩))], ⟨rfl, rfl, rfl, rfl, ?_⟩⟩, ⟨⟨[.base 1], 39, .int .u64 a1, [(1, .int .u64 a1)], ⟨rfl, rfl, rfl, rfl, ?_⟩⟩, ⟨⟨[.base 2], 40, .slice A2 a2.length n2, [(2, .slice A2 a2.length n2)], ⟨rfl, rfl, rfl, rfl, ?_⟩⟩, trivial⟩⟩⟩⟩⟩⟩⟩ ⟨⟨[.op 6], [(40, .slice A2 a2.length n2)], ⟨rfl, rfl, ?_⟩⟩, trivial⟩ ?_
          · intro X rest g
            refine G.move rfl rfl rfl rfl ?_
            exact g
          · intro X rest g
            refine G.move rfl rfl rfl rfl ?_
            exact g
          · intro X rest g
            refine G.nilCheck rfl rfl rfl rfl ?_
            exact g
          · intro X rest g
            refine G.field (off' := 0) rfl rfl rfl rfl Try.underlying60 rfl sz58 rfl rfl ?_
            exact g
          · intro X rest g
            refine G.loadH (B := A0) (m := a0.l.length) (c := n0) rfl rfl rfl rfl ty58r (fun w hs => Rd.bk (R_reads_History.L_l _) hs (j := 1) rfl) ?_
            exact g
          · intro X rest g
            refine G.move rfl rfl rfl rfl ?_
            exact g
          · intro X rest g
            refine G.move rfl rfl rfl rfl ?_
            exact g
          · intro X rest L m hlen hp hil hd hs hm ho
            refine G.callBO (m := 0) rfl rfl rfl rfl call31 rfl (fun H1 hle hsl => (slices_Clone_Lapi_Touch_api_Touch.ok a2 A2 n2 (hsl (j := 2) rfl) e147).ctr) (by rintro v H' L' ⟨_, _, rfl, rfl⟩; exact (Free.cons (Free.os flat_S_api_Touch) Free.nil)) ?_
            rintro v148 L149 ⟨_, ⟨B150, c151, rfl, rfl⟩⟩
            refine G.frontAt 3 rfl ?_
            refine G.frontAt 3 rfl ?_
            refine G.frontAt 3 rfl ?_
            refine G.frontAt 3 rfl ?_
            exact P167 B150 c151 m _ _ rest (by rw [List.length_set]; exact hlen) (hp.stepS2 1 (reads_History_Add_s2.reg15_5_ap _) hil hd hs (by repeat (first | exact trivial | refine And.intro rfl ?_)) rfl rfl rfl rfl) hm ho
          · intro A L hlen hp h0
            exact (hp.notYet hlen h0 7 rfl rfl).elim
        intro l hl
        exact P166 14 (List.replicate 14 false) _ l rfl (Reg.Phi.init 14 ⟨rfl, rfl, rfl, trivial⟩) (left_rep 14) hl
    intro J172
    refine G.splitP (d := 29) rfl (fun k282 => ?_) (fun k282 => ?_)
    · replace h := ifT h k282
      refine G.unwanted rfl rfl rfl rfl ?_
      refine G.unwanted rfl rfl rfl rfl ?_
      refine G.unwanted rfl rfl rfl rfl ?_
      refine G.pickT rfl rfl rfl rfl rfl ?_
      refine G.frontAt 2 rfl ?_
      refine G.frontAt 1 rfl ?_
      refine G.frontAt 2 rfl ?_
      refine G.less ?_ (J144  true h)
      exact ⟨rfl, rfl, rfl, rfl, trivial⟩
    · replace h := ifF h k282
      refine G.move rfl rfl rfl rfl ?_
      refine G.move rfl rfl rfl rfl ?_
      refine G.inl (n' := 9) rfl rfl rfl rfl call30 Try.func30 rfl Try.ntmps30 rfl rfl ?_
      intro R173 rt174
      refine G.seq ?_
      refine G.region (l := [0]) rfl ?_
      refine G.assign rfl rfl rfl rfl ?_
      refine G.regionEnd ?_
      refine G.seq ?_
      refine G.region (l := [0, 1, 2, 3, 4]) rfl ?_
      refine G.move rfl rfl rfl rfl ?_
      refine G.move rfl rfl rfl rfl ?_
      refine G.inl (n' := 19) rfl rfl rfl rfl call39 Try.func39 rfl Try.ntmps39 rfl rfl ?_
      intro R229 rt230
      refine G.seq ?_
      refine G.region (l := [0]) rfl ?_
      refine G.assign rfl rfl rfl rfl ?_
      refine G.regionEnd ?_
      refine G.seq ?_
      refine G.seq ?_
      refine G.region (l := [0, 1, 2]) rfl ?_
      refine G.move rfl rfl rfl rfl ?_
      refine G.len (m := a2.length) rfl rfl rfl rfl Try.underlying31 ?_
      refine G.move rfl rfl rfl rfl ?_
      refine G.regionEnd ?_
      refine G.block ?_
      refine G.loop (fun GG K => ∀ (d269 : Nat) (x257 : Int), reads_History_Add.l0 a0 a1 a2 d269 x257 = some r → GG H [(0, .slice A2 a2.length n2), (1, .func (.func 29) #[] #[]), (7, .int .i64 (a2.length : Int)), (8, .int .i64 x257)] (OS 63 K_S_reads_was A0 n0 a0.l :: BK 60 K_R_reads_History g0 (R_reads_History.mk (A0, a0.l.length, n0)) :: OS 24 K_S_api_Touch A2 n2 a2 :: Fr) K) ?_ ?_
      · intro d269
        induction d269 with
        | zero => intro x257 h; rw [reads_History_Add.l0] at h; cases h
        | succ d269 ih268 =>
          intro x257 h
          rw [reads_History_Add.l0] at h
          refine G.seq ?_
          refine G.region (l := [0]) rfl ?_
          refine G.cmp (x257 < (a2.length : Int)) rfl rfl rfl rfl rfl rfl Iff.rfl ?_
          refine G.regionEnd ?_
          refine G.seq ?_
          refine G.condP rfl (fun k280 => ?_) (fun k280 => ?_)
          · replace h := ifT h k280
            refine G.skip ?_
            refine G.seq ?_
            refine G.block ?_
            refine G.seq ?_
            refine G.region (l := [0, 1]) rfl ?_
            refine G.move rfl rfl rfl rfl ?_
            refine G.assign rfl rfl rfl rfl ?_
            refine G.regionEnd ?_
            refine G.seq ?_
            refine G.region (l := [0, 1, 2, 3, 4, 5]) rfl ?_
            refine G.move rfl rfl rfl rfl ?_
            refine G.move rfl rfl rfl rfl ?_
            refine G.move rfl rfl rfl rfl ?_
            obtain ⟨k272, h⟩ := guardS h
            have q271 : x257.toNat < a2.length := by omega
            refine G.indexO (xs := a2) (j := x257) (off := x257.toNat * 5) rfl rfl rfl rfl rfl el31 (r := 2) rfl (by simp) k272 rfl ?_
            refine G.loadA (df := K_S_api_Touch) (y := a2.getD x257.toNat (S_api_Touch.mk 0 0 [] 0 0)) rfl rfl rfl rfl ty24 rfl (fun w hs => Rd.osG q271 (Lens.id _ _) hs (j := 2) rfl (o := x257.toNat * 5) (by first | rfl | simp)) ?_
            intro cs273 f274
            obtain rfl := K_S_api_Touch.open f274
            obtain ⟨t275, e276, h⟩ := bindS h
            refine G.callSV rfl rfl rfl rfl rfl rfl call29 (reads_History_Add_1.ok (a2.getD x257.toNat (S_api_Touch.mk 0 0 [] 0 0)) e276) ?_
            rintro v277 L278 ⟨rfl, rfl⟩
            refine G.regionEnd ?_
            refine G.cond rfl (fun k279 => ?_) (fun k279 => ?_)
            · replace h := ifT h k279
              refine G.seq ?_
              refine G.region (l := [0, 1]) rfl ?_
              refine G.move rfl rfl rfl rfl ?_
              refine G.assign rfl rfl rfl rfl ?_
              refine G.regionEnd ?_
              refine G.ret1 Try.func39 rfl rfl (rt230 _ _ _ ?_)
              refine G.cmp (0 ≤ x257) rfl rfl rfl rfl rfl rfl Iff.rfl ?_
              refine G.assign rfl rfl rfl rfl ?_
              refine G.regionEnd ?_
              refine G.ret1 Try.func30 rfl rfl (rt174 _ _ _ ?_)
              refine G.pickF rfl rfl rfl rfl rfl ?_
              refine G.frontAt 2 rfl ?_
              refine G.frontAt 2 rfl ?_
              refine G.frontAt 2 rfl ?_
              refine G.less ?_ (J172  (decide (0 ≤ x257)) h)
              exact ⟨rfl, rfl, rfl, rfl, trivial⟩
            · replace h := ifFB h k279
              refine G.skip ?_
              refine G.inBlock ?_
              refine G.region (l := [0, 1]) rfl ?_
              refine G.bin (m := x257) (n := 1) (r := wi64 (x257 + 1)) rfl rfl rfl rfl rfl rfl rfl ?_
              refine G.move rfl rfl rfl rfl ?_
              refine G.regionEnd ?_
              refine G.round ?_
              refine G.frontAt 2 rfl ?_
              refine G.frontAt 2 rfl ?_
              refine G.frontAt 2 rfl ?_
              refine G.less ?_ (ih268  (wi64 (x257 + 1)) h)
              exact ⟨rfl, rfl, rfl, rfl, trivial⟩
          · replace h := ifF h k280
            refine G.exit rfl ?_
            refine G.seq ?_
            refine G.region (l := [0]) rfl ?_
            refine G.assign rfl rfl rfl rfl ?_
            refine G.regionEnd ?_
            refine G.ret1 Try.func39 rfl rfl (rt230 _ _ _ ?_)
            refine G.cmp (False) rfl rfl rfl rfl rfl rfl (by simp [cmpP]) ?_
            refine G.assign rfl rfl rfl rfl ?_
            refine G.regionEnd ?_
            refine G.ret1 Try.func30 rfl rfl (rt174 _ _ _ ?_)
            refine G.pickF rfl rfl rfl rfl rfl ?_
            refine G.frontAt 2 rfl ?_
            refine G.frontAt 2 rfl ?_
            refine G.frontAt 2 rfl ?_
            refine G.less ?_ (J144  false h)
            exact ⟨rfl, rfl, rfl, rfl, trivial⟩
      intro J281
      refine G.frontAt 2 rfl ?_
      refine G.frontAt 1 rfl ?_
      refine G.frontAt 2 rfl ?_
      refine G.less ?_ (J281 FUEL  0 h)
      exact ⟨rfl, rfl, rfl, rfl, trivial⟩
  · replace h := ifF h k445
    refine G.unwanted rfl rfl rfl rfl ?_
    refine G.unwanted rfl rfl rfl rfl ?_
    refine G.unwanted rfl rfl rfl rfl ?_
    refine G.unwanted rfl rfl rfl rfl ?_
    refine G.unwanted rfl rfl rfl rfl ?_
    refine G.unwanted rfl rfl rfl rfl ?_
    refine G.unwanted rfl rfl rfl rfl ?_
    refine G.unwanted rfl rfl rfl rfl ?_
    refine G.unwanted rfl rfl rfl rfl ?_
    refine G.unwanted rfl rfl rfl rfl ?_
    refine G.unwanted rfl rfl rfl rfl ?_
    refine G.pickF rfl rfl rfl rfl rfl ?_
    refine G.move rfl rfl rfl rfl ?_
    refine G.move rfl rfl rfl rfl ?_
    refine G.move rfl rfl rfl rfl ?_
    refine G.rest (l1 := [18]) (l2 := [19]) (fun GG K => ∀ (b338 : Bool), reads_History_Add.j2 a0 a1 a2 b338 = some r → GG H [(0, .pointer (some ⟨g0, 0, none⟩)), (1, .int .u64 a1), (2, .slice A2 a2.length n2), (29, .bool false), (32, .bool b338)] (OS 63 K_S_reads_was A0 n0 a0.l :: BK 60 K_R_reads_History g0 (R_reads_History.mk (A0, a0.l.length, n0)) :: OS 24 K_S_api_Touch A2 n2 a2 :: Fr) K) ?_ ?_
    · intro b338 h
      unfold reads_History_Add.j2 at h
      refine G.pickF rfl rfl rfl rfl rfl ?_
      refine G.regionEnd ?_
      refine G.cond rfl (fun k364 => ?_) (fun k364 => ?_)
      · replace h := ifT h k364
        refine G.seq ?_
        refine G.region (l := [0]) rfl ?_
        refine G.assign rfl rfl rfl rfl ?_
        refine G.regionEnd ?_
        refine G.frontAt 2 rfl ?_
        refine G.frontAt 2 rfl ?_
        obtain rfl := Option.some.inj h
        exact G.ret1 Try.func15 rfl rfl (fun w hs => ⟨_, _, _, rfl, (PH.le_refl _), ⟨A0, n0, rfl, rfl⟩, hs⟩)
      · replace h := ifFB h k364
        refine G.skip ?_
        refine G.seq ?_
        obtain ⟨t339, e340, h⟩ := bindS h
        obtain ⟨k354, h⟩ := guardS h
        refine G.draw [[], [], [1], [2], [3], [], [], [6], [5, 7], [8], [4, 9, 7], [0, 0, 1, 2, 3, 4, 5, 6, 7, 8, 9, 10], [11, 0, 1, 2, 3, 4, 5, 6, 7, 8, 9, 10], [12, 10, 10, 0, 1, 2, 3, 4, 5, 6, 7, 8, 9, 10]] 14 [0, 1, 2, 3, 4, 5, 6, 7, 8, 9, 10, 11, 12, 13] [0, 0, 1, 2, 3, 0, 0, 1, 2, 3, 4, 5, 6, 7] [0, 0, 1, 2, 3, 0, 0, 1, 2, 3, 4, 5, 6, 7] rfl (by kernel_rfl) (by kernel_rfl) (by kernel_rfl) (by kernel_rfl) ?_
        intro C355 ops356 k357
        let R358 : Reg := reads_History_Add_s2.reg15_5 [(0, .pointer (some ⟨g0, 0, none⟩)), (1, .int .u64 a1), (2, .slice A2 a2.length n2)]
        have P363 : ∀ (B343 : Option Addr) (c344 : Nat) (H346 : PH) (l347 : PH.le H H346) (B349 : Option Addr) (B351 : Option Addr) (c352 : Nat) (m : Nat) (L : List Bool) (A : List (Nat × Value)) (l : List Nat), L.length = R358.ds.length → R358.Phi [some (.pointer (some ⟨g0, 0, none⟩)), some (.pointer (some ⟨g0, 0, none⟩)), some (.pointer (some ⟨g0, 0, none⟩)), some (.pointer (some ⟨g0, 0, none⟩)), some (.slice A0 a0.l.length n0), some (.int .u64 a1), some (.slice A2 a2.length n2), some (.slice B343 t339.length c344), some (.agg (([.int .u64 a1] : List Value) ++ (([.slice B343 t339.length c344] : List Value))).toArray), some (.slice B349 (([(S_reads_was.mk a1 t339)] : List S_reads_was).length) 1), some (.slice B351 ((a0.l ++ ([(S_reads_was.mk a1 t339)] : List S_reads_was)).length) c352), some (.pointer (some ⟨g0, 0, none⟩)), some (.pointer (some ⟨g0, 0, none⟩)), none] [0, 1, 2, 3, 4, 5, 6, 7, 8, 9, 10, 11, 12, 13] [] L A → left L = m → Ord R358.ds m L l → G C355 H346 A (BK 60 K_R_reads_History g0 (R_reads_History.mk (B351, (a0.l ++ ([(S_reads_was.mk a1 t339)] : List S_reads_was)).length, c352)) :: OS 63 K_S_reads_was B351 c352 (a0.l ++ ([(S_reads_was.mk a1 t339)] : List S_reads_was)) :: OS 24 K_S_api_Touch A2 n2 a2 :: Fr) (.inRegion ops356 l :: k357) := by
          intro B343 c344 H346 l347 B349 B351 c352
          refine G.phase R358 [some (.pointer (some ⟨g0, 0, none⟩)), some (.pointer (some ⟨g0, 0, none⟩)), some (.pointer (some ⟨g0, 0, none⟩)), some (.pointer (some ⟨g0, 0, none⟩)), some (.slice A0 a0.l.length n0), some (.int .u64 a1), some (.slice A2 a2.length n2), some (.slice B343 t339.length c344), some (.agg (([.int .u64 a1] : List Value) ++ (([.slice B343 t339.length c344] : List Value))).toArray), some (.slice B349 (([(S_reads_was.mk a1 t339)] : List S_reads_was).length) 1), some (.slice B351 ((a0.l ++ ([(S_reads_was.mk a1 t339)] : List S_reads_was)).length) c352), some (.pointer (some ⟨g0, 0, none⟩)), some (.pointer (some ⟨g0, 0, none⟩)), none] [] [] [0, 1, 2, 3, 4, 5, 6, 7, 8, 9, 10, 11, 12, 13] [] (reads_History_Add_s2.reg15_5_ap _) rfl rfl trivial trivial ?_
          · intro A L hlen hp h0
            refine G.lessSub (B := []) (hp.fin hlen h0 (src := []) rfl) ?_
            refine G.regionEnd ?_
            refine G.seq ?_
            refine G.region (l := [0]) rfl ?_
            refine G.assign rfl rfl rfl rfl ?_
            refine G.regionEnd ?_
            refine G.frontAt 1 rfl ?_
            refine G.frontAt 2 rfl ?_
            refine G.frontAt 2 rfl ?_
            obtain rfl := Option.some.inj h
            exact G.ret1 Try.func15 rfl rfl (fun w hs => ⟨_, _, _, rfl, l347, ⟨B351, c352, rfl, rfl⟩, hs⟩)
        have P362 : ∀ (B343 : Option Addr) (c344 : Nat) (H346 : PH) (l347 : PH.le H H346) (B349 : Option Addr) (B351 : Option Addr) (c352 : Nat) (m : Nat) (L : List Bool) (A : List (Nat × Value)) (l : List Nat), L.length = R358.ds.length → R358.Phi [some (.pointer (some ⟨g0, 0, none⟩)), some (.pointer (some ⟨g0, 0, none⟩)), some (.pointer (some ⟨g0, 0, none⟩)), some (.pointer (some ⟨g0, 0, none⟩)), some (.slice A0 a0.l.length n0), some (.int .u64 a1), some (.slice A2 a2.length n2), some (.slice B343 t339.length c344), some (.agg (([.int .u64 a1] : List Value) ++ (([.slice B343 t339.length c344] : List Value))).toArray), some (.slice B349 (([(S_reads_was.mk a1 t339)] : List S_reads_was).length) 1), some (.slice B351 ((a0.l ++ ([(S_reads_was.mk a1 t339)] : List S_reads_was)).length) c352), some (.pointer (some ⟨g0, 0, none⟩)), some (.pointer (some ⟨g0, 0, none⟩)), none] [1, 2, 3, 4, 5, 6, 7, 8, 9, 10] [13] L A → left L = m → Ord R358.ds m L l → G C355 H346 A (OS 63 K_S_reads_was B351 c352 (a0.l ++ ([(S_reads_was.mk a1 t339)] : List S_reads_was)) :: BK 60 K_R_reads_History g0 (R_reads_History.mk (A0, a0.l.length, n0)) :: OS 24 K_S_api_Touch A2 n2 a2 :: Fr) (.inRegion ops356 l :: k357) := by
          intro B343 c344 H346 l347 B349 B351 c352
          refine G.phase R358 [some (.pointer (some ⟨g0, 0, none⟩)), some (.pointer (some ⟨g0, 0, none⟩)), some (.pointer (some ⟨g0, 0, none⟩)), some (.pointer (some ⟨g0, 0, none⟩)), some (.slice A0 a0.l.length n0), some (.int .u64 a1), some (.slice A2 a2.length n2), some (.slice B343 t339.length c344), some (.agg (([.int .u64 a1] : List Value) ++ (([.slice B343 t339.length c344] : List Value))).toArray), some (.slice B349 (([(S_reads_was.mk a1 t339)] : List S_reads_was).length) 1), some (.slice B351 ((a0.l ++ ([(S_reads_was.mk a1 t339)] : List S_reads_was)).length) c352), some (.pointer (some ⟨g0, 0, none⟩)), some (.pointer (some ⟨g0, 0, none⟩)), none] [0, 11, 12] [13] [1, 2, 3, 4, 5, 6, 7, 8, 9, 10] [13] (reads_History_Add_s2.reg15_5_ap _) rfl rfl ⟨⟨[.base 0], 34, .pointer (some ⟨g0, 0, none⟩), [(0, .pointer (some ⟨g0, 0, none⟩))], ⟨rfl, rfl, rfl, rfl, ?_⟩⟩, ⟨⟨[.op 0], 45, .pointer (some ⟨g0, 0, none⟩), [(34, .pointer (some ⟨g0, 0, none⟩))], ⟨rfl, rfl, rfl, rfl, ?_⟩⟩, ⟨⟨[.op 11], 46, .pointer (some ⟨g0, 0, none⟩), [(45, .pointer (some ⟨g0, 0, none⟩))], ⟨rfl, rfl, rfl, rfl, ?_⟩⟩, trivial⟩⟩⟩ ⟨⟨[.op 10, .op 12], [(44, .slice B351 ((a0.l ++ ([(S_reads_was.mk a1 t339)] : List S_reads_was)).length) c352), (46, .pointer (some ⟨g0, 0, none⟩))], ⟨rfl, rfl, ?_⟩⟩, trivial⟩ ?_
          · intro X rest g
            refine G.move rfl rfl rfl rfl ?_
            exact g
          · intro X rest g
            refine G.nilCheck rfl rfl rfl rfl ?_
            exact g
          · intro X rest g
            refine G.field (off' := 0) rfl rfl rfl rfl Try.underlying60 rfl sz58 rfl rfl ?_
            exact g
          · intro X rest L m hlen hp hil hd hs hm ho
            refine G.frontAt 1 rfl ?_
            refine G.store (df := Kd.hdr) (y := (B351, (a0.l ++ ([(S_reads_was.mk a1 t339)] : List S_reads_was)).length, c352)) (x1 := (R_reads_History.mk (B351, (a0.l ++ ([(S_reads_was.mk a1 t339)] : List S_reads_was)).length, c352))) rfl rfl rfl rfl (R_reads_History.L_l _) ⟨([.slice B351 ((a0.l ++ ([(S_reads_was.mk a1 t339)] : List S_reads_was)).length) c352] : List Value), rfl, rfl⟩ sz58 rfl ?_
            refine G.frontAt 2 rfl ?_
            refine G.frontAt 2 rfl ?_
            refine G.frontAt 2 rfl ?_
            exact P363 B343 c344 H346 l347 B349 B351 c352 m _ _ rest (by rw [List.length_set]; exact hlen) (hp.stepN2 2 (reads_History_Add_s2.reg15_5_ap _) hil hd hs (by repeat (first | exact trivial | refine And.intro rfl ?_)) rfl rfl rfl) hm ho
          · intro A L hlen hp h0
            exact (hp.notYet hlen h0 13 rfl rfl).elim
        have P361 : ∀ (B343 : Option Addr) (c344 : Nat) (H346 : PH) (l347 : PH.le H H346) (B349 : Option Addr) (m : Nat) (L : List Bool) (A : List (Nat × Value)) (l : List Nat), L.length = R358.ds.length → R358.Phi [some (.pointer (some ⟨g0, 0, none⟩)), some (.pointer (some ⟨g0, 0, none⟩)), some (.pointer (some ⟨g0, 0, none⟩)), some (.pointer (some ⟨g0, 0, none⟩)), some (.slice A0 a0.l.length n0), some (.int .u64 a1), some (.slice A2 a2.length n2), some (.slice B343 t339.length c344), some (.agg (([.int .u64 a1] : List Value) ++ (([.slice B343 t339.length c344] : List Value))).toArray), some (.slice B349 (([(S_reads_was.mk a1 t339)] : List S_reads_was).length) 1), none, none, none, none] [5, 6, 7, 8, 9] [10, 11, 12, 13] L A → left L = m → Ord R358.ds m L l → G C355 H346 A (OS 63 K_S_reads_was B349 1 ([(S_reads_was.mk a1 t339)] : List S_reads_was) :: OS 63 K_S_reads_was A0 n0 a0.l :: BK 60 K_R_reads_History g0 (R_reads_History.mk (A0, a0.l.length, n0)) :: OS 24 K_S_api_Touch A2 n2 a2 :: Fr) (.inRegion ops356 l :: k357) := by
          intro B343 c344 H346 l347 B349
          refine G.phase R358 [some (.pointer (some ⟨g0, 0, none⟩)), some (.pointer (some ⟨g0, 0, none⟩)), some (.pointer (some ⟨g0, 0, none⟩)), some (.pointer (some ⟨g0, 0, none⟩)), some (.slice A0 a0.l.length n0), some (.int .u64 a1), some (.slice A2 a2.length n2), some (.slice B343 t339.length c344), some (.agg (([.int .u64 a1] : List Value) ++ (([.slice B343 t339.length c344] : List Value))).toArray), some (.slice B349 (([(S_reads_was.mk a1 t339)] : List S_reads_was).length) 1), none, none, none, none] [0, 1, 2, 3, 4] [10] [5, 6, 7, 8, 9] [10, 11, 12, 13] (reads_History_Add_s2.reg15_5_ap _) rfl rfl ⟨⟨[.base 0], 34, .pointer (some ⟨g0, 0, none⟩), [(0, .pointer (some ⟨g0, 0, none⟩))], ⟨rfl, rfl, rfl, rfl, ?_⟩⟩, ⟨⟨[.base 0], 35, .pointer (some ⟨g0, 0, none⟩), [(0, .pointer (some ⟨g0, 0, none⟩))], ⟨rfl, rfl, rfl, rfl, ?_⟩⟩, ⟨⟨[.op 1], 36, .pointer (some ⟨g0, 0, none⟩), [(35, .pointer (some ⟨g0, 0, none⟩))], ⟨rfl, rfl, rfl, rfl, ?_⟩⟩, ⟨⟨[.op 2], 37, .pointer (some ⟨g0, 0, none⟩), [(36, .pointer (some ⟨g0, 0, none⟩))], ⟨rfl, rfl, rfl, rfl, ?_⟩⟩, ⟨⟨[.op 3], 38, .slice A0 a0.l.length n0, [(37, .pointer (some ⟨g0, 0, none⟩))], ⟨rfl, rfl, rfl, rfl, ?_⟩⟩, trivial⟩⟩⟩⟩⟩ ⟨⟨[.op 4, .op 9], [(38, .slice A0 a0.l.length n0), (43, .slice B349 (([(S_reads_was.mk a1 t339)] : List S_reads_was).length) 1)], ⟨rfl, rfl, ?_⟩⟩, trivial⟩ ?_
          · intro X rest g
            refine G.move rfl rfl rfl rfl ?_
            exact g
          · intro X rest g
            refine G.move rfl rfl rfl rfl ?_
            exact g
          · intro X rest g
            refine G.nilCheck rfl rfl rfl rfl ?_
            exact g
          · intro X rest g
            refine G.field (off' := 0) rfl rfl rfl rfl Try.underlying60 rfl sz58 rfl rfl ?_
            exact g
          · intro X rest g
            refine G.loadH (B := A0) (m := a0.l.length) (c := n0) rfl rfl rfl rfl ty58r (fun w hs => Rd.bk (R_reads_History.L_l _) hs (j := 2) rfl) ?_
            exact g
          · intro X rest L m hlen hp hil hd hs hm ho
            refine G.frontAt 1 rfl ?_
            refine G.append (df := K_S_reads_was) (xs := a0.l) (ys := ([(S_reads_was.mk a1 t339)] : List S_reads_was)) (z0 := (S_reads_was.mk 0 [])) (z := .agg (([.int .u64 0] : List Value) ++ (([.slice none 0 0] : List Value))).toArray) (cz := ([.int .u64 0] : List Value) ++ (([.slice none 0 0] : List Value))) rfl rfl rfl rfl (by simp) rfl el58 Try.underlying58 rfl (by kernel_rfl) rfl (K_S_reads_was.mk rfl ⟨none, 0, rfl, SlR.nil _ _⟩) (fun w hs => SrcR.os hs (j := 1) rfl) ⟨by omega, by omega⟩ ?_
            intro B351 c352
            refine G.frontAt 1 rfl ?_
            refine G.drop ?_
            refine G.frontAt 2 rfl ?_
            refine G.frontAt 2 rfl ?_
            refine G.frontAt 2 rfl ?_
            exact P362 B343 c344 H346 l347 B349 B351 c352 m _ _ rest (by rw [List.length_set]; exact hlen) (hp.stepS2 4 (reads_History_Add_s2.reg15_5_ap _) hil hd hs (by repeat (first | exact trivial | refine And.intro rfl ?_)) rfl rfl rfl rfl) hm ho
          · intro A L hlen hp h0
            exact (hp.notYet hlen h0 10 rfl rfl).elim
        have P360 : ∀ (B343 : Option Addr) (c344 : Nat) (m : Nat) (L : List Bool) (A : List (Nat × Value)) (l : List Nat), L.length = R358.ds.length → R358.Phi [some (.pointer (some ⟨g0, 0, none⟩)), some (.pointer (some ⟨g0, 0, none⟩)), some (.pointer (some ⟨g0, 0, none⟩)), some (.pointer (some ⟨g0, 0, none⟩)), some (.slice A0 a0.l.length n0), some (.int .u64 a1), some (.slice A2 a2.length n2), some (.slice B343 t339.length c344), some (.agg (([.int .u64 a1] : List Value) ++ (([.slice B343 t339.length c344] : List Value))).toArray), none, none, none, none, none] [6, 7] [9, 10, 11, 12, 13] L A → left L = m → Ord R358.ds m L l → G C355 H A (OS 24 K_S_api_Touch B343 c344 t339 :: OS 63 K_S_reads_was A0 n0 a0.l :: BK 60 K_R_reads_History g0 (R_reads_History.mk (A0, a0.l.length, n0)) :: OS 24 K_S_api_Touch A2 n2 a2 :: Fr) (.inRegion ops356 l :: k357) := by
          intro B343 c344
          refine G.phase R358 [some (.pointer (some ⟨g0, 0, none⟩)), some (.pointer (some ⟨g0, 0, none⟩)), some (.pointer (some ⟨g0, 0, none⟩)), some (.pointer (some ⟨g0, 0, none⟩)), some (.slice A0 a0.l.length n0), some (.int .u64 a1), some (.slice A2 a2.length n2), some (.slice B343 t339.length c344), some (.agg (([.int .u64 a1] : List Value) ++ (([.slice B343 t339.length c344] : List Value))).toArray), none, none, none, none, none] [0, 1, 2, 3, 4, 5, 8] [9] [6, 7] [9, 10, 11, 12, 13] (reads_History_Add_s2.reg15_5_ap _) rfl rfl ⟨⟨[.base 0], 34, .pointer (some ⟨g0, 0, none⟩), [(0, .pointer (some ⟨g0, 0, none⟩))], ⟨rfl, rfl, rfl, rfl, ?_⟩⟩, ⟨⟨[.base 0], 35, .pointer (some ⟨g0, 0, none⟩), [(0, .pointer (some ⟨g0, 0, none⟩))], ⟨rfl, rfl, rfl, rfl, ?_⟩⟩, ⟨⟨[.op 1], 36, .pointer (some ⟨g0, 0, none⟩), [(35, .pointer (some ⟨g0, 0, none⟩))], ⟨rfl, rfl, rfl, rfl, ?_⟩⟩, ⟨⟨[.op 2], 37, .pointer (some ⟨g0, 0, none⟩), [(36, .pointer (some ⟨g0, 0, none⟩))], ⟨rfl, rfl, rfl, rfl, ?_⟩⟩, ⟨⟨[.op 3], 38, .slice A0 a0.l.length n0, [(37, .pointer (some ⟨g0, 0, none⟩))], ⟨rfl, rfl, rfl, rfl, ?_⟩⟩, ⟨⟨[.base 1], 39, .int .u64 a1, [(1, .int .u64 a1)], ⟨rfl, rfl, rfl, rfl, ?_⟩⟩, ⟨⟨[.op 5, .op 7], 42, .agg (([.int .u64 a1] : List Value) ++ (([.slice B343 t339.length c344] : List Value))).toArray, [(39, .int .u64 a1), (41, .slice B343 t339.length c344)], ⟨rfl, rfl, rfl, rfl, ?_⟩⟩, trivial⟩⟩⟩⟩⟩⟩⟩ ⟨⟨[.op 8], [(42, .agg (([.int .u64 a1] : List Value) ++ (([.slice B343 t339.length c344] : List Value))).toArray)], ⟨rfl, rfl, ?_⟩⟩, trivial⟩ ?_
          · intro X rest g
            refine G.move rfl rfl rfl rfl ?_
            exact g
          · intro X rest g
            refine G.move rfl rfl rfl rfl ?_
            exact g
          · intro X rest g
            refine G.nilCheck rfl rfl rfl rfl ?_
            exact g
          · intro X rest g
            refine G.field (off' := 0) rfl rfl rfl rfl Try.underlying60 rfl sz58 rfl rfl ?_
            exact g
          · intro X rest g
            refine G.loadH (B := A0) (m := a0.l.length) (c := n0) rfl rfl rfl rfl ty58r (fun w hs => Rd.bk (R_reads_History.L_l _) hs (j := 2) rfl) ?_
            exact g
          · intro X rest g
            refine G.move rfl rfl rfl rfl ?_
            exact g
          · intro X rest g
            refine G.build (z := .agg (([.int .u64 0] : List Value) ++ (([.slice none 0 0] : List Value))).toArray) (pl := [(0, 1), (1, 1)]) (cs := ([.int .u64 a1] : List Value) ++ (([.slice B343 t339.length c344] : List Value))) rfl rfl rfl Try.underlying63 (by kernel_rfl) rfl (by kernel_rfl) (by kernel_rfl) rfl ?_
            exact g
          · intro X rest L m hlen hp hil hd hs hm ho
            refine G.freezeO ?_
            intro H346 l347 f348
            refine G.buildSliceV (df := K_S_reads_was) (xs := ([(S_reads_was.mk a1 t339)] : List S_reads_was)) (z0 := (S_reads_was.mk 0 [])) (vs := [.agg (([.int .u64 a1] : List Value) ++ (([.slice B343 t339.length c344] : List Value))).toArray]) rfl rfl rfl el58 (z := .agg (([.int .u64 0] : List Value) ++ (([.slice none 0 0] : List Value))).toArray) (cz := ([.int .u64 0] : List Value) ++ (([.slice none 0 0] : List Value))) (by kernel_rfl) rfl rfl rfl rfl rfl (K_S_reads_was.mk rfl ⟨none, 0, rfl, SlR.nil _ _⟩) ⟨(VR.A (cs := ([.int .u64 a1] : List Value) ++ (([.slice B343 t339.length c344] : List Value))) (K_S_reads_was.mk rfl ⟨_, _, rfl, f348⟩)), trivial⟩ ?_
            intro B349
            refine G.frontAt 3 rfl ?_
            refine G.frontAt 3 rfl ?_
            refine G.frontAt 3 rfl ?_
            refine G.frontAt 3 rfl ?_
            exact P361 B343 c344 H346 l347 B349 m _ _ rest (by rw [List.length_set]; exact hlen) (hp.stepS2 2 (reads_History_Add_s2.reg15_5_ap _) hil hd hs (by repeat (first | exact trivial | refine And.intro rfl ?_)) rfl rfl rfl rfl) hm ho
          · intro A L hlen hp h0
            exact (hp.notYet hlen h0 9 rfl rfl).elim
        have P359 : ∀ (m : Nat) (L : List Bool) (A : List (Nat × Value)) (l : List Nat), L.length = R358.ds.length → R358.Phi [some (.pointer (some ⟨g0, 0, none⟩)), some (.pointer (some ⟨g0, 0, none⟩)), some (.pointer (some ⟨g0, 0, none⟩)), some (.pointer (some ⟨g0, 0, none⟩)), some (.slice A0 a0.l.length n0), some (.int .u64 a1), some (.slice A2 a2.length n2), none, none, none, none, none, none, none] [] [7, 8, 9, 10, 11, 12, 13] L A → left L = m → Ord R358.ds m L l → G C355 H A (OS 63 K_S_reads_was A0 n0 a0.l :: BK 60 K_R_reads_History g0 (R_reads_History.mk (A0, a0.l.length, n0)) :: OS 24 K_S_api_Touch A2 n2 a2 :: Fr) (.inRegion ops356 l :: k357) := by
          refine G.phase R358 [some (.pointer (some ⟨g0, 0, none⟩)), some (.pointer (some ⟨g0, 0, none⟩)), some (.pointer (some ⟨g0, 0, none⟩)), some (.pointer (some ⟨g0, 0, none⟩)), some (.slice A0 a0.l.length n0), some (.int .u64 a1), some (.slice A2 a2.length n2), none, none, none, none, none, none, none] [0, 1, 2, 3, 4, 5, 6] [7] [] [7, 8, 9, 10, 11, 12, 13] (reads_History_Add_s2.reg15_5_ap _) rfl rfl ⟨⟨[.base 0], 34, .pointer (some ⟨g0, 0, none⟩), [(0, .pointer (some ⟨g0, 0, none⟩))], ⟨rfl, rfl, rfl, rfl, ?_⟩⟩, ⟨⟨[.base 0], 35, .pointer (some ⟨g0, 0, none⟩), [(0, .pointer (some ⟨g0, 0, none⟩))], ⟨rfl, rfl, rfl, rfl, ?_⟩⟩, ⟨⟨[.op 1], 36, .pointer (some ⟨g0, 0, none⟩), [(35, .pointer (some ⟨g0, 0, none⟩))], ⟨rfl, rfl, rfl, rfl, ?_⟩⟩, ⟨⟨[.op 2], 37, .pointer (some ⟨g0, 0, none⟩), [(36, .pointer (some ⟨g0, 0, none⟩))], ⟨rfl, rfl, rfl, rfl, ?_⟩⟩, ⟨⟨[.op 3], 38, .slice A0 a0.l.length n0, [(37, .pointer (some ⟨g0, 0, none⟩))], ⟨rfl, rfl, rfl, rfl, ?_⟩⟩, ⟨⟨[.base 1], 39, .int .u64 a1, [(1, .int .u64 a1)], ⟨rfl, rfl, rfl, rfl, ?_⟩⟩, ⟨⟨[.base 2], 40, .slice A2 a2.length n2, [(2, .slice A2 a2.length n2)], ⟨rfl, rfl, rfl, rfl, ?_⟩⟩, trivial⟩⟩⟩⟩⟩⟩⟩ ⟨⟨[.op 6], [(40, .slice A2 a2.length n2)], ⟨rfl, rfl, ?_⟩⟩, trivial⟩ ?_
          · intro X rest g
            refine G.move rfl rfl rfl rfl ?_
            exact g
          · intro X rest g
            refine G.move rfl rfl rfl rfl ?_
            exact g
          · intro X rest g
            refine G.nilCheck rfl rfl rfl rfl ?_
            exact g
          · intro X rest g
            refine G.field (off' := 0) rfl rfl rfl rfl Try.underlying60 rfl sz58 rfl rfl ?_
            exact g
          · intro X rest g
            refine G.loadH (B := A0) (m := a0.l.length) (c := n0) rfl rfl rfl rfl ty58r (fun w hs => Rd.bk (R_reads_History.L_l _) hs (j := 1) rfl) ?_
            exact g
          · intro X rest g
            refine G.move rfl rfl rfl rfl ?_
            exact g
          · intro X rest g
            refine G.move rfl rfl rfl rfl ?_
            exact g
          · intro X rest L m hlen hp hil hd hs hm ho
            refine G.callBO (m := 0) rfl rfl rfl rfl call31 rfl (fun H1 hle hsl => (slices_Clone_Lapi_Touch_api_Touch.ok a2 A2 n2 (hsl (j := 2) rfl) e340).ctr) (by rintro v H' L' ⟨_, _, rfl, rfl⟩; exact (Free.cons (Free.os flat_S_api_Touch) Free.nil)) ?_
            rintro v341 L342 ⟨_, ⟨B343, c344, rfl, rfl⟩⟩
            refine G.frontAt 3 rfl ?_
            refine G.frontAt 3 rfl ?_
            refine G.frontAt 3 rfl ?_
            refine G.frontAt 3 rfl ?_
            exact P360 B343 c344 m _ _ rest (by rw [List.length_set]; exact hlen) (hp.stepS2 1 (reads_History_Add_s2.reg15_5_ap _) hil hd hs (by repeat (first | exact trivial | refine And.intro rfl ?_)) rfl rfl rfl rfl) hm ho
          · intro A L hlen hp h0
            exact (hp.notYet hlen h0 7 rfl rfl).elim
        intro l hl
        exact P359 14 (List.replicate 14 false) _ l rfl (Reg.Phi.init 14 ⟨rfl, rfl, rfl, trivial⟩) (left_rep 14) hl
    intro J365
    refine G.rest (l1 := [18]) (l2 := [19]) (fun GG K => reads_History_Add.j3 a0 a1 a2 = some r → GG H [(0, .pointer (some ⟨g0, 0, none⟩)), (1, .int .u64 a1), (2, .slice A2 a2.length n2), (29, .bool false), (32, .bool false)] (OS 63 K_S_reads_was A0 n0 a0.l :: BK 60 K_R_reads_History g0 (R_reads_History.mk (A0, a0.l.length, n0)) :: OS 24 K_S_api_Touch A2 n2 a2 :: Fr) K) ?_ ?_
    · intro  h
      unfold reads_History_Add.j3 at h
      refine G.pickF rfl rfl rfl rfl rfl ?_
      refine G.regionEnd ?_
      refine G.condF rfl ?_
      refine G.skip ?_
      refine G.seq ?_
      obtain ⟨t366, e367, h⟩ := bindS h
      obtain ⟨k381, h⟩ := guardS h
      refine G.draw [[], [], [1], [2], [3], [], [], [6], [5, 7], [8], [4, 9, 7], [0, 0, 1, 2, 3, 4, 5, 6, 7, 8, 9, 10], [11, 0, 1, 2, 3, 4, 5, 6, 7, 8, 9, 10], [12, 10, 10, 0, 1, 2, 3, 4, 5, 6, 7, 8, 9, 10]] 14 [0, 1, 2, 3, 4, 5, 6, 7, 8, 9, 10, 11, 12, 13] [0, 0, 1, 2, 3, 0, 0, 1, 2, 3, 4, 5, 6, 7] [0, 0, 1, 2, 3, 0, 0, 1, 2, 3, 4, 5, 6, 7] rfl (by kernel_rfl) (by kernel_rfl) (by kernel_rfl) (by kernel_rfl) ?_
      intro C382 ops383 k384
      let R385 : Reg := reads_History_Add_s2.reg15_5 [(0, .pointer (some ⟨g0, 0, none⟩)), (1, .int .u64 a1), (2, .slice A2 a2.length n2)]
      have P390 : ∀ (B370 : Option Addr) (c371 : Nat) (H373 : PH) (l374 : PH.le H H373) (B376 : Option Addr) (B378 : Option Addr) (c379 : Nat) (m : Nat) (L : List Bool) (A : List (Nat × Value)) (l : List Nat), L.length = R385.ds.length → R385.Phi [some (.pointer (some ⟨g0, 0, none⟩)), some (.pointer (some ⟨g0, 0, none⟩)), some (.pointer (some ⟨g0, 0, none⟩)), some (.pointer (some ⟨g0, 0, none⟩)), some (.slice A0 a0.l.length n0), some (.int .u64 a1), some (.slice A2 a2.length n2), some (.slice B370 t366.length c371), some (.agg (([.int .u64 a1] : List Value) ++ (([.slice B370 t366.length c371] : List Value))).toArray), some (.slice B376 (([(S_reads_was.mk a1 t366)] : List S_reads_was).length) 1), some (.slice B378 ((a0.l ++ ([(S_reads_was.mk a1 t366)] : List S_reads_was)).length) c379), some (.pointer (some ⟨g0, 0, none⟩)), some (.pointer (some ⟨g0, 0, none⟩)), none] [0, 1, 2, 3, 4, 5, 6, 7, 8, 9, 10, 11, 12, 13] [] L A → left L = m → Ord R385.ds m L l → G C382 H373 A (BK 60 K_R_reads_History g0 (R_reads_History.mk (B378, (a0.l ++ ([(S_reads_was.mk a1 t366)] : List S_reads_was)).length, c379)) :: OS 63 K_S_reads_was B378 c379 (a0.l ++ ([(S_reads_was.mk a1 t366)] : List S_reads_was)) :: OS 24 K_S_api_Touch A2 n2 a2 :: Fr) (.inRegion ops383 l :: k384) := by
        intro B370 c371 H373 l374 B376 B378 c379
        refine G.phase R385 [some (.pointer (some ⟨g0, 0, none⟩)), some (.pointer (some ⟨g0, 0, none⟩)), some (.pointer (some ⟨g0, 0, none⟩)), some (.pointer (some ⟨g0, 0, none⟩)), some (.slice A0 a0.l.length n0), some (.int .u64 a1), some (.slice A2 a2.length n2), some (.slice B370 t366.length c371), some (.agg (([.int .u64 a1] : List Value) ++ (([.slice B370 t366.length c371] : List Value))).toArray), some (.slice B376 (([(S_reads_was.mk a1 t366)] : List S_reads_was).length) 1), some (.slice B378 ((a0.l ++ ([(S_reads_was.mk a1 t366)] : List S_reads_was)).length) c379), some (.pointer (some ⟨g0, 0, none⟩)), some (.pointer (some ⟨g0, 0, none⟩)), none] [] [] [0, 1, 2, 3, 4, 5, 6, 7, 8, 9, 10, 11, 12, 13] [] (reads_History_Add_s2.reg15_5_ap _) rfl rfl trivial trivial ?_
        · intro A L hlen hp h0
          refine G.lessSub (B := []) (hp.fin hlen h0 (src := []) rfl) ?_
          refine G.regionEnd ?_
          refine G.seq ?_
          refine G.region (l := [0]) rfl ?_
          refine G.assign rfl rfl rfl rfl ?_
          refine G.regionEnd ?_
          refine G.frontAt 1 rfl ?_
          refine G.frontAt 2 rfl ?_
          refine G.frontAt 2 rfl ?_
          obtain rfl := Option.some.inj h
          exact G.ret1 Try.func15 rfl rfl (fun w hs => ⟨_, _, _, rfl, l374, ⟨B378, c379, rfl, rfl⟩, hs⟩)
      have P389 : ∀ (B370 : Option Addr) (c371 : Nat) (H373 : PH) (l374 : PH.le H H373) (B376 : Option Addr) (B378 : Option Addr) (c379 : Nat) (m : Nat) (L : List Bool) (A : List (Nat × Value)) (l : List Nat), L.length = R385.ds.length → R385.Phi [some (.pointer (some ⟨g0, 0, none⟩)), some (.pointer (some ⟨g0, 0, none⟩)), some (.pointer (some ⟨g0, 0, none⟩)), some (.pointer (some ⟨g0, 0, none⟩)), some (.slice A0 a0.l.length n0), some (.int .u64 a1), some (.slice A2 a2.length n2), some (.slice B370 t366.length c371), some (.agg (([.int .u64 a1] : List Value) ++ (([.slice B370 t366.length c371] : List Value))).toArray), some (.slice B376 (([(S_reads_was.mk a1 t366)] : List S_reads_was).length) 1), some (.slice B378 ((a0.l ++ ([(S_reads_was.mk a1 t366)] : List S_reads_was)).length) c379), some (.pointer (some ⟨g0, 0, none⟩)), some (.pointer (some ⟨g0, 0, none⟩)), none] [1, 2, 3, 4, 5, 6, 7, 8, 9, 10] [13] L A → left L = m → Ord R385.ds m L l → G C382 H373 A (OS 63 K_S_reads_was B378 c379 (a0.l ++ ([(S_reads_was.mk a1 t366)] : List S_reads_was)) :: BK 60 K_R_reads_History g0 (R_reads_History.mk (A0, a0.l.length, n0)) :: OS 24 K_S_api_Touch A2 n2 a2 :: Fr) (.inRegion ops383 l :: k384) := by
        intro B370 c371 H373 l374 B376 B378 c379
        refine G.phase R385 [some (.pointer (some ⟨g0, 0, none⟩)), some (.pointer (some ⟨g0, 0, none⟩)), some (.pointer (some ⟨g0, 0, none⟩)), some (.pointer (some ⟨g0, 0, none⟩)), some (.slice A0 a0.l.length n0), some (.int .u64 a1), some (.slice A2 a2.length n2), some (.slice B370 t366.length c371), some (.agg (([.int .u64 a1] : List Value) ++ (([.slice B370 t366.length c371] : List Value))).toArray), some (.slice B376 (([(S_reads_was.mk a1 t366)] : List S_reads_was).length) 1), some (.slice B378 ((a0.l ++ ([(S_reads_was.mk a1 t366)] : List S_reads_was)).length) c379), some (.pointer (some ⟨g0, 0, none⟩)), some (.pointer (some ⟨g0, 0, none⟩)), none] [0, 11, 12] [13] [1, 2, 3, 4, 5, 6, 7, 8, 9, 10] [13] (reads_History_Add_s2.reg15_5_ap _) rfl rfl ⟨⟨[.base 0], 34, .pointer (some ⟨g0, 0, none⟩), [(0, .pointer (some ⟨g0, 0, none⟩))], ⟨rfl, rfl, rfl, rfl, ?_⟩⟩, ⟨⟨[.op 0], 45, .pointer (some ⟨g0, 0, none⟩), [(34, .pointer (some ⟨g0, 0, none⟩))], ⟨rfl, rfl, rfl, rfl, ?_⟩⟩, ⟨⟨[.op 11], 46, .pointer (some ⟨g0, 0, none⟩), [(45, .pointer (some ⟨g0, 0, none⟩))], ⟨rfl, rfl, rfl, rfl, ?_⟩⟩, trivial⟩⟩⟩ ⟨⟨[.op 10, .op 12], [(44, .slice B378 ((a0.l ++ ([(S_reads_was.mk a1 t366)] : List S_reads_was)).length) c379), (46, .pointer (some ⟨g0, 0, none⟩))], ⟨rfl, rfl, ?_⟩⟩, trivial⟩ ?_
        · intro X rest g
          refine G.move rfl rfl rfl rfl ?_
          exact g
        · intro X rest g
          refine G.nilCheck rfl rfl rfl rfl ?_
          exact g
        · intro X rest g
          refine G.field (off' := 0) rfl rfl rfl rfl Try.underlying60 rfl sz58 rfl rfl ?_
          exact g
        · intro X rest L m hlen hp hil hd hs hm ho
          refine G.frontAt 1 rfl ?_
          refine G.store (df := Kd.hdr) (y := (B378, (a0.l ++ ([(S_reads_was.mk a1 t366)] : List S_reads_was)).length, c379)) (x1 := (R_reads_History.mk (B378, (a0.l ++ ([(S_reads_was.mk a1 t366)] : List S_reads_was)).length, c379))) rfl rfl rfl rfl (R_reads_History.L_l _) ⟨([.slice B378 ((a0.l ++ ([(S_reads_was.mk a1 t366)] : List S_reads_was)).length) c379] : List Value), rfl, rfl⟩ sz58 rfl ?_
          refine G.frontAt 2 rfl ?_
          refine G.frontAt 2 rfl ?_
          refine G.frontAt 2 rfl ?_
          exact P390 B370 c371 H373 l374 B376 B378 c379 m _ _ rest (by rw [List.length_set]; exact hlen) (hp.stepN2 2 (reads_History_Add_s2.reg15_5_ap _) hil hd hs (by repeat (first | exact trivial | refine And.intro rfl ?_)) rfl rfl rfl) hm ho
        · intro A L hlen hp h0
          exact (hp.notYet hlen h0 13 rfl rfl).elim
      have P388 : ∀ (B370 : Option Addr) (c371 : Nat) (H373 : PH) (l374 : PH.le H H373) (B376 : Option Addr) (m : Nat) (L : List Bool) (A : List (Nat × Value)) (l : List Nat), L.length = R385.ds.length → R385.Phi [some (.pointer (some ⟨g0, 0, none⟩)), some (.pointer (some ⟨g0, 0, none⟩)), some (.pointer (some ⟨g0, 0, none⟩)), some (.pointer (some ⟨g0, 0, none⟩)), some (.slice A0 a0.l.length n0), some (.int .u64 a1), some (.slice A2 a2.length n2), some (.slice B370 t366.length c371), some (.agg (([.int .u64 a1] : List Value) ++ (([.slice B370 t366.length c371] : List Value))).toArray), some (.slice B376 (([(S_reads_was.mk a1 t366)] : List S_reads_was).length) 1), none, none, none, none] [5, 6, 7, 8, 9] [10, 11, 12, 13] L A → left L = m → Ord R385.ds m L l → G C382 H373 A (OS 63 K_S_reads_was B376 1 ([(S_reads_was.mk a1 t366)] : List S_reads_was) :: OS 63 K_S_reads_was A0 n0 a0.l :: BK 60 K_R_reads_History g0 (R_reads_History.mk (A0, a0.l.length, n0)) :: OS 24 K_S_api_Touch A2 n2 a2 :: Fr) (.inRegion ops383 l :: k384) := by
        intro B370 c371 H373 l374 B376
        refine G.phase R385 [some (.pointer (some ⟨g0, 0, none⟩)), some (.pointer (some ⟨g0, 0, none⟩)), some (.pointer (some ⟨g0, 0, none⟩)), some (.pointer (some ⟨g0, 0, none⟩)), some (.slice A0 a0.l.length n0), some (.int .u64 a1), some (.slice A2 a2.length n2), some (.slice B370 t366.length c371), some (.agg (([.int .u64 a1] : List Value) ++ (([.slice B370 t366.length c371] : List Value))).toArray), some (.slice B376 (([(S_reads_was.mk a1 t366)] : List S_reads_was).length) 1), none, none, none, none] [0, 1, 2, 3, 4] [10] [5, 6, 7, 8, 9] [10, 11, 12, 13] (reads_History_Add_s2.reg15_5_ap _) rfl rfl ⟨⟨[.base 0], 34, .pointer (some ⟨g0, 0, none⟩), [(0, .pointer (some ⟨g0, 0, none⟩))], ⟨rfl, rfl, rfl, rfl, ?_⟩⟩, ⟨⟨[.base 0], 35, .pointer (some ⟨g0, 0, none⟩), [(0, .pointer (some ⟨g0, 0, none⟩))], ⟨rfl, rfl, rfl, rfl, ?_⟩⟩, ⟨⟨[.op 1], 36, .pointer (some ⟨g0, 0, none⟩), [(35, .pointer (some ⟨g0, 0, none⟩))], ⟨rfl, rfl, rfl, rfl, ?_⟩⟩, ⟨⟨[.op 2], 37, .pointer (some ⟨g0, 0, none⟩), [(36, .pointer (some ⟨g0, 0, none⟩))], ⟨rfl, rfl, rfl, rfl, ?_⟩⟩, ⟨⟨[.op 3], 38, .slice A0 a0.l.length n0, [(37, .pointer (some ⟨g0, 0, none⟩))], ⟨rfl, rfl, rfl, rfl, ?_⟩⟩, trivial⟩⟩⟩⟩⟩ ⟨⟨[.op 4, .op 9], [(38, .slice A0 a0.l.length n0), (43, .slice B376 (([(S_reads_was.mk a1 t366)] : List S_reads_was).length) 1)], ⟨rfl, rfl, ?_⟩⟩, trivial⟩ ?_
        · intro X rest g
          refine G.move rfl rfl rfl rfl ?_
          exact g
        · intro X rest g
          refine G.move rfl rfl rfl rfl ?_
          exact g
        · intro X rest g
          refine G.nilCheck rfl rfl rfl rfl ?_
          exact g
        · intro X rest g
          refine G.field (off' := 0) rfl rfl rfl rfl Try.underlying60 rfl sz58 rfl rfl ?_
          exact g
        · intro X rest g
          refine G.loadH (B := A0) (m := a0.l.length) (c := n0) rfl rfl rfl rfl ty58r (fun w hs => Rd.bk (R_reads_History.L_l _) hs (j := 2) rfl) ?_
          exact g
        · intro X rest L m hlen hp hil hd hs hm ho
          refine G.frontAt 1 rfl ?_
          refine G.append (df := K_S_reads_was) (xs := a0.l) (ys := ([(S_reads_was.mk a1 t366)] : List S_reads_was)) (z0 := (S_reads_was.mk 0 [])) (z := .agg (([.int .u64 0] : List Value) ++ (([.slice none 0 0] : List Value))).toArray) (cz := ([.int .u64 0] : List Value) ++ (([.slice none 0 0] : List Value))) rfl rfl rfl rfl (by simp) rfl el58 Try.underlying58 rfl (by kernel_rfl) rfl (K_S_reads_was.mk rfl ⟨none, 0, rfl, SlR.nil _ _⟩) (fun w hs => SrcR.os hs (j := 1) rfl) ⟨by omega, by omega⟩ ?_
          intro B378 c379
          refine G.frontAt 1 rfl ?_
          refine G.drop ?_
          refine G.frontAt 2 rfl ?_
          refine G.frontAt 2 rfl ?_
          refine G.frontAt 2 rfl ?_
          exact P389 B370 c371 H373 l374 B376 B378 c379 m _ _ rest (by rw [List.length_set]; exact hlen) (hp.stepS2 4 (reads_History_Add_s2.reg15_5_ap _) hil hd hs (by repeat (first | exact trivial | refine And.intro rfl ?_)) rfl rfl rfl rfl) hm ho
        · intro A L hlen hp h0
          exact (hp.notYet hlen h0 10 rfl rfl).elim
      have P387 : ∀ (B370 : Option Addr) (c371 : Nat) (m : Nat) (L : List Bool) (A : List (Nat × Value)) (l : List Nat), L.length = R385.ds.length → R385.Phi [some (.pointer (some ⟨g0, 0, none⟩)), some (.pointer (some ⟨g0, 0, none⟩)), some (.pointer (some ⟨g0, 0, none⟩)), some (.pointer (some ⟨g0, 0, none⟩)), some (.slice A0 a0.l.length n0), some (.int .u64 a1), some (.slice A2 a2.length n2), some (.slice B370 t366.length c371), some (.agg (([.int .u64 a1] : List Value) ++ (([.slice B370 t366.length c371] : List Value))).toArray), none, none, none, none, none] [6, 7] [9, 10, 11, 12, 13] L A → left L = m → Ord R385.ds m L l → G C382 H A (OS 24 K_S_api_Touch B370 c371 t366 :: OS 63 K_S_reads_was A0 n0 a0.l :: BK 60 K_R_reads_History g0 (R_reads_History.mk (A0, a0.l.length, n0)) :: OS 24 K_S_api_Touch A2 n2 a2 :: Fr) (.inRegion ops383 l :: k384) := by
        intro B370 c371
        refine G.phase R385 [some (.pointer (some ⟨g0, 0, none⟩)), some (.pointer (some ⟨g0, 0, none⟩)), some (.pointer (some ⟨g0, 0, none⟩)), some (.pointer (some ⟨g0, 0, none⟩)), some (.slice A0 a0.l.length n0), some (.int .u64 a1), some (.slice A2 a2.length n2), some (.slice B370 t366.length c371), some (.agg (([.int .u64 a1] : List Value) ++ (([.slice B370 t366.length c371] : List Value))).toArray), none, none, none, none, none] [0, 1, 2, 3, 4, 5, 8] [9] [6, 7] [9, 10, 11, 12, 13] (reads_History_Add_s2.reg15_5_ap _) rfl rfl ⟨⟨[.base 0], 34, .pointer (some ⟨g0, 0, none⟩), [(0, .pointer (some ⟨g0, 0, none⟩))], ⟨rfl, rfl, rfl, rfl, ?_⟩⟩, ⟨⟨[.base 0], 35, .pointer (some ⟨g0, 0, none⟩), [(0, .pointer (some ⟨g0, 0, none⟩))], ⟨rfl, rfl, rfl, rfl, ?_⟩⟩, ⟨⟨[.op 1], 36, .pointer (some ⟨g0, 0, none⟩), [(35, .pointer (some ⟨g0, 0, none⟩))], ⟨rfl, rfl, rfl, rfl, ?_⟩⟩, ⟨⟨[.op 2], 37, .pointer (some ⟨g0, 0, none⟩), [(36, .pointer (some ⟨g0, 0, none⟩))], ⟨rfl, rfl, rfl, rfl, ?_⟩⟩, ⟨⟨[.op 3], 38, .slice A0 a0.l.length n0, [(37, .pointer (some ⟨g0, 0, none⟩))], ⟨rfl, rfl, rfl, rfl, ?_⟩⟩, ⟨⟨[.base 1], 39, .int .u64 a1, [(1, .int .u64 a1)], ⟨rfl, rfl, rfl, rfl, ?_⟩⟩, ⟨⟨[.op 5, .op 7], 42, .agg (([.int .u64 a1] : List Value) ++ (([.slice B370 t366.length c371] : List Value))).toArray, [(39, .int .u64 a1), (41, .slice B370 t366.length c371)], ⟨rfl, rfl, rfl, rfl, ?_⟩⟩, trivial⟩⟩⟩⟩⟩⟩⟩ ⟨⟨[.op 8], [(42, .agg (([.int .u64 a1] : List Value) ++ (([.slice B370 t366.length c371] : List Value))).toArray)], ⟨rfl, rfl, ?_⟩⟩, trivial⟩ ?_
        · intro X rest g
          refine G.move rfl rfl rfl rfl ?_
          exact g
        · intro X rest g
          refine G.move rfl rfl rfl rfl ?_
          exact g
        · intro X rest g
          refine G.nilCheck rfl rfl rfl rfl ?_
          exact g
        · intro X rest g
          refine G.field (off' := 0) rfl rfl rfl rfl Try.underlying60 rfl sz58 rfl rfl ?_
          exact g
        · intro X rest g
          refine G.loadH (B := A0) (m := a0.l.length) (c := n0) rfl rfl rfl rfl ty58r (fun w hs => Rd.bk (R_reads_History.L_l _) hs (j := 2) rfl) ?_
          exact g
        · intro X rest g
          refine G.move rfl rfl rfl rfl ?_
          exact g
        · intro X rest g
          refine G.build (z := .agg (([.int .u64 0] : List Value) ++ (([.slice none 0 0] : List Value))).toArray) (pl := [(0, 1), (1, 1)]) (cs := ([.int .u64 a1] : List Value) ++ (([.slice B370 t366.length c371] : List Value))) rfl rfl rfl Try.underlying63 (by kernel_rfl) rfl (by kernel_rfl) (by kernel_rfl) rfl ?_
          exact g
        · intro X rest L m hlen hp hil hd hs hm ho
          refine G.freezeO ?_
          intro H373 l374 f375
          refine G.buildSliceV (df := K_S_reads_was) (xs := ([(S_reads_was.mk a1 t366)] : List S_reads_was)) (z0 := (S_reads_was.mk 0 [])) (vs := [.agg (([.int .u64 a1] : List Value) ++ (([.slice B370 t366.length c371] : List Value))).toArray]) rfl rfl rfl el58 (z := .agg (([.int .u64 0] : List Value) ++ (([.slice none 0 0] : List Value))).toArray) (cz := ([.int .u64 0] : List Value) ++ (([.slice none 0 0] : List Value))) (by kernel_rfl) rfl rfl rfl rfl rfl (K_S_reads_was.mk rfl ⟨none, 0, rfl, SlR.nil _ _⟩) ⟨(VR.A (cs := ([.int .u64 a1] : List Value) ++ (([.slice B370 t366.length c371] : List Value))) (K_S_reads_was.mk rfl ⟨_, _, rfl, f375⟩)), trivial⟩ ?_
          intro B376
          refine G.frontAt 3 rfl ?_
          refine G.frontAt 3 rfl ?_
          refine G.frontAt 3 rfl ?_
          refine G.frontAt 3 rfl ?_
          exact P388 B370 c371 H373 l374 B376 m _ _ rest (by rw [List.length_set]; exact hlen) (hp.stepS2 2 (reads_History_Add_s2.reg15_5_ap _) hil hd hs (by repeat (first | exact trivial | refine And.intro rfl ?_)) rfl rfl rfl rfl) hm ho
        · intro A L hlen hp h0
          exact (hp.notYet hlen h0 9 rfl rfl).elim
      have P386 : ∀ (m : Nat) (L : List Bool) (A : List (Nat × Value)) (l : List Nat), L.length = R385.ds.length → R385.Phi [some (.pointer (some ⟨g0, 0, none⟩)), some (.pointer (some ⟨g0, 0, none⟩)), some (.pointer (some ⟨g0, 0, none⟩)), some (.pointer (some ⟨g0, 0, none⟩)), some (.slice A0 a0.l.length n0), some (.int .u64 a1), some (.slice A2 a2.length n2), none, none, none, none, none, none, none] [] [7, 8, 9, 10, 11, 12, 13] L A → left L = m → Ord R385.ds m L l → G C382 H A (OS 63 K_S_reads_was A0 n0 a0.l :: BK 60 K_R_reads_History g0 (R_reads_History.mk (A0, a0.l.length, n0)) :: OS 24 K_S_api_Touch A2 n2 a2 :: Fr) (.inRegion ops383 l :: k384) := by
        refine G.phase R385 [some (.pointer (some ⟨g0, 0, none⟩)), some (.pointer (some ⟨g0, 0, none⟩)), some (.pointer (some ⟨g0, 0, none⟩)), some (.pointer (some ⟨g0, 0, none⟩)), some (.slice A0 a0.l.length n0), some (.int .u64 a1), some (.slice A2 a2.length n2), none, none, none, none, none, none, none] [0, 1, 2, 3, 4, 5, 6] [7] [] [7, 8, 9, 10, 11, 12, 13] (reads_History_Add_s2.reg15_5_ap _) rfl rfl ⟨⟨[.base 0], 34, .pointer (some ⟨g0, 0, none⟩), [(0, .pointer (some ⟨g0, 0, none⟩))], ⟨rfl, rfl, rfl, rfl, ?_⟩⟩, ⟨⟨[.base 0], 35, .pointer (some ⟨g0, 0, none⟩), [(0, .pointer (some ⟨g0, 0, none⟩))], ⟨rfl, rfl, rfl, rfl, ?_⟩⟩, ⟨⟨[.op 1], 36, .pointer (some ⟨g0, 0, none⟩), [(35, .pointer (some ⟨g0, 0, none⟩))], ⟨rfl, rfl, rfl, rfl, ?_⟩⟩, ⟨⟨[.op 2], 37, .pointer (some ⟨g0, 0, none⟩), [(36, .pointer (some ⟨g0, 0, none⟩))], ⟨rfl, rfl, rfl, rfl, ?_⟩⟩, ⟨⟨[.op 3], 38, .slice A0 a0.l.length n0, [(37, .pointer (some ⟨g0, 0, none⟩))], ⟨rfl, rfl, rfl, rfl, ?_⟩⟩, ⟨⟨[.base 1], 39, .int .u64 a1, [(1, .int .u64 a1)], ⟨rfl, rfl, rfl, rfl, ?_⟩⟩, ⟨⟨[.base 2], 40, .slice A2 a2.length n2, [(2, .slice A2 a2.length n2)], ⟨rfl, rfl, rfl, rfl, ?_⟩⟩, trivial⟩⟩⟩⟩⟩⟩⟩ ⟨⟨[.op 6], [(40, .slice A2 a2.length n2)], ⟨rfl, rfl, ?_⟩⟩, trivial⟩ ?_
        · intro X rest g
          refine G.move rfl rfl rfl rfl ?_
          exact g
        · intro X rest g
          refine G.move rfl rfl rfl rfl ?_
          exact g
        · intro X rest g
          refine G.nilCheck rfl rfl rfl rfl ?_
          exact g
        · intro X rest g
          refine G.field (off' := 0) rfl rfl rfl rfl Try.underlying60 rfl sz58 rfl rfl ?_
          exact g
        · intro X rest g
          refine G.loadH (B := A0) (m := a0.l.length) (c := n0) rfl rfl rfl rfl ty58r (fun w hs => Rd.bk (R_reads_History.L_l _) hs (j := 1) rfl) ?_
          exact g
        · intro X rest g
          refine G.move rfl rfl rfl rfl ?_
          exact g
        · intro X rest g
          refine G.move rfl rfl rfl rfl ?_
          exact g
        · intro X rest L m hlen hp hil hd hs hm ho
          refine G.callBO (m := 0) rfl rfl rfl rfl call31 rfl (fun H1 hle hsl => (slices_Clone_Lapi_Touch_api_Touch.ok a2 A2 n2 (hsl (j := 2) rfl) e367).ctr) (by rintro v H' L' ⟨_, _, rfl, rfl⟩; exact (Free.cons (Free.os flat_S_api_Touch) Free.nil)) ?_
          rintro v368 L369 ⟨_, ⟨B370, c371, rfl, rfl⟩⟩
          refine G.frontAt 3 rfl ?_
          refine G.frontAt 3 rfl ?_
          refine G.frontAt 3 rfl ?_
          refine G.frontAt 3 rfl ?_
          exact P387 B370 c371 m _ _ rest (by rw [List.length_set]; exact hlen) (hp.stepS2 1 (reads_History_Add_s2.reg15_5_ap _) hil hd hs (by repeat (first | exact trivial | refine And.intro rfl ?_)) rfl rfl rfl rfl) hm ho
        · intro A L hlen hp h0
          exact (hp.notYet hlen h0 7 rfl rfl).elim
      intro l hl
      exact P386 14 (List.replicate 14 false) _ l rfl (Reg.Phi.init 14 ⟨rfl, rfl, rfl, trivial⟩) (left_rep 14) hl
    intro J391
    refine G.inl (n' := 9) rfl rfl rfl rfl call30 Try.func30 rfl Try.ntmps30 rfl rfl ?_
    intro R283 rt284
    refine G.seq ?_
    refine G.region (l := [0]) rfl ?_
    refine G.assign rfl rfl rfl rfl ?_
    refine G.regionEnd ?_
    refine G.seq ?_
    refine G.region (l := [0, 1, 2, 3, 4]) rfl ?_
    refine G.move rfl rfl rfl rfl ?_
    refine G.move rfl rfl rfl rfl ?_
    refine G.inl (n' := 19) rfl rfl rfl rfl call39 Try.func39 rfl Try.ntmps39 rfl rfl ?_
    intro R392 rt393
    refine G.seq ?_
    refine G.region (l := [0]) rfl ?_
    refine G.assign rfl rfl rfl rfl ?_
    refine G.regionEnd ?_
    refine G.seq ?_
    refine G.seq ?_
    refine G.region (l := [0, 1, 2]) rfl ?_
    refine G.move rfl rfl rfl rfl ?_
    refine G.len (m := a2.length) rfl rfl rfl rfl Try.underlying31 ?_
    refine G.move rfl rfl rfl rfl ?_
    refine G.regionEnd ?_
    refine G.block ?_
    refine G.loop (fun GG K => ∀ (d432 : Nat) (x420 : Int), reads_History_Add.l1 a0 a1 a2 d432 x420 = some r → GG H [(0, .slice A2 a2.length n2), (1, .func (.func 29) #[] #[]), (7, .int .i64 (a2.length : Int)), (8, .int .i64 x420)] (OS 63 K_S_reads_was A0 n0 a0.l :: BK 60 K_R_reads_History g0 (R_reads_History.mk (A0, a0.l.length, n0)) :: OS 24 K_S_api_Touch A2 n2 a2 :: Fr) K) ?_ ?_
    · intro d432
      induction d432 with
      | zero => intro x420 h; rw [reads_History_Add.l1] at h; cases h
      | succ d432 ih431 =>
        intro x420 h
        rw [reads_History_Add.l1] at h
        refine G.seq ?_
        refine G.region (l := [0]) rfl ?_
        refine G.cmp (x420 < (a2.length : Int)) rfl rfl rfl rfl rfl rfl Iff.rfl ?_
        refine G.regionEnd ?_
        refine G.seq ?_
        refine G.condP rfl (fun k443 => ?_) (fun k443 => ?_)
        · replace h := ifT h k443
          refine G.skip ?_
          refine G.seq ?_
          refine G.block ?_
          refine G.seq ?_
          refine G.region (l := [0, 1]) rfl ?_
          refine G.move rfl rfl rfl rfl ?_
          refine G.assign rfl rfl rfl rfl ?_
          refine G.regionEnd ?_
          refine G.seq ?_
          refine G.region (l := [0, 1, 2, 3, 4, 5]) rfl ?_
          refine G.move rfl rfl rfl rfl ?_
          refine G.move rfl rfl rfl rfl ?_
          refine G.move rfl rfl rfl rfl ?_
          obtain ⟨k435, h⟩ := guardS h
          have q434 : x420.toNat < a2.length := by omega
          refine G.indexO (xs := a2) (j := x420) (off := x420.toNat * 5) rfl rfl rfl rfl rfl el31 (r := 2) rfl (by simp) k435 rfl ?_
          refine G.loadA (df := K_S_api_Touch) (y := a2.getD x420.toNat (S_api_Touch.mk 0 0 [] 0 0)) rfl rfl rfl rfl ty24 rfl (fun w hs => Rd.osG q434 (Lens.id _ _) hs (j := 2) rfl (o := x420.toNat * 5) (by first | rfl | simp)) ?_
          intro cs436 f437
          obtain rfl := K_S_api_Touch.open f437
          obtain ⟨t438, e439, h⟩ := bindS h
          refine G.callSV rfl rfl rfl rfl rfl rfl call29 (reads_History_Add_1.ok (a2.getD x420.toNat (S_api_Touch.mk 0 0 [] 0 0)) e439) ?_
          rintro v440 L441 ⟨rfl, rfl⟩
          refine G.regionEnd ?_
          refine G.cond rfl (fun k442 => ?_) (fun k442 => ?_)
          · replace h := ifT h k442
            refine G.seq ?_
            refine G.region (l := [0, 1]) rfl ?_
            refine G.move rfl rfl rfl rfl ?_
            refine G.assign rfl rfl rfl rfl ?_
            refine G.regionEnd ?_
            refine G.ret1 Try.func39 rfl rfl (rt393 _ _ _ ?_)
            refine G.cmp (0 ≤ x420) rfl rfl rfl rfl rfl rfl Iff.rfl ?_
            refine G.assign rfl rfl rfl rfl ?_
            refine G.regionEnd ?_
            refine G.ret1 Try.func30 rfl rfl (rt284 _ _ _ ?_)
            refine G.frontAt 2 rfl ?_
            refine G.frontAt 2 rfl ?_
            refine G.frontAt 2 rfl ?_
            refine G.less ?_ (J365  (decide (0 ≤ x420)) h)
            exact ⟨rfl, rfl, rfl, rfl, rfl, trivial⟩
          · replace h := ifFB h k442
            refine G.skip ?_
            refine G.inBlock ?_
            refine G.region (l := [0, 1]) rfl ?_
            refine G.bin (m := x420) (n := 1) (r := wi64 (x420 + 1)) rfl rfl rfl rfl rfl rfl rfl ?_
            refine G.move rfl rfl rfl rfl ?_
            refine G.regionEnd ?_
            refine G.round ?_
            refine G.frontAt 2 rfl ?_
            refine G.frontAt 2 rfl ?_
            refine G.frontAt 2 rfl ?_
            refine G.less ?_ (ih431  (wi64 (x420 + 1)) h)
            exact ⟨rfl, rfl, rfl, rfl, trivial⟩
        · replace h := ifF h k443
          refine G.exit rfl ?_
          refine G.seq ?_
          refine G.region (l := [0]) rfl ?_
          refine G.assign rfl rfl rfl rfl ?_
          refine G.regionEnd ?_
          refine G.ret1 Try.func39 rfl rfl (rt393 _ _ _ ?_)
          refine G.cmp (False) rfl rfl rfl rfl rfl rfl (by simp [cmpP]) ?_
          refine G.assign rfl rfl rfl rfl ?_
          refine G.regionEnd ?_
          refine G.ret1 Try.func30 rfl rfl (rt284 _ _ _ ?_)
          refine G.frontAt 2 rfl ?_
          refine G.frontAt 2 rfl ?_
          refine G.frontAt 2 rfl ?_
          refine G.less ?_ (J391   h)
          exact ⟨rfl, rfl, rfl, rfl, rfl, trivial⟩
    intro J444
    refine G.frontAt 2 rfl ?_
    refine G.frontAt 1 rfl ?_
    refine G.frontAt 2 rfl ?_
    refine G.less ?_ (J444 FUEL  0 h)
    exact ⟨rfl, rfl, rfl, rfl, trivial⟩
set_option maxRecDepth 20000 in
theorem armoireref15_Good.ok {O : World} {H : PH} {Fr : List Res} (a0 : (List S_armoireref15_Was)) (A0 : Option Addr) (n0 : Nat) (F0 : SlR K_S_armoireref15_Was H A0 n0 a0) (a1 : Int) (a2 : (List S_api_Touch)) (A2 : Option Addr) (n2 : Nat) (F2 : SlR K_S_api_Touch H A2 n2 a2) {r : Bool} (h : armoireref15_Good.f a0 a1 a2 = some r) :
    CtrS Try.prog 24 [.slice A0 a0.length n0, .int .u64 a1, .slice A2 a2.length n2] O H (Fr) (fun v L' => v = .bool r ∧ Fr = L') := by
  refine CtrS.start (n := 40) Try.func24 rfl Try.ntmps24 rfl rfl ?_
  unfold armoireref15_Good.f at h
  refine G.seq ?_
  refine G.region (l := [0]) rfl ?_
  refine G.assign rfl rfl rfl rfl ?_
  refine G.regionEnd ?_
  refine G.seq ?_
  refine G.region (l := [0]) rfl ?_
  refine G.assign rfl rfl rfl rfl ?_
  refine G.regionEnd ?_
  refine G.seq ?_
  refine G.seq ?_
  refine G.region (l := [0, 1, 2]) rfl ?_
  refine G.move rfl rfl rfl rfl ?_
  refine G.len (m := a0.length) rfl rfl rfl rfl Try.underlying51 ?_
  refine G.move rfl rfl rfl rfl ?_
  refine G.regionEnd ?_
  refine G.block ?_
  refine G.loop (fun GG K => ∀ (d112 : Nat) (b1 : Bool) (x2 : Int), armoireref15_Good.l0 a0 a1 a2 d112 b1 x2 = some r → GG H [(1, .int .u64 a1), (2, .slice A2 a2.length n2), (7, .bool b1), (12, .slice A0 a0.length n0), (13, .int .i64 (a0.length : Int)), (14, .int .i64 x2)] (Fr) K) ?_ ?_
  · intro d112
    induction d112 with
    | zero => intro b1 x2 h; rw [armoireref15_Good.l0] at h; cases h
    | succ d112 ih111 =>
      intro b1 x2 h
      rw [armoireref15_Good.l0] at h
      refine G.seq ?_
      refine G.region (l := [0]) rfl ?_
      refine G.cmp (x2 < (a0.length : Int)) rfl rfl rfl rfl rfl rfl Iff.rfl ?_
      refine G.regionEnd ?_
      refine G.seq ?_
      refine G.condP rfl (fun k221 => ?_) (fun k221 => ?_)
      · replace h := ifT h k221
        refine G.skip ?_
        refine G.seq ?_
        refine G.block ?_
        refine G.seq ?_
        refine G.region (l := [0, 1, 2, 3]) rfl ?_
        obtain ⟨k164, h⟩ := guardS h
        refine G.indexR (xs := a0) (j := x2) (S_armoireref15_Was.mk 0 []) rfl rfl rfl rfl rfl el51 F0 k164 ?_
        intro a162 f163
        refine G.loadA (df := K_S_armoireref15_Was) (y := a0.getD x2.toNat (S_armoireref15_Was.mk 0 [])) rfl rfl rfl rfl ty54 rfl (fun w hs => Rd.ro f163 hs) ?_
        intro cs165 f166
        obtain ⟨B167, c168, f169, rfl⟩ := K_S_armoireref15_Was.open f166
        refine G.alloc (dk := K_R_armoireref15_Was) (x0 := (R_armoireref15_Was.mk 0 (none, 0, 0))) (z := .agg (([.int .u64 0] : List Value) ++ (([.slice none 0 0] : List Value))).toArray) (cs := ([.int .u64 0] : List Value) ++ (([.slice none 0 0] : List Value))) rfl rfl rfl (by kernel_rfl) rfl (fun H => K_R_armoireref15_Was.mk rfl rfl) ?_
        intro g170
        refine G.store (df := K_R_armoireref15_Was) (y := (R_armoireref15_Was.mk ((a0.getD x2.toNat (S_armoireref15_Was.mk 0 [])).version) (B167, ((a0.getD x2.toNat (S_armoireref15_Was.mk 0 [])).l).length, c168))) (x1 := (R_armoireref15_Was.mk ((a0.getD x2.toNat (S_armoireref15_Was.mk 0 [])).version) (B167, ((a0.getD x2.toNat (S_armoireref15_Was.mk 0 [])).l).length, c168))) rfl rfl rfl rfl (Lens.id _ _) (VR.A (cs := ([.int .u64 ((a0.getD x2.toNat (S_armoireref15_Was.mk 0 [])).version)] : List Value) ++ (([.slice B167 ((a0.getD x2.toNat (S_armoireref15_Was.mk 0 [])).l).length c168] : List Value))) (K_R_armoireref15_Was.mk rfl rfl)) sz54 rfl ?_
        refine G.regionEnd ?_
        refine G.region (l := [0, 1, 2, 3, 4, 5, 6, 7]) rfl ?_
        refine G.move rfl rfl rfl rfl ?_
        refine G.move rfl rfl rfl rfl ?_
        refine G.splitB (d := 19) rfl (fun k172 => ?_) (fun k172 => ?_)
        · replace h := ifT h k172
          refine G.field (off' := 0) rfl rfl rfl rfl Try.underlying54 rfl sz30 rfl rfl ?_
          refine G.loadI (y := (a0.getD x2.toNat (S_armoireref15_Was.mk 0 [])).version) rfl rfl rfl rfl ty30 (fun w hs => Rd.bk (R_armoireref15_Was.L_version _) hs (j := 0) rfl) ?_
          refine G.move rfl rfl rfl rfl ?_
          refine G.cmp (((a0.getD x2.toNat (S_armoireref15_Was.mk 0 [])).version) < a1) rfl rfl rfl rfl rfl rfl Iff.rfl ?_
          refine G.pickT rfl rfl rfl rfl rfl ?_
          refine G.assign rfl rfl rfl rfl ?_
          refine G.regionEnd ?_
          refine G.inBlock ?_
          refine G.region (l := [0, 1]) rfl ?_
          refine G.bin (m := x2) (n := 1) (r := wi64 (x2 + 1)) rfl rfl rfl rfl rfl rfl rfl ?_
          refine G.move rfl rfl rfl rfl ?_
          refine G.regionEnd ?_
          refine G.round ?_
          refine G.drop ?_
          refine G.less ?_ (ih111  (decide (((a0.getD x2.toNat (S_armoireref15_Was.mk 0 [])).version) < a1)) (wi64 (x2 + 1)) h)
          exact ⟨rfl, rfl, rfl, rfl, rfl, rfl, trivial⟩
        · replace h := ifFB h k172
          refine G.unwanted rfl rfl rfl rfl ?_
          refine G.unwanted rfl rfl rfl rfl ?_
          refine G.unwanted rfl rfl rfl rfl ?_
          refine G.unwanted rfl rfl rfl rfl ?_
          refine G.pickF rfl rfl rfl rfl rfl ?_
          refine G.assign rfl rfl rfl rfl ?_
          refine G.regionEnd ?_
          refine G.inBlock ?_
          refine G.region (l := [0, 1]) rfl ?_
          refine G.bin (m := x2) (n := 1) (r := wi64 (x2 + 1)) rfl rfl rfl rfl rfl rfl rfl ?_
          refine G.move rfl rfl rfl rfl ?_
          refine G.regionEnd ?_
          refine G.round ?_
          refine G.drop ?_
          refine G.less ?_ (ih111  false (wi64 (x2 + 1)) h)
          exact ⟨rfl, rfl, rfl, rfl, rfl, rfl, trivial⟩
      · replace h := ifF h k221
        refine G.exit rfl ?_
        refine G.seq ?_
        refine G.seq ?_
        refine G.region (l := [0, 1, 2]) rfl ?_
        refine G.move rfl rfl rfl rfl ?_
        refine G.len (m := a2.length) rfl rfl rfl rfl Try.underlying31 ?_
        refine G.move rfl rfl rfl rfl ?_
        refine G.regionEnd ?_
        refine G.block ?_
        refine G.loop (fun GG K => ∀ (d197 : Nat) (b173 : Bool) (x174 : Int), armoireref15_Good.l1 a2 d197 b173 x174 = some r → GG H [(7, .bool b173), (26, .slice A2 a2.length n2), (27, .int .i64 (a2.length : Int)), (28, .int .i64 x174)] (Fr) K) ?_ ?_
        · intro d197
          induction d197 with
          | zero => intro b173 x174 h; rw [armoireref15_Good.l1] at h; cases h
          | succ d197 ih196 =>
            intro b173 x174 h
            rw [armoireref15_Good.l1] at h
            refine G.seq ?_
            refine G.region (l := [0]) rfl ?_
            refine G.cmp (x174 < (a2.length : Int)) rfl rfl rfl rfl rfl rfl Iff.rfl ?_
            refine G.regionEnd ?_
            refine G.seq ?_
            refine G.condP rfl (fun k219 => ?_) (fun k219 => ?_)
            · replace h := ifT h k219
              refine G.skip ?_
              refine G.seq ?_
              refine G.block ?_
              refine G.seq ?_
              refine G.region (l := [0, 1, 2, 3]) rfl ?_
              obtain ⟨k201, h⟩ := guardS h
              refine G.indexR (xs := a2) (j := x174) (S_api_Touch.mk 0 0 [] 0 0) rfl rfl rfl rfl rfl el31 F2 k201 ?_
              intro a199 f200
              refine G.loadA (df := K_S_api_Touch) (y := a2.getD x174.toNat (S_api_Touch.mk 0 0 [] 0 0)) rfl rfl rfl rfl ty24 rfl (fun w hs => Rd.ro f200 hs) ?_
              intro cs202 f203
              obtain rfl := K_S_api_Touch.open f203
              refine G.alloc (dk := K_S_api_Touch) (x0 := (S_api_Touch.mk 0 0 [] 0 0)) (z := .agg (S_api_Touch.enc (S_api_Touch.mk 0 0 [] 0 0)).toArray) (cs := S_api_Touch.enc (S_api_Touch.mk 0 0 [] 0 0)) rfl rfl rfl (by kernel_rfl) rfl (fun H => K_S_api_Touch.of (S_api_Touch.mk 0 0 [] 0 0)) ?_
              intro g204
              refine G.store (df := K_S_api_Touch) (y := a2.getD x174.toNat (S_api_Touch.mk 0 0 [] 0 0)) (x1 := a2.getD x174.toNat (S_api_Touch.mk 0 0 [] 0 0)) rfl rfl rfl rfl (Lens.id _ _) (VR.A (cs := S_api_Touch.enc (a2.getD x174.toNat (S_api_Touch.mk 0 0 [] 0 0))) (K_S_api_Touch.of (a2.getD x174.toNat (S_api_Touch.mk 0 0 [] 0 0)))) sz24 rfl ?_
              refine G.regionEnd ?_
              refine G.region (l := [0, 1, 2, 3, 4, 5, 6]) rfl ?_
              refine G.move rfl rfl rfl rfl ?_
              refine G.move rfl rfl rfl rfl ?_
              refine G.splitB (d := 33) rfl (fun k218 => ?_) (fun k218 => ?_)
              · replace h := ifT h k218
                refine G.loadA (df := K_S_api_Touch) (y := a2.getD x174.toNat (S_api_Touch.mk 0 0 [] 0 0)) rfl rfl rfl rfl ty24 rfl (fun w hs => Rd.bk (Lens.id _ _) hs (j := 0) rfl) ?_
                intro cs212 f213
                obtain rfl := K_S_api_Touch.open f213
                obtain ⟨t214, e215, h⟩ := bindS h
                refine G.callS rfl rfl rfl rfl call11 (armoireref15_Check.ok (a2.getD x174.toNat (S_api_Touch.mk 0 0 [] 0 0)) e215) ?_
                rintro v216 L217 ⟨rfl, rfl⟩
                refine G.cmp (t214 = 0) rfl rfl rfl rfl rfl rfl Iff.rfl ?_
                refine G.pickT rfl rfl rfl rfl rfl ?_
                refine G.assign rfl rfl rfl rfl ?_
                refine G.regionEnd ?_
                refine G.inBlock ?_
                refine G.region (l := [0, 1]) rfl ?_
                refine G.bin (m := x174) (n := 1) (r := wi64 (x174 + 1)) rfl rfl rfl rfl rfl rfl rfl ?_
                refine G.move rfl rfl rfl rfl ?_
                refine G.regionEnd ?_
                refine G.round ?_
                refine G.drop ?_
                refine G.less ?_ (ih196  (decide (t214 = 0)) (wi64 (x174 + 1)) h)
                exact ⟨rfl, rfl, rfl, rfl, trivial⟩
              · replace h := ifFB h k218
                refine G.unwanted rfl rfl rfl rfl ?_
                refine G.unwanted rfl rfl rfl rfl ?_
                refine G.unwanted rfl rfl rfl rfl ?_
                refine G.pickF rfl rfl rfl rfl rfl ?_
                refine G.assign rfl rfl rfl rfl ?_
                refine G.regionEnd ?_
                refine G.inBlock ?_
                refine G.region (l := [0, 1]) rfl ?_
                refine G.bin (m := x174) (n := 1) (r := wi64 (x174 + 1)) rfl rfl rfl rfl rfl rfl rfl ?_
                refine G.move rfl rfl rfl rfl ?_
                refine G.regionEnd ?_
                refine G.round ?_
                refine G.drop ?_
                refine G.less ?_ (ih196  false (wi64 (x174 + 1)) h)
                exact ⟨rfl, rfl, rfl, rfl, trivial⟩
            · replace h := ifF h k219
              refine G.exit rfl ?_
              refine G.seq ?_
              refine G.region (l := [0, 1]) rfl ?_
              refine G.move rfl rfl rfl rfl ?_
              refine G.assign rfl rfl rfl rfl ?_
              refine G.regionEnd ?_
              obtain rfl := Option.some.inj h
              exact G.ret1 Try.func24 rfl rfl (fun w hs => ⟨_, _, rfl, ⟨rfl, rfl⟩, hs⟩)
        intro J220
        refine G.less ?_ (J220 FUEL  b1 0 h)
        exact ⟨rfl, rfl, rfl, rfl, trivial⟩
  intro J222
  refine G.less ?_ (J222 FUEL  true 0 h)
  exact ⟨rfl, rfl, rfl, rfl, rfl, rfl, trivial⟩
set_option maxRecDepth 20000 in
theorem reads_History_Meets_1_1_1.ok {O : World} {H : PH} {Fr : List Res} (a0 : S_api_Touch) (a1 : S_api_Touch) (g1 : Nat) {r : Bool} (h : reads_History_Meets_1_1_1.f a0 a1 = some r) :
    CtrS Try.prog 35 [.agg (S_api_Touch.enc a0).toArray, .pointer (some ⟨g1, 0, none⟩)] O H (BK 24 K_S_api_Touch g1 a1 :: Fr) (fun v L' => v = .bool r ∧ BK 24 K_S_api_Touch g1 a1 :: Fr = L') := by
  refine CtrS.start (n := 7) Try.func35 rfl Try.ntmps35 rfl rfl ?_
  unfold reads_History_Meets_1_1_1.f at h
  refine G.seq ?_
  refine G.region (l := [0, 1]) rfl ?_
  refine G.box (dk := K_S_api_Touch) (y := a0) rfl rfl rfl rfl (VR.A (cs := S_api_Touch.enc a0) (K_S_api_Touch.of a0)) ?_
  intro g2
  refine G.assign rfl rfl rfl rfl ?_
  refine G.regionEnd ?_
  refine G.seq ?_
  refine G.region (l := [0, 1, 2, 3]) rfl ?_
  refine G.loadA (df := K_S_api_Touch) (y := a1) rfl rfl rfl rfl ty24 rfl (fun w hs => Rd.bk (Lens.id _ _) hs (j := 1) rfl) ?_
  intro cs4 f5
  obtain rfl := K_S_api_Touch.open f5
  refine G.loadA (df := K_S_api_Touch) (y := a0) rfl rfl rfl rfl ty24 rfl (fun w hs => Rd.bk (Lens.id _ _) hs (j := 0) rfl) ?_
  intro cs6 f7
  obtain rfl := K_S_api_Touch.open f7
  obtain ⟨t8, e9, h⟩ := bindS h
  refine G.callS rfl rfl rfl rfl call12 (reads_Meet.ok a1 a0 e9) ?_
  rintro v10 L11 ⟨rfl, rfl⟩
  refine G.assign rfl rfl rfl rfl ?_
  refine G.regionEnd ?_
  refine G.drop ?_
  obtain rfl := Option.some.inj h
  exact G.ret1 Try.func35 rfl rfl (fun w hs => ⟨_, _, rfl, ⟨rfl, rfl⟩, hs⟩)
set_option maxRecDepth 20000 in
theorem reads_History_Meets_1_1.ok {O : World} {H : PH} {Fr : List Res} (a0 : S_api_Touch) (a1 : S_reads_was) (g1 : Nat) (A1 : Option Addr) (n1 : Nat) (F1 : SlR K_S_api_Touch H A1 n1 a1.l) {r : Bool} (h : reads_History_Meets_1_1.f a0 a1 = some r) :
    CtrS Try.prog 34 [.agg (S_api_Touch.enc a0).toArray, .pointer (some ⟨g1, 0, none⟩)] O H (BK 63 K_R_reads_was g1 (R_reads_was.mk a1.version (A1, a1.l.length, n1)) :: Fr) (fun v L' => v = .bool r ∧ BK 63 K_R_reads_was g1 (R_reads_was.mk a1.version (A1, a1.l.length, n1)) :: Fr = L') := by
  refine CtrS.start (n := 8) Try.func34 rfl Try.ntmps34 rfl rfl ?_
  unfold reads_History_Meets_1_1.f at h
  refine G.seq ?_
  refine G.region (l := [0, 1]) rfl ?_
  refine G.box (dk := K_S_api_Touch) (y := a0) rfl rfl rfl rfl (VR.A (cs := S_api_Touch.enc a0) (K_S_api_Touch.of a0)) ?_
  intro g2
  refine G.assign rfl rfl rfl rfl ?_
  refine G.regionEnd ?_
  refine G.seq ?_
  refine G.region (l := [0, 1, 2, 3, 4]) rfl ?_
  refine G.field (off' := 1) rfl rfl rfl rfl Try.underlying63 rfl sz31 rfl rfl ?_
  refine G.loadH (B := A1) (m := a1.l.length) (c := n1) rfl rfl rfl rfl ty31r (fun w hs => Rd.bk (R_reads_was.L_l _) hs (j := 1) rfl) ?_
  refine G.makeFunc (fs := []) (cs := [.pointer (some ⟨g2, 0, none⟩)]) rfl rfl rfl rfl rfl ?_
  refine G.inl (n' := 9) rfl rfl rfl rfl call30 Try.func30 rfl Try.ntmps30 rfl rfl ?_
  intro R4 rt5
  refine G.seq ?_
  refine G.region (l := [0]) rfl ?_
  refine G.assign rfl rfl rfl rfl ?_
  refine G.regionEnd ?_
  refine G.seq ?_
  refine G.region (l := [0, 1, 2, 3, 4]) rfl ?_
  refine G.move rfl rfl rfl rfl ?_
  refine G.move rfl rfl rfl rfl ?_
  refine G.inl (n' := 19) rfl rfl rfl rfl call39 Try.func39 rfl Try.ntmps39 rfl rfl ?_
  intro R64 rt65
  refine G.seq ?_
  refine G.region (l := [0]) rfl ?_
  refine G.assign rfl rfl rfl rfl ?_
  refine G.regionEnd ?_
  refine G.seq ?_
  refine G.seq ?_
  refine G.region (l := [0, 1, 2]) rfl ?_
  refine G.move rfl rfl rfl rfl ?_
  refine G.len (m := a1.l.length) rfl rfl rfl rfl Try.underlying31 ?_
  refine G.move rfl rfl rfl rfl ?_
  refine G.regionEnd ?_
  refine G.block ?_
  refine G.loop (fun GG K => ∀ (d107 : Nat) (x94 : Int), reads_History_Meets_1_1.l0 a0 a1 d107 x94 = some r → GG H [(0, .slice A1 a1.l.length n1), (1, .func (.func 35) #[] #[.pointer (some ⟨g2, 0, none⟩)]), (7, .int .i64 (a1.l.length : Int)), (8, .int .i64 x94)] (BK 24 K_S_api_Touch g2 a0 :: BK 63 K_R_reads_was g1 (R_reads_was.mk a1.version (A1, a1.l.length, n1)) :: Fr) K) ?_ ?_
  · intro d107
    induction d107 with
    | zero => intro x94 h; rw [reads_History_Meets_1_1.l0] at h; cases h
    | succ d107 ih106 =>
      intro x94 h
      rw [reads_History_Meets_1_1.l0] at h
      refine G.seq ?_
      refine G.region (l := [0]) rfl ?_
      refine G.cmp (x94 < (a1.l.length : Int)) rfl rfl rfl rfl rfl rfl Iff.rfl ?_
      refine G.regionEnd ?_
      refine G.seq ?_
      refine G.condP rfl (fun k119 => ?_) (fun k119 => ?_)
      · replace h := ifT h k119
        refine G.skip ?_
        refine G.seq ?_
        refine G.block ?_
        refine G.seq ?_
        refine G.region (l := [0, 1]) rfl ?_
        refine G.move rfl rfl rfl rfl ?_
        refine G.assign rfl rfl rfl rfl ?_
        refine G.regionEnd ?_
        refine G.seq ?_
        refine G.region (l := [0, 1, 2, 3, 4, 5]) rfl ?_
        refine G.move rfl rfl rfl rfl ?_
        refine G.move rfl rfl rfl rfl ?_
        refine G.move rfl rfl rfl rfl ?_
        obtain ⟨k111, h⟩ := guardS h
        refine G.indexR (xs := a1.l) (j := x94) (S_api_Touch.mk 0 0 [] 0 0) rfl rfl rfl rfl rfl el31 F1 k111 ?_
        intro a109 f110
        refine G.loadA (df := K_S_api_Touch) (y := a1.l.getD x94.toNat (S_api_Touch.mk 0 0 [] 0 0)) rfl rfl rfl rfl ty24 rfl (fun w hs => Rd.ro f110 hs) ?_
        intro cs112 f113
        obtain rfl := K_S_api_Touch.open f113
        obtain ⟨t114, e115, h⟩ := bindS h
        refine G.callSV rfl rfl rfl rfl rfl rfl call35 (reads_History_Meets_1_1_1.ok (a1.l.getD x94.toNat (S_api_Touch.mk 0 0 [] 0 0)) a0 g2 e115) ?_
        rintro v116 L117 ⟨rfl, rfl⟩
        refine G.regionEnd ?_
        refine G.cond rfl (fun k118 => ?_) (fun k118 => ?_)
        · replace h := ifT h k118
          refine G.seq ?_
          refine G.region (l := [0, 1]) rfl ?_
          refine G.move rfl rfl rfl rfl ?_
          refine G.assign rfl rfl rfl rfl ?_
          refine G.regionEnd ?_
          refine G.ret1 Try.func39 rfl rfl (rt65 _ _ _ ?_)
          refine G.cmp (0 ≤ x94) rfl rfl rfl rfl rfl rfl Iff.rfl ?_
          refine G.assign rfl rfl rfl rfl ?_
          refine G.regionEnd ?_
          refine G.ret1 Try.func30 rfl rfl (rt5 _ _ _ ?_)
          refine G.assign rfl rfl rfl rfl ?_
          refine G.regionEnd ?_
          refine G.drop ?_
          obtain rfl := Option.some.inj h
          exact G.ret1 Try.func34 rfl rfl (fun w hs => ⟨_, _, rfl, ⟨rfl, rfl⟩, hs⟩)
        · replace h := ifFB h k118
          refine G.skip ?_
          refine G.inBlock ?_
          refine G.region (l := [0, 1]) rfl ?_
          refine G.bin (m := x94) (n := 1) (r := wi64 (x94 + 1)) rfl rfl rfl rfl rfl rfl rfl ?_
          refine G.move rfl rfl rfl rfl ?_
          refine G.regionEnd ?_
          refine G.round ?_
          refine G.frontAt 1 rfl ?_
          refine G.frontAt 1 rfl ?_
          refine G.less ?_ (ih106  (wi64 (x94 + 1)) h)
          exact ⟨rfl, rfl, rfl, rfl, trivial⟩
      · replace h := ifF h k119
        refine G.exit rfl ?_
        refine G.seq ?_
        refine G.region (l := [0]) rfl ?_
        refine G.assign rfl rfl rfl rfl ?_
        refine G.regionEnd ?_
        refine G.ret1 Try.func39 rfl rfl (rt65 _ _ _ ?_)
        refine G.cmp (False) rfl rfl rfl rfl rfl rfl (by simp [cmpP]) ?_
        refine G.assign rfl rfl rfl rfl ?_
        refine G.regionEnd ?_
        refine G.ret1 Try.func30 rfl rfl (rt5 _ _ _ ?_)
        refine G.assign rfl rfl rfl rfl ?_
        refine G.regionEnd ?_
        refine G.drop ?_
        obtain rfl := Option.some.inj h
        exact G.ret1 Try.func34 rfl rfl (fun w hs => ⟨_, _, rfl, ⟨rfl, rfl⟩, hs⟩)
  intro J120
  refine G.frontAt 1 rfl ?_
  refine G.frontAt 1 rfl ?_
  refine G.less ?_ (J120 FUEL  0 h)
  exact ⟨rfl, rfl, rfl, rfl, trivial⟩
set_option maxRecDepth 20000 in
theorem reads_History_Meets_1.ok {O : World} {H : PH} {Fr : List Res} (a0 : S_reads_was) (A0 : Option Addr) (n0 : Nat) (F0 : SlR K_S_api_Touch H A0 n0 a0.l) (a1 : Int) (g1 : Nat) (a2 : (List S_api_Touch)) (g2 : Nat) (A2 : Option Addr) (n2 : Nat) (F2 : SlR K_S_api_Touch H A2 n2 a2) {r : Bool} (h : reads_History_Meets_1.f a0 a1 a2 = some r) :
    CtrS Try.prog 33 [.agg (([.int .u64 a0.version] : List Value) ++ (([.slice A0 a0.l.length n0] : List Value))).toArray, .pointer (some ⟨g1, 0, none⟩), .pointer (some ⟨g2, 0, none⟩)] O H (BK 30 (Kd.int .u64) g1 a1 :: BK 31 Kd.hdr g2 (A2, a2.length, n2) :: Fr) (fun v L' => v = .bool r ∧ BK 30 (Kd.int .u64) g1 a1 :: BK 31 Kd.hdr g2 (A2, a2.length, n2) :: Fr = L') := by
  refine CtrS.start (n := 14) Try.func33 rfl Try.ntmps33 rfl rfl ?_
  unfold reads_History_Meets_1.f at h
  refine G.seq ?_
  refine G.region (l := [0, 1]) rfl ?_
  refine G.box (dk := K_R_reads_was) (y := (R_reads_was.mk a0.version (A0, a0.l.length, n0))) rfl rfl rfl rfl (VR.A (cs := ([.int .u64 a0.version] : List Value) ++ (([.slice A0 a0.l.length n0] : List Value))) (K_R_reads_was.mk rfl rfl)) ?_
  intro g3
  refine G.assign rfl rfl rfl rfl ?_
  refine G.regionEnd ?_
  refine G.seq ?_
  refine G.region (l := [0, 1, 2, 3, 4, 5, 6, 7, 8, 9]) rfl ?_
  refine G.field (off' := 0) rfl rfl rfl rfl Try.underlying63 rfl sz30 rfl rfl ?_
  refine G.loadI (y := a0.version) rfl rfl rfl rfl ty30 (fun w hs => Rd.bk (R_reads_was.L_version _) hs (j := 0) rfl) ?_
  refine G.loadI (y := a1) rfl rfl rfl rfl ty30 (fun w hs => Rd.bk (Lens.id _ _) hs (j := 1) rfl) ?_
  refine G.cmp (a1 < a0.version) rfl rfl rfl rfl rfl rfl Iff.rfl ?_
  refine G.move rfl rfl rfl rfl ?_
  refine G.splitP (d := 9) rfl (fun k240 => ?_) (fun k240 => ?_)
  · replace h := ifT h k240
    refine G.loadH (B := A2) (m := a2.length) (c := n2) rfl rfl rfl rfl ty31r (fun w hs => Rd.bk (Lens.id _ _) hs (j := 2) rfl) ?_
    refine G.makeFunc (fs := []) (cs := [.pointer (some ⟨g3, 0, none⟩)]) rfl rfl rfl rfl rfl ?_
    refine G.inl (n' := 9) rfl rfl rfl rfl call30 Try.func30 rfl Try.ntmps30 rfl rfl ?_
    intro R123 rt124
    refine G.seq ?_
    refine G.region (l := [0]) rfl ?_
    refine G.assign rfl rfl rfl rfl ?_
    refine G.regionEnd ?_
    refine G.seq ?_
    refine G.region (l := [0, 1, 2, 3, 4]) rfl ?_
    refine G.move rfl rfl rfl rfl ?_
    refine G.move rfl rfl rfl rfl ?_
    refine G.inl (n' := 19) rfl rfl rfl rfl call39 Try.func39 rfl Try.ntmps39 rfl rfl ?_
    intro R183 rt184
    refine G.seq ?_
    refine G.region (l := [0]) rfl ?_
    refine G.assign rfl rfl rfl rfl ?_
    refine G.regionEnd ?_
    refine G.seq ?_
    refine G.seq ?_
    refine G.region (l := [0, 1, 2]) rfl ?_
    refine G.move rfl rfl rfl rfl ?_
    refine G.len (m := a2.length) rfl rfl rfl rfl Try.underlying31 ?_
    refine G.move rfl rfl rfl rfl ?_
    refine G.regionEnd ?_
    refine G.block ?_
    refine G.loop (fun GG K => ∀ (d226 : Nat) (x213 : Int), reads_History_Meets_1.l0 a0 a2 d226 x213 = some r → GG H [(0, .slice A2 a2.length n2), (1, .func (.func 34) #[] #[.pointer (some ⟨g3, 0, none⟩)]), (7, .int .i64 (a2.length : Int)), (8, .int .i64 x213)] (BK 63 K_R_reads_was g3 (R_reads_was.mk a0.version (A0, a0.l.length, n0)) :: BK 30 (Kd.int .u64) g1 a1 :: BK 31 Kd.hdr g2 (A2, a2.length, n2) :: Fr) K) ?_ ?_
    · intro d226
      induction d226 with
      | zero => intro x213 h; rw [reads_History_Meets_1.l0] at h; cases h
      | succ d226 ih225 =>
        intro x213 h
        rw [reads_History_Meets_1.l0] at h
        refine G.seq ?_
        refine G.region (l := [0]) rfl ?_
        refine G.cmp (x213 < (a2.length : Int)) rfl rfl rfl rfl rfl rfl Iff.rfl ?_
        refine G.regionEnd ?_
        refine G.seq ?_
        refine G.condP rfl (fun k238 => ?_) (fun k238 => ?_)
        · replace h := ifT h k238
          refine G.skip ?_
          refine G.seq ?_
          refine G.block ?_
          refine G.seq ?_
          refine G.region (l := [0, 1]) rfl ?_
          refine G.move rfl rfl rfl rfl ?_
          refine G.assign rfl rfl rfl rfl ?_
          refine G.regionEnd ?_
          refine G.seq ?_
          refine G.region (l := [0, 1, 2, 3, 4, 5]) rfl ?_
          refine G.move rfl rfl rfl rfl ?_
          refine G.move rfl rfl rfl rfl ?_
          refine G.move rfl rfl rfl rfl ?_
          obtain ⟨k230, h⟩ := guardS h
          refine G.indexR (xs := a2) (j := x213) (S_api_Touch.mk 0 0 [] 0 0) rfl rfl rfl rfl rfl el31 F2 k230 ?_
          intro a228 f229
          refine G.loadA (df := K_S_api_Touch) (y := a2.getD x213.toNat (S_api_Touch.mk 0 0 [] 0 0)) rfl rfl rfl rfl ty24 rfl (fun w hs => Rd.ro f229 hs) ?_
          intro cs231 f232
          obtain rfl := K_S_api_Touch.open f232
          obtain ⟨t233, e234, h⟩ := bindS h
          refine G.callSV rfl rfl rfl rfl rfl rfl call34 (reads_History_Meets_1_1.ok (a2.getD x213.toNat (S_api_Touch.mk 0 0 [] 0 0)) a0 g3 A0 n0 F0 e234) ?_
          rintro v235 L236 ⟨rfl, rfl⟩
          refine G.regionEnd ?_
          refine G.cond rfl (fun k237 => ?_) (fun k237 => ?_)
          · replace h := ifT h k237
            refine G.seq ?_
            refine G.region (l := [0, 1]) rfl ?_
            refine G.move rfl rfl rfl rfl ?_
            refine G.assign rfl rfl rfl rfl ?_
            refine G.regionEnd ?_
            refine G.ret1 Try.func39 rfl rfl (rt184 _ _ _ ?_)
            refine G.cmp (0 ≤ x213) rfl rfl rfl rfl rfl rfl Iff.rfl ?_
            refine G.assign rfl rfl rfl rfl ?_
            refine G.regionEnd ?_
            refine G.ret1 Try.func30 rfl rfl (rt124 _ _ _ ?_)
            refine G.pickT rfl rfl rfl rfl rfl ?_
            refine G.assign rfl rfl rfl rfl ?_
            refine G.regionEnd ?_
            refine G.drop ?_
            refine G.frontAt 1 rfl ?_
            refine G.frontAt 1 rfl ?_
            obtain rfl := Option.some.inj h
            exact G.ret1 Try.func33 rfl rfl (fun w hs => ⟨_, _, rfl, ⟨rfl, rfl⟩, hs⟩)
          · replace h := ifFB h k237
            refine G.skip ?_
            refine G.inBlock ?_
            refine G.region (l := [0, 1]) rfl ?_
            refine G.bin (m := x213) (n := 1) (r := wi64 (x213 + 1)) rfl rfl rfl rfl rfl rfl rfl ?_
            refine G.move rfl rfl rfl rfl ?_
            refine G.regionEnd ?_
            refine G.round ?_
            refine G.frontAt 2 rfl ?_
            refine G.frontAt 2 rfl ?_
            refine G.frontAt 2 rfl ?_
            refine G.less ?_ (ih225  (wi64 (x213 + 1)) h)
            exact ⟨rfl, rfl, rfl, rfl, trivial⟩
        · replace h := ifF h k238
          refine G.exit rfl ?_
          refine G.seq ?_
          refine G.region (l := [0]) rfl ?_
          refine G.assign rfl rfl rfl rfl ?_
          refine G.regionEnd ?_
          refine G.ret1 Try.func39 rfl rfl (rt184 _ _ _ ?_)
          refine G.cmp (False) rfl rfl rfl rfl rfl rfl (by simp [cmpP]) ?_
          refine G.assign rfl rfl rfl rfl ?_
          refine G.regionEnd ?_
          refine G.ret1 Try.func30 rfl rfl (rt124 _ _ _ ?_)
          refine G.pickT rfl rfl rfl rfl rfl ?_
          refine G.assign rfl rfl rfl rfl ?_
          refine G.regionEnd ?_
          refine G.drop ?_
          refine G.frontAt 1 rfl ?_
          refine G.frontAt 1 rfl ?_
          obtain rfl := Option.some.inj h
          exact G.ret1 Try.func33 rfl rfl (fun w hs => ⟨_, _, rfl, ⟨rfl, rfl⟩, hs⟩)
    intro J239
    refine G.frontAt 2 rfl ?_
    refine G.frontAt 2 rfl ?_
    refine G.frontAt 2 rfl ?_
    refine G.less ?_ (J239 FUEL  0 h)
    exact ⟨rfl, rfl, rfl, rfl, trivial⟩
  · replace h := ifF h k240
    refine G.unwanted rfl rfl rfl rfl ?_
    refine G.unwanted rfl rfl rfl rfl ?_
    refine G.unwanted rfl rfl rfl rfl ?_
    refine G.pickF rfl rfl rfl rfl rfl ?_
    refine G.assign rfl rfl rfl rfl ?_
    refine G.regionEnd ?_
    refine G.drop ?_
    refine G.frontAt 1 rfl ?_
    refine G.frontAt 1 rfl ?_
    obtain rfl := Option.some.inj h
    exact G.ret1 Try.func33 rfl rfl (fun w hs => ⟨_, _, rfl, ⟨rfl, rfl⟩, hs⟩)
set_option maxRecDepth 20000 in
theorem reads_History_Meets.ok {O : World} {H : PH} {Fr : List Res} (a0 : S_reads_History) (g0 : Nat) (A0 : Option Addr) (n0 : Nat) (a1 : Int) (a2 : (List S_api_Touch)) (A2 : Option Addr) (n2 : Nat) (F2 : SlR K_S_api_Touch H A2 n2 a2) {r : Bool} (h : reads_History_Meets.f a0 a1 a2 = some r) :
    CtrS Try.prog 16 [.pointer (some ⟨g0, 0, none⟩), .int .u64 a1, .slice A2 a2.length n2] O H (BK 60 K_R_reads_History g0 (R_reads_History.mk (A0, a0.l.length, n0)) :: OS 63 K_S_reads_was A0 n0 a0.l :: Fr) (fun v L' => v = .bool r ∧ BK 60 K_R_reads_History g0 (R_reads_History.mk (A0, a0.l.length, n0)) :: OS 63 K_S_reads_was A0 n0 a0.l :: Fr = L') := by
  refine CtrS.start (n := 13) Try.func16 rfl Try.ntmps16 rfl rfl ?_
  unfold reads_History_Meets.f at h
  refine G.seq ?_
  refine G.region (l := [0, 1, 2]) rfl ?_
  refine G.box (dk := (Kd.int .u64)) (y := a1) rfl rfl rfl rfl ⟨([.int .u64 a1] : List Value), rfl, rfl⟩ ?_
  intro g3
  refine G.box (dk := Kd.hdr) (y := (A2, a2.length, n2)) rfl rfl rfl rfl ⟨([.slice A2 a2.length n2] : List Value), rfl, rfl⟩ ?_
  intro g5
  refine G.assign rfl rfl rfl rfl ?_
  refine G.regionEnd ?_
  refine G.seq ?_
  refine G.region (l := [0, 1, 2, 3, 4, 5, 6]) rfl ?_
  refine G.move rfl rfl rfl rfl ?_
  refine G.nilCheck rfl rfl rfl rfl ?_
  refine G.field (off' := 0) rfl rfl rfl rfl Try.underlying60 rfl sz58 rfl rfl ?_
  refine G.loadH (B := A0) (m := a0.l.length) (c := n0) rfl rfl rfl rfl ty58r (fun w hs => Rd.bk (R_reads_History.L_l _) hs (j := 2) rfl) ?_
  refine G.makeFunc (fs := []) (cs := [.pointer (some ⟨g3, 0, none⟩), .pointer (some ⟨g5, 0, none⟩)]) rfl rfl rfl rfl rfl ?_
  refine G.inl (n' := 9) rfl rfl rfl rfl call32 Try.func32 rfl Try.ntmps32 rfl rfl ?_
  intro R7 rt8
  refine G.seq ?_
  refine G.region (l := [0]) rfl ?_
  refine G.assign rfl rfl rfl rfl ?_
  refine G.regionEnd ?_
  refine G.seq ?_
  refine G.region (l := [0, 1, 2, 3, 4]) rfl ?_
  refine G.move rfl rfl rfl rfl ?_
  refine G.move rfl rfl rfl rfl ?_
  refine G.inl (n' := 19) rfl rfl rfl rfl call40 Try.func40 rfl Try.ntmps40 rfl rfl ?_
  intro R75 rt76
  refine G.seq ?_
  refine G.region (l := [0]) rfl ?_
  refine G.assign rfl rfl rfl rfl ?_
  refine G.regionEnd ?_
  refine G.seq ?_
  refine G.seq ?_
  refine G.region (l := [0, 1, 2]) rfl ?_
  refine G.move rfl rfl rfl rfl ?_
  refine G.len (m := a0.l.length) rfl rfl rfl rfl Try.underlying58 ?_
  refine G.move rfl rfl rfl rfl ?_
  refine G.regionEnd ?_
  refine G.block ?_
  refine G.loop (fun GG K => ∀ (d124 : Nat) (x109 : Int), reads_History_Meets.l0 a0 a1 a2 d124 x109 = some r → GG H [(0, .slice A0 a0.l.length n0), (1, .func (.func 33) #[] #[.pointer (some ⟨g3, 0, none⟩), .pointer (some ⟨g5, 0, none⟩)]), (7, .int .i64 (a0.l.length : Int)), (8, .int .i64 x109)] (OS 63 K_S_reads_was A0 n0 a0.l :: BK 30 (Kd.int .u64) g3 a1 :: BK 31 Kd.hdr g5 (A2, a2.length, n2) :: BK 60 K_R_reads_History g0 (R_reads_History.mk (A0, a0.l.length, n0)) :: Fr) K) ?_ ?_
  · intro d124
    induction d124 with
    | zero => intro x109 h; rw [reads_History_Meets.l0] at h; cases h
    | succ d124 ih123 =>
      intro x109 h
      rw [reads_History_Meets.l0] at h
      refine G.seq ?_
      refine G.region (l := [0]) rfl ?_
      refine G.cmp (x109 < (a0.l.length : Int)) rfl rfl rfl rfl rfl rfl Iff.rfl ?_
      refine G.regionEnd ?_
      refine G.seq ?_
      refine G.condP rfl (fun k138 => ?_) (fun k138 => ?_)
      · replace h := ifT h k138
        refine G.skip ?_
        refine G.seq ?_
        refine G.block ?_
        refine G.seq ?_
        refine G.region (l := [0, 1]) rfl ?_
        refine G.move rfl rfl rfl rfl ?_
        refine G.assign rfl rfl rfl rfl ?_
        refine G.regionEnd ?_
        refine G.seq ?_
        refine G.region (l := [0, 1, 2, 3, 4, 5]) rfl ?_
        refine G.move rfl rfl rfl rfl ?_
        refine G.move rfl rfl rfl rfl ?_
        refine G.move rfl rfl rfl rfl ?_
        obtain ⟨k127, h⟩ := guardS h
        have q126 : x109.toNat < a0.l.length := by omega
        refine G.indexO (xs := a0.l) (j := x109) (off := x109.toNat * 2) rfl rfl rfl rfl rfl el58 (r := 0) rfl (by simp) k127 rfl ?_
        refine G.loadA (df := K_S_reads_was) (y := a0.l.getD x109.toNat (S_reads_was.mk 0 [])) rfl rfl rfl rfl ty63 rfl (fun w hs => Rd.osG q126 (Lens.id _ _) hs (j := 0) rfl (o := x109.toNat * 2) (by first | rfl | simp)) ?_
        intro cs128 f129
        obtain ⟨B130, c131, f132, rfl⟩ := K_S_reads_was.open f129
        refine G.frontAt 2 rfl ?_
        refine G.frontAt 2 rfl ?_
        obtain ⟨t133, e134, h⟩ := bindS h
        refine G.callSV rfl rfl rfl rfl rfl rfl call33 (reads_History_Meets_1.ok (a0.l.getD x109.toNat (S_reads_was.mk 0 [])) B130 c131 f132 a1 g3 a2 g5 A2 n2 F2 e134) ?_
        rintro v135 L136 ⟨rfl, rfl⟩
        refine G.regionEnd ?_
        refine G.cond rfl (fun k137 => ?_) (fun k137 => ?_)
        · replace h := ifT h k137
          refine G.seq ?_
          refine G.region (l := [0, 1]) rfl ?_
          refine G.move rfl rfl rfl rfl ?_
          refine G.assign rfl rfl rfl rfl ?_
          refine G.regionEnd ?_
          refine G.ret1 Try.func40 rfl rfl (rt76 _ _ _ ?_)
          refine G.cmp (0 ≤ x109) rfl rfl rfl rfl rfl rfl Iff.rfl ?_
          refine G.assign rfl rfl rfl rfl ?_
          refine G.regionEnd ?_
          refine G.ret1 Try.func32 rfl rfl (rt8 _ _ _ ?_)
          refine G.assign rfl rfl rfl rfl ?_
          refine G.regionEnd ?_
          refine G.drop ?_
          refine G.drop ?_
          refine G.frontAt 1 rfl ?_
          obtain rfl := Option.some.inj h
          exact G.ret1 Try.func16 rfl rfl (fun w hs => ⟨_, _, rfl, ⟨rfl, rfl⟩, hs⟩)
        · replace h := ifFB h k137
          refine G.skip ?_
          refine G.inBlock ?_
          refine G.region (l := [0, 1]) rfl ?_
          refine G.bin (m := x109) (n := 1) (r := wi64 (x109 + 1)) rfl rfl rfl rfl rfl rfl rfl ?_
          refine G.move rfl rfl rfl rfl ?_
          refine G.regionEnd ?_
          refine G.round ?_
          refine G.frontAt 3 rfl ?_
          refine G.frontAt 2 rfl ?_
          refine G.frontAt 2 rfl ?_
          refine G.frontAt 3 rfl ?_
          refine G.less ?_ (ih123  (wi64 (x109 + 1)) h)
          exact ⟨rfl, rfl, rfl, rfl, trivial⟩
      · replace h := ifF h k138
        refine G.exit rfl ?_
        refine G.seq ?_
        refine G.region (l := [0]) rfl ?_
        refine G.assign rfl rfl rfl rfl ?_
        refine G.regionEnd ?_
        refine G.ret1 Try.func40 rfl rfl (rt76 _ _ _ ?_)
        refine G.cmp (False) rfl rfl rfl rfl rfl rfl (by simp [cmpP]) ?_
        refine G.assign rfl rfl rfl rfl ?_
        refine G.regionEnd ?_
        refine G.ret1 Try.func32 rfl rfl (rt8 _ _ _ ?_)
        refine G.assign rfl rfl rfl rfl ?_
        refine G.regionEnd ?_
        refine G.frontAt 1 rfl ?_
        refine G.drop ?_
        refine G.frontAt 1 rfl ?_
        refine G.drop ?_
        refine G.frontAt 1 rfl ?_
        obtain rfl := Option.some.inj h
        exact G.ret1 Try.func16 rfl rfl (fun w hs => ⟨_, _, rfl, ⟨rfl, rfl⟩, hs⟩)
  intro J139
  refine G.frontAt 2 rfl ?_
  refine G.frontAt 1 rfl ?_
  refine G.frontAt 2 rfl ?_
  refine G.frontAt 3 rfl ?_
  refine G.less ?_ (J139 FUEL  0 h)
  exact ⟨rfl, rfl, rfl, rfl, trivial⟩
set_option maxRecDepth 20000 in
theorem reads_History_Meets_1_s2.ok {O : World} {H : PH} {Fr : List Res} (a0 : S_reads_was) (A0 : Option Addr) (n0 : Nat) (F0 : SlR K_S_api_Touch H A0 n0 a0.l) (a1 : Int) (g1 : Nat) (a2 : (List S_api_Touch)) (g2 : Nat) (A2 : Option Addr) (n2 : Nat) {r : Bool} (h : reads_History_Meets_1.f a0 a1 a2 = some r) :
    CtrS Try.prog 33 [.agg (([.int .u64 a0.version] : List Value) ++ (([.slice A0 a0.l.length n0] : List Value))).toArray, .pointer (some ⟨g1, 0, none⟩), .pointer (some ⟨g2, 0, none⟩)] O H (BK 30 (Kd.int .u64) g1 a1 :: BK 31 Kd.hdr g2 (A2, a2.length, n2) :: OS 24 K_S_api_Touch A2 n2 a2 :: Fr) (fun v L' => v = .bool r ∧ BK 30 (Kd.int .u64) g1 a1 :: BK 31 Kd.hdr g2 (A2, a2.length, n2) :: OS 24 K_S_api_Touch A2 n2 a2 :: Fr = L') := by
  refine CtrS.start (n := 14) Try.func33 rfl Try.ntmps33 rfl rfl ?_
  unfold reads_History_Meets_1.f at h
  refine G.seq ?_
  refine G.region (l := [0, 1]) rfl ?_
  refine G.box (dk := K_R_reads_was) (y := (R_reads_was.mk a0.version (A0, a0.l.length, n0))) rfl rfl rfl rfl (VR.A (cs := ([.int .u64 a0.version] : List Value) ++ (([.slice A0 a0.l.length n0] : List Value))) (K_R_reads_was.mk rfl rfl)) ?_
  intro g4
  refine G.assign rfl rfl rfl rfl ?_
  refine G.regionEnd ?_
  refine G.seq ?_
  refine G.region (l := [0, 1, 2, 3, 4, 5, 6, 7, 8, 9]) rfl ?_
  refine G.field (off' := 0) rfl rfl rfl rfl Try.underlying63 rfl sz30 rfl rfl ?_
  refine G.loadI (y := a0.version) rfl rfl rfl rfl ty30 (fun w hs => Rd.bk (R_reads_was.L_version _) hs (j := 0) rfl) ?_
  refine G.loadI (y := a1) rfl rfl rfl rfl ty30 (fun w hs => Rd.bk (Lens.id _ _) hs (j := 1) rfl) ?_
  refine G.cmp (a1 < a0.version) rfl rfl rfl rfl rfl rfl Iff.rfl ?_
  refine G.move rfl rfl rfl rfl ?_
  refine G.splitP (d := 9) rfl (fun k225 => ?_) (fun k225 => ?_)
  · replace h := ifT h k225
    refine G.loadH (B := A2) (m := a2.length) (c := n2) rfl rfl rfl rfl ty31r (fun w hs => Rd.bk (Lens.id _ _) hs (j := 2) rfl) ?_
    refine G.makeFunc (fs := []) (cs := [.pointer (some ⟨g4, 0, none⟩)]) rfl rfl rfl rfl rfl ?_
    refine G.inl (n' := 9) rfl rfl rfl rfl call30 Try.func30 rfl Try.ntmps30 rfl rfl ?_
    intro R116 rt117
    refine G.seq ?_
    refine G.region (l := [0]) rfl ?_
    refine G.assign rfl rfl rfl rfl ?_
    refine G.regionEnd ?_
    refine G.seq ?_
    refine G.region (l := [0, 1, 2, 3, 4]) rfl ?_
    refine G.move rfl rfl rfl rfl ?_
    refine G.move rfl rfl rfl rfl ?_
    refine G.inl (n' := 19) rfl rfl rfl rfl call39 Try.func39 rfl Try.ntmps39 rfl rfl ?_
    intro R172 rt173
    refine G.seq ?_
    refine G.region (l := [0]) rfl ?_
    refine G.assign rfl rfl rfl rfl ?_
    refine G.regionEnd ?_
    refine G.seq ?_
    refine G.seq ?_
    refine G.region (l := [0, 1, 2]) rfl ?_
    refine G.move rfl rfl rfl rfl ?_
    refine G.len (m := a2.length) rfl rfl rfl rfl Try.underlying31 ?_
    refine G.move rfl rfl rfl rfl ?_
    refine G.regionEnd ?_
    refine G.block ?_
    refine G.loop (fun GG K => ∀ (d212 : Nat) (x200 : Int), reads_History_Meets_1.l0 a0 a2 d212 x200 = some r → GG H [(0, .slice A2 a2.length n2), (1, .func (.func 34) #[] #[.pointer (some ⟨g4, 0, none⟩)]), (7, .int .i64 (a2.length : Int)), (8, .int .i64 x200)] (OS 24 K_S_api_Touch A2 n2 a2 :: BK 63 K_R_reads_was g4 (R_reads_was.mk a0.version (A0, a0.l.length, n0)) :: BK 30 (Kd.int .u64) g1 a1 :: BK 31 Kd.hdr g2 (A2, a2.length, n2) :: Fr) K) ?_ ?_
    · intro d212
      induction d212 with
      | zero => intro x200 h; rw [reads_History_Meets_1.l0] at h; cases h
      | succ d212 ih211 =>
        intro x200 h
        rw [reads_History_Meets_1.l0] at h
        refine G.seq ?_
        refine G.region (l := [0]) rfl ?_
        refine G.cmp (x200 < (a2.length : Int)) rfl rfl rfl rfl rfl rfl Iff.rfl ?_
        refine G.regionEnd ?_
        refine G.seq ?_
        refine G.condP rfl (fun k223 => ?_) (fun k223 => ?_)
        · replace h := ifT h k223
          refine G.skip ?_
          refine G.seq ?_
          refine G.block ?_
          refine G.seq ?_
          refine G.region (l := [0, 1]) rfl ?_
          refine G.move rfl rfl rfl rfl ?_
          refine G.assign rfl rfl rfl rfl ?_
          refine G.regionEnd ?_
          refine G.seq ?_
          refine G.region (l := [0, 1, 2, 3, 4, 5]) rfl ?_
          refine G.move rfl rfl rfl rfl ?_
          refine G.move rfl rfl rfl rfl ?_
          refine G.move rfl rfl rfl rfl ?_
          obtain ⟨k215, h⟩ := guardS h
          have q214 : x200.toNat < a2.length := by omega
          refine G.indexO (xs := a2) (j := x200) (off := x200.toNat * 5) rfl rfl rfl rfl rfl el31 (r := 0) rfl (by simp) k215 rfl ?_
          refine G.loadA (df := K_S_api_Touch) (y := a2.getD x200.toNat (S_api_Touch.mk 0 0 [] 0 0)) rfl rfl rfl rfl ty24 rfl (fun w hs => Rd.osG q214 (Lens.id _ _) hs (j := 0) rfl (o := x200.toNat * 5) (by first | rfl | simp)) ?_
          intro cs216 f217
          obtain rfl := K_S_api_Touch.open f217
          refine G.frontAt 1 rfl ?_
          obtain ⟨t218, e219, h⟩ := bindS h
          refine G.callSV rfl rfl rfl rfl rfl rfl call34 (reads_History_Meets_1_1.ok (a2.getD x200.toNat (S_api_Touch.mk 0 0 [] 0 0)) a0 g4 A0 n0 F0 e219) ?_
          rintro v220 L221 ⟨rfl, rfl⟩
          refine G.regionEnd ?_
          refine G.cond rfl (fun k222 => ?_) (fun k222 => ?_)
          · replace h := ifT h k222
            refine G.seq ?_
            refine G.region (l := [0, 1]) rfl ?_
            refine G.move rfl rfl rfl rfl ?_
            refine G.assign rfl rfl rfl rfl ?_
            refine G.regionEnd ?_
            refine G.ret1 Try.func39 rfl rfl (rt173 _ _ _ ?_)
            refine G.cmp (0 ≤ x200) rfl rfl rfl rfl rfl rfl Iff.rfl ?_
            refine G.assign rfl rfl rfl rfl ?_
            refine G.regionEnd ?_
            refine G.ret1 Try.func30 rfl rfl (rt117 _ _ _ ?_)
            refine G.pickT rfl rfl rfl rfl rfl ?_
            refine G.assign rfl rfl rfl rfl ?_
            refine G.regionEnd ?_
            refine G.drop ?_
            refine G.frontAt 2 rfl ?_
            refine G.frontAt 2 rfl ?_
            obtain rfl := Option.some.inj h
            exact G.ret1 Try.func33 rfl rfl (fun w hs => ⟨_, _, rfl, ⟨rfl, rfl⟩, hs⟩)
          · replace h := ifFB h k222
            refine G.skip ?_
            refine G.inBlock ?_
            refine G.region (l := [0, 1]) rfl ?_
            refine G.bin (m := x200) (n := 1) (r := wi64 (x200 + 1)) rfl rfl rfl rfl rfl rfl rfl ?_
            refine G.move rfl rfl rfl rfl ?_
            refine G.regionEnd ?_
            refine G.round ?_
            refine G.frontAt 3 rfl ?_
            refine G.frontAt 3 rfl ?_
            refine G.frontAt 2 rfl ?_
            refine G.frontAt 3 rfl ?_
            refine G.less ?_ (ih211  (wi64 (x200 + 1)) h)
            exact ⟨rfl, rfl, rfl, rfl, trivial⟩
        · replace h := ifF h k223
          refine G.exit rfl ?_
          refine G.seq ?_
          refine G.region (l := [0]) rfl ?_
          refine G.assign rfl rfl rfl rfl ?_
          refine G.regionEnd ?_
          refine G.ret1 Try.func39 rfl rfl (rt173 _ _ _ ?_)
          refine G.cmp (False) rfl rfl rfl rfl rfl rfl (by simp [cmpP]) ?_
          refine G.assign rfl rfl rfl rfl ?_
          refine G.regionEnd ?_
          refine G.ret1 Try.func30 rfl rfl (rt117 _ _ _ ?_)
          refine G.pickT rfl rfl rfl rfl rfl ?_
          refine G.assign rfl rfl rfl rfl ?_
          refine G.regionEnd ?_
          refine G.frontAt 1 rfl ?_
          refine G.drop ?_
          refine G.frontAt 2 rfl ?_
          refine G.frontAt 2 rfl ?_
          obtain rfl := Option.some.inj h
          exact G.ret1 Try.func33 rfl rfl (fun w hs => ⟨_, _, rfl, ⟨rfl, rfl⟩, hs⟩)
    intro J224
    refine G.frontAt 2 rfl ?_
    refine G.frontAt 2 rfl ?_
    refine G.frontAt 2 rfl ?_
    refine G.frontAt 3 rfl ?_
    refine G.less ?_ (J224 FUEL  0 h)
    exact ⟨rfl, rfl, rfl, rfl, trivial⟩
  · replace h := ifF h k225
    refine G.unwanted rfl rfl rfl rfl ?_
    refine G.unwanted rfl rfl rfl rfl ?_
    refine G.unwanted rfl rfl rfl rfl ?_
    refine G.pickF rfl rfl rfl rfl rfl ?_
    refine G.assign rfl rfl rfl rfl ?_
    refine G.regionEnd ?_
    refine G.drop ?_
    refine G.frontAt 2 rfl ?_
    refine G.frontAt 2 rfl ?_
    refine G.frontAt 2 rfl ?_
    obtain rfl := Option.some.inj h
    exact G.ret1 Try.func33 rfl rfl (fun w hs => ⟨_, _, rfl, ⟨rfl, rfl⟩, hs⟩)
set_option maxRecDepth 20000 in
theorem reads_History_Meets_s2.ok {O : World} {H : PH} {Fr : List Res} (a0 : S_reads_History) (g0 : Nat) (A0 : Option Addr) (n0 : Nat) (a1 : Int) (a2 : (List S_api_Touch)) (A2 : Option Addr) (n2 : Nat) {r : Bool} (h : reads_History_Meets.f a0 a1 a2 = some r) :
    CtrS Try.prog 16 [.pointer (some ⟨g0, 0, none⟩), .int .u64 a1, .slice A2 a2.length n2] O H (BK 60 K_R_reads_History g0 (R_reads_History.mk (A0, a0.l.length, n0)) :: OS 63 K_S_reads_was A0 n0 a0.l :: OS 24 K_S_api_Touch A2 n2 a2 :: Fr) (fun v L' => v = .bool r ∧ BK 60 K_R_reads_History g0 (R_reads_History.mk (A0, a0.l.length, n0)) :: OS 63 K_S_reads_was A0 n0 a0.l :: OS 24 K_S_api_Touch A2 n2 a2 :: Fr = L') := by
  refine CtrS.start (n := 13) Try.func16 rfl Try.ntmps16 rfl rfl ?_
  unfold reads_History_Meets.f at h
  refine G.seq ?_
  refine G.region (l := [0, 1, 2]) rfl ?_
  refine G.box (dk := (Kd.int .u64)) (y := a1) rfl rfl rfl rfl ⟨([.int .u64 a1] : List Value), rfl, rfl⟩ ?_
  intro g4
  refine G.box (dk := Kd.hdr) (y := (A2, a2.length, n2)) rfl rfl rfl rfl ⟨([.slice A2 a2.length n2] : List Value), rfl, rfl⟩ ?_
  intro g6
  refine G.assign rfl rfl rfl rfl ?_
  refine G.regionEnd ?_
  refine G.seq ?_
  refine G.region (l := [0, 1, 2, 3, 4, 5, 6]) rfl ?_
  refine G.move rfl rfl rfl rfl ?_
  refine G.nilCheck rfl rfl rfl rfl ?_
  refine G.field (off' := 0) rfl rfl rfl rfl Try.underlying60 rfl sz58 rfl rfl ?_
  refine G.loadH (B := A0) (m := a0.l.length) (c := n0) rfl rfl rfl rfl ty58r (fun w hs => Rd.bk (R_reads_History.L_l _) hs (j := 2) rfl) ?_
  refine G.makeFunc (fs := []) (cs := [.pointer (some ⟨g4, 0, none⟩), .pointer (some ⟨g6, 0, none⟩)]) rfl rfl rfl rfl rfl ?_
  refine G.inl (n' := 9) rfl rfl rfl rfl call32 Try.func32 rfl Try.ntmps32 rfl rfl ?_
  intro R8 rt9
  refine G.seq ?_
  refine G.region (l := [0]) rfl ?_
  refine G.assign rfl rfl rfl rfl ?_
  refine G.regionEnd ?_
  refine G.seq ?_
  refine G.region (l := [0, 1, 2, 3, 4]) rfl ?_
  refine G.move rfl rfl rfl rfl ?_
  refine G.move rfl rfl rfl rfl ?_
  refine G.inl (n' := 19) rfl rfl rfl rfl call40 Try.func40 rfl Try.ntmps40 rfl rfl ?_
  intro R76 rt77
  refine G.seq ?_
  refine G.region (l := [0]) rfl ?_
  refine G.assign rfl rfl rfl rfl ?_
  refine G.regionEnd ?_
  refine G.seq ?_
  refine G.seq ?_
  refine G.region (l := [0, 1, 2]) rfl ?_
  refine G.move rfl rfl rfl rfl ?_
  refine G.len (m := a0.l.length) rfl rfl rfl rfl Try.underlying58 ?_
  refine G.move rfl rfl rfl rfl ?_
  refine G.regionEnd ?_
  refine G.block ?_
  refine G.loop (fun GG K => ∀ (d125 : Nat) (x110 : Int), reads_History_Meets.l0 a0 a1 a2 d125 x110 = some r → GG H [(0, .slice A0 a0.l.length n0), (1, .func (.func 33) #[] #[.pointer (some ⟨g4, 0, none⟩), .pointer (some ⟨g6, 0, none⟩)]), (7, .int .i64 (a0.l.length : Int)), (8, .int .i64 x110)] (OS 63 K_S_reads_was A0 n0 a0.l :: BK 30 (Kd.int .u64) g4 a1 :: OS 24 K_S_api_Touch A2 n2 a2 :: BK 31 Kd.hdr g6 (A2, a2.length, n2) :: BK 60 K_R_reads_History g0 (R_reads_History.mk (A0, a0.l.length, n0)) :: Fr) K) ?_ ?_
  · intro d125
    induction d125 with
    | zero => intro x110 h; rw [reads_History_Meets.l0] at h; cases h
    | succ d125 ih124 =>
      intro x110 h
      rw [reads_History_Meets.l0] at h
      refine G.seq ?_
      refine G.region (l := [0]) rfl ?_
      refine G.cmp (x110 < (a0.l.length : Int)) rfl rfl rfl rfl rfl rfl Iff.rfl ?_
      refine G.regionEnd ?_
      refine G.seq ?_
      refine G.condP rfl (fun k139 => ?_) (fun k139 => ?_)
      · replace h := ifT h k139
        refine G.skip ?_
        refine G.seq ?_
        refine G.block ?_
        refine G.seq ?_
        refine G.region (l := [0, 1]) rfl ?_
        refine G.move rfl rfl rfl rfl ?_
        refine G.assign rfl rfl rfl rfl ?_
        refine G.regionEnd ?_
        refine G.seq ?_
        refine G.region (l := [0, 1, 2, 3, 4, 5]) rfl ?_
        refine G.move rfl rfl rfl rfl ?_
        refine G.move rfl rfl rfl rfl ?_
        refine G.move rfl rfl rfl rfl ?_
        obtain ⟨k128, h⟩ := guardS h
        have q127 : x110.toNat < a0.l.length := by omega
        refine G.indexO (xs := a0.l) (j := x110) (off := x110.toNat * 2) rfl rfl rfl rfl rfl el58 (r := 0) rfl (by simp) k128 rfl ?_
        refine G.loadA (df := K_S_reads_was) (y := a0.l.getD x110.toNat (S_reads_was.mk 0 [])) rfl rfl rfl rfl ty63 rfl (fun w hs => Rd.osG q127 (Lens.id _ _) hs (j := 0) rfl (o := x110.toNat * 2) (by first | rfl | simp)) ?_
        intro cs129 f130
        obtain ⟨B131, c132, f133, rfl⟩ := K_S_reads_was.open f130
        refine G.frontAt 2 rfl ?_
        refine G.frontAt 3 rfl ?_
        refine G.frontAt 3 rfl ?_
        obtain ⟨t134, e135, h⟩ := bindS h
        refine G.callSV rfl rfl rfl rfl rfl rfl call33 (reads_History_Meets_1_s2.ok (a0.l.getD x110.toNat (S_reads_was.mk 0 [])) B131 c132 f133 a1 g4 a2 g6 A2 n2 e135) ?_
        rintro v136 L137 ⟨rfl, rfl⟩
        refine G.regionEnd ?_
        refine G.cond rfl (fun k138 => ?_) (fun k138 => ?_)
        · replace h := ifT h k138
          refine G.seq ?_
          refine G.region (l := [0, 1]) rfl ?_
          refine G.move rfl rfl rfl rfl ?_
          refine G.assign rfl rfl rfl rfl ?_
          refine G.regionEnd ?_
          refine G.ret1 Try.func40 rfl rfl (rt77 _ _ _ ?_)
          refine G.cmp (0 ≤ x110) rfl rfl rfl rfl rfl rfl Iff.rfl ?_
          refine G.assign rfl rfl rfl rfl ?_
          refine G.regionEnd ?_
          refine G.ret1 Try.func32 rfl rfl (rt9 _ _ _ ?_)
          refine G.assign rfl rfl rfl rfl ?_
          refine G.regionEnd ?_
          refine G.drop ?_
          refine G.drop ?_
          refine G.frontAt 1 rfl ?_
          refine G.frontAt 2 rfl ?_
          obtain rfl := Option.some.inj h
          exact G.ret1 Try.func16 rfl rfl (fun w hs => ⟨_, _, rfl, ⟨rfl, rfl⟩, hs⟩)
        · replace h := ifFB h k138
          refine G.skip ?_
          refine G.inBlock ?_
          refine G.region (l := [0, 1]) rfl ?_
          refine G.bin (m := x110) (n := 1) (r := wi64 (x110 + 1)) rfl rfl rfl rfl rfl rfl rfl ?_
          refine G.move rfl rfl rfl rfl ?_
          refine G.regionEnd ?_
          refine G.round ?_
          refine G.frontAt 4 rfl ?_
          refine G.frontAt 2 rfl ?_
          refine G.frontAt 3 rfl ?_
          refine G.frontAt 3 rfl ?_
          refine G.frontAt 4 rfl ?_
          refine G.less ?_ (ih124  (wi64 (x110 + 1)) h)
          exact ⟨rfl, rfl, rfl, rfl, trivial⟩
      · replace h := ifF h k139
        refine G.exit rfl ?_
        refine G.seq ?_
        refine G.region (l := [0]) rfl ?_
        refine G.assign rfl rfl rfl rfl ?_
        refine G.regionEnd ?_
        refine G.ret1 Try.func40 rfl rfl (rt77 _ _ _ ?_)
        refine G.cmp (False) rfl rfl rfl rfl rfl rfl (by simp [cmpP]) ?_
        refine G.assign rfl rfl rfl rfl ?_
        refine G.regionEnd ?_
        refine G.ret1 Try.func32 rfl rfl (rt9 _ _ _ ?_)
        refine G.assign rfl rfl rfl rfl ?_
        refine G.regionEnd ?_
        refine G.frontAt 1 rfl ?_
        refine G.drop ?_
        refine G.frontAt 2 rfl ?_
        refine G.drop ?_
        refine G.frontAt 1 rfl ?_
        refine G.frontAt 1 rfl ?_
        refine G.frontAt 2 rfl ?_
        obtain rfl := Option.some.inj h
        exact G.ret1 Try.func16 rfl rfl (fun w hs => ⟨_, _, rfl, ⟨rfl, rfl⟩, hs⟩)
  intro J140
  refine G.frontAt 2 rfl ?_
  refine G.frontAt 1 rfl ?_
  refine G.frontAt 4 rfl ?_
  refine G.frontAt 3 rfl ?_
  refine G.frontAt 4 rfl ?_
  refine G.less ?_ (J140 FUEL  0 h)
  exact ⟨rfl, rfl, rfl, rfl, trivial⟩
set_option maxRecDepth 20000 in
theorem armoireref15_Meet.ok {O : World} {H : PH} {Fr : List Res} (a0 : S_api_Touch) (a1 : S_api_Touch) {r : Bool} (h : armoireref15_Meet.f a0 a1 = some r) :
    CtrS Try.prog 13 [.agg (S_api_Touch.enc a0).toArray, .agg (S_api_Touch.enc a1).toArray] O H (Fr) (fun v L' => v = .bool r ∧ Fr = L') := by
  refine CtrS.start (n := 67) Try.func13 rfl Try.ntmps13 rfl rfl ?_
  unfold armoireref15_Meet.f at h
  refine G.seq ?_
  refine G.region (l := [0, 1, 2]) rfl ?_
  refine G.box (dk := K_S_api_Touch) (y := a0) rfl rfl rfl rfl (VR.A (cs := S_api_Touch.enc a0) (K_S_api_Touch.of a0)) ?_
  intro g1
  refine G.box (dk := K_S_api_Touch) (y := a1) rfl rfl rfl rfl (VR.A (cs := S_api_Touch.enc a1) (K_S_api_Touch.of a1)) ?_
  intro g3
  refine G.assign rfl rfl rfl rfl ?_
  refine G.regionEnd ?_
  refine G.seq ?_
  refine G.seq ?_
  refine G.region (l := [0, 1, 2, 3, 4, 5, 6, 7, 8, 9, 10, 11, 12, 13, 14]) rfl ?_
  refine G.loadA (df := K_S_api_Touch) (y := a0) rfl rfl rfl rfl ty24 rfl (fun w hs => Rd.bk (Lens.id _ _) hs (j := 1) rfl) ?_
  intro cs5 f6
  obtain rfl := K_S_api_Touch.open f6
  obtain ⟨t7, e8, h⟩ := bindS h
  refine G.callS rfl rfl rfl rfl call11 (armoireref15_Check.ok a0 e8) ?_
  rintro v9 L10 ⟨rfl, rfl⟩
  refine G.cmp (t7 ≠ 0) rfl rfl rfl rfl rfl rfl Iff.rfl ?_
  refine G.move rfl rfl rfl rfl ?_
  refine G.splitP (d := 8) rfl (fun k76 => ?_) (fun k76 => ?_)
  · replace h := ifT h k76
    refine G.unwanted rfl rfl rfl rfl ?_
    refine G.unwanted rfl rfl rfl rfl ?_
    refine G.unwanted rfl rfl rfl rfl ?_
    refine G.pickT rfl rfl rfl rfl rfl ?_
    refine G.move rfl rfl rfl rfl ?_
    refine G.unwanted rfl rfl rfl rfl ?_
    refine G.unwanted rfl rfl rfl rfl ?_
    refine G.unwanted rfl rfl rfl rfl ?_
    refine G.unwanted rfl rfl rfl rfl ?_
    refine G.unwanted rfl rfl rfl rfl ?_
    refine G.pickT rfl rfl rfl rfl rfl ?_
    refine G.regionEnd ?_
    refine G.condT rfl ?_
    refine G.seq ?_
    refine G.region (l := [0]) rfl ?_
    refine G.assign rfl rfl rfl rfl ?_
    refine G.regionEnd ?_
    refine G.drop ?_
    refine G.drop ?_
    obtain rfl := Option.some.inj h
    exact G.ret1 Try.func13 rfl rfl (fun w hs => ⟨_, _, rfl, ⟨rfl, rfl⟩, hs⟩)
  · replace h := ifF h k76
    refine G.loadA (df := K_S_api_Touch) (y := a1) rfl rfl rfl rfl ty24 rfl (fun w hs => Rd.bk (Lens.id _ _) hs (j := 0) rfl) ?_
    intro cs17 f18
    obtain rfl := K_S_api_Touch.open f18
    obtain ⟨t19, e20, h⟩ := bindS h
    refine G.callS rfl rfl rfl rfl call11 (armoireref15_Check.ok a1 e20) ?_
    rintro v21 L22 ⟨rfl, rfl⟩
    refine G.cmp (t19 ≠ 0) rfl rfl rfl rfl rfl rfl Iff.rfl ?_
    refine G.pickF rfl rfl rfl rfl rfl ?_
    refine G.move rfl rfl rfl rfl ?_
    refine G.splitP (d := 13) rfl (fun k75 => ?_) (fun k75 => ?_)
    · replace h := ifT h k75
      refine G.unwanted rfl rfl rfl rfl ?_
      refine G.unwanted rfl rfl rfl rfl ?_
      refine G.unwanted rfl rfl rfl rfl ?_
      refine G.unwanted rfl rfl rfl rfl ?_
      refine G.unwanted rfl rfl rfl rfl ?_
      refine G.pickT rfl rfl rfl rfl rfl ?_
      refine G.regionEnd ?_
      refine G.condT rfl ?_
      refine G.seq ?_
      refine G.region (l := [0]) rfl ?_
      refine G.assign rfl rfl rfl rfl ?_
      refine G.regionEnd ?_
      refine G.drop ?_
      refine G.drop ?_
      obtain rfl := Option.some.inj h
      exact G.ret1 Try.func13 rfl rfl (fun w hs => ⟨_, _, rfl, ⟨rfl, rfl⟩, hs⟩)
    · replace h := ifF h k75
      refine G.field (off' := 1) rfl rfl rfl rfl Try.underlying24 rfl sz22 rfl rfl ?_
      refine G.loadI (y := a0.ino) rfl rfl rfl rfl ty22 (fun w hs => Rd.bk (S_api_Touch.L_ino _) hs (j := 1) rfl) ?_
      refine G.field (off' := 1) rfl rfl rfl rfl Try.underlying24 rfl sz22 rfl rfl ?_
      refine G.loadI (y := a1.ino) rfl rfl rfl rfl ty22 (fun w hs => Rd.bk (S_api_Touch.L_ino _) hs (j := 0) rfl) ?_
      refine G.cmp (a0.ino ≠ a1.ino) rfl rfl rfl rfl rfl rfl Iff.rfl ?_
      refine G.pickF rfl rfl rfl rfl rfl ?_
      refine G.regionEnd ?_
      refine G.condP rfl (fun k74 => ?_) (fun k74 => ?_)
      · replace h := ifT h k74
        refine G.seq ?_
        refine G.region (l := [0]) rfl ?_
        refine G.assign rfl rfl rfl rfl ?_
        refine G.regionEnd ?_
        refine G.drop ?_
        refine G.drop ?_
        obtain rfl := Option.some.inj h
        exact G.ret1 Try.func13 rfl rfl (fun w hs => ⟨_, _, rfl, ⟨rfl, rfl⟩, hs⟩)
      · replace h := ifF h k74
        refine G.skip ?_
        refine G.seq ?_
        refine G.block ?_
        refine G.seq ?_
        refine G.region (l := [0, 1, 2, 3]) rfl ?_
        refine G.field (off' := 0) rfl rfl rfl rfl Try.underlying24 rfl sz3 rfl rfl ?_
        refine G.loadI (y := a1.kind) rfl rfl rfl rfl ty3 (fun w hs => Rd.bk (S_api_Touch.L_kind _) hs (j := 0) rfl) ?_
        refine G.cmp (a1.kind = 7) rfl rfl rfl rfl rfl rfl Iff.rfl ?_
        refine G.assign rfl rfl rfl rfl ?_
        refine G.regionEnd ?_
        refine G.condP rfl (fun k73 => ?_) (fun k73 => ?_)
        · replace h := ifT h k73
          refine G.seq ?_
          refine G.region (l := [0]) rfl ?_
          refine G.assign rfl rfl rfl rfl ?_
          refine G.regionEnd ?_
          refine G.drop ?_
          refine G.drop ?_
          obtain rfl := Option.some.inj h
          exact G.ret1 Try.func13 rfl rfl (fun w hs => ⟨_, _, rfl, ⟨rfl, rfl⟩, hs⟩)
        · replace h := ifF h k73
          refine G.seq ?_
          refine G.region (l := [0, 1, 2, 3]) rfl ?_
          refine G.field (off' := 0) rfl rfl rfl rfl Try.underlying24 rfl sz3 rfl rfl ?_
          refine G.loadI (y := a0.kind) rfl rfl rfl rfl ty3 (fun w hs => Rd.bk (S_api_Touch.L_kind _) hs (j := 1) rfl) ?_
          refine G.cmp (a0.kind = 6) rfl rfl rfl rfl rfl rfl Iff.rfl ?_
          refine G.assign rfl rfl rfl rfl ?_
          refine G.regionEnd ?_
          refine G.condP rfl (fun k72 => ?_) (fun k72 => ?_)
          · replace h := ifT h k72
            refine G.seq ?_
            refine G.region (l := [0, 1, 2, 3]) rfl ?_
            refine G.field (off' := 0) rfl rfl rfl rfl Try.underlying24 rfl sz3 rfl rfl ?_
            refine G.loadI (y := a1.kind) rfl rfl rfl rfl ty3 (fun w hs => Rd.bk (S_api_Touch.L_kind _) hs (j := 0) rfl) ?_
            refine G.cmp (a1.kind = 5) rfl rfl rfl rfl rfl rfl Iff.rfl ?_
            refine G.assign rfl rfl rfl rfl ?_
            refine G.regionEnd ?_
            refine G.drop ?_
            refine G.drop ?_
            obtain rfl := Option.some.inj h
            exact G.ret1 Try.func13 rfl rfl (fun w hs => ⟨_, _, rfl, ⟨rfl, rfl⟩, hs⟩)
          · replace h := ifF h k72
            refine G.seq ?_
            refine G.region (l := [0, 1, 2, 3, 4, 5, 6, 7, 8, 9, 10]) rfl ?_
            refine G.field (off' := 0) rfl rfl rfl rfl Try.underlying24 rfl sz3 rfl rfl ?_
            refine G.loadI (y := a0.kind) rfl rfl rfl rfl ty3 (fun w hs => Rd.bk (S_api_Touch.L_kind _) hs (j := 1) rfl) ?_
            refine G.field (off' := 0) rfl rfl rfl rfl Try.underlying24 rfl sz3 rfl rfl ?_
            refine G.loadI (y := a1.kind) rfl rfl rfl rfl ty3 (fun w hs => Rd.bk (S_api_Touch.L_kind _) hs (j := 0) rfl) ?_
            refine G.cmp (a0.kind ≠ a1.kind) rfl rfl rfl rfl rfl rfl Iff.rfl ?_
            refine G.move rfl rfl rfl rfl ?_
            refine G.splitP (d := 37) rfl (fun k71 => ?_) (fun k71 => ?_)
            · replace h := ifT h k71
              refine G.unwanted rfl rfl rfl rfl ?_
              refine G.unwanted rfl rfl rfl rfl ?_
              refine G.unwanted rfl rfl rfl rfl ?_
              refine G.pickT rfl rfl rfl rfl rfl ?_
              refine G.assign rfl rfl rfl rfl ?_
              refine G.regionEnd ?_
              refine G.condT rfl ?_
              refine G.seq ?_
              refine G.region (l := [0]) rfl ?_
              refine G.assign rfl rfl rfl rfl ?_
              refine G.regionEnd ?_
              refine G.drop ?_
              refine G.drop ?_
              obtain rfl := Option.some.inj h
              exact G.ret1 Try.func13 rfl rfl (fun w hs => ⟨_, _, rfl, ⟨rfl, rfl⟩, hs⟩)
            · replace h := ifF h k71
              refine G.field (off' := 0) rfl rfl rfl rfl Try.underlying24 rfl sz3 rfl rfl ?_
              refine G.loadI (y := a0.kind) rfl rfl rfl rfl ty3 (fun w hs => Rd.bk (S_api_Touch.L_kind _) hs (j := 1) rfl) ?_
              refine G.cmp (a0.kind = 7) rfl rfl rfl rfl rfl rfl Iff.rfl ?_
              refine G.pickF rfl rfl rfl rfl rfl ?_
              refine G.assign rfl rfl rfl rfl ?_
              refine G.regionEnd ?_
              refine G.condP rfl (fun k70 => ?_) (fun k70 => ?_)
              · replace h := ifT h k70
                refine G.seq ?_
                refine G.region (l := [0]) rfl ?_
                refine G.assign rfl rfl rfl rfl ?_
                refine G.regionEnd ?_
                refine G.drop ?_
                refine G.drop ?_
                obtain rfl := Option.some.inj h
                exact G.ret1 Try.func13 rfl rfl (fun w hs => ⟨_, _, rfl, ⟨rfl, rfl⟩, hs⟩)
              · replace h := ifF h k70
                refine G.seq ?_
                refine G.region (l := [0, 1, 2, 3]) rfl ?_
                refine G.field (off' := 0) rfl rfl rfl rfl Try.underlying24 rfl sz3 rfl rfl ?_
                refine G.loadI (y := a0.kind) rfl rfl rfl rfl ty3 (fun w hs => Rd.bk (S_api_Touch.L_kind _) hs (j := 1) rfl) ?_
                refine G.cmp (a0.kind = 4) rfl rfl rfl rfl rfl rfl Iff.rfl ?_
                refine G.assign rfl rfl rfl rfl ?_
                refine G.regionEnd ?_
                refine G.condP rfl (fun k69 => ?_) (fun k69 => ?_)
                · replace h := ifT h k69
                  refine G.seq ?_
                  refine G.region (l := [0, 1, 2, 3, 4, 5, 6, 7, 8, 9, 10, 11, 12]) rfl ?_
                  refine G.field (off' := 3) rfl rfl rfl rfl Try.underlying24 rfl sz3 rfl rfl ?_
                  refine G.loadI (y := a0.lo) rfl rfl rfl rfl ty3 (fun w hs => Rd.bk (S_api_Touch.L_lo _) hs (j := 1) rfl) ?_
                  refine G.field (off' := 4) rfl rfl rfl rfl Try.underlying24 rfl sz3 rfl rfl ?_
                  refine G.loadI (y := a1.hi) rfl rfl rfl rfl ty3 (fun w hs => Rd.bk (S_api_Touch.L_hi _) hs (j := 0) rfl) ?_
                  refine G.cmp (a0.lo < a1.hi) rfl rfl rfl rfl rfl rfl Iff.rfl ?_
                  refine G.move rfl rfl rfl rfl ?_
                  refine G.splitP (d := 51) rfl (fun k67 => ?_) (fun k67 => ?_)
                  · replace h := ifT h k67
                    refine G.field (off' := 3) rfl rfl rfl rfl Try.underlying24 rfl sz3 rfl rfl ?_
                    refine G.loadI (y := a1.lo) rfl rfl rfl rfl ty3 (fun w hs => Rd.bk (S_api_Touch.L_lo _) hs (j := 0) rfl) ?_
                    refine G.field (off' := 4) rfl rfl rfl rfl Try.underlying24 rfl sz3 rfl rfl ?_
                    refine G.loadI (y := a0.hi) rfl rfl rfl rfl ty3 (fun w hs => Rd.bk (S_api_Touch.L_hi _) hs (j := 1) rfl) ?_
                    refine G.cmp (a1.lo < a0.hi) rfl rfl rfl rfl rfl rfl Iff.rfl ?_
                    refine G.pickT rfl rfl rfl rfl rfl ?_
                    refine G.assign rfl rfl rfl rfl ?_
                    refine G.regionEnd ?_
                    refine G.drop ?_
                    refine G.drop ?_
                    obtain rfl := Option.some.inj h
                    exact G.ret1 Try.func13 rfl rfl (fun w hs => ⟨_, _, rfl, ⟨rfl, rfl⟩, hs⟩)
                  · replace h := ifF h k67
                    refine G.unwanted rfl rfl rfl rfl ?_
                    refine G.unwanted rfl rfl rfl rfl ?_
                    refine G.unwanted rfl rfl rfl rfl ?_
                    refine G.unwanted rfl rfl rfl rfl ?_
                    refine G.unwanted rfl rfl rfl rfl ?_
                    refine G.pickF rfl rfl rfl rfl rfl ?_
                    refine G.assign rfl rfl rfl rfl ?_
                    refine G.regionEnd ?_
                    refine G.drop ?_
                    refine G.drop ?_
                    obtain rfl := Option.some.inj h
                    exact G.ret1 Try.func13 rfl rfl (fun w hs => ⟨_, _, rfl, ⟨rfl, rfl⟩, hs⟩)
                · replace h := ifF h k69
                  refine G.seq ?_
                  refine G.region (l := [0, 1, 2, 3]) rfl ?_
                  refine G.field (off' := 0) rfl rfl rfl rfl Try.underlying24 rfl sz3 rfl rfl ?_
                  refine G.loadI (y := a0.kind) rfl rfl rfl rfl ty3 (fun w hs => Rd.bk (S_api_Touch.L_kind _) hs (j := 1) rfl) ?_
                  refine G.cmp (a0.kind = 5) rfl rfl rfl rfl rfl rfl Iff.rfl ?_
                  refine G.assign rfl rfl rfl rfl ?_
                  refine G.regionEnd ?_
                  refine G.condP rfl (fun k68 => ?_) (fun k68 => ?_)
                  · replace h := ifT h k68
                    refine G.seq ?_
                    refine G.region (l := [0, 1, 2, 3, 4, 5]) rfl ?_
                    refine G.field (off' := 2) rfl rfl rfl rfl Try.underlying24 rfl sz9 rfl rfl ?_
                    refine G.loadS (y := a0.name) rfl rfl rfl rfl ty9 (fun w hs => Rd.bk (S_api_Touch.L_name _) hs (j := 1) rfl) ?_
                    refine G.field (off' := 2) rfl rfl rfl rfl Try.underlying24 rfl sz9 rfl rfl ?_
                    refine G.loadS (y := a1.name) rfl rfl rfl rfl ty9 (fun w hs => Rd.bk (S_api_Touch.L_name _) hs (j := 0) rfl) ?_
                    refine G.cmpS (s := a0.name) (u := a1.name) (b := decide (a0.name = a1.name)) rfl rfl rfl rfl rfl rfl rfl ?_
                    refine G.assign rfl rfl rfl rfl ?_
                    refine G.regionEnd ?_
                    refine G.drop ?_
                    refine G.drop ?_
                    obtain rfl := Option.some.inj h
                    exact G.ret1 Try.func13 rfl rfl (fun w hs => ⟨_, _, rfl, ⟨rfl, rfl⟩, hs⟩)
                  · replace h := ifF h k68
                    refine G.skip ?_
                    refine G.inBlock ?_
                    refine G.seq ?_
                    refine G.region (l := [0]) rfl ?_
                    refine G.assign rfl rfl rfl rfl ?_
                    refine G.regionEnd ?_
                    refine G.drop ?_
                    refine G.drop ?_
                    obtain rfl := Option.some.inj h
                    exact G.ret1 Try.func13 rfl rfl (fun w hs => ⟨_, _, rfl, ⟨rfl, rfl⟩, hs⟩)
set_option maxRecDepth 20000 in
theorem armoireref15_Meets.ok {O : World} {H : PH} {Fr : List Res} (a0 : (List S_armoireref15_Was)) (A0 : Option Addr) (n0 : Nat) (F0 : SlR K_S_armoireref15_Was H A0 n0 a0) (a1 : Int) (a2 : (List S_api_Touch)) (A2 : Option Addr) (n2 : Nat) (F2 : SlR K_S_api_Touch H A2 n2 a2) {r : Bool} (h : armoireref15_Meets.f a0 a1 a2 = some r) :
    CtrS Try.prog 25 [.slice A0 a0.length n0, .int .u64 a1, .slice A2 a2.length n2] O H (Fr) (fun v L' => v = .bool r ∧ Fr = L') := by
  refine CtrS.start (n := 44) Try.func25 rfl Try.ntmps25 rfl rfl ?_
  unfold armoireref15_Meets.f at h
  refine G.seq ?_
  refine G.region (l := [0]) rfl ?_
  refine G.assign rfl rfl rfl rfl ?_
  refine G.regionEnd ?_
  refine G.seq ?_
  refine G.seq ?_
  refine G.region (l := [0, 1, 2]) rfl ?_
  refine G.move rfl rfl rfl rfl ?_
  refine G.len (m := a0.length) rfl rfl rfl rfl Try.underlying51 ?_
  refine G.move rfl rfl rfl rfl ?_
  refine G.regionEnd ?_
  refine G.block ?_
  refine G.loop (fun GG K => ∀ (d149 : Nat) (x1 : Int), armoireref15_Meets.l0 a0 a1 a2 d149 x1 = some r → GG H [(1, .int .u64 a1), (2, .slice A2 a2.length n2), (13, .slice A0 a0.length n0), (14, .int .i64 (a0.length : Int)), (15, .int .i64 x1)] (Fr) K) ?_ ?_
  · intro d149
    induction d149 with
    | zero => intro x1 h; rw [armoireref15_Meets.l0] at h; cases h
    | succ d149 ih148 =>
      intro x1 h
      rw [armoireref15_Meets.l0] at h
      refine G.seq ?_
      refine G.region (l := [0]) rfl ?_
      refine G.cmp (x1 < (a0.length : Int)) rfl rfl rfl rfl rfl rfl Iff.rfl ?_
      refine G.regionEnd ?_
      refine G.seq ?_
      refine G.condP rfl (fun k296 => ?_) (fun k296 => ?_)
      · replace h := ifT h k296
        refine G.skip ?_
        refine G.seq ?_
        refine G.block ?_
        refine G.seq ?_
        refine G.region (l := [0, 1, 2, 3]) rfl ?_
        obtain ⟨k153, h⟩ := guardS h
        refine G.indexR (xs := a0) (j := x1) (S_armoireref15_Was.mk 0 []) rfl rfl rfl rfl rfl el51 F0 k153 ?_
        intro a151 f152
        refine G.loadA (df := K_S_armoireref15_Was) (y := a0.getD x1.toNat (S_armoireref15_Was.mk 0 [])) rfl rfl rfl rfl ty54 rfl (fun w hs => Rd.ro f152 hs) ?_
        intro cs154 f155
        obtain ⟨B156, c157, f158, rfl⟩ := K_S_armoireref15_Was.open f155
        refine G.alloc (dk := K_R_armoireref15_Was) (x0 := (R_armoireref15_Was.mk 0 (none, 0, 0))) (z := .agg (([.int .u64 0] : List Value) ++ (([.slice none 0 0] : List Value))).toArray) (cs := ([.int .u64 0] : List Value) ++ (([.slice none 0 0] : List Value))) rfl rfl rfl (by kernel_rfl) rfl (fun H => K_R_armoireref15_Was.mk rfl rfl) ?_
        intro g159
        refine G.store (df := K_R_armoireref15_Was) (y := (R_armoireref15_Was.mk ((a0.getD x1.toNat (S_armoireref15_Was.mk 0 [])).version) (B156, ((a0.getD x1.toNat (S_armoireref15_Was.mk 0 [])).l).length, c157))) (x1 := (R_armoireref15_Was.mk ((a0.getD x1.toNat (S_armoireref15_Was.mk 0 [])).version) (B156, ((a0.getD x1.toNat (S_armoireref15_Was.mk 0 [])).l).length, c157))) rfl rfl rfl rfl (Lens.id _ _) (VR.A (cs := ([.int .u64 ((a0.getD x1.toNat (S_armoireref15_Was.mk 0 [])).version)] : List Value) ++ (([.slice B156 ((a0.getD x1.toNat (S_armoireref15_Was.mk 0 [])).l).length c157] : List Value))) (K_R_armoireref15_Was.mk rfl rfl)) sz54 rfl ?_
        refine G.regionEnd ?_
        refine G.seq ?_
        refine G.region (l := [0, 1, 2, 3]) rfl ?_
        refine G.field (off' := 1) rfl rfl rfl rfl Try.underlying54 rfl sz31 rfl rfl ?_
        refine G.loadH (B := B156) (m := ((a0.getD x1.toNat (S_armoireref15_Was.mk 0 [])).l).length) (c := c157) rfl rfl rfl rfl ty31r (fun w hs => Rd.bk (R_armoireref15_Was.L_l _) hs (j := 0) rfl) ?_
        refine G.len (m := ((a0.getD x1.toNat (S_armoireref15_Was.mk 0 [])).l).length) rfl rfl rfl rfl Try.underlying31 ?_
        refine G.move rfl rfl rfl rfl ?_
        refine G.regionEnd ?_
        refine G.block ?_
        refine G.loop (fun GG K => ∀ (d228 : Nat) (x161 : Int), armoireref15_Meets.l1 a0 a1 a2 x1 (armoireref15_Meets.l0 a0 a1 a2 d149) d228 x161 = some r → GG H [(1, .int .u64 a1), (2, .slice A2 a2.length n2), (8, .pointer (some ⟨g159, 0, none⟩)), (13, .slice A0 a0.length n0), (14, .int .i64 (a0.length : Int)), (15, .int .i64 x1), (20, .slice B156 ((a0.getD x1.toNat (S_armoireref15_Was.mk 0 [])).l).length c157), (21, .int .i64 (((a0.getD x1.toNat (S_armoireref15_Was.mk 0 [])).l).length : Int)), (22, .int .i64 x161)] (BK 54 K_R_armoireref15_Was g159 (R_armoireref15_Was.mk ((a0.getD x1.toNat (S_armoireref15_Was.mk 0 [])).version) (B156, ((a0.getD x1.toNat (S_armoireref15_Was.mk 0 [])).l).length, c157)) :: Fr) K) ?_ ?_
        · intro d228
          induction d228 with
          | zero => intro x161 h; rw [armoireref15_Meets.l1] at h; cases h
          | succ d228 ih227 =>
            intro x161 h
            rw [armoireref15_Meets.l1] at h
            refine G.seq ?_
            refine G.region (l := [0]) rfl ?_
            refine G.cmp (x161 < (((a0.getD x1.toNat (S_armoireref15_Was.mk 0 [])).l).length : Int)) rfl rfl rfl rfl rfl rfl Iff.rfl ?_
            refine G.regionEnd ?_
            refine G.seq ?_
            refine G.condP rfl (fun k294 => ?_) (fun k294 => ?_)
            · replace h := ifT h k294
              refine G.skip ?_
              refine G.seq ?_
              refine G.block ?_
              refine G.seq ?_
              refine G.region (l := [0, 1, 2, 3]) rfl ?_
              obtain ⟨k232, h⟩ := guardS h
              refine G.indexR (xs := (a0.getD x1.toNat (S_armoireref15_Was.mk 0 [])).l) (j := x161) (S_api_Touch.mk 0 0 [] 0 0) rfl rfl rfl rfl rfl el31 f158 k232 ?_
              intro a230 f231
              refine G.loadA (df := K_S_api_Touch) (y := ((a0.getD x1.toNat (S_armoireref15_Was.mk 0 [])).l).getD x161.toNat (S_api_Touch.mk 0 0 [] 0 0)) rfl rfl rfl rfl ty24 rfl (fun w hs => Rd.ro f231 hs) ?_
              intro cs233 f234
              obtain rfl := K_S_api_Touch.open f234
              refine G.alloc (dk := K_S_api_Touch) (x0 := (S_api_Touch.mk 0 0 [] 0 0)) (z := .agg (S_api_Touch.enc (S_api_Touch.mk 0 0 [] 0 0)).toArray) (cs := S_api_Touch.enc (S_api_Touch.mk 0 0 [] 0 0)) rfl rfl rfl (by kernel_rfl) rfl (fun H => K_S_api_Touch.of (S_api_Touch.mk 0 0 [] 0 0)) ?_
              intro g235
              refine G.store (df := K_S_api_Touch) (y := ((a0.getD x1.toNat (S_armoireref15_Was.mk 0 [])).l).getD x161.toNat (S_api_Touch.mk 0 0 [] 0 0)) (x1 := ((a0.getD x1.toNat (S_armoireref15_Was.mk 0 [])).l).getD x161.toNat (S_api_Touch.mk 0 0 [] 0 0)) rfl rfl rfl rfl (Lens.id _ _) (VR.A (cs := S_api_Touch.enc (((a0.getD x1.toNat (S_armoireref15_Was.mk 0 [])).l).getD x161.toNat (S_api_Touch.mk 0 0 [] 0 0))) (K_S_api_Touch.of (((a0.getD x1.toNat (S_armoireref15_Was.mk 0 [])).l).getD x161.toNat (S_api_Touch.mk 0 0 [] 0 0)))) sz24 rfl ?_
              refine G.regionEnd ?_
              refine G.seq ?_
              refine G.region (l := [0, 1, 2]) rfl ?_
              refine G.move rfl rfl rfl rfl ?_
              refine G.len (m := a2.length) rfl rfl rfl rfl Try.underlying31 ?_
              refine G.move rfl rfl rfl rfl ?_
              refine G.regionEnd ?_
              refine G.block ?_
              refine G.loop (fun GG K => ∀ (d265 : Nat) (x237 : Int), armoireref15_Meets.l2 a0 a1 a2 x1 x161 (armoireref15_Meets.l1 a0 a1 a2 x1 (armoireref15_Meets.l0 a0 a1 a2 d149) d228) d265 x237 = some r → GG H [(1, .int .u64 a1), (2, .slice A2 a2.length n2), (8, .pointer (some ⟨g159, 0, none⟩)), (10, .pointer (some ⟨g235, 0, none⟩)), (13, .slice A0 a0.length n0), (14, .int .i64 (a0.length : Int)), (15, .int .i64 x1), (20, .slice B156 ((a0.getD x1.toNat (S_armoireref15_Was.mk 0 [])).l).length c157), (21, .int .i64 (((a0.getD x1.toNat (S_armoireref15_Was.mk 0 [])).l).length : Int)), (22, .int .i64 x161), (26, .slice A2 a2.length n2), (27, .int .i64 (a2.length : Int)), (28, .int .i64 x237)] (BK 54 K_R_armoireref15_Was g159 (R_armoireref15_Was.mk ((a0.getD x1.toNat (S_armoireref15_Was.mk 0 [])).version) (B156, ((a0.getD x1.toNat (S_armoireref15_Was.mk 0 [])).l).length, c157)) :: BK 24 K_S_api_Touch g235 (((a0.getD x1.toNat (S_armoireref15_Was.mk 0 [])).l).getD x161.toNat (S_api_Touch.mk 0 0 [] 0 0)) :: Fr) K) ?_ ?_
              · intro d265
                induction d265 with
                | zero => intro x237 h; rw [armoireref15_Meets.l2] at h; cases h
                | succ d265 ih264 =>
                  intro x237 h
                  rw [armoireref15_Meets.l2] at h
                  refine G.seq ?_
                  refine G.region (l := [0]) rfl ?_
                  refine G.cmp (x237 < (a2.length : Int)) rfl rfl rfl rfl rfl rfl Iff.rfl ?_
                  refine G.regionEnd ?_
                  refine G.seq ?_
                  refine G.condP rfl (fun k292 => ?_) (fun k292 => ?_)
                  · replace h := ifT h k292
                    refine G.skip ?_
                    refine G.seq ?_
                    refine G.block ?_
                    refine G.seq ?_
                    refine G.region (l := [0, 1, 2, 3]) rfl ?_
                    obtain ⟨k269, h⟩ := guardS h
                    refine G.indexR (xs := a2) (j := x237) (S_api_Touch.mk 0 0 [] 0 0) rfl rfl rfl rfl rfl el31 F2 k269 ?_
                    intro a267 f268
                    refine G.loadA (df := K_S_api_Touch) (y := a2.getD x237.toNat (S_api_Touch.mk 0 0 [] 0 0)) rfl rfl rfl rfl ty24 rfl (fun w hs => Rd.ro f268 hs) ?_
                    intro cs270 f271
                    obtain rfl := K_S_api_Touch.open f271
                    refine G.alloc (dk := K_S_api_Touch) (x0 := (S_api_Touch.mk 0 0 [] 0 0)) (z := .agg (S_api_Touch.enc (S_api_Touch.mk 0 0 [] 0 0)).toArray) (cs := S_api_Touch.enc (S_api_Touch.mk 0 0 [] 0 0)) rfl rfl rfl (by kernel_rfl) rfl (fun H => K_S_api_Touch.of (S_api_Touch.mk 0 0 [] 0 0)) ?_
                    intro g272
                    refine G.store (df := K_S_api_Touch) (y := a2.getD x237.toNat (S_api_Touch.mk 0 0 [] 0 0)) (x1 := a2.getD x237.toNat (S_api_Touch.mk 0 0 [] 0 0)) rfl rfl rfl rfl (Lens.id _ _) (VR.A (cs := S_api_Touch.enc (a2.getD x237.toNat (S_api_Touch.mk 0 0 [] 0 0))) (K_S_api_Touch.of (a2.getD x237.toNat (S_api_Touch.mk 0 0 [] 0 0)))) sz24 rfl ?_
                    refine G.regionEnd ?_
                    refine G.seq ?_
                    refine G.region (l := [0, 1, 2, 3, 4, 5, 6, 7, 8]) rfl ?_
                    refine G.field (off' := 0) rfl rfl rfl rfl Try.underlying54 rfl sz30 rfl rfl ?_
                    refine G.loadI (y := (a0.getD x1.toNat (S_armoireref15_Was.mk 0 [])).version) rfl rfl rfl rfl ty30 (fun w hs => Rd.bk (R_armoireref15_Was.L_version _) hs (j := 1) rfl) ?_
                    refine G.move rfl rfl rfl rfl ?_
                    refine G.cmp (a1 < ((a0.getD x1.toNat (S_armoireref15_Was.mk 0 [])).version)) rfl rfl rfl rfl rfl rfl Iff.rfl ?_
                    refine G.move rfl rfl rfl rfl ?_
                    refine G.splitP (d := 36) rfl (fun k291 => ?_) (fun k291 => ?_)
                    · replace h := ifT h k291
                      refine G.loadA (df := K_S_api_Touch) (y := a2.getD x237.toNat (S_api_Touch.mk 0 0 [] 0 0)) rfl rfl rfl rfl ty24 rfl (fun w hs => Rd.bk (Lens.id _ _) hs (j := 0) rfl) ?_
                      intro cs282 f283
                      obtain rfl := K_S_api_Touch.open f283
                      refine G.loadA (df := K_S_api_Touch) (y := ((a0.getD x1.toNat (S_armoireref15_Was.mk 0 [])).l).getD x161.toNat (S_api_Touch.mk 0 0 [] 0 0)) rfl rfl rfl rfl ty24 rfl (fun w hs => Rd.bk (Lens.id _ _) hs (j := 2) rfl) ?_
                      intro cs284 f285
                      obtain rfl := K_S_api_Touch.open f285
                      obtain ⟨t286, e287, h⟩ := bindS h
                      refine G.callS rfl rfl rfl rfl call13 (armoireref15_Meet.ok (a2.getD x237.toNat (S_api_Touch.mk 0 0 [] 0 0)) (S_api_Touch.mk ((((a0.getD x1.toNat (S_armoireref15_Was.mk 0 [])).l).getD x161.toNat (S_api_Touch.mk 0 0 [] 0 0)).kind) ((((a0.getD x1.toNat (S_armoireref15_Was.mk 0 [])).l).getD x161.toNat (S_api_Touch.mk 0 0 [] 0 0)).ino) ((((a0.getD x1.toNat (S_armoireref15_Was.mk 0 [])).l).getD x161.toNat (S_api_Touch.mk 0 0 [] 0 0)).name) ((((a0.getD x1.toNat (S_armoireref15_Was.mk 0 [])).l).getD x161.toNat (S_api_Touch.mk 0 0 [] 0 0)).lo) ((((a0.getD x1.toNat (S_armoireref15_Was.mk 0 [])).l).getD x161.toNat (S_api_Touch.mk 0 0 [] 0 0)).hi)) e287) ?_
                      rintro v288 L289 ⟨rfl, rfl⟩
                      refine G.pickT rfl rfl rfl rfl rfl ?_
                      refine G.regionEnd ?_
                      refine G.cond rfl (fun k290 => ?_) (fun k290 => ?_)
                      · replace h := ifT h k290
                        refine G.seq ?_
                        refine G.region (l := [0]) rfl ?_
                        refine G.assign rfl rfl rfl rfl ?_
                        refine G.regionEnd ?_
                        refine G.drop ?_
                        refine G.drop ?_
                        refine G.drop ?_
                        obtain rfl := Option.some.inj h
                        exact G.ret1 Try.func25 rfl rfl (fun w hs => ⟨_, _, rfl, ⟨rfl, rfl⟩, hs⟩)
                      · replace h := ifFB h k290
                        refine G.skip ?_
                        refine G.inBlock ?_
                        refine G.region (l := [0, 1]) rfl ?_
                        refine G.bin (m := x237) (n := 1) (r := wi64 (x237 + 1)) rfl rfl rfl rfl rfl rfl rfl ?_
                        refine G.move rfl rfl rfl rfl ?_
                        refine G.regionEnd ?_
                        refine G.round ?_
                        refine G.drop ?_
                        refine G.frontAt 1 rfl ?_
                        refine G.frontAt 1 rfl ?_
                        refine G.less ?_ (ih264  (wi64 (x237 + 1)) h)
                        exact ⟨rfl, rfl, rfl, rfl, rfl, rfl, rfl, rfl, rfl, rfl, rfl, rfl, rfl, trivial⟩
                    · replace h := ifF h k291
                      refine G.unwanted rfl rfl rfl rfl ?_
                      refine G.unwanted rfl rfl rfl rfl ?_
                      refine G.unwanted rfl rfl rfl rfl ?_
                      refine G.pickF rfl rfl rfl rfl rfl ?_
                      refine G.regionEnd ?_
                      refine G.condF rfl ?_
                      refine G.skip ?_
                      refine G.inBlock ?_
                      refine G.region (l := [0, 1]) rfl ?_
                      refine G.bin (m := x237) (n := 1) (r := wi64 (x237 + 1)) rfl rfl rfl rfl rfl rfl rfl ?_
                      refine G.move rfl rfl rfl rfl ?_
                      refine G.regionEnd ?_
                      refine G.round ?_
                      refine G.drop ?_
                      refine G.frontAt 1 rfl ?_
                      refine G.frontAt 1 rfl ?_
                      refine G.less ?_ (ih264  (wi64 (x237 + 1)) h)
                      exact ⟨rfl, rfl, rfl, rfl, rfl, rfl, rfl, rfl, rfl, rfl, rfl, rfl, rfl, trivial⟩
                  · replace h := ifF h k292
                    refine G.exit rfl ?_
                    refine G.inBlock ?_
                    refine G.region (l := [0, 1]) rfl ?_
                    refine G.bin (m := x161) (n := 1) (r := wi64 (x161 + 1)) rfl rfl rfl rfl rfl rfl rfl ?_
                    refine G.move rfl rfl rfl rfl ?_
                    refine G.regionEnd ?_
                    refine G.round ?_
                    refine G.frontAt 1 rfl ?_
                    refine G.drop ?_
                    refine G.less ?_ (ih227  (wi64 (x161 + 1)) h)
                    exact ⟨rfl, rfl, rfl, rfl, rfl, rfl, rfl, rfl, rfl, trivial⟩
              intro J293
              refine G.frontAt 1 rfl ?_
              refine G.less ?_ (J293 FUEL  0 h)
              exact ⟨rfl, rfl, rfl, rfl, rfl, rfl, rfl, rfl, rfl, rfl, rfl, rfl, rfl, trivial⟩
            · replace h := ifF h k294
              refine G.exit rfl ?_
              refine G.inBlock ?_
              refine G.region (l := [0, 1]) rfl ?_
              refine G.bin (m := x1) (n := 1) (r := wi64 (x1 + 1)) rfl rfl rfl rfl rfl rfl rfl ?_
              refine G.move rfl rfl rfl rfl ?_
              refine G.regionEnd ?_
              refine G.round ?_
              refine G.drop ?_
              refine G.less ?_ (ih148  (wi64 (x1 + 1)) h)
              exact ⟨rfl, rfl, rfl, rfl, rfl, trivial⟩
        intro J295
        refine G.less ?_ (J295 FUEL  0 h)
        exact ⟨rfl, rfl, rfl, rfl, rfl, rfl, rfl, rfl, rfl, trivial⟩
      · replace h := ifF h k296
        refine G.exit rfl ?_
        refine G.seq ?_
        refine G.region (l := [0]) rfl ?_
        refine G.assign rfl rfl rfl rfl ?_
        refine G.regionEnd ?_
        obtain rfl := Option.some.inj h
        exact G.ret1 Try.func25 rfl rfl (fun w hs => ⟨_, _, rfl, ⟨rfl, rfl⟩, hs⟩)
  intro J297
  refine G.less ?_ (J297 FUEL  0 h)
  exact ⟨rfl, rfl, rfl, rfl, rfl, trivial⟩
set_option maxRecDepth 20000 in
theorem reads_History_Forget_1.ok {O : World} {H : PH} {Fr : List Res} (a0 : S_reads_was) (A0 : Option Addr) (n0 : Nat) (F0 : SlR K_S_api_Touch H A0 n0 a0.l) (a1 : Int) (g1 : Nat) {r : Bool} (h : reads_History_Forget_1.f a0 a1 = some r) :
    CtrS Try.prog 38 [.agg (([.int .u64 a0.version] : List Value) ++ (([.slice A0 a0.l.length n0] : List Value))).toArray, .pointer (some ⟨g1, 0, none⟩)] O H (BK 30 (Kd.int .u64) g1 a1 :: Fr) (fun v L' => v = .bool r ∧ BK 30 (Kd.int .u64) g1 a1 :: Fr = L') := by
  refine CtrS.start (n := 8) Try.func38 rfl Try.ntmps38 rfl rfl ?_
  unfold reads_History_Forget_1.f at h
  refine G.seq ?_
  refine G.region (l := [0, 1]) rfl ?_
  refine G.box (dk := K_R_reads_was) (y := (R_reads_was.mk a0.version (A0, a0.l.length, n0))) rfl rfl rfl rfl (VR.A (cs := ([.int .u64 a0.version] : List Value) ++ (([.slice A0 a0.l.length n0] : List Value))) (K_R_reads_was.mk rfl rfl)) ?_
  intro g2
  refine G.assign rfl rfl rfl rfl ?_
  refine G.regionEnd ?_
  refine G.seq ?_
  refine G.region (l := [0, 1, 2, 3, 4]) rfl ?_
  refine G.field (off' := 0) rfl rfl rfl rfl Try.underlying63 rfl sz30 rfl rfl ?_
  refine G.loadI (y := a0.version) rfl rfl rfl rfl ty30 (fun w hs => Rd.bk (R_reads_was.L_version _) hs (j := 0) rfl) ?_
  refine G.loadI (y := a1) rfl rfl rfl rfl ty30 (fun w hs => Rd.bk (Lens.id _ _) hs (j := 1) rfl) ?_
  refine G.cmp (a0.version ≤ a1) rfl rfl rfl rfl rfl rfl Iff.rfl ?_
  refine G.assign rfl rfl rfl rfl ?_
  refine G.regionEnd ?_
  refine G.drop ?_
  obtain rfl := Option.some.inj h
  exact G.ret1 Try.func38 rfl rfl (fun w hs => ⟨_, _, rfl, ⟨rfl, rfl⟩, hs⟩)
set_option maxRecDepth 20000 in
theorem reads_History_Forget_1_s2.ok {O : World} {H : PH} {Fr : List Res} (a0 : S_reads_was) (A0 : Option Addr) (n0 : Nat) (F0 : SlR K_S_api_Touch H A0 n0 a0.l) (a1 : Int) (g1 : Nat) {r : Bool} (h : reads_History_Forget_1.f a0 a1 = some r) :
    CtrS Try.prog 38 [.agg (([.int .u64 a0.version] : List Value) ++ (([.slice A0 a0.l.length n0] : List Value))).toArray, .pointer (some ⟨g1, 0, none⟩)] O H (BK 30 (Kd.int .u64) g1 a1 :: Fr) (fun v L' => v = .bool r ∧ BK 30 (Kd.int .u64) g1 a1 :: Fr = L') := by
  refine CtrS.start (n := 8) Try.func38 rfl Try.ntmps38 rfl rfl ?_
  unfold reads_History_Forget_1.f at h
  refine G.seq ?_
  refine G.region (l := [0, 1]) rfl ?_
  refine G.box (dk := K_R_reads_was) (y := (R_reads_was.mk a0.version (A0, a0.l.length, n0))) rfl rfl rfl rfl (VR.A (cs := ([.int .u64 a0.version] : List Value) ++ (([.slice A0 a0.l.length n0] : List Value))) (K_R_reads_was.mk rfl rfl)) ?_
  intro g2
  refine G.assign rfl rfl rfl rfl ?_
  refine G.regionEnd ?_
  refine G.seq ?_
  refine G.region (l := [0, 1, 2, 3, 4]) rfl ?_
  refine G.field (off' := 0) rfl rfl rfl rfl Try.underlying63 rfl sz30 rfl rfl ?_
  refine G.loadI (y := a0.version) rfl rfl rfl rfl ty30 (fun w hs => Rd.bk (R_reads_was.L_version _) hs (j := 0) rfl) ?_
  refine G.loadI (y := a1) rfl rfl rfl rfl ty30 (fun w hs => Rd.bk (Lens.id _ _) hs (j := 1) rfl) ?_
  refine G.cmp (a0.version ≤ a1) rfl rfl rfl rfl rfl rfl Iff.rfl ?_
  refine G.assign rfl rfl rfl rfl ?_
  refine G.regionEnd ?_
  refine G.drop ?_
  obtain rfl := Option.some.inj h
  exact G.ret1 Try.func38 rfl rfl (fun w hs => ⟨_, _, rfl, ⟨rfl, rfl⟩, hs⟩)
end Go.Proofs.Ytpiliblfmpgjeaa
