/- Own text, printed by wip/g2: kinds and types. -/
import Derived.Test.YtpiliblfmpgjeaaBd
import Derived.Test.YtpiliblfmpgjeaaProg
import Derived.KernelRfl
namespace Go.Proofs.Ytpiliblfmpgjeaa
open Go K
set_option linter.unusedVariables false
structure R_reads_Set where
  l : (Option Addr × Nat × Nat)
structure R_reads_History where
  l : (Option Addr × Nat × Nat)
structure R_armoirelaw15_Act where
  do_ : Int
  v : Int
  l : (Option Addr × Nat × Nat)
structure R_reads_was where
  version : Int
  l : (Option Addr × Nat × Nat)
structure R_armoireref15_Was where
  version : Int
  l : (Option Addr × Nat × Nat)
def K_S_api_Touch : Kd S_api_Touch := Kd.iso (Kd.pair (Kd.int .i64) (Kd.pair (Kd.int .u32) (Kd.pair Kd.str (Kd.pair (Kd.int .i64) (Kd.int .i64))))) (fun x => (x.kind, (x.ino, (x.name, (x.lo, x.hi)))))
theorem S_api_Touch.L_kind (x : S_api_Touch) : Lens K_S_api_Touch 0 (Kd.int .i64) (fun x => x.kind) (fun x y => { x with kind := y }) x := Lens.to (Lens.comp (Lens.iso (fi := fun p => ⟨p.1, p.2.1, p.2.2.1, p.2.2.2.1, p.2.2.2.2⟩) (fun _ => rfl)) Lens.fst) rfl rfl (fun _ => rfl)
theorem S_api_Touch.L_ino (x : S_api_Touch) : Lens K_S_api_Touch 1 (Kd.int .u32) (fun x => x.ino) (fun x y => { x with ino := y }) x := Lens.to (Lens.comp (Lens.iso (fi := fun p => ⟨p.1, p.2.1, p.2.2.1, p.2.2.2.1, p.2.2.2.2⟩) (fun _ => rfl)) (Lens.comp (Lens.snd) Lens.fst)) rfl rfl (fun _ => rfl)
theorem S_api_Touch.L_name (x : S_api_Touch) : Lens K_S_api_Touch 2 Kd.str (fun x => x.name) (fun x y => { x with name := y }) x := Lens.to (Lens.comp (Lens.iso (fi := fun p => ⟨p.1, p.2.1, p.2.2.1, p.2.2.2.1, p.2.2.2.2⟩) (fun _ => rfl)) (Lens.comp (Lens.comp (Lens.snd) Lens.snd) Lens.fst)) rfl rfl (fun _ => rfl)
theorem S_api_Touch.L_lo (x : S_api_Touch) : Lens K_S_api_Touch 3 (Kd.int .i64) (fun x => x.lo) (fun x y => { x with lo := y }) x := Lens.to (Lens.comp (Lens.iso (fi := fun p => ⟨p.1, p.2.1, p.2.2.1, p.2.2.2.1, p.2.2.2.2⟩) (fun _ => rfl)) (Lens.comp (Lens.comp (Lens.comp (Lens.snd) Lens.snd) Lens.snd) Lens.fst)) rfl rfl (fun _ => rfl)
theorem S_api_Touch.L_hi (x : S_api_Touch) : Lens K_S_api_Touch 4 (Kd.int .i64) (fun x => x.hi) (fun x y => { x with hi := y }) x := Lens.to (Lens.comp (Lens.iso (fi := fun p => ⟨p.1, p.2.1, p.2.2.1, p.2.2.2.1, p.2.2.2.2⟩) (fun _ => rfl)) (Lens.comp (Lens.comp (Lens.comp (Lens.snd) Lens.snd) Lens.snd) Lens.snd)) rfl rfl (fun _ => rfl)
theorem flat_S_api_Touch : Flat K_S_api_Touch := Flat.iso (Flat.pair Flat.I (Flat.pair Flat.I (Flat.pair Flat.S (Flat.pair Flat.I Flat.I))))
theorem K_S_api_Touch.mk {H : PH} {x : S_api_Touch} {c0 : List Value} (h0 : (Kd.int .i64).R H x.kind c0) {c1 : List Value} (h1 : (Kd.int .u32).R H x.ino c1) {c2 : List Value} (h2 : Kd.str.R H x.name c2) {c3 : List Value} (h3 : (Kd.int .i64).R H x.lo c3) {c4 : List Value} (h4 : (Kd.int .i64).R H x.hi c4) : K_S_api_Touch.R H x (c0 ++ (c1 ++ (c2 ++ (c3 ++ (c4))))) := ⟨_, _, rfl, h0, ⟨_, _, rfl, h1, ⟨_, _, rfl, h2, ⟨_, _, rfl, h3, h4⟩⟩⟩⟩
def K_S_armoirelaw15_Op : Kd S_armoirelaw15_Op := Kd.iso (Kd.pair (Kd.int .i64) (Kd.pair (Kd.int .i64) K_S_api_Touch)) (fun x => (x.do_, (x.n, x.t)))
theorem S_armoirelaw15_Op.L_do_ (x : S_armoirelaw15_Op) : Lens K_S_armoirelaw15_Op 0 (Kd.int .i64) (fun x => x.do_) (fun x y => { x with do_ := y }) x := Lens.to (Lens.comp (Lens.iso (fi := fun p => ⟨p.1, p.2.1, p.2.2⟩) (fun _ => rfl)) Lens.fst) rfl rfl (fun _ => rfl)
theorem S_armoirelaw15_Op.L_n (x : S_armoirelaw15_Op) : Lens K_S_armoirelaw15_Op 1 (Kd.int .i64) (fun x => x.n) (fun x y => { x with n := y }) x := Lens.to (Lens.comp (Lens.iso (fi := fun p => ⟨p.1, p.2.1, p.2.2⟩) (fun _ => rfl)) (Lens.comp (Lens.snd) Lens.fst)) rfl rfl (fun _ => rfl)
theorem S_armoirelaw15_Op.L_t (x : S_armoirelaw15_Op) : Lens K_S_armoirelaw15_Op 2 K_S_api_Touch (fun x => x.t) (fun x y => { x with t := y }) x := Lens.to (Lens.comp (Lens.iso (fi := fun p => ⟨p.1, p.2.1, p.2.2⟩) (fun _ => rfl)) (Lens.comp (Lens.snd) Lens.snd)) rfl rfl (fun _ => rfl)
theorem flat_S_armoirelaw15_Op : Flat K_S_armoirelaw15_Op := Flat.iso (Flat.pair Flat.I (Flat.pair Flat.I flat_S_api_Touch))
theorem K_S_armoirelaw15_Op.mk {H : PH} {x : S_armoirelaw15_Op} {c0 : List Value} (h0 : (Kd.int .i64).R H x.do_ c0) {c1 : List Value} (h1 : (Kd.int .i64).R H x.n c1) {c2 : List Value} (h2 : K_S_api_Touch.R H x.t c2) : K_S_armoirelaw15_Op.R H x (c0 ++ (c1 ++ (c2))) := ⟨_, _, rfl, h0, ⟨_, _, rfl, h1, h2⟩⟩
def K_S_reads_Set : Kd S_reads_Set := Kd.iso (Kd.sl K_S_api_Touch) (fun x => x.l)
theorem S_reads_Set.L_l (x : S_reads_Set) : Lens K_S_reads_Set 0 (Kd.sl K_S_api_Touch) (fun x => x.l) (fun x y => { x with l := y }) x := Lens.to (Lens.iso (fi := fun p => ⟨p⟩) (fun _ => rfl)) rfl rfl (fun _ => rfl)
theorem K_S_reads_Set.mk {H : PH} {x : S_reads_Set} {c0 : List Value} (h0 : (Kd.sl K_S_api_Touch).R H x.l c0) : K_S_reads_Set.R H x (c0) := h0
def K_R_reads_Set : Kd R_reads_Set := Kd.iso Kd.hdr (fun x => x.l)
theorem R_reads_Set.L_l (x : R_reads_Set) : Lens K_R_reads_Set 0 Kd.hdr (fun x => x.l) (fun x y => { x with l := y }) x := Lens.to (Lens.iso (fi := fun p => ⟨p⟩) (fun _ => rfl)) rfl rfl (fun _ => rfl)
theorem flat_R_reads_Set : Flat K_R_reads_Set := Flat.iso Flat.sc
theorem K_R_reads_Set.mk {H : PH} {x : R_reads_Set} {c0 : List Value} (h0 : Kd.hdr.R H x.l c0) : K_R_reads_Set.R H x (c0) := h0
def K_S_armoirelaw15_Act : Kd S_armoirelaw15_Act := Kd.iso (Kd.pair (Kd.int .i64) (Kd.pair (Kd.int .u64) (Kd.sl K_S_api_Touch))) (fun x => (x.do_, (x.v, x.l)))
theorem S_armoirelaw15_Act.L_do_ (x : S_armoirelaw15_Act) : Lens K_S_armoirelaw15_Act 0 (Kd.int .i64) (fun x => x.do_) (fun x y => { x with do_ := y }) x := Lens.to (Lens.comp (Lens.iso (fi := fun p => ⟨p.1, p.2.1, p.2.2⟩) (fun _ => rfl)) Lens.fst) rfl rfl (fun _ => rfl)
theorem S_armoirelaw15_Act.L_v (x : S_armoirelaw15_Act) : Lens K_S_armoirelaw15_Act 1 (Kd.int .u64) (fun x => x.v) (fun x y => { x with v := y }) x := Lens.to (Lens.comp (Lens.iso (fi := fun p => ⟨p.1, p.2.1, p.2.2⟩) (fun _ => rfl)) (Lens.comp (Lens.snd) Lens.fst)) rfl rfl (fun _ => rfl)
theorem S_armoirelaw15_Act.L_l (x : S_armoirelaw15_Act) : Lens K_S_armoirelaw15_Act 2 (Kd.sl K_S_api_Touch) (fun x => x.l) (fun x y => { x with l := y }) x := Lens.to (Lens.comp (Lens.iso (fi := fun p => ⟨p.1, p.2.1, p.2.2⟩) (fun _ => rfl)) (Lens.comp (Lens.snd) Lens.snd)) rfl rfl (fun _ => rfl)
theorem K_S_armoirelaw15_Act.mk {H : PH} {x : S_armoirelaw15_Act} {c0 : List Value} (h0 : (Kd.int .i64).R H x.do_ c0) {c1 : List Value} (h1 : (Kd.int .u64).R H x.v c1) {c2 : List Value} (h2 : (Kd.sl K_S_api_Touch).R H x.l c2) : K_S_armoirelaw15_Act.R H x (c0 ++ (c1 ++ (c2))) := ⟨_, _, rfl, h0, ⟨_, _, rfl, h1, h2⟩⟩
def K_S_reads_was : Kd S_reads_was := Kd.iso (Kd.pair (Kd.int .u64) (Kd.sl K_S_api_Touch)) (fun x => (x.version, x.l))
theorem S_reads_was.L_version (x : S_reads_was) : Lens K_S_reads_was 0 (Kd.int .u64) (fun x => x.version) (fun x y => { x with version := y }) x := Lens.to (Lens.comp (Lens.iso (fi := fun p => ⟨p.1, p.2⟩) (fun _ => rfl)) Lens.fst) rfl rfl (fun _ => rfl)
theorem S_reads_was.L_l (x : S_reads_was) : Lens K_S_reads_was 1 (Kd.sl K_S_api_Touch) (fun x => x.l) (fun x y => { x with l := y }) x := Lens.to (Lens.comp (Lens.iso (fi := fun p => ⟨p.1, p.2⟩) (fun _ => rfl)) (Lens.snd)) rfl rfl (fun _ => rfl)
theorem K_S_reads_was.mk {H : PH} {x : S_reads_was} {c0 : List Value} (h0 : (Kd.int .u64).R H x.version c0) {c1 : List Value} (h1 : (Kd.sl K_S_api_Touch).R H x.l c1) : K_S_reads_was.R H x (c0 ++ (c1)) := ⟨_, _, rfl, h0, h1⟩
def K_S_reads_History : Kd S_reads_History := Kd.iso (Kd.sl K_S_reads_was) (fun x => x.l)
theorem S_reads_History.L_l (x : S_reads_History) : Lens K_S_reads_History 0 (Kd.sl K_S_reads_was) (fun x => x.l) (fun x y => { x with l := y }) x := Lens.to (Lens.iso (fi := fun p => ⟨p⟩) (fun _ => rfl)) rfl rfl (fun _ => rfl)
theorem K_S_reads_History.mk {H : PH} {x : S_reads_History} {c0 : List Value} (h0 : (Kd.sl K_S_reads_was).R H x.l c0) : K_S_reads_History.R H x (c0) := h0
def K_R_reads_History : Kd R_reads_History := Kd.iso Kd.hdr (fun x => x.l)
theorem R_reads_History.L_l (x : R_reads_History) : Lens K_R_reads_History 0 Kd.hdr (fun x => x.l) (fun x y => { x with l := y }) x := Lens.to (Lens.iso (fi := fun p => ⟨p⟩) (fun _ => rfl)) rfl rfl (fun _ => rfl)
theorem flat_R_reads_History : Flat K_R_reads_History := Flat.iso Flat.sc
theorem K_R_reads_History.mk {H : PH} {x : R_reads_History} {c0 : List Value} (h0 : Kd.hdr.R H x.l c0) : K_R_reads_History.R H x (c0) := h0
def K_R_armoirelaw15_Act : Kd R_armoirelaw15_Act := Kd.iso (Kd.pair (Kd.int .i64) (Kd.pair (Kd.int .u64) Kd.hdr)) (fun x => (x.do_, (x.v, x.l)))
theorem R_armoirelaw15_Act.L_do_ (x : R_armoirelaw15_Act) : Lens K_R_armoirelaw15_Act 0 (Kd.int .i64) (fun x => x.do_) (fun x y => { x with do_ := y }) x := Lens.to (Lens.comp (Lens.iso (fi := fun p => ⟨p.1, p.2.1, p.2.2⟩) (fun _ => rfl)) Lens.fst) rfl rfl (fun _ => rfl)
theorem R_armoirelaw15_Act.L_v (x : R_armoirelaw15_Act) : Lens K_R_armoirelaw15_Act 1 (Kd.int .u64) (fun x => x.v) (fun x y => { x with v := y }) x := Lens.to (Lens.comp (Lens.iso (fi := fun p => ⟨p.1, p.2.1, p.2.2⟩) (fun _ => rfl)) (Lens.comp (Lens.snd) Lens.fst)) rfl rfl (fun _ => rfl)
theorem R_armoirelaw15_Act.L_l (x : R_armoirelaw15_Act) : Lens K_R_armoirelaw15_Act 2 Kd.hdr (fun x => x.l) (fun x y => { x with l := y }) x := Lens.to (Lens.comp (Lens.iso (fi := fun p => ⟨p.1, p.2.1, p.2.2⟩) (fun _ => rfl)) (Lens.comp (Lens.snd) Lens.snd)) rfl rfl (fun _ => rfl)
theorem flat_R_armoirelaw15_Act : Flat K_R_armoirelaw15_Act := Flat.iso (Flat.pair Flat.I (Flat.pair Flat.I Flat.sc))
theorem K_R_armoirelaw15_Act.mk {H : PH} {x : R_armoirelaw15_Act} {c0 : List Value} (h0 : (Kd.int .i64).R H x.do_ c0) {c1 : List Value} (h1 : (Kd.int .u64).R H x.v c1) {c2 : List Value} (h2 : Kd.hdr.R H x.l c2) : K_R_armoirelaw15_Act.R H x (c0 ++ (c1 ++ (c2))) := ⟨_, _, rfl, h0, ⟨_, _, rfl, h1, h2⟩⟩
def K_R_reads_was : Kd R_reads_was := Kd.iso (Kd.pair (Kd.int .u64) Kd.hdr) (fun x => (x.version, x.l))
theorem R_reads_was.L_version (x : R_reads_was) : Lens K_R_reads_was 0 (Kd.int .u64) (fun x => x.version) (fun x y => { x with version := y }) x := Lens.to (Lens.comp (Lens.iso (fi := fun p => ⟨p.1, p.2⟩) (fun _ => rfl)) Lens.fst) rfl rfl (fun _ => rfl)
theorem R_reads_was.L_l (x : R_reads_was) : Lens K_R_reads_was 1 Kd.hdr (fun x => x.l) (fun x y => { x with l := y }) x := Lens.to (Lens.comp (Lens.iso (fi := fun p => ⟨p.1, p.2⟩) (fun _ => rfl)) (Lens.snd)) rfl rfl (fun _ => rfl)
theorem flat_R_reads_was : Flat K_R_reads_was := Flat.iso (Flat.pair Flat.I Flat.sc)
theorem K_R_reads_was.mk {H : PH} {x : R_reads_was} {c0 : List Value} (h0 : (Kd.int .u64).R H x.version c0) {c1 : List Value} (h1 : Kd.hdr.R H x.l c1) : K_R_reads_was.R H x (c0 ++ (c1)) := ⟨_, _, rfl, h0, h1⟩
def K_S_armoireref15_Was : Kd S_armoireref15_Was := Kd.iso (Kd.pair (Kd.int .u64) (Kd.sl K_S_api_Touch)) (fun x => (x.version, x.l))
theorem S_armoireref15_Was.L_version (x : S_armoireref15_Was) : Lens K_S_armoireref15_Was 0 (Kd.int .u64) (fun x => x.version) (fun x y => { x with version := y }) x := Lens.to (Lens.comp (Lens.iso (fi := fun p => ⟨p.1, p.2⟩) (fun _ => rfl)) Lens.fst) rfl rfl (fun _ => rfl)
theorem S_armoireref15_Was.L_l (x : S_armoireref15_Was) : Lens K_S_armoireref15_Was 1 (Kd.sl K_S_api_Touch) (fun x => x.l) (fun x y => { x with l := y }) x := Lens.to (Lens.comp (Lens.iso (fi := fun p => ⟨p.1, p.2⟩) (fun _ => rfl)) (Lens.snd)) rfl rfl (fun _ => rfl)
theorem K_S_armoireref15_Was.mk {H : PH} {x : S_armoireref15_Was} {c0 : List Value} (h0 : (Kd.int .u64).R H x.version c0) {c1 : List Value} (h1 : (Kd.sl K_S_api_Touch).R H x.l c1) : K_S_armoireref15_Was.R H x (c0 ++ (c1)) := ⟨_, _, rfl, h0, h1⟩
def K_R_armoireref15_Was : Kd R_armoireref15_Was := Kd.iso (Kd.pair (Kd.int .u64) Kd.hdr) (fun x => (x.version, x.l))
theorem R_armoireref15_Was.L_version (x : R_armoireref15_Was) : Lens K_R_armoireref15_Was 0 (Kd.int .u64) (fun x => x.version) (fun x y => { x with version := y }) x := Lens.to (Lens.comp (Lens.iso (fi := fun p => ⟨p.1, p.2⟩) (fun _ => rfl)) Lens.fst) rfl rfl (fun _ => rfl)
theorem R_armoireref15_Was.L_l (x : R_armoireref15_Was) : Lens K_R_armoireref15_Was 1 Kd.hdr (fun x => x.l) (fun x y => { x with l := y }) x := Lens.to (Lens.comp (Lens.iso (fi := fun p => ⟨p.1, p.2⟩) (fun _ => rfl)) (Lens.snd)) rfl rfl (fun _ => rfl)
theorem flat_R_armoireref15_Was : Flat K_R_armoireref15_Was := Flat.iso (Flat.pair Flat.I Flat.sc)
theorem K_R_armoireref15_Was.mk {H : PH} {x : R_armoireref15_Was} {c0 : List Value} (h0 : (Kd.int .u64).R H x.version c0) {c1 : List Value} (h1 : Kd.hdr.R H x.l c1) : K_R_armoireref15_Was.R H x (c0 ++ (c1)) := ⟨_, _, rfl, h0, h1⟩
def S_api_Touch.enc (x : S_api_Touch) : List Value := ([.int .i64 x.kind] : List Value) ++ (([.int .u32 x.ino] : List Value) ++ (([strV x.name] : List Value) ++ (([.int .i64 x.lo] : List Value) ++ (([.int .i64 x.hi] : List Value)))))
theorem K_S_api_Touch.of {H : PH} (x : S_api_Touch) : K_S_api_Touch.R H x (S_api_Touch.enc x) := K_S_api_Touch.mk rfl rfl rfl rfl rfl
theorem K_S_api_Touch.open {H : PH} {x : S_api_Touch} {cs : List Value} (h : K_S_api_Touch.R H x cs) : cs = S_api_Touch.enc x := by
  obtain ⟨_, _, rfl, rfl, ⟨_, _, rfl, rfl, ⟨_, _, rfl, rfl, ⟨_, _, rfl, rfl, rfl⟩⟩⟩⟩ := h
  rfl
def S_armoirelaw15_Op.enc (x : S_armoirelaw15_Op) : List Value := ([.int .i64 x.do_] : List Value) ++ (([.int .i64 x.n] : List Value) ++ ((S_api_Touch.enc x.t)))
theorem K_S_armoirelaw15_Op.of {H : PH} (x : S_armoirelaw15_Op) : K_S_armoirelaw15_Op.R H x (S_armoirelaw15_Op.enc x) := K_S_armoirelaw15_Op.mk rfl rfl (K_S_api_Touch.of _)
theorem K_S_armoirelaw15_Op.open {H : PH} {x : S_armoirelaw15_Op} {cs : List Value} (h : K_S_armoirelaw15_Op.R H x cs) : cs = S_armoirelaw15_Op.enc x := by
  obtain ⟨_, _, rfl, rfl, ⟨_, _, rfl, rfl, q3⟩⟩ := h
  obtain rfl := K_S_api_Touch.open q3
  rfl
theorem K_S_armoirelaw15_Act.open {H : PH} {x : S_armoirelaw15_Act} {cs : List Value} (h : K_S_armoirelaw15_Act.R H x cs) : ∃ (A3 : Option Addr) (N3 : Nat), SlR K_S_api_Touch H A3 N3 x.l ∧ cs = ([.int .i64 x.do_] : List Value) ++ (([.int .u64 x.v] : List Value) ++ (([.slice A3 x.l.length N3] : List Value))) := by
  obtain ⟨_, _, rfl, rfl, ⟨_, _, rfl, rfl, ⟨A3, N3, rfl, F3⟩⟩⟩ := h
  exact ⟨A3, N3, F3, rfl⟩
theorem K_S_reads_was.open {H : PH} {x : S_reads_was} {cs : List Value} (h : K_S_reads_was.R H x cs) : ∃ (A2 : Option Addr) (N2 : Nat), SlR K_S_api_Touch H A2 N2 x.l ∧ cs = ([.int .u64 x.version] : List Value) ++ (([.slice A2 x.l.length N2] : List Value)) := by
  obtain ⟨_, _, rfl, rfl, ⟨A2, N2, rfl, F2⟩⟩ := h
  exact ⟨A2, N2, F2, rfl⟩
theorem K_R_reads_was.open {H : PH} {x : R_reads_was} {cs : List Value} (h : K_R_reads_was.R H x cs) : cs = ([.int .u64 x.version] : List Value) ++ (([hdrV x.l] : List Value)) := by
  obtain ⟨_, _, rfl, rfl, rfl⟩ := h
  exact rfl
theorem K_S_armoireref15_Was.open {H : PH} {x : S_armoireref15_Was} {cs : List Value} (h : K_S_armoireref15_Was.R H x cs) : ∃ (A2 : Option Addr) (N2 : Nat), SlR K_S_api_Touch H A2 N2 x.l ∧ cs = ([.int .u64 x.version] : List Value) ++ (([.slice A2 x.l.length N2] : List Value)) := by
  obtain ⟨_, _, rfl, rfl, ⟨A2, N2, rfl, F2⟩⟩ := h
  exact ⟨A2, N2, F2, rfl⟩
theorem K_R_armoireref15_Was.open {H : PH} {x : R_armoireref15_Was} {cs : List Value} (h : K_R_armoireref15_Was.R H x cs) : cs = ([.int .u64 x.version] : List Value) ++ (([hdrV x.l] : List Value)) := by
  obtain ⟨_, _, rfl, rfl, rfl⟩ := h
  exact rfl
theorem ty3 : TyOk Try.prog 3 (Kd.int .i64) := ⟨by kernel_rfl, _, Try.underlying3, rfl⟩
theorem ty9 : TyOk Try.prog 9 Kd.str := ⟨by kernel_rfl, _, Try.underlying9, rfl⟩
theorem ty22 : TyOk Try.prog 22 (Kd.int .u32) := ⟨by kernel_rfl, _, Try.underlying22, rfl⟩
theorem ty24 : TyOk Try.prog 24 K_S_api_Touch := ⟨by kernel_rfl, _, Try.underlying24, rfl⟩
theorem ty30 : TyOk Try.prog 30 (Kd.int .u64) := ⟨by kernel_rfl, _, Try.underlying30, rfl⟩
theorem ty31r : TyOk Try.prog 31 Kd.hdr := ⟨by kernel_rfl, _, Try.underlying31, rfl⟩
theorem ty35 : TyOk Try.prog 35 K_S_armoirelaw15_Act := ⟨by kernel_rfl, _, Try.underlying35, rfl⟩
theorem ty43 : TyOk Try.prog 43 K_S_armoirelaw15_Op := ⟨by kernel_rfl, _, Try.underlying43, rfl⟩
theorem ty54 : TyOk Try.prog 54 K_S_armoireref15_Was := ⟨by kernel_rfl, _, Try.underlying54, rfl⟩
theorem ty54r : TyOk Try.prog 54 K_R_armoireref15_Was := ⟨by kernel_rfl, _, Try.underlying54, rfl⟩
theorem ty58r : TyOk Try.prog 58 Kd.hdr := ⟨by kernel_rfl, _, Try.underlying58, rfl⟩
theorem ty63 : TyOk Try.prog 63 K_S_reads_was := ⟨by kernel_rfl, _, Try.underlying63, rfl⟩
theorem ty63r : TyOk Try.prog 63 K_R_reads_was := ⟨by kernel_rfl, _, Try.underlying63, rfl⟩
theorem el29 : ElOk Try.prog 29 35 K_S_armoirelaw15_Act 40 := ⟨Try.underlying29, by kernel_rfl⟩
theorem el31 : ElOk Try.prog 31 24 K_S_api_Touch 48 := ⟨Try.underlying31, by kernel_rfl⟩
theorem el39 : ElOk Try.prog 39 43 K_S_armoirelaw15_Op 64 := ⟨Try.underlying39, by kernel_rfl⟩
theorem el51 : ElOk Try.prog 51 54 K_S_armoireref15_Was 32 := ⟨Try.underlying51, by kernel_rfl⟩
theorem el58 : ElOk Try.prog 58 63 K_S_reads_was 32 := ⟨Try.underlying58, by kernel_rfl⟩
theorem eq24 : EqOk Try.prog 24 K_S_api_Touch 2 := EqOk.struct Try.underlying24 (by kernel_rfl) rfl (fun x y h => by cases x; cases y; simp only [Prod.mk.injEq] at h; simp only [S_api_Touch.mk.injEq]; exact h) (EqFs.cons (by decide) rfl ty3 (EqOk.int Try.underlying3) (EqFs.cons (by decide) rfl ty22 (EqOk.int Try.underlying22) (EqFs.cons (by decide) rfl ty9 (EqOk.str Try.underlying9) (EqFs.cons (by decide) rfl ty3 (EqOk.int Try.underlying3) (EqFs.one (by decide) rfl ty3 (EqOk.int Try.underlying3))))))
theorem sz3 : (Try.prog.info? 3).map (·.size) = some 1 := by kernel_rfl
theorem sz9 : (Try.prog.info? 9).map (·.size) = some 1 := by kernel_rfl
theorem sz22 : (Try.prog.info? 22).map (·.size) = some 1 := by kernel_rfl
theorem sz24 : (Try.prog.info? 24).map (·.size) = some 5 := by kernel_rfl
theorem sz30 : (Try.prog.info? 30).map (·.size) = some 1 := by kernel_rfl
theorem sz31 : (Try.prog.info? 31).map (·.size) = some 1 := by kernel_rfl
theorem sz35 : (Try.prog.info? 35).map (·.size) = some 3 := by kernel_rfl
theorem sz43 : (Try.prog.info? 43).map (·.size) = some 7 := by kernel_rfl
theorem sz54 : (Try.prog.info? 54).map (·.size) = some 2 := by kernel_rfl
theorem sz58 : (Try.prog.info? 58).map (·.size) = some 1 := by kernel_rfl
theorem sz63 : (Try.prog.info? 63).map (·.size) = some 2 := by kernel_rfl
theorem call9 : CallOk Try.prog 9 := CallOk.mk Try.func9 (by kernel_rfl) (by kernel_rfl)
theorem call10 : CallOk Try.prog 10 := CallOk.mk Try.func10 (by kernel_rfl) (by kernel_rfl)
theorem call11 : CallOk Try.prog 11 := CallOk.mk Try.func11 (by kernel_rfl) (by kernel_rfl)
theorem call12 : CallOk Try.prog 12 := CallOk.mk Try.func12 (by kernel_rfl) (by kernel_rfl)
theorem call13 : CallOk Try.prog 13 := CallOk.mk Try.func13 (by kernel_rfl) (by kernel_rfl)
theorem call14 : CallOk Try.prog 14 := CallOk.mk Try.func14 (by kernel_rfl) (by kernel_rfl)
theorem call15 : CallOk Try.prog 15 := CallOk.mk Try.func15 (by kernel_rfl) (by kernel_rfl)
theorem call16 : CallOk Try.prog 16 := CallOk.mk Try.func16 (by kernel_rfl) (by kernel_rfl)
theorem call17 : CallOk Try.prog 17 := CallOk.mk Try.func17 (by kernel_rfl) (by kernel_rfl)
theorem call18 : CallOk Try.prog 18 := CallOk.mk Try.func18 (by kernel_rfl) (by kernel_rfl)
theorem call19 : CallOk Try.prog 19 := CallOk.mk Try.func19 (by kernel_rfl) (by kernel_rfl)
theorem call20 : CallOk Try.prog 20 := CallOk.mk Try.func20 (by kernel_rfl) (by kernel_rfl)
theorem call21 : CallOk Try.prog 21 := CallOk.mk Try.func21 (by kernel_rfl) (by kernel_rfl)
theorem call22 : CallOk Try.prog 22 := CallOk.mk Try.func22 (by kernel_rfl) (by kernel_rfl)
theorem call23 : CallOk Try.prog 23 := CallOk.mk Try.func23 (by kernel_rfl) (by kernel_rfl)
theorem call24 : CallOk Try.prog 24 := CallOk.mk Try.func24 (by kernel_rfl) (by kernel_rfl)
theorem call25 : CallOk Try.prog 25 := CallOk.mk Try.func25 (by kernel_rfl) (by kernel_rfl)
theorem call26 : CallOk Try.prog 26 := CallOk.mk Try.func26 (by kernel_rfl) (by kernel_rfl)
theorem call27 : CallOk Try.prog 27 := CallOk.mk Try.func27 (by kernel_rfl) (by kernel_rfl)
theorem call28 : CallOk Try.prog 28 := CallOk.mk Try.func28 (by kernel_rfl) (by kernel_rfl)
theorem call29 : CallOk Try.prog 29 := CallOk.mk Try.func29 (by kernel_rfl) (by kernel_rfl)
theorem call30 : CallOk Try.prog 30 := CallOk.mk Try.func30 (by kernel_rfl) (by kernel_rfl)
theorem call31 : CallOk Try.prog 31 := CallOk.mk Try.func31 (by kernel_rfl) (by kernel_rfl)
theorem call32 : CallOk Try.prog 32 := CallOk.mk Try.func32 (by kernel_rfl) (by kernel_rfl)
theorem call33 : CallOk Try.prog 33 := CallOk.mk Try.func33 (by kernel_rfl) (by kernel_rfl)
theorem call34 : CallOk Try.prog 34 := CallOk.mk Try.func34 (by kernel_rfl) (by kernel_rfl)
theorem call35 : CallOk Try.prog 35 := CallOk.mk Try.func35 (by kernel_rfl) (by kernel_rfl)
theorem call36 : CallOk Try.prog 36 := CallOk.mk Try.func36 (by kernel_rfl) (by kernel_rfl)
theorem call37 : CallOk Try.prog 37 := CallOk.mk Try.func37 (by kernel_rfl) (by kernel_rfl)
theorem call38 : CallOk Try.prog 38 := CallOk.mk Try.func38 (by kernel_rfl) (by kernel_rfl)
theorem call39 : CallOk Try.prog 39 := CallOk.mk Try.func39 (by kernel_rfl) (by kernel_rfl)
theorem call40 : CallOk Try.prog 40 := CallOk.mk Try.func40 (by kernel_rfl) (by kernel_rfl)
theorem call41 : CallOk Try.prog 41 := CallOk.mk Try.func41 (by kernel_rfl) (by kernel_rfl)
end Go.Proofs.Ytpiliblfmpgjeaa
