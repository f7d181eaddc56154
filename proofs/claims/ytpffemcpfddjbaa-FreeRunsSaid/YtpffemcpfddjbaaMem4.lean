/- The judgement 'G': cuts, lengths, strings, conversions, structs built, calls; the order of resources (own text). -/
import Derived.Test.YtpffemcpfddjbaaMem3
import Derived.Laws.Strings
import Derived.Laws.BytesString
namespace Go.Proofs.Ytpffemcpfddjbaa.K
open Go

theorem str_toList (s : Str) : ByteArray.toList ⟨s.toArray⟩ = s := ByteArray.toList_mk s
section
variable {C : Cx} {H : PH} {A : List (Nat × Value)} {Ls L : List Res} {k : List Item}
/-! ### The order of resources; what is opened, left, let go -/
theorem St.swap {w O : World} {a b : Res} (s : St w O H (a :: b :: L)) : St w O H (b :: a :: L) := s.map fun _ x => x.swap
theorem St.under {w O : World} {r : Res} {L' : List Res} (s : St w O H (r :: L)) (e : ∀ h, Sats H L h → Sats H L' h) : St w O H (r :: L') := s.map fun _ x => Sats.cons e x
theorem Sats.front2 {a b c : Res} {h : PH} (s : Sats H (a :: b :: c :: L) h) : Sats H (c :: a :: b :: L) h := Sats.swap (Sats.cons (fun _ x => x.swap) s)
theorem Sats.front3 {a b c d : Res} {h : PH} (s : Sats H (a :: b :: c :: d :: L) h) : Sats H (d :: a :: b :: c :: L) h := Sats.swap (Sats.cons (fun _ x => x.front2) s)
theorem Sats.front4 {a b c d e : Res} {h : PH} (s : Sats H (a :: b :: c :: d :: e :: L) h) : Sats H (e :: a :: b :: c :: d :: L) h := Sats.swap (Sats.cons (fun _ x => x.front3) s)
theorem Sats.front5 {a b c d e f : Res} {h : PH} (s : Sats H (a :: b :: c :: d :: e :: f :: L) h) : Sats H (f :: a :: b :: c :: d :: e :: L) h := Sats.swap (Sats.cons (fun _ x => x.front4) s)
theorem Sats.front6 {a b c d e f g : Res} {h : PH} (s : Sats H (a :: b :: c :: d :: e :: f :: g :: L) h) : Sats H (g :: a :: b :: c :: d :: e :: f :: L) h := Sats.swap (Sats.cons (fun _ x => x.front5) s)
theorem Sats.front7 {a b c d e f g i : Res} {h : PH} (s : Sats H (a :: b :: c :: d :: e :: f :: g :: i :: L) h) : Sats H (i :: a :: b :: c :: d :: e :: f :: g :: L) h := Sats.swap (Sats.cons (fun _ x => x.front6) s)
theorem Sats.front8 {a b c d e f g i j : Res} {h : PH} (s : Sats H (a :: b :: c :: d :: e :: f :: g :: i :: j :: L) h) : Sats H (j :: a :: b :: c :: d :: e :: f :: g :: i :: L) h := Sats.swap (Sats.cons (fun _ x => x.front7) s)
theorem Sats.front9 {a b c d e f g i j l : Res} {h : PH} (s : Sats H (a :: b :: c :: d :: e :: f :: g :: i :: j :: l :: L) h) : Sats H (l :: a :: b :: c :: d :: e :: f :: g :: i :: j :: L) h := Sats.swap (Sats.cons (fun _ x => x.front8) s)
theorem G.map {L' : List Res} (e : ∀ h, Sats H L h → Sats H L' h) (g : G C H A L' k) : G C H A L k := fun a w ha hs => g a w ha (hs.map e)
theorem G.front1 {a b : Res} (g : G C H A (b :: a :: L) k) : G C H A (a :: b :: L) k := G.map (fun _ x => x.swap) g
theorem G.front2 {a b c : Res} (g : G C H A (c :: a :: b :: L) k) : G C H A (a :: b :: c :: L) k := G.map (fun _ x => x.front2) g
theorem G.front3 {a b c d : Res} (g : G C H A (d :: a :: b :: c :: L) k) : G C H A (a :: b :: c :: d :: L) k := G.map (fun _ x => x.front3) g
theorem G.front4 {a b c d e : Res} (g : G C H A (e :: a :: b :: c :: d :: L) k) : G C H A (a :: b :: c :: d :: e :: L) k := G.map (fun _ x => x.front4) g
theorem G.front5 {a b c d e f : Res} (g : G C H A (f :: a :: b :: c :: d :: e :: L) k) : G C H A (a :: b :: c :: d :: e :: f :: L) k := G.map (fun _ x => x.front5) g
theorem G.front6 {a b c d e f g : Res} (gg : G C H A (g :: a :: b :: c :: d :: e :: f :: L) k) : G C H A (a :: b :: c :: d :: e :: f :: g :: L) k := G.map (fun _ x => x.front6) gg
theorem G.front7 {a b c d e f g i : Res} (gg : G C H A (i :: a :: b :: c :: d :: e :: f :: g :: L) k) : G C H A (a :: b :: c :: d :: e :: f :: g :: i :: L) k := G.map (fun _ x => x.front7) gg
theorem G.front8 {a b c d e f g i j : Res} (gg : G C H A (j :: a :: b :: c :: d :: e :: f :: g :: i :: L) k) : G C H A (a :: b :: c :: d :: e :: f :: g :: i :: j :: L) k := G.map (fun _ x => x.front8) gg
theorem G.front9 {a b c d e f g i j l : Res} (gg : G C H A (l :: a :: b :: c :: d :: e :: f :: g :: i :: j :: L) k) : G C H A (a :: b :: c :: d :: e :: f :: g :: i :: j :: l :: L) k := G.map (fun _ x => x.front9) gg
theorem G.drop {r : Res} (g : G C H A L k) : G C H A (r :: L) k := fun a w ha hs => g a w ha hs.drop
theorem G.ex {σ : Type} {F : σ → Res} (g : ∀ x, G C H A (F x :: L) k) : G C H A (Res.ex F :: L) k := fun a w ha hs => by
  obtain ⟨h, s, x⟩ := hs.heap
  obtain ⟨y, s⟩ := Sats.ex.1 s
  exact g y a w ha ⟨⟨h, s, x⟩, hs.os, hs.tape, hs.output⟩
theorem G.star {a b : Res} (g : G C H A (a :: b :: L) k) : G C H A (Res.star a b :: L) k := G.map (fun _ x => Sats.star.1 x) g
theorem G.fact {p : Prop} (g : p → G C H A L k) : G C H A (Res.fact p :: L) k := fun a w ha hs => by
  obtain ⟨h, s, x⟩ := hs.heap
  obtain ⟨hp, s⟩ := Sats.fact.1 s
  exact g hp a w ha ⟨⟨h, s, x⟩, hs.os, hs.tape, hs.output⟩
theorem G.exI {σ : Type} {F : σ → Res} (x : σ) (g : G C H A (Res.ex F :: L) k) : G C H A (F x :: L) k := G.map (fun _ s => Sats.ex.2 ⟨x, s⟩) g
theorem G.starI {a b : Res} (g : G C H A (Res.star a b :: L) k) : G C H A (a :: b :: L) k := G.map (fun _ x => Sats.star.2 x) g
theorem St.exI {w O : World} {σ : Type} {F : σ → Res} (x : σ) (s : St w O H (F x :: L)) : St w O H (Res.ex F :: L) := s.map (fun _ s => Sats.ex.2 ⟨x, s⟩)
theorem St.starI {w O : World} {a b : Res} (s : St w O H (a :: b :: L)) : St w O H (Res.star a b :: L) := s.map (fun _ x => Sats.star.2 x)
theorem St.factI {w O : World} {p : Prop} (hp : p) (s : St w O H L) : St w O H (Res.fact p :: L) := s.map (fun _ x => Sats.fact.2 ⟨hp, x⟩)
/-- a nil slice, as one of one's own -/
theorem Sats.osNil {α : Type} (e : TypeId) (df : Kd α) {h : PH} (s : Sats H L h) : Sats H (OS e df none 0 [] :: L) h := ⟨PH.emp, h, PH.emp_disj _, (PH.emp_un _).symm, ⟨by simp, .inl ⟨rfl, rfl⟩⟩, s⟩
theorem G.osNil {α : Type} (e : TypeId) (df : Kd α) (g : G C H A (OS e df none 0 [] :: L) k) : G C H A L k :=
  G.map (fun _ s => Sats.osNil e df s) g
theorem St.osNil {α : Type} {w O : World} (e : TypeId) (df : Kd α) (s : St w O H L) : St w O H (OS e df none 0 [] :: L) :=
  s.map (fun _ s => Sats.osNil e df s)
/-- a slice of one's own, left for reading alone -/
theorem G.freezeO {α : Type} {e : TypeId} {df : Kd α} {B : Option Addr} {c : Nat} {xs : List α} (g : ∀ H', H.le H' → SlR df H' B c xs → G C H' A L k) : G C H A (OS e df B c xs :: L) k := fun a w ha hs => by
  obtain ⟨H', h, l1, l2, r, s⟩ := hs.freeze
  exact g H' l1 (OS.slR r l1 l2) a w ha s
theorem G.freezeB {α : Type} {t : TypeId} {dk : Kd α} {b : Nat} {x : α} (g : ∀ H', H.le H' → PtR dk H' ⟨b, 0, none⟩ x → G C H' A L k) : G C H A (BK t dk b x :: L) k := fun a w ha hs => by
  obtain ⟨H', h, l1, l2, r, s⟩ := hs.freeze
  exact g H' l1 (BK.ptR r l1 l2) a w ha s
theorem St.freezeO {α : Type} {w O : World} {e : TypeId} {df : Kd α} {B : Option Addr} {c : Nat} {xs : List α} (s : St w O H (OS e df B c xs :: L)) : ∃ H', H.le H' ∧ SlR df H' B c xs ∧ St w O H' L := by
  obtain ⟨H', h, l1, l2, r, s⟩ := s.freeze
  exact ⟨H', l1, OS.slR r l1 l2, s⟩
/-- what one knows of a slice of one's own -/
theorem G.osLen {α : Type} {e : TypeId} {df : Kd α} {B : Option Addr} {c : Nat} {xs : List α} (g : xs.length ≤ c → G C H A (OS e df B c xs :: L) k) : G C H A (OS e df B c xs :: L) k := fun a w ha hs => by
  obtain ⟨h, r, _⟩ := hs.nth (j := 0) rfl
  exact g r.1 a w ha hs

/-! ### Lengths, cuts -/
variable {ops : Array Oper} {i : Nat} {rest : List Nat} {d : Nat} {ty : TypeId} {ps : String} {af : Array Edge} {gd : Option (Nat × Bool)}
theorem G.len {x : Operand} {t e : TypeId} {B : Option Addr} {m c : Nat} (ho : ops[i]? = some { dst := some d, op := .call { callee := .builtin .len, args := #[x], argTypes := #[t] }, type := ty, pos := ps, after := af, guard := gd }) (hw : wantedA A ops gd = some true) (hn : Nat.blt d C.n = true)
    (hx : ev A x = some (.slice B m c)) (ht : C.P.underlying t = some (.slice e)) (g : G C H ((d, .int .i64 (m : Int)) :: A) Ls (.inRegion ops rest :: k)) : G C H A Ls (.inRegion ops (i :: rest) :: k) :=
  G.val ho hw rfl hn (fun a w ha _ => by simp [execOp, resolve, invoke, builtin, ha.eval hx, Builtin.len_, run_underlying ht, goInt]) g
theorem G.cap {x : Operand} {t e : TypeId} {B : Option Addr} {m c : Nat} (ho : ops[i]? = some { dst := some d, op := .call { callee := .builtin .cap, args := #[x], argTypes := #[t] }, type := ty, pos := ps, after := af, guard := gd }) (hw : wantedA A ops gd = some true) (hn : Nat.blt d C.n = true)
    (hx : ev A x = some (.slice B m c)) (ht : C.P.underlying t = some (.slice e)) (g : G C H ((d, .int .i64 (c : Int)) :: A) Ls (.inRegion ops rest :: k)) : G C H A Ls (.inRegion ops (i :: rest) :: k) :=
  G.val ho hw rfl hn (fun a w ha _ => by simp [execOp, resolve, invoke, builtin, ha.eval hx, Builtin.cap_, run_underlying ht, goInt]) g
theorem G.lenS {x : Operand} {t : TypeId} {s : Str} (ho : ops[i]? = some { dst := some d, op := .call { callee := .builtin .len, args := #[x], argTypes := #[t] }, type := ty, pos := ps, after := af, guard := gd }) (hw : wantedA A ops gd = some true) (hn : Nat.blt d C.n = true)
    (hx : ev A x = some (strV s)) (ht : C.P.underlying t = some .string) (g : G C H ((d, .int .i64 (s.length : Int)) :: A) Ls (.inRegion ops rest :: k)) : G C H A Ls (.inRegion ops (i :: rest) :: k) :=
  G.val ho hw rfl hn (fun a w ha _ => by
    have hx' : a.eval x = .string ⟨s.toArray⟩ := ha.eval hx
    have hsz : (⟨s.toArray⟩ : ByteArray).size = s.length := by simp [ByteArray.size]
    simp [execOp, resolve, invoke, builtin, hx', Builtin.len_, run_underlying ht, goInt, hsz]) g
def opt (A : List (Nat × Value)) : Option Operand → Option (Option Value)
  | none => some none
  | some x => (ev A x).map some
theorem Slots.opt {n : Nat} {a : Act} {A : List (Nat × Value)} (h : Slots n a A) {x : Option Operand} {v : Option Value} (hv : K.opt A x = some v) : x.map a.eval = v := by
  cases x with
  | none => simp [K.opt] at hv; simpa using hv
  | some x =>
    simp only [K.opt] at hv
    cases he : ev A x with
    | none => rw [he] at hv; cases hv
    | some u => rw [he] at hv; simp at hv; subst hv; simp [h.eval he]
/-- which bounds a cut has: low, high, most -/
def cutB (len cap : Nat) : Option Value → Option Value → Option Value → Option (Int × Int × Int)
  | lo, hi, mx => match (match lo with | none => some 0 | some (.int _ l) => some l | _ => none), (match hi with | none => some (len : Int) | some (.int _ h) => some h | _ => none), (match mx with | none => some (cap : Int) | some (.int _ m) => some m | _ => none) with
    | some l, some h, some m => some (l, h, m)
    | _, _, _ => none
theorem run_sliceBounds {P : Program} {b : Bool} {len cap : Nat} {lo hi mx : Option Value} {l h m : Int} (hc : cutB len cap lo hi mx = some (l, h, m)) (hl : len ≤ cap) (h1 : 0 ≤ l ∧ l ≤ h ∧ h ≤ m ∧ m ≤ cap) (hm : hi = none → mx = none) (w : World) :
    (Instr.sliceBounds b len cap lo hi mx).run P w = .ok (l.toNat, h.toNat, m.toNat) w := by
  obtain ⟨a1, a2, a3, a4⟩ := h1
  have key : ∀ (k : IntKind) (v : Int) (y : Nat) (code : BoundsCode), 0 ≤ v → v ≤ y → (Instr.sliceBound (.int k v) y code).run P w = .ok v.toNat w := by
    intro k v y code h1 h2
    simp [Instr.sliceBound, asIntOf, h1, h2]
  have key2 : ∀ (k : IntKind) (v y : Int) (code : BoundsCode), 0 ≤ v → v ≤ y → (Instr.sliceBound (.int k v) y.toNat code).run P w = .ok v.toNat w :=
    fun k v y code h1 h2 => key k v y.toNat code h1 (by omega)
  cases mx with
  | none =>
    cases hi with
    | none =>
      cases lo with
      | none => simp [cutB] at hc; obtain ⟨rfl, rfl, rfl⟩ := hc; simp [Instr.sliceBounds]
      | some v =>
        cases v <;> simp [cutB] at hc
        obtain ⟨rfl, rfl, rfl⟩ := hc
        simp [Instr.sliceBounds, key _ _ _ _ a1 a2]
    | some v2 =>
      cases v2 <;> simp [cutB] at hc
      cases lo with
      | none => simp at hc; obtain ⟨rfl, rfl, rfl⟩ := hc; simp [Instr.sliceBounds, key _ _ _ _ (show (0 : Int) ≤ _ from Int.le_trans a1 a2) a3]
      | some v =>
        cases v <;> simp at hc
        obtain ⟨rfl, rfl, rfl⟩ := hc
        simp [Instr.sliceBounds, key _ _ _ _ (show (0 : Int) ≤ _ from Int.le_trans a1 a2) a3, key2 _ _ _ _ a1 a2]
  | some v3 =>
    cases v3 <;> simp [cutB] at hc
    cases hi with
    | none => exact absurd (hm rfl) (by simp)
    | some v2 =>
      cases v2 <;> simp at hc
      cases lo with
      | none => simp at hc; obtain ⟨rfl, rfl, rfl⟩ := hc; simp [Instr.sliceBounds, key _ _ _ _ (Int.le_trans a1 (Int.le_trans a2 a3)) a4, key2 _ _ _ _ (Int.le_trans a1 a2) a3]
      | some v =>
        cases v <;> simp at hc
        obtain ⟨rfl, rfl, rfl⟩ := hc
        simp [Instr.sliceBounds, key _ _ _ _ (Int.le_trans a1 (Int.le_trans a2 a3)) a4, key2 _ _ _ _ (Int.le_trans a1 a2) a3, key2 _ _ _ _ a1 a2]
/-- a cut of a slice that is only read -/
theorem G.cutR {α : Type} {df : Kd α} {xs : List α} {x : Operand} {lo hi mx : Option Operand} {vl vh vm : Option Value} {t e : TypeId} {by_ c : Nat} {B : Option Addr} {l h m : Int} (ho : ops[i]? = some { dst := some d, op := .slice t x lo hi mx, type := ty, pos := ps, after := af, guard := gd }) (hw : wantedA A ops gd = some true) (hn : Nat.blt d C.n = true)
    (hx : ev A x = some (.slice B xs.length c)) (hlo : opt A lo = some vl) (hhi : opt A hi = some vh) (hmx : opt A mx = some vm) (hc : cutB xs.length c vl vh vm = some (l, h, m)) (ht : ElOk C.P t e df by_) (hs : SlR df H B c xs) (hb : 0 ≤ l ∧ l ≤ h ∧ h ≤ xs.length) (hm : xs.length ≤ c → h ≤ m ∧ m ≤ c) (hnn : vh = none → vm = none)
    (g : ∀ B' c', SlR df H B' c' ((xs.take h.toNat).drop l.toNat) → G C H ((d, .slice B' ((xs.take h.toNat).drop l.toNat).length c') :: A) Ls (.inRegion ops rest :: k)) : G C H A Ls (.inRegion ops (i :: rest) :: k) := by
  obtain ⟨h1, h2⟩ := hm hs.1
  have hlen : ((xs.take h.toNat).drop l.toNat).length = h.toNat - l.toNat := by rw [List.length_drop, List.length_take]; omega
  have hcut := hs.cut (lo := l.toNat) (hi := h.toNat) (m := m.toNat) (by omega) (by omega) (by omega)
  refine G.val ho hw rfl hn (fun a w ha _ => ?_) (g _ _ hcut)
  rw [hlen]
  have hq : ∀ u, C.P.underlying t = some u → (∀ n e, u ≠ .array n e) → (Instr.sliceAt t (.slice B xs.length c) vl vh vm).run C.P w = (Instr.slice t (.slice B xs.length c) vl vh vm).run C.P w := by
    intro u hu hne
    simp only [Instr.sliceAt, Sem.run_bind, run_underlying hu, Result.andThen_ok]
  simp only [execOp, ha.eval hx, ha.opt hlo, ha.opt hhi, ha.opt hmx, Sem.run_bind, hq _ ht.und (by simp), Instr.slice, run_underlying ht.und, Result.andThen_ok, run_sliceBounds hc hs.1 ⟨hb.1, hb.2.1, h1, h2⟩ hnn, run_sizeOf ht.size, Sem.run_pure]
/-- a cut of a slice of one's own, from its head on -/
theorem G.cutO {α : Type} {df : Kd α} {xs : List α} {x : Operand} {lo hi mx : Option Operand} {vl vh vm : Option Value} {t e : TypeId} {by_ c n : Nat} {B : Option Addr} {h m : Int} (ho : ops[i]? = some { dst := some d, op := .slice t x lo hi mx, type := ty, pos := ps, after := af, guard := gd }) (hw : wantedA A ops gd = some true) (hn : Nat.blt d C.n = true)
    (hx : ev A x = some (.slice B n c)) (hn' : n = xs.length) (hlo : opt A lo = some vl) (hhi : opt A hi = some vh) (hmx : opt A mx = some vm) (hc : cutB n c vl vh vm = some (0, h, m)) (ht : ElOk C.P t e df by_) (hb : 0 ≤ h ∧ h ≤ xs.length) (hm : xs.length ≤ c → h ≤ m ∧ m ≤ c) (hnn : vh = none → vm = none)
    (gg : G C H ((d, .slice B (xs.take h.toNat).length m.toNat) :: A) (OS e df B m.toNat (xs.take h.toNat) :: L) (.inRegion ops rest :: k)) : G C H A (OS e df B c xs :: L) (.inRegion ops (i :: rest) :: k) := by
  subst hn'
  refine G.valW ho hw rfl hn fun a w ha hs => ?_
  obtain ⟨h0, r0, _⟩ := hs.nth (j := 0) rfl
  obtain ⟨h1, h2⟩ := hm r0.1
  refine ⟨_, w, H, OS e df B m.toNat (xs.take h.toNat) :: L, ?_, ?_, gg⟩
  · have hq : ∀ u, C.P.underlying t = some u → (∀ n e, u ≠ .array n e) → (Instr.sliceAt t (.slice B xs.length c) vl vh vm).run C.P w = (Instr.slice t (.slice B xs.length c) vl vh vm).run C.P w := by
      intro u hu hne
      simp only [Instr.sliceAt, Sem.run_bind, run_underlying hu, Result.andThen_ok]
    have e0 : (Option.map (fun x : Addr => x.add (Int.toNat 0 * df.sz)) B) = B := by
      cases B with
      | none => rfl
      | some b => simp [Addr.add]
    have e1 : (xs.take h.toNat).length = h.toNat := by rw [List.length_take]; omega
    simp only [execOp, ha.eval hx, ha.opt hlo, ha.opt hhi, ha.opt hmx, Sem.run_bind, hq _ ht.und (by simp), Instr.slice, run_underlying ht.und, Result.andThen_ok, run_sliceBounds hc r0.1 ⟨by omega, hb.1, h1, h2⟩ hnn, run_sizeOf ht.size, Sem.run_pure, e0, e1]
    simp
  · refine hs.map fun h' s => ?_
    obtain ⟨k1, k2, dd, rfl, ⟨_, hr⟩, s⟩ := s
    refine ⟨k1, k2, dd, rfl, ⟨by rw [List.length_take]; omega, ?_⟩, s⟩
    rcases hr with ⟨rfl, rfl⟩ | ⟨g, sp, cs, rs, fz, rfl, hrows, hcc, hf, rfl⟩
    · left; exact ⟨by omega, rfl⟩
    · right
      simp only [List.length_append] at hcc
      have hlen : m.toNat ≤ (xs ++ sp).length := by simp only [List.length_append]; omega
      have esplit : xs ++ sp = (xs.take h.toNat ++ ((xs ++ sp).take m.toNat).drop h.toNat) ++ (xs ++ sp).drop m.toNat := by
        have e2 : (xs ++ sp).take h.toNat = xs.take h.toNat := by rw [List.take_append_of_le_length (by omega)]
        have e3 : ((xs ++ sp).take m.toNat).take h.toNat = xs.take h.toNat := by rw [List.take_take, Nat.min_eq_left (by omega), e2]
        conv => lhs; rw [← List.take_append_drop m.toNat (xs ++ sp), ← List.take_append_drop h.toNat ((xs ++ sp).take m.toNat), e3]
      rw [esplit] at hrows
      obtain ⟨c1, c2, rfl, hr1, hr2⟩ := hrows.split
      refine ⟨g, ((xs ++ sp).take m.toNat).drop h.toNat, c1, c2 ++ rs, fz, rfl, hr1, ?_, hf.of (by simp only [List.length_append]; omega), by simp⟩
      simp only [List.length_append, List.length_take, List.length_drop]
      omega

/-! ### Strings -/
theorem G.concat {x y : Operand} {t t' : TypeId} {s u : Str} (ho : ops[i]? = some { dst := some d, op := .binOp .add t x y t', type := ty, pos := ps, after := af, guard := gd }) (hw : wantedA A ops gd = some true) (hn : Nat.blt d C.n = true)
    (hx : ev A x = some (strV s)) (hy : ev A y = some (strV u)) (hb : s.length + u.length ≤ 9223372036854775807)
    (g : G C H ((d, strV (s ++ u)) :: A) Ls (.inRegion ops rest :: k)) : G C H A Ls (.inRegion ops (i :: rest) :: k) :=
  G.val ho hw rfl hn (fun a w ha _ => by
    have hx' : a.eval x = .string ⟨s.toArray⟩ := ha.eval hx
    have hy' : a.eval y = .string ⟨u.toArray⟩ := ha.eval hy
    have h63 : ¬ (((s.length + u.length : Nat) : Int) > IntKind.i64.max) := by have : IntKind.i64.max = 9223372036854775807 := by decide
                                                                               omega
    have e : (⟨s.toArray⟩ : ByteArray) ++ ⟨u.toArray⟩ = ⟨(s ++ u).toArray⟩ := by
      apply ByteArray.ext
      simp
    simp only [execOp, hx', hy', Sem.run_bind, eqGuard, binOp, Op.stringOp, ByteArray.size, List.size_toArray, h63, e, strV]
    simp) g
/-- what a comparison of strings says -/
def strC : BinOp → Str → Str → Bool
  | .eql, x, y => decide (x = y)
  | .neq, x, y => decide (x ≠ y)
  | .lss, x, y => Op.bytesLess x y
  | .leq, x, y => Op.bytesLess x y || x == y
  | .gtr, x, y => !(Op.bytesLess x y || x == y)
  | _, x, y => !Op.bytesLess x y
theorem G.cmpS {op : BinOp} {x y : Operand} {t t' : TypeId} {s u : Str} {b : Bool} (ho : ops[i]? = some { dst := some d, op := .binOp op t x y t', type := ty, pos := ps, after := af, guard := gd }) (hw : wantedA A ops gd = some true) (hn : Nat.blt d C.n = true)
    (hx : ev A x = some (strV s)) (hy : ev A y = some (strV u)) (hop : isCmp op = true) (hb : strC op s u = b)
    (g : G C H ((d, .bool b) :: A) Ls (.inRegion ops rest :: k)) : G C H A Ls (.inRegion ops (i :: rest) :: k) :=
  G.val ho hw rfl hn (fun a w ha _ => by
    have hx' : a.eval x = .string ⟨s.toArray⟩ := ha.eval hx
    have hy' : a.eval y = .string ⟨u.toArray⟩ := ha.eval hy
    subst hb
    cases op <;> simp [isCmp] at hop <;> simp [execOp, hx', hy', eqGuard, binOp, Op.stringOp, str_toList, strC, Bool.beq_eq_decide_eq] <;> rfl) g
theorem G.indexS {x y : Operand} {t : TypeId} {s : Str} {kd : IntKind} {j : Int} (ho : ops[i]? = some { dst := some d, op := .index t x y, type := ty, pos := ps, after := af, guard := gd }) (hw : wantedA A ops gd = some true) (hn : Nat.blt d C.n = true)
    (hx : ev A x = some (strV s)) (hy : ev A y = some (.int kd j)) (ht : C.P.underlying t = some .string) (hj : 0 ≤ j ∧ j < s.length)
    (g : G C H ((d, u8V (s.getD j.toNat 0)) :: A) Ls (.inRegion ops rest :: k)) : G C H A Ls (.inRegion ops (i :: rest) :: k) :=
  G.val ho hw rfl hn (fun a w ha _ => by
    have hx' : a.eval x = .string ⟨s.toArray⟩ := ha.eval hx
    have hlt : j.toNat < s.length := by omega
    have e : (⟨s.toArray⟩ : ByteArray)[j.toNat]? = some s[j.toNat] := by
      rw [getElem?_pos (⟨s.toArray⟩ : ByteArray) j.toNat (by simpa [ByteArray.size] using hlt)]
      rfl
    simp [execOp, hx', ha.eval hy, Instr.index, asIntOf, run_underlying ht, hj.1, e, u8V, List.getD, hlt]) g
theorem G.cutS {x : Operand} {lo hi : Option Operand} {vl vh : Option Value} {t : TypeId} {s : Str} {l h m : Int} (ho : ops[i]? = some { dst := some d, op := .slice t x lo hi none, type := ty, pos := ps, after := af, guard := gd }) (hw : wantedA A ops gd = some true) (hn : Nat.blt d C.n = true)
    (hx : ev A x = some (strV s)) (hlo : opt A lo = some vl) (hhi : opt A hi = some vh) (hc : cutB s.length s.length vl vh none = some (l, h, m)) (ht : C.P.underlying t = some .string) (hb : 0 ≤ l ∧ l ≤ h ∧ h ≤ s.length)
    (g : G C H ((d, strV ((s.take h.toNat).drop l.toNat)) :: A) Ls (.inRegion ops rest :: k)) : G C H A Ls (.inRegion ops (i :: rest) :: k) :=
  G.val ho hw rfl hn (fun a w ha _ => by
    have hx' : a.eval x = .string ⟨s.toArray⟩ := ha.eval hx
    have hm : m = s.length := by
      revert hc
      simp only [cutB]
      split <;> simp_all
    have hsz : (⟨s.toArray⟩ : ByteArray).size = s.length := by simp [ByteArray.size]
    have hext : (⟨s.toArray⟩ : ByteArray).extract l.toNat h.toNat = ⟨((s.take h.toNat).drop l.toNat).toArray⟩ := by
      apply ByteArray.ext
      simp [List.extract_eq_take_drop, List.drop_take]
    have hsb := run_sliceBounds (P := C.P) (b := false) hc (Nat.le_refl _) ⟨hb.1, hb.2.1, by omega, by omega⟩ (fun _ => rfl) w
    simp only [execOp, hx', ha.opt hlo, ha.opt hhi, Option.map_none, Instr.sliceAt, Sem.run_bind, run_underlying ht, Result.andThen_ok, Instr.slice]
    simp [hsz, hsb, hext, strV]) g
/-! ### Conversions between strings and bytes -/
theorem foldl_bytes : ∀ (l : Str) (acc : ByteArray), (l.map fun b => (b.toNat : Int)).foldl (fun r n => r.push (UInt8.ofNat n.toNat)) acc = ⟨(acc.data.toList ++ l).toArray⟩
  | [], acc => by simp
  | b :: l, acc => by
    simp only [List.map_cons, List.foldl_cons]
    rw [foldl_bytes l]
    simp
theorem run_bytesToString {P : Program} {w : World} {B : Option Addr} {c : Nat} {s : Str} {cs : List Value} (hr : Rows Kd.u8 H s cs) (h : (s = [] ∧ cs = []) ∨ ∃ a, B = some a ∧ a.spot = none ∧ w.rangeAt a.block a.off cs) :
    (Conv.bytesToString (.slice B s.length c)).run P w = .ok (strV s) w := by
  cases B with
  | none =>
    have hs : s = [] := by
      rcases h with ⟨h, _⟩ | ⟨a, h, _⟩
      · exact h
      · cases h
    subst hs
    rfl
  | some a =>
    have hf := run_firstCells (P := P) (c := c) hr h
    simp only [Builtin.firstCells] at hf
    have hl : (loadCells a s.length).run P w = .ok cs.toArray w := by simpa [Kd.u8, Kd.sc] using hf
    have hcs := rows_u8_eq hr
    rcases h with ⟨rfl, rfl⟩ | ⟨a', ha, hsp, hrange⟩
    · simp only [Conv.bytesToString, Sem.run_bind, hl, Result.andThen_ok]
      rfl
    · injection ha with ha
      subst ha
      have e1 : cs = (s.map fun b => (b.toNat : Int)).map (Value.int .u8) := by rw [hcs, List.map_map]; rfl
      have := Go.run_bytesToString (P := P) w a s.length c (s.map fun b => (b.toNat : Int)) (by rw [← e1]; exact hl)
      rw [this, foldl_bytes]
      simp [strV]
theorem G.toStr {x : Operand} {t t' e : TypeId} {s : Str} {B : Option Addr} {c : Nat} (ho : ops[i]? = some { dst := some d, op := .convert t t' x, type := ty, pos := ps, after := af, guard := gd }) (hw : wantedA A ops gd = some true) (hn : Nat.blt d C.n = true)
    (hx : ev A x = some (.slice B s.length c)) (ht : C.P.underlying t = some (.slice e)) (he : C.P.underlying e = some (.int .u8)) (ht' : C.P.underlying t' = some .string)
    (hs : ∀ w, St w C.O H Ls → ∃ cs, Rows Kd.u8 H s cs ∧ ((s = [] ∧ cs = []) ∨ ∃ a, B = some a ∧ a.spot = none ∧ w.rangeAt a.block a.off cs))
    (g : G C H ((d, strV s) :: A) Ls (.inRegion ops rest :: k)) : G C H A Ls (.inRegion ops (i :: rest) :: k) :=
  G.val ho hw rfl hn (fun a w ha hst => by
    obtain ⟨cs, hr, h⟩ := hs w hst
    simp [execOp, ha.eval hx, convert, run_underlying ht, run_underlying ht', run_underlying he, run_bytesToString hr h]) g
theorem ph_freeze (w : World) (g : Nat) (cells : Array Value) (t : TypeId) (hb : ph w g = some (.cells cells t (0, 0))) (o : Nat) : ph (w.freeze ⟨g, o, none⟩ 1) = (fun x => if x = g then some (.cells cells t (o, o + 1)) else ph w x) := by
  have hb' : w.heap[g]? = some (.cells cells t (0, 0)) := hb
  funext x
  by_cases hx : x = g
  · subst hx
    simp [World.freeze, ph, Array.getElem?_modify, hb']
  · have hx' : ¬ g = x := fun e => hx e.symm
    simp [World.freeze, ph, Array.getElem?_modify, hx, hx']
theorem G.toBytes {x : Operand} {t t' e : TypeId} {s : Str} {ds : TypeDesc} (ho : ops[i]? = some { dst := some d, op := .convert t t' x, type := ty, pos := ps, after := af, guard := gd }) (hw : wantedA A ops gd = some true) (hn : Nat.blt d C.n = true)
    (hx : ev A x = some (strV s)) (ht : C.P.underlying t = some .string) (ht' : C.P.underlying t' = some (.slice e)) (he : C.P.underlying e = some (.int .u8)) (hb : s.length ≤ 9223372036854775807)
    (g : ∀ B c, G C H ((d, .slice B s.length c) :: A) (OS e Kd.u8 B c s :: Ls) (.inRegion ops rest :: k)) : G C H A Ls (.inRegion ops (i :: rest) :: k) :=
  G.valW ho hw rfl hn fun a w ha hs => by
    have hx' : a.eval x = .string ⟨s.toArray⟩ := ha.eval hx
    have hsz : (⟨s.toArray⟩ : ByteArray).size = s.length := by simp [ByteArray.size]
    obtain ⟨nc, hnc, hch⟩ : ∃ nc, s.length ≤ nc ∧ (choose (.appendCap s.length 0 e)).run C.P w = .ok nc w.drew :=
      ⟨_, by show _ ≤ Question.cut (.appendCap s.length 0 e) (w.tape w.drawn (.appendCap s.length 0 e)); simp only [Question.cut]; omega, by rw [run_choose]; rfl⟩
    have hst1 : St w.drew C.O H Ls := hs.drew _
    let cells : List Value := s.map u8V ++ List.replicate (nc - s.length) (u8V 0)
    have hcl : cells.length = nc := by simp [cells]; omega
    let w2 := w.drew.alloc (.cells cells.toArray e)
    have hw2 : w2.heap[w.heap.size]? = some (.cells cells.toArray e (0, 0)) := by
      show (w.heap.push _)[w.heap.size]? = _
      exact Array.getElem?_push_size
    have hst3 : St (w2.freeze ⟨w.heap.size, nc, none⟩ 1) C.O H (OS e Kd.u8 (some ⟨w.heap.size, 0, none⟩) nc s :: Ls) := by
      have hst2 := hst1.alloc (.cells cells.toArray e (nc, nc + 1)) (r := OS e Kd.u8 (some ⟨w.heap.size, 0, none⟩) nc s) ⟨hnc, .inr ⟨w.heap.size, List.replicate (nc - s.length) 0, cells, [], (nc, nc + 1), rfl, Rows.append (rows_u8 H s) (by have := rows_u8 H (List.replicate (nc - s.length) (0 : UInt8)); simpa using this), by simp; omega, .inr (by rw [List.append_nil, hcl]; exact Nat.le_refl _), by rw [List.append_nil]; rfl⟩⟩
      have e0 : w2.freeze ⟨w.heap.size, nc, none⟩ 1 = w.drew.alloc (.cells cells.toArray e (nc, nc + 1)) := by
        simp only [World.freeze, World.alloc, w2]
        rw [if_neg (show ¬ ((1 : Nat) = 0) by decide)]
        congr 1
        apply Array.ext_getElem?
        intro b
        rw [Array.getElem?_modify]
        by_cases hb : w.heap.size = b
        · subst hb
          rw [if_pos rfl]
          have e1 : (w.drew.heap.push (Obj.cells cells.toArray e))[w.heap.size]? = some (Obj.cells cells.toArray e) := Array.getElem?_push_size
          have e2 : (w.drew.heap.push (Obj.cells cells.toArray e (nc, nc + 1)))[w.heap.size]? = some (Obj.cells cells.toArray e (nc, nc + 1)) := Array.getElem?_push_size
          rw [e1, e2]
          rfl
        · rw [if_neg hb]
          have hb' : ¬ b = w.drew.heap.size := fun h => hb h.symm
          simp only [Array.getElem?_push, if_neg hb']
      rw [e0]
      exact hst2
    obtain ⟨w3, hw3, hst3⟩ : ∃ w3, w3 = w2.freeze ⟨w.heap.size, nc, none⟩ 1 ∧ St w3 C.O H (OS e Kd.u8 (some ⟨w.heap.size, 0, none⟩) nc s :: Ls) := ⟨_, rfl, hst3⟩
    refine ⟨.slice (some ⟨w.heap.size, 0, none⟩) s.length nc, w3, H, _, ?_, hst3, g _ _⟩
    subst hw3
    have hdata : (Array.map (fun b : UInt8 => Value.int .u8 b.toNat) s.toArray ++ Array.replicate (nc - s.length) (Value.int .u8 0)) = cells.toArray := by
      apply Array.ext'
      simp [cells, u8V]
    have hsh : w2.shape? w.heap.size = some (e, nc) := by
      have hb1 : w2.heap[w.heap.size]? = some (.cells cells.toArray e (0, 0)) := by
        show (w.heap.push _)[w.heap.size]? = _
        exact Array.getElem?_push_size
      simp [World.shape?, hb1, hcl]
    simp only [execOp, hx', convert, Sem.run_bind, run_underlying ht, run_underlying ht', run_underlying he, Result.andThen_ok, Conv.stringToBytes, hsz, hch, hdata, newRow, run_newObj, Sem.run_pure, markStringish, run_shape]
    show ((Sem.run C.P (match w2.shape? w.heap.size with | some (_, n) => freeze { block := w.heap.size, off := n } 1 | _ => pure ()) w2).andThen _).andThen _ = _
    rw [hsh]
    rfl
end
end Go.Proofs.Ytpffemcpfddjbaa.K
