/- How Go's data read as Lean's: descriptors of kinds, places within, what is only read, what is one's own (own text). -/
import Derived.Test.YtpffemcpfddjbaaCore
import Derived.Deep.MidRow
import Derived.RowKit
namespace Go.Proofs.Ytpffemcpfddjbaa.K
open Go

/-- A kind of data: how many cells, and when cells read as a datum over a heap that is only read. -/
structure Kd (α : Type) where
  sz : Nat
  agg : Bool
  R : PH → α → List Value → Prop
  mono : ∀ {H H' : PH} {x : α} {cs : List Value}, H.le H' → R H x cs → R H' x cs
  len : ∀ {H : PH} {x : α} {cs : List Value}, R H x cs → cs.length = sz
  one : ∀ {H : PH} {x : α} {cs : List Value}, R H x cs → ∀ u ∈ cs, u.oneCell' = true
  flat : agg = false → sz = 1
def Kd.val {α : Type} (d : Kd α) (cs : List Value) : Value := if d.agg then .agg cs.toArray else cs.headD undef
theorem oneCell_cells {u : Value} (h : u.oneCell' = true) : u.cells = #[u] := by
  cases u <;> first | rfl | (simp [Value.oneCell'] at h)
theorem Kd.val_cells {α : Type} (d : Kd α) {H : PH} {x : α} {cs : List Value} (h : d.R H x cs) : (d.val cs).cells = cs.toArray := by
  unfold Kd.val
  cases ha : d.agg with
  | true => rfl
  | false =>
    have hl := d.len h
    rw [d.flat ha] at hl
    match cs, hl with
    | [u], _ => simpa using oneCell_cells (d.one h u (by simp))

/-! ### Plain kinds -/
namespace Kd
def sc {α : Type} (enc : α → Value) (h1 : ∀ x, (enc x).oneCell' = true) : Kd α where
  sz := 1
  agg := false
  R := fun _ x cs => cs = [enc x]
  mono := fun _ h => h
  len := fun h => by rw [h]; rfl
  one := fun h u hu => by rw [h] at hu; simp at hu; rw [hu]; exact h1 _
  flat := fun _ => rfl
end Kd
abbrev Str := List UInt8
def strV (s : Str) : Value := .string ⟨s.toArray⟩
def u8V (b : UInt8) : Value := .int .u8 (b.toNat : Int)
def Kd.int (k : IntKind) : Kd Int := Kd.sc (Value.int k) (fun _ => rfl)
def Kd.u8 : Kd UInt8 := Kd.sc u8V (fun _ => rfl)
def Kd.bool : Kd Bool := Kd.sc Value.bool (fun _ => rfl)
def Kd.str : Kd Str := Kd.sc strV (fun _ => rfl)
/-- a slice's header alone: what it holds is told elsewhere -/
def hdrV (x : Option Addr × Nat × Nat) : Value := .slice x.1 x.2.1 x.2.2
def Kd.hdr : Kd (Option Addr × Nat × Nat) := Kd.sc hdrV (fun _ => rfl)
/-- a pointer alone -/
def Kd.ptr : Kd (Option Addr) := Kd.sc Value.pointer (fun _ => rfl)
/-- a map's number alone -/
def Kd.mapr : Kd (Option Nat) := Kd.sc Value.map (fun _ => rfl)
/-- whatever one cell holds -/
def Kd.any1 : Kd {v : Value // v.oneCell' = true} := Kd.sc (fun v => v.1) (fun x => x.2)

/-! ### Rows -/
def Rows {α : Type} (d : Kd α) (H : PH) : List α → List Value → Prop
  | [], cs => cs = []
  | x :: xs, cs => ∃ c1 c2, cs = c1 ++ c2 ∧ d.R H x c1 ∧ Rows d H xs c2
section
variable {α : Type} {d : Kd α} {H H' : PH}
theorem Rows.mono (e : H.le H') : ∀ {xs : List α} {cs : List Value}, Rows d H xs cs → Rows d H' xs cs
  | [], _, h => h
  | _ :: _, _, ⟨c1, c2, u, a, b⟩ => ⟨c1, c2, u, d.mono e a, Rows.mono e b⟩
theorem Rows.len : ∀ {xs : List α} {cs : List Value}, Rows d H xs cs → cs.length = xs.length * d.sz
  | [], _, h => by rw [h]; simp
  | _ :: xs, _, ⟨c1, c2, u, a, b⟩ => by rw [u, List.length_append, d.len a, Rows.len b, List.length_cons, Nat.succ_mul, Nat.add_comm]
theorem Rows.one : ∀ {xs : List α} {cs : List Value}, Rows d H xs cs → ∀ u ∈ cs, u.oneCell' = true
  | [], _, h, u, hu => by rw [h] at hu; cases hu
  | _ :: _, _, ⟨c1, c2, e, a, b⟩, u, hu => by
    rw [e, List.mem_append] at hu
    rcases hu with hu | hu
    · exact d.one a u hu
    · exact Rows.one b u hu
theorem Rows.append : ∀ {xs ys : List α} {cs ds : List Value}, Rows d H xs cs → Rows d H ys ds → Rows d H (xs ++ ys) (cs ++ ds)
  | [], _, _, _, h, h2 => by rw [h]; exact h2
  | _ :: _, _, _, _, ⟨c1, c2, u, a, b⟩, h2 => ⟨c1, c2 ++ _, by rw [u, List.append_assoc], a, Rows.append b h2⟩
theorem Rows.split : ∀ {xs ys : List α} {cs : List Value}, Rows d H (xs ++ ys) cs → ∃ c1 c2, cs = c1 ++ c2 ∧ Rows d H xs c1 ∧ Rows d H ys c2
  | [], _, cs, h => ⟨[], cs, rfl, rfl, h⟩
  | _ :: _, _, _, ⟨c1, c2, u, a, b⟩ => by
    obtain ⟨e1, e2, rfl, h1, h2⟩ := Rows.split b
    exact ⟨c1 ++ e1, e2, by rw [u, List.append_assoc], ⟨c1, e1, rfl, a, h1⟩, h2⟩
theorem Rows.single {x : α} {cs : List Value} (h : d.R H x cs) : Rows d H [x] cs := ⟨cs, [], by simp, h, rfl⟩
theorem Rows.of_single {x : α} {cs : List Value} (h : Rows d H [x] cs) : d.R H x cs := by
  obtain ⟨c1, c2, rfl, a, b⟩ := h
  rw [b, List.append_nil]; exact a
/-- the i-th of them -/
theorem Rows.get {xs : List α} {cs : List Value} (h : Rows d H xs cs) {i : Nat} (hi : i < xs.length) :
    ∃ p c r, cs = p ++ c ++ r ∧ p.length = i * d.sz ∧ d.R H xs[i] c := by
  have e : xs = xs.take i ++ xs[i] :: xs.drop (i + 1) := by rw [← List.drop_eq_getElem_cons hi, List.take_append_drop]
  rw [e] at h
  obtain ⟨p, q, rfl, hp, c, r, rfl, hc, hr⟩ := Rows.split h
  exact ⟨p, c, r, by rw [List.append_assoc], by rw [hp.len, List.length_take, Nat.min_eq_left (Nat.le_of_lt hi)], hc⟩
theorem Rows.set {xs : List α} {cs : List Value} (h : Rows d H xs cs) {i : Nat} (hi : i < xs.length) :
    ∃ p c r, cs = p ++ c ++ r ∧ p.length = i * d.sz ∧ d.R H xs[i] c ∧ ∀ y c', d.R H y c' → Rows d H (xs.set i y) (p ++ c' ++ r) := by
  have e : xs = xs.take i ++ xs[i] :: xs.drop (i + 1) := by rw [← List.drop_eq_getElem_cons hi, List.take_append_drop]
  rw [e] at h
  obtain ⟨p, q, rfl, hp, c, r, rfl, hc, hr⟩ := Rows.split h
  refine ⟨p, c, r, by rw [List.append_assoc], by rw [hp.len, List.length_take, Nat.min_eq_left (Nat.le_of_lt hi)], hc, fun y c' hy => ?_⟩
  rw [List.set_eq_take_append_cons_drop, if_pos hi, List.append_assoc]
  exact Rows.append hp ⟨c', r, rfl, hy, hr⟩
theorem Rows.replicate {x : α} {c : List Value} (h : d.R H x c) : ∀ n, Rows d H (List.replicate n x) (List.flatten (List.replicate n c))
  | 0 => rfl
  | n + 1 => ⟨c, _, by simp [List.replicate_succ], h, Rows.replicate h n⟩
end
namespace Kd
/-- an array of n -/
def arr {α : Type} (n : Nat) (d : Kd α) : Kd (List α) where
  sz := n * d.sz
  agg := true
  R := fun H xs cs => xs.length = n ∧ Rows d H xs cs
  mono := fun e h => ⟨h.1, h.2.mono e⟩
  len := fun h => by rw [h.2.len, h.1]
  one := fun h => h.2.one
  flat := fun h => by cases h
/-- two side by side, as one aggregate -/
def pair {α β : Type} (a : Kd α) (b : Kd β) : Kd (α × β) where
  sz := a.sz + b.sz
  agg := true
  R := fun H x cs => ∃ c1 c2, cs = c1 ++ c2 ∧ a.R H x.1 c1 ∧ b.R H x.2 c2
  mono := fun e ⟨c1, c2, u, x, y⟩ => ⟨c1, c2, u, a.mono e x, b.mono e y⟩
  len := fun ⟨c1, c2, u, x, y⟩ => by rw [u, List.length_append, a.len x, b.len y]
  one := fun ⟨c1, c2, e, x, y⟩ u hu => by
    rw [e, List.mem_append] at hu
    rcases hu with hu | hu
    · exact a.one x u hu
    · exact b.one y u hu
  flat := fun h => by cases h
/-- the same cells, read as another type; as an aggregate -/
def iso {α β : Type} (d : Kd α) (f : β → α) : Kd β where
  sz := d.sz
  agg := true
  R := fun H x cs => d.R H (f x) cs
  mono := fun e h => d.mono e h
  len := fun h => d.len h
  one := fun h => d.one h
  flat := fun h => by cases h
/-- no field at all -/
def unit : Kd Unit where
  sz := 0
  agg := true
  R := fun _ _ cs => cs = []
  mono := fun _ h => h
  len := fun h => by rw [h]; rfl
  one := fun h u hu => by rw [h] at hu; cases hu
  flat := fun h => by cases h
end Kd

/-! ### What is only read -/
def Sits (cells : List Value) (off : Nat) (cs : List Value) : Prop := ∃ p r, cells = p ++ cs ++ r ∧ p.length = off
theorem Sits.part {cells : List Value} {off : Nat} {p c r : List Value} (h : Sits cells off (p ++ c ++ r)) : Sits cells (off + p.length) c := by
  obtain ⟨a, b, rfl, rfl⟩ := h
  exact ⟨a ++ p, r ++ b, by simp, by simp⟩
theorem Sits.whole (cs : List Value) : Sits cs 0 cs := ⟨[], [], by simp, rfl⟩
theorem Sits.get {cells : List Value} {off : Nat} {cs : List Value} (h : Sits cells off cs) {j : Nat} {u : Value} (hu : cs[j]? = some u) : cells[off + j]? = some u := by
  obtain ⟨p, r, rfl, rfl⟩ := h
  have hj : j < cs.length := (List.getElem?_eq_some_iff.1 hu).1
  rw [List.append_assoc, List.getElem?_append_right (by omega), Nat.add_sub_cancel_left, List.getElem?_append_left hj, hu]
/-- A place in what is only read. -/
def PtR {α : Type} (d : Kd α) (H : PH) (a : Addr) (x : α) : Prop :=
  a.spot = none ∧ ∃ cells t fz cs, H a.block = some (.cells cells t fz) ∧ Sits cells.toList a.off cs ∧ d.R H x cs
theorem PtR.mono {α : Type} {d : Kd α} {H H' : PH} {a : Addr} {x : α} (e : H.le H') (h : PtR d H a x) : PtR d H' a x := by
  obtain ⟨s, c, t, f, cs, b, i, r⟩ := h
  exact ⟨s, c, t, f, cs, e _ _ b, i, d.mono e r⟩
/-- A slice that is only read: where it begins, its capacity, what it holds. -/
def SlR {α : Type} (d : Kd α) (H : PH) (A : Option Addr) (c : Nat) (xs : List α) : Prop :=
  xs.length ≤ c ∧ (xs = [] ∨ ∃ a, A = some a ∧ a.spot = none ∧ ∃ cells t fz cs, H a.block = some (.cells cells t fz) ∧ Sits cells.toList a.off cs ∧ Rows d H xs cs)
theorem SlR.mono {α : Type} {d : Kd α} {H H' : PH} {A : Option Addr} {c : Nat} {xs : List α} (e : H.le H') (h : SlR d H A c xs) : SlR d H' A c xs := by
  obtain ⟨l, h | ⟨a, u, s, cl, t, f, cs, b, i, r⟩⟩ := h
  · exact ⟨l, .inl h⟩
  · exact ⟨l, .inr ⟨a, u, s, cl, t, f, cs, e _ _ b, i, r.mono e⟩⟩
theorem SlR.nil {α : Type} {d : Kd α} {H : PH} (A : Option Addr) (c : Nat) : SlR d H A c [] := ⟨by simp, .inl rfl⟩
theorem add_eq {a : Addr} (h : a.spot = none) (n : Nat) : a.add n = ⟨a.block, a.off + n, none⟩ := by
  unfold Addr.add
  split
  · rename_i e; subst e; cases a; simp_all
  · cases a; simp_all
theorem SlR.at_ {α : Type} {d : Kd α} {H : PH} {A : Option Addr} {c : Nat} {xs : List α} (h : SlR d H A c xs) {i : Nat} (hi : i < xs.length) :
    ∃ a, A = some a ∧ PtR d H (a.add (i * d.sz)) xs[i] := by
  obtain ⟨_, h | ⟨a, u, s, cl, t, f, cs, b, sit, r⟩⟩ := h
  · rw [h] at hi; cases hi
  · obtain ⟨p, q, z, rfl, hp, hq⟩ := r.get hi
    refine ⟨a, u, ?_⟩
    rw [add_eq s]
    exact ⟨rfl, cl, t, f, q, b, by rw [← hp]; exact sit.part, hq⟩
/-- cut: [lo:hi], the capacity at hand; what is left may stand at the old place if it has no room -/
theorem SlR.cut {α : Type} {d : Kd α} {H : PH} {A : Option Addr} {c : Nat} {xs : List α} (h : SlR d H A c xs) {lo hi m : Nat} (h1 : lo ≤ hi) (h2 : hi ≤ xs.length) (h3 : hi ≤ m) :
    SlR d H (if m = lo then A else A.map (·.add (lo * d.sz))) (m - lo) ((xs.take hi).drop lo) := by
  refine ⟨by rw [List.length_drop, List.length_take]; omega, ?_⟩
  by_cases e : (xs.take hi).drop lo = []
  · exact .inl e
  · right
    obtain ⟨_, h | ⟨a, u, s, cl, t, f, cs, b, sit, r⟩⟩ := h
    · subst h; simp at e
    · have hml : ¬ m = lo := fun e2 => e (List.drop_eq_nil_of_le (by rw [List.length_take]; omega))
      rw [if_neg hml, u]
      have e3 : xs = xs.take lo ++ (((xs.take hi).drop lo) ++ xs.drop hi) := by
        rw [← List.append_assoc, show xs.take lo = (xs.take hi).take lo by rw [List.take_take, Nat.min_eq_left h1], List.take_append_drop, List.take_append_drop]
      rw [e3] at r
      obtain ⟨p, q, rfl, hp, hq⟩ := r.split
      obtain ⟨q1, q2, rfl, hq1, hq2⟩ := hq.split
      have hlen : p.length = lo * d.sz := by rw [hp.len, List.length_take, Nat.min_eq_left (by omega)]
      refine ⟨a.add (lo * d.sz), rfl, by rw [add_eq s], cl, t, f, q1, by rw [add_eq s]; exact b, ?_, hq1⟩
      rw [add_eq s, ← hlen]
      exact Sits.part (r := q2) (by rw [List.append_assoc]; exact sit)
namespace Kd
/-- a slice that is only read, as a kind of data -/
def sl {α : Type} (d : Kd α) : Kd (List α) where
  sz := 1
  agg := false
  R := fun H xs cs => ∃ A c, cs = [.slice A xs.length c] ∧ SlR d H A c xs
  mono := fun e ⟨A, c, u, h⟩ => ⟨A, c, u, h.mono e⟩
  len := fun ⟨A, c, u, h⟩ => by rw [u]; rfl
  one := fun ⟨A, c, e, h⟩ u hu => by rw [e] at hu; simp at hu; rw [hu]; rfl
  flat := fun _ => rfl
end Kd

/-! ### A part of a datum -/
structure Lens {α β : Type} (d : Kd α) (off : Nat) (df : Kd β) (get : α → β) (set : α → β → α) (x : α) : Prop where
  get_ : ∀ {H : PH} {cs : List Value}, d.R H x cs → ∃ p c r, cs = p ++ c ++ r ∧ p.length = off ∧ df.R H (get x) c ∧ ∀ y c', df.R H y c' → d.R H (set x y) (p ++ c' ++ r)
theorem Lens.id {α : Type} (d : Kd α) (x : α) : Lens d 0 d (fun x => x) (fun _ y => y) x := ⟨fun {_ cs} h => ⟨[], cs, [], by simp, rfl, h, fun _ _ h' => by simpa using h'⟩⟩
theorem Lens.comp {α β γ : Type} {d : Kd α} {e : Kd β} {f : Kd γ} {o o' : Nat} {g : α → β} {s : α → β → α} {g' : β → γ} {s' : β → γ → β} {x : α}
    (a : Lens d o e g s x) (b : Lens e o' f g' s' (g x)) : Lens d (o + o') f (fun x => g' (g x)) (fun x z => s x (s' (g x) z)) x := by
  refine ⟨fun {H cs} h => ?_⟩
  obtain ⟨p, c, r, rfl, hp, hc, hs⟩ := a.get_ h
  obtain ⟨p', c', r', rfl, hp', hc', hs'⟩ := b.get_ hc
  refine ⟨p ++ p', c', r' ++ r, by simp, by simp [hp, hp'], hc', fun y cy hy => ?_⟩
  have := hs _ _ (hs' y cy hy)
  simpa using this
/-- the i-th of an array -/
theorem Lens.arr {α : Type} {n : Nat} {d : Kd α} {xs : List α} {i : Nat} (z : α) (hi : i < xs.length) : Lens (Kd.arr n d) (i * d.sz) d (fun xs => xs.getD i z) (fun xs y => xs.set i y) xs := by
  refine ⟨fun {H cs} h => ?_⟩
  obtain ⟨hn, h⟩ := h
  obtain ⟨p, c, r, rfl, hp, hc, hs⟩ := h.set hi
  refine ⟨p, c, r, rfl, hp, ?_, fun y c' hy => ⟨by rw [List.length_set]; exact hn, hs y c' hy⟩⟩
  have e : xs.getD i z = xs[i] := by simp [List.getD, hi]
  show d.R H (xs.getD i z) c
  rw [e]
  exact hc
theorem Lens.fst {α β : Type} {a : Kd α} {b : Kd β} {x : α × β} : Lens (Kd.pair a b) 0 a (fun x => x.1) (fun x y => (y, x.2)) x :=
  ⟨fun ⟨c1, c2, u, h1, h2⟩ => ⟨[], c1, c2, by simpa using u, rfl, h1, fun y c' hy => ⟨c', c2, by simp, hy, h2⟩⟩⟩
theorem Lens.snd {α β : Type} {a : Kd α} {b : Kd β} {x : α × β} : Lens (Kd.pair a b) a.sz b (fun x => x.2) (fun x y => (x.1, y)) x :=
  ⟨fun ⟨c1, c2, u, h1, h2⟩ => ⟨c1, c2, [], by simpa using u, a.len h1, h2, fun y c' hy => ⟨c1, c', by simp, h1, hy⟩⟩⟩
theorem Lens.iso {α β : Type} {d : Kd α} {f : β → α} {fi : α → β} (hf : ∀ a, f (fi a) = a) {x : β} : Lens (Kd.iso d f) 0 d f (fun _ a => fi a) x :=
  ⟨fun {_ cs} h => ⟨[], cs, [], by simp, rfl, h, fun y c' hy => by
    show d.R _ (f (fi y)) ([] ++ c' ++ [])
    rw [hf]; simpa using hy⟩⟩
theorem Lens.to {α β : Type} {d : Kd α} {df : Kd β} {off off' : Nat} {get get' : α → β} {set set' : α → β → α} {x : α} (h : Lens d off df get set x) (ho : off = off') (hg : get x = get' x) (hs : ∀ y, set x y = set' x y) :
    Lens d off' df get' set' x := by
  subst ho
  refine ⟨fun {H cs} hc => ?_⟩
  obtain ⟨p, c, r, e, hp, h1, h2⟩ := h.get_ hc
  exact ⟨p, c, r, e, hp, hg ▸ h1, fun y c' hy => hs y ▸ h2 y c' hy⟩
theorem PtR.part {α β : Type} {d : Kd α} {df : Kd β} {off : Nat} {get : α → β} {set : α → β → α} {x : α} (l : Lens d off df get set x) {H : PH} {a : Addr} (h : PtR d H a x) : PtR df H (a.add off) (get x) := by
  obtain ⟨s, c, t, f, cs, b, sit, r⟩ := h
  obtain ⟨p, q, z, rfl, hp, hq, _⟩ := l.get_ r
  rw [add_eq s]
  exact ⟨rfl, c, t, f, q, b, by rw [← hp]; exact sit.part, hq⟩

/-! ### One's own -/
/-- a variable of type t in block g -/
def BK {α : Type} (t : TypeId) (d : Kd α) (g : Nat) (x : α) : Res where
  holds H h := ∃ cs, d.R H x cs ∧ h = PH.one g (.cells cs.toArray t (0, 0))
  mono := fun e ⟨cs, r, u⟩ => ⟨cs, d.mono e r, u⟩
/-- none of the first n cells is frozen -/
def NoFz (n : Nat) (fz : Nat × Nat) : Prop := fz.1 = fz.2 ∨ n ≤ fz.1
theorem NoFz.at_ {n : Nat} {fz : Nat × Nat} (h : NoFz n fz) : ∀ o, o < n → ¬ (fz.1 ≤ o ∧ o < fz.2) := by
  intro o ho ⟨h1, h2⟩
  rcases h with h | h <;> omega
theorem NoFz.of {n m : Nat} {fz : Nat × Nat} (h : NoFz n fz) (e : m ≤ n) : NoFz m fz := h.imp id fun h => by omega
theorem NoFz.zero {n : Nat} : NoFz n (0, 0) := .inl rfl
theorem NoFz.mark {n : Nat} {fz : Nat × Nat} (h : NoFz n fz) : NoFz n (if fz.1 = fz.2 then (n, n + 1) else (min fz.1 n, max fz.2 (n + 1))) := by
  split
  · exact .inr (Nat.le_refl _)
  · rename_i hne
    rcases h with h | h
    · exact absurd h hne
    · exact .inr (by simp only; omega)
/-- a slice of one's own, from its block's head on: sp is what stands behind, up to its capacity -/
def OS {α : Type} (t : TypeId) (d : Kd α) (A : Option Addr) (c : Nat) (xs : List α) : Res where
  holds H h := xs.length ≤ c ∧ ((c = 0 ∧ h = PH.emp) ∨
    ∃ g sp cs rest fz, A = some ⟨g, 0, none⟩ ∧ Rows d H (xs ++ sp) cs ∧ (xs ++ sp).length = c ∧ NoFz (cs ++ rest).length fz ∧ h = PH.one g (.cells (cs ++ rest).toArray t fz))
  mono := fun e ⟨l, h⟩ => ⟨l, h.imp (fun h => h) fun ⟨g, sp, cs, rest, fz, u, r, n, f, z⟩ => ⟨g, sp, cs, rest, fz, u, r.mono e, n, f, z⟩⟩
def Res.ex {σ : Type} (F : σ → Res) : Res where
  holds H h := ∃ x, (F x).holds H h
  mono := fun e ⟨x, h⟩ => ⟨x, (F x).mono e h⟩
def Res.star (a b : Res) : Res where
  holds H h := ∃ h1 h2, PH.disj h1 h2 ∧ h = PH.un h1 h2 ∧ a.holds H h1 ∧ b.holds H h2
  mono := fun e ⟨h1, h2, d, u, x, y⟩ => ⟨h1, h2, d, u, a.mono e x, b.mono e y⟩
/-- a fact -/
def Res.fact (p : Prop) : Res where
  holds _ h := p ∧ h = PH.emp
  mono := fun _ h => h
theorem Sats.star {H : PH} {a b : Res} {L : List Res} {h : PH} : Sats H (Res.star a b :: L) h ↔ Sats H (a :: b :: L) h := by
  constructor
  · rintro ⟨k1, k2, d, rfl, ⟨h1, h2, d', rfl, x, y⟩, s⟩
    rw [PH.un_disj] at d
    exact ⟨h1, h2.un k2, PH.disj_un.2 ⟨d', d.1⟩, PH.un_assoc _ _ _, x, h2, k2, d.2, rfl, y, s⟩
  · rintro ⟨h1, h2, d, rfl, x, k1, k2, d', rfl, y, s⟩
    rw [PH.disj_un] at d
    exact ⟨h1.un k1, k2, PH.un_disj.2 ⟨d.2, d'⟩, (PH.un_assoc _ _ _).symm, ⟨h1, k1, d.1, rfl, x, y⟩, s⟩
theorem Sats.ex {σ : Type} {H : PH} {F : σ → Res} {L : List Res} {h : PH} : Sats H (Res.ex F :: L) h ↔ ∃ x, Sats H (F x :: L) h := by
  constructor
  · rintro ⟨k1, k2, d, rfl, ⟨x, hx⟩, s⟩
    exact ⟨x, k1, k2, d, rfl, hx, s⟩
  · rintro ⟨x, k1, k2, d, rfl, hx, s⟩
    exact ⟨k1, k2, d, rfl, ⟨x, hx⟩, s⟩
theorem Sats.fact {H : PH} {p : Prop} {L : List Res} {h : PH} : Sats H (Res.fact p :: L) h ↔ p ∧ Sats H L h := by
  constructor
  · rintro ⟨k1, k2, d, rfl, ⟨hp, rfl⟩, s⟩
    exact ⟨hp, by rw [PH.emp_un]; exact s⟩
  · rintro ⟨hp, s⟩
    exact ⟨PH.emp, h, PH.emp_disj _, (PH.emp_un _).symm, ⟨hp, rfl⟩, s⟩
/-- What is one's own may be let go. -/
theorem St.drop {w O : World} {H : PH} {r : Res} {L : List Res} (s : St w O H (r :: L)) : St w O H L := by
  obtain ⟨h, ⟨k1, k2, d, rfl, a, sL⟩, dd, b, c⟩ := s.heap
  exact ⟨⟨k2, sL, (PH.disj_un.1 dd).2, b, PH.le_trans (PH.le_un_right d) c⟩, s.os, s.tape, s.output⟩
/-- What is one's own may be left for reading alone. -/
theorem St.freeze {w O : World} {H : PH} {r : Res} {L : List Res} (s : St w O H (r :: L)) : ∃ H' h, H.le H' ∧ h.le H' ∧ r.holds H h ∧ St w O H' L := by
  obtain ⟨h, ⟨k1, k2, d, rfl, a, sL⟩, dd, b, c⟩ := s.heap
  rw [PH.disj_un] at dd
  refine ⟨H.un k1, k1, PH.le_un_left _ _, PH.le_un_right dd.1, a, ⟨k2, sL.mono (PH.le_un_left _ _), PH.un_disj.2 ⟨dd.2, d⟩, PH.un_le b (PH.le_trans (PH.le_un_left _ _) c), PH.le_trans (PH.le_un_right d) c⟩, s.os, s.tape, s.output⟩
theorem OS.slR {α : Type} {t : TypeId} {d : Kd α} {A : Option Addr} {c : Nat} {xs : List α} {H h K : PH} (r : (OS t d A c xs).holds H h) (e : H.le K) (e2 : h.le K) : SlR d K A c xs := by
  obtain ⟨l, ⟨rfl, _⟩ | ⟨g, sp, cs, rest, fz, rfl, rw_, n, f, rfl⟩⟩ := r
  · have : xs = [] := List.eq_nil_of_length_eq_zero (by omega)
    subst this
    exact SlR.nil _ _
  · obtain ⟨c1, c2, rfl, h1, h2⟩ := rw_.split
    exact ⟨l, .inr ⟨_, rfl, rfl, _, _, _, c1, PH.le_one e2, ⟨[], c2 ++ rest, by simp, rfl⟩, h1.mono e⟩⟩
theorem BK.ptR {α : Type} {t : TypeId} {d : Kd α} {g : Nat} {x : α} {H h K : PH} (r : (BK t d g x).holds H h) (e : H.le K) (e2 : h.le K) : PtR d K ⟨g, 0, none⟩ x := by
  obtain ⟨cs, rx, rfl⟩ := r
  exact ⟨rfl, cs.toArray, t, (0, 0), cs, PH.le_one e2, by simpa using Sits.whole cs, d.mono e rx⟩
end Go.Proofs.Ytpffemcpfddjbaa.K
