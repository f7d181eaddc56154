/- Plain facts about wrapped numbers (own text). -/
import Derived.Test.YtpffemcpfddjbaaMemC
namespace Go.Proofs.Ytpffemcpfddjbaa.K
open Go
theorem wi64_id {x : Int} (h : -9223372036854775808 ≤ x ∧ x < 9223372036854775808) : wi64 x = x := by unfold wi64; omega
theorem wu64_id {x : Int} (h : 0 ≤ x ∧ x < 18446744073709551616) : wu64 x = x := by unfold wu64; omega
theorem wu32_id {x : Int} (h : 0 ≤ x ∧ x < 4294967296) : wu32 x = x := by unfold wu32; omega
theorem wu64_eq (x : Int) : wu64 x = x % 18446744073709551616 := by unfold wu64; rfl
theorem wu32_eq (x : Int) : wu32 x = x % 4294967296 := by unfold wu32; rfl
theorem wi64_eq (x : Int) : wi64 x = (x + 9223372036854775808) % 18446744073709551616 - 9223372036854775808 := by unfold wi64; rfl
/-- the next index -/
theorem wi_succ {i n : Nat} (h : i < n) (hn : n ≤ 9223372036854775807) : wi64 ((i : Int) + 1) = ((i + 1 : Nat) : Int) := by
  rw [wi64_id (by omega)]; rfl
/-- a loop over an index, from 0 to n: what holds of the loop with the index i -/
theorem idx_ind {P : Nat → Nat → Prop} (n : Nat) (hn : n ≤ 9223372036854775807) (hend : ∀ d, P (d + 1) n) (hstep : ∀ d i, i < n → P d (i + 1) → P (d + 1) i) : P FUEL 0 := by
  have h : ∀ d i, i ≤ n → n < i + d → P d i := by
    intro d
    induction d with
    | zero => intro i h1 h2; omega
    | succ d ih =>
      intro i h1 h2
      by_cases e : i = n
      · subst e; exact hend d
      · exact hstep d i (by omega) (ih (i + 1) (by omega) (by omega))
  exact h FUEL 0 (by omega) (by rw [FUEL_val]; omega)
theorem getD_at {α : Type} {xs : List α} {i : Nat} (h : i < xs.length) (d : α) : xs.getD ((i : Int)).toNat d = xs[i] := by
  rw [Int.toNat_natCast, List.getD_eq_getElem?_getD, List.getElem?_eq_getElem h, Option.getD_some]
theorem mem_drop {α : Type} {xs : List α} {i : Nat} (h : i < xs.length) (x : α) : x ∈ xs.drop i ↔ x = xs[i] ∨ x ∈ xs.drop (i + 1) := by
  rw [List.drop_eq_getElem_cons h]; exact List.mem_cons
/-- a loop over an index, from k to n -/
theorem idx_from {P : Nat → Nat → Prop} (n k : Nat) (hn : n ≤ 9223372036854775807) (hk : k ≤ n) (hend : ∀ d, P (d + 1) n) (hstep : ∀ d i, k ≤ i → i < n → P d (i + 1) → P (d + 1) i) : P FUEL k := by
  have h : ∀ d i, k ≤ i → i ≤ n → n < i + d → P d i := by
    intro d
    induction d with
    | zero => intro i h0 h1 h2; omega
    | succ d ih =>
      intro i h0 h1 h2
      by_cases e : i = n
      · subst e; exact hend d
      · exact hstep d i h0 (by omega) (ih (i + 1) (by omega) (by omega) (by omega))
  exact h FUEL k (by omega) hk (by rw [FUEL_val]; omega)
end Go.Proofs.Ytpffemcpfddjbaa.K
