/- Plain facts about wrapped numbers (own text). -/
import Derived.Test.YtpiliblfmpgjeaaMem8
namespace Go.Proofs.Ytpiliblfmpgjeaa.K
open Go
theorem wi64_id {x : Int} (h : -9223372036854775808 ≤ x ∧ x < 9223372036854775808) : wi64 x = x := by unfold wi64; omega
theorem wu64_id {x : Int} (h : 0 ≤ x ∧ x < 18446744073709551616) : wu64 x = x := by unfold wu64; omega
theorem wu32_id {x : Int} (h : 0 ≤ x ∧ x < 4294967296) : wu32 x = x := by unfold wu32; omega
theorem wu64_eq (x : Int) : wu64 x = x % 18446744073709551616 := by unfold wu64; rfl
theorem wu32_eq (x : Int) : wu32 x = x % 4294967296 := by unfold wu32; rfl
theorem wi64_eq (x : Int) : wi64 x = (x + 9223372036854775808) % 18446744073709551616 - 9223372036854775808 := by unfold wi64; rfl
end Go.Proofs.Ytpiliblfmpgjeaa.K
