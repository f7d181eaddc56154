/- The judgement 'G': drawn regions: what stands behind what (own text). -/
import Derived.Test.YtpffemcpfddjbaaMemI
namespace Go.Proofs.Ytpffemcpfddjbaa.K
open Go
/-- what must have been done ahead of i -/
def ancs (ds : List (List Nat)) : Nat → Nat → List Nat
  | 0, _ => []
  | n + 1, i => (ds.getD i []) ++ (ds.getD i []).flatMap (ancs ds n)
section
variable {R : Reg} {V : List (Option Value)} {done blk : List Nat} {L : List Bool} {A : List (Nat × Value)}
theorem Reg.Phi.ancs (h : R.Phi V done blk L A) : ∀ (n : Nat) {i : Nat}, (∀ j ∈ R.ds.getD i [], L.getD j false = true) → ∀ j ∈ K.ancs R.ds n i, L.getD j false = true
  | 0, _, _, j, hj => by cases hj
  | n + 1, i, hd, j, hj => by
    simp only [K.ancs, List.mem_append, List.mem_flatMap] at hj
    rcases hj with hj | ⟨x, hx, hj⟩
    · exact hd j hj
    · exact h.ancs n (h.closed x (hd x hx)) j hj
theorem Reg.Phi.more (h : R.Phi V done blk L A) {E : List Nat} (hE : ∀ j ∈ E, L.getD j false = true) : R.Phi V (done ++ E) blk L A :=
  ⟨h.known, h.base, h.closed, fun j hj => by rcases List.mem_append.1 hj with hj | hj; exact h.done j hj; exact hE j hj, h.blk⟩
theorem Reg.Phi.stepS2 {X Ai : List (Nat × Value)} {i d : Nat} {v : Value} {V' : List (Option Value)} {done' blk' : List Nat} (n : Nat) (h : R.Phi V done blk L X) (hap : R.apart = true) (hil : i < L.length) (hd : ∀ j ∈ R.ds.getD i [], L.getD j false = true) (hs : Sub Ai X) (he : Ext V V')
    (hdone : done'.all (fun j => (done ++ K.ancs R.ds n i).contains j || (j == i || (R.ds.getD i []).contains j)) = true) (hblk : blk'.all (fun j => blk.contains j && !(j == i)) = true) (hdst : R.dsts.getD i none = some d) (hv : V'.getD i none = some v) : R.Phi V' done' blk' (L.set i true) ((d, v) :: (Ai ++ X)) :=
  (h.more (h.ancs n hd)).stepS hap hil hd hs he hdone hblk hdst hv
theorem Reg.Phi.stepN2 {X Ai : List (Nat × Value)} {i : Nat} {V' : List (Option Value)} {done' blk' : List Nat} (n : Nat) (h : R.Phi V done blk L X) (hap : R.apart = true) (hil : i < L.length) (hd : ∀ j ∈ R.ds.getD i [], L.getD j false = true) (hs : Sub Ai X) (he : Ext V V')
    (hdone : done'.all (fun j => (done ++ K.ancs R.ds n i).contains j || (j == i || (R.ds.getD i []).contains j)) = true) (hblk : blk'.all (fun j => blk.contains j && !(j == i)) = true) (hdst : R.dsts.getD i none = none) : R.Phi V' done' blk' (L.set i true) (Ai ++ X) :=
  (h.more (h.ancs n hd)).stepN hap hil hd hs he hdone hblk hdst
end
end Go.Proofs.Ytpffemcpfddjbaa.K
