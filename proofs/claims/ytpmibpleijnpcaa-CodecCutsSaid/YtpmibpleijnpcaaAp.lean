/- The plain laws of chapter 01 (own text). -/
import Derived.Test.YtpmibpleijnpcaaAd
import Derived.Test.YtpmibpleijnpcaaPure
import Derived.Test.YtpmibpleijnpcaaRow
namespace Go.Proofs.Ytpmibpleijnpcaa
open Go K
set_option linter.unusedVariables false
theorem numbers_true : armoirelaw01_numbers.f = some true := by decide +kernel
theorem texts_true : armoirelaw01_texts.f = some true := by decide +kernel
/-! texts -/
def textOf (s : Str) : List UInt8 × Int := if 255 < s.length then ([], 2) else (u8of (s.length : Int) :: s, 0)
theorem codec_Text_eq (s : Str) : codec_Text.f s = some (textOf s) := by
  unfold codec_Text.f textOf
  by_cases h : 255 < s.length
  · rw [if_pos (by omega), if_pos h]
  · rw [if_neg (by omega), if_neg h, if_pos (by simp; omega)]
    rfl
theorem ref_Text_eq (s : Str) : armoireref01_Text.f s = some (textOf s) := codec_Text_eq s
def readOf : List UInt8 → Str × Int × Int
  | [] => ([], 0, 10)
  | x :: r => if r.length < x.toNat then ([], 0, 10) else (r.take x.toNat, 1 + (x.toNat : Int), 0)
theorem readOf_cons (x : UInt8) (r : List UInt8) : readOf (x :: r) = if r.length < x.toNat then ([], 0, 10) else (r.take x.toNat, 1 + (x.toNat : Int), 0) := rfl
theorem codec_ReadText_eq (b : List UInt8) (hb : b.length ≤ 9223372036854775807) : codec_ReadText.f b = some (readOf b) := by
  unfold codec_ReadText.f
  cases b with
  | nil => rfl
  | cons x r =>
    have hx : x.toNat < 256 := x.toNat_lt
    have e : wi64 (1 + ((((x :: r).getD 0 0).toNat : Nat) : Int)) = 1 + (x.toNat : Int) := wi64_id (by simp; omega)
    rw [e]
    simp only [List.length_cons, readOf]
    rw [if_neg (by omega), if_pos (by omega)]
    by_cases h : r.length < x.toNat
    · rw [if_pos (by omega), if_pos h]
    · rw [if_neg (by omega), if_neg h, if_pos (by omega)]
      have e2 : (1 + (x.toNat : Int)).toNat = x.toNat + 1 := by omega
      rw [e2]
      simp
theorem ref_ReadText_eq (b : List UInt8) (hb : b.length ≤ 9223372036854775807) : armoireref01_ReadText.f b = some (readOf b) := by
  unfold armoireref01_ReadText.f
  cases b with
  | nil => rfl
  | cons x r =>
    have hx : x.toNat < 256 := x.toNat_lt
    have e : wi64 (1 + ((((x :: r).getD 0 0).toNat : Nat) : Int)) = 1 + (x.toNat : Int) := wi64_id (by simp; omega)
    simp only [List.length_cons] at hb
    have e1 : wi64 (((x :: r).length : Int) - 1) = (r.length : Int) := by rw [wi64_id (by simp; omega)]; simp
    rw [e1]
    unfold armoireref01_ReadText.j0
    rw [e]
    simp only [List.length_cons, readOf, List.getD_cons_zero]
    rw [if_neg (by omega), if_pos (by omega)]
    by_cases h : r.length < x.toNat
    · rw [if_pos (by simpa using h), if_pos h]
    · rw [if_neg (by simpa using h), if_neg h, if_pos (by omega), if_pos (by omega)]
      have e2 : (1 + (x.toNat : Int)).toNat = x.toNat + 1 := by omega
      rw [e2]
      simp
theorem armoirelaw01_CodecTextsLaw (s : Str) (b : List UInt8) (hs : s.length ≤ 140737488351232) (hb : b.length ≤ 140737488351232) : armoirelaw01_CodecTexts.f s b = some true := by
  unfold armoirelaw01_CodecTexts.f
  rw [texts_true, codec_Text_eq, ref_Text_eq, codec_ReadText_eq b (by omega), ref_ReadText_eq b (by omega)]
  simp [armoirelaw01_CodecTexts.j0, armoirelaw01_CodecTexts.j1, armoirelaw01_CodecTexts.j2, armoirelaw01_CodecTexts.j3, armoirelaw01_CodecTexts.j4]
theorem u8_len {n : Nat} (h : n ≤ 255) : (u8of (n : Int)).toNat = n := by
  have := u8of_toNat (n : Int)
  omega
theorem armoirelaw01_CodecTextBackLaw (s : Str) (b : List UInt8) (hs : s.length ≤ 140737488351232) (hb : b.length ≤ 140737488351232) : armoirelaw01_CodecTextBack.f s b = some true := by
  unfold armoirelaw01_CodecTextBack.f
  rw [texts_true, codec_Text_eq]
  simp only [Option.bind_some]
  unfold textOf
  by_cases h : 255 < s.length
  · rw [if_pos h]; rfl
  · rw [if_neg h]
    simp only [ne_eq, not_true_eq_false, if_false]
    rw [if_pos (by simp; omega), codec_ReadText_eq _ (by simp; omega)]
    have e := u8_len (n := s.length) (by omega)
    have e2 : readOf (u8of (s.length : Int) :: s ++ b) = (s, 1 + (s.length : Int), 0) := by
      rw [List.cons_append, readOf_cons]
      rw [if_neg (by rw [e, List.length_append]; omega), e, List.take_left]
    rw [e2]
    simp [armoirelaw01_CodecTextBack.j0, armoirelaw01_CodecTextBack.j1, armoirelaw01_CodecTextBack.j2]
    omega
/-! numbers -/
def be : Nat → Int → List UInt8
  | 0, _ => []
  | k + 1, n => be k (n / 256) ++ [u8of n]
theorem be_len : ∀ (k : Nat) (n : Int), (be k n).length = k
  | 0, _ => rfl
  | k + 1, n => by simp [be, be_len k]
theorem be_cons : ∀ (k : Nat) (n : Int), be (k + 1) n = u8of (n / 256 ^ k) :: be k n
  | 0, n => by simp [be]
  | k + 1, n => by
    rw [be, be_cons k (n / 256)]
    show _ = u8of (n / 256 ^ (k + 1)) :: (be k (n / 256) ++ [u8of n])
    rw [Int.ediv_ediv_of_nonneg (by omega), Int.pow_succ', List.cons_append]
def fixedOf (n w : Int) : List UInt8 × Int := if w < 1 ∨ 8 < w then ([], 1) else if 256 ^ w.toNat ≤ n then ([], 2) else (be w.toNat n, 0)
theorem set_rep (k : Nat) (t : List UInt8) (x : UInt8) : (List.replicate (k + 1) 0 ++ t).set k x = List.replicate k 0 ++ x :: t := by
  rw [List.replicate_succ', List.append_assoc, List.set_append_right _ _ (by simp)]
  simp
theorem p256 (i : Nat) : (2 : Int) ^ (8 * i) = 256 ^ i := by rw [Int.pow_mul]; rfl
theorem codec_Fixed_l0 (n : Int) (w : Nat) (hw : w ≤ 8) : ∀ (j i fuel : Nat), i + j = w → j < fuel → codec_Fixed.l0 n w fuel i (List.replicate j 0 ++ be i n) = some (be w n, 0)
  | 0, i, fuel + 1, e, hf => by
    unfold codec_Fixed.l0
    rw [if_neg (by omega)]
    obtain rfl : i = w := by omega
    simp
  | j + 1, i, fuel + 1, e, hf => by
    unfold codec_Fixed.l0
    rw [if_pos (by omega), wi64_id (x := 8 * (i : Int)) (by omega), wi64_id (x := (w : Int) - 1) (by omega), wi64_id (x := (w : Int) - 1 - (i : Int)) (by omega), wi64_id (x := (i : Int) + 1) (by omega)]
    rw [if_pos (by omega), if_pos (by simp [be_len]; omega)]
    have e1 : (8 * (i : Int)).toNat = 8 * i := by omega
    have e2 : ((w : Int) - 1 - (i : Int)).toNat = j := by omega
    rw [e1, e2, Nat.min_eq_left (by omega), p256, set_rep, ← be_cons]
    exact codec_Fixed_l0 n w hw j (i + 1) fuel (by omega) (by omega)
theorem pow_lt (w : Nat) (hw : w < 8) : (256 : Int) ^ w * 256 ≤ 18446744073709551616 := by
  rcases (by omega : w = 0 ∨ w = 1 ∨ w = 2 ∨ w = 3 ∨ w = 4 ∨ w = 5 ∨ w = 6 ∨ w = 7) with rfl | rfl | rfl | rfl | rfl | rfl | rfl | rfl <;> decide
theorem pow_pos' (w : Nat) : (0 : Int) < 256 ^ w := Int.pow_pos (by decide)
theorem codec_Fixed_eq (n w : Int) (hn : 0 ≤ n ∧ n < 18446744073709551616) : codec_Fixed.f n w = some (fixedOf n w) := by
  unfold codec_Fixed.f codec_Fixed.j0 fixedOf
  by_cases h1 : w < 1
  · rw [if_pos h1, if_pos rfl, if_pos (.inl h1)]
  rw [if_neg h1]
  by_cases h2 : 8 < w
  · rw [if_pos (by simpa using h2), if_pos (.inr h2)]
  rw [if_neg (by simpa using h2), if_neg (show ¬ (w < 1 ∨ 8 < w) by omega)]
  obtain ⟨v, rfl⟩ : ∃ v : Nat, w = v := ⟨w.toNat, by omega⟩
  have key : codec_Fixed.l0 n v (((v : Int) - 0).toNat + 1) 0 (List.replicate ((v : Int)).toNat 0) = some (be v n, 0) := by
    have := codec_Fixed_l0 n v (by omega) v 0 (((v : Int) - 0).toNat + 1) (by omega) (by omega)
    simpa [be] using this
  unfold codec_Fixed.j1
  by_cases h3 : (v : Int) < 8
  · rw [if_pos h3, wi64_id (x := 8 * (v : Int)) (by omega), if_pos (by omega)]
    have e1 : (8 * (v : Int)).toNat = 8 * v := by omega
    rw [e1, Nat.min_eq_left (by omega), p256]
    have hp := pow_pos' v
    by_cases h4 : (256 : Int) ^ v ≤ n
    · rw [if_pos (by
        have := Int.ediv_nonneg hn.1 (Int.le_of_lt hp)
        have h5 : ¬ n / 256 ^ v = 0 := by
          intro h
          have h6 := Int.emod_lt_of_pos n hp
          have h7 := Int.mul_ediv_add_emod n (256 ^ v)
          rw [h, Int.mul_zero] at h7
          omega
        simp [h5]), if_pos (by simpa using h4)]
    · rw [if_neg (by
        have : n / 256 ^ v = 0 := Int.ediv_eq_zero_of_lt hn.1 (by omega)
        simp [this]), if_pos (by omega), key, if_neg (by simpa using h4)]
      simp
  · obtain rfl : v = 8 := by omega
    rw [if_neg h3, if_neg (by simp), if_pos (by omega), key, if_neg (by simp; omega)]
    simp
theorem ref_Fixed_l0 : ∀ (k fuel : Nat) (x : Int) (t : List UInt8), k < fuel → k ≤ 8 → (0 ≤ x ∧ x < 18446744073709551616) →
    armoireref01_Fixed.l0 fuel x ((k : Int) - 1) (List.replicate k 0 ++ t) = some (if 256 ^ k ≤ x then (([] : List UInt8), (2 : Int)) else (be k x ++ t, 0))
  | 0, fuel + 1, x, t, hf, hk, hx => by
    unfold armoireref01_Fixed.l0
    rw [if_neg (by omega)]
    by_cases h : 0 < x
    · rw [if_pos h, if_pos (by simp; omega)]
    · rw [if_neg h, if_neg (by simp; omega)]; rfl
  | k + 1, fuel + 1, x, t, hf, hk, hx => by
    unfold armoireref01_Fixed.l0
    have e1 : (((k + 1 : Nat) : Int) - 1) = (k : Int) := by omega
    rw [e1, if_pos (by omega), if_pos (by simp; omega), wi64_id (by omega), Int.tdiv_eq_ediv_of_nonneg hx.1, wu64_id (by omega), Int.toNat_natCast, set_rep, ref_Fixed_l0 k fuel (x / 256) _ (by omega) (by omega) (by omega)]
    have e2 : (256 : Int) ^ k ≤ x / 256 ↔ 256 ^ (k + 1) ≤ x := by
      rw [Int.le_ediv_iff_mul_le (by decide), Int.pow_succ]
    have e3 : u8of (Int.tmod x 256) = u8of x := by
      rw [Int.tmod_eq_emod_of_nonneg hx.1]
      unfold u8of
      congr 2
      omega
    simp only [e2, e3, be, List.append_assoc, List.singleton_append]
theorem ref_Fixed_eq (n w : Int) (hn : 0 ≤ n ∧ n < 18446744073709551616) : armoireref01_Fixed.f n w = some (fixedOf n w) := by
  unfold armoireref01_Fixed.f armoireref01_Fixed.j0 fixedOf
  by_cases h1 : w < 1
  · rw [if_pos h1, if_pos rfl, if_pos (.inl h1)]
  rw [if_neg h1]
  by_cases h2 : 8 < w
  · rw [if_pos (by simpa using h2), if_pos (.inr h2)]
  rw [if_neg (by simpa using h2), if_neg (show ¬ (w < 1 ∨ 8 < w) by omega)]
  obtain ⟨v, rfl⟩ : ∃ v : Nat, w = v := ⟨w.toNat, by omega⟩
  rw [if_pos (by omega), wi64_id (by omega)]
  have := ref_Fixed_l0 v (((v : Int) - 1 - 0).toNat + 2) n [] (by omega) (by omega) hn
  rw [List.append_nil, List.append_nil] at this
  rw [Int.toNat_natCast]
  exact this
def val (x : Int) : List UInt8 → Int
  | [] => x
  | c :: r => val (x * 256 + (c.toNat : Int)) r
def numberOf (b : List UInt8) (w : Int) : Int × Int := if w < 1 ∨ 8 < w then (0, 1) else if (b.length : Int) < w then (0, 10) else (val 0 (b.take w.toNat), 0)
theorem val_snoc : ∀ (l : List UInt8) (x : Int) (c : UInt8), val x (l ++ [c]) = val x l * 256 + (c.toNat : Int)
  | [], _, _ => rfl
  | d :: r, x, c => val_snoc r _ c
theorem val_bd : ∀ (b : List UInt8) (x m : Int), 0 ≤ x → x < m → 0 ≤ val x b ∧ val x b < m * 256 ^ b.length
  | [], x, m, h0, h => by simp [val]; omega
  | c :: r, x, m, h0, h => by
    have hc : c.toNat < 256 := c.toNat_lt
    have := val_bd r (x * 256 + (c.toNat : Int)) (m * 256) (by omega) (by omega)
    rw [Int.mul_assoc] at this
    show _ ∧ _ < m * 256 ^ (r.length + 1)
    rw [Int.pow_succ']
    exact this
theorem val_lt (b : List UInt8) : 0 ≤ val 0 b ∧ val 0 b < 256 ^ b.length := by
  have := val_bd b 0 1 (by omega) (by omega)
  rwa [Int.one_mul] at this
theorem or_byte (x : Int) (c : UInt8) (h : 0 ≤ x ∧ x < 72057594037927936) : bitsI .or .u64 (x * 256) (c.toNat : Int) = x * 256 + (c.toNat : Int) := by
  obtain ⟨m, rfl⟩ : ∃ m : Nat, x = m := ⟨x.toNat, by omega⟩
  have hc : c.toNat < 256 := c.toNat_lt
  show wu64 ((BitVec.ofInt 64 ((m : Int) * 256) ||| BitVec.ofInt 64 (c.toNat : Int)).toNat : Int) = _
  have e1 : (BitVec.ofInt 64 ((m : Int) * 256)).toNat = m * 256 := by simp [BitVec.toNat_ofInt] <;> omega
  have e2 : (BitVec.ofInt 64 (c.toNat : Int)).toNat = c.toNat := by simp [BitVec.toNat_ofInt] <;> omega
  rw [BitVec.toNat_or, e1, e2]
  have e3 : m * 256 ||| c.toNat = m * 256 + c.toNat := by
    have := Nat.shiftLeft_add_eq_or_of_lt (i := 8) (b := c.toNat) (by omega) m
    rw [Nat.shiftLeft_eq] at this
    exact this.symm
  rw [e3, wu64_id (by omega)]
  simp
theorem pow_lt56 (k : Nat) (h : k < 8) : (256 : Int) ^ k ≤ 72057594037927936 := by
  rcases (by omega : k = 0 ∨ k = 1 ∨ k = 2 ∨ k = 3 ∨ k = 4 ∨ k = 5 ∨ k = 6 ∨ k = 7) with rfl | rfl | rfl | rfl | rfl | rfl | rfl | rfl <;> decide
theorem take_snoc (b : List UInt8) (i : Nat) (h : i < b.length) : b.take (i + 1) = b.take i ++ [b.getD i 0] := by
  rw [List.take_add_one, List.getElem?_eq_getElem h]
  simp [List.getD_eq_getElem?_getD, h]
theorem codec_Number_l0 (b : List UInt8) (w : Nat) (hw : w ≤ 8) (hb : w ≤ b.length) : ∀ (j i fuel : Nat), i + j = w → j < fuel → codec_Number.l0 b w fuel (val 0 (b.take i)) i = some (val 0 (b.take w), 0)
  | 0, i, fuel + 1, e, hf => by
    unfold codec_Number.l0
    rw [if_neg (by omega)]
    obtain rfl : i = w := by omega
    rfl
  | j + 1, i, fuel + 1, e, hf => by
    unfold codec_Number.l0
    have hv := val_lt (b.take i)
    rw [List.length_take, Nat.min_eq_left (by omega)] at hv
    have hp := pow_lt56 i (by omega)
    rw [if_pos (by omega), if_pos (by omega), wu64_id (by omega), Int.toNat_natCast, or_byte _ _ (by omega), wi64_id (by omega), ← val_snoc, ← take_snoc b i (by omega)]
    exact codec_Number_l0 b w hw hb j (i + 1) fuel (by omega) (by omega)
theorem codec_Number_eq (b : List UInt8) (w : Int) : codec_Number.f b w = some (numberOf b w) := by
  unfold codec_Number.f codec_Number.j0 numberOf
  by_cases h1 : w < 1
  · rw [if_pos h1, if_pos rfl, if_pos (.inl h1)]
  rw [if_neg h1]
  by_cases h2 : 8 < w
  · rw [if_pos (by simpa using h2), if_pos (.inr h2)]
  rw [if_neg (by simpa using h2), if_neg (show ¬ (w < 1 ∨ 8 < w) by omega)]
  by_cases h3 : (b.length : Int) < w
  · rw [if_pos h3, if_pos h3]
  rw [if_neg h3, if_neg h3]
  obtain ⟨v, rfl⟩ : ∃ v : Nat, w = v := ⟨w.toNat, by omega⟩
  have := codec_Number_l0 b v (by omega) (by omega) v 0 (((v : Int) - 0).toNat + 1) (by omega) (by omega)
  rw [Int.toNat_natCast]
  exact this
theorem ref_Number_l0 (b : List UInt8) (w : Nat) (hw : w ≤ 8) (hb : w ≤ b.length) : ∀ (j i fuel : Nat), i + j = w → j < fuel → armoireref01_Number.l0 b w fuel (val 0 (b.take i)) i = some (val 0 (b.take w), 0)
  | 0, i, fuel + 1, e, hf => by
    unfold armoireref01_Number.l0
    obtain rfl : i = w := by omega
    rw [if_neg (by simp; omega)]
  | j + 1, i, fuel + 1, e, hf => by
    unfold armoireref01_Number.l0
    have hv := val_lt (b.take i)
    rw [List.length_take, Nat.min_eq_left (by omega)] at hv
    have hp := pow_lt56 i (by omega)
    have hc : (b.getD i 0).toNat < 256 := (b.getD i 0).toNat_lt
    have eg : ((b.take ((w : Int)).toNat).drop 0).getD i 0 = b.getD i 0 := by
      rw [List.drop_zero, Int.toNat_natCast, List.getD_eq_getElem?_getD, List.getElem?_take_of_lt (by omega), List.getD_eq_getElem?_getD]
    rw [Int.toNat_natCast i, eg]
    rw [if_pos (by simp; omega), if_pos (by simp; omega), wu64_id (x := _ * 256) (by omega), wu64_id (by omega), wi64_id (by omega), ← val_snoc, ← take_snoc b i (by omega)]
    exact ref_Number_l0 b w hw hb j (i + 1) fuel (by omega) (by omega)
theorem ref_Number_eq (b : List UInt8) (w : Int) : armoireref01_Number.f b w = some (numberOf b w) := by
  unfold armoireref01_Number.f armoireref01_Number.j0 numberOf
  by_cases h1 : w < 1
  · rw [if_pos h1, if_pos rfl, if_pos (.inl h1)]
  rw [if_neg h1]
  by_cases h2 : 8 < w
  · rw [if_pos (by simpa using h2), if_pos (.inr h2)]
  rw [if_neg (by simpa using h2), if_neg (show ¬ (w < 1 ∨ 8 < w) by omega)]
  by_cases h3 : (b.length : Int) < w
  · rw [if_pos h3, if_pos h3]
  rw [if_neg h3, if_neg h3, if_pos (by omega)]
  obtain ⟨v, rfl⟩ : ∃ v : Nat, w = v := ⟨w.toNat, by omega⟩
  have := ref_Number_l0 b v (by omega) (by omega) v 0 (((((b.take ((v : Int)).toNat).drop 0).length : Int) - 0).toNat + 1) (by omega) (by simp; omega)
  rw [Int.toNat_natCast v]
  rw [Int.toNat_natCast v] at this
  exact this
theorem armoirelaw01_CodecNumbersLaw (n : Int) (b : List UInt8) (w : Int) (hn : (Lit.int .u64 n).wf = true) (hb : b.length ≤ 140737488351232) (hw : (Lit.int .i64 w).wf = true) : armoirelaw01_CodecNumbers.f n b w = some true := by
  unfold armoirelaw01_CodecNumbers.f
  rw [numbers_true, codec_Fixed_eq n w (rng_u64 hn), ref_Fixed_eq n w (rng_u64 hn), codec_Number_eq, ref_Number_eq]
  simp [armoirelaw01_CodecNumbers.j0, armoirelaw01_CodecNumbers.j1, armoirelaw01_CodecNumbers.j2, armoirelaw01_CodecNumbers.j3]
theorem val_be : ∀ (k : Nat) (n : Int), 0 ≤ n → n < 256 ^ k → val 0 (be k n) = n
  | 0, n, h0, h => by simp at h; simp [be, val]; omega
  | k + 1, n, h0, h => by
    rw [be, val_snoc, val_be k (n / 256) (by omega) (by rw [Int.pow_succ] at h; omega), u8of_toNat]
    omega
theorem armoirelaw01_CodecBackLaw (n w : Int) (b : List UInt8) (hn : (Lit.int .u64 n).wf = true) (hw : (Lit.int .i64 w).wf = true) (hb : b.length ≤ 140737488351232) : armoirelaw01_CodecBack.f n w b = some true := by
  have hn' := rng_u64 hn
  unfold armoirelaw01_CodecBack.f
  rw [numbers_true, codec_Fixed_eq n w hn']
  simp only [Option.bind_some]
  unfold fixedOf
  by_cases h : w < 1 ∨ 8 < w
  · rw [if_pos h]; rfl
  rw [if_neg h]
  by_cases h2 : 256 ^ w.toNat ≤ n
  · rw [if_pos h2]; rfl
  rw [if_neg h2]
  simp only [ne_eq, not_true_eq_false, if_false]
  rw [if_pos (by rw [be_len]; omega), codec_Number_eq]
  unfold numberOf
  rw [if_neg h, if_neg (by rw [List.length_append, be_len]; omega)]
  have e : (be w.toNat n ++ b).take w.toNat = be w.toNat n := by
    have := List.take_left' (l₂ := b) (be_len w.toNat n)
    exact this
  rw [e, val_be _ n hn'.1 (by omega)]
  simp [armoirelaw01_CodecBack.j0, armoirelaw01_CodecBack.j1]
theorem less_snoc : ∀ (x y : List UInt8) (c d : UInt8), x.length = y.length → Op.bytesLess (x ++ [c]) (y ++ [d]) = (Op.bytesLess x y || (x == y && decide (c < d)))
  | [], [], c, d, _ => by simp [Op.bytesLess]
  | a :: x, b :: y, c, d, h => by
    have := less_snoc x y c d (by simpa using h)
    simp only [List.cons_append, Op.bytesLess, this]
    by_cases e : a = b
    · subst e; simp [UInt8.lt_irrefl]
    · have e' : (a == b) = false := by simpa using e
      simp [e']
  | [], _ :: _, _, _, h => by cases h
  | _ :: _, [], _, _, h => by cases h
theorem be_inj (k : Nat) (a b : Int) (h1 : 0 ≤ a) (h2 : a < 256 ^ k) (h3 : 0 ≤ b) (h4 : b < 256 ^ k) : be k a = be k b ↔ a = b :=
  ⟨fun h => by have := congrArg (val 0) h; rwa [val_be k a h1 h2, val_be k b h3 h4] at this, fun h => by rw [h]⟩
theorem less_be : ∀ (k : Nat) (a b : Int), 0 ≤ a → a < 256 ^ k → 0 ≤ b → b < 256 ^ k → Op.bytesLess (be k a) (be k b) = decide (a < b)
  | 0, a, b, h1, h2, h3, h4 => by
    simp at h2 h4
    simp [be, Op.bytesLess]; omega
  | k + 1, a, b, h1, h2, h3, h4 => by
    rw [Int.pow_succ] at h2 h4
    have ha : a / 256 < 256 ^ k := by omega
    have hb : b / 256 < 256 ^ k := by omega
    rw [be, be, less_snoc _ _ _ _ (by rw [be_len, be_len]), less_be k _ _ (by omega) ha (by omega) hb]
    have ei := be_inj k (a / 256) (b / 256) (by omega) ha (by omega) hb
    have e1 : (be k (a / 256) == be k (b / 256)) = decide (a / 256 = b / 256) := by
      rw [Bool.eq_iff_iff]; simp [ei]
    have e2 : (u8of a < u8of b) ↔ a % 256 < b % 256 := by
      rw [UInt8.lt_iff_toNat_lt]
      have h5 := u8of_toNat a
      have h6 := u8of_toNat b
      omega
    rw [e1, Bool.eq_iff_iff]
    simp only [Bool.or_eq_true, Bool.and_eq_true, decide_eq_true_eq, e2]
    omega
theorem armoirelaw01_CodecOrderLaw (a b w : Int) (ha : (Lit.int .u64 a).wf = true) (hb : (Lit.int .u64 b).wf = true) (hw : (Lit.int .i64 w).wf = true) : armoirelaw01_CodecOrder.f a b w = some true := by
  have ha' := rng_u64 ha
  have hb' := rng_u64 hb
  unfold armoirelaw01_CodecOrder.f
  rw [numbers_true, codec_Fixed_eq a w ha', codec_Fixed_eq b w hb']
  simp only [Option.bind_some]
  unfold fixedOf
  by_cases h : w < 1 ∨ 8 < w
  · rw [if_pos h, if_pos h]; rfl
  rw [if_neg h, if_neg h]
  by_cases h2 : 256 ^ w.toNat ≤ a
  · rw [if_pos h2]; rfl
  by_cases h3 : 256 ^ w.toNat ≤ b
  · rw [if_pos h3, if_neg h2]; rfl
  rw [if_neg h2, if_neg h3]
  have e := less_be w.toNat a b ha'.1 (by omega) hb'.1 (by omega)
  have e2 := be_inj w.toNat a b ha'.1 (by omega) hb'.1 (by omega)
  simp [armoirelaw01_CodecOrder.j0, armoirelaw01_CodecOrder.j1, armoirelaw01_CodecOrder.j2, e, e2]
theorem armoirelaw01_CodecCutsLaw (n : Int) (s : Str) (hn : (Lit.int .u64 n).wf = true) (hs : s.length ≤ 140737488351232) : armoirelaw01_CodecCuts.f n s = some true := by
  have hn' := rng_u64 hn
  unfold armoirelaw01_CodecCuts.f
  rw [numbers_true]
  simp only [Option.bind_some, if_true]
  rw [texts_true]
  simp only [Option.bind_some]
  unfold armoirelaw01_CodecCuts.j0
  rw [codec_Fixed_eq n 8 hn']
  have e1 : fixedOf n 8 = (be 8 n, 0) := by
    unfold fixedOf
    rw [if_neg (by omega), if_neg (by simp; omega)]
    rfl
  rw [e1]
  simp only [Option.bind_some, ne_eq, not_true_eq_false, if_false]
  unfold armoirelaw01_CodecCuts.j1
  rw [be_len]
  rw [if_neg (by simp), if_pos (by omega), codec_Number_eq, codec_Text_eq]
  have e2 : numberOf ((be 8 n).take 7) 8 = (0, 10) := by
    unfold numberOf
    rw [if_neg (by omega), if_pos (by rw [List.length_take, be_len]; omega)]
  rw [e2]
  simp only [Option.bind_some, if_true]
  unfold textOf
  by_cases h : 255 < s.length
  · rw [if_pos h]; rfl
  rw [if_neg h]
  simp only [ne_eq, not_true_eq_false, if_false]
  rw [List.length_cons, if_neg (by omega), wi64_id (by omega), if_pos (by omega), codec_ReadText_eq _ (by rw [List.length_take, List.length_cons]; omega)]
  have e3 : (((s.length + 1 : Nat) : Int) - 1).toNat = s.length := by omega
  rw [e3]
  have hr : (readOf ((u8of (s.length : Int) :: s).take s.length)).2.2 = 10 := by
    cases hh : s.length with
    | zero => rfl
    | succ m =>
      have e4 := u8_len (n := m + 1) (by omega)
      rw [List.take_succ_cons, readOf_cons]
      rw [if_pos (by rw [e4, List.length_take]; omega)]
  simp [armoirelaw01_CodecCuts.j3, armoirelaw01_CodecCuts.j4, hr]
end Go.Proofs.Ytpmibpleijnpcaa
