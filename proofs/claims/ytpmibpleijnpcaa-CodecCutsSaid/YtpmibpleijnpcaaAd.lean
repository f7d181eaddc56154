import Derived.Test.YtpmibpleijnpcaaMem6
namespace Go.Proofs.Ytpmibpleijnpcaa
open Go K
set_option linter.unusedVariables false
def codec_Fixed.l0 (a0 : Int) (a1 : Int) : Nat → Int → List UInt8 → Option ((List UInt8) × Int)
  | 0, _, _ => none
  | d42 + 1, x34, x35 =>
    (if x34 < a1 then (if 0 ≤ (wi64 (8 * x34)) then (if 0 ≤ wi64 ((wi64 (a1 - 1)) - x34) ∧ wi64 ((wi64 (a1 - 1)) - x34) < x35.length then codec_Fixed.l0 a0 a1 d42 (wi64 (x34 + 1)) (x35.set ((wi64 ((wi64 (a1 - 1)) - x34)).toNat) (u8of (a0 / 2 ^ min ((wi64 (8 * x34)).toNat) 64))) else none) else none) else some (x35, 0))
def codec_Fixed.j1 (a0 : Int) (a1 : Int) (b19 : Bool) : Option ((List UInt8) × Int) :=
  (if b19 = true then some (([] : List UInt8), 2) else (if 0 ≤ a1 ∧ a1 ≤ a1 ∧ a1 * 1 ≤ 281474976710656 ∧ a1 ≤ 281474976710656 then codec_Fixed.l0 a0 a1 ((a1 - 0 : Int).toNat + 1) 0 (List.replicate a1.toNat 0 : List UInt8) else none))
def codec_Fixed.j0 (a0 : Int) (a1 : Int) (b3 : Bool) : Option ((List UInt8) × Int) :=
  (if b3 = true then some (([] : List UInt8), 1) else (if a1 < 8 then (if 0 ≤ (wi64 (8 * a1)) then codec_Fixed.j1 a0 a1 (decide ((a0 / 2 ^ min ((wi64 (8 * a1)).toNat) 64) ≠ 0)) else none) else codec_Fixed.j1 a0 a1 false))
def codec_Fixed.f (a0 : Int) (a1 : Int) : Option ((List UInt8) × Int) :=
  (if a1 < 1 then codec_Fixed.j0 a0 a1 true else codec_Fixed.j0 a0 a1 (decide (8 < a1)))
def codec_Number.l0 (a0 : (List UInt8)) (a1 : Int) : Nat → Int → Int → Option (Int × Int)
  | 0, _, _ => none
  | d15 + 1, x7, x8 =>
    (if x8 < a1 then (if 0 ≤ x8 ∧ x8 < a0.length then codec_Number.l0 a0 a1 d15 (bitsI .or .u64 (wu64 (x7 * 256)) ((a0.getD x8.toNat 0).toNat : Int)) (wi64 (x8 + 1)) else none) else some (x7, 0))
def codec_Number.j0 (a0 : (List UInt8)) (a1 : Int) (b3 : Bool) : Option (Int × Int) :=
  (if b3 = true then some (0, 1) else (if (a0.length : Int) < a1 then some (0, 10) else codec_Number.l0 a0 a1 ((a1 - 0 : Int).toNat + 1) 0 0))
def codec_Number.f (a0 : (List UInt8)) (a1 : Int) : Option (Int × Int) :=
  (if a1 < 1 then codec_Number.j0 a0 a1 true else codec_Number.j0 a0 a1 (decide (8 < a1)))
def armoirelaw01_numbers.j4 (b48 : Bool) : Option (Bool) :=
  some b48
def armoirelaw01_numbers.j3 (t30 : (Int × Int)) (b45 : Bool) : Option (Bool) :=
  (if b45 = true then armoirelaw01_numbers.j4 (decide (t30.2 = 0)) else armoirelaw01_numbers.j4 false)
def armoirelaw01_numbers.j2 (t30 : (Int × Int)) (b42 : Bool) : Option (Bool) :=
  (if b42 = true then armoirelaw01_numbers.j3 t30 (decide (t30.1 = 258)) else armoirelaw01_numbers.j3 t30 false)
def armoirelaw01_numbers.j1 (t19 : ((List UInt8) × Int)) (t30 : (Int × Int)) (b39 : Bool) : Option (Bool) :=
  (if b39 = true then armoirelaw01_numbers.j2 t30 (decide (t19.2 = 1)) else armoirelaw01_numbers.j2 t30 false)
def armoirelaw01_numbers.j0 (t10 : ((List UInt8) × Int)) (t19 : ((List UInt8) × Int)) (t30 : (Int × Int)) (b36 : Bool) : Option (Bool) :=
  (if b36 = true then armoirelaw01_numbers.j1 t19 t30 (decide (t10.2 = 2)) else armoirelaw01_numbers.j1 t19 t30 false)
def armoirelaw01_numbers.f  : Option (Bool) :=
  (codec_Fixed.f 258 2).bind fun t1 => (codec_Fixed.f 256 1).bind fun t10 => (codec_Fixed.f 1 9).bind fun t19 => (codec_Number.f ([1, 2, 3] : List UInt8) 2).bind fun t30 => (if t1.1 = ([1, 2] : Str) then armoirelaw01_numbers.j0 t10 t19 t30 (decide (t1.2 = 0)) else armoirelaw01_numbers.j0 t10 t19 t30 false)
def armoireref01_Fixed.l0  : Nat → Int → Int → List UInt8 → Option ((List UInt8) × Int)
  | 0, _, _, _ => none
  | d38 + 1, x24, x25, x26 =>
    (if 0 ≤ x25 then (if 0 ≤ x25 ∧ x25 < x26.length then armoireref01_Fixed.l0 d38 (wu64 (Int.tdiv x24 256)) (wi64 (x25 - 1)) (x26.set x25.toNat (u8of (Int.tmod x24 256))) else none) else (if 0 < x24 then some (([] : List UInt8), 2) else some (x26, 0)))
def armoireref01_Fixed.j0 (a0 : Int) (a1 : Int) (b3 : Bool) : Option ((List UInt8) × Int) :=
  (if b3 = true then some (([] : List UInt8), 1) else (if 0 ≤ a1 ∧ a1 ≤ a1 ∧ a1 * 1 ≤ 281474976710656 ∧ a1 ≤ 281474976710656 then armoireref01_Fixed.l0 ((wi64 (a1 - 1) - 0 : Int).toNat + 2) a0 (wi64 (a1 - 1)) (List.replicate a1.toNat 0 : List UInt8) else none))
def armoireref01_Fixed.f (a0 : Int) (a1 : Int) : Option ((List UInt8) × Int) :=
  (if a1 < 1 then armoireref01_Fixed.j0 a0 a1 true else armoireref01_Fixed.j0 a0 a1 (decide (8 < a1)))
def armoireref01_Number.l0 (a0 : (List UInt8)) (a1 : Int) : Nat → Int → Int → Option (Int × Int)
  | 0, _, _ => none
  | d18 + 1, x10, x11 =>
    (if x11 < (((a0.take a1.toNat).drop 0).length : Int) then (if 0 ≤ x11 ∧ x11 < ((a0.take a1.toNat).drop 0).length then armoireref01_Number.l0 a0 a1 d18 (wu64 ((wu64 (x10 * 256)) + ((((a0.take a1.toNat).drop 0).getD x11.toNat 0).toNat : Int))) (wi64 (x11 + 1)) else none) else some (x10, 0))
def armoireref01_Number.j0 (a0 : (List UInt8)) (a1 : Int) (b3 : Bool) : Option (Int × Int) :=
  (if b3 = true then some (0, 1) else (if (a0.length : Int) < a1 then some (0, 10) else (if 0 ≤ (0 : Int) ∧ (0 : Int) ≤ a1 ∧ a1 ≤ a0.length then armoireref01_Number.l0 a0 a1 (((((a0.take a1.toNat).drop 0).length : Int) - 0 : Int).toNat + 1) 0 0 else none)))
def armoireref01_Number.f (a0 : (List UInt8)) (a1 : Int) : Option (Int × Int) :=
  (if a1 < 1 then armoireref01_Number.j0 a0 a1 true else armoireref01_Number.j0 a0 a1 (decide (8 < a1)))
def armoirelaw01_CodecNumbers.j3 (b48 : Bool) : Option (Bool) :=
  some b48
def armoirelaw01_CodecNumbers.j2 (t25 : (Int × Int)) (t31 : (Int × Int)) (b45 : Bool) : Option (Bool) :=
  (if b45 = true then armoirelaw01_CodecNumbers.j3 (decide (t25.2 = t31.2)) else armoirelaw01_CodecNumbers.j3 false)
def armoirelaw01_CodecNumbers.j1 (t25 : (Int × Int)) (t31 : (Int × Int)) (b42 : Bool) : Option (Bool) :=
  (if b42 = true then armoirelaw01_CodecNumbers.j2 t25 t31 (decide (t25.1 = t31.1)) else armoirelaw01_CodecNumbers.j2 t25 t31 false)
def armoirelaw01_CodecNumbers.j0 (t7 : ((List UInt8) × Int)) (t16 : ((List UInt8) × Int)) (t25 : (Int × Int)) (t31 : (Int × Int)) (b39 : Bool) : Option (Bool) :=
  (if b39 = true then armoirelaw01_CodecNumbers.j1 t25 t31 (decide (t7.2 = t16.2)) else armoirelaw01_CodecNumbers.j1 t25 t31 false)
def armoirelaw01_CodecNumbers.f (a0 : Int) (a1 : (List UInt8)) (a2 : Int) : Option (Bool) :=
  (armoirelaw01_numbers.f).bind fun t1 => (codec_Fixed.f a0 a2).bind fun t7 => (armoireref01_Fixed.f a0 a2).bind fun t16 => (codec_Number.f a1 a2).bind fun t25 => (armoireref01_Number.f a1 a2).bind fun t31 => (if t1 = true then armoirelaw01_CodecNumbers.j0 t7 t16 t25 t31 (decide (t7.1 = t16.1)) else armoirelaw01_CodecNumbers.j0 t7 t16 t25 t31 false)
def codec_Text.f (a0 : Str) : Option ((List UInt8) × Int) :=
  (if 255 < (a0.length : Int) then some (([] : List UInt8), 2) else (if ([u8of (a0.length : Int)] : List UInt8).length + a0.length ≤ 140737488355328 then some ((([u8of (a0.length : Int)] : List UInt8) ++ a0), 0) else none))
def codec_ReadText.f (a0 : (List UInt8)) : Option (Str × Int × Int) :=
  (if (a0.length : Int) = 0 then some (([] : Str), 0, 10) else (if 0 ≤ (0 : Int) ∧ (0 : Int) < a0.length then (if (a0.length : Int) < (wi64 (1 + ((a0.getD 0 0).toNat : Int))) then some (([] : Str), 0, 10) else (if 0 ≤ (1 : Int) ∧ (1 : Int) ≤ wi64 (1 + ((a0.getD 0 0).toNat : Int)) ∧ wi64 (1 + ((a0.getD 0 0).toNat : Int)) ≤ a0.length then some (((a0.take ((wi64 (1 + ((a0.getD 0 0).toNat : Int))).toNat)).drop 1), wi64 (1 + ((a0.getD 0 0).toNat : Int)), 0) else none)) else none))
def armoirelaw01_texts.j3 (b27 : Bool) : Option (Bool) :=
  some b27
def armoirelaw01_texts.j2 (t12 : (Str × Int × Int)) (b24 : Bool) : Option (Bool) :=
  (if b24 = true then armoirelaw01_texts.j3 (decide (t12.2.2 = 0)) else armoirelaw01_texts.j3 false)
def armoirelaw01_texts.j1 (t12 : (Str × Int × Int)) (b21 : Bool) : Option (Bool) :=
  (if b21 = true then armoirelaw01_texts.j2 t12 (decide (t12.2.1 = 3)) else armoirelaw01_texts.j2 t12 false)
def armoirelaw01_texts.j0 (t12 : (Str × Int × Int)) (b18 : Bool) : Option (Bool) :=
  (if b18 = true then armoirelaw01_texts.j1 t12 (decide (t12.1 = ([97, 98] : Str))) else armoirelaw01_texts.j1 t12 false)
def armoirelaw01_texts.f  : Option (Bool) :=
  (codec_Text.f ([97, 98] : Str)).bind fun t1 => (codec_ReadText.f ([2, 97, 98, 99] : List UInt8)).bind fun t12 => (if t1.1 = ([2, 97, 98] : Str) then armoirelaw01_texts.j0 t12 (decide (t1.2 = 0)) else armoirelaw01_texts.j0 t12 false)
def armoireref01_Text.f (a0 : Str) : Option ((List UInt8) × Int) :=
  (if 255 < (a0.length : Int) then some (([] : List UInt8), 2) else (if ([u8of (a0.length : Int)] : List UInt8).length + a0.length ≤ 140737488355328 then some ((([u8of (a0.length : Int)] : List UInt8) ++ a0), 0) else none))
def armoireref01_ReadText.j0 (a0 : (List UInt8)) (b6 : Bool) : Option (Str × Int × Int) :=
  (if b6 = true then some (([] : Str), 0, 10) else (if 0 ≤ (0 : Int) ∧ (0 : Int) < a0.length then (if 0 ≤ (1 : Int) ∧ (1 : Int) ≤ wi64 (1 + ((a0.getD 0 0).toNat : Int)) ∧ wi64 (1 + ((a0.getD 0 0).toNat : Int)) ≤ a0.length then some (((a0.take ((wi64 (1 + ((a0.getD 0 0).toNat : Int))).toNat)).drop 1), wi64 (1 + ((a0.getD 0 0).toNat : Int)), 0) else none) else none))
def armoireref01_ReadText.f (a0 : (List UInt8)) : Option (Str × Int × Int) :=
  (if (a0.length : Int) = 0 then armoireref01_ReadText.j0 a0 true else (if 0 ≤ (0 : Int) ∧ (0 : Int) < a0.length then armoireref01_ReadText.j0 a0 (decide ((wi64 ((a0.length : Int) - 1)) < ((a0.getD 0 0).toNat : Int))) else none))
def armoirelaw01_CodecTexts.j4 (b51 : Bool) : Option (Bool) :=
  some b51
def armoirelaw01_CodecTexts.j3 (t25 : (Str × Int × Int)) (t31 : (Str × Int × Int)) (b48 : Bool) : Option (Bool) :=
  (if b48 = true then armoirelaw01_CodecTexts.j4 (decide (t25.2.2 = t31.2.2)) else armoirelaw01_CodecTexts.j4 false)
def armoirelaw01_CodecTexts.j2 (t25 : (Str × Int × Int)) (t31 : (Str × Int × Int)) (b45 : Bool) : Option (Bool) :=
  (if b45 = true then armoirelaw01_CodecTexts.j3 t25 t31 (decide (t25.2.1 = t31.2.1)) else armoirelaw01_CodecTexts.j3 t25 t31 false)
def armoirelaw01_CodecTexts.j1 (t25 : (Str × Int × Int)) (t31 : (Str × Int × Int)) (b42 : Bool) : Option (Bool) :=
  (if b42 = true then armoirelaw01_CodecTexts.j2 t25 t31 (decide (t25.1 = t31.1)) else armoirelaw01_CodecTexts.j2 t25 t31 false)
def armoirelaw01_CodecTexts.j0 (t7 : ((List UInt8) × Int)) (t16 : ((List UInt8) × Int)) (t25 : (Str × Int × Int)) (t31 : (Str × Int × Int)) (b39 : Bool) : Option (Bool) :=
  (if b39 = true then armoirelaw01_CodecTexts.j1 t25 t31 (decide (t7.2 = t16.2)) else armoirelaw01_CodecTexts.j1 t25 t31 false)
def armoirelaw01_CodecTexts.f (a0 : Str) (a1 : (List UInt8)) : Option (Bool) :=
  (armoirelaw01_texts.f).bind fun t1 => (codec_Text.f a0).bind fun t7 => (armoireref01_Text.f a0).bind fun t16 => (codec_ReadText.f a1).bind fun t25 => (armoireref01_ReadText.f a1).bind fun t31 => (if t1 = true then armoirelaw01_CodecTexts.j0 t7 t16 t25 t31 (decide (t7.1 = t16.1)) else armoirelaw01_CodecTexts.j0 t7 t16 t25 t31 false)
def armoirelaw01_CodecTextBack.j2 (b32 : Bool) : Option (Bool) :=
  some b32
def armoirelaw01_CodecTextBack.j1 (t7 : ((List UInt8) × Int)) (t20 : (Str × Int × Int)) (b29 : Bool) : Option (Bool) :=
  (if b29 = true then armoirelaw01_CodecTextBack.j2 (decide (t20.2.1 = (t7.1.length : Int))) else armoirelaw01_CodecTextBack.j2 false)
def armoirelaw01_CodecTextBack.j0 (a0 : Str) (t7 : ((List UInt8) × Int)) (t20 : (Str × Int × Int)) (b26 : Bool) : Option (Bool) :=
  (if b26 = true then armoirelaw01_CodecTextBack.j1 t7 t20 (decide (t20.1 = a0)) else armoirelaw01_CodecTextBack.j1 t7 t20 false)
def armoirelaw01_CodecTextBack.f (a0 : Str) (a1 : (List UInt8)) : Option (Bool) :=
  (armoirelaw01_texts.f).bind fun t1 => (codec_Text.f a0).bind fun t7 => (if t7.2 ≠ 0 then some t1 else (if t7.1.length + a1.length ≤ 140737488355328 then (codec_ReadText.f (t7.1 ++ a1)).bind fun t20 => (if t1 = true then armoirelaw01_CodecTextBack.j0 a0 t7 t20 (decide (t20.2.2 = 0)) else armoirelaw01_CodecTextBack.j0 a0 t7 t20 false) else none))
def armoirelaw01_CodecBack.j1 (b29 : Bool) : Option (Bool) :=
  some b29
def armoirelaw01_CodecBack.j0 (a0 : Int) (t20 : (Int × Int)) (b26 : Bool) : Option (Bool) :=
  (if b26 = true then armoirelaw01_CodecBack.j1 (decide (t20.1 = a0)) else armoirelaw01_CodecBack.j1 false)
def armoirelaw01_CodecBack.f (a0 : Int) (a1 : Int) (a2 : (List UInt8)) : Option (Bool) :=
  (armoirelaw01_numbers.f).bind fun t1 => (codec_Fixed.f a0 a1).bind fun t7 => (if t7.2 ≠ 0 then some t1 else (if t7.1.length + a2.length ≤ 140737488355328 then (codec_Number.f (t7.1 ++ a2) a1).bind fun t20 => (if t1 = true then armoirelaw01_CodecBack.j0 a0 t20 (decide (t20.2 = 0)) else armoirelaw01_CodecBack.j0 a0 t20 false) else none))
def armoirelaw01_CodecOrder.j2 (b33 : Bool) : Option (Bool) :=
  some b33
def armoirelaw01_CodecOrder.j1 (a0 : Int) (a1 : Int) (t7 : ((List UInt8) × Int)) (t16 : ((List UInt8) × Int)) (b30 : Bool) : Option (Bool) :=
  (if b30 = true then armoirelaw01_CodecOrder.j2 ((decide (a0 = a1)) == (decide (t7.1 = t16.1))) else armoirelaw01_CodecOrder.j2 false)
def armoirelaw01_CodecOrder.j0 (a0 : Int) (a1 : Int) (t1 : (Bool)) (t7 : ((List UInt8) × Int)) (t16 : ((List UInt8) × Int)) (b27 : Bool) : Option (Bool) :=
  (if b27 = true then some t1 else (if t1 = true then armoirelaw01_CodecOrder.j1 a0 a1 t7 t16 ((decide (a0 < a1)) == (Op.bytesLess t7.1 t16.1)) else armoirelaw01_CodecOrder.j1 a0 a1 t7 t16 false))
def armoirelaw01_CodecOrder.f (a0 : Int) (a1 : Int) (a2 : Int) : Option (Bool) :=
  (armoirelaw01_numbers.f).bind fun t1 => (codec_Fixed.f a0 a2).bind fun t7 => (codec_Fixed.f a1 a2).bind fun t16 => (if t7.2 ≠ 0 then armoirelaw01_CodecOrder.j0 a0 a1 t1 t7 t16 true else armoirelaw01_CodecOrder.j0 a0 a1 t1 t7 t16 (decide (t16.2 ≠ 0)))
def armoirelaw01_CodecCuts.j2 (b50 : Bool) : Option (Bool) :=
  some b50
def armoirelaw01_CodecCuts.j4 (b64 : Bool) : Option (Bool) :=
  some b64
def armoirelaw01_CodecCuts.j3 (t55 : (Str × Int × Int)) (b61 : Bool) : Option (Bool) :=
  (if b61 = true then armoirelaw01_CodecCuts.j4 (decide (t55.2.2 = 10)) else armoirelaw01_CodecCuts.j4 false)
def armoirelaw01_CodecCuts.j1 (a1 : Str) (b15 : Bool) (t16 : ((List UInt8) × Int)) (b27 : Bool) : Option (Bool) :=
  (if b27 = true then some false else (if 0 ≤ (7 : Int) ∧ (7 : Int) ≤ t16.1.length then (codec_Number.f (t16.1.take 7) 8).bind fun t30 => (codec_Text.f a1).bind fun t34 => (if t34.2 ≠ 0 then (if b15 = true then armoirelaw01_CodecCuts.j2 (decide (t30.2 = 10)) else armoirelaw01_CodecCuts.j2 false) else (if (t34.1.length : Int) = 0 then some false else (if 0 ≤ wi64 ((t34.1.length : Int) - 1) ∧ wi64 ((t34.1.length : Int) - 1) ≤ t34.1.length then (codec_ReadText.f (t34.1.take ((wi64 ((t34.1.length : Int) - 1)).toNat))).bind fun t55 => (if b15 = true then armoirelaw01_CodecCuts.j3 t55 (decide (t30.2 = 10)) else armoirelaw01_CodecCuts.j3 t55 false) else none))) else none))
def armoirelaw01_CodecCuts.j0 (a0 : Int) (a1 : Str) (b15 : Bool) : Option (Bool) :=
  (codec_Fixed.f a0 8).bind fun t16 => (if t16.2 ≠ 0 then armoirelaw01_CodecCuts.j1 a1 b15 t16 true else armoirelaw01_CodecCuts.j1 a1 b15 t16 (decide ((t16.1.length : Int) ≠ 8)))
def armoirelaw01_CodecCuts.f (a0 : Int) (a1 : Str) : Option (Bool) :=
  (armoirelaw01_numbers.f).bind fun t1 => (if t1 = true then (armoirelaw01_texts.f).bind fun t75 => armoirelaw01_CodecCuts.j0 a0 a1 t75 else armoirelaw01_CodecCuts.j0 a0 a1 false)
end Go.Proofs.Ytpmibpleijnpcaa
