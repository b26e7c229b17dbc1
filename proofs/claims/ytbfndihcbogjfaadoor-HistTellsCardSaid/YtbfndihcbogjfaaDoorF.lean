/-
  The plain functions that the Go functions come to. Conditions: none.
-/
import Derived.Test.YtbfndihcbogjfaaDoorT
namespace Go.Proofs.YtbfndihcbogjfaaDoor
open Go Go.RowKit Go.Proofs.YtbfndihcbogjfaaDoor.Gx
def strconv_Itoa (x0 : Int) : Option (List UInt8) := if -9223372036854775808 ≤ x0 ∧ x0 ≤ 9223372036854775807 then some (Lib.itoa x0) else none
def strconv_FormatInt (x0 x1 : Int) : Option (List UInt8) := if x1 = 10 ∧ -9223372036854775808 ≤ x0 ∧ x0 ≤ 9223372036854775807 then some (Lib.itoa x0) else none
def hist_words (x0 : TEvent) : Option (List UInt8) := if x0.kind == 1 then some [99, 97, 108, 108] else if x0.kind == 2 then (strconv_Itoa x0.note.kind).bind fun t52 => (sapp [109, 97, 114, 107, 32] t52).bind fun z61 => (sapp z61 [32]).bind fun z66 => (strconv_FormatInt x0.note.value 10).bind fun t83 => (sapp z66 t83).bind fun z93 => some z93 else if x0.kind == 3 then (strconv_Itoa x0.value).bind fun t171 => (sapp [114, 101, 116, 117, 114, 110, 32] t171).bind fun z180 => (sapp z180 [32]).bind fun z185 => (strconv_Itoa x0.got).bind fun t199 => (sapp z185 t199).bind fun z209 => some z209 else if x0.kind == 4 then some [98, 114, 101, 97, 107] else some []


def hist_Text.l0 (x0 : List TEvent) : Nat → (List Int) → Int → Option (List Int)
  | 0, _, _ => none
  | k + 1, i25, i26 => if decide (i26 < (x0.length : Int)) then (ix x0 i26).bind fun y60 => (hist_words y60).bind fun t93 => if t93 != [] then (strconv_FormatInt y60.now 10).bind fun t133 => (sapp t133 [32, 116]).bind fun z142 => (strconv_Itoa y60.thread).bind fun t156 => (sapp z142 t156).bind fun z166 => (sapp z166 [32]).bind fun z171 => (sapp z171 t93).bind fun z181 => (sapp z181 [10]).bind fun z186 => (strings_Builder_WriteString (⟨i25⟩ : Tstrings_Builder) z186).bind fun t195 => hist_Text.l0 x0 k t195.2.2.buf (w64 (i26 + 1)) else hist_Text.l0 x0 k i25 (w64 (i26 + 1)) else some i25
def hist_Text (k : Nat) (x0 : List TEvent) : Option (List UInt8) := (hist_Text.l0 x0 k [] 0).bind fun o27 => (strings_Builder_String (⟨o27⟩ : Tstrings_Builder)).bind fun y393 => some y393
def hist_Order.l0 (x0 : List TEvent) (x1 : Int) : Nat → Int → (List Int) → Option (List Int)
  | 0, _, _ => none
  | k + 1, i17, i18 => if decide (i17 < (x0.length : Int)) then (ix x0 i17).bind fun y50 => if (y50.kind == 2) && (y50.note.kind == x1) then (app i18 [y50.thread]).bind fun z184 => hist_Order.l0 x0 x1 k (w64 (i17 + 1)) z184 else hist_Order.l0 x0 x1 k (w64 (i17 + 1)) i18 else some i18
def hist_Order (k : Nat) (x0 : List TEvent) (x1 : Int) : Option (List Int) := (hist_Order.l0 x0 x1 k 0 []).bind fun o19 => some o19
def hist_Marks (k : Nat) (x0 : List TEvent) (x1 : Int) : Option Int := (hist_Order k x0 x1).bind fun t13 => some (t13.length : Int)
def hist_Results.l0 (x0 : Int) (x1 : List TEvent) : Nat → Int → (List (List TResult)) → Option (List (List TResult))
  | 0, _, _ => none
  | k + 1, i76, i77 => if decide (i76 < (x1.length : Int)) then (ix x1 i76).bind fun y105 => if ((y105.kind == 3) && (decide (0 ≤ y105.thread))) && (decide (y105.thread < x0)) then (ix i77 y105.thread).bind fun y248 => (app y248 [(⟨y105.value, y105.got⟩ : TResult)]).bind fun z261 => hist_Results.l0 x0 x1 k (w64 (i76 + 1)) (i77.set y105.thread.toNat z261) else hist_Results.l0 x0 x1 k (w64 (i76 + 1)) i77 else some i77
def hist_Results (k : Nat) (x0 : Int) (x1 : List TEvent) : Option (List (List TResult)) := if (decide (x0 < 0)) || (decide (8 < x0)) then some [] else (mk x0 []).bind fun z53 => (hist_Results.l0 x0 x1 k 0 z53).bind fun o78 => some o78
def tholelaw20_up (k : Nat)  : Option Bool := (hist_Text k [(⟨2, 2, 7, (⟨1, 1⟩ : TNote), 0, 0⟩ : TEvent)]).bind fun t28 => (if t28 == [55, 32, 116, 50, 32, 109, 97, 114, 107, 32, 49, 32, 49, 10] then (hist_Marks k [(⟨2, 2, 7, (⟨1, 1⟩ : TNote), 0, 0⟩ : TEvent)] 1).bind fun t49 => some (t49 == 1) else some false).bind fun b43 => (if b43 then (hist_Results k 3 [(⟨2, 2, 7, (⟨1, 1⟩ : TNote), 0, 0⟩ : TEvent)]).bind fun t103 => some ((t103.length : Int) == 3) else some false).bind fun b95 => some b95
def tholeref20_Order.l0 (x0 : List TEvent) (x1 : Int) : Nat → (List Int) → Int → Option (List Int)
  | 0, _, _ => none
  | k + 1, i10, i11 => if decide (i11 < (x0.length : Int)) then (ix x0 i11).bind fun y63 => if (y63.kind == 2) && (y63.note.kind == x1) then (app i10 [y63.thread]).bind fun z213 => tholeref20_Order.l0 x0 x1 k z213 (w64 (i11 + 1)) else tholeref20_Order.l0 x0 x1 k i10 (w64 (i11 + 1)) else some i10
def tholeref20_Order (k : Nat) (x0 : List TEvent) (x1 : Int) : Option (List Int) := (tholeref20_Order.l0 x0 x1 k [] 0).bind fun o12 => some o12
def tholeref20_Ints.l0 (x0 : List Int) (x1 : List Int) : Nat → Int → Option (Lp Bool Unit)
  | 0, _ => none
  | k + 1, i33 => if decide (i33 < (x0.length : Int)) then (ix x0 i33).bind fun y83 => (ix x1 i33).bind fun y108 => if y83 != y108 then some (.ret false) else tholeref20_Ints.l0 x0 x1 k (w64 (i33 + 1)) else some (.go ())
def tholeref20_Ints (k : Nat) (x0 : List Int) (x1 : List Int) : Option Bool := if (x0.length : Int) != (x1.length : Int) then some false else (tholeref20_Ints.l0 x0 x1 k 0).bind fun o34 => Lp.k o34 fun g36 => some true
def tholeref07_Digits : Nat → Int → Option (List UInt8)
  | 0, _ => none
  | k + 1, x0 => if decide (x0 < 0) then (tholeref07_Digits k (w64 (0 - x0))).bind fun t21 => (sapp [45] t21).bind fun z30 => some z30 else if decide (x0 < 10) then some (bstr [IntKind.u8.wrap (w64 (48 + x0))]) else (tholeref07_Digits k (w64 (x0.tdiv 10))).bind fun t79 => (sapp t79 (bstr [IntKind.u8.wrap (w64 (48 + (x0.tmod 10)))])).bind fun z116 => some z116
def tholeref20_number (k : Nat) (x0 : Int) : Option (List UInt8) := if x0 == (-9223372036854775808) then some [45, 57, 50, 50, 51, 51, 55, 50, 48, 51, 54, 56, 53, 52, 55, 55, 53, 56, 48, 56] else (tholeref07_Digits k x0).bind fun t21 => some t21
def tholeref20_Text.l0 (x0 : List TEvent) : Nat → (List UInt8) → Int → Option (List UInt8)
  | 0, _, _ => none
  | k + 1, i10, i11 => if decide (i11 < (x0.length : Int)) then (ix x0 i11).bind fun y56 => (tholeref20_number k y56.now).bind fun t92 => (sapp t92 [32, 116]).bind fun z101 => (tholeref20_number k y56.thread).bind fun t114 => (sapp z101 t114).bind fun z124 => (sapp z124 [32]).bind fun z129 => if y56.kind == 1 then (sapp i10 z129).bind fun z263 => (sapp z263 [99, 97, 108, 108, 10]).bind fun z268 => tholeref20_Text.l0 x0 k z268 (w64 (i11 + 1)) else if y56.kind == 2 then (sapp i10 z129).bind fun z307 => (sapp z307 [109, 97, 114, 107, 32]).bind fun z312 => (tholeref20_number k y56.note.kind).bind fun t327 => (sapp z312 t327).bind fun z337 => (sapp z337 [32]).bind fun z342 => (tholeref20_number k y56.note.value).bind fun t358 => (sapp z342 t358).bind fun z368 => (sapp z368 [10]).bind fun z373 => tholeref20_Text.l0 x0 k z373 (w64 (i11 + 1)) else if y56.kind == 3 then (sapp i10 z129).bind fun z596 => (sapp z596 [114, 101, 116, 117, 114, 110, 32]).bind fun z601 => (tholeref20_number k y56.value).bind fun t613 => (sapp z601 t613).bind fun z623 => (sapp z623 [32]).bind fun z628 => (tholeref20_number k y56.got).bind fun t641 => (sapp z628 t641).bind fun z651 => (sapp z651 [10]).bind fun z656 => tholeref20_Text.l0 x0 k z656 (w64 (i11 + 1)) else if y56.kind == 4 then (sapp i10 z129).bind fun z866 => (sapp z866 [98, 114, 101, 97, 107, 10]).bind fun z871 => tholeref20_Text.l0 x0 k z871 (w64 (i11 + 1)) else tholeref20_Text.l0 x0 k i10 (w64 (i11 + 1)) else some i10
def tholeref20_Text (k : Nat) (x0 : List TEvent) : Option (List UInt8) := (tholeref20_Text.l0 x0 k [] 0).bind fun o12 => some o12
def tholeref20_Results.l0 (x0 : Int) (x1 : List TEvent) : Nat → (List TResult) → Int → Option (List TResult)
  | 0, _, _ => none
  | k + 1, i10, i11 => if decide (i11 < (x1.length : Int)) then (ix x1 i11).bind fun y63 => if (y63.kind == 3) && (y63.thread == x0) then (app i10 [(⟨y63.value, y63.got⟩ : TResult)]).bind fun z227 => tholeref20_Results.l0 x0 x1 k z227 (w64 (i11 + 1)) else tholeref20_Results.l0 x0 x1 k i10 (w64 (i11 + 1)) else some i10
def tholeref20_Results (k : Nat) (x0 : Int) (x1 : List TEvent) : Option (List TResult) := (tholeref20_Results.l0 x0 x1 k [] 0).bind fun o12 => some o12
def tholeref20_Same.l0 (x0 : List TResult) (x1 : List TResult) : Nat → Int → Option (Lp Bool Unit)
  | 0, _ => none
  | k + 1, i33 => if decide (i33 < (x0.length : Int)) then (ix x0 i33).bind fun y83 => (ix x1 i33).bind fun y108 => if !(y83.eqb y108) then some (.ret false) else tholeref20_Same.l0 x0 x1 k (w64 (i33 + 1)) else some (.go ())
def tholeref20_Same (k : Nat) (x0 : List TResult) (x1 : List TResult) : Option Bool := if (x0.length : Int) != (x1.length : Int) then some false else (tholeref20_Same.l0 x0 x1 k 0).bind fun o34 => Lp.k o34 fun g36 => some true
def tholelaw20_HistTells.l0 (x0 : Int) (x1 : List TEvent) (t47 : (List (List TResult))) : Nat → Int → Option (Lp Bool Unit)
  | 0, _ => none
  | k + 1, i410 => if decide (i410 < x0) then (ix t47 i410).bind fun y463 => (tholeref20_Results k i410 x1).bind fun t489 => (tholeref20_Same k y463 t489).bind fun t501 => if !t501 then some (.ret false) else tholelaw20_HistTells.l0 x0 x1 t47 k (w64 (i410 + 1)) else some (.go ())
def tholelaw20_HistTells (k : Nat) (x0 : Int) (x1 : List TEvent) (x2 : Int) : Option Bool := (tholelaw20_up k).bind fun t4 => if decide (3000 < (x1.length : Int)) then some t4 else (hist_Results k x0 x1).bind fun t47 => if (decide (x0 < 0)) || (decide (8 < x0)) then if (t47.length : Int) != 0 then some false else (tholeref20_Order k x1 x2).bind fun t128 => (if t4 then (hist_Order k x1 x2).bind fun t160 => (tholeref20_Ints k t160 t128).bind fun t178 => some t178 else some false).bind fun b148 => (if b148 then (hist_Marks k x1 x2).bind fun t240 => some (t240 == (t128.length : Int)) else some false).bind fun b228 => (if b228 then (hist_Text k x1).bind fun t316 => (tholeref20_Text k x1).bind fun t332 => some (t316 == t332) else some false).bind fun b309 => some b309 else if (t47.length : Int) != x0 then some false else (tholelaw20_HistTells.l0 x0 x1 t47 k 0).bind fun o411 => Lp.k o411 fun g413 => (tholeref20_Order k x1 x2).bind fun t656 => (if t4 then (hist_Order k x1 x2).bind fun t688 => (tholeref20_Ints k t688 t656).bind fun t706 => some t706 else some false).bind fun b676 => (if b676 then (hist_Marks k x1 x2).bind fun t768 => some (t768 == (t656.length : Int)) else some false).bind fun b756 => (if b756 then (hist_Text k x1).bind fun t844 => (tholeref20_Text k x1).bind fun t860 => some (t844 == t860) else some false).bind fun b837 => some b837
end Go.Proofs.YtbfndihcbogjfaaDoor
