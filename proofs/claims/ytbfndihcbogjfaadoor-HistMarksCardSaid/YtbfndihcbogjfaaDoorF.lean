/-
  The plain functions that the Go functions come to. Conditions: none.
-/
import Derived.Test.YtbfndihcbogjfaaDoorT
namespace Go.Proofs.YtbfndihcbogjfaaDoor
open Go Go.RowKit Go.Proofs.YtbfndihcbogjfaaDoor.Gx
def strconv_Itoa (x0 : Int) : Option (List UInt8) := if -9223372036854775808 ≤ x0 ∧ x0 ≤ 9223372036854775807 then some (Lib.itoa x0) else none
def strconv_FormatInt (x0 x1 : Int) : Option (List UInt8) := if x1 = 10 ∧ -9223372036854775808 ≤ x0 ∧ x0 ≤ 9223372036854775807 then some (Lib.itoa x0) else none
def hist_words (x0 : TEvent) : Option (List UInt8) := if x0.kind == 1 then some [99, 97, 108, 108] else if x0.kind == 2 then (strconv_Itoa x0.note.kind).bind fun t52 => (sapp [109, 97, 114, 107, 32] t52).bind fun z61 => (sapp z61 [32]).bind fun z66 => (strconv_FormatInt x0.note.value 10).bind fun t83 => (sapp z66 t83).bind fun z93 => some z93 else if x0.kind == 3 then (strconv_Itoa x0.value).bind fun t171 => (sapp [114, 101, 116, 117, 114, 110, 32] t171).bind fun z180 => (sapp z180 [32]).bind fun z185 => (strconv_Itoa x0.got).bind fun t199 => (sapp z185 t199).bind fun z209 => some z209 else if x0.kind == 4 then some [98, 114, 101, 97, 107] else some []


def hist_Text.l0 (x0 : List TEvent) : Nat → (List Int) → Int → Option (List Int)
  | 0, _, _ => none
  | k + 1, i25, i26 => if decide (i26 < (x0.length : Int)) then (ix x0 i26).bind fun y60 => (hist_words y60).bind fun t93 => if t93 != [] then (strconv_FormatInt y60.now 10).bind fun t133 => (sapp t133 [32, 116]).bind fun z142 => (strconv_Itoa y60.thread).bind fun t156 => (sapp z142 t156).bind fun z166 => (sapp z166 [32]).bind fun z171 => (sapp z171 t93).bind fun z181 => (sapp z181 [10]).bind fun z186 => (strings_Builder_WriteString (⟨i25⟩ : Tstrings_Builder) z186).bind fun t195 => hist_Text.l0 x0 k t195.2.2.buf (w64 (i26 + 1)) else hist_Text.l0 x0 k i25 (w64 (i26 + 1)) else some i25
def hist_Text (k : Nat) (x0 : List TEvent) : Option (List UInt8) := (hist_Text.l0 x0 k [] 0).bind fun o27 => (strings_Builder_String (⟨o27⟩ : Tstrings_Builder)).bind fun y393 => some y393
def hist_Order.l0 (x0 : List TEvent) (x1 : Int) : Nat → Int → (List Int) → Option (List Int)
  | 0, _, _ => none
  | k + 1, i17, i18 => if decide (i17 < (x0.length : Int)) then (ix x0 i17).bind fun y50 => if (y50.kind == 2) && (y50.note.kind == x1) then (app i18 [y50.thread]).bind fun z184 => hist_Order.l0 x0 x1 k (w64 (i17 + 1)) z184 else hist_Order.l0 x0 x1 k (w64 (i17 + 1)) i18 else some i18
def hist_Order (k : Nat) (x0 : List TEvent) (x1 : Int) : Option (List Int) := (hist_Order.l0 x0 x1 k 0 []).bind fun o19 => some o19
def hist_Marks (k : Nat) (x0 : List TEvent) (x1 : Int) : Option Int := (hist_Order k x0 x1).bind fun t13 => some (t13.length : Int)
def hist_Results.l0 (x0 : Int) (x1 : List TEvent) : Nat → Int → (List (List TResult)) → Option (List (List TResult))
  | 0, _, _ => none
  | k + 1, i76, i77 => if decide (i76 < (x1.length : Int)) then (ix x1 i76).bind fun y105 => if ((y105.kind == 3) && (decide (0 ≤ y105.thread))) && (decide (y105.thread < x0)) then (ix i77 y105.thread).bind fun y248 => (app y248 [(⟨y105.value, y105.got⟩ : TResult)]).bind fun z261 => hist_Results.l0 x0 x1 k (w64 (i76 + 1)) (i77.set y105.thread.toNat z261) else hist_Results.l0 x0 x1 k (w64 (i76 + 1)) i77 else some i77
def hist_Results (k : Nat) (x0 : Int) (x1 : List TEvent) : Option (List (List TResult)) := if (decide (x0 < 0)) || (decide (8 < x0)) then some [] else (mk x0 []).bind fun z53 => (hist_Results.l0 x0 x1 k 0 z53).bind fun o78 => some o78
def tholelaw20_up (k : Nat)  : Option Bool := (hist_Text k [(⟨2, 2, 7, (⟨1, 1⟩ : TNote), 0, 0⟩ : TEvent)]).bind fun t28 => (if t28 == [55, 32, 116, 50, 32, 109, 97, 114, 107, 32, 49, 32, 49, 10] then (hist_Marks k [(⟨2, 2, 7, (⟨1, 1⟩ : TNote), 0, 0⟩ : TEvent)] 1).bind fun t49 => some (t49 == 1) else some false).bind fun b43 => (if b43 then (hist_Results k 3 [(⟨2, 2, 7, (⟨1, 1⟩ : TNote), 0, 0⟩ : TEvent)]).bind fun t103 => some ((t103.length : Int) == 3) else some false).bind fun b95 => some b95
def tholelaw20_HistMarks.l1 (x0 : List TEvent) (i195 : Int) : Nat → Int → Bool → Option (Int × Bool)
  | 0, _, _ => none
  | k + 1, i306, i307 => if decide (i306 < i195) then (if i307 then (ix x0 i306).bind fun y394 => (if y394.kind != 2 then some true else (ix x0 i195).bind fun y460 => some (y394.note.kind != y460.note.kind)).bind fun b422 => some b422 else some false).bind fun b382 => tholelaw20_HistMarks.l1 x0 i195 k (w64 (i306 + 1)) b382 else some (i306, i307)
def tholelaw20_HistMarks.l0 (x0 : List TEvent) : Nat → Int → Int → Int → Option (Int × Int)
  | 0, _, _, _ => none
  | k + 1, i193, i194, i195 => if decide (i195 < (x0.length : Int)) then (ix x0 i195).bind fun y247 => if y247.kind != 2 then tholelaw20_HistMarks.l0 x0 k i193 i194 (w64 (i195 + 1)) else (tholelaw20_HistMarks.l1 x0 i195 k 0 true).bind fun o308 => if o308.2 then (ix x0 i195).bind fun y756 => (hist_Marks k x0 y756.note.kind).bind fun t778 => tholelaw20_HistMarks.l0 x0 k (w64 (i193 + 1)) (w64 (i194 + t778)) (w64 (i195 + 1)) else tholelaw20_HistMarks.l0 x0 k (w64 (i193 + 1)) i194 (w64 (i195 + 1)) else some (i193, i194)
def tholelaw20_HistMarks (k : Nat) (x0 : List TEvent) (x1 : Int) : Option Bool := (tholelaw20_up k).bind fun t4 => (if decide (500 < (x0.length : Int)) then some true else (hist_Marks k x0 x1).bind fun t41 => (hist_Order k x0 x1).bind fun t63 => some (t41 != (t63.length : Int))).bind fun b30 => if b30 then some (t4 && (decide (500 < (x0.length : Int)))) else (tholelaw20_HistMarks.l0 x0 k 0 0 0).bind fun o196 => some (t4 && (o196.2 == o196.1))
end Go.Proofs.YtbfndihcbogjfaaDoor
