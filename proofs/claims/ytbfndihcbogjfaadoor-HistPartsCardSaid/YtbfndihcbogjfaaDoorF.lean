/-
  The plain functions that the Go functions come to. Conditions: none.
-/
import Derived.Test.YtbfndihcbogjfaaDoorT
namespace Go.Proofs.YtbfndihcbogjfaaDoor
open Go Go.RowKit Go.Proofs.YtbfndihcbogjfaaDoor.Gx
def strconv_Itoa (x0 : Int) : Option (List UInt8) := if -9223372036854775808 ≤ x0 ∧ x0 ≤ 9223372036854775807 then some (Lib.itoa x0) else none
def strconv_FormatInt (x0 x1 : Int) : Option (List UInt8) := if x1 = 10 ∧ -9223372036854775808 ≤ x0 ∧ x0 ≤ 9223372036854775807 then some (Lib.itoa x0) else none
def hist_words (x0 : TEvent) : Option (List UInt8) := if x0.kind == 1 then some [99, 97, 108, 108] else if x0.kind == 2 then (strconv_Itoa x0.note.kind).bind fun t52 => (sapp [109, 97, 114, 107, 32] t52).bind fun z61 => (sapp z61 [32]).bind fun z66 => (strconv_FormatInt x0.note.value 10).bind fun t83 => (sapp z66 t83).bind fun z93 => some z93 else if x0.kind == 3 then (strconv_Itoa x0.value).bind fun t171 => (sapp [114, 101, 116, 117, 114, 110, 32] t171).bind fun z180 => (sapp z180 [32]).bind fun z185 => (strconv_Itoa x0.got).bind fun t199 => (sapp z185 t199).bind fun z209 => some z209 else if x0.kind == 4 then some [98, 114, 101, 97, 107] else some []


def hist_Text.l0 (x0 : List TEvent) : Nat → (List Int) → Int → Option (List Int)
  | 0, _, _ => none
  | k + 1, i25, i26 => if decide (i26 < (x0.length : Int)) then (ix x0 i26).bind fun y60 => (hist_words y60).bind fun t93 => if t93 != [] then (strconv_FormatInt y60.now 10).bind fun t133 => (sapp t133 [32, 116]).bind fun z142 => (strconv_Itoa y60.thread).bind fun t156 => (sapp z142 t156).bind fun z166 => (sapp z166 [32]).bind fun z171 => (sapp z171 t93).bind fun z181 => (sapp z181 [10]).bind fun z186 => (strings_Builder_WriteString (⟨i25⟩ : Tstrings_Builder) z186).bind fun t195 => hist_Text.l0 x0 k t195.2.2.buf (w64 (i26 + 1)) else hist_Text.l0 x0 k i25 (w64 (i26 + 1)) else some i25
def hist_Text (k : Nat) (x0 : List TEvent) : Option (List UInt8) := (hist_Text.l0 x0 k [] 0).bind fun o27 => (strings_Builder_String (⟨o27⟩ : Tstrings_Builder)).bind fun y393 => some y393
def hist_Order.l0 (x0 : List TEvent) (x1 : Int) : Nat → Int → (List Int) → Option (List Int)
  | 0, _, _ => none
  | k + 1, i17, i18 => if decide (i17 < (x0.length : Int)) then (ix x0 i17).bind fun y50 => if (y50.kind == 2) && (y50.note.kind == x1) then (app i18 [y50.thread]).bind fun z184 => hist_Order.l0 x0 x1 k (w64 (i17 + 1)) z184 else hist_Order.l0 x0 x1 k (w64 (i17 + 1)) i18 else some i18
def hist_Order (k : Nat) (x0 : List TEvent) (x1 : Int) : Option (List Int) := (hist_Order.l0 x0 x1 k 0 []).bind fun o19 => some o19
def hist_Marks (k : Nat) (x0 : List TEvent) (x1 : Int) : Option Int := (hist_Order k x0 x1).bind fun t13 => some (t13.length : Int)
def hist_Results.l0 (x0 : Int) (x1 : List TEvent) : Nat → Int → (List (List TResult)) → Option (List (List TResult))
  | 0, _, _ => none
  | k + 1, i76, i77 => if decide (i76 < (x1.length : Int)) then (ix x1 i76).bind fun y105 => if ((y105.kind == 3) && (decide (0 ≤ y105.thread))) && (decide (y105.thread < x0)) then (ix i77 y105.thread).bind fun y248 => (app y248 [(⟨y105.value, y105.got⟩ : TResult)]).bind fun z261 => hist_Results.l0 x0 x1 k (w64 (i76 + 1)) (i77.set y105.thread.toNat z261) else hist_Results.l0 x0 x1 k (w64 (i76 + 1)) i77 else some i77
def hist_Results (k : Nat) (x0 : Int) (x1 : List TEvent) : Option (List (List TResult)) := if (decide (x0 < 0)) || (decide (8 < x0)) then some [] else (mk x0 []).bind fun z53 => (hist_Results.l0 x0 x1 k 0 z53).bind fun o78 => some o78
def tholelaw20_up (k : Nat)  : Option Bool := (hist_Text k [(⟨2, 2, 7, (⟨1, 1⟩ : TNote), 0, 0⟩ : TEvent)]).bind fun t28 => (if t28 == [55, 32, 116, 50, 32, 109, 97, 114, 107, 32, 49, 32, 49, 10] then (hist_Marks k [(⟨2, 2, 7, (⟨1, 1⟩ : TNote), 0, 0⟩ : TEvent)] 1).bind fun t49 => some (t49 == 1) else some false).bind fun b43 => (if b43 then (hist_Results k 3 [(⟨2, 2, 7, (⟨1, 1⟩ : TNote), 0, 0⟩ : TEvent)]).bind fun t103 => some ((t103.length : Int) == 3) else some false).bind fun b95 => some b95
def tholeref20_Same.l0 (x0 : List TResult) (x1 : List TResult) : Nat → Int → Option (Lp Bool Unit)
  | 0, _ => none
  | k + 1, i33 => if decide (i33 < (x0.length : Int)) then (ix x0 i33).bind fun y83 => (ix x1 i33).bind fun y108 => if !(y83.eqb y108) then some (.ret false) else tholeref20_Same.l0 x0 x1 k (w64 (i33 + 1)) else some (.go ())
def tholeref20_Same (k : Nat) (x0 : List TResult) (x1 : List TResult) : Option Bool := if (x0.length : Int) != (x1.length : Int) then some false else (tholeref20_Same.l0 x0 x1 k 0).bind fun o34 => Lp.k o34 fun g36 => some true
def tholeref20_Ints.l0 (x0 : List Int) (x1 : List Int) : Nat → Int → Option (Lp Bool Unit)
  | 0, _ => none
  | k + 1, i33 => if decide (i33 < (x0.length : Int)) then (ix x0 i33).bind fun y83 => (ix x1 i33).bind fun y108 => if y83 != y108 then some (.ret false) else tholeref20_Ints.l0 x0 x1 k (w64 (i33 + 1)) else some (.go ())
def tholeref20_Ints (k : Nat) (x0 : List Int) (x1 : List Int) : Option Bool := if (x0.length : Int) != (x1.length : Int) then some false else (tholeref20_Ints.l0 x0 x1 k 0).bind fun o34 => Lp.k o34 fun g36 => some true
def tholelaw20_HistParts.l0 (x0 : List TEvent) (z115 : List TEvent) : Nat → Int → Option (Lp Bool Unit)
  | 0, _ => none
  | k + 1, i192 => if decide (i192 < (x0.length : Int)) then (ix z115 i192).bind fun y266 => (ix x0 i192).bind fun y291 => if !(y266.eqb y291) then some (.ret false) else tholelaw20_HistParts.l0 x0 z115 k (w64 (i192 + 1)) else some (.go ())
def tholelaw20_HistParts.l1 (t138 : (List (List TResult))) (t156 : (List (List TResult))) (t176 : (List (List TResult))) : Nat → Int → Option (Lp Bool Unit)
  | 0, _ => none
  | k + 1, i473 => if decide (i473 < 8) then (ix t176 i473).bind fun y525 => (ix t138 i473).bind fun y562 => (app [] y562).bind fun z580 => (ix t156 i473).bind fun y604 => (app z580 y604).bind fun z622 => (tholeref20_Same k y525 z622).bind fun t639 => if !t639 then some (.ret false) else tholelaw20_HistParts.l1 t138 t156 t176 k (w64 (i473 + 1)) else some (.go ())
def tholelaw20_HistParts (k : Nat) (x0 : List TEvent) (x1 : List TEvent) (x2 : Int) : Option Bool := (tholelaw20_up k).bind fun t4 => if (decide (3000 < (x0.length : Int))) || (decide (3000 < (x1.length : Int))) then some t4 else (app [] x0).bind fun z95 => (app z95 x1).bind fun z115 => (hist_Results k 8 x0).bind fun t138 => (hist_Results k 8 x1).bind fun t156 => (hist_Results k 8 z115).bind fun t176 => (tholelaw20_HistParts.l0 x0 z115 k 0).bind fun o193 => Lp.k o193 fun g195 => if (((t138.length : Int) != 8) || ((t156.length : Int) != 8)) || ((t176.length : Int) != 8) then some false else (tholelaw20_HistParts.l1 t138 t156 t176 k 0).bind fun o474 => Lp.k o474 fun g476 => (hist_Order k x0 x2).bind fun t922 => (app [] t922).bind fun z933 => (hist_Order k x1 x2).bind fun t958 => (app z933 t958).bind fun z969 => (if t4 then (hist_Text k z115).bind fun t1001 => (hist_Text k x0).bind fun t1018 => (hist_Text k x1).bind fun t1035 => (sapp t1018 t1035).bind fun z1046 => some (t1001 == z1046) else some false).bind fun b994 => (if b994 then (hist_Marks k z115 x2).bind fun t1121 => (hist_Marks k x0 x2).bind fun t1143 => (hist_Marks k x1 x2).bind fun t1165 => some (t1121 == (w64 (t1143 + t1165))) else some false).bind fun b1109 => (if b1109 then (hist_Order k z115 x2).bind fun t1261 => (tholeref20_Ints k t1261 z969).bind fun t1279 => some t1279 else some false).bind fun b1249 => some b1249
end Go.Proofs.YtbfndihcbogjfaaDoor
