/-
  Plain lemmas on a history's text: what the program and the reference say. Conditions: as said.
-/
import Derived.Test.YtbfndihcbogjfaaDoorPH
namespace Go.Proofs.YtbfndihcbogjfaaDoor
open Go Go.RowKit Gx

theorem bstr_nums (s : List UInt8) : bstr (nums s) = s := by
  induction s with
  | nil => rfl
  | cons a s ih => simp only [bstr, nums, List.map_cons, List.map_map] at ih ⊢; rw [ih]; simp
theorem string_nums (s : List UInt8) : strings_Builder_String (⟨nums s⟩ : Tstrings_Builder) = some s := by
  rw [strings_Builder_String]
  show (if nums (bstr (nums s)) = nums s then some (bstr (nums s)) else none) = some s
  rw [bstr_nums, if_pos rfl]
theorem sapp_ok {x y : List UInt8} (h : x.length + y.length ≤ 1000000000) : sapp x y = some (x ++ y) := if_pos (by simp only [lim]; omega)
theorem itoa_eq {x : Int} (h : wfI .i64 x) : strconv_Itoa x = some (Lib.itoa x) := if_pos (wfI64 h)
theorem format_eq {x : Int} (h : wfI .i64 x) : strconv_FormatInt x 10 = some (Lib.itoa x) := if_pos ⟨rfl, wfI64 h⟩
theorem dec_len : ∀ (k u : Nat), u < 10 ^ (k + 1) → (Lib.decDigits u).length ≤ k + 1 := by
  intro k
  induction k with
  | zero => intro u h; rw [Lib.decDigits, dif_pos (by omega)]; simp
  | succ k ih =>
    intro u h
    rw [Lib.decDigits]
    by_cases hu : u < 10
    · rw [dif_pos hu]; simp
    · rw [dif_neg hu]
      have := ih (u / 10) (by rw [Nat.pow_succ] at h; omega)
      simp; omega
theorem itoa_len {x : Int} (h : wfI .i64 x) : (Lib.itoa x).length ≤ 21 := by
  have hx := wfI64 h
  have e : (10 : Nat) ^ (19 + 1) = 100000000000000000000 := by decide
  unfold Lib.itoa
  by_cases hn : x < 0
  · rw [if_pos hn]
    have := dec_len 19 x.natAbs (by omega)
    simp; omega
  · rw [if_neg hn]
    have := dec_len 19 x.toNat (by omega)
    omega
def wd (e : TEvent) : List UInt8 := if e.kind = 1 then [99, 97, 108, 108] else if e.kind = 2 then [109, 97, 114, 107, 32] ++ Lib.itoa e.note.kind ++ [32] ++ Lib.itoa e.note.value else if e.kind = 3 then [114, 101, 116, 117, 114, 110, 32] ++ Lib.itoa e.value ++ [32] ++ Lib.itoa e.got else if e.kind = 4 then [98, 114, 101, 97, 107] else []
theorem wd_len {e : TEvent} (h : e.wf) : (wd e).length ≤ 50 := by
  obtain ⟨_, _, _, ⟨h1, h2⟩, h3, h4⟩ := h
  have := itoa_len h1; have := itoa_len h2; have := itoa_len h3; have := itoa_len h4
  unfold wd
  by_cases k1 : e.kind = 1
  · rw [if_pos k1]; simp
  rw [if_neg k1]
  by_cases k2 : e.kind = 2
  · rw [if_pos k2]; simp; omega
  rw [if_neg k2]
  by_cases k3 : e.kind = 3
  · rw [if_pos k3]; simp; omega
  rw [if_neg k3]
  by_cases k4 : e.kind = 4
  · rw [if_pos k4]; simp
  rw [if_neg k4]; simp
theorem words_eq {e : TEvent} (h : e.wf) : hist_words e = some (wd e) := by
  obtain ⟨_, _, _, ⟨h1, h2⟩, h3, h4⟩ := h
  have := itoa_len h1; have := itoa_len h2; have := itoa_len h3; have := itoa_len h4
  unfold hist_words wd
  rw [itoa_eq h1, itoa_eq h3, itoa_eq h4, format_eq h2]
  by_cases k1 : e.kind = 1
  · rw [if_pos (by simpa using k1), if_pos k1]
  rw [if_neg (by simpa using k1), if_neg k1]
  by_cases k2 : e.kind = 2
  · rw [if_pos (by simpa using k2), if_pos k2]
    simp only [Option.bind_some]
    rw [sapp_ok (by simp; omega)]
    simp only [Option.bind_some]
    rw [sapp_ok (by simp; omega)]
    simp only [Option.bind_some]
    rw [sapp_ok (by simp; omega)]
    simp only [Option.bind_some]
  rw [if_neg (by simpa using k2), if_neg k2]
  by_cases k3 : e.kind = 3
  · rw [if_pos (by simpa using k3), if_pos k3]
    simp only [Option.bind_some]
    rw [sapp_ok (by simp; omega)]
    simp only [Option.bind_some]
    rw [sapp_ok (by simp; omega)]
    simp only [Option.bind_some]
    rw [sapp_ok (by simp; omega)]
    simp only [Option.bind_some]
  rw [if_neg (by simpa using k3), if_neg k3]
  by_cases k4 : e.kind = 4
  · rw [if_pos (by simpa using k4), if_pos k4]
  rw [if_neg (by simpa using k4), if_neg k4]
def line (e : TEvent) : List UInt8 := if wd e = [] then [] else Lib.itoa e.now ++ [32, 116] ++ Lib.itoa e.thread ++ [32] ++ wd e ++ [10]
theorem line_len {e : TEvent} (h : e.wf) : (line e).length ≤ 200 := by
  have := wd_len h
  obtain ⟨_, h1, h2, _⟩ := h
  have := itoa_len h1; have := itoa_len h2
  unfold line
  by_cases hw : wd e = []
  · rw [if_pos hw]; simp
  · rw [if_neg hw]; simp; omega
def txt (l : List TEvent) : List UInt8 := l.flatMap line
theorem txt_app (a b : List TEvent) : txt (a ++ b) = txt a ++ txt b := by simp [txt]
theorem txt_len (l : List TEvent) (hw : ∀ e ∈ l, TEvent.wf e) : (txt l).length ≤ 200 * l.length := by
  induction l with
  | nil => exact Nat.le_refl _
  | cons e l ih =>
    have h1 := line_len (hw e (by simp))
    have h2 := ih fun x hx => hw x (by simp [hx])
    have ht : txt (e :: l) = line e ++ txt l := rfl
    rw [ht]
    simp; omega
theorem nums_app (a b : List UInt8) : nums (a ++ b) = nums a ++ nums b := by simp [nums]
theorem text_l0 (l : List TEvent) (hl : l.length ≤ 10000) (hw : ∀ e ∈ l, TEvent.wf e) : ∀ (suf pre : List TEvent) (k : Nat) (acc : List UInt8), l = pre ++ suf → suf.length < k → acc.length ≤ 200 * pre.length → hist_Text.l0 l k (nums acc) (pre.length : Int) = some (nums (acc ++ txt suf)) := by
  intro suf
  induction suf with
  | nil =>
    intro pre k acc h hk ha
    obtain ⟨k, rfl⟩ : ∃ k', k = k' + 1 := ⟨k - 1, by omega⟩
    rw [hist_Text.l0, if_neg (nlt_ h)]
    simp [txt]
  | cons e suf ih =>
    intro pre k acc h hk ha
    obtain ⟨k, rfl⟩ : ∃ k', k = k' + 1 := ⟨k - 1, by omega⟩
    simp only [List.length_cons] at hk
    have hp : pre.length ≤ l.length := by rw [h]; simp
    have he : e.wf := hw e (by rw [h]; simp)
    have ht : txt (e :: suf) = line e ++ txt suf := rfl
    rw [hist_Text.l0, if_pos (lt_ h), at_ h, nx_ h (by omega)]
    simp only [Option.bind_some]
    rw [words_eq he]
    simp only [Option.bind_some]
    have hd := wd_len he
    have hli := line_len he
    obtain ⟨_, h1, h2, _⟩ := he
    have l1 := itoa_len h1
    have l2 := itoa_len h2
    by_cases hz : wd e = []
    · rw [if_neg (by simp [hz]), ih (pre ++ [e]) k acc (sh_ h) (by omega) (by simp; omega), ht]
      simp [line, hz]
    · rw [if_pos (by simp [hz]), itoa_eq h1, format_eq h2]
      simp only [Option.bind_some]
      rw [sapp_ok (by simp; omega)]
      simp only [Option.bind_some]
      rw [sapp_ok (by simp; omega)]
      simp only [Option.bind_some]
      rw [sapp_ok (by simp; omega)]
      simp only [Option.bind_some]
      rw [sapp_ok (by simp; omega)]
      simp only [Option.bind_some]
      rw [sapp_ok (by simp; omega)]
      simp only [Option.bind_some]
      have hle : Lib.itoa e.now ++ [32, 116] ++ Lib.itoa e.thread ++ [32] ++ wd e ++ [10] = line e := by simp [line, hz]
      rw [hle, strings_Builder_WriteString]
      rw [show appb (nums acc) (line e) = some (nums acc ++ nums (line e)) from if_pos (by simp [lim, nums]; omega)]
      simp only [Option.bind_some]
      rw [← nums_app, ih (pre ++ [e]) k (acc ++ line e) (sh_ h) (by omega) (by simp; omega), ht]
      simp
theorem text_eq (l : List TEvent) (hl : l.length ≤ 10000) (hw : ∀ e ∈ l, TEvent.wf e) {k : Nat} (hk : l.length < k) : hist_Text k l = some (txt l) := by
  have := text_l0 l hl hw l [] k [] rfl hk (Nat.le_refl _)
  rw [show ((([] : List TEvent).length : Nat) : Int) = 0 from rfl, show nums [] = [] from rfl] at this
  rw [hist_Text, this]
  simp only [Option.bind_some, List.nil_append]
  rw [string_nums]
  rfl
/-! What is the same -/
theorem ints_l0 (l : List Int) (hl : l.length ≤ 1000000) : ∀ (suf pre : List Int) (k : Nat), l = pre ++ suf → suf.length < k → tholeref20_Ints.l0 l l k (pre.length : Int) = some (.go ()) := by
  intro suf
  induction suf with
  | nil =>
    intro pre k h hk
    obtain ⟨k, rfl⟩ : ∃ k', k = k' + 1 := ⟨k - 1, by omega⟩
    rw [tholeref20_Ints.l0, if_neg (nlt_ h)]
  | cons e suf ih =>
    intro pre k h hk
    obtain ⟨k, rfl⟩ : ∃ k', k = k' + 1 := ⟨k - 1, by omega⟩
    simp only [List.length_cons] at hk
    rw [tholeref20_Ints.l0, if_pos (lt_ h), at_ h, nx_ h hl]
    simp only [Option.bind_some]
    rw [if_neg (by simp), ih (pre ++ [e]) k (sh_ h) (by omega)]
theorem ints_refl (l : List Int) (hl : l.length ≤ 1000000) {k : Nat} (hk : l.length < k) : tholeref20_Ints k l l = some true := by
  have := ints_l0 l hl l [] k rfl hk
  rw [show ((([] : List Int).length : Nat) : Int) = 0 from rfl] at this
  rw [tholeref20_Ints, if_neg (by simp), this]
  rfl
theorem same_l0 (l : List TResult) (hl : l.length ≤ 1000000) : ∀ (suf pre : List TResult) (k : Nat), l = pre ++ suf → suf.length < k → tholeref20_Same.l0 l l k (pre.length : Int) = some (.go ()) := by
  intro suf
  induction suf with
  | nil =>
    intro pre k h hk
    obtain ⟨k, rfl⟩ : ∃ k', k = k' + 1 := ⟨k - 1, by omega⟩
    rw [tholeref20_Same.l0, if_neg (nlt_ h)]
  | cons e suf ih =>
    intro pre k h hk
    obtain ⟨k, rfl⟩ : ∃ k', k = k' + 1 := ⟨k - 1, by omega⟩
    simp only [List.length_cons] at hk
    rw [tholeref20_Same.l0, if_pos (lt_ h), at_ h, nx_ h hl]
    simp only [Option.bind_some]
    rw [if_neg (by simp [(TResult.eqb_iff e e).2 rfl]), ih (pre ++ [e]) k (sh_ h) (by omega)]
theorem same_refl (l : List TResult) (hl : l.length ≤ 1000000) {k : Nat} (hk : l.length < k) : tholeref20_Same k l l = some true := by
  have := same_l0 l hl l [] k rfl hk
  rw [show ((([] : List TResult).length : Nat) : Int) = 0 from rfl] at this
  rw [tholeref20_Same, if_neg (by simp), this]
  rfl
/-! Results -/
def isR (t : Int) (e : TEvent) : Bool := (e.kind == 3) && (e.thread == t)
def res (l : List TEvent) (t : Int) : List TResult := (l.filter (isR t)).map fun e => ⟨e.value, e.got⟩
theorem res_app (a b : List TEvent) (t : Int) : res (a ++ b) t = res a t ++ res b t := by simp [res]
theorem res_len (a : List TEvent) (t : Int) : (res a t).length ≤ a.length := by simp [res]; exact List.length_filter_le _ _
theorem ords_app (a b : List TEvent) (q : Int) : ords (a ++ b) q = ords a q ++ ords b q := by simp [ords]
theorem ords_len (a : List TEvent) (q : Int) : (ords a q).length ≤ a.length := by simp [ords]; exact List.length_filter_le _ _
def rows (l : List TEvent) (n : Nat) : List (List TResult) := (List.range n).map fun (t : Nat) => res l (t : Int)
theorem rows_at (l : List TEvent) (n : Nat) {t : Int} (h : 0 ≤ t ∧ t < (n : Int)) : ix (rows l n) t = some (res l t) := by
  obtain ⟨m, rfl⟩ := Int.eq_ofNat_of_zero_le h.1
  rw [ix_nat, rows, List.getElem?_map, List.getElem?_range (by omega)]
  rfl
theorem rows_step (pre : List TEvent) (e : TEvent) (n : Nat) (h : e.kind = 3) (ht : 0 ≤ e.thread ∧ e.thread < (n : Int)) : (rows pre n).set e.thread.toNat (res pre e.thread ++ [⟨e.value, e.got⟩]) = rows (pre ++ [e]) n := by
  apply List.ext_getElem?
  intro i
  rw [List.getElem?_set]
  by_cases hi : e.thread.toNat = i
  · subst hi
    have hlt : e.thread.toNat < (rows pre n).length := by simp [rows]; omega
    rw [if_pos rfl, if_pos hlt]
    simp only [rows, List.getElem?_map]
    rw [List.getElem?_range (by omega)]
    have : ((e.thread.toNat : Nat) : Int) = e.thread := by omega
    simp [res_app, this, res, isR, h]
  · rw [if_neg hi]
    simp only [rows, List.getElem?_map]
    by_cases hn : i < n
    · rw [List.getElem?_range hn]
      have hne : ¬ e.thread = (i : Int) := by omega
      simp [res_app, res, isR, hne]
    · rw [List.getElem?_eq_none (by simp; omega)]
      rfl
theorem rows_same (pre : List TEvent) (e : TEvent) (n : Nat) (h : ¬ (e.kind = 3 ∧ 0 ≤ e.thread ∧ e.thread < (n : Int))) : rows (pre ++ [e]) n = rows pre n := by
  simp only [rows]
  apply List.map_congr_left
  intro t ht
  rw [List.mem_range] at ht
  have : isR (t : Int) e = false := by
    by_cases hk : e.kind = 3
    · have : ¬ e.thread = (t : Int) := fun hc => h ⟨hk, by omega, by omega⟩
      simp [isR, this]
    · simp [isR, hk]
  rw [res_app]
  simp [res, this]
theorem results_l0 (l : List TEvent) (n : Nat) (hl : l.length ≤ 1000000) : ∀ (suf pre : List TEvent) (k : Nat), l = pre ++ suf → suf.length < k → hist_Results.l0 (n : Int) l k (pre.length : Int) (rows pre n) = some (rows l n) := by
  intro suf
  induction suf with
  | nil =>
    intro pre k h hk
    obtain ⟨k, rfl⟩ : ∃ k', k = k' + 1 := ⟨k - 1, by omega⟩
    rw [hist_Results.l0, if_neg (nlt_ h)]
    have : l = pre := by rw [h]; simp
    rw [this]
  | cons e suf ih =>
    intro pre k h hk
    obtain ⟨k, rfl⟩ : ∃ k', k = k' + 1 := ⟨k - 1, by omega⟩
    simp only [List.length_cons] at hk
    have hp : pre.length ≤ l.length := by rw [h]; simp
    rw [hist_Results.l0, if_pos (lt_ h), at_ h, nx_ h hl]
    simp only [Option.bind_some]
    have := ih (pre ++ [e]) k (sh_ h) (by omega)
    by_cases hc : e.kind = 3 ∧ 0 ≤ e.thread ∧ e.thread < (n : Int)
    · have hr := res_len pre e.thread
      rw [if_pos (by simp [hc.1, hc.2.1, hc.2.2]), rows_at pre n hc.2]
      simp only [Option.bind_some]
      rw [app_ok (by simp [lim]; omega)]
      simp only [Option.bind_some]
      rw [rows_step pre e n hc.1 hc.2]
      exact this
    · rw [rows_same pre e n hc] at this
      rw [if_neg (by simp only [Bool.and_eq_true, beq_iff_eq, decide_eq_true_eq]; exact fun h => hc ⟨h.1.1, h.1.2, h.2⟩)]
      exact this
theorem results_eq (l : List TEvent) (n : Nat) (hn : n ≤ 8) (hl : l.length ≤ 1000000) {k : Nat} (hk : l.length < k) : hist_Results k (n : Int) l = some (rows l n) := by
  have := results_l0 l n hl l [] k rfl hk
  rw [show ((([] : List TEvent).length : Nat) : Int) = 0 from rfl] at this
  rw [hist_Results, if_neg (by simp; omega), mk, if_pos (by simp [lim]; omega)]
  simp only [Option.bind_some]
  have e : List.replicate ((n : Int).toNat) ([] : List TResult) = rows [] n := by
    apply List.ext_getElem?
    intro i
    simp only [rows, List.getElem?_map, List.getElem?_replicate, Int.toNat_natCast]
    by_cases hi : i < n
    · rw [if_pos hi, List.getElem?_range hi]; rfl
    · rw [if_neg hi, List.getElem?_eq_none (by simp; omega)]; rfl
  rw [e, this]
  rfl
theorem rows_len (l : List TEvent) (n : Nat) : (rows l n).length = n := by simp [rows]
theorem up_all : tholelaw20_up 10000 = some true := by decide +kernel
end Go.Proofs.YtbfndihcbogjfaaDoor
