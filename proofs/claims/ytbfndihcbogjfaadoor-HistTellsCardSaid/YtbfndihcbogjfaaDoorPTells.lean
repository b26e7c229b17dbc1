/-
  Plain: the law HistTells of the pure functions. Conditions: none but what each argument's type asks.
-/
import Derived.Test.YtbfndihcbogjfaaDoorPT
namespace Go.Proofs.YtbfndihcbogjfaaDoor
open Go Go.RowKit Gx

theorem ref_order_l0 (l : List TEvent) (q : Int) (hl : l.length ≤ 1000000) : ∀ (suf pre : List TEvent) (k : Nat) (acc : List Int), l = pre ++ suf → suf.length < k → acc.length ≤ pre.length → tholeref20_Order.l0 l q k acc (pre.length : Int) = some (acc ++ ords suf q) := by
  intro suf
  induction suf with
  | nil =>
    intro pre k acc h hk ha
    obtain ⟨k, rfl⟩ : ∃ k', k = k' + 1 := ⟨k - 1, by omega⟩
    rw [tholeref20_Order.l0, if_neg (nlt_ h)]
    simp [ords]
  | cons e suf ih =>
    intro pre k acc h hk ha
    obtain ⟨k, rfl⟩ : ∃ k', k = k' + 1 := ⟨k - 1, by omega⟩
    simp only [List.length_cons] at hk
    have hp : pre.length ≤ l.length := by rw [h]; simp
    rw [tholeref20_Order.l0, if_pos (lt_ h), at_ h, nx_ h hl]
    simp only [Option.bind_some]
    by_cases hc : ((e.kind == 2) && (e.note.kind == q)) = true
    · rw [if_pos hc, app_ok (by simp [lim]; omega)]
      simp only [Option.bind_some]
      rw [ih (pre ++ [e]) k _ (sh_ h) (by omega) (by simp; omega)]
      have : isK q e = true := hc
      simp [ords, this]
    · rw [if_neg hc, ih (pre ++ [e]) k _ (sh_ h) (by omega) (by simp; omega)]
      have : isK q e = false := by simpa [isK] using hc
      simp [ords, this]
theorem ref_order_eq (l : List TEvent) (q : Int) (hl : l.length ≤ 1000000) {k : Nat} (hk : l.length < k) : tholeref20_Order k l q = some (ords l q) := by
  have := ref_order_l0 l q hl l [] k [] rfl hk (Nat.le_refl _)
  rw [show ((([] : List TEvent).length : Nat) : Int) = 0 from rfl] at this
  rw [tholeref20_Order, this]
  rfl
theorem ref_res_l0 (l : List TEvent) (q : Int) (hl : l.length ≤ 1000000) : ∀ (suf pre : List TEvent) (k : Nat) (acc : List TResult), l = pre ++ suf → suf.length < k → acc.length ≤ pre.length → tholeref20_Results.l0 q l k acc (pre.length : Int) = some (acc ++ res suf q) := by
  intro suf
  induction suf with
  | nil =>
    intro pre k acc h hk ha
    obtain ⟨k, rfl⟩ : ∃ k', k = k' + 1 := ⟨k - 1, by omega⟩
    rw [tholeref20_Results.l0, if_neg (nlt_ h)]
    simp [res]
  | cons e suf ih =>
    intro pre k acc h hk ha
    obtain ⟨k, rfl⟩ : ∃ k', k = k' + 1 := ⟨k - 1, by omega⟩
    simp only [List.length_cons] at hk
    have hp : pre.length ≤ l.length := by rw [h]; simp
    rw [tholeref20_Results.l0, if_pos (lt_ h), at_ h, nx_ h hl]
    simp only [Option.bind_some]
    by_cases hc : ((e.kind == 3) && (e.thread == q)) = true
    · rw [if_pos hc, app_ok (by simp [lim]; omega)]
      simp only [Option.bind_some]
      rw [ih (pre ++ [e]) k _ (sh_ h) (by omega) (by simp; omega)]
      have : isR q e = true := hc
      simp [res, this]
    · rw [if_neg hc, ih (pre ++ [e]) k _ (sh_ h) (by omega) (by simp; omega)]
      have : isR q e = false := by simpa [isR] using hc
      simp [res, this]
theorem ref_res_eq (l : List TEvent) (q : Int) (hl : l.length ≤ 1000000) {k : Nat} (hk : l.length < k) : tholeref20_Results k q l = some (res l q) := by
  have := ref_res_l0 l q hl l [] k [] rfl hk (Nat.le_refl _)
  rw [show ((([] : List TEvent).length : Nat) : Int) = 0 from rfl] at this
  rw [tholeref20_Results, this]
  rfl
theorem digit {u : Nat} (h : u < 10) : bstr [IntKind.u8.wrap (w64 (48 + (u : Int)))] = [UInt8.ofNat (48 + u)] := by
  rw [w64_id (by omega), IntWalk.u8_in _ (by omega)]
  simp only [bstr, List.map_cons, List.map_nil]
  congr 2
theorem digits_nat : ∀ (k u : Nat), u < 10 ^ (k + 1) → u ≤ 9223372036854775807 → tholeref07_Digits (k + 1) (u : Int) = some (Lib.decDigits u) := by
  intro k
  induction k with
  | zero =>
    intro u h _
    rw [tholeref07_Digits, if_neg (by simp), if_pos (by simp; omega), digit (by omega), Lib.decDigits, dif_pos (by omega)]
  | succ k ih =>
    intro u h hu
    rw [tholeref07_Digits, if_neg (by simp)]
    by_cases h10 : u < 10
    · rw [if_pos (by simp; omega), digit h10, Lib.decDigits, dif_pos h10]
    · have e1 : w64 ((u : Int).tdiv 10) = ((u / 10 : Nat) : Int) := by
        rw [Int.tdiv_eq_ediv_of_nonneg (by omega), w64_id (by omega)]; omega
      have e2 : (u : Int).tmod 10 = ((u % 10 : Nat) : Int) := by
        rw [Int.tmod_eq_emod_of_nonneg (by omega)]; omega
      rw [if_neg (by simp; omega), e1, e2, ih (u / 10) (by rw [Nat.pow_succ] at h; omega) (by omega)]
      simp only [Option.bind_some]
      have hd : Lib.decDigits u = Lib.decDigits (u / 10) ++ [UInt8.ofNat (48 + u % 10)] := by rw [Lib.decDigits, dif_neg h10]
      have hl := dec_len 19 (u / 10) (by have e : (10 : Nat) ^ (19 + 1) = 100000000000000000000 := by decide
                                         omega)
      rw [digit (Nat.mod_lt _ (by omega)), sapp_ok (by simp; omega), hd]
      rfl
theorem digits_eq {x : Int} (h : wfI .i64 x) (hm : x ≠ -9223372036854775808) {k : Nat} (hk : 30 ≤ k) : tholeref07_Digits k x = some (Lib.itoa x) := by
  have hx := wfI64 h
  have e : (10 : Nat) ^ 20 = 100000000000000000000 := by decide
  have big : ∀ j : Nat, 19 ≤ j → (100000000000000000000 : Nat) ≤ 10 ^ (j + 1) := fun j hj => by rw [← e]; exact Nat.pow_le_pow_right (by omega) (by omega)
  obtain ⟨k, rfl⟩ : ∃ k', k = k' + 2 := ⟨k - 2, by omega⟩
  unfold Lib.itoa
  by_cases hn : x < 0
  · rw [if_pos hn, tholeref07_Digits, if_pos (by simpa using hn)]
    have e1 : w64 (0 - x) = ((x.natAbs : Nat) : Int) := by rw [w64_id (by omega)]; omega
    have := big k (by omega)
    rw [e1, digits_nat k _ (by omega) (by omega)]
    have := dec_len 19 x.natAbs (by omega)
    simp only [Option.bind_some]
    rw [sapp_ok (by simp; omega)]
    rfl
  · rw [if_neg hn]
    have := big (k + 1) (by omega)
    have h2 := digits_nat (k + 1) x.toNat (by omega) (by omega)
    rw [show ((x.toNat : Nat) : Int) = x from by omega] at h2
    exact h2
theorem number_eq {x : Int} (h : wfI .i64 x) {k : Nat} (hk : 30 ≤ k) : tholeref20_number k x = some (Lib.itoa x) := by
  rw [tholeref20_number]
  by_cases hm : x = -9223372036854775808
  · subst hm
    rw [if_pos (by decide), show Lib.itoa (-9223372036854775808) = [45, 57, 50, 50, 51, 51, 55, 50, 48, 51, 54, 56, 53, 52, 55, 55, 53, 56, 48, 56] from by decide +kernel]
  · rw [if_neg (by simpa using hm), digits_eq h hm hk]
    rfl
theorem ref_text_l0 (l : List TEvent) (hl : l.length ≤ 10000) (hw : ∀ e ∈ l, TEvent.wf e) : ∀ (suf pre : List TEvent) (k : Nat) (acc : List UInt8), l = pre ++ suf → suf.length + 30 < k → acc.length ≤ 200 * pre.length → tholeref20_Text.l0 l k acc (pre.length : Int) = some (acc ++ txt suf) := by
  intro suf
  induction suf with
  | nil =>
    intro pre k acc h hk ha
    obtain ⟨k, rfl⟩ : ∃ k', k = k' + 1 := ⟨k - 1, by omega⟩
    rw [tholeref20_Text.l0, if_neg (nlt_ h)]
    simp [txt]
  | cons e suf ih =>
    intro pre k acc h hk ha
    obtain ⟨k, rfl⟩ : ∃ k', k = k' + 1 := ⟨k - 1, by omega⟩
    simp only [List.length_cons] at hk
    have hp : pre.length ≤ l.length := by rw [h]; simp
    have he : e.wf := hw e (by rw [h]; simp)
    have hli := line_len he
    have ht : txt (e :: suf) = line e ++ txt suf := rfl
    rw [tholeref20_Text.l0, if_pos (lt_ h), at_ h, nx_ h (by omega)]
    simp only [Option.bind_some]
    obtain ⟨_, h1, h2, ⟨h3, h4⟩, h5, h6⟩ := he
    have l1 := itoa_len h1; have l2 := itoa_len h2; have l3 := itoa_len h3; have l4 := itoa_len h4; have l5 := itoa_len h5; have l6 := itoa_len h6
    rw [number_eq h1 (by omega), number_eq h2 (by omega), number_eq h3 (by omega), number_eq h4 (by omega), number_eq h5 (by omega), number_eq h6 (by omega)]
    simp only [Option.bind_some]
    rw [sapp_ok (by simp; omega)]
    simp only [Option.bind_some]
    rw [sapp_ok (by simp; omega)]
    simp only [Option.bind_some]
    rw [sapp_ok (by simp; omega)]
    simp only [Option.bind_some]
    have nxt : ∀ z, z = acc ++ line e → tholeref20_Text.l0 l k z ((pre ++ [e]).length : Int) = some (acc ++ txt (e :: suf)) := fun z hz => by
      subst hz
      rw [ih (pre ++ [e]) k (acc ++ line e) (sh_ h) (by omega) (by simp; omega), ht]
      simp
    by_cases k1 : e.kind = 1
    · rw [if_pos (by simpa using k1)]
      rw [sapp_ok (by simp; omega)]
      simp only [Option.bind_some]
      rw [sapp_ok (by simp; omega)]
      simp only [Option.bind_some]
      exact nxt _ (by simp [line, wd, k1])
    rw [if_neg (by simpa using k1)]
    by_cases k2 : e.kind = 2
    · rw [if_pos (by simpa using k2)]
      rw [sapp_ok (by simp; omega)]
      simp only [Option.bind_some]
      rw [sapp_ok (by simp; omega)]
      simp only [Option.bind_some]
      rw [sapp_ok (by simp; omega)]
      simp only [Option.bind_some]
      rw [sapp_ok (by simp; omega)]
      simp only [Option.bind_some]
      rw [sapp_ok (by simp; omega)]
      simp only [Option.bind_some]
      rw [sapp_ok (by simp; omega)]
      simp only [Option.bind_some]
      exact nxt _ (by simp [line, wd, k2])
    rw [if_neg (by simpa using k2)]
    by_cases k3 : e.kind = 3
    · rw [if_pos (by simpa using k3)]
      rw [sapp_ok (by simp; omega)]
      simp only [Option.bind_some]
      rw [sapp_ok (by simp; omega)]
      simp only [Option.bind_some]
      rw [sapp_ok (by simp; omega)]
      simp only [Option.bind_some]
      rw [sapp_ok (by simp; omega)]
      simp only [Option.bind_some]
      rw [sapp_ok (by simp; omega)]
      simp only [Option.bind_some]
      rw [sapp_ok (by simp; omega)]
      simp only [Option.bind_some]
      exact nxt _ (by simp [line, wd, k3])
    rw [if_neg (by simpa using k3)]
    by_cases k4 : e.kind = 4
    · rw [if_pos (by simpa using k4)]
      rw [sapp_ok (by simp; omega)]
      simp only [Option.bind_some]
      rw [sapp_ok (by simp; omega)]
      simp only [Option.bind_some]
      exact nxt _ (by simp [line, wd, k4])
    rw [if_neg (by simpa using k4)]
    exact nxt _ (by simp [line, wd, k1, k2, k3, k4])
theorem ref_text_eq (l : List TEvent) (hl : l.length ≤ 9000) (hw : ∀ e ∈ l, TEvent.wf e) : tholeref20_Text 10000 l = some (txt l) := by
  have := ref_text_l0 l (by omega) hw l [] 10000 [] rfl (by omega) (Nat.le_refl _)
  rw [show ((([] : List TEvent).length : Nat) : Int) = 0 from rfl] at this
  rw [tholeref20_Text, this]
  rfl
theorem tells_l0 (l : List TEvent) (n : Nat) (hl : l.length ≤ 3000) (hn : n ≤ 8) : ∀ (k i : Nat), i ≤ n → 9000 < k + i → tholelaw20_HistTells.l0 (n : Int) l (rows l n) k (i : Int) = some (.go ()) := by
  intro k
  induction k with
  | zero => intro i hi hk; omega
  | succ k ih =>
    intro i hi hk
    rw [tholelaw20_HistTells.l0]
    by_cases h8 : i = n
    · subst h8; rw [if_neg (by simp)]
    · have la := res_len l (i : Int)
      rw [if_pos (by simp; omega), rows_at l n (by omega), ref_res_eq l _ (by omega) (by omega)]
      simp only [Option.bind_some]
      rw [same_refl _ (by omega) (by omega)]
      simp only [Option.bind_some]
      rw [if_neg (by simp), show w64 ((i : Int) + 1) = ((i + 1 : Nat) : Int) from by rw [w64_id (by omega)]; omega]
      exact ih (i + 1) (by omega) (by omega)
theorem told (x0 : Int) (x1 : List TEvent) (x2 : Int) (_ : wfI .i64 x0) (h1 : (x1.length ≤ maxLen ∧ ∀ y ∈ x1, TEvent.wf y)) (_ : wfI .i64 x2) : ∃ k, tholelaw20_HistTells k x0 x1 x2 = some true := by
  refine ⟨10000, ?_⟩
  rw [tholelaw20_HistTells, up_all]
  simp only [Option.bind_some]
  by_cases hl : 3000 < (x1.length : Int)
  · rw [if_pos (by simpa using hl)]
  rw [if_neg (by simpa using hl)]
  have ha : x1.length ≤ 3000 := by omega
  have oa := ords_len x1 x2
  rw [order_eq x1 x2 (by omega) (by omega), ref_order_eq x1 x2 (by omega) (by omega), marks_eq x1 x2 (by omega) (by omega), text_eq x1 (by omega) h1.2 (by omega), ref_text_eq x1 (by omega) h1.2]
  simp only [Option.bind_some]
  rw [ints_refl (ords x1 x2) (by omega) (by omega)]
  by_cases hb : x0 < 0 ∨ 8 < x0
  · rw [hist_Results, if_pos (by simpa using hb)]
    simp only [Option.bind_some]
    rw [if_pos (by simpa using hb), if_neg (by simp)]
    simp
  · obtain ⟨n, rfl⟩ := Int.eq_ofNat_of_zero_le (show 0 ≤ x0 by omega)
    have hn : n ≤ 8 := by omega
    rw [results_eq x1 n hn (by omega) (by omega)]
    simp only [Option.bind_some]
    rw [if_neg (by simpa using hb), if_neg (by simp [rows_len])]
    have p1 := tells_l0 x1 n ha hn 10000 0 (by omega) (by omega)
    rw [show (((0 : Nat) : Int)) = 0 from rfl] at p1
    rw [p1]
    simp [Lp.k]
end Go.Proofs.YtbfndihcbogjfaaDoor
