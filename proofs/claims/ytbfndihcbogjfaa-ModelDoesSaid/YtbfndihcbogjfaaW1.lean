/-
  The Go functions slices_Clone_Waiter, slices_IndexFunc_Waiter, slices_ContainsFunc_Waiter, model_waits_1, model_waits, model_free, slices_DeleteFunc_Waiter, model_signal_1, model_signal, model_lock, model_sema, model_latch, model_reads: each comes to its plain function. Conditions: where the plain function is some.
-/
import Derived.Test.YtbfndihcbogjfaaK
set_option linter.unusedVariables false
namespace Go.Proofs.Ytbfndihcbogjfaa
open Go Go.RowKit Go.Proofs.Ytbfndihcbogjfaa.Gx
set_option maxHeartbeats 4000000 in
theorem c15 (L : List Nat) (w : World) (hL : ∀ b ∈ L, b < w.heap.size) (x0 : List TWaiter) (h0 : Value) (qh0 : RdS KTWaiter L w h0 x0) (r : (List TWaiter)) (h : slices_Clone_Waiter x0 = some r) : Calls Try.prog 15 #[h0] w (fun e w' => ∃ v, e = .returned v ∧ OwnS KTWaiter 45 (ownB v ++ L) w' v r ∧ (∀ x ∈ ownB v, w.heap.size ≤ x) ∧ G [] w w') := by
  refine enterF Try.func15 rfl rfl fun a0 z0 A => ?_
  have s0_0 := A 0 (h0) rfl
  clear A
  have c0 : Cx [] w L w := ⟨G.refl _ _, hL⟩
  unfold slices_Clone_Waiter at h
  rcases qh0.nilOr with ⟨rfl, rfl⟩ | ⟨ad, n, c, e⟩
  · have hr : r = [] := by simp [app] at h; first | exact h | exact h.symm
    subst hr
    have h : some ([] : List TWaiter) = some [] := rfl
    refine wp_seq ?_
    refine reg ?_
    refine s1 z0 (okAs cst) rfl fun a1 p2 s3 => ?_
    refine rN (thenN ?_)
    refine wp_seq ?_
    refine wp_seq ?_
    refine reg ?_
    have s4 := p2.o s0_0 rfl
    refine s1 p2.z (okMv s4) rfl fun a5 p6 s7 => ?_
    refine s1 p6.z (okNilT Try.underlying23 s7) rfl fun a8 p9 s10 => ?_
    refine rN (thenN ?_)
    refine wp_cond_true s10 ?_
    refine wp_seq ?_
    refine reg ?_
    refine s1 p9.z (okAs cst) rfl fun a11 p12 s13 => ?_
    refine rN (thenN ?_)
    exact wp_ret (thenR (ret1 p12.z Try.results15 (rvT s13) ⟨_, rfl, OwnS.nil, (fun _ h => nilO h), c0.g⟩))
  · subst e
    refine wp_seq ?_
    refine reg ?_
    refine s1 z0 (okAs cst) rfl fun a14 p15 s16 => ?_
    refine rN (thenN ?_)
    refine wp_seq ?_
    refine wp_seq ?_
    refine reg ?_
    have s17 := p15.o s0_0 rfl
    refine s1 p15.z (okMv s17) rfl fun a18 p19 s20 => ?_
    refine s1 p19.z (okNilF Try.underlying23 s20) rfl fun a21 p22 s23 => ?_
    refine rN (thenN ?_)
    refine wp_cond_false s23 ?_
    refine wp_skip (thenN ?_)
    refine wp_seq ?_
    refine reg ?_
    refine lS (oBS (K := KTWaiter) (L := L) (xs := []) (C := []) p22.z (pb0 ) (bs23_0_ ) rfl rfl (fun _ _ _ h => by simp at h) rfl rfl fun a24 v25 w26 p27 sp27 q28 g29 f30 => ?_)
    have f31 := frN f30
    have nb32 := nbA hL c0.g.sz (fun _ h => nilO h) f31
    have sf33 := sfA (S := []) c0.g.sz (fun _ h => nilO h) f31
    have cx34 := c0.ap g29 (fun _ h => nilO h) q28
    have s35 := p27.o (p22.o (p19.o s17 rfl) rfl) rfl
    refine s1 p27.z (okMv s35) rfl fun a36 p37 s38 => ?_
    have s39 := p37.o sp27 rfl
    obtain ⟨z40, hz41, h⟩ := Option.bind_eq_some_iff.1 h
    have q42 := qh0.mono (tAp g29 (fun _ h => nilO h) f31)
    refine lS (oApp (K := KTWaiter) (L := (ownB v25 ++ L)) Try.underlying23 ti45 rfl p37.z s39 s38 q28 q42.src hz41 (fun _ h => (List.mem_append_left _ h)) rfl fun a43 v44 w45 p46 sp46 q47 g48 f49 => ?_)
    have nb50 := nbA hL cx34.g.sz nb32 f49
    have sf51 := sfA (S := []) cx34.g.sz sf33 f49
    have cx52 := cx34.ap g48 sf33 q47
    refine s1 p46.z (okAs sp46) rfl fun a53 p54 s55 => ?_
    refine rN (thenN ?_)
    obtain rfl := Option.some.inj h
    exact wp_ret (ret1 p54.z Try.results15 (rvT s55) ⟨_, rfl, (q47.sub (fun i h => (List.mem_append.1 h).elim (fun h => (List.mem_append_left _ h)) (fun h => (List.mem_append_right _ (List.mem_append_right _ h))))), (frO sf51), cx52.g⟩)

set_option maxHeartbeats 4000000 in
theorem c38 (k : Nat) (L : List Nat) (w : World) (hL : ∀ b ∈ L, b < w.heap.size) (x0 : List TWaiter) (h0 : Value) (qh0 : RdS KTWaiter L w h0 x0) (x1 : (TWaiter → Option Bool)) (F1 : FuncId) (C1 : Array Value) (E1 : Enter Try.prog F1) (H1 : ∀ (L' : List Nat) (w' : World), G [] w w' → (∀ b ∈ L', b < w'.heap.size) → ∀ (y0 : TWaiter) (s : Bool), x1 y0 = some s → Calls Try.prog F1 (#[.agg (TWaiter.C y0).toArray] ++ C1) w' (fun e w'' => ∃ v, e = .returned v ∧ v = .bool s ∧ G [] w' w'')) (r : Int) (h : slices_IndexFunc_Waiter k x0 x1 = some r) : Calls Try.prog 38 #[h0, .func (.func F1) #[] C1] w (fun e w' => ∃ v, e = .returned v ∧ v = .int .i64 r ∧ G [] w w') := by
  refine enterF Try.func38 rfl rfl fun a0 z0 A => ?_
  have s0_0 := A 0 (h0) rfl
  have s0_1 := A 1 (.func (.func F1) #[] C1) rfl
  clear A
  have c0 : Cx [] w L w := ⟨G.refl _ _, hL⟩
  unfold slices_IndexFunc_Waiter at h
  refine wp_seq ?_
  refine reg ?_
  refine s1 z0 (okAs cst) rfl fun a1 p2 s3 => ?_
  refine rN (thenN ?_)
  refine wp_seq ?_
  refine wp_seq ?_
  refine reg ?_
  have s4 := p2.o s0_0 rfl
  refine s1 p2.z (okMv s4) rfl fun a5 p6 s7 => ?_
  refine s1 p6.z (okLenR Try.underlying23 s7 qh0) rfl fun a8 p9 s10 => ?_
  refine s1 p9.z (okMv cst) rfl fun a11 p12 s13 => ?_
  refine rN (thenN ?_)
  refine wp_block ?_
  obtain ⟨o15, ho16, h⟩ := Option.bind_eq_some_iff.1 h
  have s18 := p12.o (p9.o (p6.o s4 rfl) rfl) rfl
  have s19 := p12.o (p9.o (p6.o (p2.o s0_1 rfl) rfl) rfl) rfl
  have s20 := p12.o (p9.o (p6.o s3 rfl) rfl) rfl
  have s21 := p12.o s10 rfl
  refine loopX (I := (fun k' a' w' => ∃ i14, Z Try.f38.ntmps a' ∧ a'.eval (.tmp 0) = h0 ∧ a'.eval (.tmp 1) = .func (.func F1) #[] C1 ∧ a'.eval (.tmp 4) = .int .i64 0 ∧ a'.eval (.tmp 7) = .int .i64 (x0.length : Int) ∧ a'.eval (.tmp 8) = .int .i64 i14 ∧ RdS KTWaiter L w' h0 x0 ∧ Cx [] w L w' ∧ slices_IndexFunc_Waiter.l0 x0 x1 k' i14 = some o15)) 0 (fun a' w' => ∃ g17, o15 = .go g17 ∧ Z Try.f38.ntmps a' ∧ a'.eval (.tmp 4) = .int .i64 0 ∧ Cx [] w L w') ⟨0, p12.z, s18, s19, s20, s21, s13, qh0, c0, ho16⟩ ?_ ?_
  · have oh33 := h; clear h ho16
    rintro k22 a23 w24 ⟨i14, z25, s26, s27, s28, s29, s30, q31, cx32, h⟩
    obtain _ | k := k22
    case zero => cases h
    rw [slices_IndexFunc_Waiter.l0] at h
    refine wp_seq ?_
    refine reg ?_
    refine s1 z25 (okLt s30 s29) rfl fun a34 p35 s36 => ?_
    refine rN (thenN ?_)
    refine wp_seq ?_
    refine cnd s36 (fun hb37 => ?_) (fun hb37 => ?_)
    · replace h := (ifP hb37).symm.trans h
      refine wp_skip (thenN ?_)
      refine wp_seq ?_
      refine wp_block ?_
      refine wp_seq ?_
      refine reg ?_
      have s38 := p35.o s30 rfl
      refine s1 p35.z (okMv s38) rfl fun a39 p40 s41 => ?_
      refine s1 p40.z (okAs s41) rfl fun a42 p43 s44 => ?_
      refine rN (thenN ?_)
      refine wp_seq ?_
      refine reg ?_
      have s45 := p43.o (p40.o (p35.o s27 rfl) rfl) rfl
      refine s1 p43.z (okMv s45) rfl fun a46 p47 s48 => ?_
      have s49 := p47.o (p43.o (p40.o (p35.o s26 rfl) rfl) rfl) rfl
      refine s1 p47.z (okMv s49) rfl fun a50 p51 s52 => ?_
      have s53 := p51.o (p47.o s44 rfl) rfl
      refine s1 p51.z (okMv s53) rfl fun a54 p55 s56 => ?_
      have s57 := p55.o s52 rfl
      obtain ⟨y58, hy59, h⟩ := Option.bind_eq_some_iff.1 h
      obtain ⟨b60, o61, cs62, r64, e65, nb66, k63⟩ := q31.at_ hy59
      obtain rfl := r64
      refine s1 p55.z (k63 Try.underlying23 Try.sizeOf45 s57 s56 _) rfl fun a67 p68 s69 => ?_
      refine s1 p68.z (okLdA ag45 s69 e65 rfl rfl whole) rfl fun a70 p71 s72 => ?_
      have s73 := p71.o (p68.o (p55.o (p51.o s48 rfl) rfl) rfl) rfl
      obtain ⟨t74, ht75, h⟩ := Option.bind_eq_some_iff.1 h
      refine lS (oCallV p71.z s73 E1 (ag1 s72) (H1 L w24 cx32.g cx32.lt _ _ ht75) rfl fun v79 a76 w77 hp80 p78 sp78 => ?_)
      obtain ⟨rfl, g81⟩ := hp80
      have cx82 := cx32.ca g81
      refine rN (thenN ?_)
      have s83 := p78.o (p71.o (p68.o (p55.o (p51.o s49 rfl) rfl) rfl) rfl) rfl
      have s84 := p78.o (p71.o (p68.o (p55.o (p51.o (p47.o s45 rfl) rfl) rfl) rfl) rfl) rfl
      have s85 := p78.o (p71.o (p68.o (p55.o (p51.o (p47.o (p43.o (p40.o s38 rfl) rfl) rfl) rfl) rfl) rfl) rfl) rfl
      have s86 := p78.o (p71.o (p68.o (p55.o (p51.o (p47.o (p43.o (p40.o s36 rfl) rfl) rfl) rfl) rfl) rfl) rfl) rfl
      have s87 := p78.o (p71.o (p68.o (p55.o (p51.o (p47.o (p43.o s41 rfl) rfl) rfl) rfl) rfl) rfl) rfl
      have s88 := p78.o (p71.o (p68.o (p55.o s53 rfl) rfl) rfl) rfl
      have s89 := p78.o s73 rfl
      have s90 := p78.o (p71.o (p68.o s57 rfl) rfl) rfl
      have s91 := p78.o (p71.o (p68.o s56 rfl) rfl) rfl
      have s92 := p78.o (p71.o s69 rfl) rfl
      have s93 := p78.o s72 rfl
      have pg94 : Pg _ [5, 9, 10, 11, 12, 13, 14, 15, 16] _ _ := ((((((((((Pg.refl z25).st p35 rfl).st p40 rfl).st p43 rfl).st p47 rfl).st p51 rfl).st p55 rfl).st p68 rfl).st p71 rfl).st p78 rfl)
      refine cnd sp78 (fun hb95 => ?_) (fun hb95 => ?_)
      · replace h := (ifP hb95).symm.trans h
        refine wp_seq ?_
        refine reg ?_
        refine s1 pg94.z (okMv s88) rfl fun a96 p97 s98 => ?_
        refine s1 p97.z (okAs s98) rfl fun a99 p100 s101 => ?_
        refine rN (thenN ?_)
        obtain rfl := Option.some.inj h
        obtain rfl := Option.some.inj oh33
        exact wp_ret (blkR (thenR (thenR (jqR (blkR (thenR (ret1 p100.z Try.results38 (rvT s101) ⟨_, rfl, rfl, cx82.g⟩)))))))
      replace h := (ifN hb95).symm.trans h
      refine wp_skip (blkN (thenN ?_))
      refine reg ?_
      refine s1 pg94.z (okAdd s85 cst) rfl fun a102 p103 s104 => ?_
      refine s1 p103.z (okMv s104) rfl fun a105 p106 s107 => ?_
      have s108 := p106.o (p103.o s83 rfl) rfl
      have s109 := p106.o (p103.o s84 rfl) rfl
      have s110 := p106.o (p103.o (pg94.o s28 rfl) rfl) rfl
      have s111 := p106.o (p103.o (pg94.o s29 rfl) rfl) rfl
      have q112 := q31.mono g81.t0
      exact rN (thenN ⟨k, Nat.lt_succ_self k, (w64 (i14 + 1)), p106.z, s108, s109, s110, s111, s107, q112, cx82, h⟩)
    replace h := (ifN hb37).symm.trans h
    obtain rfl := Option.some.inj h
    have s113 := p35.o s28 rfl
    exact wp_exit (thenE (thenE (jqE ⟨_, rfl, p35.z, s113, cx32⟩)))
  clear ho16
  rintro a114 w115 ⟨g17, rfl, z116, s117, cx118⟩
  refine blkE (thenN ?_)
  refine wp_seq ?_
  refine reg ?_
  refine s1 z116 (okAs cst) rfl fun a119 p120 s121 => ?_
  refine rN (thenN ?_)
  obtain rfl := Option.some.inj h
  exact wp_ret (ret1 p120.z Try.results38 (rvT s121) ⟨_, rfl, rfl, cx118.g⟩)

set_option maxHeartbeats 4000000 in
theorem c34 (k : Nat) (L : List Nat) (w : World) (hL : ∀ b ∈ L, b < w.heap.size) (x0 : List TWaiter) (h0 : Value) (qh0 : RdS KTWaiter L w h0 x0) (x1 : (TWaiter → Option Bool)) (F1 : FuncId) (C1 : Array Value) (E1 : Enter Try.prog F1) (H1 : ∀ (L' : List Nat) (w' : World), G [] w w' → (∀ b ∈ L', b < w'.heap.size) → ∀ (y0 : TWaiter) (s : Bool), x1 y0 = some s → Calls Try.prog F1 (#[.agg (TWaiter.C y0).toArray] ++ C1) w' (fun e w'' => ∃ v, e = .returned v ∧ v = .bool s ∧ G [] w' w'')) (r : Bool) (h : slices_ContainsFunc_Waiter k x0 x1 = some r) : Calls Try.prog 34 #[h0, .func (.func F1) #[] C1] w (fun e w' => ∃ v, e = .returned v ∧ v = .bool r ∧ G [] w w') := by
  refine enterF Try.func34 rfl rfl fun a0 z0 A => ?_
  have s0_0 := A 0 (h0) rfl
  have s0_1 := A 1 (.func (.func F1) #[] C1) rfl
  clear A
  have c0 : Cx [] w L w := ⟨G.refl _ _, hL⟩
  unfold slices_ContainsFunc_Waiter at h
  refine wp_seq ?_
  refine reg ?_
  refine s1 z0 (okAs cst) rfl fun a1 p2 s3 => ?_
  refine rN (thenN ?_)
  refine wp_seq ?_
  refine reg ?_
  have s4 := p2.o s0_0 rfl
  refine s1 p2.z (okMv s4) rfl fun a5 p6 s7 => ?_
  have s8 := p6.o (p2.o s0_1 rfl) rfl
  refine s1 p6.z (okMv s8) rfl fun a9 p10 s11 => ?_
  have s12 := p10.o s7 rfl
  obtain ⟨t13, ht14, h⟩ := Option.bind_eq_some_iff.1 h
  refine lS (oCall p10.z Try.call38 (ag2 s12 s11) (c38 k L w c0.lt _ _ qh0 x1 F1 C1 E1 (fun L' w' g hl => H1 L' w' (c0.g.tr0 g) hl) _ ht14) rfl fun v18 a15 w16 hp19 p17 sp17 => ?_)
  obtain ⟨rfl, g20⟩ := hp19
  have cx21 := c0.ca g20
  refine s1 p17.z (okGe sp17 cst) rfl fun a22 p23 s24 => ?_
  refine s1 p23.z (okAs s24) rfl fun a25 p26 s27 => ?_
  refine rN (thenN ?_)
  obtain rfl := Option.some.inj h
  exact wp_ret (ret1 p26.z Try.results34 (rvT s27) ⟨_, rfl, rfl, cx21.g⟩)

set_option maxHeartbeats 4000000 in
theorem c35 (L : List Nat) (w : World) (hL : ∀ b ∈ L, b < w.heap.size) (x0 : TWaiter) (B0 : Nat) (c0_ : Int) (M0 : Bk w B0 [.int .i64 c0_] 3) (r : Bool) (h : model_waits_1 x0 c0_ = some r) : Calls Try.prog 35 #[.agg (TWaiter.C x0).toArray, ptr B0 0] w (fun e w' => ∃ v, e = .returned v ∧ v = .bool r ∧ G [] w w') := by
  refine enterF Try.func35 rfl rfl fun a0 z0 A => ?_
  have s0_0 := A 0 (.agg (TWaiter.C x0).toArray) rfl
  have s0_1 := A 1 (ptr B0 0) rfl
  clear A
  have c0 : Cx [] w L w := ⟨G.refl _ _, hL⟩
  unfold model_waits_1 at h
  refine wp_seq ?_
  refine reg ?_
  refine lS (oBox (l := TWaiter.C x0) z0 s0_0 rfl rfl fun a1 w2 b3 p4 sp4 m5 g6 e7 => ?_)
  have f9 := c0.nw e7
  have cx8 := c0.al g6 m5
  refine s1 p4.z (okAs cst) rfl fun a10 p11 s12 => ?_
  refine rN (thenN ?_)
  refine wp_seq ?_
  refine reg ?_
  have s13 := p11.o sp4 rfl
  refine s1 p11.z (okFA (o' := 0) fo45_0 s13 rfl) rfl fun a14 p15 s16 => ?_
  refine s1 p15.z (okLd (j := 0) na3 s16 (m5.cl) rfl rfl) rfl fun a17 p18 s19 => ?_
  have s20 := p18.o (p15.o (p11.o (p4.o s0_1 rfl) rfl) rfl) rfl
  have m21 := M0.g0 g6
  refine s1 p18.z (okLd (j := 0) na3 s20 (m21.cl) rfl rfl) rfl fun a22 p23 s24 => ?_
  have s25 := p23.o s19 rfl
  refine s1 p23.z (okEq s25 s24) rfl fun a26 p27 s28 => ?_
  refine s1 p27.z (okAs s28) rfl fun a29 p30 s31 => ?_
  refine rN (thenN ?_)
  obtain rfl := Option.some.inj h
  exact wp_ret (ret1 p30.z Try.results35 (rvT s31) ⟨_, rfl, rfl, cx8.g⟩)

set_option maxHeartbeats 4000000 in
theorem c30 (k : Nat) (L : List Nat) (w : World) (hL : ∀ b ∈ L, b < w.heap.size) (x0 : TThing) (h0_0 : Value) (qh0_0 : RdS KTWaiter L w h0_0 x0.waiters) (x1 : Int) (r : Bool) (h : model_waits k x0 x1 = some r) : Calls Try.prog 30 #[.agg (TThing.C x0 h0_0).toArray, .int .i64 x1] w (fun e w' => ∃ v, e = .returned v ∧ v = .bool r ∧ G [] w w') := by
  refine enterF Try.func30 rfl rfl fun a0 z0 A => ?_
  have s0_0 := A 0 (.agg (TThing.C x0 h0_0).toArray) rfl
  have s0_1 := A 1 (.int .i64 x1) rfl
  clear A
  have c0 : Cx [] w L w := ⟨G.refl _ _, hL⟩
  unfold model_waits at h
  refine wp_seq ?_
  refine reg ?_
  refine lS (oBox (l := TThing.C x0 h0_0) z0 s0_0 rfl rfl fun a1 w2 b3 p4 sp4 m5 g6 e7 => ?_)
  have f9 := c0.nw e7
  have cx8 := c0.al g6 m5
  have s10 := p4.o s0_1 rfl
  refine lS (oBox (l := [.int .i64 x1]) p4.z s10 rfl rfl fun a11 w12 b13 p14 sp14 m15 g16 e17 => ?_)
  have f19 := cx8.nw e17
  have cx18 := cx8.al g16 m15
  refine s1 p14.z (okAs cst) rfl fun a20 p21 s22 => ?_
  refine rN (thenN ?_)
  refine wp_seq ?_
  refine reg ?_
  have s23 := p21.o (p14.o sp4 rfl) rfl
  refine s1 p21.z (okFA (o' := 12) fo25_5 s23 rfl) rfl fun a24 p25 s26 => ?_
  have m27 := m5.g0 g16
  refine s1 p25.z (okLd (j := 12) na23 s26 (m27.cl) rfl rfl) rfl fun a28 p29 s30 => ?_
  have s31 := p29.o (p25.o (p21.o sp14 rfl) rfl) rfl
  refine s1 p29.z (okFn (cs := #[ptr b13 0]) (ag1 s31)) rfl fun a32 p33 s34 => ?_
  have s35 := p33.o s30 rfl
  have q36 := qh0_0.mono ((g6.tA (Nat.le_of_eq e7.symm)).trans (g16.tA (Nat.le_of_eq e17.symm)))
  obtain ⟨t37, ht38, h⟩ := Option.bind_eq_some_iff.1 h
  refine lS (oCall p33.z Try.call34 (ag2 s35 s34) (c34 k (b13 :: b3 :: L) w12 cx18.lt _ _ q36 (fun y0 => model_waits_1 y0 x1) 35 #[ptr b13 0] Try.call35 (fun L' w' g hl y0 s hs => c35 L' w' hl y0 _ _ (m15.g0 g) s hs) _ ht38) rfl fun v42 a39 w40 hp43 p41 sp41 => ?_)
  obtain ⟨rfl, g44⟩ := hp43
  have cx45 := cx18.ca g44
  refine s1 p41.z (okAs sp41) rfl fun a46 p47 s48 => ?_
  refine rN (thenN ?_)
  obtain rfl := Option.some.inj h
  exact wp_ret (ret1 p47.z Try.results30 (rvT s48) ⟨_, rfl, rfl, cx45.g⟩)

set_option maxHeartbeats 4000000 in
theorem c31 (L : List Nat) (w : World) (hL : ∀ b ∈ L, b < w.heap.size) (x0 : TThing) (h0_0 : Value) (qh0_0 : RdS KTWaiter L w h0_0 x0.waiters) (r : TThing) (h : model_free x0 = some r) : Calls Try.prog 31 #[.agg (TThing.C x0 h0_0).toArray] w (fun e w' => ∃ v, e = .returned v ∧ ∃ u_0, v = .agg (TThing.C r u_0).toArray ∧ RdS KTWaiter L w' u_0 r.waiters ∧ G [] w w') := by
  refine enterF Try.func31 rfl rfl fun a0 z0 A => ?_
  have s0_0 := A 0 (.agg (TThing.C x0 h0_0).toArray) rfl
  clear A
  have c0 : Cx [] w L w := ⟨G.refl _ _, hL⟩
  unfold model_free at h
  refine wp_seq ?_
  refine reg ?_
  refine lS (oBox (l := TThing.C x0 h0_0) z0 s0_0 rfl rfl fun a1 w2 b3 p4 sp4 m5 g6 e7 => ?_)
  have f9 := c0.nw e7
  have cx8 := c0.al g6 m5
  refine lS (oAlloc zv25 p4.z rfl fun a10 w11 b12 p13 sp13 m14 g15 e16 => ?_)
  have f18 := cx8.nw e16
  have cx17 := cx8.al g15 m14
  refine rN (thenN ?_)
  refine wp_seq ?_
  refine reg ?_
  have s19 := p13.o sp4 rfl
  refine s1 p13.z (okFA (o' := 3) fo25_3 s19 rfl) rfl fun a20 p21 s22 => ?_
  have m23 := m5.g0 g15
  refine s1 p21.z (okLd (j := 3) na3 s22 (m23.cl) rfl rfl) rfl fun a24 p25 s26 => ?_
  refine s1 p25.z (okSub s26 cst) rfl fun a27 p28 s29 => ?_
  have s30 := p28.o (p25.o (p21.o s19 rfl) rfl) rfl
  refine s1 p28.z (okFA (o' := 3) fo25_3 s30 rfl) rfl fun a31 p32 s33 => ?_
  have s34 := p32.o s29 rfl
  refine lS (oSto (cs := [.int .i64 (w64 (x0.holds - 1))]) (l' := TThing.C ({ x0 with holds := w64 (x0.holds - 1) }) h0_0) p32.z s33 s34 m23 Try.sizeOf3 rfl one1 rfl rfl fun w35 m36 g37 => ?_)
  have cx38 := cx17.st g37 f9
  refine rN (thenN ?_)
  refine wp_seq ?_
  refine wp_seq ?_
  refine reg ?_
  have s39 := p32.o s30 rfl
  refine s1 p32.z (okFA (o' := 3) fo25_3 s39 rfl) rfl fun a40 p41 s42 => ?_
  refine s1 p41.z (okLd (j := 3) na3 s42 (m36.cl) rfl rfl) rfl fun a43 p44 s45 => ?_
  refine s1 p44.z (okEq s45 cst) rfl fun a46 p47 s48 => ?_
  refine rN (thenN ?_)
  have s49 := p47.o (p44.o (p41.o s39 rfl) rfl) rfl
  have s50 := p47.o (p44.o (p41.o (p32.o (p28.o (p25.o (p21.o sp13 rfl) rfl) rfl) rfl) rfl) rfl) rfl
  have pg51 : Pg _ [1, 2, 3, 4, 5, 6, 7, 8, 9] _ _ := ((((((((((Pg.refl z0).st p4 rfl).st p13 rfl).st p21 rfl).st p25 rfl).st p28 rfl).st p32 rfl).st p41 rfl).st p44 rfl).st p47 rfl)
  refine cnd s48 (fun hb52 => ?_) (fun hb52 => ?_)
  · replace h := (ifP hb52).symm.trans h
    refine reg ?_
    refine s1 pg51.z (okFA (o' := 2) fo25_2 s49 rfl) rfl fun a53 p54 s55 => ?_
    refine lS (oSto (cs := [.int .i64 (-1)]) (l' := TThing.C ({ x0 with owner := (-1), holds := w64 (x0.holds - 1) }) h0_0) p54.z s55 cst m36 Try.sizeOf3 rfl one1 rfl rfl fun w56 m57 g58 => ?_)
    have cx59 := cx38.st g58 f9
    refine rN (thenN ?_)
    refine wp_seq ?_
    refine reg ?_
    have s60 := p54.o s49 rfl
    refine s1 p54.z (okLdA ag25 s60 (m57.cl) rfl rfl whole) rfl fun a61 p62 s63 => ?_
    have s64 := p62.o (p54.o s50 rfl) rfl
    have m65 := (m14.g1 g37 (m5.ne e16).symm).g1 g58 (m5.ne e16).symm
    have q66 := qh0_0.mono ((((g6.tA (Nat.le_of_eq e7.symm)).trans (g15.tA (Nat.le_of_eq e16.symm))).trans (g37.t1 (.tail _ (.head _)))).trans (g58.t1 (.tail _ (.head _))))
    refine lS (oStoW (cs := TThing.C ({ x0 with owner := (-1), holds := w64 (x0.holds - 1) }) h0_0) p62.z s64 s63 m65 Try.sizeOf25 rfl (TThing.C_one _ q66.one) rfl fun w67 m68 g69 => ?_)
    have cx70 := cx59.st g69 f18
    refine rN (thenN ?_)
    obtain rfl := Option.some.inj h
    have q71 := q66.mono (g69.t1 (.head _))
    exact wp_ret (ret1 p62.z Try.results31 (rvA ag25 s64 m68 rfl) ⟨_, rfl, h0_0, rfl, (q71.mono ((Tr.refl _ _).sub (fun i h => (.tail _ (.tail _ h))))), cx70.g⟩)
  replace h := (ifN hb52).symm.trans h
  refine wp_skip (thenN ?_)
  refine wp_seq ?_
  refine reg ?_
  refine s1 pg51.z (okLdA ag25 s49 (m36.cl) rfl rfl whole) rfl fun a72 p73 s74 => ?_
  have s75 := p73.o s50 rfl
  have m76 := m14.g1 g37 (m5.ne e16).symm
  have q77 := qh0_0.mono (((g6.tA (Nat.le_of_eq e7.symm)).trans (g15.tA (Nat.le_of_eq e16.symm))).trans (g37.t1 (.tail _ (.head _))))
  refine lS (oStoW (cs := TThing.C ({ x0 with holds := w64 (x0.holds - 1) }) h0_0) p73.z s75 s74 m76 Try.sizeOf25 rfl (TThing.C_one _ q77.one) rfl fun w78 m79 g80 => ?_)
  have cx81 := cx38.st g80 f18
  refine rN (thenN ?_)
  obtain rfl := Option.some.inj h
  have q82 := q77.mono (g80.t1 (.head _))
  exact wp_ret (ret1 p73.z Try.results31 (rvA ag25 s75 m79 rfl) ⟨_, rfl, h0_0, rfl, (q82.mono ((Tr.refl _ _).sub (fun i h => (.tail _ (.tail _ h))))), cx81.g⟩)

set_option maxHeartbeats 4000000 in
theorem c36 (k : Nat) (L : List Nat) (w : World) (hL : ∀ b ∈ L, b < w.heap.size) (x0 : List TWaiter) (h0 : Value) (qh0 : OwnS KTWaiter 45 (ownB h0 ++ L) w h0 x0) (nbh0 : ∀ x ∈ ownB h0, x ∉ L) (x1 : (TWaiter → Option Bool)) (F1 : FuncId) (C1 : Array Value) (E1 : Enter Try.prog F1) (H1 : ∀ (L' : List Nat) (w' : World), G (ownB h0) w w' → (∀ b ∈ L', b < w'.heap.size) → ∀ (y0 : TWaiter) (s : Bool), x1 y0 = some s → Calls Try.prog F1 (#[.agg (TWaiter.C y0).toArray] ++ C1) w' (fun e w'' => ∃ v, e = .returned v ∧ v = .bool s ∧ G [] w' w'')) (r : (List TWaiter)) (h : slices_DeleteFunc_Waiter k x0 x1 = some r) : Calls Try.prog 36 #[h0, .func (.func F1) #[] C1] w (fun e w' => ∃ v, e = .returned v ∧ RdS KTWaiter L w' v r ∧ G (ownB h0) w w') := by
  refine enterF Try.func36 rfl rfl fun a0 z0 A => ?_
  have s0_0 := A 0 (h0) rfl
  have s0_1 := A 1 (.func (.func F1) #[] C1) rfl
  clear A
  have c0 : Cx (ownB h0) w (ownB h0 ++ L) w := ⟨G.refl _ _, (fun i h => ((List.mem_append.1 h).elim (fun h => qh0.lt i h) (fun h => (hL i h))))⟩
  unfold slices_DeleteFunc_Waiter at h
  refine wp_seq ?_
  refine reg ?_
  refine s1 z0 (okAs cst) rfl fun a1 p2 s3 => ?_
  refine rN (thenN ?_)
  refine wp_seq ?_
  refine reg ?_
  have s4 := p2.o s0_0 rfl
  refine s1 p2.z (okMv s4) rfl fun a5 p6 s7 => ?_
  have s8 := p6.o (p2.o s0_1 rfl) rfl
  refine s1 p6.z (okMv s8) rfl fun a9 p10 s11 => ?_
  have s12 := p10.o s7 rfl
  obtain ⟨t13, ht14, h⟩ := Option.bind_eq_some_iff.1 h
  refine lS (oCall p10.z Try.call38 (ag2 s12 s11) (c38 k L w (fun b h => c0.lt b ((fun i h => (List.mem_append_right _ h)) b h)) _ _ (qh0.rd (fun i h => (List.mem_append_right _ h)) (fun b hb => nbh0 _ hb)) x1 F1 C1 E1 (fun L' w' g hl => H1 L' w' (c0.g.tr0 g) hl) _ ht14) rfl fun v18 a15 w16 hp19 p17 sp17 => ?_)
  obtain ⟨rfl, g20⟩ := hp19
  have cx21 := c0.ca g20
  refine s1 p17.z (okAs sp17) rfl fun a22 p23 s24 => ?_
  refine rN (thenN ?_)
  refine wp_seq ?_
  refine wp_seq ?_
  refine reg ?_
  refine s1 p23.z (okMv s24) rfl fun a25 p26 s27 => ?_
  refine s1 p26.z (okEq s27 cst) rfl fun a28 p29 s30 => ?_
  refine rN (thenN ?_)
  have s31 := p29.o (p26.o (p23.o (p17.o (p10.o (p6.o s4 rfl) rfl) rfl) rfl) rfl) rfl
  have s32 := p29.o (p26.o (p23.o (p17.o (p10.o s8 rfl) rfl) rfl) rfl) rfl
  have s33 := p29.o (p26.o (p23.o (p17.o (p10.o (p6.o s3 rfl) rfl) rfl) rfl) rfl) rfl
  have s34 := p29.o (p26.o s24 rfl) rfl
  have pg35 : Pg _ [4, 5, 8, 9, 10, 11, 12] _ _ := ((((((((Pg.refl z0).st p2 rfl).st p6 rfl).st p10 rfl).st p17 rfl).st p23 rfl).st p26 rfl).st p29 rfl)
  refine cnd s30 (fun hb36 => ?_) (fun hb36 => ?_)
  · replace h := (ifP hb36).symm.trans h
    refine wp_seq ?_
    refine reg ?_
    refine s1 pg35.z (okMv s31) rfl fun a37 p38 s39 => ?_
    refine s1 p38.z (okAs s39) rfl fun a40 p41 s42 => ?_
    refine rN (thenN ?_)
    obtain rfl := Option.some.inj h
    have q43 := qh0.t0 g20.t0 g20
    exact wp_ret (thenR (ret1 p41.z Try.results36 (rvT s42) ⟨_, rfl, (q43.rd (fun i h => (List.mem_append_right _ h)) nbh0), cx21.g⟩))
  replace h := (ifN hb36).symm.trans h
  refine wp_skip (thenN ?_)
  refine wp_seq ?_
  refine wp_seq ?_
  refine reg ?_
  refine s1 pg35.z (okMv s34) rfl fun a44 p45 s46 => ?_
  refine s1 p45.z (okAdd s46 cst) rfl fun a47 p48 s49 => ?_
  refine s1 p48.z (okAs s49) rfl fun a50 p51 s52 => ?_
  refine rN (thenN ?_)
  refine wp_block ?_
  obtain ⟨o56, ho57, h⟩ := Option.bind_eq_some_iff.1 h
  have s60 := p51.o (p48.o (p45.o s31 rfl) rfl) rfl
  have s61 := p51.o (p48.o (p45.o s32 rfl) rfl) rfl
  have s62 := p51.o (p48.o (p45.o s33 rfl) rfl) rfl
  have s63 := p51.o (p48.o (p45.o s34 rfl) rfl) rfl
  have q64 := qh0.t0 g20.t0 g20
  refine loopX (I := (fun k' a' w' => ∃ i53 i54 i55 h58, Z Try.f36.ntmps a' ∧ a'.eval (.tmp 0) = h58 ∧ a'.eval (.tmp 1) = .func (.func F1) #[] C1 ∧ a'.eval (.tmp 4) = .slice none 0 0 ∧ a'.eval (.tmp 5) = .int .i64 i54 ∧ a'.eval (.tmp 6) = .int .i64 i55 ∧ OwnS KTWaiter 45 (ownB h58 ++ L) w' h58 i53 ∧ Cx (ownB h0) w (ownB h58 ++ L) w' ∧ (∀ x ∈ ownB h58, x ∉ L) ∧ (∀ x ∈ ownB h58, x ∈ (ownB h0) ∨ w.heap.size ≤ x) ∧ slices_DeleteFunc_Waiter.l0 x1 k' i53 i54 i55 = some o56)) 0 (fun a' w' => ∃ h59, Z Try.f36.ntmps a' ∧ a'.eval (.tmp 0) = h59 ∧ a'.eval (.tmp 4) = .slice none 0 0 ∧ a'.eval (.tmp 5) = .int .i64 o56.2 ∧ OwnS KTWaiter 45 (ownB h59 ++ L) w' h59 o56.1 ∧ Cx (ownB h0) w (ownB h59 ++ L) w' ∧ (∀ x ∈ ownB h59, x ∉ L) ∧ (∀ x ∈ ownB h59, x ∈ (ownB h0) ∨ w.heap.size ≤ x)) ⟨x0, t13, (w64 (t13 + 1)), h0, p51.z, s60, s61, s62, s63, s52, q64, cx21, nbh0, (fun _ h => .inl h), ho57⟩ ?_ ?_
  · have oh76 := h; clear h ho57
    rintro k65 a66 w67 ⟨i53, i54, i55, h58, z68, s69, s70, s71, s72, s73, q74, cx75, n77, n78, h⟩
    obtain _ | k := k65
    case zero => cases h
    rw [slices_DeleteFunc_Waiter.l0] at h
    refine wp_seq ?_
    refine wp_seq ?_
    refine reg ?_
    refine s1 z68 (okMv s73) rfl fun a79 p80 s81 => ?_
    have s82 := p80.o s69 rfl
    refine s1 p80.z (okMv s82) rfl fun a83 p84 s85 => ?_
    refine s1 p84.z (okLenO (E2 := 45) Try.underlying23 s85 q74) rfl fun a86 p87 s88 => ?_
    have s89 := p87.o (p84.o s81 rfl) rfl
    refine s1 p87.z (okLt s89 s88) rfl fun a90 p91 s92 => ?_
    refine rN (thenN ?_)
    have s93 := p91.o (p87.o (p84.o s82 rfl) rfl) rfl
    have s94 := p91.o s89 rfl
    have s95 := p91.o (p87.o s85 rfl) rfl
    have s96 := p91.o s88 rfl
    have pg97 : Pg _ [16, 17, 18, 19] _ _ := (((((Pg.refl z68).st p80 rfl).st p84 rfl).st p87 rfl).st p91 rfl)
    refine cnd s92 (fun hb98 => ?_) (fun hb98 => ?_)
    · replace h := (ifP hb98).symm.trans h
      refine wp_skip (thenN ?_)
      refine wp_seq ?_
      refine wp_block ?_
      refine wp_seq ?_
      refine reg ?_
      refine s1 pg97.z (okMv s93) rfl fun a99 p100 s101 => ?_
      have s102 := p100.o (pg97.o s73 rfl) rfl
      refine s1 p100.z (okMv s102) rfl fun a103 p104 s105 => ?_
      have s106 := p104.o s101 rfl
      obtain ⟨y107, hy108, h⟩ := Option.bind_eq_some_iff.1 h
      obtain ⟨b109, cs111, r113, e114, nb115, k112⟩ := q74.at_ hy108
      obtain rfl := r113
      refine s1 p104.z (k112 Try.underlying23 Try.sizeOf45 s106 s105 _) rfl fun a116 p117 s118 => ?_
      refine s1 p117.z (okLdA ag45 s118 e114 rfl rfl whole) rfl fun a119 p120 s121 => ?_
      refine lS (oAlloc zv45 p120.z rfl fun a122 w123 b124 p125 sp125 m126 g127 e128 => ?_)
      have f130 := cx75.nw e128
      have cx129 := cx75.al g127 m126
      have s131 := p125.o s121 rfl
      refine lS (oStoW (cs := TWaiter.C y107) p125.z sp125 s131 m126 Try.sizeOf45 rfl (TWaiter.C_one _) rfl fun w132 m133 g134 => ?_)
      have cx135 := cx129.st g134 f130
      refine rN (thenN ?_)
      refine wp_seq ?_
      refine reg ?_
      have s136 := p125.o (p120.o (p117.o (p104.o (p100.o (pg97.o s70 rfl) rfl) rfl) rfl) rfl) rfl
      refine s1 p125.z (okMv s136) rfl fun a137 p138 s139 => ?_
      have s140 := p138.o sp125 rfl
      refine s1 p138.z (okLdA ag45 s140 (m133.cl) rfl rfl whole) rfl fun a141 p142 s143 => ?_
      have s144 := p142.o s139 rfl
      obtain ⟨t145, ht146, h⟩ := Option.bind_eq_some_iff.1 h
      refine lS (oCallV p142.z s144 E1 (ag1 s143) (H1 (b124 :: ownB h58 ++ L) w132 cx135.g cx135.lt _ _ ht146) rfl fun v150 a147 w148 hp151 p149 sp149 => ?_)
      obtain ⟨rfl, g152⟩ := hp151
      have cx153 := cx135.ca g152
      refine s1 p149.z (okNot sp149) rfl fun a154 p155 s156 => ?_
      refine rN (thenN ?_)
      have s157 := p155.o (p149.o (p142.o (p138.o s136 rfl) rfl) rfl) rfl
      have s158 := p155.o (p149.o (p142.o (p138.o (p125.o (p120.o (p117.o (p104.o s102 rfl) rfl) rfl) rfl) rfl) rfl) rfl) rfl
      have s159 := p155.o (p149.o (p142.o (p138.o (p125.o (p120.o (p117.o s106 rfl) rfl) rfl) rfl) rfl) rfl) rfl
      have s160 := p155.o (p149.o (p142.o (p138.o (p125.o (p120.o (p117.o s105 rfl) rfl) rfl) rfl) rfl) rfl) rfl
      have s161 := p155.o (p149.o (p142.o (p138.o (p125.o (p120.o s118 rfl) rfl) rfl) rfl) rfl) rfl
      have s162 := p155.o (p149.o (p142.o (p138.o s131 rfl) rfl) rfl) rfl
      have s163 := p155.o (p149.o (p142.o s140 rfl) rfl) rfl
      have s164 := p155.o (p149.o s144 rfl) rfl
      have s165 := p155.o (p149.o s143 rfl) rfl
      have s166 := p155.o sp149 rfl
      have pg167 : Pg _ [7, 22, 23, 24, 25, 26, 27, 28, 29] _ _ := ((((((((((Pg.refl pg97.z).st p100 rfl).st p104 rfl).st p117 rfl).st p120 rfl).st p125 rfl).st p138 rfl).st p142 rfl).st p149 rfl).st p155 rfl)
      refine cnd s156 (fun hb168 => ?_) (fun hb168 => ?_)
      · replace h := (ifP hb168).symm.trans h
        refine wp_seq ?_
        refine reg ?_
        have s169 := pg167.o s93 rfl
        refine s1 pg167.z (okMv s169) rfl fun a170 p171 s172 => ?_
        have s173 := p171.o (pg167.o (pg97.o s72 rfl) rfl) rfl
        refine s1 p171.z (okMv s173) rfl fun a174 p175 s176 => ?_
        have s177 := p175.o (p171.o s163 rfl) rfl
        have m178 := m133.g0 g152
        refine s1 p175.z (okLdA ag45 s177 (m178.cl) rfl rfl whole) rfl fun a179 p180 s181 => ?_
        have s182 := p180.o (p175.o s172 rfl) rfl
        have s183 := p180.o s176 rfl
        have q184 := ((q74.t0 (g127.tA (Nat.le_of_eq e128.symm)) g127).t1 (g134.t1 (.head _)) g134 (q74.nb e128)).t0 g152.t0 g152
        obtain ⟨y185, hy186, h⟩ := Option.bind_eq_some_iff.1 h
        obtain ⟨b187, cs189, r191, e192, nb193, k190⟩ := q184.at_ hy186
        obtain rfl := r191
        refine s1 p180.z (k190 Try.underlying23 Try.sizeOf45 s182 s183 _) rfl fun a194 p195 s196 => ?_
        have s197 := p195.o s181 rfl
        refine lS (oStoE (K := KTWaiter) (e' := y107) (vs := TWaiter.C y107) (j := 0) p195.z s196 s197 q184 hy186 nb193 e192 (fun _ h => (.tail _ (List.mem_append_left _ h))) rfl Try.sizeOf45 rfl (TWaiter.C_one _) rfl rfl rfl rfl fun w198 q199 g200 => ?_)
        have cx201 := cx153.cs g200 n78
        refine rN (thenN ?_)
        refine reg ?_
        have s202 := p195.o (p180.o (p175.o s173 rfl) rfl) rfl
        refine s1 p195.z (okMv s202) rfl fun a203 p204 s205 => ?_
        refine s1 p204.z (okAdd s205 cst) rfl fun a206 p207 s208 => ?_
        refine s1 p207.z (okAs s208) rfl fun a209 p210 s211 => ?_
        refine rN (blkN (thenN ?_))
        refine reg ?_
        have s212 := p210.o (p207.o (p204.o (p195.o (p180.o (p175.o (p171.o s158 rfl) rfl) rfl) rfl) rfl) rfl) rfl
        refine s1 p210.z (okMv s212) rfl fun a213 p214 s215 => ?_
        refine s1 p214.z (okAdd s215 cst) rfl fun a216 p217 s218 => ?_
        refine s1 p217.z (okAs s218) rfl fun a219 p220 s221 => ?_
        have s222 := p220.o (p217.o (p214.o (p210.o (p207.o (p204.o (p195.o (p180.o (p175.o (p171.o s169 rfl) rfl) rfl) rfl) rfl) rfl) rfl) rfl) rfl) rfl
        have s223 := p220.o (p217.o (p214.o (p210.o (p207.o (p204.o (p195.o (p180.o (p175.o (p171.o s157 rfl) rfl) rfl) rfl) rfl) rfl) rfl) rfl) rfl) rfl
        have s224 := p220.o (p217.o (p214.o (p210.o (p207.o (p204.o (p195.o (p180.o (p175.o (p171.o (pg167.o (pg97.o s71 rfl) rfl) rfl) rfl) rfl) rfl) rfl) rfl) rfl) rfl) rfl) rfl
        have s225 := p220.o (p217.o (p214.o s211 rfl) rfl) rfl
        exact rN (thenN ⟨k, Nat.lt_succ_self k, (i53.set i54.toNat y107), (w64 (i54 + 1)), (w64 (i55 + 1)), h58, p220.z, s222, s223, s224, s225, s221, (q199.sub (fun i h => (.tail _ h))), (cx201.sub (fun i h => (.tail _ h))), n77, n78, h⟩)
      replace h := (ifN hb168).symm.trans h
      refine wp_skip (blkN (thenN ?_))
      refine reg ?_
      refine s1 pg167.z (okMv s158) rfl fun a226 p227 s228 => ?_
      refine s1 p227.z (okAdd s228 cst) rfl fun a229 p230 s231 => ?_
      refine s1 p230.z (okAs s231) rfl fun a232 p233 s234 => ?_
      have s235 := p233.o (p230.o (p227.o (pg167.o s93 rfl) rfl) rfl) rfl
      have s236 := p233.o (p230.o (p227.o s157 rfl) rfl) rfl
      have s237 := p233.o (p230.o (p227.o (pg167.o (pg97.o s71 rfl) rfl) rfl) rfl) rfl
      have s238 := p233.o (p230.o (p227.o (pg167.o (pg97.o s72 rfl) rfl) rfl) rfl) rfl
      have q239 := ((q74.t0 (g127.tA (Nat.le_of_eq e128.symm)) g127).t1 (g134.t1 (.head _)) g134 (q74.nb e128)).t0 g152.t0 g152
      exact rN (thenN ⟨k, Nat.lt_succ_self k, i53, i54, (w64 (i55 + 1)), h58, p233.z, s235, s236, s237, s238, s234, (q239.sub (fun i h => (.tail _ h))), (cx153.sub (fun i h => (.tail _ h))), n77, n78, h⟩)
    replace h := (ifN hb98).symm.trans h
    obtain rfl := Option.some.inj h
    have s240 := pg97.o s71 rfl
    have s241 := pg97.o s72 rfl
    exact wp_exit (thenE (thenE (jqE ⟨h58, pg97.z, s93, s240, s241, q74, cx75, n77, n78⟩)))
  clear ho57
  rintro a242 w243 ⟨h59, z244, s245, s246, s247, q248, cx249, n250, n251⟩
  refine blkE (thenN ?_)
  refine wp_seq ?_
  refine reg ?_
  refine s1 z244 (okMv s245) rfl fun a252 p253 s254 => ?_
  have s255 := p253.o s247 rfl
  refine s1 p253.z (okMv s255) rfl fun a256 p257 s258 => ?_
  have s259 := p257.o s254 rfl
  obtain ⟨z260, hz261, h⟩ := Option.bind_eq_some_iff.1 h
  obtain ⟨v262, tl264, k263⟩ := q248.tl (lo := (some (.tmp 37))) (hi := none) hz261
  refine s1 p257.z (k263 Try.underlying23 Try.sizeOf45 s259 (.inr ⟨_, congrArg some s258⟩) (.inl ⟨rfl, rfl⟩) _) rfl fun a265 p266 s267 => ?_
  refine lS (oClear (K := KTWaiter) (x0 := (⟨0, 0⟩ : TWaiter)) s267 q248 tl264 (slc_tl hz261) (fun _ h => (List.mem_append_left _ h)) Try.underlying23 zv45 (fun _ => rfl) fun w268 q269 g270 => ?_)
  have cx271 := cx249.cs g270 n251
  refine rN (thenN ?_)
  refine wp_seq ?_
  refine reg ?_
  have s272 := p266.o (p257.o (p253.o s245 rfl) rfl) rfl
  refine s1 p266.z (okMv s272) rfl fun a273 p274 s275 => ?_
  have s276 := p274.o (p266.o (p257.o s255 rfl) rfl) rfl
  refine s1 p274.z (okMv s276) rfl fun a277 p278 s279 => ?_
  have s280 := p278.o s275 rfl
  obtain ⟨z281, hz282, h⟩ := Option.bind_eq_some_iff.1 h
  obtain ⟨v283, q285, e286, k284⟩ := q269.slc (lo := none) (hi := (some (.tmp 40))) hz282
  have t287 : Tr (ownB h59 ++ L) w268 (ownB v283 ++ L) w268 := by rw [e286]; exact Tr.refl _ _
  have cx288 : Cx (ownB h0) w (ownB v283 ++ L) w268 := by rw [e286]; exact cx271
  have q289 : OwnS KTWaiter 45 (ownB v283 ++ L) w268 v283 z281 := by rw [e286]; exact q285
  have nb290 : ∀ x ∈ ownB v283, x ∉ L := by rw [e286]; exact n250
  have sf291 : ∀ x ∈ ownB v283, x ∈ ((ownB h0) : List Nat) ∨ w.heap.size ≤ x := by rw [e286]; exact n251
  refine s1 p278.z (k284 Try.underlying23 Try.sizeOf45 s280 (.inl ⟨rfl, rfl⟩) (.inr ⟨_, congrArg some s279⟩) _) rfl fun a292 p293 s294 => ?_
  refine s1 p293.z (okAs s294) rfl fun a295 p296 s297 => ?_
  refine rN (thenN ?_)
  obtain rfl := Option.some.inj h
  exact wp_ret (ret1 p296.z Try.results36 (rvT s297) ⟨_, rfl, (q289.rd (fun i h => (List.mem_append_right _ h)) nb290), cx288.g⟩)

set_option maxHeartbeats 4000000 in
theorem c37 (L : List Nat) (w : World) (hL : ∀ b ∈ L, b < w.heap.size) (x0 : TWaiter) (B0 : Nat) (c0_ : Int) (M0 : Bk w B0 [.int .i64 c0_] 3) (r : Bool) (h : model_signal_1 x0 c0_ = some r) : Calls Try.prog 37 #[.agg (TWaiter.C x0).toArray, ptr B0 0] w (fun e w' => ∃ v, e = .returned v ∧ v = .bool r ∧ G [] w w') := by
  refine enterF Try.func37 rfl rfl fun a0 z0 A => ?_
  have s0_0 := A 0 (.agg (TWaiter.C x0).toArray) rfl
  have s0_1 := A 1 (ptr B0 0) rfl
  clear A
  have c0 : Cx [] w L w := ⟨G.refl _ _, hL⟩
  unfold model_signal_1 at h
  refine wp_seq ?_
  refine reg ?_
  refine lS (oBox (l := TWaiter.C x0) z0 s0_0 rfl rfl fun a1 w2 b3 p4 sp4 m5 g6 e7 => ?_)
  have f9 := c0.nw e7
  have cx8 := c0.al g6 m5
  refine s1 p4.z (okAs cst) rfl fun a10 p11 s12 => ?_
  refine rN (thenN ?_)
  refine wp_seq ?_
  refine reg ?_
  have s13 := p11.o sp4 rfl
  refine s1 p11.z (okFA (o' := 0) fo45_0 s13 rfl) rfl fun a14 p15 s16 => ?_
  refine s1 p15.z (okLd (j := 0) na3 s16 (m5.cl) rfl rfl) rfl fun a17 p18 s19 => ?_
  have s20 := p18.o (p15.o (p11.o (p4.o s0_1 rfl) rfl) rfl) rfl
  have m21 := M0.g0 g6
  refine s1 p18.z (okLd (j := 0) na3 s20 (m21.cl) rfl rfl) rfl fun a22 p23 s24 => ?_
  have s25 := p23.o s19 rfl
  refine s1 p23.z (okEq s25 s24) rfl fun a26 p27 s28 => ?_
  refine s1 p27.z (okAs s28) rfl fun a29 p30 s31 => ?_
  refine rN (thenN ?_)
  obtain rfl := Option.some.inj h
  exact wp_ret (ret1 p30.z Try.results37 (rvT s31) ⟨_, rfl, rfl, cx8.g⟩)

set_option maxHeartbeats 4000000 in
theorem c32 (k : Nat) (L : List Nat) (w : World) (hL : ∀ b ∈ L, b < w.heap.size) (x0 : TThing) (h0_0 : Value) (qh0_0 : OwnS KTWaiter 45 (ownB h0_0 ++ L) w h0_0 x0.waiters) (nbh0_0 : ∀ x ∈ ownB h0_0, x ∉ L) (x1 : Int) (x2 : TNote) (r : TThing × Bool) (h : model_signal k x0 x1 x2 = some r) : Calls Try.prog 32 #[.agg (TThing.C x0 h0_0).toArray, .int .i64 x1, .agg (TNote.C x2).toArray] w (fun e w' => ∃ v, e = .returned v ∧ ∃ u_0, v = .tuple #[.agg (TThing.C r.1 u_0).toArray, .bool r.2] ∧ RdS KTWaiter L w' u_0 r.1.waiters ∧ G (ownB h0_0) w w') := by
  refine enterF Try.func32 rfl rfl fun a0 z0 A => ?_
  have s0_0 := A 0 (.agg (TThing.C x0 h0_0).toArray) rfl
  have s0_1 := A 1 (.int .i64 x1) rfl
  have s0_2 := A 2 (.agg (TNote.C x2).toArray) rfl
  clear A
  have c0 : Cx (ownB h0_0) w (ownB h0_0 ++ L) w := ⟨G.refl _ _, (fun i h => ((List.mem_append.1 h).elim (fun h => qh0_0.lt i h) (fun h => (hL i h))))⟩
  unfold model_signal at h
  refine wp_seq ?_
  refine reg ?_
  refine lS (oBox (l := TThing.C x0 h0_0) z0 s0_0 rfl rfl fun a1 w2 b3 p4 sp4 m5 g6 e7 => ?_)
  have f9 := c0.nw e7
  have cx8 := c0.al g6 m5
  have s10 := p4.o s0_1 rfl
  have q18 := qh0_0.t0 (g6.tA (Nat.le_of_eq e7.symm)) g6
  refine lS (oBox (l := [.int .i64 x1]) p4.z s10 rfl rfl fun a11 w12 b13 p14 sp14 m15 g16 e17 => ?_)
  have f20 := cx8.nw e17
  have cx19 := cx8.al g16 m15
  have s21 := p14.o (p4.o s0_2 rfl) rfl
  have m29 := m5.g0 g16
  have q30 := q18.t0 (g16.tA (Nat.le_of_eq e17.symm)) g16
  refine lS (oBox (l := TNote.C x2) p14.z s21 rfl rfl fun a22 w23 b24 p25 sp25 m26 g27 e28 => ?_)
  have f32 := cx19.nw e28
  have cx31 := cx19.al g27 m26
  have m40 := m29.g0 g27
  have m41 := m15.g0 g27
  have q42 := q30.t0 (g27.tA (Nat.le_of_eq e28.symm)) g27
  refine lS (oAlloc zv25 p25.z rfl fun a33 w34 b35 p36 sp36 m37 g38 e39 => ?_)
  have f44 := cx31.nw e39
  have cx43 := cx31.al g38 m37
  refine s1 p36.z (okAs cst) rfl fun a45 p46 s47 => ?_
  refine rN (thenN ?_)
  refine wp_seq ?_
  refine reg ?_
  have s48 := p46.o (p36.o (p25.o (p14.o sp4 rfl) rfl) rfl) rfl
  refine s1 p46.z (okFA (o' := 2) fo25_2 s48 rfl) rfl fun a49 p50 s51 => ?_
  have m52 := m40.g0 g38
  refine s1 p50.z (okLd (j := 2) na3 s51 (m52.cl) rfl rfl) rfl fun a53 p54 s55 => ?_
  have s56 := p54.o (p50.o (p46.o (p36.o (p25.o sp14 rfl) rfl) rfl) rfl) rfl
  have m57 := m41.g0 g38
  refine s1 p54.z (okLd (j := 0) na3 s56 (m57.cl) rfl rfl) rfl fun a58 p59 s60 => ?_
  have s61 := p59.o s55 rfl
  refine s1 p59.z (okEq s61 s60) rfl fun a62 p63 s64 => ?_
  refine s1 p63.z (okAs s64) rfl fun a65 p66 s67 => ?_
  refine rN (thenN ?_)
  refine wp_seq ?_
  refine wp_seq ?_
  refine reg ?_
  have s68 := p66.o (p63.o (p59.o (p54.o (p50.o (p46.o (p36.o sp25 rfl) rfl) rfl) rfl) rfl) rfl) rfl
  refine s1 p66.z (okFA (o' := 0) fo29_0 s68 rfl) rfl fun a69 p70 s71 => ?_
  have m72 := m26.g0 g38
  refine s1 p70.z (okLd (j := 0) na3 s71 (m72.cl) rfl rfl) rfl fun a73 p74 s75 => ?_
  refine rN (thenN ?_)
  refine wp_block ?_
  refine wp_seq ?_
  refine reg ?_
  refine s1 p74.z (okEq s75 cst) rfl fun a76 p77 s78 => ?_
  refine s1 p77.z (okAs s78) rfl fun a79 p80 s81 => ?_
  refine rN (thenN ?_)
  have s82 := p80.o (p77.o (p74.o (p70.o (p66.o (p63.o (p59.o (p54.o (p50.o s48 rfl) rfl) rfl) rfl) rfl) rfl) rfl) rfl) rfl
  have s83 := p80.o (p77.o (p74.o (p70.o (p66.o (p63.o (p59.o s56 rfl) rfl) rfl) rfl) rfl) rfl) rfl
  have s84 := p80.o (p77.o (p74.o (p70.o s68 rfl) rfl) rfl) rfl
  have s85 := p80.o (p77.o (p74.o (p70.o (p66.o (p63.o (p59.o (p54.o (p50.o (p46.o sp36 rfl) rfl) rfl) rfl) rfl) rfl) rfl) rfl) rfl) rfl
  have s86 := p80.o (p77.o (p74.o (p70.o (p66.o (p63.o (p59.o (p54.o (p50.o s47 rfl) rfl) rfl) rfl) rfl) rfl) rfl) rfl) rfl
  have s87 := p80.o (p77.o (p74.o (p70.o s67 rfl) rfl) rfl) rfl
  have s88 := p80.o (p77.o s75 rfl) rfl
  have pg89 : Pg _ [3, 4, 5, 6, 7, 8, 10, 11, 12, 13, 14, 15, 16, 17] _ _ := (((((((((((((((Pg.refl z0).st p4 rfl).st p14 rfl).st p25 rfl).st p36 rfl).st p46 rfl).st p50 rfl).st p54 rfl).st p59 rfl).st p63 rfl).st p66 rfl).st p70 rfl).st p74 rfl).st p77 rfl).st p80 rfl)
  refine cnd s81 (fun hb90 => ?_) (fun hb90 => ?_)
  · replace h := (ifP hb90).symm.trans h
    refine wp_seq ?_
    refine wp_seq ?_
    refine regS mixed (by kernel_rfl) ?_
    have g91 := G.drew w34
    have cx92 := cx43.ca g91
    refine t1 pg89.z (okMv s87) rfl fun a93 p94 s95 => ?_
    refine t1 p94.z (okNot s95) rfl fun a96 p97 s98 => ?_
    refine t1 p97.z (okMv s98) rfl fun a99 p100 s101 => ?_
    refine cutT 5 (fun a' => Pg Try.f32.ntmps [21, 22, 23, 24, 25] a99 a' ∧ a'.eval (.tmp 25) = .bool ((!(x0.owner == x1)) || ((x0.waiters.length : Int) == 0))) ?_ ?_
    · rcases bf (!(x0.owner == x1)) with hb102 | hb102
      · have s103 := bv s101 hb102
        have s104 := p100.o (p97.o (p94.o s82 rfl) rfl) rfl
        refine t1g p100.z (okFA (o' := 12) fo25_5 s104 rfl) rfl (yd p100.z rfl rfl s103) fun a105 p106 s107 => ?_
        have s108 := p106.o s103 rfl
        have m109 := m52.g0 g91
        refine t1g p106.z (okLd (j := 12) na23 s107 (m109.cl) rfl rfl) rfl (yd p106.z rfl rfl s108) fun a110 p111 s112 => ?_
        have s113 := p111.o s108 rfl
        have q114 := (q42.t0 (g38.tA (Nat.le_of_eq e39.symm)) g38).t0 g91.t0 g91
        refine t1g p111.z (okLenO (E2 := 45) Try.underlying23 s112 q114) rfl (yd p111.z rfl rfl s113) fun a115 p116 s117 => ?_
        have s118 := p116.o s113 rfl
        refine t1g p116.z (okEq s117 cst) rfl (yd p116.z rfl rfl s118) fun a119 p120 s121 => ?_
        have s122 := p120.o s118 rfl
        refine t1 p120.z (okPickF s122 s121) rfl fun a123 p124 s125 => ?_
        exact tN ⟨((((((Pg.refl p100.z).st p106 rfl).st p111 rfl).st p116 rfl).st p120 rfl).st p124 rfl), (orF hb102 s125)⟩
      · have s126 := bv s101 hb102
        refine t1k p100.z rfl (yd p100.z rfl rfl s126) rfl fun a127 p128 s129 => ?_
        have s130 := p128.o s126 rfl
        refine t1k p128.z rfl (yd p128.z rfl rfl s130) rfl fun a131 p132 s133 => ?_
        have s134 := p132.o s130 rfl
        refine t1k p132.z rfl (yd p132.z rfl rfl s134) rfl fun a135 p136 s137 => ?_
        have s138 := p136.o s134 rfl
        refine t1k p136.z rfl (yd p136.z rfl rfl s138) rfl fun a139 p140 s141 => ?_
        have s142 := p140.o s138 rfl
        refine t1 p140.z (okPickT s142 cst) rfl fun a143 p144 s145 => ?_
        exact tN ⟨((((((Pg.refl p100.z).st p128 rfl).st p132 rfl).st p136 rfl).st p140 rfl).st p144 rfl), (orT hb102 s145)⟩
    rintro a146 ⟨pg147, s148⟩
    refine t1 pg147.z (okMv s148) rfl fun a149 p150 s151 => ?_
    obtain ⟨b152, hb153, h⟩ := Option.bind_eq_some_iff.1 h
    refine cutT 9 (fun a' => Pg Try.f32.ntmps [27, 28, 29, 30, 31, 32, 33, 34, 35] a149 a' ∧ a'.eval (.tmp 35) = .bool b152) ?_ ?_
    · rcases bf ((!(x0.owner == x1)) || ((x0.waiters.length : Int) == 0)) with hb154 | hb154
      · have s155 := bv s151 hb154
        replace hb153 := (ifN hb154).symm.trans hb153
        clear h; have h := hb153; clear hb153
        have s156 := p150.o (pg147.o (p100.o (p97.o (p94.o s82 rfl) rfl) rfl) rfl) rfl
        refine t1g p150.z (okFA (o' := 12) fo25_5 s156 rfl) rfl (yd p150.z rfl rfl s155) fun a157 p158 s159 => ?_
        have s160 := p158.o s155 rfl
        have m161 := m52.g0 g91
        refine t1g p158.z (okLd (j := 12) na23 s159 (m161.cl) rfl rfl) rfl (yd p158.z rfl rfl s160) fun a162 p163 s164 => ?_
        have s165 := p163.o s160 rfl
        have q166 := (q42.t0 (g38.tA (Nat.le_of_eq e39.symm)) g38).t0 g91.t0 g91
        obtain ⟨y167, hy168, h⟩ := Option.bind_eq_some_iff.1 h
        obtain ⟨b169, cs171, r173, e174, nb175, k172⟩ := q166.at_ hy168
        obtain rfl := r173
        refine t1g p163.z (k172 Try.underlying23 Try.sizeOf45 s164 cst _) rfl (yd p163.z rfl rfl s165) fun a176 p177 s178 => ?_
        have s179 := p177.o s165 rfl
        refine t1g p177.z (okFA (o' := (0 : Int).toNat * 2) fo45_0 s178 rfl) rfl (yd p177.z rfl rfl s179) fun a180 p181 s182 => ?_
        have s183 := p181.o s179 rfl
        refine t1g p181.z (okLd (j := 0) na3 s182 e174 rfl rfl) rfl (yd p181.z rfl rfl s183) fun a184 p185 s186 => ?_
        have s187 := p185.o s183 rfl
        have s188 := p185.o (p181.o (p177.o (p163.o (p158.o (p150.o (pg147.o (p100.o (p97.o (p94.o s84 rfl) rfl) rfl) rfl) rfl) rfl) rfl) rfl) rfl) rfl
        refine t1g p185.z (okFA (o' := 1) fo29_1 s188 rfl) rfl (yd p185.z rfl rfl s187) fun a189 p190 s191 => ?_
        have s192 := p190.o s187 rfl
        have m193 := m72.g0 g91
        refine t1g p190.z (okLd (j := 1) na2 s191 (m193.cl) rfl rfl) rfl (yd p190.z rfl rfl s192) fun a194 p195 s196 => ?_
        have s197 := p195.o s192 rfl
        have s198 := p195.o (p190.o s186 rfl) rfl
        refine t1g p195.z (okNe s198 s196) rfl (yd p195.z rfl rfl s197) fun a199 p200 s201 => ?_
        have s202 := p200.o s197 rfl
        refine t1 p200.z (okPickF s202 s201) rfl fun a203 p204 s205 => ?_
        obtain rfl := Option.some.inj h
        exact tN ⟨((((((((((Pg.refl p150.z).st p158 rfl).st p163 rfl).st p177 rfl).st p181 rfl).st p185 rfl).st p190 rfl).st p195 rfl).st p200 rfl).st p204 rfl), s205⟩
      · have s206 := bv s151 hb154
        replace hb153 := (ifP hb154).symm.trans hb153
        clear h; have h := hb153; clear hb153
        refine t1k p150.z rfl (yd p150.z rfl rfl s206) rfl fun a207 p208 s209 => ?_
        have s210 := p208.o s206 rfl
        refine t1k p208.z rfl (yd p208.z rfl rfl s210) rfl fun a211 p212 s213 => ?_
        have s214 := p212.o s210 rfl
        refine t1k p212.z rfl (yd p212.z rfl rfl s214) rfl fun a215 p216 s217 => ?_
        have s218 := p216.o s214 rfl
        refine t1k p216.z rfl (yd p216.z rfl rfl s218) rfl fun a219 p220 s221 => ?_
        have s222 := p220.o s218 rfl
        refine t1k p220.z rfl (yd p220.z rfl rfl s222) rfl fun a223 p224 s225 => ?_
        have s226 := p224.o s222 rfl
        refine t1k p224.z rfl (yd p224.z rfl rfl s226) rfl fun a227 p228 s229 => ?_
        have s230 := p228.o s226 rfl
        refine t1k p228.z rfl (yd p228.z rfl rfl s230) rfl fun a231 p232 s233 => ?_
        have s234 := p232.o s230 rfl
        refine t1k p232.z rfl (yd p232.z rfl rfl s234) rfl fun a235 p236 s237 => ?_
        have s238 := p236.o s234 rfl
        refine t1 p236.z (okPickT s238 cst) rfl fun a239 p240 s241 => ?_
        obtain rfl := Option.some.inj h
        exact tN ⟨((((((((((Pg.refl p150.z).st p208 rfl).st p212 rfl).st p216 rfl).st p220 rfl).st p224 rfl).st p228 rfl).st p232 rfl).st p236 rfl).st p240 rfl), s241⟩
    rintro a242 ⟨pg243, s244⟩
    refine tN (thenN ?_)
    have pg245 : Pg _ [18, 19, 20, 21, 22, 23, 24, 25, 26, 27, 28, 29, 30, 31, 32, 33, 34, 35] _ _ := (((((((Pg.refl pg89.z).st p94 rfl).st p97 rfl).st p100 rfl).tr pg147 rfl).st p150 rfl).tr pg243 rfl)
    refine cnd s244 (fun hb246 => ?_) (fun hb246 => ?_)
    · replace h := (ifP hb246).symm.trans h
      refine wp_seq ?_
      refine reg ?_
      have s247 := pg245.o s82 rfl
      have m248 := m52.g0 g91
      refine s1 pg245.z (okLdA ag25 s247 (m248.cl) rfl rfl whole) rfl fun a249 p250 s251 => ?_
      have s252 := p250.o (pg245.o s85 rfl) rfl
      have m253 := m37.g0 g91
      have q254 := (q42.t0 (g38.tA (Nat.le_of_eq e39.symm)) g38).t0 g91.t0 g91
      refine lS (oStoW (cs := TThing.C x0 h0_0) p250.z s252 s251 m253 Try.sizeOf25 rfl (TThing.C_one _ q254.one) rfl fun w255 m256 g257 => ?_)
      have cx258 := cx92.st g257 f44
      refine s1 p250.z (okAs cst) rfl fun a259 p260 s261 => ?_
      refine rN (thenN ?_)
      have s262 := p260.o s252 rfl
      obtain rfl := Option.some.inj h
      have q263 := q254.t1 (g257.t1 (.head _)) g257 (q42.nb e39)
      exact wp_ret (thenR (blkR (thenR (ret2 p260.z Try.results32 (rvA ag25 s262 m256 rfl) (rvT s261) ⟨_, rfl, h0_0, rfl, (q263.rd (fun i h => (.tail _ (.tail _ (.tail _ (.tail _ (List.mem_append_right _ h)))))) nbh0_0), cx258.g⟩))))
    replace h := (ifN hb246).symm.trans h
    refine wp_skip (thenN ?_)
    refine wp_seq ?_
    refine reg ?_
    have s264 := pg245.o s82 rfl
    refine s1 pg245.z (okFA (o' := 12) fo25_5 s264 rfl) rfl fun a265 p266 s267 => ?_
    have m268 := m52.g0 g91
    refine s1 p266.z (okLd (j := 12) na23 s267 (m268.cl) rfl rfl) rfl fun a269 p270 s271 => ?_
    obtain ⟨z272, hz273, h⟩ := Option.bind_eq_some_iff.1 h
    have q274 := (q42.t0 (g38.tA (Nat.le_of_eq e39.symm)) g38).t0 g91.t0 g91
    have q275 : RdS KTWaiter (b35 :: b24 :: b13 :: b3 :: L) w34.drew h0_0 x0.waiters := q274.rd (fun i h => (List.mem_cons.1 h).elim (fun e => e ▸ (.head _)) (fun h => (List.mem_cons.1 h).elim (fun e => e ▸ (.tail _ (.head _))) (fun h => (List.mem_cons.1 h).elim (fun e => e ▸ (.tail _ (.tail _ (.head _)))) (fun h => (List.mem_cons.1 h).elim (fun e => e ▸ (.tail _ (.tail _ (.tail _ (.head _))))) (fun h => (.tail _ (.tail _ (.tail _ (.tail _ (List.mem_append_right _ h)))))))))) (fun b hb => (not_cons (fun e => (q42.nb e39) (e ▸ hb)) (not_cons (fun e => (q30.nb e28) (e ▸ hb)) (not_cons (fun e => (q18.nb e17) (e ▸ hb)) (not_cons (fun e => (qh0_0.nb e7) (e ▸ hb)) (nbh0_0 _ hb))))))
    have cx276 := cx92.sub (fun i h => (List.mem_cons.1 h).elim (fun e => e ▸ (.head _)) (fun h => (List.mem_cons.1 h).elim (fun e => e ▸ (.tail _ (.head _))) (fun h => (List.mem_cons.1 h).elim (fun e => e ▸ (.tail _ (.tail _ (.head _)))) (fun h => (List.mem_cons.1 h).elim (fun e => e ▸ (.tail _ (.tail _ (.tail _ (.head _))))) (fun h => (.tail _ (.tail _ (.tail _ (.tail _ (List.mem_append_right _ h))))))))))
    obtain ⟨v277, q279, k278⟩ := q275.slc (E := 45) (lo := (some (.const (.int .i64 1)))) (hi := none) hz273
    refine s1 p270.z (k278 Try.underlying23 Try.sizeOf45 s271 (.inr ⟨_, congrArg some cst⟩) (.inl ⟨rfl, rfl⟩) _) rfl fun a280 p281 s282 => ?_
    have s283 := p281.o (p270.o (p266.o s264 rfl) rfl) rfl
    refine s1 p281.z (okFA (o' := 12) fo25_5 s283 rfl) rfl fun a284 p285 s286 => ?_
    have s287 := p285.o s282 rfl
    have m288 := m268.g0 (G.refl [] w34.drew)
    refine lS (oSto (cs := [v277]) (l' := TThing.C ({ x0 with waiters := z272 }) v277) p285.z s286 s287 m288 Try.sizeOf23 q279.cells (oneS q279.one) rfl rfl fun w289 m290 g291 => ?_)
    have cx292 := cx276.st g291 f9
    refine rN (thenN ?_)
    refine wp_seq ?_
    refine reg ?_
    have s293 := p285.o s283 rfl
    refine s1 p285.z (okLdA ag25 s293 (m290.cl) rfl rfl whole) rfl fun a294 p295 s296 => ?_
    have s297 := p295.o (p285.o (p281.o (p270.o (p266.o (pg245.o s85 rfl) rfl) rfl) rfl) rfl) rfl
    have m298 := ((m37.g0 g91).g0 (G.refl [] w34.drew)).g1 g291 (m40.ne e39).symm
    have q299 := q279.mono (g291.t1 (.tail _ (.tail _ (.tail _ (.head _)))))
    refine lS (oStoW (cs := TThing.C ({ x0 with waiters := z272 }) v277) p295.z s297 s296 m298 Try.sizeOf25 rfl (TThing.C_one _ q299.one) rfl fun w300 m301 g302 => ?_)
    have cx303 := cx292.st g302 f44
    refine s1 p295.z (okAs cst) rfl fun a304 p305 s306 => ?_
    refine rN (thenN ?_)
    have s307 := p305.o s297 rfl
    obtain rfl := Option.some.inj h
    have q308 := q299.mono (g302.t1 (.head _))
    exact wp_ret (blkR (thenR (ret2 p305.z Try.results32 (rvA ag25 s307 m301 rfl) (rvT s306) ⟨_, rfl, v277, rfl, (q308.mono ((Tr.refl _ _).sub (fun i h => (.tail _ (.tail _ (.tail _ (.tail _ h))))))), cx303.g⟩)))
  replace h := (ifN hb90).symm.trans h
  refine wp_seq ?_
  refine reg ?_
  refine s1 pg89.z (okEq s88 cst) rfl fun a309 p310 s311 => ?_
  refine s1 p310.z (okAs s311) rfl fun a312 p313 s314 => ?_
  refine rN (thenN ?_)
  refine cnd s314 (fun hb315 => ?_) (fun hb315 => ?_)
  · replace h := (ifP hb315).symm.trans h
    refine wp_seq ?_
    have s423 := p313.o (p310.o s82 rfl) rfl
    have s424 := p313.o (p310.o s85 rfl) rfl
    refine regJ (fun a' w' => Z Try.f32.ntmps a' ∧ a'.eval (.tmp 3) = ptr b3 0 ∧ a'.eval (.tmp 6) = ptr b35 0 ∧ a'.eval (.tmp 7) = .bool (((x0.owner == x1) && ((x0.waiters.length : Int) == 0)) && (x2.value == 0)) ∧ Bk w' b3 (TThing.C x0 h0_0) 25 ∧ Bk w' b13 [.int .i64 x1] 3 ∧ Bk w' b24 (TNote.C x2) 29 ∧ Bk w' b35 (TThing.C x0 h0_0) 25 ∧ OwnS KTWaiter 45 (b35 :: b24 :: b13 :: b3 :: ownB h0_0 ++ L) w' h0_0 x0.waiters ∧ Cx (ownB h0_0) w (b35 :: b24 :: b13 :: b3 :: ownB h0_0 ++ L) w' ∧ Tr (b35 :: b24 :: b13 :: b3 :: ownB h0_0 ++ L) w34 (b35 :: b24 :: b13 :: b3 :: ownB h0_0 ++ L) w') ?_ ?_
    · refine regH (n := 15) [(0, fun w' => Cl w' b3 0 (TThing.C x0 h0_0)), (4, fun w' => Cl w' b3 12 [h0_0]), (10, fun w' => Cl w' b24 1 [.int .i64 x2.value])] mixed rfl ?_
      have g425 := G.drew w34
      have cx426 := cx43.ca g425
      have m427 := m52.g0 g425
      refine hTakeW (i := 0) rfl (by kernel_rfl) (by kernel_rfl) (by kernel_rfl) nrm (.inr (.head _)) p313.z (wN rfl) (fun _ h => okLdA ag25 s423 h rfl rfl whole) (m427.clp rfl) rfl fun a428 p429 sp429 => ?_
      have s430 := p429.o (p313.o (p310.o s87 rfl) rfl) rfl
      refine hTakeW (i := 1) rfl (by kernel_rfl) (by kernel_rfl) (by kernel_rfl) nrm (cond := fun _ => True) (.inl fun _ => trivial) p429.z (wN rfl) (fun _ _ => okMv s430) trivial rfl fun a431 p432 sp432 => ?_
      refine hTakeW (i := 2) rfl (by kernel_rfl) (by kernel_rfl) (by kernel_rfl) nrm (cond := fun _ => True) (.inl fun _ => trivial) p432.z (wN rfl) (fun _ _ => okMv sp432) trivial rfl fun a433 p434 sp434 => ?_
      rcases bf (x0.owner == x1) with hb435 | hb435
      · have s436 := bv sp434 hb435
        refine hSkip (i := 3) rfl (by kernel_rfl) (by kernel_rfl) (by kernel_rfl) nrm rfl p434.z (yd p434.z rfl rfl s436) rfl rfl fun a437 p438 sp438 => ?_
        have s439 := p438.o s436 rfl
        refine hSkip (i := 4) rfl (by kernel_rfl) (by kernel_rfl) (by kernel_rfl) nrm rfl p438.z (yd p438.z rfl rfl s439) rfl rfl fun a440 p441 sp441 => ?_
        have s442 := p441.o s439 rfl
        refine hSkip (i := 5) rfl (by kernel_rfl) (by kernel_rfl) (by kernel_rfl) nrm rfl p441.z (yd p441.z rfl rfl s442) rfl rfl fun a443 p444 sp444 => ?_
        have s445 := p444.o s442 rfl
        refine hSkip (i := 6) rfl (by kernel_rfl) (by kernel_rfl) (by kernel_rfl) nrm rfl p444.z (yd p444.z rfl rfl s445) rfl rfl fun a446 p447 sp447 => ?_
        have s448 := p447.o s445 rfl
        refine hTakeW (i := 7) rfl (by kernel_rfl) (by kernel_rfl) (by kernel_rfl) nrm (cond := fun _ => True) (.inl fun _ => trivial) p447.z (wN rfl) (fun _ _ => okPickF s448 cst) trivial rfl fun a449 p450 sp450 => ?_
        refine hTakeW (i := 8) rfl (by kernel_rfl) (by kernel_rfl) (by kernel_rfl) nrm (cond := fun _ => True) (.inl fun _ => trivial) p450.z (wN rfl) (fun _ _ => okMv sp450) trivial rfl fun a451 p452 sp452 => ?_
        refine hSkip (i := 9) rfl (by kernel_rfl) (by kernel_rfl) (by kernel_rfl) nrm rfl p452.z (yd p452.z rfl rfl sp452) rfl rfl fun a453 p454 sp454 => ?_
        have s455 := p454.o sp452 rfl
        refine hSkip (i := 10) rfl (by kernel_rfl) (by kernel_rfl) (by kernel_rfl) nrm rfl p454.z (yd p454.z rfl rfl s455) rfl rfl fun a456 p457 sp457 => ?_
        have s458 := p457.o s455 rfl
        refine hSkip (i := 11) rfl (by kernel_rfl) (by kernel_rfl) (by kernel_rfl) nrm rfl p457.z (yd p457.z rfl rfl s458) rfl rfl fun a459 p460 sp460 => ?_
        have s461 := p460.o s458 rfl
        refine hTakeW (i := 12) rfl (by kernel_rfl) (by kernel_rfl) (by kernel_rfl) nrm (cond := fun _ => True) (.inl fun _ => trivial) p460.z (wN rfl) (fun _ _ => okPickF s461 cst) trivial rfl fun a462 p463 sp463 => ?_
        have s464 := p463.o (p460.o (p457.o (p454.o (p452.o (p450.o (p447.o (p444.o (p441.o (p438.o (p434.o (p432.o (p429.o s424 rfl) rfl) rfl) rfl) rfl) rfl) rfl) rfl) rfl) rfl) rfl) rfl) rfl
        have s465 := p463.o (p460.o (p457.o (p454.o (p452.o (p450.o (p447.o (p444.o (p441.o (p438.o (p434.o (p432.o sp429 rfl) rfl) rfl) rfl) rfl) rfl) rfl) rfl) rfl) rfl) rfl) rfl
        have m466 := m37.g0 g425
        have q467 := (q42.t0 (g38.tA (Nat.le_of_eq e39.symm)) g38).t0 g425.t0 g425
        refine hOne (i := 13) (by kernel_rfl) rfl (oStoW (cs := TThing.C x0 h0_0) p463.z s464 s465 m466 Try.sizeOf25 rfl (TThing.C_one _ q467.one) rfl fun w468 m469 g470 => ?_)
        have cx471 := cx426.st g470 f44
        refine ⟨⟨.inl rfl, .inr fun h => h.g1 g470 (m40.ne e39), .inr fun h => h.g1 g470 (m26.ne e39), trivial⟩, ?_⟩
        refine hTakeW (i := 14) rfl (by kernel_rfl) (by kernel_rfl) (by kernel_rfl) nrm (cond := fun _ => True) (.inl fun _ => trivial) p463.z (wN rfl) (fun _ _ => okAs sp463) trivial rfl fun a472 p473 sp473 => ?_
        have q474 := q467.t1 (g470.t1 (.head _)) g470 (q42.nb e39)
        have s475 := p473.o (p463.o (p460.o (p457.o (p454.o (p452.o (p450.o (p447.o (p444.o (p441.o (p438.o (p434.o (p432.o (p429.o s423 rfl) rfl) rfl) rfl) rfl) rfl) rfl) rfl) rfl) rfl) rfl) rfl) rfl) rfl
        have s476 := p473.o s464 rfl
        have m477 := m427.g1 g470 (m40.ne e39)
        have m478 := (m57.g0 g425).g1 g470 (m41.ne e39)
        have m479 := (m72.g0 g425).g1 g470 (m26.ne e39)
        exact hDone (by kernel_rfl) ⟨rfl, p473.z, s475, s476, (bvE sp473 (by simp [hb435])), m477, m478, m479, m469, q474, cx471, (g425.t0.trans (g470.t1 (.head _)))⟩
      · have s480 := bv sp434 hb435
        have s481 := p434.o (p432.o (p429.o s423 rfl) rfl) rfl
        refine hTakeW (i := 3) rfl (by kernel_rfl) (by kernel_rfl) (by kernel_rfl) nrm (cond := fun _ => True) (.inl fun _ => trivial) p434.z (wG rfl (yd p434.z rfl rfl s480)) (fun _ _ => okFA (o' := 12) fo25_5 s481 rfl) trivial rfl fun a482 p483 sp483 => ?_
        have s484 := p483.o s480 rfl
        refine hTakeW (i := 4) rfl (by kernel_rfl) (by kernel_rfl) (by kernel_rfl) nrm (.inr (.tail _ (.head _))) p483.z (wG rfl (yd p483.z rfl rfl s484)) (fun _ h => okLd (j := 0) na23 sp483 h rfl rfl) (m427.clp rfl) rfl fun a485 p486 sp486 => ?_
        have s487 := p486.o s484 rfl
        have q488 := (q42.t0 (g38.tA (Nat.le_of_eq e39.symm)) g38).t0 g425.t0 g425
        refine hTakeW (i := 5) rfl (by kernel_rfl) (by kernel_rfl) (by kernel_rfl) nrm (cond := fun _ => True) (.inl fun _ => trivial) p486.z (wG rfl (yd p486.z rfl rfl s487)) (fun _ _ => okLenO (E2 := 45) Try.underlying23 sp486 q488) trivial rfl fun a489 p490 sp490 => ?_
        have s491 := p490.o s487 rfl
        refine hTakeW (i := 6) rfl (by kernel_rfl) (by kernel_rfl) (by kernel_rfl) nrm (cond := fun _ => True) (.inl fun _ => trivial) p490.z (wG rfl (yd p490.z rfl rfl s491)) (fun _ _ => okEq sp490 cst) trivial rfl fun a492 p493 sp493 => ?_
        have s494 := p493.o s491 rfl
        refine hTakeW (i := 7) rfl (by kernel_rfl) (by kernel_rfl) (by kernel_rfl) nrm (cond := fun _ => True) (.inl fun _ => trivial) p493.z (wN rfl) (fun _ _ => okPickT s494 sp493) trivial rfl fun a495 p496 sp496 => ?_
        refine hTakeW (i := 8) rfl (by kernel_rfl) (by kernel_rfl) (by kernel_rfl) nrm (cond := fun _ => True) (.inl fun _ => trivial) p496.z (wN rfl) (fun _ _ => okMv sp496) trivial rfl fun a497 p498 sp498 => ?_
        rcases bf ((x0.waiters.length : Int) == 0) with hb499 | hb499
        · have s500 := bv sp498 hb499
          refine hSkip (i := 9) rfl (by kernel_rfl) (by kernel_rfl) (by kernel_rfl) nrm rfl p498.z (yd p498.z rfl rfl s500) rfl rfl fun a501 p502 sp502 => ?_
          have s503 := p502.o s500 rfl
          refine hSkip (i := 10) rfl (by kernel_rfl) (by kernel_rfl) (by kernel_rfl) nrm rfl p502.z (yd p502.z rfl rfl s503) rfl rfl fun a504 p505 sp505 => ?_
          have s506 := p505.o s503 rfl
          refine hSkip (i := 11) rfl (by kernel_rfl) (by kernel_rfl) (by kernel_rfl) nrm rfl p505.z (yd p505.z rfl rfl s506) rfl rfl fun a507 p508 sp508 => ?_
          have s509 := p508.o s506 rfl
          refine hTakeW (i := 12) rfl (by kernel_rfl) (by kernel_rfl) (by kernel_rfl) nrm (cond := fun _ => True) (.inl fun _ => trivial) p508.z (wN rfl) (fun _ _ => okPickF s509 cst) trivial rfl fun a510 p511 sp511 => ?_
          have s512 := p511.o (p508.o (p505.o (p502.o (p498.o (p496.o (p493.o (p490.o (p486.o (p483.o (p434.o (p432.o (p429.o s424 rfl) rfl) rfl) rfl) rfl) rfl) rfl) rfl) rfl) rfl) rfl) rfl) rfl
          have s513 := p511.o (p508.o (p505.o (p502.o (p498.o (p496.o (p493.o (p490.o (p486.o (p483.o (p434.o (p432.o sp429 rfl) rfl) rfl) rfl) rfl) rfl) rfl) rfl) rfl) rfl) rfl) rfl
          have m514 := m37.g0 g425
          refine hOne (i := 13) (by kernel_rfl) rfl (oStoW (cs := TThing.C x0 h0_0) p511.z s512 s513 m514 Try.sizeOf25 rfl (TThing.C_one _ q488.one) rfl fun w515 m516 g517 => ?_)
          have cx518 := cx426.st g517 f44
          refine ⟨⟨.inl rfl, .inr fun h => h.g1 g517 (m40.ne e39), .inr fun h => h.g1 g517 (m26.ne e39), trivial⟩, ?_⟩
          refine hTakeW (i := 14) rfl (by kernel_rfl) (by kernel_rfl) (by kernel_rfl) nrm (cond := fun _ => True) (.inl fun _ => trivial) p511.z (wN rfl) (fun _ _ => okAs sp511) trivial rfl fun a519 p520 sp520 => ?_
          have q521 := q488.t1 (g517.t1 (.head _)) g517 (q42.nb e39)
          have s522 := p520.o (p511.o (p508.o (p505.o (p502.o (p498.o (p496.o (p493.o (p490.o (p486.o (p483.o s481 rfl) rfl) rfl) rfl) rfl) rfl) rfl) rfl) rfl) rfl) rfl
          have s523 := p520.o s512 rfl
          have m524 := m427.g1 g517 (m40.ne e39)
          have m525 := (m57.g0 g425).g1 g517 (m41.ne e39)
          have m526 := (m72.g0 g425).g1 g517 (m26.ne e39)
          exact hDone (by kernel_rfl) ⟨rfl, p520.z, s522, s523, (bvE sp520 (by simp [hb435, hb499])), m524, m525, m526, m516, q521, cx518, (g425.t0.trans (g517.t1 (.head _)))⟩
        · have s527 := bv sp498 hb499
          have s528 := p498.o (p496.o (p493.o (p490.o (p486.o (p483.o (p434.o (p432.o (p429.o (p313.o (p310.o s84 rfl) rfl) rfl) rfl) rfl) rfl) rfl) rfl) rfl) rfl) rfl
          refine hTakeW (i := 9) rfl (by kernel_rfl) (by kernel_rfl) (by kernel_rfl) nrm (cond := fun _ => True) (.inl fun _ => trivial) p498.z (wG rfl (yd p498.z rfl rfl s527)) (fun _ _ => okFA (o' := 1) fo29_1 s528 rfl) trivial rfl fun a529 p530 sp530 => ?_
          have s531 := p530.o s527 rfl
          have m532 := m72.g0 g425
          refine hTakeW (i := 10) rfl (by kernel_rfl) (by kernel_rfl) (by kernel_rfl) nrm (.inr (.tail _ (.tail _ (.head _)))) p530.z (wG rfl (yd p530.z rfl rfl s531)) (fun _ h => okLd (j := 0) na2 sp530 h rfl rfl) (m532.clp rfl) rfl fun a533 p534 sp534 => ?_
          have s535 := p534.o s531 rfl
          refine hTakeW (i := 11) rfl (by kernel_rfl) (by kernel_rfl) (by kernel_rfl) nrm (cond := fun _ => True) (.inl fun _ => trivial) p534.z (wG rfl (yd p534.z rfl rfl s535)) (fun _ _ => okEq sp534 cst) trivial rfl fun a536 p537 sp537 => ?_
          have s538 := p537.o s535 rfl
          refine hTakeW (i := 12) rfl (by kernel_rfl) (by kernel_rfl) (by kernel_rfl) nrm (cond := fun _ => True) (.inl fun _ => trivial) p537.z (wN rfl) (fun _ _ => okPickT s538 sp537) trivial rfl fun a539 p540 sp540 => ?_
          have s541 := p540.o (p537.o (p534.o (p530.o (p498.o (p496.o (p493.o (p490.o (p486.o (p483.o (p434.o (p432.o (p429.o s424 rfl) rfl) rfl) rfl) rfl) rfl) rfl) rfl) rfl) rfl) rfl) rfl) rfl
          have s542 := p540.o (p537.o (p534.o (p530.o (p498.o (p496.o (p493.o (p490.o (p486.o (p483.o (p434.o (p432.o sp429 rfl) rfl) rfl) rfl) rfl) rfl) rfl) rfl) rfl) rfl) rfl) rfl
          have m543 := m37.g0 g425
          refine hOne (i := 13) (by kernel_rfl) rfl (oStoW (cs := TThing.C x0 h0_0) p540.z s541 s542 m543 Try.sizeOf25 rfl (TThing.C_one _ q488.one) rfl fun w544 m545 g546 => ?_)
          have cx547 := cx426.st g546 f44
          refine ⟨⟨.inl rfl, .inr fun h => h.g1 g546 (m40.ne e39), .inr fun h => h.g1 g546 (m26.ne e39), trivial⟩, ?_⟩
          refine hTakeW (i := 14) rfl (by kernel_rfl) (by kernel_rfl) (by kernel_rfl) nrm (cond := fun _ => True) (.inl fun _ => trivial) p540.z (wN rfl) (fun _ _ => okAs sp540) trivial rfl fun a548 p549 sp549 => ?_
          have q550 := q488.t1 (g546.t1 (.head _)) g546 (q42.nb e39)
          have s551 := p549.o (p540.o (p537.o (p534.o (p530.o (p498.o (p496.o (p493.o (p490.o (p486.o (p483.o s481 rfl) rfl) rfl) rfl) rfl) rfl) rfl) rfl) rfl) rfl) rfl
          have s552 := p549.o s541 rfl
          have m553 := m427.g1 g546 (m40.ne e39)
          have m554 := (m57.g0 g425).g1 g546 (m41.ne e39)
          have m555 := m532.g1 g546 (m26.ne e39)
          exact hDone (by kernel_rfl) ⟨rfl, p549.z, s551, s552, (bvE sp549 (by simp [hb435, hb499])), m553, m554, m555, m545, q550, cx547, (g425.t0.trans (g546.t1 (.head _)))⟩
    rintro a556 w557 ⟨z558, s559, s560, s561, m562, m563, m564, m565, q566, cx567, t568⟩
    refine thenN ?_
    obtain rfl := Option.some.inj h
    exact wp_ret (blkR (thenR (ret2 z558 Try.results32 (rvA ag25 s560 m565 rfl) (rvT s561) ⟨_, rfl, h0_0, rfl, (q566.rd (fun i h => (.tail _ (.tail _ (.tail _ (.tail _ (List.mem_append_right _ h)))))) nbh0_0), cx567.g⟩)))
  replace h := (ifN hb315).symm.trans h
  refine wp_seq ?_
  refine reg ?_
  have s569 := p313.o (p310.o s88 rfl) rfl
  refine s1 p313.z (okEq s569 cst) rfl fun a570 p571 s572 => ?_
  refine s1 p571.z (okAs s572) rfl fun a573 p574 s575 => ?_
  refine rN (thenN ?_)
  have pg576 : Pg _ [42, 43, 57, 58] _ _ := (((((Pg.refl pg89.z).st p310 rfl).st p313 rfl).st p571 rfl).st p574 rfl)
  refine cnd s575 (fun hb577 => ?_) (fun hb577 => ?_)
  · replace h := (ifP hb577).symm.trans h
    refine wp_seq ?_
    refine reg ?_
    have s578 := pg576.o s82 rfl
    refine s1 pg576.z (okLdA ag25 s578 (m52.cl) rfl rfl whole) rfl fun a579 p580 s581 => ?_
    have s582 := p580.o (pg576.o s83 rfl) rfl
    refine s1 p580.z (okLd (j := 0) na3 s582 (m57.cl) rfl rfl) rfl fun a583 p584 s585 => ?_
    have s586 := p584.o s581 rfl
    have q587 := q42.t0 (g38.tA (Nat.le_of_eq e39.symm)) g38
    obtain ⟨t588, ht589, h⟩ := Option.bind_eq_some_iff.1 h
    refine lS (oCall p584.z Try.call30 (ag2 s586 s585) (c30 k (b35 :: b24 :: b13 :: b3 :: L) w34 (fun b h => cx43.lt b ((fun i h => (List.mem_cons.1 h).elim (fun e => e ▸ (.head _)) (fun h => (List.mem_cons.1 h).elim (fun e => e ▸ (.tail _ (.head _))) (fun h => (List.mem_cons.1 h).elim (fun e => e ▸ (.tail _ (.tail _ (.head _)))) (fun h => (List.mem_cons.1 h).elim (fun e => e ▸ (.tail _ (.tail _ (.tail _ (.head _))))) (fun h => (.tail _ (.tail _ (.tail _ (.tail _ (List.mem_append_right _ h)))))))))) b h)) _ _ (q587.rd (fun i h => (List.mem_cons.1 h).elim (fun e => e ▸ (.head _)) (fun h => (List.mem_cons.1 h).elim (fun e => e ▸ (.tail _ (.head _))) (fun h => (List.mem_cons.1 h).elim (fun e => e ▸ (.tail _ (.tail _ (.head _)))) (fun h => (List.mem_cons.1 h).elim (fun e => e ▸ (.tail _ (.tail _ (.tail _ (.head _))))) (fun h => (.tail _ (.tail _ (.tail _ (.tail _ (List.mem_append_right _ h)))))))))) (fun b hb => (not_cons (fun e => (q42.nb e39) (e ▸ hb)) (not_cons (fun e => (q30.nb e28) (e ▸ hb)) (not_cons (fun e => (q18.nb e17) (e ▸ hb)) (not_cons (fun e => (qh0_0.nb e7) (e ▸ hb)) (nbh0_0 _ hb))))))) _ _ ht589) rfl fun v593 a590 w591 hp594 p592 sp592 => ?_)
    obtain ⟨rfl, g595⟩ := hp594
    have cx596 := cx43.ca g595
    refine s1 p592.z (okMv sp592) rfl fun a597 p598 s599 => ?_
    refine cutP 4 (fun a' => Pg Try.f32.ntmps [63, 64, 65, 66] a597 a' ∧ a'.eval (.tmp 66) = .bool (t588 && (x2.value == 0))) ?_ ?_
    · rcases bf t588 with hb600 | hb600
      · have s601 := bv s599 hb600
        refine s1k p598.z rfl (yd p598.z rfl rfl s601) rfl fun a602 p603 s604 => ?_
        have s605 := p603.o s601 rfl
        refine s1k p603.z rfl (yd p603.z rfl rfl s605) rfl fun a606 p607 s608 => ?_
        have s609 := p607.o s605 rfl
        refine s1k p607.z rfl (yd p607.z rfl rfl s609) rfl fun a610 p611 s612 => ?_
        have s613 := p611.o s609 rfl
        refine s1 p611.z (okPickF s613 cst) rfl fun a614 p615 s616 => ?_
        exact rN ⟨rfl, rfl, (((((Pg.refl p598.z).st p603 rfl).st p607 rfl).st p611 rfl).st p615 rfl), (andF hb600 s616)⟩
      · have s617 := bv s599 hb600
        have s618 := p598.o (p592.o (p584.o (p580.o (pg576.o s84 rfl) rfl) rfl) rfl) rfl
        refine s1g p598.z (okFA (o' := 1) fo29_1 s618 rfl) rfl (yd p598.z rfl rfl s617) fun a619 p620 s621 => ?_
        have s622 := p620.o s617 rfl
        have m623 := m72.g0 g595
        refine s1g p620.z (okLd (j := 1) na2 s621 (m623.cl) rfl rfl) rfl (yd p620.z rfl rfl s622) fun a624 p625 s626 => ?_
        have s627 := p625.o s622 rfl
        refine s1g p625.z (okEq s626 cst) rfl (yd p625.z rfl rfl s627) fun a628 p629 s630 => ?_
        have s631 := p629.o s627 rfl
        refine s1 p629.z (okPickT s631 s630) rfl fun a632 p633 s634 => ?_
        exact rN ⟨rfl, rfl, (((((Pg.refl p598.z).st p620 rfl).st p625 rfl).st p629 rfl).st p633 rfl), (andT hb600 s634)⟩
    rintro a635 ⟨pg636, s637⟩
    refine s1 pg636.z (okAs s637) rfl fun a638 p639 s640 => ?_
    refine rN (thenN ?_)
    refine wp_seq ?_
    refine reg ?_
    have s641 := p639.o (pg636.o (p598.o (p592.o (p584.o (p580.o s578 rfl) rfl) rfl) rfl) rfl) rfl
    refine s1 p639.z (okFA (o' := 12) fo25_5 s641 rfl) rfl fun a642 p643 s644 => ?_
    have m645 := m52.g0 g595
    refine s1 p643.z (okLd (j := 12) na23 s644 (m645.cl) rfl rfl) rfl fun a646 p647 s648 => ?_
    have s649 := p647.o (p643.o (p639.o (pg636.o (p598.o (p592.o (p584.o s582 rfl) rfl) rfl) rfl) rfl) rfl) rfl
    refine s1 p647.z (okFn (cs := #[ptr b13 0]) (ag1 s649)) rfl fun a650 p651 s652 => ?_
    have s653 := p651.o s648 rfl
    have q654 := q587.t0 g595.t0 g595
    have m655 := m57.g0 g595
    obtain ⟨t656, ht657, h⟩ := Option.bind_eq_some_iff.1 h
    refine lS (oCall p651.z Try.call36 (ag2 s653 s652) (c36 k (b35 :: b24 :: b13 :: b3 :: L) w591 (fun b h => cx596.lt b ((fun i h => (List.mem_cons.1 h).elim (fun e => e ▸ (.head _)) (fun h => (List.mem_cons.1 h).elim (fun e => e ▸ (.tail _ (.head _))) (fun h => (List.mem_cons.1 h).elim (fun e => e ▸ (.tail _ (.tail _ (.head _)))) (fun h => (List.mem_cons.1 h).elim (fun e => e ▸ (.tail _ (.tail _ (.tail _ (.head _))))) (fun h => (.tail _ (.tail _ (.tail _ (.tail _ (List.mem_append_right _ h)))))))))) b h)) _ _ (q654.sub (fun i h => (List.mem_append.1 h).elim (fun h => (.tail _ (.tail _ (.tail _ (.tail _ (List.mem_append_left _ h)))))) (fun h => (List.mem_cons.1 h).elim (fun e => e ▸ (.head _)) (fun h => (List.mem_cons.1 h).elim (fun e => e ▸ (.tail _ (.head _))) (fun h => (List.mem_cons.1 h).elim (fun e => e ▸ (.tail _ (.tail _ (.head _)))) (fun h => (List.mem_cons.1 h).elim (fun e => e ▸ (.tail _ (.tail _ (.tail _ (.head _))))) (fun h => (.tail _ (.tail _ (.tail _ (.tail _ (List.mem_append_right _ h)))))))))))) (fun b hb => (not_cons (fun e => (q42.nb e39) (e ▸ hb)) (not_cons (fun e => (q30.nb e28) (e ▸ hb)) (not_cons (fun e => (q18.nb e17) (e ▸ hb)) (not_cons (fun e => (qh0_0.nb e7) (e ▸ hb)) (nbh0_0 _ hb)))))) (fun y0 => model_signal_1 y0 x1) 37 #[ptr b13 0] Try.call37 (fun L' w' g hl y0 s hs => c37 L' w' hl y0 _ _ (m655.g g (q18.nb e17)) s hs) _ ht657) rfl fun v661 a658 w659 hp662 p660 sp660 => ?_)
    obtain ⟨q663, g664⟩ := hp662
    have cx665 := (cx596.cs g664 (fun _ h => .inl h)).sub (fun i h => (List.mem_cons.1 h).elim (fun e => e ▸ (.head _)) (fun h => (List.mem_cons.1 h).elim (fun e => e ▸ (.tail _ (.head _))) (fun h => (List.mem_cons.1 h).elim (fun e => e ▸ (.tail _ (.tail _ (.head _)))) (fun h => (List.mem_cons.1 h).elim (fun e => e ▸ (.tail _ (.tail _ (.tail _ (.head _))))) (fun h => (.tail _ (.tail _ (.tail _ (.tail _ (List.mem_append_right _ h))))))))))
    have s666 := p660.o (p651.o (p647.o (p643.o s641 rfl) rfl) rfl) rfl
    refine s1 p660.z (okFA (o' := 12) fo25_5 s666 rfl) rfl fun a667 p668 s669 => ?_
    have s670 := p668.o sp660 rfl
    have m671 := m645.g g664 (qh0_0.nb e7)
    refine lS (oSto (cs := [v661]) (l' := TThing.C ({ x0 with waiters := t656 }) v661) p668.z s669 s670 m671 Try.sizeOf23 q663.cells (oneS q663.one) rfl rfl fun w672 m673 g674 => ?_)
    have cx675 := cx665.st g674 f9
    refine rN (thenN ?_)
    refine wp_seq ?_
    refine reg ?_
    have s676 := p668.o s666 rfl
    refine s1 p668.z (okLdA ag25 s676 (m673.cl) rfl rfl whole) rfl fun a677 p678 s679 => ?_
    have s680 := p678.o (p668.o (p660.o (p651.o (p647.o (p643.o s640 rfl) rfl) rfl) rfl) rfl) rfl
    refine s1 p678.z (okMv s680) rfl fun a681 p682 s683 => ?_
    have s684 := p682.o (p678.o (p668.o (p660.o (p651.o (p647.o (p643.o (p639.o (pg636.o (p598.o (p592.o (p584.o (p580.o (pg576.o s85 rfl) rfl) rfl) rfl) rfl) rfl) rfl) rfl) rfl) rfl) rfl) rfl) rfl) rfl
    have s685 := p682.o s679 rfl
    have m686 := ((m37.g0 g595).g g664 (q42.nb e39)).g1 g674 (m40.ne e39).symm
    have q687 := q663.mono (g674.t1 (.tail _ (.tail _ (.tail _ (.head _)))))
    refine lS (oStoW (cs := TThing.C ({ x0 with waiters := t656 }) v661) p682.z s684 s685 m686 Try.sizeOf25 rfl (TThing.C_one _ q687.one) rfl fun w688 m689 g690 => ?_)
    have cx691 := cx675.st g690 f44
    refine s1 p682.z (okAs s683) rfl fun a692 p693 s694 => ?_
    refine rN (thenN ?_)
    have s695 := p693.o s684 rfl
    obtain rfl := Option.some.inj h
    have q696 := q687.mono (g690.t1 (.head _))
    exact wp_ret (blkR (thenR (ret2 p693.z Try.results32 (rvA ag25 s695 m689 rfl) (rvT s694) ⟨_, rfl, v661, rfl, (q696.mono ((Tr.refl _ _).sub (fun i h => (.tail _ (.tail _ (.tail _ (.tail _ h))))))), cx691.g⟩)))
  replace h := (ifN hb577).symm.trans h
  refine wp_skip (blkN (thenN ?_))
  refine wp_seq ?_
  refine reg ?_
  have s697 := pg576.o s82 rfl
  refine s1 pg576.z (okLdA ag25 s697 (m52.cl) rfl rfl whole) rfl fun a698 p699 s700 => ?_
  have s701 := p699.o (pg576.o s85 rfl) rfl
  have q702 := q42.t0 (g38.tA (Nat.le_of_eq e39.symm)) g38
  refine lS (oStoW (cs := TThing.C x0 h0_0) p699.z s701 s700 m37 Try.sizeOf25 rfl (TThing.C_one _ q702.one) rfl fun w703 m704 g705 => ?_)
  have cx706 := cx43.st g705 f44
  refine s1 p699.z (okAs cst) rfl fun a707 p708 s709 => ?_
  refine rN (thenN ?_)
  have s710 := p708.o s701 rfl
  obtain rfl := Option.some.inj h
  have q711 := q702.t1 (g705.t1 (.head _)) g705 (q42.nb e39)
  exact wp_ret (ret2 p708.z Try.results32 (rvA ag25 s710 m704 rfl) (rvT s709) ⟨_, rfl, h0_0, rfl, (q711.rd (fun i h => (.tail _ (.tail _ (.tail _ (.tail _ (List.mem_append_right _ h)))))) nbh0_0), cx706.g⟩)

set_option maxHeartbeats 4000000 in
theorem c21 (k : Nat) (L : List Nat) (w : World) (hL : ∀ b ∈ L, b < w.heap.size) (x0 : TThing) (h0_0 : Value) (qh0_0 : OwnS KTWaiter 45 (ownB h0_0 ++ L) w h0_0 x0.waiters) (nbh0_0 : ∀ x ∈ ownB h0_0, x ∉ L) (x1 : Int) (x2 : TNote) (r : TThing × Bool) (h : model_lock k x0 x1 x2 = some r) : Calls Try.prog 21 #[.agg (TThing.C x0 h0_0).toArray, .int .i64 x1, .agg (TNote.C x2).toArray] w (fun e w' => ∃ v, e = .returned v ∧ ∃ u_0, v = .tuple #[.agg (TThing.C r.1 u_0).toArray, .bool r.2] ∧ RdS KTWaiter L w' u_0 r.1.waiters ∧ G (ownB h0_0) w w') := by
  refine enterF Try.func21 rfl rfl fun a0 z0 A => ?_
  have s0_0 := A 0 (.agg (TThing.C x0 h0_0).toArray) rfl
  have s0_1 := A 1 (.int .i64 x1) rfl
  have s0_2 := A 2 (.agg (TNote.C x2).toArray) rfl
  clear A
  have c0 : Cx (ownB h0_0) w (ownB h0_0 ++ L) w := ⟨G.refl _ _, (fun i h => ((List.mem_append.1 h).elim (fun h => qh0_0.lt i h) (fun h => (hL i h))))⟩
  unfold model_lock at h
  refine wp_seq ?_
  refine reg ?_
  refine lS (oBox (l := TThing.C x0 h0_0) z0 s0_0 rfl rfl fun a1 w2 b3 p4 sp4 m5 g6 e7 => ?_)
  have f9 := c0.nw e7
  have cx8 := c0.al g6 m5
  have s10 := p4.o s0_2 rfl
  have q18 := qh0_0.t0 (g6.tA (Nat.le_of_eq e7.symm)) g6
  refine lS (oBox (l := TNote.C x2) p4.z s10 rfl rfl fun a11 w12 b13 p14 sp14 m15 g16 e17 => ?_)
  have f20 := cx8.nw e17
  have cx19 := cx8.al g16 m15
  have m28 := m5.g0 g16
  have q29 := q18.t0 (g16.tA (Nat.le_of_eq e17.symm)) g16
  refine lS (oAlloc zv25 p14.z rfl fun a21 w22 b23 p24 sp24 m25 g26 e27 => ?_)
  have f31 := cx19.nw e27
  have cx30 := cx19.al g26 m25
  refine s1 p24.z (okAs cst) rfl fun a32 p33 s34 => ?_
  refine rN (thenN ?_)
  refine wp_seq ?_
  refine regS mixed (by kernel_rfl) ?_
  have g35 := G.drew w22
  have cx36 := cx30.ca g35
  have s37 := p33.o (p24.o sp14 rfl) rfl
  refine t1 p33.z (okFA (o' := 1) fo29_1 s37 rfl) rfl fun a38 p39 s40 => ?_
  have m41 := (m15.g0 g26).g0 g35
  refine t1 p39.z (okLd (j := 1) na2 s40 (m41.cl) rfl rfl) rfl fun a42 p43 s44 => ?_
  have s45 := p43.o (p39.o (p33.o (p24.o (p14.o sp4 rfl) rfl) rfl) rfl) rfl
  refine t1 p43.z (okFA (o' := 2) fo25_2 s45 rfl) rfl fun a46 p47 s48 => ?_
  have m49 := (m28.g0 g26).g0 g35
  refine t1 p47.z (okLd (j := 2) na3 s48 (m49.cl) rfl rfl) rfl fun a50 p51 s52 => ?_
  have s53 := p51.o (p47.o (p43.o (p39.o (p33.o (p24.o (p14.o (p4.o s0_1 rfl) rfl) rfl) rfl) rfl) rfl) rfl) rfl
  refine t1 p51.z (okMv s53) rfl fun a54 p55 s56 => ?_
  have s57 := p55.o s52 rfl
  refine t1 p55.z (okEq s57 s56) rfl fun a58 p59 s60 => ?_
  have s61 := p59.o (p55.o (p51.o (p47.o s44 rfl) rfl) rfl) rfl
  refine t1 p59.z (okAs s61) rfl fun a62 p63 s64 => ?_
  have s65 := p63.o s60 rfl
  refine t1 p63.z (okAs s65) rfl fun a66 p67 s68 => ?_
  refine tN (thenN ?_)
  refine wp_seq ?_
  refine wp_seq ?_
  refine reg ?_
  have s69 := p67.o (p63.o (p59.o (p55.o (p51.o (p47.o (p43.o (p39.o s37 rfl) rfl) rfl) rfl) rfl) rfl) rfl) rfl
  refine s1 p67.z (okFA (o' := 0) fo29_0 s69 rfl) rfl fun a70 p71 s72 => ?_
  refine s1 p71.z (okLd (j := 0) na3 s72 (m41.cl) rfl rfl) rfl fun a73 p74 s75 => ?_
  refine rN (thenN ?_)
  refine wp_block ?_
  refine wp_seq ?_
  refine reg ?_
  refine s1 p74.z (okEq s75 cst) rfl fun a76 p77 s78 => ?_
  refine s1 p77.z (okAs s78) rfl fun a79 p80 s81 => ?_
  refine rN (thenN ?_)
  have s82 := p80.o (p77.o (p74.o (p71.o (p67.o (p63.o (p59.o (p55.o s53 rfl) rfl) rfl) rfl) rfl) rfl) rfl) rfl
  have s83 := p80.o (p77.o (p74.o (p71.o (p67.o (p63.o (p59.o (p55.o (p51.o (p47.o s45 rfl) rfl) rfl) rfl) rfl) rfl) rfl) rfl) rfl) rfl
  have s84 := p80.o (p77.o (p74.o (p71.o s69 rfl) rfl) rfl) rfl
  have s85 := p80.o (p77.o (p74.o (p71.o (p67.o (p63.o (p59.o (p55.o (p51.o (p47.o (p43.o (p39.o (p33.o sp24 rfl) rfl) rfl) rfl) rfl) rfl) rfl) rfl) rfl) rfl) rfl) rfl) rfl
  have s86 := p80.o (p77.o (p74.o (p71.o (p67.o (p63.o (p59.o (p55.o (p51.o (p47.o (p43.o (p39.o s34 rfl) rfl) rfl) rfl) rfl) rfl) rfl) rfl) rfl) rfl) rfl) rfl
  have s87 := p80.o (p77.o (p74.o (p71.o (p67.o s64 rfl) rfl) rfl) rfl) rfl
  have s88 := p80.o (p77.o (p74.o (p71.o s68 rfl) rfl) rfl) rfl
  have s89 := p80.o (p77.o s75 rfl) rfl
  have pg90 : Pg _ [3, 5, 6, 7, 8, 9, 11, 12, 13, 14, 15, 16, 17, 18, 19, 20] _ _ := (((((((((((((((((Pg.refl z0).st p4 rfl).st p14 rfl).st p24 rfl).st p33 rfl).st p39 rfl).st p43 rfl).st p47 rfl).st p51 rfl).st p55 rfl).st p59 rfl).st p63 rfl).st p67 rfl).st p71 rfl).st p74 rfl).st p77 rfl).st p80 rfl)
  refine cnd s81 (fun hb91 => ?_) (fun hb91 => ?_)
  · replace h := (ifP hb91).symm.trans h
    refine wp_seq ?_
    refine wp_seq ?_
    refine reg ?_
    refine s1 pg90.z (okFA (o' := 2) fo25_2 s83 rfl) rfl fun a92 p93 s94 => ?_
    refine s1 p93.z (okLd (j := 2) na3 s94 (m49.cl) rfl rfl) rfl fun a95 p96 s97 => ?_
    refine s1 p96.z (okEq s97 cst) rfl fun a98 p99 s100 => ?_
    refine s1 p99.z (okMv s100) rfl fun a101 p102 s103 => ?_
    refine cutP 3 (fun a' => Pg Try.f21.ntmps [25, 26, 27] a101 a' ∧ a'.eval (.tmp 27) = .bool ((x0.owner == (-1)) && (decide (1 ≤ x2.value)))) ?_ ?_
    · rcases bf (x0.owner == (-1)) with hb104 | hb104
      · have s105 := bv s103 hb104
        refine s1k p102.z rfl (yd p102.z rfl rfl s105) rfl fun a106 p107 s108 => ?_
        have s109 := p107.o s105 rfl
        refine s1k p107.z rfl (yd p107.z rfl rfl s109) rfl fun a110 p111 s112 => ?_
        have s113 := p111.o s109 rfl
        refine s1 p111.z (okPickF s113 cst) rfl fun a114 p115 s116 => ?_
        exact rN ⟨rfl, rfl, ((((Pg.refl p102.z).st p107 rfl).st p111 rfl).st p115 rfl), (andF hb104 s116)⟩
      · have s117 := bv s103 hb104
        have s118 := p102.o (p99.o (p96.o (p93.o s87 rfl) rfl) rfl) rfl
        refine s1g p102.z (okMv s118) rfl (yd p102.z rfl rfl s117) fun a119 p120 s121 => ?_
        have s122 := p120.o s117 rfl
        refine s1g p120.z (okGe s121 cst) rfl (yd p120.z rfl rfl s122) fun a123 p124 s125 => ?_
        have s126 := p124.o s122 rfl
        refine s1 p124.z (okPickT s126 s125) rfl fun a127 p128 s129 => ?_
        exact rN ⟨rfl, rfl, ((((Pg.refl p102.z).st p120 rfl).st p124 rfl).st p128 rfl), (andT hb104 s129)⟩
    rintro a130 ⟨pg131, s132⟩
    refine s1 pg131.z (okMv s132) rfl fun a133 p134 s135 => ?_
    refine cutP 3 (fun a' => Pg Try.f21.ntmps [29, 30, 31] a133 a' ∧ a'.eval (.tmp 31) = .bool (((x0.owner == (-1)) && (decide (1 ≤ x2.value))) && (decide (x2.value ≤ 1000)))) ?_ ?_
    · rcases bf ((x0.owner == (-1)) && (decide (1 ≤ x2.value))) with hb136 | hb136
      · have s137 := bv s135 hb136
        refine s1k p134.z rfl (yd p134.z rfl rfl s137) rfl fun a138 p139 s140 => ?_
        have s141 := p139.o s137 rfl
        refine s1k p139.z rfl (yd p139.z rfl rfl s141) rfl fun a142 p143 s144 => ?_
        have s145 := p143.o s141 rfl
        refine s1 p143.z (okPickF s145 cst) rfl fun a146 p147 s148 => ?_
        exact rN ⟨rfl, rfl, ((((Pg.refl p134.z).st p139 rfl).st p143 rfl).st p147 rfl), (andF hb136 s148)⟩
      · have s149 := bv s135 hb136
        have s150 := p134.o (pg131.o (p102.o (p99.o (p96.o (p93.o s87 rfl) rfl) rfl) rfl) rfl) rfl
        refine s1g p134.z (okMv s150) rfl (yd p134.z rfl rfl s149) fun a151 p152 s153 => ?_
        have s154 := p152.o s149 rfl
        refine s1g p152.z (okLe s153 cst) rfl (yd p152.z rfl rfl s154) fun a155 p156 s157 => ?_
        have s158 := p156.o s154 rfl
        refine s1 p156.z (okPickT s158 s157) rfl fun a159 p160 s161 => ?_
        exact rN ⟨rfl, rfl, ((((Pg.refl p134.z).st p152 rfl).st p156 rfl).st p160 rfl), (andT hb136 s161)⟩
    rintro a162 ⟨pg163, s164⟩
    refine s1 pg163.z (okMv s164) rfl fun a165 p166 s167 => ?_
    obtain ⟨b168, hb169, h⟩ := Option.bind_eq_some_iff.1 h
    refine cutL 5 (fun a' w' => Pg Try.f21.ntmps [33, 34, 35, 36, 37] a165 a' ∧ a'.eval (.tmp 37) = .bool b168 ∧ G [] w22.drew w') ?_ ?_
    · rcases bf (((x0.owner == (-1)) && (decide (1 ≤ x2.value))) && (decide (x2.value ≤ 1000))) with hb170 | hb170
      · have s171 := bv s167 hb170
        replace hb169 := (ifN hb170).symm.trans hb169
        clear h; have h := hb169; clear hb169
        refine s1k p166.z rfl (yd p166.z rfl rfl s171) rfl fun a172 p173 s174 => ?_
        have s175 := p173.o s171 rfl
        refine s1k p173.z rfl (yd p173.z rfl rfl s175) rfl fun a176 p177 s178 => ?_
        have s179 := p177.o s175 rfl
        refine s1k p177.z rfl (yd p177.z rfl rfl s179) rfl fun a180 p181 s182 => ?_
        have s183 := p181.o s179 rfl
        refine s1k p181.z rfl (yd p181.z rfl rfl s183) rfl fun a184 p185 s186 => ?_
        have s187 := p185.o s183 rfl
        refine s1 p185.z (okPickF s187 cst) rfl fun a188 p189 s190 => ?_
        obtain rfl := Option.some.inj h
        exact rN ⟨rfl, ((((((Pg.refl p166.z).st p173 rfl).st p177 rfl).st p181 rfl).st p185 rfl).st p189 rfl), s190, (G.refl _ _)⟩
      · have s191 := bv s167 hb170
        replace hb169 := (ifP hb170).symm.trans hb169
        clear h; have h := hb169; clear hb169
        have s192 := p166.o (pg163.o (p134.o (pg131.o (p102.o (p99.o (p96.o (p93.o s83 rfl) rfl) rfl) rfl) rfl) rfl) rfl) rfl
        refine s1g p166.z (okLdA ag25 s192 (m49.cl) rfl rfl whole) rfl (yd p166.z rfl rfl s191) fun a193 p194 s195 => ?_
        have s196 := p194.o s191 rfl
        have s197 := p194.o (p166.o (pg163.o (p134.o (pg131.o (p102.o (p99.o (p96.o (p93.o s82 rfl) rfl) rfl) rfl) rfl) rfl) rfl) rfl) rfl
        refine s1g p194.z (okMv s197) rfl (yd p194.z rfl rfl s196) fun a198 p199 s200 => ?_
        have s201 := p199.o s196 rfl
        have s202 := p199.o s195 rfl
        have q203 := (q29.t0 (g26.tA (Nat.le_of_eq e27.symm)) g26).t0 g35.t0 g35
        obtain ⟨t204, ht205, h⟩ := Option.bind_eq_some_iff.1 h
        refine lG rfl (yd p199.z rfl rfl s201) (oCall p199.z Try.call30 (ag2 s202 s200) (c30 k (b23 :: b13 :: b3 :: L) w22.drew (fun b h => cx36.lt b ((fun i h => (List.mem_cons.1 h).elim (fun e => e ▸ (.head _)) (fun h => (List.mem_cons.1 h).elim (fun e => e ▸ (.tail _ (.head _))) (fun h => (List.mem_cons.1 h).elim (fun e => e ▸ (.tail _ (.tail _ (.head _)))) (fun h => (.tail _ (.tail _ (.tail _ (List.mem_append_right _ h)))))))) b h)) _ _ (q203.rd (fun i h => (List.mem_cons.1 h).elim (fun e => e ▸ (.head _)) (fun h => (List.mem_cons.1 h).elim (fun e => e ▸ (.tail _ (.head _))) (fun h => (List.mem_cons.1 h).elim (fun e => e ▸ (.tail _ (.tail _ (.head _)))) (fun h => (.tail _ (.tail _ (.tail _ (List.mem_append_right _ h)))))))) (fun b hb => (not_cons (fun e => (q29.nb e27) (e ▸ hb)) (not_cons (fun e => (q18.nb e17) (e ▸ hb)) (not_cons (fun e => (qh0_0.nb e7) (e ▸ hb)) (nbh0_0 _ hb)))))) _ _ ht205) rfl fun v209 a206 w207 hp210 p208 sp208 => ?_)
        obtain ⟨rfl, g211⟩ := hp210
        have cx212 := cx36.ca g211
        have s213 := p208.o s201 rfl
        refine s1g p208.z (okNot sp208) rfl (yd p208.z rfl rfl s213) fun a214 p215 s216 => ?_
        have s217 := p215.o s213 rfl
        refine s1 p215.z (okPickT s217 s216) rfl fun a218 p219 s220 => ?_
        obtain rfl := Option.some.inj h
        exact rN ⟨rfl, ((((((Pg.refl p166.z).st p194 rfl).st p199 rfl).st p208 rfl).st p215 rfl).st p219 rfl), s220, g211⟩
    rintro a221 w224 ⟨pg222, s223, g225⟩
    have cx226 := cx36.ca g225
    refine rN (thenN ?_)
    have pg227 : Pg _ [21, 22, 23, 24, 25, 26, 27, 28, 29, 30, 31, 32, 33, 34, 35, 36, 37] _ _ := ((((((((((Pg.refl pg90.z).st p93 rfl).st p96 rfl).st p99 rfl).st p102 rfl).tr pg131 rfl).st p134 rfl).tr pg163 rfl).st p166 rfl).tr pg222 rfl)
    refine cnd s223 (fun hb228 => ?_) (fun hb228 => ?_)
    · replace h := (ifP hb228).symm.trans h
      refine wp_seq ?_
      refine reg ?_
      have s229 := pg227.o s82 rfl
      refine s1 pg227.z (okMv s229) rfl fun a230 p231 s232 => ?_
      have s233 := p231.o (pg227.o s87 rfl) rfl
      refine s1 p231.z (okMv s233) rfl fun a234 p235 s236 => ?_
      have s237 := p235.o (p231.o (pg227.o s83 rfl) rfl) rfl
      refine s1 p235.z (okFA (o' := 2) fo25_2 s237 rfl) rfl fun a238 p239 s240 => ?_
      have s241 := p239.o (p235.o s232 rfl) rfl
      have m242 := m49.g0 g225
      refine lS (oSto (cs := [.int .i64 x1]) (l' := TThing.C ({ x0 with owner := x1 }) h0_0) p239.z s240 s241 m242 Try.sizeOf3 rfl one1 rfl rfl fun w243 m244 g245 => ?_)
      have cx246 := cx226.st g245 f9
      have s247 := p239.o s237 rfl
      refine s1 p239.z (okFA (o' := 3) fo25_3 s247 rfl) rfl fun a248 p249 s250 => ?_
      have s251 := p249.o (p239.o s236 rfl) rfl
      refine lS (oSto (cs := [.int .i64 x2.value]) (l' := TThing.C ({ x0 with owner := x1, holds := x2.value }) h0_0) p249.z s250 s251 m244 Try.sizeOf3 rfl one1 rfl rfl fun w252 m253 g254 => ?_)
      have cx255 := cx246.st g254 f9
      refine rN (thenN ?_)
      refine wp_seq ?_
      refine reg ?_
      have s256 := p249.o s247 rfl
      refine s1 p249.z (okLdA ag25 s256 (m253.cl) rfl rfl whole) rfl fun a257 p258 s259 => ?_
      have s260 := p258.o (p249.o (p239.o (p235.o (p231.o (pg227.o s85 rfl) rfl) rfl) rfl) rfl) rfl
      have m261 := (((m25.g0 g35).g0 g225).g1 g245 (m28.ne e27).symm).g1 g254 (m28.ne e27).symm
      have q262 := ((((q29.t0 (g26.tA (Nat.le_of_eq e27.symm)) g26).t0 g35.t0 g35).t0 g225.t0 g225).t1 (g245.t1 (.tail _ (.tail _ (.head _)))) g245 (qh0_0.nb e7)).t1 (g254.t1 (.tail _ (.tail _ (.head _)))) g254 (qh0_0.nb e7)
      refine lS (oStoW (cs := TThing.C ({ x0 with owner := x1, holds := x2.value }) h0_0) p258.z s260 s259 m261 Try.sizeOf25 rfl (TThing.C_one _ q262.one) rfl fun w263 m264 g265 => ?_)
      have cx266 := cx255.st g265 f31
      refine s1 p258.z (okAs cst) rfl fun a267 p268 s269 => ?_
      refine rN (thenN ?_)
      have s270 := p268.o s260 rfl
      obtain rfl := Option.some.inj h
      have q271 := q262.t1 (g265.t1 (.head _)) g265 (q29.nb e27)
      exact wp_ret (thenR (blkR (thenR (ret2 p268.z Try.results21 (rvA ag25 s270 m264 rfl) (rvT s269) ⟨_, rfl, h0_0, rfl, (q271.rd (fun i h => (.tail _ (.tail _ (.tail _ (List.mem_append_right _ h))))) nbh0_0), cx266.g⟩))))
    replace h := (ifN hb228).symm.trans h
    refine wp_skip (thenN ?_)
    refine wp_seq ?_
    refine reg ?_
    have s272 := pg227.o s83 rfl
    refine s1 pg227.z (okFA (o' := 3) fo25_3 s272 rfl) rfl fun a273 p274 s275 => ?_
    have m276 := m49.g0 g225
    refine s1 p274.z (okLd (j := 3) na3 s275 (m276.cl) rfl rfl) rfl fun a277 p278 s279 => ?_
    refine s1 p278.z (okAdd s279 cst) rfl fun a280 p281 s282 => ?_
    have s283 := p281.o (p278.o (p274.o s272 rfl) rfl) rfl
    refine s1 p281.z (okFA (o' := 3) fo25_3 s283 rfl) rfl fun a284 p285 s286 => ?_
    have s287 := p285.o s282 rfl
    refine lS (oSto (cs := [.int .i64 (w64 (x0.holds + 1))]) (l' := TThing.C ({ x0 with holds := w64 (x0.holds + 1) }) h0_0) p285.z s286 s287 m276 Try.sizeOf3 rfl one1 rfl rfl fun w288 m289 g290 => ?_)
    have cx291 := cx226.st g290 f9
    refine rN (thenN ?_)
    refine wp_seq ?_
    have s383 := p285.o (p281.o (p278.o (p274.o (pg227.o s82 rfl) rfl) rfl) rfl) rfl
    have s384 := p285.o s283 rfl
    have s385 := p285.o (p281.o (p278.o (p274.o (pg227.o s84 rfl) rfl) rfl) rfl) rfl
    have s386 := p285.o (p281.o (p278.o (p274.o (pg227.o s85 rfl) rfl) rfl) rfl) rfl
    have m387 := (m41.g0 g225).g1 g290 (m5.ne e17).symm
    have m388 := ((m25.g0 g35).g0 g225).g1 g290 (m28.ne e27).symm
    refine regJ (fun a' w' => Z Try.f21.ntmps a' ∧ a'.eval (.tmp 1) = .int .i64 x1 ∧ a'.eval (.tmp 3) = ptr b3 0 ∧ a'.eval (.tmp 5) = ptr b13 0 ∧ a'.eval (.tmp 6) = ptr b23 0 ∧ a'.eval (.tmp 7) = .bool (((x0.owner == x1) && (x2.value == 1)) && (decide (w64 (x0.holds + 1) ≤ 1000))) ∧ Bk w' b3 (TThing.C ({ x0 with holds := w64 (x0.holds + 1) }) h0_0) 25 ∧ Bk w' b13 (TNote.C x2) 29 ∧ Bk w' b23 (TThing.C ({ x0 with holds := w64 (x0.holds + 1) }) h0_0) 25 ∧ OwnS KTWaiter 45 (b23 :: b13 :: b3 :: ownB h0_0 ++ L) w' h0_0 x0.waiters ∧ Cx (ownB h0_0) w (b23 :: b13 :: b3 :: ownB h0_0 ++ L) w' ∧ Tr (b23 :: b13 :: b3 :: ownB h0_0 ++ L) w288 (b23 :: b13 :: b3 :: ownB h0_0 ++ L) w') ?_ ?_
    · refine regH (n := 13) [(0, fun w' => Cl w' b3 0 (TThing.C ({ x0 with holds := w64 (x0.holds + 1) }) h0_0)), (8, fun w' => Cl w' b3 3 [.int .i64 (w64 (x0.holds + 1))])] mixed rfl ?_
      have g389 := G.drew w288
      have cx390 := cx291.ca g389
      have m391 := m289.g0 g389
      refine hTakeW (i := 0) rfl (by kernel_rfl) (by kernel_rfl) (by kernel_rfl) nrm (.inr (.head _)) p285.z (wN rfl) (fun _ h => okLdA ag25 s384 h rfl rfl whole) (m391.clp rfl) rfl fun a392 p393 sp393 => ?_
      have s394 := p393.o (p285.o (p281.o (p278.o (p274.o (pg227.o s88 rfl) rfl) rfl) rfl) rfl) rfl
      refine hTakeW (i := 1) rfl (by kernel_rfl) (by kernel_rfl) (by kernel_rfl) nrm (cond := fun _ => True) (.inl fun _ => trivial) p393.z (wN rfl) (fun _ _ => okMv s394) trivial rfl fun a395 p396 sp396 => ?_
      refine hTakeW (i := 2) rfl (by kernel_rfl) (by kernel_rfl) (by kernel_rfl) nrm (cond := fun _ => True) (.inl fun _ => trivial) p396.z (wN rfl) (fun _ _ => okMv sp396) trivial rfl fun a397 p398 sp398 => ?_
      rcases bf (x0.owner == x1) with hb399 | hb399
      · have s400 := bv sp398 hb399
        refine hSkip (i := 3) rfl (by kernel_rfl) (by kernel_rfl) (by kernel_rfl) nrm rfl p398.z (yd p398.z rfl rfl s400) rfl rfl fun a401 p402 sp402 => ?_
        have s403 := p402.o s400 rfl
        refine hSkip (i := 4) rfl (by kernel_rfl) (by kernel_rfl) (by kernel_rfl) nrm rfl p402.z (yd p402.z rfl rfl s403) rfl rfl fun a404 p405 sp405 => ?_
        have s406 := p405.o s403 rfl
        refine hTakeW (i := 5) rfl (by kernel_rfl) (by kernel_rfl) (by kernel_rfl) nrm (cond := fun _ => True) (.inl fun _ => trivial) p405.z (wN rfl) (fun _ _ => okPickF s406 cst) trivial rfl fun a407 p408 sp408 => ?_
        refine hTakeW (i := 6) rfl (by kernel_rfl) (by kernel_rfl) (by kernel_rfl) nrm (cond := fun _ => True) (.inl fun _ => trivial) p408.z (wN rfl) (fun _ _ => okMv sp408) trivial rfl fun a409 p410 sp410 => ?_
        refine hSkip (i := 7) rfl (by kernel_rfl) (by kernel_rfl) (by kernel_rfl) nrm rfl p410.z (yd p410.z rfl rfl sp410) rfl rfl fun a411 p412 sp412 => ?_
        have s413 := p412.o sp410 rfl
        refine hSkip (i := 8) rfl (by kernel_rfl) (by kernel_rfl) (by kernel_rfl) nrm rfl p412.z (yd p412.z rfl rfl s413) rfl rfl fun a414 p415 sp415 => ?_
        have s416 := p415.o s413 rfl
        refine hSkip (i := 9) rfl (by kernel_rfl) (by kernel_rfl) (by kernel_rfl) nrm rfl p415.z (yd p415.z rfl rfl s416) rfl rfl fun a417 p418 sp418 => ?_
        have s419 := p418.o s416 rfl
        refine hTakeW (i := 10) rfl (by kernel_rfl) (by kernel_rfl) (by kernel_rfl) nrm (cond := fun _ => True) (.inl fun _ => trivial) p418.z (wN rfl) (fun _ _ => okPickF s419 cst) trivial rfl fun a420 p421 sp421 => ?_
        have s422 := p421.o (p418.o (p415.o (p412.o (p410.o (p408.o (p405.o (p402.o (p398.o (p396.o (p393.o s386 rfl) rfl) rfl) rfl) rfl) rfl) rfl) rfl) rfl) rfl) rfl
        have s423 := p421.o (p418.o (p415.o (p412.o (p410.o (p408.o (p405.o (p402.o (p398.o (p396.o sp393 rfl) rfl) rfl) rfl) rfl) rfl) rfl) rfl) rfl) rfl
        have m424 := m388.g0 g389
        have q425 := ((((q29.t0 (g26.tA (Nat.le_of_eq e27.symm)) g26).t0 g35.t0 g35).t0 g225.t0 g225).t1 (g290.t1 (.tail _ (.tail _ (.head _)))) g290 (qh0_0.nb e7)).t0 g389.t0 g389
        refine hOne (i := 11) (by kernel_rfl) rfl (oStoW (cs := TThing.C ({ x0 with holds := w64 (x0.holds + 1) }) h0_0) p421.z s422 s423 m424 Try.sizeOf25 rfl (TThing.C_one _ q425.one) rfl fun w426 m427 g428 => ?_)
        have cx429 := cx390.st g428 f31
        refine ⟨⟨.inl rfl, .inr fun h => h.g1 g428 (m28.ne e27), trivial⟩, ?_⟩
        refine hTakeW (i := 12) rfl (by kernel_rfl) (by kernel_rfl) (by kernel_rfl) nrm (cond := fun _ => True) (.inl fun _ => trivial) p421.z (wN rfl) (fun _ _ => okAs sp421) trivial rfl fun a430 p431 sp431 => ?_
        have q432 := q425.t1 (g428.t1 (.head _)) g428 (q29.nb e27)
        have s433 := p431.o (p421.o (p418.o (p415.o (p412.o (p410.o (p408.o (p405.o (p402.o (p398.o (p396.o (p393.o s383 rfl) rfl) rfl) rfl) rfl) rfl) rfl) rfl) rfl) rfl) rfl) rfl
        have s434 := p431.o (p421.o (p418.o (p415.o (p412.o (p410.o (p408.o (p405.o (p402.o (p398.o (p396.o (p393.o s384 rfl) rfl) rfl) rfl) rfl) rfl) rfl) rfl) rfl) rfl) rfl) rfl
        have s435 := p431.o (p421.o (p418.o (p415.o (p412.o (p410.o (p408.o (p405.o (p402.o (p398.o (p396.o (p393.o s385 rfl) rfl) rfl) rfl) rfl) rfl) rfl) rfl) rfl) rfl) rfl) rfl
        have s436 := p431.o s422 rfl
        have m437 := m391.g1 g428 (m28.ne e27)
        have m438 := (m387.g0 g389).g1 g428 (m15.ne e27)
        exact hDone (by kernel_rfl) ⟨rfl, p431.z, s433, s434, s435, s436, (bvE sp431 (by simp [hb399])), m437, m438, m427, q432, cx429, (g389.t0.trans (g428.t1 (.head _)))⟩
      · have s439 := bv sp398 hb399
        have s440 := p398.o (p396.o (p393.o (p285.o (p281.o (p278.o (p274.o (pg227.o s87 rfl) rfl) rfl) rfl) rfl) rfl) rfl) rfl
        refine hTakeW (i := 3) rfl (by kernel_rfl) (by kernel_rfl) (by kernel_rfl) nrm (cond := fun _ => True) (.inl fun _ => trivial) p398.z (wG rfl (yd p398.z rfl rfl s439)) (fun _ _ => okMv s440) trivial rfl fun a441 p442 sp442 => ?_
        have s443 := p442.o s439 rfl
        refine hTakeW (i := 4) rfl (by kernel_rfl) (by kernel_rfl) (by kernel_rfl) nrm (cond := fun _ => True) (.inl fun _ => trivial) p442.z (wG rfl (yd p442.z rfl rfl s443)) (fun _ _ => okEq sp442 cst) trivial rfl fun a444 p445 sp445 => ?_
        have s446 := p445.o s443 rfl
        refine hTakeW (i := 5) rfl (by kernel_rfl) (by kernel_rfl) (by kernel_rfl) nrm (cond := fun _ => True) (.inl fun _ => trivial) p445.z (wN rfl) (fun _ _ => okPickT s446 sp445) trivial rfl fun a447 p448 sp448 => ?_
        refine hTakeW (i := 6) rfl (by kernel_rfl) (by kernel_rfl) (by kernel_rfl) nrm (cond := fun _ => True) (.inl fun _ => trivial) p448.z (wN rfl) (fun _ _ => okMv sp448) trivial rfl fun a449 p450 sp450 => ?_
        rcases bf (x2.value == 1) with hb451 | hb451
        · have s452 := bv sp450 hb451
          refine hSkip (i := 7) rfl (by kernel_rfl) (by kernel_rfl) (by kernel_rfl) nrm rfl p450.z (yd p450.z rfl rfl s452) rfl rfl fun a453 p454 sp454 => ?_
          have s455 := p454.o s452 rfl
          refine hSkip (i := 8) rfl (by kernel_rfl) (by kernel_rfl) (by kernel_rfl) nrm rfl p454.z (yd p454.z rfl rfl s455) rfl rfl fun a456 p457 sp457 => ?_
          have s458 := p457.o s455 rfl
          refine hSkip (i := 9) rfl (by kernel_rfl) (by kernel_rfl) (by kernel_rfl) nrm rfl p457.z (yd p457.z rfl rfl s458) rfl rfl fun a459 p460 sp460 => ?_
          have s461 := p460.o s458 rfl
          refine hTakeW (i := 10) rfl (by kernel_rfl) (by kernel_rfl) (by kernel_rfl) nrm (cond := fun _ => True) (.inl fun _ => trivial) p460.z (wN rfl) (fun _ _ => okPickF s461 cst) trivial rfl fun a462 p463 sp463 => ?_
          have s464 := p463.o (p460.o (p457.o (p454.o (p450.o (p448.o (p445.o (p442.o (p398.o (p396.o (p393.o s386 rfl) rfl) rfl) rfl) rfl) rfl) rfl) rfl) rfl) rfl) rfl
          have s465 := p463.o (p460.o (p457.o (p454.o (p450.o (p448.o (p445.o (p442.o (p398.o (p396.o sp393 rfl) rfl) rfl) rfl) rfl) rfl) rfl) rfl) rfl) rfl
          have m466 := m388.g0 g389
          have q467 := ((((q29.t0 (g26.tA (Nat.le_of_eq e27.symm)) g26).t0 g35.t0 g35).t0 g225.t0 g225).t1 (g290.t1 (.tail _ (.tail _ (.head _)))) g290 (qh0_0.nb e7)).t0 g389.t0 g389
          refine hOne (i := 11) (by kernel_rfl) rfl (oStoW (cs := TThing.C ({ x0 with holds := w64 (x0.holds + 1) }) h0_0) p463.z s464 s465 m466 Try.sizeOf25 rfl (TThing.C_one _ q467.one) rfl fun w468 m469 g470 => ?_)
          have cx471 := cx390.st g470 f31
          refine ⟨⟨.inl rfl, .inr fun h => h.g1 g470 (m28.ne e27), trivial⟩, ?_⟩
          refine hTakeW (i := 12) rfl (by kernel_rfl) (by kernel_rfl) (by kernel_rfl) nrm (cond := fun _ => True) (.inl fun _ => trivial) p463.z (wN rfl) (fun _ _ => okAs sp463) trivial rfl fun a472 p473 sp473 => ?_
          have q474 := q467.t1 (g470.t1 (.head _)) g470 (q29.nb e27)
          have s475 := p473.o (p463.o (p460.o (p457.o (p454.o (p450.o (p448.o (p445.o (p442.o (p398.o (p396.o (p393.o s383 rfl) rfl) rfl) rfl) rfl) rfl) rfl) rfl) rfl) rfl) rfl) rfl
          have s476 := p473.o (p463.o (p460.o (p457.o (p454.o (p450.o (p448.o (p445.o (p442.o (p398.o (p396.o (p393.o s384 rfl) rfl) rfl) rfl) rfl) rfl) rfl) rfl) rfl) rfl) rfl) rfl
          have s477 := p473.o (p463.o (p460.o (p457.o (p454.o (p450.o (p448.o (p445.o (p442.o (p398.o (p396.o (p393.o s385 rfl) rfl) rfl) rfl) rfl) rfl) rfl) rfl) rfl) rfl) rfl) rfl
          have s478 := p473.o s464 rfl
          have m479 := m391.g1 g470 (m28.ne e27)
          have m480 := (m387.g0 g389).g1 g470 (m15.ne e27)
          exact hDone (by kernel_rfl) ⟨rfl, p473.z, s475, s476, s477, s478, (bvE sp473 (by simp [hb399, hb451])), m479, m480, m469, q474, cx471, (g389.t0.trans (g470.t1 (.head _)))⟩
        · have s481 := bv sp450 hb451
          have s482 := p450.o (p448.o (p445.o (p442.o (p398.o (p396.o (p393.o s384 rfl) rfl) rfl) rfl) rfl) rfl) rfl
          refine hTakeW (i := 7) rfl (by kernel_rfl) (by kernel_rfl) (by kernel_rfl) nrm (cond := fun _ => True) (.inl fun _ => trivial) p450.z (wG rfl (yd p450.z rfl rfl s481)) (fun _ _ => okFA (o' := 3) fo25_3 s482 rfl) trivial rfl fun a483 p484 sp484 => ?_
          have s485 := p484.o s481 rfl
          refine hTakeW (i := 8) rfl (by kernel_rfl) (by kernel_rfl) (by kernel_rfl) nrm (.inr (.tail _ (.head _))) p484.z (wG rfl (yd p484.z rfl rfl s485)) (fun _ h => okLd (j := 0) na3 sp484 h rfl rfl) (m391.clp rfl) rfl fun a486 p487 sp487 => ?_
          have s488 := p487.o s485 rfl
          refine hTakeW (i := 9) rfl (by kernel_rfl) (by kernel_rfl) (by kernel_rfl) nrm (cond := fun _ => True) (.inl fun _ => trivial) p487.z (wG rfl (yd p487.z rfl rfl s488)) (fun _ _ => okLe sp487 cst) trivial rfl fun a489 p490 sp490 => ?_
          have s491 := p490.o s488 rfl
          refine hTakeW (i := 10) rfl (by kernel_rfl) (by kernel_rfl) (by kernel_rfl) nrm (cond := fun _ => True) (.inl fun _ => trivial) p490.z (wN rfl) (fun _ _ => okPickT s491 sp490) trivial rfl fun a492 p493 sp493 => ?_
          have s494 := p493.o (p490.o (p487.o (p484.o (p450.o (p448.o (p445.o (p442.o (p398.o (p396.o (p393.o s386 rfl) rfl) rfl) rfl) rfl) rfl) rfl) rfl) rfl) rfl) rfl
          have s495 := p493.o (p490.o (p487.o (p484.o (p450.o (p448.o (p445.o (p442.o (p398.o (p396.o sp393 rfl) rfl) rfl) rfl) rfl) rfl) rfl) rfl) rfl) rfl
          have m496 := m388.g0 g389
          have q497 := ((((q29.t0 (g26.tA (Nat.le_of_eq e27.symm)) g26).t0 g35.t0 g35).t0 g225.t0 g225).t1 (g290.t1 (.tail _ (.tail _ (.head _)))) g290 (qh0_0.nb e7)).t0 g389.t0 g389
          refine hOne (i := 11) (by kernel_rfl) rfl (oStoW (cs := TThing.C ({ x0 with holds := w64 (x0.holds + 1) }) h0_0) p493.z s494 s495 m496 Try.sizeOf25 rfl (TThing.C_one _ q497.one) rfl fun w498 m499 g500 => ?_)
          have cx501 := cx390.st g500 f31
          refine ⟨⟨.inl rfl, .inr fun h => h.g1 g500 (m28.ne e27), trivial⟩, ?_⟩
          refine hTakeW (i := 12) rfl (by kernel_rfl) (by kernel_rfl) (by kernel_rfl) nrm (cond := fun _ => True) (.inl fun _ => trivial) p493.z (wN rfl) (fun _ _ => okAs sp493) trivial rfl fun a502 p503 sp503 => ?_
          have q504 := q497.t1 (g500.t1 (.head _)) g500 (q29.nb e27)
          have s505 := p503.o (p493.o (p490.o (p487.o (p484.o (p450.o (p448.o (p445.o (p442.o (p398.o (p396.o (p393.o s383 rfl) rfl) rfl) rfl) rfl) rfl) rfl) rfl) rfl) rfl) rfl) rfl
          have s506 := p503.o (p493.o (p490.o (p487.o (p484.o s482 rfl) rfl) rfl) rfl) rfl
          have s507 := p503.o (p493.o (p490.o (p487.o (p484.o (p450.o (p448.o (p445.o (p442.o (p398.o (p396.o (p393.o s385 rfl) rfl) rfl) rfl) rfl) rfl) rfl) rfl) rfl) rfl) rfl) rfl
          have s508 := p503.o s494 rfl
          have m509 := m391.g1 g500 (m28.ne e27)
          have m510 := (m387.g0 g389).g1 g500 (m15.ne e27)
          exact hDone (by kernel_rfl) ⟨rfl, p503.z, s505, s506, s507, s508, (bvE sp503 (by simp [hb399, hb451])), m509, m510, m499, q504, cx501, (g389.t0.trans (g500.t1 (.head _)))⟩
    rintro a511 w512 ⟨z513, s514, s515, s516, s517, s518, m519, m520, m521, q522, cx523, t524⟩
    refine thenN ?_
    obtain rfl := Option.some.inj h
    exact wp_ret (blkR (thenR (ret2 z513 Try.results21 (rvA ag25 s517 m521 rfl) (rvT s518) ⟨_, rfl, h0_0, rfl, (q522.rd (fun i h => (.tail _ (.tail _ (.tail _ (List.mem_append_right _ h))))) nbh0_0), cx523.g⟩)))
  replace h := (ifN hb91).symm.trans h
  refine wp_seq ?_
  refine reg ?_
  refine s1 pg90.z (okEq s89 cst) rfl fun a525 p526 s527 => ?_
  refine s1 p526.z (okAs s527) rfl fun a528 p529 s530 => ?_
  refine rN (thenN ?_)
  refine cnd s530 (fun hb531 => ?_) (fun hb531 => ?_)
  · replace h := (ifP hb531).symm.trans h
    refine wp_seq ?_
    refine reg ?_
    have s532 := p529.o (p526.o s83 rfl) rfl
    refine s1 p529.z (okLdA ag25 s532 (m49.cl) rfl rfl whole) rfl fun a533 p534 s535 => ?_
    have q536 := (q29.t0 (g26.tA (Nat.le_of_eq e27.symm)) g26).t0 g35.t0 g35
    have q537 : RdS KTWaiter (b23 :: b13 :: b3 :: L) w22.drew h0_0 x0.waiters := q536.rd (fun i h => (List.mem_cons.1 h).elim (fun e => e ▸ (.head _)) (fun h => (List.mem_cons.1 h).elim (fun e => e ▸ (.tail _ (.head _))) (fun h => (List.mem_cons.1 h).elim (fun e => e ▸ (.tail _ (.tail _ (.head _)))) (fun h => (.tail _ (.tail _ (.tail _ (List.mem_append_right _ h)))))))) (fun b hb => (not_cons (fun e => (q29.nb e27) (e ▸ hb)) (not_cons (fun e => (q18.nb e17) (e ▸ hb)) (not_cons (fun e => (qh0_0.nb e7) (e ▸ hb)) (nbh0_0 _ hb)))))
    have cx538 := cx36.sub (fun i h => (List.mem_cons.1 h).elim (fun e => e ▸ (.head _)) (fun h => (List.mem_cons.1 h).elim (fun e => e ▸ (.tail _ (.head _))) (fun h => (List.mem_cons.1 h).elim (fun e => e ▸ (.tail _ (.tail _ (.head _)))) (fun h => (.tail _ (.tail _ (.tail _ (List.mem_append_right _ h))))))))
    obtain ⟨t539, ht540, h⟩ := Option.bind_eq_some_iff.1 h
    refine lS (oCall p534.z Try.call31 (ag1 s535) (c31 (b23 :: b13 :: b3 :: L) w22.drew cx538.lt _ _ q537 _ ht540) rfl fun v544 a541 w542 hp545 p543 sp543 => ?_)
    obtain ⟨h546, rfl, q547, g548⟩ := hp545
    have cx549 := cx538.ca g548
    have s550 := p543.o (p534.o (p529.o (p526.o s88 rfl) rfl) rfl) rfl
    refine s1 p543.z (okMv s550) rfl fun a551 p552 s553 => ?_
    refine s1 p552.z (okMv s553) rfl fun a554 p555 s556 => ?_
    refine cutP 3 (fun a' => Pg Try.f21.ntmps [64, 65, 66] a554 a' ∧ a'.eval (.tmp 66) = .bool ((x0.owner == x1) && (x2.value == 0))) ?_ ?_
    · rcases bf (x0.owner == x1) with hb557 | hb557
      · have s558 := bv s556 hb557
        refine s1k p555.z rfl (yd p555.z rfl rfl s558) rfl fun a559 p560 s561 => ?_
        have s562 := p560.o s558 rfl
        refine s1k p560.z rfl (yd p560.z rfl rfl s562) rfl fun a563 p564 s565 => ?_
        have s566 := p564.o s562 rfl
        refine s1 p564.z (okPickF s566 cst) rfl fun a567 p568 s569 => ?_
        exact rN ⟨rfl, rfl, ((((Pg.refl p555.z).st p560 rfl).st p564 rfl).st p568 rfl), (andF hb557 s569)⟩
      · have s570 := bv s556 hb557
        have s571 := p555.o (p552.o (p543.o (p534.o (p529.o (p526.o s87 rfl) rfl) rfl) rfl) rfl) rfl
        refine s1g p555.z (okMv s571) rfl (yd p555.z rfl rfl s570) fun a572 p573 s574 => ?_
        have s575 := p573.o s570 rfl
        refine s1g p573.z (okEq s574 cst) rfl (yd p573.z rfl rfl s575) fun a576 p577 s578 => ?_
        have s579 := p577.o s575 rfl
        refine s1 p577.z (okPickT s579 s578) rfl fun a580 p581 s582 => ?_
        exact rN ⟨rfl, rfl, ((((Pg.refl p555.z).st p573 rfl).st p577 rfl).st p581 rfl), (andT hb557 s582)⟩
    rintro a583 ⟨pg584, s585⟩
    have s586 := pg584.o (p555.o (p552.o (p543.o (p534.o (p529.o (p526.o s85 rfl) rfl) rfl) rfl) rfl) rfl) rfl
    have s587 := pg584.o (p555.o (p552.o sp543 rfl) rfl) rfl
    have m588 := ((m25.g0 g35).g0 (G.refl [] w22.drew)).g0 g548
    refine lS (oStoW (cs := TThing.C t539 h546) pg584.z s586 s587 m588 Try.sizeOf25 rfl (TThing.C_one _ q547.one) rfl fun w589 m590 g591 => ?_)
    have cx592 := cx549.st g591 f31
    refine s1 pg584.z (okAs s585) rfl fun a593 p594 s595 => ?_
    refine rN (thenN ?_)
    have s596 := p594.o s586 rfl
    obtain rfl := Option.some.inj h
    have q597 := q547.mono (g591.t1 (.head _))
    exact wp_ret (blkR (thenR (ret2 p594.z Try.results21 (rvA ag25 s596 m590 rfl) (rvT s595) ⟨_, rfl, h546, rfl, (q597.mono ((Tr.refl _ _).sub (fun i h => (.tail _ (.tail _ (.tail _ h)))))), cx592.g⟩)))
  replace h := (ifN hb531).symm.trans h
  refine wp_seq ?_
  refine reg ?_
  have s598 := p529.o (p526.o s89 rfl) rfl
  refine s1 p529.z (okEq s598 cst) rfl fun a599 p600 s601 => ?_
  refine s1 p600.z (okAs s601) rfl fun a602 p603 s604 => ?_
  refine rN (thenN ?_)
  have s605 := p603.o (p600.o s598 rfl) rfl
  have pg606 : Pg _ [58, 59, 67, 68] _ _ := (((((Pg.refl pg90.z).st p526 rfl).st p529 rfl).st p600 rfl).st p603 rfl)
  refine cnd s604 (fun hb607 => ?_) (fun hb607 => ?_)
  · replace h := (ifP hb607).symm.trans h
    refine wp_seq ?_
    refine reg ?_
    have s608 := pg606.o s83 rfl
    refine s1 pg606.z (okLdA ag25 s608 (m49.cl) rfl rfl whole) rfl fun a609 p610 s611 => ?_
    have s612 := p610.o s608 rfl
    refine s1 p610.z (okFA (o' := 2) fo25_2 s612 rfl) rfl fun a613 p614 s615 => ?_
    refine s1 p614.z (okLd (j := 2) na3 s615 (m49.cl) rfl rfl) rfl fun a616 p617 s618 => ?_
    refine s1 p617.z (okNe s618 cst) rfl fun a619 p620 s621 => ?_
    refine s1 p620.z (okMv s621) rfl fun a622 p623 s624 => ?_
    refine cutP 3 (fun a' => Pg Try.f21.ntmps [74, 75, 76] a622 a' ∧ a'.eval (.tmp 76) = .bool ((x0.owner != (-1)) && (!(x0.owner == x1)))) ?_ ?_
    · rcases bf (x0.owner != (-1)) with hb625 | hb625
      · have s626 := bv s624 hb625
        refine s1k p623.z rfl (yd p623.z rfl rfl s626) rfl fun a627 p628 s629 => ?_
        have s630 := p628.o s626 rfl
        refine s1k p628.z rfl (yd p628.z rfl rfl s630) rfl fun a631 p632 s633 => ?_
        have s634 := p632.o s630 rfl
        refine s1 p632.z (okPickF s634 cst) rfl fun a635 p636 s637 => ?_
        exact rN ⟨rfl, rfl, ((((Pg.refl p623.z).st p628 rfl).st p632 rfl).st p636 rfl), (andF hb625 s637)⟩
      · have s638 := bv s624 hb625
        have s639 := p623.o (p620.o (p617.o (p614.o (p610.o (pg606.o s88 rfl) rfl) rfl) rfl) rfl) rfl
        refine s1g p623.z (okMv s639) rfl (yd p623.z rfl rfl s638) fun a640 p641 s642 => ?_
        have s643 := p641.o s638 rfl
        refine s1g p641.z (okNot s642) rfl (yd p641.z rfl rfl s643) fun a644 p645 s646 => ?_
        have s647 := p645.o s643 rfl
        refine s1 p645.z (okPickT s647 s646) rfl fun a648 p649 s650 => ?_
        exact rN ⟨rfl, rfl, ((((Pg.refl p623.z).st p641 rfl).st p645 rfl).st p649 rfl), (andT hb625 s650)⟩
    rintro a651 ⟨pg652, s653⟩
    refine s1 pg652.z (okMv s653) rfl fun a654 p655 s656 => ?_
    refine cutP 3 (fun a' => Pg Try.f21.ntmps [78, 79, 80] a654 a' ∧ a'.eval (.tmp 80) = .bool (((x0.owner != (-1)) && (!(x0.owner == x1))) && (x2.value == 0))) ?_ ?_
    · rcases bf ((x0.owner != (-1)) && (!(x0.owner == x1))) with hb657 | hb657
      · have s658 := bv s656 hb657
        refine s1k p655.z rfl (yd p655.z rfl rfl s658) rfl fun a659 p660 s661 => ?_
        have s662 := p660.o s658 rfl
        refine s1k p660.z rfl (yd p660.z rfl rfl s662) rfl fun a663 p664 s665 => ?_
        have s666 := p664.o s662 rfl
        refine s1 p664.z (okPickF s666 cst) rfl fun a667 p668 s669 => ?_
        exact rN ⟨rfl, rfl, ((((Pg.refl p655.z).st p660 rfl).st p664 rfl).st p668 rfl), (andF hb657 s669)⟩
      · have s670 := bv s656 hb657
        have s671 := p655.o (pg652.o (p623.o (p620.o (p617.o (p614.o (p610.o (pg606.o s87 rfl) rfl) rfl) rfl) rfl) rfl) rfl) rfl
        refine s1g p655.z (okMv s671) rfl (yd p655.z rfl rfl s670) fun a672 p673 s674 => ?_
        have s675 := p673.o s670 rfl
        refine s1g p673.z (okEq s674 cst) rfl (yd p673.z rfl rfl s675) fun a676 p677 s678 => ?_
        have s679 := p677.o s675 rfl
        refine s1 p677.z (okPickT s679 s678) rfl fun a680 p681 s682 => ?_
        exact rN ⟨rfl, rfl, ((((Pg.refl p655.z).st p673 rfl).st p677 rfl).st p681 rfl), (andT hb657 s682)⟩
    rintro a683 ⟨pg684, s685⟩
    have s686 := pg684.o (p655.o (pg652.o (p623.o (p620.o (p617.o (p614.o (p610.o (pg606.o s85 rfl) rfl) rfl) rfl) rfl) rfl) rfl) rfl) rfl
    have s687 := pg684.o (p655.o (pg652.o (p623.o (p620.o (p617.o (p614.o s611 rfl) rfl) rfl) rfl) rfl) rfl) rfl
    have m688 := m25.g0 g35
    have q689 := (q29.t0 (g26.tA (Nat.le_of_eq e27.symm)) g26).t0 g35.t0 g35
    refine lS (oStoW (cs := TThing.C x0 h0_0) pg684.z s686 s687 m688 Try.sizeOf25 rfl (TThing.C_one _ q689.one) rfl fun w690 m691 g692 => ?_)
    have cx693 := cx36.st g692 f31
    refine s1 pg684.z (okAs s685) rfl fun a694 p695 s696 => ?_
    refine rN (thenN ?_)
    have s697 := p695.o s686 rfl
    obtain rfl := Option.some.inj h
    have q698 := q689.t1 (g692.t1 (.head _)) g692 (q29.nb e27)
    exact wp_ret (blkR (thenR (ret2 p695.z Try.results21 (rvA ag25 s697 m691 rfl) (rvT s696) ⟨_, rfl, h0_0, rfl, (q698.rd (fun i h => (.tail _ (.tail _ (.tail _ (List.mem_append_right _ h))))) nbh0_0), cx693.g⟩)))
  replace h := (ifN hb607).symm.trans h
  refine wp_seq ?_
  refine reg ?_
  refine s1 pg606.z (okEq s605 cst) rfl fun a699 p700 s701 => ?_
  refine s1 p700.z (okAs s701) rfl fun a702 p703 s704 => ?_
  refine rN (thenN ?_)
  refine cnd s704 (fun hb705 => ?_) (fun hb705 => ?_)
  · replace h := (ifP hb705).symm.trans h
    refine wp_seq ?_
    refine reg ?_
    have s706 := p703.o (p700.o (pg606.o s83 rfl) rfl) rfl
    refine s1 p703.z (okLdA ag25 s706 (m49.cl) rfl rfl whole) rfl fun a707 p708 s709 => ?_
    have s710 := p708.o (p703.o (p700.o (pg606.o s88 rfl) rfl) rfl) rfl
    refine s1 p708.z (okMv s710) rfl fun a711 p712 s713 => ?_
    refine s1 p712.z (okNot s713) rfl fun a714 p715 s716 => ?_
    refine s1 p715.z (okMv s716) rfl fun a717 p718 s719 => ?_
    refine cutP 3 (fun a' => Pg Try.f21.ntmps [87, 88, 89] a717 a' ∧ a'.eval (.tmp 89) = .bool ((!(x0.owner == x1)) && (x2.value == 0))) ?_ ?_
    · rcases bf (!(x0.owner == x1)) with hb720 | hb720
      · have s721 := bv s719 hb720
        refine s1k p718.z rfl (yd p718.z rfl rfl s721) rfl fun a722 p723 s724 => ?_
        have s725 := p723.o s721 rfl
        refine s1k p723.z rfl (yd p723.z rfl rfl s725) rfl fun a726 p727 s728 => ?_
        have s729 := p727.o s725 rfl
        refine s1 p727.z (okPickF s729 cst) rfl fun a730 p731 s732 => ?_
        exact rN ⟨rfl, rfl, ((((Pg.refl p718.z).st p723 rfl).st p727 rfl).st p731 rfl), (andF hb720 s732)⟩
      · have s733 := bv s719 hb720
        have s734 := p718.o (p715.o (p712.o (p708.o (p703.o (p700.o (pg606.o s87 rfl) rfl) rfl) rfl) rfl) rfl) rfl
        refine s1g p718.z (okMv s734) rfl (yd p718.z rfl rfl s733) fun a735 p736 s737 => ?_
        have s738 := p736.o s733 rfl
        refine s1g p736.z (okEq s737 cst) rfl (yd p736.z rfl rfl s738) fun a739 p740 s741 => ?_
        have s742 := p740.o s738 rfl
        refine s1 p740.z (okPickT s742 s741) rfl fun a743 p744 s745 => ?_
        exact rN ⟨rfl, rfl, ((((Pg.refl p718.z).st p736 rfl).st p740 rfl).st p744 rfl), (andT hb720 s745)⟩
    rintro a746 ⟨pg747, s748⟩
    have s749 := pg747.o (p718.o (p715.o (p712.o (p708.o (p703.o (p700.o (pg606.o s85 rfl) rfl) rfl) rfl) rfl) rfl) rfl) rfl
    have s750 := pg747.o (p718.o (p715.o (p712.o s709 rfl) rfl) rfl) rfl
    have m751 := m25.g0 g35
    have q752 := (q29.t0 (g26.tA (Nat.le_of_eq e27.symm)) g26).t0 g35.t0 g35
    refine lS (oStoW (cs := TThing.C x0 h0_0) pg747.z s749 s750 m751 Try.sizeOf25 rfl (TThing.C_one _ q752.one) rfl fun w753 m754 g755 => ?_)
    have cx756 := cx36.st g755 f31
    refine s1 pg747.z (okAs s748) rfl fun a757 p758 s759 => ?_
    refine rN (thenN ?_)
    have s760 := p758.o s749 rfl
    obtain rfl := Option.some.inj h
    have q761 := q752.t1 (g755.t1 (.head _)) g755 (q29.nb e27)
    exact wp_ret (blkR (thenR (ret2 p758.z Try.results21 (rvA ag25 s760 m754 rfl) (rvT s759) ⟨_, rfl, h0_0, rfl, (q761.rd (fun i h => (.tail _ (.tail _ (.tail _ (List.mem_append_right _ h))))) nbh0_0), cx756.g⟩)))
  replace h := (ifN hb705).symm.trans h
  refine wp_seq ?_
  refine reg ?_
  have s762 := p703.o (p700.o s605 rfl) rfl
  refine s1 p703.z (okEq s762 cst) rfl fun a763 p764 s765 => ?_
  refine s1 p764.z (okAs s765) rfl fun a766 p767 s768 => ?_
  refine rN (thenN ?_)
  have s769 := p767.o (p764.o s762 rfl) rfl
  have pg770 : Pg _ [81, 82, 90, 91] _ _ := (((((Pg.refl pg606.z).st p700 rfl).st p703 rfl).st p764 rfl).st p767 rfl)
  refine cnd s768 (fun hb771 => ?_) (fun hb771 => ?_)
  · replace h := (ifP hb771).symm.trans h
    refine wp_seq ?_
    refine reg ?_
    have s772 := pg770.o (pg606.o s83 rfl) rfl
    refine s1 pg770.z (okLdA ag25 s772 (m49.cl) rfl rfl whole) rfl fun a773 p774 s775 => ?_
    have s776 := p774.o (pg770.o (pg606.o s88 rfl) rfl) rfl
    refine s1 p774.z (okMv s776) rfl fun a777 p778 s779 => ?_
    refine s1 p778.z (okMv s779) rfl fun a780 p781 s782 => ?_
    refine cutP 4 (fun a' => Pg Try.f21.ntmps [95, 96, 97, 98] a780 a' ∧ a'.eval (.tmp 98) = .bool ((x0.owner == x1) && (x0.holds == 1000))) ?_ ?_
    · rcases bf (x0.owner == x1) with hb783 | hb783
      · have s784 := bv s782 hb783
        refine s1k p781.z rfl (yd p781.z rfl rfl s784) rfl fun a785 p786 s787 => ?_
        have s788 := p786.o s784 rfl
        refine s1k p786.z rfl (yd p786.z rfl rfl s788) rfl fun a789 p790 s791 => ?_
        have s792 := p790.o s788 rfl
        refine s1k p790.z rfl (yd p790.z rfl rfl s792) rfl fun a793 p794 s795 => ?_
        have s796 := p794.o s792 rfl
        refine s1 p794.z (okPickF s796 cst) rfl fun a797 p798 s799 => ?_
        exact rN ⟨rfl, rfl, (((((Pg.refl p781.z).st p786 rfl).st p790 rfl).st p794 rfl).st p798 rfl), (andF hb783 s799)⟩
      · have s800 := bv s782 hb783
        have s801 := p781.o (p778.o (p774.o s772 rfl) rfl) rfl
        refine s1g p781.z (okFA (o' := 3) fo25_3 s801 rfl) rfl (yd p781.z rfl rfl s800) fun a802 p803 s804 => ?_
        have s805 := p803.o s800 rfl
        refine s1g p803.z (okLd (j := 3) na3 s804 (m49.cl) rfl rfl) rfl (yd p803.z rfl rfl s805) fun a806 p807 s808 => ?_
        have s809 := p807.o s805 rfl
        refine s1g p807.z (okEq s808 cst) rfl (yd p807.z rfl rfl s809) fun a810 p811 s812 => ?_
        have s813 := p811.o s809 rfl
        refine s1 p811.z (okPickT s813 s812) rfl fun a814 p815 s816 => ?_
        exact rN ⟨rfl, rfl, (((((Pg.refl p781.z).st p803 rfl).st p807 rfl).st p811 rfl).st p815 rfl), (andT hb783 s816)⟩
    rintro a817 ⟨pg818, s819⟩
    refine s1 pg818.z (okMv s819) rfl fun a820 p821 s822 => ?_
    refine cutP 3 (fun a' => Pg Try.f21.ntmps [100, 101, 102] a820 a' ∧ a'.eval (.tmp 102) = .bool (((x0.owner == x1) && (x0.holds == 1000)) && (x2.value == 0))) ?_ ?_
    · rcases bf ((x0.owner == x1) && (x0.holds == 1000)) with hb823 | hb823
      · have s824 := bv s822 hb823
        refine s1k p821.z rfl (yd p821.z rfl rfl s824) rfl fun a825 p826 s827 => ?_
        have s828 := p826.o s824 rfl
        refine s1k p826.z rfl (yd p826.z rfl rfl s828) rfl fun a829 p830 s831 => ?_
        have s832 := p830.o s828 rfl
        refine s1 p830.z (okPickF s832 cst) rfl fun a833 p834 s835 => ?_
        exact rN ⟨rfl, rfl, ((((Pg.refl p821.z).st p826 rfl).st p830 rfl).st p834 rfl), (andF hb823 s835)⟩
      · have s836 := bv s822 hb823
        have s837 := p821.o (pg818.o (p781.o (p778.o (p774.o (pg770.o (pg606.o s87 rfl) rfl) rfl) rfl) rfl) rfl) rfl
        refine s1g p821.z (okMv s837) rfl (yd p821.z rfl rfl s836) fun a838 p839 s840 => ?_
        have s841 := p839.o s836 rfl
        refine s1g p839.z (okEq s840 cst) rfl (yd p839.z rfl rfl s841) fun a842 p843 s844 => ?_
        have s845 := p843.o s841 rfl
        refine s1 p843.z (okPickT s845 s844) rfl fun a846 p847 s848 => ?_
        exact rN ⟨rfl, rfl, ((((Pg.refl p821.z).st p839 rfl).st p843 rfl).st p847 rfl), (andT hb823 s848)⟩
    rintro a849 ⟨pg850, s851⟩
    have s852 := pg850.o (p821.o (pg818.o (p781.o (p778.o (p774.o (pg770.o (pg606.o s85 rfl) rfl) rfl) rfl) rfl) rfl) rfl) rfl
    have s853 := pg850.o (p821.o (pg818.o (p781.o (p778.o s775 rfl) rfl) rfl) rfl) rfl
    have m854 := m25.g0 g35
    have q855 := (q29.t0 (g26.tA (Nat.le_of_eq e27.symm)) g26).t0 g35.t0 g35
    refine lS (oStoW (cs := TThing.C x0 h0_0) pg850.z s852 s853 m854 Try.sizeOf25 rfl (TThing.C_one _ q855.one) rfl fun w856 m857 g858 => ?_)
    have cx859 := cx36.st g858 f31
    refine s1 pg850.z (okAs s851) rfl fun a860 p861 s862 => ?_
    refine rN (thenN ?_)
    have s863 := p861.o s852 rfl
    obtain rfl := Option.some.inj h
    have q864 := q855.t1 (g858.t1 (.head _)) g858 (q29.nb e27)
    exact wp_ret (blkR (thenR (ret2 p861.z Try.results21 (rvA ag25 s863 m857 rfl) (rvT s862) ⟨_, rfl, h0_0, rfl, (q864.rd (fun i h => (.tail _ (.tail _ (.tail _ (List.mem_append_right _ h))))) nbh0_0), cx859.g⟩)))
  replace h := (ifN hb771).symm.trans h
  refine wp_seq ?_
  refine reg ?_
  refine s1 pg770.z (okEq s769 cst) rfl fun a865 p866 s867 => ?_
  refine s1 p866.z (okAs s867) rfl fun a868 p869 s870 => ?_
  refine rN (thenN ?_)
  refine cnd s870 (fun hb871 => ?_) (fun hb871 => ?_)
  · replace h := (ifP hb871).symm.trans h
    refine wp_seq ?_
    refine reg ?_
    have s872 := p869.o (p866.o (pg770.o (pg606.o s88 rfl) rfl) rfl) rfl
    refine s1 p869.z (okMv s872) rfl fun a873 p874 s875 => ?_
    refine s1 p874.z (okMv s875) rfl fun a876 p877 s878 => ?_
    refine cutP 5 (fun a' => Pg Try.f21.ntmps [107, 108, 109, 110, 111] a876 a' ∧ a'.eval (.tmp 111) = .bool ((x0.owner == x1) && (x0.holds == x2.value))) ?_ ?_
    · rcases bf (x0.owner == x1) with hb879 | hb879
      · have s880 := bv s878 hb879
        refine s1k p877.z rfl (yd p877.z rfl rfl s880) rfl fun a881 p882 s883 => ?_
        have s884 := p882.o s880 rfl
        refine s1k p882.z rfl (yd p882.z rfl rfl s884) rfl fun a885 p886 s887 => ?_
        have s888 := p886.o s884 rfl
        refine s1k p886.z rfl (yd p886.z rfl rfl s888) rfl fun a889 p890 s891 => ?_
        have s892 := p890.o s888 rfl
        refine s1k p890.z rfl (yd p890.z rfl rfl s892) rfl fun a893 p894 s895 => ?_
        have s896 := p894.o s892 rfl
        refine s1 p894.z (okPickF s896 cst) rfl fun a897 p898 s899 => ?_
        exact rN ⟨rfl, rfl, ((((((Pg.refl p877.z).st p882 rfl).st p886 rfl).st p890 rfl).st p894 rfl).st p898 rfl), (andF hb879 s899)⟩
      · have s900 := bv s878 hb879
        have s901 := p877.o (p874.o (p869.o (p866.o (pg770.o (pg606.o s83 rfl) rfl) rfl) rfl) rfl) rfl
        refine s1g p877.z (okFA (o' := 3) fo25_3 s901 rfl) rfl (yd p877.z rfl rfl s900) fun a902 p903 s904 => ?_
        have s905 := p903.o s900 rfl
        refine s1g p903.z (okLd (j := 3) na3 s904 (m49.cl) rfl rfl) rfl (yd p903.z rfl rfl s905) fun a906 p907 s908 => ?_
        have s909 := p907.o s905 rfl
        have s910 := p907.o (p903.o (p877.o (p874.o (p869.o (p866.o (pg770.o (pg606.o s87 rfl) rfl) rfl) rfl) rfl) rfl) rfl) rfl
        refine s1g p907.z (okMv s910) rfl (yd p907.z rfl rfl s909) fun a911 p912 s913 => ?_
        have s914 := p912.o s909 rfl
        have s915 := p912.o s908 rfl
        refine s1g p912.z (okEq s915 s913) rfl (yd p912.z rfl rfl s914) fun a916 p917 s918 => ?_
        have s919 := p917.o s914 rfl
        refine s1 p917.z (okPickT s919 s918) rfl fun a920 p921 s922 => ?_
        exact rN ⟨rfl, rfl, ((((((Pg.refl p877.z).st p903 rfl).st p907 rfl).st p912 rfl).st p917 rfl).st p921 rfl), (andT hb879 s922)⟩
    rintro a923 ⟨pg924, s925⟩
    refine s1 pg924.z (okAs s925) rfl fun a926 p927 s928 => ?_
    refine rN (thenN ?_)
    refine wp_seq ?_
    refine reg ?_
    have s929 := p927.o (pg924.o (p877.o (p874.o (p869.o (p866.o (pg770.o (pg606.o s83 rfl) rfl) rfl) rfl) rfl) rfl) rfl) rfl
    refine s1 p927.z (okFA (o' := 12) fo25_5 s929 rfl) rfl fun a930 p931 s932 => ?_
    refine s1 p931.z (okLd (j := 12) na23 s932 (m49.cl) rfl rfl) rfl fun a933 p934 s935 => ?_
    have s936 := p934.o (p931.o (p927.o (pg924.o (p877.o (p874.o (p869.o (p866.o (pg770.o (pg606.o s82 rfl) rfl) rfl) rfl) rfl) rfl) rfl) rfl) rfl) rfl
    refine s1 p934.z (okMv s936) rfl fun a937 p938 s939 => ?_
    have s940 := p938.o (p934.o (p931.o s929 rfl) rfl) rfl
    refine s1 p938.z (okFA (o' := 3) fo25_3 s940 rfl) rfl fun a941 p942 s943 => ?_
    refine s1 p942.z (okLd (j := 3) na3 s943 (m49.cl) rfl rfl) rfl fun a944 p945 s946 => ?_
    have s947 := p945.o (p942.o s939 rfl) rfl
    refine s1 p945.z (okBd (pb2 s947 s946) (bd45_0_1 x1 x0.holds _)) rfl fun a948 p949 s950 => ?_
    have m958 := m25.g0 g35
    have q959 := (q29.t0 (g26.tA (Nat.le_of_eq e27.symm)) g26).t0 g35.t0 g35
    refine lS (oBS (K := KTWaiter) (L := (b23 :: b13 :: b3 :: ownB h0_0 ++ L)) (xs := [{ x0 with thread := x1 }]) (C := [TWaiter.C ({ x0 with thread := x1 })]) p949.z (pb1 s950) (bs23_1_0 ({ x0 with thread := x1 })) rfl rfl (all2C rfl all2N) rfl rfl fun a951 v952 w953 p954 sp954 q955 g956 f957 => ?_)
    have f960 := frN f957
    have nb961 := nbA hL cx36.g.sz (fun _ h => nilO h) f960
    have sf962 := sfA (S := (ownB h0_0)) cx36.g.sz (fun _ h => nilO h) f960
    have n963 := m49.no (fun h => nilO h) f960
    have n964 := m41.no (fun h => nilO h) f960
    have n965 := m958.no (fun h => nilO h) f960
    have n966 := q959.dj (fun _ _ h => nilO h) f960
    have cx967 := cx36.ap g956 (fun _ h => nilO h) q955
    have s968 := p954.o (p949.o (p945.o (p942.o (p938.o s935 rfl) rfl) rfl) rfl) rfl
    obtain ⟨z969, hz970, h⟩ := Option.bind_eq_some_iff.1 h
    have q971 := q959.t0 (tAp g956 (fun _ h => nilO h) f960) g956
    have m972 := m49.g0 g956
    have m973 := m41.g0 g956
    have m974 := m958.g0 g956
    refine lS (oApp (K := KTWaiter) (L := (ownB v952 ++ (b23 :: b13 :: b3 :: ownB h0_0 ++ L))) Try.underlying23 ti45 rfl p954.z s968 sp954 q971 q955.src hz970 (fun _ h => (List.mem_append_right _ (.tail _ (.tail _ (.tail _ (List.mem_append_left _ h)))))) rfl fun a975 v976 w977 p978 sp978 q979 g980 f981 => ?_)
    have nb982 := nbA hL cx967.g.sz nbh0_0 f981
    have sf983 := sfA (S := (ownB h0_0)) cx967.g.sz (fun _ h => .inl h) f981
    have n984 := m972.no (qh0_0.nb e7) f981
    have n985 := m973.no (q18.nb e17) f981
    have n986 := m974.no (q29.nb e27) f981
    have n987 := q955.dj (djs n966) f981
    have cx988 := cx967.ap g980 (fun _ h => .inl h) q979
    have s989 := p978.o (p954.o (p949.o (p945.o (p942.o s940 rfl) rfl) rfl) rfl) rfl
    refine s1 p978.z (okFA (o' := 12) fo25_5 s989 rfl) rfl fun a990 p991 s992 => ?_
    have s993 := p991.o sp978 rfl
    have m994 := m972.g g980 (qh0_0.nb e7)
    refine lS (oSto (cs := [v976]) (l' := TThing.C ({ x0 with waiters := z969 }) v976) p991.z s992 s993 m994 Try.sizeOf23 q979.cells (oneS q979.one) rfl rfl fun w995 m996 g997 => ?_)
    have cx998 := cx988.st g997 f9
    refine rN (thenN ?_)
    refine wp_seq ?_
    refine reg ?_
    have s999 := p991.o s989 rfl
    refine s1 p991.z (okFA (o' := 2) fo25_2 s999 rfl) rfl fun a1000 p1001 s1002 => ?_
    refine lS (oSto (cs := [.int .i64 (-1)]) (l' := TThing.C ({ x0 with owner := (-1), waiters := z969 }) v976) p1001.z s1002 cst m996 Try.sizeOf3 rfl one1 rfl rfl fun w1003 m1004 g1005 => ?_)
    have cx1006 := cx998.st g1005 f9
    have s1007 := p1001.o s999 rfl
    refine s1 p1001.z (okFA (o' := 3) fo25_3 s1007 rfl) rfl fun a1008 p1009 s1010 => ?_
    refine lS (oSto (cs := [.int .i64 0]) (l' := TThing.C ({ x0 with owner := (-1), holds := 0, waiters := z969 }) v976) p1009.z s1010 cst m1004 Try.sizeOf3 rfl one1 rfl rfl fun w1011 m1012 g1013 => ?_)
    have cx1014 := cx1006.st g1013 f9
    refine rN (thenN ?_)
    refine wp_seq ?_
    refine reg ?_
    have s1015 := p1009.o s1007 rfl
    refine s1 p1009.z (okLdA ag25 s1015 (m1012.cl) rfl rfl whole) rfl fun a1016 p1017 s1018 => ?_
    have s1019 := p1017.o (p1009.o (p1001.o (p991.o (p978.o (p954.o (p949.o (p945.o (p942.o (p938.o (p934.o (p931.o s928 rfl) rfl) rfl) rfl) rfl) rfl) rfl) rfl) rfl) rfl) rfl) rfl
    refine s1 p1017.z (okMv s1019) rfl fun a1020 p1021 s1022 => ?_
    have s1023 := p1021.o (p1017.o (p1009.o (p1001.o (p991.o (p978.o (p954.o (p949.o (p945.o (p942.o (p938.o (p934.o (p931.o (p927.o (pg924.o (p877.o (p874.o (p869.o (p866.o (pg770.o (pg606.o s85 rfl) rfl) rfl) rfl) rfl) rfl) rfl) rfl) rfl) rfl) rfl) rfl) rfl) rfl) rfl) rfl) rfl) rfl) rfl) rfl) rfl
    have s1024 := p1021.o s1018 rfl
    have m1025 := (((m974.g g980 (q29.nb e27)).g1 g997 (m28.ne e27).symm).g1 g1005 (m28.ne e27).symm).g1 g1013 (m28.ne e27).symm
    have q1026 := ((q979.t1 (g997.t1 (List.mem_append_right _ (List.mem_append_right _ (.tail _ (.tail _ (.head _)))))) g997 n984).t1 (g1005.t1 (List.mem_append_right _ (List.mem_append_right _ (.tail _ (.tail _ (.head _)))))) g1005 n984).t1 (g1013.t1 (List.mem_append_right _ (List.mem_append_right _ (.tail _ (.tail _ (.head _)))))) g1013 n984
    refine lS (oStoW (cs := TThing.C ({ x0 with owner := (-1), holds := 0, waiters := z969 }) v976) p1021.z s1023 s1024 m1025 Try.sizeOf25 rfl (TThing.C_one _ q1026.one) rfl fun w1027 m1028 g1029 => ?_)
    have cx1030 := cx1014.st g1029 f31
    refine s1 p1021.z (okAs s1022) rfl fun a1031 p1032 s1033 => ?_
    refine rN (thenN ?_)
    have s1034 := p1032.o s1023 rfl
    obtain rfl := Option.some.inj h
    have q1035 := q1026.t1 (g1029.t1 (List.mem_append_right _ (List.mem_append_right _ (.head _)))) g1029 n986
    exact wp_ret (blkR (thenR (ret2 p1032.z Try.results21 (rvA ag25 s1034 m1028 rfl) (rvT s1033) ⟨_, rfl, v976, rfl, (q1035.rd (fun i h => (List.mem_append_right _ (List.mem_append_right _ (.tail _ (.tail _ (.tail _ (List.mem_append_right _ h))))))) nb982), cx1030.g⟩)))
  replace h := (ifN hb871).symm.trans h
  refine wp_skip (blkN (thenN ?_))
  refine wp_seq ?_
  refine reg ?_
  have s1036 := p869.o (p866.o (pg770.o (pg606.o s83 rfl) rfl) rfl) rfl
  refine s1 p869.z (okLdA ag25 s1036 (m49.cl) rfl rfl whole) rfl fun a1037 p1038 s1039 => ?_
  have s1040 := p1038.o (p869.o (p866.o (pg770.o (pg606.o s82 rfl) rfl) rfl) rfl) rfl
  refine s1 p1038.z (okMv s1040) rfl fun a1041 p1042 s1043 => ?_
  have s1044 := p1042.o (p1038.o (p869.o (p866.o (pg770.o (pg606.o s84 rfl) rfl) rfl) rfl) rfl) rfl
  refine s1 p1042.z (okLdA ag29 s1044 (m41.cl) rfl rfl whole) rfl fun a1045 p1046 s1047 => ?_
  have s1048 := p1046.o (p1042.o s1039 rfl) rfl
  have s1049 := p1046.o s1043 rfl
  have q1050 := (q29.t0 (g26.tA (Nat.le_of_eq e27.symm)) g26).t0 g35.t0 g35
  obtain ⟨t1051, ht1052, h⟩ := Option.bind_eq_some_iff.1 h
  refine lS (oCall p1046.z Try.call32 (ag3 s1048 s1049 s1047) (c32 k (b23 :: b13 :: b3 :: L) w22.drew (fun b h => cx36.lt b ((fun i h => (List.mem_cons.1 h).elim (fun e => e ▸ (.head _)) (fun h => (List.mem_cons.1 h).elim (fun e => e ▸ (.tail _ (.head _))) (fun h => (List.mem_cons.1 h).elim (fun e => e ▸ (.tail _ (.tail _ (.head _)))) (fun h => (.tail _ (.tail _ (.tail _ (List.mem_append_right _ h)))))))) b h)) _ _ (q1050.sub (fun i h => (List.mem_append.1 h).elim (fun h => (.tail _ (.tail _ (.tail _ (List.mem_append_left _ h))))) (fun h => (List.mem_cons.1 h).elim (fun e => e ▸ (.head _)) (fun h => (List.mem_cons.1 h).elim (fun e => e ▸ (.tail _ (.head _))) (fun h => (List.mem_cons.1 h).elim (fun e => e ▸ (.tail _ (.tail _ (.head _)))) (fun h => (.tail _ (.tail _ (.tail _ (List.mem_append_right _ h)))))))))) (fun b hb => (not_cons (fun e => (q29.nb e27) (e ▸ hb)) (not_cons (fun e => (q18.nb e17) (e ▸ hb)) (not_cons (fun e => (qh0_0.nb e7) (e ▸ hb)) (nbh0_0 _ hb))))) _ _ _ ht1052) rfl fun v1056 a1053 w1054 hp1057 p1055 sp1055 => ?_)
  obtain ⟨h1058, rfl, q1059, g1060⟩ := hp1057
  have cx1061 := (cx36.cs g1060 (fun _ h => .inl h)).sub (fun i h => (List.mem_cons.1 h).elim (fun e => e ▸ (.head _)) (fun h => (List.mem_cons.1 h).elim (fun e => e ▸ (.tail _ (.head _))) (fun h => (List.mem_cons.1 h).elim (fun e => e ▸ (.tail _ (.tail _ (.head _)))) (fun h => (.tail _ (.tail _ (.tail _ (List.mem_append_right _ h))))))))
  refine s1 p1055.z (okExt (vs := [_, _]) sp1055 rfl) rfl fun a1062 p1063 s1064 => ?_
  have s1065 := p1063.o sp1055 rfl
  refine s1 p1063.z (okExt (vs := [_, _]) s1065 rfl) rfl fun a1066 p1067 s1068 => ?_
  have s1069 := p1067.o (p1063.o (p1055.o (p1046.o (p1042.o (p1038.o (p869.o (p866.o (pg770.o (pg606.o s85 rfl) rfl) rfl) rfl) rfl) rfl) rfl) rfl) rfl) rfl
  have s1070 := p1067.o s1064 rfl
  have m1071 := (m25.g0 g35).g g1060 (q29.nb e27)
  refine lS (oStoW (cs := TThing.C t1051.1 h1058) p1067.z s1069 s1070 m1071 Try.sizeOf25 rfl (TThing.C_one _ q1059.one) rfl fun w1072 m1073 g1074 => ?_)
  have cx1075 := cx1061.st g1074 f31
  refine s1 p1067.z (okAs s1068) rfl fun a1076 p1077 s1078 => ?_
  refine rN (thenN ?_)
  have s1079 := p1077.o s1069 rfl
  obtain rfl := Option.some.inj h
  have q1080 := q1059.mono (g1074.t1 (.head _))
  exact wp_ret (ret2 p1077.z Try.results21 (rvA ag25 s1079 m1073 rfl) (rvT s1078) ⟨_, rfl, h1058, rfl, (q1080.mono ((Tr.refl _ _).sub (fun i h => (.tail _ (.tail _ (.tail _ h)))))), cx1075.g⟩)

set_option maxHeartbeats 4000000 in
theorem c22 (L : List Nat) (w : World) (hL : ∀ b ∈ L, b < w.heap.size) (x0 : TThing) (h0_0 : Value) (qh0_0 : RdS KTWaiter L w h0_0 x0.waiters) (x1 : TNote) (r : TThing × Bool) (h : model_sema x0 x1 = some r) : Calls Try.prog 22 #[.agg (TThing.C x0 h0_0).toArray, .agg (TNote.C x1).toArray] w (fun e w' => ∃ v, e = .returned v ∧ ∃ u_0, v = .tuple #[.agg (TThing.C r.1 u_0).toArray, .bool r.2] ∧ RdS KTWaiter L w' u_0 r.1.waiters ∧ G [] w w') := by
  refine enterF Try.func22 rfl rfl fun a0 z0 A => ?_
  have s0_0 := A 0 (.agg (TThing.C x0 h0_0).toArray) rfl
  have s0_1 := A 1 (.agg (TNote.C x1).toArray) rfl
  clear A
  have c0 : Cx [] w L w := ⟨G.refl _ _, hL⟩
  unfold model_sema at h
  refine wp_seq ?_
  refine reg ?_
  refine lS (oBox (l := TThing.C x0 h0_0) z0 s0_0 rfl rfl fun a1 w2 b3 p4 sp4 m5 g6 e7 => ?_)
  have f9 := c0.nw e7
  have cx8 := c0.al g6 m5
  have s10 := p4.o s0_1 rfl
  refine lS (oBox (l := TNote.C x1) p4.z s10 rfl rfl fun a11 w12 b13 p14 sp14 m15 g16 e17 => ?_)
  have f19 := cx8.nw e17
  have cx18 := cx8.al g16 m15
  have m27 := m5.g0 g16
  refine lS (oAlloc zv25 p14.z rfl fun a20 w21 b22 p23 sp23 m24 g25 e26 => ?_)
  have f29 := cx18.nw e26
  have cx28 := cx18.al g25 m24
  refine s1 p23.z (okAs cst) rfl fun a30 p31 s32 => ?_
  refine rN (thenN ?_)
  refine wp_seq ?_
  refine reg ?_
  have s33 := p31.o (p23.o sp14 rfl) rfl
  refine s1 p31.z (okFA (o' := 1) fo29_1 s33 rfl) rfl fun a34 p35 s36 => ?_
  have m37 := m15.g0 g25
  refine s1 p35.z (okLd (j := 1) na2 s36 (m37.cl) rfl rfl) rfl fun a38 p39 s40 => ?_
  refine s1 p39.z (okAs s40) rfl fun a41 p42 s43 => ?_
  refine rN (thenN ?_)
  refine wp_seq ?_
  refine reg ?_
  refine s1 p42.z (okMv s43) rfl fun a44 p45 s46 => ?_
  refine s1 p45.z (okGe s46 cst) rfl fun a47 p48 s49 => ?_
  refine s1 p48.z (okAs s49) rfl fun a50 p51 s52 => ?_
  refine rN (thenN ?_)
  refine wp_seq ?_
  refine reg ?_
  refine s1 p51.z (okMv s52) rfl fun a53 p54 s55 => ?_
  refine s1 p54.z (okMv s55) rfl fun a56 p57 s58 => ?_
  refine cutP 6 (fun a' => Pg Try.f22.ntmps [16, 17, 18, 19, 20, 21] a56 a' ∧ a'.eval (.tmp 21) = .bool ((decide (1 ≤ x1.value)) && (decide (w64 (1000 - x0.n) < x1.value)))) ?_ ?_
  · rcases bf (decide (1 ≤ x1.value)) with hb59 | hb59
    · have s60 := bv s58 hb59
      refine s1k p57.z rfl (yd p57.z rfl rfl s60) rfl fun a61 p62 s63 => ?_
      have s64 := p62.o s60 rfl
      refine s1k p62.z rfl (yd p62.z rfl rfl s64) rfl fun a65 p66 s67 => ?_
      have s68 := p66.o s64 rfl
      refine s1k p66.z rfl (yd p66.z rfl rfl s68) rfl fun a69 p70 s71 => ?_
      have s72 := p70.o s68 rfl
      refine s1k p70.z rfl (yd p70.z rfl rfl s72) rfl fun a73 p74 s75 => ?_
      have s76 := p74.o s72 rfl
      refine s1k p74.z rfl (yd p74.z rfl rfl s76) rfl fun a77 p78 s79 => ?_
      have s80 := p78.o s76 rfl
      refine s1 p78.z (okPickF s80 cst) rfl fun a81 p82 s83 => ?_
      exact rN ⟨rfl, rfl, (((((((Pg.refl p57.z).st p62 rfl).st p66 rfl).st p70 rfl).st p74 rfl).st p78 rfl).st p82 rfl), (andF hb59 s83)⟩
    · have s84 := bv s58 hb59
      have s85 := p57.o (p54.o (p51.o (p48.o (p45.o s43 rfl) rfl) rfl) rfl) rfl
      refine s1g p57.z (okMv s85) rfl (yd p57.z rfl rfl s84) fun a86 p87 s88 => ?_
      have s89 := p87.o s84 rfl
      have s90 := p87.o (p57.o (p54.o (p51.o (p48.o (p45.o (p42.o (p39.o (p35.o (p31.o (p23.o (p14.o sp4 rfl) rfl) rfl) rfl) rfl) rfl) rfl) rfl) rfl) rfl) rfl) rfl
      refine s1g p87.z (okFA (o' := 1) fo25_1 s90 rfl) rfl (yd p87.z rfl rfl s89) fun a91 p92 s93 => ?_
      have s94 := p92.o s89 rfl
      have m95 := m27.g0 g25
      refine s1g p92.z (okLd (j := 1) na3 s93 (m95.cl) rfl rfl) rfl (yd p92.z rfl rfl s94) fun a96 p97 s98 => ?_
      have s99 := p97.o s94 rfl
      refine s1g p97.z (okSub cst s98) rfl (yd p97.z rfl rfl s99) fun a100 p101 s102 => ?_
      have s103 := p101.o s99 rfl
      have s104 := p101.o (p97.o (p92.o s88 rfl) rfl) rfl
      refine s1g p101.z (okGt s104 s102) rfl (yd p101.z rfl rfl s103) fun a105 p106 s107 => ?_
      have s108 := p106.o s103 rfl
      refine s1 p106.z (okPickT s108 s107) rfl fun a109 p110 s111 => ?_
      exact rN ⟨rfl, rfl, (((((((Pg.refl p57.z).st p87 rfl).st p92 rfl).st p97 rfl).st p101 rfl).st p106 rfl).st p110 rfl), (andT hb59 s111)⟩
  rintro a112 ⟨pg113, s114⟩
  refine s1 pg113.z (okAs s114) rfl fun a115 p116 s117 => ?_
  refine rN (thenN ?_)
  refine wp_seq ?_
  refine wp_seq ?_
  refine reg ?_
  have s118 := p116.o (pg113.o (p57.o (p54.o (p51.o (p48.o (p45.o (p42.o (p39.o (p35.o s33 rfl) rfl) rfl) rfl) rfl) rfl) rfl) rfl) rfl) rfl
  refine s1 p116.z (okFA (o' := 0) fo29_0 s118 rfl) rfl fun a119 p120 s121 => ?_
  refine s1 p120.z (okLd (j := 0) na3 s121 (m37.cl) rfl rfl) rfl fun a122 p123 s124 => ?_
  refine rN (thenN ?_)
  refine wp_block ?_
  refine wp_seq ?_
  refine reg ?_
  refine s1 p123.z (okEq s124 cst) rfl fun a125 p126 s127 => ?_
  refine s1 p126.z (okAs s127) rfl fun a128 p129 s130 => ?_
  refine rN (thenN ?_)
  have s131 := p129.o (p126.o (p123.o (p120.o (p116.o (pg113.o (p57.o (p54.o (p51.o (p48.o (p45.o (p42.o (p39.o (p35.o (p31.o (p23.o (p14.o sp4 rfl) rfl) rfl) rfl) rfl) rfl) rfl) rfl) rfl) rfl) rfl) rfl) rfl) rfl) rfl) rfl) rfl
  have s132 := p129.o (p126.o (p123.o (p120.o (p116.o (pg113.o (p57.o (p54.o (p51.o (p48.o (p45.o (p42.o (p39.o (p35.o (p31.o sp23 rfl) rfl) rfl) rfl) rfl) rfl) rfl) rfl) rfl) rfl) rfl) rfl) rfl) rfl) rfl
  have s133 := p129.o (p126.o (p123.o (p120.o (p116.o (pg113.o (p57.o (p54.o (p51.o (p48.o (p45.o (p42.o (p39.o (p35.o s32 rfl) rfl) rfl) rfl) rfl) rfl) rfl) rfl) rfl) rfl) rfl) rfl) rfl) rfl
  have s134 := p129.o (p126.o (p123.o (p120.o (p116.o (pg113.o (p57.o (p54.o (p51.o (p48.o (p45.o s43 rfl) rfl) rfl) rfl) rfl) rfl) rfl) rfl) rfl) rfl) rfl
  have s135 := p129.o (p126.o (p123.o (p120.o (p116.o (pg113.o (p57.o (p54.o s52 rfl) rfl) rfl) rfl) rfl) rfl) rfl) rfl
  have s136 := p129.o (p126.o (p123.o (p120.o s117 rfl) rfl) rfl) rfl
  have s137 := p129.o (p126.o s124 rfl) rfl
  have pg138 : Pg _ [2, 3, 4, 5, 6, 7, 8, 10, 11, 12, 13, 14, 15, 16, 17, 18, 19, 20, 21, 22, 23, 24, 25] _ _ := (((((((((((((((((((Pg.refl z0).st p4 rfl).st p14 rfl).st p23 rfl).st p31 rfl).st p35 rfl).st p39 rfl).st p42 rfl).st p45 rfl).st p48 rfl).st p51 rfl).st p54 rfl).st p57 rfl).tr pg113 rfl).st p116 rfl).st p120 rfl).st p123 rfl).st p126 rfl).st p129 rfl)
  refine cnd s130 (fun hb139 => ?_) (fun hb139 => ?_)
  · replace h := (ifP hb139).symm.trans h
    refine wp_seq ?_
    refine wp_seq ?_
    refine reg ?_
    refine s1 pg138.z (okMv s135) rfl fun a140 p141 s142 => ?_
    refine s1 p141.z (okNot s142) rfl fun a143 p144 s145 => ?_
    refine s1 p144.z (okMv s145) rfl fun a146 p147 s148 => ?_
    refine cutP 5 (fun a' => Pg Try.f22.ntmps [29, 30, 31, 32, 33] a146 a' ∧ a'.eval (.tmp 33) = .bool ((!(decide (1 ≤ x1.value))) || (decide (x0.n < x1.value)))) ?_ ?_
    · rcases bf (!(decide (1 ≤ x1.value))) with hb149 | hb149
      · have s150 := bv s148 hb149
        have s151 := p147.o (p144.o (p141.o s134 rfl) rfl) rfl
        refine s1g p147.z (okMv s151) rfl (yd p147.z rfl rfl s150) fun a152 p153 s154 => ?_
        have s155 := p153.o s150 rfl
        have s156 := p153.o (p147.o (p144.o (p141.o s131 rfl) rfl) rfl) rfl
        refine s1g p153.z (okFA (o' := 1) fo25_1 s156 rfl) rfl (yd p153.z rfl rfl s155) fun a157 p158 s159 => ?_
        have s160 := p158.o s155 rfl
        have m161 := m27.g0 g25
        refine s1g p158.z (okLd (j := 1) na3 s159 (m161.cl) rfl rfl) rfl (yd p158.z rfl rfl s160) fun a162 p163 s164 => ?_
        have s165 := p163.o s160 rfl
        have s166 := p163.o (p158.o s154 rfl) rfl
        refine s1g p163.z (okGt s166 s164) rfl (yd p163.z rfl rfl s165) fun a167 p168 s169 => ?_
        have s170 := p168.o s165 rfl
        refine s1 p168.z (okPickF s170 s169) rfl fun a171 p172 s173 => ?_
        exact rN ⟨rfl, rfl, ((((((Pg.refl p147.z).st p153 rfl).st p158 rfl).st p163 rfl).st p168 rfl).st p172 rfl), (orF hb149 s173)⟩
      · have s174 := bv s148 hb149
        refine s1k p147.z rfl (yd p147.z rfl rfl s174) rfl fun a175 p176 s177 => ?_
        have s178 := p176.o s174 rfl
        refine s1k p176.z rfl (yd p176.z rfl rfl s178) rfl fun a179 p180 s181 => ?_
        have s182 := p180.o s178 rfl
        refine s1k p180.z rfl (yd p180.z rfl rfl s182) rfl fun a183 p184 s185 => ?_
        have s186 := p184.o s182 rfl
        refine s1k p184.z rfl (yd p184.z rfl rfl s186) rfl fun a187 p188 s189 => ?_
        have s190 := p188.o s186 rfl
        refine s1 p188.z (okPickT s190 cst) rfl fun a191 p192 s193 => ?_
        exact rN ⟨rfl, rfl, ((((((Pg.refl p147.z).st p176 rfl).st p180 rfl).st p184 rfl).st p188 rfl).st p192 rfl), (orT hb149 s193)⟩
    rintro a194 ⟨pg195, s196⟩
    refine rN (thenN ?_)
    have pg197 : Pg _ [26, 27, 28, 29, 30, 31, 32, 33] _ _ := (((((Pg.refl pg138.z).st p141 rfl).st p144 rfl).st p147 rfl).tr pg195 rfl)
    refine cnd s196 (fun hb198 => ?_) (fun hb198 => ?_)
    · replace h := (ifP hb198).symm.trans h
      refine wp_seq ?_
      refine reg ?_
      have s199 := pg197.o s131 rfl
      have m200 := m27.g0 g25
      refine s1 pg197.z (okLdA ag25 s199 (m200.cl) rfl rfl whole) rfl fun a201 p202 s203 => ?_
      have s204 := p202.o (pg197.o s132 rfl) rfl
      have q205 := qh0_0.mono (((g6.tA (Nat.le_of_eq e7.symm)).trans (g16.tA (Nat.le_of_eq e17.symm))).trans (g25.tA (Nat.le_of_eq e26.symm)))
      refine lS (oStoW (cs := TThing.C x0 h0_0) p202.z s204 s203 m24 Try.sizeOf25 rfl (TThing.C_one _ q205.one) rfl fun w206 m207 g208 => ?_)
      have cx209 := cx28.st g208 f29
      refine s1 p202.z (okAs cst) rfl fun a210 p211 s212 => ?_
      refine rN (thenN ?_)
      have s213 := p211.o s204 rfl
      obtain rfl := Option.some.inj h
      have q214 := q205.mono (g208.t1 (.head _))
      exact wp_ret (thenR (blkR (thenR (ret2 p211.z Try.results22 (rvA ag25 s213 m207 rfl) (rvT s212) ⟨_, rfl, h0_0, rfl, (q214.mono ((Tr.refl _ _).sub (fun i h => (.tail _ (.tail _ (.tail _ h)))))), cx209.g⟩))))
    replace h := (ifN hb198).symm.trans h
    refine wp_skip (thenN ?_)
    refine wp_seq ?_
    refine reg ?_
    have s215 := pg197.o s131 rfl
    refine s1 pg197.z (okFA (o' := 1) fo25_1 s215 rfl) rfl fun a216 p217 s218 => ?_
    have m219 := m27.g0 g25
    refine s1 p217.z (okLd (j := 1) na3 s218 (m219.cl) rfl rfl) rfl fun a220 p221 s222 => ?_
    have s223 := p221.o (p217.o (pg197.o s134 rfl) rfl) rfl
    refine s1 p221.z (okMv s223) rfl fun a224 p225 s226 => ?_
    have s227 := p225.o s222 rfl
    refine s1 p225.z (okSub s227 s226) rfl fun a228 p229 s230 => ?_
    have s231 := p229.o (p225.o (p221.o (p217.o s215 rfl) rfl) rfl) rfl
    refine s1 p229.z (okFA (o' := 1) fo25_1 s231 rfl) rfl fun a232 p233 s234 => ?_
    have s235 := p233.o s230 rfl
    refine lS (oSto (cs := [.int .i64 (w64 (x0.n - x1.value))]) (l' := TThing.C ({ x0 with n := w64 (x0.n - x1.value) }) h0_0) p233.z s234 s235 m219 Try.sizeOf3 rfl one1 rfl rfl fun w236 m237 g238 => ?_)
    have cx239 := cx28.st g238 f9
    refine rN (thenN ?_)
    refine wp_seq ?_
    refine reg ?_
    have s240 := p233.o s231 rfl
    refine s1 p233.z (okLdA ag25 s240 (m237.cl) rfl rfl whole) rfl fun a241 p242 s243 => ?_
    have s244 := p242.o (p233.o (p229.o (p225.o (p221.o (p217.o (pg197.o s132 rfl) rfl) rfl) rfl) rfl) rfl) rfl
    have m245 := m24.g1 g238 (m27.ne e26).symm
    have q246 := qh0_0.mono ((((g6.tA (Nat.le_of_eq e7.symm)).trans (g16.tA (Nat.le_of_eq e17.symm))).trans (g25.tA (Nat.le_of_eq e26.symm))).trans (g238.t1 (.tail _ (.tail _ (.head _)))))
    refine lS (oStoW (cs := TThing.C ({ x0 with n := w64 (x0.n - x1.value) }) h0_0) p242.z s244 s243 m245 Try.sizeOf25 rfl (TThing.C_one _ q246.one) rfl fun w247 m248 g249 => ?_)
    have cx250 := cx239.st g249 f29
    refine s1 p242.z (okAs cst) rfl fun a251 p252 s253 => ?_
    refine rN (thenN ?_)
    have s254 := p252.o s244 rfl
    obtain rfl := Option.some.inj h
    have q255 := q246.mono (g249.t1 (.head _))
    exact wp_ret (blkR (thenR (ret2 p252.z Try.results22 (rvA ag25 s254 m248 rfl) (rvT s253) ⟨_, rfl, h0_0, rfl, (q255.mono ((Tr.refl _ _).sub (fun i h => (.tail _ (.tail _ (.tail _ h)))))), cx250.g⟩)))
  replace h := (ifN hb139).symm.trans h
  refine wp_seq ?_
  refine reg ?_
  refine s1 pg138.z (okEq s137 cst) rfl fun a256 p257 s258 => ?_
  refine s1 p257.z (okAs s258) rfl fun a259 p260 s261 => ?_
  refine rN (thenN ?_)
  refine cnd s261 (fun hb262 => ?_) (fun hb262 => ?_)
  · replace h := (ifP hb262).symm.trans h
    refine wp_seq ?_
    refine wp_seq ?_
    refine reg ?_
    have s263 := p260.o (p257.o s135 rfl) rfl
    refine s1 p260.z (okMv s263) rfl fun a264 p265 s266 => ?_
    refine s1 p265.z (okNot s266) rfl fun a267 p268 s269 => ?_
    refine s1 p268.z (okMv s269) rfl fun a270 p271 s272 => ?_
    refine cutP 2 (fun a' => Pg Try.f22.ntmps [46, 47] a270 a' ∧ a'.eval (.tmp 47) = .bool ((!(decide (1 ≤ x1.value))) || ((decide (1 ≤ x1.value)) && (decide (w64 (1000 - x0.n) < x1.value))))) ?_ ?_
    · rcases bf (!(decide (1 ≤ x1.value))) with hb273 | hb273
      · have s274 := bv s272 hb273
        have s275 := p271.o (p268.o (p265.o (p260.o (p257.o s136 rfl) rfl) rfl) rfl) rfl
        refine s1g p271.z (okMv s275) rfl (yd p271.z rfl rfl s274) fun a276 p277 s278 => ?_
        have s279 := p277.o s274 rfl
        refine s1 p277.z (okPickF s279 s278) rfl fun a280 p281 s282 => ?_
        exact rN ⟨rfl, rfl, (((Pg.refl p271.z).st p277 rfl).st p281 rfl), (orF hb273 s282)⟩
      · have s283 := bv s272 hb273
        refine s1k p271.z rfl (yd p271.z rfl rfl s283) rfl fun a284 p285 s286 => ?_
        have s287 := p285.o s283 rfl
        refine s1 p285.z (okPickT s287 cst) rfl fun a288 p289 s290 => ?_
        exact rN ⟨rfl, rfl, (((Pg.refl p271.z).st p285 rfl).st p289 rfl), (orT hb273 s290)⟩
    rintro a291 ⟨pg292, s293⟩
    refine rN (thenN ?_)
    have pg294 : Pg _ [41, 42, 43, 44, 45, 46, 47] _ _ := (((((((Pg.refl pg138.z).st p257 rfl).st p260 rfl).st p265 rfl).st p268 rfl).st p271 rfl).tr pg292 rfl)
    refine cnd s293 (fun hb295 => ?_) (fun hb295 => ?_)
    · replace h := (ifP hb295).symm.trans h
      refine wp_seq ?_
      refine reg ?_
      have s296 := pg294.o s131 rfl
      have m297 := m27.g0 g25
      refine s1 pg294.z (okLdA ag25 s296 (m297.cl) rfl rfl whole) rfl fun a298 p299 s300 => ?_
      have s301 := p299.o (pg294.o s132 rfl) rfl
      have q302 := qh0_0.mono (((g6.tA (Nat.le_of_eq e7.symm)).trans (g16.tA (Nat.le_of_eq e17.symm))).trans (g25.tA (Nat.le_of_eq e26.symm)))
      refine lS (oStoW (cs := TThing.C x0 h0_0) p299.z s301 s300 m24 Try.sizeOf25 rfl (TThing.C_one _ q302.one) rfl fun w303 m304 g305 => ?_)
      have cx306 := cx28.st g305 f29
      refine s1 p299.z (okAs cst) rfl fun a307 p308 s309 => ?_
      refine rN (thenN ?_)
      have s310 := p308.o s301 rfl
      obtain rfl := Option.some.inj h
      have q311 := q302.mono (g305.t1 (.head _))
      exact wp_ret (thenR (blkR (thenR (ret2 p308.z Try.results22 (rvA ag25 s310 m304 rfl) (rvT s309) ⟨_, rfl, h0_0, rfl, (q311.mono ((Tr.refl _ _).sub (fun i h => (.tail _ (.tail _ (.tail _ h)))))), cx306.g⟩))))
    replace h := (ifN hb295).symm.trans h
    refine wp_skip (thenN ?_)
    refine wp_seq ?_
    refine reg ?_
    have s312 := pg294.o s131 rfl
    refine s1 pg294.z (okFA (o' := 1) fo25_1 s312 rfl) rfl fun a313 p314 s315 => ?_
    have m316 := m27.g0 g25
    refine s1 p314.z (okLd (j := 1) na3 s315 (m316.cl) rfl rfl) rfl fun a317 p318 s319 => ?_
    have s320 := p318.o (p314.o (pg294.o s134 rfl) rfl) rfl
    refine s1 p318.z (okMv s320) rfl fun a321 p322 s323 => ?_
    have s324 := p322.o s319 rfl
    refine s1 p322.z (okAdd s324 s323) rfl fun a325 p326 s327 => ?_
    have s328 := p326.o (p322.o (p318.o (p314.o s312 rfl) rfl) rfl) rfl
    refine s1 p326.z (okFA (o' := 1) fo25_1 s328 rfl) rfl fun a329 p330 s331 => ?_
    have s332 := p330.o s327 rfl
    refine lS (oSto (cs := [.int .i64 (w64 (x0.n + x1.value))]) (l' := TThing.C ({ x0 with n := w64 (x0.n + x1.value) }) h0_0) p330.z s331 s332 m316 Try.sizeOf3 rfl one1 rfl rfl fun w333 m334 g335 => ?_)
    have cx336 := cx28.st g335 f9
    refine rN (thenN ?_)
    refine wp_seq ?_
    refine reg ?_
    have s337 := p330.o s328 rfl
    refine s1 p330.z (okLdA ag25 s337 (m334.cl) rfl rfl whole) rfl fun a338 p339 s340 => ?_
    have s341 := p339.o (p330.o (p326.o (p322.o (p318.o (p314.o (pg294.o s132 rfl) rfl) rfl) rfl) rfl) rfl) rfl
    have m342 := m24.g1 g335 (m27.ne e26).symm
    have q343 := qh0_0.mono ((((g6.tA (Nat.le_of_eq e7.symm)).trans (g16.tA (Nat.le_of_eq e17.symm))).trans (g25.tA (Nat.le_of_eq e26.symm))).trans (g335.t1 (.tail _ (.tail _ (.head _)))))
    refine lS (oStoW (cs := TThing.C ({ x0 with n := w64 (x0.n + x1.value) }) h0_0) p339.z s341 s340 m342 Try.sizeOf25 rfl (TThing.C_one _ q343.one) rfl fun w344 m345 g346 => ?_)
    have cx347 := cx336.st g346 f29
    refine s1 p339.z (okAs cst) rfl fun a348 p349 s350 => ?_
    refine rN (thenN ?_)
    have s351 := p349.o s341 rfl
    obtain rfl := Option.some.inj h
    have q352 := q343.mono (g346.t1 (.head _))
    exact wp_ret (blkR (thenR (ret2 p349.z Try.results22 (rvA ag25 s351 m345 rfl) (rvT s350) ⟨_, rfl, h0_0, rfl, (q352.mono ((Tr.refl _ _).sub (fun i h => (.tail _ (.tail _ (.tail _ h)))))), cx347.g⟩)))
  replace h := (ifN hb262).symm.trans h
  refine wp_seq ?_
  refine reg ?_
  have s353 := p260.o (p257.o s137 rfl) rfl
  refine s1 p260.z (okEq s353 cst) rfl fun a354 p355 s356 => ?_
  refine s1 p355.z (okAs s356) rfl fun a357 p358 s359 => ?_
  refine rN (thenN ?_)
  have s360 := p358.o (p355.o s353 rfl) rfl
  have pg361 : Pg _ [41, 42, 55, 56] _ _ := (((((Pg.refl pg138.z).st p257 rfl).st p260 rfl).st p355 rfl).st p358 rfl)
  refine cnd s359 (fun hb362 => ?_) (fun hb362 => ?_)
  · replace h := (ifP hb362).symm.trans h
    refine wp_seq ?_
    refine reg ?_
    have s363 := pg361.o s131 rfl
    have m364 := m27.g0 g25
    refine s1 pg361.z (okLdA ag25 s363 (m364.cl) rfl rfl whole) rfl fun a365 p366 s367 => ?_
    have s368 := p366.o (pg361.o s136 rfl) rfl
    refine s1 p366.z (okMv s368) rfl fun a369 p370 s371 => ?_
    have s372 := p370.o (p366.o (pg361.o s132 rfl) rfl) rfl
    have s373 := p370.o s367 rfl
    have q374 := qh0_0.mono (((g6.tA (Nat.le_of_eq e7.symm)).trans (g16.tA (Nat.le_of_eq e17.symm))).trans (g25.tA (Nat.le_of_eq e26.symm)))
    refine lS (oStoW (cs := TThing.C x0 h0_0) p370.z s372 s373 m24 Try.sizeOf25 rfl (TThing.C_one _ q374.one) rfl fun w375 m376 g377 => ?_)
    have cx378 := cx28.st g377 f29
    refine s1 p370.z (okAs s371) rfl fun a379 p380 s381 => ?_
    refine rN (thenN ?_)
    have s382 := p380.o s372 rfl
    obtain rfl := Option.some.inj h
    have q383 := q374.mono (g377.t1 (.head _))
    exact wp_ret (blkR (thenR (ret2 p380.z Try.results22 (rvA ag25 s382 m376 rfl) (rvT s381) ⟨_, rfl, h0_0, rfl, (q383.mono ((Tr.refl _ _).sub (fun i h => (.tail _ (.tail _ (.tail _ h)))))), cx378.g⟩)))
  replace h := (ifN hb362).symm.trans h
  refine wp_seq ?_
  refine reg ?_
  refine s1 pg361.z (okEq s360 cst) rfl fun a384 p385 s386 => ?_
  refine s1 p385.z (okAs s386) rfl fun a387 p388 s389 => ?_
  refine rN (thenN ?_)
  refine cnd s389 (fun hb390 => ?_) (fun hb390 => ?_)
  · replace h := (ifP hb390).symm.trans h
    refine wp_seq ?_
    have s421 := p388.o (p385.o (pg361.o s131 rfl) rfl) rfl
    have s422 := p388.o (p385.o (pg361.o s132 rfl) rfl) rfl
    have m423 := m27.g0 g25
    refine regJ (fun a' w' => Z Try.f22.ntmps a' ∧ a'.eval (.tmp 2) = ptr b3 0 ∧ a'.eval (.tmp 4) = ptr b22 0 ∧ a'.eval (.tmp 5) = .bool (decide (x0.n < x1.value)) ∧ Bk w' b3 (TThing.C x0 h0_0) 25 ∧ Bk w' b13 (TNote.C x1) 29 ∧ Bk w' b22 (TThing.C x0 h0_0) 25 ∧ Cx [] w (b22 :: b13 :: b3 :: L) w' ∧ Tr (b22 :: b13 :: b3 :: L) w21 (b22 :: b13 :: b3 :: L) w') ?_ ?_
    · refine regH (n := 7) [(0, fun w' => Cl w' b3 0 (TThing.C x0 h0_0)), (3, fun w' => Cl w' b3 1 [.int .i64 x0.n])] mixed rfl ?_
      have g424 := G.drew w21
      have cx425 := cx28.ca g424
      have m426 := m423.g0 g424
      refine hTakeW (i := 0) rfl (by kernel_rfl) (by kernel_rfl) (by kernel_rfl) nrm (.inr (.head _)) p388.z (wN rfl) (fun _ h => okLdA ag25 s421 h rfl rfl whole) (m426.clp rfl) rfl fun a427 p428 sp428 => ?_
      have s429 := p428.o (p388.o (p385.o (pg361.o s134 rfl) rfl) rfl) rfl
      refine hTakeW (i := 1) rfl (by kernel_rfl) (by kernel_rfl) (by kernel_rfl) nrm (cond := fun _ => True) (.inl fun _ => trivial) p428.z (wN rfl) (fun _ _ => okMv s429) trivial rfl fun a430 p431 sp431 => ?_
      have s432 := p431.o (p428.o s421 rfl) rfl
      refine hTakeW (i := 2) rfl (by kernel_rfl) (by kernel_rfl) (by kernel_rfl) nrm (cond := fun _ => True) (.inl fun _ => trivial) p431.z (wN rfl) (fun _ _ => okFA (o' := 1) fo25_1 s432 rfl) trivial rfl fun a433 p434 sp434 => ?_
      refine hTakeW (i := 3) rfl (by kernel_rfl) (by kernel_rfl) (by kernel_rfl) nrm (.inr (.tail _ (.head _))) p434.z (wN rfl) (fun _ h => okLd (j := 0) na3 sp434 h rfl rfl) (m426.clp rfl) rfl fun a435 p436 sp436 => ?_
      have s437 := p436.o (p434.o sp431 rfl) rfl
      refine hTakeW (i := 4) rfl (by kernel_rfl) (by kernel_rfl) (by kernel_rfl) nrm (cond := fun _ => True) (.inl fun _ => trivial) p436.z (wN rfl) (fun _ _ => okGt s437 sp436) trivial rfl fun a438 p439 sp439 => ?_
      have s440 := p439.o (p436.o (p434.o (p431.o (p428.o s422 rfl) rfl) rfl) rfl) rfl
      have s441 := p439.o (p436.o (p434.o (p431.o sp428 rfl) rfl) rfl) rfl
      have m442 := m24.g0 g424
      have q443 := qh0_0.mono ((((g6.tA (Nat.le_of_eq e7.symm)).trans (g16.tA (Nat.le_of_eq e17.symm))).trans (g25.tA (Nat.le_of_eq e26.symm))).trans g424.t0)
      refine hOne (i := 5) (by kernel_rfl) rfl (oStoW (cs := TThing.C x0 h0_0) p439.z s440 s441 m442 Try.sizeOf25 rfl (TThing.C_one _ q443.one) rfl fun w444 m445 g446 => ?_)
      have cx447 := cx425.st g446 f29
      refine ⟨⟨.inl rfl, .inr fun h => h.g1 g446 (m27.ne e26), trivial⟩, ?_⟩
      refine hTakeW (i := 6) rfl (by kernel_rfl) (by kernel_rfl) (by kernel_rfl) nrm (cond := fun _ => True) (.inl fun _ => trivial) p439.z (wN rfl) (fun _ _ => okAs sp439) trivial rfl fun a448 p449 sp449 => ?_
      have s450 := p449.o (p439.o (p436.o (p434.o s432 rfl) rfl) rfl) rfl
      have s451 := p449.o s440 rfl
      have m452 := m426.g1 g446 (m27.ne e26)
      have m453 := (m37.g0 g424).g1 g446 (m15.ne e26)
      exact hDone (by kernel_rfl) ⟨rfl, p449.z, s450, s451, sp449, m452, m453, m445, cx447, (g424.t0.trans (g446.t1 (.head _)))⟩
    rintro a454 w455 ⟨z456, s457, s458, s459, m460, m461, m462, cx463, t464⟩
    refine thenN ?_
    obtain rfl := Option.some.inj h
    have q465 := qh0_0.mono ((((g6.tA (Nat.le_of_eq e7.symm)).trans (g16.tA (Nat.le_of_eq e17.symm))).trans (g25.tA (Nat.le_of_eq e26.symm))).trans t464)
    exact wp_ret (blkR (thenR (ret2 z456 Try.results22 (rvA ag25 s458 m462 rfl) (rvT s459) ⟨_, rfl, h0_0, rfl, (q465.mono ((Tr.refl _ _).sub (fun i h => (.tail _ (.tail _ (.tail _ h)))))), cx463.g⟩)))
  replace h := (ifN hb390).symm.trans h
  refine wp_seq ?_
  refine reg ?_
  have s466 := p388.o (p385.o s360 rfl) rfl
  refine s1 p388.z (okEq s466 cst) rfl fun a467 p468 s469 => ?_
  refine s1 p468.z (okAs s469) rfl fun a470 p471 s472 => ?_
  refine rN (thenN ?_)
  have pg473 : Pg _ [59, 60, 66, 67] _ _ := (((((Pg.refl pg361.z).st p385 rfl).st p388 rfl).st p468 rfl).st p471 rfl)
  refine cnd s472 (fun hb474 => ?_) (fun hb474 => ?_)
  · replace h := (ifP hb474).symm.trans h
    refine wp_seq ?_
    refine reg ?_
    have s475 := pg473.o (pg361.o s134 rfl) rfl
    refine s1 pg473.z (okMv s475) rfl fun a476 p477 s478 => ?_
    have s479 := p477.o (pg473.o (pg361.o s131 rfl) rfl) rfl
    refine s1 p477.z (okFA (o' := 1) fo25_1 s479 rfl) rfl fun a480 p481 s482 => ?_
    have m483 := m27.g0 g25
    refine s1 p481.z (okLd (j := 1) na3 s482 (m483.cl) rfl rfl) rfl fun a484 p485 s486 => ?_
    have s487 := p485.o (p481.o s478 rfl) rfl
    refine s1 p485.z (okEq s487 s486) rfl fun a488 p489 s490 => ?_
    refine s1 p489.z (okAs s490) rfl fun a491 p492 s493 => ?_
    refine rN (thenN ?_)
    refine wp_seq ?_
    refine reg ?_
    have s494 := p492.o (p489.o (p485.o (p481.o s479 rfl) rfl) rfl) rfl
    refine s1 p492.z (okFA (o' := 1) fo25_1 s494 rfl) rfl fun a495 p496 s497 => ?_
    refine lS (oSto (cs := [.int .i64 0]) (l' := TThing.C ({ x0 with n := 0 }) h0_0) p496.z s497 cst m483 Try.sizeOf3 rfl one1 rfl rfl fun w498 m499 g500 => ?_)
    have cx501 := cx28.st g500 f9
    refine rN (thenN ?_)
    refine wp_seq ?_
    refine reg ?_
    have s502 := p496.o s494 rfl
    refine s1 p496.z (okLdA ag25 s502 (m499.cl) rfl rfl whole) rfl fun a503 p504 s505 => ?_
    have s506 := p504.o (p496.o s493 rfl) rfl
    refine s1 p504.z (okMv s506) rfl fun a507 p508 s509 => ?_
    have s510 := p508.o (p504.o (p496.o (p492.o (p489.o (p485.o (p481.o (p477.o (pg473.o (pg361.o s132 rfl) rfl) rfl) rfl) rfl) rfl) rfl) rfl) rfl) rfl
    have s511 := p508.o s505 rfl
    have m512 := m24.g1 g500 (m27.ne e26).symm
    have q513 := qh0_0.mono ((((g6.tA (Nat.le_of_eq e7.symm)).trans (g16.tA (Nat.le_of_eq e17.symm))).trans (g25.tA (Nat.le_of_eq e26.symm))).trans (g500.t1 (.tail _ (.tail _ (.head _)))))
    refine lS (oStoW (cs := TThing.C ({ x0 with n := 0 }) h0_0) p508.z s510 s511 m512 Try.sizeOf25 rfl (TThing.C_one _ q513.one) rfl fun w514 m515 g516 => ?_)
    have cx517 := cx501.st g516 f29
    refine s1 p508.z (okAs s509) rfl fun a518 p519 s520 => ?_
    refine rN (thenN ?_)
    have s521 := p519.o s510 rfl
    obtain rfl := Option.some.inj h
    have q522 := q513.mono (g516.t1 (.head _))
    exact wp_ret (blkR (thenR (ret2 p519.z Try.results22 (rvA ag25 s521 m515 rfl) (rvT s520) ⟨_, rfl, h0_0, rfl, (q522.mono ((Tr.refl _ _).sub (fun i h => (.tail _ (.tail _ (.tail _ h)))))), cx517.g⟩)))
  replace h := (ifN hb474).symm.trans h
  refine wp_skip (blkN (thenN ?_))
  refine wp_seq ?_
  refine reg ?_
  have s523 := pg473.o (pg361.o s131 rfl) rfl
  have m524 := m27.g0 g25
  refine s1 pg473.z (okLdA ag25 s523 (m524.cl) rfl rfl whole) rfl fun a525 p526 s527 => ?_
  have s528 := p526.o (pg473.o (pg361.o s132 rfl) rfl) rfl
  have q529 := qh0_0.mono (((g6.tA (Nat.le_of_eq e7.symm)).trans (g16.tA (Nat.le_of_eq e17.symm))).trans (g25.tA (Nat.le_of_eq e26.symm)))
  refine lS (oStoW (cs := TThing.C x0 h0_0) p526.z s528 s527 m24 Try.sizeOf25 rfl (TThing.C_one _ q529.one) rfl fun w530 m531 g532 => ?_)
  have cx533 := cx28.st g532 f29
  refine s1 p526.z (okAs cst) rfl fun a534 p535 s536 => ?_
  refine rN (thenN ?_)
  have s537 := p535.o s528 rfl
  obtain rfl := Option.some.inj h
  have q538 := q529.mono (g532.t1 (.head _))
  exact wp_ret (ret2 p535.z Try.results22 (rvA ag25 s537 m531 rfl) (rvT s536) ⟨_, rfl, h0_0, rfl, (q538.mono ((Tr.refl _ _).sub (fun i h => (.tail _ (.tail _ (.tail _ h)))))), cx533.g⟩)

set_option maxHeartbeats 4000000 in
theorem c23 (L : List Nat) (w : World) (hL : ∀ b ∈ L, b < w.heap.size) (x0 : TThing) (h0_0 : Value) (qh0_0 : RdS KTWaiter L w h0_0 x0.waiters) (x1 : TNote) (r : TThing × Bool) (h : model_latch x0 x1 = some r) : Calls Try.prog 23 #[.agg (TThing.C x0 h0_0).toArray, .agg (TNote.C x1).toArray] w (fun e w' => ∃ v, e = .returned v ∧ ∃ u_0, v = .tuple #[.agg (TThing.C r.1 u_0).toArray, .bool r.2] ∧ RdS KTWaiter L w' u_0 r.1.waiters ∧ G [] w w') := by
  refine enterF Try.func23 rfl rfl fun a0 z0 A => ?_
  have s0_0 := A 0 (.agg (TThing.C x0 h0_0).toArray) rfl
  have s0_1 := A 1 (.agg (TNote.C x1).toArray) rfl
  clear A
  have c0 : Cx [] w L w := ⟨G.refl _ _, hL⟩
  unfold model_latch at h
  refine wp_seq ?_
  refine reg ?_
  refine lS (oBox (l := TThing.C x0 h0_0) z0 s0_0 rfl rfl fun a1 w2 b3 p4 sp4 m5 g6 e7 => ?_)
  have f9 := c0.nw e7
  have cx8 := c0.al g6 m5
  have s10 := p4.o s0_1 rfl
  refine lS (oBox (l := TNote.C x1) p4.z s10 rfl rfl fun a11 w12 b13 p14 sp14 m15 g16 e17 => ?_)
  have f19 := cx8.nw e17
  have cx18 := cx8.al g16 m15
  have m27 := m5.g0 g16
  refine lS (oAlloc zv25 p14.z rfl fun a20 w21 b22 p23 sp23 m24 g25 e26 => ?_)
  have f29 := cx18.nw e26
  have cx28 := cx18.al g25 m24
  refine s1 p23.z (okAs cst) rfl fun a30 p31 s32 => ?_
  refine rN (thenN ?_)
  refine wp_seq ?_
  refine reg ?_
  have s33 := p31.o (p23.o sp14 rfl) rfl
  refine s1 p31.z (okFA (o' := 1) fo29_1 s33 rfl) rfl fun a34 p35 s36 => ?_
  have m37 := m15.g0 g25
  refine s1 p35.z (okLd (j := 1) na2 s36 (m37.cl) rfl rfl) rfl fun a38 p39 s40 => ?_
  refine s1 p39.z (okAs s40) rfl fun a41 p42 s43 => ?_
  refine rN (thenN ?_)
  refine wp_seq ?_
  refine wp_seq ?_
  refine reg ?_
  have s44 := p42.o (p39.o (p35.o s33 rfl) rfl) rfl
  refine s1 p42.z (okFA (o' := 0) fo29_0 s44 rfl) rfl fun a45 p46 s47 => ?_
  refine s1 p46.z (okLd (j := 0) na3 s47 (m37.cl) rfl rfl) rfl fun a48 p49 s50 => ?_
  refine rN (thenN ?_)
  refine wp_block ?_
  refine wp_seq ?_
  refine reg ?_
  refine s1 p49.z (okEq s50 cst) rfl fun a51 p52 s53 => ?_
  refine s1 p52.z (okAs s53) rfl fun a54 p55 s56 => ?_
  refine rN (thenN ?_)
  have s57 := p55.o (p52.o (p49.o (p46.o (p42.o (p39.o (p35.o (p31.o (p23.o (p14.o sp4 rfl) rfl) rfl) rfl) rfl) rfl) rfl) rfl) rfl) rfl
  have s58 := p55.o (p52.o (p49.o (p46.o (p42.o (p39.o (p35.o (p31.o sp23 rfl) rfl) rfl) rfl) rfl) rfl) rfl) rfl
  have s59 := p55.o (p52.o (p49.o (p46.o (p42.o (p39.o (p35.o s32 rfl) rfl) rfl) rfl) rfl) rfl) rfl
  have s60 := p55.o (p52.o (p49.o (p46.o s43 rfl) rfl) rfl) rfl
  have s61 := p55.o (p52.o s50 rfl) rfl
  have pg62 : Pg _ [2, 3, 4, 5, 6, 8, 9, 10, 11, 12, 13] _ _ := ((((((((((((Pg.refl z0).st p4 rfl).st p14 rfl).st p23 rfl).st p31 rfl).st p35 rfl).st p39 rfl).st p42 rfl).st p46 rfl).st p49 rfl).st p52 rfl).st p55 rfl)
  refine cnd s56 (fun hb63 => ?_) (fun hb63 => ?_)
  · replace h := (ifP hb63).symm.trans h
    refine wp_seq ?_
    refine reg ?_
    have m64 := m27.g0 g25
    refine s1 pg62.z (okLdA ag25 s57 (m64.cl) rfl rfl whole) rfl fun a65 p66 s67 => ?_
    have s68 := p66.o s57 rfl
    refine s1 p66.z (okFA (o' := 1) fo25_1 s68 rfl) rfl fun a69 p70 s71 => ?_
    refine s1 p70.z (okLd (j := 1) na3 s71 (m64.cl) rfl rfl) rfl fun a72 p73 s74 => ?_
    refine s1 p73.z (okEq s74 cst) rfl fun a75 p76 s77 => ?_
    refine s1 p76.z (okMv s77) rfl fun a78 p79 s80 => ?_
    refine cutP 3 (fun a' => Pg Try.f23.ntmps [19, 20, 21] a78 a' ∧ a'.eval (.tmp 21) = .bool ((x0.n == 0) && (x1.value == 0))) ?_ ?_
    · rcases bf (x0.n == 0) with hb81 | hb81
      · have s82 := bv s80 hb81
        refine s1k p79.z rfl (yd p79.z rfl rfl s82) rfl fun a83 p84 s85 => ?_
        have s86 := p84.o s82 rfl
        refine s1k p84.z rfl (yd p84.z rfl rfl s86) rfl fun a87 p88 s89 => ?_
        have s90 := p88.o s86 rfl
        refine s1 p88.z (okPickF s90 cst) rfl fun a91 p92 s93 => ?_
        exact rN ⟨rfl, rfl, ((((Pg.refl p79.z).st p84 rfl).st p88 rfl).st p92 rfl), (andF hb81 s93)⟩
      · have s94 := bv s80 hb81
        have s95 := p79.o (p76.o (p73.o (p70.o (p66.o s60 rfl) rfl) rfl) rfl) rfl
        refine s1g p79.z (okMv s95) rfl (yd p79.z rfl rfl s94) fun a96 p97 s98 => ?_
        have s99 := p97.o s94 rfl
        refine s1g p97.z (okEq s98 cst) rfl (yd p97.z rfl rfl s99) fun a100 p101 s102 => ?_
        have s103 := p101.o s99 rfl
        refine s1 p101.z (okPickT s103 s102) rfl fun a104 p105 s106 => ?_
        exact rN ⟨rfl, rfl, ((((Pg.refl p79.z).st p97 rfl).st p101 rfl).st p105 rfl), (andT hb81 s106)⟩
    rintro a107 ⟨pg108, s109⟩
    have s110 := pg108.o (p79.o (p76.o (p73.o (p70.o (p66.o s58 rfl) rfl) rfl) rfl) rfl) rfl
    have s111 := pg108.o (p79.o (p76.o (p73.o (p70.o s67 rfl) rfl) rfl) rfl) rfl
    have q112 := qh0_0.mono (((g6.tA (Nat.le_of_eq e7.symm)).trans (g16.tA (Nat.le_of_eq e17.symm))).trans (g25.tA (Nat.le_of_eq e26.symm)))
    refine lS (oStoW (cs := TThing.C x0 h0_0) pg108.z s110 s111 m24 Try.sizeOf25 rfl (TThing.C_one _ q112.one) rfl fun w113 m114 g115 => ?_)
    have cx116 := cx28.st g115 f29
    refine s1 pg108.z (okAs s109) rfl fun a117 p118 s119 => ?_
    refine rN (thenN ?_)
    have s120 := p118.o s110 rfl
    obtain rfl := Option.some.inj h
    have q121 := q112.mono (g115.t1 (.head _))
    exact wp_ret (blkR (thenR (ret2 p118.z Try.results23 (rvA ag25 s120 m114 rfl) (rvT s119) ⟨_, rfl, h0_0, rfl, (q121.mono ((Tr.refl _ _).sub (fun i h => (.tail _ (.tail _ (.tail _ h)))))), cx116.g⟩)))
  replace h := (ifN hb63).symm.trans h
  refine wp_seq ?_
  refine reg ?_
  refine s1 pg62.z (okEq s61 cst) rfl fun a122 p123 s124 => ?_
  refine s1 p123.z (okAs s124) rfl fun a125 p126 s127 => ?_
  refine rN (thenN ?_)
  refine cnd s127 (fun hb128 => ?_) (fun hb128 => ?_)
  · replace h := (ifP hb128).symm.trans h
    refine wp_seq ?_
    refine reg ?_
    have s129 := p126.o (p123.o s60 rfl) rfl
    refine s1 p126.z (okMv s129) rfl fun a130 p131 s132 => ?_
    refine s1 p131.z (okEq s132 cst) rfl fun a133 p134 s135 => ?_
    refine s1 p134.z (okMv s135) rfl fun a136 p137 s138 => ?_
    refine cutP 4 (fun a' => Pg Try.f23.ntmps [27, 28, 29, 30] a136 a' ∧ a'.eval (.tmp 30) = .bool ((x1.value == 1) && (decide (0 < x0.n)))) ?_ ?_
    · rcases bf (x1.value == 1) with hb139 | hb139
      · have s140 := bv s138 hb139
        refine s1k p137.z rfl (yd p137.z rfl rfl s140) rfl fun a141 p142 s143 => ?_
        have s144 := p142.o s140 rfl
        refine s1k p142.z rfl (yd p142.z rfl rfl s144) rfl fun a145 p146 s147 => ?_
        have s148 := p146.o s144 rfl
        refine s1k p146.z rfl (yd p146.z rfl rfl s148) rfl fun a149 p150 s151 => ?_
        have s152 := p150.o s148 rfl
        refine s1 p150.z (okPickF s152 cst) rfl fun a153 p154 s155 => ?_
        exact rN ⟨rfl, rfl, (((((Pg.refl p137.z).st p142 rfl).st p146 rfl).st p150 rfl).st p154 rfl), (andF hb139 s155)⟩
      · have s156 := bv s138 hb139
        have s157 := p137.o (p134.o (p131.o (p126.o (p123.o s57 rfl) rfl) rfl) rfl) rfl
        refine s1g p137.z (okFA (o' := 1) fo25_1 s157 rfl) rfl (yd p137.z rfl rfl s156) fun a158 p159 s160 => ?_
        have s161 := p159.o s156 rfl
        have m162 := m27.g0 g25
        refine s1g p159.z (okLd (j := 1) na3 s160 (m162.cl) rfl rfl) rfl (yd p159.z rfl rfl s161) fun a163 p164 s165 => ?_
        have s166 := p164.o s161 rfl
        refine s1g p164.z (okGt s165 cst) rfl (yd p164.z rfl rfl s166) fun a167 p168 s169 => ?_
        have s170 := p168.o s166 rfl
        refine s1 p168.z (okPickT s170 s169) rfl fun a171 p172 s173 => ?_
        exact rN ⟨rfl, rfl, (((((Pg.refl p137.z).st p159 rfl).st p164 rfl).st p168 rfl).st p172 rfl), (andT hb139 s173)⟩
    rintro a174 ⟨pg175, s176⟩
    refine s1 pg175.z (okMv s176) rfl fun a177 p178 s179 => ?_
    refine cutP 8 (fun a' => Pg Try.f23.ntmps [32, 33, 34, 35, 36, 37, 38, 39] a177 a' ∧ a'.eval (.tmp 39) = .bool (((x1.value == 1) && (decide (0 < x0.n))) || ((x1.value == 0) && (x0.n == 0)))) ?_ ?_
    · rcases bf ((x1.value == 1) && (decide (0 < x0.n))) with hb180 | hb180
      · have s181 := bv s179 hb180
        have s182 := p178.o (pg175.o (p137.o (p134.o (p131.o s129 rfl) rfl) rfl) rfl) rfl
        refine s1g p178.z (okMv s182) rfl (yd p178.z rfl rfl s181) fun a183 p184 s185 => ?_
        have s186 := p184.o s181 rfl
        refine s1g p184.z (okEq s185 cst) rfl (yd p184.z rfl rfl s186) fun a187 p188 s189 => ?_
        have s190 := p188.o s186 rfl
        refine s1g p188.z (okMv s189) rfl (yd p188.z rfl rfl s190) fun a191 p192 s193 => ?_
        refine cutP 4 (fun a' => Pg Try.f23.ntmps [35, 36, 37, 38] a191 a' ∧ a'.eval (.tmp 38) = .bool ((x1.value == 0) && (x0.n == 0))) ?_ ?_
        · rcases bf (x1.value == 0) with hb194 | hb194
          · have s195 := bv s193 hb194
            refine s1k p192.z rfl (yd p192.z rfl rfl s195) rfl fun a196 p197 s198 => ?_
            have s199 := p197.o s195 rfl
            refine s1k p197.z rfl (yd p197.z rfl rfl s199) rfl fun a200 p201 s202 => ?_
            have s203 := p201.o s199 rfl
            refine s1k p201.z rfl (yd p201.z rfl rfl s203) rfl fun a204 p205 s206 => ?_
            have s207 := p205.o (p201.o (p197.o (p192.o s190 rfl) rfl) rfl) rfl
            have s208 := p205.o s203 rfl
            refine s1g p205.z (okPickF s208 cst) rfl (yd p205.z rfl rfl s207) fun a209 p210 s211 => ?_
            exact rN ⟨rfl, rfl, (((((Pg.refl p192.z).st p197 rfl).st p201 rfl).st p205 rfl).st p210 rfl), (andF hb194 s211)⟩
          · have s212 := bv s193 hb194
            have s213 := p192.o (p188.o (p184.o (p178.o (pg175.o (p137.o (p134.o (p131.o (p126.o (p123.o s57 rfl) rfl) rfl) rfl) rfl) rfl) rfl) rfl) rfl) rfl
            refine s1g p192.z (okFA (o' := 1) fo25_1 s213 rfl) rfl (yd p192.z rfl rfl s212) fun a214 p215 s216 => ?_
            have s217 := p215.o s212 rfl
            have m218 := m27.g0 g25
            refine s1g p215.z (okLd (j := 1) na3 s216 (m218.cl) rfl rfl) rfl (yd p215.z rfl rfl s217) fun a219 p220 s221 => ?_
            have s222 := p220.o s217 rfl
            refine s1g p220.z (okEq s221 cst) rfl (yd p220.z rfl rfl s222) fun a223 p224 s225 => ?_
            have s226 := p224.o (p220.o (p215.o (p192.o s190 rfl) rfl) rfl) rfl
            have s227 := p224.o s222 rfl
            refine s1g p224.z (okPickT s227 s225) rfl (yd p224.z rfl rfl s226) fun a228 p229 s230 => ?_
            exact rN ⟨rfl, rfl, (((((Pg.refl p192.z).st p215 rfl).st p220 rfl).st p224 rfl).st p229 rfl), (andT hb194 s230)⟩
        rintro a231 ⟨pg232, s233⟩
        have s234 := pg232.o (p192.o s190 rfl) rfl
        refine s1 pg232.z (okPickF s234 s233) rfl fun a235 p236 s237 => ?_
        exact rN ⟨rfl, rfl, ((((((Pg.refl p178.z).st p184 rfl).st p188 rfl).st p192 rfl).tr pg232 rfl).st p236 rfl), (orF hb180 s237)⟩
      · have s238 := bv s179 hb180
        refine s1k p178.z rfl (yd p178.z rfl rfl s238) rfl fun a239 p240 s241 => ?_
        have s242 := p240.o s238 rfl
        refine s1k p240.z rfl (yd p240.z rfl rfl s242) rfl fun a243 p244 s245 => ?_
        have s246 := p244.o s242 rfl
        refine s1k p244.z rfl (yd p244.z rfl rfl s246) rfl fun a247 p248 s249 => ?_
        refine s1k p248.z rfl (ydU p248.z rfl rfl s249) rfl fun a250 p251 s252 => ?_
        have s253 := p251.o s249 rfl
        refine s1k p251.z rfl (ydU p251.z rfl rfl s253) rfl fun a254 p255 s256 => ?_
        have s257 := p255.o s253 rfl
        refine s1k p255.z rfl (ydU p255.z rfl rfl s257) rfl fun a258 p259 s260 => ?_
        have s261 := p259.o (p255.o (p251.o (p248.o s246 rfl) rfl) rfl) rfl
        refine s1k p259.z rfl (yd p259.z rfl rfl s261) rfl fun a262 p263 s264 => ?_
        have s265 := p263.o s261 rfl
        refine s1 p263.z (okPickT s265 cst) rfl fun a266 p267 s268 => ?_
        exact rN ⟨rfl, rfl, (((((((((Pg.refl p178.z).st p240 rfl).st p244 rfl).st p248 rfl).st p251 rfl).st p255 rfl).st p259 rfl).st p263 rfl).st p267 rfl), (orT hb180 s268)⟩
    rintro a269 ⟨pg270, s271⟩
    refine s1 pg270.z (okAs s271) rfl fun a272 p273 s274 => ?_
    refine rN (thenN ?_)
    refine wp_seq ?_
    refine reg ?_
    have s275 := p273.o (pg270.o (p178.o (pg175.o (p137.o (p134.o (p131.o (p126.o (p123.o s57 rfl) rfl) rfl) rfl) rfl) rfl) rfl) rfl) rfl
    refine s1 p273.z (okFA (o' := 1) fo25_1 s275 rfl) rfl fun a276 p277 s278 => ?_
    have m279 := m27.g0 g25
    refine s1 p277.z (okLd (j := 1) na3 s278 (m279.cl) rfl rfl) rfl fun a280 p281 s282 => ?_
    have s283 := p281.o (p277.o (p273.o (pg270.o (p178.o (pg175.o (p137.o (p134.o (p131.o s129 rfl) rfl) rfl) rfl) rfl) rfl) rfl) rfl) rfl
    refine s1 p281.z (okMv s283) rfl fun a284 p285 s286 => ?_
    refine s1 p285.z (okAnd s286 cst) rfl fun a287 p288 s289 => ?_
    have s290 := p288.o (p285.o s282 rfl) rfl
    refine s1 p288.z (okSub s290 s289) rfl fun a291 p292 s293 => ?_
    have s294 := p292.o (p288.o (p285.o (p281.o (p277.o s275 rfl) rfl) rfl) rfl) rfl
    refine s1 p292.z (okFA (o' := 1) fo25_1 s294 rfl) rfl fun a295 p296 s297 => ?_
    have s298 := p296.o s293 rfl
    refine lS (oSto (cs := [.int .i64 (w64 (x0.n - (bAnd .i64 x1.value 1)))]) (l' := TThing.C ({ x0 with n := w64 (x0.n - (bAnd .i64 x1.value 1)) }) h0_0) p296.z s297 s298 m279 Try.sizeOf3 rfl one1 rfl rfl fun w299 m300 g301 => ?_)
    have cx302 := cx28.st g301 f9
    refine rN (thenN ?_)
    refine wp_seq ?_
    refine reg ?_
    have s303 := p296.o s294 rfl
    refine s1 p296.z (okLdA ag25 s303 (m300.cl) rfl rfl whole) rfl fun a304 p305 s306 => ?_
    have s307 := p305.o (p296.o (p292.o (p288.o (p285.o (p281.o (p277.o s274 rfl) rfl) rfl) rfl) rfl) rfl) rfl
    refine s1 p305.z (okMv s307) rfl fun a308 p309 s310 => ?_
    have s311 := p309.o (p305.o (p296.o (p292.o (p288.o (p285.o (p281.o (p277.o (p273.o (pg270.o (p178.o (pg175.o (p137.o (p134.o (p131.o (p126.o (p123.o s58 rfl) rfl) rfl) rfl) rfl) rfl) rfl) rfl) rfl) rfl) rfl) rfl) rfl) rfl) rfl) rfl) rfl
    have s312 := p309.o s306 rfl
    have m313 := m24.g1 g301 (m27.ne e26).symm
    have q314 := qh0_0.mono ((((g6.tA (Nat.le_of_eq e7.symm)).trans (g16.tA (Nat.le_of_eq e17.symm))).trans (g25.tA (Nat.le_of_eq e26.symm))).trans (g301.t1 (.tail _ (.tail _ (.head _)))))
    refine lS (oStoW (cs := TThing.C ({ x0 with n := w64 (x0.n - (bAnd .i64 x1.value 1)) }) h0_0) p309.z s311 s312 m313 Try.sizeOf25 rfl (TThing.C_one _ q314.one) rfl fun w315 m316 g317 => ?_)
    have cx318 := cx302.st g317 f29
    refine s1 p309.z (okAs s310) rfl fun a319 p320 s321 => ?_
    refine rN (thenN ?_)
    have s322 := p320.o s311 rfl
    obtain rfl := Option.some.inj h
    have q323 := q314.mono (g317.t1 (.head _))
    exact wp_ret (blkR (thenR (ret2 p320.z Try.results23 (rvA ag25 s322 m316 rfl) (rvT s321) ⟨_, rfl, h0_0, rfl, (q323.mono ((Tr.refl _ _).sub (fun i h => (.tail _ (.tail _ (.tail _ h)))))), cx318.g⟩)))
  replace h := (ifN hb128).symm.trans h
  refine wp_skip (blkN (thenN ?_))
  refine wp_seq ?_
  refine reg ?_
  have s324 := p126.o (p123.o s57 rfl) rfl
  have m325 := m27.g0 g25
  refine s1 p126.z (okLdA ag25 s324 (m325.cl) rfl rfl whole) rfl fun a326 p327 s328 => ?_
  have s329 := p327.o (p126.o (p123.o s58 rfl) rfl) rfl
  have q330 := qh0_0.mono (((g6.tA (Nat.le_of_eq e7.symm)).trans (g16.tA (Nat.le_of_eq e17.symm))).trans (g25.tA (Nat.le_of_eq e26.symm)))
  refine lS (oStoW (cs := TThing.C x0 h0_0) p327.z s329 s328 m24 Try.sizeOf25 rfl (TThing.C_one _ q330.one) rfl fun w331 m332 g333 => ?_)
  have cx334 := cx28.st g333 f29
  refine s1 p327.z (okAs cst) rfl fun a335 p336 s337 => ?_
  refine rN (thenN ?_)
  have s338 := p336.o s329 rfl
  obtain rfl := Option.some.inj h
  have q339 := q330.mono (g333.t1 (.head _))
  exact wp_ret (ret2 p336.z Try.results23 (rvA ag25 s338 m332 rfl) (rvT s337) ⟨_, rfl, h0_0, rfl, (q339.mono ((Tr.refl _ _).sub (fun i h => (.tail _ (.tail _ (.tail _ h)))))), cx334.g⟩)

set_option maxHeartbeats 4000000 in
theorem c33 (k : Nat) (L : List Nat) (w : World) (hL : ∀ b ∈ L, b < w.heap.size) (x0 : TThing) (h0_0 : Value) (qh0_0 : RdS KTWaiter L w h0_0 x0.waiters) (r : Int) (h : model_reads k x0 = some r) : Calls Try.prog 33 #[.agg (TThing.C x0 h0_0).toArray] w (fun e w' => ∃ v, e = .returned v ∧ v = .int .i64 r ∧ G [] w w') := by
  refine enterF Try.func33 rfl rfl fun a0 z0 A => ?_
  have s0_0 := A 0 (.agg (TThing.C x0 h0_0).toArray) rfl
  clear A
  have c0 : Cx [] w L w := ⟨G.refl _ _, hL⟩
  unfold model_reads at h
  refine wp_seq ?_
  refine reg ?_
  refine lS (oBox (l := TThing.C x0 h0_0) z0 s0_0 rfl rfl fun a1 w2 b3 p4 sp4 m5 g6 e7 => ?_)
  have f9 := c0.nw e7
  have cx8 := c0.al g6 m5
  refine s1 p4.z (okAs cst) rfl fun a10 p11 s12 => ?_
  refine rN (thenN ?_)
  refine wp_seq ?_
  refine reg ?_
  refine s1 p11.z (okAs cst) rfl fun a13 p14 s15 => ?_
  refine rN (thenN ?_)
  refine wp_seq ?_
  refine wp_seq ?_
  refine reg ?_
  have s16 := p14.o (p11.o sp4 rfl) rfl
  refine s1 p14.z (okFA (o' := 4) fo25_4 s16 rfl) rfl fun a17 p18 s19 => ?_
  refine s1 p18.z (okLdA (l := Arr8.C x0.reads) (j := 4) ag22 s19 (m5.cl) rfl rfl (partOf rfl)) rfl fun a20 p21 s22 => ?_
  refine s1 p21.z (okMv cst) rfl fun a23 p24 s25 => ?_
  refine rN (thenN ?_)
  refine wp_block ?_
  obtain ⟨o28, ho29, h⟩ := Option.bind_eq_some_iff.1 h
  have s30 := p24.o (p21.o (p18.o (p14.o s12 rfl) rfl) rfl) rfl
  have s31 := p24.o (p21.o (p18.o s15 rfl) rfl) rfl
  have s32 := p24.o s22 rfl
  have q33 := qh0_0.mono (g6.tA (Nat.le_of_eq e7.symm))
  refine loopX (I := (fun k' a' w' => ∃ i26 i27, Z Try.f33.ntmps a' ∧ a'.eval (.tmp 2) = .int .i64 0 ∧ a'.eval (.tmp 3) = .int .i64 i26 ∧ a'.eval (.tmp 7) = .agg (Arr8.C x0.reads).toArray ∧ a'.eval (.tmp 8) = .int .i64 i27 ∧ Bk w' b3 (TThing.C x0 h0_0) 25 ∧ RdS KTWaiter (b3 :: L) w' h0_0 x0.waiters ∧ Cx [] w (b3 :: L) w' ∧ model_reads.l0 x0 k' i26 i27 = some o28)) 0 (fun a' w' => Z Try.f33.ntmps a' ∧ a'.eval (.tmp 2) = .int .i64 0 ∧ a'.eval (.tmp 3) = .int .i64 o28 ∧ Bk w' b3 (TThing.C x0 h0_0) 25 ∧ RdS KTWaiter (b3 :: L) w' h0_0 x0.waiters ∧ Cx [] w (b3 :: L) w') ⟨0, 0, p24.z, s30, s31, s32, s25, m5, q33, cx8, ho29⟩ ?_ ?_
  · have oh45 := h; clear h ho29
    rintro k34 a35 w36 ⟨i26, i27, z37, s38, s39, s40, s41, m42, q43, cx44, h⟩
    obtain _ | k := k34
    case zero => cases h
    rw [model_reads.l0] at h
    refine wp_seq ?_
    refine reg ?_
    refine s1 z37 (okLt s41 cst) rfl fun a46 p47 s48 => ?_
    refine rN (thenN ?_)
    refine wp_seq ?_
    refine cnd s48 (fun hb49 => ?_) (fun hb49 => ?_)
    · replace h := (ifP hb49).symm.trans h
      refine wp_skip (thenN ?_)
      refine wp_seq ?_
      refine wp_block ?_
      refine wp_seq ?_
      refine reg ?_
      have s50 := p47.o s40 rfl
      have s51 := p47.o s41 rfl
      by_cases hi52 : 0 ≤ i27 ∧ i27 < 8
      case neg => rw [if_neg hi52] at h; cases h
      replace h := (if_pos hi52).symm.trans h
      refine s1 p47.z (okIxA Try.underlying22 Try.isAgg3 Try.sizeOf3 s50 s51 (Arr8.C_get _ hi52) hi52) rfl fun a53 p54 s55 => ?_
      refine s1 p54.z (okAs s55) rfl fun a56 p57 s58 => ?_
      refine rN (thenN ?_)
      refine reg ?_
      have s59 := p57.o (p54.o (p47.o s39 rfl) rfl) rfl
      refine s1 p57.z (okMv s59) rfl fun a60 p61 s62 => ?_
      have s63 := p61.o s58 rfl
      refine s1 p61.z (okMv s63) rfl fun a64 p65 s66 => ?_
      have s67 := p65.o s62 rfl
      refine s1 p65.z (okAdd s67 s66) rfl fun a68 p69 s70 => ?_
      refine s1 p69.z (okAs s70) rfl fun a71 p72 s73 => ?_
      refine rN (blkN (thenN ?_))
      refine reg ?_
      have s74 := p72.o (p69.o (p65.o (p61.o (p57.o (p54.o s51 rfl) rfl) rfl) rfl) rfl) rfl
      refine s1 p72.z (okAdd s74 cst) rfl fun a75 p76 s77 => ?_
      refine s1 p76.z (okMv s77) rfl fun a78 p79 s80 => ?_
      have s81 := p79.o (p76.o (p72.o (p69.o (p65.o (p61.o (p57.o (p54.o (p47.o s38 rfl) rfl) rfl) rfl) rfl) rfl) rfl) rfl) rfl
      have s82 := p79.o (p76.o s73 rfl) rfl
      have s83 := p79.o (p76.o (p72.o (p69.o (p65.o (p61.o (p57.o (p54.o s50 rfl) rfl) rfl) rfl) rfl) rfl) rfl) rfl
      exact rN (thenN ⟨k, Nat.lt_succ_self k, (w64 (i26 + (x0.reads.get i27))), (w64 (i27 + 1)), p79.z, s81, s82, s83, s80, m42, q43, cx44, h⟩)
    replace h := (ifN hb49).symm.trans h
    obtain rfl := Option.some.inj h
    have s84 := p47.o s38 rfl
    have s85 := p47.o s39 rfl
    exact wp_exit (thenE (thenE (jqE ⟨p47.z, s84, s85, m42, q43, cx44⟩)))
  clear ho29
  rintro a86 w87 ⟨z88, s89, s90, m91, q92, cx93⟩
  refine blkE (thenN ?_)
  refine wp_seq ?_
  refine reg ?_
  refine s1 z88 (okMv s90) rfl fun a94 p95 s96 => ?_
  refine s1 p95.z (okAs s96) rfl fun a97 p98 s99 => ?_
  refine rN (thenN ?_)
  obtain rfl := Option.some.inj h
  exact wp_ret (ret1 p98.z Try.results33 (rvT s99) ⟨_, rfl, rfl, cx93.g⟩)
end Go.Proofs.Ytbfndihcbogjfaa
