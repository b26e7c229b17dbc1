/-
  The Go functions tholeref10_New, tholeref10_place, tholeref10_freed, tholeref10_without, tholeref10_lock, tholeref10_sema, tholeref10_Reads, tholeref10_rw, tholeref10_swap: each comes to its plain function. Conditions: where the plain function is some.
-/
import Derived.Test.YtbfndihcbogjfaaW3
set_option linter.unusedVariables false
namespace Go.Proofs.Ytbfndihcbogjfaa
open Go Go.RowKit Go.Proofs.Ytbfndihcbogjfaa.Gx
set_option maxHeartbeats 4000000 in
theorem c10 (L : List Nat) (w : World) (hL : ∀ b ∈ L, b < w.heap.size) (x0 : TObject) (r : TThing) (h : tholeref10_New x0 = some r) : Calls Try.prog 10 #[.agg (TObject.C x0).toArray] w (fun e w' => ∃ v, e = .returned v ∧ ∃ u_0, v = .agg (TThing.C r u_0).toArray ∧ RdS KTWaiter L w' u_0 r.waiters ∧ G [] w w') := by
  refine enterF Try.func10 rfl rfl fun a0 z0 A => ?_
  have s0_0 := A 0 (.agg (TObject.C x0).toArray) rfl
  clear A
  have c0 : Cx [] w L w := ⟨G.refl _ _, hL⟩
  unfold tholeref10_New at h
  refine wp_seq ?_
  refine reg ?_
  refine lS (oBox (l := TObject.C x0) z0 s0_0 rfl rfl fun a1 w2 b3 p4 sp4 m5 g6 e7 => ?_)
  have f9 := c0.nw e7
  have cx8 := c0.al g6 m5
  refine lS (oAlloc zv25 p4.z rfl fun a10 w11 b12 p13 sp13 m14 g15 e16 => ?_)
  have f18 := cx8.nw e16
  have cx17 := cx8.al g15 m14
  refine rN (thenN ?_)
  refine wp_seq ?_
  refine reg ?_
  have s19 := p13.o sp4 rfl
  refine s1 p13.z (okFA (o' := 0) fo36_0 s19 rfl) rfl fun a20 p21 s22 => ?_
  have m23 := m5.g0 g15
  refine s1 p21.z (okLd (j := 0) na3 s22 (m23.cl) rfl rfl) rfl fun a24 p25 s26 => ?_
  have s27 := p25.o (p21.o s19 rfl) rfl
  refine s1 p25.z (okFA (o' := 2) fo36_2 s27 rfl) rfl fun a28 p29 s30 => ?_
  refine s1 p29.z (okLd (j := 2) na3 s30 (m23.cl) rfl rfl) rfl fun a31 p32 s33 => ?_
  have s34 := p32.o (p29.o s26 rfl) rfl
  refine s1 p32.z (okBd (pb4 s34 s33 cst cst) (bd25_0_1_2_6 x0.kind x0.n (-1) (-1) _)) rfl fun a35 p36 s37 => ?_
  have s38 := p36.o (p32.o (p29.o (p25.o (p21.o sp13 rfl) rfl) rfl) rfl) rfl
  refine lS (oStoW (cs := TThing.C (⟨x0.kind, x0.n, (-1), 0, Arr8.zero, [], (-1), 0⟩ : TThing) (.slice none 0 0)) p36.z s38 s37 m14 Try.sizeOf25 rfl (TThing.C_one _ rfl) rfl fun w39 m40 g41 => ?_)
  have cx42 := cx17.st g41 f18
  refine rN (thenN ?_)
  obtain rfl := Option.some.inj h
  exact wp_ret (ret1 p36.z Try.results10 (rvA ag25 s38 m40 rfl) ⟨_, rfl, (.slice none 0 0), rfl, RdS.nil, cx42.g⟩)

set_option maxHeartbeats 4000000 in
theorem c26 (k : Nat) (L : List Nat) (w : World) (hL : ∀ b ∈ L, b < w.heap.size) (x0 : TThing) (h0_0 : Value) (qh0_0 : RdS KTWaiter L w h0_0 x0.waiters) (x1 : Int) (r : Int) (h : tholeref10_place k x0 x1 = some r) : Calls Try.prog 26 #[.agg (TThing.C x0 h0_0).toArray, .int .i64 x1] w (fun e w' => ∃ v, e = .returned v ∧ v = .int .i64 r ∧ G [] w w') := by
  refine enterF Try.func26 rfl rfl fun a0 z0 A => ?_
  have s0_0 := A 0 (.agg (TThing.C x0 h0_0).toArray) rfl
  have s0_1 := A 1 (.int .i64 x1) rfl
  clear A
  have c0 : Cx [] w L w := ⟨G.refl _ _, hL⟩
  unfold tholeref10_place at h
  refine wp_seq ?_
  refine reg ?_
  refine lS (oBox (l := TThing.C x0 h0_0) z0 s0_0 rfl rfl fun a1 w2 b3 p4 sp4 m5 g6 e7 => ?_)
  have f9 := c0.nw e7
  have cx8 := c0.al g6 m5
  refine s1 p4.z (okAs cst) rfl fun a10 p11 s12 => ?_
  refine rN (thenN ?_)
  refine wp_seq ?_
  refine wp_seq ?_
  refine reg ?_
  refine s1 p11.z (okAs cst) rfl fun a13 p14 s15 => ?_
  refine rN (thenN ?_)
  refine wp_block ?_
  obtain ⟨o17, ho18, h⟩ := Option.bind_eq_some_iff.1 h
  have s20 := p14.o (p11.o (p4.o s0_1 rfl) rfl) rfl
  have s21 := p14.o (p11.o sp4 rfl) rfl
  have s22 := p14.o s12 rfl
  have q23 := qh0_0.mono (g6.tA (Nat.le_of_eq e7.symm))
  refine loopX (I := (fun k' a' w' => ∃ i16, Z Try.f26.ntmps a' ∧ a'.eval (.tmp 1) = .int .i64 x1 ∧ a'.eval (.tmp 2) = ptr b3 0 ∧ a'.eval (.tmp 4) = .int .i64 0 ∧ a'.eval (.tmp 5) = .int .i64 i16 ∧ Bk w' b3 (TThing.C x0 h0_0) 25 ∧ RdS KTWaiter (b3 :: L) w' h0_0 x0.waiters ∧ Cx [] w (b3 :: L) w' ∧ tholeref10_place.l0 x0 x1 k' i16 = some o17)) 0 (fun a' w' => ∃ g19, o17 = .go g19 ∧ Z Try.f26.ntmps a' ∧ a'.eval (.tmp 4) = .int .i64 0 ∧ Bk w' b3 (TThing.C x0 h0_0) 25 ∧ RdS KTWaiter (b3 :: L) w' h0_0 x0.waiters ∧ Cx [] w (b3 :: L) w') ⟨0, p14.z, s20, s21, s22, s15, m5, q23, cx8, ho18⟩ ?_ ?_
  · have oh35 := h; clear h ho18
    rintro k24 a25 w26 ⟨i16, z27, s28, s29, s30, s31, m32, q33, cx34, h⟩
    obtain _ | k := k24
    case zero => cases h
    rw [tholeref10_place.l0] at h
    refine wp_seq ?_
    refine wp_seq ?_
    refine reg ?_
    refine s1 z27 (okMv s31) rfl fun a36 p37 s38 => ?_
    have s39 := p37.o s29 rfl
    refine s1 p37.z (okFA (o' := 12) fo25_5 s39 rfl) rfl fun a40 p41 s42 => ?_
    refine s1 p41.z (okLd (j := 12) na23 s42 (m32.cl) rfl rfl) rfl fun a43 p44 s45 => ?_
    refine s1 p44.z (okLenR Try.underlying23 s45 q33) rfl fun a46 p47 s48 => ?_
    have s49 := p47.o (p44.o (p41.o s38 rfl) rfl) rfl
    refine s1 p47.z (okLt s49 s48) rfl fun a50 p51 s52 => ?_
    refine rN (thenN ?_)
    have s53 := p51.o (p47.o (p44.o (p41.o s39 rfl) rfl) rfl) rfl
    have s54 := p51.o s49 rfl
    have s55 := p51.o (p47.o (p44.o s42 rfl) rfl) rfl
    have s56 := p51.o (p47.o s45 rfl) rfl
    have s57 := p51.o s48 rfl
    have pg58 : Pg _ [6, 7, 8, 9, 10] _ _ := ((((((Pg.refl z27).st p37 rfl).st p41 rfl).st p44 rfl).st p47 rfl).st p51 rfl)
    refine cnd s52 (fun hb59 => ?_) (fun hb59 => ?_)
    · replace h := (ifP hb59).symm.trans h
      refine wp_skip (thenN ?_)
      refine wp_seq ?_
      refine wp_block ?_
      refine wp_seq ?_
      refine reg ?_
      refine s1 pg58.z (okFA (o' := 12) fo25_5 s53 rfl) rfl fun a60 p61 s62 => ?_
      refine s1 p61.z (okLd (j := 12) na23 s62 (m32.cl) rfl rfl) rfl fun a63 p64 s65 => ?_
      have s66 := p64.o (p61.o (pg58.o s31 rfl) rfl) rfl
      refine s1 p64.z (okMv s66) rfl fun a67 p68 s69 => ?_
      have s70 := p68.o s65 rfl
      obtain ⟨y71, hy72, h⟩ := Option.bind_eq_some_iff.1 h
      obtain ⟨b73, o74, cs75, r77, e78, nb79, k76⟩ := q33.at_ hy72
      obtain rfl := r77
      refine s1 p68.z (k76 Try.underlying23 Try.sizeOf45 s70 s69 _) rfl fun a80 p81 s82 => ?_
      refine s1 p81.z (okFA (o' := o74) fo45_0 s82 rfl) rfl fun a83 p84 s85 => ?_
      refine s1 p84.z (okLd (j := 0) na3 s85 e78 rfl rfl) rfl fun a86 p87 s88 => ?_
      have s89 := p87.o (p84.o (p81.o (p68.o (p64.o (p61.o (pg58.o s28 rfl) rfl) rfl) rfl) rfl) rfl) rfl
      refine s1 p87.z (okMv s89) rfl fun a90 p91 s92 => ?_
      have s93 := p91.o s88 rfl
      refine s1 p91.z (okEq s93 s92) rfl fun a94 p95 s96 => ?_
      refine rN (thenN ?_)
      have s97 := p95.o (p91.o s89 rfl) rfl
      have s98 := p95.o (p91.o (p87.o (p84.o (p81.o (p68.o s66 rfl) rfl) rfl) rfl) rfl) rfl
      have s99 := p95.o (p91.o (p87.o (p84.o (p81.o (p68.o (p64.o s62 rfl) rfl) rfl) rfl) rfl) rfl) rfl
      have s100 := p95.o (p91.o (p87.o (p84.o (p81.o s70 rfl) rfl) rfl) rfl) rfl
      have s101 := p95.o (p91.o (p87.o (p84.o (p81.o s69 rfl) rfl) rfl) rfl) rfl
      have s102 := p95.o (p91.o (p87.o (p84.o s82 rfl) rfl) rfl) rfl
      have s103 := p95.o (p91.o (p87.o s85 rfl) rfl) rfl
      have s104 := p95.o s93 rfl
      have s105 := p95.o s92 rfl
      have pg106 : Pg _ [13, 14, 15, 16, 17, 18, 19, 20] _ _ := (((((((((Pg.refl pg58.z).st p61 rfl).st p64 rfl).st p68 rfl).st p81 rfl).st p84 rfl).st p87 rfl).st p91 rfl).st p95 rfl)
      refine cnd s96 (fun hb107 => ?_) (fun hb107 => ?_)
      · replace h := (ifP hb107).symm.trans h
        refine wp_seq ?_
        refine reg ?_
        refine s1 pg106.z (okMv s98) rfl fun a108 p109 s110 => ?_
        refine s1 p109.z (okAs s110) rfl fun a111 p112 s113 => ?_
        refine rN (thenN ?_)
        obtain rfl := Option.some.inj h
        obtain rfl := Option.some.inj oh35
        exact wp_ret (blkR (thenR (thenR (jqR (blkR (thenR (ret1 p112.z Try.results26 (rvT s113) ⟨_, rfl, rfl, cx34.g⟩)))))))
      replace h := (ifN hb107).symm.trans h
      refine wp_skip (blkN (thenN ?_))
      refine reg ?_
      refine s1 pg106.z (okMv s98) rfl fun a114 p115 s116 => ?_
      refine s1 p115.z (okAdd s116 cst) rfl fun a117 p118 s119 => ?_
      refine s1 p118.z (okAs s119) rfl fun a120 p121 s122 => ?_
      have s123 := p121.o (p118.o (p115.o s97 rfl) rfl) rfl
      have s124 := p121.o (p118.o (p115.o (pg106.o s53 rfl) rfl) rfl) rfl
      have s125 := p121.o (p118.o (p115.o (pg106.o (pg58.o s30 rfl) rfl) rfl) rfl) rfl
      exact rN (thenN ⟨k, Nat.lt_succ_self k, (w64 (i16 + 1)), p121.z, s123, s124, s125, s122, m32, q33, cx34, h⟩)
    replace h := (ifN hb59).symm.trans h
    obtain rfl := Option.some.inj h
    have s126 := pg58.o s30 rfl
    exact wp_exit (thenE (thenE (jqE ⟨_, rfl, pg58.z, s126, m32, q33, cx34⟩)))
  clear ho18
  rintro a127 w128 ⟨g19, rfl, z129, s130, m131, q132, cx133⟩
  refine blkE (thenN ?_)
  refine wp_seq ?_
  refine reg ?_
  refine s1 z129 (okAs cst) rfl fun a134 p135 s136 => ?_
  refine rN (thenN ?_)
  obtain rfl := Option.some.inj h
  exact wp_ret (ret1 p135.z Try.results26 (rvT s136) ⟨_, rfl, rfl, cx133.g⟩)

set_option maxHeartbeats 4000000 in
theorem c27 (L : List Nat) (w : World) (hL : ∀ b ∈ L, b < w.heap.size) (x0 : TThing) (h0_0 : Value) (qh0_0 : RdS KTWaiter L w h0_0 x0.waiters) (r : TThing) (h : tholeref10_freed x0 = some r) : Calls Try.prog 27 #[.agg (TThing.C x0 h0_0).toArray] w (fun e w' => ∃ v, e = .returned v ∧ ∃ u_0, v = .agg (TThing.C r u_0).toArray ∧ RdS KTWaiter L w' u_0 r.waiters ∧ G [] w w') := by
  refine enterF Try.func27 rfl rfl fun a0 z0 A => ?_
  have s0_0 := A 0 (.agg (TThing.C x0 h0_0).toArray) rfl
  clear A
  have c0 : Cx [] w L w := ⟨G.refl _ _, hL⟩
  unfold tholeref10_freed at h
  refine wp_seq ?_
  refine reg ?_
  refine lS (oBox (l := TThing.C x0 h0_0) z0 s0_0 rfl rfl fun a1 w2 b3 p4 sp4 m5 g6 e7 => ?_)
  have f9 := c0.nw e7
  have cx8 := c0.al g6 m5
  refine lS (oAlloc zv25 p4.z rfl fun a10 w11 b12 p13 sp13 m14 g15 e16 => ?_)
  have f18 := cx8.nw e16
  have cx17 := cx8.al g15 m14
  refine rN (thenN ?_)
  refine wp_seq ?_
  refine reg ?_
  have s19 := p13.o sp4 rfl
  refine s1 p13.z (okFA (o' := 3) fo25_3 s19 rfl) rfl fun a20 p21 s22 => ?_
  have m23 := m5.g0 g15
  refine s1 p21.z (okLd (j := 3) na3 s22 (m23.cl) rfl rfl) rfl fun a24 p25 s26 => ?_
  refine s1 p25.z (okSub s26 cst) rfl fun a27 p28 s29 => ?_
  have s30 := p28.o (p25.o (p21.o s19 rfl) rfl) rfl
  refine s1 p28.z (okFA (o' := 3) fo25_3 s30 rfl) rfl fun a31 p32 s33 => ?_
  have s34 := p32.o s29 rfl
  refine lS (oSto (cs := [.int .i64 (w64 (x0.holds - 1))]) (l' := TThing.C ({ x0 with holds := w64 (x0.holds - 1) }) h0_0) p32.z s33 s34 m23 Try.sizeOf3 rfl one1 rfl rfl fun w35 m36 g37 => ?_)
  have cx38 := cx17.st g37 f9
  refine rN (thenN ?_)
  refine wp_seq ?_
  refine wp_seq ?_
  refine reg ?_
  have s39 := p32.o s30 rfl
  refine s1 p32.z (okFA (o' := 3) fo25_3 s39 rfl) rfl fun a40 p41 s42 => ?_
  refine s1 p41.z (okLd (j := 3) na3 s42 (m36.cl) rfl rfl) rfl fun a43 p44 s45 => ?_
  refine s1 p44.z (okEq s45 cst) rfl fun a46 p47 s48 => ?_
  refine rN (thenN ?_)
  have s49 := p47.o (p44.o (p41.o s39 rfl) rfl) rfl
  have s50 := p47.o (p44.o (p41.o (p32.o (p28.o (p25.o (p21.o sp13 rfl) rfl) rfl) rfl) rfl) rfl) rfl
  have pg51 : Pg _ [1, 2, 3, 4, 5, 6, 7, 8, 9] _ _ := ((((((((((Pg.refl z0).st p4 rfl).st p13 rfl).st p21 rfl).st p25 rfl).st p28 rfl).st p32 rfl).st p41 rfl).st p44 rfl).st p47 rfl)
  refine cnd s48 (fun hb52 => ?_) (fun hb52 => ?_)
  · replace h := (ifP hb52).symm.trans h
    refine reg ?_
    refine s1 pg51.z (okFA (o' := 2) fo25_2 s49 rfl) rfl fun a53 p54 s55 => ?_
    refine lS (oSto (cs := [.int .i64 (-1)]) (l' := TThing.C ({ x0 with owner := (-1), holds := w64 (x0.holds - 1) }) h0_0) p54.z s55 cst m36 Try.sizeOf3 rfl one1 rfl rfl fun w56 m57 g58 => ?_)
    have cx59 := cx38.st g58 f9
    refine rN (thenN ?_)
    refine wp_seq ?_
    refine reg ?_
    have s60 := p54.o s49 rfl
    refine s1 p54.z (okLdA ag25 s60 (m57.cl) rfl rfl whole) rfl fun a61 p62 s63 => ?_
    have s64 := p62.o (p54.o s50 rfl) rfl
    have m65 := (m14.g1 g37 (m5.ne e16).symm).g1 g58 (m5.ne e16).symm
    have q66 := qh0_0.mono ((((g6.tA (Nat.le_of_eq e7.symm)).trans (g15.tA (Nat.le_of_eq e16.symm))).trans (g37.t1 (.tail _ (.head _)))).trans (g58.t1 (.tail _ (.head _))))
    refine lS (oStoW (cs := TThing.C ({ x0 with owner := (-1), holds := w64 (x0.holds - 1) }) h0_0) p62.z s64 s63 m65 Try.sizeOf25 rfl (TThing.C_one _ q66.one) rfl fun w67 m68 g69 => ?_)
    have cx70 := cx59.st g69 f18
    refine rN (thenN ?_)
    obtain rfl := Option.some.inj h
    have q71 := q66.mono (g69.t1 (.head _))
    exact wp_ret (ret1 p62.z Try.results27 (rvA ag25 s64 m68 rfl) ⟨_, rfl, h0_0, rfl, (q71.mono ((Tr.refl _ _).sub (fun i h => (.tail _ (.tail _ h))))), cx70.g⟩)
  replace h := (ifN hb52).symm.trans h
  refine wp_skip (thenN ?_)
  refine wp_seq ?_
  refine reg ?_
  refine s1 pg51.z (okLdA ag25 s49 (m36.cl) rfl rfl whole) rfl fun a72 p73 s74 => ?_
  have s75 := p73.o s50 rfl
  have m76 := m14.g1 g37 (m5.ne e16).symm
  have q77 := qh0_0.mono (((g6.tA (Nat.le_of_eq e7.symm)).trans (g15.tA (Nat.le_of_eq e16.symm))).trans (g37.t1 (.tail _ (.head _))))
  refine lS (oStoW (cs := TThing.C ({ x0 with holds := w64 (x0.holds - 1) }) h0_0) p73.z s75 s74 m76 Try.sizeOf25 rfl (TThing.C_one _ q77.one) rfl fun w78 m79 g80 => ?_)
  have cx81 := cx38.st g80 f18
  refine rN (thenN ?_)
  obtain rfl := Option.some.inj h
  have q82 := q77.mono (g80.t1 (.head _))
  exact wp_ret (ret1 p73.z Try.results27 (rvA ag25 s75 m79 rfl) ⟨_, rfl, h0_0, rfl, (q82.mono ((Tr.refl _ _).sub (fun i h => (.tail _ (.tail _ h))))), cx81.g⟩)

set_option maxHeartbeats 4000000 in
theorem c28 (k : Nat) (L : List Nat) (w : World) (hL : ∀ b ∈ L, b < w.heap.size) (x0 : List TWaiter) (h0 : Value) (qh0 : RdS KTWaiter L w h0 x0) (x1 : Int) (r : (List TWaiter)) (h : tholeref10_without k x0 x1 = some r) : Calls Try.prog 28 #[h0, .int .i64 x1] w (fun e w' => ∃ v, e = .returned v ∧ RdS KTWaiter L w' v r ∧ G [] w w') := by
  refine enterF Try.func28 rfl rfl fun a0 z0 A => ?_
  have s0_0 := A 0 (h0) rfl
  have s0_1 := A 1 (.int .i64 x1) rfl
  clear A
  have c0 : Cx [] w L w := ⟨G.refl _ _, hL⟩
  unfold tholeref10_without at h
  refine wp_seq ?_
  refine reg ?_
  refine s1 z0 (okAs cst) rfl fun a1 p2 s3 => ?_
  refine rN (thenN ?_)
  refine wp_seq ?_
  refine reg ?_
  refine s1 p2.z (okAs cst) rfl fun a4 p5 s6 => ?_
  refine rN (thenN ?_)
  refine wp_seq ?_
  refine wp_seq ?_
  refine reg ?_
  refine s1 p5.z (okAs cst) rfl fun a7 p8 s9 => ?_
  refine rN (thenN ?_)
  refine wp_block ?_
  obtain ⟨o12, ho13, h⟩ := Option.bind_eq_some_iff.1 h
  have s16 := p8.o (p5.o (p2.o s0_0 rfl) rfl) rfl
  have s17 := p8.o (p5.o (p2.o s0_1 rfl) rfl) rfl
  have s18 := p8.o (p5.o s3 rfl) rfl
  have s19 := p8.o s6 rfl
  refine loopX (I := (fun k' a' w' => ∃ i10 i11 h14, Z Try.f28.ntmps a' ∧ a'.eval (.tmp 0) = h0 ∧ a'.eval (.tmp 1) = .int .i64 x1 ∧ a'.eval (.tmp 4) = .slice none 0 0 ∧ a'.eval (.tmp 5) = h14 ∧ a'.eval (.tmp 6) = .int .i64 i11 ∧ RdS KTWaiter (ownB h14 ++ L) w' h0 x0 ∧ OwnS KTWaiter 45 (ownB h14 ++ L) w' h14 i10 ∧ Cx [] w (ownB h14 ++ L) w' ∧ (∀ x ∈ ownB h14, x ∉ L) ∧ (∀ x ∈ ownB h14, x ∈ [] ∨ w.heap.size ≤ x) ∧ tholeref10_without.l0 x0 x1 k' i10 i11 = some o12)) 0 (fun a' w' => ∃ h15, Z Try.f28.ntmps a' ∧ a'.eval (.tmp 4) = .slice none 0 0 ∧ a'.eval (.tmp 5) = h15 ∧ OwnS KTWaiter 45 (ownB h15 ++ L) w' h15 o12 ∧ Cx [] w (ownB h15 ++ L) w' ∧ (∀ x ∈ ownB h15, x ∉ L) ∧ (∀ x ∈ ownB h15, x ∈ [] ∨ w.heap.size ≤ x)) ⟨[], 0, (.slice none 0 0), p8.z, s16, s17, s18, s19, s9, (qh0.mono ((Tr.refl _ _).sub (fun i h => (List.mem_append.1 h).elim (fun h => nilO h) (fun h => h)))), OwnS.nil, (c0.sub (fun i h => (List.mem_append.1 h).elim (fun h => nilO h) (fun h => h))), (fun _ h => nilO h), (fun _ h => nilO h), ho13⟩ ?_ ?_
  · have oh32 := h; clear h ho13
    rintro k20 a21 w22 ⟨i10, i11, h14, z23, s24, s25, s26, s27, s28, q29, q30, cx31, n33, n34, h⟩
    obtain _ | k := k20
    case zero => cases h
    rw [tholeref10_without.l0] at h
    refine wp_seq ?_
    refine wp_seq ?_
    refine reg ?_
    refine s1 z23 (okMv s28) rfl fun a35 p36 s37 => ?_
    have s38 := p36.o s24 rfl
    refine s1 p36.z (okMv s38) rfl fun a39 p40 s41 => ?_
    refine s1 p40.z (okLenR Try.underlying23 s41 q29) rfl fun a42 p43 s44 => ?_
    have s45 := p43.o (p40.o s37 rfl) rfl
    refine s1 p43.z (okLt s45 s44) rfl fun a46 p47 s48 => ?_
    refine rN (thenN ?_)
    have s49 := p47.o (p43.o (p40.o s38 rfl) rfl) rfl
    have s50 := p47.o s45 rfl
    have s51 := p47.o (p43.o s41 rfl) rfl
    have s52 := p47.o s44 rfl
    have pg53 : Pg _ [7, 8, 9, 10] _ _ := (((((Pg.refl z23).st p36 rfl).st p40 rfl).st p43 rfl).st p47 rfl)
    refine cnd s48 (fun hb54 => ?_) (fun hb54 => ?_)
    · replace h := (ifP hb54).symm.trans h
      refine wp_skip (thenN ?_)
      refine wp_seq ?_
      refine wp_block ?_
      refine wp_seq ?_
      refine reg ?_
      have s55 := pg53.o s28 rfl
      refine s1 pg53.z (okMv s55) rfl fun a56 p57 s58 => ?_
      have s59 := p57.o (pg53.o s25 rfl) rfl
      refine s1 p57.z (okMv s59) rfl fun a60 p61 s62 => ?_
      have s63 := p61.o s58 rfl
      refine s1 p61.z (okNe s63 s62) rfl fun a64 p65 s66 => ?_
      refine rN (thenN ?_)
      have s67 := p65.o (p61.o s59 rfl) rfl
      have s68 := p65.o s63 rfl
      have s69 := p65.o s62 rfl
      have pg70 : Pg _ [13, 14, 15] _ _ := ((((Pg.refl pg53.z).st p57 rfl).st p61 rfl).st p65 rfl)
      refine cnd s66 (fun hb71 => ?_) (fun hb71 => ?_)
      · replace h := (ifP hb71).symm.trans h
        refine reg ?_
        have s72 := pg70.o (pg53.o s27 rfl) rfl
        refine s1 pg70.z (okMv s72) rfl fun a73 p74 s75 => ?_
        have s76 := p74.o (pg70.o s49 rfl) rfl
        refine s1 p74.z (okMv s76) rfl fun a77 p78 s79 => ?_
        have s80 := p78.o (p74.o (pg70.o s55 rfl) rfl) rfl
        refine s1 p78.z (okMv s80) rfl fun a81 p82 s83 => ?_
        have s84 := p82.o s79 rfl
        obtain ⟨y85, hy86, h⟩ := Option.bind_eq_some_iff.1 h
        obtain ⟨b87, o88, cs89, r91, e92, nb93, k90⟩ := q29.at_ hy86
        obtain rfl := r91
        refine s1 p82.z (k90 Try.underlying23 Try.sizeOf45 s84 s83 _) rfl fun a94 p95 s96 => ?_
        refine s1 p95.z (okLdA ag45 s96 e92 rfl rfl whole) rfl fun a97 p98 s99 => ?_
        refine lS (oBS (K := KTWaiter) (L := (ownB h14 ++ L)) (xs := [y85]) (C := [TWaiter.C y85]) p98.z (pb1 s99) (bs23_1_0 y85) rfl rfl (all2C rfl all2N) rfl rfl fun a100 v101 w102 p103 sp103 q104 g105 f106 => ?_)
        have f107 := frN f106
        have nb108 := nbA hL cx31.g.sz (fun _ h => nilO h) f107
        have sf109 := sfA (S := []) cx31.g.sz (fun _ h => nilO h) f107
        have n110 := q30.dj (fun _ _ h => nilO h) f107
        have cx111 := cx31.ap g105 (fun _ h => nilO h) q104
        have s112 := p103.o (p98.o (p95.o (p82.o (p78.o s75 rfl) rfl) rfl) rfl) rfl
        obtain ⟨z113, hz114, h⟩ := Option.bind_eq_some_iff.1 h
        have q115 := q30.t0 (tAp g105 (fun _ h => nilO h) f107) g105
        refine lS (oApp (K := KTWaiter) (L := (ownB v101 ++ (ownB h14 ++ L))) Try.underlying23 ti45 rfl p103.z s112 sp103 q115 q104.src hz114 (fun _ h => (List.mem_append_right _ (List.mem_append_left _ h))) rfl fun a116 v117 w118 p119 sp119 q120 g121 f122 => ?_)
        have nb123 := nbA hL cx111.g.sz n33 f122
        have sf124 := sfA (S := []) cx111.g.sz n34 f122
        have n125 := q104.dj (djs n110) f122
        have cx126 := cx111.ap g121 n34 q120
        refine s1 p119.z (okAs sp119) rfl fun a127 p128 s129 => ?_
        refine rN (blkN (thenN ?_))
        refine reg ?_
        have s130 := p128.o (p119.o (p103.o (p98.o (p95.o (p82.o s80 rfl) rfl) rfl) rfl) rfl) rfl
        refine s1 p128.z (okMv s130) rfl fun a131 p132 s133 => ?_
        refine s1 p132.z (okAdd s133 cst) rfl fun a134 p135 s136 => ?_
        refine s1 p135.z (okAs s136) rfl fun a137 p138 s139 => ?_
        have s140 := p138.o (p135.o (p132.o (p128.o (p119.o (p103.o (p98.o (p95.o (p82.o (p78.o s76 rfl) rfl) rfl) rfl) rfl) rfl) rfl) rfl) rfl) rfl
        have s141 := p138.o (p135.o (p132.o (p128.o (p119.o (p103.o (p98.o (p95.o (p82.o (p78.o (p74.o s67 rfl) rfl) rfl) rfl) rfl) rfl) rfl) rfl) rfl) rfl) rfl
        have s142 := p138.o (p135.o (p132.o (p128.o (p119.o (p103.o (p98.o (p95.o (p82.o (p78.o (p74.o (pg70.o (pg53.o s26 rfl) rfl) rfl) rfl) rfl) rfl) rfl) rfl) rfl) rfl) rfl) rfl) rfl
        have s143 := p138.o (p135.o (p132.o s129 rfl) rfl) rfl
        have q144 := q29.mono ((tAp g105 (fun _ h => nilO h) f107).trans (tAp g121 (fun _ h => (List.mem_append_right _ (List.mem_append_left _ h))) f122))
        exact rN (thenN ⟨k, Nat.lt_succ_self k, z113, (w64 (i11 + 1)), v117, p138.z, s140, s141, s142, s143, s139, (q144.mono ((Tr.refl _ _).sub (fun i h => (List.mem_append.1 h).elim (fun h => (List.mem_append_left _ h)) (fun h => (List.mem_append_right _ (List.mem_append_right _ (List.mem_append_right _ h))))))), (q120.sub (fun i h => (List.mem_append.1 h).elim (fun h => (List.mem_append_left _ h)) (fun h => (List.mem_append_right _ (List.mem_append_right _ (List.mem_append_right _ h)))))), (cx126.sub (fun i h => (List.mem_append.1 h).elim (fun h => (List.mem_append_left _ h)) (fun h => (List.mem_append_right _ (List.mem_append_right _ (List.mem_append_right _ h)))))), nb123, sf124, h⟩)
      replace h := (ifN hb71).symm.trans h
      refine wp_skip (blkN (thenN ?_))
      refine reg ?_
      have s145 := pg70.o s55 rfl
      refine s1 pg70.z (okMv s145) rfl fun a146 p147 s148 => ?_
      refine s1 p147.z (okAdd s148 cst) rfl fun a149 p150 s151 => ?_
      refine s1 p150.z (okAs s151) rfl fun a152 p153 s154 => ?_
      have s155 := p153.o (p150.o (p147.o (pg70.o s49 rfl) rfl) rfl) rfl
      have s156 := p153.o (p150.o (p147.o s67 rfl) rfl) rfl
      have s157 := p153.o (p150.o (p147.o (pg70.o (pg53.o s26 rfl) rfl) rfl) rfl) rfl
      have s158 := p153.o (p150.o (p147.o (pg70.o (pg53.o s27 rfl) rfl) rfl) rfl) rfl
      exact rN (thenN ⟨k, Nat.lt_succ_self k, i10, (w64 (i11 + 1)), h14, p153.z, s155, s156, s157, s158, s154, q29, q30, cx31, n33, n34, h⟩)
    replace h := (ifN hb54).symm.trans h
    obtain rfl := Option.some.inj h
    have s159 := pg53.o s26 rfl
    have s160 := pg53.o s27 rfl
    exact wp_exit (thenE (thenE (jqE ⟨h14, pg53.z, s159, s160, q30, cx31, n33, n34⟩)))
  clear ho13
  rintro a161 w162 ⟨h15, z163, s164, s165, q166, cx167, n168, n169⟩
  refine blkE (thenN ?_)
  refine wp_seq ?_
  refine reg ?_
  refine s1 z163 (okMv s165) rfl fun a170 p171 s172 => ?_
  refine s1 p171.z (okAs s172) rfl fun a173 p174 s175 => ?_
  refine rN (thenN ?_)
  obtain rfl := Option.some.inj h
  exact wp_ret (ret1 p174.z Try.results28 (rvT s175) ⟨_, rfl, (q166.rd (fun i h => (List.mem_append_right _ h)) n168), cx167.g⟩)

set_option maxHeartbeats 4000000 in
theorem c17 (k : Nat) (L : List Nat) (w : World) (hL : ∀ b ∈ L, b < w.heap.size) (x0 : TThing) (h0_0 : Value) (qh0_0 : RdS KTWaiter L w h0_0 x0.waiters) (x1 : Int) (x2 : Int) (x3 : Int) (r : TThing × Bool) (h : tholeref10_lock k x0 x1 x2 x3 = some r) : Calls Try.prog 17 #[.agg (TThing.C x0 h0_0).toArray, .int .i64 x1, .int .i64 x2, .int .i64 x3] w (fun e w' => ∃ v, e = .returned v ∧ ∃ u_0, v = .tuple #[.agg (TThing.C r.1 u_0).toArray, .bool r.2] ∧ RdS KTWaiter L w' u_0 r.1.waiters ∧ G [] w w') := by
  refine enterF Try.func17 rfl rfl fun a0 z0 A => ?_
  have s0_0 := A 0 (.agg (TThing.C x0 h0_0).toArray) rfl
  have s0_1 := A 1 (.int .i64 x1) rfl
  have s0_2 := A 2 (.int .i64 x2) rfl
  have s0_3 := A 3 (.int .i64 x3) rfl
  clear A
  have c0 : Cx [] w L w := ⟨G.refl _ _, hL⟩
  unfold tholeref10_lock at h
  refine wp_seq ?_
  refine reg ?_
  refine lS (oBox (l := TThing.C x0 h0_0) z0 s0_0 rfl rfl fun a1 w2 b3 p4 sp4 m5 g6 e7 => ?_)
  have f9 := c0.nw e7
  have cx8 := c0.al g6 m5
  refine lS (oAlloc zv25 p4.z rfl fun a10 w11 b12 p13 sp13 m14 g15 e16 => ?_)
  have f18 := cx8.nw e16
  have cx17 := cx8.al g15 m14
  refine s1 p13.z (okAs cst) rfl fun a19 p20 s21 => ?_
  refine rN (thenN ?_)
  refine wp_seq ?_
  refine reg ?_
  have s22 := p20.o (p13.o sp4 rfl) rfl
  refine s1 p20.z (okFA (o' := 2) fo25_2 s22 rfl) rfl fun a23 p24 s25 => ?_
  have m26 := m5.g0 g15
  refine s1 p24.z (okLd (j := 2) na3 s25 (m26.cl) rfl rfl) rfl fun a27 p28 s29 => ?_
  have s30 := p28.o (p24.o (p20.o (p13.o (p4.o s0_1 rfl) rfl) rfl) rfl) rfl
  refine s1 p28.z (okMv s30) rfl fun a31 p32 s33 => ?_
  have s34 := p32.o s29 rfl
  refine s1 p32.z (okEq s34 s33) rfl fun a35 p36 s37 => ?_
  refine s1 p36.z (okAs s37) rfl fun a38 p39 s40 => ?_
  refine rN (thenN ?_)
  refine wp_seq ?_
  refine wp_seq ?_
  refine reg ?_
  have s41 := p39.o (p36.o (p32.o (p28.o (p24.o (p20.o (p13.o (p4.o s0_2 rfl) rfl) rfl) rfl) rfl) rfl) rfl) rfl
  refine s1 p39.z (okMv s41) rfl fun a42 p43 s44 => ?_
  refine rN (thenN ?_)
  refine wp_block ?_
  refine wp_seq ?_
  refine reg ?_
  refine s1 p43.z (okEq s44 cst) rfl fun a45 p46 s47 => ?_
  refine s1 p46.z (okAs s47) rfl fun a48 p49 s50 => ?_
  refine rN (thenN ?_)
  have s51 := p49.o (p46.o (p43.o (p39.o (p36.o (p32.o s30 rfl) rfl) rfl) rfl) rfl) rfl
  have s52 := p49.o (p46.o (p43.o (p39.o (p36.o (p32.o (p28.o (p24.o s22 rfl) rfl) rfl) rfl) rfl) rfl) rfl) rfl
  have s53 := p49.o (p46.o (p43.o (p39.o (p36.o (p32.o (p28.o (p24.o (p20.o sp13 rfl) rfl) rfl) rfl) rfl) rfl) rfl) rfl) rfl
  have s54 := p49.o (p46.o (p43.o (p39.o (p36.o (p32.o (p28.o (p24.o s21 rfl) rfl) rfl) rfl) rfl) rfl) rfl) rfl
  have s55 := p49.o (p46.o (p43.o s40 rfl) rfl) rfl
  have s56 := p49.o (p46.o s44 rfl) rfl
  have pg57 : Pg _ [4, 8, 9, 10, 12, 13, 14, 15, 16, 17, 18] _ _ := ((((((((((((Pg.refl z0).st p4 rfl).st p13 rfl).st p20 rfl).st p24 rfl).st p28 rfl).st p32 rfl).st p36 rfl).st p39 rfl).st p43 rfl).st p46 rfl).st p49 rfl)
  refine cnd s50 (fun hb58 => ?_) (fun hb58 => ?_)
  · replace h := (ifP hb58).symm.trans h
    refine wp_seq ?_
    refine wp_seq ?_
    refine reg ?_
    refine s1 pg57.z (okFA (o' := 2) fo25_2 s52 rfl) rfl fun a59 p60 s61 => ?_
    refine s1 p60.z (okLd (j := 2) na3 s61 (m26.cl) rfl rfl) rfl fun a62 p63 s64 => ?_
    refine s1 p63.z (okEq s64 cst) rfl fun a65 p66 s67 => ?_
    refine s1 p66.z (okMv s67) rfl fun a68 p69 s70 => ?_
    refine cutP 3 (fun a' => Pg Try.f17.ntmps [23, 24, 25] a68 a' ∧ a'.eval (.tmp 25) = .bool ((x0.owner == (-1)) && (decide (1 ≤ x3)))) ?_ ?_
    · rcases bf (x0.owner == (-1)) with hb71 | hb71
      · have s72 := bv s70 hb71
        refine s1k p69.z rfl (yd p69.z rfl rfl s72) rfl fun a73 p74 s75 => ?_
        have s76 := p74.o s72 rfl
        refine s1k p74.z rfl (yd p74.z rfl rfl s76) rfl fun a77 p78 s79 => ?_
        have s80 := p78.o s76 rfl
        refine s1 p78.z (okPickF s80 cst) rfl fun a81 p82 s83 => ?_
        exact rN ⟨rfl, rfl, ((((Pg.refl p69.z).st p74 rfl).st p78 rfl).st p82 rfl), (andF hb71 s83)⟩
      · have s84 := bv s70 hb71
        have s85 := p69.o (p66.o (p63.o (p60.o (pg57.o s0_3 rfl) rfl) rfl) rfl) rfl
        refine s1g p69.z (okMv s85) rfl (yd p69.z rfl rfl s84) fun a86 p87 s88 => ?_
        have s89 := p87.o s84 rfl
        refine s1g p87.z (okGe s88 cst) rfl (yd p87.z rfl rfl s89) fun a90 p91 s92 => ?_
        have s93 := p91.o s89 rfl
        refine s1 p91.z (okPickT s93 s92) rfl fun a94 p95 s96 => ?_
        exact rN ⟨rfl, rfl, ((((Pg.refl p69.z).st p87 rfl).st p91 rfl).st p95 rfl), (andT hb71 s96)⟩
    rintro a97 ⟨pg98, s99⟩
    refine s1 pg98.z (okMv s99) rfl fun a100 p101 s102 => ?_
    refine cutP 3 (fun a' => Pg Try.f17.ntmps [27, 28, 29] a100 a' ∧ a'.eval (.tmp 29) = .bool (((x0.owner == (-1)) && (decide (1 ≤ x3))) && (decide (x3 ≤ 1000)))) ?_ ?_
    · rcases bf ((x0.owner == (-1)) && (decide (1 ≤ x3))) with hb103 | hb103
      · have s104 := bv s102 hb103
        refine s1k p101.z rfl (yd p101.z rfl rfl s104) rfl fun a105 p106 s107 => ?_
        have s108 := p106.o s104 rfl
        refine s1k p106.z rfl (yd p106.z rfl rfl s108) rfl fun a109 p110 s111 => ?_
        have s112 := p110.o s108 rfl
        refine s1 p110.z (okPickF s112 cst) rfl fun a113 p114 s115 => ?_
        exact rN ⟨rfl, rfl, ((((Pg.refl p101.z).st p106 rfl).st p110 rfl).st p114 rfl), (andF hb103 s115)⟩
      · have s116 := bv s102 hb103
        have s117 := p101.o (pg98.o (p69.o (p66.o (p63.o (p60.o (pg57.o s0_3 rfl) rfl) rfl) rfl) rfl) rfl) rfl
        refine s1g p101.z (okMv s117) rfl (yd p101.z rfl rfl s116) fun a118 p119 s120 => ?_
        have s121 := p119.o s116 rfl
        refine s1g p119.z (okLe s120 cst) rfl (yd p119.z rfl rfl s121) fun a122 p123 s124 => ?_
        have s125 := p123.o s121 rfl
        refine s1 p123.z (okPickT s125 s124) rfl fun a126 p127 s128 => ?_
        exact rN ⟨rfl, rfl, ((((Pg.refl p101.z).st p119 rfl).st p123 rfl).st p127 rfl), (andT hb103 s128)⟩
    rintro a129 ⟨pg130, s131⟩
    refine s1 pg130.z (okMv s131) rfl fun a132 p133 s134 => ?_
    obtain ⟨b135, hb136, h⟩ := Option.bind_eq_some_iff.1 h
    refine cutL 5 (fun a' w' => Pg Try.f17.ntmps [31, 32, 33, 34, 35] a132 a' ∧ a'.eval (.tmp 35) = .bool b135 ∧ G [] w11 w') ?_ ?_
    · rcases bf (((x0.owner == (-1)) && (decide (1 ≤ x3))) && (decide (x3 ≤ 1000))) with hb137 | hb137
      · have s138 := bv s134 hb137
        replace hb136 := (ifN hb137).symm.trans hb136
        clear h; have h := hb136; clear hb136
        refine s1k p133.z rfl (yd p133.z rfl rfl s138) rfl fun a139 p140 s141 => ?_
        have s142 := p140.o s138 rfl
        refine s1k p140.z rfl (yd p140.z rfl rfl s142) rfl fun a143 p144 s145 => ?_
        have s146 := p144.o s142 rfl
        refine s1k p144.z rfl (yd p144.z rfl rfl s146) rfl fun a147 p148 s149 => ?_
        have s150 := p148.o s146 rfl
        refine s1k p148.z rfl (yd p148.z rfl rfl s150) rfl fun a151 p152 s153 => ?_
        have s154 := p152.o s150 rfl
        refine s1 p152.z (okPickF s154 cst) rfl fun a155 p156 s157 => ?_
        obtain rfl := Option.some.inj h
        exact rN ⟨rfl, ((((((Pg.refl p133.z).st p140 rfl).st p144 rfl).st p148 rfl).st p152 rfl).st p156 rfl), s157, (G.refl _ _)⟩
      · have s158 := bv s134 hb137
        replace hb136 := (ifP hb137).symm.trans hb136
        clear h; have h := hb136; clear hb136
        have s159 := p133.o (pg130.o (p101.o (pg98.o (p69.o (p66.o (p63.o (p60.o s52 rfl) rfl) rfl) rfl) rfl) rfl) rfl) rfl
        refine s1g p133.z (okLdA ag25 s159 (m26.cl) rfl rfl whole) rfl (yd p133.z rfl rfl s158) fun a160 p161 s162 => ?_
        have s163 := p161.o s158 rfl
        have s164 := p161.o (p133.o (pg130.o (p101.o (pg98.o (p69.o (p66.o (p63.o (p60.o s51 rfl) rfl) rfl) rfl) rfl) rfl) rfl) rfl) rfl
        refine s1g p161.z (okMv s164) rfl (yd p161.z rfl rfl s163) fun a165 p166 s167 => ?_
        have s168 := p166.o s163 rfl
        have s169 := p166.o s162 rfl
        have q170 := qh0_0.mono ((g6.tA (Nat.le_of_eq e7.symm)).trans (g15.tA (Nat.le_of_eq e16.symm)))
        obtain ⟨t171, ht172, h⟩ := Option.bind_eq_some_iff.1 h
        refine lG rfl (yd p166.z rfl rfl s168) (oCall p166.z Try.call26 (ag2 s169 s167) (c26 k (b12 :: b3 :: L) w11 cx17.lt _ _ q170 _ _ ht172) rfl fun v176 a173 w174 hp177 p175 sp175 => ?_)
        obtain ⟨rfl, g178⟩ := hp177
        have cx179 := cx17.ca g178
        have s180 := p175.o s168 rfl
        refine s1g p175.z (okLt sp175 cst) rfl (yd p175.z rfl rfl s180) fun a181 p182 s183 => ?_
        have s184 := p182.o s180 rfl
        refine s1 p182.z (okPickT s184 s183) rfl fun a185 p186 s187 => ?_
        obtain rfl := Option.some.inj h
        exact rN ⟨rfl, ((((((Pg.refl p133.z).st p161 rfl).st p166 rfl).st p175 rfl).st p182 rfl).st p186 rfl), s187, g178⟩
    rintro a188 w191 ⟨pg189, s190, g192⟩
    have cx193 := cx17.ca g192
    refine rN (thenN ?_)
    have pg194 : Pg _ [19, 20, 21, 22, 23, 24, 25, 26, 27, 28, 29, 30, 31, 32, 33, 34, 35] _ _ := ((((((((((Pg.refl pg57.z).st p60 rfl).st p63 rfl).st p66 rfl).st p69 rfl).tr pg98 rfl).st p101 rfl).tr pg130 rfl).st p133 rfl).tr pg189 rfl)
    refine cnd s190 (fun hb195 => ?_) (fun hb195 => ?_)
    · replace h := (ifP hb195).symm.trans h
      refine wp_seq ?_
      refine reg ?_
      have s196 := pg194.o s51 rfl
      refine s1 pg194.z (okMv s196) rfl fun a197 p198 s199 => ?_
      have s200 := p198.o (pg194.o s52 rfl) rfl
      refine s1 p198.z (okFA (o' := 2) fo25_2 s200 rfl) rfl fun a201 p202 s203 => ?_
      have s204 := p202.o s199 rfl
      have m205 := m26.g0 g192
      refine lS (oSto (cs := [.int .i64 x1]) (l' := TThing.C ({ x0 with owner := x1 }) h0_0) p202.z s203 s204 m205 Try.sizeOf3 rfl one1 rfl rfl fun w206 m207 g208 => ?_)
      have cx209 := cx193.st g208 f9
      refine rN (thenN ?_)
      refine wp_seq ?_
      refine reg ?_
      have s210 := p202.o (p198.o (pg194.o (pg57.o s0_3 rfl) rfl) rfl) rfl
      refine s1 p202.z (okMv s210) rfl fun a211 p212 s213 => ?_
      have s214 := p212.o (p202.o s200 rfl) rfl
      refine s1 p212.z (okFA (o' := 3) fo25_3 s214 rfl) rfl fun a215 p216 s217 => ?_
      have s218 := p216.o s213 rfl
      refine lS (oSto (cs := [.int .i64 x3]) (l' := TThing.C ({ x0 with owner := x1, holds := x3 }) h0_0) p216.z s217 s218 m207 Try.sizeOf3 rfl one1 rfl rfl fun w219 m220 g221 => ?_)
      have cx222 := cx209.st g221 f9
      refine rN (thenN ?_)
      refine wp_seq ?_
      refine reg ?_
      have s223 := p216.o s214 rfl
      refine s1 p216.z (okLdA ag25 s223 (m220.cl) rfl rfl whole) rfl fun a224 p225 s226 => ?_
      have s227 := p225.o (p216.o (p212.o (p202.o (p198.o (pg194.o s53 rfl) rfl) rfl) rfl) rfl) rfl
      have m228 := ((m14.g0 g192).g1 g208 (m5.ne e16).symm).g1 g221 (m5.ne e16).symm
      have q229 := qh0_0.mono (((((g6.tA (Nat.le_of_eq e7.symm)).trans (g15.tA (Nat.le_of_eq e16.symm))).trans g192.t0).trans (g208.t1 (.tail _ (.head _)))).trans (g221.t1 (.tail _ (.head _))))
      refine lS (oStoW (cs := TThing.C ({ x0 with owner := x1, holds := x3 }) h0_0) p225.z s227 s226 m228 Try.sizeOf25 rfl (TThing.C_one _ q229.one) rfl fun w230 m231 g232 => ?_)
      have cx233 := cx222.st g232 f18
      refine s1 p225.z (okAs cst) rfl fun a234 p235 s236 => ?_
      refine rN (thenN ?_)
      have s237 := p235.o s227 rfl
      obtain rfl := Option.some.inj h
      have q238 := q229.mono (g232.t1 (.head _))
      exact wp_ret (thenR (blkR (thenR (ret2 p235.z Try.results17 (rvA ag25 s237 m231 rfl) (rvT s236) ⟨_, rfl, h0_0, rfl, (q238.mono ((Tr.refl _ _).sub (fun i h => (.tail _ (.tail _ h))))), cx233.g⟩))))
    replace h := (ifN hb195).symm.trans h
    refine wp_skip (thenN ?_)
    refine wp_seq ?_
    refine reg ?_
    have s239 := pg194.o s55 rfl
    refine s1 pg194.z (okMv s239) rfl fun a240 p241 s242 => ?_
    refine s1 p241.z (okMv s242) rfl fun a243 p244 s245 => ?_
    refine cutP 3 (fun a' => Pg Try.f17.ntmps [43, 44, 45] a243 a' ∧ a'.eval (.tmp 45) = .bool ((x0.owner == x1) && (x3 == 1))) ?_ ?_
    · rcases bf (x0.owner == x1) with hb246 | hb246
      · have s247 := bv s245 hb246
        refine s1k p244.z rfl (yd p244.z rfl rfl s247) rfl fun a248 p249 s250 => ?_
        have s251 := p249.o s247 rfl
        refine s1k p249.z rfl (yd p249.z rfl rfl s251) rfl fun a252 p253 s254 => ?_
        have s255 := p253.o s251 rfl
        refine s1 p253.z (okPickF s255 cst) rfl fun a256 p257 s258 => ?_
        exact rN ⟨rfl, rfl, ((((Pg.refl p244.z).st p249 rfl).st p253 rfl).st p257 rfl), (andF hb246 s258)⟩
      · have s259 := bv s245 hb246
        have s260 := p244.o (p241.o (pg194.o (pg57.o s0_3 rfl) rfl) rfl) rfl
        refine s1g p244.z (okMv s260) rfl (yd p244.z rfl rfl s259) fun a261 p262 s263 => ?_
        have s264 := p262.o s259 rfl
        refine s1g p262.z (okEq s263 cst) rfl (yd p262.z rfl rfl s264) fun a265 p266 s267 => ?_
        have s268 := p266.o s264 rfl
        refine s1 p266.z (okPickT s268 s267) rfl fun a269 p270 s271 => ?_
        exact rN ⟨rfl, rfl, ((((Pg.refl p244.z).st p262 rfl).st p266 rfl).st p270 rfl), (andT hb246 s271)⟩
    rintro a272 ⟨pg273, s274⟩
    refine s1 pg273.z (okMv s274) rfl fun a275 p276 s277 => ?_
    refine cutP 4 (fun a' => Pg Try.f17.ntmps [47, 48, 49, 50] a275 a' ∧ a'.eval (.tmp 50) = .bool (((x0.owner == x1) && (x3 == 1)) && (decide (x0.holds < 1000)))) ?_ ?_
    · rcases bf ((x0.owner == x1) && (x3 == 1)) with hb278 | hb278
      · have s279 := bv s277 hb278
        refine s1k p276.z rfl (yd p276.z rfl rfl s279) rfl fun a280 p281 s282 => ?_
        have s283 := p281.o s279 rfl
        refine s1k p281.z rfl (yd p281.z rfl rfl s283) rfl fun a284 p285 s286 => ?_
        have s287 := p285.o s283 rfl
        refine s1k p285.z rfl (yd p285.z rfl rfl s287) rfl fun a288 p289 s290 => ?_
        have s291 := p289.o s287 rfl
        refine s1 p289.z (okPickF s291 cst) rfl fun a292 p293 s294 => ?_
        exact rN ⟨rfl, rfl, (((((Pg.refl p276.z).st p281 rfl).st p285 rfl).st p289 rfl).st p293 rfl), (andF hb278 s294)⟩
      · have s295 := bv s277 hb278
        have s296 := p276.o (pg273.o (p244.o (p241.o (pg194.o s52 rfl) rfl) rfl) rfl) rfl
        refine s1g p276.z (okFA (o' := 3) fo25_3 s296 rfl) rfl (yd p276.z rfl rfl s295) fun a297 p298 s299 => ?_
        have s300 := p298.o s295 rfl
        have m301 := m26.g0 g192
        refine s1g p298.z (okLd (j := 3) na3 s299 (m301.cl) rfl rfl) rfl (yd p298.z rfl rfl s300) fun a302 p303 s304 => ?_
        have s305 := p303.o s300 rfl
        refine s1g p303.z (okLt s304 cst) rfl (yd p303.z rfl rfl s305) fun a306 p307 s308 => ?_
        have s309 := p307.o s305 rfl
        refine s1 p307.z (okPickT s309 s308) rfl fun a310 p311 s312 => ?_
        exact rN ⟨rfl, rfl, (((((Pg.refl p276.z).st p298 rfl).st p303 rfl).st p307 rfl).st p311 rfl), (andT hb278 s312)⟩
    rintro a313 ⟨pg314, s315⟩
    refine rN (thenN ?_)
    have pg316 : Pg _ [41, 42, 43, 44, 45, 46, 47, 48, 49, 50] _ _ := ((((((Pg.refl pg194.z).st p241 rfl).st p244 rfl).tr pg273 rfl).st p276 rfl).tr pg314 rfl)
    refine cnd s315 (fun hb317 => ?_) (fun hb317 => ?_)
    · replace h := (ifP hb317).symm.trans h
      refine wp_seq ?_
      refine reg ?_
      have s318 := pg316.o (pg194.o s52 rfl) rfl
      refine s1 pg316.z (okFA (o' := 3) fo25_3 s318 rfl) rfl fun a319 p320 s321 => ?_
      have m322 := m26.g0 g192
      refine s1 p320.z (okLd (j := 3) na3 s321 (m322.cl) rfl rfl) rfl fun a323 p324 s325 => ?_
      refine s1 p324.z (okAdd s325 cst) rfl fun a326 p327 s328 => ?_
      have s329 := p327.o (p324.o (p320.o s318 rfl) rfl) rfl
      refine s1 p327.z (okFA (o' := 3) fo25_3 s329 rfl) rfl fun a330 p331 s332 => ?_
      have s333 := p331.o s328 rfl
      refine lS (oSto (cs := [.int .i64 (w64 (x0.holds + 1))]) (l' := TThing.C ({ x0 with holds := w64 (x0.holds + 1) }) h0_0) p331.z s332 s333 m322 Try.sizeOf3 rfl one1 rfl rfl fun w334 m335 g336 => ?_)
      have cx337 := cx193.st g336 f9
      refine rN (thenN ?_)
      refine wp_seq ?_
      refine reg ?_
      have s338 := p331.o s329 rfl
      refine s1 p331.z (okLdA ag25 s338 (m335.cl) rfl rfl whole) rfl fun a339 p340 s341 => ?_
      have s342 := p340.o (p331.o (p327.o (p324.o (p320.o (pg316.o (pg194.o s53 rfl) rfl) rfl) rfl) rfl) rfl) rfl
      have m343 := (m14.g0 g192).g1 g336 (m5.ne e16).symm
      have q344 := qh0_0.mono ((((g6.tA (Nat.le_of_eq e7.symm)).trans (g15.tA (Nat.le_of_eq e16.symm))).trans g192.t0).trans (g336.t1 (.tail _ (.head _))))
      refine lS (oStoW (cs := TThing.C ({ x0 with holds := w64 (x0.holds + 1) }) h0_0) p340.z s342 s341 m343 Try.sizeOf25 rfl (TThing.C_one _ q344.one) rfl fun w345 m346 g347 => ?_)
      have cx348 := cx337.st g347 f18
      refine s1 p340.z (okAs cst) rfl fun a349 p350 s351 => ?_
      refine rN (thenN ?_)
      have s352 := p350.o s342 rfl
      obtain rfl := Option.some.inj h
      have q353 := q344.mono (g347.t1 (.head _))
      exact wp_ret (blkR (thenR (ret2 p350.z Try.results17 (rvA ag25 s352 m346 rfl) (rvT s351) ⟨_, rfl, h0_0, rfl, (q353.mono ((Tr.refl _ _).sub (fun i h => (.tail _ (.tail _ h))))), cx348.g⟩)))
    replace h := (ifN hb317).symm.trans h
    refine wp_skip (blkN (thenN ?_))
    refine wp_seq ?_
    refine reg ?_
    have s354 := pg316.o (pg194.o s52 rfl) rfl
    have m355 := m26.g0 g192
    refine s1 pg316.z (okLdA ag25 s354 (m355.cl) rfl rfl whole) rfl fun a356 p357 s358 => ?_
    have s359 := p357.o (pg316.o (pg194.o s53 rfl) rfl) rfl
    have m360 := m14.g0 g192
    have q361 := qh0_0.mono (((g6.tA (Nat.le_of_eq e7.symm)).trans (g15.tA (Nat.le_of_eq e16.symm))).trans g192.t0)
    refine lS (oStoW (cs := TThing.C x0 h0_0) p357.z s359 s358 m360 Try.sizeOf25 rfl (TThing.C_one _ q361.one) rfl fun w362 m363 g364 => ?_)
    have cx365 := cx193.st g364 f18
    refine s1 p357.z (okAs cst) rfl fun a366 p367 s368 => ?_
    refine rN (thenN ?_)
    have s369 := p367.o s359 rfl
    obtain rfl := Option.some.inj h
    have q370 := q361.mono (g364.t1 (.head _))
    exact wp_ret (ret2 p367.z Try.results17 (rvA ag25 s369 m363 rfl) (rvT s368) ⟨_, rfl, h0_0, rfl, (q370.mono ((Tr.refl _ _).sub (fun i h => (.tail _ (.tail _ h))))), cx365.g⟩)
  replace h := (ifN hb58).symm.trans h
  refine wp_seq ?_
  refine reg ?_
  refine s1 pg57.z (okEq s56 cst) rfl fun a371 p372 s373 => ?_
  refine s1 p372.z (okAs s373) rfl fun a374 p375 s376 => ?_
  refine rN (thenN ?_)
  refine cnd s376 (fun hb377 => ?_) (fun hb377 => ?_)
  · replace h := (ifP hb377).symm.trans h
    refine wp_seq ?_
    refine reg ?_
    have s378 := p375.o (p372.o s55 rfl) rfl
    refine s1 p375.z (okMv s378) rfl fun a379 p380 s381 => ?_
    refine s1 p380.z (okMv s381) rfl fun a382 p383 s384 => ?_
    refine cutP 3 (fun a' => Pg Try.f17.ntmps [60, 61, 62] a382 a' ∧ a'.eval (.tmp 62) = .bool ((x0.owner == x1) && (x3 == 0))) ?_ ?_
    · rcases bf (x0.owner == x1) with hb385 | hb385
      · have s386 := bv s384 hb385
        refine s1k p383.z rfl (yd p383.z rfl rfl s386) rfl fun a387 p388 s389 => ?_
        have s390 := p388.o s386 rfl
        refine s1k p388.z rfl (yd p388.z rfl rfl s390) rfl fun a391 p392 s393 => ?_
        have s394 := p392.o s390 rfl
        refine s1 p392.z (okPickF s394 cst) rfl fun a395 p396 s397 => ?_
        exact rN ⟨rfl, rfl, ((((Pg.refl p383.z).st p388 rfl).st p392 rfl).st p396 rfl), (andF hb385 s397)⟩
      · have s398 := bv s384 hb385
        have s399 := p383.o (p380.o (p375.o (p372.o (pg57.o s0_3 rfl) rfl) rfl) rfl) rfl
        refine s1g p383.z (okMv s399) rfl (yd p383.z rfl rfl s398) fun a400 p401 s402 => ?_
        have s403 := p401.o s398 rfl
        refine s1g p401.z (okEq s402 cst) rfl (yd p401.z rfl rfl s403) fun a404 p405 s406 => ?_
        have s407 := p405.o s403 rfl
        refine s1 p405.z (okPickT s407 s406) rfl fun a408 p409 s410 => ?_
        exact rN ⟨rfl, rfl, ((((Pg.refl p383.z).st p401 rfl).st p405 rfl).st p409 rfl), (andT hb385 s410)⟩
    rintro a411 ⟨pg412, s413⟩
    refine rN (thenN ?_)
    have pg414 : Pg _ [56, 57, 58, 59, 60, 61, 62] _ _ := ((((((Pg.refl pg57.z).st p372 rfl).st p375 rfl).st p380 rfl).st p383 rfl).tr pg412 rfl)
    refine cnd s413 (fun hb415 => ?_) (fun hb415 => ?_)
    · replace h := (ifP hb415).symm.trans h
      refine wp_seq ?_
      refine reg ?_
      have s416 := pg414.o s52 rfl
      refine s1 pg414.z (okLdA ag25 s416 (m26.cl) rfl rfl whole) rfl fun a417 p418 s419 => ?_
      have q420 := qh0_0.mono ((g6.tA (Nat.le_of_eq e7.symm)).trans (g15.tA (Nat.le_of_eq e16.symm)))
      obtain ⟨t421, ht422, h⟩ := Option.bind_eq_some_iff.1 h
      refine lS (oCall p418.z Try.call27 (ag1 s419) (c27 (b12 :: b3 :: L) w11 cx17.lt _ _ q420 _ ht422) rfl fun v426 a423 w424 hp427 p425 sp425 => ?_)
      obtain ⟨h428, rfl, q429, g430⟩ := hp427
      have cx431 := cx17.ca g430
      have s432 := p425.o (p418.o (pg414.o s53 rfl) rfl) rfl
      have m433 := m14.g0 g430
      refine lS (oStoW (cs := TThing.C t421 h428) p425.z s432 sp425 m433 Try.sizeOf25 rfl (TThing.C_one _ q429.one) rfl fun w434 m435 g436 => ?_)
      have cx437 := cx431.st g436 f18
      refine s1 p425.z (okAs cst) rfl fun a438 p439 s440 => ?_
      refine rN (thenN ?_)
      have s441 := p439.o s432 rfl
      obtain rfl := Option.some.inj h
      have q442 := q429.mono (g436.t1 (.head _))
      exact wp_ret (blkR (thenR (ret2 p439.z Try.results17 (rvA ag25 s441 m435 rfl) (rvT s440) ⟨_, rfl, h428, rfl, (q442.mono ((Tr.refl _ _).sub (fun i h => (.tail _ (.tail _ h))))), cx437.g⟩)))
    replace h := (ifN hb415).symm.trans h
    refine wp_skip (blkN (thenN ?_))
    refine wp_seq ?_
    refine reg ?_
    have s443 := pg414.o s52 rfl
    refine s1 pg414.z (okLdA ag25 s443 (m26.cl) rfl rfl whole) rfl fun a444 p445 s446 => ?_
    have s447 := p445.o (pg414.o s53 rfl) rfl
    have q448 := qh0_0.mono ((g6.tA (Nat.le_of_eq e7.symm)).trans (g15.tA (Nat.le_of_eq e16.symm)))
    refine lS (oStoW (cs := TThing.C x0 h0_0) p445.z s447 s446 m14 Try.sizeOf25 rfl (TThing.C_one _ q448.one) rfl fun w449 m450 g451 => ?_)
    have cx452 := cx17.st g451 f18
    refine s1 p445.z (okAs cst) rfl fun a453 p454 s455 => ?_
    refine rN (thenN ?_)
    have s456 := p454.o s447 rfl
    obtain rfl := Option.some.inj h
    have q457 := q448.mono (g451.t1 (.head _))
    exact wp_ret (ret2 p454.z Try.results17 (rvA ag25 s456 m450 rfl) (rvT s455) ⟨_, rfl, h0_0, rfl, (q457.mono ((Tr.refl _ _).sub (fun i h => (.tail _ (.tail _ h))))), cx452.g⟩)
  replace h := (ifN hb377).symm.trans h
  refine wp_seq ?_
  refine reg ?_
  have s458 := p375.o (p372.o s56 rfl) rfl
  refine s1 p375.z (okEq s458 cst) rfl fun a459 p460 s461 => ?_
  refine s1 p460.z (okAs s461) rfl fun a462 p463 s464 => ?_
  refine rN (thenN ?_)
  have s465 := p463.o (p460.o s458 rfl) rfl
  have pg466 : Pg _ [56, 57, 65, 66] _ _ := (((((Pg.refl pg57.z).st p372 rfl).st p375 rfl).st p460 rfl).st p463 rfl)
  refine cnd s464 (fun hb467 => ?_) (fun hb467 => ?_)
  · replace h := (ifP hb467).symm.trans h
    refine wp_seq ?_
    refine reg ?_
    have s468 := pg466.o s52 rfl
    refine s1 pg466.z (okLdA ag25 s468 (m26.cl) rfl rfl whole) rfl fun a469 p470 s471 => ?_
    have s472 := p470.o s468 rfl
    refine s1 p470.z (okFA (o' := 2) fo25_2 s472 rfl) rfl fun a473 p474 s475 => ?_
    refine s1 p474.z (okLd (j := 2) na3 s475 (m26.cl) rfl rfl) rfl fun a476 p477 s478 => ?_
    refine s1 p477.z (okNe s478 cst) rfl fun a479 p480 s481 => ?_
    refine s1 p480.z (okMv s481) rfl fun a482 p483 s484 => ?_
    refine cutP 3 (fun a' => Pg Try.f17.ntmps [72, 73, 74] a482 a' ∧ a'.eval (.tmp 74) = .bool ((x0.owner != (-1)) && (!(x0.owner == x1)))) ?_ ?_
    · rcases bf (x0.owner != (-1)) with hb485 | hb485
      · have s486 := bv s484 hb485
        refine s1k p483.z rfl (yd p483.z rfl rfl s486) rfl fun a487 p488 s489 => ?_
        have s490 := p488.o s486 rfl
        refine s1k p488.z rfl (yd p488.z rfl rfl s490) rfl fun a491 p492 s493 => ?_
        have s494 := p492.o s490 rfl
        refine s1 p492.z (okPickF s494 cst) rfl fun a495 p496 s497 => ?_
        exact rN ⟨rfl, rfl, ((((Pg.refl p483.z).st p488 rfl).st p492 rfl).st p496 rfl), (andF hb485 s497)⟩
      · have s498 := bv s484 hb485
        have s499 := p483.o (p480.o (p477.o (p474.o (p470.o (pg466.o s55 rfl) rfl) rfl) rfl) rfl) rfl
        refine s1g p483.z (okMv s499) rfl (yd p483.z rfl rfl s498) fun a500 p501 s502 => ?_
        have s503 := p501.o s498 rfl
        refine s1g p501.z (okNot s502) rfl (yd p501.z rfl rfl s503) fun a504 p505 s506 => ?_
        have s507 := p505.o s503 rfl
        refine s1 p505.z (okPickT s507 s506) rfl fun a508 p509 s510 => ?_
        exact rN ⟨rfl, rfl, ((((Pg.refl p483.z).st p501 rfl).st p505 rfl).st p509 rfl), (andT hb485 s510)⟩
    rintro a511 ⟨pg512, s513⟩
    refine s1 pg512.z (okMv s513) rfl fun a514 p515 s516 => ?_
    refine cutP 3 (fun a' => Pg Try.f17.ntmps [76, 77, 78] a514 a' ∧ a'.eval (.tmp 78) = .bool (((x0.owner != (-1)) && (!(x0.owner == x1))) && (x3 == 0))) ?_ ?_
    · rcases bf ((x0.owner != (-1)) && (!(x0.owner == x1))) with hb517 | hb517
      · have s518 := bv s516 hb517
        refine s1k p515.z rfl (yd p515.z rfl rfl s518) rfl fun a519 p520 s521 => ?_
        have s522 := p520.o s518 rfl
        refine s1k p520.z rfl (yd p520.z rfl rfl s522) rfl fun a523 p524 s525 => ?_
        have s526 := p524.o s522 rfl
        refine s1 p524.z (okPickF s526 cst) rfl fun a527 p528 s529 => ?_
        exact rN ⟨rfl, rfl, ((((Pg.refl p515.z).st p520 rfl).st p524 rfl).st p528 rfl), (andF hb517 s529)⟩
      · have s530 := bv s516 hb517
        have s531 := p515.o (pg512.o (p483.o (p480.o (p477.o (p474.o (p470.o (pg466.o (pg57.o s0_3 rfl) rfl) rfl) rfl) rfl) rfl) rfl) rfl) rfl
        refine s1g p515.z (okMv s531) rfl (yd p515.z rfl rfl s530) fun a532 p533 s534 => ?_
        have s535 := p533.o s530 rfl
        refine s1g p533.z (okEq s534 cst) rfl (yd p533.z rfl rfl s535) fun a536 p537 s538 => ?_
        have s539 := p537.o s535 rfl
        refine s1 p537.z (okPickT s539 s538) rfl fun a540 p541 s542 => ?_
        exact rN ⟨rfl, rfl, ((((Pg.refl p515.z).st p533 rfl).st p537 rfl).st p541 rfl), (andT hb517 s542)⟩
    rintro a543 ⟨pg544, s545⟩
    have s546 := pg544.o (p515.o (pg512.o (p483.o (p480.o (p477.o (p474.o (p470.o (pg466.o s53 rfl) rfl) rfl) rfl) rfl) rfl) rfl) rfl) rfl
    have s547 := pg544.o (p515.o (pg512.o (p483.o (p480.o (p477.o (p474.o s471 rfl) rfl) rfl) rfl) rfl) rfl) rfl
    have q548 := qh0_0.mono ((g6.tA (Nat.le_of_eq e7.symm)).trans (g15.tA (Nat.le_of_eq e16.symm)))
    refine lS (oStoW (cs := TThing.C x0 h0_0) pg544.z s546 s547 m14 Try.sizeOf25 rfl (TThing.C_one _ q548.one) rfl fun w549 m550 g551 => ?_)
    have cx552 := cx17.st g551 f18
    refine s1 pg544.z (okAs s545) rfl fun a553 p554 s555 => ?_
    refine rN (thenN ?_)
    have s556 := p554.o s546 rfl
    obtain rfl := Option.some.inj h
    have q557 := q548.mono (g551.t1 (.head _))
    exact wp_ret (blkR (thenR (ret2 p554.z Try.results17 (rvA ag25 s556 m550 rfl) (rvT s555) ⟨_, rfl, h0_0, rfl, (q557.mono ((Tr.refl _ _).sub (fun i h => (.tail _ (.tail _ h))))), cx552.g⟩)))
  replace h := (ifN hb467).symm.trans h
  refine wp_seq ?_
  refine reg ?_
  refine s1 pg466.z (okEq s465 cst) rfl fun a558 p559 s560 => ?_
  refine s1 p559.z (okAs s560) rfl fun a561 p562 s563 => ?_
  refine rN (thenN ?_)
  refine cnd s563 (fun hb564 => ?_) (fun hb564 => ?_)
  · replace h := (ifP hb564).symm.trans h
    refine wp_seq ?_
    refine reg ?_
    have s565 := p562.o (p559.o (pg466.o s52 rfl) rfl) rfl
    refine s1 p562.z (okLdA ag25 s565 (m26.cl) rfl rfl whole) rfl fun a566 p567 s568 => ?_
    have s569 := p567.o (p562.o (p559.o (pg466.o s55 rfl) rfl) rfl) rfl
    refine s1 p567.z (okMv s569) rfl fun a570 p571 s572 => ?_
    refine s1 p571.z (okNot s572) rfl fun a573 p574 s575 => ?_
    refine s1 p574.z (okMv s575) rfl fun a576 p577 s578 => ?_
    refine cutP 3 (fun a' => Pg Try.f17.ntmps [85, 86, 87] a576 a' ∧ a'.eval (.tmp 87) = .bool ((!(x0.owner == x1)) && (x3 == 0))) ?_ ?_
    · rcases bf (!(x0.owner == x1)) with hb579 | hb579
      · have s580 := bv s578 hb579
        refine s1k p577.z rfl (yd p577.z rfl rfl s580) rfl fun a581 p582 s583 => ?_
        have s584 := p582.o s580 rfl
        refine s1k p582.z rfl (yd p582.z rfl rfl s584) rfl fun a585 p586 s587 => ?_
        have s588 := p586.o s584 rfl
        refine s1 p586.z (okPickF s588 cst) rfl fun a589 p590 s591 => ?_
        exact rN ⟨rfl, rfl, ((((Pg.refl p577.z).st p582 rfl).st p586 rfl).st p590 rfl), (andF hb579 s591)⟩
      · have s592 := bv s578 hb579
        have s593 := p577.o (p574.o (p571.o (p567.o (p562.o (p559.o (pg466.o (pg57.o s0_3 rfl) rfl) rfl) rfl) rfl) rfl) rfl) rfl
        refine s1g p577.z (okMv s593) rfl (yd p577.z rfl rfl s592) fun a594 p595 s596 => ?_
        have s597 := p595.o s592 rfl
        refine s1g p595.z (okEq s596 cst) rfl (yd p595.z rfl rfl s597) fun a598 p599 s600 => ?_
        have s601 := p599.o s597 rfl
        refine s1 p599.z (okPickT s601 s600) rfl fun a602 p603 s604 => ?_
        exact rN ⟨rfl, rfl, ((((Pg.refl p577.z).st p595 rfl).st p599 rfl).st p603 rfl), (andT hb579 s604)⟩
    rintro a605 ⟨pg606, s607⟩
    have s608 := pg606.o (p577.o (p574.o (p571.o (p567.o (p562.o (p559.o (pg466.o s53 rfl) rfl) rfl) rfl) rfl) rfl) rfl) rfl
    have s609 := pg606.o (p577.o (p574.o (p571.o s568 rfl) rfl) rfl) rfl
    have q610 := qh0_0.mono ((g6.tA (Nat.le_of_eq e7.symm)).trans (g15.tA (Nat.le_of_eq e16.symm)))
    refine lS (oStoW (cs := TThing.C x0 h0_0) pg606.z s608 s609 m14 Try.sizeOf25 rfl (TThing.C_one _ q610.one) rfl fun w611 m612 g613 => ?_)
    have cx614 := cx17.st g613 f18
    refine s1 pg606.z (okAs s607) rfl fun a615 p616 s617 => ?_
    refine rN (thenN ?_)
    have s618 := p616.o s608 rfl
    obtain rfl := Option.some.inj h
    have q619 := q610.mono (g613.t1 (.head _))
    exact wp_ret (blkR (thenR (ret2 p616.z Try.results17 (rvA ag25 s618 m612 rfl) (rvT s617) ⟨_, rfl, h0_0, rfl, (q619.mono ((Tr.refl _ _).sub (fun i h => (.tail _ (.tail _ h))))), cx614.g⟩)))
  replace h := (ifN hb564).symm.trans h
  refine wp_seq ?_
  refine reg ?_
  have s620 := p562.o (p559.o s465 rfl) rfl
  refine s1 p562.z (okEq s620 cst) rfl fun a621 p622 s623 => ?_
  refine s1 p622.z (okAs s623) rfl fun a624 p625 s626 => ?_
  refine rN (thenN ?_)
  have s627 := p625.o (p622.o s620 rfl) rfl
  have pg628 : Pg _ [79, 80, 88, 89] _ _ := (((((Pg.refl pg466.z).st p559 rfl).st p562 rfl).st p622 rfl).st p625 rfl)
  refine cnd s626 (fun hb629 => ?_) (fun hb629 => ?_)
  · replace h := (ifP hb629).symm.trans h
    refine wp_seq ?_
    refine reg ?_
    have s630 := pg628.o (pg466.o s52 rfl) rfl
    refine s1 pg628.z (okLdA ag25 s630 (m26.cl) rfl rfl whole) rfl fun a631 p632 s633 => ?_
    have s634 := p632.o (pg628.o (pg466.o s55 rfl) rfl) rfl
    refine s1 p632.z (okMv s634) rfl fun a635 p636 s637 => ?_
    refine s1 p636.z (okMv s637) rfl fun a638 p639 s640 => ?_
    refine cutP 4 (fun a' => Pg Try.f17.ntmps [93, 94, 95, 96] a638 a' ∧ a'.eval (.tmp 96) = .bool ((x0.owner == x1) && (x0.holds == 1000))) ?_ ?_
    · rcases bf (x0.owner == x1) with hb641 | hb641
      · have s642 := bv s640 hb641
        refine s1k p639.z rfl (yd p639.z rfl rfl s642) rfl fun a643 p644 s645 => ?_
        have s646 := p644.o s642 rfl
        refine s1k p644.z rfl (yd p644.z rfl rfl s646) rfl fun a647 p648 s649 => ?_
        have s650 := p648.o s646 rfl
        refine s1k p648.z rfl (yd p648.z rfl rfl s650) rfl fun a651 p652 s653 => ?_
        have s654 := p652.o s650 rfl
        refine s1 p652.z (okPickF s654 cst) rfl fun a655 p656 s657 => ?_
        exact rN ⟨rfl, rfl, (((((Pg.refl p639.z).st p644 rfl).st p648 rfl).st p652 rfl).st p656 rfl), (andF hb641 s657)⟩
      · have s658 := bv s640 hb641
        have s659 := p639.o (p636.o (p632.o s630 rfl) rfl) rfl
        refine s1g p639.z (okFA (o' := 3) fo25_3 s659 rfl) rfl (yd p639.z rfl rfl s658) fun a660 p661 s662 => ?_
        have s663 := p661.o s658 rfl
        refine s1g p661.z (okLd (j := 3) na3 s662 (m26.cl) rfl rfl) rfl (yd p661.z rfl rfl s663) fun a664 p665 s666 => ?_
        have s667 := p665.o s663 rfl
        refine s1g p665.z (okEq s666 cst) rfl (yd p665.z rfl rfl s667) fun a668 p669 s670 => ?_
        have s671 := p669.o s667 rfl
        refine s1 p669.z (okPickT s671 s670) rfl fun a672 p673 s674 => ?_
        exact rN ⟨rfl, rfl, (((((Pg.refl p639.z).st p661 rfl).st p665 rfl).st p669 rfl).st p673 rfl), (andT hb641 s674)⟩
    rintro a675 ⟨pg676, s677⟩
    refine s1 pg676.z (okMv s677) rfl fun a678 p679 s680 => ?_
    refine cutP 3 (fun a' => Pg Try.f17.ntmps [98, 99, 100] a678 a' ∧ a'.eval (.tmp 100) = .bool (((x0.owner == x1) && (x0.holds == 1000)) && (x3 == 0))) ?_ ?_
    · rcases bf ((x0.owner == x1) && (x0.holds == 1000)) with hb681 | hb681
      · have s682 := bv s680 hb681
        refine s1k p679.z rfl (yd p679.z rfl rfl s682) rfl fun a683 p684 s685 => ?_
        have s686 := p684.o s682 rfl
        refine s1k p684.z rfl (yd p684.z rfl rfl s686) rfl fun a687 p688 s689 => ?_
        have s690 := p688.o s686 rfl
        refine s1 p688.z (okPickF s690 cst) rfl fun a691 p692 s693 => ?_
        exact rN ⟨rfl, rfl, ((((Pg.refl p679.z).st p684 rfl).st p688 rfl).st p692 rfl), (andF hb681 s693)⟩
      · have s694 := bv s680 hb681
        have s695 := p679.o (pg676.o (p639.o (p636.o (p632.o (pg628.o (pg466.o (pg57.o s0_3 rfl) rfl) rfl) rfl) rfl) rfl) rfl) rfl
        refine s1g p679.z (okMv s695) rfl (yd p679.z rfl rfl s694) fun a696 p697 s698 => ?_
        have s699 := p697.o s694 rfl
        refine s1g p697.z (okEq s698 cst) rfl (yd p697.z rfl rfl s699) fun a700 p701 s702 => ?_
        have s703 := p701.o s699 rfl
        refine s1 p701.z (okPickT s703 s702) rfl fun a704 p705 s706 => ?_
        exact rN ⟨rfl, rfl, ((((Pg.refl p679.z).st p697 rfl).st p701 rfl).st p705 rfl), (andT hb681 s706)⟩
    rintro a707 ⟨pg708, s709⟩
    have s710 := pg708.o (p679.o (pg676.o (p639.o (p636.o (p632.o (pg628.o (pg466.o s53 rfl) rfl) rfl) rfl) rfl) rfl) rfl) rfl
    have s711 := pg708.o (p679.o (pg676.o (p639.o (p636.o s633 rfl) rfl) rfl) rfl) rfl
    have q712 := qh0_0.mono ((g6.tA (Nat.le_of_eq e7.symm)).trans (g15.tA (Nat.le_of_eq e16.symm)))
    refine lS (oStoW (cs := TThing.C x0 h0_0) pg708.z s710 s711 m14 Try.sizeOf25 rfl (TThing.C_one _ q712.one) rfl fun w713 m714 g715 => ?_)
    have cx716 := cx17.st g715 f18
    refine s1 pg708.z (okAs s709) rfl fun a717 p718 s719 => ?_
    refine rN (thenN ?_)
    have s720 := p718.o s710 rfl
    obtain rfl := Option.some.inj h
    have q721 := q712.mono (g715.t1 (.head _))
    exact wp_ret (blkR (thenR (ret2 p718.z Try.results17 (rvA ag25 s720 m714 rfl) (rvT s719) ⟨_, rfl, h0_0, rfl, (q721.mono ((Tr.refl _ _).sub (fun i h => (.tail _ (.tail _ h))))), cx716.g⟩)))
  replace h := (ifN hb629).symm.trans h
  refine wp_seq ?_
  refine reg ?_
  refine s1 pg628.z (okEq s627 cst) rfl fun a722 p723 s724 => ?_
  refine s1 p723.z (okAs s724) rfl fun a725 p726 s727 => ?_
  refine rN (thenN ?_)
  refine cnd s727 (fun hb728 => ?_) (fun hb728 => ?_)
  · replace h := (ifP hb728).symm.trans h
    refine wp_seq ?_
    refine reg ?_
    have s729 := p726.o (p723.o (pg628.o (pg466.o s55 rfl) rfl) rfl) rfl
    refine s1 p726.z (okMv s729) rfl fun a730 p731 s732 => ?_
    refine s1 p731.z (okMv s732) rfl fun a733 p734 s735 => ?_
    refine cutP 5 (fun a' => Pg Try.f17.ntmps [105, 106, 107, 108, 109] a733 a' ∧ a'.eval (.tmp 109) = .bool ((x0.owner == x1) && (x3 == x0.holds))) ?_ ?_
    · rcases bf (x0.owner == x1) with hb736 | hb736
      · have s737 := bv s735 hb736
        refine s1k p734.z rfl (yd p734.z rfl rfl s737) rfl fun a738 p739 s740 => ?_
        have s741 := p739.o s737 rfl
        refine s1k p739.z rfl (yd p739.z rfl rfl s741) rfl fun a742 p743 s744 => ?_
        have s745 := p743.o s741 rfl
        refine s1k p743.z rfl (yd p743.z rfl rfl s745) rfl fun a746 p747 s748 => ?_
        have s749 := p747.o s745 rfl
        refine s1k p747.z rfl (yd p747.z rfl rfl s749) rfl fun a750 p751 s752 => ?_
        have s753 := p751.o s749 rfl
        refine s1 p751.z (okPickF s753 cst) rfl fun a754 p755 s756 => ?_
        exact rN ⟨rfl, rfl, ((((((Pg.refl p734.z).st p739 rfl).st p743 rfl).st p747 rfl).st p751 rfl).st p755 rfl), (andF hb736 s756)⟩
      · have s757 := bv s735 hb736
        have s758 := p734.o (p731.o (p726.o (p723.o (pg628.o (pg466.o (pg57.o s0_3 rfl) rfl) rfl) rfl) rfl) rfl) rfl
        refine s1g p734.z (okMv s758) rfl (yd p734.z rfl rfl s757) fun a759 p760 s761 => ?_
        have s762 := p760.o s757 rfl
        have s763 := p760.o (p734.o (p731.o (p726.o (p723.o (pg628.o (pg466.o s52 rfl) rfl) rfl) rfl) rfl) rfl) rfl
        refine s1g p760.z (okFA (o' := 3) fo25_3 s763 rfl) rfl (yd p760.z rfl rfl s762) fun a764 p765 s766 => ?_
        have s767 := p765.o s762 rfl
        refine s1g p765.z (okLd (j := 3) na3 s766 (m26.cl) rfl rfl) rfl (yd p765.z rfl rfl s767) fun a768 p769 s770 => ?_
        have s771 := p769.o s767 rfl
        have s772 := p769.o (p765.o s761 rfl) rfl
        refine s1g p769.z (okEq s772 s770) rfl (yd p769.z rfl rfl s771) fun a773 p774 s775 => ?_
        have s776 := p774.o s771 rfl
        refine s1 p774.z (okPickT s776 s775) rfl fun a777 p778 s779 => ?_
        exact rN ⟨rfl, rfl, ((((((Pg.refl p734.z).st p760 rfl).st p765 rfl).st p769 rfl).st p774 rfl).st p778 rfl), (andT hb736 s779)⟩
    rintro a780 ⟨pg781, s782⟩
    refine rN (thenN ?_)
    have pg783 : Pg _ [101, 102, 103, 104, 105, 106, 107, 108, 109] _ _ := ((((((Pg.refl pg628.z).st p723 rfl).st p726 rfl).st p731 rfl).st p734 rfl).tr pg781 rfl)
    refine cnd s782 (fun hb784 => ?_) (fun hb784 => ?_)
    · replace h := (ifP hb784).symm.trans h
      refine wp_seq ?_
      obtain ⟨z807, hz808, h⟩ := Option.bind_eq_some_iff.1 h
      obtain ⟨z855, hz856, h⟩ := Option.bind_eq_some_iff.1 h
      have s883 := pg783.o (pg628.o (pg466.o s52 rfl) rfl) rfl
      have s884 := pg783.o (pg628.o (pg466.o s53 rfl) rfl) rfl
      have s885 := pg783.o (pg628.o (pg466.o s54 rfl) rfl) rfl
      refine regJ (fun a' w' => ∃ v861, Z Try.f17.ntmps a' ∧ a'.eval (.tmp 4) = ptr b3 0 ∧ a'.eval (.tmp 8) = ptr b12 0 ∧ a'.eval (.tmp 9) = .bool false ∧ Bk w' b3 (TThing.C ({ x0 with waiters := z855 }) v861) 25 ∧ Bk w' b12 (TThing.C (⟨0, 0, 0, 0, Arr8.zero, [], 0, 0⟩ : TThing) (.slice none 0 0)) 25 ∧ OwnS KTWaiter 45 (ownB v861 ++ (b12 :: b3 :: L)) w' v861 z855 ∧ Cx [] w (ownB v861 ++ (b12 :: b3 :: L)) w' ∧ Tr (b12 :: b3 :: L) w11 (ownB v861 ++ (b12 :: b3 :: L)) w' ∧ (∀ x ∈ ownB v861, x ∉ L) ∧ (∀ x ∈ ownB v861, x ∈ [] ∨ w.heap.size ≤ x) ∧ b3 ∉ ownB v861 ∧ b12 ∉ ownB v861) ?_ ?_
      · refine regH (n := 12) [(2, fun w' => Cl w' b3 12 [h0_0]), (6, fun w' => Cl w' b3 3 [.int .i64 x0.holds])] mixed rfl ?_
        have g886 := G.drew w11
        have cx887 := cx17.ca g886
        refine hTakeW (i := 1) rfl (by kernel_rfl) (by kernel_rfl) (by kernel_rfl) nrm (cond := fun _ => True) (.inl fun _ => trivial) pg783.z (wN rfl) (fun _ _ => okFA (o' := 12) fo25_5 s883 rfl) trivial rfl fun a888 p889 sp889 => ?_
        have m890 := m26.g0 g886
        refine hTakeW (i := 2) rfl (by kernel_rfl) (by kernel_rfl) (by kernel_rfl) nrm (.inr (.head _)) p889.z (wN rfl) (fun _ h => okLd (j := 0) na23 sp889 h rfl rfl) (m890.clp rfl) rfl fun a891 p892 sp892 => ?_
        have s893 := p892.o (p889.o (pg783.o (pg628.o (pg466.o s51 rfl) rfl) rfl) rfl) rfl
        refine hTakeW (i := 4) rfl (by kernel_rfl) (by kernel_rfl) (by kernel_rfl) nrm (cond := fun _ => True) (.inl fun _ => trivial) p892.z (wN rfl) (fun _ _ => okMv s893) trivial rfl fun a894 p895 sp895 => ?_
        have s896 := p895.o (p892.o (p889.o s883 rfl) rfl) rfl
        refine hTakeW (i := 5) rfl (by kernel_rfl) (by kernel_rfl) (by kernel_rfl) nrm (cond := fun _ => True) (.inl fun _ => trivial) p895.z (wN rfl) (fun _ _ => okFA (o' := 3) fo25_3 s896 rfl) trivial rfl fun a897 p898 sp898 => ?_
        refine hTakeW (i := 6) rfl (by kernel_rfl) (by kernel_rfl) (by kernel_rfl) nrm (.inr (.tail _ (.head _))) p898.z (wN rfl) (fun _ h => okLd (j := 0) na3 sp898 h rfl rfl) (m890.clp rfl) rfl fun a899 p900 sp900 => ?_
        have s901 := p900.o (p898.o sp895 rfl) rfl
        refine hTakeW (i := 7) rfl (by kernel_rfl) (by kernel_rfl) (by kernel_rfl) nrm (cond := fun _ => True) (.inl fun _ => trivial) p900.z (wN rfl) (fun _ _ => okBd (pb2 s901 sp900) (bd45_0_1 x1 x0.holds _)) trivial rfl fun a902 p903 sp903 => ?_
        refine hTwo (i := 0) (j := 8) (by kernel_rfl) rfl rfl rfl rfl ?_ ?_
        · have m911 := m14.g0 g886
          refine (oBS (K := KTWaiter) (L := (b12 :: b3 :: L)) (xs := []) (C := []) p903.z (pb0 ) (bs23_0_ ) rfl rfl (fun _ _ _ h => by simp at h) rfl rfl fun a904 v905 w906 p907 sp907 q908 g909 f910 => ?_)
          have f912 := frN f910
          have nb913 := nbA hL cx887.g.sz (fun _ h => nilO h) f912
          have sf914 := sfA (S := []) cx887.g.sz (fun _ h => nilO h) f912
          have n915 := m890.no (fun h => nilO h) f912
          have n916 := m911.no (fun h => nilO h) f912
          have cx917 := cx887.ap g909 (fun _ h => nilO h) q908
          refine ⟨⟨.inr fun h => h.g0 g909, .inr fun h => h.g0 g909, trivial⟩, ?_⟩
          refine hTwo (i := 3) (j := 8) (by kernel_rfl) rfl rfl rfl rfl ?_ ?_
          · have s918 := p907.o (p903.o (p900.o (p898.o (p895.o sp892 rfl) rfl) rfl) rfl) rfl
            have q919 := qh0_0.mono ((((g6.tA (Nat.le_of_eq e7.symm)).trans (g15.tA (Nat.le_of_eq e16.symm))).trans g886.t0).trans (tAp g909 (fun _ h => nilO h) f912))
            have m920 := m890.g0 g909
            have m921 := m911.g0 g909
            refine (oApp (K := KTWaiter) (L := (ownB v905 ++ (b12 :: b3 :: L))) Try.underlying23 ti45 rfl p907.z sp907 s918 q908 q919.src hz808 (fun _ h => (List.mem_append_left _ h)) rfl fun a922 v923 w924 p925 sp925 q926 g927 f928 => ?_)
            have nb929 := nbA hL cx917.g.sz nb913 f928
            have sf930 := sfA (S := []) cx917.g.sz sf914 f928
            have n931 := m920.no n915 f928
            have n932 := m921.no n916 f928
            have cx933 := cx917.ap g927 sf914 q926
            have m934 := m920.g g927 n915
            refine ⟨⟨.inl rfl, .inr fun _ => (m934.clp rfl), trivial⟩, ?_⟩
            have s935 := p925.o (p907.o sp903 rfl) rfl
            have m943 := m921.g g927 n916
            refine hOne (i := 8) (by kernel_rfl) rfl (oBS (K := KTWaiter) (L := (ownB v923 ++ (ownB v905 ++ (b12 :: b3 :: L)))) (xs := [{ x0 with thread := x1 }]) (C := [TWaiter.C ({ x0 with thread := x1 })]) p925.z (pb1 s935) (bs23_1_0 ({ x0 with thread := x1 })) rfl rfl (all2C rfl all2N) rfl rfl fun a936 v937 w938 p939 sp939 q940 g941 f942 => ?_)
            have f944 := frN f942
            have nb945 := nbA hL cx933.g.sz (fun _ h => nilO h) f944
            have sf946 := sfA (S := []) cx933.g.sz (fun _ h => nilO h) f944
            have n947 := m934.no (fun h => nilO h) f944
            have n948 := m943.no (fun h => nilO h) f944
            have n949 := q926.dj (fun _ _ h => nilO h) f944
            have cx950 := cx933.ap g941 (fun _ h => nilO h) q940
            refine ⟨⟨.inr fun h => h.g0 g941, .inr fun h => h.g0 g941, trivial⟩, ?_⟩
            have s951 := p939.o sp925 rfl
            have q952 := q926.t0 (tAp g941 (fun _ h => nilO h) f944) g941
            have m953 := m934.g0 g941
            have m954 := m943.g0 g941
            refine hOne (i := 9) (by kernel_rfl) rfl (oApp (K := KTWaiter) (L := (ownB v937 ++ (ownB v923 ++ (ownB v905 ++ (b12 :: b3 :: L))))) Try.underlying23 ti45 rfl p939.z s951 sp939 q952 q940.src hz856 (fun _ h => (List.mem_append_right _ (List.mem_append_left _ h))) rfl fun a955 v956 w957 p958 sp958 q959 g960 f961 => ?_)
            have nb962 := nbA hL cx950.g.sz nb929 f961
            have sf963 := sfA (S := []) cx950.g.sz sf930 f961
            have n964 := m953.no n931 f961
            have n965 := m954.no n932 f961
            have n966 := q940.dj (djs n949) f961
            have cx967 := cx950.ap g960 sf930 q959
            have m968 := m953.g g960 n931
            refine ⟨⟨.inr fun _ => (m968.clp rfl), .inr fun _ => (m968.clp rfl), trivial⟩, ?_⟩
            have s969 := p958.o (p939.o (p925.o (p907.o (p903.o (p900.o (p898.o s896 rfl) rfl) rfl) rfl) rfl) rfl) rfl
            refine hTakeW (i := 10) rfl (by kernel_rfl) (by kernel_rfl) (by kernel_rfl) nrm (cond := fun _ => True) (.inl fun _ => trivial) p958.z (wN rfl) (fun _ _ => okFA (o' := 12) fo25_5 s969 rfl) trivial rfl fun a970 p971 sp971 => ?_
            have s972 := p971.o sp958 rfl
            refine hOne (i := 11) (by kernel_rfl) rfl (oSto (cs := [v956]) (l' := TThing.C ({ x0 with waiters := z855 }) v956) p971.z sp971 s972 m968 Try.sizeOf23 q959.cells (oneS q959.one) rfl rfl fun w973 m974 g975 => ?_)
            have cx976 := cx967.st g975 f9
            refine ⟨⟨.inl rfl, .inl rfl, trivial⟩, ?_⟩
            have q977 := q959.t1 (g975.t1 (List.mem_append_right _ (List.mem_append_right _ (List.mem_append_right _ (List.mem_append_right _ (.tail _ (.head _))))))) g975 n964
            have s978 := p971.o s969 rfl
            have s979 := p971.o (p958.o (p939.o (p925.o (p907.o (p903.o (p900.o (p898.o (p895.o (p892.o (p889.o s884 rfl) rfl) rfl) rfl) rfl) rfl) rfl) rfl) rfl) rfl) rfl
            have s980 := p971.o (p958.o (p939.o (p925.o (p907.o (p903.o (p900.o (p898.o (p895.o (p892.o (p889.o s885 rfl) rfl) rfl) rfl) rfl) rfl) rfl) rfl) rfl) rfl) rfl
            have m981 := (m954.g g960 n932).g1 g975 (m5.ne e16).symm
            exact hDone (by kernel_rfl) ⟨rfl, v956, p971.z, s978, s979, s980, m974, m981, (q977.sub (fun i h => (List.mem_append.1 h).elim (fun h => (List.mem_append_left _ h)) (fun h => (List.mem_append_right _ (List.mem_append_right _ (List.mem_append_right _ (List.mem_append_right _ h))))))), (cx976.sub (fun i h => (List.mem_append.1 h).elim (fun h => (List.mem_append_left _ h)) (fun h => (List.mem_append_right _ (List.mem_append_right _ (List.mem_append_right _ (List.mem_append_right _ h))))))), ((((((g886.t0.trans (tAp g909 (fun _ h => nilO h) f912)).trans (tAp g927 (fun _ h => (List.mem_append_left _ h)) f928)).trans (tAp g941 (fun _ h => nilO h) f944)).trans (tAp g960 (fun _ h => (List.mem_append_right _ (List.mem_append_left _ h))) f961)).trans (g975.t1 (List.mem_append_right _ (List.mem_append_right _ (List.mem_append_right _ (List.mem_append_right _ (.tail _ (.head _)))))))).sub (fun i h => (List.mem_append.1 h).elim (fun h => (List.mem_append_left _ h)) (fun h => (List.mem_append_right _ (List.mem_append_right _ (List.mem_append_right _ (List.mem_append_right _ h))))))), nb962, sf963, n964, n965⟩
          · have s982 := p907.o sp903 rfl
            have m990 := m890.g0 g909
            have m991 := m911.g0 g909
            refine (oBS (K := KTWaiter) (L := (ownB v905 ++ (b12 :: b3 :: L))) (xs := [{ x0 with thread := x1 }]) (C := [TWaiter.C ({ x0 with thread := x1 })]) p907.z (pb1 s982) (bs23_1_0 ({ x0 with thread := x1 })) rfl rfl (all2C rfl all2N) rfl rfl fun a983 v984 w985 p986 sp986 q987 g988 f989 => ?_)
            have f992 := frN f989
            have nb993 := nbA hL cx917.g.sz (fun _ h => nilO h) f992
            have sf994 := sfA (S := []) cx917.g.sz (fun _ h => nilO h) f992
            have n995 := m990.no (fun h => nilO h) f992
            have n996 := m991.no (fun h => nilO h) f992
            have n997 := q908.dj (fun _ _ h => nilO h) f992
            have cx998 := cx917.ap g988 (fun _ h => nilO h) q987
            refine ⟨⟨.inr fun h => h.g0 g988, .inr fun h => h.g0 g988, trivial⟩, ?_⟩
            have s999 := p986.o sp907 rfl
            have s1000 := p986.o (p907.o (p903.o (p900.o (p898.o (p895.o sp892 rfl) rfl) rfl) rfl) rfl) rfl
            have q1001 := q908.t0 (tAp g988 (fun _ h => nilO h) f992) g988
            have q1002 := qh0_0.mono (((((g6.tA (Nat.le_of_eq e7.symm)).trans (g15.tA (Nat.le_of_eq e16.symm))).trans g886.t0).trans (tAp g909 (fun _ h => nilO h) f912)).trans (tAp g988 (fun _ h => nilO h) f992))
            have m1003 := m990.g0 g988
            have m1004 := m991.g0 g988
            refine hOne (i := 3) (by kernel_rfl) rfl (oApp (K := KTWaiter) (L := (ownB v984 ++ (ownB v905 ++ (b12 :: b3 :: L)))) Try.underlying23 ti45 rfl p986.z s999 s1000 q1001 q1002.src hz808 (fun _ h => (List.mem_append_right _ (List.mem_append_left _ h))) rfl fun a1005 v1006 w1007 p1008 sp1008 q1009 g1010 f1011 => ?_)
            have nb1012 := nbA hL cx998.g.sz nb913 f1011
            have sf1013 := sfA (S := []) cx998.g.sz sf914 f1011
            have n1014 := m1003.no n915 f1011
            have n1015 := m1004.no n916 f1011
            have n1016 := q987.dj (djs n997) f1011
            have cx1017 := cx998.ap g1010 sf914 q1009
            have m1018 := m1003.g g1010 n915
            refine ⟨⟨.inl rfl, .inr fun _ => (m1018.clp rfl), trivial⟩, ?_⟩
            have s1019 := p1008.o sp986 rfl
            have q1020 := q987.tr (tAp g1010 (fun _ h => (List.mem_append_right _ (List.mem_append_left _ h))) f1011) g1010 (djs n997)
            have m1021 := m1004.g g1010 n916
            refine hOne (i := 9) (by kernel_rfl) rfl (oApp (K := KTWaiter) (L := (ownB v1006 ++ (ownB v984 ++ (ownB v905 ++ (b12 :: b3 :: L))))) Try.underlying23 ti45 rfl p1008.z sp1008 s1019 q1009 q1020.src hz856 (fun _ h => (List.mem_append_left _ h)) rfl fun a1022 v1023 w1024 p1025 sp1025 q1026 g1027 f1028 => ?_)
            have nb1029 := nbA hL cx1017.g.sz nb1012 f1028
            have sf1030 := sfA (S := []) cx1017.g.sz sf1013 f1028
            have n1031 := m1018.no n1014 f1028
            have n1032 := m1021.no n1015 f1028
            have n1033 := q1020.dj n1016 f1028
            have cx1034 := cx1017.ap g1027 sf1013 q1026
            have m1035 := m1018.g g1027 n1014
            refine ⟨⟨.inr fun _ => (m1035.clp rfl), .inr fun _ => (m1035.clp rfl), trivial⟩, ?_⟩
            have s1036 := p1025.o (p1008.o (p986.o (p907.o (p903.o (p900.o (p898.o s896 rfl) rfl) rfl) rfl) rfl) rfl) rfl
            refine hTakeW (i := 10) rfl (by kernel_rfl) (by kernel_rfl) (by kernel_rfl) nrm (cond := fun _ => True) (.inl fun _ => trivial) p1025.z (wN rfl) (fun _ _ => okFA (o' := 12) fo25_5 s1036 rfl) trivial rfl fun a1037 p1038 sp1038 => ?_
            have s1039 := p1038.o sp1025 rfl
            refine hOne (i := 11) (by kernel_rfl) rfl (oSto (cs := [v1023]) (l' := TThing.C ({ x0 with waiters := z855 }) v1023) p1038.z sp1038 s1039 m1035 Try.sizeOf23 q1026.cells (oneS q1026.one) rfl rfl fun w1040 m1041 g1042 => ?_)
            have cx1043 := cx1034.st g1042 f9
            refine ⟨⟨.inl rfl, .inl rfl, trivial⟩, ?_⟩
            have q1044 := q1026.t1 (g1042.t1 (List.mem_append_right _ (List.mem_append_right _ (List.mem_append_right _ (List.mem_append_right _ (.tail _ (.head _))))))) g1042 n1031
            have s1045 := p1038.o s1036 rfl
            have s1046 := p1038.o (p1025.o (p1008.o (p986.o (p907.o (p903.o (p900.o (p898.o (p895.o (p892.o (p889.o s884 rfl) rfl) rfl) rfl) rfl) rfl) rfl) rfl) rfl) rfl) rfl
            have s1047 := p1038.o (p1025.o (p1008.o (p986.o (p907.o (p903.o (p900.o (p898.o (p895.o (p892.o (p889.o s885 rfl) rfl) rfl) rfl) rfl) rfl) rfl) rfl) rfl) rfl) rfl
            have m1048 := (m1021.g g1027 n1015).g1 g1042 (m5.ne e16).symm
            exact hDone (by kernel_rfl) ⟨rfl, v1023, p1038.z, s1045, s1046, s1047, m1041, m1048, (q1044.sub (fun i h => (List.mem_append.1 h).elim (fun h => (List.mem_append_left _ h)) (fun h => (List.mem_append_right _ (List.mem_append_right _ (List.mem_append_right _ (List.mem_append_right _ h))))))), (cx1043.sub (fun i h => (List.mem_append.1 h).elim (fun h => (List.mem_append_left _ h)) (fun h => (List.mem_append_right _ (List.mem_append_right _ (List.mem_append_right _ (List.mem_append_right _ h))))))), ((((((g886.t0.trans (tAp g909 (fun _ h => nilO h) f912)).trans (tAp g988 (fun _ h => nilO h) f992)).trans (tAp g1010 (fun _ h => (List.mem_append_right _ (List.mem_append_left _ h))) f1011)).trans (tAp g1027 (fun _ h => (List.mem_append_left _ h)) f1028)).trans (g1042.t1 (List.mem_append_right _ (List.mem_append_right _ (List.mem_append_right _ (List.mem_append_right _ (.tail _ (.head _)))))))).sub (fun i h => (List.mem_append.1 h).elim (fun h => (List.mem_append_left _ h)) (fun h => (List.mem_append_right _ (List.mem_append_right _ (List.mem_append_right _ (List.mem_append_right _ h))))))), nb1029, sf1030, n1031, n1032⟩
        · have m1056 := m14.g0 g886
          refine (oBS (K := KTWaiter) (L := (b12 :: b3 :: L)) (xs := [{ x0 with thread := x1 }]) (C := [TWaiter.C ({ x0 with thread := x1 })]) p903.z (pb1 sp903) (bs23_1_0 ({ x0 with thread := x1 })) rfl rfl (all2C rfl all2N) rfl rfl fun a1049 v1050 w1051 p1052 sp1052 q1053 g1054 f1055 => ?_)
          have f1057 := frN f1055
          have nb1058 := nbA hL cx887.g.sz (fun _ h => nilO h) f1057
          have sf1059 := sfA (S := []) cx887.g.sz (fun _ h => nilO h) f1057
          have n1060 := m890.no (fun h => nilO h) f1057
          have n1061 := m1056.no (fun h => nilO h) f1057
          have cx1062 := cx887.ap g1054 (fun _ h => nilO h) q1053
          refine ⟨⟨.inr fun h => h.g0 g1054, .inr fun h => h.g0 g1054, trivial⟩, ?_⟩
          have m1070 := m890.g0 g1054
          have m1071 := m1056.g0 g1054
          refine hOne (i := 0) (by kernel_rfl) rfl (oBS (K := KTWaiter) (L := (ownB v1050 ++ (b12 :: b3 :: L))) (xs := []) (C := []) p1052.z (pb0 ) (bs23_0_ ) rfl rfl (fun _ _ _ h => by simp at h) rfl rfl fun a1063 v1064 w1065 p1066 sp1066 q1067 g1068 f1069 => ?_)
          have f1072 := frN f1069
          have nb1073 := nbA hL cx1062.g.sz (fun _ h => nilO h) f1072
          have sf1074 := sfA (S := []) cx1062.g.sz (fun _ h => nilO h) f1072
          have n1075 := m1070.no (fun h => nilO h) f1072
          have n1076 := m1071.no (fun h => nilO h) f1072
          have n1077 := q1053.dj (fun _ _ h => nilO h) f1072
          have cx1078 := cx1062.ap g1068 (fun _ h => nilO h) q1067
          refine ⟨⟨.inr fun h => h.g0 g1068, .inr fun h => h.g0 g1068, trivial⟩, ?_⟩
          have s1079 := p1066.o (p1052.o (p903.o (p900.o (p898.o (p895.o sp892 rfl) rfl) rfl) rfl) rfl) rfl
          have q1080 := qh0_0.mono (((((g6.tA (Nat.le_of_eq e7.symm)).trans (g15.tA (Nat.le_of_eq e16.symm))).trans g886.t0).trans (tAp g1054 (fun _ h => nilO h) f1057)).trans (tAp g1068 (fun _ h => nilO h) f1072))
          have m1081 := m1070.g0 g1068
          have m1082 := m1071.g0 g1068
          have q1083 := q1053.t0 (tAp g1068 (fun _ h => nilO h) f1072) g1068
          refine hOne (i := 3) (by kernel_rfl) rfl (oApp (K := KTWaiter) (L := (ownB v1064 ++ (ownB v1050 ++ (b12 :: b3 :: L)))) Try.underlying23 ti45 rfl p1066.z sp1066 s1079 q1067 q1080.src hz808 (fun _ h => (List.mem_append_left _ h)) rfl fun a1084 v1085 w1086 p1087 sp1087 q1088 g1089 f1090 => ?_)
          have nb1091 := nbA hL cx1078.g.sz nb1073 f1090
          have sf1092 := sfA (S := []) cx1078.g.sz sf1074 f1090
          have n1093 := m1081.no n1075 f1090
          have n1094 := m1082.no n1076 f1090
          have n1095 := q1083.dj n1077 f1090
          have cx1096 := cx1078.ap g1089 sf1074 q1088
          have m1097 := m1081.g g1089 n1075
          refine ⟨⟨.inl rfl, .inr fun _ => (m1097.clp rfl), trivial⟩, ?_⟩
          have s1098 := p1087.o (p1066.o sp1052 rfl) rfl
          have q1099 := q1083.tr (tAp g1089 (fun _ h => (List.mem_append_left _ h)) f1090) g1089 n1077
          have m1100 := m1082.g g1089 n1076
          refine hOne (i := 9) (by kernel_rfl) rfl (oApp (K := KTWaiter) (L := (ownB v1085 ++ (ownB v1064 ++ (ownB v1050 ++ (b12 :: b3 :: L))))) Try.underlying23 ti45 rfl p1087.z sp1087 s1098 q1088 q1099.src hz856 (fun _ h => (List.mem_append_left _ h)) rfl fun a1101 v1102 w1103 p1104 sp1104 q1105 g1106 f1107 => ?_)
          have nb1108 := nbA hL cx1096.g.sz nb1091 f1107
          have sf1109 := sfA (S := []) cx1096.g.sz sf1092 f1107
          have n1110 := m1097.no n1093 f1107
          have n1111 := m1100.no n1094 f1107
          have n1112 := q1099.dj n1095 f1107
          have cx1113 := cx1096.ap g1106 sf1092 q1105
          have m1114 := m1097.g g1106 n1093
          refine ⟨⟨.inr fun _ => (m1114.clp rfl), .inr fun _ => (m1114.clp rfl), trivial⟩, ?_⟩
          have s1115 := p1104.o (p1087.o (p1066.o (p1052.o (p903.o (p900.o (p898.o s896 rfl) rfl) rfl) rfl) rfl) rfl) rfl
          refine hTakeW (i := 10) rfl (by kernel_rfl) (by kernel_rfl) (by kernel_rfl) nrm (cond := fun _ => True) (.inl fun _ => trivial) p1104.z (wN rfl) (fun _ _ => okFA (o' := 12) fo25_5 s1115 rfl) trivial rfl fun a1116 p1117 sp1117 => ?_
          have s1118 := p1117.o sp1104 rfl
          refine hOne (i := 11) (by kernel_rfl) rfl (oSto (cs := [v1102]) (l' := TThing.C ({ x0 with waiters := z855 }) v1102) p1117.z sp1117 s1118 m1114 Try.sizeOf23 q1105.cells (oneS q1105.one) rfl rfl fun w1119 m1120 g1121 => ?_)
          have cx1122 := cx1113.st g1121 f9
          refine ⟨⟨.inl rfl, .inl rfl, trivial⟩, ?_⟩
          have q1123 := q1105.t1 (g1121.t1 (List.mem_append_right _ (List.mem_append_right _ (List.mem_append_right _ (List.mem_append_right _ (.tail _ (.head _))))))) g1121 n1110
          have s1124 := p1117.o s1115 rfl
          have s1125 := p1117.o (p1104.o (p1087.o (p1066.o (p1052.o (p903.o (p900.o (p898.o (p895.o (p892.o (p889.o s884 rfl) rfl) rfl) rfl) rfl) rfl) rfl) rfl) rfl) rfl) rfl
          have s1126 := p1117.o (p1104.o (p1087.o (p1066.o (p1052.o (p903.o (p900.o (p898.o (p895.o (p892.o (p889.o s885 rfl) rfl) rfl) rfl) rfl) rfl) rfl) rfl) rfl) rfl) rfl
          have m1127 := (m1100.g g1106 n1094).g1 g1121 (m5.ne e16).symm
          exact hDone (by kernel_rfl) ⟨rfl, v1102, p1117.z, s1124, s1125, s1126, m1120, m1127, (q1123.sub (fun i h => (List.mem_append.1 h).elim (fun h => (List.mem_append_left _ h)) (fun h => (List.mem_append_right _ (List.mem_append_right _ (List.mem_append_right _ (List.mem_append_right _ h))))))), (cx1122.sub (fun i h => (List.mem_append.1 h).elim (fun h => (List.mem_append_left _ h)) (fun h => (List.mem_append_right _ (List.mem_append_right _ (List.mem_append_right _ (List.mem_append_right _ h))))))), ((((((g886.t0.trans (tAp g1054 (fun _ h => nilO h) f1057)).trans (tAp g1068 (fun _ h => nilO h) f1072)).trans (tAp g1089 (fun _ h => (List.mem_append_left _ h)) f1090)).trans (tAp g1106 (fun _ h => (List.mem_append_left _ h)) f1107)).trans (g1121.t1 (List.mem_append_right _ (List.mem_append_right _ (List.mem_append_right _ (List.mem_append_right _ (.tail _ (.head _)))))))).sub (fun i h => (List.mem_append.1 h).elim (fun h => (List.mem_append_left _ h)) (fun h => (List.mem_append_right _ (List.mem_append_right _ (List.mem_append_right _ (List.mem_append_right _ h))))))), nb1108, sf1109, n1110, n1111⟩
      rintro a1128 w1129 ⟨h1131, z1130, s1132, s1133, s1134, m1135, m1136, q1137, cx1138, t1139, n1140, n1141, n1142, n1143⟩
      refine thenN ?_
      refine wp_seq ?_
      refine reg ?_
      refine s1 z1130 (okFA (o' := 2) fo25_2 s1132 rfl) rfl fun a1144 p1145 s1146 => ?_
      refine lS (oSto (cs := [.int .i64 (-1)]) (l' := TThing.C ({ x0 with owner := (-1), waiters := z855 }) h1131) p1145.z s1146 cst m1135 Try.sizeOf3 rfl one1 rfl rfl fun w1147 m1148 g1149 => ?_)
      have cx1150 := cx1138.st g1149 f9
      refine rN (thenN ?_)
      refine wp_seq ?_
      refine reg ?_
      have s1151 := p1145.o s1132 rfl
      refine s1 p1145.z (okFA (o' := 3) fo25_3 s1151 rfl) rfl fun a1152 p1153 s1154 => ?_
      refine lS (oSto (cs := [.int .i64 0]) (l' := TThing.C ({ x0 with owner := (-1), holds := 0, waiters := z855 }) h1131) p1153.z s1154 cst m1148 Try.sizeOf3 rfl one1 rfl rfl fun w1155 m1156 g1157 => ?_)
      have cx1158 := cx1150.st g1157 f9
      refine rN (thenN ?_)
      refine wp_seq ?_
      refine reg ?_
      have s1159 := p1153.o s1151 rfl
      refine s1 p1153.z (okLdA ag25 s1159 (m1156.cl) rfl rfl whole) rfl fun a1160 p1161 s1162 => ?_
      have s1163 := p1161.o (p1153.o (p1145.o s1133 rfl) rfl) rfl
      have m1164 := (m1136.g1 g1149 (m5.ne e16).symm).g1 g1157 (m5.ne e16).symm
      have q1165 := (q1137.t1 (g1149.t1 (List.mem_append_right _ (.tail _ (.head _)))) g1149 n1142).t1 (g1157.t1 (List.mem_append_right _ (.tail _ (.head _)))) g1157 n1142
      refine lS (oStoW (cs := TThing.C ({ x0 with owner := (-1), holds := 0, waiters := z855 }) h1131) p1161.z s1163 s1162 m1164 Try.sizeOf25 rfl (TThing.C_one _ q1165.one) rfl fun w1166 m1167 g1168 => ?_)
      have cx1169 := cx1158.st g1168 f18
      refine s1 p1161.z (okAs cst) rfl fun a1170 p1171 s1172 => ?_
      refine rN (thenN ?_)
      have s1173 := p1171.o s1163 rfl
      obtain rfl := Option.some.inj h
      have q1174 := q1165.t1 (g1168.t1 (List.mem_append_right _ (.head _))) g1168 n1143
      exact wp_ret (blkR (thenR (ret2 p1171.z Try.results17 (rvA ag25 s1173 m1167 rfl) (rvT s1172) ⟨_, rfl, h1131, rfl, (q1174.rd (fun i h => (List.mem_append_right _ (.tail _ (.tail _ h)))) n1140), cx1169.g⟩)))
    replace h := (ifN hb784).symm.trans h
    refine wp_skip (blkN (thenN ?_))
    refine wp_seq ?_
    refine reg ?_
    have s1175 := pg783.o (pg628.o (pg466.o s52 rfl) rfl) rfl
    refine s1 pg783.z (okLdA ag25 s1175 (m26.cl) rfl rfl whole) rfl fun a1176 p1177 s1178 => ?_
    have s1179 := p1177.o (pg783.o (pg628.o (pg466.o s53 rfl) rfl) rfl) rfl
    have q1180 := qh0_0.mono ((g6.tA (Nat.le_of_eq e7.symm)).trans (g15.tA (Nat.le_of_eq e16.symm)))
    refine lS (oStoW (cs := TThing.C x0 h0_0) p1177.z s1179 s1178 m14 Try.sizeOf25 rfl (TThing.C_one _ q1180.one) rfl fun w1181 m1182 g1183 => ?_)
    have cx1184 := cx17.st g1183 f18
    refine s1 p1177.z (okAs cst) rfl fun a1185 p1186 s1187 => ?_
    refine rN (thenN ?_)
    have s1188 := p1186.o s1179 rfl
    obtain rfl := Option.some.inj h
    have q1189 := q1180.mono (g1183.t1 (.head _))
    exact wp_ret (ret2 p1186.z Try.results17 (rvA ag25 s1188 m1182 rfl) (rvT s1187) ⟨_, rfl, h0_0, rfl, (q1189.mono ((Tr.refl _ _).sub (fun i h => (.tail _ (.tail _ h))))), cx1184.g⟩)
  replace h := (ifN hb728).symm.trans h
  refine wp_seq ?_
  refine reg ?_
  have s1190 := p726.o (p723.o s627 rfl) rfl
  refine s1 p726.z (okEq s1190 cst) rfl fun a1191 p1192 s1193 => ?_
  refine s1 p1192.z (okAs s1193) rfl fun a1194 p1195 s1196 => ?_
  refine rN (thenN ?_)
  have s1197 := p1195.o (p1192.o s1190 rfl) rfl
  have pg1198 : Pg _ [101, 102, 124, 125] _ _ := (((((Pg.refl pg628.z).st p723 rfl).st p726 rfl).st p1192 rfl).st p1195 rfl)
  refine cnd s1196 (fun hb1199 => ?_) (fun hb1199 => ?_)
  · replace h := (ifP hb1199).symm.trans h
    refine wp_seq ?_
    refine reg ?_
    have s1200 := pg1198.o (pg628.o (pg466.o s55 rfl) rfl) rfl
    refine s1 pg1198.z (okMv s1200) rfl fun a1201 p1202 s1203 => ?_
    refine s1 p1202.z (okMv s1203) rfl fun a1204 p1205 s1206 => ?_
    refine cutP 5 (fun a' => Pg Try.f17.ntmps [128, 129, 130, 131, 132] a1204 a' ∧ a'.eval (.tmp 132) = .bool ((x0.owner == x1) && (decide (0 < (x0.waiters.length : Int))))) ?_ ?_
    · rcases bf (x0.owner == x1) with hb1207 | hb1207
      · have s1208 := bv s1206 hb1207
        refine s1k p1205.z rfl (yd p1205.z rfl rfl s1208) rfl fun a1209 p1210 s1211 => ?_
        have s1212 := p1210.o s1208 rfl
        refine s1k p1210.z rfl (yd p1210.z rfl rfl s1212) rfl fun a1213 p1214 s1215 => ?_
        have s1216 := p1214.o s1212 rfl
        refine s1k p1214.z rfl (yd p1214.z rfl rfl s1216) rfl fun a1217 p1218 s1219 => ?_
        have s1220 := p1218.o s1216 rfl
        refine s1k p1218.z rfl (yd p1218.z rfl rfl s1220) rfl fun a1221 p1222 s1223 => ?_
        have s1224 := p1222.o s1220 rfl
        refine s1 p1222.z (okPickF s1224 cst) rfl fun a1225 p1226 s1227 => ?_
        exact rN ⟨rfl, rfl, ((((((Pg.refl p1205.z).st p1210 rfl).st p1214 rfl).st p1218 rfl).st p1222 rfl).st p1226 rfl), (andF hb1207 s1227)⟩
      · have s1228 := bv s1206 hb1207
        have s1229 := p1205.o (p1202.o (pg1198.o (pg628.o (pg466.o s52 rfl) rfl) rfl) rfl) rfl
        refine s1g p1205.z (okFA (o' := 12) fo25_5 s1229 rfl) rfl (yd p1205.z rfl rfl s1228) fun a1230 p1231 s1232 => ?_
        have s1233 := p1231.o s1228 rfl
        refine s1g p1231.z (okLd (j := 12) na23 s1232 (m26.cl) rfl rfl) rfl (yd p1231.z rfl rfl s1233) fun a1234 p1235 s1236 => ?_
        have s1237 := p1235.o s1233 rfl
        have q1238 := qh0_0.mono ((g6.tA (Nat.le_of_eq e7.symm)).trans (g15.tA (Nat.le_of_eq e16.symm)))
        refine s1g p1235.z (okLenR Try.underlying23 s1236 q1238) rfl (yd p1235.z rfl rfl s1237) fun a1239 p1240 s1241 => ?_
        have s1242 := p1240.o s1237 rfl
        refine s1g p1240.z (okGt s1241 cst) rfl (yd p1240.z rfl rfl s1242) fun a1243 p1244 s1245 => ?_
        have s1246 := p1244.o s1242 rfl
        refine s1 p1244.z (okPickT s1246 s1245) rfl fun a1247 p1248 s1249 => ?_
        exact rN ⟨rfl, rfl, ((((((Pg.refl p1205.z).st p1231 rfl).st p1235 rfl).st p1240 rfl).st p1244 rfl).st p1248 rfl), (andT hb1207 s1249)⟩
    rintro a1250 ⟨pg1251, s1252⟩
    refine s1 pg1251.z (okMv s1252) rfl fun a1253 p1254 s1255 => ?_
    obtain ⟨b1256, hb1257, h⟩ := Option.bind_eq_some_iff.1 h
    refine cutP 8 (fun a' => Pg Try.f17.ntmps [134, 135, 136, 137, 138, 139, 140, 141] a1253 a' ∧ a'.eval (.tmp 141) = .bool b1256) ?_ ?_
    · rcases bf ((x0.owner == x1) && (decide (0 < (x0.waiters.length : Int)))) with hb1258 | hb1258
      · have s1259 := bv s1255 hb1258
        replace hb1257 := (ifN hb1258).symm.trans hb1257
        clear h; have h := hb1257; clear hb1257
        refine s1k p1254.z rfl (yd p1254.z rfl rfl s1259) rfl fun a1260 p1261 s1262 => ?_
        have s1263 := p1261.o s1259 rfl
        refine s1k p1261.z rfl (yd p1261.z rfl rfl s1263) rfl fun a1264 p1265 s1266 => ?_
        have s1267 := p1265.o s1263 rfl
        refine s1k p1265.z rfl (yd p1265.z rfl rfl s1267) rfl fun a1268 p1269 s1270 => ?_
        have s1271 := p1269.o s1267 rfl
        refine s1k p1269.z rfl (yd p1269.z rfl rfl s1271) rfl fun a1272 p1273 s1274 => ?_
        have s1275 := p1273.o s1271 rfl
        refine s1k p1273.z rfl (yd p1273.z rfl rfl s1275) rfl fun a1276 p1277 s1278 => ?_
        have s1279 := p1277.o s1275 rfl
        refine s1k p1277.z rfl (yd p1277.z rfl rfl s1279) rfl fun a1280 p1281 s1282 => ?_
        have s1283 := p1281.o s1279 rfl
        refine s1k p1281.z rfl (yd p1281.z rfl rfl s1283) rfl fun a1284 p1285 s1286 => ?_
        have s1287 := p1285.o s1283 rfl
        refine s1 p1285.z (okPickF s1287 cst) rfl fun a1288 p1289 s1290 => ?_
        obtain rfl := Option.some.inj h
        exact rN ⟨rfl, rfl, (((((((((Pg.refl p1254.z).st p1261 rfl).st p1265 rfl).st p1269 rfl).st p1273 rfl).st p1277 rfl).st p1281 rfl).st p1285 rfl).st p1289 rfl), s1290⟩
      · have s1291 := bv s1255 hb1258
        replace hb1257 := (ifP hb1258).symm.trans hb1257
        clear h; have h := hb1257; clear hb1257
        have s1292 := p1254.o (pg1251.o (p1205.o (p1202.o (pg1198.o (pg628.o (pg466.o (pg57.o s0_3 rfl) rfl) rfl) rfl) rfl) rfl) rfl) rfl
        refine s1g p1254.z (okMv s1292) rfl (yd p1254.z rfl rfl s1291) fun a1293 p1294 s1295 => ?_
        have s1296 := p1294.o s1291 rfl
        have s1297 := p1294.o (p1254.o (pg1251.o (p1205.o (p1202.o (pg1198.o (pg628.o (pg466.o s52 rfl) rfl) rfl) rfl) rfl) rfl) rfl) rfl
        refine s1g p1294.z (okFA (o' := 12) fo25_5 s1297 rfl) rfl (yd p1294.z rfl rfl s1296) fun a1298 p1299 s1300 => ?_
        have s1301 := p1299.o s1296 rfl
        refine s1g p1299.z (okLd (j := 12) na23 s1300 (m26.cl) rfl rfl) rfl (yd p1299.z rfl rfl s1301) fun a1302 p1303 s1304 => ?_
        have s1305 := p1303.o s1301 rfl
        have q1306 := qh0_0.mono ((g6.tA (Nat.le_of_eq e7.symm)).trans (g15.tA (Nat.le_of_eq e16.symm)))
        obtain ⟨y1307, hy1308, h⟩ := Option.bind_eq_some_iff.1 h
        obtain ⟨b1309, o1310, cs1311, r1313, e1314, nb1315, k1312⟩ := q1306.at_ hy1308
        obtain rfl := r1313
        refine s1g p1303.z (k1312 Try.underlying23 Try.sizeOf45 s1304 cst _) rfl (yd p1303.z rfl rfl s1305) fun a1316 p1317 s1318 => ?_
        have s1319 := p1317.o s1305 rfl
        refine s1g p1317.z (okFA (o' := o1310) fo45_0 s1318 rfl) rfl (yd p1317.z rfl rfl s1319) fun a1320 p1321 s1322 => ?_
        have s1323 := p1321.o s1319 rfl
        refine s1g p1321.z (okLd (j := 0) na3 s1322 e1314 rfl rfl) rfl (yd p1321.z rfl rfl s1323) fun a1324 p1325 s1326 => ?_
        have s1327 := p1325.o s1323 rfl
        have s1328 := p1325.o (p1321.o (p1317.o (p1303.o (p1299.o s1295 rfl) rfl) rfl) rfl) rfl
        refine s1g p1325.z (okEq s1328 s1326) rfl (yd p1325.z rfl rfl s1327) fun a1329 p1330 s1331 => ?_
        have s1332 := p1330.o s1327 rfl
        refine s1 p1330.z (okPickT s1332 s1331) rfl fun a1333 p1334 s1335 => ?_
        obtain rfl := Option.some.inj h
        exact rN ⟨rfl, rfl, (((((((((Pg.refl p1254.z).st p1294 rfl).st p1299 rfl).st p1303 rfl).st p1317 rfl).st p1321 rfl).st p1325 rfl).st p1330 rfl).st p1334 rfl), s1335⟩
    rintro a1336 ⟨pg1337, s1338⟩
    refine rN (thenN ?_)
    have pg1339 : Pg _ [126, 127, 128, 129, 130, 131, 132, 133, 134, 135, 136, 137, 138, 139, 140, 141] _ _ := ((((((Pg.refl pg1198.z).st p1202 rfl).st p1205 rfl).tr pg1251 rfl).st p1254 rfl).tr pg1337 rfl)
    refine cnd s1338 (fun hb1340 => ?_) (fun hb1340 => ?_)
    · replace h := (ifP hb1340).symm.trans h
      refine wp_seq ?_
      refine reg ?_
      have s1341 := pg1339.o (pg1198.o (pg628.o (pg466.o s52 rfl) rfl) rfl) rfl
      refine s1 pg1339.z (okFA (o' := 12) fo25_5 s1341 rfl) rfl fun a1342 p1343 s1344 => ?_
      refine s1 p1343.z (okLd (j := 12) na23 s1344 (m26.cl) rfl rfl) rfl fun a1345 p1346 s1347 => ?_
      have q1348 := qh0_0.mono ((g6.tA (Nat.le_of_eq e7.symm)).trans (g15.tA (Nat.le_of_eq e16.symm)))
      obtain ⟨t1349, ht1350, h⟩ := Option.bind_eq_some_iff.1 h
      refine lS (oCall p1346.z Try.call28 (ag2 s1347 cst) (c28 k (b12 :: b3 :: L) w11 cx17.lt _ _ q1348 _ _ ht1350) rfl fun v1354 a1351 w1352 hp1355 p1353 sp1353 => ?_)
      obtain ⟨q1356, g1357⟩ := hp1355
      have cx1358 := cx17.ca g1357
      have s1359 := p1353.o (p1346.o (p1343.o s1341 rfl) rfl) rfl
      refine s1 p1353.z (okFA (o' := 12) fo25_5 s1359 rfl) rfl fun a1360 p1361 s1362 => ?_
      have s1363 := p1361.o sp1353 rfl
      have m1364 := m26.g0 g1357
      refine lS (oSto (cs := [v1354]) (l' := TThing.C ({ x0 with waiters := t1349 }) v1354) p1361.z s1362 s1363 m1364 Try.sizeOf23 q1356.cells (oneS q1356.one) rfl rfl fun w1365 m1366 g1367 => ?_)
      have cx1368 := cx1358.st g1367 f9
      refine rN (thenN ?_)
      refine wp_seq ?_
      refine reg ?_
      have s1369 := p1361.o s1359 rfl
      refine s1 p1361.z (okLdA ag25 s1369 (m1366.cl) rfl rfl whole) rfl fun a1370 p1371 s1372 => ?_
      have s1373 := p1371.o (p1361.o (p1353.o (p1346.o (p1343.o (pg1339.o (pg1198.o (pg628.o (pg466.o s53 rfl) rfl) rfl) rfl) rfl) rfl) rfl) rfl) rfl
      have m1374 := (m14.g0 g1357).g1 g1367 (m5.ne e16).symm
      have q1375 := q1356.mono (g1367.t1 (.tail _ (.head _)))
      refine lS (oStoW (cs := TThing.C ({ x0 with waiters := t1349 }) v1354) p1371.z s1373 s1372 m1374 Try.sizeOf25 rfl (TThing.C_one _ q1375.one) rfl fun w1376 m1377 g1378 => ?_)
      have cx1379 := cx1368.st g1378 f18
      refine s1 p1371.z (okAs cst) rfl fun a1380 p1381 s1382 => ?_
      refine rN (thenN ?_)
      have s1383 := p1381.o s1373 rfl
      obtain rfl := Option.some.inj h
      have q1384 := q1375.mono (g1378.t1 (.head _))
      exact wp_ret (blkR (thenR (ret2 p1381.z Try.results17 (rvA ag25 s1383 m1377 rfl) (rvT s1382) ⟨_, rfl, v1354, rfl, (q1384.mono ((Tr.refl _ _).sub (fun i h => (.tail _ (.tail _ h))))), cx1379.g⟩)))
    replace h := (ifN hb1340).symm.trans h
    refine wp_skip (blkN (thenN ?_))
    refine wp_seq ?_
    refine reg ?_
    have s1385 := pg1339.o (pg1198.o (pg628.o (pg466.o s52 rfl) rfl) rfl) rfl
    refine s1 pg1339.z (okLdA ag25 s1385 (m26.cl) rfl rfl whole) rfl fun a1386 p1387 s1388 => ?_
    have s1389 := p1387.o (pg1339.o (pg1198.o (pg628.o (pg466.o s53 rfl) rfl) rfl) rfl) rfl
    have q1390 := qh0_0.mono ((g6.tA (Nat.le_of_eq e7.symm)).trans (g15.tA (Nat.le_of_eq e16.symm)))
    refine lS (oStoW (cs := TThing.C x0 h0_0) p1387.z s1389 s1388 m14 Try.sizeOf25 rfl (TThing.C_one _ q1390.one) rfl fun w1391 m1392 g1393 => ?_)
    have cx1394 := cx17.st g1393 f18
    refine s1 p1387.z (okAs cst) rfl fun a1395 p1396 s1397 => ?_
    refine rN (thenN ?_)
    have s1398 := p1396.o s1389 rfl
    obtain rfl := Option.some.inj h
    have q1399 := q1390.mono (g1393.t1 (.head _))
    exact wp_ret (ret2 p1396.z Try.results17 (rvA ag25 s1398 m1392 rfl) (rvT s1397) ⟨_, rfl, h0_0, rfl, (q1399.mono ((Tr.refl _ _).sub (fun i h => (.tail _ (.tail _ h))))), cx1394.g⟩)
  replace h := (ifN hb1199).symm.trans h
  refine wp_seq ?_
  refine reg ?_
  refine s1 pg1198.z (okEq s1197 cst) rfl fun a1400 p1401 s1402 => ?_
  refine s1 p1401.z (okAs s1402) rfl fun a1403 p1404 s1405 => ?_
  refine rN (thenN ?_)
  refine cnd s1405 (fun hb1406 => ?_) (fun hb1406 => ?_)
  · replace h := (ifP hb1406).symm.trans h
    refine wp_seq ?_
    refine reg ?_
    have s1407 := p1404.o (p1401.o (pg1198.o (pg628.o (pg466.o s52 rfl) rfl) rfl) rfl) rfl
    refine s1 p1404.z (okLdA ag25 s1407 (m26.cl) rfl rfl whole) rfl fun a1408 p1409 s1410 => ?_
    have s1411 := p1409.o (p1404.o (p1401.o (pg1198.o (pg628.o (pg466.o s55 rfl) rfl) rfl) rfl) rfl) rfl
    refine s1 p1409.z (okMv s1411) rfl fun a1412 p1413 s1414 => ?_
    refine s1 p1413.z (okMv s1414) rfl fun a1415 p1416 s1417 => ?_
    refine cutP 5 (fun a' => Pg Try.f17.ntmps [152, 153, 154, 155, 156] a1415 a' ∧ a'.eval (.tmp 156) = .bool ((x0.owner == x1) && ((x0.waiters.length : Int) == 0))) ?_ ?_
    · rcases bf (x0.owner == x1) with hb1418 | hb1418
      · have s1419 := bv s1417 hb1418
        refine s1k p1416.z rfl (yd p1416.z rfl rfl s1419) rfl fun a1420 p1421 s1422 => ?_
        have s1423 := p1421.o s1419 rfl
        refine s1k p1421.z rfl (yd p1421.z rfl rfl s1423) rfl fun a1424 p1425 s1426 => ?_
        have s1427 := p1425.o s1423 rfl
        refine s1k p1425.z rfl (yd p1425.z rfl rfl s1427) rfl fun a1428 p1429 s1430 => ?_
        have s1431 := p1429.o s1427 rfl
        refine s1k p1429.z rfl (yd p1429.z rfl rfl s1431) rfl fun a1432 p1433 s1434 => ?_
        have s1435 := p1433.o s1431 rfl
        refine s1 p1433.z (okPickF s1435 cst) rfl fun a1436 p1437 s1438 => ?_
        exact rN ⟨rfl, rfl, ((((((Pg.refl p1416.z).st p1421 rfl).st p1425 rfl).st p1429 rfl).st p1433 rfl).st p1437 rfl), (andF hb1418 s1438)⟩
      · have s1439 := bv s1417 hb1418
        have s1440 := p1416.o (p1413.o (p1409.o s1407 rfl) rfl) rfl
        refine s1g p1416.z (okFA (o' := 12) fo25_5 s1440 rfl) rfl (yd p1416.z rfl rfl s1439) fun a1441 p1442 s1443 => ?_
        have s1444 := p1442.o s1439 rfl
        refine s1g p1442.z (okLd (j := 12) na23 s1443 (m26.cl) rfl rfl) rfl (yd p1442.z rfl rfl s1444) fun a1445 p1446 s1447 => ?_
        have s1448 := p1446.o s1444 rfl
        have q1449 := qh0_0.mono ((g6.tA (Nat.le_of_eq e7.symm)).trans (g15.tA (Nat.le_of_eq e16.symm)))
        refine s1g p1446.z (okLenR Try.underlying23 s1447 q1449) rfl (yd p1446.z rfl rfl s1448) fun a1450 p1451 s1452 => ?_
        have s1453 := p1451.o s1448 rfl
        refine s1g p1451.z (okEq s1452 cst) rfl (yd p1451.z rfl rfl s1453) fun a1454 p1455 s1456 => ?_
        have s1457 := p1455.o s1453 rfl
        refine s1 p1455.z (okPickT s1457 s1456) rfl fun a1458 p1459 s1460 => ?_
        exact rN ⟨rfl, rfl, ((((((Pg.refl p1416.z).st p1442 rfl).st p1446 rfl).st p1451 rfl).st p1455 rfl).st p1459 rfl), (andT hb1418 s1460)⟩
    rintro a1461 ⟨pg1462, s1463⟩
    refine s1 pg1462.z (okMv s1463) rfl fun a1464 p1465 s1466 => ?_
    refine cutP 3 (fun a' => Pg Try.f17.ntmps [158, 159, 160] a1464 a' ∧ a'.eval (.tmp 160) = .bool (((x0.owner == x1) && ((x0.waiters.length : Int) == 0)) && (x3 == 0))) ?_ ?_
    · rcases bf ((x0.owner == x1) && ((x0.waiters.length : Int) == 0)) with hb1467 | hb1467
      · have s1468 := bv s1466 hb1467
        refine s1k p1465.z rfl (yd p1465.z rfl rfl s1468) rfl fun a1469 p1470 s1471 => ?_
        have s1472 := p1470.o s1468 rfl
        refine s1k p1470.z rfl (yd p1470.z rfl rfl s1472) rfl fun a1473 p1474 s1475 => ?_
        have s1476 := p1474.o s1472 rfl
        refine s1 p1474.z (okPickF s1476 cst) rfl fun a1477 p1478 s1479 => ?_
        exact rN ⟨rfl, rfl, ((((Pg.refl p1465.z).st p1470 rfl).st p1474 rfl).st p1478 rfl), (andF hb1467 s1479)⟩
      · have s1480 := bv s1466 hb1467
        have s1481 := p1465.o (pg1462.o (p1416.o (p1413.o (p1409.o (p1404.o (p1401.o (pg1198.o (pg628.o (pg466.o (pg57.o s0_3 rfl) rfl) rfl) rfl) rfl) rfl) rfl) rfl) rfl) rfl) rfl
        refine s1g p1465.z (okMv s1481) rfl (yd p1465.z rfl rfl s1480) fun a1482 p1483 s1484 => ?_
        have s1485 := p1483.o s1480 rfl
        refine s1g p1483.z (okEq s1484 cst) rfl (yd p1483.z rfl rfl s1485) fun a1486 p1487 s1488 => ?_
        have s1489 := p1487.o s1485 rfl
        refine s1 p1487.z (okPickT s1489 s1488) rfl fun a1490 p1491 s1492 => ?_
        exact rN ⟨rfl, rfl, ((((Pg.refl p1465.z).st p1483 rfl).st p1487 rfl).st p1491 rfl), (andT hb1467 s1492)⟩
    rintro a1493 ⟨pg1494, s1495⟩
    have s1496 := pg1494.o (p1465.o (pg1462.o (p1416.o (p1413.o (p1409.o (p1404.o (p1401.o (pg1198.o (pg628.o (pg466.o s53 rfl) rfl) rfl) rfl) rfl) rfl) rfl) rfl) rfl) rfl) rfl
    have s1497 := pg1494.o (p1465.o (pg1462.o (p1416.o (p1413.o s1410 rfl) rfl) rfl) rfl) rfl
    have q1498 := qh0_0.mono ((g6.tA (Nat.le_of_eq e7.symm)).trans (g15.tA (Nat.le_of_eq e16.symm)))
    refine lS (oStoW (cs := TThing.C x0 h0_0) pg1494.z s1496 s1497 m14 Try.sizeOf25 rfl (TThing.C_one _ q1498.one) rfl fun w1499 m1500 g1501 => ?_)
    have cx1502 := cx17.st g1501 f18
    refine s1 pg1494.z (okAs s1495) rfl fun a1503 p1504 s1505 => ?_
    refine rN (thenN ?_)
    have s1506 := p1504.o s1496 rfl
    obtain rfl := Option.some.inj h
    have q1507 := q1498.mono (g1501.t1 (.head _))
    exact wp_ret (blkR (thenR (ret2 p1504.z Try.results17 (rvA ag25 s1506 m1500 rfl) (rvT s1505) ⟨_, rfl, h0_0, rfl, (q1507.mono ((Tr.refl _ _).sub (fun i h => (.tail _ (.tail _ h))))), cx1502.g⟩)))
  replace h := (ifN hb1406).symm.trans h
  refine wp_seq ?_
  refine reg ?_
  have s1508 := p1404.o (p1401.o s1197 rfl) rfl
  refine s1 p1404.z (okEq s1508 cst) rfl fun a1509 p1510 s1511 => ?_
  refine s1 p1510.z (okAs s1511) rfl fun a1512 p1513 s1514 => ?_
  refine rN (thenN ?_)
  have pg1515 : Pg _ [147, 148, 161, 162] _ _ := (((((Pg.refl pg1198.z).st p1401 rfl).st p1404 rfl).st p1510 rfl).st p1513 rfl)
  refine cnd s1514 (fun hb1516 => ?_) (fun hb1516 => ?_)
  · replace h := (ifP hb1516).symm.trans h
    refine wp_seq ?_
    refine reg ?_
    have s1517 := pg1515.o (pg1198.o (pg628.o (pg466.o s52 rfl) rfl) rfl) rfl
    refine s1 pg1515.z (okLdA ag25 s1517 (m26.cl) rfl rfl whole) rfl fun a1518 p1519 s1520 => ?_
    have s1521 := p1519.o (pg1515.o (pg1198.o (pg628.o (pg466.o s51 rfl) rfl) rfl) rfl) rfl
    refine s1 p1519.z (okMv s1521) rfl fun a1522 p1523 s1524 => ?_
    have s1525 := p1523.o s1520 rfl
    have q1526 := qh0_0.mono ((g6.tA (Nat.le_of_eq e7.symm)).trans (g15.tA (Nat.le_of_eq e16.symm)))
    obtain ⟨t1527, ht1528, h⟩ := Option.bind_eq_some_iff.1 h
    refine lS (oCall p1523.z Try.call26 (ag2 s1525 s1524) (c26 k (b12 :: b3 :: L) w11 cx17.lt _ _ q1526 _ _ ht1528) rfl fun v1532 a1529 w1530 hp1533 p1531 sp1531 => ?_)
    obtain ⟨rfl, g1534⟩ := hp1533
    have cx1535 := cx17.ca g1534
    refine s1 p1531.z (okAs sp1531) rfl fun a1536 p1537 s1538 => ?_
    refine rN (thenN ?_)
    refine wp_seq ?_
    refine reg ?_
    refine s1 p1537.z (okMv s1538) rfl fun a1539 p1540 s1541 => ?_
    refine s1 p1540.z (okGe s1541 cst) rfl fun a1542 p1543 s1544 => ?_
    refine s1 p1543.z (okMv s1544) rfl fun a1545 p1546 s1547 => ?_
    refine cutP 3 (fun a' => Pg Try.f17.ntmps [169, 170, 171] a1545 a' ∧ a'.eval (.tmp 171) = .bool ((decide (0 ≤ t1527)) && (x3 == 0))) ?_ ?_
    · rcases bf (decide (0 ≤ t1527)) with hb1548 | hb1548
      · have s1549 := bv s1547 hb1548
        refine s1k p1546.z rfl (yd p1546.z rfl rfl s1549) rfl fun a1550 p1551 s1552 => ?_
        have s1553 := p1551.o s1549 rfl
        refine s1k p1551.z rfl (yd p1551.z rfl rfl s1553) rfl fun a1554 p1555 s1556 => ?_
        have s1557 := p1555.o s1553 rfl
        refine s1 p1555.z (okPickF s1557 cst) rfl fun a1558 p1559 s1560 => ?_
        exact rN ⟨rfl, rfl, ((((Pg.refl p1546.z).st p1551 rfl).st p1555 rfl).st p1559 rfl), (andF hb1548 s1560)⟩
      · have s1561 := bv s1547 hb1548
        have s1562 := p1546.o (p1543.o (p1540.o (p1537.o (p1531.o (p1523.o (p1519.o (pg1515.o (pg1198.o (pg628.o (pg466.o (pg57.o s0_3 rfl) rfl) rfl) rfl) rfl) rfl) rfl) rfl) rfl) rfl) rfl) rfl
        refine s1g p1546.z (okMv s1562) rfl (yd p1546.z rfl rfl s1561) fun a1563 p1564 s1565 => ?_
        have s1566 := p1564.o s1561 rfl
        refine s1g p1564.z (okEq s1565 cst) rfl (yd p1564.z rfl rfl s1566) fun a1567 p1568 s1569 => ?_
        have s1570 := p1568.o s1566 rfl
        refine s1 p1568.z (okPickT s1570 s1569) rfl fun a1571 p1572 s1573 => ?_
        exact rN ⟨rfl, rfl, ((((Pg.refl p1546.z).st p1564 rfl).st p1568 rfl).st p1572 rfl), (andT hb1548 s1573)⟩
    rintro a1574 ⟨pg1575, s1576⟩
    refine rN (thenN ?_)
    have s1577 := pg1575.o (p1546.o (p1543.o (p1540.o (p1537.o (p1531.o (p1523.o s1521 rfl) rfl) rfl) rfl) rfl) rfl) rfl
    have s1578 := pg1575.o (p1546.o (p1543.o (p1540.o s1538 rfl) rfl) rfl) rfl
    have pg1579 : Pg _ [11, 163, 164, 165, 166, 167, 168, 169, 170, 171] _ _ := (((((((((Pg.refl pg1515.z).st p1519 rfl).st p1523 rfl).st p1531 rfl).st p1537 rfl).st p1540 rfl).st p1543 rfl).st p1546 rfl).tr pg1575 rfl)
    refine cnd s1576 (fun hb1580 => ?_) (fun hb1580 => ?_)
    · replace h := (ifP hb1580).symm.trans h
      refine wp_seq ?_
      refine wp_block ?_
      obtain ⟨o1583, ho1584, h⟩ := Option.bind_eq_some_iff.1 h
      have s1587 := pg1579.o s1517 rfl
      have s1588 := pg1579.o (pg1515.o (pg1198.o (pg628.o (pg466.o s53 rfl) rfl) rfl) rfl) rfl
      have s1589 := pg1579.o (pg1515.o (pg1198.o (pg628.o (pg466.o s54 rfl) rfl) rfl) rfl) rfl
      have m1590 := m26.g0 g1534
      have m1591 := m14.g0 g1534
      have q1592 := q1526.mono g1534.t0
      refine loopX (I := (fun k' a' w' => ∃ i1581 i1582 h1585, Z Try.f17.ntmps a' ∧ a'.eval (.tmp 1) = .int .i64 x1 ∧ a'.eval (.tmp 4) = ptr b3 0 ∧ a'.eval (.tmp 8) = ptr b12 0 ∧ a'.eval (.tmp 9) = .bool false ∧ a'.eval (.tmp 11) = .int .i64 i1582 ∧ Bk w' b3 (TThing.C ({ x0 with waiters := i1581 }) h1585) 25 ∧ Bk w' b12 (TThing.C (⟨0, 0, 0, 0, Arr8.zero, [], 0, 0⟩ : TThing) (.slice none 0 0)) 25 ∧ RdS KTWaiter (b12 :: b3 :: L) w' h1585 i1581 ∧ Cx [] w (b12 :: b3 :: L) w' ∧ tholeref10_lock.l0 x0 x1 k' i1581 i1582 = some o1583)) 1 (fun a' w' => ∃ h1586, Z Try.f17.ntmps a' ∧ a'.eval (.tmp 4) = ptr b3 0 ∧ a'.eval (.tmp 8) = ptr b12 0 ∧ a'.eval (.tmp 9) = .bool false ∧ Bk w' b3 (TThing.C ({ x0 with waiters := o1583 }) h1586) 25 ∧ Bk w' b12 (TThing.C (⟨0, 0, 0, 0, Arr8.zero, [], 0, 0⟩ : TThing) (.slice none 0 0)) 25 ∧ RdS KTWaiter (b12 :: b3 :: L) w' h1586 o1583 ∧ Cx [] w (b12 :: b3 :: L) w') ⟨x0.waiters, t1527, h0_0, pg1579.z, s1577, s1587, s1588, s1589, s1578, m1590, m1591, q1592, cx1535, ho1584⟩ ?_ ?_
      · have oh1606 := h; clear h ho1584
        rintro k1593 a1594 w1595 ⟨i1581, i1582, h1585, z1596, s1597, s1598, s1599, s1600, s1601, m1602, m1603, q1604, cx1605, h⟩
        obtain _ | k := k1593
        case zero => cases h
        rw [tholeref10_lock.l0] at h
        refine wp_seq ?_
        refine wp_seq ?_
        refine reg ?_
        refine s1 z1596 (okMv s1601) rfl fun a1607 p1608 s1609 => ?_
        refine s1 p1608.z (okGe s1609 cst) rfl fun a1610 p1611 s1612 => ?_
        refine rN (thenN ?_)
        refine cnd s1612 (fun hb1613 => ?_) (fun hb1613 => ?_)
        · replace h := (ifP hb1613).symm.trans h
          refine wp_skip (thenN ?_)
          refine wp_block ?_
          refine wp_seq ?_
          refine reg ?_
          have s1614 := p1611.o (p1608.o s1598 rfl) rfl
          refine s1 p1611.z (okFA (o' := 12) fo25_5 s1614 rfl) rfl fun a1615 p1616 s1617 => ?_
          refine s1 p1616.z (okLd (j := 12) na23 s1617 (m1602.cl) rfl rfl) rfl fun a1618 p1619 s1620 => ?_
          have s1621 := p1619.o (p1616.o (p1611.o (p1608.o s1601 rfl) rfl) rfl) rfl
          refine s1 p1619.z (okMv s1621) rfl fun a1622 p1623 s1624 => ?_
          have s1625 := p1623.o s1620 rfl
          obtain ⟨t1626, ht1627, h⟩ := Option.bind_eq_some_iff.1 h
          refine lS (oCall p1623.z Try.call28 (ag2 s1625 s1624) (c28 k (b12 :: b3 :: L) w1595 cx1605.lt _ _ q1604 _ _ ht1627) rfl fun v1631 a1628 w1629 hp1632 p1630 sp1630 => ?_)
          obtain ⟨q1633, g1634⟩ := hp1632
          have cx1635 := cx1605.ca g1634
          have s1636 := p1630.o (p1623.o (p1619.o (p1616.o s1614 rfl) rfl) rfl) rfl
          refine s1 p1630.z (okFA (o' := 12) fo25_5 s1636 rfl) rfl fun a1637 p1638 s1639 => ?_
          have s1640 := p1638.o sp1630 rfl
          have m1641 := m1602.g0 g1634
          refine lS (oSto (cs := [v1631]) (l' := TThing.C ({ x0 with waiters := t1626 }) v1631) p1638.z s1639 s1640 m1641 Try.sizeOf23 q1633.cells (oneS q1633.one) rfl rfl fun w1642 m1643 g1644 => ?_)
          have cx1645 := cx1635.st g1644 f9
          refine rN (thenN ?_)
          refine reg ?_
          have s1646 := p1638.o s1636 rfl
          refine s1 p1638.z (okLdA ag25 s1646 (m1643.cl) rfl rfl whole) rfl fun a1647 p1648 s1649 => ?_
          have s1650 := p1648.o (p1638.o (p1630.o (p1623.o (p1619.o (p1616.o (p1611.o (p1608.o s1597 rfl) rfl) rfl) rfl) rfl) rfl) rfl) rfl
          refine s1 p1648.z (okMv s1650) rfl fun a1651 p1652 s1653 => ?_
          have s1654 := p1652.o s1649 rfl
          have q1655 := q1633.mono (g1644.t1 (.tail _ (.head _)))
          obtain ⟨t1656, ht1657, h⟩ := Option.bind_eq_some_iff.1 h
          refine lS (oCall p1652.z Try.call26 (ag2 s1654 s1653) (c26 k (b12 :: b3 :: L) w1642 cx1645.lt _ _ q1655 _ _ ht1657) rfl fun v1661 a1658 w1659 hp1662 p1660 sp1660 => ?_)
          obtain ⟨rfl, g1663⟩ := hp1662
          have cx1664 := cx1645.ca g1663
          refine s1 p1660.z (okAs sp1660) rfl fun a1665 p1666 s1667 => ?_
          have s1668 := p1666.o (p1660.o (p1652.o s1650 rfl) rfl) rfl
          have s1669 := p1666.o (p1660.o (p1652.o (p1648.o s1646 rfl) rfl) rfl) rfl
          have s1670 := p1666.o (p1660.o (p1652.o (p1648.o (p1638.o (p1630.o (p1623.o (p1619.o (p1616.o (p1611.o (p1608.o s1599 rfl) rfl) rfl) rfl) rfl) rfl) rfl) rfl) rfl) rfl) rfl
          have s1671 := p1666.o (p1660.o (p1652.o (p1648.o (p1638.o (p1630.o (p1623.o (p1619.o (p1616.o (p1611.o (p1608.o s1600 rfl) rfl) rfl) rfl) rfl) rfl) rfl) rfl) rfl) rfl) rfl
          have m1672 := m1643.g0 g1663
          have m1673 := ((m1603.g0 g1634).g1 g1644 (m5.ne e16).symm).g0 g1663
          have q1674 := q1655.mono g1663.t0
          exact rN (blkN (thenN ⟨k, Nat.lt_succ_self k, t1626, t1656, v1631, p1666.z, s1668, s1669, s1670, s1671, s1667, m1672, m1673, q1674, cx1664, h⟩))
        replace h := (ifN hb1613).symm.trans h
        obtain rfl := Option.some.inj h
        have s1675 := p1611.o (p1608.o s1598 rfl) rfl
        have s1676 := p1611.o (p1608.o s1599 rfl) rfl
        have s1677 := p1611.o (p1608.o s1600 rfl) rfl
        exact wp_exit (thenE (thenE (jqE ⟨h1585, p1611.z, s1675, s1676, s1677, m1602, m1603, q1604, cx1605⟩)))
      clear ho1584
      rintro a1678 w1679 ⟨h1586, z1680, s1681, s1682, s1683, m1684, m1685, q1686, cx1687⟩
      refine blkE (thenN ?_)
      refine wp_seq ?_
      refine reg ?_
      refine s1 z1680 (okLdA ag25 s1681 (m1684.cl) rfl rfl whole) rfl fun a1688 p1689 s1690 => ?_
      have s1691 := p1689.o s1682 rfl
      refine lS (oStoW (cs := TThing.C ({ x0 with waiters := o1583 }) h1586) p1689.z s1691 s1690 m1685 Try.sizeOf25 rfl (TThing.C_one _ q1686.one) rfl fun w1692 m1693 g1694 => ?_)
      have cx1695 := cx1687.st g1694 f18
      refine s1 p1689.z (okAs cst) rfl fun a1696 p1697 s1698 => ?_
      refine rN (thenN ?_)
      have s1699 := p1697.o s1691 rfl
      obtain rfl := Option.some.inj h
      have q1700 := q1686.mono (g1694.t1 (.head _))
      exact wp_ret (blkR (thenR (ret2 p1697.z Try.results17 (rvA ag25 s1699 m1693 rfl) (rvT s1698) ⟨_, rfl, h1586, rfl, (q1700.mono ((Tr.refl _ _).sub (fun i h => (.tail _ (.tail _ h))))), cx1695.g⟩)))
    replace h := (ifN hb1580).symm.trans h
    refine wp_skip (blkN (thenN ?_))
    refine wp_seq ?_
    refine reg ?_
    have s1701 := pg1579.o s1517 rfl
    have m1702 := m26.g0 g1534
    refine s1 pg1579.z (okLdA ag25 s1701 (m1702.cl) rfl rfl whole) rfl fun a1703 p1704 s1705 => ?_
    have s1706 := p1704.o (pg1579.o (pg1515.o (pg1198.o (pg628.o (pg466.o s53 rfl) rfl) rfl) rfl) rfl) rfl
    have m1707 := m14.g0 g1534
    have q1708 := q1526.mono g1534.t0
    refine lS (oStoW (cs := TThing.C x0 h0_0) p1704.z s1706 s1705 m1707 Try.sizeOf25 rfl (TThing.C_one _ q1708.one) rfl fun w1709 m1710 g1711 => ?_)
    have cx1712 := cx1535.st g1711 f18
    refine s1 p1704.z (okAs cst) rfl fun a1713 p1714 s1715 => ?_
    refine rN (thenN ?_)
    have s1716 := p1714.o s1706 rfl
    obtain rfl := Option.some.inj h
    have q1717 := q1708.mono (g1711.t1 (.head _))
    exact wp_ret (ret2 p1714.z Try.results17 (rvA ag25 s1716 m1710 rfl) (rvT s1715) ⟨_, rfl, h0_0, rfl, (q1717.mono ((Tr.refl _ _).sub (fun i h => (.tail _ (.tail _ h))))), cx1712.g⟩)
  replace h := (ifN hb1516).symm.trans h
  refine wp_skip (blkN (thenN ?_))
  refine wp_seq ?_
  refine reg ?_
  have s1718 := pg1515.o (pg1198.o (pg628.o (pg466.o s52 rfl) rfl) rfl) rfl
  refine s1 pg1515.z (okLdA ag25 s1718 (m26.cl) rfl rfl whole) rfl fun a1719 p1720 s1721 => ?_
  have s1722 := p1720.o (pg1515.o (pg1198.o (pg628.o (pg466.o s53 rfl) rfl) rfl) rfl) rfl
  have q1723 := qh0_0.mono ((g6.tA (Nat.le_of_eq e7.symm)).trans (g15.tA (Nat.le_of_eq e16.symm)))
  refine lS (oStoW (cs := TThing.C x0 h0_0) p1720.z s1722 s1721 m14 Try.sizeOf25 rfl (TThing.C_one _ q1723.one) rfl fun w1724 m1725 g1726 => ?_)
  have cx1727 := cx17.st g1726 f18
  refine s1 p1720.z (okAs cst) rfl fun a1728 p1729 s1730 => ?_
  refine rN (thenN ?_)
  have s1731 := p1729.o s1722 rfl
  obtain rfl := Option.some.inj h
  have q1732 := q1723.mono (g1726.t1 (.head _))
  exact wp_ret (ret2 p1729.z Try.results17 (rvA ag25 s1731 m1725 rfl) (rvT s1730) ⟨_, rfl, h0_0, rfl, (q1732.mono ((Tr.refl _ _).sub (fun i h => (.tail _ (.tail _ h))))), cx1727.g⟩)

set_option maxHeartbeats 4000000 in
theorem c18 (L : List Nat) (w : World) (hL : ∀ b ∈ L, b < w.heap.size) (x0 : TThing) (h0_0 : Value) (qh0_0 : RdS KTWaiter L w h0_0 x0.waiters) (x1 : Int) (x2 : Int) (r : TThing × Bool) (h : tholeref10_sema x0 x1 x2 = some r) : Calls Try.prog 18 #[.agg (TThing.C x0 h0_0).toArray, .int .i64 x1, .int .i64 x2] w (fun e w' => ∃ v, e = .returned v ∧ ∃ u_0, v = .tuple #[.agg (TThing.C r.1 u_0).toArray, .bool r.2] ∧ RdS KTWaiter L w' u_0 r.1.waiters ∧ G [] w w') := by
  refine enterF Try.func18 rfl rfl fun a0 z0 A => ?_
  have s0_0 := A 0 (.agg (TThing.C x0 h0_0).toArray) rfl
  have s0_1 := A 1 (.int .i64 x1) rfl
  have s0_2 := A 2 (.int .i64 x2) rfl
  clear A
  have c0 : Cx [] w L w := ⟨G.refl _ _, hL⟩
  unfold tholeref10_sema at h
  refine wp_seq ?_
  refine reg ?_
  refine lS (oBox (l := TThing.C x0 h0_0) z0 s0_0 rfl rfl fun a1 w2 b3 p4 sp4 m5 g6 e7 => ?_)
  have f9 := c0.nw e7
  have cx8 := c0.al g6 m5
  refine lS (oAlloc zv25 p4.z rfl fun a10 w11 b12 p13 sp13 m14 g15 e16 => ?_)
  have f18 := cx8.nw e16
  have cx17 := cx8.al g15 m14
  refine s1 p13.z (okAs cst) rfl fun a19 p20 s21 => ?_
  refine rN (thenN ?_)
  refine wp_seq ?_
  refine reg ?_
  have s22 := p20.o (p13.o sp4 rfl) rfl
  refine s1 p20.z (okFA (o' := 1) fo25_1 s22 rfl) rfl fun a23 p24 s25 => ?_
  have m26 := m5.g0 g15
  refine s1 p24.z (okLd (j := 1) na3 s25 (m26.cl) rfl rfl) rfl fun a27 p28 s29 => ?_
  refine s1 p28.z (okAs s29) rfl fun a30 p31 s32 => ?_
  refine rN (thenN ?_)
  refine wp_seq ?_
  refine wp_seq ?_
  refine reg ?_
  have s33 := p31.o (p28.o (p24.o (p20.o (p13.o (p4.o s0_1 rfl) rfl) rfl) rfl) rfl) rfl
  refine s1 p31.z (okMv s33) rfl fun a34 p35 s36 => ?_
  refine rN (thenN ?_)
  refine wp_block ?_
  refine wp_seq ?_
  refine reg ?_
  refine s1 p35.z (okEq s36 cst) rfl fun a37 p38 s39 => ?_
  refine s1 p38.z (okAs s39) rfl fun a40 p41 s42 => ?_
  refine rN (thenN ?_)
  have s43 := p41.o (p38.o (p35.o (p31.o (p28.o (p24.o s22 rfl) rfl) rfl) rfl) rfl) rfl
  have s44 := p41.o (p38.o (p35.o (p31.o (p28.o (p24.o (p20.o sp13 rfl) rfl) rfl) rfl) rfl) rfl) rfl
  have s45 := p41.o (p38.o (p35.o (p31.o (p28.o (p24.o s21 rfl) rfl) rfl) rfl) rfl) rfl
  have s46 := p41.o (p38.o (p35.o s32 rfl) rfl) rfl
  have s47 := p41.o (p38.o s36 rfl) rfl
  have pg48 : Pg _ [3, 6, 7, 8, 9, 10, 11, 12, 13] _ _ := ((((((((((Pg.refl z0).st p4 rfl).st p13 rfl).st p20 rfl).st p24 rfl).st p28 rfl).st p31 rfl).st p35 rfl).st p38 rfl).st p41 rfl)
  refine cnd s42 (fun hb49 => ?_) (fun hb49 => ?_)
  · replace h := (ifP hb49).symm.trans h
    refine wp_seq ?_
    refine reg ?_
    have s50 := pg48.o s0_2 rfl
    refine s1 pg48.z (okMv s50) rfl fun a51 p52 s53 => ?_
    refine s1 p52.z (okGe s53 cst) rfl fun a54 p55 s56 => ?_
    refine s1 p55.z (okMv s56) rfl fun a57 p58 s59 => ?_
    refine cutP 4 (fun a' => Pg Try.f18.ntmps [17, 18, 19, 20] a57 a' ∧ a'.eval (.tmp 20) = .bool ((decide (1 ≤ x2)) && (decide (x2 ≤ x0.n)))) ?_ ?_
    · rcases bf (decide (1 ≤ x2)) with hb60 | hb60
      · have s61 := bv s59 hb60
        refine s1k p58.z rfl (yd p58.z rfl rfl s61) rfl fun a62 p63 s64 => ?_
        have s65 := p63.o s61 rfl
        refine s1k p63.z rfl (yd p63.z rfl rfl s65) rfl fun a66 p67 s68 => ?_
        have s69 := p67.o s65 rfl
        refine s1k p67.z rfl (yd p67.z rfl rfl s69) rfl fun a70 p71 s72 => ?_
        have s73 := p71.o s69 rfl
        refine s1 p71.z (okPickF s73 cst) rfl fun a74 p75 s76 => ?_
        exact rN ⟨rfl, rfl, (((((Pg.refl p58.z).st p63 rfl).st p67 rfl).st p71 rfl).st p75 rfl), (andF hb60 s76)⟩
      · have s77 := bv s59 hb60
        have s78 := p58.o (p55.o (p52.o s50 rfl) rfl) rfl
        refine s1g p58.z (okMv s78) rfl (yd p58.z rfl rfl s77) fun a79 p80 s81 => ?_
        have s82 := p80.o s77 rfl
        have s83 := p80.o (p58.o (p55.o (p52.o s46 rfl) rfl) rfl) rfl
        refine s1g p80.z (okMv s83) rfl (yd p80.z rfl rfl s82) fun a84 p85 s86 => ?_
        have s87 := p85.o s82 rfl
        have s88 := p85.o s81 rfl
        refine s1g p85.z (okLe s88 s86) rfl (yd p85.z rfl rfl s87) fun a89 p90 s91 => ?_
        have s92 := p90.o s87 rfl
        refine s1 p90.z (okPickT s92 s91) rfl fun a93 p94 s95 => ?_
        exact rN ⟨rfl, rfl, (((((Pg.refl p58.z).st p80 rfl).st p85 rfl).st p90 rfl).st p94 rfl), (andT hb60 s95)⟩
    rintro a96 ⟨pg97, s98⟩
    refine rN (thenN ?_)
    have pg99 : Pg _ [14, 15, 16, 17, 18, 19, 20] _ _ := (((((Pg.refl pg48.z).st p52 rfl).st p55 rfl).st p58 rfl).tr pg97 rfl)
    refine cnd s98 (fun hb100 => ?_) (fun hb100 => ?_)
    · replace h := (ifP hb100).symm.trans h
      refine wp_seq ?_
      refine reg ?_
      have s101 := pg99.o s46 rfl
      refine s1 pg99.z (okMv s101) rfl fun a102 p103 s104 => ?_
      have s105 := p103.o (pg99.o s50 rfl) rfl
      refine s1 p103.z (okMv s105) rfl fun a106 p107 s108 => ?_
      have s109 := p107.o s104 rfl
      refine s1 p107.z (okSub s109 s108) rfl fun a110 p111 s112 => ?_
      have s113 := p111.o (p107.o (p103.o (pg99.o s43 rfl) rfl) rfl) rfl
      refine s1 p111.z (okFA (o' := 1) fo25_1 s113 rfl) rfl fun a114 p115 s116 => ?_
      have s117 := p115.o s112 rfl
      refine lS (oSto (cs := [.int .i64 (w64 (x0.n - x2))]) (l' := TThing.C ({ x0 with n := w64 (x0.n - x2) }) h0_0) p115.z s116 s117 m26 Try.sizeOf3 rfl one1 rfl rfl fun w118 m119 g120 => ?_)
      have cx121 := cx17.st g120 f9
      refine rN (thenN ?_)
      refine wp_seq ?_
      refine reg ?_
      have s122 := p115.o s113 rfl
      refine s1 p115.z (okLdA ag25 s122 (m119.cl) rfl rfl whole) rfl fun a123 p124 s125 => ?_
      have s126 := p124.o (p115.o (p111.o (p107.o (p103.o (pg99.o s44 rfl) rfl) rfl) rfl) rfl) rfl
      have m127 := m14.g1 g120 (m5.ne e16).symm
      have q128 := qh0_0.mono (((g6.tA (Nat.le_of_eq e7.symm)).trans (g15.tA (Nat.le_of_eq e16.symm))).trans (g120.t1 (.tail _ (.head _))))
      refine lS (oStoW (cs := TThing.C ({ x0 with n := w64 (x0.n - x2) }) h0_0) p124.z s126 s125 m127 Try.sizeOf25 rfl (TThing.C_one _ q128.one) rfl fun w129 m130 g131 => ?_)
      have cx132 := cx121.st g131 f18
      refine s1 p124.z (okAs cst) rfl fun a133 p134 s135 => ?_
      refine rN (thenN ?_)
      have s136 := p134.o s126 rfl
      obtain rfl := Option.some.inj h
      have q137 := q128.mono (g131.t1 (.head _))
      exact wp_ret (blkR (thenR (ret2 p134.z Try.results18 (rvA ag25 s136 m130 rfl) (rvT s135) ⟨_, rfl, h0_0, rfl, (q137.mono ((Tr.refl _ _).sub (fun i h => (.tail _ (.tail _ h))))), cx132.g⟩)))
    replace h := (ifN hb100).symm.trans h
    refine wp_skip (blkN (thenN ?_))
    refine wp_seq ?_
    refine reg ?_
    have s138 := pg99.o s43 rfl
    refine s1 pg99.z (okLdA ag25 s138 (m26.cl) rfl rfl whole) rfl fun a139 p140 s141 => ?_
    have s142 := p140.o (pg99.o s44 rfl) rfl
    have q143 := qh0_0.mono ((g6.tA (Nat.le_of_eq e7.symm)).trans (g15.tA (Nat.le_of_eq e16.symm)))
    refine lS (oStoW (cs := TThing.C x0 h0_0) p140.z s142 s141 m14 Try.sizeOf25 rfl (TThing.C_one _ q143.one) rfl fun w144 m145 g146 => ?_)
    have cx147 := cx17.st g146 f18
    refine s1 p140.z (okAs cst) rfl fun a148 p149 s150 => ?_
    refine rN (thenN ?_)
    have s151 := p149.o s142 rfl
    obtain rfl := Option.some.inj h
    have q152 := q143.mono (g146.t1 (.head _))
    exact wp_ret (ret2 p149.z Try.results18 (rvA ag25 s151 m145 rfl) (rvT s150) ⟨_, rfl, h0_0, rfl, (q152.mono ((Tr.refl _ _).sub (fun i h => (.tail _ (.tail _ h))))), cx147.g⟩)
  replace h := (ifN hb49).symm.trans h
  refine wp_seq ?_
  refine reg ?_
  refine s1 pg48.z (okEq s47 cst) rfl fun a153 p154 s155 => ?_
  refine s1 p154.z (okAs s155) rfl fun a156 p157 s158 => ?_
  refine rN (thenN ?_)
  refine cnd s158 (fun hb159 => ?_) (fun hb159 => ?_)
  · replace h := (ifP hb159).symm.trans h
    refine wp_seq ?_
    refine reg ?_
    have s160 := p157.o (p154.o (pg48.o s0_2 rfl) rfl) rfl
    refine s1 p157.z (okMv s160) rfl fun a161 p162 s163 => ?_
    refine s1 p162.z (okGe s163 cst) rfl fun a164 p165 s166 => ?_
    refine s1 p165.z (okMv s166) rfl fun a167 p168 s169 => ?_
    refine cutP 5 (fun a' => Pg Try.f18.ntmps [31, 32, 33, 34, 35] a167 a' ∧ a'.eval (.tmp 35) = .bool ((decide (1 ≤ x2)) && (decide (x2 ≤ w64 (1000 - x0.n))))) ?_ ?_
    · rcases bf (decide (1 ≤ x2)) with hb170 | hb170
      · have s171 := bv s169 hb170
        refine s1k p168.z rfl (yd p168.z rfl rfl s171) rfl fun a172 p173 s174 => ?_
        have s175 := p173.o s171 rfl
        refine s1k p173.z rfl (yd p173.z rfl rfl s175) rfl fun a176 p177 s178 => ?_
        have s179 := p177.o s175 rfl
        refine s1k p177.z rfl (yd p177.z rfl rfl s179) rfl fun a180 p181 s182 => ?_
        have s183 := p181.o s179 rfl
        refine s1k p181.z rfl (yd p181.z rfl rfl s183) rfl fun a184 p185 s186 => ?_
        have s187 := p185.o s183 rfl
        refine s1 p185.z (okPickF s187 cst) rfl fun a188 p189 s190 => ?_
        exact rN ⟨rfl, rfl, ((((((Pg.refl p168.z).st p173 rfl).st p177 rfl).st p181 rfl).st p185 rfl).st p189 rfl), (andF hb170 s190)⟩
      · have s191 := bv s169 hb170
        have s192 := p168.o (p165.o (p162.o s160 rfl) rfl) rfl
        refine s1g p168.z (okMv s192) rfl (yd p168.z rfl rfl s191) fun a193 p194 s195 => ?_
        have s196 := p194.o s191 rfl
        have s197 := p194.o (p168.o (p165.o (p162.o (p157.o (p154.o s46 rfl) rfl) rfl) rfl) rfl) rfl
        refine s1g p194.z (okMv s197) rfl (yd p194.z rfl rfl s196) fun a198 p199 s200 => ?_
        have s201 := p199.o s196 rfl
        refine s1g p199.z (okSub cst s200) rfl (yd p199.z rfl rfl s201) fun a202 p203 s204 => ?_
        have s205 := p203.o s201 rfl
        have s206 := p203.o (p199.o s195 rfl) rfl
        refine s1g p203.z (okLe s206 s204) rfl (yd p203.z rfl rfl s205) fun a207 p208 s209 => ?_
        have s210 := p208.o s205 rfl
        refine s1 p208.z (okPickT s210 s209) rfl fun a211 p212 s213 => ?_
        exact rN ⟨rfl, rfl, ((((((Pg.refl p168.z).st p194 rfl).st p199 rfl).st p203 rfl).st p208 rfl).st p212 rfl), (andT hb170 s213)⟩
    rintro a214 ⟨pg215, s216⟩
    refine rN (thenN ?_)
    have s217 := pg215.o (p168.o (p165.o (p162.o s160 rfl) rfl) rfl) rfl
    have pg218 : Pg _ [26, 27, 28, 29, 30, 31, 32, 33, 34, 35] _ _ := (((((((Pg.refl pg48.z).st p154 rfl).st p157 rfl).st p162 rfl).st p165 rfl).st p168 rfl).tr pg215 rfl)
    refine cnd s216 (fun hb219 => ?_) (fun hb219 => ?_)
    · replace h := (ifP hb219).symm.trans h
      refine wp_seq ?_
      refine reg ?_
      have s220 := pg218.o s46 rfl
      refine s1 pg218.z (okMv s220) rfl fun a221 p222 s223 => ?_
      have s224 := p222.o s217 rfl
      refine s1 p222.z (okMv s224) rfl fun a225 p226 s227 => ?_
      have s228 := p226.o s223 rfl
      refine s1 p226.z (okAdd s228 s227) rfl fun a229 p230 s231 => ?_
      have s232 := p230.o (p226.o (p222.o (pg218.o s43 rfl) rfl) rfl) rfl
      refine s1 p230.z (okFA (o' := 1) fo25_1 s232 rfl) rfl fun a233 p234 s235 => ?_
      have s236 := p234.o s231 rfl
      refine lS (oSto (cs := [.int .i64 (w64 (x0.n + x2))]) (l' := TThing.C ({ x0 with n := w64 (x0.n + x2) }) h0_0) p234.z s235 s236 m26 Try.sizeOf3 rfl one1 rfl rfl fun w237 m238 g239 => ?_)
      have cx240 := cx17.st g239 f9
      refine rN (thenN ?_)
      refine wp_seq ?_
      refine reg ?_
      have s241 := p234.o s232 rfl
      refine s1 p234.z (okLdA ag25 s241 (m238.cl) rfl rfl whole) rfl fun a242 p243 s244 => ?_
      have s245 := p243.o (p234.o (p230.o (p226.o (p222.o (pg218.o s44 rfl) rfl) rfl) rfl) rfl) rfl
      have m246 := m14.g1 g239 (m5.ne e16).symm
      have q247 := qh0_0.mono (((g6.tA (Nat.le_of_eq e7.symm)).trans (g15.tA (Nat.le_of_eq e16.symm))).trans (g239.t1 (.tail _ (.head _))))
      refine lS (oStoW (cs := TThing.C ({ x0 with n := w64 (x0.n + x2) }) h0_0) p243.z s245 s244 m246 Try.sizeOf25 rfl (TThing.C_one _ q247.one) rfl fun w248 m249 g250 => ?_)
      have cx251 := cx240.st g250 f18
      refine s1 p243.z (okAs cst) rfl fun a252 p253 s254 => ?_
      refine rN (thenN ?_)
      have s255 := p253.o s245 rfl
      obtain rfl := Option.some.inj h
      have q256 := q247.mono (g250.t1 (.head _))
      exact wp_ret (blkR (thenR (ret2 p253.z Try.results18 (rvA ag25 s255 m249 rfl) (rvT s254) ⟨_, rfl, h0_0, rfl, (q256.mono ((Tr.refl _ _).sub (fun i h => (.tail _ (.tail _ h))))), cx251.g⟩)))
    replace h := (ifN hb219).symm.trans h
    refine wp_skip (blkN (thenN ?_))
    refine wp_seq ?_
    refine reg ?_
    have s257 := pg218.o s43 rfl
    refine s1 pg218.z (okLdA ag25 s257 (m26.cl) rfl rfl whole) rfl fun a258 p259 s260 => ?_
    have s261 := p259.o (pg218.o s44 rfl) rfl
    have q262 := qh0_0.mono ((g6.tA (Nat.le_of_eq e7.symm)).trans (g15.tA (Nat.le_of_eq e16.symm)))
    refine lS (oStoW (cs := TThing.C x0 h0_0) p259.z s261 s260 m14 Try.sizeOf25 rfl (TThing.C_one _ q262.one) rfl fun w263 m264 g265 => ?_)
    have cx266 := cx17.st g265 f18
    refine s1 p259.z (okAs cst) rfl fun a267 p268 s269 => ?_
    refine rN (thenN ?_)
    have s270 := p268.o s261 rfl
    obtain rfl := Option.some.inj h
    have q271 := q262.mono (g265.t1 (.head _))
    exact wp_ret (ret2 p268.z Try.results18 (rvA ag25 s270 m264 rfl) (rvT s269) ⟨_, rfl, h0_0, rfl, (q271.mono ((Tr.refl _ _).sub (fun i h => (.tail _ (.tail _ h))))), cx266.g⟩)
  replace h := (ifN hb159).symm.trans h
  refine wp_seq ?_
  refine reg ?_
  have s272 := p157.o (p154.o s47 rfl) rfl
  refine s1 p157.z (okEq s272 cst) rfl fun a273 p274 s275 => ?_
  refine s1 p274.z (okAs s275) rfl fun a276 p277 s278 => ?_
  refine rN (thenN ?_)
  have s279 := p277.o (p274.o s272 rfl) rfl
  have pg280 : Pg _ [26, 27, 41, 42] _ _ := (((((Pg.refl pg48.z).st p154 rfl).st p157 rfl).st p274 rfl).st p277 rfl)
  refine cnd s278 (fun hb281 => ?_) (fun hb281 => ?_)
  · replace h := (ifP hb281).symm.trans h
    refine wp_seq ?_
    refine reg ?_
    have s282 := pg280.o s43 rfl
    refine s1 pg280.z (okLdA ag25 s282 (m26.cl) rfl rfl whole) rfl fun a283 p284 s285 => ?_
    have s286 := p284.o (pg280.o (pg48.o s0_2 rfl) rfl) rfl
    refine s1 p284.z (okMv s286) rfl fun a287 p288 s289 => ?_
    have s290 := p288.o (p284.o (pg280.o s46 rfl) rfl) rfl
    refine s1 p288.z (okMv s290) rfl fun a291 p292 s293 => ?_
    have s294 := p292.o s289 rfl
    refine s1 p292.z (okGt s294 s293) rfl fun a295 p296 s297 => ?_
    have s298 := p296.o (p292.o (p288.o (p284.o (pg280.o s44 rfl) rfl) rfl) rfl) rfl
    have s299 := p296.o (p292.o (p288.o s285 rfl) rfl) rfl
    have q300 := qh0_0.mono ((g6.tA (Nat.le_of_eq e7.symm)).trans (g15.tA (Nat.le_of_eq e16.symm)))
    refine lS (oStoW (cs := TThing.C x0 h0_0) p296.z s298 s299 m14 Try.sizeOf25 rfl (TThing.C_one _ q300.one) rfl fun w301 m302 g303 => ?_)
    have cx304 := cx17.st g303 f18
    refine s1 p296.z (okAs s297) rfl fun a305 p306 s307 => ?_
    refine rN (thenN ?_)
    have s308 := p306.o s298 rfl
    obtain rfl := Option.some.inj h
    have q309 := q300.mono (g303.t1 (.head _))
    exact wp_ret (blkR (thenR (ret2 p306.z Try.results18 (rvA ag25 s308 m302 rfl) (rvT s307) ⟨_, rfl, h0_0, rfl, (q309.mono ((Tr.refl _ _).sub (fun i h => (.tail _ (.tail _ h))))), cx304.g⟩)))
  replace h := (ifN hb281).symm.trans h
  refine wp_seq ?_
  refine reg ?_
  refine s1 pg280.z (okEq s279 cst) rfl fun a310 p311 s312 => ?_
  refine s1 p311.z (okAs s312) rfl fun a313 p314 s315 => ?_
  refine rN (thenN ?_)
  refine cnd s315 (fun hb316 => ?_) (fun hb316 => ?_)
  · replace h := (ifP hb316).symm.trans h
    refine wp_seq ?_
    refine reg ?_
    have s317 := p314.o (p311.o (pg280.o s43 rfl) rfl) rfl
    refine s1 p314.z (okLdA ag25 s317 (m26.cl) rfl rfl whole) rfl fun a318 p319 s320 => ?_
    have s321 := p319.o (p314.o (p311.o (pg280.o (pg48.o s0_2 rfl) rfl) rfl) rfl) rfl
    refine s1 p319.z (okMv s321) rfl fun a322 p323 s324 => ?_
    refine s1 p323.z (okGe s324 cst) rfl fun a325 p326 s327 => ?_
    refine s1 p326.z (okMv s327) rfl fun a328 p329 s330 => ?_
    refine cutP 5 (fun a' => Pg Try.f18.ntmps [53, 54, 55, 56, 57] a328 a' ∧ a'.eval (.tmp 57) = .bool ((decide (1 ≤ x2)) && (decide (w64 (1000 - x0.n) < x2)))) ?_ ?_
    · rcases bf (decide (1 ≤ x2)) with hb331 | hb331
      · have s332 := bv s330 hb331
        refine s1k p329.z rfl (yd p329.z rfl rfl s332) rfl fun a333 p334 s335 => ?_
        have s336 := p334.o s332 rfl
        refine s1k p334.z rfl (yd p334.z rfl rfl s336) rfl fun a337 p338 s339 => ?_
        have s340 := p338.o s336 rfl
        refine s1k p338.z rfl (yd p338.z rfl rfl s340) rfl fun a341 p342 s343 => ?_
        have s344 := p342.o s340 rfl
        refine s1k p342.z rfl (yd p342.z rfl rfl s344) rfl fun a345 p346 s347 => ?_
        have s348 := p346.o s344 rfl
        refine s1 p346.z (okPickF s348 cst) rfl fun a349 p350 s351 => ?_
        exact rN ⟨rfl, rfl, ((((((Pg.refl p329.z).st p334 rfl).st p338 rfl).st p342 rfl).st p346 rfl).st p350 rfl), (andF hb331 s351)⟩
      · have s352 := bv s330 hb331
        have s353 := p329.o (p326.o (p323.o s321 rfl) rfl) rfl
        refine s1g p329.z (okMv s353) rfl (yd p329.z rfl rfl s352) fun a354 p355 s356 => ?_
        have s357 := p355.o s352 rfl
        have s358 := p355.o (p329.o (p326.o (p323.o (p319.o (p314.o (p311.o (pg280.o s46 rfl) rfl) rfl) rfl) rfl) rfl) rfl) rfl
        refine s1g p355.z (okMv s358) rfl (yd p355.z rfl rfl s357) fun a359 p360 s361 => ?_
        have s362 := p360.o s357 rfl
        refine s1g p360.z (okSub cst s361) rfl (yd p360.z rfl rfl s362) fun a363 p364 s365 => ?_
        have s366 := p364.o s362 rfl
        have s367 := p364.o (p360.o s356 rfl) rfl
        refine s1g p364.z (okGt s367 s365) rfl (yd p364.z rfl rfl s366) fun a368 p369 s370 => ?_
        have s371 := p369.o s366 rfl
        refine s1 p369.z (okPickT s371 s370) rfl fun a372 p373 s374 => ?_
        exact rN ⟨rfl, rfl, ((((((Pg.refl p329.z).st p355 rfl).st p360 rfl).st p364 rfl).st p369 rfl).st p373 rfl), (andT hb331 s374)⟩
    rintro a375 ⟨pg376, s377⟩
    have s378 := pg376.o (p329.o (p326.o (p323.o (p319.o (p314.o (p311.o (pg280.o s44 rfl) rfl) rfl) rfl) rfl) rfl) rfl) rfl
    have s379 := pg376.o (p329.o (p326.o (p323.o s320 rfl) rfl) rfl) rfl
    have q380 := qh0_0.mono ((g6.tA (Nat.le_of_eq e7.symm)).trans (g15.tA (Nat.le_of_eq e16.symm)))
    refine lS (oStoW (cs := TThing.C x0 h0_0) pg376.z s378 s379 m14 Try.sizeOf25 rfl (TThing.C_one _ q380.one) rfl fun w381 m382 g383 => ?_)
    have cx384 := cx17.st g383 f18
    refine s1 pg376.z (okAs s377) rfl fun a385 p386 s387 => ?_
    refine rN (thenN ?_)
    have s388 := p386.o s378 rfl
    obtain rfl := Option.some.inj h
    have q389 := q380.mono (g383.t1 (.head _))
    exact wp_ret (blkR (thenR (ret2 p386.z Try.results18 (rvA ag25 s388 m382 rfl) (rvT s387) ⟨_, rfl, h0_0, rfl, (q389.mono ((Tr.refl _ _).sub (fun i h => (.tail _ (.tail _ h))))), cx384.g⟩)))
  replace h := (ifN hb316).symm.trans h
  refine wp_seq ?_
  refine reg ?_
  have s390 := p314.o (p311.o s279 rfl) rfl
  refine s1 p314.z (okEq s390 cst) rfl fun a391 p392 s393 => ?_
  refine s1 p392.z (okAs s393) rfl fun a394 p395 s396 => ?_
  refine rN (thenN ?_)
  have pg397 : Pg _ [47, 48, 58, 59] _ _ := (((((Pg.refl pg280.z).st p311 rfl).st p314 rfl).st p392 rfl).st p395 rfl)
  refine cnd s396 (fun hb398 => ?_) (fun hb398 => ?_)
  · replace h := (ifP hb398).symm.trans h
    refine wp_seq ?_
    refine reg ?_
    have s399 := pg397.o (pg280.o (pg48.o s0_2 rfl) rfl) rfl
    refine s1 pg397.z (okMv s399) rfl fun a400 p401 s402 => ?_
    have s403 := p401.o (pg397.o (pg280.o s46 rfl) rfl) rfl
    refine s1 p401.z (okMv s403) rfl fun a404 p405 s406 => ?_
    have s407 := p405.o s402 rfl
    refine s1 p405.z (okEq s407 s406) rfl fun a408 p409 s410 => ?_
    refine rN (thenN ?_)
    have pg411 : Pg _ [60, 61, 62] _ _ := ((((Pg.refl pg397.z).st p401 rfl).st p405 rfl).st p409 rfl)
    refine cnd s410 (fun hb412 => ?_) (fun hb412 => ?_)
    · replace h := (ifP hb412).symm.trans h
      refine wp_seq ?_
      refine reg ?_
      have s413 := pg411.o (pg397.o (pg280.o s43 rfl) rfl) rfl
      refine s1 pg411.z (okFA (o' := 1) fo25_1 s413 rfl) rfl fun a414 p415 s416 => ?_
      refine lS (oSto (cs := [.int .i64 0]) (l' := TThing.C ({ x0 with n := 0 }) h0_0) p415.z s416 cst m26 Try.sizeOf3 rfl one1 rfl rfl fun w417 m418 g419 => ?_)
      have cx420 := cx17.st g419 f9
      refine rN (thenN ?_)
      refine wp_seq ?_
      refine reg ?_
      have s421 := p415.o s413 rfl
      refine s1 p415.z (okLdA ag25 s421 (m418.cl) rfl rfl whole) rfl fun a422 p423 s424 => ?_
      have s425 := p423.o (p415.o (pg411.o (pg397.o (pg280.o s44 rfl) rfl) rfl) rfl) rfl
      have m426 := m14.g1 g419 (m5.ne e16).symm
      have q427 := qh0_0.mono (((g6.tA (Nat.le_of_eq e7.symm)).trans (g15.tA (Nat.le_of_eq e16.symm))).trans (g419.t1 (.tail _ (.head _))))
      refine lS (oStoW (cs := TThing.C ({ x0 with n := 0 }) h0_0) p423.z s425 s424 m426 Try.sizeOf25 rfl (TThing.C_one _ q427.one) rfl fun w428 m429 g430 => ?_)
      have cx431 := cx420.st g430 f18
      refine s1 p423.z (okAs cst) rfl fun a432 p433 s434 => ?_
      refine rN (thenN ?_)
      have s435 := p433.o s425 rfl
      obtain rfl := Option.some.inj h
      have q436 := q427.mono (g430.t1 (.head _))
      exact wp_ret (blkR (thenR (ret2 p433.z Try.results18 (rvA ag25 s435 m429 rfl) (rvT s434) ⟨_, rfl, h0_0, rfl, (q436.mono ((Tr.refl _ _).sub (fun i h => (.tail _ (.tail _ h))))), cx431.g⟩)))
    replace h := (ifN hb412).symm.trans h
    refine wp_skip (blkN (thenN ?_))
    refine wp_seq ?_
    refine reg ?_
    have s437 := pg411.o (pg397.o (pg280.o s43 rfl) rfl) rfl
    refine s1 pg411.z (okLdA ag25 s437 (m26.cl) rfl rfl whole) rfl fun a438 p439 s440 => ?_
    have s441 := p439.o (pg411.o (pg397.o (pg280.o s44 rfl) rfl) rfl) rfl
    have q442 := qh0_0.mono ((g6.tA (Nat.le_of_eq e7.symm)).trans (g15.tA (Nat.le_of_eq e16.symm)))
    refine lS (oStoW (cs := TThing.C x0 h0_0) p439.z s441 s440 m14 Try.sizeOf25 rfl (TThing.C_one _ q442.one) rfl fun w443 m444 g445 => ?_)
    have cx446 := cx17.st g445 f18
    refine s1 p439.z (okAs cst) rfl fun a447 p448 s449 => ?_
    refine rN (thenN ?_)
    have s450 := p448.o s441 rfl
    obtain rfl := Option.some.inj h
    have q451 := q442.mono (g445.t1 (.head _))
    exact wp_ret (ret2 p448.z Try.results18 (rvA ag25 s450 m444 rfl) (rvT s449) ⟨_, rfl, h0_0, rfl, (q451.mono ((Tr.refl _ _).sub (fun i h => (.tail _ (.tail _ h))))), cx446.g⟩)
  replace h := (ifN hb398).symm.trans h
  refine wp_skip (blkN (thenN ?_))
  refine wp_seq ?_
  refine reg ?_
  have s452 := pg397.o (pg280.o s43 rfl) rfl
  refine s1 pg397.z (okLdA ag25 s452 (m26.cl) rfl rfl whole) rfl fun a453 p454 s455 => ?_
  have s456 := p454.o (pg397.o (pg280.o s44 rfl) rfl) rfl
  have q457 := qh0_0.mono ((g6.tA (Nat.le_of_eq e7.symm)).trans (g15.tA (Nat.le_of_eq e16.symm)))
  refine lS (oStoW (cs := TThing.C x0 h0_0) p454.z s456 s455 m14 Try.sizeOf25 rfl (TThing.C_one _ q457.one) rfl fun w458 m459 g460 => ?_)
  have cx461 := cx17.st g460 f18
  refine s1 p454.z (okAs cst) rfl fun a462 p463 s464 => ?_
  refine rN (thenN ?_)
  have s465 := p463.o s456 rfl
  obtain rfl := Option.some.inj h
  have q466 := q457.mono (g460.t1 (.head _))
  exact wp_ret (ret2 p463.z Try.results18 (rvA ag25 s465 m459 rfl) (rvT s464) ⟨_, rfl, h0_0, rfl, (q466.mono ((Tr.refl _ _).sub (fun i h => (.tail _ (.tail _ h))))), cx461.g⟩)

set_option maxHeartbeats 4000000 in
theorem c29 (k : Nat) (L : List Nat) (w : World) (hL : ∀ b ∈ L, b < w.heap.size) (x0 : TThing) (h0_0 : Value) (qh0_0 : RdS KTWaiter L w h0_0 x0.waiters) (r : Int) (h : tholeref10_Reads k x0 = some r) : Calls Try.prog 29 #[.agg (TThing.C x0 h0_0).toArray] w (fun e w' => ∃ v, e = .returned v ∧ v = .int .i64 r ∧ G [] w w') := by
  refine enterF Try.func29 rfl rfl fun a0 z0 A => ?_
  have s0_0 := A 0 (.agg (TThing.C x0 h0_0).toArray) rfl
  clear A
  have c0 : Cx [] w L w := ⟨G.refl _ _, hL⟩
  unfold tholeref10_Reads at h
  refine wp_seq ?_
  refine reg ?_
  refine lS (oBox (l := TThing.C x0 h0_0) z0 s0_0 rfl rfl fun a1 w2 b3 p4 sp4 m5 g6 e7 => ?_)
  have f9 := c0.nw e7
  have cx8 := c0.al g6 m5
  refine s1 p4.z (okAs cst) rfl fun a10 p11 s12 => ?_
  refine rN (thenN ?_)
  refine wp_seq ?_
  refine reg ?_
  refine s1 p11.z (okAs cst) rfl fun a13 p14 s15 => ?_
  refine rN (thenN ?_)
  refine wp_seq ?_
  refine wp_seq ?_
  refine reg ?_
  refine s1 p14.z (okAs cst) rfl fun a16 p17 s18 => ?_
  refine rN (thenN ?_)
  refine wp_block ?_
  obtain ⟨o21, ho22, h⟩ := Option.bind_eq_some_iff.1 h
  have s23 := p17.o (p14.o (p11.o sp4 rfl) rfl) rfl
  have s24 := p17.o (p14.o s12 rfl) rfl
  have s25 := p17.o s15 rfl
  have q26 := qh0_0.mono (g6.tA (Nat.le_of_eq e7.symm))
  refine loopX (I := (fun k' a' w' => ∃ i19 i20, Z Try.f29.ntmps a' ∧ a'.eval (.tmp 1) = ptr b3 0 ∧ a'.eval (.tmp 2) = .int .i64 0 ∧ a'.eval (.tmp 3) = .int .i64 i19 ∧ a'.eval (.tmp 4) = .int .i64 i20 ∧ Bk w' b3 (TThing.C x0 h0_0) 25 ∧ RdS KTWaiter (b3 :: L) w' h0_0 x0.waiters ∧ Cx [] w (b3 :: L) w' ∧ tholeref10_Reads.l0 x0 k' i19 i20 = some o21)) 0 (fun a' w' => Z Try.f29.ntmps a' ∧ a'.eval (.tmp 2) = .int .i64 0 ∧ a'.eval (.tmp 3) = .int .i64 o21 ∧ Bk w' b3 (TThing.C x0 h0_0) 25 ∧ RdS KTWaiter (b3 :: L) w' h0_0 x0.waiters ∧ Cx [] w (b3 :: L) w') ⟨0, 0, p17.z, s23, s24, s25, s18, m5, q26, cx8, ho22⟩ ?_ ?_
  · have oh38 := h; clear h ho22
    rintro k27 a28 w29 ⟨i19, i20, z30, s31, s32, s33, s34, m35, q36, cx37, h⟩
    obtain _ | k := k27
    case zero => cases h
    rw [tholeref10_Reads.l0] at h
    refine wp_seq ?_
    refine wp_seq ?_
    refine reg ?_
    refine s1 z30 (okMv s34) rfl fun a39 p40 s41 => ?_
    refine s1 p40.z (okLt s41 cst) rfl fun a42 p43 s44 => ?_
    refine rN (thenN ?_)
    refine cnd s44 (fun hb45 => ?_) (fun hb45 => ?_)
    · replace h := (ifP hb45).symm.trans h
      refine wp_skip (thenN ?_)
      refine wp_seq ?_
      refine wp_block ?_
      refine reg ?_
      have s46 := p43.o (p40.o s33 rfl) rfl
      refine s1 p43.z (okMv s46) rfl fun a47 p48 s49 => ?_
      have s50 := p48.o (p43.o (p40.o s34 rfl) rfl) rfl
      refine s1 p48.z (okMv s50) rfl fun a51 p52 s53 => ?_
      have s54 := p52.o (p48.o (p43.o (p40.o s31 rfl) rfl) rfl) rfl
      refine s1 p52.z (okFA (o' := 4) fo25_4 s54 rfl) rfl fun a55 p56 s57 => ?_
      have s58 := p56.o s53 rfl
      by_cases hi59 : 0 ≤ i20 ∧ i20 < 8
      case neg => rw [if_neg hi59] at h; cases h
      replace h := (if_pos hi59).symm.trans h
      refine s1 p56.z (okIA Try.underlying22 Try.sizeOf3 s57 s58 hi59) rfl fun a60 p61 s62 => ?_
      refine s1 p61.z (okLd (j := 4 + i20.toNat) na3 s62 (m35.cl) (Nat.zero_add _) (TThing.C_reads_get _ _ hi59)) rfl fun a63 p64 s65 => ?_
      have s66 := p64.o (p61.o (p56.o (p52.o s49 rfl) rfl) rfl) rfl
      refine s1 p64.z (okAdd s66 s65) rfl fun a67 p68 s69 => ?_
      refine s1 p68.z (okAs s69) rfl fun a70 p71 s72 => ?_
      refine rN (blkN (thenN ?_))
      refine reg ?_
      have s73 := p71.o (p68.o (p64.o (p61.o (p56.o (p52.o s50 rfl) rfl) rfl) rfl) rfl) rfl
      refine s1 p71.z (okMv s73) rfl fun a74 p75 s76 => ?_
      refine s1 p75.z (okAdd s76 cst) rfl fun a77 p78 s79 => ?_
      refine s1 p78.z (okAs s79) rfl fun a80 p81 s82 => ?_
      have s83 := p81.o (p78.o (p75.o (p71.o (p68.o (p64.o (p61.o (p56.o s54 rfl) rfl) rfl) rfl) rfl) rfl) rfl) rfl
      have s84 := p81.o (p78.o (p75.o (p71.o (p68.o (p64.o (p61.o (p56.o (p52.o (p48.o (p43.o (p40.o s32 rfl) rfl) rfl) rfl) rfl) rfl) rfl) rfl) rfl) rfl) rfl) rfl
      have s85 := p81.o (p78.o (p75.o s72 rfl) rfl) rfl
      exact rN (thenN ⟨k, Nat.lt_succ_self k, (w64 (i19 + (x0.reads.get i20))), (w64 (i20 + 1)), p81.z, s83, s84, s85, s82, m35, q36, cx37, h⟩)
    replace h := (ifN hb45).symm.trans h
    obtain rfl := Option.some.inj h
    have s86 := p43.o (p40.o s32 rfl) rfl
    have s87 := p43.o (p40.o s33 rfl) rfl
    exact wp_exit (thenE (thenE (jqE ⟨p43.z, s86, s87, m35, q36, cx37⟩)))
  clear ho22
  rintro a88 w89 ⟨z90, s91, s92, m93, q94, cx95⟩
  refine blkE (thenN ?_)
  refine wp_seq ?_
  refine reg ?_
  refine s1 z90 (okMv s92) rfl fun a96 p97 s98 => ?_
  refine s1 p97.z (okAs s98) rfl fun a99 p100 s101 => ?_
  refine rN (thenN ?_)
  obtain rfl := Option.some.inj h
  exact wp_ret (ret1 p100.z Try.results29 (rvT s101) ⟨_, rfl, rfl, cx95.g⟩)

set_option maxHeartbeats 4000000 in
theorem c19 (k : Nat) (L : List Nat) (w : World) (hL : ∀ b ∈ L, b < w.heap.size) (x0 : TThing) (h0_0 : Value) (qh0_0 : RdS KTWaiter L w h0_0 x0.waiters) (x1 : Int) (x2 : Int) (x3 : Int) (r : TThing × Bool) (h : tholeref10_rw k x0 x1 x2 x3 = some r) : Calls Try.prog 19 #[.agg (TThing.C x0 h0_0).toArray, .int .i64 x1, .int .i64 x2, .int .i64 x3] w (fun e w' => ∃ v, e = .returned v ∧ ∃ u_0, v = .tuple #[.agg (TThing.C r.1 u_0).toArray, .bool r.2] ∧ RdS KTWaiter L w' u_0 r.1.waiters ∧ G [] w w') := by
  refine enterF Try.func19 rfl rfl fun a0 z0 A => ?_
  have s0_0 := A 0 (.agg (TThing.C x0 h0_0).toArray) rfl
  have s0_1 := A 1 (.int .i64 x1) rfl
  have s0_2 := A 2 (.int .i64 x2) rfl
  have s0_3 := A 3 (.int .i64 x3) rfl
  clear A
  have c0 : Cx [] w L w := ⟨G.refl _ _, hL⟩
  unfold tholeref10_rw at h
  refine wp_seq ?_
  refine reg ?_
  refine lS (oBox (l := TThing.C x0 h0_0) z0 s0_0 rfl rfl fun a1 w2 b3 p4 sp4 m5 g6 e7 => ?_)
  have f9 := c0.nw e7
  have cx8 := c0.al g6 m5
  refine lS (oAlloc zv25 p4.z rfl fun a10 w11 b12 p13 sp13 m14 g15 e16 => ?_)
  have f18 := cx8.nw e16
  have cx17 := cx8.al g15 m14
  refine s1 p13.z (okAs cst) rfl fun a19 p20 s21 => ?_
  refine rN (thenN ?_)
  refine wp_seq ?_
  refine reg ?_
  have s22 := p20.o (p13.o sp4 rfl) rfl
  refine s1 p20.z (okFA (o' := 2) fo25_2 s22 rfl) rfl fun a23 p24 s25 => ?_
  have m26 := m5.g0 g15
  refine s1 p24.z (okLd (j := 2) na3 s25 (m26.cl) rfl rfl) rfl fun a27 p28 s29 => ?_
  have s30 := p28.o (p24.o (p20.o (p13.o (p4.o s0_1 rfl) rfl) rfl) rfl) rfl
  refine s1 p28.z (okMv s30) rfl fun a31 p32 s33 => ?_
  have s34 := p32.o s29 rfl
  refine s1 p32.z (okEq s34 s33) rfl fun a35 p36 s37 => ?_
  refine s1 p36.z (okAs s37) rfl fun a38 p39 s40 => ?_
  refine rN (thenN ?_)
  refine wp_seq ?_
  refine reg ?_
  have s41 := p39.o (p36.o (p32.o (p28.o (p24.o s22 rfl) rfl) rfl) rfl) rfl
  refine s1 p39.z (okLdA ag25 s41 (m26.cl) rfl rfl whole) rfl fun a42 p43 s44 => ?_
  have q45 := qh0_0.mono ((g6.tA (Nat.le_of_eq e7.symm)).trans (g15.tA (Nat.le_of_eq e16.symm)))
  obtain ⟨t46, ht47, h⟩ := Option.bind_eq_some_iff.1 h
  refine lS (oCall p43.z Try.call29 (ag1 s44) (c29 k (b12 :: b3 :: L) w11 cx17.lt _ _ q45 _ ht47) rfl fun v51 a48 w49 hp52 p50 sp50 => ?_)
  obtain ⟨rfl, g53⟩ := hp52
  have cx54 := cx17.ca g53
  refine s1 p50.z (okAs sp50) rfl fun a55 p56 s57 => ?_
  refine rN (thenN ?_)
  refine wp_seq ?_
  refine wp_seq ?_
  refine reg ?_
  have s58 := p56.o (p50.o (p43.o (p39.o (p36.o (p32.o (p28.o (p24.o (p20.o (p13.o (p4.o s0_2 rfl) rfl) rfl) rfl) rfl) rfl) rfl) rfl) rfl) rfl) rfl
  refine s1 p56.z (okMv s58) rfl fun a59 p60 s61 => ?_
  refine rN (thenN ?_)
  refine wp_block ?_
  refine wp_seq ?_
  refine reg ?_
  refine s1 p60.z (okEq s61 cst) rfl fun a62 p63 s64 => ?_
  refine s1 p63.z (okAs s64) rfl fun a65 p66 s67 => ?_
  refine rN (thenN ?_)
  have s68 := p66.o (p63.o (p60.o (p56.o (p50.o (p43.o (p39.o (p36.o (p32.o s30 rfl) rfl) rfl) rfl) rfl) rfl) rfl) rfl) rfl
  have s69 := p66.o (p63.o (p60.o (p56.o (p50.o (p43.o s41 rfl) rfl) rfl) rfl) rfl) rfl
  have s70 := p66.o (p63.o (p60.o (p56.o (p50.o (p43.o (p39.o (p36.o (p32.o (p28.o (p24.o (p20.o sp13 rfl) rfl) rfl) rfl) rfl) rfl) rfl) rfl) rfl) rfl) rfl) rfl
  have s71 := p66.o (p63.o (p60.o (p56.o (p50.o (p43.o (p39.o (p36.o (p32.o (p28.o (p24.o s21 rfl) rfl) rfl) rfl) rfl) rfl) rfl) rfl) rfl) rfl) rfl
  have s72 := p66.o (p63.o (p60.o (p56.o (p50.o (p43.o s40 rfl) rfl) rfl) rfl) rfl) rfl
  have s73 := p66.o (p63.o (p60.o s57 rfl) rfl) rfl
  have s74 := p66.o (p63.o s61 rfl) rfl
  have pg75 : Pg _ [4, 8, 9, 10, 11, 12, 13, 14, 15, 16, 17, 18, 19, 20] _ _ := (((((((((((((((Pg.refl z0).st p4 rfl).st p13 rfl).st p20 rfl).st p24 rfl).st p28 rfl).st p32 rfl).st p36 rfl).st p39 rfl).st p43 rfl).st p50 rfl).st p56 rfl).st p60 rfl).st p63 rfl).st p66 rfl)
  refine cnd s67 (fun hb76 => ?_) (fun hb76 => ?_)
  · replace h := (ifP hb76).symm.trans h
    refine wp_seq ?_
    refine reg ?_
    have s77 := pg75.o s0_3 rfl
    refine s1 pg75.z (okMv s77) rfl fun a78 p79 s80 => ?_
    refine s1 p79.z (okEq s80 cst) rfl fun a81 p82 s83 => ?_
    refine s1 p82.z (okMv s83) rfl fun a84 p85 s86 => ?_
    refine cutP 16 (fun a' => Pg Try.f19.ntmps [24, 25, 26, 27, 28, 29, 30, 31, 32, 33, 34, 35, 36, 37, 38, 39] a84 a' ∧ a'.eval (.tmp 39) = .bool ((x3 == 1) && (((x0.owner == (-1)) && (t46 == 0)) || ((x0.owner == x1) && (decide (x0.holds < 1000)))))) ?_ ?_
    · rcases bf (x3 == 1) with hb87 | hb87
      · have s88 := bv s86 hb87
        refine s1k p85.z rfl (yd p85.z rfl rfl s88) rfl fun a89 p90 s91 => ?_
        have s92 := p90.o s88 rfl
        refine s1k p90.z rfl (yd p90.z rfl rfl s92) rfl fun a93 p94 s95 => ?_
        have s96 := p94.o s92 rfl
        refine s1k p94.z rfl (yd p94.z rfl rfl s96) rfl fun a97 p98 s99 => ?_
        have s100 := p98.o s96 rfl
        refine s1k p98.z rfl (yd p98.z rfl rfl s100) rfl fun a101 p102 s103 => ?_
        refine s1k p102.z rfl (ydU p102.z rfl rfl s103) rfl fun a104 p105 s106 => ?_
        have s107 := p105.o s103 rfl
        refine s1k p105.z rfl (ydU p105.z rfl rfl s107) rfl fun a108 p109 s110 => ?_
        have s111 := p109.o (p105.o (p102.o s100 rfl) rfl) rfl
        refine s1k p109.z rfl (yd p109.z rfl rfl s111) rfl fun a112 p113 s114 => ?_
        have s115 := p113.o s111 rfl
        refine s1k p113.z rfl (yd p113.z rfl rfl s115) rfl fun a116 p117 s118 => ?_
        refine s1k p117.z rfl (ydU p117.z rfl rfl s118) rfl fun a119 p120 s121 => ?_
        have s122 := p120.o s118 rfl
        refine s1k p120.z rfl (ydU p120.z rfl rfl s122) rfl fun a123 p124 s125 => ?_
        refine s1k p124.z rfl (ydU p124.z rfl rfl s125) rfl fun a126 p127 s128 => ?_
        have s129 := p127.o s125 rfl
        refine s1k p127.z rfl (ydU p127.z rfl rfl s129) rfl fun a130 p131 s132 => ?_
        have s133 := p131.o s129 rfl
        refine s1k p131.z rfl (ydU p131.z rfl rfl s133) rfl fun a134 p135 s136 => ?_
        have s137 := p135.o (p131.o (p127.o (p124.o s122 rfl) rfl) rfl) rfl
        refine s1k p135.z rfl (ydU p135.z rfl rfl s137) rfl fun a138 p139 s140 => ?_
        have s141 := p139.o (p135.o (p131.o (p127.o (p124.o (p120.o (p117.o s115 rfl) rfl) rfl) rfl) rfl) rfl) rfl
        refine s1k p139.z rfl (yd p139.z rfl rfl s141) rfl fun a142 p143 s144 => ?_
        have s145 := p143.o s141 rfl
        refine s1 p143.z (okPickF s145 cst) rfl fun a146 p147 s148 => ?_
        exact rN ⟨rfl, rfl, (((((((((((((((((Pg.refl p85.z).st p90 rfl).st p94 rfl).st p98 rfl).st p102 rfl).st p105 rfl).st p109 rfl).st p113 rfl).st p117 rfl).st p120 rfl).st p124 rfl).st p127 rfl).st p131 rfl).st p135 rfl).st p139 rfl).st p143 rfl).st p147 rfl), (andF hb87 s148)⟩
      · have s149 := bv s86 hb87
        have s150 := p85.o (p82.o (p79.o s69 rfl) rfl) rfl
        refine s1g p85.z (okFA (o' := 2) fo25_2 s150 rfl) rfl (yd p85.z rfl rfl s149) fun a151 p152 s153 => ?_
        have s154 := p152.o s149 rfl
        have m155 := m26.g0 g53
        refine s1g p152.z (okLd (j := 2) na3 s153 (m155.cl) rfl rfl) rfl (yd p152.z rfl rfl s154) fun a156 p157 s158 => ?_
        have s159 := p157.o s154 rfl
        refine s1g p157.z (okEq s158 cst) rfl (yd p157.z rfl rfl s159) fun a160 p161 s162 => ?_
        have s163 := p161.o s159 rfl
        refine s1g p161.z (okMv s162) rfl (yd p161.z rfl rfl s163) fun a164 p165 s166 => ?_
        refine cutP 3 (fun a' => Pg Try.f19.ntmps [28, 29, 30] a164 a' ∧ a'.eval (.tmp 30) = .bool ((x0.owner == (-1)) && (t46 == 0))) ?_ ?_
        · rcases bf (x0.owner == (-1)) with hb167 | hb167
          · have s168 := bv s166 hb167
            refine s1k p165.z rfl (yd p165.z rfl rfl s168) rfl fun a169 p170 s171 => ?_
            have s172 := p170.o s168 rfl
            refine s1k p170.z rfl (yd p170.z rfl rfl s172) rfl fun a173 p174 s175 => ?_
            have s176 := p174.o (p170.o (p165.o s163 rfl) rfl) rfl
            have s177 := p174.o s172 rfl
            refine s1g p174.z (okPickF s177 cst) rfl (yd p174.z rfl rfl s176) fun a178 p179 s180 => ?_
            exact rN ⟨rfl, rfl, ((((Pg.refl p165.z).st p170 rfl).st p174 rfl).st p179 rfl), (andF hb167 s180)⟩
          · have s181 := bv s166 hb167
            have s182 := p165.o (p161.o (p157.o (p152.o (p85.o (p82.o (p79.o s73 rfl) rfl) rfl) rfl) rfl) rfl) rfl
            refine s1g p165.z (okMv s182) rfl (yd p165.z rfl rfl s181) fun a183 p184 s185 => ?_
            have s186 := p184.o s181 rfl
            refine s1g p184.z (okEq s185 cst) rfl (yd p184.z rfl rfl s186) fun a187 p188 s189 => ?_
            have s190 := p188.o (p184.o (p165.o s163 rfl) rfl) rfl
            have s191 := p188.o s186 rfl
            refine s1g p188.z (okPickT s191 s189) rfl (yd p188.z rfl rfl s190) fun a192 p193 s194 => ?_
            exact rN ⟨rfl, rfl, ((((Pg.refl p165.z).st p184 rfl).st p188 rfl).st p193 rfl), (andT hb167 s194)⟩
        rintro a195 ⟨pg196, s197⟩
        have s198 := pg196.o (p165.o s163 rfl) rfl
        refine s1g pg196.z (okMv s197) rfl (yd pg196.z rfl rfl s198) fun a199 p200 s201 => ?_
        refine cutP 7 (fun a' => Pg Try.f19.ntmps [32, 33, 34, 35, 36, 37, 38] a199 a' ∧ a'.eval (.tmp 38) = .bool (((x0.owner == (-1)) && (t46 == 0)) || ((x0.owner == x1) && (decide (x0.holds < 1000))))) ?_ ?_
        · rcases bf ((x0.owner == (-1)) && (t46 == 0)) with hb202 | hb202
          · have s203 := bv s201 hb202
            have s204 := p200.o (pg196.o (p165.o (p161.o (p157.o (p152.o (p85.o (p82.o (p79.o s72 rfl) rfl) rfl) rfl) rfl) rfl) rfl) rfl) rfl
            refine s1g p200.z (okMv s204) rfl (yd p200.z rfl rfl s203) fun a205 p206 s207 => ?_
            have s208 := p206.o s203 rfl
            refine s1g p206.z (okMv s207) rfl (yd p206.z rfl rfl s208) fun a209 p210 s211 => ?_
            refine cutP 4 (fun a' => Pg Try.f19.ntmps [34, 35, 36, 37] a209 a' ∧ a'.eval (.tmp 37) = .bool ((x0.owner == x1) && (decide (x0.holds < 1000)))) ?_ ?_
            · rcases bf (x0.owner == x1) with hb212 | hb212
              · have s213 := bv s211 hb212
                refine s1k p210.z rfl (yd p210.z rfl rfl s213) rfl fun a214 p215 s216 => ?_
                have s217 := p215.o s213 rfl
                refine s1k p215.z rfl (yd p215.z rfl rfl s217) rfl fun a218 p219 s220 => ?_
                have s221 := p219.o s217 rfl
                refine s1k p219.z rfl (yd p219.z rfl rfl s221) rfl fun a222 p223 s224 => ?_
                have s225 := p223.o (p219.o (p215.o (p210.o s208 rfl) rfl) rfl) rfl
                have s226 := p223.o s221 rfl
                refine s1g p223.z (okPickF s226 cst) rfl (yd p223.z rfl rfl s225) fun a227 p228 s229 => ?_
                exact rN ⟨rfl, rfl, (((((Pg.refl p210.z).st p215 rfl).st p219 rfl).st p223 rfl).st p228 rfl), (andF hb212 s229)⟩
              · have s230 := bv s211 hb212
                have s231 := p210.o (p206.o (p200.o (pg196.o (p165.o (p161.o (p157.o (p152.o s150 rfl) rfl) rfl) rfl) rfl) rfl) rfl) rfl
                refine s1g p210.z (okFA (o' := 3) fo25_3 s231 rfl) rfl (yd p210.z rfl rfl s230) fun a232 p233 s234 => ?_
                have s235 := p233.o s230 rfl
                refine s1g p233.z (okLd (j := 3) na3 s234 (m155.cl) rfl rfl) rfl (yd p233.z rfl rfl s235) fun a236 p237 s238 => ?_
                have s239 := p237.o s235 rfl
                refine s1g p237.z (okLt s238 cst) rfl (yd p237.z rfl rfl s239) fun a240 p241 s242 => ?_
                have s243 := p241.o (p237.o (p233.o (p210.o s208 rfl) rfl) rfl) rfl
                have s244 := p241.o s239 rfl
                refine s1g p241.z (okPickT s244 s242) rfl (yd p241.z rfl rfl s243) fun a245 p246 s247 => ?_
                exact rN ⟨rfl, rfl, (((((Pg.refl p210.z).st p233 rfl).st p237 rfl).st p241 rfl).st p246 rfl), (andT hb212 s247)⟩
            rintro a248 ⟨pg249, s250⟩
            have s251 := pg249.o (p210.o (p206.o (p200.o s198 rfl) rfl) rfl) rfl
            have s252 := pg249.o (p210.o s208 rfl) rfl
            refine s1g pg249.z (okPickF s252 s250) rfl (yd pg249.z rfl rfl s251) fun a253 p254 s255 => ?_
            exact rN ⟨rfl, rfl, (((((Pg.refl p200.z).st p206 rfl).st p210 rfl).tr pg249 rfl).st p254 rfl), (orF hb202 s255)⟩
          · have s256 := bv s201 hb202
            refine s1k p200.z rfl (yd p200.z rfl rfl s256) rfl fun a257 p258 s259 => ?_
            have s260 := p258.o s256 rfl
            refine s1k p258.z rfl (yd p258.z rfl rfl s260) rfl fun a261 p262 s263 => ?_
            refine s1k p262.z rfl (ydU p262.z rfl rfl s263) rfl fun a264 p265 s266 => ?_
            have s267 := p265.o s263 rfl
            refine s1k p265.z rfl (ydU p265.z rfl rfl s267) rfl fun a268 p269 s270 => ?_
            have s271 := p269.o s267 rfl
            refine s1k p269.z rfl (ydU p269.z rfl rfl s271) rfl fun a272 p273 s274 => ?_
            have s275 := p273.o (p269.o (p265.o (p262.o s260 rfl) rfl) rfl) rfl
            refine s1k p273.z rfl (yd p273.z rfl rfl s275) rfl fun a276 p277 s278 => ?_
            have s279 := p277.o (p273.o (p269.o (p265.o (p262.o (p258.o (p200.o s198 rfl) rfl) rfl) rfl) rfl) rfl) rfl
            have s280 := p277.o s275 rfl
            refine s1g p277.z (okPickT s280 cst) rfl (yd p277.z rfl rfl s279) fun a281 p282 s283 => ?_
            exact rN ⟨rfl, rfl, ((((((((Pg.refl p200.z).st p258 rfl).st p262 rfl).st p265 rfl).st p269 rfl).st p273 rfl).st p277 rfl).st p282 rfl), (orT hb202 s283)⟩
        rintro a284 ⟨pg285, s286⟩
        have s287 := pg285.o (p200.o s198 rfl) rfl
        refine s1 pg285.z (okPickT s287 s286) rfl fun a288 p289 s290 => ?_
        exact rN ⟨rfl, rfl, (((((((((Pg.refl p85.z).st p152 rfl).st p157 rfl).st p161 rfl).st p165 rfl).tr pg196 rfl).st p200 rfl).tr pg285 rfl).st p289 rfl), (andT hb87 s290)⟩
    rintro a291 ⟨pg292, s293⟩
    refine rN (thenN ?_)
    have pg294 : Pg _ [21, 22, 23, 24, 25, 26, 27, 28, 29, 30, 31, 32, 33, 34, 35, 36, 37, 38, 39] _ _ := (((((Pg.refl pg75.z).st p79 rfl).st p82 rfl).st p85 rfl).tr pg292 rfl)
    refine cnd s293 (fun hb295 => ?_) (fun hb295 => ?_)
    · replace h := (ifP hb295).symm.trans h
      refine wp_seq ?_
      refine reg ?_
      have s296 := pg294.o s68 rfl
      refine s1 pg294.z (okMv s296) rfl fun a297 p298 s299 => ?_
      have s300 := p298.o (pg294.o s69 rfl) rfl
      refine s1 p298.z (okFA (o' := 2) fo25_2 s300 rfl) rfl fun a301 p302 s303 => ?_
      have s304 := p302.o s299 rfl
      have m305 := m26.g0 g53
      refine lS (oSto (cs := [.int .i64 x1]) (l' := TThing.C ({ x0 with owner := x1 }) h0_0) p302.z s303 s304 m305 Try.sizeOf3 rfl one1 rfl rfl fun w306 m307 g308 => ?_)
      have cx309 := cx54.st g308 f9
      refine rN (thenN ?_)
      refine wp_seq ?_
      refine reg ?_
      have s310 := p302.o s300 rfl
      refine s1 p302.z (okFA (o' := 3) fo25_3 s310 rfl) rfl fun a311 p312 s313 => ?_
      refine s1 p312.z (okLd (j := 3) na3 s313 (m307.cl) rfl rfl) rfl fun a314 p315 s316 => ?_
      refine s1 p315.z (okAdd s316 cst) rfl fun a317 p318 s319 => ?_
      have s320 := p318.o (p315.o (p312.o s310 rfl) rfl) rfl
      refine s1 p318.z (okFA (o' := 3) fo25_3 s320 rfl) rfl fun a321 p322 s323 => ?_
      have s324 := p322.o s319 rfl
      refine lS (oSto (cs := [.int .i64 (w64 (x0.holds + 1))]) (l' := TThing.C ({ x0 with owner := x1, holds := w64 (x0.holds + 1) }) h0_0) p322.z s323 s324 m307 Try.sizeOf3 rfl one1 rfl rfl fun w325 m326 g327 => ?_)
      have cx328 := cx309.st g327 f9
      refine rN (thenN ?_)
      refine wp_seq ?_
      refine reg ?_
      have s329 := p322.o s320 rfl
      refine s1 p322.z (okLdA ag25 s329 (m326.cl) rfl rfl whole) rfl fun a330 p331 s332 => ?_
      have s333 := p331.o (p322.o (p318.o (p315.o (p312.o (p302.o (p298.o (pg294.o s70 rfl) rfl) rfl) rfl) rfl) rfl) rfl) rfl
      have m334 := ((m14.g0 g53).g1 g308 (m5.ne e16).symm).g1 g327 (m5.ne e16).symm
      have q335 := q45.mono ((g53.t0.trans (g308.t1 (.tail _ (.head _)))).trans (g327.t1 (.tail _ (.head _))))
      refine lS (oStoW (cs := TThing.C ({ x0 with owner := x1, holds := w64 (x0.holds + 1) }) h0_0) p331.z s333 s332 m334 Try.sizeOf25 rfl (TThing.C_one _ q335.one) rfl fun w336 m337 g338 => ?_)
      have cx339 := cx328.st g338 f18
      refine s1 p331.z (okAs cst) rfl fun a340 p341 s342 => ?_
      refine rN (thenN ?_)
      have s343 := p341.o s333 rfl
      obtain rfl := Option.some.inj h
      have q344 := q335.mono (g338.t1 (.head _))
      exact wp_ret (blkR (thenR (ret2 p341.z Try.results19 (rvA ag25 s343 m337 rfl) (rvT s342) ⟨_, rfl, h0_0, rfl, (q344.mono ((Tr.refl _ _).sub (fun i h => (.tail _ (.tail _ h))))), cx339.g⟩)))
    replace h := (ifN hb295).symm.trans h
    refine wp_skip (blkN (thenN ?_))
    refine wp_seq ?_
    refine reg ?_
    have s345 := pg294.o s69 rfl
    have m346 := m26.g0 g53
    refine s1 pg294.z (okLdA ag25 s345 (m346.cl) rfl rfl whole) rfl fun a347 p348 s349 => ?_
    have s350 := p348.o (pg294.o s70 rfl) rfl
    have m351 := m14.g0 g53
    have q352 := q45.mono g53.t0
    refine lS (oStoW (cs := TThing.C x0 h0_0) p348.z s350 s349 m351 Try.sizeOf25 rfl (TThing.C_one _ q352.one) rfl fun w353 m354 g355 => ?_)
    have cx356 := cx54.st g355 f18
    refine s1 p348.z (okAs cst) rfl fun a357 p358 s359 => ?_
    refine rN (thenN ?_)
    have s360 := p358.o s350 rfl
    obtain rfl := Option.some.inj h
    have q361 := q352.mono (g355.t1 (.head _))
    exact wp_ret (ret2 p358.z Try.results19 (rvA ag25 s360 m354 rfl) (rvT s359) ⟨_, rfl, h0_0, rfl, (q361.mono ((Tr.refl _ _).sub (fun i h => (.tail _ (.tail _ h))))), cx356.g⟩)
  replace h := (ifN hb76).symm.trans h
  refine wp_seq ?_
  refine reg ?_
  refine s1 pg75.z (okEq s74 cst) rfl fun a362 p363 s364 => ?_
  refine s1 p363.z (okAs s364) rfl fun a365 p366 s367 => ?_
  refine rN (thenN ?_)
  refine cnd s367 (fun hb368 => ?_) (fun hb368 => ?_)
  · replace h := (ifP hb368).symm.trans h
    refine wp_seq ?_
    refine reg ?_
    have s369 := p366.o (p363.o (pg75.o s0_3 rfl) rfl) rfl
    refine s1 p366.z (okMv s369) rfl fun a370 p371 s372 => ?_
    refine s1 p371.z (okEq s372 cst) rfl fun a373 p374 s375 => ?_
    refine s1 p374.z (okMv s375) rfl fun a376 p377 s378 => ?_
    refine cutP 7 (fun a' => Pg Try.f19.ntmps [52, 53, 54, 55, 56, 57, 58] a376 a' ∧ a'.eval (.tmp 58) = .bool ((x3 == 0) && ((x0.owner == (-1)) || (x0.owner == x1)))) ?_ ?_
    · rcases bf (x3 == 0) with hb379 | hb379
      · have s380 := bv s378 hb379
        refine s1k p377.z rfl (yd p377.z rfl rfl s380) rfl fun a381 p382 s383 => ?_
        have s384 := p382.o s380 rfl
        refine s1k p382.z rfl (yd p382.z rfl rfl s384) rfl fun a385 p386 s387 => ?_
        have s388 := p386.o s384 rfl
        refine s1k p386.z rfl (yd p386.z rfl rfl s388) rfl fun a389 p390 s391 => ?_
        have s392 := p390.o s388 rfl
        refine s1k p390.z rfl (yd p390.z rfl rfl s392) rfl fun a393 p394 s395 => ?_
        refine s1k p394.z rfl (ydU p394.z rfl rfl s395) rfl fun a396 p397 s398 => ?_
        have s399 := p397.o (p394.o s392 rfl) rfl
        refine s1k p397.z rfl (yd p397.z rfl rfl s399) rfl fun a400 p401 s402 => ?_
        have s403 := p401.o s399 rfl
        refine s1 p401.z (okPickF s403 cst) rfl fun a404 p405 s406 => ?_
        exact rN ⟨rfl, rfl, ((((((((Pg.refl p377.z).st p382 rfl).st p386 rfl).st p390 rfl).st p394 rfl).st p397 rfl).st p401 rfl).st p405 rfl), (andF hb379 s406)⟩
      · have s407 := bv s378 hb379
        have s408 := p377.o (p374.o (p371.o (p366.o (p363.o s69 rfl) rfl) rfl) rfl) rfl
        refine s1g p377.z (okFA (o' := 2) fo25_2 s408 rfl) rfl (yd p377.z rfl rfl s407) fun a409 p410 s411 => ?_
        have s412 := p410.o s407 rfl
        have m413 := m26.g0 g53
        refine s1g p410.z (okLd (j := 2) na3 s411 (m413.cl) rfl rfl) rfl (yd p410.z rfl rfl s412) fun a414 p415 s416 => ?_
        have s417 := p415.o s412 rfl
        refine s1g p415.z (okEq s416 cst) rfl (yd p415.z rfl rfl s417) fun a418 p419 s420 => ?_
        have s421 := p419.o s417 rfl
        refine s1g p419.z (okMv s420) rfl (yd p419.z rfl rfl s421) fun a422 p423 s424 => ?_
        refine cutP 2 (fun a' => Pg Try.f19.ntmps [56, 57] a422 a' ∧ a'.eval (.tmp 57) = .bool ((x0.owner == (-1)) || (x0.owner == x1))) ?_ ?_
        · rcases bf (x0.owner == (-1)) with hb425 | hb425
          · have s426 := bv s424 hb425
            have s427 := p423.o (p419.o (p415.o (p410.o (p377.o (p374.o (p371.o (p366.o (p363.o s72 rfl) rfl) rfl) rfl) rfl) rfl) rfl) rfl) rfl
            refine s1g p423.z (okMv s427) rfl (yd p423.z rfl rfl s426) fun a428 p429 s430 => ?_
            have s431 := p429.o (p423.o s421 rfl) rfl
            have s432 := p429.o s426 rfl
            refine s1g p429.z (okPickF s432 s430) rfl (yd p429.z rfl rfl s431) fun a433 p434 s435 => ?_
            exact rN ⟨rfl, rfl, (((Pg.refl p423.z).st p429 rfl).st p434 rfl), (orF hb425 s435)⟩
          · have s436 := bv s424 hb425
            refine s1k p423.z rfl (yd p423.z rfl rfl s436) rfl fun a437 p438 s439 => ?_
            have s440 := p438.o (p423.o s421 rfl) rfl
            have s441 := p438.o s436 rfl
            refine s1g p438.z (okPickT s441 cst) rfl (yd p438.z rfl rfl s440) fun a442 p443 s444 => ?_
            exact rN ⟨rfl, rfl, (((Pg.refl p423.z).st p438 rfl).st p443 rfl), (orT hb425 s444)⟩
        rintro a445 ⟨pg446, s447⟩
        have s448 := pg446.o (p423.o s421 rfl) rfl
        refine s1 pg446.z (okPickT s448 s447) rfl fun a449 p450 s451 => ?_
        exact rN ⟨rfl, rfl, (((((((Pg.refl p377.z).st p410 rfl).st p415 rfl).st p419 rfl).st p423 rfl).tr pg446 rfl).st p450 rfl), (andT hb379 s451)⟩
    rintro a452 ⟨pg453, s454⟩
    refine s1 pg453.z (okMv s454) rfl fun a455 p456 s457 => ?_
    refine cutP 3 (fun a' => Pg Try.f19.ntmps [60, 61, 62] a455 a' ∧ a'.eval (.tmp 62) = .bool (((x3 == 0) && ((x0.owner == (-1)) || (x0.owner == x1))) && (decide (t46 < 1000)))) ?_ ?_
    · rcases bf ((x3 == 0) && ((x0.owner == (-1)) || (x0.owner == x1))) with hb458 | hb458
      · have s459 := bv s457 hb458
        refine s1k p456.z rfl (yd p456.z rfl rfl s459) rfl fun a460 p461 s462 => ?_
        have s463 := p461.o s459 rfl
        refine s1k p461.z rfl (yd p461.z rfl rfl s463) rfl fun a464 p465 s466 => ?_
        have s467 := p465.o s463 rfl
        refine s1 p465.z (okPickF s467 cst) rfl fun a468 p469 s470 => ?_
        exact rN ⟨rfl, rfl, ((((Pg.refl p456.z).st p461 rfl).st p465 rfl).st p469 rfl), (andF hb458 s470)⟩
      · have s471 := bv s457 hb458
        have s472 := p456.o (pg453.o (p377.o (p374.o (p371.o (p366.o (p363.o s73 rfl) rfl) rfl) rfl) rfl) rfl) rfl
        refine s1g p456.z (okMv s472) rfl (yd p456.z rfl rfl s471) fun a473 p474 s475 => ?_
        have s476 := p474.o s471 rfl
        refine s1g p474.z (okLt s475 cst) rfl (yd p474.z rfl rfl s476) fun a477 p478 s479 => ?_
        have s480 := p478.o s476 rfl
        refine s1 p478.z (okPickT s480 s479) rfl fun a481 p482 s483 => ?_
        exact rN ⟨rfl, rfl, ((((Pg.refl p456.z).st p474 rfl).st p478 rfl).st p482 rfl), (andT hb458 s483)⟩
    rintro a484 ⟨pg485, s486⟩
    refine rN (thenN ?_)
    have pg487 : Pg _ [47, 48, 49, 50, 51, 52, 53, 54, 55, 56, 57, 58, 59, 60, 61, 62] _ _ := (((((((((Pg.refl pg75.z).st p363 rfl).st p366 rfl).st p371 rfl).st p374 rfl).st p377 rfl).tr pg453 rfl).st p456 rfl).tr pg485 rfl)
    refine cnd s486 (fun hb488 => ?_) (fun hb488 => ?_)
    · replace h := (ifP hb488).symm.trans h
      refine wp_seq ?_
      refine reg ?_
      have s489 := pg487.o s68 rfl
      refine s1 pg487.z (okMv s489) rfl fun a490 p491 s492 => ?_
      have s493 := p491.o s489 rfl
      refine s1 p491.z (okMv s493) rfl fun a494 p495 s496 => ?_
      have s497 := p495.o (p491.o (pg487.o s69 rfl) rfl) rfl
      refine s1 p495.z (okFA (o' := 4) fo25_4 s497 rfl) rfl fun a498 p499 s500 => ?_
      have s501 := p499.o s496 rfl
      by_cases hi502 : 0 ≤ x1 ∧ x1 < 8
      case neg => rw [if_neg hi502] at h; cases h
      replace h := (if_pos hi502).symm.trans h
      refine s1 p499.z (okIA Try.underlying22 Try.sizeOf3 s500 s501 hi502) rfl fun a503 p504 s505 => ?_
      have m506 := m26.g0 g53
      refine s1 p504.z (okLd (j := 4 + x1.toNat) na3 s505 (m506.cl) (Nat.zero_add _) (TThing.C_reads_get _ _ hi502)) rfl fun a507 p508 s509 => ?_
      refine s1 p508.z (okAdd s509 cst) rfl fun a510 p511 s512 => ?_
      have s513 := p511.o (p508.o (p504.o (p499.o s497 rfl) rfl) rfl) rfl
      refine s1 p511.z (okFA (o' := 4) fo25_4 s513 rfl) rfl fun a514 p515 s516 => ?_
      have s517 := p515.o (p511.o (p508.o (p504.o (p499.o (p495.o s492 rfl) rfl) rfl) rfl) rfl) rfl
      by_cases hi518 : 0 ≤ x1 ∧ x1 < 8
      case neg => rw [if_neg hi518] at h; cases h
      replace h := (if_pos hi518).symm.trans h
      refine s1 p515.z (okIA Try.underlying22 Try.sizeOf3 s516 s517 hi518) rfl fun a519 p520 s521 => ?_
      have s522 := p520.o (p515.o s512 rfl) rfl
      refine lS (oSto (cs := [.int .i64 (w64 ((x0.reads.get x1) + 1))]) (l' := TThing.C ({ x0 with reads := x0.reads.set x1 (w64 ((x0.reads.get x1) + 1)) }) h0_0) p520.z s521 s522 m506 Try.sizeOf3 rfl one1 (ble (by have := hi518; show 4 + _ + 1 ≤ 15; omega)) (TThing.C_reads_set _ _ hi518 _) fun w523 m524 g525 => ?_)
      have cx526 := cx54.st g525 f9
      refine rN (thenN ?_)
      refine wp_seq ?_
      refine reg ?_
      have s527 := p520.o (p515.o s513 rfl) rfl
      refine s1 p520.z (okLdA ag25 s527 (m524.cl) rfl rfl whole) rfl fun a528 p529 s530 => ?_
      have s531 := p529.o (p520.o (p515.o (p511.o (p508.o (p504.o (p499.o (p495.o (p491.o (pg487.o s70 rfl) rfl) rfl) rfl) rfl) rfl) rfl) rfl) rfl) rfl
      have m532 := (m14.g0 g53).g1 g525 (m5.ne e16).symm
      have q533 := q45.mono (g53.t0.trans (g525.t1 (.tail _ (.head _))))
      refine lS (oStoW (cs := TThing.C ({ x0 with reads := x0.reads.set x1 (w64 ((x0.reads.get x1) + 1)) }) h0_0) p529.z s531 s530 m532 Try.sizeOf25 rfl (TThing.C_one _ q533.one) rfl fun w534 m535 g536 => ?_)
      have cx537 := cx526.st g536 f18
      refine s1 p529.z (okAs cst) rfl fun a538 p539 s540 => ?_
      refine rN (thenN ?_)
      have s541 := p539.o s531 rfl
      obtain rfl := Option.some.inj h
      have q542 := q533.mono (g536.t1 (.head _))
      exact wp_ret (blkR (thenR (ret2 p539.z Try.results19 (rvA ag25 s541 m535 rfl) (rvT s540) ⟨_, rfl, h0_0, rfl, (q542.mono ((Tr.refl _ _).sub (fun i h => (.tail _ (.tail _ h))))), cx537.g⟩)))
    replace h := (ifN hb488).symm.trans h
    refine wp_skip (blkN (thenN ?_))
    refine wp_seq ?_
    refine reg ?_
    have s543 := pg487.o s69 rfl
    have m544 := m26.g0 g53
    refine s1 pg487.z (okLdA ag25 s543 (m544.cl) rfl rfl whole) rfl fun a545 p546 s547 => ?_
    have s548 := p546.o (pg487.o s70 rfl) rfl
    have m549 := m14.g0 g53
    have q550 := q45.mono g53.t0
    refine lS (oStoW (cs := TThing.C x0 h0_0) p546.z s548 s547 m549 Try.sizeOf25 rfl (TThing.C_one _ q550.one) rfl fun w551 m552 g553 => ?_)
    have cx554 := cx54.st g553 f18
    refine s1 p546.z (okAs cst) rfl fun a555 p556 s557 => ?_
    refine rN (thenN ?_)
    have s558 := p556.o s548 rfl
    obtain rfl := Option.some.inj h
    have q559 := q550.mono (g553.t1 (.head _))
    exact wp_ret (ret2 p556.z Try.results19 (rvA ag25 s558 m552 rfl) (rvT s557) ⟨_, rfl, h0_0, rfl, (q559.mono ((Tr.refl _ _).sub (fun i h => (.tail _ (.tail _ h))))), cx554.g⟩)
  replace h := (ifN hb368).symm.trans h
  refine wp_seq ?_
  refine reg ?_
  have s560 := p366.o (p363.o s74 rfl) rfl
  refine s1 p366.z (okEq s560 cst) rfl fun a561 p562 s563 => ?_
  refine s1 p562.z (okAs s563) rfl fun a564 p565 s566 => ?_
  refine rN (thenN ?_)
  have s567 := p565.o (p562.o s560 rfl) rfl
  have pg568 : Pg _ [47, 48, 72, 73] _ _ := (((((Pg.refl pg75.z).st p363 rfl).st p366 rfl).st p562 rfl).st p565 rfl)
  refine cnd s566 (fun hb569 => ?_) (fun hb569 => ?_)
  · replace h := (ifP hb569).symm.trans h
    refine wp_seq ?_
    refine reg ?_
    have s570 := pg568.o s72 rfl
    refine s1 pg568.z (okMv s570) rfl fun a571 p572 s573 => ?_
    refine s1 p572.z (okMv s573) rfl fun a574 p575 s576 => ?_
    refine cutP 3 (fun a' => Pg Try.f19.ntmps [76, 77, 78] a574 a' ∧ a'.eval (.tmp 78) = .bool ((x0.owner == x1) && (x3 == 0))) ?_ ?_
    · rcases bf (x0.owner == x1) with hb577 | hb577
      · have s578 := bv s576 hb577
        refine s1k p575.z rfl (yd p575.z rfl rfl s578) rfl fun a579 p580 s581 => ?_
        have s582 := p580.o s578 rfl
        refine s1k p580.z rfl (yd p580.z rfl rfl s582) rfl fun a583 p584 s585 => ?_
        have s586 := p584.o s582 rfl
        refine s1 p584.z (okPickF s586 cst) rfl fun a587 p588 s589 => ?_
        exact rN ⟨rfl, rfl, ((((Pg.refl p575.z).st p580 rfl).st p584 rfl).st p588 rfl), (andF hb577 s589)⟩
      · have s590 := bv s576 hb577
        have s591 := p575.o (p572.o (pg568.o (pg75.o s0_3 rfl) rfl) rfl) rfl
        refine s1g p575.z (okMv s591) rfl (yd p575.z rfl rfl s590) fun a592 p593 s594 => ?_
        have s595 := p593.o s590 rfl
        refine s1g p593.z (okEq s594 cst) rfl (yd p593.z rfl rfl s595) fun a596 p597 s598 => ?_
        have s599 := p597.o s595 rfl
        refine s1 p597.z (okPickT s599 s598) rfl fun a600 p601 s602 => ?_
        exact rN ⟨rfl, rfl, ((((Pg.refl p575.z).st p593 rfl).st p597 rfl).st p601 rfl), (andT hb577 s602)⟩
    rintro a603 ⟨pg604, s605⟩
    refine rN (thenN ?_)
    have pg606 : Pg _ [74, 75, 76, 77, 78] _ _ := ((((Pg.refl pg568.z).st p572 rfl).st p575 rfl).tr pg604 rfl)
    refine cnd s605 (fun hb607 => ?_) (fun hb607 => ?_)
    · replace h := (ifP hb607).symm.trans h
      refine wp_seq ?_
      refine reg ?_
      have s608 := pg606.o (pg568.o s69 rfl) rfl
      have m609 := m26.g0 g53
      refine s1 pg606.z (okLdA ag25 s608 (m609.cl) rfl rfl whole) rfl fun a610 p611 s612 => ?_
      have q613 := q45.mono g53.t0
      obtain ⟨t614, ht615, h⟩ := Option.bind_eq_some_iff.1 h
      refine lS (oCall p611.z Try.call27 (ag1 s612) (c27 (b12 :: b3 :: L) w49 cx54.lt _ _ q613 _ ht615) rfl fun v619 a616 w617 hp620 p618 sp618 => ?_)
      obtain ⟨h621, rfl, q622, g623⟩ := hp620
      have cx624 := cx54.ca g623
      have s625 := p618.o (p611.o (pg606.o (pg568.o s70 rfl) rfl) rfl) rfl
      have m626 := (m14.g0 g53).g0 g623
      refine lS (oStoW (cs := TThing.C t614 h621) p618.z s625 sp618 m626 Try.sizeOf25 rfl (TThing.C_one _ q622.one) rfl fun w627 m628 g629 => ?_)
      have cx630 := cx624.st g629 f18
      refine s1 p618.z (okAs cst) rfl fun a631 p632 s633 => ?_
      refine rN (thenN ?_)
      have s634 := p632.o s625 rfl
      obtain rfl := Option.some.inj h
      have q635 := q622.mono (g629.t1 (.head _))
      exact wp_ret (blkR (thenR (ret2 p632.z Try.results19 (rvA ag25 s634 m628 rfl) (rvT s633) ⟨_, rfl, h621, rfl, (q635.mono ((Tr.refl _ _).sub (fun i h => (.tail _ (.tail _ h))))), cx630.g⟩)))
    replace h := (ifN hb607).symm.trans h
    refine wp_skip (blkN (thenN ?_))
    refine wp_seq ?_
    refine reg ?_
    have s636 := pg606.o (pg568.o s69 rfl) rfl
    have m637 := m26.g0 g53
    refine s1 pg606.z (okLdA ag25 s636 (m637.cl) rfl rfl whole) rfl fun a638 p639 s640 => ?_
    have s641 := p639.o (pg606.o (pg568.o s70 rfl) rfl) rfl
    have m642 := m14.g0 g53
    have q643 := q45.mono g53.t0
    refine lS (oStoW (cs := TThing.C x0 h0_0) p639.z s641 s640 m642 Try.sizeOf25 rfl (TThing.C_one _ q643.one) rfl fun w644 m645 g646 => ?_)
    have cx647 := cx54.st g646 f18
    refine s1 p639.z (okAs cst) rfl fun a648 p649 s650 => ?_
    refine rN (thenN ?_)
    have s651 := p649.o s641 rfl
    obtain rfl := Option.some.inj h
    have q652 := q643.mono (g646.t1 (.head _))
    exact wp_ret (ret2 p649.z Try.results19 (rvA ag25 s651 m645 rfl) (rvT s650) ⟨_, rfl, h0_0, rfl, (q652.mono ((Tr.refl _ _).sub (fun i h => (.tail _ (.tail _ h))))), cx647.g⟩)
  replace h := (ifN hb569).symm.trans h
  refine wp_seq ?_
  refine reg ?_
  refine s1 pg568.z (okEq s567 cst) rfl fun a653 p654 s655 => ?_
  refine s1 p654.z (okAs s655) rfl fun a656 p657 s658 => ?_
  refine rN (thenN ?_)
  refine cnd s658 (fun hb659 => ?_) (fun hb659 => ?_)
  · replace h := (ifP hb659).symm.trans h
    refine wp_seq ?_
    refine reg ?_
    have s660 := p657.o (p654.o (pg568.o (pg75.o s0_3 rfl) rfl) rfl) rfl
    refine s1 p657.z (okMv s660) rfl fun a661 p662 s663 => ?_
    refine s1 p662.z (okEq s663 cst) rfl fun a664 p665 s666 => ?_
    refine s1 p665.z (okMv s666) rfl fun a667 p668 s669 => ?_
    obtain ⟨b670, hb671, h⟩ := Option.bind_eq_some_iff.1 h
    refine cutP 6 (fun a' => Pg Try.f19.ntmps [86, 87, 88, 89, 90, 91] a667 a' ∧ a'.eval (.tmp 91) = .bool b670) ?_ ?_
    · rcases bf (x3 == 0) with hb672 | hb672
      · have s673 := bv s669 hb672
        replace hb671 := (ifN hb672).symm.trans hb671
        clear h; have h := hb671; clear hb671
        refine s1k p668.z rfl (yd p668.z rfl rfl s673) rfl fun a674 p675 s676 => ?_
        have s677 := p675.o s673 rfl
        refine s1k p675.z rfl (yd p675.z rfl rfl s677) rfl fun a678 p679 s680 => ?_
        have s681 := p679.o s677 rfl
        refine s1k p679.z rfl (yd p679.z rfl rfl s681) rfl fun a682 p683 s684 => ?_
        have s685 := p683.o s681 rfl
        refine s1k p683.z rfl (yd p683.z rfl rfl s685) rfl fun a686 p687 s688 => ?_
        have s689 := p687.o s685 rfl
        refine s1k p687.z rfl (yd p687.z rfl rfl s689) rfl fun a690 p691 s692 => ?_
        have s693 := p691.o s689 rfl
        refine s1 p691.z (okPickF s693 cst) rfl fun a694 p695 s696 => ?_
        obtain rfl := Option.some.inj h
        exact rN ⟨rfl, rfl, (((((((Pg.refl p668.z).st p675 rfl).st p679 rfl).st p683 rfl).st p687 rfl).st p691 rfl).st p695 rfl), s696⟩
      · have s697 := bv s669 hb672
        replace hb671 := (ifP hb672).symm.trans hb671
        clear h; have h := hb671; clear hb671
        have s698 := p668.o (p665.o (p662.o (p657.o (p654.o (pg568.o s68 rfl) rfl) rfl) rfl) rfl) rfl
        refine s1g p668.z (okMv s698) rfl (yd p668.z rfl rfl s697) fun a699 p700 s701 => ?_
        have s702 := p700.o s697 rfl
        have s703 := p700.o (p668.o (p665.o (p662.o (p657.o (p654.o (pg568.o s69 rfl) rfl) rfl) rfl) rfl) rfl) rfl
        refine s1g p700.z (okFA (o' := 4) fo25_4 s703 rfl) rfl (yd p700.z rfl rfl s702) fun a704 p705 s706 => ?_
        have s707 := p705.o s702 rfl
        have s708 := p705.o s701 rfl
        by_cases hi709 : 0 ≤ x1 ∧ x1 < 8
        case neg => rw [if_neg hi709] at h; cases h
        replace h := (if_pos hi709).symm.trans h
        refine s1g p705.z (okIA Try.underlying22 Try.sizeOf3 s706 s708 hi709) rfl (yd p705.z rfl rfl s707) fun a710 p711 s712 => ?_
        have s713 := p711.o s707 rfl
        have m714 := m26.g0 g53
        refine s1g p711.z (okLd (j := 4 + x1.toNat) na3 s712 (m714.cl) (Nat.zero_add _) (TThing.C_reads_get _ _ hi709)) rfl (yd p711.z rfl rfl s713) fun a715 p716 s717 => ?_
        have s718 := p716.o s713 rfl
        refine s1g p716.z (okGt s717 cst) rfl (yd p716.z rfl rfl s718) fun a719 p720 s721 => ?_
        have s722 := p720.o s718 rfl
        refine s1 p720.z (okPickT s722 s721) rfl fun a723 p724 s725 => ?_
        obtain rfl := Option.some.inj h
        exact rN ⟨rfl, rfl, (((((((Pg.refl p668.z).st p700 rfl).st p705 rfl).st p711 rfl).st p716 rfl).st p720 rfl).st p724 rfl), s725⟩
    rintro a726 ⟨pg727, s728⟩
    refine rN (thenN ?_)
    have pg729 : Pg _ [81, 82, 83, 84, 85, 86, 87, 88, 89, 90, 91] _ _ := (((((((Pg.refl pg568.z).st p654 rfl).st p657 rfl).st p662 rfl).st p665 rfl).st p668 rfl).tr pg727 rfl)
    refine cnd s728 (fun hb730 => ?_) (fun hb730 => ?_)
    · replace h := (ifP hb730).symm.trans h
      refine wp_seq ?_
      refine reg ?_
      have s731 := pg729.o (pg568.o s68 rfl) rfl
      refine s1 pg729.z (okMv s731) rfl fun a732 p733 s734 => ?_
      have s735 := p733.o s731 rfl
      refine s1 p733.z (okMv s735) rfl fun a736 p737 s738 => ?_
      have s739 := p737.o (p733.o (pg729.o (pg568.o s69 rfl) rfl) rfl) rfl
      refine s1 p737.z (okFA (o' := 4) fo25_4 s739 rfl) rfl fun a740 p741 s742 => ?_
      have s743 := p741.o s738 rfl
      by_cases hi744 : 0 ≤ x1 ∧ x1 < 8
      case neg => rw [if_neg hi744] at h; cases h
      replace h := (if_pos hi744).symm.trans h
      refine s1 p741.z (okIA Try.underlying22 Try.sizeOf3 s742 s743 hi744) rfl fun a745 p746 s747 => ?_
      have m748 := m26.g0 g53
      refine s1 p746.z (okLd (j := 4 + x1.toNat) na3 s747 (m748.cl) (Nat.zero_add _) (TThing.C_reads_get _ _ hi744)) rfl fun a749 p750 s751 => ?_
      refine s1 p750.z (okSub s751 cst) rfl fun a752 p753 s754 => ?_
      have s755 := p753.o (p750.o (p746.o (p741.o s739 rfl) rfl) rfl) rfl
      refine s1 p753.z (okFA (o' := 4) fo25_4 s755 rfl) rfl fun a756 p757 s758 => ?_
      have s759 := p757.o (p753.o (p750.o (p746.o (p741.o (p737.o s734 rfl) rfl) rfl) rfl) rfl) rfl
      by_cases hi760 : 0 ≤ x1 ∧ x1 < 8
      case neg => rw [if_neg hi760] at h; cases h
      replace h := (if_pos hi760).symm.trans h
      refine s1 p757.z (okIA Try.underlying22 Try.sizeOf3 s758 s759 hi760) rfl fun a761 p762 s763 => ?_
      have s764 := p762.o (p757.o s754 rfl) rfl
      refine lS (oSto (cs := [.int .i64 (w64 ((x0.reads.get x1) - 1))]) (l' := TThing.C ({ x0 with reads := x0.reads.set x1 (w64 ((x0.reads.get x1) - 1)) }) h0_0) p762.z s763 s764 m748 Try.sizeOf3 rfl one1 (ble (by have := hi760; show 4 + _ + 1 ≤ 15; omega)) (TThing.C_reads_set _ _ hi760 _) fun w765 m766 g767 => ?_)
      have cx768 := cx54.st g767 f9
      refine rN (thenN ?_)
      refine wp_seq ?_
      refine reg ?_
      have s769 := p762.o (p757.o s755 rfl) rfl
      refine s1 p762.z (okLdA ag25 s769 (m766.cl) rfl rfl whole) rfl fun a770 p771 s772 => ?_
      have s773 := p771.o (p762.o (p757.o (p753.o (p750.o (p746.o (p741.o (p737.o (p733.o (pg729.o (pg568.o s70 rfl) rfl) rfl) rfl) rfl) rfl) rfl) rfl) rfl) rfl) rfl
      have m774 := (m14.g0 g53).g1 g767 (m5.ne e16).symm
      have q775 := q45.mono (g53.t0.trans (g767.t1 (.tail _ (.head _))))
      refine lS (oStoW (cs := TThing.C ({ x0 with reads := x0.reads.set x1 (w64 ((x0.reads.get x1) - 1)) }) h0_0) p771.z s773 s772 m774 Try.sizeOf25 rfl (TThing.C_one _ q775.one) rfl fun w776 m777 g778 => ?_)
      have cx779 := cx768.st g778 f18
      refine s1 p771.z (okAs cst) rfl fun a780 p781 s782 => ?_
      refine rN (thenN ?_)
      have s783 := p781.o s773 rfl
      obtain rfl := Option.some.inj h
      have q784 := q775.mono (g778.t1 (.head _))
      exact wp_ret (blkR (thenR (ret2 p781.z Try.results19 (rvA ag25 s783 m777 rfl) (rvT s782) ⟨_, rfl, h0_0, rfl, (q784.mono ((Tr.refl _ _).sub (fun i h => (.tail _ (.tail _ h))))), cx779.g⟩)))
    replace h := (ifN hb730).symm.trans h
    refine wp_skip (blkN (thenN ?_))
    refine wp_seq ?_
    refine reg ?_
    have s785 := pg729.o (pg568.o s69 rfl) rfl
    have m786 := m26.g0 g53
    refine s1 pg729.z (okLdA ag25 s785 (m786.cl) rfl rfl whole) rfl fun a787 p788 s789 => ?_
    have s790 := p788.o (pg729.o (pg568.o s70 rfl) rfl) rfl
    have m791 := m14.g0 g53
    have q792 := q45.mono g53.t0
    refine lS (oStoW (cs := TThing.C x0 h0_0) p788.z s790 s789 m791 Try.sizeOf25 rfl (TThing.C_one _ q792.one) rfl fun w793 m794 g795 => ?_)
    have cx796 := cx54.st g795 f18
    refine s1 p788.z (okAs cst) rfl fun a797 p798 s799 => ?_
    refine rN (thenN ?_)
    have s800 := p798.o s790 rfl
    obtain rfl := Option.some.inj h
    have q801 := q792.mono (g795.t1 (.head _))
    exact wp_ret (ret2 p798.z Try.results19 (rvA ag25 s800 m794 rfl) (rvT s799) ⟨_, rfl, h0_0, rfl, (q801.mono ((Tr.refl _ _).sub (fun i h => (.tail _ (.tail _ h))))), cx796.g⟩)
  replace h := (ifN hb659).symm.trans h
  refine wp_seq ?_
  refine reg ?_
  have s802 := p657.o (p654.o s567 rfl) rfl
  refine s1 p657.z (okEq s802 cst) rfl fun a803 p804 s805 => ?_
  refine s1 p804.z (okAs s805) rfl fun a806 p807 s808 => ?_
  refine rN (thenN ?_)
  have s809 := p807.o (p804.o s802 rfl) rfl
  have pg810 : Pg _ [81, 82, 101, 102] _ _ := (((((Pg.refl pg568.z).st p654 rfl).st p657 rfl).st p804 rfl).st p807 rfl)
  refine cnd s808 (fun hb811 => ?_) (fun hb811 => ?_)
  · replace h := (ifP hb811).symm.trans h
    refine wp_seq ?_
    refine reg ?_
    have s812 := pg810.o (pg568.o s69 rfl) rfl
    have m813 := m26.g0 g53
    refine s1 pg810.z (okLdA ag25 s812 (m813.cl) rfl rfl whole) rfl fun a814 p815 s816 => ?_
    have s817 := p815.o (pg810.o (pg568.o (pg75.o s0_3 rfl) rfl) rfl) rfl
    refine s1 p815.z (okMv s817) rfl fun a818 p819 s820 => ?_
    refine s1 p819.z (okEq s820 cst) rfl fun a821 p822 s823 => ?_
    refine s1 p822.z (okMv s823) rfl fun a824 p825 s826 => ?_
    refine cutP 3 (fun a' => Pg Try.f19.ntmps [107, 108, 109] a824 a' ∧ a'.eval (.tmp 109) = .bool ((x3 == 0) && (!(x0.owner == x1)))) ?_ ?_
    · rcases bf (x3 == 0) with hb827 | hb827
      · have s828 := bv s826 hb827
        refine s1k p825.z rfl (yd p825.z rfl rfl s828) rfl fun a829 p830 s831 => ?_
        have s832 := p830.o s828 rfl
        refine s1k p830.z rfl (yd p830.z rfl rfl s832) rfl fun a833 p834 s835 => ?_
        have s836 := p834.o s832 rfl
        refine s1 p834.z (okPickF s836 cst) rfl fun a837 p838 s839 => ?_
        exact rN ⟨rfl, rfl, ((((Pg.refl p825.z).st p830 rfl).st p834 rfl).st p838 rfl), (andF hb827 s839)⟩
      · have s840 := bv s826 hb827
        have s841 := p825.o (p822.o (p819.o (p815.o (pg810.o (pg568.o s72 rfl) rfl) rfl) rfl) rfl) rfl
        refine s1g p825.z (okMv s841) rfl (yd p825.z rfl rfl s840) fun a842 p843 s844 => ?_
        have s845 := p843.o s840 rfl
        refine s1g p843.z (okNot s844) rfl (yd p843.z rfl rfl s845) fun a846 p847 s848 => ?_
        have s849 := p847.o s845 rfl
        refine s1 p847.z (okPickT s849 s848) rfl fun a850 p851 s852 => ?_
        exact rN ⟨rfl, rfl, ((((Pg.refl p825.z).st p843 rfl).st p847 rfl).st p851 rfl), (andT hb827 s852)⟩
    rintro a853 ⟨pg854, s855⟩
    refine s1 pg854.z (okMv s855) rfl fun a856 p857 s858 => ?_
    refine cutP 8 (fun a' => Pg Try.f19.ntmps [111, 112, 113, 114, 115, 116, 117, 118] a856 a' ∧ a'.eval (.tmp 118) = .bool (((x3 == 0) && (!(x0.owner == x1))) && ((x0.owner != (-1)) || (decide (0 < t46))))) ?_ ?_
    · rcases bf ((x3 == 0) && (!(x0.owner == x1))) with hb859 | hb859
      · have s860 := bv s858 hb859
        refine s1k p857.z rfl (yd p857.z rfl rfl s860) rfl fun a861 p862 s863 => ?_
        have s864 := p862.o s860 rfl
        refine s1k p862.z rfl (yd p862.z rfl rfl s864) rfl fun a865 p866 s867 => ?_
        have s868 := p866.o s864 rfl
        refine s1k p866.z rfl (yd p866.z rfl rfl s868) rfl fun a869 p870 s871 => ?_
        have s872 := p870.o s868 rfl
        refine s1k p870.z rfl (yd p870.z rfl rfl s872) rfl fun a873 p874 s875 => ?_
        refine s1k p874.z rfl (ydU p874.z rfl rfl s875) rfl fun a876 p877 s878 => ?_
        have s879 := p877.o s875 rfl
        refine s1k p877.z rfl (ydU p877.z rfl rfl s879) rfl fun a880 p881 s882 => ?_
        have s883 := p881.o (p877.o (p874.o s872 rfl) rfl) rfl
        refine s1k p881.z rfl (yd p881.z rfl rfl s883) rfl fun a884 p885 s886 => ?_
        have s887 := p885.o s883 rfl
        refine s1 p885.z (okPickF s887 cst) rfl fun a888 p889 s890 => ?_
        exact rN ⟨rfl, rfl, (((((((((Pg.refl p857.z).st p862 rfl).st p866 rfl).st p870 rfl).st p874 rfl).st p877 rfl).st p881 rfl).st p885 rfl).st p889 rfl), (andF hb859 s890)⟩
      · have s891 := bv s858 hb859
        have s892 := p857.o (pg854.o (p825.o (p822.o (p819.o (p815.o s812 rfl) rfl) rfl) rfl) rfl) rfl
        refine s1g p857.z (okFA (o' := 2) fo25_2 s892 rfl) rfl (yd p857.z rfl rfl s891) fun a893 p894 s895 => ?_
        have s896 := p894.o s891 rfl
        refine s1g p894.z (okLd (j := 2) na3 s895 (m813.cl) rfl rfl) rfl (yd p894.z rfl rfl s896) fun a897 p898 s899 => ?_
        have s900 := p898.o s896 rfl
        refine s1g p898.z (okNe s899 cst) rfl (yd p898.z rfl rfl s900) fun a901 p902 s903 => ?_
        have s904 := p902.o s900 rfl
        refine s1g p902.z (okMv s903) rfl (yd p902.z rfl rfl s904) fun a905 p906 s907 => ?_
        refine cutP 3 (fun a' => Pg Try.f19.ntmps [115, 116, 117] a905 a' ∧ a'.eval (.tmp 117) = .bool ((x0.owner != (-1)) || (decide (0 < t46)))) ?_ ?_
        · rcases bf (x0.owner != (-1)) with hb908 | hb908
          · have s909 := bv s907 hb908
            have s910 := p906.o (p902.o (p898.o (p894.o (p857.o (pg854.o (p825.o (p822.o (p819.o (p815.o (pg810.o (pg568.o s73 rfl) rfl) rfl) rfl) rfl) rfl) rfl) rfl) rfl) rfl) rfl) rfl
            refine s1g p906.z (okMv s910) rfl (yd p906.z rfl rfl s909) fun a911 p912 s913 => ?_
            have s914 := p912.o s909 rfl
            refine s1g p912.z (okGt s913 cst) rfl (yd p912.z rfl rfl s914) fun a915 p916 s917 => ?_
            have s918 := p916.o (p912.o (p906.o s904 rfl) rfl) rfl
            have s919 := p916.o s914 rfl
            refine s1g p916.z (okPickF s919 s917) rfl (yd p916.z rfl rfl s918) fun a920 p921 s922 => ?_
            exact rN ⟨rfl, rfl, ((((Pg.refl p906.z).st p912 rfl).st p916 rfl).st p921 rfl), (orF hb908 s922)⟩
          · have s923 := bv s907 hb908
            refine s1k p906.z rfl (yd p906.z rfl rfl s923) rfl fun a924 p925 s926 => ?_
            have s927 := p925.o s923 rfl
            refine s1k p925.z rfl (yd p925.z rfl rfl s927) rfl fun a928 p929 s930 => ?_
            have s931 := p929.o (p925.o (p906.o s904 rfl) rfl) rfl
            have s932 := p929.o s927 rfl
            refine s1g p929.z (okPickT s932 cst) rfl (yd p929.z rfl rfl s931) fun a933 p934 s935 => ?_
            exact rN ⟨rfl, rfl, ((((Pg.refl p906.z).st p925 rfl).st p929 rfl).st p934 rfl), (orT hb908 s935)⟩
        rintro a936 ⟨pg937, s938⟩
        have s939 := pg937.o (p906.o s904 rfl) rfl
        refine s1 pg937.z (okPickT s939 s938) rfl fun a940 p941 s942 => ?_
        exact rN ⟨rfl, rfl, (((((((Pg.refl p857.z).st p894 rfl).st p898 rfl).st p902 rfl).st p906 rfl).tr pg937 rfl).st p941 rfl), (andT hb859 s942)⟩
    rintro a943 ⟨pg944, s945⟩
    refine s1 pg944.z (okMv s945) rfl fun a946 p947 s948 => ?_
    refine cutP 12 (fun a' => Pg Try.f19.ntmps [120, 121, 122, 123, 124, 125, 126, 127, 128, 129, 130, 131] a946 a' ∧ a'.eval (.tmp 131) = .bool ((((x3 == 0) && (!(x0.owner == x1))) && ((x0.owner != (-1)) || (decide (0 < t46)))) || (((x3 == 1) && (x0.owner != (-1))) && (!(x0.owner == x1))))) ?_ ?_
    · rcases bf (((x3 == 0) && (!(x0.owner == x1))) && ((x0.owner != (-1)) || (decide (0 < t46)))) with hb949 | hb949
      · have s950 := bv s948 hb949
        have s951 := p947.o (pg944.o (p857.o (pg854.o (p825.o (p822.o (p819.o s817 rfl) rfl) rfl) rfl) rfl) rfl) rfl
        refine s1g p947.z (okMv s951) rfl (yd p947.z rfl rfl s950) fun a952 p953 s954 => ?_
        have s955 := p953.o s950 rfl
        refine s1g p953.z (okEq s954 cst) rfl (yd p953.z rfl rfl s955) fun a956 p957 s958 => ?_
        have s959 := p957.o s955 rfl
        refine s1g p957.z (okMv s958) rfl (yd p957.z rfl rfl s959) fun a960 p961 s962 => ?_
        refine cutP 4 (fun a' => Pg Try.f19.ntmps [123, 124, 125, 126] a960 a' ∧ a'.eval (.tmp 126) = .bool ((x3 == 1) && (x0.owner != (-1)))) ?_ ?_
        · rcases bf (x3 == 1) with hb963 | hb963
          · have s964 := bv s962 hb963
            refine s1k p961.z rfl (yd p961.z rfl rfl s964) rfl fun a965 p966 s967 => ?_
            have s968 := p966.o s964 rfl
            refine s1k p966.z rfl (yd p966.z rfl rfl s968) rfl fun a969 p970 s971 => ?_
            have s972 := p970.o s968 rfl
            refine s1k p970.z rfl (yd p970.z rfl rfl s972) rfl fun a973 p974 s975 => ?_
            have s976 := p974.o (p970.o (p966.o (p961.o s959 rfl) rfl) rfl) rfl
            have s977 := p974.o s972 rfl
            refine s1g p974.z (okPickF s977 cst) rfl (yd p974.z rfl rfl s976) fun a978 p979 s980 => ?_
            exact rN ⟨rfl, rfl, (((((Pg.refl p961.z).st p966 rfl).st p970 rfl).st p974 rfl).st p979 rfl), (andF hb963 s980)⟩
          · have s981 := bv s962 hb963
            have s982 := p961.o (p957.o (p953.o (p947.o (pg944.o (p857.o (pg854.o (p825.o (p822.o (p819.o (p815.o s812 rfl) rfl) rfl) rfl) rfl) rfl) rfl) rfl) rfl) rfl) rfl
            refine s1g p961.z (okFA (o' := 2) fo25_2 s982 rfl) rfl (yd p961.z rfl rfl s981) fun a983 p984 s985 => ?_
            have s986 := p984.o s981 rfl
            refine s1g p984.z (okLd (j := 2) na3 s985 (m813.cl) rfl rfl) rfl (yd p984.z rfl rfl s986) fun a987 p988 s989 => ?_
            have s990 := p988.o s986 rfl
            refine s1g p988.z (okNe s989 cst) rfl (yd p988.z rfl rfl s990) fun a991 p992 s993 => ?_
            have s994 := p992.o (p988.o (p984.o (p961.o s959 rfl) rfl) rfl) rfl
            have s995 := p992.o s990 rfl
            refine s1g p992.z (okPickT s995 s993) rfl (yd p992.z rfl rfl s994) fun a996 p997 s998 => ?_
            exact rN ⟨rfl, rfl, (((((Pg.refl p961.z).st p984 rfl).st p988 rfl).st p992 rfl).st p997 rfl), (andT hb963 s998)⟩
        rintro a999 ⟨pg1000, s1001⟩
        have s1002 := pg1000.o (p961.o s959 rfl) rfl
        refine s1g pg1000.z (okMv s1001) rfl (yd pg1000.z rfl rfl s1002) fun a1003 p1004 s1005 => ?_
        refine cutP 3 (fun a' => Pg Try.f19.ntmps [128, 129, 130] a1003 a' ∧ a'.eval (.tmp 130) = .bool (((x3 == 1) && (x0.owner != (-1))) && (!(x0.owner == x1)))) ?_ ?_
        · rcases bf ((x3 == 1) && (x0.owner != (-1))) with hb1006 | hb1006
          · have s1007 := bv s1005 hb1006
            refine s1k p1004.z rfl (yd p1004.z rfl rfl s1007) rfl fun a1008 p1009 s1010 => ?_
            have s1011 := p1009.o s1007 rfl
            refine s1k p1009.z rfl (yd p1009.z rfl rfl s1011) rfl fun a1012 p1013 s1014 => ?_
            have s1015 := p1013.o (p1009.o (p1004.o s1002 rfl) rfl) rfl
            have s1016 := p1013.o s1011 rfl
            refine s1g p1013.z (okPickF s1016 cst) rfl (yd p1013.z rfl rfl s1015) fun a1017 p1018 s1019 => ?_
            exact rN ⟨rfl, rfl, ((((Pg.refl p1004.z).st p1009 rfl).st p1013 rfl).st p1018 rfl), (andF hb1006 s1019)⟩
          · have s1020 := bv s1005 hb1006
            have s1021 := p1004.o (pg1000.o (p961.o (p957.o (p953.o (p947.o (pg944.o (p857.o (pg854.o (p825.o (p822.o (p819.o (p815.o (pg810.o (pg568.o s72 rfl) rfl) rfl) rfl) rfl) rfl) rfl) rfl) rfl) rfl) rfl) rfl) rfl) rfl) rfl
            refine s1g p1004.z (okMv s1021) rfl (yd p1004.z rfl rfl s1020) fun a1022 p1023 s1024 => ?_
            have s1025 := p1023.o s1020 rfl
            refine s1g p1023.z (okNot s1024) rfl (yd p1023.z rfl rfl s1025) fun a1026 p1027 s1028 => ?_
            have s1029 := p1027.o (p1023.o (p1004.o s1002 rfl) rfl) rfl
            have s1030 := p1027.o s1025 rfl
            refine s1g p1027.z (okPickT s1030 s1028) rfl (yd p1027.z rfl rfl s1029) fun a1031 p1032 s1033 => ?_
            exact rN ⟨rfl, rfl, ((((Pg.refl p1004.z).st p1023 rfl).st p1027 rfl).st p1032 rfl), (andT hb1006 s1033)⟩
        rintro a1034 ⟨pg1035, s1036⟩
        have s1037 := pg1035.o (p1004.o s1002 rfl) rfl
        refine s1 pg1035.z (okPickF s1037 s1036) rfl fun a1038 p1039 s1040 => ?_
        exact rN ⟨rfl, rfl, ((((((((Pg.refl p947.z).st p953 rfl).st p957 rfl).st p961 rfl).tr pg1000 rfl).st p1004 rfl).tr pg1035 rfl).st p1039 rfl), (orF hb949 s1040)⟩
      · have s1041 := bv s948 hb949
        refine s1k p947.z rfl (yd p947.z rfl rfl s1041) rfl fun a1042 p1043 s1044 => ?_
        have s1045 := p1043.o s1041 rfl
        refine s1k p1043.z rfl (yd p1043.z rfl rfl s1045) rfl fun a1046 p1047 s1048 => ?_
        have s1049 := p1047.o s1045 rfl
        refine s1k p1047.z rfl (yd p1047.z rfl rfl s1049) rfl fun a1050 p1051 s1052 => ?_
        refine s1k p1051.z rfl (ydU p1051.z rfl rfl s1052) rfl fun a1053 p1054 s1055 => ?_
        have s1056 := p1054.o s1052 rfl
        refine s1k p1054.z rfl (ydU p1054.z rfl rfl s1056) rfl fun a1057 p1058 s1059 => ?_
        have s1060 := p1058.o s1056 rfl
        refine s1k p1058.z rfl (ydU p1058.z rfl rfl s1060) rfl fun a1061 p1062 s1063 => ?_
        have s1064 := p1062.o (p1058.o (p1054.o (p1051.o s1049 rfl) rfl) rfl) rfl
        refine s1k p1062.z rfl (yd p1062.z rfl rfl s1064) rfl fun a1065 p1066 s1067 => ?_
        have s1068 := p1066.o s1064 rfl
        refine s1k p1066.z rfl (yd p1066.z rfl rfl s1068) rfl fun a1069 p1070 s1071 => ?_
        refine s1k p1070.z rfl (ydU p1070.z rfl rfl s1071) rfl fun a1072 p1073 s1074 => ?_
        have s1075 := p1073.o s1071 rfl
        refine s1k p1073.z rfl (ydU p1073.z rfl rfl s1075) rfl fun a1076 p1077 s1078 => ?_
        have s1079 := p1077.o (p1073.o (p1070.o s1068 rfl) rfl) rfl
        refine s1k p1077.z rfl (yd p1077.z rfl rfl s1079) rfl fun a1080 p1081 s1082 => ?_
        have s1083 := p1081.o s1079 rfl
        refine s1 p1081.z (okPickT s1083 cst) rfl fun a1084 p1085 s1086 => ?_
        exact rN ⟨rfl, rfl, (((((((((((((Pg.refl p947.z).st p1043 rfl).st p1047 rfl).st p1051 rfl).st p1054 rfl).st p1058 rfl).st p1062 rfl).st p1066 rfl).st p1070 rfl).st p1073 rfl).st p1077 rfl).st p1081 rfl).st p1085 rfl), (orT hb949 s1086)⟩
    rintro a1087 ⟨pg1088, s1089⟩
    have s1090 := pg1088.o (p947.o (pg944.o (p857.o (pg854.o (p825.o (p822.o (p819.o (p815.o (pg810.o (pg568.o s70 rfl) rfl) rfl) rfl) rfl) rfl) rfl) rfl) rfl) rfl) rfl
    have s1091 := pg1088.o (p947.o (pg944.o (p857.o (pg854.o (p825.o (p822.o (p819.o s816 rfl) rfl) rfl) rfl) rfl) rfl) rfl) rfl
    have m1092 := m14.g0 g53
    have q1093 := q45.mono g53.t0
    refine lS (oStoW (cs := TThing.C x0 h0_0) pg1088.z s1090 s1091 m1092 Try.sizeOf25 rfl (TThing.C_one _ q1093.one) rfl fun w1094 m1095 g1096 => ?_)
    have cx1097 := cx54.st g1096 f18
    refine s1 pg1088.z (okAs s1089) rfl fun a1098 p1099 s1100 => ?_
    refine rN (thenN ?_)
    have s1101 := p1099.o s1090 rfl
    obtain rfl := Option.some.inj h
    have q1102 := q1093.mono (g1096.t1 (.head _))
    exact wp_ret (blkR (thenR (ret2 p1099.z Try.results19 (rvA ag25 s1101 m1095 rfl) (rvT s1100) ⟨_, rfl, h0_0, rfl, (q1102.mono ((Tr.refl _ _).sub (fun i h => (.tail _ (.tail _ h))))), cx1097.g⟩)))
  replace h := (ifN hb811).symm.trans h
  refine wp_seq ?_
  refine reg ?_
  refine s1 pg810.z (okEq s809 cst) rfl fun a1103 p1104 s1105 => ?_
  refine s1 p1104.z (okAs s1105) rfl fun a1106 p1107 s1108 => ?_
  refine rN (thenN ?_)
  refine cnd s1108 (fun hb1109 => ?_) (fun hb1109 => ?_)
  · replace h := (ifP hb1109).symm.trans h
    refine wp_seq ?_
    obtain ⟨b1157, hb1158, h⟩ := Option.bind_eq_some_iff.1 h
    have s1290 := p1107.o (p1104.o (pg810.o (pg568.o s69 rfl) rfl) rfl) rfl
    have s1291 := p1107.o (p1104.o (pg810.o (pg568.o s70 rfl) rfl) rfl) rfl
    have m1292 := m26.g0 g53
    have m1293 := m14.g0 g53
    refine regJ (fun a' w' => Z Try.f19.ntmps a' ∧ a'.eval (.tmp 4) = ptr b3 0 ∧ a'.eval (.tmp 8) = ptr b12 0 ∧ a'.eval (.tmp 9) = .bool b1157 ∧ Bk w' b3 (TThing.C x0 h0_0) 25 ∧ Bk w' b12 (TThing.C x0 h0_0) 25 ∧ Cx [] w (b12 :: b3 :: L) w' ∧ Tr (b12 :: b3 :: L) w49 (b12 :: b3 :: L) w') ?_ ?_
    · refine regH (n := 20) [(0, fun w' => Cl w' b3 0 (TThing.C x0 h0_0)), (14, fun w' => Cl w' b3 (4 + x1.toNat) [.int .i64 (x0.reads.get x1)])] mixed rfl ?_
      have g1294 := G.drew w49
      have cx1295 := cx54.ca g1294
      have m1296 := m1292.g0 g1294
      refine hTakeW (i := 0) rfl (by kernel_rfl) (by kernel_rfl) (by kernel_rfl) nrm (.inr (.head _)) p1107.z (wN rfl) (fun _ h => okLdA ag25 s1290 h rfl rfl whole) (m1296.clp rfl) rfl fun a1297 p1298 sp1298 => ?_
      have s1299 := p1298.o (p1107.o (p1104.o (pg810.o (pg568.o (pg75.o s0_3 rfl) rfl) rfl) rfl) rfl) rfl
      refine hTakeW (i := 1) rfl (by kernel_rfl) (by kernel_rfl) (by kernel_rfl) nrm (cond := fun _ => True) (.inl fun _ => trivial) p1298.z (wN rfl) (fun _ _ => okMv s1299) trivial rfl fun a1300 p1301 sp1301 => ?_
      refine hTakeW (i := 2) rfl (by kernel_rfl) (by kernel_rfl) (by kernel_rfl) nrm (cond := fun _ => True) (.inl fun _ => trivial) p1301.z (wN rfl) (fun _ _ => okEq sp1301 cst) trivial rfl fun a1302 p1303 sp1303 => ?_
      refine hTakeW (i := 3) rfl (by kernel_rfl) (by kernel_rfl) (by kernel_rfl) nrm (cond := fun _ => True) (.inl fun _ => trivial) p1303.z (wN rfl) (fun _ _ => okMv sp1303) trivial rfl fun a1304 p1305 sp1305 => ?_
      rcases bf (x3 == 0) with hb1306 | hb1306
      · have s1307 := bv sp1305 hb1306
        refine hSkip (i := 4) rfl (by kernel_rfl) (by kernel_rfl) (by kernel_rfl) nrm rfl p1305.z (yd p1305.z rfl rfl s1307) rfl rfl fun a1308 p1309 sp1309 => ?_
        have s1310 := p1309.o s1307 rfl
        refine hSkip (i := 5) rfl (by kernel_rfl) (by kernel_rfl) (by kernel_rfl) nrm rfl p1309.z (yd p1309.z rfl rfl s1310) rfl rfl fun a1311 p1312 sp1312 => ?_
        have s1313 := p1312.o s1310 rfl
        refine hTakeW (i := 6) rfl (by kernel_rfl) (by kernel_rfl) (by kernel_rfl) nrm (cond := fun _ => True) (.inl fun _ => trivial) p1312.z (wN rfl) (fun _ _ => okPickF s1313 cst) trivial rfl fun a1314 p1315 sp1315 => ?_
        refine hTakeW (i := 7) rfl (by kernel_rfl) (by kernel_rfl) (by kernel_rfl) nrm (cond := fun _ => True) (.inl fun _ => trivial) p1315.z (wN rfl) (fun _ _ => okMv sp1315) trivial rfl fun a1316 p1317 sp1317 => ?_
        replace h := (ifN (by simp [hb1306])).symm.trans hb1158
        have s1319 := p1317.o (p1315.o (p1312.o (p1309.o (p1305.o (p1303.o (p1301.o s1299 rfl) rfl) rfl) rfl) rfl) rfl) rfl
        refine hTakeW (i := 8) rfl (by kernel_rfl) (by kernel_rfl) (by kernel_rfl) nrm (cond := fun _ => True) (.inl fun _ => trivial) p1317.z (wG rfl (yd p1317.z rfl rfl sp1317)) (fun _ _ => okMv s1319) trivial rfl fun a1320 p1321 sp1321 => ?_
        have s1322 := p1321.o sp1317 rfl
        refine hTakeW (i := 9) rfl (by kernel_rfl) (by kernel_rfl) (by kernel_rfl) nrm (cond := fun _ => True) (.inl fun _ => trivial) p1321.z (wG rfl (yd p1321.z rfl rfl s1322)) (fun _ _ => okEq sp1321 cst) trivial rfl fun a1323 p1324 sp1324 => ?_
        have s1325 := p1324.o s1322 rfl
        refine hTakeW (i := 10) rfl (by kernel_rfl) (by kernel_rfl) (by kernel_rfl) nrm (cond := fun _ => True) (.inl fun _ => trivial) p1324.z (wG rfl (yd p1324.z rfl rfl s1325)) (fun _ _ => okMv sp1324) trivial rfl fun a1326 p1327 sp1327 => ?_
        obtain ⟨b1328, hb1329, hr1330⟩ := Option.bind_eq_some_iff.1 h
        rcases bf (x3 == 1) with hb1331 | hb1331
        · have s1332 := bv sp1327 hb1331
          replace h := (ifN hb1331).symm.trans hb1329
          refine hSkip (i := 11) rfl (by kernel_rfl) (by kernel_rfl) (by kernel_rfl) nrm rfl p1327.z (yd p1327.z rfl rfl s1332) rfl rfl fun a1334 p1335 sp1335 => ?_
          have s1336 := p1335.o s1332 rfl
          refine hSkip (i := 12) rfl (by kernel_rfl) (by kernel_rfl) (by kernel_rfl) nrm rfl p1335.z (yd p1335.z rfl rfl s1336) rfl rfl fun a1337 p1338 sp1338 => ?_
          have s1339 := p1338.o s1336 rfl
          refine hSkip (i := 13) rfl (by kernel_rfl) (by kernel_rfl) (by kernel_rfl) nrm rfl p1338.z (yd p1338.z rfl rfl s1339) rfl rfl fun a1340 p1341 sp1341 => ?_
          have s1342 := p1341.o s1339 rfl
          refine hSkip (i := 14) rfl (by kernel_rfl) (by kernel_rfl) (by kernel_rfl) nrm rfl p1341.z (yd p1341.z rfl rfl s1342) rfl rfl fun a1343 p1344 sp1344 => ?_
          have s1345 := p1344.o s1342 rfl
          refine hSkip (i := 15) rfl (by kernel_rfl) (by kernel_rfl) (by kernel_rfl) nrm rfl p1344.z (yd p1344.z rfl rfl s1345) rfl rfl fun a1346 p1347 sp1347 => ?_
          have s1348 := p1347.o (p1344.o (p1341.o (p1338.o (p1335.o (p1327.o s1325 rfl) rfl) rfl) rfl) rfl) rfl
          have s1349 := p1347.o s1345 rfl
          refine hTakeW (i := 16) rfl (by kernel_rfl) (by kernel_rfl) (by kernel_rfl) nrm (cond := fun _ => True) (.inl fun _ => trivial) p1347.z (wG rfl (yd p1347.z rfl rfl s1348)) (fun _ _ => okPickF s1349 cst) trivial rfl fun a1350 p1351 sp1351 => ?_
          obtain rfl := Option.some.inj h
          replace h := hr1330
          have s1352 := p1351.o s1348 rfl
          refine hTakeW (i := 17) rfl (by kernel_rfl) (by kernel_rfl) (by kernel_rfl) nrm (cond := fun _ => True) (.inl fun _ => trivial) p1351.z (wN rfl) (fun _ _ => okPickF s1352 sp1351) trivial rfl fun a1353 p1354 sp1354 => ?_
          obtain rfl := Option.some.inj h
          have s1355 := p1354.o (p1351.o (p1347.o (p1344.o (p1341.o (p1338.o (p1335.o (p1327.o (p1324.o (p1321.o (p1317.o (p1315.o (p1312.o (p1309.o (p1305.o (p1303.o (p1301.o (p1298.o s1291 rfl) rfl) rfl) rfl) rfl) rfl) rfl) rfl) rfl) rfl) rfl) rfl) rfl) rfl) rfl) rfl) rfl) rfl
          have s1356 := p1354.o (p1351.o (p1347.o (p1344.o (p1341.o (p1338.o (p1335.o (p1327.o (p1324.o (p1321.o (p1317.o (p1315.o (p1312.o (p1309.o (p1305.o (p1303.o (p1301.o sp1298 rfl) rfl) rfl) rfl) rfl) rfl) rfl) rfl) rfl) rfl) rfl) rfl) rfl) rfl) rfl) rfl) rfl
          have m1357 := m1293.g0 g1294
          have q1358 := q45.mono (g53.t0.trans g1294.t0)
          refine hOne (i := 18) (by kernel_rfl) rfl (oStoW (cs := TThing.C x0 h0_0) p1354.z s1355 s1356 m1357 Try.sizeOf25 rfl (TThing.C_one _ q1358.one) rfl fun w1359 m1360 g1361 => ?_)
          have cx1362 := cx1295.st g1361 f18
          refine ⟨⟨.inl rfl, .inr fun h => h.g1 g1361 (m5.ne e16), trivial⟩, ?_⟩
          refine hTakeW (i := 19) rfl (by kernel_rfl) (by kernel_rfl) (by kernel_rfl) nrm (cond := fun _ => True) (.inl fun _ => trivial) p1354.z (wN rfl) (fun _ _ => okAs sp1354) trivial rfl fun a1363 p1364 sp1364 => ?_
          have s1365 := p1364.o (p1354.o (p1351.o (p1347.o (p1344.o (p1341.o (p1338.o (p1335.o (p1327.o (p1324.o (p1321.o (p1317.o (p1315.o (p1312.o (p1309.o (p1305.o (p1303.o (p1301.o (p1298.o s1290 rfl) rfl) rfl) rfl) rfl) rfl) rfl) rfl) rfl) rfl) rfl) rfl) rfl) rfl) rfl) rfl) rfl) rfl) rfl
          have s1366 := p1364.o s1355 rfl
          have m1367 := m1296.g1 g1361 (m5.ne e16)
          exact hDone (by kernel_rfl) ⟨rfl, p1364.z, s1365, s1366, sp1364, m1367, m1360, cx1362, (g1294.t0.trans (g1361.t1 (.head _)))⟩
        · have s1368 := bv sp1327 hb1331
          replace h := (ifP hb1331).symm.trans hb1329
          have s1370 := p1327.o (p1324.o (p1321.o (p1317.o (p1315.o (p1312.o (p1309.o (p1305.o (p1303.o (p1301.o (p1298.o (p1107.o (p1104.o (pg810.o (pg568.o s68 rfl) rfl) rfl) rfl) rfl) rfl) rfl) rfl) rfl) rfl) rfl) rfl) rfl) rfl) rfl
          refine hTakeW (i := 11) rfl (by kernel_rfl) (by kernel_rfl) (by kernel_rfl) nrm (cond := fun _ => True) (.inl fun _ => trivial) p1327.z (wG rfl (yd p1327.z rfl rfl s1368)) (fun _ _ => okMv s1370) trivial rfl fun a1371 p1372 sp1372 => ?_
          have s1373 := p1372.o s1368 rfl
          have s1374 := p1372.o (p1327.o (p1324.o (p1321.o (p1317.o (p1315.o (p1312.o (p1309.o (p1305.o (p1303.o (p1301.o (p1298.o s1290 rfl) rfl) rfl) rfl) rfl) rfl) rfl) rfl) rfl) rfl) rfl) rfl
          refine hTakeW (i := 12) rfl (by kernel_rfl) (by kernel_rfl) (by kernel_rfl) nrm (cond := fun _ => True) (.inl fun _ => trivial) p1372.z (wG rfl (yd p1372.z rfl rfl s1373)) (fun _ _ => okFA (o' := 4) fo25_4 s1374 rfl) trivial rfl fun a1375 p1376 sp1376 => ?_
          have s1377 := p1376.o s1373 rfl
          have s1378 := p1376.o sp1372 rfl
          by_cases hi1379 : 0 ≤ x1 ∧ x1 < 8
          case neg => rw [if_neg hi1379] at h; cases h
          replace h := (if_pos hi1379).symm.trans h
          refine hTakeW (i := 13) rfl (by kernel_rfl) (by kernel_rfl) (by kernel_rfl) nrm (cond := fun _ => True) (.inl fun _ => trivial) p1376.z (wG rfl (yd p1376.z rfl rfl s1377)) (fun _ _ => okIA Try.underlying22 Try.sizeOf3 sp1376 s1378 hi1379) trivial rfl fun a1380 p1381 sp1381 => ?_
          have s1382 := p1381.o s1377 rfl
          refine hTakeW (i := 14) rfl (by kernel_rfl) (by kernel_rfl) (by kernel_rfl) nrm (.inr (.tail _ (.head _))) p1381.z (wG rfl (yd p1381.z rfl rfl s1382)) (fun _ h => okLd (j := 0) na3 sp1381 h rfl rfl) (clD (TThing.C_reads_get _ _ hi1379) m1296.cl) rfl fun a1383 p1384 sp1384 => ?_
          have s1385 := p1384.o s1382 rfl
          refine hTakeW (i := 15) rfl (by kernel_rfl) (by kernel_rfl) (by kernel_rfl) nrm (cond := fun _ => True) (.inl fun _ => trivial) p1384.z (wG rfl (yd p1384.z rfl rfl s1385)) (fun _ _ => okEq sp1384 cst) trivial rfl fun a1386 p1387 sp1387 => ?_
          have s1388 := p1387.o (p1384.o (p1381.o (p1376.o (p1372.o (p1327.o s1325 rfl) rfl) rfl) rfl) rfl) rfl
          have s1389 := p1387.o s1385 rfl
          refine hTakeW (i := 16) rfl (by kernel_rfl) (by kernel_rfl) (by kernel_rfl) nrm (cond := fun _ => True) (.inl fun _ => trivial) p1387.z (wG rfl (yd p1387.z rfl rfl s1388)) (fun _ _ => okPickT s1389 sp1387) trivial rfl fun a1390 p1391 sp1391 => ?_
          obtain rfl := Option.some.inj h
          replace h := hr1330
          have s1392 := p1391.o s1388 rfl
          refine hTakeW (i := 17) rfl (by kernel_rfl) (by kernel_rfl) (by kernel_rfl) nrm (cond := fun _ => True) (.inl fun _ => trivial) p1391.z (wN rfl) (fun _ _ => okPickF s1392 sp1391) trivial rfl fun a1393 p1394 sp1394 => ?_
          obtain rfl := Option.some.inj h
          have s1395 := p1394.o (p1391.o (p1387.o (p1384.o (p1381.o (p1376.o (p1372.o (p1327.o (p1324.o (p1321.o (p1317.o (p1315.o (p1312.o (p1309.o (p1305.o (p1303.o (p1301.o (p1298.o s1291 rfl) rfl) rfl) rfl) rfl) rfl) rfl) rfl) rfl) rfl) rfl) rfl) rfl) rfl) rfl) rfl) rfl) rfl
          have s1396 := p1394.o (p1391.o (p1387.o (p1384.o (p1381.o (p1376.o (p1372.o (p1327.o (p1324.o (p1321.o (p1317.o (p1315.o (p1312.o (p1309.o (p1305.o (p1303.o (p1301.o sp1298 rfl) rfl) rfl) rfl) rfl) rfl) rfl) rfl) rfl) rfl) rfl) rfl) rfl) rfl) rfl) rfl) rfl
          have m1397 := m1293.g0 g1294
          have q1398 := q45.mono (g53.t0.trans g1294.t0)
          refine hOne (i := 18) (by kernel_rfl) rfl (oStoW (cs := TThing.C x0 h0_0) p1394.z s1395 s1396 m1397 Try.sizeOf25 rfl (TThing.C_one _ q1398.one) rfl fun w1399 m1400 g1401 => ?_)
          have cx1402 := cx1295.st g1401 f18
          refine ⟨⟨.inl rfl, .inr fun h => h.g1 g1401 (m5.ne e16), trivial⟩, ?_⟩
          refine hTakeW (i := 19) rfl (by kernel_rfl) (by kernel_rfl) (by kernel_rfl) nrm (cond := fun _ => True) (.inl fun _ => trivial) p1394.z (wN rfl) (fun _ _ => okAs sp1394) trivial rfl fun a1403 p1404 sp1404 => ?_
          have s1405 := p1404.o (p1394.o (p1391.o (p1387.o (p1384.o (p1381.o (p1376.o s1374 rfl) rfl) rfl) rfl) rfl) rfl) rfl
          have s1406 := p1404.o s1395 rfl
          have m1407 := m1296.g1 g1401 (m5.ne e16)
          exact hDone (by kernel_rfl) ⟨rfl, p1404.z, s1405, s1406, sp1404, m1407, m1400, cx1402, (g1294.t0.trans (g1401.t1 (.head _)))⟩
      · have s1408 := bv sp1305 hb1306
        have s1409 := p1305.o (p1303.o (p1301.o (p1298.o (p1107.o (p1104.o (pg810.o (pg568.o s72 rfl) rfl) rfl) rfl) rfl) rfl) rfl) rfl
        refine hTakeW (i := 4) rfl (by kernel_rfl) (by kernel_rfl) (by kernel_rfl) nrm (cond := fun _ => True) (.inl fun _ => trivial) p1305.z (wG rfl (yd p1305.z rfl rfl s1408)) (fun _ _ => okMv s1409) trivial rfl fun a1410 p1411 sp1411 => ?_
        have s1412 := p1411.o s1408 rfl
        refine hTakeW (i := 5) rfl (by kernel_rfl) (by kernel_rfl) (by kernel_rfl) nrm (cond := fun _ => True) (.inl fun _ => trivial) p1411.z (wG rfl (yd p1411.z rfl rfl s1412)) (fun _ _ => okNot sp1411) trivial rfl fun a1413 p1414 sp1414 => ?_
        have s1415 := p1414.o s1412 rfl
        refine hTakeW (i := 6) rfl (by kernel_rfl) (by kernel_rfl) (by kernel_rfl) nrm (cond := fun _ => True) (.inl fun _ => trivial) p1414.z (wN rfl) (fun _ _ => okPickT s1415 sp1414) trivial rfl fun a1416 p1417 sp1417 => ?_
        refine hTakeW (i := 7) rfl (by kernel_rfl) (by kernel_rfl) (by kernel_rfl) nrm (cond := fun _ => True) (.inl fun _ => trivial) p1417.z (wN rfl) (fun _ _ => okMv sp1417) trivial rfl fun a1418 p1419 sp1419 => ?_
        rcases bf (!(x0.owner == x1)) with hb1420 | hb1420
        · have s1421 := bv sp1419 hb1420
          replace h := (ifN (by simp [hb1306, hb1420])).symm.trans hb1158
          have s1423 := p1419.o (p1417.o (p1414.o (p1411.o (p1305.o (p1303.o (p1301.o s1299 rfl) rfl) rfl) rfl) rfl) rfl) rfl
          refine hTakeW (i := 8) rfl (by kernel_rfl) (by kernel_rfl) (by kernel_rfl) nrm (cond := fun _ => True) (.inl fun _ => trivial) p1419.z (wG rfl (yd p1419.z rfl rfl s1421)) (fun _ _ => okMv s1423) trivial rfl fun a1424 p1425 sp1425 => ?_
          have s1426 := p1425.o s1421 rfl
          refine hTakeW (i := 9) rfl (by kernel_rfl) (by kernel_rfl) (by kernel_rfl) nrm (cond := fun _ => True) (.inl fun _ => trivial) p1425.z (wG rfl (yd p1425.z rfl rfl s1426)) (fun _ _ => okEq sp1425 cst) trivial rfl fun a1427 p1428 sp1428 => ?_
          have s1429 := p1428.o s1426 rfl
          refine hTakeW (i := 10) rfl (by kernel_rfl) (by kernel_rfl) (by kernel_rfl) nrm (cond := fun _ => True) (.inl fun _ => trivial) p1428.z (wG rfl (yd p1428.z rfl rfl s1429)) (fun _ _ => okMv sp1428) trivial rfl fun a1430 p1431 sp1431 => ?_
          obtain ⟨b1432, hb1433, hr1434⟩ := Option.bind_eq_some_iff.1 h
          rcases bf (x3 == 1) with hb1435 | hb1435
          · have s1436 := bv sp1431 hb1435
            replace h := (ifN hb1435).symm.trans hb1433
            refine hSkip (i := 11) rfl (by kernel_rfl) (by kernel_rfl) (by kernel_rfl) nrm rfl p1431.z (yd p1431.z rfl rfl s1436) rfl rfl fun a1438 p1439 sp1439 => ?_
            have s1440 := p1439.o s1436 rfl
            refine hSkip (i := 12) rfl (by kernel_rfl) (by kernel_rfl) (by kernel_rfl) nrm rfl p1439.z (yd p1439.z rfl rfl s1440) rfl rfl fun a1441 p1442 sp1442 => ?_
            have s1443 := p1442.o s1440 rfl
            refine hSkip (i := 13) rfl (by kernel_rfl) (by kernel_rfl) (by kernel_rfl) nrm rfl p1442.z (yd p1442.z rfl rfl s1443) rfl rfl fun a1444 p1445 sp1445 => ?_
            have s1446 := p1445.o s1443 rfl
            refine hSkip (i := 14) rfl (by kernel_rfl) (by kernel_rfl) (by kernel_rfl) nrm rfl p1445.z (yd p1445.z rfl rfl s1446) rfl rfl fun a1447 p1448 sp1448 => ?_
            have s1449 := p1448.o s1446 rfl
            refine hSkip (i := 15) rfl (by kernel_rfl) (by kernel_rfl) (by kernel_rfl) nrm rfl p1448.z (yd p1448.z rfl rfl s1449) rfl rfl fun a1450 p1451 sp1451 => ?_
            have s1452 := p1451.o (p1448.o (p1445.o (p1442.o (p1439.o (p1431.o s1429 rfl) rfl) rfl) rfl) rfl) rfl
            have s1453 := p1451.o s1449 rfl
            refine hTakeW (i := 16) rfl (by kernel_rfl) (by kernel_rfl) (by kernel_rfl) nrm (cond := fun _ => True) (.inl fun _ => trivial) p1451.z (wG rfl (yd p1451.z rfl rfl s1452)) (fun _ _ => okPickF s1453 cst) trivial rfl fun a1454 p1455 sp1455 => ?_
            obtain rfl := Option.some.inj h
            replace h := hr1434
            have s1456 := p1455.o s1452 rfl
            refine hTakeW (i := 17) rfl (by kernel_rfl) (by kernel_rfl) (by kernel_rfl) nrm (cond := fun _ => True) (.inl fun _ => trivial) p1455.z (wN rfl) (fun _ _ => okPickF s1456 sp1455) trivial rfl fun a1457 p1458 sp1458 => ?_
            obtain rfl := Option.some.inj h
            have s1459 := p1458.o (p1455.o (p1451.o (p1448.o (p1445.o (p1442.o (p1439.o (p1431.o (p1428.o (p1425.o (p1419.o (p1417.o (p1414.o (p1411.o (p1305.o (p1303.o (p1301.o (p1298.o s1291 rfl) rfl) rfl) rfl) rfl) rfl) rfl) rfl) rfl) rfl) rfl) rfl) rfl) rfl) rfl) rfl) rfl) rfl
            have s1460 := p1458.o (p1455.o (p1451.o (p1448.o (p1445.o (p1442.o (p1439.o (p1431.o (p1428.o (p1425.o (p1419.o (p1417.o (p1414.o (p1411.o (p1305.o (p1303.o (p1301.o sp1298 rfl) rfl) rfl) rfl) rfl) rfl) rfl) rfl) rfl) rfl) rfl) rfl) rfl) rfl) rfl) rfl) rfl
            have m1461 := m1293.g0 g1294
            have q1462 := q45.mono (g53.t0.trans g1294.t0)
            refine hOne (i := 18) (by kernel_rfl) rfl (oStoW (cs := TThing.C x0 h0_0) p1458.z s1459 s1460 m1461 Try.sizeOf25 rfl (TThing.C_one _ q1462.one) rfl fun w1463 m1464 g1465 => ?_)
            have cx1466 := cx1295.st g1465 f18
            refine ⟨⟨.inl rfl, .inr fun h => h.g1 g1465 (m5.ne e16), trivial⟩, ?_⟩
            refine hTakeW (i := 19) rfl (by kernel_rfl) (by kernel_rfl) (by kernel_rfl) nrm (cond := fun _ => True) (.inl fun _ => trivial) p1458.z (wN rfl) (fun _ _ => okAs sp1458) trivial rfl fun a1467 p1468 sp1468 => ?_
            have s1469 := p1468.o (p1458.o (p1455.o (p1451.o (p1448.o (p1445.o (p1442.o (p1439.o (p1431.o (p1428.o (p1425.o (p1419.o (p1417.o (p1414.o (p1411.o (p1305.o (p1303.o (p1301.o (p1298.o s1290 rfl) rfl) rfl) rfl) rfl) rfl) rfl) rfl) rfl) rfl) rfl) rfl) rfl) rfl) rfl) rfl) rfl) rfl) rfl
            have s1470 := p1468.o s1459 rfl
            have m1471 := m1296.g1 g1465 (m5.ne e16)
            exact hDone (by kernel_rfl) ⟨rfl, p1468.z, s1469, s1470, sp1468, m1471, m1464, cx1466, (g1294.t0.trans (g1465.t1 (.head _)))⟩
          · have s1472 := bv sp1431 hb1435
            replace h := (ifP hb1435).symm.trans hb1433
            have s1474 := p1431.o (p1428.o (p1425.o (p1419.o (p1417.o (p1414.o (p1411.o (p1305.o (p1303.o (p1301.o (p1298.o (p1107.o (p1104.o (pg810.o (pg568.o s68 rfl) rfl) rfl) rfl) rfl) rfl) rfl) rfl) rfl) rfl) rfl) rfl) rfl) rfl) rfl
            refine hTakeW (i := 11) rfl (by kernel_rfl) (by kernel_rfl) (by kernel_rfl) nrm (cond := fun _ => True) (.inl fun _ => trivial) p1431.z (wG rfl (yd p1431.z rfl rfl s1472)) (fun _ _ => okMv s1474) trivial rfl fun a1475 p1476 sp1476 => ?_
            have s1477 := p1476.o s1472 rfl
            have s1478 := p1476.o (p1431.o (p1428.o (p1425.o (p1419.o (p1417.o (p1414.o (p1411.o (p1305.o (p1303.o (p1301.o (p1298.o s1290 rfl) rfl) rfl) rfl) rfl) rfl) rfl) rfl) rfl) rfl) rfl) rfl
            refine hTakeW (i := 12) rfl (by kernel_rfl) (by kernel_rfl) (by kernel_rfl) nrm (cond := fun _ => True) (.inl fun _ => trivial) p1476.z (wG rfl (yd p1476.z rfl rfl s1477)) (fun _ _ => okFA (o' := 4) fo25_4 s1478 rfl) trivial rfl fun a1479 p1480 sp1480 => ?_
            have s1481 := p1480.o s1477 rfl
            have s1482 := p1480.o sp1476 rfl
            by_cases hi1483 : 0 ≤ x1 ∧ x1 < 8
            case neg => rw [if_neg hi1483] at h; cases h
            replace h := (if_pos hi1483).symm.trans h
            refine hTakeW (i := 13) rfl (by kernel_rfl) (by kernel_rfl) (by kernel_rfl) nrm (cond := fun _ => True) (.inl fun _ => trivial) p1480.z (wG rfl (yd p1480.z rfl rfl s1481)) (fun _ _ => okIA Try.underlying22 Try.sizeOf3 sp1480 s1482 hi1483) trivial rfl fun a1484 p1485 sp1485 => ?_
            have s1486 := p1485.o s1481 rfl
            refine hTakeW (i := 14) rfl (by kernel_rfl) (by kernel_rfl) (by kernel_rfl) nrm (.inr (.tail _ (.head _))) p1485.z (wG rfl (yd p1485.z rfl rfl s1486)) (fun _ h => okLd (j := 0) na3 sp1485 h rfl rfl) (clD (TThing.C_reads_get _ _ hi1483) m1296.cl) rfl fun a1487 p1488 sp1488 => ?_
            have s1489 := p1488.o s1486 rfl
            refine hTakeW (i := 15) rfl (by kernel_rfl) (by kernel_rfl) (by kernel_rfl) nrm (cond := fun _ => True) (.inl fun _ => trivial) p1488.z (wG rfl (yd p1488.z rfl rfl s1489)) (fun _ _ => okEq sp1488 cst) trivial rfl fun a1490 p1491 sp1491 => ?_
            have s1492 := p1491.o (p1488.o (p1485.o (p1480.o (p1476.o (p1431.o s1429 rfl) rfl) rfl) rfl) rfl) rfl
            have s1493 := p1491.o s1489 rfl
            refine hTakeW (i := 16) rfl (by kernel_rfl) (by kernel_rfl) (by kernel_rfl) nrm (cond := fun _ => True) (.inl fun _ => trivial) p1491.z (wG rfl (yd p1491.z rfl rfl s1492)) (fun _ _ => okPickT s1493 sp1491) trivial rfl fun a1494 p1495 sp1495 => ?_
            obtain rfl := Option.some.inj h
            replace h := hr1434
            have s1496 := p1495.o s1492 rfl
            refine hTakeW (i := 17) rfl (by kernel_rfl) (by kernel_rfl) (by kernel_rfl) nrm (cond := fun _ => True) (.inl fun _ => trivial) p1495.z (wN rfl) (fun _ _ => okPickF s1496 sp1495) trivial rfl fun a1497 p1498 sp1498 => ?_
            obtain rfl := Option.some.inj h
            have s1499 := p1498.o (p1495.o (p1491.o (p1488.o (p1485.o (p1480.o (p1476.o (p1431.o (p1428.o (p1425.o (p1419.o (p1417.o (p1414.o (p1411.o (p1305.o (p1303.o (p1301.o (p1298.o s1291 rfl) rfl) rfl) rfl) rfl) rfl) rfl) rfl) rfl) rfl) rfl) rfl) rfl) rfl) rfl) rfl) rfl) rfl
            have s1500 := p1498.o (p1495.o (p1491.o (p1488.o (p1485.o (p1480.o (p1476.o (p1431.o (p1428.o (p1425.o (p1419.o (p1417.o (p1414.o (p1411.o (p1305.o (p1303.o (p1301.o sp1298 rfl) rfl) rfl) rfl) rfl) rfl) rfl) rfl) rfl) rfl) rfl) rfl) rfl) rfl) rfl) rfl) rfl
            have m1501 := m1293.g0 g1294
            have q1502 := q45.mono (g53.t0.trans g1294.t0)
            refine hOne (i := 18) (by kernel_rfl) rfl (oStoW (cs := TThing.C x0 h0_0) p1498.z s1499 s1500 m1501 Try.sizeOf25 rfl (TThing.C_one _ q1502.one) rfl fun w1503 m1504 g1505 => ?_)
            have cx1506 := cx1295.st g1505 f18
            refine ⟨⟨.inl rfl, .inr fun h => h.g1 g1505 (m5.ne e16), trivial⟩, ?_⟩
            refine hTakeW (i := 19) rfl (by kernel_rfl) (by kernel_rfl) (by kernel_rfl) nrm (cond := fun _ => True) (.inl fun _ => trivial) p1498.z (wN rfl) (fun _ _ => okAs sp1498) trivial rfl fun a1507 p1508 sp1508 => ?_
            have s1509 := p1508.o (p1498.o (p1495.o (p1491.o (p1488.o (p1485.o (p1480.o s1478 rfl) rfl) rfl) rfl) rfl) rfl) rfl
            have s1510 := p1508.o s1499 rfl
            have m1511 := m1296.g1 g1505 (m5.ne e16)
            exact hDone (by kernel_rfl) ⟨rfl, p1508.z, s1509, s1510, sp1508, m1511, m1504, cx1506, (g1294.t0.trans (g1505.t1 (.head _)))⟩
        · have s1512 := bv sp1419 hb1420
          replace h := (ifP (by simp [hb1306, hb1420])).symm.trans hb1158
          refine hSkip (i := 8) rfl (by kernel_rfl) (by kernel_rfl) (by kernel_rfl) nrm rfl p1419.z (yd p1419.z rfl rfl s1512) rfl rfl fun a1514 p1515 sp1515 => ?_
          have s1516 := p1515.o s1512 rfl
          refine hSkip (i := 9) rfl (by kernel_rfl) (by kernel_rfl) (by kernel_rfl) nrm rfl p1515.z (yd p1515.z rfl rfl s1516) rfl rfl fun a1517 p1518 sp1518 => ?_
          have s1519 := p1518.o s1516 rfl
          refine hSkip (i := 10) rfl (by kernel_rfl) (by kernel_rfl) (by kernel_rfl) nrm rfl p1518.z (yd p1518.z rfl rfl s1519) rfl rfl fun a1520 p1521 sp1521 => ?_
          refine hSkip (i := 11) rfl (by kernel_rfl) (by kernel_rfl) (by kernel_rfl) nrm rfl p1521.z (ydU p1521.z rfl rfl sp1521) rfl rfl fun a1522 p1523 sp1523 => ?_
          have s1524 := p1523.o sp1521 rfl
          refine hSkip (i := 12) rfl (by kernel_rfl) (by kernel_rfl) (by kernel_rfl) nrm rfl p1523.z (ydU p1523.z rfl rfl s1524) rfl rfl fun a1525 p1526 sp1526 => ?_
          have s1527 := p1526.o s1524 rfl
          refine hSkip (i := 13) rfl (by kernel_rfl) (by kernel_rfl) (by kernel_rfl) nrm rfl p1526.z (ydU p1526.z rfl rfl s1527) rfl rfl fun a1528 p1529 sp1529 => ?_
          have s1530 := p1529.o s1527 rfl
          refine hSkip (i := 14) rfl (by kernel_rfl) (by kernel_rfl) (by kernel_rfl) nrm rfl p1529.z (ydU p1529.z rfl rfl s1530) rfl rfl fun a1531 p1532 sp1532 => ?_
          have s1533 := p1532.o s1530 rfl
          refine hSkip (i := 15) rfl (by kernel_rfl) (by kernel_rfl) (by kernel_rfl) nrm rfl p1532.z (ydU p1532.z rfl rfl s1533) rfl rfl fun a1534 p1535 sp1535 => ?_
          have s1536 := p1535.o (p1532.o (p1529.o (p1526.o (p1523.o (p1521.o s1519 rfl) rfl) rfl) rfl) rfl) rfl
          refine hSkip (i := 16) rfl (by kernel_rfl) (by kernel_rfl) (by kernel_rfl) nrm rfl p1535.z (yd p1535.z rfl rfl s1536) rfl rfl fun a1537 p1538 sp1538 => ?_
          have s1539 := p1538.o s1536 rfl
          refine hTakeW (i := 17) rfl (by kernel_rfl) (by kernel_rfl) (by kernel_rfl) nrm (cond := fun _ => True) (.inl fun _ => trivial) p1538.z (wN rfl) (fun _ _ => okPickT s1539 cst) trivial rfl fun a1540 p1541 sp1541 => ?_
          obtain rfl := Option.some.inj h
          have s1542 := p1541.o (p1538.o (p1535.o (p1532.o (p1529.o (p1526.o (p1523.o (p1521.o (p1518.o (p1515.o (p1419.o (p1417.o (p1414.o (p1411.o (p1305.o (p1303.o (p1301.o (p1298.o s1291 rfl) rfl) rfl) rfl) rfl) rfl) rfl) rfl) rfl) rfl) rfl) rfl) rfl) rfl) rfl) rfl) rfl) rfl
          have s1543 := p1541.o (p1538.o (p1535.o (p1532.o (p1529.o (p1526.o (p1523.o (p1521.o (p1518.o (p1515.o (p1419.o (p1417.o (p1414.o (p1411.o (p1305.o (p1303.o (p1301.o sp1298 rfl) rfl) rfl) rfl) rfl) rfl) rfl) rfl) rfl) rfl) rfl) rfl) rfl) rfl) rfl) rfl) rfl
          have m1544 := m1293.g0 g1294
          have q1545 := q45.mono (g53.t0.trans g1294.t0)
          refine hOne (i := 18) (by kernel_rfl) rfl (oStoW (cs := TThing.C x0 h0_0) p1541.z s1542 s1543 m1544 Try.sizeOf25 rfl (TThing.C_one _ q1545.one) rfl fun w1546 m1547 g1548 => ?_)
          have cx1549 := cx1295.st g1548 f18
          refine ⟨⟨.inl rfl, .inr fun h => h.g1 g1548 (m5.ne e16), trivial⟩, ?_⟩
          refine hTakeW (i := 19) rfl (by kernel_rfl) (by kernel_rfl) (by kernel_rfl) nrm (cond := fun _ => True) (.inl fun _ => trivial) p1541.z (wN rfl) (fun _ _ => okAs sp1541) trivial rfl fun a1550 p1551 sp1551 => ?_
          have s1552 := p1551.o (p1541.o (p1538.o (p1535.o (p1532.o (p1529.o (p1526.o (p1523.o (p1521.o (p1518.o (p1515.o (p1419.o (p1417.o (p1414.o (p1411.o (p1305.o (p1303.o (p1301.o (p1298.o s1290 rfl) rfl) rfl) rfl) rfl) rfl) rfl) rfl) rfl) rfl) rfl) rfl) rfl) rfl) rfl) rfl) rfl) rfl) rfl
          have s1553 := p1551.o s1542 rfl
          have m1554 := m1296.g1 g1548 (m5.ne e16)
          exact hDone (by kernel_rfl) ⟨rfl, p1551.z, s1552, s1553, sp1551, m1554, m1547, cx1549, (g1294.t0.trans (g1548.t1 (.head _)))⟩
    rintro a1555 w1556 ⟨z1557, s1558, s1559, s1560, m1561, m1562, cx1563, t1564⟩
    refine thenN ?_
    obtain rfl := Option.some.inj h
    have q1565 := q45.mono (g53.t0.trans t1564)
    exact wp_ret (blkR (thenR (ret2 z1557 Try.results19 (rvA ag25 s1559 m1562 rfl) (rvT s1560) ⟨_, rfl, h0_0, rfl, (q1565.mono ((Tr.refl _ _).sub (fun i h => (.tail _ (.tail _ h))))), cx1563.g⟩)))
  replace h := (ifN hb1109).symm.trans h
  refine wp_seq ?_
  refine reg ?_
  have s1566 := p1107.o (p1104.o s809 rfl) rfl
  refine s1 p1107.z (okEq s1566 cst) rfl fun a1567 p1568 s1569 => ?_
  refine s1 p1568.z (okAs s1569) rfl fun a1570 p1571 s1572 => ?_
  refine rN (thenN ?_)
  have pg1573 : Pg _ [132, 133, 152, 153] _ _ := (((((Pg.refl pg810.z).st p1104 rfl).st p1107 rfl).st p1568 rfl).st p1571 rfl)
  refine cnd s1572 (fun hb1574 => ?_) (fun hb1574 => ?_)
  · replace h := (ifP hb1574).symm.trans h
    refine wp_seq ?_
    refine reg ?_
    have s1575 := pg1573.o (pg810.o (pg568.o s69 rfl) rfl) rfl
    have m1576 := m26.g0 g53
    refine s1 pg1573.z (okLdA ag25 s1575 (m1576.cl) rfl rfl whole) rfl fun a1577 p1578 s1579 => ?_
    have s1580 := p1578.o (pg1573.o (pg810.o (pg568.o (pg75.o s0_3 rfl) rfl) rfl) rfl) rfl
    refine s1 p1578.z (okMv s1580) rfl fun a1581 p1582 s1583 => ?_
    refine s1 p1582.z (okEq s1583 cst) rfl fun a1584 p1585 s1586 => ?_
    refine s1 p1585.z (okMv s1586) rfl fun a1587 p1588 s1589 => ?_
    refine cutP 2 (fun a' => Pg Try.f19.ntmps [158, 159] a1587 a' ∧ a'.eval (.tmp 159) = .bool ((x3 == 0) && (x0.owner == x1))) ?_ ?_
    · rcases bf (x3 == 0) with hb1590 | hb1590
      · have s1591 := bv s1589 hb1590
        refine s1k p1588.z rfl (yd p1588.z rfl rfl s1591) rfl fun a1592 p1593 s1594 => ?_
        have s1595 := p1593.o s1591 rfl
        refine s1 p1593.z (okPickF s1595 cst) rfl fun a1596 p1597 s1598 => ?_
        exact rN ⟨rfl, rfl, (((Pg.refl p1588.z).st p1593 rfl).st p1597 rfl), (andF hb1590 s1598)⟩
      · have s1599 := bv s1589 hb1590
        have s1600 := p1588.o (p1585.o (p1582.o (p1578.o (pg1573.o (pg810.o (pg568.o s72 rfl) rfl) rfl) rfl) rfl) rfl) rfl
        refine s1g p1588.z (okMv s1600) rfl (yd p1588.z rfl rfl s1599) fun a1601 p1602 s1603 => ?_
        have s1604 := p1602.o s1599 rfl
        refine s1 p1602.z (okPickT s1604 s1603) rfl fun a1605 p1606 s1607 => ?_
        exact rN ⟨rfl, rfl, (((Pg.refl p1588.z).st p1602 rfl).st p1606 rfl), (andT hb1590 s1607)⟩
    rintro a1608 ⟨pg1609, s1610⟩
    refine s1 pg1609.z (okMv s1610) rfl fun a1611 p1612 s1613 => ?_
    refine cutP 4 (fun a' => Pg Try.f19.ntmps [161, 162, 163, 164] a1611 a' ∧ a'.eval (.tmp 164) = .bool (((x3 == 0) && (x0.owner == x1)) && (x0.holds == 1000))) ?_ ?_
    · rcases bf ((x3 == 0) && (x0.owner == x1)) with hb1614 | hb1614
      · have s1615 := bv s1613 hb1614
        refine s1k p1612.z rfl (yd p1612.z rfl rfl s1615) rfl fun a1616 p1617 s1618 => ?_
        have s1619 := p1617.o s1615 rfl
        refine s1k p1617.z rfl (yd p1617.z rfl rfl s1619) rfl fun a1620 p1621 s1622 => ?_
        have s1623 := p1621.o s1619 rfl
        refine s1k p1621.z rfl (yd p1621.z rfl rfl s1623) rfl fun a1624 p1625 s1626 => ?_
        have s1627 := p1625.o s1623 rfl
        refine s1 p1625.z (okPickF s1627 cst) rfl fun a1628 p1629 s1630 => ?_
        exact rN ⟨rfl, rfl, (((((Pg.refl p1612.z).st p1617 rfl).st p1621 rfl).st p1625 rfl).st p1629 rfl), (andF hb1614 s1630)⟩
      · have s1631 := bv s1613 hb1614
        have s1632 := p1612.o (pg1609.o (p1588.o (p1585.o (p1582.o (p1578.o s1575 rfl) rfl) rfl) rfl) rfl) rfl
        refine s1g p1612.z (okFA (o' := 3) fo25_3 s1632 rfl) rfl (yd p1612.z rfl rfl s1631) fun a1633 p1634 s1635 => ?_
        have s1636 := p1634.o s1631 rfl
        refine s1g p1634.z (okLd (j := 3) na3 s1635 (m1576.cl) rfl rfl) rfl (yd p1634.z rfl rfl s1636) fun a1637 p1638 s1639 => ?_
        have s1640 := p1638.o s1636 rfl
        refine s1g p1638.z (okEq s1639 cst) rfl (yd p1638.z rfl rfl s1640) fun a1641 p1642 s1643 => ?_
        have s1644 := p1642.o s1640 rfl
        refine s1 p1642.z (okPickT s1644 s1643) rfl fun a1645 p1646 s1647 => ?_
        exact rN ⟨rfl, rfl, (((((Pg.refl p1612.z).st p1634 rfl).st p1638 rfl).st p1642 rfl).st p1646 rfl), (andT hb1614 s1647)⟩
    rintro a1648 ⟨pg1649, s1650⟩
    refine s1 pg1649.z (okMv s1650) rfl fun a1651 p1652 s1653 => ?_
    refine cutP 7 (fun a' => Pg Try.f19.ntmps [166, 167, 168, 169, 170, 171, 172] a1651 a' ∧ a'.eval (.tmp 172) = .bool ((((x3 == 0) && (x0.owner == x1)) && (x0.holds == 1000)) || ((x3 == 1) && (t46 == 1000)))) ?_ ?_
    · rcases bf (((x3 == 0) && (x0.owner == x1)) && (x0.holds == 1000)) with hb1654 | hb1654
      · have s1655 := bv s1653 hb1654
        have s1656 := p1652.o (pg1649.o (p1612.o (pg1609.o (p1588.o (p1585.o (p1582.o s1580 rfl) rfl) rfl) rfl) rfl) rfl) rfl
        refine s1g p1652.z (okMv s1656) rfl (yd p1652.z rfl rfl s1655) fun a1657 p1658 s1659 => ?_
        have s1660 := p1658.o s1655 rfl
        refine s1g p1658.z (okEq s1659 cst) rfl (yd p1658.z rfl rfl s1660) fun a1661 p1662 s1663 => ?_
        have s1664 := p1662.o s1660 rfl
        refine s1g p1662.z (okMv s1663) rfl (yd p1662.z rfl rfl s1664) fun a1665 p1666 s1667 => ?_
        refine cutP 3 (fun a' => Pg Try.f19.ntmps [169, 170, 171] a1665 a' ∧ a'.eval (.tmp 171) = .bool ((x3 == 1) && (t46 == 1000))) ?_ ?_
        · rcases bf (x3 == 1) with hb1668 | hb1668
          · have s1669 := bv s1667 hb1668
            refine s1k p1666.z rfl (yd p1666.z rfl rfl s1669) rfl fun a1670 p1671 s1672 => ?_
            have s1673 := p1671.o s1669 rfl
            refine s1k p1671.z rfl (yd p1671.z rfl rfl s1673) rfl fun a1674 p1675 s1676 => ?_
            have s1677 := p1675.o (p1671.o (p1666.o s1664 rfl) rfl) rfl
            have s1678 := p1675.o s1673 rfl
            refine s1g p1675.z (okPickF s1678 cst) rfl (yd p1675.z rfl rfl s1677) fun a1679 p1680 s1681 => ?_
            exact rN ⟨rfl, rfl, ((((Pg.refl p1666.z).st p1671 rfl).st p1675 rfl).st p1680 rfl), (andF hb1668 s1681)⟩
          · have s1682 := bv s1667 hb1668
            have s1683 := p1666.o (p1662.o (p1658.o (p1652.o (pg1649.o (p1612.o (pg1609.o (p1588.o (p1585.o (p1582.o (p1578.o (pg1573.o (pg810.o (pg568.o s73 rfl) rfl) rfl) rfl) rfl) rfl) rfl) rfl) rfl) rfl) rfl) rfl) rfl) rfl
            refine s1g p1666.z (okMv s1683) rfl (yd p1666.z rfl rfl s1682) fun a1684 p1685 s1686 => ?_
            have s1687 := p1685.o s1682 rfl
            refine s1g p1685.z (okEq s1686 cst) rfl (yd p1685.z rfl rfl s1687) fun a1688 p1689 s1690 => ?_
            have s1691 := p1689.o (p1685.o (p1666.o s1664 rfl) rfl) rfl
            have s1692 := p1689.o s1687 rfl
            refine s1g p1689.z (okPickT s1692 s1690) rfl (yd p1689.z rfl rfl s1691) fun a1693 p1694 s1695 => ?_
            exact rN ⟨rfl, rfl, ((((Pg.refl p1666.z).st p1685 rfl).st p1689 rfl).st p1694 rfl), (andT hb1668 s1695)⟩
        rintro a1696 ⟨pg1697, s1698⟩
        have s1699 := pg1697.o (p1666.o s1664 rfl) rfl
        refine s1 pg1697.z (okPickF s1699 s1698) rfl fun a1700 p1701 s1702 => ?_
        exact rN ⟨rfl, rfl, ((((((Pg.refl p1652.z).st p1658 rfl).st p1662 rfl).st p1666 rfl).tr pg1697 rfl).st p1701 rfl), (orF hb1654 s1702)⟩
      · have s1703 := bv s1653 hb1654
        refine s1k p1652.z rfl (yd p1652.z rfl rfl s1703) rfl fun a1704 p1705 s1706 => ?_
        have s1707 := p1705.o s1703 rfl
        refine s1k p1705.z rfl (yd p1705.z rfl rfl s1707) rfl fun a1708 p1709 s1710 => ?_
        have s1711 := p1709.o s1707 rfl
        refine s1k p1709.z rfl (yd p1709.z rfl rfl s1711) rfl fun a1712 p1713 s1714 => ?_
        refine s1k p1713.z rfl (ydU p1713.z rfl rfl s1714) rfl fun a1715 p1716 s1717 => ?_
        have s1718 := p1716.o s1714 rfl
        refine s1k p1716.z rfl (ydU p1716.z rfl rfl s1718) rfl fun a1719 p1720 s1721 => ?_
        have s1722 := p1720.o (p1716.o (p1713.o s1711 rfl) rfl) rfl
        refine s1k p1720.z rfl (yd p1720.z rfl rfl s1722) rfl fun a1723 p1724 s1725 => ?_
        have s1726 := p1724.o s1722 rfl
        refine s1 p1724.z (okPickT s1726 cst) rfl fun a1727 p1728 s1729 => ?_
        exact rN ⟨rfl, rfl, ((((((((Pg.refl p1652.z).st p1705 rfl).st p1709 rfl).st p1713 rfl).st p1716 rfl).st p1720 rfl).st p1724 rfl).st p1728 rfl), (orT hb1654 s1729)⟩
    rintro a1730 ⟨pg1731, s1732⟩
    have s1733 := pg1731.o (p1652.o (pg1649.o (p1612.o (pg1609.o (p1588.o (p1585.o (p1582.o (p1578.o (pg1573.o (pg810.o (pg568.o s70 rfl) rfl) rfl) rfl) rfl) rfl) rfl) rfl) rfl) rfl) rfl) rfl
    have s1734 := pg1731.o (p1652.o (pg1649.o (p1612.o (pg1609.o (p1588.o (p1585.o (p1582.o s1579 rfl) rfl) rfl) rfl) rfl) rfl) rfl) rfl
    have m1735 := m14.g0 g53
    have q1736 := q45.mono g53.t0
    refine lS (oStoW (cs := TThing.C x0 h0_0) pg1731.z s1733 s1734 m1735 Try.sizeOf25 rfl (TThing.C_one _ q1736.one) rfl fun w1737 m1738 g1739 => ?_)
    have cx1740 := cx54.st g1739 f18
    refine s1 pg1731.z (okAs s1732) rfl fun a1741 p1742 s1743 => ?_
    refine rN (thenN ?_)
    have s1744 := p1742.o s1733 rfl
    obtain rfl := Option.some.inj h
    have q1745 := q1736.mono (g1739.t1 (.head _))
    exact wp_ret (blkR (thenR (ret2 p1742.z Try.results19 (rvA ag25 s1744 m1738 rfl) (rvT s1743) ⟨_, rfl, h0_0, rfl, (q1745.mono ((Tr.refl _ _).sub (fun i h => (.tail _ (.tail _ h))))), cx1740.g⟩)))
  replace h := (ifN hb1574).symm.trans h
  refine wp_skip (blkN (thenN ?_))
  refine wp_seq ?_
  refine reg ?_
  have s1746 := pg1573.o (pg810.o (pg568.o s69 rfl) rfl) rfl
  have m1747 := m26.g0 g53
  refine s1 pg1573.z (okLdA ag25 s1746 (m1747.cl) rfl rfl whole) rfl fun a1748 p1749 s1750 => ?_
  have s1751 := p1749.o (pg1573.o (pg810.o (pg568.o s70 rfl) rfl) rfl) rfl
  have m1752 := m14.g0 g53
  have q1753 := q45.mono g53.t0
  refine lS (oStoW (cs := TThing.C x0 h0_0) p1749.z s1751 s1750 m1752 Try.sizeOf25 rfl (TThing.C_one _ q1753.one) rfl fun w1754 m1755 g1756 => ?_)
  have cx1757 := cx54.st g1756 f18
  refine s1 p1749.z (okAs cst) rfl fun a1758 p1759 s1760 => ?_
  refine rN (thenN ?_)
  have s1761 := p1759.o s1751 rfl
  obtain rfl := Option.some.inj h
  have q1762 := q1753.mono (g1756.t1 (.head _))
  exact wp_ret (ret2 p1759.z Try.results19 (rvA ag25 s1761 m1755 rfl) (rvT s1760) ⟨_, rfl, h0_0, rfl, (q1762.mono ((Tr.refl _ _).sub (fun i h => (.tail _ (.tail _ h))))), cx1757.g⟩)

set_option maxHeartbeats 4000000 in
theorem c20 (L : List Nat) (w : World) (hL : ∀ b ∈ L, b < w.heap.size) (x0 : TThing) (h0_0 : Value) (qh0_0 : RdS KTWaiter L w h0_0 x0.waiters) (x1 : Int) (x2 : Int) (x3 : Int) (r : TThing × Bool) (h : tholeref10_swap x0 x1 x2 x3 = some r) : Calls Try.prog 20 #[.agg (TThing.C x0 h0_0).toArray, .int .i64 x1, .int .i64 x2, .int .i64 x3] w (fun e w' => ∃ v, e = .returned v ∧ ∃ u_0, v = .tuple #[.agg (TThing.C r.1 u_0).toArray, .bool r.2] ∧ RdS KTWaiter L w' u_0 r.1.waiters ∧ G [] w w') := by
  refine enterF Try.func20 rfl rfl fun a0 z0 A => ?_
  have s0_0 := A 0 (.agg (TThing.C x0 h0_0).toArray) rfl
  have s0_1 := A 1 (.int .i64 x1) rfl
  have s0_2 := A 2 (.int .i64 x2) rfl
  have s0_3 := A 3 (.int .i64 x3) rfl
  clear A
  have c0 : Cx [] w L w := ⟨G.refl _ _, hL⟩
  unfold tholeref10_swap at h
  refine wp_seq ?_
  refine reg ?_
  refine lS (oBox (l := TThing.C x0 h0_0) z0 s0_0 rfl rfl fun a1 w2 b3 p4 sp4 m5 g6 e7 => ?_)
  have f9 := c0.nw e7
  have cx8 := c0.al g6 m5
  refine lS (oAlloc zv25 p4.z rfl fun a10 w11 b12 p13 sp13 m14 g15 e16 => ?_)
  have f18 := cx8.nw e16
  have cx17 := cx8.al g15 m14
  refine s1 p13.z (okAs cst) rfl fun a19 p20 s21 => ?_
  refine rN (thenN ?_)
  refine wp_seq ?_
  refine wp_seq ?_
  refine reg ?_
  have s22 := p20.o (p13.o (p4.o s0_2 rfl) rfl) rfl
  refine s1 p20.z (okMv s22) rfl fun a23 p24 s25 => ?_
  refine rN (thenN ?_)
  refine wp_block ?_
  refine wp_seq ?_
  refine reg ?_
  refine s1 p24.z (okEq s25 cst) rfl fun a26 p27 s28 => ?_
  refine s1 p27.z (okAs s28) rfl fun a29 p30 s31 => ?_
  refine rN (thenN ?_)
  have s32 := p30.o (p27.o (p24.o (p20.o (p13.o sp4 rfl) rfl) rfl) rfl) rfl
  have s33 := p30.o (p27.o (p24.o (p20.o sp13 rfl) rfl) rfl) rfl
  have s34 := p30.o (p27.o (p24.o s21 rfl) rfl) rfl
  have s35 := p30.o (p27.o s25 rfl) rfl
  have pg36 : Pg _ [4, 8, 9, 10, 11, 12] _ _ := (((((((Pg.refl z0).st p4 rfl).st p13 rfl).st p20 rfl).st p24 rfl).st p27 rfl).st p30 rfl)
  refine cnd s31 (fun hb37 => ?_) (fun hb37 => ?_)
  · replace h := (ifP hb37).symm.trans h
    refine wp_seq ?_
    refine reg ?_
    refine s1 pg36.z (okFA (o' := 13) fo25_6 s32 rfl) rfl fun a38 p39 s40 => ?_
    have m41 := m5.g0 g15
    refine s1 p39.z (okLd (j := 13) na3 s40 (m41.cl) rfl rfl) rfl fun a42 p43 s44 => ?_
    refine s1 p43.z (okEq s44 cst) rfl fun a45 p46 s47 => ?_
    refine s1 p46.z (okMv s47) rfl fun a48 p49 s50 => ?_
    refine cutP 3 (fun a' => Pg Try.f20.ntmps [17, 18, 19] a48 a' ∧ a'.eval (.tmp 19) = .bool ((x0.offer == (-1)) && (decide (0 ≤ x3)))) ?_ ?_
    · rcases bf (x0.offer == (-1)) with hb51 | hb51
      · have s52 := bv s50 hb51
        refine s1k p49.z rfl (yd p49.z rfl rfl s52) rfl fun a53 p54 s55 => ?_
        have s56 := p54.o s52 rfl
        refine s1k p54.z rfl (yd p54.z rfl rfl s56) rfl fun a57 p58 s59 => ?_
        have s60 := p58.o s56 rfl
        refine s1 p58.z (okPickF s60 cst) rfl fun a61 p62 s63 => ?_
        exact rN ⟨rfl, rfl, ((((Pg.refl p49.z).st p54 rfl).st p58 rfl).st p62 rfl), (andF hb51 s63)⟩
      · have s64 := bv s50 hb51
        have s65 := p49.o (p46.o (p43.o (p39.o (pg36.o s0_3 rfl) rfl) rfl) rfl) rfl
        refine s1g p49.z (okMv s65) rfl (yd p49.z rfl rfl s64) fun a66 p67 s68 => ?_
        have s69 := p67.o s64 rfl
        refine s1g p67.z (okGe s68 cst) rfl (yd p67.z rfl rfl s69) fun a70 p71 s72 => ?_
        have s73 := p71.o s69 rfl
        refine s1 p71.z (okPickT s73 s72) rfl fun a74 p75 s76 => ?_
        exact rN ⟨rfl, rfl, ((((Pg.refl p49.z).st p67 rfl).st p71 rfl).st p75 rfl), (andT hb51 s76)⟩
    rintro a77 ⟨pg78, s79⟩
    refine s1 pg78.z (okMv s79) rfl fun a80 p81 s82 => ?_
    refine cutP 3 (fun a' => Pg Try.f20.ntmps [21, 22, 23] a80 a' ∧ a'.eval (.tmp 23) = .bool (((x0.offer == (-1)) && (decide (0 ≤ x3))) && (decide (x3 ≤ 1000)))) ?_ ?_
    · rcases bf ((x0.offer == (-1)) && (decide (0 ≤ x3))) with hb83 | hb83
      · have s84 := bv s82 hb83
        refine s1k p81.z rfl (yd p81.z rfl rfl s84) rfl fun a85 p86 s87 => ?_
        have s88 := p86.o s84 rfl
        refine s1k p86.z rfl (yd p86.z rfl rfl s88) rfl fun a89 p90 s91 => ?_
        have s92 := p90.o s88 rfl
        refine s1 p90.z (okPickF s92 cst) rfl fun a93 p94 s95 => ?_
        exact rN ⟨rfl, rfl, ((((Pg.refl p81.z).st p86 rfl).st p90 rfl).st p94 rfl), (andF hb83 s95)⟩
      · have s96 := bv s82 hb83
        have s97 := p81.o (pg78.o (p49.o (p46.o (p43.o (p39.o (pg36.o s0_3 rfl) rfl) rfl) rfl) rfl) rfl) rfl
        refine s1g p81.z (okMv s97) rfl (yd p81.z rfl rfl s96) fun a98 p99 s100 => ?_
        have s101 := p99.o s96 rfl
        refine s1g p99.z (okLe s100 cst) rfl (yd p99.z rfl rfl s101) fun a102 p103 s104 => ?_
        have s105 := p103.o s101 rfl
        refine s1 p103.z (okPickT s105 s104) rfl fun a106 p107 s108 => ?_
        exact rN ⟨rfl, rfl, ((((Pg.refl p81.z).st p99 rfl).st p103 rfl).st p107 rfl), (andT hb83 s108)⟩
    rintro a109 ⟨pg110, s111⟩
    refine rN (thenN ?_)
    have pg112 : Pg _ [13, 14, 15, 16, 17, 18, 19, 20, 21, 22, 23] _ _ := ((((((((Pg.refl pg36.z).st p39 rfl).st p43 rfl).st p46 rfl).st p49 rfl).tr pg78 rfl).st p81 rfl).tr pg110 rfl)
    refine cnd s111 (fun hb113 => ?_) (fun hb113 => ?_)
    · replace h := (ifP hb113).symm.trans h
      refine wp_seq ?_
      refine reg ?_
      have s114 := pg112.o (pg36.o s0_1 rfl) rfl
      refine s1 pg112.z (okMv s114) rfl fun a115 p116 s117 => ?_
      have s118 := p116.o (pg112.o s32 rfl) rfl
      refine s1 p116.z (okFA (o' := 13) fo25_6 s118 rfl) rfl fun a119 p120 s121 => ?_
      have s122 := p120.o s117 rfl
      refine lS (oSto (cs := [.int .i64 x1]) (l' := TThing.C ({ x0 with offer := x1 }) h0_0) p120.z s121 s122 m41 Try.sizeOf3 rfl one1 rfl rfl fun w123 m124 g125 => ?_)
      have cx126 := cx17.st g125 f9
      refine rN (thenN ?_)
      refine wp_seq ?_
      refine reg ?_
      have s127 := p120.o (p116.o (pg112.o (pg36.o s0_3 rfl) rfl) rfl) rfl
      refine s1 p120.z (okMv s127) rfl fun a128 p129 s130 => ?_
      have s131 := p129.o (p120.o s118 rfl) rfl
      refine s1 p129.z (okFA (o' := 14) fo25_7 s131 rfl) rfl fun a132 p133 s134 => ?_
      have s135 := p133.o s130 rfl
      refine lS (oSto (cs := [.int .i64 x3]) (l' := TThing.C ({ x0 with offer := x1, item := x3 }) h0_0) p133.z s134 s135 m124 Try.sizeOf3 rfl one1 rfl rfl fun w136 m137 g138 => ?_)
      have cx139 := cx126.st g138 f9
      refine rN (thenN ?_)
      refine wp_seq ?_
      refine reg ?_
      have s140 := p133.o s131 rfl
      refine s1 p133.z (okLdA ag25 s140 (m137.cl) rfl rfl whole) rfl fun a141 p142 s143 => ?_
      have s144 := p142.o (p133.o (p129.o (p120.o (p116.o (pg112.o s33 rfl) rfl) rfl) rfl) rfl) rfl
      have m145 := (m14.g1 g125 (m5.ne e16).symm).g1 g138 (m5.ne e16).symm
      have q146 := qh0_0.mono ((((g6.tA (Nat.le_of_eq e7.symm)).trans (g15.tA (Nat.le_of_eq e16.symm))).trans (g125.t1 (.tail _ (.head _)))).trans (g138.t1 (.tail _ (.head _))))
      refine lS (oStoW (cs := TThing.C ({ x0 with offer := x1, item := x3 }) h0_0) p142.z s144 s143 m145 Try.sizeOf25 rfl (TThing.C_one _ q146.one) rfl fun w147 m148 g149 => ?_)
      have cx150 := cx139.st g149 f18
      refine s1 p142.z (okAs cst) rfl fun a151 p152 s153 => ?_
      refine rN (thenN ?_)
      have s154 := p152.o s144 rfl
      obtain rfl := Option.some.inj h
      have q155 := q146.mono (g149.t1 (.head _))
      exact wp_ret (blkR (thenR (ret2 p152.z Try.results20 (rvA ag25 s154 m148 rfl) (rvT s153) ⟨_, rfl, h0_0, rfl, (q155.mono ((Tr.refl _ _).sub (fun i h => (.tail _ (.tail _ h))))), cx150.g⟩)))
    replace h := (ifN hb113).symm.trans h
    refine wp_skip (blkN (thenN ?_))
    refine wp_seq ?_
    refine reg ?_
    have s156 := pg112.o s32 rfl
    refine s1 pg112.z (okLdA ag25 s156 (m41.cl) rfl rfl whole) rfl fun a157 p158 s159 => ?_
    have s160 := p158.o (pg112.o s33 rfl) rfl
    have q161 := qh0_0.mono ((g6.tA (Nat.le_of_eq e7.symm)).trans (g15.tA (Nat.le_of_eq e16.symm)))
    refine lS (oStoW (cs := TThing.C x0 h0_0) p158.z s160 s159 m14 Try.sizeOf25 rfl (TThing.C_one _ q161.one) rfl fun w162 m163 g164 => ?_)
    have cx165 := cx17.st g164 f18
    refine s1 p158.z (okAs cst) rfl fun a166 p167 s168 => ?_
    refine rN (thenN ?_)
    have s169 := p167.o s160 rfl
    obtain rfl := Option.some.inj h
    have q170 := q161.mono (g164.t1 (.head _))
    exact wp_ret (ret2 p167.z Try.results20 (rvA ag25 s169 m163 rfl) (rvT s168) ⟨_, rfl, h0_0, rfl, (q170.mono ((Tr.refl _ _).sub (fun i h => (.tail _ (.tail _ h))))), cx165.g⟩)
  replace h := (ifN hb37).symm.trans h
  refine wp_seq ?_
  refine reg ?_
  refine s1 pg36.z (okEq s35 cst) rfl fun a171 p172 s173 => ?_
  refine s1 p172.z (okAs s173) rfl fun a174 p175 s176 => ?_
  refine rN (thenN ?_)
  refine cnd s176 (fun hb177 => ?_) (fun hb177 => ?_)
  · replace h := (ifP hb177).symm.trans h
    refine wp_seq ?_
    refine reg ?_
    have s178 := p175.o (p172.o s32 rfl) rfl
    refine s1 p175.z (okFA (o' := 13) fo25_6 s178 rfl) rfl fun a179 p180 s181 => ?_
    have m182 := m5.g0 g15
    refine s1 p180.z (okLd (j := 13) na3 s181 (m182.cl) rfl rfl) rfl fun a183 p184 s185 => ?_
    refine s1 p184.z (okNe s185 cst) rfl fun a186 p187 s188 => ?_
    refine s1 p187.z (okMv s188) rfl fun a189 p190 s191 => ?_
    refine cutP 5 (fun a' => Pg Try.f20.ntmps [35, 36, 37, 38, 39] a189 a' ∧ a'.eval (.tmp 39) = .bool ((x0.offer != (-1)) && (x0.offer != x1))) ?_ ?_
    · rcases bf (x0.offer != (-1)) with hb192 | hb192
      · have s193 := bv s191 hb192
        refine s1k p190.z rfl (yd p190.z rfl rfl s193) rfl fun a194 p195 s196 => ?_
        have s197 := p195.o s193 rfl
        refine s1k p195.z rfl (yd p195.z rfl rfl s197) rfl fun a198 p199 s200 => ?_
        have s201 := p199.o s197 rfl
        refine s1k p199.z rfl (yd p199.z rfl rfl s201) rfl fun a202 p203 s204 => ?_
        have s205 := p203.o s201 rfl
        refine s1k p203.z rfl (yd p203.z rfl rfl s205) rfl fun a206 p207 s208 => ?_
        have s209 := p207.o s205 rfl
        refine s1 p207.z (okPickF s209 cst) rfl fun a210 p211 s212 => ?_
        exact rN ⟨rfl, rfl, ((((((Pg.refl p190.z).st p195 rfl).st p199 rfl).st p203 rfl).st p207 rfl).st p211 rfl), (andF hb192 s212)⟩
      · have s213 := bv s191 hb192
        have s214 := p190.o (p187.o (p184.o (p180.o s178 rfl) rfl) rfl) rfl
        refine s1g p190.z (okFA (o' := 13) fo25_6 s214 rfl) rfl (yd p190.z rfl rfl s213) fun a215 p216 s217 => ?_
        have s218 := p216.o s213 rfl
        refine s1g p216.z (okLd (j := 13) na3 s217 (m182.cl) rfl rfl) rfl (yd p216.z rfl rfl s218) fun a219 p220 s221 => ?_
        have s222 := p220.o s218 rfl
        have s223 := p220.o (p216.o (p190.o (p187.o (p184.o (p180.o (p175.o (p172.o (pg36.o s0_1 rfl) rfl) rfl) rfl) rfl) rfl) rfl) rfl) rfl
        refine s1g p220.z (okMv s223) rfl (yd p220.z rfl rfl s222) fun a224 p225 s226 => ?_
        have s227 := p225.o s222 rfl
        have s228 := p225.o s221 rfl
        refine s1g p225.z (okNe s228 s226) rfl (yd p225.z rfl rfl s227) fun a229 p230 s231 => ?_
        have s232 := p230.o s227 rfl
        refine s1 p230.z (okPickT s232 s231) rfl fun a233 p234 s235 => ?_
        exact rN ⟨rfl, rfl, ((((((Pg.refl p190.z).st p216 rfl).st p220 rfl).st p225 rfl).st p230 rfl).st p234 rfl), (andT hb192 s235)⟩
    rintro a236 ⟨pg237, s238⟩
    refine s1 pg237.z (okMv s238) rfl fun a239 p240 s241 => ?_
    refine cutP 5 (fun a' => Pg Try.f20.ntmps [41, 42, 43, 44, 45] a239 a' ∧ a'.eval (.tmp 45) = .bool (((x0.offer != (-1)) && (x0.offer != x1)) && (x3 == x0.offer))) ?_ ?_
    · rcases bf ((x0.offer != (-1)) && (x0.offer != x1)) with hb242 | hb242
      · have s243 := bv s241 hb242
        refine s1k p240.z rfl (yd p240.z rfl rfl s243) rfl fun a244 p245 s246 => ?_
        have s247 := p245.o s243 rfl
        refine s1k p245.z rfl (yd p245.z rfl rfl s247) rfl fun a248 p249 s250 => ?_
        have s251 := p249.o s247 rfl
        refine s1k p249.z rfl (yd p249.z rfl rfl s251) rfl fun a252 p253 s254 => ?_
        have s255 := p253.o s251 rfl
        refine s1k p253.z rfl (yd p253.z rfl rfl s255) rfl fun a256 p257 s258 => ?_
        have s259 := p257.o s255 rfl
        refine s1 p257.z (okPickF s259 cst) rfl fun a260 p261 s262 => ?_
        exact rN ⟨rfl, rfl, ((((((Pg.refl p240.z).st p245 rfl).st p249 rfl).st p253 rfl).st p257 rfl).st p261 rfl), (andF hb242 s262)⟩
      · have s263 := bv s241 hb242
        have s264 := p240.o (pg237.o (p190.o (p187.o (p184.o (p180.o (p175.o (p172.o (pg36.o s0_3 rfl) rfl) rfl) rfl) rfl) rfl) rfl) rfl) rfl
        refine s1g p240.z (okMv s264) rfl (yd p240.z rfl rfl s263) fun a265 p266 s267 => ?_
        have s268 := p266.o s263 rfl
        have s269 := p266.o (p240.o (pg237.o (p190.o (p187.o (p184.o (p180.o s178 rfl) rfl) rfl) rfl) rfl) rfl) rfl
        refine s1g p266.z (okFA (o' := 13) fo25_6 s269 rfl) rfl (yd p266.z rfl rfl s268) fun a270 p271 s272 => ?_
        have s273 := p271.o s268 rfl
        refine s1g p271.z (okLd (j := 13) na3 s272 (m182.cl) rfl rfl) rfl (yd p271.z rfl rfl s273) fun a274 p275 s276 => ?_
        have s277 := p275.o s273 rfl
        have s278 := p275.o (p271.o s267 rfl) rfl
        refine s1g p275.z (okEq s278 s276) rfl (yd p275.z rfl rfl s277) fun a279 p280 s281 => ?_
        have s282 := p280.o s277 rfl
        refine s1 p280.z (okPickT s282 s281) rfl fun a283 p284 s285 => ?_
        exact rN ⟨rfl, rfl, ((((((Pg.refl p240.z).st p266 rfl).st p271 rfl).st p275 rfl).st p280 rfl).st p284 rfl), (andT hb242 s285)⟩
    rintro a286 ⟨pg287, s288⟩
    refine rN (thenN ?_)
    have s289 := pg287.o (p240.o (pg237.o (p190.o (p187.o (p184.o (p180.o s178 rfl) rfl) rfl) rfl) rfl) rfl) rfl
    have pg290 : Pg _ [29, 30, 31, 32, 33, 34, 35, 36, 37, 38, 39, 40, 41, 42, 43, 44, 45] _ _ := ((((((((((Pg.refl pg36.z).st p172 rfl).st p175 rfl).st p180 rfl).st p184 rfl).st p187 rfl).st p190 rfl).tr pg237 rfl).st p240 rfl).tr pg287 rfl)
    refine cnd s288 (fun hb291 => ?_) (fun hb291 => ?_)
    · replace h := (ifP hb291).symm.trans h
      refine wp_seq ?_
      refine reg ?_
      refine s1 pg290.z (okFA (o' := 13) fo25_6 s289 rfl) rfl fun a292 p293 s294 => ?_
      refine lS (oSto (cs := [.int .i64 (-1)]) (l' := TThing.C ({ x0 with offer := (-1) }) h0_0) p293.z s294 cst m182 Try.sizeOf3 rfl one1 rfl rfl fun w295 m296 g297 => ?_)
      have cx298 := cx17.st g297 f9
      refine rN (thenN ?_)
      refine wp_seq ?_
      refine reg ?_
      have s299 := p293.o s289 rfl
      refine s1 p293.z (okFA (o' := 14) fo25_7 s299 rfl) rfl fun a300 p301 s302 => ?_
      refine lS (oSto (cs := [.int .i64 0]) (l' := TThing.C ({ x0 with offer := (-1), item := 0 }) h0_0) p301.z s302 cst m296 Try.sizeOf3 rfl one1 rfl rfl fun w303 m304 g305 => ?_)
      have cx306 := cx298.st g305 f9
      refine rN (thenN ?_)
      refine wp_seq ?_
      refine reg ?_
      have s307 := p301.o s299 rfl
      refine s1 p301.z (okLdA ag25 s307 (m304.cl) rfl rfl whole) rfl fun a308 p309 s310 => ?_
      have s311 := p309.o (p301.o (p293.o (pg290.o s33 rfl) rfl) rfl) rfl
      have m312 := (m14.g1 g297 (m5.ne e16).symm).g1 g305 (m5.ne e16).symm
      have q313 := qh0_0.mono ((((g6.tA (Nat.le_of_eq e7.symm)).trans (g15.tA (Nat.le_of_eq e16.symm))).trans (g297.t1 (.tail _ (.head _)))).trans (g305.t1 (.tail _ (.head _))))
      refine lS (oStoW (cs := TThing.C ({ x0 with offer := (-1), item := 0 }) h0_0) p309.z s311 s310 m312 Try.sizeOf25 rfl (TThing.C_one _ q313.one) rfl fun w314 m315 g316 => ?_)
      have cx317 := cx306.st g316 f18
      refine s1 p309.z (okAs cst) rfl fun a318 p319 s320 => ?_
      refine rN (thenN ?_)
      have s321 := p319.o s311 rfl
      obtain rfl := Option.some.inj h
      have q322 := q313.mono (g316.t1 (.head _))
      exact wp_ret (blkR (thenR (ret2 p319.z Try.results20 (rvA ag25 s321 m315 rfl) (rvT s320) ⟨_, rfl, h0_0, rfl, (q322.mono ((Tr.refl _ _).sub (fun i h => (.tail _ (.tail _ h))))), cx317.g⟩)))
    replace h := (ifN hb291).symm.trans h
    refine wp_skip (blkN (thenN ?_))
    refine wp_seq ?_
    refine reg ?_
    refine s1 pg290.z (okLdA ag25 s289 (m182.cl) rfl rfl whole) rfl fun a323 p324 s325 => ?_
    have s326 := p324.o (pg290.o s33 rfl) rfl
    have q327 := qh0_0.mono ((g6.tA (Nat.le_of_eq e7.symm)).trans (g15.tA (Nat.le_of_eq e16.symm)))
    refine lS (oStoW (cs := TThing.C x0 h0_0) p324.z s326 s325 m14 Try.sizeOf25 rfl (TThing.C_one _ q327.one) rfl fun w328 m329 g330 => ?_)
    have cx331 := cx17.st g330 f18
    refine s1 p324.z (okAs cst) rfl fun a332 p333 s334 => ?_
    refine rN (thenN ?_)
    have s335 := p333.o s326 rfl
    obtain rfl := Option.some.inj h
    have q336 := q327.mono (g330.t1 (.head _))
    exact wp_ret (ret2 p333.z Try.results20 (rvA ag25 s335 m329 rfl) (rvT s334) ⟨_, rfl, h0_0, rfl, (q336.mono ((Tr.refl _ _).sub (fun i h => (.tail _ (.tail _ h))))), cx331.g⟩)
  replace h := (ifN hb177).symm.trans h
  refine wp_seq ?_
  refine reg ?_
  have s337 := p175.o (p172.o s35 rfl) rfl
  refine s1 p175.z (okEq s337 cst) rfl fun a338 p339 s340 => ?_
  refine s1 p339.z (okAs s340) rfl fun a341 p342 s343 => ?_
  refine rN (thenN ?_)
  have pg344 : Pg _ [29, 30, 49, 50] _ _ := (((((Pg.refl pg36.z).st p172 rfl).st p175 rfl).st p339 rfl).st p342 rfl)
  refine cnd s343 (fun hb345 => ?_) (fun hb345 => ?_)
  · replace h := (ifP hb345).symm.trans h
    refine wp_seq ?_
    refine reg ?_
    have s346 := pg344.o s32 rfl
    refine s1 pg344.z (okFA (o' := 13) fo25_6 s346 rfl) rfl fun a347 p348 s349 => ?_
    have m350 := m5.g0 g15
    refine s1 p348.z (okLd (j := 13) na3 s349 (m350.cl) rfl rfl) rfl fun a351 p352 s353 => ?_
    have s354 := p352.o (p348.o (pg344.o (pg36.o s0_1 rfl) rfl) rfl) rfl
    refine s1 p352.z (okMv s354) rfl fun a355 p356 s357 => ?_
    have s358 := p356.o s353 rfl
    refine s1 p356.z (okEq s358 s357) rfl fun a359 p360 s361 => ?_
    refine s1 p360.z (okMv s361) rfl fun a362 p363 s364 => ?_
    refine cutP 3 (fun a' => Pg Try.f20.ntmps [56, 57, 58] a362 a' ∧ a'.eval (.tmp 58) = .bool ((x0.offer == x1) && (x3 == 0))) ?_ ?_
    · rcases bf (x0.offer == x1) with hb365 | hb365
      · have s366 := bv s364 hb365
        refine s1k p363.z rfl (yd p363.z rfl rfl s366) rfl fun a367 p368 s369 => ?_
        have s370 := p368.o s366 rfl
        refine s1k p368.z rfl (yd p368.z rfl rfl s370) rfl fun a371 p372 s373 => ?_
        have s374 := p372.o s370 rfl
        refine s1 p372.z (okPickF s374 cst) rfl fun a375 p376 s377 => ?_
        exact rN ⟨rfl, rfl, ((((Pg.refl p363.z).st p368 rfl).st p372 rfl).st p376 rfl), (andF hb365 s377)⟩
      · have s378 := bv s364 hb365
        have s379 := p363.o (p360.o (p356.o (p352.o (p348.o (pg344.o (pg36.o s0_3 rfl) rfl) rfl) rfl) rfl) rfl) rfl
        refine s1g p363.z (okMv s379) rfl (yd p363.z rfl rfl s378) fun a380 p381 s382 => ?_
        have s383 := p381.o s378 rfl
        refine s1g p381.z (okEq s382 cst) rfl (yd p381.z rfl rfl s383) fun a384 p385 s386 => ?_
        have s387 := p385.o s383 rfl
        refine s1 p385.z (okPickT s387 s386) rfl fun a388 p389 s390 => ?_
        exact rN ⟨rfl, rfl, ((((Pg.refl p363.z).st p381 rfl).st p385 rfl).st p389 rfl), (andT hb365 s390)⟩
    rintro a391 ⟨pg392, s393⟩
    refine rN (thenN ?_)
    have pg394 : Pg _ [51, 52, 53, 54, 55, 56, 57, 58] _ _ := (((((((Pg.refl pg344.z).st p348 rfl).st p352 rfl).st p356 rfl).st p360 rfl).st p363 rfl).tr pg392 rfl)
    refine cnd s393 (fun hb395 => ?_) (fun hb395 => ?_)
    · replace h := (ifP hb395).symm.trans h
      refine wp_seq ?_
      refine reg ?_
      have s396 := pg394.o s346 rfl
      refine s1 pg394.z (okFA (o' := 13) fo25_6 s396 rfl) rfl fun a397 p398 s399 => ?_
      refine lS (oSto (cs := [.int .i64 (-1)]) (l' := TThing.C ({ x0 with offer := (-1) }) h0_0) p398.z s399 cst m350 Try.sizeOf3 rfl one1 rfl rfl fun w400 m401 g402 => ?_)
      have cx403 := cx17.st g402 f9
      refine rN (thenN ?_)
      refine wp_seq ?_
      refine reg ?_
      have s404 := p398.o s396 rfl
      refine s1 p398.z (okFA (o' := 14) fo25_7 s404 rfl) rfl fun a405 p406 s407 => ?_
      refine lS (oSto (cs := [.int .i64 0]) (l' := TThing.C ({ x0 with offer := (-1), item := 0 }) h0_0) p406.z s407 cst m401 Try.sizeOf3 rfl one1 rfl rfl fun w408 m409 g410 => ?_)
      have cx411 := cx403.st g410 f9
      refine rN (thenN ?_)
      refine wp_seq ?_
      refine reg ?_
      have s412 := p406.o s404 rfl
      refine s1 p406.z (okLdA ag25 s412 (m409.cl) rfl rfl whole) rfl fun a413 p414 s415 => ?_
      have s416 := p414.o (p406.o (p398.o (pg394.o (pg344.o s33 rfl) rfl) rfl) rfl) rfl
      have m417 := (m14.g1 g402 (m5.ne e16).symm).g1 g410 (m5.ne e16).symm
      have q418 := qh0_0.mono ((((g6.tA (Nat.le_of_eq e7.symm)).trans (g15.tA (Nat.le_of_eq e16.symm))).trans (g402.t1 (.tail _ (.head _)))).trans (g410.t1 (.tail _ (.head _))))
      refine lS (oStoW (cs := TThing.C ({ x0 with offer := (-1), item := 0 }) h0_0) p414.z s416 s415 m417 Try.sizeOf25 rfl (TThing.C_one _ q418.one) rfl fun w419 m420 g421 => ?_)
      have cx422 := cx411.st g421 f18
      refine s1 p414.z (okAs cst) rfl fun a423 p424 s425 => ?_
      refine rN (thenN ?_)
      have s426 := p424.o s416 rfl
      obtain rfl := Option.some.inj h
      have q427 := q418.mono (g421.t1 (.head _))
      exact wp_ret (blkR (thenR (ret2 p424.z Try.results20 (rvA ag25 s426 m420 rfl) (rvT s425) ⟨_, rfl, h0_0, rfl, (q427.mono ((Tr.refl _ _).sub (fun i h => (.tail _ (.tail _ h))))), cx422.g⟩)))
    replace h := (ifN hb395).symm.trans h
    refine wp_skip (blkN (thenN ?_))
    refine wp_seq ?_
    refine reg ?_
    have s428 := pg394.o s346 rfl
    refine s1 pg394.z (okLdA ag25 s428 (m350.cl) rfl rfl whole) rfl fun a429 p430 s431 => ?_
    have s432 := p430.o (pg394.o (pg344.o s33 rfl) rfl) rfl
    have q433 := qh0_0.mono ((g6.tA (Nat.le_of_eq e7.symm)).trans (g15.tA (Nat.le_of_eq e16.symm)))
    refine lS (oStoW (cs := TThing.C x0 h0_0) p430.z s432 s431 m14 Try.sizeOf25 rfl (TThing.C_one _ q433.one) rfl fun w434 m435 g436 => ?_)
    have cx437 := cx17.st g436 f18
    refine s1 p430.z (okAs cst) rfl fun a438 p439 s440 => ?_
    refine rN (thenN ?_)
    have s441 := p439.o s432 rfl
    obtain rfl := Option.some.inj h
    have q442 := q433.mono (g436.t1 (.head _))
    exact wp_ret (ret2 p439.z Try.results20 (rvA ag25 s441 m435 rfl) (rvT s440) ⟨_, rfl, h0_0, rfl, (q442.mono ((Tr.refl _ _).sub (fun i h => (.tail _ (.tail _ h))))), cx437.g⟩)
  replace h := (ifN hb345).symm.trans h
  refine wp_skip (blkN (thenN ?_))
  refine wp_seq ?_
  refine reg ?_
  have s443 := pg344.o s32 rfl
  have m444 := m5.g0 g15
  refine s1 pg344.z (okLdA ag25 s443 (m444.cl) rfl rfl whole) rfl fun a445 p446 s447 => ?_
  have s448 := p446.o (pg344.o s33 rfl) rfl
  have q449 := qh0_0.mono ((g6.tA (Nat.le_of_eq e7.symm)).trans (g15.tA (Nat.le_of_eq e16.symm)))
  refine lS (oStoW (cs := TThing.C x0 h0_0) p446.z s448 s447 m14 Try.sizeOf25 rfl (TThing.C_one _ q449.one) rfl fun w450 m451 g452 => ?_)
  have cx453 := cx17.st g452 f18
  refine s1 p446.z (okAs cst) rfl fun a454 p455 s456 => ?_
  refine rN (thenN ?_)
  have s457 := p455.o s448 rfl
  obtain rfl := Option.some.inj h
  have q458 := q449.mono (g452.t1 (.head _))
  exact wp_ret (ret2 p455.z Try.results20 (rvA ag25 s457 m451 rfl) (rvT s456) ⟨_, rfl, h0_0, rfl, (q458.mono ((Tr.refl _ _).sub (fun i h => (.tail _ (.tail _ h))))), cx453.g⟩)
end Go.Proofs.Ytbfndihcbogjfaa
