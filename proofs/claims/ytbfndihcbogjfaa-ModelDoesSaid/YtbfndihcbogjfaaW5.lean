/-
  The Go functions tholeref10_Do, tholeref10_Copy, model_Can, tholeref10_Can, tholelaw10_ModelDoes: each comes to its plain function. Conditions: where the plain function is some.
-/
import Derived.Test.YtbfndihcbogjfaaW4
set_option linter.unusedVariables false
namespace Go.Proofs.Ytbfndihcbogjfaa
open Go Go.RowKit Go.Proofs.Ytbfndihcbogjfaa.Gx
set_option maxHeartbeats 4000000 in
theorem c11 (k : Nat) (L : List Nat) (w : World) (hL : ∀ b ∈ L, b < w.heap.size) (x0 : TThing) (h0_0 : Value) (qh0_0 : RdS KTWaiter L w h0_0 x0.waiters) (x1 : Int) (x2 : TNote) (r : TThing × Bool) (h : tholeref10_Do k x0 x1 x2 = some r) : Calls Try.prog 11 #[.agg (TThing.C x0 h0_0).toArray, .int .i64 x1, .agg (TNote.C x2).toArray] w (fun e w' => ∃ v, e = .returned v ∧ ∃ u_0, v = .tuple #[.agg (TThing.C r.1 u_0).toArray, .bool r.2] ∧ RdS KTWaiter L w' u_0 r.1.waiters ∧ G [] w w') := by
  refine enterF Try.func11 rfl rfl fun a0 z0 A => ?_
  have s0_0 := A 0 (.agg (TThing.C x0 h0_0).toArray) rfl
  have s0_1 := A 1 (.int .i64 x1) rfl
  have s0_2 := A 2 (.agg (TNote.C x2).toArray) rfl
  clear A
  have c0 : Cx [] w L w := ⟨G.refl _ _, hL⟩
  unfold tholeref10_Do at h
  refine wp_seq ?_
  refine reg ?_
  refine lS (oBox (l := TThing.C x0 h0_0) z0 s0_0 rfl rfl fun a1 w2 b3 p4 sp4 m5 g6 e7 => ?_)
  have f9 := c0.nw e7
  have cx8 := c0.al g6 m5
  have s10 := p4.o s0_2 rfl
  refine lS (oBox (l := TNote.C x2) p4.z s10 rfl rfl fun a11 w12 b13 p14 sp14 m15 g16 e17 => ?_)
  have f19 := cx8.nw e17
  have cx18 := cx8.al g16 m15
  have m27 := m5.g0 g16
  refine lS (oAlloc zv25 p14.z rfl fun a20 w21 b22 p23 sp23 m24 g25 e26 => ?_)
  have f29 := cx18.nw e26
  have cx28 := cx18.al g25 m24
  refine s1 p23.z (okAs cst) rfl fun a30 p31 s32 => ?_
  refine rN (thenN ?_)
  refine wp_seq ?_
  refine wp_seq ?_
  refine reg ?_
  have s33 := p31.o (p23.o (p14.o (p4.o s0_1 rfl) rfl) rfl) rfl
  refine s1 p31.z (okMv s33) rfl fun a34 p35 s36 => ?_
  refine s1 p35.z (okLt s36 cst) rfl fun a37 p38 s39 => ?_
  refine s1 p38.z (okMv s39) rfl fun a40 p41 s42 => ?_
  refine cutP 3 (fun a' => Pg Try.f11.ntmps [11, 12, 13] a40 a' ∧ a'.eval (.tmp 13) = .bool ((decide (x1 < 0)) || (decide (7 < x1)))) ?_ ?_
  · rcases bf (decide (x1 < 0)) with hb43 | hb43
    · have s44 := bv s42 hb43
      have s45 := p41.o (p38.o (p35.o s33 rfl) rfl) rfl
      refine s1g p41.z (okMv s45) rfl (yd p41.z rfl rfl s44) fun a46 p47 s48 => ?_
      have s49 := p47.o s44 rfl
      refine s1g p47.z (okGt s48 cst) rfl (yd p47.z rfl rfl s49) fun a50 p51 s52 => ?_
      have s53 := p51.o s49 rfl
      refine s1 p51.z (okPickF s53 s52) rfl fun a54 p55 s56 => ?_
      exact rN ⟨rfl, rfl, ((((Pg.refl p41.z).st p47 rfl).st p51 rfl).st p55 rfl), (orF hb43 s56)⟩
    · have s57 := bv s42 hb43
      refine s1k p41.z rfl (yd p41.z rfl rfl s57) rfl fun a58 p59 s60 => ?_
      have s61 := p59.o s57 rfl
      refine s1k p59.z rfl (yd p59.z rfl rfl s61) rfl fun a62 p63 s64 => ?_
      have s65 := p63.o s61 rfl
      refine s1 p63.z (okPickT s65 cst) rfl fun a66 p67 s68 => ?_
      exact rN ⟨rfl, rfl, ((((Pg.refl p41.z).st p59 rfl).st p63 rfl).st p67 rfl), (orT hb43 s68)⟩
  rintro a69 ⟨pg70, s71⟩
  refine s1 pg70.z (okMv s71) rfl fun a72 p73 s74 => ?_
  refine cutP 4 (fun a' => Pg Try.f11.ntmps [15, 16, 17, 18] a72 a' ∧ a'.eval (.tmp 18) = .bool (((decide (x1 < 0)) || (decide (7 < x1))) || (decide (x0.kind < 1)))) ?_ ?_
  · rcases bf ((decide (x1 < 0)) || (decide (7 < x1))) with hb75 | hb75
    · have s76 := bv s74 hb75
      have s77 := p73.o (pg70.o (p41.o (p38.o (p35.o (p31.o (p23.o (p14.o sp4 rfl) rfl) rfl) rfl) rfl) rfl) rfl) rfl
      refine s1g p73.z (okFA (o' := 0) fo25_0 s77 rfl) rfl (yd p73.z rfl rfl s76) fun a78 p79 s80 => ?_
      have s81 := p79.o s76 rfl
      have m82 := m27.g0 g25
      refine s1g p79.z (okLd (j := 0) na3 s80 (m82.cl) rfl rfl) rfl (yd p79.z rfl rfl s81) fun a83 p84 s85 => ?_
      have s86 := p84.o s81 rfl
      refine s1g p84.z (okLt s85 cst) rfl (yd p84.z rfl rfl s86) fun a87 p88 s89 => ?_
      have s90 := p88.o s86 rfl
      refine s1 p88.z (okPickF s90 s89) rfl fun a91 p92 s93 => ?_
      exact rN ⟨rfl, rfl, (((((Pg.refl p73.z).st p79 rfl).st p84 rfl).st p88 rfl).st p92 rfl), (orF hb75 s93)⟩
    · have s94 := bv s74 hb75
      refine s1k p73.z rfl (yd p73.z rfl rfl s94) rfl fun a95 p96 s97 => ?_
      have s98 := p96.o s94 rfl
      refine s1k p96.z rfl (yd p96.z rfl rfl s98) rfl fun a99 p100 s101 => ?_
      have s102 := p100.o s98 rfl
      refine s1k p100.z rfl (yd p100.z rfl rfl s102) rfl fun a103 p104 s105 => ?_
      have s106 := p104.o s102 rfl
      refine s1 p104.z (okPickT s106 cst) rfl fun a107 p108 s109 => ?_
      exact rN ⟨rfl, rfl, (((((Pg.refl p73.z).st p96 rfl).st p100 rfl).st p104 rfl).st p108 rfl), (orT hb75 s109)⟩
  rintro a110 ⟨pg111, s112⟩
  refine s1 pg111.z (okMv s112) rfl fun a113 p114 s115 => ?_
  refine cutP 4 (fun a' => Pg Try.f11.ntmps [20, 21, 22, 23] a113 a' ∧ a'.eval (.tmp 23) = .bool ((((decide (x1 < 0)) || (decide (7 < x1))) || (decide (x0.kind < 1))) || (decide (5 < x0.kind)))) ?_ ?_
  · rcases bf (((decide (x1 < 0)) || (decide (7 < x1))) || (decide (x0.kind < 1))) with hb116 | hb116
    · have s117 := bv s115 hb116
      have s118 := p114.o (pg111.o (p73.o (pg70.o (p41.o (p38.o (p35.o (p31.o (p23.o (p14.o sp4 rfl) rfl) rfl) rfl) rfl) rfl) rfl) rfl) rfl) rfl
      refine s1g p114.z (okFA (o' := 0) fo25_0 s118 rfl) rfl (yd p114.z rfl rfl s117) fun a119 p120 s121 => ?_
      have s122 := p120.o s117 rfl
      have m123 := m27.g0 g25
      refine s1g p120.z (okLd (j := 0) na3 s121 (m123.cl) rfl rfl) rfl (yd p120.z rfl rfl s122) fun a124 p125 s126 => ?_
      have s127 := p125.o s122 rfl
      refine s1g p125.z (okGt s126 cst) rfl (yd p125.z rfl rfl s127) fun a128 p129 s130 => ?_
      have s131 := p129.o s127 rfl
      refine s1 p129.z (okPickF s131 s130) rfl fun a132 p133 s134 => ?_
      exact rN ⟨rfl, rfl, (((((Pg.refl p114.z).st p120 rfl).st p125 rfl).st p129 rfl).st p133 rfl), (orF hb116 s134)⟩
    · have s135 := bv s115 hb116
      refine s1k p114.z rfl (yd p114.z rfl rfl s135) rfl fun a136 p137 s138 => ?_
      have s139 := p137.o s135 rfl
      refine s1k p137.z rfl (yd p137.z rfl rfl s139) rfl fun a140 p141 s142 => ?_
      have s143 := p141.o s139 rfl
      refine s1k p141.z rfl (yd p141.z rfl rfl s143) rfl fun a144 p145 s146 => ?_
      have s147 := p145.o s143 rfl
      refine s1 p145.z (okPickT s147 cst) rfl fun a148 p149 s150 => ?_
      exact rN ⟨rfl, rfl, (((((Pg.refl p114.z).st p137 rfl).st p141 rfl).st p145 rfl).st p149 rfl), (orT hb116 s150)⟩
  rintro a151 ⟨pg152, s153⟩
  refine rN (thenN ?_)
  have s154 := pg152.o (p114.o (pg111.o (p73.o (pg70.o (p41.o (p38.o (p35.o s33 rfl) rfl) rfl) rfl) rfl) rfl) rfl) rfl
  have s155 := pg152.o (p114.o (pg111.o (p73.o (pg70.o (p41.o (p38.o (p35.o (p31.o (p23.o (p14.o sp4 rfl) rfl) rfl) rfl) rfl) rfl) rfl) rfl) rfl) rfl) rfl
  have s156 := pg152.o (p114.o (pg111.o (p73.o (pg70.o (p41.o (p38.o (p35.o (p31.o (p23.o sp14 rfl) rfl) rfl) rfl) rfl) rfl) rfl) rfl) rfl) rfl
  have s157 := pg152.o (p114.o (pg111.o (p73.o (pg70.o (p41.o (p38.o (p35.o (p31.o sp23 rfl) rfl) rfl) rfl) rfl) rfl) rfl) rfl) rfl
  have s158 := pg152.o (p114.o (pg111.o (p73.o (pg70.o (p41.o (p38.o (p35.o s32 rfl) rfl) rfl) rfl) rfl) rfl) rfl) rfl
  have pg159 : Pg _ [3, 5, 6, 7, 8, 9, 10, 11, 12, 13, 14, 15, 16, 17, 18, 19, 20, 21, 22, 23] _ _ := (((((((((((((Pg.refl z0).st p4 rfl).st p14 rfl).st p23 rfl).st p31 rfl).st p35 rfl).st p38 rfl).st p41 rfl).tr pg70 rfl).st p73 rfl).tr pg111 rfl).st p114 rfl).tr pg152 rfl)
  refine cnd s153 (fun hb160 => ?_) (fun hb160 => ?_)
  · replace h := (ifP hb160).symm.trans h
    refine wp_seq ?_
    refine reg ?_
    have m161 := m27.g0 g25
    refine s1 pg159.z (okLdA ag25 s155 (m161.cl) rfl rfl whole) rfl fun a162 p163 s164 => ?_
    have s165 := p163.o s157 rfl
    have q166 := qh0_0.mono (((g6.tA (Nat.le_of_eq e7.symm)).trans (g16.tA (Nat.le_of_eq e17.symm))).trans (g25.tA (Nat.le_of_eq e26.symm)))
    refine lS (oStoW (cs := TThing.C x0 h0_0) p163.z s165 s164 m24 Try.sizeOf25 rfl (TThing.C_one _ q166.one) rfl fun w167 m168 g169 => ?_)
    have cx170 := cx28.st g169 f29
    refine s1 p163.z (okAs cst) rfl fun a171 p172 s173 => ?_
    refine rN (thenN ?_)
    have s174 := p172.o s165 rfl
    obtain rfl := Option.some.inj h
    have q175 := q166.mono (g169.t1 (.head _))
    exact wp_ret (thenR (ret2 p172.z Try.results11 (rvA ag25 s174 m168 rfl) (rvT s173) ⟨_, rfl, h0_0, rfl, (q175.mono ((Tr.refl _ _).sub (fun i h => (.tail _ (.tail _ (.tail _ h)))))), cx170.g⟩))
  replace h := (ifN hb160).symm.trans h
  refine wp_skip (thenN ?_)
  refine wp_seq ?_
  refine wp_seq ?_
  refine reg ?_
  refine s1 pg159.z (okFA (o' := 0) fo29_0 s156 rfl) rfl fun a176 p177 s178 => ?_
  have m179 := m15.g0 g25
  refine s1 p177.z (okLd (j := 0) na3 s178 (m179.cl) rfl rfl) rfl fun a180 p181 s182 => ?_
  refine s1 p181.z (okEq s182 cst) rfl fun a183 p184 s185 => ?_
  refine rN (thenN ?_)
  have pg186 : Pg _ [25, 26, 27] _ _ := ((((Pg.refl pg159.z).st p177 rfl).st p181 rfl).st p184 rfl)
  refine cnd s185 (fun hb187 => ?_) (fun hb187 => ?_)
  · replace h := (ifP hb187).symm.trans h
    refine wp_seq ?_
    have s213 := pg186.o s154 rfl
    have s214 := pg186.o s155 rfl
    have s215 := pg186.o s156 rfl
    have s216 := pg186.o s157 rfl
    have m217 := m27.g0 g25
    refine regJ (fun a' w' => Z Try.f11.ntmps a' ∧ a'.eval (.tmp 1) = .int .i64 x1 ∧ a'.eval (.tmp 3) = ptr b3 0 ∧ a'.eval (.tmp 5) = ptr b13 0 ∧ a'.eval (.tmp 6) = ptr b22 0 ∧ a'.eval (.tmp 7) = .bool (x2.value == 0) ∧ Bk w' b3 (TThing.C x0 h0_0) 25 ∧ Bk w' b13 (TNote.C x2) 29 ∧ Bk w' b22 (TThing.C x0 h0_0) 25 ∧ Cx [] w (b22 :: b13 :: b3 :: L) w' ∧ Tr (b22 :: b13 :: b3 :: L) w21 (b22 :: b13 :: b3 :: L) w') ?_ ?_
    · refine regH (n := 6) [(0, fun w' => Cl w' b3 0 (TThing.C x0 h0_0)), (2, fun w' => Cl w' b13 1 [.int .i64 x2.value])] mixed rfl ?_
      have g218 := G.drew w21
      have cx219 := cx28.ca g218
      have m220 := m217.g0 g218
      refine hTakeW (i := 0) rfl (by kernel_rfl) (by kernel_rfl) (by kernel_rfl) nrm (.inr (.head _)) pg186.z (wN rfl) (fun _ h => okLdA ag25 s214 h rfl rfl whole) (m220.clp rfl) rfl fun a221 p222 sp222 => ?_
      have s223 := p222.o s215 rfl
      refine hTakeW (i := 1) rfl (by kernel_rfl) (by kernel_rfl) (by kernel_rfl) nrm (cond := fun _ => True) (.inl fun _ => trivial) p222.z (wN rfl) (fun _ _ => okFA (o' := 1) fo29_1 s223 rfl) trivial rfl fun a224 p225 sp225 => ?_
      have m226 := m179.g0 g218
      refine hTakeW (i := 2) rfl (by kernel_rfl) (by kernel_rfl) (by kernel_rfl) nrm (.inr (.tail _ (.head _))) p225.z (wN rfl) (fun _ h => okLd (j := 0) na2 sp225 h rfl rfl) (m226.clp rfl) rfl fun a227 p228 sp228 => ?_
      refine hTakeW (i := 3) rfl (by kernel_rfl) (by kernel_rfl) (by kernel_rfl) nrm (cond := fun _ => True) (.inl fun _ => trivial) p228.z (wN rfl) (fun _ _ => okEq sp228 cst) trivial rfl fun a229 p230 sp230 => ?_
      have s231 := p230.o (p228.o (p225.o (p222.o s216 rfl) rfl) rfl) rfl
      have s232 := p230.o (p228.o (p225.o sp222 rfl) rfl) rfl
      have m233 := m24.g0 g218
      have q234 := qh0_0.mono ((((g6.tA (Nat.le_of_eq e7.symm)).trans (g16.tA (Nat.le_of_eq e17.symm))).trans (g25.tA (Nat.le_of_eq e26.symm))).trans g218.t0)
      refine hOne (i := 4) (by kernel_rfl) rfl (oStoW (cs := TThing.C x0 h0_0) p230.z s231 s232 m233 Try.sizeOf25 rfl (TThing.C_one _ q234.one) rfl fun w235 m236 g237 => ?_)
      have cx238 := cx219.st g237 f29
      refine ⟨⟨.inl rfl, .inr fun h => h.g1 g237 (m15.ne e26), trivial⟩, ?_⟩
      refine hTakeW (i := 5) rfl (by kernel_rfl) (by kernel_rfl) (by kernel_rfl) nrm (cond := fun _ => True) (.inl fun _ => trivial) p230.z (wN rfl) (fun _ _ => okAs sp230) trivial rfl fun a239 p240 sp240 => ?_
      have s241 := p240.o (p230.o (p228.o (p225.o (p222.o s213 rfl) rfl) rfl) rfl) rfl
      have s242 := p240.o (p230.o (p228.o (p225.o (p222.o s214 rfl) rfl) rfl) rfl) rfl
      have s243 := p240.o (p230.o (p228.o (p225.o s223 rfl) rfl) rfl) rfl
      have s244 := p240.o s231 rfl
      have m245 := m220.g1 g237 (m27.ne e26)
      have m246 := m226.g1 g237 (m15.ne e26)
      exact hDone (by kernel_rfl) ⟨rfl, p240.z, s241, s242, s243, s244, sp240, m245, m246, m236, cx238, (g218.t0.trans (g237.t1 (.head _)))⟩
    rintro a247 w248 ⟨z249, s250, s251, s252, s253, s254, m255, m256, m257, cx258, t259⟩
    refine thenN ?_
    obtain rfl := Option.some.inj h
    have q260 := qh0_0.mono ((((g6.tA (Nat.le_of_eq e7.symm)).trans (g16.tA (Nat.le_of_eq e17.symm))).trans (g25.tA (Nat.le_of_eq e26.symm))).trans t259)
    exact wp_ret (thenR (ret2 z249 Try.results11 (rvA ag25 s253 m257 rfl) (rvT s254) ⟨_, rfl, h0_0, rfl, (q260.mono ((Tr.refl _ _).sub (fun i h => (.tail _ (.tail _ (.tail _ h)))))), cx258.g⟩))
  replace h := (ifN hb187).symm.trans h
  refine wp_skip (thenN ?_)
  refine wp_seq ?_
  refine wp_seq ?_
  refine reg ?_
  have s261 := pg186.o s155 rfl
  refine s1 pg186.z (okFA (o' := 0) fo25_0 s261 rfl) rfl fun a262 p263 s264 => ?_
  have m265 := m27.g0 g25
  refine s1 p263.z (okLd (j := 0) na3 s264 (m265.cl) rfl rfl) rfl fun a266 p267 s268 => ?_
  refine rN (thenN ?_)
  refine wp_block ?_
  refine wp_seq ?_
  refine reg ?_
  refine s1 p267.z (okEq s268 cst) rfl fun a269 p270 s271 => ?_
  refine s1 p270.z (okAs s271) rfl fun a272 p273 s274 => ?_
  refine rN (thenN ?_)
  have s275 := p273.o (p270.o s268 rfl) rfl
  have pg276 : Pg _ [32, 33, 34, 35] _ _ := (((((Pg.refl pg186.z).st p263 rfl).st p267 rfl).st p270 rfl).st p273 rfl)
  refine cnd s274 (fun hb277 => ?_) (fun hb277 => ?_)
  · replace h := (ifP hb277).symm.trans h
    refine wp_seq ?_
    refine reg ?_
    have s278 := pg276.o s261 rfl
    refine s1 pg276.z (okLdA ag25 s278 (m265.cl) rfl rfl whole) rfl fun a279 p280 s281 => ?_
    have s282 := p280.o (pg276.o (pg186.o s154 rfl) rfl) rfl
    refine s1 p280.z (okMv s282) rfl fun a283 p284 s285 => ?_
    have s286 := p284.o (p280.o (pg276.o (pg186.o s156 rfl) rfl) rfl) rfl
    refine s1 p284.z (okFA (o' := 0) fo29_0 s286 rfl) rfl fun a287 p288 s289 => ?_
    refine s1 p288.z (okLd (j := 0) na3 s289 (m179.cl) rfl rfl) rfl fun a290 p291 s292 => ?_
    have s293 := p291.o (p288.o s286 rfl) rfl
    refine s1 p291.z (okFA (o' := 1) fo29_1 s293 rfl) rfl fun a294 p295 s296 => ?_
    refine s1 p295.z (okLd (j := 1) na2 s296 (m179.cl) rfl rfl) rfl fun a297 p298 s299 => ?_
    have s300 := p298.o (p295.o (p291.o (p288.o (p284.o s281 rfl) rfl) rfl) rfl) rfl
    have s301 := p298.o (p295.o (p291.o (p288.o s285 rfl) rfl) rfl) rfl
    have s302 := p298.o (p295.o s292 rfl) rfl
    have q303 := qh0_0.mono (((g6.tA (Nat.le_of_eq e7.symm)).trans (g16.tA (Nat.le_of_eq e17.symm))).trans (g25.tA (Nat.le_of_eq e26.symm)))
    obtain ⟨t304, ht305, h⟩ := Option.bind_eq_some_iff.1 h
    refine lS (oCall p298.z Try.call17 (ag4 s300 s301 s302 s299) (c17 k (b22 :: b13 :: b3 :: L) w21 cx28.lt _ _ q303 _ _ _ _ ht305) rfl fun v309 a306 w307 hp310 p308 sp308 => ?_)
    obtain ⟨h311, rfl, q312, g313⟩ := hp310
    have cx314 := cx28.ca g313
    refine s1 p308.z (okExt (vs := [_, _]) sp308 rfl) rfl fun a315 p316 s317 => ?_
    have s318 := p316.o sp308 rfl
    refine s1 p316.z (okExt (vs := [_, _]) s318 rfl) rfl fun a319 p320 s321 => ?_
    have s322 := p320.o (p316.o (p308.o (p298.o (p295.o (p291.o (p288.o (p284.o (p280.o (pg276.o (pg186.o s157 rfl) rfl) rfl) rfl) rfl) rfl) rfl) rfl) rfl) rfl) rfl
    have s323 := p320.o s317 rfl
    have m324 := m24.g0 g313
    refine lS (oStoW (cs := TThing.C t304.1 h311) p320.z s322 s323 m324 Try.sizeOf25 rfl (TThing.C_one _ q312.one) rfl fun w325 m326 g327 => ?_)
    have cx328 := cx314.st g327 f29
    refine s1 p320.z (okAs s321) rfl fun a329 p330 s331 => ?_
    refine rN (thenN ?_)
    have s332 := p330.o s322 rfl
    obtain rfl := Option.some.inj h
    have q333 := q312.mono (g327.t1 (.head _))
    exact wp_ret (blkR (thenR (ret2 p330.z Try.results11 (rvA ag25 s332 m326 rfl) (rvT s331) ⟨_, rfl, h311, rfl, (q333.mono ((Tr.refl _ _).sub (fun i h => (.tail _ (.tail _ (.tail _ h)))))), cx328.g⟩)))
  replace h := (ifN hb277).symm.trans h
  refine wp_seq ?_
  refine reg ?_
  refine s1 pg276.z (okEq s275 cst) rfl fun a334 p335 s336 => ?_
  refine s1 p335.z (okAs s336) rfl fun a337 p338 s339 => ?_
  refine rN (thenN ?_)
  refine cnd s339 (fun hb340 => ?_) (fun hb340 => ?_)
  · replace h := (ifP hb340).symm.trans h
    refine wp_seq ?_
    refine reg ?_
    have s341 := p338.o (p335.o (pg276.o s261 rfl) rfl) rfl
    refine s1 p338.z (okLdA ag25 s341 (m265.cl) rfl rfl whole) rfl fun a342 p343 s344 => ?_
    have s345 := p343.o (p338.o (p335.o (pg276.o (pg186.o s156 rfl) rfl) rfl) rfl) rfl
    refine s1 p343.z (okFA (o' := 0) fo29_0 s345 rfl) rfl fun a346 p347 s348 => ?_
    refine s1 p347.z (okLd (j := 0) na3 s348 (m179.cl) rfl rfl) rfl fun a349 p350 s351 => ?_
    have s352 := p350.o (p347.o s345 rfl) rfl
    refine s1 p350.z (okFA (o' := 1) fo29_1 s352 rfl) rfl fun a353 p354 s355 => ?_
    refine s1 p354.z (okLd (j := 1) na2 s355 (m179.cl) rfl rfl) rfl fun a356 p357 s358 => ?_
    have s359 := p357.o (p354.o (p350.o (p347.o s344 rfl) rfl) rfl) rfl
    have s360 := p357.o (p354.o s351 rfl) rfl
    have q361 := qh0_0.mono (((g6.tA (Nat.le_of_eq e7.symm)).trans (g16.tA (Nat.le_of_eq e17.symm))).trans (g25.tA (Nat.le_of_eq e26.symm)))
    obtain ⟨t362, ht363, h⟩ := Option.bind_eq_some_iff.1 h
    refine lS (oCall p357.z Try.call18 (ag3 s359 s360 s358) (c18 (b22 :: b13 :: b3 :: L) w21 cx28.lt _ _ q361 _ _ _ ht363) rfl fun v367 a364 w365 hp368 p366 sp366 => ?_)
    obtain ⟨h369, rfl, q370, g371⟩ := hp368
    have cx372 := cx28.ca g371
    refine s1 p366.z (okExt (vs := [_, _]) sp366 rfl) rfl fun a373 p374 s375 => ?_
    have s376 := p374.o sp366 rfl
    refine s1 p374.z (okExt (vs := [_, _]) s376 rfl) rfl fun a377 p378 s379 => ?_
    have s380 := p378.o (p374.o (p366.o (p357.o (p354.o (p350.o (p347.o (p343.o (p338.o (p335.o (pg276.o (pg186.o s157 rfl) rfl) rfl) rfl) rfl) rfl) rfl) rfl) rfl) rfl) rfl) rfl
    have s381 := p378.o s375 rfl
    have m382 := m24.g0 g371
    refine lS (oStoW (cs := TThing.C t362.1 h369) p378.z s380 s381 m382 Try.sizeOf25 rfl (TThing.C_one _ q370.one) rfl fun w383 m384 g385 => ?_)
    have cx386 := cx372.st g385 f29
    refine s1 p378.z (okAs s379) rfl fun a387 p388 s389 => ?_
    refine rN (thenN ?_)
    have s390 := p388.o s380 rfl
    obtain rfl := Option.some.inj h
    have q391 := q370.mono (g385.t1 (.head _))
    exact wp_ret (blkR (thenR (ret2 p388.z Try.results11 (rvA ag25 s390 m384 rfl) (rvT s389) ⟨_, rfl, h369, rfl, (q391.mono ((Tr.refl _ _).sub (fun i h => (.tail _ (.tail _ (.tail _ h)))))), cx386.g⟩)))
  replace h := (ifN hb340).symm.trans h
  refine wp_seq ?_
  refine reg ?_
  have s392 := p338.o (p335.o s275 rfl) rfl
  refine s1 p338.z (okEq s392 cst) rfl fun a393 p394 s395 => ?_
  refine s1 p394.z (okAs s395) rfl fun a396 p397 s398 => ?_
  refine rN (thenN ?_)
  have s399 := p397.o (p394.o s392 rfl) rfl
  have pg400 : Pg _ [45, 46, 55, 56] _ _ := (((((Pg.refl pg276.z).st p335 rfl).st p338 rfl).st p394 rfl).st p397 rfl)
  refine cnd s398 (fun hb401 => ?_) (fun hb401 => ?_)
  · replace h := (ifP hb401).symm.trans h
    refine wp_seq ?_
    refine wp_seq ?_
    refine reg ?_
    have s402 := pg400.o (pg276.o (pg186.o s156 rfl) rfl) rfl
    refine s1 pg400.z (okFA (o' := 0) fo29_0 s402 rfl) rfl fun a403 p404 s405 => ?_
    refine s1 p404.z (okLd (j := 0) na3 s405 (m179.cl) rfl rfl) rfl fun a406 p407 s408 => ?_
    refine s1 p407.z (okEq s408 cst) rfl fun a409 p410 s411 => ?_
    refine rN (thenN ?_)
    have pg412 : Pg _ [57, 58, 59] _ _ := ((((Pg.refl pg400.z).st p404 rfl).st p407 rfl).st p410 rfl)
    refine cnd s411 (fun hb413 => ?_) (fun hb413 => ?_)
    · replace h := (ifP hb413).symm.trans h
      refine wp_seq ?_
      have s478 := pg412.o (pg400.o (pg276.o (pg186.o s154 rfl) rfl) rfl) rfl
      have s479 := pg412.o (pg400.o (pg276.o s261 rfl) rfl) rfl
      have s480 := pg412.o s402 rfl
      have s481 := pg412.o (pg400.o (pg276.o (pg186.o s157 rfl) rfl) rfl) rfl
      refine regJ (fun a' w' => Z Try.f11.ntmps a' ∧ a'.eval (.tmp 1) = .int .i64 x1 ∧ a'.eval (.tmp 3) = ptr b3 0 ∧ a'.eval (.tmp 5) = ptr b13 0 ∧ a'.eval (.tmp 6) = ptr b22 0 ∧ a'.eval (.tmp 7) = .bool ((x0.n == 0) && (x2.value == 0)) ∧ Bk w' b3 (TThing.C x0 h0_0) 25 ∧ Bk w' b13 (TNote.C x2) 29 ∧ Bk w' b22 (TThing.C x0 h0_0) 25 ∧ Cx [] w (b22 :: b13 :: b3 :: L) w' ∧ Tr (b22 :: b13 :: b3 :: L) w21 (b22 :: b13 :: b3 :: L) w') ?_ ?_
      · refine regH (n := 11) [(0, fun w' => Cl w' b3 0 (TThing.C x0 h0_0)), (2, fun w' => Cl w' b3 1 [.int .i64 x0.n]), (6, fun w' => Cl w' b13 1 [.int .i64 x2.value])] mixed rfl ?_
        have g482 := G.drew w21
        have cx483 := cx28.ca g482
        have m484 := m265.g0 g482
        refine hTakeW (i := 0) rfl (by kernel_rfl) (by kernel_rfl) (by kernel_rfl) nrm (.inr (.head _)) pg412.z (wN rfl) (fun _ h => okLdA ag25 s479 h rfl rfl whole) (m484.clp rfl) rfl fun a485 p486 sp486 => ?_
        have s487 := p486.o s479 rfl
        refine hTakeW (i := 1) rfl (by kernel_rfl) (by kernel_rfl) (by kernel_rfl) nrm (cond := fun _ => True) (.inl fun _ => trivial) p486.z (wN rfl) (fun _ _ => okFA (o' := 1) fo25_1 s487 rfl) trivial rfl fun a488 p489 sp489 => ?_
        refine hTakeW (i := 2) rfl (by kernel_rfl) (by kernel_rfl) (by kernel_rfl) nrm (.inr (.tail _ (.head _))) p489.z (wN rfl) (fun _ h => okLd (j := 0) na3 sp489 h rfl rfl) (m484.clp rfl) rfl fun a490 p491 sp491 => ?_
        refine hTakeW (i := 3) rfl (by kernel_rfl) (by kernel_rfl) (by kernel_rfl) nrm (cond := fun _ => True) (.inl fun _ => trivial) p491.z (wN rfl) (fun _ _ => okEq sp491 cst) trivial rfl fun a492 p493 sp493 => ?_
        refine hTakeW (i := 4) rfl (by kernel_rfl) (by kernel_rfl) (by kernel_rfl) nrm (cond := fun _ => True) (.inl fun _ => trivial) p493.z (wN rfl) (fun _ _ => okMv sp493) trivial rfl fun a494 p495 sp495 => ?_
        rcases bf (x0.n == 0) with hb496 | hb496
        · have s497 := bv sp495 hb496
          refine hSkip (i := 5) rfl (by kernel_rfl) (by kernel_rfl) (by kernel_rfl) nrm rfl p495.z (yd p495.z rfl rfl s497) rfl rfl fun a498 p499 sp499 => ?_
          have s500 := p499.o s497 rfl
          refine hSkip (i := 6) rfl (by kernel_rfl) (by kernel_rfl) (by kernel_rfl) nrm rfl p499.z (yd p499.z rfl rfl s500) rfl rfl fun a501 p502 sp502 => ?_
          have s503 := p502.o s500 rfl
          refine hSkip (i := 7) rfl (by kernel_rfl) (by kernel_rfl) (by kernel_rfl) nrm rfl p502.z (yd p502.z rfl rfl s503) rfl rfl fun a504 p505 sp505 => ?_
          have s506 := p505.o s503 rfl
          refine hTakeW (i := 8) rfl (by kernel_rfl) (by kernel_rfl) (by kernel_rfl) nrm (cond := fun _ => True) (.inl fun _ => trivial) p505.z (wN rfl) (fun _ _ => okPickF s506 cst) trivial rfl fun a507 p508 sp508 => ?_
          have s509 := p508.o (p505.o (p502.o (p499.o (p495.o (p493.o (p491.o (p489.o (p486.o s481 rfl) rfl) rfl) rfl) rfl) rfl) rfl) rfl) rfl
          have s510 := p508.o (p505.o (p502.o (p499.o (p495.o (p493.o (p491.o (p489.o sp486 rfl) rfl) rfl) rfl) rfl) rfl) rfl) rfl
          have m511 := m24.g0 g482
          have q512 := qh0_0.mono ((((g6.tA (Nat.le_of_eq e7.symm)).trans (g16.tA (Nat.le_of_eq e17.symm))).trans (g25.tA (Nat.le_of_eq e26.symm))).trans g482.t0)
          refine hOne (i := 9) (by kernel_rfl) rfl (oStoW (cs := TThing.C x0 h0_0) p508.z s509 s510 m511 Try.sizeOf25 rfl (TThing.C_one _ q512.one) rfl fun w513 m514 g515 => ?_)
          have cx516 := cx483.st g515 f29
          refine ⟨⟨.inl rfl, .inr fun h => h.g1 g515 (m27.ne e26), .inr fun h => h.g1 g515 (m15.ne e26), trivial⟩, ?_⟩
          refine hTakeW (i := 10) rfl (by kernel_rfl) (by kernel_rfl) (by kernel_rfl) nrm (cond := fun _ => True) (.inl fun _ => trivial) p508.z (wN rfl) (fun _ _ => okAs sp508) trivial rfl fun a517 p518 sp518 => ?_
          have s519 := p518.o (p508.o (p505.o (p502.o (p499.o (p495.o (p493.o (p491.o (p489.o (p486.o s478 rfl) rfl) rfl) rfl) rfl) rfl) rfl) rfl) rfl) rfl
          have s520 := p518.o (p508.o (p505.o (p502.o (p499.o (p495.o (p493.o (p491.o (p489.o s487 rfl) rfl) rfl) rfl) rfl) rfl) rfl) rfl) rfl
          have s521 := p518.o (p508.o (p505.o (p502.o (p499.o (p495.o (p493.o (p491.o (p489.o (p486.o s480 rfl) rfl) rfl) rfl) rfl) rfl) rfl) rfl) rfl) rfl
          have s522 := p518.o s509 rfl
          have m523 := m484.g1 g515 (m27.ne e26)
          have m524 := (m179.g0 g482).g1 g515 (m15.ne e26)
          exact hDone (by kernel_rfl) ⟨rfl, p518.z, s519, s520, s521, s522, (bvE sp518 (by simp [hb496])), m523, m524, m514, cx516, (g482.t0.trans (g515.t1 (.head _)))⟩
        · have s525 := bv sp495 hb496
          have s526 := p495.o (p493.o (p491.o (p489.o (p486.o s480 rfl) rfl) rfl) rfl) rfl
          refine hTakeW (i := 5) rfl (by kernel_rfl) (by kernel_rfl) (by kernel_rfl) nrm (cond := fun _ => True) (.inl fun _ => trivial) p495.z (wG rfl (yd p495.z rfl rfl s525)) (fun _ _ => okFA (o' := 1) fo29_1 s526 rfl) trivial rfl fun a527 p528 sp528 => ?_
          have s529 := p528.o s525 rfl
          have m530 := m179.g0 g482
          refine hTakeW (i := 6) rfl (by kernel_rfl) (by kernel_rfl) (by kernel_rfl) nrm (.inr (.tail _ (.tail _ (.head _)))) p528.z (wG rfl (yd p528.z rfl rfl s529)) (fun _ h => okLd (j := 0) na2 sp528 h rfl rfl) (m530.clp rfl) rfl fun a531 p532 sp532 => ?_
          have s533 := p532.o s529 rfl
          refine hTakeW (i := 7) rfl (by kernel_rfl) (by kernel_rfl) (by kernel_rfl) nrm (cond := fun _ => True) (.inl fun _ => trivial) p532.z (wG rfl (yd p532.z rfl rfl s533)) (fun _ _ => okEq sp532 cst) trivial rfl fun a534 p535 sp535 => ?_
          have s536 := p535.o s533 rfl
          refine hTakeW (i := 8) rfl (by kernel_rfl) (by kernel_rfl) (by kernel_rfl) nrm (cond := fun _ => True) (.inl fun _ => trivial) p535.z (wN rfl) (fun _ _ => okPickT s536 sp535) trivial rfl fun a537 p538 sp538 => ?_
          have s539 := p538.o (p535.o (p532.o (p528.o (p495.o (p493.o (p491.o (p489.o (p486.o s481 rfl) rfl) rfl) rfl) rfl) rfl) rfl) rfl) rfl
          have s540 := p538.o (p535.o (p532.o (p528.o (p495.o (p493.o (p491.o (p489.o sp486 rfl) rfl) rfl) rfl) rfl) rfl) rfl) rfl
          have m541 := m24.g0 g482
          have q542 := qh0_0.mono ((((g6.tA (Nat.le_of_eq e7.symm)).trans (g16.tA (Nat.le_of_eq e17.symm))).trans (g25.tA (Nat.le_of_eq e26.symm))).trans g482.t0)
          refine hOne (i := 9) (by kernel_rfl) rfl (oStoW (cs := TThing.C x0 h0_0) p538.z s539 s540 m541 Try.sizeOf25 rfl (TThing.C_one _ q542.one) rfl fun w543 m544 g545 => ?_)
          have cx546 := cx483.st g545 f29
          refine ⟨⟨.inl rfl, .inr fun h => h.g1 g545 (m27.ne e26), .inr fun h => h.g1 g545 (m15.ne e26), trivial⟩, ?_⟩
          refine hTakeW (i := 10) rfl (by kernel_rfl) (by kernel_rfl) (by kernel_rfl) nrm (cond := fun _ => True) (.inl fun _ => trivial) p538.z (wN rfl) (fun _ _ => okAs sp538) trivial rfl fun a547 p548 sp548 => ?_
          have s549 := p548.o (p538.o (p535.o (p532.o (p528.o (p495.o (p493.o (p491.o (p489.o (p486.o s478 rfl) rfl) rfl) rfl) rfl) rfl) rfl) rfl) rfl) rfl
          have s550 := p548.o (p538.o (p535.o (p532.o (p528.o (p495.o (p493.o (p491.o (p489.o s487 rfl) rfl) rfl) rfl) rfl) rfl) rfl) rfl) rfl
          have s551 := p548.o (p538.o (p535.o (p532.o (p528.o s526 rfl) rfl) rfl) rfl) rfl
          have s552 := p548.o s539 rfl
          have m553 := m484.g1 g545 (m27.ne e26)
          have m554 := m530.g1 g545 (m15.ne e26)
          exact hDone (by kernel_rfl) ⟨rfl, p548.z, s549, s550, s551, s552, (bvE sp548 (by simp [hb496])), m553, m554, m544, cx546, (g482.t0.trans (g545.t1 (.head _)))⟩
      rintro a555 w556 ⟨z557, s558, s559, s560, s561, s562, m563, m564, m565, cx566, t567⟩
      refine thenN ?_
      obtain rfl := Option.some.inj h
      have q568 := qh0_0.mono ((((g6.tA (Nat.le_of_eq e7.symm)).trans (g16.tA (Nat.le_of_eq e17.symm))).trans (g25.tA (Nat.le_of_eq e26.symm))).trans t567)
      exact wp_ret (thenR (blkR (thenR (ret2 z557 Try.results11 (rvA ag25 s561 m565 rfl) (rvT s562) ⟨_, rfl, h0_0, rfl, (q568.mono ((Tr.refl _ _).sub (fun i h => (.tail _ (.tail _ (.tail _ h)))))), cx566.g⟩))))
    replace h := (ifN hb413).symm.trans h
    refine wp_skip (thenN ?_)
    refine wp_seq ?_
    refine wp_seq ?_
    refine reg ?_
    have s569 := pg412.o s402 rfl
    refine s1 pg412.z (okFA (o' := 0) fo29_0 s569 rfl) rfl fun a570 p571 s572 => ?_
    refine s1 p571.z (okLd (j := 0) na3 s572 (m179.cl) rfl rfl) rfl fun a573 p574 s575 => ?_
    refine s1 p574.z (okEq s575 cst) rfl fun a576 p577 s578 => ?_
    refine s1 p577.z (okMv s578) rfl fun a579 p580 s581 => ?_
    refine cutP 19 (fun a' => Pg Try.f11.ntmps [73, 74, 75, 76, 77, 78, 79, 80, 81, 82, 83, 84, 85, 86, 87, 88, 89, 90, 91] a579 a' ∧ a'.eval (.tmp 91) = .bool ((x2.kind == 8) && (((x2.value == 1) && (decide (0 < x0.n))) || ((x2.value == 0) && (x0.n == 0))))) ?_ ?_
    · rcases bf (x2.kind == 8) with hb582 | hb582
      · have s583 := bv s581 hb582
        refine s1k p580.z rfl (yd p580.z rfl rfl s583) rfl fun a584 p585 s586 => ?_
        have s587 := p585.o s583 rfl
        refine s1k p585.z rfl (yd p585.z rfl rfl s587) rfl fun a588 p589 s590 => ?_
        have s591 := p589.o s587 rfl
        refine s1k p589.z rfl (yd p589.z rfl rfl s591) rfl fun a592 p593 s594 => ?_
        have s595 := p593.o s591 rfl
        refine s1k p593.z rfl (yd p593.z rfl rfl s595) rfl fun a596 p597 s598 => ?_
        refine s1k p597.z rfl (ydU p597.z rfl rfl s598) rfl fun a599 p600 s601 => ?_
        have s602 := p600.o s598 rfl
        refine s1k p600.z rfl (ydU p600.z rfl rfl s602) rfl fun a603 p604 s605 => ?_
        have s606 := p604.o s602 rfl
        refine s1k p604.z rfl (ydU p604.z rfl rfl s606) rfl fun a607 p608 s609 => ?_
        have s610 := p608.o (p604.o (p600.o (p597.o s595 rfl) rfl) rfl) rfl
        refine s1k p608.z rfl (yd p608.z rfl rfl s610) rfl fun a611 p612 s613 => ?_
        have s614 := p612.o s610 rfl
        refine s1k p612.z rfl (yd p612.z rfl rfl s614) rfl fun a615 p616 s617 => ?_
        refine s1k p616.z rfl (ydU p616.z rfl rfl s617) rfl fun a618 p619 s620 => ?_
        have s621 := p619.o s617 rfl
        refine s1k p619.z rfl (ydU p619.z rfl rfl s621) rfl fun a622 p623 s624 => ?_
        have s625 := p623.o s621 rfl
        refine s1k p623.z rfl (ydU p623.z rfl rfl s625) rfl fun a626 p627 s628 => ?_
        have s629 := p627.o s625 rfl
        refine s1k p627.z rfl (ydU p627.z rfl rfl s629) rfl fun a630 p631 s632 => ?_
        refine s1k p631.z rfl (ydU p631.z rfl rfl s632) rfl fun a633 p634 s635 => ?_
        have s636 := p634.o s632 rfl
        refine s1k p634.z rfl (ydU p634.z rfl rfl s636) rfl fun a637 p638 s639 => ?_
        have s640 := p638.o s636 rfl
        refine s1k p638.z rfl (ydU p638.z rfl rfl s640) rfl fun a641 p642 s643 => ?_
        have s644 := p642.o (p638.o (p634.o (p631.o s629 rfl) rfl) rfl) rfl
        refine s1k p642.z rfl (ydU p642.z rfl rfl s644) rfl fun a645 p646 s647 => ?_
        have s648 := p646.o (p642.o (p638.o (p634.o (p631.o (p627.o (p623.o (p619.o (p616.o s614 rfl) rfl) rfl) rfl) rfl) rfl) rfl) rfl) rfl
        refine s1k p646.z rfl (yd p646.z rfl rfl s648) rfl fun a649 p650 s651 => ?_
        have s652 := p650.o s648 rfl
        refine s1 p650.z (okPickF s652 cst) rfl fun a653 p654 s655 => ?_
        exact rN ⟨rfl, rfl, ((((((((((((((((((((Pg.refl p580.z).st p585 rfl).st p589 rfl).st p593 rfl).st p597 rfl).st p600 rfl).st p604 rfl).st p608 rfl).st p612 rfl).st p616 rfl).st p619 rfl).st p623 rfl).st p627 rfl).st p631 rfl).st p634 rfl).st p638 rfl).st p642 rfl).st p646 rfl).st p650 rfl).st p654 rfl), (andF hb582 s655)⟩
      · have s656 := bv s581 hb582
        have s657 := p580.o (p577.o (p574.o (p571.o s569 rfl) rfl) rfl) rfl
        refine s1g p580.z (okFA (o' := 1) fo29_1 s657 rfl) rfl (yd p580.z rfl rfl s656) fun a658 p659 s660 => ?_
        have s661 := p659.o s656 rfl
        refine s1g p659.z (okLd (j := 1) na2 s660 (m179.cl) rfl rfl) rfl (yd p659.z rfl rfl s661) fun a662 p663 s664 => ?_
        have s665 := p663.o s661 rfl
        refine s1g p663.z (okEq s664 cst) rfl (yd p663.z rfl rfl s665) fun a666 p667 s668 => ?_
        have s669 := p667.o s665 rfl
        refine s1g p667.z (okMv s668) rfl (yd p667.z rfl rfl s669) fun a670 p671 s672 => ?_
        refine cutP 4 (fun a' => Pg Try.f11.ntmps [77, 78, 79, 80] a670 a' ∧ a'.eval (.tmp 80) = .bool ((x2.value == 1) && (decide (0 < x0.n)))) ?_ ?_
        · rcases bf (x2.value == 1) with hb673 | hb673
          · have s674 := bv s672 hb673
            refine s1k p671.z rfl (yd p671.z rfl rfl s674) rfl fun a675 p676 s677 => ?_
            have s678 := p676.o s674 rfl
            refine s1k p676.z rfl (yd p676.z rfl rfl s678) rfl fun a679 p680 s681 => ?_
            have s682 := p680.o s678 rfl
            refine s1k p680.z rfl (yd p680.z rfl rfl s682) rfl fun a683 p684 s685 => ?_
            have s686 := p684.o (p680.o (p676.o (p671.o s669 rfl) rfl) rfl) rfl
            have s687 := p684.o s682 rfl
            refine s1g p684.z (okPickF s687 cst) rfl (yd p684.z rfl rfl s686) fun a688 p689 s690 => ?_
            exact rN ⟨rfl, rfl, (((((Pg.refl p671.z).st p676 rfl).st p680 rfl).st p684 rfl).st p689 rfl), (andF hb673 s690)⟩
          · have s691 := bv s672 hb673
            have s692 := p671.o (p667.o (p663.o (p659.o (p580.o (p577.o (p574.o (p571.o (pg412.o (pg400.o (pg276.o s261 rfl) rfl) rfl) rfl) rfl) rfl) rfl) rfl) rfl) rfl) rfl
            refine s1g p671.z (okFA (o' := 1) fo25_1 s692 rfl) rfl (yd p671.z rfl rfl s691) fun a693 p694 s695 => ?_
            have s696 := p694.o s691 rfl
            refine s1g p694.z (okLd (j := 1) na3 s695 (m265.cl) rfl rfl) rfl (yd p694.z rfl rfl s696) fun a697 p698 s699 => ?_
            have s700 := p698.o s696 rfl
            refine s1g p698.z (okGt s699 cst) rfl (yd p698.z rfl rfl s700) fun a701 p702 s703 => ?_
            have s704 := p702.o (p698.o (p694.o (p671.o s669 rfl) rfl) rfl) rfl
            have s705 := p702.o s700 rfl
            refine s1g p702.z (okPickT s705 s703) rfl (yd p702.z rfl rfl s704) fun a706 p707 s708 => ?_
            exact rN ⟨rfl, rfl, (((((Pg.refl p671.z).st p694 rfl).st p698 rfl).st p702 rfl).st p707 rfl), (andT hb673 s708)⟩
        rintro a709 ⟨pg710, s711⟩
        have s712 := pg710.o (p671.o s669 rfl) rfl
        refine s1g pg710.z (okMv s711) rfl (yd pg710.z rfl rfl s712) fun a713 p714 s715 => ?_
        refine cutP 9 (fun a' => Pg Try.f11.ntmps [82, 83, 84, 85, 86, 87, 88, 89, 90] a713 a' ∧ a'.eval (.tmp 90) = .bool (((x2.value == 1) && (decide (0 < x0.n))) || ((x2.value == 0) && (x0.n == 0)))) ?_ ?_
        · rcases bf ((x2.value == 1) && (decide (0 < x0.n))) with hb716 | hb716
          · have s717 := bv s715 hb716
            have s718 := p714.o (pg710.o (p671.o (p667.o (p663.o (p659.o s657 rfl) rfl) rfl) rfl) rfl) rfl
            refine s1g p714.z (okFA (o' := 1) fo29_1 s718 rfl) rfl (yd p714.z rfl rfl s717) fun a719 p720 s721 => ?_
            have s722 := p720.o s717 rfl
            refine s1g p720.z (okLd (j := 1) na2 s721 (m179.cl) rfl rfl) rfl (yd p720.z rfl rfl s722) fun a723 p724 s725 => ?_
            have s726 := p724.o s722 rfl
            refine s1g p724.z (okEq s725 cst) rfl (yd p724.z rfl rfl s726) fun a727 p728 s729 => ?_
            have s730 := p728.o s726 rfl
            refine s1g p728.z (okMv s729) rfl (yd p728.z rfl rfl s730) fun a731 p732 s733 => ?_
            refine cutP 4 (fun a' => Pg Try.f11.ntmps [86, 87, 88, 89] a731 a' ∧ a'.eval (.tmp 89) = .bool ((x2.value == 0) && (x0.n == 0))) ?_ ?_
            · rcases bf (x2.value == 0) with hb734 | hb734
              · have s735 := bv s733 hb734
                refine s1k p732.z rfl (yd p732.z rfl rfl s735) rfl fun a736 p737 s738 => ?_
                have s739 := p737.o s735 rfl
                refine s1k p737.z rfl (yd p737.z rfl rfl s739) rfl fun a740 p741 s742 => ?_
                have s743 := p741.o s739 rfl
                refine s1k p741.z rfl (yd p741.z rfl rfl s743) rfl fun a744 p745 s746 => ?_
                have s747 := p745.o (p741.o (p737.o (p732.o s730 rfl) rfl) rfl) rfl
                have s748 := p745.o s743 rfl
                refine s1g p745.z (okPickF s748 cst) rfl (yd p745.z rfl rfl s747) fun a749 p750 s751 => ?_
                exact rN ⟨rfl, rfl, (((((Pg.refl p732.z).st p737 rfl).st p741 rfl).st p745 rfl).st p750 rfl), (andF hb734 s751)⟩
              · have s752 := bv s733 hb734
                have s753 := p732.o (p728.o (p724.o (p720.o (p714.o (pg710.o (p671.o (p667.o (p663.o (p659.o (p580.o (p577.o (p574.o (p571.o (pg412.o (pg400.o (pg276.o s261 rfl) rfl) rfl) rfl) rfl) rfl) rfl) rfl) rfl) rfl) rfl) rfl) rfl) rfl) rfl) rfl) rfl
                refine s1g p732.z (okFA (o' := 1) fo25_1 s753 rfl) rfl (yd p732.z rfl rfl s752) fun a754 p755 s756 => ?_
                have s757 := p755.o s752 rfl
                refine s1g p755.z (okLd (j := 1) na3 s756 (m265.cl) rfl rfl) rfl (yd p755.z rfl rfl s757) fun a758 p759 s760 => ?_
                have s761 := p759.o s757 rfl
                refine s1g p759.z (okEq s760 cst) rfl (yd p759.z rfl rfl s761) fun a762 p763 s764 => ?_
                have s765 := p763.o (p759.o (p755.o (p732.o s730 rfl) rfl) rfl) rfl
                have s766 := p763.o s761 rfl
                refine s1g p763.z (okPickT s766 s764) rfl (yd p763.z rfl rfl s765) fun a767 p768 s769 => ?_
                exact rN ⟨rfl, rfl, (((((Pg.refl p732.z).st p755 rfl).st p759 rfl).st p763 rfl).st p768 rfl), (andT hb734 s769)⟩
            rintro a770 ⟨pg771, s772⟩
            have s773 := pg771.o (p732.o (p728.o (p724.o (p720.o (p714.o s712 rfl) rfl) rfl) rfl) rfl) rfl
            have s774 := pg771.o (p732.o s730 rfl) rfl
            refine s1g pg771.z (okPickF s774 s772) rfl (yd pg771.z rfl rfl s773) fun a775 p776 s777 => ?_
            exact rN ⟨rfl, rfl, (((((((Pg.refl p714.z).st p720 rfl).st p724 rfl).st p728 rfl).st p732 rfl).tr pg771 rfl).st p776 rfl), (orF hb716 s777)⟩
          · have s778 := bv s715 hb716
            refine s1k p714.z rfl (yd p714.z rfl rfl s778) rfl fun a779 p780 s781 => ?_
            have s782 := p780.o s778 rfl
            refine s1k p780.z rfl (yd p780.z rfl rfl s782) rfl fun a783 p784 s785 => ?_
            have s786 := p784.o s782 rfl
            refine s1k p784.z rfl (yd p784.z rfl rfl s786) rfl fun a787 p788 s789 => ?_
            have s790 := p788.o s786 rfl
            refine s1k p788.z rfl (yd p788.z rfl rfl s790) rfl fun a791 p792 s793 => ?_
            refine s1k p792.z rfl (ydU p792.z rfl rfl s793) rfl fun a794 p795 s796 => ?_
            have s797 := p795.o s793 rfl
            refine s1k p795.z rfl (ydU p795.z rfl rfl s797) rfl fun a798 p799 s800 => ?_
            have s801 := p799.o s797 rfl
            refine s1k p799.z rfl (ydU p799.z rfl rfl s801) rfl fun a802 p803 s804 => ?_
            have s805 := p803.o (p799.o (p795.o (p792.o s790 rfl) rfl) rfl) rfl
            refine s1k p803.z rfl (yd p803.z rfl rfl s805) rfl fun a806 p807 s808 => ?_
            have s809 := p807.o (p803.o (p799.o (p795.o (p792.o (p788.o (p784.o (p780.o (p714.o s712 rfl) rfl) rfl) rfl) rfl) rfl) rfl) rfl) rfl
            have s810 := p807.o s805 rfl
            refine s1g p807.z (okPickT s810 cst) rfl (yd p807.z rfl rfl s809) fun a811 p812 s813 => ?_
            exact rN ⟨rfl, rfl, ((((((((((Pg.refl p714.z).st p780 rfl).st p784 rfl).st p788 rfl).st p792 rfl).st p795 rfl).st p799 rfl).st p803 rfl).st p807 rfl).st p812 rfl), (orT hb716 s813)⟩
        rintro a814 ⟨pg815, s816⟩
        have s817 := pg815.o (p714.o s712 rfl) rfl
        refine s1 pg815.z (okPickT s817 s816) rfl fun a818 p819 s820 => ?_
        exact rN ⟨rfl, rfl, (((((((((Pg.refl p580.z).st p659 rfl).st p663 rfl).st p667 rfl).st p671 rfl).tr pg710 rfl).st p714 rfl).tr pg815 rfl).st p819 rfl), (andT hb582 s820)⟩
    rintro a821 ⟨pg822, s823⟩
    refine rN (thenN ?_)
    have pg824 : Pg _ [69, 70, 71, 72, 73, 74, 75, 76, 77, 78, 79, 80, 81, 82, 83, 84, 85, 86, 87, 88, 89, 90, 91] _ _ := ((((((Pg.refl pg412.z).st p571 rfl).st p574 rfl).st p577 rfl).st p580 rfl).tr pg822 rfl)
    refine cnd s823 (fun hb825 => ?_) (fun hb825 => ?_)
    · replace h := (ifP hb825).symm.trans h
      refine wp_seq ?_
      refine reg ?_
      have s826 := pg824.o (pg412.o (pg400.o (pg276.o s261 rfl) rfl) rfl) rfl
      refine s1 pg824.z (okFA (o' := 1) fo25_1 s826 rfl) rfl fun a827 p828 s829 => ?_
      refine s1 p828.z (okLd (j := 1) na3 s829 (m265.cl) rfl rfl) rfl fun a830 p831 s832 => ?_
      have s833 := p831.o (p828.o (pg824.o s569 rfl) rfl) rfl
      refine s1 p831.z (okFA (o' := 1) fo29_1 s833 rfl) rfl fun a834 p835 s836 => ?_
      refine s1 p835.z (okLd (j := 1) na2 s836 (m179.cl) rfl rfl) rfl fun a837 p838 s839 => ?_
      have s840 := p838.o (p835.o s832 rfl) rfl
      refine s1 p838.z (okSub s840 s839) rfl fun a841 p842 s843 => ?_
      have s844 := p842.o (p838.o (p835.o (p831.o (p828.o s826 rfl) rfl) rfl) rfl) rfl
      refine s1 p842.z (okFA (o' := 1) fo25_1 s844 rfl) rfl fun a845 p846 s847 => ?_
      have s848 := p846.o s843 rfl
      refine lS (oSto (cs := [.int .i64 (w64 (x0.n - x2.value))]) (l' := TThing.C ({ x0 with n := w64 (x0.n - x2.value) }) h0_0) p846.z s847 s848 m265 Try.sizeOf3 rfl one1 rfl rfl fun w849 m850 g851 => ?_)
      have cx852 := cx28.st g851 f9
      refine rN (thenN ?_)
      refine wp_seq ?_
      refine reg ?_
      have s853 := p846.o s844 rfl
      refine s1 p846.z (okLdA ag25 s853 (m850.cl) rfl rfl whole) rfl fun a854 p855 s856 => ?_
      have s857 := p855.o (p846.o (p842.o (p838.o (p835.o (p831.o (p828.o (pg824.o (pg412.o (pg400.o (pg276.o (pg186.o s157 rfl) rfl) rfl) rfl) rfl) rfl) rfl) rfl) rfl) rfl) rfl) rfl
      have m858 := m24.g1 g851 (m27.ne e26).symm
      have q859 := qh0_0.mono ((((g6.tA (Nat.le_of_eq e7.symm)).trans (g16.tA (Nat.le_of_eq e17.symm))).trans (g25.tA (Nat.le_of_eq e26.symm))).trans (g851.t1 (.tail _ (.tail _ (.head _)))))
      refine lS (oStoW (cs := TThing.C ({ x0 with n := w64 (x0.n - x2.value) }) h0_0) p855.z s857 s856 m858 Try.sizeOf25 rfl (TThing.C_one _ q859.one) rfl fun w860 m861 g862 => ?_)
      have cx863 := cx852.st g862 f29
      refine s1 p855.z (okAs cst) rfl fun a864 p865 s866 => ?_
      refine rN (thenN ?_)
      have s867 := p865.o s857 rfl
      obtain rfl := Option.some.inj h
      have q868 := q859.mono (g862.t1 (.head _))
      exact wp_ret (thenR (blkR (thenR (ret2 p865.z Try.results11 (rvA ag25 s867 m861 rfl) (rvT s866) ⟨_, rfl, h0_0, rfl, (q868.mono ((Tr.refl _ _).sub (fun i h => (.tail _ (.tail _ (.tail _ h)))))), cx863.g⟩))))
    replace h := (ifN hb825).symm.trans h
    refine wp_skip (thenN ?_)
    refine wp_seq ?_
    refine reg ?_
    have s869 := pg824.o (pg412.o (pg400.o (pg276.o s261 rfl) rfl) rfl) rfl
    refine s1 pg824.z (okLdA ag25 s869 (m265.cl) rfl rfl whole) rfl fun a870 p871 s872 => ?_
    have s873 := p871.o (pg824.o (pg412.o (pg400.o (pg276.o (pg186.o s157 rfl) rfl) rfl) rfl) rfl) rfl
    have q874 := qh0_0.mono (((g6.tA (Nat.le_of_eq e7.symm)).trans (g16.tA (Nat.le_of_eq e17.symm))).trans (g25.tA (Nat.le_of_eq e26.symm)))
    refine lS (oStoW (cs := TThing.C x0 h0_0) p871.z s873 s872 m24 Try.sizeOf25 rfl (TThing.C_one _ q874.one) rfl fun w875 m876 g877 => ?_)
    have cx878 := cx28.st g877 f29
    refine s1 p871.z (okAs cst) rfl fun a879 p880 s881 => ?_
    refine rN (thenN ?_)
    have s882 := p880.o s873 rfl
    obtain rfl := Option.some.inj h
    have q883 := q874.mono (g877.t1 (.head _))
    exact wp_ret (blkR (thenR (ret2 p880.z Try.results11 (rvA ag25 s882 m876 rfl) (rvT s881) ⟨_, rfl, h0_0, rfl, (q883.mono ((Tr.refl _ _).sub (fun i h => (.tail _ (.tail _ (.tail _ h)))))), cx878.g⟩)))
  replace h := (ifN hb401).symm.trans h
  refine wp_seq ?_
  refine reg ?_
  refine s1 pg400.z (okEq s399 cst) rfl fun a884 p885 s886 => ?_
  refine s1 p885.z (okAs s886) rfl fun a887 p888 s889 => ?_
  refine rN (thenN ?_)
  refine cnd s889 (fun hb890 => ?_) (fun hb890 => ?_)
  · replace h := (ifP hb890).symm.trans h
    refine wp_seq ?_
    refine reg ?_
    have s891 := p888.o (p885.o (pg400.o (pg276.o s261 rfl) rfl) rfl) rfl
    refine s1 p888.z (okLdA ag25 s891 (m265.cl) rfl rfl whole) rfl fun a892 p893 s894 => ?_
    have s895 := p893.o (p888.o (p885.o (pg400.o (pg276.o (pg186.o s154 rfl) rfl) rfl) rfl) rfl) rfl
    refine s1 p893.z (okMv s895) rfl fun a896 p897 s898 => ?_
    have s899 := p897.o (p893.o (p888.o (p885.o (pg400.o (pg276.o (pg186.o s156 rfl) rfl) rfl) rfl) rfl) rfl) rfl
    refine s1 p897.z (okFA (o' := 0) fo29_0 s899 rfl) rfl fun a900 p901 s902 => ?_
    refine s1 p901.z (okLd (j := 0) na3 s902 (m179.cl) rfl rfl) rfl fun a903 p904 s905 => ?_
    have s906 := p904.o (p901.o s899 rfl) rfl
    refine s1 p904.z (okFA (o' := 1) fo29_1 s906 rfl) rfl fun a907 p908 s909 => ?_
    refine s1 p908.z (okLd (j := 1) na2 s909 (m179.cl) rfl rfl) rfl fun a910 p911 s912 => ?_
    have s913 := p911.o (p908.o (p904.o (p901.o (p897.o s894 rfl) rfl) rfl) rfl) rfl
    have s914 := p911.o (p908.o (p904.o (p901.o s898 rfl) rfl) rfl) rfl
    have s915 := p911.o (p908.o s905 rfl) rfl
    have q916 := qh0_0.mono (((g6.tA (Nat.le_of_eq e7.symm)).trans (g16.tA (Nat.le_of_eq e17.symm))).trans (g25.tA (Nat.le_of_eq e26.symm)))
    obtain ⟨t917, ht918, h⟩ := Option.bind_eq_some_iff.1 h
    refine lS (oCall p911.z Try.call19 (ag4 s913 s914 s915 s912) (c19 k (b22 :: b13 :: b3 :: L) w21 cx28.lt _ _ q916 _ _ _ _ ht918) rfl fun v922 a919 w920 hp923 p921 sp921 => ?_)
    obtain ⟨h924, rfl, q925, g926⟩ := hp923
    have cx927 := cx28.ca g926
    refine s1 p921.z (okExt (vs := [_, _]) sp921 rfl) rfl fun a928 p929 s930 => ?_
    have s931 := p929.o sp921 rfl
    refine s1 p929.z (okExt (vs := [_, _]) s931 rfl) rfl fun a932 p933 s934 => ?_
    have s935 := p933.o (p929.o (p921.o (p911.o (p908.o (p904.o (p901.o (p897.o (p893.o (p888.o (p885.o (pg400.o (pg276.o (pg186.o s157 rfl) rfl) rfl) rfl) rfl) rfl) rfl) rfl) rfl) rfl) rfl) rfl) rfl) rfl
    have s936 := p933.o s930 rfl
    have m937 := m24.g0 g926
    refine lS (oStoW (cs := TThing.C t917.1 h924) p933.z s935 s936 m937 Try.sizeOf25 rfl (TThing.C_one _ q925.one) rfl fun w938 m939 g940 => ?_)
    have cx941 := cx927.st g940 f29
    refine s1 p933.z (okAs s934) rfl fun a942 p943 s944 => ?_
    refine rN (thenN ?_)
    have s945 := p943.o s935 rfl
    obtain rfl := Option.some.inj h
    have q946 := q925.mono (g940.t1 (.head _))
    exact wp_ret (blkR (thenR (ret2 p943.z Try.results11 (rvA ag25 s945 m939 rfl) (rvT s944) ⟨_, rfl, h924, rfl, (q946.mono ((Tr.refl _ _).sub (fun i h => (.tail _ (.tail _ (.tail _ h)))))), cx941.g⟩)))
  replace h := (ifN hb890).symm.trans h
  refine wp_skip (blkN (thenN ?_))
  refine wp_seq ?_
  refine reg ?_
  have s947 := p888.o (p885.o (pg400.o (pg276.o s261 rfl) rfl) rfl) rfl
  refine s1 p888.z (okLdA ag25 s947 (m265.cl) rfl rfl whole) rfl fun a948 p949 s950 => ?_
  have s951 := p949.o (p888.o (p885.o (pg400.o (pg276.o (pg186.o s154 rfl) rfl) rfl) rfl) rfl) rfl
  refine s1 p949.z (okMv s951) rfl fun a952 p953 s954 => ?_
  have s955 := p953.o (p949.o (p888.o (p885.o (pg400.o (pg276.o (pg186.o s156 rfl) rfl) rfl) rfl) rfl) rfl) rfl
  refine s1 p953.z (okFA (o' := 0) fo29_0 s955 rfl) rfl fun a956 p957 s958 => ?_
  refine s1 p957.z (okLd (j := 0) na3 s958 (m179.cl) rfl rfl) rfl fun a959 p960 s961 => ?_
  have s962 := p960.o (p957.o s955 rfl) rfl
  refine s1 p960.z (okFA (o' := 1) fo29_1 s962 rfl) rfl fun a963 p964 s965 => ?_
  refine s1 p964.z (okLd (j := 1) na2 s965 (m179.cl) rfl rfl) rfl fun a966 p967 s968 => ?_
  have s969 := p967.o (p964.o (p960.o (p957.o (p953.o s950 rfl) rfl) rfl) rfl) rfl
  have s970 := p967.o (p964.o (p960.o (p957.o s954 rfl) rfl) rfl) rfl
  have s971 := p967.o (p964.o s961 rfl) rfl
  have q972 := qh0_0.mono (((g6.tA (Nat.le_of_eq e7.symm)).trans (g16.tA (Nat.le_of_eq e17.symm))).trans (g25.tA (Nat.le_of_eq e26.symm)))
  obtain ⟨t973, ht974, h⟩ := Option.bind_eq_some_iff.1 h
  refine lS (oCall p967.z Try.call20 (ag4 s969 s970 s971 s968) (c20 (b22 :: b13 :: b3 :: L) w21 cx28.lt _ _ q972 _ _ _ _ ht974) rfl fun v978 a975 w976 hp979 p977 sp977 => ?_)
  obtain ⟨h980, rfl, q981, g982⟩ := hp979
  have cx983 := cx28.ca g982
  refine s1 p977.z (okExt (vs := [_, _]) sp977 rfl) rfl fun a984 p985 s986 => ?_
  have s987 := p985.o sp977 rfl
  refine s1 p985.z (okExt (vs := [_, _]) s987 rfl) rfl fun a988 p989 s990 => ?_
  have s991 := p989.o (p985.o (p977.o (p967.o (p964.o (p960.o (p957.o (p953.o (p949.o (p888.o (p885.o (pg400.o (pg276.o (pg186.o s157 rfl) rfl) rfl) rfl) rfl) rfl) rfl) rfl) rfl) rfl) rfl) rfl) rfl) rfl
  have s992 := p989.o s986 rfl
  have m993 := m24.g0 g982
  refine lS (oStoW (cs := TThing.C t973.1 h980) p989.z s991 s992 m993 Try.sizeOf25 rfl (TThing.C_one _ q981.one) rfl fun w994 m995 g996 => ?_)
  have cx997 := cx983.st g996 f29
  refine s1 p989.z (okAs s990) rfl fun a998 p999 s1000 => ?_
  refine rN (thenN ?_)
  have s1001 := p999.o s991 rfl
  obtain rfl := Option.some.inj h
  have q1002 := q981.mono (g996.t1 (.head _))
  exact wp_ret (ret2 p999.z Try.results11 (rvA ag25 s1001 m995 rfl) (rvT s1000) ⟨_, rfl, h980, rfl, (q1002.mono ((Tr.refl _ _).sub (fun i h => (.tail _ (.tail _ (.tail _ h)))))), cx997.g⟩)

set_option maxHeartbeats 4000000 in
theorem c12 (L : List Nat) (w : World) (hL : ∀ b ∈ L, b < w.heap.size) (x0 : TThing) (h0_0 : Value) (qh0_0 : RdS KTWaiter L w h0_0 x0.waiters) (r : TThing) (h : tholeref10_Copy x0 = some r) : Calls Try.prog 12 #[.agg (TThing.C x0 h0_0).toArray] w (fun e w' => ∃ v, e = .returned v ∧ ∃ u_0, v = .agg (TThing.C r u_0).toArray ∧ RdS KTWaiter L w' u_0 r.waiters ∧ G [] w w') := by
  refine enterF Try.func12 rfl rfl fun a0 z0 A => ?_
  have s0_0 := A 0 (.agg (TThing.C x0 h0_0).toArray) rfl
  clear A
  have c0 : Cx [] w L w := ⟨G.refl _ _, hL⟩
  unfold tholeref10_Copy at h
  refine wp_seq ?_
  refine reg ?_
  refine lS (oBox (l := TThing.C x0 h0_0) z0 s0_0 rfl rfl fun a1 w2 b3 p4 sp4 m5 g6 e7 => ?_)
  have f9 := c0.nw e7
  have cx8 := c0.al g6 m5
  refine lS (oAlloc zv25 p4.z rfl fun a10 w11 b12 p13 sp13 m14 g15 e16 => ?_)
  have f18 := cx8.nw e16
  have cx17 := cx8.al g15 m14
  refine rN (thenN ?_)
  refine wp_seq ?_
  refine reg ?_
  have m26 := m5.g0 g15
  refine lS (oBS (K := KTWaiter) (L := (b12 :: b3 :: L)) (xs := []) (C := []) p13.z (pb0 ) (bs23_0_ ) rfl rfl (fun _ _ _ h => by simp at h) rfl rfl fun a19 v20 w21 p22 sp22 q23 g24 f25 => ?_)
  have f27 := frN f25
  have nb28 := nbA hL cx17.g.sz (fun _ h => nilO h) f27
  have sf29 := sfA (S := []) cx17.g.sz (fun _ h => nilO h) f27
  have n30 := m26.no (fun h => nilO h) f27
  have n31 := m14.no (fun h => nilO h) f27
  have cx32 := cx17.ap g24 (fun _ h => nilO h) q23
  have s33 := p22.o (p13.o sp4 rfl) rfl
  refine s1 p22.z (okFA (o' := 12) fo25_5 s33 rfl) rfl fun a34 p35 s36 => ?_
  have m37 := m26.g0 g24
  refine s1 p35.z (okLd (j := 12) na23 s36 (m37.cl) rfl rfl) rfl fun a38 p39 s40 => ?_
  have s41 := p39.o (p35.o sp22 rfl) rfl
  obtain ⟨z42, hz43, h⟩ := Option.bind_eq_some_iff.1 h
  have q44 := qh0_0.mono (((g6.tA (Nat.le_of_eq e7.symm)).trans (g15.tA (Nat.le_of_eq e16.symm))).trans (tAp g24 (fun _ h => nilO h) f27))
  have m45 := m14.g0 g24
  refine lS (oApp (K := KTWaiter) (L := (ownB v20 ++ (b12 :: b3 :: L))) Try.underlying23 ti45 rfl p39.z s41 s40 q23 q44.src hz43 (fun _ h => (List.mem_append_left _ h)) rfl fun a46 v47 w48 p49 sp49 q50 g51 f52 => ?_)
  have nb53 := nbA hL cx32.g.sz nb28 f52
  have sf54 := sfA (S := []) cx32.g.sz sf29 f52
  have n55 := m37.no n30 f52
  have n56 := m45.no n31 f52
  have cx57 := cx32.ap g51 sf29 q50
  have s58 := p49.o (p39.o (p35.o s33 rfl) rfl) rfl
  refine s1 p49.z (okFA (o' := 12) fo25_5 s58 rfl) rfl fun a59 p60 s61 => ?_
  have s62 := p60.o sp49 rfl
  have m63 := m37.g g51 n30
  refine lS (oSto (cs := [v47]) (l' := TThing.C ({ x0 with waiters := z42 }) v47) p60.z s61 s62 m63 Try.sizeOf23 q50.cells (oneS q50.one) rfl rfl fun w64 m65 g66 => ?_)
  have cx67 := cx57.st g66 f9
  refine rN (thenN ?_)
  refine wp_seq ?_
  refine reg ?_
  have s68 := p60.o s58 rfl
  refine s1 p60.z (okLdA ag25 s68 (m65.cl) rfl rfl whole) rfl fun a69 p70 s71 => ?_
  have s72 := p70.o (p60.o (p49.o (p39.o (p35.o (p22.o sp13 rfl) rfl) rfl) rfl) rfl) rfl
  have m73 := (m45.g g51 n31).g1 g66 (m5.ne e16).symm
  have q74 := q50.t1 (g66.t1 (List.mem_append_right _ (List.mem_append_right _ (.tail _ (.head _))))) g66 n55
  refine lS (oStoW (cs := TThing.C ({ x0 with waiters := z42 }) v47) p70.z s72 s71 m73 Try.sizeOf25 rfl (TThing.C_one _ q74.one) rfl fun w75 m76 g77 => ?_)
  have cx78 := cx67.st g77 f18
  refine rN (thenN ?_)
  obtain rfl := Option.some.inj h
  have q79 := q74.t1 (g77.t1 (List.mem_append_right _ (List.mem_append_right _ (.head _)))) g77 n56
  exact wp_ret (ret1 p70.z Try.results12 (rvA ag25 s72 m76 rfl) ⟨_, rfl, v47, rfl, (q79.rd (fun i h => (List.mem_append_right _ (List.mem_append_right _ (.tail _ (.tail _ h))))) nb53), cx78.g⟩)

set_option maxHeartbeats 4000000 in
theorem c13 (k : Nat) (L : List Nat) (w : World) (hL : ∀ b ∈ L, b < w.heap.size) (x0 : TThing) (h0_0 : Value) (qh0_0 : RdS KTWaiter L w h0_0 x0.waiters) (x1 : Int) (x2 : TOp) (r : Bool) (h : model_Can k x0 x1 x2 = some r) : Calls Try.prog 13 #[.agg (TThing.C x0 h0_0).toArray, .int .i64 x1, .agg (TOp.C x2).toArray] w (fun e w' => ∃ v, e = .returned v ∧ v = .bool r ∧ G [] w w') := by
  refine enterF Try.func13 rfl rfl fun a0 z0 A => ?_
  have s0_0 := A 0 (.agg (TThing.C x0 h0_0).toArray) rfl
  have s0_1 := A 1 (.int .i64 x1) rfl
  have s0_2 := A 2 (.agg (TOp.C x2).toArray) rfl
  clear A
  have c0 : Cx [] w L w := ⟨G.refl _ _, hL⟩
  unfold model_Can at h
  refine wp_seq ?_
  refine reg ?_
  refine lS (oBox (l := TThing.C x0 h0_0) z0 s0_0 rfl rfl fun a1 w2 b3 p4 sp4 m5 g6 e7 => ?_)
  have f9 := c0.nw e7
  have cx8 := c0.al g6 m5
  have s10 := p4.o s0_2 rfl
  refine lS (oBox (l := TOp.C x2) p4.z s10 rfl rfl fun a11 w12 b13 p14 sp14 m15 g16 e17 => ?_)
  have f19 := cx8.nw e17
  have cx18 := cx8.al g16 m15
  refine s1 p14.z (okAs cst) rfl fun a20 p21 s22 => ?_
  refine rN (thenN ?_)
  refine wp_seq ?_
  refine reg ?_
  refine s1 p21.z (okBd (pb1 cst) (bd29_0 1 _)) rfl fun a23 p24 s25 => ?_
  have m33 := m5.g0 g16
  refine lS (oAlloc zv29 p24.z rfl fun a26 w27 b28 p29 sp29 m30 g31 e32 => ?_)
  have f35 := cx18.nw e32
  have cx34 := cx18.al g31 m30
  have s36 := p29.o s25 rfl
  refine lS (oStoW (cs := TNote.C (⟨1, 0⟩ : TNote)) p29.z sp29 s36 m30 Try.sizeOf29 rfl (TNote.C_one _) rfl fun w37 m38 g39 => ?_)
  have cx40 := cx34.st g39 f35
  refine rN (thenN ?_)
  refine wp_seq ?_
  refine reg ?_
  refine s1 p29.z (okAs cst) rfl fun a41 p42 s43 => ?_
  refine rN (thenN ?_)
  refine wp_seq ?_
  refine wp_seq ?_
  refine reg ?_
  have s44 := p42.o (p29.o (p24.o (p21.o sp14 rfl) rfl) rfl) rfl
  refine s1 p42.z (okFA (o' := 0) fo38_0 s44 rfl) rfl fun a45 p46 s47 => ?_
  have m48 := (m15.g0 g31).g1 g39 (m15.ne e32)
  refine s1 p46.z (okLd (j := 0) na3 s47 (m48.cl) rfl rfl) rfl fun a49 p50 s51 => ?_
  refine rN (thenN ?_)
  refine wp_block ?_
  refine wp_seq ?_
  refine reg ?_
  refine s1 p50.z (okEq s51 cst) rfl fun a52 p53 s54 => ?_
  refine s1 p53.z (okAs s54) rfl fun a55 p56 s57 => ?_
  refine rN (thenN ?_)
  have s58 := p56.o (p53.o (p50.o (p46.o (p42.o (p29.o (p24.o (p21.o (p14.o sp4 rfl) rfl) rfl) rfl) rfl) rfl) rfl) rfl) rfl
  have s59 := p56.o (p53.o (p50.o (p46.o s44 rfl) rfl) rfl) rfl
  have s60 := p56.o (p53.o (p50.o (p46.o (p42.o (p29.o (p24.o s22 rfl) rfl) rfl) rfl) rfl) rfl) rfl
  have s61 := p56.o (p53.o (p50.o (p46.o (p42.o sp29 rfl) rfl) rfl) rfl) rfl
  have s62 := p56.o (p53.o (p50.o (p46.o s43 rfl) rfl) rfl) rfl
  have s63 := p56.o (p53.o s51 rfl) rfl
  have pg64 : Pg _ [3, 5, 6, 7, 8, 11, 12, 13, 14, 15] _ _ := (((((((((((Pg.refl z0).st p4 rfl).st p14 rfl).st p21 rfl).st p24 rfl).st p29 rfl).st p42 rfl).st p46 rfl).st p50 rfl).st p53 rfl).st p56 rfl)
  refine cnd s57 (fun hb65 => ?_) (fun hb65 => ?_)
  · replace h := (ifP hb65).symm.trans h
    refine reg ?_
    refine s1 pg64.z (okAs cst) rfl fun a66 p67 s68 => ?_
    have s69 := p67.o s61 rfl
    refine s1 p67.z (okFA (o' := 1) fo29_1 s69 rfl) rfl fun a70 p71 s72 => ?_
    refine lS (oSto (cs := [.int .i64 1]) (l' := TNote.C (⟨1, 1⟩ : TNote)) p71.z s72 cst m38 Try.sizeOf2 rfl one1 rfl rfl fun w73 m74 g75 => ?_)
    have cx76 := cx40.st g75 f35
    refine rN (blkN (thenN ?_))
    refine wp_seq ?_
    refine reg ?_
    have s77 := p71.o (p67.o s58 rfl) rfl
    have m78 := ((m33.g0 g31).g1 g39 (m33.ne e32)).g1 g75 (m33.ne e32)
    refine s1 p71.z (okLdA ag25 s77 (m78.cl) rfl rfl whole) rfl fun a79 p80 s81 => ?_
    have s82 := p80.o (p71.o (p67.o (pg64.o s0_1 rfl) rfl) rfl) rfl
    refine s1 p80.z (okMv s82) rfl fun a83 p84 s85 => ?_
    have s86 := p84.o (p80.o (p71.o s69 rfl) rfl) rfl
    refine s1 p84.z (okLdA ag29 s86 (m74.cl) rfl rfl whole) rfl fun a87 p88 s89 => ?_
    have s90 := p88.o (p84.o s81 rfl) rfl
    have s91 := p88.o s85 rfl
    have q92 := qh0_0.mono (((((g6.tA (Nat.le_of_eq e7.symm)).trans (g16.tA (Nat.le_of_eq e17.symm))).trans (g31.tA (Nat.le_of_eq e32.symm))).trans (g39.t1 (.head _))).trans (g75.t1 (.head _)))
    obtain ⟨t93, ht94, h⟩ := Option.bind_eq_some_iff.1 h
    refine lS (oCall p88.z Try.call7 (ag3 s90 s91 s89) (c7 k (b28 :: b13 :: b3 :: L) w73 cx76.lt _ _ q92 _ _ _ ht94) rfl fun v98 a95 w96 hp99 p97 sp97 => ?_)
    obtain ⟨h100, rfl, q101, g102⟩ := hp99
    have cx103 := cx76.ca g102
    refine s1 p97.z (okMv sp97) rfl fun a104 p105 s106 => ?_
    refine s1 p105.z (okExt (vs := [_, _]) s106 rfl) rfl fun a107 p108 s109 => ?_
    have s110 := p108.o s106 rfl
    refine s1 p108.z (okExt (vs := [_, _]) s110 rfl) rfl fun a111 p112 s113 => ?_
    have m121 := m78.g0 g102
    have m122 := (m48.g1 g75 (m15.ne e32)).g0 g102
    have m123 := m74.g0 g102
    refine lS (oAlloc zv25 p112.z rfl fun a114 w115 b116 p117 sp117 m118 g119 e120 => ?_)
    have f125 := cx103.nw e120
    have cx124 := cx103.al g119 m118
    have s126 := p117.o (p112.o s109 rfl) rfl
    have q127 := q101.mono (g119.tA (Nat.le_of_eq e120.symm))
    refine lS (oStoW (cs := TThing.C t93.1 h100) p117.z sp117 s126 m118 Try.sizeOf25 rfl (TThing.C_one _ q127.one) rfl fun w128 m129 g130 => ?_)
    have cx131 := cx124.st g130 f125
    have s132 := p117.o s113 rfl
    refine s1 p117.z (okAs s132) rfl fun a133 p134 s135 => ?_
    refine rN (thenN ?_)
    refine wp_seq ?_
    refine reg ?_
    refine s1 p134.z (okMv s135) rfl fun a136 p137 s138 => ?_
    refine s1 p137.z (okMv s138) rfl fun a139 p140 s141 => ?_
    refine cutP 5 (fun a' => Pg Try.f13.ntmps [63, 64, 65, 66, 67] a139 a' ∧ a'.eval (.tmp 67) = .bool (t93.2 && (x0.kind == 1))) ?_ ?_
    · rcases bf t93.2 with hb142 | hb142
      · have s143 := bv s141 hb142
        refine s1k p140.z rfl (yd p140.z rfl rfl s143) rfl fun a144 p145 s146 => ?_
        have s147 := p145.o s143 rfl
        refine s1k p145.z rfl (yd p145.z rfl rfl s147) rfl fun a148 p149 s150 => ?_
        have s151 := p149.o s147 rfl
        refine s1k p149.z rfl (yd p149.z rfl rfl s151) rfl fun a152 p153 s154 => ?_
        have s155 := p153.o s151 rfl
        refine s1k p153.z rfl (yd p153.z rfl rfl s155) rfl fun a156 p157 s158 => ?_
        have s159 := p157.o s155 rfl
        refine s1 p157.z (okPickF s159 cst) rfl fun a160 p161 s162 => ?_
        exact rN ⟨rfl, rfl, ((((((Pg.refl p140.z).st p145 rfl).st p149 rfl).st p153 rfl).st p157 rfl).st p161 rfl), (andF hb142 s162)⟩
      · have s163 := bv s141 hb142
        have s164 := p140.o (p137.o (p134.o (p117.o (p112.o (p108.o (p105.o (p97.o (p88.o (p84.o (p80.o s77 rfl) rfl) rfl) rfl) rfl) rfl) rfl) rfl) rfl) rfl) rfl
        refine s1g p140.z (okFA (o' := 0) fo25_0 s164 rfl) rfl (yd p140.z rfl rfl s163) fun a165 p166 s167 => ?_
        have s168 := p166.o s163 rfl
        have m169 := (m121.g0 g119).g1 g130 (m121.ne e120)
        refine s1g p166.z (okLd (j := 0) na3 s167 (m169.cl) rfl rfl) rfl (yd p166.z rfl rfl s168) fun a170 p171 s172 => ?_
        have s173 := p171.o s168 rfl
        have s174 := p171.o (p166.o (p140.o (p137.o (p134.o (p117.o (p112.o (p108.o (p105.o (p97.o (p88.o (p84.o (p80.o (p71.o s68 rfl) rfl) rfl) rfl) rfl) rfl) rfl) rfl) rfl) rfl) rfl) rfl) rfl) rfl
        refine s1g p171.z (okMv s174) rfl (yd p171.z rfl rfl s173) fun a175 p176 s177 => ?_
        have s178 := p176.o s173 rfl
        have s179 := p176.o s172 rfl
        refine s1g p176.z (okEq s179 s177) rfl (yd p176.z rfl rfl s178) fun a180 p181 s182 => ?_
        have s183 := p181.o s178 rfl
        refine s1 p181.z (okPickT s183 s182) rfl fun a184 p185 s186 => ?_
        exact rN ⟨rfl, rfl, ((((((Pg.refl p140.z).st p166 rfl).st p171 rfl).st p176 rfl).st p181 rfl).st p185 rfl), (andT hb142 s186)⟩
    rintro a187 ⟨pg188, s189⟩
    refine s1 pg188.z (okAs s189) rfl fun a190 p191 s192 => ?_
    refine rN (thenN ?_)
    obtain rfl := Option.some.inj h
    exact wp_ret (ret1 p191.z Try.results13 (rvT s192) ⟨_, rfl, rfl, cx131.g⟩)
  replace h := (ifN hb65).symm.trans h
  refine wp_seq ?_
  refine reg ?_
  refine s1 pg64.z (okEq s63 cst) rfl fun a193 p194 s195 => ?_
  refine s1 p194.z (okAs s195) rfl fun a196 p197 s198 => ?_
  refine rN (thenN ?_)
  refine cnd s198 (fun hb199 => ?_) (fun hb199 => ?_)
  · replace h := (ifP hb199).symm.trans h
    refine regT 4 mixed (by kernel_rfl) ?_
    have g200 := G.drew w37
    have cx201 := cx40.ca g200
    have s202 := p197.o (p194.o s59 rfl) rfl
    refine t1 p197.z (okFA (o' := 2) fo38_2 s202 rfl) rfl fun a203 p204 s205 => ?_
    have m206 := m48.g0 g200
    refine t1 p204.z (okLd (j := 2) na3 s205 (m206.cl) rfl rfl) rfl fun a207 p208 s209 => ?_
    refine t1 p208.z (okAs cst) rfl fun a210 p211 s212 => ?_
    have s213 := p211.o (p208.o (p204.o (p197.o (p194.o s61 rfl) rfl) rfl) rfl) rfl
    refine t1 p211.z (okFA (o' := 1) fo29_1 s213 rfl) rfl fun a214 p215 s216 => ?_
    refine tN ?_
    have s217 := p215.o (p211.o s209 rfl) rfl
    have m218 := m38.g0 g200
    refine lS (oSto (cs := [.int .i64 x2.n]) (l' := TNote.C (⟨1, x2.n⟩ : TNote)) p215.z s216 s217 m218 Try.sizeOf2 rfl one1 rfl rfl fun w219 m220 g221 => ?_)
    have cx222 := cx201.st g221 f35
    refine rN (blkN (thenN ?_))
    refine wp_seq ?_
    refine reg ?_
    have s223 := p215.o (p211.o (p208.o (p204.o (p197.o (p194.o s58 rfl) rfl) rfl) rfl) rfl) rfl
    have m224 := (((m33.g0 g31).g1 g39 (m33.ne e32)).g0 g200).g1 g221 (m33.ne e32)
    refine s1 p215.z (okLdA ag25 s223 (m224.cl) rfl rfl whole) rfl fun a225 p226 s227 => ?_
    have s228 := p226.o (p215.o (p211.o (p208.o (p204.o (p197.o (p194.o (pg64.o s0_1 rfl) rfl) rfl) rfl) rfl) rfl) rfl) rfl
    refine s1 p226.z (okMv s228) rfl fun a229 p230 s231 => ?_
    have s232 := p230.o (p226.o (p215.o s213 rfl) rfl) rfl
    refine s1 p230.z (okLdA ag29 s232 (m220.cl) rfl rfl whole) rfl fun a233 p234 s235 => ?_
    have s236 := p234.o (p230.o s227 rfl) rfl
    have s237 := p234.o s231 rfl
    have q238 := qh0_0.mono ((((((g6.tA (Nat.le_of_eq e7.symm)).trans (g16.tA (Nat.le_of_eq e17.symm))).trans (g31.tA (Nat.le_of_eq e32.symm))).trans (g39.t1 (.head _))).trans g200.t0).trans (g221.t1 (.head _)))
    obtain ⟨t239, ht240, h⟩ := Option.bind_eq_some_iff.1 h
    refine lS (oCall p234.z Try.call7 (ag3 s236 s237 s235) (c7 k (b28 :: b13 :: b3 :: L) w219 cx222.lt _ _ q238 _ _ _ ht240) rfl fun v244 a241 w242 hp245 p243 sp243 => ?_)
    obtain ⟨h246, rfl, q247, g248⟩ := hp245
    have cx249 := cx222.ca g248
    refine s1 p243.z (okMv sp243) rfl fun a250 p251 s252 => ?_
    refine s1 p251.z (okExt (vs := [_, _]) s252 rfl) rfl fun a253 p254 s255 => ?_
    have s256 := p254.o s252 rfl
    refine s1 p254.z (okExt (vs := [_, _]) s256 rfl) rfl fun a257 p258 s259 => ?_
    have m267 := m224.g0 g248
    have m268 := (m206.g1 g221 (m15.ne e32)).g0 g248
    have m269 := m220.g0 g248
    refine lS (oAlloc zv25 p258.z rfl fun a260 w261 b262 p263 sp263 m264 g265 e266 => ?_)
    have f271 := cx249.nw e266
    have cx270 := cx249.al g265 m264
    have s272 := p263.o (p258.o s255 rfl) rfl
    have q273 := q247.mono (g265.tA (Nat.le_of_eq e266.symm))
    refine lS (oStoW (cs := TThing.C t239.1 h246) p263.z sp263 s272 m264 Try.sizeOf25 rfl (TThing.C_one _ q273.one) rfl fun w274 m275 g276 => ?_)
    have cx277 := cx270.st g276 f271
    have s278 := p263.o s259 rfl
    refine s1 p263.z (okAs s278) rfl fun a279 p280 s281 => ?_
    refine rN (thenN ?_)
    refine wp_seq ?_
    refine reg ?_
    refine s1 p280.z (okMv s281) rfl fun a282 p283 s284 => ?_
    refine s1 p283.z (okMv s284) rfl fun a285 p286 s287 => ?_
    refine cutP 5 (fun a' => Pg Try.f13.ntmps [63, 64, 65, 66, 67] a285 a' ∧ a'.eval (.tmp 67) = .bool (t239.2 && (x0.kind == 2))) ?_ ?_
    · rcases bf t239.2 with hb288 | hb288
      · have s289 := bv s287 hb288
        refine s1k p286.z rfl (yd p286.z rfl rfl s289) rfl fun a290 p291 s292 => ?_
        have s293 := p291.o s289 rfl
        refine s1k p291.z rfl (yd p291.z rfl rfl s293) rfl fun a294 p295 s296 => ?_
        have s297 := p295.o s293 rfl
        refine s1k p295.z rfl (yd p295.z rfl rfl s297) rfl fun a298 p299 s300 => ?_
        have s301 := p299.o s297 rfl
        refine s1k p299.z rfl (yd p299.z rfl rfl s301) rfl fun a302 p303 s304 => ?_
        have s305 := p303.o s301 rfl
        refine s1 p303.z (okPickF s305 cst) rfl fun a306 p307 s308 => ?_
        exact rN ⟨rfl, rfl, ((((((Pg.refl p286.z).st p291 rfl).st p295 rfl).st p299 rfl).st p303 rfl).st p307 rfl), (andF hb288 s308)⟩
      · have s309 := bv s287 hb288
        have s310 := p286.o (p283.o (p280.o (p263.o (p258.o (p254.o (p251.o (p243.o (p234.o (p230.o (p226.o s223 rfl) rfl) rfl) rfl) rfl) rfl) rfl) rfl) rfl) rfl) rfl
        refine s1g p286.z (okFA (o' := 0) fo25_0 s310 rfl) rfl (yd p286.z rfl rfl s309) fun a311 p312 s313 => ?_
        have s314 := p312.o s309 rfl
        have m315 := (m267.g0 g265).g1 g276 (m267.ne e266)
        refine s1g p312.z (okLd (j := 0) na3 s313 (m315.cl) rfl rfl) rfl (yd p312.z rfl rfl s314) fun a316 p317 s318 => ?_
        have s319 := p317.o s314 rfl
        have s320 := p317.o (p312.o (p286.o (p283.o (p280.o (p263.o (p258.o (p254.o (p251.o (p243.o (p234.o (p230.o (p226.o (p215.o s212 rfl) rfl) rfl) rfl) rfl) rfl) rfl) rfl) rfl) rfl) rfl) rfl) rfl) rfl
        refine s1g p317.z (okMv s320) rfl (yd p317.z rfl rfl s319) fun a321 p322 s323 => ?_
        have s324 := p322.o s319 rfl
        have s325 := p322.o s318 rfl
        refine s1g p322.z (okEq s325 s323) rfl (yd p322.z rfl rfl s324) fun a326 p327 s328 => ?_
        have s329 := p327.o s324 rfl
        refine s1 p327.z (okPickT s329 s328) rfl fun a330 p331 s332 => ?_
        exact rN ⟨rfl, rfl, ((((((Pg.refl p286.z).st p312 rfl).st p317 rfl).st p322 rfl).st p327 rfl).st p331 rfl), (andT hb288 s332)⟩
    rintro a333 ⟨pg334, s335⟩
    refine s1 pg334.z (okAs s335) rfl fun a336 p337 s338 => ?_
    refine rN (thenN ?_)
    obtain rfl := Option.some.inj h
    exact wp_ret (ret1 p337.z Try.results13 (rvT s338) ⟨_, rfl, rfl, cx277.g⟩)
  replace h := (ifN hb199).symm.trans h
  refine wp_seq ?_
  refine reg ?_
  have s339 := p197.o (p194.o s63 rfl) rfl
  refine s1 p197.z (okEq s339 cst) rfl fun a340 p341 s342 => ?_
  refine s1 p341.z (okAs s342) rfl fun a343 p344 s345 => ?_
  refine rN (thenN ?_)
  have s346 := p344.o (p341.o s339 rfl) rfl
  have pg347 : Pg _ [17, 18, 22, 23] _ _ := (((((Pg.refl pg64.z).st p194 rfl).st p197 rfl).st p341 rfl).st p344 rfl)
  refine cnd s345 (fun hb348 => ?_) (fun hb348 => ?_)
  · replace h := (ifP hb348).symm.trans h
    refine reg ?_
    refine s1 pg347.z (okAs cst) rfl fun a349 p350 s351 => ?_
    refine rN (blkN (thenN ?_))
    refine wp_seq ?_
    refine reg ?_
    have s352 := p350.o (pg347.o s58 rfl) rfl
    have m353 := (m33.g0 g31).g1 g39 (m33.ne e32)
    refine s1 p350.z (okLdA ag25 s352 (m353.cl) rfl rfl whole) rfl fun a354 p355 s356 => ?_
    have s357 := p355.o (p350.o (pg347.o (pg64.o s0_1 rfl) rfl) rfl) rfl
    refine s1 p355.z (okMv s357) rfl fun a358 p359 s360 => ?_
    have s361 := p359.o (p355.o (p350.o (pg347.o s61 rfl) rfl) rfl) rfl
    refine s1 p359.z (okLdA ag29 s361 (m38.cl) rfl rfl whole) rfl fun a362 p363 s364 => ?_
    have s365 := p363.o (p359.o s356 rfl) rfl
    have s366 := p363.o s360 rfl
    have q367 := qh0_0.mono ((((g6.tA (Nat.le_of_eq e7.symm)).trans (g16.tA (Nat.le_of_eq e17.symm))).trans (g31.tA (Nat.le_of_eq e32.symm))).trans (g39.t1 (.head _)))
    obtain ⟨t368, ht369, h⟩ := Option.bind_eq_some_iff.1 h
    refine lS (oCall p363.z Try.call7 (ag3 s365 s366 s364) (c7 k (b28 :: b13 :: b3 :: L) w37 cx40.lt _ _ q367 _ _ _ ht369) rfl fun v373 a370 w371 hp374 p372 sp372 => ?_)
    obtain ⟨h375, rfl, q376, g377⟩ := hp374
    have cx378 := cx40.ca g377
    refine s1 p372.z (okMv sp372) rfl fun a379 p380 s381 => ?_
    refine s1 p380.z (okExt (vs := [_, _]) s381 rfl) rfl fun a382 p383 s384 => ?_
    have s385 := p383.o s381 rfl
    refine s1 p383.z (okExt (vs := [_, _]) s385 rfl) rfl fun a386 p387 s388 => ?_
    have m396 := m353.g0 g377
    have m397 := m48.g0 g377
    have m398 := m38.g0 g377
    refine lS (oAlloc zv25 p387.z rfl fun a389 w390 b391 p392 sp392 m393 g394 e395 => ?_)
    have f400 := cx378.nw e395
    have cx399 := cx378.al g394 m393
    have s401 := p392.o (p387.o s384 rfl) rfl
    have q402 := q376.mono (g394.tA (Nat.le_of_eq e395.symm))
    refine lS (oStoW (cs := TThing.C t368.1 h375) p392.z sp392 s401 m393 Try.sizeOf25 rfl (TThing.C_one _ q402.one) rfl fun w403 m404 g405 => ?_)
    have cx406 := cx399.st g405 f400
    have s407 := p392.o s388 rfl
    refine s1 p392.z (okAs s407) rfl fun a408 p409 s410 => ?_
    refine rN (thenN ?_)
    refine wp_seq ?_
    refine reg ?_
    refine s1 p409.z (okMv s410) rfl fun a411 p412 s413 => ?_
    refine s1 p412.z (okMv s413) rfl fun a414 p415 s416 => ?_
    refine cutP 5 (fun a' => Pg Try.f13.ntmps [63, 64, 65, 66, 67] a414 a' ∧ a'.eval (.tmp 67) = .bool (t368.2 && (x0.kind == 3))) ?_ ?_
    · rcases bf t368.2 with hb417 | hb417
      · have s418 := bv s416 hb417
        refine s1k p415.z rfl (yd p415.z rfl rfl s418) rfl fun a419 p420 s421 => ?_
        have s422 := p420.o s418 rfl
        refine s1k p420.z rfl (yd p420.z rfl rfl s422) rfl fun a423 p424 s425 => ?_
        have s426 := p424.o s422 rfl
        refine s1k p424.z rfl (yd p424.z rfl rfl s426) rfl fun a427 p428 s429 => ?_
        have s430 := p428.o s426 rfl
        refine s1k p428.z rfl (yd p428.z rfl rfl s430) rfl fun a431 p432 s433 => ?_
        have s434 := p432.o s430 rfl
        refine s1 p432.z (okPickF s434 cst) rfl fun a435 p436 s437 => ?_
        exact rN ⟨rfl, rfl, ((((((Pg.refl p415.z).st p420 rfl).st p424 rfl).st p428 rfl).st p432 rfl).st p436 rfl), (andF hb417 s437)⟩
      · have s438 := bv s416 hb417
        have s439 := p415.o (p412.o (p409.o (p392.o (p387.o (p383.o (p380.o (p372.o (p363.o (p359.o (p355.o s352 rfl) rfl) rfl) rfl) rfl) rfl) rfl) rfl) rfl) rfl) rfl
        refine s1g p415.z (okFA (o' := 0) fo25_0 s439 rfl) rfl (yd p415.z rfl rfl s438) fun a440 p441 s442 => ?_
        have s443 := p441.o s438 rfl
        have m444 := (m396.g0 g394).g1 g405 (m396.ne e395)
        refine s1g p441.z (okLd (j := 0) na3 s442 (m444.cl) rfl rfl) rfl (yd p441.z rfl rfl s443) fun a445 p446 s447 => ?_
        have s448 := p446.o s443 rfl
        have s449 := p446.o (p441.o (p415.o (p412.o (p409.o (p392.o (p387.o (p383.o (p380.o (p372.o (p363.o (p359.o (p355.o s351 rfl) rfl) rfl) rfl) rfl) rfl) rfl) rfl) rfl) rfl) rfl) rfl) rfl
        refine s1g p446.z (okMv s449) rfl (yd p446.z rfl rfl s448) fun a450 p451 s452 => ?_
        have s453 := p451.o s448 rfl
        have s454 := p451.o s447 rfl
        refine s1g p451.z (okEq s454 s452) rfl (yd p451.z rfl rfl s453) fun a455 p456 s457 => ?_
        have s458 := p456.o s453 rfl
        refine s1 p456.z (okPickT s458 s457) rfl fun a459 p460 s461 => ?_
        exact rN ⟨rfl, rfl, ((((((Pg.refl p415.z).st p441 rfl).st p446 rfl).st p451 rfl).st p456 rfl).st p460 rfl), (andT hb417 s461)⟩
    rintro a462 ⟨pg463, s464⟩
    refine s1 pg463.z (okAs s464) rfl fun a465 p466 s467 => ?_
    refine rN (thenN ?_)
    obtain rfl := Option.some.inj h
    exact wp_ret (ret1 p466.z Try.results13 (rvT s467) ⟨_, rfl, rfl, cx406.g⟩)
  replace h := (ifN hb348).symm.trans h
  refine wp_seq ?_
  refine reg ?_
  refine s1 pg347.z (okEq s346 cst) rfl fun a468 p469 s470 => ?_
  refine s1 p469.z (okAs s470) rfl fun a471 p472 s473 => ?_
  refine rN (thenN ?_)
  refine cnd s473 (fun hb474 => ?_) (fun hb474 => ?_)
  · replace h := (ifP hb474).symm.trans h
    refine reg ?_
    refine s1 p472.z (okAs cst) rfl fun a475 p476 s477 => ?_
    have s478 := p476.o (p472.o (p469.o (pg347.o s61 rfl) rfl) rfl) rfl
    refine s1 p476.z (okFA (o' := 1) fo29_1 s478 rfl) rfl fun a479 p480 s481 => ?_
    refine lS (oSto (cs := [.int .i64 1]) (l' := TNote.C (⟨1, 1⟩ : TNote)) p480.z s481 cst m38 Try.sizeOf2 rfl one1 rfl rfl fun w482 m483 g484 => ?_)
    have cx485 := cx40.st g484 f35
    refine rN (blkN (thenN ?_))
    refine wp_seq ?_
    refine reg ?_
    have s486 := p480.o (p476.o (p472.o (p469.o (pg347.o s58 rfl) rfl) rfl) rfl) rfl
    have m487 := ((m33.g0 g31).g1 g39 (m33.ne e32)).g1 g484 (m33.ne e32)
    refine s1 p480.z (okLdA ag25 s486 (m487.cl) rfl rfl whole) rfl fun a488 p489 s490 => ?_
    have s491 := p489.o (p480.o (p476.o (p472.o (p469.o (pg347.o (pg64.o s0_1 rfl) rfl) rfl) rfl) rfl) rfl) rfl
    refine s1 p489.z (okMv s491) rfl fun a492 p493 s494 => ?_
    have s495 := p493.o (p489.o (p480.o s478 rfl) rfl) rfl
    refine s1 p493.z (okLdA ag29 s495 (m483.cl) rfl rfl whole) rfl fun a496 p497 s498 => ?_
    have s499 := p497.o (p493.o s490 rfl) rfl
    have s500 := p497.o s494 rfl
    have q501 := qh0_0.mono (((((g6.tA (Nat.le_of_eq e7.symm)).trans (g16.tA (Nat.le_of_eq e17.symm))).trans (g31.tA (Nat.le_of_eq e32.symm))).trans (g39.t1 (.head _))).trans (g484.t1 (.head _)))
    obtain ⟨t502, ht503, h⟩ := Option.bind_eq_some_iff.1 h
    refine lS (oCall p497.z Try.call7 (ag3 s499 s500 s498) (c7 k (b28 :: b13 :: b3 :: L) w482 cx485.lt _ _ q501 _ _ _ ht503) rfl fun v507 a504 w505 hp508 p506 sp506 => ?_)
    obtain ⟨h509, rfl, q510, g511⟩ := hp508
    have cx512 := cx485.ca g511
    refine s1 p506.z (okMv sp506) rfl fun a513 p514 s515 => ?_
    refine s1 p514.z (okExt (vs := [_, _]) s515 rfl) rfl fun a516 p517 s518 => ?_
    have s519 := p517.o s515 rfl
    refine s1 p517.z (okExt (vs := [_, _]) s519 rfl) rfl fun a520 p521 s522 => ?_
    have m530 := m487.g0 g511
    have m531 := (m48.g1 g484 (m15.ne e32)).g0 g511
    have m532 := m483.g0 g511
    refine lS (oAlloc zv25 p521.z rfl fun a523 w524 b525 p526 sp526 m527 g528 e529 => ?_)
    have f534 := cx512.nw e529
    have cx533 := cx512.al g528 m527
    have s535 := p526.o (p521.o s518 rfl) rfl
    have q536 := q510.mono (g528.tA (Nat.le_of_eq e529.symm))
    refine lS (oStoW (cs := TThing.C t502.1 h509) p526.z sp526 s535 m527 Try.sizeOf25 rfl (TThing.C_one _ q536.one) rfl fun w537 m538 g539 => ?_)
    have cx540 := cx533.st g539 f534
    have s541 := p526.o s522 rfl
    refine s1 p526.z (okAs s541) rfl fun a542 p543 s544 => ?_
    refine rN (thenN ?_)
    refine wp_seq ?_
    refine reg ?_
    refine s1 p543.z (okMv s544) rfl fun a545 p546 s547 => ?_
    refine s1 p546.z (okMv s547) rfl fun a548 p549 s550 => ?_
    refine cutP 5 (fun a' => Pg Try.f13.ntmps [63, 64, 65, 66, 67] a548 a' ∧ a'.eval (.tmp 67) = .bool (t502.2 && (x0.kind == 4))) ?_ ?_
    · rcases bf t502.2 with hb551 | hb551
      · have s552 := bv s550 hb551
        refine s1k p549.z rfl (yd p549.z rfl rfl s552) rfl fun a553 p554 s555 => ?_
        have s556 := p554.o s552 rfl
        refine s1k p554.z rfl (yd p554.z rfl rfl s556) rfl fun a557 p558 s559 => ?_
        have s560 := p558.o s556 rfl
        refine s1k p558.z rfl (yd p558.z rfl rfl s560) rfl fun a561 p562 s563 => ?_
        have s564 := p562.o s560 rfl
        refine s1k p562.z rfl (yd p562.z rfl rfl s564) rfl fun a565 p566 s567 => ?_
        have s568 := p566.o s564 rfl
        refine s1 p566.z (okPickF s568 cst) rfl fun a569 p570 s571 => ?_
        exact rN ⟨rfl, rfl, ((((((Pg.refl p549.z).st p554 rfl).st p558 rfl).st p562 rfl).st p566 rfl).st p570 rfl), (andF hb551 s571)⟩
      · have s572 := bv s550 hb551
        have s573 := p549.o (p546.o (p543.o (p526.o (p521.o (p517.o (p514.o (p506.o (p497.o (p493.o (p489.o s486 rfl) rfl) rfl) rfl) rfl) rfl) rfl) rfl) rfl) rfl) rfl
        refine s1g p549.z (okFA (o' := 0) fo25_0 s573 rfl) rfl (yd p549.z rfl rfl s572) fun a574 p575 s576 => ?_
        have s577 := p575.o s572 rfl
        have m578 := (m530.g0 g528).g1 g539 (m530.ne e529)
        refine s1g p575.z (okLd (j := 0) na3 s576 (m578.cl) rfl rfl) rfl (yd p575.z rfl rfl s577) fun a579 p580 s581 => ?_
        have s582 := p580.o s577 rfl
        have s583 := p580.o (p575.o (p549.o (p546.o (p543.o (p526.o (p521.o (p517.o (p514.o (p506.o (p497.o (p493.o (p489.o (p480.o s477 rfl) rfl) rfl) rfl) rfl) rfl) rfl) rfl) rfl) rfl) rfl) rfl) rfl) rfl
        refine s1g p580.z (okMv s583) rfl (yd p580.z rfl rfl s582) fun a584 p585 s586 => ?_
        have s587 := p585.o s582 rfl
        have s588 := p585.o s581 rfl
        refine s1g p585.z (okEq s588 s586) rfl (yd p585.z rfl rfl s587) fun a589 p590 s591 => ?_
        have s592 := p590.o s587 rfl
        refine s1 p590.z (okPickT s592 s591) rfl fun a593 p594 s595 => ?_
        exact rN ⟨rfl, rfl, ((((((Pg.refl p549.z).st p575 rfl).st p580 rfl).st p585 rfl).st p590 rfl).st p594 rfl), (andT hb551 s595)⟩
    rintro a596 ⟨pg597, s598⟩
    refine s1 pg597.z (okAs s598) rfl fun a599 p600 s601 => ?_
    refine rN (thenN ?_)
    obtain rfl := Option.some.inj h
    exact wp_ret (ret1 p600.z Try.results13 (rvT s601) ⟨_, rfl, rfl, cx540.g⟩)
  replace h := (ifN hb474).symm.trans h
  refine wp_seq ?_
  refine reg ?_
  have s602 := p472.o (p469.o s346 rfl) rfl
  refine s1 p472.z (okEq s602 cst) rfl fun a603 p604 s605 => ?_
  refine s1 p604.z (okAs s605) rfl fun a606 p607 s608 => ?_
  refine rN (thenN ?_)
  have s609 := p607.o (p604.o s602 rfl) rfl
  have pg610 : Pg _ [24, 25, 27, 28] _ _ := (((((Pg.refl pg347.z).st p469 rfl).st p472 rfl).st p604 rfl).st p607 rfl)
  refine cnd s608 (fun hb611 => ?_) (fun hb611 => ?_)
  · replace h := (ifP hb611).symm.trans h
    refine reg ?_
    refine s1 pg610.z (okAs cst) rfl fun a612 p613 s614 => ?_
    have s615 := p613.o (pg610.o (pg347.o s61 rfl) rfl) rfl
    refine s1 p613.z (okFA (o' := 0) fo29_0 s615 rfl) rfl fun a616 p617 s618 => ?_
    refine lS (oSto (cs := [.int .i64 2]) (l' := TNote.C (⟨2, 0⟩ : TNote)) p617.z s618 cst m38 Try.sizeOf3 rfl one1 rfl rfl fun w619 m620 g621 => ?_)
    have cx622 := cx40.st g621 f35
    refine rN (blkN (thenN ?_))
    refine wp_seq ?_
    refine reg ?_
    have s623 := p617.o (p613.o (pg610.o (pg347.o s58 rfl) rfl) rfl) rfl
    have m624 := ((m33.g0 g31).g1 g39 (m33.ne e32)).g1 g621 (m33.ne e32)
    refine s1 p617.z (okLdA ag25 s623 (m624.cl) rfl rfl whole) rfl fun a625 p626 s627 => ?_
    have s628 := p626.o (p617.o (p613.o (pg610.o (pg347.o (pg64.o s0_1 rfl) rfl) rfl) rfl) rfl) rfl
    refine s1 p626.z (okMv s628) rfl fun a629 p630 s631 => ?_
    have s632 := p630.o (p626.o (p617.o s615 rfl) rfl) rfl
    refine s1 p630.z (okLdA ag29 s632 (m620.cl) rfl rfl whole) rfl fun a633 p634 s635 => ?_
    have s636 := p634.o (p630.o s627 rfl) rfl
    have s637 := p634.o s631 rfl
    have q638 := qh0_0.mono (((((g6.tA (Nat.le_of_eq e7.symm)).trans (g16.tA (Nat.le_of_eq e17.symm))).trans (g31.tA (Nat.le_of_eq e32.symm))).trans (g39.t1 (.head _))).trans (g621.t1 (.head _)))
    obtain ⟨t639, ht640, h⟩ := Option.bind_eq_some_iff.1 h
    refine lS (oCall p634.z Try.call7 (ag3 s636 s637 s635) (c7 k (b28 :: b13 :: b3 :: L) w619 cx622.lt _ _ q638 _ _ _ ht640) rfl fun v644 a641 w642 hp645 p643 sp643 => ?_)
    obtain ⟨h646, rfl, q647, g648⟩ := hp645
    have cx649 := cx622.ca g648
    refine s1 p643.z (okMv sp643) rfl fun a650 p651 s652 => ?_
    refine s1 p651.z (okExt (vs := [_, _]) s652 rfl) rfl fun a653 p654 s655 => ?_
    have s656 := p654.o s652 rfl
    refine s1 p654.z (okExt (vs := [_, _]) s656 rfl) rfl fun a657 p658 s659 => ?_
    have m667 := m624.g0 g648
    have m668 := (m48.g1 g621 (m15.ne e32)).g0 g648
    have m669 := m620.g0 g648
    refine lS (oAlloc zv25 p658.z rfl fun a660 w661 b662 p663 sp663 m664 g665 e666 => ?_)
    have f671 := cx649.nw e666
    have cx670 := cx649.al g665 m664
    have s672 := p663.o (p658.o s655 rfl) rfl
    have q673 := q647.mono (g665.tA (Nat.le_of_eq e666.symm))
    refine lS (oStoW (cs := TThing.C t639.1 h646) p663.z sp663 s672 m664 Try.sizeOf25 rfl (TThing.C_one _ q673.one) rfl fun w674 m675 g676 => ?_)
    have cx677 := cx670.st g676 f671
    have s678 := p663.o s659 rfl
    refine s1 p663.z (okAs s678) rfl fun a679 p680 s681 => ?_
    refine rN (thenN ?_)
    refine wp_seq ?_
    refine reg ?_
    refine s1 p680.z (okMv s681) rfl fun a682 p683 s684 => ?_
    refine s1 p683.z (okMv s684) rfl fun a685 p686 s687 => ?_
    refine cutP 5 (fun a' => Pg Try.f13.ntmps [63, 64, 65, 66, 67] a685 a' ∧ a'.eval (.tmp 67) = .bool (t639.2 && (x0.kind == 4))) ?_ ?_
    · rcases bf t639.2 with hb688 | hb688
      · have s689 := bv s687 hb688
        refine s1k p686.z rfl (yd p686.z rfl rfl s689) rfl fun a690 p691 s692 => ?_
        have s693 := p691.o s689 rfl
        refine s1k p691.z rfl (yd p691.z rfl rfl s693) rfl fun a694 p695 s696 => ?_
        have s697 := p695.o s693 rfl
        refine s1k p695.z rfl (yd p695.z rfl rfl s697) rfl fun a698 p699 s700 => ?_
        have s701 := p699.o s697 rfl
        refine s1k p699.z rfl (yd p699.z rfl rfl s701) rfl fun a702 p703 s704 => ?_
        have s705 := p703.o s701 rfl
        refine s1 p703.z (okPickF s705 cst) rfl fun a706 p707 s708 => ?_
        exact rN ⟨rfl, rfl, ((((((Pg.refl p686.z).st p691 rfl).st p695 rfl).st p699 rfl).st p703 rfl).st p707 rfl), (andF hb688 s708)⟩
      · have s709 := bv s687 hb688
        have s710 := p686.o (p683.o (p680.o (p663.o (p658.o (p654.o (p651.o (p643.o (p634.o (p630.o (p626.o s623 rfl) rfl) rfl) rfl) rfl) rfl) rfl) rfl) rfl) rfl) rfl
        refine s1g p686.z (okFA (o' := 0) fo25_0 s710 rfl) rfl (yd p686.z rfl rfl s709) fun a711 p712 s713 => ?_
        have s714 := p712.o s709 rfl
        have m715 := (m667.g0 g665).g1 g676 (m667.ne e666)
        refine s1g p712.z (okLd (j := 0) na3 s713 (m715.cl) rfl rfl) rfl (yd p712.z rfl rfl s714) fun a716 p717 s718 => ?_
        have s719 := p717.o s714 rfl
        have s720 := p717.o (p712.o (p686.o (p683.o (p680.o (p663.o (p658.o (p654.o (p651.o (p643.o (p634.o (p630.o (p626.o (p617.o s614 rfl) rfl) rfl) rfl) rfl) rfl) rfl) rfl) rfl) rfl) rfl) rfl) rfl) rfl
        refine s1g p717.z (okMv s720) rfl (yd p717.z rfl rfl s719) fun a721 p722 s723 => ?_
        have s724 := p722.o s719 rfl
        have s725 := p722.o s718 rfl
        refine s1g p722.z (okEq s725 s723) rfl (yd p722.z rfl rfl s724) fun a726 p727 s728 => ?_
        have s729 := p727.o s724 rfl
        refine s1 p727.z (okPickT s729 s728) rfl fun a730 p731 s732 => ?_
        exact rN ⟨rfl, rfl, ((((((Pg.refl p686.z).st p712 rfl).st p717 rfl).st p722 rfl).st p727 rfl).st p731 rfl), (andT hb688 s732)⟩
    rintro a733 ⟨pg734, s735⟩
    refine s1 pg734.z (okAs s735) rfl fun a736 p737 s738 => ?_
    refine rN (thenN ?_)
    obtain rfl := Option.some.inj h
    exact wp_ret (ret1 p737.z Try.results13 (rvT s738) ⟨_, rfl, rfl, cx677.g⟩)
  replace h := (ifN hb611).symm.trans h
  refine wp_seq ?_
  refine reg ?_
  refine s1 pg610.z (okEq s609 cst) rfl fun a739 p740 s741 => ?_
  refine s1 p740.z (okAs s741) rfl fun a742 p743 s744 => ?_
  refine rN (thenN ?_)
  refine cnd s744 (fun hb745 => ?_) (fun hb745 => ?_)
  · replace h := (ifP hb745).symm.trans h
    refine wp_seq ?_
    refine reg ?_
    have s746 := p743.o (p740.o (pg610.o (pg347.o s58 rfl) rfl) rfl) rfl
    refine s1 p743.z (okFA (o' := 0) fo25_0 s746 rfl) rfl fun a747 p748 s749 => ?_
    have m750 := (m33.g0 g31).g1 g39 (m33.ne e32)
    refine s1 p748.z (okLd (j := 0) na3 s749 (m750.cl) rfl rfl) rfl fun a751 p752 s753 => ?_
    refine s1 p752.z (okEq s753 cst) rfl fun a754 p755 s756 => ?_
    refine s1 p755.z (okMv s756) rfl fun a757 p758 s759 => ?_
    refine cutP 3 (fun a' => Pg Try.f13.ntmps [36, 37, 38] a757 a' ∧ a'.eval (.tmp 38) = .bool ((x0.kind == 5) && (decide (0 ≤ x1)))) ?_ ?_
    · rcases bf (x0.kind == 5) with hb760 | hb760
      · have s761 := bv s759 hb760
        refine s1k p758.z rfl (yd p758.z rfl rfl s761) rfl fun a762 p763 s764 => ?_
        have s765 := p763.o s761 rfl
        refine s1k p763.z rfl (yd p763.z rfl rfl s765) rfl fun a766 p767 s768 => ?_
        have s769 := p767.o s765 rfl
        refine s1 p767.z (okPickF s769 cst) rfl fun a770 p771 s772 => ?_
        exact rN ⟨rfl, rfl, ((((Pg.refl p758.z).st p763 rfl).st p767 rfl).st p771 rfl), (andF hb760 s772)⟩
      · have s773 := bv s759 hb760
        have s774 := p758.o (p755.o (p752.o (p748.o (p743.o (p740.o (pg610.o (pg347.o (pg64.o s0_1 rfl) rfl) rfl) rfl) rfl) rfl) rfl) rfl) rfl
        refine s1g p758.z (okMv s774) rfl (yd p758.z rfl rfl s773) fun a775 p776 s777 => ?_
        have s778 := p776.o s773 rfl
        refine s1g p776.z (okGe s777 cst) rfl (yd p776.z rfl rfl s778) fun a779 p780 s781 => ?_
        have s782 := p780.o s778 rfl
        refine s1 p780.z (okPickT s782 s781) rfl fun a783 p784 s785 => ?_
        exact rN ⟨rfl, rfl, ((((Pg.refl p758.z).st p776 rfl).st p780 rfl).st p784 rfl), (andT hb760 s785)⟩
    rintro a786 ⟨pg787, s788⟩
    refine s1 pg787.z (okMv s788) rfl fun a789 p790 s791 => ?_
    refine cutP 3 (fun a' => Pg Try.f13.ntmps [40, 41, 42] a789 a' ∧ a'.eval (.tmp 42) = .bool (((x0.kind == 5) && (decide (0 ≤ x1))) && (decide (x1 < 8)))) ?_ ?_
    · rcases bf ((x0.kind == 5) && (decide (0 ≤ x1))) with hb792 | hb792
      · have s793 := bv s791 hb792
        refine s1k p790.z rfl (yd p790.z rfl rfl s793) rfl fun a794 p795 s796 => ?_
        have s797 := p795.o s793 rfl
        refine s1k p795.z rfl (yd p795.z rfl rfl s797) rfl fun a798 p799 s800 => ?_
        have s801 := p799.o s797 rfl
        refine s1 p799.z (okPickF s801 cst) rfl fun a802 p803 s804 => ?_
        exact rN ⟨rfl, rfl, ((((Pg.refl p790.z).st p795 rfl).st p799 rfl).st p803 rfl), (andF hb792 s804)⟩
      · have s805 := bv s791 hb792
        have s806 := p790.o (pg787.o (p758.o (p755.o (p752.o (p748.o (p743.o (p740.o (pg610.o (pg347.o (pg64.o s0_1 rfl) rfl) rfl) rfl) rfl) rfl) rfl) rfl) rfl) rfl) rfl
        refine s1g p790.z (okMv s806) rfl (yd p790.z rfl rfl s805) fun a807 p808 s809 => ?_
        have s810 := p808.o s805 rfl
        refine s1g p808.z (okLt s809 cst) rfl (yd p808.z rfl rfl s810) fun a811 p812 s813 => ?_
        have s814 := p812.o s810 rfl
        refine s1 p812.z (okPickT s814 s813) rfl fun a815 p816 s817 => ?_
        exact rN ⟨rfl, rfl, ((((Pg.refl p790.z).st p808 rfl).st p812 rfl).st p816 rfl), (andT hb792 s817)⟩
    rintro a818 ⟨pg819, s820⟩
    refine s1 pg819.z (okMv s820) rfl fun a821 p822 s823 => ?_
    refine cutP 4 (fun a' => Pg Try.f13.ntmps [44, 45, 46, 47] a821 a' ∧ a'.eval (.tmp 47) = .bool ((((x0.kind == 5) && (decide (0 ≤ x1))) && (decide (x1 < 8))) && (x0.offer != (-1)))) ?_ ?_
    · rcases bf (((x0.kind == 5) && (decide (0 ≤ x1))) && (decide (x1 < 8))) with hb824 | hb824
      · have s825 := bv s823 hb824
        refine s1k p822.z rfl (yd p822.z rfl rfl s825) rfl fun a826 p827 s828 => ?_
        have s829 := p827.o s825 rfl
        refine s1k p827.z rfl (yd p827.z rfl rfl s829) rfl fun a830 p831 s832 => ?_
        have s833 := p831.o s829 rfl
        refine s1k p831.z rfl (yd p831.z rfl rfl s833) rfl fun a834 p835 s836 => ?_
        have s837 := p835.o s833 rfl
        refine s1 p835.z (okPickF s837 cst) rfl fun a838 p839 s840 => ?_
        exact rN ⟨rfl, rfl, (((((Pg.refl p822.z).st p827 rfl).st p831 rfl).st p835 rfl).st p839 rfl), (andF hb824 s840)⟩
      · have s841 := bv s823 hb824
        have s842 := p822.o (pg819.o (p790.o (pg787.o (p758.o (p755.o (p752.o (p748.o s746 rfl) rfl) rfl) rfl) rfl) rfl) rfl) rfl
        refine s1g p822.z (okFA (o' := 13) fo25_6 s842 rfl) rfl (yd p822.z rfl rfl s841) fun a843 p844 s845 => ?_
        have s846 := p844.o s841 rfl
        refine s1g p844.z (okLd (j := 13) na3 s845 (m750.cl) rfl rfl) rfl (yd p844.z rfl rfl s846) fun a847 p848 s849 => ?_
        have s850 := p848.o s846 rfl
        refine s1g p848.z (okNe s849 cst) rfl (yd p848.z rfl rfl s850) fun a851 p852 s853 => ?_
        have s854 := p852.o s850 rfl
        refine s1 p852.z (okPickT s854 s853) rfl fun a855 p856 s857 => ?_
        exact rN ⟨rfl, rfl, (((((Pg.refl p822.z).st p844 rfl).st p848 rfl).st p852 rfl).st p856 rfl), (andT hb824 s857)⟩
    rintro a858 ⟨pg859, s860⟩
    refine s1 pg859.z (okMv s860) rfl fun a861 p862 s863 => ?_
    refine cutP 5 (fun a' => Pg Try.f13.ntmps [49, 50, 51, 52, 53] a861 a' ∧ a'.eval (.tmp 53) = .bool (((((x0.kind == 5) && (decide (0 ≤ x1))) && (decide (x1 < 8))) && (x0.offer != (-1))) && (x0.offer != x1))) ?_ ?_
    · rcases bf ((((x0.kind == 5) && (decide (0 ≤ x1))) && (decide (x1 < 8))) && (x0.offer != (-1))) with hb864 | hb864
      · have s865 := bv s863 hb864
        refine s1k p862.z rfl (yd p862.z rfl rfl s865) rfl fun a866 p867 s868 => ?_
        have s869 := p867.o s865 rfl
        refine s1k p867.z rfl (yd p867.z rfl rfl s869) rfl fun a870 p871 s872 => ?_
        have s873 := p871.o s869 rfl
        refine s1k p871.z rfl (yd p871.z rfl rfl s873) rfl fun a874 p875 s876 => ?_
        have s877 := p875.o s873 rfl
        refine s1k p875.z rfl (yd p875.z rfl rfl s877) rfl fun a878 p879 s880 => ?_
        have s881 := p879.o s877 rfl
        refine s1 p879.z (okPickF s881 cst) rfl fun a882 p883 s884 => ?_
        exact rN ⟨rfl, rfl, ((((((Pg.refl p862.z).st p867 rfl).st p871 rfl).st p875 rfl).st p879 rfl).st p883 rfl), (andF hb864 s884)⟩
      · have s885 := bv s863 hb864
        have s886 := p862.o (pg859.o (p822.o (pg819.o (p790.o (pg787.o (p758.o (p755.o (p752.o (p748.o s746 rfl) rfl) rfl) rfl) rfl) rfl) rfl) rfl) rfl) rfl
        refine s1g p862.z (okFA (o' := 13) fo25_6 s886 rfl) rfl (yd p862.z rfl rfl s885) fun a887 p888 s889 => ?_
        have s890 := p888.o s885 rfl
        refine s1g p888.z (okLd (j := 13) na3 s889 (m750.cl) rfl rfl) rfl (yd p888.z rfl rfl s890) fun a891 p892 s893 => ?_
        have s894 := p892.o s890 rfl
        have s895 := p892.o (p888.o (p862.o (pg859.o (p822.o (pg819.o (p790.o (pg787.o (p758.o (p755.o (p752.o (p748.o (p743.o (p740.o (pg610.o (pg347.o (pg64.o s0_1 rfl) rfl) rfl) rfl) rfl) rfl) rfl) rfl) rfl) rfl) rfl) rfl) rfl) rfl) rfl) rfl) rfl
        refine s1g p892.z (okMv s895) rfl (yd p892.z rfl rfl s894) fun a896 p897 s898 => ?_
        have s899 := p897.o s894 rfl
        have s900 := p897.o s893 rfl
        refine s1g p897.z (okNe s900 s898) rfl (yd p897.z rfl rfl s899) fun a901 p902 s903 => ?_
        have s904 := p902.o s899 rfl
        refine s1 p902.z (okPickT s904 s903) rfl fun a905 p906 s907 => ?_
        exact rN ⟨rfl, rfl, ((((((Pg.refl p862.z).st p888 rfl).st p892 rfl).st p897 rfl).st p902 rfl).st p906 rfl), (andT hb864 s907)⟩
    rintro a908 ⟨pg909, s910⟩
    refine s1 pg909.z (okAs s910) rfl fun a911 p912 s913 => ?_
    refine rN (thenN ?_)
    obtain rfl := Option.some.inj h
    exact wp_ret (blkR (thenR (ret1 p912.z Try.results13 (rvT s913) ⟨_, rfl, rfl, cx40.g⟩)))
  replace h := (ifN hb745).symm.trans h
  refine wp_skip (blkN (thenN ?_))
  refine wp_seq ?_
  refine reg ?_
  have s914 := p743.o (p740.o (pg610.o (pg347.o s58 rfl) rfl) rfl) rfl
  have m915 := (m33.g0 g31).g1 g39 (m33.ne e32)
  refine s1 p743.z (okLdA ag25 s914 (m915.cl) rfl rfl whole) rfl fun a916 p917 s918 => ?_
  have s919 := p917.o (p743.o (p740.o (pg610.o (pg347.o (pg64.o s0_1 rfl) rfl) rfl) rfl) rfl) rfl
  refine s1 p917.z (okMv s919) rfl fun a920 p921 s922 => ?_
  have s923 := p921.o (p917.o (p743.o (p740.o (pg610.o (pg347.o s61 rfl) rfl) rfl) rfl) rfl) rfl
  refine s1 p921.z (okLdA ag29 s923 (m38.cl) rfl rfl whole) rfl fun a924 p925 s926 => ?_
  have s927 := p925.o (p921.o s918 rfl) rfl
  have s928 := p925.o s922 rfl
  have q929 := qh0_0.mono ((((g6.tA (Nat.le_of_eq e7.symm)).trans (g16.tA (Nat.le_of_eq e17.symm))).trans (g31.tA (Nat.le_of_eq e32.symm))).trans (g39.t1 (.head _)))
  obtain ⟨t930, ht931, h⟩ := Option.bind_eq_some_iff.1 h
  refine lS (oCall p925.z Try.call7 (ag3 s927 s928 s926) (c7 k (b28 :: b13 :: b3 :: L) w37 cx40.lt _ _ q929 _ _ _ ht931) rfl fun v935 a932 w933 hp936 p934 sp934 => ?_)
  obtain ⟨h937, rfl, q938, g939⟩ := hp936
  have cx940 := cx40.ca g939
  refine s1 p934.z (okMv sp934) rfl fun a941 p942 s943 => ?_
  refine s1 p942.z (okExt (vs := [_, _]) s943 rfl) rfl fun a944 p945 s946 => ?_
  have s947 := p945.o s943 rfl
  refine s1 p945.z (okExt (vs := [_, _]) s947 rfl) rfl fun a948 p949 s950 => ?_
  have m958 := m915.g0 g939
  have m959 := m48.g0 g939
  have m960 := m38.g0 g939
  refine lS (oAlloc zv25 p949.z rfl fun a951 w952 b953 p954 sp954 m955 g956 e957 => ?_)
  have f962 := cx940.nw e957
  have cx961 := cx940.al g956 m955
  have s963 := p954.o (p949.o s946 rfl) rfl
  have q964 := q938.mono (g956.tA (Nat.le_of_eq e957.symm))
  refine lS (oStoW (cs := TThing.C t930.1 h937) p954.z sp954 s963 m955 Try.sizeOf25 rfl (TThing.C_one _ q964.one) rfl fun w965 m966 g967 => ?_)
  have cx968 := cx961.st g967 f962
  have s969 := p954.o s950 rfl
  refine s1 p954.z (okAs s969) rfl fun a970 p971 s972 => ?_
  refine rN (thenN ?_)
  refine wp_seq ?_
  refine reg ?_
  refine s1 p971.z (okMv s972) rfl fun a973 p974 s975 => ?_
  refine s1 p974.z (okMv s975) rfl fun a976 p977 s978 => ?_
  refine cutP 5 (fun a' => Pg Try.f13.ntmps [63, 64, 65, 66, 67] a976 a' ∧ a'.eval (.tmp 67) = .bool (t930.2 && (x0.kind == 0))) ?_ ?_
  · rcases bf t930.2 with hb979 | hb979
    · have s980 := bv s978 hb979
      refine s1k p977.z rfl (yd p977.z rfl rfl s980) rfl fun a981 p982 s983 => ?_
      have s984 := p982.o s980 rfl
      refine s1k p982.z rfl (yd p982.z rfl rfl s984) rfl fun a985 p986 s987 => ?_
      have s988 := p986.o s984 rfl
      refine s1k p986.z rfl (yd p986.z rfl rfl s988) rfl fun a989 p990 s991 => ?_
      have s992 := p990.o s988 rfl
      refine s1k p990.z rfl (yd p990.z rfl rfl s992) rfl fun a993 p994 s995 => ?_
      have s996 := p994.o s992 rfl
      refine s1 p994.z (okPickF s996 cst) rfl fun a997 p998 s999 => ?_
      exact rN ⟨rfl, rfl, ((((((Pg.refl p977.z).st p982 rfl).st p986 rfl).st p990 rfl).st p994 rfl).st p998 rfl), (andF hb979 s999)⟩
    · have s1000 := bv s978 hb979
      have s1001 := p977.o (p974.o (p971.o (p954.o (p949.o (p945.o (p942.o (p934.o (p925.o (p921.o (p917.o s914 rfl) rfl) rfl) rfl) rfl) rfl) rfl) rfl) rfl) rfl) rfl
      refine s1g p977.z (okFA (o' := 0) fo25_0 s1001 rfl) rfl (yd p977.z rfl rfl s1000) fun a1002 p1003 s1004 => ?_
      have s1005 := p1003.o s1000 rfl
      have m1006 := (m958.g0 g956).g1 g967 (m958.ne e957)
      refine s1g p1003.z (okLd (j := 0) na3 s1004 (m1006.cl) rfl rfl) rfl (yd p1003.z rfl rfl s1005) fun a1007 p1008 s1009 => ?_
      have s1010 := p1008.o s1005 rfl
      have s1011 := p1008.o (p1003.o (p977.o (p974.o (p971.o (p954.o (p949.o (p945.o (p942.o (p934.o (p925.o (p921.o (p917.o (p743.o (p740.o (pg610.o (pg347.o s62 rfl) rfl) rfl) rfl) rfl) rfl) rfl) rfl) rfl) rfl) rfl) rfl) rfl) rfl) rfl) rfl) rfl
      refine s1g p1008.z (okMv s1011) rfl (yd p1008.z rfl rfl s1010) fun a1012 p1013 s1014 => ?_
      have s1015 := p1013.o s1010 rfl
      have s1016 := p1013.o s1009 rfl
      refine s1g p1013.z (okEq s1016 s1014) rfl (yd p1013.z rfl rfl s1015) fun a1017 p1018 s1019 => ?_
      have s1020 := p1018.o s1015 rfl
      refine s1 p1018.z (okPickT s1020 s1019) rfl fun a1021 p1022 s1023 => ?_
      exact rN ⟨rfl, rfl, ((((((Pg.refl p977.z).st p1003 rfl).st p1008 rfl).st p1013 rfl).st p1018 rfl).st p1022 rfl), (andT hb979 s1023)⟩
  rintro a1024 ⟨pg1025, s1026⟩
  refine s1 pg1025.z (okAs s1026) rfl fun a1027 p1028 s1029 => ?_
  refine rN (thenN ?_)
  obtain rfl := Option.some.inj h
  exact wp_ret (ret1 p1028.z Try.results13 (rvT s1029) ⟨_, rfl, rfl, cx968.g⟩)

set_option maxHeartbeats 4000000 in
theorem c14 (k : Nat) (L : List Nat) (w : World) (hL : ∀ b ∈ L, b < w.heap.size) (x0 : TThing) (h0_0 : Value) (qh0_0 : RdS KTWaiter L w h0_0 x0.waiters) (x1 : Int) (x2 : TOp) (r : Bool) (h : tholeref10_Can k x0 x1 x2 = some r) : Calls Try.prog 14 #[.agg (TThing.C x0 h0_0).toArray, .int .i64 x1, .agg (TOp.C x2).toArray] w (fun e w' => ∃ v, e = .returned v ∧ v = .bool r ∧ G [] w w') := by
  refine enterF Try.func14 rfl rfl fun a0 z0 A => ?_
  have s0_0 := A 0 (.agg (TThing.C x0 h0_0).toArray) rfl
  have s0_1 := A 1 (.int .i64 x1) rfl
  have s0_2 := A 2 (.agg (TOp.C x2).toArray) rfl
  clear A
  have c0 : Cx [] w L w := ⟨G.refl _ _, hL⟩
  unfold tholeref10_Can at h
  refine wp_seq ?_
  refine reg ?_
  refine lS (oBox (l := TThing.C x0 h0_0) z0 s0_0 rfl rfl fun a1 w2 b3 p4 sp4 m5 g6 e7 => ?_)
  have f9 := c0.nw e7
  have cx8 := c0.al g6 m5
  have s10 := p4.o s0_2 rfl
  refine lS (oBox (l := TOp.C x2) p4.z s10 rfl rfl fun a11 w12 b13 p14 sp14 m15 g16 e17 => ?_)
  have f19 := cx8.nw e17
  have cx18 := cx8.al g16 m15
  refine s1 p14.z (okAs cst) rfl fun a20 p21 s22 => ?_
  refine rN (thenN ?_)
  refine wp_seq ?_
  refine wp_seq ?_
  refine reg ?_
  have s23 := p21.o (p14.o (p4.o s0_1 rfl) rfl) rfl
  refine s1 p21.z (okMv s23) rfl fun a24 p25 s26 => ?_
  refine s1 p25.z (okLt s26 cst) rfl fun a27 p28 s29 => ?_
  refine s1 p28.z (okMv s29) rfl fun a30 p31 s32 => ?_
  refine cutP 3 (fun a' => Pg Try.f14.ntmps [14, 15, 16] a30 a' ∧ a'.eval (.tmp 16) = .bool ((decide (x1 < 0)) || (decide (7 < x1)))) ?_ ?_
  · rcases bf (decide (x1 < 0)) with hb33 | hb33
    · have s34 := bv s32 hb33
      have s35 := p31.o (p28.o (p25.o s23 rfl) rfl) rfl
      refine s1g p31.z (okMv s35) rfl (yd p31.z rfl rfl s34) fun a36 p37 s38 => ?_
      have s39 := p37.o s34 rfl
      refine s1g p37.z (okGt s38 cst) rfl (yd p37.z rfl rfl s39) fun a40 p41 s42 => ?_
      have s43 := p41.o s39 rfl
      refine s1 p41.z (okPickF s43 s42) rfl fun a44 p45 s46 => ?_
      exact rN ⟨rfl, rfl, ((((Pg.refl p31.z).st p37 rfl).st p41 rfl).st p45 rfl), (orF hb33 s46)⟩
    · have s47 := bv s32 hb33
      refine s1k p31.z rfl (yd p31.z rfl rfl s47) rfl fun a48 p49 s50 => ?_
      have s51 := p49.o s47 rfl
      refine s1k p49.z rfl (yd p49.z rfl rfl s51) rfl fun a52 p53 s54 => ?_
      have s55 := p53.o s51 rfl
      refine s1 p53.z (okPickT s55 cst) rfl fun a56 p57 s58 => ?_
      exact rN ⟨rfl, rfl, ((((Pg.refl p31.z).st p49 rfl).st p53 rfl).st p57 rfl), (orT hb33 s58)⟩
  rintro a59 ⟨pg60, s61⟩
  refine rN (thenN ?_)
  have s62 := pg60.o (p31.o (p28.o (p25.o s23 rfl) rfl) rfl) rfl
  have s63 := pg60.o (p31.o (p28.o (p25.o (p21.o (p14.o sp4 rfl) rfl) rfl) rfl) rfl) rfl
  have s64 := pg60.o (p31.o (p28.o (p25.o (p21.o sp14 rfl) rfl) rfl) rfl) rfl
  have s65 := pg60.o (p31.o (p28.o (p25.o s22 rfl) rfl) rfl) rfl
  have pg66 : Pg _ [3, 5, 6, 11, 12, 13, 14, 15, 16] _ _ := ((((((((Pg.refl z0).st p4 rfl).st p14 rfl).st p21 rfl).st p25 rfl).st p28 rfl).st p31 rfl).tr pg60 rfl)
  refine cnd s61 (fun hb67 => ?_) (fun hb67 => ?_)
  · replace h := (ifP hb67).symm.trans h
    refine wp_seq ?_
    refine reg ?_
    refine s1 pg66.z (okAs cst) rfl fun a68 p69 s70 => ?_
    refine rN (thenN ?_)
    obtain rfl := Option.some.inj h
    exact wp_ret (thenR (ret1 p69.z Try.results14 (rvT s70) ⟨_, rfl, rfl, cx18.g⟩))
  replace h := (ifN hb67).symm.trans h
  refine wp_skip (thenN ?_)
  refine wp_seq ?_
  refine wp_seq ?_
  refine reg ?_
  refine s1 pg66.z (okFA (o' := 0) fo38_0 s64 rfl) rfl fun a71 p72 s73 => ?_
  refine s1 p72.z (okLd (j := 0) na3 s73 (m15.cl) rfl rfl) rfl fun a74 p75 s76 => ?_
  refine s1 p75.z (okEq s76 cst) rfl fun a77 p78 s79 => ?_
  refine rN (thenN ?_)
  have pg80 : Pg _ [17, 18, 19] _ _ := ((((Pg.refl pg66.z).st p72 rfl).st p75 rfl).st p78 rfl)
  refine cnd s79 (fun hb81 => ?_) (fun hb81 => ?_)
  · replace h := (ifP hb81).symm.trans h
    refine wp_seq ?_
    refine reg ?_
    have s82 := pg80.o s63 rfl
    refine s1 pg80.z (okFA (o' := 0) fo25_0 s82 rfl) rfl fun a83 p84 s85 => ?_
    have m86 := m5.g0 g16
    refine s1 p84.z (okLd (j := 0) na3 s85 (m86.cl) rfl rfl) rfl fun a87 p88 s89 => ?_
    refine s1 p88.z (okEq s89 cst) rfl fun a90 p91 s92 => ?_
    refine s1 p91.z (okMv s92) rfl fun a93 p94 s95 => ?_
    refine cutP 4 (fun a' => Pg Try.f14.ntmps [24, 25, 26, 27] a93 a' ∧ a'.eval (.tmp 27) = .bool ((x0.kind == 5) && (x0.offer != (-1)))) ?_ ?_
    · rcases bf (x0.kind == 5) with hb96 | hb96
      · have s97 := bv s95 hb96
        refine s1k p94.z rfl (yd p94.z rfl rfl s97) rfl fun a98 p99 s100 => ?_
        have s101 := p99.o s97 rfl
        refine s1k p99.z rfl (yd p99.z rfl rfl s101) rfl fun a102 p103 s104 => ?_
        have s105 := p103.o s101 rfl
        refine s1k p103.z rfl (yd p103.z rfl rfl s105) rfl fun a106 p107 s108 => ?_
        have s109 := p107.o s105 rfl
        refine s1 p107.z (okPickF s109 cst) rfl fun a110 p111 s112 => ?_
        exact rN ⟨rfl, rfl, (((((Pg.refl p94.z).st p99 rfl).st p103 rfl).st p107 rfl).st p111 rfl), (andF hb96 s112)⟩
      · have s113 := bv s95 hb96
        have s114 := p94.o (p91.o (p88.o (p84.o s82 rfl) rfl) rfl) rfl
        refine s1g p94.z (okFA (o' := 13) fo25_6 s114 rfl) rfl (yd p94.z rfl rfl s113) fun a115 p116 s117 => ?_
        have s118 := p116.o s113 rfl
        refine s1g p116.z (okLd (j := 13) na3 s117 (m86.cl) rfl rfl) rfl (yd p116.z rfl rfl s118) fun a119 p120 s121 => ?_
        have s122 := p120.o s118 rfl
        refine s1g p120.z (okNe s121 cst) rfl (yd p120.z rfl rfl s122) fun a123 p124 s125 => ?_
        have s126 := p124.o s122 rfl
        refine s1 p124.z (okPickT s126 s125) rfl fun a127 p128 s129 => ?_
        exact rN ⟨rfl, rfl, (((((Pg.refl p94.z).st p116 rfl).st p120 rfl).st p124 rfl).st p128 rfl), (andT hb96 s129)⟩
    rintro a130 ⟨pg131, s132⟩
    refine s1 pg131.z (okMv s132) rfl fun a133 p134 s135 => ?_
    refine cutP 5 (fun a' => Pg Try.f14.ntmps [29, 30, 31, 32, 33] a133 a' ∧ a'.eval (.tmp 33) = .bool (((x0.kind == 5) && (x0.offer != (-1))) && (x0.offer != x1))) ?_ ?_
    · rcases bf ((x0.kind == 5) && (x0.offer != (-1))) with hb136 | hb136
      · have s137 := bv s135 hb136
        refine s1k p134.z rfl (yd p134.z rfl rfl s137) rfl fun a138 p139 s140 => ?_
        have s141 := p139.o s137 rfl
        refine s1k p139.z rfl (yd p139.z rfl rfl s141) rfl fun a142 p143 s144 => ?_
        have s145 := p143.o s141 rfl
        refine s1k p143.z rfl (yd p143.z rfl rfl s145) rfl fun a146 p147 s148 => ?_
        have s149 := p147.o s145 rfl
        refine s1k p147.z rfl (yd p147.z rfl rfl s149) rfl fun a150 p151 s152 => ?_
        have s153 := p151.o s149 rfl
        refine s1 p151.z (okPickF s153 cst) rfl fun a154 p155 s156 => ?_
        exact rN ⟨rfl, rfl, ((((((Pg.refl p134.z).st p139 rfl).st p143 rfl).st p147 rfl).st p151 rfl).st p155 rfl), (andF hb136 s156)⟩
      · have s157 := bv s135 hb136
        have s158 := p134.o (pg131.o (p94.o (p91.o (p88.o (p84.o s82 rfl) rfl) rfl) rfl) rfl) rfl
        refine s1g p134.z (okFA (o' := 13) fo25_6 s158 rfl) rfl (yd p134.z rfl rfl s157) fun a159 p160 s161 => ?_
        have s162 := p160.o s157 rfl
        refine s1g p160.z (okLd (j := 13) na3 s161 (m86.cl) rfl rfl) rfl (yd p160.z rfl rfl s162) fun a163 p164 s165 => ?_
        have s166 := p164.o s162 rfl
        have s167 := p164.o (p160.o (p134.o (pg131.o (p94.o (p91.o (p88.o (p84.o (pg80.o s62 rfl) rfl) rfl) rfl) rfl) rfl) rfl) rfl) rfl
        refine s1g p164.z (okMv s167) rfl (yd p164.z rfl rfl s166) fun a168 p169 s170 => ?_
        have s171 := p169.o s166 rfl
        have s172 := p169.o s165 rfl
        refine s1g p169.z (okNe s172 s170) rfl (yd p169.z rfl rfl s171) fun a173 p174 s175 => ?_
        have s176 := p174.o s171 rfl
        refine s1 p174.z (okPickT s176 s175) rfl fun a177 p178 s179 => ?_
        exact rN ⟨rfl, rfl, ((((((Pg.refl p134.z).st p160 rfl).st p164 rfl).st p169 rfl).st p174 rfl).st p178 rfl), (andT hb136 s179)⟩
    rintro a180 ⟨pg181, s182⟩
    refine s1 pg181.z (okAs s182) rfl fun a183 p184 s185 => ?_
    refine rN (thenN ?_)
    obtain rfl := Option.some.inj h
    exact wp_ret (thenR (ret1 p184.z Try.results14 (rvT s185) ⟨_, rfl, rfl, cx18.g⟩))
  replace h := (ifN hb81).symm.trans h
  refine wp_skip (thenN ?_)
  refine wp_seq ?_
  refine reg ?_
  refine s1 pg80.z (okAs cst) rfl fun a186 p187 s188 => ?_
  refine rN (thenN ?_)
  refine wp_seq ?_
  refine reg ?_
  refine s1 p187.z (okBd (pb1 cst) (bd29_0 1 _)) rfl fun a189 p190 s191 => ?_
  have m199 := m5.g0 g16
  refine lS (oAlloc zv29 p190.z rfl fun a192 w193 b194 p195 sp195 m196 g197 e198 => ?_)
  have f201 := cx18.nw e198
  have cx200 := cx18.al g197 m196
  have s202 := p195.o s191 rfl
  refine lS (oStoW (cs := TNote.C (⟨1, 0⟩ : TNote)) p195.z sp195 s202 m196 Try.sizeOf29 rfl (TNote.C_one _) rfl fun w203 m204 g205 => ?_)
  have cx206 := cx200.st g205 f201
  refine rN (thenN ?_)
  refine wp_seq ?_
  refine wp_seq ?_
  refine reg ?_
  have s207 := p195.o (p190.o (p187.o (pg80.o s64 rfl) rfl) rfl) rfl
  refine s1 p195.z (okFA (o' := 0) fo38_0 s207 rfl) rfl fun a208 p209 s210 => ?_
  have m211 := (m15.g0 g197).g1 g205 (m15.ne e198)
  refine s1 p209.z (okLd (j := 0) na3 s210 (m211.cl) rfl rfl) rfl fun a212 p213 s214 => ?_
  refine rN (thenN ?_)
  refine wp_block ?_
  refine wp_seq ?_
  refine reg ?_
  refine s1 p213.z (okEq s214 cst) rfl fun a215 p216 s217 => ?_
  refine s1 p216.z (okAs s217) rfl fun a218 p219 s220 => ?_
  refine rN (thenN ?_)
  have s221 := p219.o (p216.o (p213.o (p209.o s207 rfl) rfl) rfl) rfl
  have s222 := p219.o (p216.o (p213.o (p209.o (p195.o (p190.o s188 rfl) rfl) rfl) rfl) rfl) rfl
  have s223 := p219.o (p216.o (p213.o (p209.o sp195 rfl) rfl) rfl) rfl
  have s224 := p219.o (p216.o s214 rfl) rfl
  have pg225 : Pg _ [7, 8, 34, 35, 36, 37, 38] _ _ := ((((((((Pg.refl pg80.z).st p187 rfl).st p190 rfl).st p195 rfl).st p209 rfl).st p213 rfl).st p216 rfl).st p219 rfl)
  refine cnd s220 (fun hb226 => ?_) (fun hb226 => ?_)
  · replace h := (ifP hb226).symm.trans h
    refine wp_seq ?_
    refine reg ?_
    refine s1 pg225.z (okAs cst) rfl fun a227 p228 s229 => ?_
    refine rN (thenN ?_)
    refine reg ?_
    have s230 := p228.o s223 rfl
    refine s1 p228.z (okFA (o' := 1) fo29_1 s230 rfl) rfl fun a231 p232 s233 => ?_
    refine lS (oSto (cs := [.int .i64 1]) (l' := TNote.C (⟨1, 1⟩ : TNote)) p232.z s233 cst m204 Try.sizeOf2 rfl one1 rfl rfl fun w234 m235 g236 => ?_)
    have cx237 := cx206.st g236 f201
    refine rN (blkN (thenN ?_))
    refine wp_seq ?_
    refine reg ?_
    have s238 := p232.o (p228.o (pg225.o (pg80.o s63 rfl) rfl) rfl) rfl
    have m239 := ((m199.g0 g197).g1 g205 (m199.ne e198)).g1 g236 (m199.ne e198)
    refine s1 p232.z (okLdA ag25 s238 (m239.cl) rfl rfl whole) rfl fun a240 p241 s242 => ?_
    have s243 := p241.o (p232.o (p228.o (pg225.o (pg80.o s62 rfl) rfl) rfl) rfl) rfl
    refine s1 p241.z (okMv s243) rfl fun a244 p245 s246 => ?_
    have s247 := p245.o (p241.o (p232.o s230 rfl) rfl) rfl
    refine s1 p245.z (okLdA ag29 s247 (m235.cl) rfl rfl whole) rfl fun a248 p249 s250 => ?_
    have s251 := p249.o (p245.o s242 rfl) rfl
    have s252 := p249.o s246 rfl
    have q253 := qh0_0.mono (((((g6.tA (Nat.le_of_eq e7.symm)).trans (g16.tA (Nat.le_of_eq e17.symm))).trans (g197.tA (Nat.le_of_eq e198.symm))).trans (g205.t1 (.head _))).trans (g236.t1 (.head _)))
    obtain ⟨t254, ht255, h⟩ := Option.bind_eq_some_iff.1 h
    refine lS (oCall p249.z Try.call11 (ag3 s251 s252 s250) (c11 k (b194 :: b13 :: b3 :: L) w234 cx237.lt _ _ q253 _ _ _ ht255) rfl fun v259 a256 w257 hp260 p258 sp258 => ?_)
    obtain ⟨h261, rfl, q262, g263⟩ := hp260
    have cx264 := cx237.ca g263
    refine s1 p258.z (okMv sp258) rfl fun a265 p266 s267 => ?_
    refine s1 p266.z (okExt (vs := [_, _]) s267 rfl) rfl fun a268 p269 s270 => ?_
    have s271 := p269.o s267 rfl
    refine s1 p269.z (okExt (vs := [_, _]) s271 rfl) rfl fun a272 p273 s274 => ?_
    have m282 := m239.g0 g263
    have m283 := (m211.g1 g236 (m15.ne e198)).g0 g263
    have m284 := m235.g0 g263
    refine lS (oAlloc zv25 p273.z rfl fun a275 w276 b277 p278 sp278 m279 g280 e281 => ?_)
    have f286 := cx264.nw e281
    have cx285 := cx264.al g280 m279
    have s287 := p278.o (p273.o s270 rfl) rfl
    have q288 := q262.mono (g280.tA (Nat.le_of_eq e281.symm))
    refine lS (oStoW (cs := TThing.C t254.1 h261) p278.z sp278 s287 m279 Try.sizeOf25 rfl (TThing.C_one _ q288.one) rfl fun w289 m290 g291 => ?_)
    have cx292 := cx285.st g291 f286
    have s293 := p278.o s274 rfl
    refine s1 p278.z (okAs s293) rfl fun a294 p295 s296 => ?_
    refine rN (thenN ?_)
    refine wp_seq ?_
    refine reg ?_
    have s297 := p295.o (p278.o (p273.o (p269.o (p266.o (p258.o (p249.o (p245.o (p241.o s238 rfl) rfl) rfl) rfl) rfl) rfl) rfl) rfl) rfl
    refine s1 p295.z (okFA (o' := 0) fo25_0 s297 rfl) rfl fun a298 p299 s300 => ?_
    have m301 := (m282.g0 g280).g1 g291 (m282.ne e281)
    refine s1 p299.z (okLd (j := 0) na3 s300 (m301.cl) rfl rfl) rfl fun a302 p303 s304 => ?_
    have s305 := p303.o (p299.o (p295.o (p278.o (p273.o (p269.o (p266.o (p258.o (p249.o (p245.o (p241.o (p232.o s229 rfl) rfl) rfl) rfl) rfl) rfl) rfl) rfl) rfl) rfl) rfl) rfl
    refine s1 p303.z (okMv s305) rfl fun a306 p307 s308 => ?_
    have s309 := p307.o s304 rfl
    refine s1 p307.z (okEq s309 s308) rfl fun a310 p311 s312 => ?_
    refine s1 p311.z (okMv s312) rfl fun a313 p314 s315 => ?_
    refine cutP 2 (fun a' => Pg Try.f14.ntmps [65, 66] a313 a' ∧ a'.eval (.tmp 66) = .bool ((x0.kind == 1) && t254.2)) ?_ ?_
    · rcases bf (x0.kind == 1) with hb316 | hb316
      · have s317 := bv s315 hb316
        refine s1k p314.z rfl (yd p314.z rfl rfl s317) rfl fun a318 p319 s320 => ?_
        have s321 := p319.o s317 rfl
        refine s1 p319.z (okPickF s321 cst) rfl fun a322 p323 s324 => ?_
        exact rN ⟨rfl, rfl, (((Pg.refl p314.z).st p319 rfl).st p323 rfl), (andF hb316 s324)⟩
      · have s325 := bv s315 hb316
        have s326 := p314.o (p311.o (p307.o (p303.o (p299.o s296 rfl) rfl) rfl) rfl) rfl
        refine s1g p314.z (okMv s326) rfl (yd p314.z rfl rfl s325) fun a327 p328 s329 => ?_
        have s330 := p328.o s325 rfl
        refine s1 p328.z (okPickT s330 s329) rfl fun a331 p332 s333 => ?_
        exact rN ⟨rfl, rfl, (((Pg.refl p314.z).st p328 rfl).st p332 rfl), (andT hb316 s333)⟩
    rintro a334 ⟨pg335, s336⟩
    refine s1 pg335.z (okAs s336) rfl fun a337 p338 s339 => ?_
    refine rN (thenN ?_)
    obtain rfl := Option.some.inj h
    exact wp_ret (ret1 p338.z Try.results14 (rvT s339) ⟨_, rfl, rfl, cx292.g⟩)
  replace h := (ifN hb226).symm.trans h
  refine wp_seq ?_
  refine reg ?_
  refine s1 pg225.z (okEq s224 cst) rfl fun a340 p341 s342 => ?_
  refine s1 p341.z (okAs s342) rfl fun a343 p344 s345 => ?_
  refine rN (thenN ?_)
  refine cnd s345 (fun hb346 => ?_) (fun hb346 => ?_)
  · replace h := (ifP hb346).symm.trans h
    refine wp_seq ?_
    refine reg ?_
    refine s1 p344.z (okAs cst) rfl fun a347 p348 s349 => ?_
    refine rN (thenN ?_)
    refine reg ?_
    have s350 := p348.o (p344.o (p341.o s221 rfl) rfl) rfl
    refine s1 p348.z (okFA (o' := 2) fo38_2 s350 rfl) rfl fun a351 p352 s353 => ?_
    refine s1 p352.z (okLd (j := 2) na3 s353 (m211.cl) rfl rfl) rfl fun a354 p355 s356 => ?_
    have s357 := p355.o (p352.o (p348.o (p344.o (p341.o s223 rfl) rfl) rfl) rfl) rfl
    refine s1 p355.z (okFA (o' := 1) fo29_1 s357 rfl) rfl fun a358 p359 s360 => ?_
    have s361 := p359.o s356 rfl
    refine lS (oSto (cs := [.int .i64 x2.n]) (l' := TNote.C (⟨1, x2.n⟩ : TNote)) p359.z s360 s361 m204 Try.sizeOf2 rfl one1 rfl rfl fun w362 m363 g364 => ?_)
    have cx365 := cx206.st g364 f201
    refine rN (blkN (thenN ?_))
    refine wp_seq ?_
    refine reg ?_
    have s366 := p359.o (p355.o (p352.o (p348.o (p344.o (p341.o (pg225.o (pg80.o s63 rfl) rfl) rfl) rfl) rfl) rfl) rfl) rfl
    have m367 := ((m199.g0 g197).g1 g205 (m199.ne e198)).g1 g364 (m199.ne e198)
    refine s1 p359.z (okLdA ag25 s366 (m367.cl) rfl rfl whole) rfl fun a368 p369 s370 => ?_
    have s371 := p369.o (p359.o (p355.o (p352.o (p348.o (p344.o (p341.o (pg225.o (pg80.o s62 rfl) rfl) rfl) rfl) rfl) rfl) rfl) rfl) rfl
    refine s1 p369.z (okMv s371) rfl fun a372 p373 s374 => ?_
    have s375 := p373.o (p369.o (p359.o s357 rfl) rfl) rfl
    refine s1 p373.z (okLdA ag29 s375 (m363.cl) rfl rfl whole) rfl fun a376 p377 s378 => ?_
    have s379 := p377.o (p373.o s370 rfl) rfl
    have s380 := p377.o s374 rfl
    have q381 := qh0_0.mono (((((g6.tA (Nat.le_of_eq e7.symm)).trans (g16.tA (Nat.le_of_eq e17.symm))).trans (g197.tA (Nat.le_of_eq e198.symm))).trans (g205.t1 (.head _))).trans (g364.t1 (.head _)))
    obtain ⟨t382, ht383, h⟩ := Option.bind_eq_some_iff.1 h
    refine lS (oCall p377.z Try.call11 (ag3 s379 s380 s378) (c11 k (b194 :: b13 :: b3 :: L) w362 cx365.lt _ _ q381 _ _ _ ht383) rfl fun v387 a384 w385 hp388 p386 sp386 => ?_)
    obtain ⟨h389, rfl, q390, g391⟩ := hp388
    have cx392 := cx365.ca g391
    refine s1 p386.z (okMv sp386) rfl fun a393 p394 s395 => ?_
    refine s1 p394.z (okExt (vs := [_, _]) s395 rfl) rfl fun a396 p397 s398 => ?_
    have s399 := p397.o s395 rfl
    refine s1 p397.z (okExt (vs := [_, _]) s399 rfl) rfl fun a400 p401 s402 => ?_
    have m410 := m367.g0 g391
    have m411 := (m211.g1 g364 (m15.ne e198)).g0 g391
    have m412 := m363.g0 g391
    refine lS (oAlloc zv25 p401.z rfl fun a403 w404 b405 p406 sp406 m407 g408 e409 => ?_)
    have f414 := cx392.nw e409
    have cx413 := cx392.al g408 m407
    have s415 := p406.o (p401.o s398 rfl) rfl
    have q416 := q390.mono (g408.tA (Nat.le_of_eq e409.symm))
    refine lS (oStoW (cs := TThing.C t382.1 h389) p406.z sp406 s415 m407 Try.sizeOf25 rfl (TThing.C_one _ q416.one) rfl fun w417 m418 g419 => ?_)
    have cx420 := cx413.st g419 f414
    have s421 := p406.o s402 rfl
    refine s1 p406.z (okAs s421) rfl fun a422 p423 s424 => ?_
    refine rN (thenN ?_)
    refine wp_seq ?_
    refine reg ?_
    have s425 := p423.o (p406.o (p401.o (p397.o (p394.o (p386.o (p377.o (p373.o (p369.o s366 rfl) rfl) rfl) rfl) rfl) rfl) rfl) rfl) rfl
    refine s1 p423.z (okFA (o' := 0) fo25_0 s425 rfl) rfl fun a426 p427 s428 => ?_
    have m429 := (m410.g0 g408).g1 g419 (m410.ne e409)
    refine s1 p427.z (okLd (j := 0) na3 s428 (m429.cl) rfl rfl) rfl fun a430 p431 s432 => ?_
    have s433 := p431.o (p427.o (p423.o (p406.o (p401.o (p397.o (p394.o (p386.o (p377.o (p373.o (p369.o (p359.o (p355.o (p352.o s349 rfl) rfl) rfl) rfl) rfl) rfl) rfl) rfl) rfl) rfl) rfl) rfl) rfl) rfl
    refine s1 p431.z (okMv s433) rfl fun a434 p435 s436 => ?_
    have s437 := p435.o s432 rfl
    refine s1 p435.z (okEq s437 s436) rfl fun a438 p439 s440 => ?_
    refine s1 p439.z (okMv s440) rfl fun a441 p442 s443 => ?_
    refine cutP 2 (fun a' => Pg Try.f14.ntmps [65, 66] a441 a' ∧ a'.eval (.tmp 66) = .bool ((x0.kind == 2) && t382.2)) ?_ ?_
    · rcases bf (x0.kind == 2) with hb444 | hb444
      · have s445 := bv s443 hb444
        refine s1k p442.z rfl (yd p442.z rfl rfl s445) rfl fun a446 p447 s448 => ?_
        have s449 := p447.o s445 rfl
        refine s1 p447.z (okPickF s449 cst) rfl fun a450 p451 s452 => ?_
        exact rN ⟨rfl, rfl, (((Pg.refl p442.z).st p447 rfl).st p451 rfl), (andF hb444 s452)⟩
      · have s453 := bv s443 hb444
        have s454 := p442.o (p439.o (p435.o (p431.o (p427.o s424 rfl) rfl) rfl) rfl) rfl
        refine s1g p442.z (okMv s454) rfl (yd p442.z rfl rfl s453) fun a455 p456 s457 => ?_
        have s458 := p456.o s453 rfl
        refine s1 p456.z (okPickT s458 s457) rfl fun a459 p460 s461 => ?_
        exact rN ⟨rfl, rfl, (((Pg.refl p442.z).st p456 rfl).st p460 rfl), (andT hb444 s461)⟩
    rintro a462 ⟨pg463, s464⟩
    refine s1 pg463.z (okAs s464) rfl fun a465 p466 s467 => ?_
    refine rN (thenN ?_)
    obtain rfl := Option.some.inj h
    exact wp_ret (ret1 p466.z Try.results14 (rvT s467) ⟨_, rfl, rfl, cx420.g⟩)
  replace h := (ifN hb346).symm.trans h
  refine wp_seq ?_
  refine reg ?_
  have s468 := p344.o (p341.o s224 rfl) rfl
  refine s1 p344.z (okEq s468 cst) rfl fun a469 p470 s471 => ?_
  refine s1 p470.z (okAs s471) rfl fun a472 p473 s474 => ?_
  refine rN (thenN ?_)
  have s475 := p473.o (p470.o s468 rfl) rfl
  have pg476 : Pg _ [40, 41, 45, 46] _ _ := (((((Pg.refl pg225.z).st p341 rfl).st p344 rfl).st p470 rfl).st p473 rfl)
  refine cnd s474 (fun hb477 => ?_) (fun hb477 => ?_)
  · replace h := (ifP hb477).symm.trans h
    refine reg ?_
    refine s1 pg476.z (okAs cst) rfl fun a478 p479 s480 => ?_
    refine rN (blkN (thenN ?_))
    refine wp_seq ?_
    refine reg ?_
    have s481 := p479.o (pg476.o (pg225.o (pg80.o s63 rfl) rfl) rfl) rfl
    have m482 := (m199.g0 g197).g1 g205 (m199.ne e198)
    refine s1 p479.z (okLdA ag25 s481 (m482.cl) rfl rfl whole) rfl fun a483 p484 s485 => ?_
    have s486 := p484.o (p479.o (pg476.o (pg225.o (pg80.o s62 rfl) rfl) rfl) rfl) rfl
    refine s1 p484.z (okMv s486) rfl fun a487 p488 s489 => ?_
    have s490 := p488.o (p484.o (p479.o (pg476.o s223 rfl) rfl) rfl) rfl
    refine s1 p488.z (okLdA ag29 s490 (m204.cl) rfl rfl whole) rfl fun a491 p492 s493 => ?_
    have s494 := p492.o (p488.o s485 rfl) rfl
    have s495 := p492.o s489 rfl
    have q496 := qh0_0.mono ((((g6.tA (Nat.le_of_eq e7.symm)).trans (g16.tA (Nat.le_of_eq e17.symm))).trans (g197.tA (Nat.le_of_eq e198.symm))).trans (g205.t1 (.head _)))
    obtain ⟨t497, ht498, h⟩ := Option.bind_eq_some_iff.1 h
    refine lS (oCall p492.z Try.call11 (ag3 s494 s495 s493) (c11 k (b194 :: b13 :: b3 :: L) w203 cx206.lt _ _ q496 _ _ _ ht498) rfl fun v502 a499 w500 hp503 p501 sp501 => ?_)
    obtain ⟨h504, rfl, q505, g506⟩ := hp503
    have cx507 := cx206.ca g506
    refine s1 p501.z (okMv sp501) rfl fun a508 p509 s510 => ?_
    refine s1 p509.z (okExt (vs := [_, _]) s510 rfl) rfl fun a511 p512 s513 => ?_
    have s514 := p512.o s510 rfl
    refine s1 p512.z (okExt (vs := [_, _]) s514 rfl) rfl fun a515 p516 s517 => ?_
    have m525 := m482.g0 g506
    have m526 := m211.g0 g506
    have m527 := m204.g0 g506
    refine lS (oAlloc zv25 p516.z rfl fun a518 w519 b520 p521 sp521 m522 g523 e524 => ?_)
    have f529 := cx507.nw e524
    have cx528 := cx507.al g523 m522
    have s530 := p521.o (p516.o s513 rfl) rfl
    have q531 := q505.mono (g523.tA (Nat.le_of_eq e524.symm))
    refine lS (oStoW (cs := TThing.C t497.1 h504) p521.z sp521 s530 m522 Try.sizeOf25 rfl (TThing.C_one _ q531.one) rfl fun w532 m533 g534 => ?_)
    have cx535 := cx528.st g534 f529
    have s536 := p521.o s517 rfl
    refine s1 p521.z (okAs s536) rfl fun a537 p538 s539 => ?_
    refine rN (thenN ?_)
    refine wp_seq ?_
    refine reg ?_
    have s540 := p538.o (p521.o (p516.o (p512.o (p509.o (p501.o (p492.o (p488.o (p484.o s481 rfl) rfl) rfl) rfl) rfl) rfl) rfl) rfl) rfl
    refine s1 p538.z (okFA (o' := 0) fo25_0 s540 rfl) rfl fun a541 p542 s543 => ?_
    have m544 := (m525.g0 g523).g1 g534 (m525.ne e524)
    refine s1 p542.z (okLd (j := 0) na3 s543 (m544.cl) rfl rfl) rfl fun a545 p546 s547 => ?_
    have s548 := p546.o (p542.o (p538.o (p521.o (p516.o (p512.o (p509.o (p501.o (p492.o (p488.o (p484.o s480 rfl) rfl) rfl) rfl) rfl) rfl) rfl) rfl) rfl) rfl) rfl
    refine s1 p546.z (okMv s548) rfl fun a549 p550 s551 => ?_
    have s552 := p550.o s547 rfl
    refine s1 p550.z (okEq s552 s551) rfl fun a553 p554 s555 => ?_
    refine s1 p554.z (okMv s555) rfl fun a556 p557 s558 => ?_
    refine cutP 2 (fun a' => Pg Try.f14.ntmps [65, 66] a556 a' ∧ a'.eval (.tmp 66) = .bool ((x0.kind == 3) && t497.2)) ?_ ?_
    · rcases bf (x0.kind == 3) with hb559 | hb559
      · have s560 := bv s558 hb559
        refine s1k p557.z rfl (yd p557.z rfl rfl s560) rfl fun a561 p562 s563 => ?_
        have s564 := p562.o s560 rfl
        refine s1 p562.z (okPickF s564 cst) rfl fun a565 p566 s567 => ?_
        exact rN ⟨rfl, rfl, (((Pg.refl p557.z).st p562 rfl).st p566 rfl), (andF hb559 s567)⟩
      · have s568 := bv s558 hb559
        have s569 := p557.o (p554.o (p550.o (p546.o (p542.o s539 rfl) rfl) rfl) rfl) rfl
        refine s1g p557.z (okMv s569) rfl (yd p557.z rfl rfl s568) fun a570 p571 s572 => ?_
        have s573 := p571.o s568 rfl
        refine s1 p571.z (okPickT s573 s572) rfl fun a574 p575 s576 => ?_
        exact rN ⟨rfl, rfl, (((Pg.refl p557.z).st p571 rfl).st p575 rfl), (andT hb559 s576)⟩
    rintro a577 ⟨pg578, s579⟩
    refine s1 pg578.z (okAs s579) rfl fun a580 p581 s582 => ?_
    refine rN (thenN ?_)
    obtain rfl := Option.some.inj h
    exact wp_ret (ret1 p581.z Try.results14 (rvT s582) ⟨_, rfl, rfl, cx535.g⟩)
  replace h := (ifN hb477).symm.trans h
  refine wp_seq ?_
  refine reg ?_
  refine s1 pg476.z (okEq s475 cst) rfl fun a583 p584 s585 => ?_
  refine s1 p584.z (okAs s585) rfl fun a586 p587 s588 => ?_
  refine rN (thenN ?_)
  refine cnd s588 (fun hb589 => ?_) (fun hb589 => ?_)
  · replace h := (ifP hb589).symm.trans h
    refine wp_seq ?_
    refine reg ?_
    refine s1 p587.z (okAs cst) rfl fun a590 p591 s592 => ?_
    refine rN (thenN ?_)
    refine reg ?_
    have s593 := p591.o (p587.o (p584.o (pg476.o s223 rfl) rfl) rfl) rfl
    refine s1 p591.z (okFA (o' := 0) fo29_0 s593 rfl) rfl fun a594 p595 s596 => ?_
    refine lS (oSto (cs := [.int .i64 2]) (l' := TNote.C (⟨2, 0⟩ : TNote)) p595.z s596 cst m204 Try.sizeOf3 rfl one1 rfl rfl fun w597 m598 g599 => ?_)
    have cx600 := cx206.st g599 f201
    refine rN (blkN (thenN ?_))
    refine wp_seq ?_
    refine reg ?_
    have s601 := p595.o (p591.o (p587.o (p584.o (pg476.o (pg225.o (pg80.o s63 rfl) rfl) rfl) rfl) rfl) rfl) rfl
    have m602 := ((m199.g0 g197).g1 g205 (m199.ne e198)).g1 g599 (m199.ne e198)
    refine s1 p595.z (okLdA ag25 s601 (m602.cl) rfl rfl whole) rfl fun a603 p604 s605 => ?_
    have s606 := p604.o (p595.o (p591.o (p587.o (p584.o (pg476.o (pg225.o (pg80.o s62 rfl) rfl) rfl) rfl) rfl) rfl) rfl) rfl
    refine s1 p604.z (okMv s606) rfl fun a607 p608 s609 => ?_
    have s610 := p608.o (p604.o (p595.o s593 rfl) rfl) rfl
    refine s1 p608.z (okLdA ag29 s610 (m598.cl) rfl rfl whole) rfl fun a611 p612 s613 => ?_
    have s614 := p612.o (p608.o s605 rfl) rfl
    have s615 := p612.o s609 rfl
    have q616 := qh0_0.mono (((((g6.tA (Nat.le_of_eq e7.symm)).trans (g16.tA (Nat.le_of_eq e17.symm))).trans (g197.tA (Nat.le_of_eq e198.symm))).trans (g205.t1 (.head _))).trans (g599.t1 (.head _)))
    obtain ⟨t617, ht618, h⟩ := Option.bind_eq_some_iff.1 h
    refine lS (oCall p612.z Try.call11 (ag3 s614 s615 s613) (c11 k (b194 :: b13 :: b3 :: L) w597 cx600.lt _ _ q616 _ _ _ ht618) rfl fun v622 a619 w620 hp623 p621 sp621 => ?_)
    obtain ⟨h624, rfl, q625, g626⟩ := hp623
    have cx627 := cx600.ca g626
    refine s1 p621.z (okMv sp621) rfl fun a628 p629 s630 => ?_
    refine s1 p629.z (okExt (vs := [_, _]) s630 rfl) rfl fun a631 p632 s633 => ?_
    have s634 := p632.o s630 rfl
    refine s1 p632.z (okExt (vs := [_, _]) s634 rfl) rfl fun a635 p636 s637 => ?_
    have m645 := m602.g0 g626
    have m646 := (m211.g1 g599 (m15.ne e198)).g0 g626
    have m647 := m598.g0 g626
    refine lS (oAlloc zv25 p636.z rfl fun a638 w639 b640 p641 sp641 m642 g643 e644 => ?_)
    have f649 := cx627.nw e644
    have cx648 := cx627.al g643 m642
    have s650 := p641.o (p636.o s633 rfl) rfl
    have q651 := q625.mono (g643.tA (Nat.le_of_eq e644.symm))
    refine lS (oStoW (cs := TThing.C t617.1 h624) p641.z sp641 s650 m642 Try.sizeOf25 rfl (TThing.C_one _ q651.one) rfl fun w652 m653 g654 => ?_)
    have cx655 := cx648.st g654 f649
    have s656 := p641.o s637 rfl
    refine s1 p641.z (okAs s656) rfl fun a657 p658 s659 => ?_
    refine rN (thenN ?_)
    refine wp_seq ?_
    refine reg ?_
    have s660 := p658.o (p641.o (p636.o (p632.o (p629.o (p621.o (p612.o (p608.o (p604.o s601 rfl) rfl) rfl) rfl) rfl) rfl) rfl) rfl) rfl
    refine s1 p658.z (okFA (o' := 0) fo25_0 s660 rfl) rfl fun a661 p662 s663 => ?_
    have m664 := (m645.g0 g643).g1 g654 (m645.ne e644)
    refine s1 p662.z (okLd (j := 0) na3 s663 (m664.cl) rfl rfl) rfl fun a665 p666 s667 => ?_
    have s668 := p666.o (p662.o (p658.o (p641.o (p636.o (p632.o (p629.o (p621.o (p612.o (p608.o (p604.o (p595.o s592 rfl) rfl) rfl) rfl) rfl) rfl) rfl) rfl) rfl) rfl) rfl) rfl
    refine s1 p666.z (okMv s668) rfl fun a669 p670 s671 => ?_
    have s672 := p670.o s667 rfl
    refine s1 p670.z (okEq s672 s671) rfl fun a673 p674 s675 => ?_
    refine s1 p674.z (okMv s675) rfl fun a676 p677 s678 => ?_
    refine cutP 2 (fun a' => Pg Try.f14.ntmps [65, 66] a676 a' ∧ a'.eval (.tmp 66) = .bool ((x0.kind == 4) && t617.2)) ?_ ?_
    · rcases bf (x0.kind == 4) with hb679 | hb679
      · have s680 := bv s678 hb679
        refine s1k p677.z rfl (yd p677.z rfl rfl s680) rfl fun a681 p682 s683 => ?_
        have s684 := p682.o s680 rfl
        refine s1 p682.z (okPickF s684 cst) rfl fun a685 p686 s687 => ?_
        exact rN ⟨rfl, rfl, (((Pg.refl p677.z).st p682 rfl).st p686 rfl), (andF hb679 s687)⟩
      · have s688 := bv s678 hb679
        have s689 := p677.o (p674.o (p670.o (p666.o (p662.o s659 rfl) rfl) rfl) rfl) rfl
        refine s1g p677.z (okMv s689) rfl (yd p677.z rfl rfl s688) fun a690 p691 s692 => ?_
        have s693 := p691.o s688 rfl
        refine s1 p691.z (okPickT s693 s692) rfl fun a694 p695 s696 => ?_
        exact rN ⟨rfl, rfl, (((Pg.refl p677.z).st p691 rfl).st p695 rfl), (andT hb679 s696)⟩
    rintro a697 ⟨pg698, s699⟩
    refine s1 pg698.z (okAs s699) rfl fun a700 p701 s702 => ?_
    refine rN (thenN ?_)
    obtain rfl := Option.some.inj h
    exact wp_ret (ret1 p701.z Try.results14 (rvT s702) ⟨_, rfl, rfl, cx655.g⟩)
  replace h := (ifN hb589).symm.trans h
  refine wp_seq ?_
  refine reg ?_
  have s703 := p587.o (p584.o s475 rfl) rfl
  refine s1 p587.z (okEq s703 cst) rfl fun a704 p705 s706 => ?_
  refine s1 p705.z (okAs s706) rfl fun a707 p708 s709 => ?_
  refine rN (thenN ?_)
  have pg710 : Pg _ [47, 48, 50, 51] _ _ := (((((Pg.refl pg476.z).st p584 rfl).st p587 rfl).st p705 rfl).st p708 rfl)
  refine cnd s709 (fun hb711 => ?_) (fun hb711 => ?_)
  · replace h := (ifP hb711).symm.trans h
    refine wp_seq ?_
    refine reg ?_
    refine s1 pg710.z (okAs cst) rfl fun a712 p713 s714 => ?_
    refine rN (thenN ?_)
    refine reg ?_
    have s715 := p713.o (pg710.o (pg476.o s223 rfl) rfl) rfl
    refine s1 p713.z (okFA (o' := 1) fo29_1 s715 rfl) rfl fun a716 p717 s718 => ?_
    refine lS (oSto (cs := [.int .i64 1]) (l' := TNote.C (⟨1, 1⟩ : TNote)) p717.z s718 cst m204 Try.sizeOf2 rfl one1 rfl rfl fun w719 m720 g721 => ?_)
    have cx722 := cx206.st g721 f201
    refine rN (blkN (thenN ?_))
    refine wp_seq ?_
    refine reg ?_
    have s723 := p717.o (p713.o (pg710.o (pg476.o (pg225.o (pg80.o s63 rfl) rfl) rfl) rfl) rfl) rfl
    have m724 := ((m199.g0 g197).g1 g205 (m199.ne e198)).g1 g721 (m199.ne e198)
    refine s1 p717.z (okLdA ag25 s723 (m724.cl) rfl rfl whole) rfl fun a725 p726 s727 => ?_
    have s728 := p726.o (p717.o (p713.o (pg710.o (pg476.o (pg225.o (pg80.o s62 rfl) rfl) rfl) rfl) rfl) rfl) rfl
    refine s1 p726.z (okMv s728) rfl fun a729 p730 s731 => ?_
    have s732 := p730.o (p726.o (p717.o s715 rfl) rfl) rfl
    refine s1 p730.z (okLdA ag29 s732 (m720.cl) rfl rfl whole) rfl fun a733 p734 s735 => ?_
    have s736 := p734.o (p730.o s727 rfl) rfl
    have s737 := p734.o s731 rfl
    have q738 := qh0_0.mono (((((g6.tA (Nat.le_of_eq e7.symm)).trans (g16.tA (Nat.le_of_eq e17.symm))).trans (g197.tA (Nat.le_of_eq e198.symm))).trans (g205.t1 (.head _))).trans (g721.t1 (.head _)))
    obtain ⟨t739, ht740, h⟩ := Option.bind_eq_some_iff.1 h
    refine lS (oCall p734.z Try.call11 (ag3 s736 s737 s735) (c11 k (b194 :: b13 :: b3 :: L) w719 cx722.lt _ _ q738 _ _ _ ht740) rfl fun v744 a741 w742 hp745 p743 sp743 => ?_)
    obtain ⟨h746, rfl, q747, g748⟩ := hp745
    have cx749 := cx722.ca g748
    refine s1 p743.z (okMv sp743) rfl fun a750 p751 s752 => ?_
    refine s1 p751.z (okExt (vs := [_, _]) s752 rfl) rfl fun a753 p754 s755 => ?_
    have s756 := p754.o s752 rfl
    refine s1 p754.z (okExt (vs := [_, _]) s756 rfl) rfl fun a757 p758 s759 => ?_
    have m767 := m724.g0 g748
    have m768 := (m211.g1 g721 (m15.ne e198)).g0 g748
    have m769 := m720.g0 g748
    refine lS (oAlloc zv25 p758.z rfl fun a760 w761 b762 p763 sp763 m764 g765 e766 => ?_)
    have f771 := cx749.nw e766
    have cx770 := cx749.al g765 m764
    have s772 := p763.o (p758.o s755 rfl) rfl
    have q773 := q747.mono (g765.tA (Nat.le_of_eq e766.symm))
    refine lS (oStoW (cs := TThing.C t739.1 h746) p763.z sp763 s772 m764 Try.sizeOf25 rfl (TThing.C_one _ q773.one) rfl fun w774 m775 g776 => ?_)
    have cx777 := cx770.st g776 f771
    have s778 := p763.o s759 rfl
    refine s1 p763.z (okAs s778) rfl fun a779 p780 s781 => ?_
    refine rN (thenN ?_)
    refine wp_seq ?_
    refine reg ?_
    have s782 := p780.o (p763.o (p758.o (p754.o (p751.o (p743.o (p734.o (p730.o (p726.o s723 rfl) rfl) rfl) rfl) rfl) rfl) rfl) rfl) rfl
    refine s1 p780.z (okFA (o' := 0) fo25_0 s782 rfl) rfl fun a783 p784 s785 => ?_
    have m786 := (m767.g0 g765).g1 g776 (m767.ne e766)
    refine s1 p784.z (okLd (j := 0) na3 s785 (m786.cl) rfl rfl) rfl fun a787 p788 s789 => ?_
    have s790 := p788.o (p784.o (p780.o (p763.o (p758.o (p754.o (p751.o (p743.o (p734.o (p730.o (p726.o (p717.o s714 rfl) rfl) rfl) rfl) rfl) rfl) rfl) rfl) rfl) rfl) rfl) rfl
    refine s1 p788.z (okMv s790) rfl fun a791 p792 s793 => ?_
    have s794 := p792.o s789 rfl
    refine s1 p792.z (okEq s794 s793) rfl fun a795 p796 s797 => ?_
    refine s1 p796.z (okMv s797) rfl fun a798 p799 s800 => ?_
    refine cutP 2 (fun a' => Pg Try.f14.ntmps [65, 66] a798 a' ∧ a'.eval (.tmp 66) = .bool ((x0.kind == 4) && t739.2)) ?_ ?_
    · rcases bf (x0.kind == 4) with hb801 | hb801
      · have s802 := bv s800 hb801
        refine s1k p799.z rfl (yd p799.z rfl rfl s802) rfl fun a803 p804 s805 => ?_
        have s806 := p804.o s802 rfl
        refine s1 p804.z (okPickF s806 cst) rfl fun a807 p808 s809 => ?_
        exact rN ⟨rfl, rfl, (((Pg.refl p799.z).st p804 rfl).st p808 rfl), (andF hb801 s809)⟩
      · have s810 := bv s800 hb801
        have s811 := p799.o (p796.o (p792.o (p788.o (p784.o s781 rfl) rfl) rfl) rfl) rfl
        refine s1g p799.z (okMv s811) rfl (yd p799.z rfl rfl s810) fun a812 p813 s814 => ?_
        have s815 := p813.o s810 rfl
        refine s1 p813.z (okPickT s815 s814) rfl fun a816 p817 s818 => ?_
        exact rN ⟨rfl, rfl, (((Pg.refl p799.z).st p813 rfl).st p817 rfl), (andT hb801 s818)⟩
    rintro a819 ⟨pg820, s821⟩
    refine s1 pg820.z (okAs s821) rfl fun a822 p823 s824 => ?_
    refine rN (thenN ?_)
    obtain rfl := Option.some.inj h
    exact wp_ret (ret1 p823.z Try.results14 (rvT s824) ⟨_, rfl, rfl, cx777.g⟩)
  replace h := (ifN hb711).symm.trans h
  refine wp_skip (blkN (thenN ?_))
  refine wp_seq ?_
  refine reg ?_
  have s825 := pg710.o (pg476.o (pg225.o (pg80.o s63 rfl) rfl) rfl) rfl
  have m826 := (m199.g0 g197).g1 g205 (m199.ne e198)
  refine s1 pg710.z (okLdA ag25 s825 (m826.cl) rfl rfl whole) rfl fun a827 p828 s829 => ?_
  have s830 := p828.o (pg710.o (pg476.o (pg225.o (pg80.o s62 rfl) rfl) rfl) rfl) rfl
  refine s1 p828.z (okMv s830) rfl fun a831 p832 s833 => ?_
  have s834 := p832.o (p828.o (pg710.o (pg476.o s223 rfl) rfl) rfl) rfl
  refine s1 p832.z (okLdA ag29 s834 (m204.cl) rfl rfl whole) rfl fun a835 p836 s837 => ?_
  have s838 := p836.o (p832.o s829 rfl) rfl
  have s839 := p836.o s833 rfl
  have q840 := qh0_0.mono ((((g6.tA (Nat.le_of_eq e7.symm)).trans (g16.tA (Nat.le_of_eq e17.symm))).trans (g197.tA (Nat.le_of_eq e198.symm))).trans (g205.t1 (.head _)))
  obtain ⟨t841, ht842, h⟩ := Option.bind_eq_some_iff.1 h
  refine lS (oCall p836.z Try.call11 (ag3 s838 s839 s837) (c11 k (b194 :: b13 :: b3 :: L) w203 cx206.lt _ _ q840 _ _ _ ht842) rfl fun v846 a843 w844 hp847 p845 sp845 => ?_)
  obtain ⟨h848, rfl, q849, g850⟩ := hp847
  have cx851 := cx206.ca g850
  refine s1 p845.z (okMv sp845) rfl fun a852 p853 s854 => ?_
  refine s1 p853.z (okExt (vs := [_, _]) s854 rfl) rfl fun a855 p856 s857 => ?_
  have s858 := p856.o s854 rfl
  refine s1 p856.z (okExt (vs := [_, _]) s858 rfl) rfl fun a859 p860 s861 => ?_
  have m869 := m826.g0 g850
  have m870 := m211.g0 g850
  have m871 := m204.g0 g850
  refine lS (oAlloc zv25 p860.z rfl fun a862 w863 b864 p865 sp865 m866 g867 e868 => ?_)
  have f873 := cx851.nw e868
  have cx872 := cx851.al g867 m866
  have s874 := p865.o (p860.o s857 rfl) rfl
  have q875 := q849.mono (g867.tA (Nat.le_of_eq e868.symm))
  refine lS (oStoW (cs := TThing.C t841.1 h848) p865.z sp865 s874 m866 Try.sizeOf25 rfl (TThing.C_one _ q875.one) rfl fun w876 m877 g878 => ?_)
  have cx879 := cx872.st g878 f873
  have s880 := p865.o s861 rfl
  refine s1 p865.z (okAs s880) rfl fun a881 p882 s883 => ?_
  refine rN (thenN ?_)
  refine wp_seq ?_
  refine reg ?_
  have s884 := p882.o (p865.o (p860.o (p856.o (p853.o (p845.o (p836.o (p832.o (p828.o s825 rfl) rfl) rfl) rfl) rfl) rfl) rfl) rfl) rfl
  refine s1 p882.z (okFA (o' := 0) fo25_0 s884 rfl) rfl fun a885 p886 s887 => ?_
  have m888 := (m869.g0 g867).g1 g878 (m869.ne e868)
  refine s1 p886.z (okLd (j := 0) na3 s887 (m888.cl) rfl rfl) rfl fun a889 p890 s891 => ?_
  have s892 := p890.o (p886.o (p882.o (p865.o (p860.o (p856.o (p853.o (p845.o (p836.o (p832.o (p828.o (pg710.o (pg476.o s222 rfl) rfl) rfl) rfl) rfl) rfl) rfl) rfl) rfl) rfl) rfl) rfl) rfl
  refine s1 p890.z (okMv s892) rfl fun a893 p894 s895 => ?_
  have s896 := p894.o s891 rfl
  refine s1 p894.z (okEq s896 s895) rfl fun a897 p898 s899 => ?_
  refine s1 p898.z (okMv s899) rfl fun a900 p901 s902 => ?_
  refine cutP 2 (fun a' => Pg Try.f14.ntmps [65, 66] a900 a' ∧ a'.eval (.tmp 66) = .bool ((x0.kind == 0) && t841.2)) ?_ ?_
  · rcases bf (x0.kind == 0) with hb903 | hb903
    · have s904 := bv s902 hb903
      refine s1k p901.z rfl (yd p901.z rfl rfl s904) rfl fun a905 p906 s907 => ?_
      have s908 := p906.o s904 rfl
      refine s1 p906.z (okPickF s908 cst) rfl fun a909 p910 s911 => ?_
      exact rN ⟨rfl, rfl, (((Pg.refl p901.z).st p906 rfl).st p910 rfl), (andF hb903 s911)⟩
    · have s912 := bv s902 hb903
      have s913 := p901.o (p898.o (p894.o (p890.o (p886.o s883 rfl) rfl) rfl) rfl) rfl
      refine s1g p901.z (okMv s913) rfl (yd p901.z rfl rfl s912) fun a914 p915 s916 => ?_
      have s917 := p915.o s912 rfl
      refine s1 p915.z (okPickT s917 s916) rfl fun a918 p919 s920 => ?_
      exact rN ⟨rfl, rfl, (((Pg.refl p901.z).st p915 rfl).st p919 rfl), (andT hb903 s920)⟩
  rintro a921 ⟨pg922, s923⟩
  refine s1 pg922.z (okAs s923) rfl fun a924 p925 s926 => ?_
  refine rN (thenN ?_)
  obtain rfl := Option.some.inj h
  exact wp_ret (ret1 p925.z Try.results14 (rvT s926) ⟨_, rfl, rfl, cx879.g⟩)

set_option maxHeartbeats 4000000 in
theorem c4 (k : Nat) (L : List Nat) (w : World) (hL : ∀ b ∈ L, b < w.heap.size) (x0 : TObject) (x1 : TThing) (h1_0 : Value) (qh1_0 : RdS KTWaiter L w h1_0 x1.waiters) (x2 : Int) (x3 : TNote) (x4 : TOp) (r : Bool) (h : tholelaw10_ModelDoes k x0 x1 x2 x3 x4 = some r) : Calls Try.prog 4 #[.agg (TObject.C x0).toArray, .agg (TThing.C x1 h1_0).toArray, .int .i64 x2, .agg (TNote.C x3).toArray, .agg (TOp.C x4).toArray] w (fun e w' => ∃ v, e = .returned v ∧ v = .bool r ∧ G [] w w') := by
  refine enterF Try.func4 rfl rfl fun a0 z0 A => ?_
  have s0_0 := A 0 (.agg (TObject.C x0).toArray) rfl
  have s0_1 := A 1 (.agg (TThing.C x1 h1_0).toArray) rfl
  have s0_2 := A 2 (.int .i64 x2) rfl
  have s0_3 := A 3 (.agg (TNote.C x3).toArray) rfl
  have s0_4 := A 4 (.agg (TOp.C x4).toArray) rfl
  clear A
  have c0 : Cx [] w L w := ⟨G.refl _ _, hL⟩
  unfold tholelaw10_ModelDoes at h
  refine wp_seq ?_
  refine reg ?_
  refine lS (oBox (l := TObject.C x0) z0 s0_0 rfl rfl fun a1 w2 b3 p4 sp4 m5 g6 e7 => ?_)
  have f9 := c0.nw e7
  have cx8 := c0.al g6 m5
  have s10 := p4.o s0_1 rfl
  refine lS (oBox (l := TThing.C x1 h1_0) p4.z s10 rfl rfl fun a11 w12 b13 p14 sp14 m15 g16 e17 => ?_)
  have f19 := cx8.nw e17
  have cx18 := cx8.al g16 m15
  have s20 := p14.o (p4.o s0_3 rfl) rfl
  have m28 := m5.g0 g16
  refine lS (oBox (l := TNote.C x3) p14.z s20 rfl rfl fun a21 w22 b23 p24 sp24 m25 g26 e27 => ?_)
  have f30 := cx18.nw e27
  have cx29 := cx18.al g26 m25
  have s31 := p24.o (p14.o (p4.o s0_4 rfl) rfl) rfl
  have m39 := m28.g0 g26
  have m40 := m15.g0 g26
  refine lS (oBox (l := TOp.C x4) p24.z s31 rfl rfl fun a32 w33 b34 p35 sp35 m36 g37 e38 => ?_)
  have f42 := cx29.nw e38
  have cx41 := cx29.al g37 m36
  refine s1 p35.z (okAs cst) rfl fun a43 p44 s45 => ?_
  refine rN (thenN ?_)
  refine wp_seq ?_
  refine reg ?_
  obtain ⟨t46, ht47, h⟩ := Option.bind_eq_some_iff.1 h
  refine lS (oCall p44.z Try.call5 (ag0 ) (c5 k (b34 :: b23 :: b13 :: b3 :: L) w33 cx41.lt  _ ht47) rfl fun v51 a48 w49 hp52 p50 sp50 => ?_)
  obtain ⟨rfl, g53⟩ := hp52
  have cx54 := cx41.ca g53
  refine s1 p50.z (okAs sp50) rfl fun a55 p56 s57 => ?_
  refine rN (thenN ?_)
  refine wp_seq ?_
  refine reg ?_
  have s58 := p56.o (p50.o (p44.o (p35.o (p24.o sp14 rfl) rfl) rfl) rfl) rfl
  have m59 := (m40.g0 g37).g0 g53
  refine s1 p56.z (okLdA ag25 s58 (m59.cl) rfl rfl whole) rfl fun a60 p61 s62 => ?_
  have q63 := qh1_0.mono (((((g6.tA (Nat.le_of_eq e7.symm)).trans (g16.tA (Nat.le_of_eq e17.symm))).trans (g26.tA (Nat.le_of_eq e27.symm))).trans (g37.tA (Nat.le_of_eq e38.symm))).trans g53.t0)
  obtain ⟨t64, ht65, h⟩ := Option.bind_eq_some_iff.1 h
  refine lS (oCall p61.z Try.call6 (ag1 s62) (c6 k (b34 :: b23 :: b13 :: b3 :: L) w49 cx54.lt _ _ q63 _ ht65) rfl fun v69 a66 w67 hp70 p68 sp68 => ?_)
  obtain ⟨rfl, g71⟩ := hp70
  have cx72 := cx54.ca g71
  refine s1 p68.z (okAs sp68) rfl fun a73 p74 s75 => ?_
  refine rN (thenN ?_)
  refine wp_seq ?_
  refine wp_seq ?_
  refine reg ?_
  refine s1 p74.z (okMv s75) rfl fun a76 p77 s78 => ?_
  refine s1 p77.z (okNot s78) rfl fun a79 p80 s81 => ?_
  refine rN (thenN ?_)
  have s82 := p80.o (p77.o (p74.o (p68.o (p61.o (p56.o (p50.o (p44.o (p35.o (p24.o (p14.o sp4 rfl) rfl) rfl) rfl) rfl) rfl) rfl) rfl) rfl) rfl) rfl
  have s83 := p80.o (p77.o (p74.o (p68.o (p61.o s58 rfl) rfl) rfl) rfl) rfl
  have s84 := p80.o (p77.o (p74.o (p68.o (p61.o (p56.o (p50.o (p44.o (p35.o sp24 rfl) rfl) rfl) rfl) rfl) rfl) rfl) rfl) rfl
  have s85 := p80.o (p77.o (p74.o (p68.o (p61.o (p56.o (p50.o (p44.o sp35 rfl) rfl) rfl) rfl) rfl) rfl) rfl) rfl
  have s86 := p80.o (p77.o (p74.o (p68.o (p61.o (p56.o (p50.o s45 rfl) rfl) rfl) rfl) rfl) rfl) rfl
  have s87 := p80.o (p77.o (p74.o (p68.o (p61.o s57 rfl) rfl) rfl) rfl) rfl
  have pg88 : Pg _ [5, 6, 8, 9, 10, 11, 12, 17, 18, 19, 20, 21] _ _ := (((((((((((((Pg.refl z0).st p4 rfl).st p14 rfl).st p24 rfl).st p35 rfl).st p44 rfl).st p50 rfl).st p56 rfl).st p61 rfl).st p68 rfl).st p74 rfl).st p77 rfl).st p80 rfl)
  refine cnd s81 (fun hb89 => ?_) (fun hb89 => ?_)
  · replace h := (ifP hb89).symm.trans h
    refine wp_seq ?_
    refine reg ?_
    refine s1 pg88.z (okMv s87) rfl fun a90 p91 s92 => ?_
    refine s1 p91.z (okAs s92) rfl fun a93 p94 s95 => ?_
    refine rN (thenN ?_)
    obtain rfl := Option.some.inj h
    exact wp_ret (thenR (ret1 p94.z Try.results4 (rvT s95) ⟨_, rfl, rfl, cx72.g⟩))
  replace h := (ifN hb89).symm.trans h
  refine wp_skip (thenN ?_)
  refine wp_seq ?_
  refine wp_seq ?_
  obtain ⟨t100, ht101, h⟩ := Option.bind_eq_some_iff.1 h
  obtain ⟨t116, ht117, h⟩ := Option.bind_eq_some_iff.1 h
  obtain ⟨t129, ht130, h⟩ := Option.bind_eq_some_iff.1 h
  have s141 := pg88.o s0_2 rfl
  have m142 := ((m39.g0 g37).g0 g53).g0 g71
  have m143 := m59.g0 g71
  have m144 := ((m25.g0 g37).g0 g53).g0 g71
  have m145 := (m36.g0 g53).g0 g71
  refine regJ (fun a' w' => Z Try.f4.ntmps a' ∧ a'.eval (.tmp 2) = .int .i64 x2 ∧ a'.eval (.tmp 6) = ptr b13 0 ∧ a'.eval (.tmp 8) = ptr b23 0 ∧ a'.eval (.tmp 9) = ptr b34 0 ∧ a'.eval (.tmp 10) = .bool false ∧ a'.eval (.tmp 11) = .bool t46 ∧ a'.eval (.tmp 28) = .bool (!t129) ∧ Bk w' b3 (TObject.C x0) 36 ∧ Bk w' b13 (TThing.C x1 h1_0) 25 ∧ Bk w' b23 (TNote.C x3) 29 ∧ Bk w' b34 (TOp.C x4) 38 ∧ Cx [] w (b34 :: b23 :: b13 :: b3 :: L) w' ∧ Tr (b34 :: b23 :: b13 :: b3 :: L) w67 (b34 :: b23 :: b13 :: b3 :: L) w') ?_ ?_
  · refine regH (n := 6) [(0, fun w' => Cl w' b3 0 (TObject.C x0)), (2, fun w' => Cl w' b3 0 (TObject.C x0))] mixed rfl ?_
    have g146 := G.drew w67
    have cx147 := cx72.ca g146
    have m148 := m142.g0 g146
    refine hTakeW (i := 0) rfl (by kernel_rfl) (by kernel_rfl) (by kernel_rfl) nrm (.inr (.head _)) pg88.z (wN rfl) (fun _ h => okLdA ag36 s82 h rfl rfl whole) (m148.clp rfl) rfl fun a149 p150 sp150 => ?_
    have s151 := p150.o s82 rfl
    refine hTakeW (i := 2) rfl (by kernel_rfl) (by kernel_rfl) (by kernel_rfl) nrm (.inr (.tail _ (.head _))) p150.z (wN rfl) (fun _ h => okLdA ag36 s151 h rfl rfl whole) (m148.clp rfl) rfl fun a152 p153 sp153 => ?_
    have s154 := p153.o sp150 rfl
    refine hOne (i := 1) (by kernel_rfl) rfl (oCall p153.z Try.call9 (ag1 s154) (c9 (b34 :: b23 :: b13 :: b3 :: L) w67.drew cx147.lt _ _ ht101) rfl fun v158 a155 w156 hp159 p157 sp157 => ?_)
    obtain ⟨h160, rfl, q161, g162⟩ := hp159
    have cx163 := cx147.ca g162
    refine ⟨⟨.inl rfl, .inr fun h => h.g0 g162, trivial⟩, ?_⟩
    have s164 := p157.o sp153 rfl
    refine hOne (i := 3) (by kernel_rfl) rfl (oCall p157.z Try.call10 (ag1 s164) (c10 (b34 :: b23 :: b13 :: b3 :: L) w156 cx163.lt _ _ ht117) rfl fun v168 a165 w166 hp169 p167 sp167 => ?_)
    obtain ⟨h170, rfl, q171, g172⟩ := hp169
    have cx173 := cx163.ca g172
    refine ⟨⟨.inr fun h => h.g0 g172, .inl rfl, trivial⟩, ?_⟩
    have s174 := p167.o sp157 rfl
    have q175 := q161.mono g172.t0
    refine hOne (i := 4) (by kernel_rfl) rfl (oCall p167.z Try.call8 (ag2 s174 sp167) (c8 k (b34 :: b23 :: b13 :: b3 :: L) w166 cx173.lt _ _ q175 _ _ q171 _ ht130) rfl fun v179 a176 w177 hp180 p178 sp178 => ?_)
    obtain ⟨rfl, g181⟩ := hp180
    have cx182 := cx173.ca g181
    refine ⟨⟨.inr fun h => h.g0 g181, .inr fun h => h.g0 g181, trivial⟩, ?_⟩
    refine hTakeW (i := 5) rfl (by kernel_rfl) (by kernel_rfl) (by kernel_rfl) nrm (cond := fun _ => True) (.inl fun _ => trivial) p178.z (wN rfl) (fun _ _ => okNot sp178) trivial rfl fun a183 p184 sp184 => ?_
    have s185 := p184.o (p178.o (p167.o (p157.o (p153.o (p150.o s141 rfl) rfl) rfl) rfl) rfl) rfl
    have s186 := p184.o (p178.o (p167.o (p157.o (p153.o (p150.o s83 rfl) rfl) rfl) rfl) rfl) rfl
    have s187 := p184.o (p178.o (p167.o (p157.o (p153.o (p150.o s84 rfl) rfl) rfl) rfl) rfl) rfl
    have s188 := p184.o (p178.o (p167.o (p157.o (p153.o (p150.o s85 rfl) rfl) rfl) rfl) rfl) rfl
    have s189 := p184.o (p178.o (p167.o (p157.o (p153.o (p150.o s86 rfl) rfl) rfl) rfl) rfl) rfl
    have s190 := p184.o (p178.o (p167.o (p157.o (p153.o (p150.o s87 rfl) rfl) rfl) rfl) rfl) rfl
    have m191 := ((m148.g0 g162).g0 g172).g0 g181
    have m192 := (((m143.g0 g146).g0 g162).g0 g172).g0 g181
    have m193 := (((m144.g0 g146).g0 g162).g0 g172).g0 g181
    have m194 := (((m145.g0 g146).g0 g162).g0 g172).g0 g181
    exact hDone (by kernel_rfl) ⟨rfl, p184.z, s185, s186, s187, s188, s189, s190, sp184, m191, m192, m193, m194, cx182, (((g146.t0.trans g162.t0).trans g172.t0).trans g181.t0)⟩
  rintro a195 w196 ⟨z197, s198, s199, s200, s201, s202, s203, s204, m205, m206, m207, m208, cx209, t210⟩
  refine thenN ?_
  refine cnd s204 (fun hb211 => ?_) (fun hb211 => ?_)
  · replace h := (ifP hb211).symm.trans h
    refine wp_seq ?_
    refine reg ?_
    refine s1 z197 (okAs cst) rfl fun a212 p213 s214 => ?_
    refine rN (thenN ?_)
    obtain rfl := Option.some.inj h
    exact wp_ret (thenR (ret1 p213.z Try.results4 (rvT s214) ⟨_, rfl, rfl, cx209.g⟩))
  replace h := (ifN hb211).symm.trans h
  refine wp_skip (thenN ?_)
  refine wp_seq ?_
  refine reg ?_
  refine s1 z197 (okLdA ag25 s199 (m206.cl) rfl rfl whole) rfl fun a215 p216 s217 => ?_
  have s218 := p216.o s198 rfl
  refine s1 p216.z (okMv s218) rfl fun a219 p220 s221 => ?_
  have s222 := p220.o (p216.o s200 rfl) rfl
  refine s1 p220.z (okLdA ag29 s222 (m207.cl) rfl rfl whole) rfl fun a223 p224 s225 => ?_
  have s226 := p224.o (p220.o s217 rfl) rfl
  have s227 := p224.o s221 rfl
  have q228 := q63.mono (g71.t0.trans t210)
  obtain ⟨t229, ht230, h⟩ := Option.bind_eq_some_iff.1 h
  refine lS (oCall p224.z Try.call7 (ag3 s226 s227 s225) (c7 k (b34 :: b23 :: b13 :: b3 :: L) w196 cx209.lt _ _ q228 _ _ _ ht230) rfl fun v234 a231 w232 hp235 p233 sp233 => ?_)
  obtain ⟨h236, rfl, q237, g238⟩ := hp235
  have cx239 := cx209.ca g238
  refine s1 p233.z (okMv sp233) rfl fun a240 p241 s242 => ?_
  refine s1 p241.z (okExt (vs := [_, _]) s242 rfl) rfl fun a243 p244 s245 => ?_
  have s246 := p244.o s242 rfl
  refine s1 p244.z (okExt (vs := [_, _]) s246 rfl) rfl fun a247 p248 s249 => ?_
  have m257 := m205.g0 g238
  have m258 := m206.g0 g238
  have m259 := m207.g0 g238
  have m260 := m208.g0 g238
  refine lS (oAlloc zv25 p248.z rfl fun a250 w251 b252 p253 sp253 m254 g255 e256 => ?_)
  have f262 := cx239.nw e256
  have cx261 := cx239.al g255 m254
  have s263 := p253.o (p248.o s245 rfl) rfl
  have q264 := q237.mono (g255.tA (Nat.le_of_eq e256.symm))
  refine lS (oStoW (cs := TThing.C t229.1 h236) p253.z sp253 s263 m254 Try.sizeOf25 rfl (TThing.C_one _ q264.one) rfl fun w265 m266 g267 => ?_)
  have cx268 := cx261.st g267 f262
  have s269 := p253.o s249 rfl
  refine s1 p253.z (okAs s269) rfl fun a270 p271 s272 => ?_
  refine rN (thenN ?_)
  refine wp_seq ?_
  obtain ⟨t279, ht280, h⟩ := Option.bind_eq_some_iff.1 h
  obtain ⟨t301, ht302, h⟩ := Option.bind_eq_some_iff.1 h
  have s346 := p271.o (p253.o (p248.o (p244.o (p241.o (p233.o (p224.o (p220.o s218 rfl) rfl) rfl) rfl) rfl) rfl) rfl) rfl
  have s347 := p271.o (p253.o (p248.o (p244.o (p241.o (p233.o (p224.o (p220.o (p216.o s199 rfl) rfl) rfl) rfl) rfl) rfl) rfl) rfl) rfl
  have s348 := p271.o (p253.o (p248.o (p244.o (p241.o (p233.o (p224.o (p220.o (p216.o s201 rfl) rfl) rfl) rfl) rfl) rfl) rfl) rfl) rfl
  have s349 := p271.o (p253.o (p248.o (p244.o (p241.o (p233.o (p224.o (p220.o (p216.o s202 rfl) rfl) rfl) rfl) rfl) rfl) rfl) rfl) rfl
  have s350 := p271.o (p253.o (p248.o (p244.o (p241.o (p233.o (p224.o (p220.o (p216.o s203 rfl) rfl) rfl) rfl) rfl) rfl) rfl) rfl) rfl
  have s351 := p271.o sp253 rfl
  have m352 := (m257.g0 g255).g1 g267 (m257.ne e256)
  have m353 := (m258.g0 g255).g1 g267 (m258.ne e256)
  have m354 := (m259.g0 g255).g1 g267 (m259.ne e256)
  have m355 := (m260.g0 g255).g1 g267 (m260.ne e256)
  refine regJ (fun a' w' => ∃ h308, ∃ b324 : Nat, Z Try.f4.ntmps a' ∧ a'.eval (.tmp 2) = .int .i64 x2 ∧ a'.eval (.tmp 6) = ptr b13 0 ∧ a'.eval (.tmp 9) = ptr b34 0 ∧ a'.eval (.tmp 10) = .bool false ∧ a'.eval (.tmp 11) = .bool t46 ∧ a'.eval (.tmp 13) = ptr b252 0 ∧ a'.eval (.tmp 14) = .bool t229.2 ∧ a'.eval (.tmp 15) = ptr b324 0 ∧ a'.eval (.tmp 16) = .bool t301.2 ∧ Bk w' b3 (TObject.C x0) 36 ∧ Bk w' b13 (TThing.C x1 h1_0) 25 ∧ Bk w' b23 (TNote.C x3) 29 ∧ Bk w' b34 (TOp.C x4) 38 ∧ Bk w' b252 (TThing.C t229.1 h236) 25 ∧ Bk w' b324 (TThing.C t301.1 h308) 25 ∧ RdS KTWaiter (b324 :: b252 :: b34 :: b23 :: b13 :: b3 :: L) w' h308 t301.1.waiters ∧ Cx [] w (b324 :: b252 :: b34 :: b23 :: b13 :: b3 :: L) w' ∧ Tr (b252 :: b34 :: b23 :: b13 :: b3 :: L) w265 (b324 :: b252 :: b34 :: b23 :: b13 :: b3 :: L) w' ∧ b3 ≠ b324 ∧ b13 ≠ b324 ∧ b23 ≠ b324 ∧ b34 ≠ b324 ∧ b252 ≠ b324 ∧ w.heap.size ≤ b324) ?_ ?_
  · refine regH (n := 11) [(0, fun w' => Cl w' b13 0 (TThing.C x1 h1_0)), (3, fun w' => Cl w' b23 0 (TNote.C x3))] mixed rfl ?_
    have g356 := G.drew w265
    have cx357 := cx268.ca g356
    have m358 := m353.g0 g356
    refine hTakeW (i := 0) rfl (by kernel_rfl) (by kernel_rfl) (by kernel_rfl) nrm (.inr (.head _)) p271.z (wN rfl) (fun _ h => okLdA ag25 s347 h rfl rfl whole) (m358.clp rfl) rfl fun a359 p360 sp360 => ?_
    have s361 := p360.o s346 rfl
    refine hTakeW (i := 2) rfl (by kernel_rfl) (by kernel_rfl) (by kernel_rfl) nrm (cond := fun _ => True) (.inl fun _ => trivial) p360.z (wN rfl) (fun _ _ => okMv s361) trivial rfl fun a362 p363 sp363 => ?_
    have s364 := p363.o (p360.o (p271.o (p253.o (p248.o (p244.o (p241.o (p233.o (p224.o s222 rfl) rfl) rfl) rfl) rfl) rfl) rfl) rfl) rfl
    have m365 := m354.g0 g356
    refine hTakeW (i := 3) rfl (by kernel_rfl) (by kernel_rfl) (by kernel_rfl) nrm (.inr (.tail _ (.head _))) p363.z (wN rfl) (fun _ h => okLdA ag29 s364 h rfl rfl whole) (m365.clp rfl) rfl fun a366 p367 sp367 => ?_
    refine hTwo (i := 1) (j := 8) (by kernel_rfl) rfl rfl rfl rfl ?_ ?_
    · have s368 := p367.o (p363.o sp360 rfl) rfl
      have q369 := q228.mono (((g238.t0.trans (g255.tA (Nat.le_of_eq e256.symm))).trans (g267.t1 (.head _))).trans g356.t0)
      refine (oCall p367.z Try.call12 (ag1 s368) (c12 (b252 :: b34 :: b23 :: b13 :: b3 :: L) w265.drew cx357.lt _ _ q369 _ ht280) rfl fun v373 a370 w371 hp374 p372 sp372 => ?_)
      obtain ⟨h375, rfl, q376, g377⟩ := hp374
      have cx378 := cx357.ca g377
      refine ⟨⟨.inl rfl, .inr fun h => h.g0 g377, trivial⟩, ?_⟩
      refine hTwo (i := 4) (j := 8) (by kernel_rfl) rfl rfl rfl rfl ?_ ?_
      · have s379 := p372.o (p367.o sp363 rfl) rfl
        have s380 := p372.o sp367 rfl
        refine (oCall p372.z Try.call11 (ag3 sp372 s379 s380) (c11 k (b252 :: b34 :: b23 :: b13 :: b3 :: L) w371 cx378.lt _ _ q376 _ _ _ ht302) rfl fun v384 a381 w382 hp385 p383 sp383 => ?_)
        obtain ⟨h386, rfl, q387, g388⟩ := hp385
        have cx389 := cx378.ca g388
        refine ⟨⟨.inr fun h => h.g0 g388, .inl rfl, trivial⟩, ?_⟩
        refine hTakeW (i := 5) rfl (by kernel_rfl) (by kernel_rfl) (by kernel_rfl) nrm (cond := fun _ => True) (.inl fun _ => trivial) p383.z (wN rfl) (fun _ _ => okMv sp383) trivial rfl fun a390 p391 sp391 => ?_
        refine hTakeW (i := 6) rfl (by kernel_rfl) (by kernel_rfl) (by kernel_rfl) nrm (cond := fun _ => True) (.inl fun _ => trivial) p391.z (wN rfl) (fun _ _ => okExt (vs := [_, _]) sp391 rfl) trivial rfl fun a392 p393 sp393 => ?_
        have s394 := p393.o sp391 rfl
        refine hTakeW (i := 7) rfl (by kernel_rfl) (by kernel_rfl) (by kernel_rfl) nrm (cond := fun _ => True) (.inl fun _ => trivial) p393.z (wN rfl) (fun _ _ => okExt (vs := [_, _]) s394 rfl) trivial rfl fun a395 p396 sp396 => ?_
        have m404 := ((m352.g0 g356).g0 g377).g0 g388
        have m405 := (m358.g0 g377).g0 g388
        have m406 := (m365.g0 g377).g0 g388
        have m407 := ((m355.g0 g356).g0 g377).g0 g388
        have m408 := ((m266.g0 g356).g0 g377).g0 g388
        refine hOne (i := 8) (by kernel_rfl) rfl (oAlloc zv25 p396.z rfl fun a397 w398 b399 p400 sp400 m401 g402 e403 => ?_)
        have f410 := cx389.nw e403
        have cx409 := cx389.al g402 m401
        refine ⟨⟨.inr fun h => h.g0 g402, .inr fun h => h.g0 g402, trivial⟩, ?_⟩
        have s411 := p400.o (p396.o sp393 rfl) rfl
        have q412 := q387.mono (g402.tA (Nat.le_of_eq e403.symm))
        refine hOne (i := 9) (by kernel_rfl) rfl (oStoW (cs := TThing.C t301.1 h386) p400.z sp400 s411 m401 Try.sizeOf25 rfl (TThing.C_one _ q412.one) rfl fun w413 m414 g415 => ?_)
        have cx416 := cx409.st g415 f410
        refine ⟨⟨.inl rfl, .inl rfl, trivial⟩, ?_⟩
        have s417 := p400.o sp396 rfl
        refine hTakeW (i := 10) rfl (by kernel_rfl) (by kernel_rfl) (by kernel_rfl) nrm (cond := fun _ => True) (.inl fun _ => trivial) p400.z (wN rfl) (fun _ _ => okAs s417) trivial rfl fun a418 p419 sp419 => ?_
        have q420 := q412.mono (g415.t1 (.head _))
        have s421 := p419.o (p400.o (p396.o (p393.o (p391.o (p383.o (p372.o (p367.o (p363.o s361 rfl) rfl) rfl) rfl) rfl) rfl) rfl) rfl) rfl
        have s422 := p419.o (p400.o (p396.o (p393.o (p391.o (p383.o (p372.o (p367.o (p363.o (p360.o s347 rfl) rfl) rfl) rfl) rfl) rfl) rfl) rfl) rfl) rfl
        have s423 := p419.o (p400.o (p396.o (p393.o (p391.o (p383.o (p372.o (p367.o (p363.o (p360.o s348 rfl) rfl) rfl) rfl) rfl) rfl) rfl) rfl) rfl) rfl
        have s424 := p419.o (p400.o (p396.o (p393.o (p391.o (p383.o (p372.o (p367.o (p363.o (p360.o s349 rfl) rfl) rfl) rfl) rfl) rfl) rfl) rfl) rfl) rfl
        have s425 := p419.o (p400.o (p396.o (p393.o (p391.o (p383.o (p372.o (p367.o (p363.o (p360.o s350 rfl) rfl) rfl) rfl) rfl) rfl) rfl) rfl) rfl) rfl
        have s426 := p419.o (p400.o (p396.o (p393.o (p391.o (p383.o (p372.o (p367.o (p363.o (p360.o s351 rfl) rfl) rfl) rfl) rfl) rfl) rfl) rfl) rfl) rfl
        have s427 := p419.o (p400.o (p396.o (p393.o (p391.o (p383.o (p372.o (p367.o (p363.o (p360.o s272 rfl) rfl) rfl) rfl) rfl) rfl) rfl) rfl) rfl) rfl
        have s428 := p419.o sp400 rfl
        have m429 := (m404.g0 g402).g1 g415 (m404.ne e403)
        have m430 := (m405.g0 g402).g1 g415 (m405.ne e403)
        have m431 := (m406.g0 g402).g1 g415 (m406.ne e403)
        have m432 := (m407.g0 g402).g1 g415 (m407.ne e403)
        have m433 := (m408.g0 g402).g1 g415 (m408.ne e403)
        exact hDone (by kernel_rfl) ⟨rfl, h386, b399, p419.z, s421, s422, s423, s424, s425, s426, s427, s428, sp419, m429, m430, m431, m432, m433, m414, q420, cx416, ((((g356.t0.trans g377.t0).trans g388.t0).trans (g402.tA (Nat.le_of_eq e403.symm))).trans (g415.t1 (.head _))), (m404.ne e403), (m405.ne e403), (m406.ne e403), (m407.ne e403), (m408.ne e403), f410⟩
      · have m441 := (m352.g0 g356).g0 g377
        have m442 := m358.g0 g377
        have m443 := m365.g0 g377
        have m444 := (m355.g0 g356).g0 g377
        have m445 := (m266.g0 g356).g0 g377
        refine (oAlloc zv25 p372.z rfl fun a434 w435 b436 p437 sp437 m438 g439 e440 => ?_)
        have f447 := cx378.nw e440
        have cx446 := cx378.al g439 m438
        refine ⟨⟨.inr fun h => h.g0 g439, .inr fun h => h.g0 g439, trivial⟩, ?_⟩
        have s448 := p437.o sp372 rfl
        have s449 := p437.o (p372.o (p367.o sp363 rfl) rfl) rfl
        have s450 := p437.o (p372.o sp367 rfl) rfl
        have q451 := q376.mono (g439.tA (Nat.le_of_eq e440.symm))
        refine hOne (i := 4) (by kernel_rfl) rfl (oCall p437.z Try.call11 (ag3 s448 s449 s450) (c11 k (b436 :: b252 :: b34 :: b23 :: b13 :: b3 :: L) w435 cx446.lt _ _ q451 _ _ _ ht302) rfl fun v455 a452 w453 hp456 p454 sp454 => ?_)
        obtain ⟨h457, rfl, q458, g459⟩ := hp456
        have cx460 := cx446.ca g459
        refine ⟨⟨.inr fun h => h.g0 g459, .inl rfl, trivial⟩, ?_⟩
        refine hTakeW (i := 5) rfl (by kernel_rfl) (by kernel_rfl) (by kernel_rfl) nrm (cond := fun _ => True) (.inl fun _ => trivial) p454.z (wN rfl) (fun _ _ => okMv sp454) trivial rfl fun a461 p462 sp462 => ?_
        refine hTakeW (i := 6) rfl (by kernel_rfl) (by kernel_rfl) (by kernel_rfl) nrm (cond := fun _ => True) (.inl fun _ => trivial) p462.z (wN rfl) (fun _ _ => okExt (vs := [_, _]) sp462 rfl) trivial rfl fun a463 p464 sp464 => ?_
        have s465 := p464.o sp462 rfl
        refine hTakeW (i := 7) rfl (by kernel_rfl) (by kernel_rfl) (by kernel_rfl) nrm (cond := fun _ => True) (.inl fun _ => trivial) p464.z (wN rfl) (fun _ _ => okExt (vs := [_, _]) s465 rfl) trivial rfl fun a466 p467 sp467 => ?_
        have s468 := p467.o (p464.o (p462.o (p454.o sp437 rfl) rfl) rfl) rfl
        have s469 := p467.o sp464 rfl
        have m470 := m438.g0 g459
        refine hOne (i := 9) (by kernel_rfl) rfl (oStoW (cs := TThing.C t301.1 h457) p467.z s468 s469 m470 Try.sizeOf25 rfl (TThing.C_one _ q458.one) rfl fun w471 m472 g473 => ?_)
        have cx474 := cx460.st g473 f447
        refine ⟨⟨.inl rfl, .inl rfl, trivial⟩, ?_⟩
        refine hTakeW (i := 10) rfl (by kernel_rfl) (by kernel_rfl) (by kernel_rfl) nrm (cond := fun _ => True) (.inl fun _ => trivial) p467.z (wN rfl) (fun _ _ => okAs sp467) trivial rfl fun a475 p476 sp476 => ?_
        have q477 := q458.mono (g473.t1 (.head _))
        have s478 := p476.o (p467.o (p464.o (p462.o (p454.o (p437.o (p372.o (p367.o (p363.o s361 rfl) rfl) rfl) rfl) rfl) rfl) rfl) rfl) rfl
        have s479 := p476.o (p467.o (p464.o (p462.o (p454.o (p437.o (p372.o (p367.o (p363.o (p360.o s347 rfl) rfl) rfl) rfl) rfl) rfl) rfl) rfl) rfl) rfl
        have s480 := p476.o (p467.o (p464.o (p462.o (p454.o (p437.o (p372.o (p367.o (p363.o (p360.o s348 rfl) rfl) rfl) rfl) rfl) rfl) rfl) rfl) rfl) rfl
        have s481 := p476.o (p467.o (p464.o (p462.o (p454.o (p437.o (p372.o (p367.o (p363.o (p360.o s349 rfl) rfl) rfl) rfl) rfl) rfl) rfl) rfl) rfl) rfl
        have s482 := p476.o (p467.o (p464.o (p462.o (p454.o (p437.o (p372.o (p367.o (p363.o (p360.o s350 rfl) rfl) rfl) rfl) rfl) rfl) rfl) rfl) rfl) rfl
        have s483 := p476.o (p467.o (p464.o (p462.o (p454.o (p437.o (p372.o (p367.o (p363.o (p360.o s351 rfl) rfl) rfl) rfl) rfl) rfl) rfl) rfl) rfl) rfl
        have s484 := p476.o (p467.o (p464.o (p462.o (p454.o (p437.o (p372.o (p367.o (p363.o (p360.o s272 rfl) rfl) rfl) rfl) rfl) rfl) rfl) rfl) rfl) rfl
        have s485 := p476.o s468 rfl
        have m486 := ((m441.g0 g439).g0 g459).g1 g473 (m441.ne e440)
        have m487 := ((m442.g0 g439).g0 g459).g1 g473 (m442.ne e440)
        have m488 := ((m443.g0 g439).g0 g459).g1 g473 (m443.ne e440)
        have m489 := ((m444.g0 g439).g0 g459).g1 g473 (m444.ne e440)
        have m490 := ((m445.g0 g439).g0 g459).g1 g473 (m445.ne e440)
        exact hDone (by kernel_rfl) ⟨rfl, h457, b436, p476.z, s478, s479, s480, s481, s482, s483, s484, s485, sp476, m486, m487, m488, m489, m490, m472, q477, cx474, ((((g356.t0.trans g377.t0).trans (g439.tA (Nat.le_of_eq e440.symm))).trans g459.t0).trans (g473.t1 (.head _))), (m441.ne e440), (m442.ne e440), (m443.ne e440), (m444.ne e440), (m445.ne e440), f447⟩
    · have m498 := m352.g0 g356
      have m499 := m355.g0 g356
      have m500 := m266.g0 g356
      refine (oAlloc zv25 p367.z rfl fun a491 w492 b493 p494 sp494 m495 g496 e497 => ?_)
      have f502 := cx357.nw e497
      have cx501 := cx357.al g496 m495
      refine ⟨⟨.inr fun h => h.g0 g496, .inr fun h => h.g0 g496, trivial⟩, ?_⟩
      have s503 := p494.o (p367.o (p363.o sp360 rfl) rfl) rfl
      have q504 := q228.mono ((((g238.t0.trans (g255.tA (Nat.le_of_eq e256.symm))).trans (g267.t1 (.head _))).trans g356.t0).trans (g496.tA (Nat.le_of_eq e497.symm)))
      refine hOne (i := 1) (by kernel_rfl) rfl (oCall p494.z Try.call12 (ag1 s503) (c12 (b493 :: b252 :: b34 :: b23 :: b13 :: b3 :: L) w492 cx501.lt _ _ q504 _ ht280) rfl fun v508 a505 w506 hp509 p507 sp507 => ?_)
      obtain ⟨h510, rfl, q511, g512⟩ := hp509
      have cx513 := cx501.ca g512
      refine ⟨⟨.inl rfl, .inr fun h => h.g0 g512, trivial⟩, ?_⟩
      have s514 := p507.o (p494.o (p367.o sp363 rfl) rfl) rfl
      have s515 := p507.o (p494.o sp367 rfl) rfl
      refine hOne (i := 4) (by kernel_rfl) rfl (oCall p507.z Try.call11 (ag3 sp507 s514 s515) (c11 k (b493 :: b252 :: b34 :: b23 :: b13 :: b3 :: L) w506 cx513.lt _ _ q511 _ _ _ ht302) rfl fun v519 a516 w517 hp520 p518 sp518 => ?_)
      obtain ⟨h521, rfl, q522, g523⟩ := hp520
      have cx524 := cx513.ca g523
      refine ⟨⟨.inr fun h => h.g0 g523, .inl rfl, trivial⟩, ?_⟩
      refine hTakeW (i := 5) rfl (by kernel_rfl) (by kernel_rfl) (by kernel_rfl) nrm (cond := fun _ => True) (.inl fun _ => trivial) p518.z (wN rfl) (fun _ _ => okMv sp518) trivial rfl fun a525 p526 sp526 => ?_
      refine hTakeW (i := 6) rfl (by kernel_rfl) (by kernel_rfl) (by kernel_rfl) nrm (cond := fun _ => True) (.inl fun _ => trivial) p526.z (wN rfl) (fun _ _ => okExt (vs := [_, _]) sp526 rfl) trivial rfl fun a527 p528 sp528 => ?_
      have s529 := p528.o sp526 rfl
      refine hTakeW (i := 7) rfl (by kernel_rfl) (by kernel_rfl) (by kernel_rfl) nrm (cond := fun _ => True) (.inl fun _ => trivial) p528.z (wN rfl) (fun _ _ => okExt (vs := [_, _]) s529 rfl) trivial rfl fun a530 p531 sp531 => ?_
      have s532 := p531.o (p528.o (p526.o (p518.o (p507.o sp494 rfl) rfl) rfl) rfl) rfl
      have s533 := p531.o sp528 rfl
      have m534 := (m495.g0 g512).g0 g523
      refine hOne (i := 9) (by kernel_rfl) rfl (oStoW (cs := TThing.C t301.1 h521) p531.z s532 s533 m534 Try.sizeOf25 rfl (TThing.C_one _ q522.one) rfl fun w535 m536 g537 => ?_)
      have cx538 := cx524.st g537 f502
      refine ⟨⟨.inl rfl, .inl rfl, trivial⟩, ?_⟩
      refine hTakeW (i := 10) rfl (by kernel_rfl) (by kernel_rfl) (by kernel_rfl) nrm (cond := fun _ => True) (.inl fun _ => trivial) p531.z (wN rfl) (fun _ _ => okAs sp531) trivial rfl fun a539 p540 sp540 => ?_
      have q541 := q522.mono (g537.t1 (.head _))
      have s542 := p540.o (p531.o (p528.o (p526.o (p518.o (p507.o (p494.o (p367.o (p363.o s361 rfl) rfl) rfl) rfl) rfl) rfl) rfl) rfl) rfl
      have s543 := p540.o (p531.o (p528.o (p526.o (p518.o (p507.o (p494.o (p367.o (p363.o (p360.o s347 rfl) rfl) rfl) rfl) rfl) rfl) rfl) rfl) rfl) rfl
      have s544 := p540.o (p531.o (p528.o (p526.o (p518.o (p507.o (p494.o (p367.o (p363.o (p360.o s348 rfl) rfl) rfl) rfl) rfl) rfl) rfl) rfl) rfl) rfl
      have s545 := p540.o (p531.o (p528.o (p526.o (p518.o (p507.o (p494.o (p367.o (p363.o (p360.o s349 rfl) rfl) rfl) rfl) rfl) rfl) rfl) rfl) rfl) rfl
      have s546 := p540.o (p531.o (p528.o (p526.o (p518.o (p507.o (p494.o (p367.o (p363.o (p360.o s350 rfl) rfl) rfl) rfl) rfl) rfl) rfl) rfl) rfl) rfl
      have s547 := p540.o (p531.o (p528.o (p526.o (p518.o (p507.o (p494.o (p367.o (p363.o (p360.o s351 rfl) rfl) rfl) rfl) rfl) rfl) rfl) rfl) rfl) rfl
      have s548 := p540.o (p531.o (p528.o (p526.o (p518.o (p507.o (p494.o (p367.o (p363.o (p360.o s272 rfl) rfl) rfl) rfl) rfl) rfl) rfl) rfl) rfl) rfl
      have s549 := p540.o s532 rfl
      have m550 := (((m498.g0 g496).g0 g512).g0 g523).g1 g537 (m498.ne e497)
      have m551 := (((m358.g0 g496).g0 g512).g0 g523).g1 g537 (m358.ne e497)
      have m552 := (((m365.g0 g496).g0 g512).g0 g523).g1 g537 (m365.ne e497)
      have m553 := (((m499.g0 g496).g0 g512).g0 g523).g1 g537 (m499.ne e497)
      have m554 := (((m500.g0 g496).g0 g512).g0 g523).g1 g537 (m500.ne e497)
      exact hDone (by kernel_rfl) ⟨rfl, h521, b493, p540.z, s542, s543, s544, s545, s546, s547, s548, s549, sp540, m550, m551, m552, m553, m554, m536, q541, cx538, ((((g356.t0.trans (g496.tA (Nat.le_of_eq e497.symm))).trans g512.t0).trans g523.t0).trans (g537.t1 (.head _))), (m498.ne e497), (m358.ne e497), (m365.ne e497), (m499.ne e497), (m500.ne e497), f502⟩
  rintro a555 w556 ⟨h558, b559, z557, s560, s561, s562, s563, s564, s565, s566, s567, s568, m569, m570, m571, m572, m573, m574, q575, cx576, t577, n578, n579, n580, n581, n582, n583⟩
  refine thenN ?_
  refine wp_seq ?_
  refine wp_seq ?_
  refine reg ?_
  refine s1 z557 (okMv s566) rfl fun a584 p585 s586 => ?_
  have s587 := p585.o s568 rfl
  refine s1 p585.z (okMv s587) rfl fun a588 p589 s590 => ?_
  have s591 := p589.o s586 rfl
  refine s1 p589.z (okBNe Try.underlying4 s591 s590) rfl fun a592 p593 s594 => ?_
  refine s1 p593.z (okMv s594) rfl fun a595 p596 s597 => ?_
  obtain ⟨b598, hb599, h⟩ := Option.bind_eq_some_iff.1 h
  refine cutL 5 (fun a' w' => Pg Try.f4.ntmps [48, 49, 50, 51, 52] a595 a' ∧ a'.eval (.tmp 52) = .bool b598 ∧ G [] w556 w') ?_ ?_
  · rcases bf (t229.2 != t301.2) with hb600 | hb600
    · have s601 := bv s597 hb600
      replace hb599 := (ifN hb600).symm.trans hb599
      clear h; have h := hb599; clear hb599
      have s602 := p596.o (p593.o (p589.o (p585.o s565 rfl) rfl) rfl) rfl
      refine s1g p596.z (okLdA ag25 s602 (m573.cl) rfl rfl whole) rfl (yd p596.z rfl rfl s601) fun a603 p604 s605 => ?_
      have s606 := p604.o s601 rfl
      have s607 := p604.o (p596.o (p593.o (p589.o (p585.o s567 rfl) rfl) rfl) rfl) rfl
      refine s1g p604.z (okLdA ag25 s607 (m574.cl) rfl rfl whole) rfl (yd p604.z rfl rfl s606) fun a608 p609 s610 => ?_
      have s611 := p609.o s606 rfl
      have s612 := p609.o s605 rfl
      have q613 := q264.mono ((g267.t1 (.head _)).trans t577)
      obtain ⟨t614, ht615, h⟩ := Option.bind_eq_some_iff.1 h
      refine lG rfl (yd p609.z rfl rfl s611) (oCall p609.z Try.call8 (ag2 s612 s610) (c8 k (b559 :: b252 :: b34 :: b23 :: b13 :: b3 :: L) w556 cx576.lt _ _ q613 _ _ q575 _ ht615) rfl fun v619 a616 w617 hp620 p618 sp618 => ?_)
      obtain ⟨rfl, g621⟩ := hp620
      have cx622 := cx576.ca g621
      have s623 := p618.o s611 rfl
      refine s1g p618.z (okNot sp618) rfl (yd p618.z rfl rfl s623) fun a624 p625 s626 => ?_
      have s627 := p625.o s623 rfl
      refine s1 p625.z (okPickF s627 s626) rfl fun a628 p629 s630 => ?_
      obtain rfl := Option.some.inj h
      exact rN ⟨rfl, ((((((Pg.refl p596.z).st p604 rfl).st p609 rfl).st p618 rfl).st p625 rfl).st p629 rfl), s630, g621⟩
    · have s631 := bv s597 hb600
      replace hb599 := (ifP hb600).symm.trans hb599
      clear h; have h := hb599; clear hb599
      refine s1k p596.z rfl (yd p596.z rfl rfl s631) rfl fun a632 p633 s634 => ?_
      have s635 := p633.o s631 rfl
      refine s1k p633.z rfl (yd p633.z rfl rfl s635) rfl fun a636 p637 s638 => ?_
      have s639 := p637.o s635 rfl
      refine s1k p637.z rfl (yd p637.z rfl rfl s639) rfl fun a640 p641 s642 => ?_
      have s643 := p641.o s639 rfl
      refine s1k p641.z rfl (yd p641.z rfl rfl s643) rfl fun a644 p645 s646 => ?_
      have s647 := p645.o s643 rfl
      refine s1 p645.z (okPickT s647 cst) rfl fun a648 p649 s650 => ?_
      obtain rfl := Option.some.inj h
      exact rN ⟨rfl, ((((((Pg.refl p596.z).st p633 rfl).st p637 rfl).st p641 rfl).st p645 rfl).st p649 rfl), s650, (G.refl _ _)⟩
  rintro a651 w654 ⟨pg652, s653, g655⟩
  have cx656 := cx576.ca g655
  refine rN (thenN ?_)
  have pg657 : Pg _ [44, 45, 46, 47, 48, 49, 50, 51, 52] _ _ := ((((((Pg.refl z557).st p585 rfl).st p589 rfl).st p593 rfl).st p596 rfl).tr pg652 rfl)
  refine cnd s653 (fun hb658 => ?_) (fun hb658 => ?_)
  · replace h := (ifP hb658).symm.trans h
    refine wp_seq ?_
    refine reg ?_
    refine s1 pg657.z (okAs cst) rfl fun a659 p660 s661 => ?_
    refine rN (thenN ?_)
    obtain rfl := Option.some.inj h
    exact wp_ret (thenR (ret1 p660.z Try.results4 (rvT s661) ⟨_, rfl, rfl, cx656.g⟩))
  replace h := (ifN hb658).symm.trans h
  refine wp_skip (thenN ?_)
  refine wp_seq ?_
  obtain ⟨b669, hb670, h⟩ := Option.bind_eq_some_iff.1 h
  have m790 := m569.g0 g655
  have m791 := m570.g0 g655
  have m792 := m571.g0 g655
  have m793 := m572.g0 g655
  have m794 := m573.g0 g655
  have m795 := m574.g0 g655
  refine regJ (fun a' w' => Z Try.f4.ntmps a' ∧ a'.eval (.tmp 10) = .bool b669 ∧ Bk w' b3 (TObject.C x0) 36 ∧ Bk w' b13 (TThing.C x1 h1_0) 25 ∧ Bk w' b23 (TNote.C x3) 29 ∧ Bk w' b34 (TOp.C x4) 38 ∧ Bk w' b252 (TThing.C t229.1 h236) 25 ∧ Bk w' b559 (TThing.C t301.1 h558) 25 ∧ Cx [] w (b559 :: b252 :: b34 :: b23 :: b13 :: b3 :: L) w' ∧ Tr (b559 :: b252 :: b34 :: b23 :: b13 :: b3 :: L) w654 (b559 :: b252 :: b34 :: b23 :: b13 :: b3 :: L) w') ?_ ?_
  · refine regH (n := 13) [(2, fun w' => Cl w' b13 0 (TThing.C x1 h1_0)), (4, fun w' => Cl w' b34 0 (TOp.C x4)), (6, fun w' => Cl w' b13 0 (TThing.C x1 h1_0)), (8, fun w' => Cl w' b34 0 (TOp.C x4))] mixed rfl ?_
    have g796 := G.drew w654
    have cx797 := cx656.ca g796
    have s798 := pg657.o s564 rfl
    refine hTakeW (i := 0) rfl (by kernel_rfl) (by kernel_rfl) (by kernel_rfl) nrm (cond := fun _ => True) (.inl fun _ => trivial) pg657.z (wN rfl) (fun _ _ => okMv s798) trivial rfl fun a799 p800 sp800 => ?_
    refine hTakeW (i := 1) rfl (by kernel_rfl) (by kernel_rfl) (by kernel_rfl) nrm (cond := fun _ => True) (.inl fun _ => trivial) p800.z (wN rfl) (fun _ _ => okMv sp800) trivial rfl fun a801 p802 sp802 => ?_
    rcases bf t46 with hb803 | hb803
    · have s804 := bv sp802 hb803
      replace h := (ifN hb803).symm.trans hb670
      refine hSkip (i := 2) rfl (by kernel_rfl) (by kernel_rfl) (by kernel_rfl) nrm rfl p802.z (yd p802.z rfl rfl s804) rfl rfl fun a806 p807 sp807 => ?_
      have s808 := p807.o s804 rfl
      refine hSkip (i := 3) rfl (by kernel_rfl) (by kernel_rfl) (by kernel_rfl) nrm rfl p807.z (yd p807.z rfl rfl s808) rfl rfl fun a809 p810 sp810 => ?_
      have s811 := p810.o s808 rfl
      refine hSkip (i := 4) rfl (by kernel_rfl) (by kernel_rfl) (by kernel_rfl) nrm rfl p810.z (yd p810.z rfl rfl s811) rfl rfl fun a812 p813 sp813 => ?_
      have s814 := p813.o s811 rfl
      refine hSkip (i := 6) rfl (by kernel_rfl) (by kernel_rfl) (by kernel_rfl) nrm rfl p813.z (yd p813.z rfl rfl s814) rfl rfl fun a815 p816 sp816 => ?_
      have s817 := p816.o s814 rfl
      refine hSkip (i := 7) rfl (by kernel_rfl) (by kernel_rfl) (by kernel_rfl) nrm rfl p816.z (yd p816.z rfl rfl s817) rfl rfl fun a818 p819 sp819 => ?_
      have s820 := p819.o s817 rfl
      refine hSkip (i := 8) rfl (by kernel_rfl) (by kernel_rfl) (by kernel_rfl) nrm rfl p819.z (yd p819.z rfl rfl s820) rfl rfl fun a821 p822 sp822 => ?_
      have s823 := p822.o s820 rfl
      refine hOneK (i := 5) (by kernel_rfl) rfl p822.z (yd p822.z rfl rfl s823) rfl rfl fun a824 p825 sp825 => ?_
      have s826 := p825.o s823 rfl
      refine hOneK (i := 9) (by kernel_rfl) rfl p825.z (yd p825.z rfl rfl s826) rfl rfl fun a827 p828 sp828 => ?_
      have s829 := p828.o s826 rfl
      refine hSkip (i := 10) rfl (by kernel_rfl) (by kernel_rfl) (by kernel_rfl) nrm rfl p828.z (yd p828.z rfl rfl s829) rfl rfl fun a830 p831 sp831 => ?_
      have s832 := p831.o s829 rfl
      refine hTakeW (i := 11) rfl (by kernel_rfl) (by kernel_rfl) (by kernel_rfl) nrm (cond := fun _ => True) (.inl fun _ => trivial) p831.z (wN rfl) (fun _ _ => okPickF s832 cst) trivial rfl fun a833 p834 sp834 => ?_
      obtain rfl := Option.some.inj h
      refine hTakeW (i := 12) rfl (by kernel_rfl) (by kernel_rfl) (by kernel_rfl) nrm (cond := fun _ => True) (.inl fun _ => trivial) p834.z (wN rfl) (fun _ _ => okAs sp834) trivial rfl fun a835 p836 sp836 => ?_
      have m837 := m790.g0 g796
      have m838 := m791.g0 g796
      have m839 := m792.g0 g796
      have m840 := m793.g0 g796
      have m841 := m794.g0 g796
      have m842 := m795.g0 g796
      exact hDone (by kernel_rfl) ⟨rfl, p836.z, sp836, m837, m838, m839, m840, m841, m842, cx797, g796.t0⟩
    · have s843 := bv sp802 hb803
      replace h := (ifP hb803).symm.trans hb670
      have s845 := p802.o (p800.o (pg657.o s561 rfl) rfl) rfl
      have m846 := m791.g0 g796
      refine hTakeW (i := 2) rfl (by kernel_rfl) (by kernel_rfl) (by kernel_rfl) nrm (.inr (.head _)) p802.z (wG rfl (yd p802.z rfl rfl s843)) (fun _ h => okLdA ag25 s845 h rfl rfl whole) (m846.clp rfl) rfl fun a847 p848 sp848 => ?_
      have s849 := p848.o s843 rfl
      have s850 := p848.o (p802.o (p800.o (pg657.o s560 rfl) rfl) rfl) rfl
      refine hTakeW (i := 3) rfl (by kernel_rfl) (by kernel_rfl) (by kernel_rfl) nrm (cond := fun _ => True) (.inl fun _ => trivial) p848.z (wG rfl (yd p848.z rfl rfl s849)) (fun _ _ => okMv s850) trivial rfl fun a851 p852 sp852 => ?_
      have s853 := p852.o s849 rfl
      have s854 := p852.o (p848.o (p802.o (p800.o (pg657.o s562 rfl) rfl) rfl) rfl) rfl
      have m855 := m793.g0 g796
      refine hTakeW (i := 4) rfl (by kernel_rfl) (by kernel_rfl) (by kernel_rfl) nrm (.inr (.tail _ (.head _))) p852.z (wG rfl (yd p852.z rfl rfl s853)) (fun _ h => okLdA ag38 s854 h rfl rfl whole) (m855.clp rfl) rfl fun a856 p857 sp857 => ?_
      have s858 := p857.o s853 rfl
      have s859 := p857.o (p852.o (p848.o s845 rfl) rfl) rfl
      refine hTakeW (i := 6) rfl (by kernel_rfl) (by kernel_rfl) (by kernel_rfl) nrm (.inr (.tail _ (.tail _ (.head _)))) p857.z (wG rfl (yd p857.z rfl rfl s858)) (fun _ h => okLdA ag25 s859 h rfl rfl whole) (m846.clp rfl) rfl fun a860 p861 sp861 => ?_
      have s862 := p861.o s858 rfl
      have s863 := p861.o (p857.o (p852.o s850 rfl) rfl) rfl
      refine hTakeW (i := 7) rfl (by kernel_rfl) (by kernel_rfl) (by kernel_rfl) nrm (cond := fun _ => True) (.inl fun _ => trivial) p861.z (wG rfl (yd p861.z rfl rfl s862)) (fun _ _ => okMv s863) trivial rfl fun a864 p865 sp865 => ?_
      have s866 := p865.o s862 rfl
      have s867 := p865.o (p861.o (p857.o s854 rfl) rfl) rfl
      refine hTakeW (i := 8) rfl (by kernel_rfl) (by kernel_rfl) (by kernel_rfl) nrm (.inr (.tail _ (.tail _ (.tail _ (.head _))))) p865.z (wG rfl (yd p865.z rfl rfl s866)) (fun _ h => okLdA ag38 s867 h rfl rfl whole) (m855.clp rfl) rfl fun a868 p869 sp869 => ?_
      have s870 := p869.o s866 rfl
      have s871 := p869.o (p865.o (p861.o (p857.o (p852.o sp848 rfl) rfl) rfl) rfl) rfl
      have s872 := p869.o (p865.o (p861.o (p857.o sp852 rfl) rfl) rfl) rfl
      have s873 := p869.o (p865.o (p861.o sp857 rfl) rfl) rfl
      have q874 := q228.mono (((((g238.t0.trans (g255.tA (Nat.le_of_eq e256.symm))).trans (g267.t1 (.head _))).trans t577).trans g655.t0).trans g796.t0)
      obtain ⟨t875, ht876, h⟩ := Option.bind_eq_some_iff.1 h
      refine hOneG (i := 5) (by kernel_rfl) rfl (wG rfl (yd p869.z rfl rfl s870)) (oCall p869.z Try.call13 (ag3 s871 s872 s873) (c13 k (b559 :: b252 :: b34 :: b23 :: b13 :: b3 :: L) w654.drew cx797.lt _ _ q874 _ _ _ ht876) rfl fun v880 a877 w878 hp881 p879 sp879 => ?_)
      obtain ⟨rfl, g882⟩ := hp881
      have cx883 := cx797.ca g882
      refine ⟨⟨.inl rfl, .inl rfl, .inr fun h => h.g0 g882, .inr fun h => h.g0 g882, trivial⟩, ?_⟩
      have s884 := p879.o s870 rfl
      have s885 := p879.o (p869.o (p865.o sp861 rfl) rfl) rfl
      have s886 := p879.o (p869.o sp865 rfl) rfl
      have s887 := p879.o sp869 rfl
      have q888 := q874.mono g882.t0
      obtain ⟨t889, ht890, h⟩ := Option.bind_eq_some_iff.1 h
      refine hOneG (i := 9) (by kernel_rfl) rfl (wG rfl (yd p879.z rfl rfl s884)) (oCall p879.z Try.call14 (ag3 s885 s886 s887) (c14 k (b559 :: b252 :: b34 :: b23 :: b13 :: b3 :: L) w878 cx883.lt _ _ q888 _ _ _ ht890) rfl fun v894 a891 w892 hp895 p893 sp893 => ?_)
      obtain ⟨rfl, g896⟩ := hp895
      have cx897 := cx883.ca g896
      refine ⟨⟨.inr fun h => h.g0 g896, .inr fun h => h.g0 g896, .inl rfl, .inl rfl, trivial⟩, ?_⟩
      have s898 := p893.o s884 rfl
      have s899 := p893.o sp879 rfl
      refine hTakeW (i := 10) rfl (by kernel_rfl) (by kernel_rfl) (by kernel_rfl) nrm (cond := fun _ => True) (.inl fun _ => trivial) p893.z (wG rfl (yd p893.z rfl rfl s898)) (fun _ _ => okBEq Try.underlying4 s899 sp893) trivial rfl fun a900 p901 sp901 => ?_
      have s902 := p901.o s898 rfl
      refine hTakeW (i := 11) rfl (by kernel_rfl) (by kernel_rfl) (by kernel_rfl) nrm (cond := fun _ => True) (.inl fun _ => trivial) p901.z (wN rfl) (fun _ _ => okPickT s902 sp901) trivial rfl fun a903 p904 sp904 => ?_
      obtain rfl := Option.some.inj h
      refine hTakeW (i := 12) rfl (by kernel_rfl) (by kernel_rfl) (by kernel_rfl) nrm (cond := fun _ => True) (.inl fun _ => trivial) p904.z (wN rfl) (fun _ _ => okAs sp904) trivial rfl fun a905 p906 sp906 => ?_
      have m907 := ((m790.g0 g796).g0 g882).g0 g896
      have m908 := (m846.g0 g882).g0 g896
      have m909 := ((m792.g0 g796).g0 g882).g0 g896
      have m910 := (m855.g0 g882).g0 g896
      have m911 := ((m794.g0 g796).g0 g882).g0 g896
      have m912 := ((m795.g0 g796).g0 g882).g0 g896
      exact hDone (by kernel_rfl) ⟨rfl, p906.z, sp906, m907, m908, m909, m910, m911, m912, cx897, ((g796.t0.trans g882.t0).trans g896.t0)⟩
  rintro a913 w914 ⟨z915, s916, m917, m918, m919, m920, m921, m922, cx923, t924⟩
  refine thenN ?_
  obtain rfl := Option.some.inj h
  exact wp_ret (ret1 z915 Try.results4 (rvT s916) ⟨_, rfl, rfl, cx923.g⟩)
end Go.Proofs.Ytbfndihcbogjfaa
