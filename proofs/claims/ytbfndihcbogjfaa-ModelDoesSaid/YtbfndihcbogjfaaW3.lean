/-
  The Go functions tholelaw10_ModelBack: each comes to its plain function. Conditions: where the plain function is some.
-/
import Derived.Test.YtbfndihcbogjfaaW2
set_option linter.unusedVariables false
namespace Go.Proofs.Ytbfndihcbogjfaa
open Go Go.RowKit Go.Proofs.Ytbfndihcbogjfaa.Gx
set_option maxHeartbeats 4000000 in
theorem c3 (k : Nat) (L : List Nat) (w : World) (hL : ∀ b ∈ L, b < w.heap.size) (x0 : TThing) (h0_0 : Value) (qh0_0 : RdS KTWaiter L w h0_0 x0.waiters) (x1 : Int) (x2 : Int) (r : Bool) (h : tholelaw10_ModelBack k x0 x1 x2 = some r) : Calls Try.prog 3 #[.agg (TThing.C x0 h0_0).toArray, .int .i64 x1, .int .i64 x2] w (fun e w' => ∃ v, e = .returned v ∧ v = .bool r ∧ G [] w w') := by
  refine enterF Try.func3 rfl rfl fun a0 z0 A => ?_
  have s0_0 := A 0 (.agg (TThing.C x0 h0_0).toArray) rfl
  have s0_1 := A 1 (.int .i64 x1) rfl
  have s0_2 := A 2 (.int .i64 x2) rfl
  clear A
  have c0 : Cx [] w L w := ⟨G.refl _ _, hL⟩
  unfold tholelaw10_ModelBack at h
  refine wp_seq ?_
  refine reg ?_
  refine lS (oBox (l := TThing.C x0 h0_0) z0 s0_0 rfl rfl fun a1 w2 b3 p4 sp4 m5 g6 e7 => ?_)
  have f9 := c0.nw e7
  have cx8 := c0.al g6 m5
  refine s1 p4.z (okAs cst) rfl fun a10 p11 s12 => ?_
  refine rN (thenN ?_)
  refine wp_seq ?_
  refine reg ?_
  obtain ⟨t13, ht14, h⟩ := Option.bind_eq_some_iff.1 h
  refine lS (oCall p11.z Try.call5 (ag0 ) (c5 k (b3 :: L) w2 cx8.lt  _ ht14) rfl fun v18 a15 w16 hp19 p17 sp17 => ?_)
  obtain ⟨rfl, g20⟩ := hp19
  have cx21 := cx8.ca g20
  refine s1 p17.z (okAs sp17) rfl fun a22 p23 s24 => ?_
  refine rN (thenN ?_)
  refine wp_seq ?_
  refine reg ?_
  have s25 := p23.o (p17.o (p11.o sp4 rfl) rfl) rfl
  have m26 := m5.g0 g20
  refine s1 p23.z (okLdA ag25 s25 (m26.cl) rfl rfl whole) rfl fun a27 p28 s29 => ?_
  have q30 := qh0_0.mono ((g6.tA (Nat.le_of_eq e7.symm)).trans g20.t0)
  obtain ⟨t31, ht32, h⟩ := Option.bind_eq_some_iff.1 h
  refine lS (oCall p28.z Try.call6 (ag1 s29) (c6 k (b3 :: L) w16 cx21.lt _ _ q30 _ ht32) rfl fun v36 a33 w34 hp37 p35 sp35 => ?_)
  obtain ⟨rfl, g38⟩ := hp37
  have cx39 := cx21.ca g38
  refine s1 p35.z (okAs sp35) rfl fun a40 p41 s42 => ?_
  refine rN (thenN ?_)
  refine wp_seq ?_
  refine wp_seq ?_
  refine reg ?_
  refine s1 p41.z (okAs cst) rfl fun a43 p44 s45 => ?_
  refine rN (thenN ?_)
  refine wp_block ?_
  obtain ⟨o48, ho49, h⟩ := Option.bind_eq_some_iff.1 h
  have s50 := p44.o (p41.o (p35.o (p28.o (p23.o (p17.o (p11.o (p4.o s0_1 rfl) rfl) rfl) rfl) rfl) rfl) rfl) rfl
  have s51 := p44.o (p41.o (p35.o (p28.o (p23.o (p17.o (p11.o (p4.o s0_2 rfl) rfl) rfl) rfl) rfl) rfl) rfl) rfl
  have s52 := p44.o (p41.o (p35.o (p28.o s25 rfl) rfl) rfl) rfl
  have s53 := p44.o (p41.o (p35.o (p28.o (p23.o (p17.o s12 rfl) rfl) rfl) rfl) rfl) rfl
  have s54 := p44.o (p41.o (p35.o (p28.o s24 rfl) rfl) rfl) rfl
  have s55 := p44.o s42 rfl
  have m56 := m26.g0 g38
  have q57 := q30.mono g38.t0
  refine loopX (I := (fun k' a' w' => ∃ i46 i47, Z Try.f3.ntmps a' ∧ a'.eval (.tmp 1) = .int .i64 x1 ∧ a'.eval (.tmp 2) = .int .i64 x2 ∧ a'.eval (.tmp 3) = ptr b3 0 ∧ a'.eval (.tmp 6) = .bool false ∧ a'.eval (.tmp 7) = .bool t13 ∧ a'.eval (.tmp 8) = .bool i46 ∧ a'.eval (.tmp 9) = .int .i64 i47 ∧ Bk w' b3 (TThing.C x0 h0_0) 25 ∧ RdS KTWaiter (b3 :: L) w' h0_0 x0.waiters ∧ Cx [] w (b3 :: L) w' ∧ tholelaw10_ModelBack.l0 x0 k' i46 i47 = some o48)) 0 (fun a' w' => Z Try.f3.ntmps a' ∧ a'.eval (.tmp 1) = .int .i64 x1 ∧ a'.eval (.tmp 2) = .int .i64 x2 ∧ a'.eval (.tmp 3) = ptr b3 0 ∧ a'.eval (.tmp 6) = .bool false ∧ a'.eval (.tmp 7) = .bool t13 ∧ a'.eval (.tmp 8) = .bool o48 ∧ Bk w' b3 (TThing.C x0 h0_0) 25 ∧ RdS KTWaiter (b3 :: L) w' h0_0 x0.waiters ∧ Cx [] w (b3 :: L) w') ⟨t31, 0, p44.z, s50, s51, s52, s53, s54, s55, s45, m56, q57, cx39, ho49⟩ ?_ ?_
  · have oh72 := h; clear h ho49
    rintro k58 a59 w60 ⟨i46, i47, z61, s62, s63, s64, s65, s66, s67, s68, m69, q70, cx71, h⟩
    obtain _ | k := k58
    case zero => cases h
    rw [tholelaw10_ModelBack.l0] at h
    refine wp_seq ?_
    refine wp_seq ?_
    refine reg ?_
    refine s1 z61 (okMv s68) rfl fun a73 p74 s75 => ?_
    refine s1 p74.z (okLt s75 cst) rfl fun a76 p77 s78 => ?_
    refine rN (thenN ?_)
    refine cnd s78 (fun hb79 => ?_) (fun hb79 => ?_)
    · replace h := (ifP hb79).symm.trans h
      refine wp_skip (thenN ?_)
      refine wp_seq ?_
      refine wp_block ?_
      refine reg ?_
      have s80 := p77.o (p74.o s67 rfl) rfl
      refine s1 p77.z (okMv s80) rfl fun a81 p82 s83 => ?_
      refine s1 p82.z (okMv s83) rfl fun a84 p85 s86 => ?_
      obtain ⟨b87, hb88, h⟩ := Option.bind_eq_some_iff.1 h
      refine cutP 6 (fun a' => Pg Try.f3.ntmps [26, 27, 28, 29, 30, 31] a84 a' ∧ a'.eval (.tmp 31) = .bool b87) ?_ ?_
      · rcases bf i46 with hb89 | hb89
        · have s90 := bv s86 hb89
          replace hb88 := (ifN hb89).symm.trans hb88
          clear h; have h := hb88; clear hb88
          refine s1k p85.z rfl (yd p85.z rfl rfl s90) rfl fun a91 p92 s93 => ?_
          have s94 := p92.o s90 rfl
          refine s1k p92.z rfl (yd p92.z rfl rfl s94) rfl fun a95 p96 s97 => ?_
          have s98 := p96.o s94 rfl
          refine s1k p96.z rfl (yd p96.z rfl rfl s98) rfl fun a99 p100 s101 => ?_
          have s102 := p100.o s98 rfl
          refine s1k p100.z rfl (yd p100.z rfl rfl s102) rfl fun a103 p104 s105 => ?_
          have s106 := p104.o s102 rfl
          refine s1k p104.z rfl (yd p104.z rfl rfl s106) rfl fun a107 p108 s109 => ?_
          have s110 := p108.o s106 rfl
          refine s1 p108.z (okPickF s110 cst) rfl fun a111 p112 s113 => ?_
          obtain rfl := Option.some.inj h
          exact rN ⟨rfl, rfl, (((((((Pg.refl p85.z).st p92 rfl).st p96 rfl).st p100 rfl).st p104 rfl).st p108 rfl).st p112 rfl), s113⟩
        · have s114 := bv s86 hb89
          replace hb88 := (ifP hb89).symm.trans hb88
          clear h; have h := hb88; clear hb88
          have s115 := p85.o (p82.o (p77.o (p74.o s68 rfl) rfl) rfl) rfl
          refine s1g p85.z (okMv s115) rfl (yd p85.z rfl rfl s114) fun a116 p117 s118 => ?_
          have s119 := p117.o s114 rfl
          have s120 := p117.o (p85.o (p82.o (p77.o (p74.o s64 rfl) rfl) rfl) rfl) rfl
          refine s1g p117.z (okFA (o' := 4) fo25_4 s120 rfl) rfl (yd p117.z rfl rfl s119) fun a121 p122 s123 => ?_
          have s124 := p122.o s119 rfl
          have s125 := p122.o s118 rfl
          by_cases hi126 : 0 ≤ i47 ∧ i47 < 8
          case neg => rw [if_neg hi126] at h; cases h
          replace h := (if_pos hi126).symm.trans h
          refine s1g p122.z (okIA Try.underlying22 Try.sizeOf3 s123 s125 hi126) rfl (yd p122.z rfl rfl s124) fun a127 p128 s129 => ?_
          have s130 := p128.o s124 rfl
          refine s1g p128.z (okLd (j := 4 + i47.toNat) na3 s129 (m69.cl) (Nat.zero_add _) (TThing.C_reads_get _ _ hi126)) rfl (yd p128.z rfl rfl s130) fun a131 p132 s133 => ?_
          have s134 := p132.o s130 rfl
          refine s1g p132.z (okGe s133 cst) rfl (yd p132.z rfl rfl s134) fun a135 p136 s137 => ?_
          have s138 := p136.o s134 rfl
          refine s1 p136.z (okPickT s138 s137) rfl fun a139 p140 s141 => ?_
          obtain rfl := Option.some.inj h
          exact rN ⟨rfl, rfl, (((((((Pg.refl p85.z).st p117 rfl).st p122 rfl).st p128 rfl).st p132 rfl).st p136 rfl).st p140 rfl), s141⟩
      rintro a142 ⟨pg143, s144⟩
      refine s1 pg143.z (okAs s144) rfl fun a145 p146 s147 => ?_
      refine rN (blkN (thenN ?_))
      refine reg ?_
      have s148 := p146.o (pg143.o (p85.o (p82.o (p77.o (p74.o s68 rfl) rfl) rfl) rfl) rfl) rfl
      refine s1 p146.z (okMv s148) rfl fun a149 p150 s151 => ?_
      refine s1 p150.z (okAdd s151 cst) rfl fun a152 p153 s154 => ?_
      refine s1 p153.z (okAs s154) rfl fun a155 p156 s157 => ?_
      have s158 := p156.o (p153.o (p150.o (p146.o (pg143.o (p85.o (p82.o (p77.o (p74.o s62 rfl) rfl) rfl) rfl) rfl) rfl) rfl) rfl) rfl
      have s159 := p156.o (p153.o (p150.o (p146.o (pg143.o (p85.o (p82.o (p77.o (p74.o s63 rfl) rfl) rfl) rfl) rfl) rfl) rfl) rfl) rfl
      have s160 := p156.o (p153.o (p150.o (p146.o (pg143.o (p85.o (p82.o (p77.o (p74.o s64 rfl) rfl) rfl) rfl) rfl) rfl) rfl) rfl) rfl
      have s161 := p156.o (p153.o (p150.o (p146.o (pg143.o (p85.o (p82.o (p77.o (p74.o s65 rfl) rfl) rfl) rfl) rfl) rfl) rfl) rfl) rfl
      have s162 := p156.o (p153.o (p150.o (p146.o (pg143.o (p85.o (p82.o (p77.o (p74.o s66 rfl) rfl) rfl) rfl) rfl) rfl) rfl) rfl) rfl
      have s163 := p156.o (p153.o (p150.o s147 rfl) rfl) rfl
      exact rN (thenN ⟨k, Nat.lt_succ_self k, b87, (w64 (i47 + 1)), p156.z, s158, s159, s160, s161, s162, s163, s157, m69, q70, cx71, h⟩)
    replace h := (ifN hb79).symm.trans h
    obtain rfl := Option.some.inj h
    have s164 := p77.o (p74.o s62 rfl) rfl
    have s165 := p77.o (p74.o s63 rfl) rfl
    have s166 := p77.o (p74.o s64 rfl) rfl
    have s167 := p77.o (p74.o s65 rfl) rfl
    have s168 := p77.o (p74.o s66 rfl) rfl
    have s169 := p77.o (p74.o s67 rfl) rfl
    exact wp_exit (thenE (thenE (jqE ⟨p77.z, s164, s165, s166, s167, s168, s169, m69, q70, cx71⟩)))
  clear ho49
  rintro a170 w171 ⟨z172, s173, s174, s175, s176, s177, s178, m179, q180, cx181⟩
  refine blkE (thenN ?_)
  refine wp_seq ?_
  refine wp_seq ?_
  refine reg ?_
  refine s1 z172 (okMv s178) rfl fun a182 p183 s184 => ?_
  refine s1 p183.z (okNot s184) rfl fun a185 p186 s187 => ?_
  refine s1 p186.z (okMv s187) rfl fun a188 p189 s190 => ?_
  refine cutP 4 (fun a' => Pg Try.f3.ntmps [35, 36, 37, 38] a188 a' ∧ a'.eval (.tmp 38) = .bool ((!o48) || (decide (x0.n < 0)))) ?_ ?_
  · rcases bf (!o48) with hb191 | hb191
    · have s192 := bv s190 hb191
      have s193 := p189.o (p186.o (p183.o s175 rfl) rfl) rfl
      refine s1g p189.z (okFA (o' := 1) fo25_1 s193 rfl) rfl (yd p189.z rfl rfl s192) fun a194 p195 s196 => ?_
      have s197 := p195.o s192 rfl
      refine s1g p195.z (okLd (j := 1) na3 s196 (m179.cl) rfl rfl) rfl (yd p195.z rfl rfl s197) fun a198 p199 s200 => ?_
      have s201 := p199.o s197 rfl
      refine s1g p199.z (okLt s200 cst) rfl (yd p199.z rfl rfl s201) fun a202 p203 s204 => ?_
      have s205 := p203.o s201 rfl
      refine s1 p203.z (okPickF s205 s204) rfl fun a206 p207 s208 => ?_
      exact rN ⟨rfl, rfl, (((((Pg.refl p189.z).st p195 rfl).st p199 rfl).st p203 rfl).st p207 rfl), (orF hb191 s208)⟩
    · have s209 := bv s190 hb191
      refine s1k p189.z rfl (yd p189.z rfl rfl s209) rfl fun a210 p211 s212 => ?_
      have s213 := p211.o s209 rfl
      refine s1k p211.z rfl (yd p211.z rfl rfl s213) rfl fun a214 p215 s216 => ?_
      have s217 := p215.o s213 rfl
      refine s1k p215.z rfl (yd p215.z rfl rfl s217) rfl fun a218 p219 s220 => ?_
      have s221 := p219.o s217 rfl
      refine s1 p219.z (okPickT s221 cst) rfl fun a222 p223 s224 => ?_
      exact rN ⟨rfl, rfl, (((((Pg.refl p189.z).st p211 rfl).st p215 rfl).st p219 rfl).st p223 rfl), (orT hb191 s224)⟩
  rintro a225 ⟨pg226, s227⟩
  refine s1 pg226.z (okMv s227) rfl fun a228 p229 s230 => ?_
  refine cutP 4 (fun a' => Pg Try.f3.ntmps [40, 41, 42, 43] a228 a' ∧ a'.eval (.tmp 43) = .bool (((!o48) || (decide (x0.n < 0))) || (decide (1000 < x0.n)))) ?_ ?_
  · rcases bf ((!o48) || (decide (x0.n < 0))) with hb231 | hb231
    · have s232 := bv s230 hb231
      have s233 := p229.o (pg226.o (p189.o (p186.o (p183.o s175 rfl) rfl) rfl) rfl) rfl
      refine s1g p229.z (okFA (o' := 1) fo25_1 s233 rfl) rfl (yd p229.z rfl rfl s232) fun a234 p235 s236 => ?_
      have s237 := p235.o s232 rfl
      refine s1g p235.z (okLd (j := 1) na3 s236 (m179.cl) rfl rfl) rfl (yd p235.z rfl rfl s237) fun a238 p239 s240 => ?_
      have s241 := p239.o s237 rfl
      refine s1g p239.z (okGt s240 cst) rfl (yd p239.z rfl rfl s241) fun a242 p243 s244 => ?_
      have s245 := p243.o s241 rfl
      refine s1 p243.z (okPickF s245 s244) rfl fun a246 p247 s248 => ?_
      exact rN ⟨rfl, rfl, (((((Pg.refl p229.z).st p235 rfl).st p239 rfl).st p243 rfl).st p247 rfl), (orF hb231 s248)⟩
    · have s249 := bv s230 hb231
      refine s1k p229.z rfl (yd p229.z rfl rfl s249) rfl fun a250 p251 s252 => ?_
      have s253 := p251.o s249 rfl
      refine s1k p251.z rfl (yd p251.z rfl rfl s253) rfl fun a254 p255 s256 => ?_
      have s257 := p255.o s253 rfl
      refine s1k p255.z rfl (yd p255.z rfl rfl s257) rfl fun a258 p259 s260 => ?_
      have s261 := p259.o s257 rfl
      refine s1 p259.z (okPickT s261 cst) rfl fun a262 p263 s264 => ?_
      exact rN ⟨rfl, rfl, (((((Pg.refl p229.z).st p251 rfl).st p255 rfl).st p259 rfl).st p263 rfl), (orT hb231 s264)⟩
  rintro a265 ⟨pg266, s267⟩
  refine s1 pg266.z (okMv s267) rfl fun a268 p269 s270 => ?_
  refine cutP 4 (fun a' => Pg Try.f3.ntmps [45, 46, 47, 48] a268 a' ∧ a'.eval (.tmp 48) = .bool ((((!o48) || (decide (x0.n < 0))) || (decide (1000 < x0.n))) || (decide (x0.holds < 0)))) ?_ ?_
  · rcases bf (((!o48) || (decide (x0.n < 0))) || (decide (1000 < x0.n))) with hb271 | hb271
    · have s272 := bv s270 hb271
      have s273 := p269.o (pg266.o (p229.o (pg226.o (p189.o (p186.o (p183.o s175 rfl) rfl) rfl) rfl) rfl) rfl) rfl
      refine s1g p269.z (okFA (o' := 3) fo25_3 s273 rfl) rfl (yd p269.z rfl rfl s272) fun a274 p275 s276 => ?_
      have s277 := p275.o s272 rfl
      refine s1g p275.z (okLd (j := 3) na3 s276 (m179.cl) rfl rfl) rfl (yd p275.z rfl rfl s277) fun a278 p279 s280 => ?_
      have s281 := p279.o s277 rfl
      refine s1g p279.z (okLt s280 cst) rfl (yd p279.z rfl rfl s281) fun a282 p283 s284 => ?_
      have s285 := p283.o s281 rfl
      refine s1 p283.z (okPickF s285 s284) rfl fun a286 p287 s288 => ?_
      exact rN ⟨rfl, rfl, (((((Pg.refl p269.z).st p275 rfl).st p279 rfl).st p283 rfl).st p287 rfl), (orF hb271 s288)⟩
    · have s289 := bv s270 hb271
      refine s1k p269.z rfl (yd p269.z rfl rfl s289) rfl fun a290 p291 s292 => ?_
      have s293 := p291.o s289 rfl
      refine s1k p291.z rfl (yd p291.z rfl rfl s293) rfl fun a294 p295 s296 => ?_
      have s297 := p295.o s293 rfl
      refine s1k p295.z rfl (yd p295.z rfl rfl s297) rfl fun a298 p299 s300 => ?_
      have s301 := p299.o s297 rfl
      refine s1 p299.z (okPickT s301 cst) rfl fun a302 p303 s304 => ?_
      exact rN ⟨rfl, rfl, (((((Pg.refl p269.z).st p291 rfl).st p295 rfl).st p299 rfl).st p303 rfl), (orT hb271 s304)⟩
  rintro a305 ⟨pg306, s307⟩
  refine s1 pg306.z (okMv s307) rfl fun a308 p309 s310 => ?_
  refine cutP 4 (fun a' => Pg Try.f3.ntmps [50, 51, 52, 53] a308 a' ∧ a'.eval (.tmp 53) = .bool (((((!o48) || (decide (x0.n < 0))) || (decide (1000 < x0.n))) || (decide (x0.holds < 0))) || (decide (1000 < x0.holds)))) ?_ ?_
  · rcases bf ((((!o48) || (decide (x0.n < 0))) || (decide (1000 < x0.n))) || (decide (x0.holds < 0))) with hb311 | hb311
    · have s312 := bv s310 hb311
      have s313 := p309.o (pg306.o (p269.o (pg266.o (p229.o (pg226.o (p189.o (p186.o (p183.o s175 rfl) rfl) rfl) rfl) rfl) rfl) rfl) rfl) rfl
      refine s1g p309.z (okFA (o' := 3) fo25_3 s313 rfl) rfl (yd p309.z rfl rfl s312) fun a314 p315 s316 => ?_
      have s317 := p315.o s312 rfl
      refine s1g p315.z (okLd (j := 3) na3 s316 (m179.cl) rfl rfl) rfl (yd p315.z rfl rfl s317) fun a318 p319 s320 => ?_
      have s321 := p319.o s317 rfl
      refine s1g p319.z (okGt s320 cst) rfl (yd p319.z rfl rfl s321) fun a322 p323 s324 => ?_
      have s325 := p323.o s321 rfl
      refine s1 p323.z (okPickF s325 s324) rfl fun a326 p327 s328 => ?_
      exact rN ⟨rfl, rfl, (((((Pg.refl p309.z).st p315 rfl).st p319 rfl).st p323 rfl).st p327 rfl), (orF hb311 s328)⟩
    · have s329 := bv s310 hb311
      refine s1k p309.z rfl (yd p309.z rfl rfl s329) rfl fun a330 p331 s332 => ?_
      have s333 := p331.o s329 rfl
      refine s1k p331.z rfl (yd p331.z rfl rfl s333) rfl fun a334 p335 s336 => ?_
      have s337 := p335.o s333 rfl
      refine s1k p335.z rfl (yd p335.z rfl rfl s337) rfl fun a338 p339 s340 => ?_
      have s341 := p339.o s337 rfl
      refine s1 p339.z (okPickT s341 cst) rfl fun a342 p343 s344 => ?_
      exact rN ⟨rfl, rfl, (((((Pg.refl p309.z).st p331 rfl).st p335 rfl).st p339 rfl).st p343 rfl), (orT hb311 s344)⟩
  rintro a345 ⟨pg346, s347⟩
  refine s1 pg346.z (okMv s347) rfl fun a348 p349 s350 => ?_
  refine cutP 14 (fun a' => Pg Try.f3.ntmps [55, 56, 57, 58, 59, 60, 61, 62, 63, 64, 65, 66, 67, 68] a348 a' ∧ a'.eval (.tmp 68) = .bool ((((((!o48) || (decide (x0.n < 0))) || (decide (1000 < x0.n))) || (decide (x0.holds < 0))) || (decide (1000 < x0.holds))) || (((x0.kind == 5) && (x0.offer == (-1))) && (x0.item != 0)))) ?_ ?_
  · rcases bf (((((!o48) || (decide (x0.n < 0))) || (decide (1000 < x0.n))) || (decide (x0.holds < 0))) || (decide (1000 < x0.holds))) with hb351 | hb351
    · have s352 := bv s350 hb351
      have s353 := p349.o (pg346.o (p309.o (pg306.o (p269.o (pg266.o (p229.o (pg226.o (p189.o (p186.o (p183.o s175 rfl) rfl) rfl) rfl) rfl) rfl) rfl) rfl) rfl) rfl) rfl
      refine s1g p349.z (okFA (o' := 0) fo25_0 s353 rfl) rfl (yd p349.z rfl rfl s352) fun a354 p355 s356 => ?_
      have s357 := p355.o s352 rfl
      refine s1g p355.z (okLd (j := 0) na3 s356 (m179.cl) rfl rfl) rfl (yd p355.z rfl rfl s357) fun a358 p359 s360 => ?_
      have s361 := p359.o s357 rfl
      refine s1g p359.z (okEq s360 cst) rfl (yd p359.z rfl rfl s361) fun a362 p363 s364 => ?_
      have s365 := p363.o s361 rfl
      refine s1g p363.z (okMv s364) rfl (yd p363.z rfl rfl s365) fun a366 p367 s368 => ?_
      refine cutP 4 (fun a' => Pg Try.f3.ntmps [59, 60, 61, 62] a366 a' ∧ a'.eval (.tmp 62) = .bool ((x0.kind == 5) && (x0.offer == (-1)))) ?_ ?_
      · rcases bf (x0.kind == 5) with hb369 | hb369
        · have s370 := bv s368 hb369
          refine s1k p367.z rfl (yd p367.z rfl rfl s370) rfl fun a371 p372 s373 => ?_
          have s374 := p372.o s370 rfl
          refine s1k p372.z rfl (yd p372.z rfl rfl s374) rfl fun a375 p376 s377 => ?_
          have s378 := p376.o s374 rfl
          refine s1k p376.z rfl (yd p376.z rfl rfl s378) rfl fun a379 p380 s381 => ?_
          have s382 := p380.o (p376.o (p372.o (p367.o s365 rfl) rfl) rfl) rfl
          have s383 := p380.o s378 rfl
          refine s1g p380.z (okPickF s383 cst) rfl (yd p380.z rfl rfl s382) fun a384 p385 s386 => ?_
          exact rN ⟨rfl, rfl, (((((Pg.refl p367.z).st p372 rfl).st p376 rfl).st p380 rfl).st p385 rfl), (andF hb369 s386)⟩
        · have s387 := bv s368 hb369
          have s388 := p367.o (p363.o (p359.o (p355.o s353 rfl) rfl) rfl) rfl
          refine s1g p367.z (okFA (o' := 13) fo25_6 s388 rfl) rfl (yd p367.z rfl rfl s387) fun a389 p390 s391 => ?_
          have s392 := p390.o s387 rfl
          refine s1g p390.z (okLd (j := 13) na3 s391 (m179.cl) rfl rfl) rfl (yd p390.z rfl rfl s392) fun a393 p394 s395 => ?_
          have s396 := p394.o s392 rfl
          refine s1g p394.z (okEq s395 cst) rfl (yd p394.z rfl rfl s396) fun a397 p398 s399 => ?_
          have s400 := p398.o (p394.o (p390.o (p367.o s365 rfl) rfl) rfl) rfl
          have s401 := p398.o s396 rfl
          refine s1g p398.z (okPickT s401 s399) rfl (yd p398.z rfl rfl s400) fun a402 p403 s404 => ?_
          exact rN ⟨rfl, rfl, (((((Pg.refl p367.z).st p390 rfl).st p394 rfl).st p398 rfl).st p403 rfl), (andT hb369 s404)⟩
      rintro a405 ⟨pg406, s407⟩
      have s408 := pg406.o (p367.o s365 rfl) rfl
      refine s1g pg406.z (okMv s407) rfl (yd pg406.z rfl rfl s408) fun a409 p410 s411 => ?_
      refine cutP 4 (fun a' => Pg Try.f3.ntmps [64, 65, 66, 67] a409 a' ∧ a'.eval (.tmp 67) = .bool (((x0.kind == 5) && (x0.offer == (-1))) && (x0.item != 0))) ?_ ?_
      · rcases bf ((x0.kind == 5) && (x0.offer == (-1))) with hb412 | hb412
        · have s413 := bv s411 hb412
          refine s1k p410.z rfl (yd p410.z rfl rfl s413) rfl fun a414 p415 s416 => ?_
          have s417 := p415.o s413 rfl
          refine s1k p415.z rfl (yd p415.z rfl rfl s417) rfl fun a418 p419 s420 => ?_
          have s421 := p419.o s417 rfl
          refine s1k p419.z rfl (yd p419.z rfl rfl s421) rfl fun a422 p423 s424 => ?_
          have s425 := p423.o (p419.o (p415.o (p410.o s408 rfl) rfl) rfl) rfl
          have s426 := p423.o s421 rfl
          refine s1g p423.z (okPickF s426 cst) rfl (yd p423.z rfl rfl s425) fun a427 p428 s429 => ?_
          exact rN ⟨rfl, rfl, (((((Pg.refl p410.z).st p415 rfl).st p419 rfl).st p423 rfl).st p428 rfl), (andF hb412 s429)⟩
        · have s430 := bv s411 hb412
          have s431 := p410.o (pg406.o (p367.o (p363.o (p359.o (p355.o s353 rfl) rfl) rfl) rfl) rfl) rfl
          refine s1g p410.z (okFA (o' := 14) fo25_7 s431 rfl) rfl (yd p410.z rfl rfl s430) fun a432 p433 s434 => ?_
          have s435 := p433.o s430 rfl
          refine s1g p433.z (okLd (j := 14) na3 s434 (m179.cl) rfl rfl) rfl (yd p433.z rfl rfl s435) fun a436 p437 s438 => ?_
          have s439 := p437.o s435 rfl
          refine s1g p437.z (okNe s438 cst) rfl (yd p437.z rfl rfl s439) fun a440 p441 s442 => ?_
          have s443 := p441.o (p437.o (p433.o (p410.o s408 rfl) rfl) rfl) rfl
          have s444 := p441.o s439 rfl
          refine s1g p441.z (okPickT s444 s442) rfl (yd p441.z rfl rfl s443) fun a445 p446 s447 => ?_
          exact rN ⟨rfl, rfl, (((((Pg.refl p410.z).st p433 rfl).st p437 rfl).st p441 rfl).st p446 rfl), (andT hb412 s447)⟩
      rintro a448 ⟨pg449, s450⟩
      have s451 := pg449.o (p410.o s408 rfl) rfl
      refine s1 pg449.z (okPickF s451 s450) rfl fun a452 p453 s454 => ?_
      exact rN ⟨rfl, rfl, (((((((((Pg.refl p349.z).st p355 rfl).st p359 rfl).st p363 rfl).st p367 rfl).tr pg406 rfl).st p410 rfl).tr pg449 rfl).st p453 rfl), (orF hb351 s454)⟩
    · have s455 := bv s350 hb351
      refine s1k p349.z rfl (yd p349.z rfl rfl s455) rfl fun a456 p457 s458 => ?_
      have s459 := p457.o s455 rfl
      refine s1k p457.z rfl (yd p457.z rfl rfl s459) rfl fun a460 p461 s462 => ?_
      have s463 := p461.o s459 rfl
      refine s1k p461.z rfl (yd p461.z rfl rfl s463) rfl fun a464 p465 s466 => ?_
      have s467 := p465.o s463 rfl
      refine s1k p465.z rfl (yd p465.z rfl rfl s467) rfl fun a468 p469 s470 => ?_
      refine s1k p469.z rfl (ydU p469.z rfl rfl s470) rfl fun a471 p472 s473 => ?_
      have s474 := p472.o s470 rfl
      refine s1k p472.z rfl (ydU p472.z rfl rfl s474) rfl fun a475 p476 s477 => ?_
      have s478 := p476.o s474 rfl
      refine s1k p476.z rfl (ydU p476.z rfl rfl s478) rfl fun a479 p480 s481 => ?_
      have s482 := p480.o (p476.o (p472.o (p469.o s467 rfl) rfl) rfl) rfl
      refine s1k p480.z rfl (yd p480.z rfl rfl s482) rfl fun a483 p484 s485 => ?_
      have s486 := p484.o s482 rfl
      refine s1k p484.z rfl (yd p484.z rfl rfl s486) rfl fun a487 p488 s489 => ?_
      refine s1k p488.z rfl (ydU p488.z rfl rfl s489) rfl fun a490 p491 s492 => ?_
      have s493 := p491.o s489 rfl
      refine s1k p491.z rfl (ydU p491.z rfl rfl s493) rfl fun a494 p495 s496 => ?_
      have s497 := p495.o s493 rfl
      refine s1k p495.z rfl (ydU p495.z rfl rfl s497) rfl fun a498 p499 s500 => ?_
      have s501 := p499.o (p495.o (p491.o (p488.o s486 rfl) rfl) rfl) rfl
      refine s1k p499.z rfl (yd p499.z rfl rfl s501) rfl fun a502 p503 s504 => ?_
      have s505 := p503.o s501 rfl
      refine s1 p503.z (okPickT s505 cst) rfl fun a506 p507 s508 => ?_
      exact rN ⟨rfl, rfl, (((((((((((((((Pg.refl p349.z).st p457 rfl).st p461 rfl).st p465 rfl).st p469 rfl).st p472 rfl).st p476 rfl).st p480 rfl).st p484 rfl).st p488 rfl).st p491 rfl).st p495 rfl).st p499 rfl).st p503 rfl).st p507 rfl), (orT hb351 s508)⟩
  rintro a509 ⟨pg510, s511⟩
  refine s1 pg510.z (okMv s511) rfl fun a512 p513 s514 => ?_
  refine cutP 8 (fun a' => Pg Try.f3.ntmps [70, 71, 72, 73, 74, 75, 76, 77] a512 a' ∧ a'.eval (.tmp 77) = .bool (((((((!o48) || (decide (x0.n < 0))) || (decide (1000 < x0.n))) || (decide (x0.holds < 0))) || (decide (1000 < x0.holds))) || (((x0.kind == 5) && (x0.offer == (-1))) && (x0.item != 0))) || ((x0.owner == (-1)) != (x0.holds == 0)))) ?_ ?_
  · rcases bf ((((((!o48) || (decide (x0.n < 0))) || (decide (1000 < x0.n))) || (decide (x0.holds < 0))) || (decide (1000 < x0.holds))) || (((x0.kind == 5) && (x0.offer == (-1))) && (x0.item != 0))) with hb515 | hb515
    · have s516 := bv s514 hb515
      have s517 := p513.o (pg510.o (p349.o (pg346.o (p309.o (pg306.o (p269.o (pg266.o (p229.o (pg226.o (p189.o (p186.o (p183.o s175 rfl) rfl) rfl) rfl) rfl) rfl) rfl) rfl) rfl) rfl) rfl) rfl) rfl
      refine s1g p513.z (okFA (o' := 2) fo25_2 s517 rfl) rfl (yd p513.z rfl rfl s516) fun a518 p519 s520 => ?_
      have s521 := p519.o s516 rfl
      refine s1g p519.z (okLd (j := 2) na3 s520 (m179.cl) rfl rfl) rfl (yd p519.z rfl rfl s521) fun a522 p523 s524 => ?_
      have s525 := p523.o s521 rfl
      refine s1g p523.z (okEq s524 cst) rfl (yd p523.z rfl rfl s525) fun a526 p527 s528 => ?_
      have s529 := p527.o s525 rfl
      have s530 := p527.o (p523.o (p519.o s517 rfl) rfl) rfl
      refine s1g p527.z (okFA (o' := 3) fo25_3 s530 rfl) rfl (yd p527.z rfl rfl s529) fun a531 p532 s533 => ?_
      have s534 := p532.o s529 rfl
      refine s1g p532.z (okLd (j := 3) na3 s533 (m179.cl) rfl rfl) rfl (yd p532.z rfl rfl s534) fun a535 p536 s537 => ?_
      have s538 := p536.o s534 rfl
      refine s1g p536.z (okEq s537 cst) rfl (yd p536.z rfl rfl s538) fun a539 p540 s541 => ?_
      have s542 := p540.o s538 rfl
      have s543 := p540.o (p536.o (p532.o s528 rfl) rfl) rfl
      refine s1g p540.z (okBNe Try.underlying4 s543 s541) rfl (yd p540.z rfl rfl s542) fun a544 p545 s546 => ?_
      have s547 := p545.o s542 rfl
      refine s1 p545.z (okPickF s547 s546) rfl fun a548 p549 s550 => ?_
      exact rN ⟨rfl, rfl, (((((((((Pg.refl p513.z).st p519 rfl).st p523 rfl).st p527 rfl).st p532 rfl).st p536 rfl).st p540 rfl).st p545 rfl).st p549 rfl), (orF hb515 s550)⟩
    · have s551 := bv s514 hb515
      refine s1k p513.z rfl (yd p513.z rfl rfl s551) rfl fun a552 p553 s554 => ?_
      have s555 := p553.o s551 rfl
      refine s1k p553.z rfl (yd p553.z rfl rfl s555) rfl fun a556 p557 s558 => ?_
      have s559 := p557.o s555 rfl
      refine s1k p557.z rfl (yd p557.z rfl rfl s559) rfl fun a560 p561 s562 => ?_
      have s563 := p561.o s559 rfl
      refine s1k p561.z rfl (yd p561.z rfl rfl s563) rfl fun a564 p565 s566 => ?_
      have s567 := p565.o s563 rfl
      refine s1k p565.z rfl (yd p565.z rfl rfl s567) rfl fun a568 p569 s570 => ?_
      have s571 := p569.o s567 rfl
      refine s1k p569.z rfl (yd p569.z rfl rfl s571) rfl fun a572 p573 s574 => ?_
      have s575 := p573.o s571 rfl
      refine s1k p573.z rfl (yd p573.z rfl rfl s575) rfl fun a576 p577 s578 => ?_
      have s579 := p577.o s575 rfl
      refine s1 p577.z (okPickT s579 cst) rfl fun a580 p581 s582 => ?_
      exact rN ⟨rfl, rfl, (((((((((Pg.refl p513.z).st p553 rfl).st p557 rfl).st p561 rfl).st p565 rfl).st p569 rfl).st p573 rfl).st p577 rfl).st p581 rfl), (orT hb515 s582)⟩
  rintro a583 ⟨pg584, s585⟩
  refine rN (thenN ?_)
  have pg586 : Pg _ [32, 33, 34, 35, 36, 37, 38, 39, 40, 41, 42, 43, 44, 45, 46, 47, 48, 49, 50, 51, 52, 53, 54, 55, 56, 57, 58, 59, 60, 61, 62, 63, 64, 65, 66, 67, 68, 69, 70, 71, 72, 73, 74, 75, 76, 77] _ _ := (((((((((((((((Pg.refl z172).st p183 rfl).st p186 rfl).st p189 rfl).tr pg226 rfl).st p229 rfl).tr pg266 rfl).st p269 rfl).tr pg306 rfl).st p309 rfl).tr pg346 rfl).st p349 rfl).tr pg510 rfl).st p513 rfl).tr pg584 rfl)
  refine cnd s585 (fun hb587 => ?_) (fun hb587 => ?_)
  · replace h := (ifP hb587).symm.trans h
    refine wp_seq ?_
    refine reg ?_
    have s588 := pg586.o s177 rfl
    refine s1 pg586.z (okMv s588) rfl fun a589 p590 s591 => ?_
    refine s1 p590.z (okAs s591) rfl fun a592 p593 s594 => ?_
    refine rN (thenN ?_)
    obtain rfl := Option.some.inj h
    exact wp_ret (thenR (ret1 p593.z Try.results3 (rvT s594) ⟨_, rfl, rfl, cx181.g⟩))
  replace h := (ifN hb587).symm.trans h
  refine wp_skip (thenN ?_)
  refine wp_seq ?_
  refine reg ?_
  refine s1 pg586.z (okBd (pb2 cst cst) (bd29_0_1 1 1 _)) rfl fun a595 p596 s597 => ?_
  have s598 := p596.o (pg586.o s174 rfl) rfl
  refine s1 p596.z (okMv s598) rfl fun a599 p600 s601 => ?_
  refine s1 p600.z (okBd (pb2 cst s601) (bd29_0_1 1 x2 _)) rfl fun a602 p603 s604 => ?_
  refine s1 p603.z (okBd (pb1 cst) (bd29_0 2 _)) rfl fun a605 p606 s607 => ?_
  have s608 := p606.o (p603.o (p600.o s598 rfl) rfl) rfl
  refine s1 p606.z (okMv s608) rfl fun a609 p610 s611 => ?_
  refine s1 p610.z (okBd (pb2 cst s611) (bd29_0_1 15 x2 _)) rfl fun a612 p613 s614 => ?_
  have s615 := p613.o (p610.o (p606.o (p603.o (p600.o s597 rfl) rfl) rfl) rfl) rfl
  have s616 := p613.o (p610.o (p606.o s604 rfl) rfl) rfl
  have s617 := p613.o (p610.o s607 rfl) rfl
  refine lS (oBS (K := KTNote) (L := (b3 :: L)) (xs := [(⟨1, 1⟩ : TNote), (⟨1, x2⟩ : TNote), (⟨2, 0⟩ : TNote), (⟨15, x2⟩ : TNote)]) (C := [TNote.C (⟨1, 1⟩ : TNote), TNote.C (⟨1, x2⟩ : TNote), TNote.C (⟨2, 0⟩ : TNote), TNote.C (⟨15, x2⟩ : TNote)]) p613.z (pb4 s615 s616 s617 s614) (bs30_4_0_1_2_3 (⟨1, 1⟩ : TNote) (⟨1, x2⟩ : TNote) (⟨2, 0⟩ : TNote) (⟨15, x2⟩ : TNote)) rfl rfl (all2C rfl (all2C rfl (all2C rfl (all2C rfl all2N)))) rfl rfl fun a618 v619 w620 p621 sp621 q622 g623 f624 => ?_)
  have f625 := frN f624
  have nb626 := nbA hL cx181.g.sz (fun _ h => nilO h) f625
  have sf627 := sfA (S := []) cx181.g.sz (fun _ h => nilO h) f625
  have n628 := m179.no (fun h => nilO h) f625
  have cx629 := cx181.ap g623 (fun _ h => nilO h) q622
  refine s1 p621.z (okAs sp621) rfl fun a630 p631 s632 => ?_
  refine rN (thenN ?_)
  refine wp_seq ?_
  refine reg ?_
  refine s1 p631.z (okBd (pb1 cst) (bd29_0 3 _)) rfl fun a633 p634 s635 => ?_
  have s636 := p634.o (p631.o (p621.o (p613.o (p610.o s608 rfl) rfl) rfl) rfl) rfl
  refine s1 p634.z (okMv s636) rfl fun a637 p638 s639 => ?_
  refine s1 p638.z (okBd (pb2 cst s639) (bd29_0_1 3 x2 _)) rfl fun a640 p641 s642 => ?_
  refine s1 p641.z (okBd (pb1 cst) (bd29_0 4 _)) rfl fun a643 p644 s645 => ?_
  refine s1 p644.z (okBd (pb1 cst) (bd29_0 16 _)) rfl fun a646 p647 s648 => ?_
  have s649 := p647.o (p644.o (p641.o (p638.o s635 rfl) rfl) rfl) rfl
  have s650 := p647.o (p644.o s642 rfl) rfl
  have s651 := p647.o s645 rfl
  have m659 := m179.g0 g623
  refine lS (oBS (K := KTNote) (L := (ownB v619 ++ (b3 :: L))) (xs := [(⟨3, 0⟩ : TNote), (⟨3, x2⟩ : TNote), (⟨4, 0⟩ : TNote), (⟨16, 0⟩ : TNote)]) (C := [TNote.C (⟨3, 0⟩ : TNote), TNote.C (⟨3, x2⟩ : TNote), TNote.C (⟨4, 0⟩ : TNote), TNote.C (⟨16, 0⟩ : TNote)]) p647.z (pb4 s649 s650 s651 s648) (bs30_4_0_1_2_3 (⟨3, 0⟩ : TNote) (⟨3, x2⟩ : TNote) (⟨4, 0⟩ : TNote) (⟨16, 0⟩ : TNote)) rfl rfl (all2C rfl (all2C rfl (all2C rfl (all2C rfl all2N)))) rfl rfl fun a652 v653 w654 p655 sp655 q656 g657 f658 => ?_)
  have f660 := frN f658
  have nb661 := nbA hL cx629.g.sz (fun _ h => nilO h) f660
  have sf662 := sfA (S := []) cx629.g.sz (fun _ h => nilO h) f660
  have n663 := m659.no (fun h => nilO h) f660
  have n664 := q622.dj (fun _ _ h => nilO h) f660
  have cx665 := cx629.ap g657 (fun _ h => nilO h) q656
  refine s1 p655.z (okAs sp655) rfl fun a666 p667 s668 => ?_
  refine rN (thenN ?_)
  refine wp_seq ?_
  refine wp_seq ?_
  refine reg ?_
  refine s1 p667.z (okAs cst) rfl fun a669 p670 s671 => ?_
  refine rN (thenN ?_)
  refine wp_block ?_
  obtain ⟨o673, ho674, h⟩ := Option.bind_eq_some_iff.1 h
  have s676 := p670.o (p667.o (p655.o (p647.o (p644.o (p641.o (p638.o (p634.o (p631.o (p621.o (p613.o (p610.o (p606.o (p603.o (p600.o (p596.o (pg586.o s173 rfl) rfl) rfl) rfl) rfl) rfl) rfl) rfl) rfl) rfl) rfl) rfl) rfl) rfl) rfl) rfl) rfl
  have s677 := p670.o (p667.o (p655.o (p647.o (p644.o (p641.o (p638.o (p634.o (p631.o (p621.o (p613.o (p610.o (p606.o (p603.o (p600.o (p596.o (pg586.o s175 rfl) rfl) rfl) rfl) rfl) rfl) rfl) rfl) rfl) rfl) rfl) rfl) rfl) rfl) rfl) rfl) rfl
  have s678 := p670.o (p667.o (p655.o (p647.o (p644.o (p641.o (p638.o (p634.o (p631.o (p621.o (p613.o (p610.o (p606.o (p603.o (p600.o (p596.o (pg586.o s176 rfl) rfl) rfl) rfl) rfl) rfl) rfl) rfl) rfl) rfl) rfl) rfl) rfl) rfl) rfl) rfl) rfl
  have s679 := p670.o (p667.o (p655.o (p647.o (p644.o (p641.o (p638.o (p634.o (p631.o (p621.o (p613.o (p610.o (p606.o (p603.o (p600.o (p596.o (pg586.o s177 rfl) rfl) rfl) rfl) rfl) rfl) rfl) rfl) rfl) rfl) rfl) rfl) rfl) rfl) rfl) rfl) rfl
  have s680 := p670.o (p667.o (p655.o (p647.o (p644.o (p641.o (p638.o (p634.o s632 rfl) rfl) rfl) rfl) rfl) rfl) rfl) rfl
  have s681 := p670.o s668 rfl
  have m682 := m659.g0 g657
  have q683 := q622.t0 (tAp g657 (fun _ h => nilO h) f660) g657
  have q684 := q180.mono ((tAp g623 (fun _ h => nilO h) f625).trans (tAp g657 (fun _ h => nilO h) f660))
  refine loopX (I := (fun k' a' w' => ∃ i672, Z Try.f3.ntmps a' ∧ a'.eval (.tmp 1) = .int .i64 x1 ∧ a'.eval (.tmp 3) = ptr b3 0 ∧ a'.eval (.tmp 6) = .bool false ∧ a'.eval (.tmp 7) = .bool t13 ∧ a'.eval (.tmp 10) = v619 ∧ a'.eval (.tmp 11) = v653 ∧ a'.eval (.tmp 12) = .int .i64 i672 ∧ Bk w' b3 (TThing.C x0 h0_0) 25 ∧ OwnS KTNote 29 (ownB v653 ++ (ownB v619 ++ (b3 :: L))) w' v619 [(⟨1, 1⟩ : TNote), (⟨1, x2⟩ : TNote), (⟨2, 0⟩ : TNote), (⟨15, x2⟩ : TNote)] ∧ OwnS KTNote 29 (ownB v653 ++ (ownB v619 ++ (b3 :: L))) w' v653 [(⟨3, 0⟩ : TNote), (⟨3, x2⟩ : TNote), (⟨4, 0⟩ : TNote), (⟨16, 0⟩ : TNote)] ∧ RdS KTWaiter (ownB v653 ++ (ownB v619 ++ (b3 :: L))) w' h0_0 x0.waiters ∧ Cx [] w (ownB v653 ++ (ownB v619 ++ (b3 :: L))) w' ∧ tholelaw10_ModelBack.l1 x0 x1 x2 k' i672 = some o673)) 2 (fun a' w' => ∃ g675, o673 = .go g675 ∧ Z Try.f3.ntmps a' ∧ a'.eval (.tmp 6) = .bool false ∧ a'.eval (.tmp 7) = .bool t13 ∧ Bk w' b3 (TThing.C x0 h0_0) 25 ∧ RdS KTWaiter (ownB v653 ++ (ownB v619 ++ (b3 :: L))) w' h0_0 x0.waiters ∧ Cx [] w (ownB v653 ++ (ownB v619 ++ (b3 :: L))) w') ⟨0, p670.z, s676, s677, s678, s679, s680, s681, s671, m682, q683, q656, q684, cx665, ho674⟩ ?_ ?_
  · have oh701 := h; clear h ho674
    rintro k685 a686 w687 ⟨i672, z688, s689, s690, s691, s692, s693, s694, s695, m696, q697, q698, q699, cx700, h⟩
    obtain _ | k := k685
    case zero => cases h
    rw [tholelaw10_ModelBack.l1] at h
    refine wp_seq ?_
    refine wp_seq ?_
    refine reg ?_
    refine s1 z688 (okMv s695) rfl fun a702 p703 s704 => ?_
    refine s1 p703.z (okLt s704 cst) rfl fun a705 p706 s707 => ?_
    refine rN (thenN ?_)
    refine cnd s707 (fun hb708 => ?_) (fun hb708 => ?_)
    · replace h := (ifP hb708).symm.trans h
      refine wp_skip (thenN ?_)
      refine wp_seq ?_
      refine wp_block ?_
      refine wp_seq ?_
      refine wp_seq ?_
      refine reg ?_
      have s709 := p706.o (p703.o s695 rfl) rfl
      refine s1 p706.z (okMv s709) rfl fun a710 p711 s712 => ?_
      refine s1 p711.z (okEq s712 cst) rfl fun a713 p714 s715 => ?_
      refine s1 p714.z (okMv s715) rfl fun a716 p717 s718 => ?_
      refine cutP 4 (fun a' => Pg Try.f3.ntmps [99, 100, 101, 102] a716 a' ∧ a'.eval (.tmp 102) = .bool ((i672 == 0) && (x0.kind == 2))) ?_ ?_
      · rcases bf (i672 == 0) with hb719 | hb719
        · have s720 := bv s718 hb719
          refine s1k p717.z rfl (yd p717.z rfl rfl s720) rfl fun a721 p722 s723 => ?_
          have s724 := p722.o s720 rfl
          refine s1k p722.z rfl (yd p722.z rfl rfl s724) rfl fun a725 p726 s727 => ?_
          have s728 := p726.o s724 rfl
          refine s1k p726.z rfl (yd p726.z rfl rfl s728) rfl fun a729 p730 s731 => ?_
          have s732 := p730.o s728 rfl
          refine s1 p730.z (okPickF s732 cst) rfl fun a733 p734 s735 => ?_
          exact rN ⟨rfl, rfl, (((((Pg.refl p717.z).st p722 rfl).st p726 rfl).st p730 rfl).st p734 rfl), (andF hb719 s735)⟩
        · have s736 := bv s718 hb719
          have s737 := p717.o (p714.o (p711.o (p706.o (p703.o s690 rfl) rfl) rfl) rfl) rfl
          refine s1g p717.z (okFA (o' := 0) fo25_0 s737 rfl) rfl (yd p717.z rfl rfl s736) fun a738 p739 s740 => ?_
          have s741 := p739.o s736 rfl
          refine s1g p739.z (okLd (j := 0) na3 s740 (m696.cl) rfl rfl) rfl (yd p739.z rfl rfl s741) fun a742 p743 s744 => ?_
          have s745 := p743.o s741 rfl
          refine s1g p743.z (okEq s744 cst) rfl (yd p743.z rfl rfl s745) fun a746 p747 s748 => ?_
          have s749 := p747.o s745 rfl
          refine s1 p747.z (okPickT s749 s748) rfl fun a750 p751 s752 => ?_
          exact rN ⟨rfl, rfl, (((((Pg.refl p717.z).st p739 rfl).st p743 rfl).st p747 rfl).st p751 rfl), (andT hb719 s752)⟩
      rintro a753 ⟨pg754, s755⟩
      refine s1 pg754.z (okMv s755) rfl fun a756 p757 s758 => ?_
      refine cutP 8 (fun a' => Pg Try.f3.ntmps [104, 105, 106, 107, 108, 109, 110, 111] a756 a' ∧ a'.eval (.tmp 111) = .bool (((i672 == 0) && (x0.kind == 2)) || ((i672 == 1) && (x0.kind != 2)))) ?_ ?_
      · rcases bf ((i672 == 0) && (x0.kind == 2)) with hb759 | hb759
        · have s760 := bv s758 hb759
          have s761 := p757.o (pg754.o (p717.o (p714.o (p711.o s709 rfl) rfl) rfl) rfl) rfl
          refine s1g p757.z (okMv s761) rfl (yd p757.z rfl rfl s760) fun a762 p763 s764 => ?_
          have s765 := p763.o s760 rfl
          refine s1g p763.z (okEq s764 cst) rfl (yd p763.z rfl rfl s765) fun a766 p767 s768 => ?_
          have s769 := p767.o s765 rfl
          refine s1g p767.z (okMv s768) rfl (yd p767.z rfl rfl s769) fun a770 p771 s772 => ?_
          refine cutP 4 (fun a' => Pg Try.f3.ntmps [107, 108, 109, 110] a770 a' ∧ a'.eval (.tmp 110) = .bool ((i672 == 1) && (x0.kind != 2))) ?_ ?_
          · rcases bf (i672 == 1) with hb773 | hb773
            · have s774 := bv s772 hb773
              refine s1k p771.z rfl (yd p771.z rfl rfl s774) rfl fun a775 p776 s777 => ?_
              have s778 := p776.o s774 rfl
              refine s1k p776.z rfl (yd p776.z rfl rfl s778) rfl fun a779 p780 s781 => ?_
              have s782 := p780.o s778 rfl
              refine s1k p780.z rfl (yd p780.z rfl rfl s782) rfl fun a783 p784 s785 => ?_
              have s786 := p784.o (p780.o (p776.o (p771.o s769 rfl) rfl) rfl) rfl
              have s787 := p784.o s782 rfl
              refine s1g p784.z (okPickF s787 cst) rfl (yd p784.z rfl rfl s786) fun a788 p789 s790 => ?_
              exact rN ⟨rfl, rfl, (((((Pg.refl p771.z).st p776 rfl).st p780 rfl).st p784 rfl).st p789 rfl), (andF hb773 s790)⟩
            · have s791 := bv s772 hb773
              have s792 := p771.o (p767.o (p763.o (p757.o (pg754.o (p717.o (p714.o (p711.o (p706.o (p703.o s690 rfl) rfl) rfl) rfl) rfl) rfl) rfl) rfl) rfl) rfl
              refine s1g p771.z (okFA (o' := 0) fo25_0 s792 rfl) rfl (yd p771.z rfl rfl s791) fun a793 p794 s795 => ?_
              have s796 := p794.o s791 rfl
              refine s1g p794.z (okLd (j := 0) na3 s795 (m696.cl) rfl rfl) rfl (yd p794.z rfl rfl s796) fun a797 p798 s799 => ?_
              have s800 := p798.o s796 rfl
              refine s1g p798.z (okNe s799 cst) rfl (yd p798.z rfl rfl s800) fun a801 p802 s803 => ?_
              have s804 := p802.o (p798.o (p794.o (p771.o s769 rfl) rfl) rfl) rfl
              have s805 := p802.o s800 rfl
              refine s1g p802.z (okPickT s805 s803) rfl (yd p802.z rfl rfl s804) fun a806 p807 s808 => ?_
              exact rN ⟨rfl, rfl, (((((Pg.refl p771.z).st p794 rfl).st p798 rfl).st p802 rfl).st p807 rfl), (andT hb773 s808)⟩
          rintro a809 ⟨pg810, s811⟩
          have s812 := pg810.o (p771.o s769 rfl) rfl
          refine s1 pg810.z (okPickF s812 s811) rfl fun a813 p814 s815 => ?_
          exact rN ⟨rfl, rfl, ((((((Pg.refl p757.z).st p763 rfl).st p767 rfl).st p771 rfl).tr pg810 rfl).st p814 rfl), (orF hb759 s815)⟩
        · have s816 := bv s758 hb759
          refine s1k p757.z rfl (yd p757.z rfl rfl s816) rfl fun a817 p818 s819 => ?_
          have s820 := p818.o s816 rfl
          refine s1k p818.z rfl (yd p818.z rfl rfl s820) rfl fun a821 p822 s823 => ?_
          have s824 := p822.o s820 rfl
          refine s1k p822.z rfl (yd p822.z rfl rfl s824) rfl fun a825 p826 s827 => ?_
          refine s1k p826.z rfl (ydU p826.z rfl rfl s827) rfl fun a828 p829 s830 => ?_
          have s831 := p829.o s827 rfl
          refine s1k p829.z rfl (ydU p829.z rfl rfl s831) rfl fun a832 p833 s834 => ?_
          have s835 := p833.o s831 rfl
          refine s1k p833.z rfl (ydU p833.z rfl rfl s835) rfl fun a836 p837 s838 => ?_
          have s839 := p837.o (p833.o (p829.o (p826.o s824 rfl) rfl) rfl) rfl
          refine s1k p837.z rfl (yd p837.z rfl rfl s839) rfl fun a840 p841 s842 => ?_
          have s843 := p841.o s839 rfl
          refine s1 p841.z (okPickT s843 cst) rfl fun a844 p845 s846 => ?_
          exact rN ⟨rfl, rfl, (((((((((Pg.refl p757.z).st p818 rfl).st p822 rfl).st p826 rfl).st p829 rfl).st p833 rfl).st p837 rfl).st p841 rfl).st p845 rfl), (orT hb759 s846)⟩
      rintro a847 ⟨pg848, s849⟩
      refine rN (thenN ?_)
      have s850 := pg848.o (p757.o (pg754.o (p717.o (p714.o (p711.o s709 rfl) rfl) rfl) rfl) rfl) rfl
      have s851 := pg848.o (p757.o (pg754.o (p717.o (p714.o (p711.o (p706.o s704 rfl) rfl) rfl) rfl) rfl) rfl) rfl
      have s852 := pg848.o (p757.o (pg754.o (p717.o (p714.o (p711.o s707 rfl) rfl) rfl) rfl) rfl) rfl
      have s853 := pg848.o (p757.o (pg754.o (p717.o (p714.o s712 rfl) rfl) rfl) rfl) rfl
      have s854 := pg848.o (p757.o (pg754.o (p717.o s715 rfl) rfl) rfl) rfl
      have s855 := pg848.o (p757.o (pg754.o s718 rfl) rfl) rfl
      have s856 := pg848.o (p757.o s755 rfl) rfl
      have s857 := pg848.o s758 rfl
      have pg858 : Pg _ [92, 93, 96, 97, 98, 99, 100, 101, 102, 103, 104, 105, 106, 107, 108, 109, 110, 111] _ _ := (((((((((Pg.refl z688).st p703 rfl).st p706 rfl).st p711 rfl).st p714 rfl).st p717 rfl).tr pg754 rfl).st p757 rfl).tr pg848 rfl)
      refine cnd s849 (fun hb859 => ?_) (fun hb859 => ?_)
      · replace h := (ifP hb859).symm.trans h
        refine wp_exit (thenE (blkE (thenN ?_)))
        refine reg ?_
        refine s1 pg858.z (okMv s850) rfl fun a860 p861 s862 => ?_
        refine s1 p861.z (okAdd s862 cst) rfl fun a863 p864 s865 => ?_
        refine s1 p864.z (okAs s865) rfl fun a866 p867 s868 => ?_
        have s869 := p867.o (p864.o (p861.o (pg858.o s689 rfl) rfl) rfl) rfl
        have s870 := p867.o (p864.o (p861.o (pg858.o s690 rfl) rfl) rfl) rfl
        have s871 := p867.o (p864.o (p861.o (pg858.o s691 rfl) rfl) rfl) rfl
        have s872 := p867.o (p864.o (p861.o (pg858.o s692 rfl) rfl) rfl) rfl
        have s873 := p867.o (p864.o (p861.o (pg858.o s693 rfl) rfl) rfl) rfl
        have s874 := p867.o (p864.o (p861.o (pg858.o s694 rfl) rfl) rfl) rfl
        exact rN (thenN ⟨k, Nat.lt_succ_self k, (w64 (i672 + 1)), p867.z, s869, s870, s871, s872, s873, s874, s868, m696, q697, q698, q699, cx700, h⟩)
      replace h := (ifN hb859).symm.trans h
      refine wp_skip (thenN ?_)
      refine wp_seq ?_
      obtain ⟨y892, hy893, h⟩ := Option.bind_eq_some_iff.1 h
      obtain ⟨b894, cs896, r898, e899, nb900, k897⟩ := q697.at_ hy893
      obtain rfl := r898
      obtain ⟨t909, ht910, h⟩ := Option.bind_eq_some_iff.1 h
      have s952 := pg858.o s689 rfl
      have s953 := pg858.o s690 rfl
      have s954 := pg858.o s691 rfl
      have s955 := pg858.o s692 rfl
      have s956 := pg858.o s693 rfl
      have s957 := pg858.o s694 rfl
      refine regJ (fun a' w' => ∃ h916, ∃ b932 : Nat, Z Try.f3.ntmps a' ∧ a'.eval (.tmp 1) = .int .i64 x1 ∧ a'.eval (.tmp 3) = ptr b3 0 ∧ a'.eval (.tmp 6) = .bool false ∧ a'.eval (.tmp 7) = .bool t13 ∧ a'.eval (.tmp 10) = v619 ∧ a'.eval (.tmp 11) = v653 ∧ a'.eval (.tmp 12) = .int .i64 i672 ∧ a'.eval (.tmp 92) = .int .i64 i672 ∧ a'.eval (.tmp 93) = .bool (decide (i672 < 4)) ∧ a'.eval (.tmp 96) = .int .i64 i672 ∧ a'.eval (.tmp 97) = .bool (i672 == 0) ∧ a'.eval (.tmp 98) = .bool (i672 == 0) ∧ a'.eval (.tmp 102) = .bool ((i672 == 0) && (x0.kind == 2)) ∧ a'.eval (.tmp 103) = .bool ((i672 == 0) && (x0.kind == 2)) ∧ a'.eval (.tmp 111) = .bool (((i672 == 0) && (x0.kind == 2)) || ((i672 == 1) && (x0.kind != 2))) ∧ a'.eval (.tmp 113) = .agg (TThing.C x0 h0_0).toArray ∧ a'.eval (.tmp 114) = .int .i64 x1 ∧ a'.eval (.tmp 115) = v619 ∧ a'.eval (.tmp 116) = .int .i64 i672 ∧ a'.eval (.tmp 117) = ptr b894 (i672.toNat * 2) ∧ a'.eval (.tmp 118) = .agg (TNote.C y892).toArray ∧ a'.eval (.tmp 119) = .tuple #[.agg (TThing.C t909.1 h916).toArray, .bool t909.2] ∧ a'.eval (.tmp 112) = .tuple #[.agg (TThing.C t909.1 h916).toArray, .bool t909.2] ∧ a'.eval (.tmp 120) = .agg (TThing.C t909.1 h916).toArray ∧ a'.eval (.tmp 121) = .bool t909.2 ∧ a'.eval (.tmp 13) = ptr b932 0 ∧ a'.eval (.tmp 14) = .bool t909.2 ∧ Bk w' b3 (TThing.C x0 h0_0) 25 ∧ Bk w' b932 (TThing.C t909.1 h916) 25 ∧ RdS KTWaiter (b932 :: ownB v653 ++ (ownB v619 ++ (b3 :: L))) w' h916 t909.1.waiters ∧ OwnS KTNote 29 (b932 :: ownB v653 ++ (ownB v619 ++ (b3 :: L))) w' v619 [(⟨1, 1⟩ : TNote), (⟨1, x2⟩ : TNote), (⟨2, 0⟩ : TNote), (⟨15, x2⟩ : TNote)] ∧ OwnS KTNote 29 (b932 :: ownB v653 ++ (ownB v619 ++ (b3 :: L))) w' v653 [(⟨3, 0⟩ : TNote), (⟨3, x2⟩ : TNote), (⟨4, 0⟩ : TNote), (⟨16, 0⟩ : TNote)] ∧ Cx [] w (b932 :: ownB v653 ++ (ownB v619 ++ (b3 :: L))) w' ∧ Tr (ownB v653 ++ (ownB v619 ++ (b3 :: L))) w687 (b932 :: ownB v653 ++ (ownB v619 ++ (b3 :: L))) w' ∧ b932 ∉ ownB v619 ∧ b932 ∉ ownB v653 ∧ b3 ≠ b932 ∧ w.heap.size ≤ b932) ?_ ?_
      · refine regH (n := 13) [(0, fun w' => Cl w' b3 0 (TThing.C x0 h0_0)), (5, fun w' => Cl w' b894 (i672.toNat * 2) (TNote.C y892))] mixed rfl ?_
        have g958 := G.drew w687
        have cx959 := cx700.ca g958
        have m960 := m696.g0 g958
        refine hTakeW (i := 0) rfl (by kernel_rfl) (by kernel_rfl) (by kernel_rfl) nrm (.inr (.head _)) pg858.z (wN rfl) (fun _ h => okLdA ag25 s953 h rfl rfl whole) (m960.clp rfl) rfl fun a961 p962 sp962 => ?_
        have s963 := p962.o s952 rfl
        refine hTakeW (i := 1) rfl (by kernel_rfl) (by kernel_rfl) (by kernel_rfl) nrm (cond := fun _ => True) (.inl fun _ => trivial) p962.z (wN rfl) (fun _ _ => okMv s963) trivial rfl fun a964 p965 sp965 => ?_
        have s966 := p965.o (p962.o s956 rfl) rfl
        refine hTakeW (i := 2) rfl (by kernel_rfl) (by kernel_rfl) (by kernel_rfl) nrm (cond := fun _ => True) (.inl fun _ => trivial) p965.z (wN rfl) (fun _ _ => okMv s966) trivial rfl fun a967 p968 sp968 => ?_
        have s969 := p968.o (p965.o (p962.o s850 rfl) rfl) rfl
        refine hTakeW (i := 3) rfl (by kernel_rfl) (by kernel_rfl) (by kernel_rfl) nrm (cond := fun _ => True) (.inl fun _ => trivial) p968.z (wN rfl) (fun _ _ => okMv s969) trivial rfl fun a970 p971 sp971 => ?_
        have s972 := p971.o sp968 rfl
        have q973 := q697.t0 g958.t0 g958
        refine hTakeW (i := 4) rfl (by kernel_rfl) (by kernel_rfl) (by kernel_rfl) nrm (cond := fun _ => True) (.inl fun _ => trivial) p971.z (wN rfl) (fun _ _ => k897 Try.underlying30 Try.sizeOf29 s972 sp971 _) trivial rfl fun a981 p982 sp982 => ?_
        refine hTakeW (i := 5) rfl (by kernel_rfl) (by kernel_rfl) (by kernel_rfl) nrm (.inr (.tail _ (.head _))) p982.z (wN rfl) (fun _ h => okLdA ag29 sp982 h rfl rfl whole) e899 rfl fun a983 p984 sp984 => ?_
        refine hTwo (i := 6) (j := 10) (by kernel_rfl) rfl rfl rfl rfl ?_ ?_
        · have s985 := p984.o (p982.o (p971.o (p968.o (p965.o sp962 rfl) rfl) rfl) rfl) rfl
          have s986 := p984.o (p982.o (p971.o (p968.o sp965 rfl) rfl) rfl) rfl
          have q987 := q699.mono g958.t0
          refine (oCall p984.z Try.call7 (ag3 s985 s986 sp984) (c7 k (ownB v653 ++ (ownB v619 ++ (b3 :: L))) w687.drew cx959.lt _ _ q987 _ _ _ ht910) rfl fun v991 a988 w989 hp992 p990 sp990 => ?_)
          obtain ⟨h993, rfl, q994, g995⟩ := hp992
          have cx996 := cx959.ca g995
          refine ⟨⟨.inl rfl, .inl rfl, trivial⟩, ?_⟩
          refine hTakeW (i := 7) rfl (by kernel_rfl) (by kernel_rfl) (by kernel_rfl) nrm (cond := fun _ => True) (.inl fun _ => trivial) p990.z (wN rfl) (fun _ _ => okMv sp990) trivial rfl fun a997 p998 sp998 => ?_
          refine hTakeW (i := 8) rfl (by kernel_rfl) (by kernel_rfl) (by kernel_rfl) nrm (cond := fun _ => True) (.inl fun _ => trivial) p998.z (wN rfl) (fun _ _ => okExt (vs := [_, _]) sp998 rfl) trivial rfl fun a999 p1000 sp1000 => ?_
          have s1001 := p1000.o sp998 rfl
          refine hTakeW (i := 9) rfl (by kernel_rfl) (by kernel_rfl) (by kernel_rfl) nrm (cond := fun _ => True) (.inl fun _ => trivial) p1000.z (wN rfl) (fun _ _ => okExt (vs := [_, _]) s1001 rfl) trivial rfl fun a1002 p1003 sp1003 => ?_
          have m1011 := m960.g0 g995
          have q1012 := q973.t0 g995.t0 g995
          have q1013 := (q698.t0 g958.t0 g958).t0 g995.t0 g995
          refine hOne (i := 10) (by kernel_rfl) rfl (oAlloc zv25 p1003.z rfl fun a1004 w1005 b1006 p1007 sp1007 m1008 g1009 e1010 => ?_)
          have f1015 := cx996.nw e1010
          have cx1014 := cx996.al g1009 m1008
          refine ⟨⟨.inr fun h => h.g0 g1009, .inr fun h => h.g0 g1009, trivial⟩, ?_⟩
          have s1016 := p1007.o (p1003.o sp1000 rfl) rfl
          have q1017 := q994.mono (g1009.tA (Nat.le_of_eq e1010.symm))
          refine hOne (i := 11) (by kernel_rfl) rfl (oStoW (cs := TThing.C t909.1 h993) p1007.z sp1007 s1016 m1008 Try.sizeOf25 rfl (TThing.C_one _ q1017.one) rfl fun w1018 m1019 g1020 => ?_)
          have cx1021 := cx1014.st g1020 f1015
          refine ⟨⟨.inl rfl, .inl rfl, trivial⟩, ?_⟩
          have s1022 := p1007.o sp1003 rfl
          refine hTakeW (i := 12) rfl (by kernel_rfl) (by kernel_rfl) (by kernel_rfl) nrm (cond := fun _ => True) (.inl fun _ => trivial) p1007.z (wN rfl) (fun _ _ => okAs s1022) trivial rfl fun a1023 p1024 sp1024 => ?_
          have q1025 := q1017.mono (g1020.t1 (.head _))
          have q1026 := (q1012.t0 (g1009.tA (Nat.le_of_eq e1010.symm)) g1009).t1 (g1020.t1 (.head _)) g1020 (q1012.nb e1010)
          have q1027 := (q1013.t0 (g1009.tA (Nat.le_of_eq e1010.symm)) g1009).t1 (g1020.t1 (.head _)) g1020 (q1013.nb e1010)
          have s1028 := p1024.o (p1007.o (p1003.o (p1000.o (p998.o (p990.o (p984.o (p982.o (p971.o (p968.o (p965.o s963 rfl) rfl) rfl) rfl) rfl) rfl) rfl) rfl) rfl) rfl) rfl
          have s1029 := p1024.o (p1007.o (p1003.o (p1000.o (p998.o (p990.o (p984.o (p982.o (p971.o (p968.o (p965.o (p962.o s953 rfl) rfl) rfl) rfl) rfl) rfl) rfl) rfl) rfl) rfl) rfl) rfl
          have s1030 := p1024.o (p1007.o (p1003.o (p1000.o (p998.o (p990.o (p984.o (p982.o (p971.o (p968.o (p965.o (p962.o s954 rfl) rfl) rfl) rfl) rfl) rfl) rfl) rfl) rfl) rfl) rfl) rfl
          have s1031 := p1024.o (p1007.o (p1003.o (p1000.o (p998.o (p990.o (p984.o (p982.o (p971.o (p968.o (p965.o (p962.o s955 rfl) rfl) rfl) rfl) rfl) rfl) rfl) rfl) rfl) rfl) rfl) rfl
          have s1032 := p1024.o (p1007.o (p1003.o (p1000.o (p998.o (p990.o (p984.o (p982.o (p971.o (p968.o s966 rfl) rfl) rfl) rfl) rfl) rfl) rfl) rfl) rfl) rfl
          have s1033 := p1024.o (p1007.o (p1003.o (p1000.o (p998.o (p990.o (p984.o (p982.o (p971.o (p968.o (p965.o (p962.o s957 rfl) rfl) rfl) rfl) rfl) rfl) rfl) rfl) rfl) rfl) rfl) rfl
          have s1034 := p1024.o (p1007.o (p1003.o (p1000.o (p998.o (p990.o (p984.o (p982.o (p971.o s969 rfl) rfl) rfl) rfl) rfl) rfl) rfl) rfl) rfl
          have s1035 := p1024.o (p1007.o (p1003.o (p1000.o (p998.o (p990.o (p984.o (p982.o (p971.o (p968.o (p965.o (p962.o s851 rfl) rfl) rfl) rfl) rfl) rfl) rfl) rfl) rfl) rfl) rfl) rfl
          have s1036 := p1024.o (p1007.o (p1003.o (p1000.o (p998.o (p990.o (p984.o (p982.o (p971.o (p968.o (p965.o (p962.o s852 rfl) rfl) rfl) rfl) rfl) rfl) rfl) rfl) rfl) rfl) rfl) rfl
          have s1037 := p1024.o (p1007.o (p1003.o (p1000.o (p998.o (p990.o (p984.o (p982.o (p971.o (p968.o (p965.o (p962.o s853 rfl) rfl) rfl) rfl) rfl) rfl) rfl) rfl) rfl) rfl) rfl) rfl
          have s1038 := p1024.o (p1007.o (p1003.o (p1000.o (p998.o (p990.o (p984.o (p982.o (p971.o (p968.o (p965.o (p962.o s854 rfl) rfl) rfl) rfl) rfl) rfl) rfl) rfl) rfl) rfl) rfl) rfl
          have s1039 := p1024.o (p1007.o (p1003.o (p1000.o (p998.o (p990.o (p984.o (p982.o (p971.o (p968.o (p965.o (p962.o s855 rfl) rfl) rfl) rfl) rfl) rfl) rfl) rfl) rfl) rfl) rfl) rfl
          have s1040 := p1024.o (p1007.o (p1003.o (p1000.o (p998.o (p990.o (p984.o (p982.o (p971.o (p968.o (p965.o (p962.o s856 rfl) rfl) rfl) rfl) rfl) rfl) rfl) rfl) rfl) rfl) rfl) rfl
          have s1041 := p1024.o (p1007.o (p1003.o (p1000.o (p998.o (p990.o (p984.o (p982.o (p971.o (p968.o (p965.o (p962.o s857 rfl) rfl) rfl) rfl) rfl) rfl) rfl) rfl) rfl) rfl) rfl) rfl
          have s1042 := p1024.o (p1007.o (p1003.o (p1000.o (p998.o (p990.o (p984.o (p982.o (p971.o (p968.o (p965.o (p962.o s849 rfl) rfl) rfl) rfl) rfl) rfl) rfl) rfl) rfl) rfl) rfl) rfl
          have s1043 := p1024.o (p1007.o (p1003.o (p1000.o (p998.o (p990.o s985 rfl) rfl) rfl) rfl) rfl) rfl
          have s1044 := p1024.o (p1007.o (p1003.o (p1000.o (p998.o (p990.o s986 rfl) rfl) rfl) rfl) rfl) rfl
          have s1045 := p1024.o (p1007.o (p1003.o (p1000.o (p998.o (p990.o (p984.o (p982.o s972 rfl) rfl) rfl) rfl) rfl) rfl) rfl) rfl
          have s1046 := p1024.o (p1007.o (p1003.o (p1000.o (p998.o (p990.o (p984.o (p982.o sp971 rfl) rfl) rfl) rfl) rfl) rfl) rfl) rfl
          have s1047 := p1024.o (p1007.o (p1003.o (p1000.o (p998.o (p990.o (p984.o sp982 rfl) rfl) rfl) rfl) rfl) rfl) rfl
          have s1048 := p1024.o (p1007.o (p1003.o (p1000.o (p998.o (p990.o sp984 rfl) rfl) rfl) rfl) rfl) rfl
          have s1049 := p1024.o (p1007.o (p1003.o (p1000.o (p998.o sp990 rfl) rfl) rfl) rfl) rfl
          have s1050 := p1024.o (p1007.o (p1003.o s1001 rfl) rfl) rfl
          have s1051 := p1024.o s1016 rfl
          have s1052 := p1024.o s1022 rfl
          have s1053 := p1024.o sp1007 rfl
          have m1054 := (m1011.g0 g1009).g1 g1020 (m1011.ne e1010)
          exact hDone (by kernel_rfl) ⟨rfl, h993, b1006, p1024.z, s1028, s1029, s1030, s1031, s1032, s1033, s1034, s1035, s1036, s1037, s1038, s1039, s1040, s1041, s1042, s1043, s1044, s1045, s1046, s1047, s1048, s1049, s1050, s1051, s1052, s1053, sp1024, m1054, m1019, q1025, q1026, q1027, cx1021, (((g958.t0.trans g995.t0).trans (g1009.tA (Nat.le_of_eq e1010.symm))).trans (g1020.t1 (.head _))), (q1012.nb e1010), (q1013.nb e1010), (m1011.ne e1010), f1015⟩
        · have q1062 := q698.t0 g958.t0 g958
          refine (oAlloc zv25 p984.z rfl fun a1055 w1056 b1057 p1058 sp1058 m1059 g1060 e1061 => ?_)
          have f1064 := cx959.nw e1061
          have cx1063 := cx959.al g1060 m1059
          refine ⟨⟨.inr fun h => h.g0 g1060, .inr fun h => h.g0 g1060, trivial⟩, ?_⟩
          have s1065 := p1058.o (p984.o (p982.o (p971.o (p968.o (p965.o sp962 rfl) rfl) rfl) rfl) rfl) rfl
          have s1066 := p1058.o (p984.o (p982.o (p971.o (p968.o sp965 rfl) rfl) rfl) rfl) rfl
          have s1067 := p1058.o sp984 rfl
          have q1068 := q699.mono (g958.t0.trans (g1060.tA (Nat.le_of_eq e1061.symm)))
          refine hOne (i := 6) (by kernel_rfl) rfl (oCall p1058.z Try.call7 (ag3 s1065 s1066 s1067) (c7 k (b1057 :: ownB v653 ++ (ownB v619 ++ (b3 :: L))) w1056 cx1063.lt _ _ q1068 _ _ _ ht910) rfl fun v1072 a1069 w1070 hp1073 p1071 sp1071 => ?_)
          obtain ⟨h1074, rfl, q1075, g1076⟩ := hp1073
          have cx1077 := cx1063.ca g1076
          refine ⟨⟨.inl rfl, .inl rfl, trivial⟩, ?_⟩
          refine hTakeW (i := 7) rfl (by kernel_rfl) (by kernel_rfl) (by kernel_rfl) nrm (cond := fun _ => True) (.inl fun _ => trivial) p1071.z (wN rfl) (fun _ _ => okMv sp1071) trivial rfl fun a1078 p1079 sp1079 => ?_
          refine hTakeW (i := 8) rfl (by kernel_rfl) (by kernel_rfl) (by kernel_rfl) nrm (cond := fun _ => True) (.inl fun _ => trivial) p1079.z (wN rfl) (fun _ _ => okExt (vs := [_, _]) sp1079 rfl) trivial rfl fun a1080 p1081 sp1081 => ?_
          have s1082 := p1081.o sp1079 rfl
          refine hTakeW (i := 9) rfl (by kernel_rfl) (by kernel_rfl) (by kernel_rfl) nrm (cond := fun _ => True) (.inl fun _ => trivial) p1081.z (wN rfl) (fun _ _ => okExt (vs := [_, _]) s1082 rfl) trivial rfl fun a1083 p1084 sp1084 => ?_
          have s1085 := p1084.o (p1081.o (p1079.o (p1071.o sp1058 rfl) rfl) rfl) rfl
          have s1086 := p1084.o sp1081 rfl
          have m1087 := m1059.g0 g1076
          refine hOne (i := 11) (by kernel_rfl) rfl (oStoW (cs := TThing.C t909.1 h1074) p1084.z s1085 s1086 m1087 Try.sizeOf25 rfl (TThing.C_one _ q1075.one) rfl fun w1088 m1089 g1090 => ?_)
          have cx1091 := cx1077.st g1090 f1064
          refine ⟨⟨.inl rfl, .inl rfl, trivial⟩, ?_⟩
          refine hTakeW (i := 12) rfl (by kernel_rfl) (by kernel_rfl) (by kernel_rfl) nrm (cond := fun _ => True) (.inl fun _ => trivial) p1084.z (wN rfl) (fun _ _ => okAs sp1084) trivial rfl fun a1092 p1093 sp1093 => ?_
          have q1094 := q1075.mono (g1090.t1 (.head _))
          have q1095 := ((q973.t0 (g1060.tA (Nat.le_of_eq e1061.symm)) g1060).t0 g1076.t0 g1076).t1 (g1090.t1 (.head _)) g1090 (q973.nb e1061)
          have q1096 := ((q1062.t0 (g1060.tA (Nat.le_of_eq e1061.symm)) g1060).t0 g1076.t0 g1076).t1 (g1090.t1 (.head _)) g1090 (q1062.nb e1061)
          have s1097 := p1093.o (p1084.o (p1081.o (p1079.o (p1071.o (p1058.o (p984.o (p982.o (p971.o (p968.o (p965.o s963 rfl) rfl) rfl) rfl) rfl) rfl) rfl) rfl) rfl) rfl) rfl
          have s1098 := p1093.o (p1084.o (p1081.o (p1079.o (p1071.o (p1058.o (p984.o (p982.o (p971.o (p968.o (p965.o (p962.o s953 rfl) rfl) rfl) rfl) rfl) rfl) rfl) rfl) rfl) rfl) rfl) rfl
          have s1099 := p1093.o (p1084.o (p1081.o (p1079.o (p1071.o (p1058.o (p984.o (p982.o (p971.o (p968.o (p965.o (p962.o s954 rfl) rfl) rfl) rfl) rfl) rfl) rfl) rfl) rfl) rfl) rfl) rfl
          have s1100 := p1093.o (p1084.o (p1081.o (p1079.o (p1071.o (p1058.o (p984.o (p982.o (p971.o (p968.o (p965.o (p962.o s955 rfl) rfl) rfl) rfl) rfl) rfl) rfl) rfl) rfl) rfl) rfl) rfl
          have s1101 := p1093.o (p1084.o (p1081.o (p1079.o (p1071.o (p1058.o (p984.o (p982.o (p971.o (p968.o s966 rfl) rfl) rfl) rfl) rfl) rfl) rfl) rfl) rfl) rfl
          have s1102 := p1093.o (p1084.o (p1081.o (p1079.o (p1071.o (p1058.o (p984.o (p982.o (p971.o (p968.o (p965.o (p962.o s957 rfl) rfl) rfl) rfl) rfl) rfl) rfl) rfl) rfl) rfl) rfl) rfl
          have s1103 := p1093.o (p1084.o (p1081.o (p1079.o (p1071.o (p1058.o (p984.o (p982.o (p971.o s969 rfl) rfl) rfl) rfl) rfl) rfl) rfl) rfl) rfl
          have s1104 := p1093.o (p1084.o (p1081.o (p1079.o (p1071.o (p1058.o (p984.o (p982.o (p971.o (p968.o (p965.o (p962.o s851 rfl) rfl) rfl) rfl) rfl) rfl) rfl) rfl) rfl) rfl) rfl) rfl
          have s1105 := p1093.o (p1084.o (p1081.o (p1079.o (p1071.o (p1058.o (p984.o (p982.o (p971.o (p968.o (p965.o (p962.o s852 rfl) rfl) rfl) rfl) rfl) rfl) rfl) rfl) rfl) rfl) rfl) rfl
          have s1106 := p1093.o (p1084.o (p1081.o (p1079.o (p1071.o (p1058.o (p984.o (p982.o (p971.o (p968.o (p965.o (p962.o s853 rfl) rfl) rfl) rfl) rfl) rfl) rfl) rfl) rfl) rfl) rfl) rfl
          have s1107 := p1093.o (p1084.o (p1081.o (p1079.o (p1071.o (p1058.o (p984.o (p982.o (p971.o (p968.o (p965.o (p962.o s854 rfl) rfl) rfl) rfl) rfl) rfl) rfl) rfl) rfl) rfl) rfl) rfl
          have s1108 := p1093.o (p1084.o (p1081.o (p1079.o (p1071.o (p1058.o (p984.o (p982.o (p971.o (p968.o (p965.o (p962.o s855 rfl) rfl) rfl) rfl) rfl) rfl) rfl) rfl) rfl) rfl) rfl) rfl
          have s1109 := p1093.o (p1084.o (p1081.o (p1079.o (p1071.o (p1058.o (p984.o (p982.o (p971.o (p968.o (p965.o (p962.o s856 rfl) rfl) rfl) rfl) rfl) rfl) rfl) rfl) rfl) rfl) rfl) rfl
          have s1110 := p1093.o (p1084.o (p1081.o (p1079.o (p1071.o (p1058.o (p984.o (p982.o (p971.o (p968.o (p965.o (p962.o s857 rfl) rfl) rfl) rfl) rfl) rfl) rfl) rfl) rfl) rfl) rfl) rfl
          have s1111 := p1093.o (p1084.o (p1081.o (p1079.o (p1071.o (p1058.o (p984.o (p982.o (p971.o (p968.o (p965.o (p962.o s849 rfl) rfl) rfl) rfl) rfl) rfl) rfl) rfl) rfl) rfl) rfl) rfl
          have s1112 := p1093.o (p1084.o (p1081.o (p1079.o (p1071.o s1065 rfl) rfl) rfl) rfl) rfl
          have s1113 := p1093.o (p1084.o (p1081.o (p1079.o (p1071.o s1066 rfl) rfl) rfl) rfl) rfl
          have s1114 := p1093.o (p1084.o (p1081.o (p1079.o (p1071.o (p1058.o (p984.o (p982.o s972 rfl) rfl) rfl) rfl) rfl) rfl) rfl) rfl
          have s1115 := p1093.o (p1084.o (p1081.o (p1079.o (p1071.o (p1058.o (p984.o (p982.o sp971 rfl) rfl) rfl) rfl) rfl) rfl) rfl) rfl
          have s1116 := p1093.o (p1084.o (p1081.o (p1079.o (p1071.o (p1058.o (p984.o sp982 rfl) rfl) rfl) rfl) rfl) rfl) rfl
          have s1117 := p1093.o (p1084.o (p1081.o (p1079.o (p1071.o s1067 rfl) rfl) rfl) rfl) rfl
          have s1118 := p1093.o (p1084.o (p1081.o (p1079.o sp1071 rfl) rfl) rfl) rfl
          have s1119 := p1093.o (p1084.o s1082 rfl) rfl
          have s1120 := p1093.o s1086 rfl
          have s1121 := p1093.o sp1084 rfl
          have s1122 := p1093.o s1085 rfl
          have m1123 := ((m960.g0 g1060).g0 g1076).g1 g1090 (m960.ne e1061)
          exact hDone (by kernel_rfl) ⟨rfl, h1074, b1057, p1093.z, s1097, s1098, s1099, s1100, s1101, s1102, s1103, s1104, s1105, s1106, s1107, s1108, s1109, s1110, s1111, s1112, s1113, s1114, s1115, s1116, s1117, s1118, s1119, s1120, s1121, s1122, sp1093, m1123, m1089, q1094, q1095, q1096, cx1091, (((g958.t0.trans (g1060.tA (Nat.le_of_eq e1061.symm))).trans g1076.t0).trans (g1090.t1 (.head _))), (q973.nb e1061), (q1062.nb e1061), (m960.ne e1061), f1064⟩
      rintro a1124 w1125 ⟨h1127, b1128, z1126, s1129, s1130, s1131, s1132, s1133, s1134, s1135, s1136, s1137, s1138, s1139, s1140, s1141, s1142, s1143, s1144, s1145, s1146, s1147, s1148, s1149, s1150, s1151, s1152, s1153, s1154, s1155, m1156, m1157, q1158, q1159, q1160, cx1161, t1162, n1163, n1164, n1165, n1166⟩
      refine thenN ?_
      refine wp_seq ?_
      refine wp_seq ?_
      refine reg ?_
      refine s1 z1126 (okMv s1155) rfl fun a1167 p1168 s1169 => ?_
      refine s1 p1168.z (okNot s1169) rfl fun a1170 p1171 s1172 => ?_
      refine s1 p1171.z (okMv s1172) rfl fun a1173 p1174 s1175 => ?_
      refine cutP 4 (fun a' => Pg Try.f3.ntmps [125, 126, 127, 128] a1173 a' ∧ a'.eval (.tmp 128) = .bool ((!t909.2) || (x0.kind == 3))) ?_ ?_
      · rcases bf (!t909.2) with hb1176 | hb1176
        · have s1177 := bv s1175 hb1176
          have s1178 := p1174.o (p1171.o (p1168.o s1130 rfl) rfl) rfl
          refine s1g p1174.z (okFA (o' := 0) fo25_0 s1178 rfl) rfl (yd p1174.z rfl rfl s1177) fun a1179 p1180 s1181 => ?_
          have s1182 := p1180.o s1177 rfl
          refine s1g p1180.z (okLd (j := 0) na3 s1181 (m1156.cl) rfl rfl) rfl (yd p1180.z rfl rfl s1182) fun a1183 p1184 s1185 => ?_
          have s1186 := p1184.o s1182 rfl
          refine s1g p1184.z (okEq s1185 cst) rfl (yd p1184.z rfl rfl s1186) fun a1187 p1188 s1189 => ?_
          have s1190 := p1188.o s1186 rfl
          refine s1 p1188.z (okPickF s1190 s1189) rfl fun a1191 p1192 s1193 => ?_
          exact rN ⟨rfl, rfl, (((((Pg.refl p1174.z).st p1180 rfl).st p1184 rfl).st p1188 rfl).st p1192 rfl), (orF hb1176 s1193)⟩
        · have s1194 := bv s1175 hb1176
          refine s1k p1174.z rfl (yd p1174.z rfl rfl s1194) rfl fun a1195 p1196 s1197 => ?_
          have s1198 := p1196.o s1194 rfl
          refine s1k p1196.z rfl (yd p1196.z rfl rfl s1198) rfl fun a1199 p1200 s1201 => ?_
          have s1202 := p1200.o s1198 rfl
          refine s1k p1200.z rfl (yd p1200.z rfl rfl s1202) rfl fun a1203 p1204 s1205 => ?_
          have s1206 := p1204.o s1202 rfl
          refine s1 p1204.z (okPickT s1206 cst) rfl fun a1207 p1208 s1209 => ?_
          exact rN ⟨rfl, rfl, (((((Pg.refl p1174.z).st p1196 rfl).st p1200 rfl).st p1204 rfl).st p1208 rfl), (orT hb1176 s1209)⟩
      rintro a1210 ⟨pg1211, s1212⟩
      refine rN (thenN ?_)
      have s1213 := pg1211.o (p1174.o (p1171.o s1169 rfl) rfl) rfl
      have s1214 := pg1211.o (p1174.o s1172 rfl) rfl
      have s1215 := pg1211.o s1175 rfl
      have pg1216 : Pg _ [122, 123, 124, 125, 126, 127, 128] _ _ := (((((Pg.refl z1126).st p1168 rfl).st p1171 rfl).st p1174 rfl).tr pg1211 rfl)
      refine cnd s1212 (fun hb1217 => ?_) (fun hb1217 => ?_)
      · replace h := (ifP hb1217).symm.trans h
        refine wp_exit (thenE (blkE (thenN ?_)))
        refine reg ?_
        have s1218 := pg1216.o s1135 rfl
        refine s1 pg1216.z (okMv s1218) rfl fun a1219 p1220 s1221 => ?_
        refine s1 p1220.z (okAdd s1221 cst) rfl fun a1222 p1223 s1224 => ?_
        refine s1 p1223.z (okAs s1224) rfl fun a1225 p1226 s1227 => ?_
        have s1228 := p1226.o (p1223.o (p1220.o (pg1216.o s1129 rfl) rfl) rfl) rfl
        have s1229 := p1226.o (p1223.o (p1220.o (pg1216.o s1130 rfl) rfl) rfl) rfl
        have s1230 := p1226.o (p1223.o (p1220.o (pg1216.o s1131 rfl) rfl) rfl) rfl
        have s1231 := p1226.o (p1223.o (p1220.o (pg1216.o s1132 rfl) rfl) rfl) rfl
        have s1232 := p1226.o (p1223.o (p1220.o (pg1216.o s1133 rfl) rfl) rfl) rfl
        have s1233 := p1226.o (p1223.o (p1220.o (pg1216.o s1134 rfl) rfl) rfl) rfl
        have q1234 := q699.mono t1162
        exact rN (thenN ⟨k, Nat.lt_succ_self k, (w64 (i672 + 1)), p1226.z, s1228, s1229, s1230, s1231, s1232, s1233, s1227, m1156, (q1159.sub (fun i h => (.tail _ h))), (q1160.sub (fun i h => (.tail _ h))), (q1234.mono ((Tr.refl _ _).sub (fun i h => (.tail _ h)))), (cx1161.sub (fun i h => (.tail _ h))), h⟩)
      replace h := (ifN hb1217).symm.trans h
      refine wp_skip (thenN ?_)
      refine wp_seq ?_
      obtain ⟨y1252, hy1253, h⟩ := Option.bind_eq_some_iff.1 h
      obtain ⟨b1254, cs1256, r1258, e1259, nb1260, k1257⟩ := q1160.at_ hy1253
      obtain rfl := r1258
      obtain ⟨t1269, ht1270, h⟩ := Option.bind_eq_some_iff.1 h
      have s1313 := pg1216.o s1129 rfl
      have s1314 := pg1216.o s1130 rfl
      have s1315 := pg1216.o s1131 rfl
      have s1316 := pg1216.o s1132 rfl
      have s1317 := pg1216.o s1133 rfl
      have s1318 := pg1216.o s1134 rfl
      have s1319 := pg1216.o s1135 rfl
      have s1320 := pg1216.o s1136 rfl
      have s1321 := pg1216.o s1137 rfl
      have s1322 := pg1216.o s1138 rfl
      have s1323 := pg1216.o s1139 rfl
      have s1324 := pg1216.o s1140 rfl
      have s1325 := pg1216.o s1141 rfl
      have s1326 := pg1216.o s1142 rfl
      have s1327 := pg1216.o s1143 rfl
      have s1328 := pg1216.o s1144 rfl
      have s1329 := pg1216.o s1145 rfl
      have s1330 := pg1216.o s1146 rfl
      have s1331 := pg1216.o s1147 rfl
      have s1332 := pg1216.o s1148 rfl
      have s1333 := pg1216.o s1149 rfl
      have s1334 := pg1216.o s1150 rfl
      have s1335 := pg1216.o s1151 rfl
      have s1336 := pg1216.o s1152 rfl
      have s1337 := pg1216.o s1153 rfl
      have s1338 := pg1216.o s1154 rfl
      have s1339 := pg1216.o s1155 rfl
      refine regJ (fun a' w' => ∃ h1276, ∃ b1292 : Nat, Z Try.f3.ntmps a' ∧ a'.eval (.tmp 1) = .int .i64 x1 ∧ a'.eval (.tmp 3) = ptr b3 0 ∧ a'.eval (.tmp 6) = .bool false ∧ a'.eval (.tmp 7) = .bool t13 ∧ a'.eval (.tmp 10) = v619 ∧ a'.eval (.tmp 11) = v653 ∧ a'.eval (.tmp 12) = .int .i64 i672 ∧ a'.eval (.tmp 92) = .int .i64 i672 ∧ a'.eval (.tmp 93) = .bool (decide (i672 < 4)) ∧ a'.eval (.tmp 96) = .int .i64 i672 ∧ a'.eval (.tmp 97) = .bool (i672 == 0) ∧ a'.eval (.tmp 98) = .bool (i672 == 0) ∧ a'.eval (.tmp 102) = .bool ((i672 == 0) && (x0.kind == 2)) ∧ a'.eval (.tmp 103) = .bool ((i672 == 0) && (x0.kind == 2)) ∧ a'.eval (.tmp 111) = .bool (((i672 == 0) && (x0.kind == 2)) || ((i672 == 1) && (x0.kind != 2))) ∧ a'.eval (.tmp 113) = .agg (TThing.C x0 h0_0).toArray ∧ a'.eval (.tmp 114) = .int .i64 x1 ∧ a'.eval (.tmp 115) = v619 ∧ a'.eval (.tmp 116) = .int .i64 i672 ∧ a'.eval (.tmp 117) = ptr b894 (i672.toNat * 2) ∧ a'.eval (.tmp 118) = .agg (TNote.C y892).toArray ∧ a'.eval (.tmp 119) = .tuple #[.agg (TThing.C t909.1 h1127).toArray, .bool t909.2] ∧ a'.eval (.tmp 112) = .tuple #[.agg (TThing.C t909.1 h1127).toArray, .bool t909.2] ∧ a'.eval (.tmp 120) = .agg (TThing.C t909.1 h1127).toArray ∧ a'.eval (.tmp 121) = .bool t909.2 ∧ a'.eval (.tmp 13) = ptr b1128 0 ∧ a'.eval (.tmp 14) = .bool t909.2 ∧ a'.eval (.tmp 122) = .bool t909.2 ∧ a'.eval (.tmp 123) = .bool (!t909.2) ∧ a'.eval (.tmp 124) = .bool (!t909.2) ∧ a'.eval (.tmp 128) = .bool ((!t909.2) || (x0.kind == 3)) ∧ a'.eval (.tmp 130) = .agg (TThing.C t909.1 h1127).toArray ∧ a'.eval (.tmp 131) = .int .i64 x1 ∧ a'.eval (.tmp 132) = v653 ∧ a'.eval (.tmp 133) = .int .i64 i672 ∧ a'.eval (.tmp 134) = ptr b1254 (i672.toNat * 2) ∧ a'.eval (.tmp 135) = .agg (TNote.C y1252).toArray ∧ a'.eval (.tmp 136) = .tuple #[.agg (TThing.C t1269.1 h1276).toArray, .bool t1269.2] ∧ a'.eval (.tmp 129) = .tuple #[.agg (TThing.C t1269.1 h1276).toArray, .bool t1269.2] ∧ a'.eval (.tmp 137) = .agg (TThing.C t1269.1 h1276).toArray ∧ a'.eval (.tmp 138) = .bool t1269.2 ∧ a'.eval (.tmp 15) = ptr b1292 0 ∧ a'.eval (.tmp 16) = .bool t1269.2 ∧ Bk w' b3 (TThing.C x0 h0_0) 25 ∧ Bk w' b1128 (TThing.C t909.1 h1127) 25 ∧ Bk w' b1292 (TThing.C t1269.1 h1276) 25 ∧ RdS KTWaiter (b1292 :: b1128 :: ownB v653 ++ (ownB v619 ++ (b3 :: L))) w' h1276 t1269.1.waiters ∧ OwnS KTNote 29 (b1292 :: b1128 :: ownB v653 ++ (ownB v619 ++ (b3 :: L))) w' v619 [(⟨1, 1⟩ : TNote), (⟨1, x2⟩ : TNote), (⟨2, 0⟩ : TNote), (⟨15, x2⟩ : TNote)] ∧ OwnS KTNote 29 (b1292 :: b1128 :: ownB v653 ++ (ownB v619 ++ (b3 :: L))) w' v653 [(⟨3, 0⟩ : TNote), (⟨3, x2⟩ : TNote), (⟨4, 0⟩ : TNote), (⟨16, 0⟩ : TNote)] ∧ Cx [] w (b1292 :: b1128 :: ownB v653 ++ (ownB v619 ++ (b3 :: L))) w' ∧ Tr (b1128 :: ownB v653 ++ (ownB v619 ++ (b3 :: L))) w1125 (b1292 :: b1128 :: ownB v653 ++ (ownB v619 ++ (b3 :: L))) w' ∧ b1292 ∉ ownB v619 ∧ b1292 ∉ ownB v653 ∧ b3 ≠ b1292 ∧ b1128 ≠ b1292 ∧ w.heap.size ≤ b1292) ?_ ?_
      · refine regH (n := 13) [(0, fun w' => Cl w' b1128 0 (TThing.C t909.1 h1127)), (5, fun w' => Cl w' b1254 (i672.toNat * 2) (TNote.C y1252))] mixed rfl ?_
        have g1340 := G.drew w1125
        have cx1341 := cx1161.ca g1340
        have m1342 := m1157.g0 g1340
        refine hTakeW (i := 0) rfl (by kernel_rfl) (by kernel_rfl) (by kernel_rfl) nrm (.inr (.head _)) pg1216.z (wN rfl) (fun _ h => okLdA ag25 s1338 h rfl rfl whole) (m1342.clp rfl) rfl fun a1343 p1344 sp1344 => ?_
        have s1345 := p1344.o s1313 rfl
        refine hTakeW (i := 1) rfl (by kernel_rfl) (by kernel_rfl) (by kernel_rfl) nrm (cond := fun _ => True) (.inl fun _ => trivial) p1344.z (wN rfl) (fun _ _ => okMv s1345) trivial rfl fun a1346 p1347 sp1347 => ?_
        have s1348 := p1347.o (p1344.o s1318 rfl) rfl
        refine hTakeW (i := 2) rfl (by kernel_rfl) (by kernel_rfl) (by kernel_rfl) nrm (cond := fun _ => True) (.inl fun _ => trivial) p1347.z (wN rfl) (fun _ _ => okMv s1348) trivial rfl fun a1349 p1350 sp1350 => ?_
        have s1351 := p1350.o (p1347.o (p1344.o s1319 rfl) rfl) rfl
        refine hTakeW (i := 3) rfl (by kernel_rfl) (by kernel_rfl) (by kernel_rfl) nrm (cond := fun _ => True) (.inl fun _ => trivial) p1350.z (wN rfl) (fun _ _ => okMv s1351) trivial rfl fun a1352 p1353 sp1353 => ?_
        have s1354 := p1353.o sp1350 rfl
        have q1355 := q1160.t0 g1340.t0 g1340
        refine hTakeW (i := 4) rfl (by kernel_rfl) (by kernel_rfl) (by kernel_rfl) nrm (cond := fun _ => True) (.inl fun _ => trivial) p1353.z (wN rfl) (fun _ _ => k1257 Try.underlying30 Try.sizeOf29 s1354 sp1353 _) trivial rfl fun a1363 p1364 sp1364 => ?_
        refine hTakeW (i := 5) rfl (by kernel_rfl) (by kernel_rfl) (by kernel_rfl) nrm (.inr (.tail _ (.head _))) p1364.z (wN rfl) (fun _ h => okLdA ag29 sp1364 h rfl rfl whole) e1259 rfl fun a1365 p1366 sp1366 => ?_
        refine hTwo (i := 6) (j := 10) (by kernel_rfl) rfl rfl rfl rfl ?_ ?_
        · have s1367 := p1366.o (p1364.o (p1353.o (p1350.o (p1347.o sp1344 rfl) rfl) rfl) rfl) rfl
          have s1368 := p1366.o (p1364.o (p1353.o (p1350.o sp1347 rfl) rfl) rfl) rfl
          have q1369 := q1158.mono g1340.t0
          refine (oCall p1366.z Try.call7 (ag3 s1367 s1368 sp1366) (c7 k (b1128 :: ownB v653 ++ (ownB v619 ++ (b3 :: L))) w1125.drew cx1341.lt _ _ q1369 _ _ _ ht1270) rfl fun v1373 a1370 w1371 hp1374 p1372 sp1372 => ?_)
          obtain ⟨h1375, rfl, q1376, g1377⟩ := hp1374
          have cx1378 := cx1341.ca g1377
          refine ⟨⟨.inl rfl, .inl rfl, trivial⟩, ?_⟩
          refine hTakeW (i := 7) rfl (by kernel_rfl) (by kernel_rfl) (by kernel_rfl) nrm (cond := fun _ => True) (.inl fun _ => trivial) p1372.z (wN rfl) (fun _ _ => okMv sp1372) trivial rfl fun a1379 p1380 sp1380 => ?_
          refine hTakeW (i := 8) rfl (by kernel_rfl) (by kernel_rfl) (by kernel_rfl) nrm (cond := fun _ => True) (.inl fun _ => trivial) p1380.z (wN rfl) (fun _ _ => okExt (vs := [_, _]) sp1380 rfl) trivial rfl fun a1381 p1382 sp1382 => ?_
          have s1383 := p1382.o sp1380 rfl
          refine hTakeW (i := 9) rfl (by kernel_rfl) (by kernel_rfl) (by kernel_rfl) nrm (cond := fun _ => True) (.inl fun _ => trivial) p1382.z (wN rfl) (fun _ _ => okExt (vs := [_, _]) s1383 rfl) trivial rfl fun a1384 p1385 sp1385 => ?_
          have m1393 := (m1156.g0 g1340).g0 g1377
          have m1394 := m1342.g0 g1377
          have q1395 := (q1159.t0 g1340.t0 g1340).t0 g1377.t0 g1377
          have q1396 := q1355.t0 g1377.t0 g1377
          refine hOne (i := 10) (by kernel_rfl) rfl (oAlloc zv25 p1385.z rfl fun a1386 w1387 b1388 p1389 sp1389 m1390 g1391 e1392 => ?_)
          have f1398 := cx1378.nw e1392
          have cx1397 := cx1378.al g1391 m1390
          refine ⟨⟨.inr fun h => h.g0 g1391, .inr fun h => h.g0 g1391, trivial⟩, ?_⟩
          have s1399 := p1389.o (p1385.o sp1382 rfl) rfl
          have q1400 := q1376.mono (g1391.tA (Nat.le_of_eq e1392.symm))
          refine hOne (i := 11) (by kernel_rfl) rfl (oStoW (cs := TThing.C t1269.1 h1375) p1389.z sp1389 s1399 m1390 Try.sizeOf25 rfl (TThing.C_one _ q1400.one) rfl fun w1401 m1402 g1403 => ?_)
          have cx1404 := cx1397.st g1403 f1398
          refine ⟨⟨.inl rfl, .inl rfl, trivial⟩, ?_⟩
          have s1405 := p1389.o sp1385 rfl
          refine hTakeW (i := 12) rfl (by kernel_rfl) (by kernel_rfl) (by kernel_rfl) nrm (cond := fun _ => True) (.inl fun _ => trivial) p1389.z (wN rfl) (fun _ _ => okAs s1405) trivial rfl fun a1406 p1407 sp1407 => ?_
          have q1408 := q1400.mono (g1403.t1 (.head _))
          have q1409 := (q1395.t0 (g1391.tA (Nat.le_of_eq e1392.symm)) g1391).t1 (g1403.t1 (.head _)) g1403 (q1395.nb e1392)
          have q1410 := (q1396.t0 (g1391.tA (Nat.le_of_eq e1392.symm)) g1391).t1 (g1403.t1 (.head _)) g1403 (q1396.nb e1392)
          have s1411 := p1407.o (p1389.o (p1385.o (p1382.o (p1380.o (p1372.o (p1366.o (p1364.o (p1353.o (p1350.o (p1347.o s1345 rfl) rfl) rfl) rfl) rfl) rfl) rfl) rfl) rfl) rfl) rfl
          have s1412 := p1407.o (p1389.o (p1385.o (p1382.o (p1380.o (p1372.o (p1366.o (p1364.o (p1353.o (p1350.o (p1347.o (p1344.o s1314 rfl) rfl) rfl) rfl) rfl) rfl) rfl) rfl) rfl) rfl) rfl) rfl
          have s1413 := p1407.o (p1389.o (p1385.o (p1382.o (p1380.o (p1372.o (p1366.o (p1364.o (p1353.o (p1350.o (p1347.o (p1344.o s1315 rfl) rfl) rfl) rfl) rfl) rfl) rfl) rfl) rfl) rfl) rfl) rfl
          have s1414 := p1407.o (p1389.o (p1385.o (p1382.o (p1380.o (p1372.o (p1366.o (p1364.o (p1353.o (p1350.o (p1347.o (p1344.o s1316 rfl) rfl) rfl) rfl) rfl) rfl) rfl) rfl) rfl) rfl) rfl) rfl
          have s1415 := p1407.o (p1389.o (p1385.o (p1382.o (p1380.o (p1372.o (p1366.o (p1364.o (p1353.o (p1350.o (p1347.o (p1344.o s1317 rfl) rfl) rfl) rfl) rfl) rfl) rfl) rfl) rfl) rfl) rfl) rfl
          have s1416 := p1407.o (p1389.o (p1385.o (p1382.o (p1380.o (p1372.o (p1366.o (p1364.o (p1353.o (p1350.o s1348 rfl) rfl) rfl) rfl) rfl) rfl) rfl) rfl) rfl) rfl
          have s1417 := p1407.o (p1389.o (p1385.o (p1382.o (p1380.o (p1372.o (p1366.o (p1364.o (p1353.o s1351 rfl) rfl) rfl) rfl) rfl) rfl) rfl) rfl) rfl
          have s1418 := p1407.o (p1389.o (p1385.o (p1382.o (p1380.o (p1372.o (p1366.o (p1364.o (p1353.o (p1350.o (p1347.o (p1344.o s1320 rfl) rfl) rfl) rfl) rfl) rfl) rfl) rfl) rfl) rfl) rfl) rfl
          have s1419 := p1407.o (p1389.o (p1385.o (p1382.o (p1380.o (p1372.o (p1366.o (p1364.o (p1353.o (p1350.o (p1347.o (p1344.o s1321 rfl) rfl) rfl) rfl) rfl) rfl) rfl) rfl) rfl) rfl) rfl) rfl
          have s1420 := p1407.o (p1389.o (p1385.o (p1382.o (p1380.o (p1372.o (p1366.o (p1364.o (p1353.o (p1350.o (p1347.o (p1344.o s1322 rfl) rfl) rfl) rfl) rfl) rfl) rfl) rfl) rfl) rfl) rfl) rfl
          have s1421 := p1407.o (p1389.o (p1385.o (p1382.o (p1380.o (p1372.o (p1366.o (p1364.o (p1353.o (p1350.o (p1347.o (p1344.o s1323 rfl) rfl) rfl) rfl) rfl) rfl) rfl) rfl) rfl) rfl) rfl) rfl
          have s1422 := p1407.o (p1389.o (p1385.o (p1382.o (p1380.o (p1372.o (p1366.o (p1364.o (p1353.o (p1350.o (p1347.o (p1344.o s1324 rfl) rfl) rfl) rfl) rfl) rfl) rfl) rfl) rfl) rfl) rfl) rfl
          have s1423 := p1407.o (p1389.o (p1385.o (p1382.o (p1380.o (p1372.o (p1366.o (p1364.o (p1353.o (p1350.o (p1347.o (p1344.o s1325 rfl) rfl) rfl) rfl) rfl) rfl) rfl) rfl) rfl) rfl) rfl) rfl
          have s1424 := p1407.o (p1389.o (p1385.o (p1382.o (p1380.o (p1372.o (p1366.o (p1364.o (p1353.o (p1350.o (p1347.o (p1344.o s1326 rfl) rfl) rfl) rfl) rfl) rfl) rfl) rfl) rfl) rfl) rfl) rfl
          have s1425 := p1407.o (p1389.o (p1385.o (p1382.o (p1380.o (p1372.o (p1366.o (p1364.o (p1353.o (p1350.o (p1347.o (p1344.o s1327 rfl) rfl) rfl) rfl) rfl) rfl) rfl) rfl) rfl) rfl) rfl) rfl
          have s1426 := p1407.o (p1389.o (p1385.o (p1382.o (p1380.o (p1372.o (p1366.o (p1364.o (p1353.o (p1350.o (p1347.o (p1344.o s1328 rfl) rfl) rfl) rfl) rfl) rfl) rfl) rfl) rfl) rfl) rfl) rfl
          have s1427 := p1407.o (p1389.o (p1385.o (p1382.o (p1380.o (p1372.o (p1366.o (p1364.o (p1353.o (p1350.o (p1347.o (p1344.o s1329 rfl) rfl) rfl) rfl) rfl) rfl) rfl) rfl) rfl) rfl) rfl) rfl
          have s1428 := p1407.o (p1389.o (p1385.o (p1382.o (p1380.o (p1372.o (p1366.o (p1364.o (p1353.o (p1350.o (p1347.o (p1344.o s1330 rfl) rfl) rfl) rfl) rfl) rfl) rfl) rfl) rfl) rfl) rfl) rfl
          have s1429 := p1407.o (p1389.o (p1385.o (p1382.o (p1380.o (p1372.o (p1366.o (p1364.o (p1353.o (p1350.o (p1347.o (p1344.o s1331 rfl) rfl) rfl) rfl) rfl) rfl) rfl) rfl) rfl) rfl) rfl) rfl
          have s1430 := p1407.o (p1389.o (p1385.o (p1382.o (p1380.o (p1372.o (p1366.o (p1364.o (p1353.o (p1350.o (p1347.o (p1344.o s1332 rfl) rfl) rfl) rfl) rfl) rfl) rfl) rfl) rfl) rfl) rfl) rfl
          have s1431 := p1407.o (p1389.o (p1385.o (p1382.o (p1380.o (p1372.o (p1366.o (p1364.o (p1353.o (p1350.o (p1347.o (p1344.o s1333 rfl) rfl) rfl) rfl) rfl) rfl) rfl) rfl) rfl) rfl) rfl) rfl
          have s1432 := p1407.o (p1389.o (p1385.o (p1382.o (p1380.o (p1372.o (p1366.o (p1364.o (p1353.o (p1350.o (p1347.o (p1344.o s1334 rfl) rfl) rfl) rfl) rfl) rfl) rfl) rfl) rfl) rfl) rfl) rfl
          have s1433 := p1407.o (p1389.o (p1385.o (p1382.o (p1380.o (p1372.o (p1366.o (p1364.o (p1353.o (p1350.o (p1347.o (p1344.o s1335 rfl) rfl) rfl) rfl) rfl) rfl) rfl) rfl) rfl) rfl) rfl) rfl
          have s1434 := p1407.o (p1389.o (p1385.o (p1382.o (p1380.o (p1372.o (p1366.o (p1364.o (p1353.o (p1350.o (p1347.o (p1344.o s1336 rfl) rfl) rfl) rfl) rfl) rfl) rfl) rfl) rfl) rfl) rfl) rfl
          have s1435 := p1407.o (p1389.o (p1385.o (p1382.o (p1380.o (p1372.o (p1366.o (p1364.o (p1353.o (p1350.o (p1347.o (p1344.o s1337 rfl) rfl) rfl) rfl) rfl) rfl) rfl) rfl) rfl) rfl) rfl) rfl
          have s1436 := p1407.o (p1389.o (p1385.o (p1382.o (p1380.o (p1372.o (p1366.o (p1364.o (p1353.o (p1350.o (p1347.o (p1344.o s1338 rfl) rfl) rfl) rfl) rfl) rfl) rfl) rfl) rfl) rfl) rfl) rfl
          have s1437 := p1407.o (p1389.o (p1385.o (p1382.o (p1380.o (p1372.o (p1366.o (p1364.o (p1353.o (p1350.o (p1347.o (p1344.o s1339 rfl) rfl) rfl) rfl) rfl) rfl) rfl) rfl) rfl) rfl) rfl) rfl
          have s1438 := p1407.o (p1389.o (p1385.o (p1382.o (p1380.o (p1372.o (p1366.o (p1364.o (p1353.o (p1350.o (p1347.o (p1344.o s1213 rfl) rfl) rfl) rfl) rfl) rfl) rfl) rfl) rfl) rfl) rfl) rfl
          have s1439 := p1407.o (p1389.o (p1385.o (p1382.o (p1380.o (p1372.o (p1366.o (p1364.o (p1353.o (p1350.o (p1347.o (p1344.o s1214 rfl) rfl) rfl) rfl) rfl) rfl) rfl) rfl) rfl) rfl) rfl) rfl
          have s1440 := p1407.o (p1389.o (p1385.o (p1382.o (p1380.o (p1372.o (p1366.o (p1364.o (p1353.o (p1350.o (p1347.o (p1344.o s1215 rfl) rfl) rfl) rfl) rfl) rfl) rfl) rfl) rfl) rfl) rfl) rfl
          have s1441 := p1407.o (p1389.o (p1385.o (p1382.o (p1380.o (p1372.o (p1366.o (p1364.o (p1353.o (p1350.o (p1347.o (p1344.o s1212 rfl) rfl) rfl) rfl) rfl) rfl) rfl) rfl) rfl) rfl) rfl) rfl
          have s1442 := p1407.o (p1389.o (p1385.o (p1382.o (p1380.o (p1372.o s1367 rfl) rfl) rfl) rfl) rfl) rfl
          have s1443 := p1407.o (p1389.o (p1385.o (p1382.o (p1380.o (p1372.o s1368 rfl) rfl) rfl) rfl) rfl) rfl
          have s1444 := p1407.o (p1389.o (p1385.o (p1382.o (p1380.o (p1372.o (p1366.o (p1364.o s1354 rfl) rfl) rfl) rfl) rfl) rfl) rfl) rfl
          have s1445 := p1407.o (p1389.o (p1385.o (p1382.o (p1380.o (p1372.o (p1366.o (p1364.o sp1353 rfl) rfl) rfl) rfl) rfl) rfl) rfl) rfl
          have s1446 := p1407.o (p1389.o (p1385.o (p1382.o (p1380.o (p1372.o (p1366.o sp1364 rfl) rfl) rfl) rfl) rfl) rfl) rfl
          have s1447 := p1407.o (p1389.o (p1385.o (p1382.o (p1380.o (p1372.o sp1366 rfl) rfl) rfl) rfl) rfl) rfl
          have s1448 := p1407.o (p1389.o (p1385.o (p1382.o (p1380.o sp1372 rfl) rfl) rfl) rfl) rfl
          have s1449 := p1407.o (p1389.o (p1385.o s1383 rfl) rfl) rfl
          have s1450 := p1407.o s1399 rfl
          have s1451 := p1407.o s1405 rfl
          have s1452 := p1407.o sp1389 rfl
          have m1453 := (m1393.g0 g1391).g1 g1403 (m1393.ne e1392)
          have m1454 := (m1394.g0 g1391).g1 g1403 (m1394.ne e1392)
          exact hDone (by kernel_rfl) ⟨rfl, h1375, b1388, p1407.z, s1411, s1412, s1413, s1414, s1415, s1416, s1417, s1418, s1419, s1420, s1421, s1422, s1423, s1424, s1425, s1426, s1427, s1428, s1429, s1430, s1431, s1432, s1433, s1434, s1435, s1436, s1437, s1438, s1439, s1440, s1441, s1442, s1443, s1444, s1445, s1446, s1447, s1448, s1449, s1450, s1451, s1452, sp1407, m1453, m1454, m1402, q1408, q1409, q1410, cx1404, (((g1340.t0.trans g1377.t0).trans (g1391.tA (Nat.le_of_eq e1392.symm))).trans (g1403.t1 (.head _))), (q1395.nb e1392), (q1396.nb e1392), (m1393.ne e1392), (m1394.ne e1392), f1398⟩
        · have m1462 := m1156.g0 g1340
          have q1463 := q1159.t0 g1340.t0 g1340
          refine (oAlloc zv25 p1366.z rfl fun a1455 w1456 b1457 p1458 sp1458 m1459 g1460 e1461 => ?_)
          have f1465 := cx1341.nw e1461
          have cx1464 := cx1341.al g1460 m1459
          refine ⟨⟨.inr fun h => h.g0 g1460, .inr fun h => h.g0 g1460, trivial⟩, ?_⟩
          have s1466 := p1458.o (p1366.o (p1364.o (p1353.o (p1350.o (p1347.o sp1344 rfl) rfl) rfl) rfl) rfl) rfl
          have s1467 := p1458.o (p1366.o (p1364.o (p1353.o (p1350.o sp1347 rfl) rfl) rfl) rfl) rfl
          have s1468 := p1458.o sp1366 rfl
          have q1469 := q1158.mono (g1340.t0.trans (g1460.tA (Nat.le_of_eq e1461.symm)))
          refine hOne (i := 6) (by kernel_rfl) rfl (oCall p1458.z Try.call7 (ag3 s1466 s1467 s1468) (c7 k (b1457 :: b1128 :: ownB v653 ++ (ownB v619 ++ (b3 :: L))) w1456 cx1464.lt _ _ q1469 _ _ _ ht1270) rfl fun v1473 a1470 w1471 hp1474 p1472 sp1472 => ?_)
          obtain ⟨h1475, rfl, q1476, g1477⟩ := hp1474
          have cx1478 := cx1464.ca g1477
          refine ⟨⟨.inl rfl, .inl rfl, trivial⟩, ?_⟩
          refine hTakeW (i := 7) rfl (by kernel_rfl) (by kernel_rfl) (by kernel_rfl) nrm (cond := fun _ => True) (.inl fun _ => trivial) p1472.z (wN rfl) (fun _ _ => okMv sp1472) trivial rfl fun a1479 p1480 sp1480 => ?_
          refine hTakeW (i := 8) rfl (by kernel_rfl) (by kernel_rfl) (by kernel_rfl) nrm (cond := fun _ => True) (.inl fun _ => trivial) p1480.z (wN rfl) (fun _ _ => okExt (vs := [_, _]) sp1480 rfl) trivial rfl fun a1481 p1482 sp1482 => ?_
          have s1483 := p1482.o sp1480 rfl
          refine hTakeW (i := 9) rfl (by kernel_rfl) (by kernel_rfl) (by kernel_rfl) nrm (cond := fun _ => True) (.inl fun _ => trivial) p1482.z (wN rfl) (fun _ _ => okExt (vs := [_, _]) s1483 rfl) trivial rfl fun a1484 p1485 sp1485 => ?_
          have s1486 := p1485.o (p1482.o (p1480.o (p1472.o sp1458 rfl) rfl) rfl) rfl
          have s1487 := p1485.o sp1482 rfl
          have m1488 := m1459.g0 g1477
          refine hOne (i := 11) (by kernel_rfl) rfl (oStoW (cs := TThing.C t1269.1 h1475) p1485.z s1486 s1487 m1488 Try.sizeOf25 rfl (TThing.C_one _ q1476.one) rfl fun w1489 m1490 g1491 => ?_)
          have cx1492 := cx1478.st g1491 f1465
          refine ⟨⟨.inl rfl, .inl rfl, trivial⟩, ?_⟩
          refine hTakeW (i := 12) rfl (by kernel_rfl) (by kernel_rfl) (by kernel_rfl) nrm (cond := fun _ => True) (.inl fun _ => trivial) p1485.z (wN rfl) (fun _ _ => okAs sp1485) trivial rfl fun a1493 p1494 sp1494 => ?_
          have q1495 := q1476.mono (g1491.t1 (.head _))
          have q1496 := ((q1463.t0 (g1460.tA (Nat.le_of_eq e1461.symm)) g1460).t0 g1477.t0 g1477).t1 (g1491.t1 (.head _)) g1491 (q1463.nb e1461)
          have q1497 := ((q1355.t0 (g1460.tA (Nat.le_of_eq e1461.symm)) g1460).t0 g1477.t0 g1477).t1 (g1491.t1 (.head _)) g1491 (q1355.nb e1461)
          have s1498 := p1494.o (p1485.o (p1482.o (p1480.o (p1472.o (p1458.o (p1366.o (p1364.o (p1353.o (p1350.o (p1347.o s1345 rfl) rfl) rfl) rfl) rfl) rfl) rfl) rfl) rfl) rfl) rfl
          have s1499 := p1494.o (p1485.o (p1482.o (p1480.o (p1472.o (p1458.o (p1366.o (p1364.o (p1353.o (p1350.o (p1347.o (p1344.o s1314 rfl) rfl) rfl) rfl) rfl) rfl) rfl) rfl) rfl) rfl) rfl) rfl
          have s1500 := p1494.o (p1485.o (p1482.o (p1480.o (p1472.o (p1458.o (p1366.o (p1364.o (p1353.o (p1350.o (p1347.o (p1344.o s1315 rfl) rfl) rfl) rfl) rfl) rfl) rfl) rfl) rfl) rfl) rfl) rfl
          have s1501 := p1494.o (p1485.o (p1482.o (p1480.o (p1472.o (p1458.o (p1366.o (p1364.o (p1353.o (p1350.o (p1347.o (p1344.o s1316 rfl) rfl) rfl) rfl) rfl) rfl) rfl) rfl) rfl) rfl) rfl) rfl
          have s1502 := p1494.o (p1485.o (p1482.o (p1480.o (p1472.o (p1458.o (p1366.o (p1364.o (p1353.o (p1350.o (p1347.o (p1344.o s1317 rfl) rfl) rfl) rfl) rfl) rfl) rfl) rfl) rfl) rfl) rfl) rfl
          have s1503 := p1494.o (p1485.o (p1482.o (p1480.o (p1472.o (p1458.o (p1366.o (p1364.o (p1353.o (p1350.o s1348 rfl) rfl) rfl) rfl) rfl) rfl) rfl) rfl) rfl) rfl
          have s1504 := p1494.o (p1485.o (p1482.o (p1480.o (p1472.o (p1458.o (p1366.o (p1364.o (p1353.o s1351 rfl) rfl) rfl) rfl) rfl) rfl) rfl) rfl) rfl
          have s1505 := p1494.o (p1485.o (p1482.o (p1480.o (p1472.o (p1458.o (p1366.o (p1364.o (p1353.o (p1350.o (p1347.o (p1344.o s1320 rfl) rfl) rfl) rfl) rfl) rfl) rfl) rfl) rfl) rfl) rfl) rfl
          have s1506 := p1494.o (p1485.o (p1482.o (p1480.o (p1472.o (p1458.o (p1366.o (p1364.o (p1353.o (p1350.o (p1347.o (p1344.o s1321 rfl) rfl) rfl) rfl) rfl) rfl) rfl) rfl) rfl) rfl) rfl) rfl
          have s1507 := p1494.o (p1485.o (p1482.o (p1480.o (p1472.o (p1458.o (p1366.o (p1364.o (p1353.o (p1350.o (p1347.o (p1344.o s1322 rfl) rfl) rfl) rfl) rfl) rfl) rfl) rfl) rfl) rfl) rfl) rfl
          have s1508 := p1494.o (p1485.o (p1482.o (p1480.o (p1472.o (p1458.o (p1366.o (p1364.o (p1353.o (p1350.o (p1347.o (p1344.o s1323 rfl) rfl) rfl) rfl) rfl) rfl) rfl) rfl) rfl) rfl) rfl) rfl
          have s1509 := p1494.o (p1485.o (p1482.o (p1480.o (p1472.o (p1458.o (p1366.o (p1364.o (p1353.o (p1350.o (p1347.o (p1344.o s1324 rfl) rfl) rfl) rfl) rfl) rfl) rfl) rfl) rfl) rfl) rfl) rfl
          have s1510 := p1494.o (p1485.o (p1482.o (p1480.o (p1472.o (p1458.o (p1366.o (p1364.o (p1353.o (p1350.o (p1347.o (p1344.o s1325 rfl) rfl) rfl) rfl) rfl) rfl) rfl) rfl) rfl) rfl) rfl) rfl
          have s1511 := p1494.o (p1485.o (p1482.o (p1480.o (p1472.o (p1458.o (p1366.o (p1364.o (p1353.o (p1350.o (p1347.o (p1344.o s1326 rfl) rfl) rfl) rfl) rfl) rfl) rfl) rfl) rfl) rfl) rfl) rfl
          have s1512 := p1494.o (p1485.o (p1482.o (p1480.o (p1472.o (p1458.o (p1366.o (p1364.o (p1353.o (p1350.o (p1347.o (p1344.o s1327 rfl) rfl) rfl) rfl) rfl) rfl) rfl) rfl) rfl) rfl) rfl) rfl
          have s1513 := p1494.o (p1485.o (p1482.o (p1480.o (p1472.o (p1458.o (p1366.o (p1364.o (p1353.o (p1350.o (p1347.o (p1344.o s1328 rfl) rfl) rfl) rfl) rfl) rfl) rfl) rfl) rfl) rfl) rfl) rfl
          have s1514 := p1494.o (p1485.o (p1482.o (p1480.o (p1472.o (p1458.o (p1366.o (p1364.o (p1353.o (p1350.o (p1347.o (p1344.o s1329 rfl) rfl) rfl) rfl) rfl) rfl) rfl) rfl) rfl) rfl) rfl) rfl
          have s1515 := p1494.o (p1485.o (p1482.o (p1480.o (p1472.o (p1458.o (p1366.o (p1364.o (p1353.o (p1350.o (p1347.o (p1344.o s1330 rfl) rfl) rfl) rfl) rfl) rfl) rfl) rfl) rfl) rfl) rfl) rfl
          have s1516 := p1494.o (p1485.o (p1482.o (p1480.o (p1472.o (p1458.o (p1366.o (p1364.o (p1353.o (p1350.o (p1347.o (p1344.o s1331 rfl) rfl) rfl) rfl) rfl) rfl) rfl) rfl) rfl) rfl) rfl) rfl
          have s1517 := p1494.o (p1485.o (p1482.o (p1480.o (p1472.o (p1458.o (p1366.o (p1364.o (p1353.o (p1350.o (p1347.o (p1344.o s1332 rfl) rfl) rfl) rfl) rfl) rfl) rfl) rfl) rfl) rfl) rfl) rfl
          have s1518 := p1494.o (p1485.o (p1482.o (p1480.o (p1472.o (p1458.o (p1366.o (p1364.o (p1353.o (p1350.o (p1347.o (p1344.o s1333 rfl) rfl) rfl) rfl) rfl) rfl) rfl) rfl) rfl) rfl) rfl) rfl
          have s1519 := p1494.o (p1485.o (p1482.o (p1480.o (p1472.o (p1458.o (p1366.o (p1364.o (p1353.o (p1350.o (p1347.o (p1344.o s1334 rfl) rfl) rfl) rfl) rfl) rfl) rfl) rfl) rfl) rfl) rfl) rfl
          have s1520 := p1494.o (p1485.o (p1482.o (p1480.o (p1472.o (p1458.o (p1366.o (p1364.o (p1353.o (p1350.o (p1347.o (p1344.o s1335 rfl) rfl) rfl) rfl) rfl) rfl) rfl) rfl) rfl) rfl) rfl) rfl
          have s1521 := p1494.o (p1485.o (p1482.o (p1480.o (p1472.o (p1458.o (p1366.o (p1364.o (p1353.o (p1350.o (p1347.o (p1344.o s1336 rfl) rfl) rfl) rfl) rfl) rfl) rfl) rfl) rfl) rfl) rfl) rfl
          have s1522 := p1494.o (p1485.o (p1482.o (p1480.o (p1472.o (p1458.o (p1366.o (p1364.o (p1353.o (p1350.o (p1347.o (p1344.o s1337 rfl) rfl) rfl) rfl) rfl) rfl) rfl) rfl) rfl) rfl) rfl) rfl
          have s1523 := p1494.o (p1485.o (p1482.o (p1480.o (p1472.o (p1458.o (p1366.o (p1364.o (p1353.o (p1350.o (p1347.o (p1344.o s1338 rfl) rfl) rfl) rfl) rfl) rfl) rfl) rfl) rfl) rfl) rfl) rfl
          have s1524 := p1494.o (p1485.o (p1482.o (p1480.o (p1472.o (p1458.o (p1366.o (p1364.o (p1353.o (p1350.o (p1347.o (p1344.o s1339 rfl) rfl) rfl) rfl) rfl) rfl) rfl) rfl) rfl) rfl) rfl) rfl
          have s1525 := p1494.o (p1485.o (p1482.o (p1480.o (p1472.o (p1458.o (p1366.o (p1364.o (p1353.o (p1350.o (p1347.o (p1344.o s1213 rfl) rfl) rfl) rfl) rfl) rfl) rfl) rfl) rfl) rfl) rfl) rfl
          have s1526 := p1494.o (p1485.o (p1482.o (p1480.o (p1472.o (p1458.o (p1366.o (p1364.o (p1353.o (p1350.o (p1347.o (p1344.o s1214 rfl) rfl) rfl) rfl) rfl) rfl) rfl) rfl) rfl) rfl) rfl) rfl
          have s1527 := p1494.o (p1485.o (p1482.o (p1480.o (p1472.o (p1458.o (p1366.o (p1364.o (p1353.o (p1350.o (p1347.o (p1344.o s1215 rfl) rfl) rfl) rfl) rfl) rfl) rfl) rfl) rfl) rfl) rfl) rfl
          have s1528 := p1494.o (p1485.o (p1482.o (p1480.o (p1472.o (p1458.o (p1366.o (p1364.o (p1353.o (p1350.o (p1347.o (p1344.o s1212 rfl) rfl) rfl) rfl) rfl) rfl) rfl) rfl) rfl) rfl) rfl) rfl
          have s1529 := p1494.o (p1485.o (p1482.o (p1480.o (p1472.o s1466 rfl) rfl) rfl) rfl) rfl
          have s1530 := p1494.o (p1485.o (p1482.o (p1480.o (p1472.o s1467 rfl) rfl) rfl) rfl) rfl
          have s1531 := p1494.o (p1485.o (p1482.o (p1480.o (p1472.o (p1458.o (p1366.o (p1364.o s1354 rfl) rfl) rfl) rfl) rfl) rfl) rfl) rfl
          have s1532 := p1494.o (p1485.o (p1482.o (p1480.o (p1472.o (p1458.o (p1366.o (p1364.o sp1353 rfl) rfl) rfl) rfl) rfl) rfl) rfl) rfl
          have s1533 := p1494.o (p1485.o (p1482.o (p1480.o (p1472.o (p1458.o (p1366.o sp1364 rfl) rfl) rfl) rfl) rfl) rfl) rfl
          have s1534 := p1494.o (p1485.o (p1482.o (p1480.o (p1472.o s1468 rfl) rfl) rfl) rfl) rfl
          have s1535 := p1494.o (p1485.o (p1482.o (p1480.o sp1472 rfl) rfl) rfl) rfl
          have s1536 := p1494.o (p1485.o s1483 rfl) rfl
          have s1537 := p1494.o s1487 rfl
          have s1538 := p1494.o sp1485 rfl
          have s1539 := p1494.o s1486 rfl
          have m1540 := ((m1462.g0 g1460).g0 g1477).g1 g1491 (m1462.ne e1461)
          have m1541 := ((m1342.g0 g1460).g0 g1477).g1 g1491 (m1342.ne e1461)
          exact hDone (by kernel_rfl) ⟨rfl, h1475, b1457, p1494.z, s1498, s1499, s1500, s1501, s1502, s1503, s1504, s1505, s1506, s1507, s1508, s1509, s1510, s1511, s1512, s1513, s1514, s1515, s1516, s1517, s1518, s1519, s1520, s1521, s1522, s1523, s1524, s1525, s1526, s1527, s1528, s1529, s1530, s1531, s1532, s1533, s1534, s1535, s1536, s1537, s1538, s1539, sp1494, m1540, m1541, m1490, q1495, q1496, q1497, cx1492, (((g1340.t0.trans (g1460.tA (Nat.le_of_eq e1461.symm))).trans g1477.t0).trans (g1491.t1 (.head _))), (q1463.nb e1461), (q1355.nb e1461), (m1462.ne e1461), (m1342.ne e1461), f1465⟩
      rintro a1542 w1543 ⟨h1545, b1546, z1544, s1547, s1548, s1549, s1550, s1551, s1552, s1553, s1554, s1555, s1556, s1557, s1558, s1559, s1560, s1561, s1562, s1563, s1564, s1565, s1566, s1567, s1568, s1569, s1570, s1571, s1572, s1573, s1574, s1575, s1576, s1577, s1578, s1579, s1580, s1581, s1582, s1583, s1584, s1585, s1586, s1587, s1588, s1589, m1590, m1591, m1592, q1593, q1594, q1595, cx1596, t1597, n1598, n1599, n1600, n1601, n1602⟩
      refine thenN ?_
      refine wp_seq ?_
      refine reg ?_
      refine s1 z1544 (okMv s1589) rfl fun a1603 p1604 s1605 => ?_
      refine s1 p1604.z (okNot s1605) rfl fun a1606 p1607 s1608 => ?_
      refine s1 p1607.z (okMv s1608) rfl fun a1609 p1610 s1611 => ?_
      obtain ⟨b1612, hb1613, h⟩ := Option.bind_eq_some_iff.1 h
      refine cutL 5 (fun a' w' => Pg Try.f3.ntmps [142, 143, 144, 145, 146] a1609 a' ∧ a'.eval (.tmp 146) = .bool b1612 ∧ G [] w1543 w') ?_ ?_
      · rcases bf (!t1269.2) with hb1614 | hb1614
        · have s1615 := bv s1611 hb1614
          replace hb1613 := (ifN hb1614).symm.trans hb1613
          clear h; have h := hb1613; clear hb1613
          have s1616 := p1610.o (p1607.o (p1604.o s1588 rfl) rfl) rfl
          refine s1g p1610.z (okLdA ag25 s1616 (m1592.cl) rfl rfl whole) rfl (yd p1610.z rfl rfl s1615) fun a1617 p1618 s1619 => ?_
          have s1620 := p1618.o s1615 rfl
          have s1621 := p1618.o (p1610.o (p1607.o (p1604.o s1548 rfl) rfl) rfl) rfl
          refine s1g p1618.z (okLdA ag25 s1621 (m1590.cl) rfl rfl whole) rfl (yd p1618.z rfl rfl s1620) fun a1622 p1623 s1624 => ?_
          have s1625 := p1623.o s1620 rfl
          have s1626 := p1623.o s1619 rfl
          have q1627 := q699.mono (t1162.trans t1597)
          obtain ⟨t1628, ht1629, h⟩ := Option.bind_eq_some_iff.1 h
          refine lG rfl (yd p1623.z rfl rfl s1625) (oCall p1623.z Try.call8 (ag2 s1626 s1624) (c8 k (b1546 :: b1128 :: ownB v653 ++ (ownB v619 ++ (b3 :: L))) w1543 cx1596.lt _ _ q1593 _ _ q1627 _ ht1629) rfl fun v1633 a1630 w1631 hp1634 p1632 sp1632 => ?_)
          obtain ⟨rfl, g1635⟩ := hp1634
          have cx1636 := cx1596.ca g1635
          have s1637 := p1632.o s1625 rfl
          refine s1g p1632.z (okNot sp1632) rfl (yd p1632.z rfl rfl s1637) fun a1638 p1639 s1640 => ?_
          have s1641 := p1639.o s1637 rfl
          refine s1 p1639.z (okPickF s1641 s1640) rfl fun a1642 p1643 s1644 => ?_
          obtain rfl := Option.some.inj h
          exact rN ⟨rfl, ((((((Pg.refl p1610.z).st p1618 rfl).st p1623 rfl).st p1632 rfl).st p1639 rfl).st p1643 rfl), s1644, g1635⟩
        · have s1645 := bv s1611 hb1614
          replace hb1613 := (ifP hb1614).symm.trans hb1613
          clear h; have h := hb1613; clear hb1613
          refine s1k p1610.z rfl (yd p1610.z rfl rfl s1645) rfl fun a1646 p1647 s1648 => ?_
          have s1649 := p1647.o s1645 rfl
          refine s1k p1647.z rfl (yd p1647.z rfl rfl s1649) rfl fun a1650 p1651 s1652 => ?_
          have s1653 := p1651.o s1649 rfl
          refine s1k p1651.z rfl (yd p1651.z rfl rfl s1653) rfl fun a1654 p1655 s1656 => ?_
          have s1657 := p1655.o s1653 rfl
          refine s1k p1655.z rfl (yd p1655.z rfl rfl s1657) rfl fun a1658 p1659 s1660 => ?_
          have s1661 := p1659.o s1657 rfl
          refine s1 p1659.z (okPickT s1661 cst) rfl fun a1662 p1663 s1664 => ?_
          obtain rfl := Option.some.inj h
          exact rN ⟨rfl, ((((((Pg.refl p1610.z).st p1647 rfl).st p1651 rfl).st p1655 rfl).st p1659 rfl).st p1663 rfl), s1664, (G.refl _ _)⟩
      rintro a1665 w1668 ⟨pg1666, s1667, g1669⟩
      have cx1670 := cx1596.ca g1669
      refine rN (thenN ?_)
      have s1671 := pg1666.o (p1610.o (p1607.o s1605 rfl) rfl) rfl
      have s1672 := pg1666.o (p1610.o s1608 rfl) rfl
      have s1673 := pg1666.o s1611 rfl
      have pg1674 : Pg _ [139, 140, 141, 142, 143, 144, 145, 146] _ _ := (((((Pg.refl z1544).st p1604 rfl).st p1607 rfl).st p1610 rfl).tr pg1666 rfl)
      refine cnd s1667 (fun hb1675 => ?_) (fun hb1675 => ?_)
      · replace h := (ifP hb1675).symm.trans h
        refine wp_seq ?_
        refine reg ?_
        refine s1 pg1674.z (okAs cst) rfl fun a1676 p1677 s1678 => ?_
        refine rN (thenN ?_)
        obtain rfl := Option.some.inj h
        obtain rfl := Option.some.inj oh701
        exact wp_ret (blkR (thenR (thenR (jqR (blkR (thenR (ret1 p1677.z Try.results3 (rvT s1678) ⟨_, rfl, rfl, cx1670.g⟩)))))))
      replace h := (ifN hb1675).symm.trans h
      refine wp_skip (blkN (thenN ?_))
      refine reg ?_
      have s1679 := pg1674.o s1553 rfl
      refine s1 pg1674.z (okMv s1679) rfl fun a1680 p1681 s1682 => ?_
      refine s1 p1681.z (okAdd s1682 cst) rfl fun a1683 p1684 s1685 => ?_
      refine s1 p1684.z (okAs s1685) rfl fun a1686 p1687 s1688 => ?_
      have s1689 := p1687.o (p1684.o (p1681.o (pg1674.o s1547 rfl) rfl) rfl) rfl
      have s1690 := p1687.o (p1684.o (p1681.o (pg1674.o s1548 rfl) rfl) rfl) rfl
      have s1691 := p1687.o (p1684.o (p1681.o (pg1674.o s1549 rfl) rfl) rfl) rfl
      have s1692 := p1687.o (p1684.o (p1681.o (pg1674.o s1550 rfl) rfl) rfl) rfl
      have s1693 := p1687.o (p1684.o (p1681.o (pg1674.o s1551 rfl) rfl) rfl) rfl
      have s1694 := p1687.o (p1684.o (p1681.o (pg1674.o s1552 rfl) rfl) rfl) rfl
      have m1695 := m1590.g0 g1669
      have q1696 := q1594.t0 g1669.t0 g1669
      have q1697 := q1595.t0 g1669.t0 g1669
      have q1698 := q699.mono ((t1162.trans t1597).trans g1669.t0)
      exact rN (thenN ⟨k, Nat.lt_succ_self k, (w64 (i672 + 1)), p1687.z, s1689, s1690, s1691, s1692, s1693, s1694, s1688, m1695, (q1696.sub (fun i h => (.tail _ (.tail _ h)))), (q1697.sub (fun i h => (.tail _ (.tail _ h)))), (q1698.mono ((Tr.refl _ _).sub (fun i h => (.tail _ (.tail _ h))))), (cx1670.sub (fun i h => (.tail _ (.tail _ h)))), h⟩)
    replace h := (ifN hb708).symm.trans h
    obtain rfl := Option.some.inj h
    have s1699 := p706.o (p703.o s691 rfl) rfl
    have s1700 := p706.o (p703.o s692 rfl) rfl
    exact wp_exit (thenE (thenE (jqE ⟨_, rfl, p706.z, s1699, s1700, m696, q699, cx700⟩)))
  clear ho674
  rintro a1701 w1702 ⟨g675, rfl, z1703, s1704, s1705, m1706, q1707, cx1708⟩
  refine blkE (thenN ?_)
  refine wp_seq ?_
  refine reg ?_
  refine s1 z1703 (okMv s1705) rfl fun a1709 p1710 s1711 => ?_
  refine s1 p1710.z (okAs s1711) rfl fun a1712 p1713 s1714 => ?_
  refine rN (thenN ?_)
  obtain rfl := Option.some.inj h
  exact wp_ret (ret1 p1713.z Try.results3 (rvT s1714) ⟨_, rfl, rfl, cx1708.g⟩)
end Go.Proofs.Ytbfndihcbogjfaa
