/-
  The Go functions tholelaw09_MicroAgain: each comes to its plain function. Conditions: where the plain function is some.
-/
import Derived.Test.YtjdalhedpgiimaaW5
set_option linter.unusedVariables false
namespace Go.Proofs.Ytjdalhedpgiimaa
open Go Go.RowKit Go.Proofs.Ytjdalhedpgiimaa.Gx
set_option maxHeartbeats 4000000 in
set_option maxRecDepth 100000 in
theorem c6 (k : Nat) (L : List Nat) (w : World) (hL : ∀ b ∈ L, b < w.heap.size) (x0 : List TIns) (h0 : Value) (qh0 : RdS KTIns L w h0 x0) (x1 : List Int) (h1 : Value) (qh1 : RdS (KInt .i64) L w h1 x1) (x2 : Int) (x3 : List Int) (h3 : Value) (qh3 : RdS (KInt .i64) L w h3 x3) (r : Bool) (h : tholelaw09_MicroAgain k x0 x1 x2 x3 = some r) : Calls Try.prog 6 #[h0, h1, .int .i64 x2, h3] w (fun e w' => ∃ v, e = .returned v ∧ v = .bool r ∧ G [] w w') := by
  refine enterF Try.func6 rfl rfl fun a0 z0 A => ?_
  have s0_0 := A 0 (h0) rfl
  have s0_1 := A 1 (h1) rfl
  have s0_2 := A 2 (.int .i64 x2) rfl
  have s0_3 := A 3 (h3) rfl
  clear A
  have c0 : Cx [] w L w := ⟨G.refl _ _, hL⟩
  unfold tholelaw09_MicroAgain at h
  refine wp_seq ?_
  refine reg ?_
  refine s1 z0 (okAs cst) rfl fun a1 p2 s3 => ?_
  refine rN (thenN ?_)
  refine wp_seq ?_
  refine reg ?_
  obtain ⟨t4, ht5, h⟩ := Option.bind_eq_some_iff.1 h
  refine lS (oCall p2.z Try.call7 (ag0 ) (c7 k L w c0.lt  _ ht5) rfl fun v9 a6 w7 hp10 p8 sp8 => ?_)
  obtain ⟨rfl, g11⟩ := hp10
  have cx12 := c0.ca g11
  refine s1 p8.z (okAs sp8) rfl fun a13 p14 s15 => ?_
  refine rN (thenN ?_)
  refine wp_seq ?_
  refine wp_seq ?_
  refine reg ?_
  have s16 := p14.o (p8.o (p2.o s0_0 rfl) rfl) rfl
  refine s1 p14.z (okMv s16) rfl fun a17 p18 s19 => ?_
  have q20 := qh0.mono g11.t0
  refine s1 p18.z (okLenR Try.underlying22 s19 q20) rfl fun a21 p22 s23 => ?_
  refine s1 p22.z (okGt s23 cst) rfl fun a24 p25 s26 => ?_
  refine s1 p25.z (okMv s26) rfl fun a27 p28 s29 => ?_
  refine cutP 4 (fun a' => Pg Try.f6.ntmps [33, 34, 35, 36] a27 a' ∧ a'.eval (.tmp 36) = .bool ((decide (1024 < (x0.length : Int))) || (decide (100 < (x1.length : Int))))) ?_ ?_
  · rcases bf (decide (1024 < (x0.length : Int))) with hb30 | hb30
    · have s31 := bv s29 hb30
      have s32 := p28.o (p25.o (p22.o (p18.o (p14.o (p8.o (p2.o s0_1 rfl) rfl) rfl) rfl) rfl) rfl) rfl
      refine s1g p28.z (okMv s32) rfl (yd p28.z rfl rfl s31) fun a33 p34 s35 => ?_
      have s36 := p34.o s31 rfl
      have q37 := qh1.mono g11.t0
      refine s1g p34.z (okLenR Try.underlying28 s35 q37) rfl (yd p34.z rfl rfl s36) fun a38 p39 s40 => ?_
      have s41 := p39.o s36 rfl
      refine s1g p39.z (okGt s40 cst) rfl (yd p39.z rfl rfl s41) fun a42 p43 s44 => ?_
      have s45 := p43.o s41 rfl
      refine s1 p43.z (okPickF s45 s44) rfl fun a46 p47 s48 => ?_
      exact rN ⟨rfl, rfl, (((((Pg.refl p28.z).st p34 rfl).st p39 rfl).st p43 rfl).st p47 rfl), (orF hb30 s48)⟩
    · have s49 := bv s29 hb30
      refine s1k p28.z rfl (yd p28.z rfl rfl s49) rfl fun a50 p51 s52 => ?_
      have s53 := p51.o s49 rfl
      refine s1k p51.z rfl (yd p51.z rfl rfl s53) rfl fun a54 p55 s56 => ?_
      have s57 := p55.o s53 rfl
      refine s1k p55.z rfl (yd p55.z rfl rfl s57) rfl fun a58 p59 s60 => ?_
      have s61 := p59.o s57 rfl
      refine s1 p59.z (okPickT s61 cst) rfl fun a62 p63 s64 => ?_
      exact rN ⟨rfl, rfl, (((((Pg.refl p28.z).st p51 rfl).st p55 rfl).st p59 rfl).st p63 rfl), (orT hb30 s64)⟩
  rintro a65 ⟨pg66, s67⟩
  refine s1 pg66.z (okMv s67) rfl fun a68 p69 s70 => ?_
  refine cutP 4 (fun a' => Pg Try.f6.ntmps [38, 39, 40, 41] a68 a' ∧ a'.eval (.tmp 41) = .bool (((decide (1024 < (x0.length : Int))) || (decide (100 < (x1.length : Int)))) || (decide (40 < (x3.length : Int))))) ?_ ?_
  · rcases bf ((decide (1024 < (x0.length : Int))) || (decide (100 < (x1.length : Int)))) with hb71 | hb71
    · have s72 := bv s70 hb71
      have s73 := p69.o (pg66.o (p28.o (p25.o (p22.o (p18.o (p14.o (p8.o (p2.o s0_3 rfl) rfl) rfl) rfl) rfl) rfl) rfl) rfl) rfl
      refine s1g p69.z (okMv s73) rfl (yd p69.z rfl rfl s72) fun a74 p75 s76 => ?_
      have s77 := p75.o s72 rfl
      have q78 := qh3.mono g11.t0
      refine s1g p75.z (okLenR Try.underlying28 s76 q78) rfl (yd p75.z rfl rfl s77) fun a79 p80 s81 => ?_
      have s82 := p80.o s77 rfl
      refine s1g p80.z (okGt s81 cst) rfl (yd p80.z rfl rfl s82) fun a83 p84 s85 => ?_
      have s86 := p84.o s82 rfl
      refine s1 p84.z (okPickF s86 s85) rfl fun a87 p88 s89 => ?_
      exact rN ⟨rfl, rfl, (((((Pg.refl p69.z).st p75 rfl).st p80 rfl).st p84 rfl).st p88 rfl), (orF hb71 s89)⟩
    · have s90 := bv s70 hb71
      refine s1k p69.z rfl (yd p69.z rfl rfl s90) rfl fun a91 p92 s93 => ?_
      have s94 := p92.o s90 rfl
      refine s1k p92.z rfl (yd p92.z rfl rfl s94) rfl fun a95 p96 s97 => ?_
      have s98 := p96.o s94 rfl
      refine s1k p96.z rfl (yd p96.z rfl rfl s98) rfl fun a99 p100 s101 => ?_
      have s102 := p100.o s98 rfl
      refine s1 p100.z (okPickT s102 cst) rfl fun a103 p104 s105 => ?_
      exact rN ⟨rfl, rfl, (((((Pg.refl p69.z).st p92 rfl).st p96 rfl).st p100 rfl).st p104 rfl), (orT hb71 s105)⟩
  rintro a106 ⟨pg107, s108⟩
  refine rN (thenN ?_)
  have s109 := pg107.o (p69.o (pg66.o (p28.o (p25.o (p22.o (p18.o s16 rfl) rfl) rfl) rfl) rfl) rfl) rfl
  have s110 := pg107.o (p69.o (pg66.o (p28.o (p25.o (p22.o (p18.o (p14.o (p8.o s3 rfl) rfl) rfl) rfl) rfl) rfl) rfl) rfl) rfl
  have s111 := pg107.o (p69.o (pg66.o (p28.o (p25.o (p22.o (p18.o s15 rfl) rfl) rfl) rfl) rfl) rfl) rfl
  have pg112 : Pg _ [8, 9, 28, 29, 30, 31, 32, 33, 34, 35, 36, 37, 38, 39, 40, 41] _ _ := (((((((((((Pg.refl z0).st p2 rfl).st p8 rfl).st p14 rfl).st p18 rfl).st p22 rfl).st p25 rfl).st p28 rfl).tr pg66 rfl).st p69 rfl).tr pg107 rfl)
  refine cnd s108 (fun hb113 => ?_) (fun hb113 => ?_)
  · replace h := (ifP hb113).symm.trans h
    refine wp_seq ?_
    refine reg ?_
    refine s1 pg112.z (okMv s111) rfl fun a114 p115 s116 => ?_
    refine s1 p115.z (okAs s116) rfl fun a117 p118 s119 => ?_
    refine rN (thenN ?_)
    obtain rfl := Option.some.inj h
    exact wp_ret (thenR (ret1 p118.z Try.results6 (rvT s119) ⟨_, rfl, rfl, cx12.g⟩))
  replace h := (ifN hb113).symm.trans h
  refine wp_skip (thenN ?_)
  refine wp_seq ?_
  refine reg ?_
  have s120 := pg112.o s0_1 rfl
  refine s1 pg112.z (okMv s120) rfl fun a121 p122 s123 => ?_
  have q124 := qh1.mono g11.t0
  obtain ⟨t125, ht126, h⟩ := Option.bind_eq_some_iff.1 h
  refine lS (oCall p122.z Try.call8 (ag2 s123 cst) (c8 k L w7 x1 h1 2 cx12.lt sepN q124 _ ht126) rfl fun v130 a127 w128 hp131 p129 sp129 => ?_)
  obtain ⟨u132, I133, u134, I135, rfl, po136, po137, D138, f141, f142, lt139, g140⟩ := hp131
  obtain ho143 | ⟨y144, ho143⟩ := oNS t125.1
  · rw [ho143] at po136
    obtain ⟨rfl, rfl⟩ := po136
    replace h := (omN ho143).symm.trans h
    obtain ho145 | ⟨y146, ho145⟩ := oNS t125.2
    · rw [ho145] at po137
      obtain ⟨rfl, rfl⟩ := po137
      replace h := (omN ho145).symm.trans h
      have D147 : Sep [] L := D138
      have lt148 : ∀ b ∈ L, b < w128.heap.size := lt139
      have hs149 : ∀ i ∈ ([] : List Nat), i ∈ [] ∨ w.heap.size ≤ i := memN
      have hs150 : ∀ i ∈ ([] : List Nat), i ∈ L := memN
      have t151 : Tr L w7 L w128 := G.tC g140 hs150 (fun i h => .inl h)
      have cx152 := cx12.gs g140 hs149 lt148
      refine s1 p129.z (okMv sp129) rfl fun a153 p154 s155 => ?_
      refine s1 p154.z (okExt (vs := [_, _]) s155 rfl) rfl fun a156 p157 s158 => ?_
      have s159 := p157.o s155 rfl
      refine s1 p157.z (okExt (vs := [_, _]) s159 rfl) rfl fun a160 p161 s162 => ?_
      have s163 := p161.o s158 rfl
      refine s1 p161.z (okAs s163) rfl fun a164 p165 s166 => ?_
      have s167 := p165.o s162 rfl
      refine s1 p165.z (okAs s167) rfl fun a168 p169 s170 => ?_
      refine rN (thenN ?_)
      refine wp_seq ?_
      refine wp_seq ?_
      refine reg ?_
      have s171 := p169.o s166 rfl
      refine s1 p169.z (okMv s171) rfl fun a172 p173 s174 => ?_
      refine s1 p173.z (okNEq Try.underlying24 s174 cst) rfl fun a175 p176 s177 => ?_
      refine rN (thenN ?_)
      refine wp_cond_true s177 ?_
      refine wp_seq ?_
      refine reg ?_
      refine s1 p176.z (okAs cst) rfl fun a178 p179 s180 => ?_
      refine rN (thenN ?_)
      obtain rfl := Option.some.inj h
      exact wp_ret (thenR (ret1 p179.z Try.results6 (rvT s180) ⟨_, rfl, rfl, cx152.g⟩))
    · rw [ho145] at po137
      obtain ⟨oby146, hpy146_0, rfl, rfl, q181, q182⟩ := po137
      replace h := (omS ho145).symm.trans h
      have D183 : Sep [[oby146], ownB hpy146_0] L := D138
      have lt184 : ∀ b ∈ (oby146 :: (ownB hpy146_0 ++ L)), b < w128.heap.size := lt139
      have hs185 : ∀ i ∈ ([] : List Nat), i ∈ [] ∨ w.heap.size ≤ i := memN
      have hs186 : ∀ i ∈ ([] : List Nat), i ∈ L := memN
      have t187 : Tr L w7 (oby146 :: (ownB hpy146_0 ++ L)) w128 := G.tC g140 hs186 (memC (.inr (f142 _ (List.mem_append_left _ (.head _)))) (memA (fun x hx => .inr ((fun _ h => f142 _ (List.mem_append_right _ (List.mem_append_left _ h))) x hx)) (fun i h => .inl h)))
      have cx188 := cx12.gs g140 hs185 lt184
      have q189 : OwnS KTPark 59 (oby146 :: (ownB hpy146_0 ++ L)) w128 hpy146_0 y146.l := q182
      refine s1 p129.z (okMv sp129) rfl fun a190 p191 s192 => ?_
      refine s1 p191.z (okExt (vs := [_, _]) s192 rfl) rfl fun a193 p194 s195 => ?_
      have s196 := p194.o s192 rfl
      refine s1 p194.z (okExt (vs := [_, _]) s196 rfl) rfl fun a197 p198 s199 => ?_
      have s200 := p198.o s195 rfl
      refine s1 p198.z (okAs s200) rfl fun a201 p202 s203 => ?_
      have s204 := p202.o s199 rfl
      refine s1 p202.z (okAs s204) rfl fun a205 p206 s207 => ?_
      refine rN (thenN ?_)
      refine wp_seq ?_
      refine wp_seq ?_
      refine reg ?_
      have s208 := p206.o s203 rfl
      refine s1 p206.z (okMv s208) rfl fun a209 p210 s211 => ?_
      refine s1 p210.z (okNEq Try.underlying24 s211 cst) rfl fun a212 p213 s214 => ?_
      refine rN (thenN ?_)
      refine wp_cond_true s214 ?_
      refine wp_seq ?_
      refine reg ?_
      refine s1 p213.z (okAs cst) rfl fun a215 p216 s217 => ?_
      refine rN (thenN ?_)
      obtain rfl := Option.some.inj h
      exact wp_ret (thenR (ret1 p216.z Try.results6 (rvT s217) ⟨_, rfl, rfl, cx188.g⟩))
  · rw [ho143] at po136
    obtain ⟨oby144, hpy144_0, rfl, rfl, q218, q219⟩ := po136
    replace h := (omS ho143).symm.trans h
    obtain ho220 | ⟨y221, ho220⟩ := oNS t125.2
    · rw [ho220] at po137
      obtain ⟨rfl, rfl⟩ := po137
      replace h := (omN ho220).symm.trans h
      have D222 : Sep [[oby144], ownB hpy144_0] L := D138
      have lt223 : ∀ b ∈ (oby144 :: (ownB hpy144_0 ++ L)), b < w128.heap.size := lt139
      have hs224 : ∀ i ∈ ([] : List Nat), i ∈ [] ∨ w.heap.size ≤ i := memN
      have hs225 : ∀ i ∈ ([] : List Nat), i ∈ L := memN
      have t226 : Tr L w7 (oby144 :: (ownB hpy144_0 ++ L)) w128 := G.tC g140 hs225 (memC (.inr (f141 _ (List.mem_append_left _ (.head _)))) (memA (fun x hx => .inr ((fun _ h => f141 _ (List.mem_append_right _ (List.mem_append_left _ h))) x hx)) (fun i h => .inl h)))
      have cx227 := cx12.gs g140 hs224 lt223
      have q228 : OwnS (KInt .i64) 2 (oby144 :: (ownB hpy144_0 ++ L)) w128 hpy144_0 y144.l := q219
      refine s1 p129.z (okMv sp129) rfl fun a229 p230 s231 => ?_
      refine s1 p230.z (okExt (vs := [_, _]) s231 rfl) rfl fun a232 p233 s234 => ?_
      have s235 := p233.o s231 rfl
      refine s1 p233.z (okExt (vs := [_, _]) s235 rfl) rfl fun a236 p237 s238 => ?_
      have s239 := p237.o s234 rfl
      refine s1 p237.z (okAs s239) rfl fun a240 p241 s242 => ?_
      have s243 := p241.o s238 rfl
      refine s1 p241.z (okAs s243) rfl fun a244 p245 s246 => ?_
      refine rN (thenN ?_)
      refine wp_seq ?_
      refine wp_seq ?_
      refine reg ?_
      have s247 := p245.o s242 rfl
      refine s1 p245.z (okMv s247) rfl fun a248 p249 s250 => ?_
      refine s1 p249.z (okPEq Try.underlying24 s250 cst) rfl fun a251 p252 s253 => ?_
      refine rN (thenN ?_)
      refine wp_cond_false s253 ?_
      refine wp_skip (thenN ?_)
      refine wp_seq ?_
      refine reg ?_
      have s254 := p252.o (p249.o s247 rfl) rfl
      refine s1 p252.z (okMv s254) rfl fun a255 p256 s257 => ?_
      obtain ⟨t258, ht259, h⟩ := Option.bind_eq_some_iff.1 h
      refine lS (oCall p256.z Try.call14 (ag1 s257) (c14 L w128 y144 oby144 hpy144_0 cx227.lt (sepC (show ∀ x ∈ [oby144], x ∉ (ownB hpy144_0 ++ L) from (in1 (na (D222.bo (i := 0) (j := 1) rfl rfl rfl) (fun h => Nat.lt_irrefl _ (Nat.lt_of_lt_of_le (hL _ h) (Nat.le_trans cx12.g.sz (f141 _ (List.mem_append_left _ (.head _))))))))) (sepC (show ∀ x ∈ ownB hpy144_0, x ∉ L from (fun x hx => ((fun x hx hl => D222.dl (i := 1) rfl x hx hl) x hx))) sepN)) q218 q228 _ ht259) rfl fun v263 a260 w261 hp264 p262 sp262 => ?_)
      obtain ⟨u265, I266, rfl, po267, D268, f271, lt269, g270⟩ := hp264
      obtain ho272 | ⟨y273, ho272⟩ := oNS t258
      · rw [ho272] at po267
        obtain ⟨rfl, rfl⟩ := po267
        replace h := (omN ho272).symm.trans h
        have D274 : Sep [[oby144], ownB hpy144_0] L := D268
        have lt275 : ∀ b ∈ (oby144 :: (ownB hpy144_0 ++ L)), b < w261.heap.size := lt269
        have hs276 : ∀ i ∈ ([] : List Nat), i ∈ [] ∨ w.heap.size ≤ i := memN
        have hs277 : ∀ i ∈ ([] : List Nat), i ∈ (oby144 :: (ownB hpy144_0 ++ L)) := memN
        have t278 : Tr (oby144 :: (ownB hpy144_0 ++ L)) w128 (oby144 :: (ownB hpy144_0 ++ L)) w261 := G.tC g270 hs277 (memC (.inl (.head _)) (memA (fun _ h => .inl (.tail _ (List.mem_append_left _ h))) (fun i h => .inl ((.tail _ (List.mem_append_right _ h))))))
        have cx279 := cx227.gs g270 hs276 lt275
        refine s1 p262.z (okAs sp262) rfl fun a280 p281 s282 => ?_
        refine rN (thenN ?_)
        refine wp_seq ?_
        refine reg ?_
        have s283 := p281.o (p262.o (p256.o (p252.o (p249.o s246 rfl) rfl) rfl) rfl) rfl
        refine s1 p281.z (okMv s283) rfl fun a284 p285 s286 => ?_
        have m287 := q218.g0 g270
        obtain ⟨t288, ht289, h⟩ := Option.bind_eq_some_iff.1 h
        refine lS (oCall p285.z Try.call15 (ag1 s286) (c15_n0 (oby144 :: (ownB hpy144_0 ++ L)) w261 cx279.lt sepN _ ht289) rfl fun v293 a290 w291 hp294 p292 sp292 => ?_)
        obtain ⟨u295, I296, rfl, po297, D298, f301, lt299, g300⟩ := hp294
        obtain ho302 | ⟨y303, ho302⟩ := oNS t288
        · rw [ho302] at po297
          obtain ⟨rfl, rfl⟩ := po297
          replace h := (omN ho302).symm.trans h
          have D304 : Sep [] (oby144 :: (ownB hpy144_0 ++ L)) := D298
          have lt305 : ∀ b ∈ (oby144 :: (ownB hpy144_0 ++ L)), b < w291.heap.size := lt299
          have hs306 : ∀ i ∈ ([] : List Nat), i ∈ [] ∨ w.heap.size ≤ i := memN
          have hs307 : ∀ i ∈ ([] : List Nat), i ∈ (oby144 :: (ownB hpy144_0 ++ L)) := memN
          have t308 : Tr (oby144 :: (ownB hpy144_0 ++ L)) w261 (oby144 :: (ownB hpy144_0 ++ L)) w291 := G.tC g300 hs307 (fun i h => .inl h)
          have cx309 := cx279.gs g300 hs306 lt305
          refine s1 p292.z (okAs sp292) rfl fun a310 p311 s312 => ?_
          refine rN (thenN ?_)
          refine wp_seq ?_
          refine wp_seq ?_
          refine reg ?_
          have s313 := p311.o (p292.o (p285.o s282 rfl) rfl) rfl
          refine s1 p311.z (okMv s313) rfl fun a314 p315 s316 => ?_
          refine s1 p315.z (okNEq Try.underlying24 s316 cst) rfl fun a317 p318 s319 => ?_
          refine s1 p318.z (okMv s319) rfl fun a320 p321 s322 => ?_
          refine s1k p321.z rfl (yd p321.z rfl rfl s322) rfl fun a323 p324 s325 => ?_
          have s326 := p324.o s322 rfl
          refine s1k p324.z rfl (yd p324.z rfl rfl s326) rfl fun a327 p328 s329 => ?_
          have s330 := p328.o s326 rfl
          refine s1 p328.z (okPickT s330 cst) rfl fun a331 p332 s333 => ?_
          refine rN (thenN ?_)
          refine wp_cond_true s333 ?_
          refine wp_seq ?_
          refine reg ?_
          refine s1 p332.z (okAs cst) rfl fun a334 p335 s336 => ?_
          refine rN (thenN ?_)
          obtain rfl := Option.some.inj h
          exact wp_ret (thenR (ret1 p335.z Try.results6 (rvT s336) ⟨_, rfl, rfl, cx309.g⟩))
        · rw [ho302] at po297
          obtain ⟨oby303, hpy303_0, rfl, rfl, q337, q338⟩ := po297
          replace h := (omS ho302).symm.trans h
          have D339 : Sep [[oby303], ownB hpy303_0] (oby144 :: (ownB hpy144_0 ++ L)) := D298
          have lt340 : ∀ b ∈ (oby303 :: (ownB hpy303_0 ++ (oby144 :: (ownB hpy144_0 ++ L)))), b < w291.heap.size := lt299
          have hs341 : ∀ i ∈ ([] : List Nat), i ∈ [] ∨ w.heap.size ≤ i := memN
          have hs342 : ∀ i ∈ ([] : List Nat), i ∈ (oby144 :: (ownB hpy144_0 ++ L)) := memN
          have t343 : Tr (oby144 :: (ownB hpy144_0 ++ L)) w261 (oby303 :: (ownB hpy303_0 ++ (oby144 :: (ownB hpy144_0 ++ L)))) w291 := G.tC g300 hs342 (memC (.inr (f301 _ (List.mem_append_left _ (.head _)))) (memA (fun x hx => .inr ((fun _ h => f301 _ (List.mem_append_right _ (List.mem_append_left _ h))) x hx)) (fun i h => .inl h)))
          have cx344 := cx279.gs g300 hs341 lt340
          have q345 : OwnS KTPark 59 (oby303 :: (ownB hpy303_0 ++ (oby144 :: (ownB hpy144_0 ++ L)))) w291 hpy303_0 y303.l := q338
          refine s1 p292.z (okAs sp292) rfl fun a346 p347 s348 => ?_
          refine rN (thenN ?_)
          refine wp_seq ?_
          refine wp_seq ?_
          refine reg ?_
          have s349 := p347.o (p292.o (p285.o s282 rfl) rfl) rfl
          refine s1 p347.z (okMv s349) rfl fun a350 p351 s352 => ?_
          refine s1 p351.z (okNEq Try.underlying24 s352 cst) rfl fun a353 p354 s355 => ?_
          refine s1 p354.z (okMv s355) rfl fun a356 p357 s358 => ?_
          refine s1k p357.z rfl (yd p357.z rfl rfl s358) rfl fun a359 p360 s361 => ?_
          have s362 := p360.o s358 rfl
          refine s1k p360.z rfl (yd p360.z rfl rfl s362) rfl fun a363 p364 s365 => ?_
          have s366 := p364.o s362 rfl
          refine s1 p364.z (okPickT s366 cst) rfl fun a367 p368 s369 => ?_
          refine rN (thenN ?_)
          refine wp_cond_true s369 ?_
          refine wp_seq ?_
          refine reg ?_
          refine s1 p368.z (okAs cst) rfl fun a370 p371 s372 => ?_
          refine rN (thenN ?_)
          obtain rfl := Option.some.inj h
          exact wp_ret (thenR (ret1 p371.z Try.results6 (rvT s372) ⟨_, rfl, rfl, cx344.g⟩))
      · rw [ho272] at po267
        obtain ⟨oby273, hpy273_0, rfl, rfl, q373, q374⟩ := po267
        replace h := (omS ho272).symm.trans h
        have D375 : Sep [[oby273], ownB hpy273_0, [oby144], ownB hpy144_0] L := D268
        have lt376 : ∀ b ∈ (oby273 :: (ownB hpy273_0 ++ (oby144 :: (ownB hpy144_0 ++ L)))), b < w261.heap.size := lt269
        have hs377 : ∀ i ∈ ([] : List Nat), i ∈ [] ∨ w.heap.size ≤ i := memN
        have hs378 : ∀ i ∈ ([] : List Nat), i ∈ (oby144 :: (ownB hpy144_0 ++ L)) := memN
        have t379 : Tr (oby144 :: (ownB hpy144_0 ++ L)) w128 (oby273 :: (ownB hpy273_0 ++ (oby144 :: (ownB hpy144_0 ++ L)))) w261 := G.tC g270 hs378 (memC (.inr (f271 _ (List.mem_append_left _ (.head _)))) (memA (fun x hx => .inr ((fun _ h => f271 _ (List.mem_append_right _ (List.mem_append_left _ h))) x hx)) (memC (.inl (.head _)) (memA (fun _ h => .inl (.tail _ (List.mem_append_left _ h))) (fun i h => .inl ((.tail _ (List.mem_append_right _ h))))))))
        have cx380 := cx227.gs g270 hs377 lt376
        have q381 : OwnS (KInt .i64) 2 (oby273 :: (ownB hpy273_0 ++ (oby144 :: (ownB hpy144_0 ++ L)))) w261 hpy273_0 y273.l := q374
        refine s1 p262.z (okAs sp262) rfl fun a382 p383 s384 => ?_
        refine rN (thenN ?_)
        refine wp_seq ?_
        refine reg ?_
        have s385 := p383.o (p262.o (p256.o (p252.o (p249.o s246 rfl) rfl) rfl) rfl) rfl
        refine s1 p383.z (okMv s385) rfl fun a386 p387 s388 => ?_
        have m389 := q218.g0 g270
        obtain ⟨t390, ht391, h⟩ := Option.bind_eq_some_iff.1 h
        refine lS (oCall p387.z Try.call15 (ag1 s388) (c15_n0 (oby273 :: (ownB hpy273_0 ++ (oby144 :: (ownB hpy144_0 ++ L)))) w261 cx380.lt sepN _ ht391) rfl fun v395 a392 w393 hp396 p394 sp394 => ?_)
        obtain ⟨u397, I398, rfl, po399, D400, f403, lt401, g402⟩ := hp396
        obtain ho404 | ⟨y405, ho404⟩ := oNS t390
        · rw [ho404] at po399
          obtain ⟨rfl, rfl⟩ := po399
          replace h := (omN ho404).symm.trans h
          have D406 : Sep [] (oby273 :: (ownB hpy273_0 ++ (oby144 :: (ownB hpy144_0 ++ L)))) := D400
          have lt407 : ∀ b ∈ (oby273 :: (ownB hpy273_0 ++ (oby144 :: (ownB hpy144_0 ++ L)))), b < w393.heap.size := lt401
          have hs408 : ∀ i ∈ ([] : List Nat), i ∈ [] ∨ w.heap.size ≤ i := memN
          have hs409 : ∀ i ∈ ([] : List Nat), i ∈ (oby273 :: (ownB hpy273_0 ++ (oby144 :: (ownB hpy144_0 ++ L)))) := memN
          have t410 : Tr (oby273 :: (ownB hpy273_0 ++ (oby144 :: (ownB hpy144_0 ++ L)))) w261 (oby273 :: (ownB hpy273_0 ++ (oby144 :: (ownB hpy144_0 ++ L)))) w393 := G.tC g402 hs409 (fun i h => .inl h)
          have cx411 := cx380.gs g402 hs408 lt407
          refine s1 p394.z (okAs sp394) rfl fun a412 p413 s414 => ?_
          refine rN (thenN ?_)
          refine wp_seq ?_
          refine wp_seq ?_
          refine reg ?_
          have s415 := p413.o (p394.o (p387.o s384 rfl) rfl) rfl
          refine s1 p413.z (okMv s415) rfl fun a416 p417 s418 => ?_
          refine s1 p417.z (okPEq Try.underlying24 s418 cst) rfl fun a419 p420 s421 => ?_
          refine s1 p420.z (okMv s421) rfl fun a422 p423 s424 => ?_
          have s425 := p423.o (p420.o (p417.o s414 rfl) rfl) rfl
          refine s1g p423.z (okMv s425) rfl (yd p423.z rfl rfl s424) fun a426 p427 s428 => ?_
          have s429 := p427.o s424 rfl
          refine s1g p427.z (okNEq Try.underlying25 s428 cst) rfl (yd p427.z rfl rfl s429) fun a430 p431 s432 => ?_
          have s433 := p431.o s429 rfl
          refine s1 p431.z (okPickF s433 s432) rfl fun a434 p435 s436 => ?_
          refine rN (thenN ?_)
          refine wp_cond_true s436 ?_
          refine wp_seq ?_
          refine reg ?_
          refine s1 p435.z (okAs cst) rfl fun a437 p438 s439 => ?_
          refine rN (thenN ?_)
          obtain rfl := Option.some.inj h
          exact wp_ret (thenR (ret1 p438.z Try.results6 (rvT s439) ⟨_, rfl, rfl, cx411.g⟩))
        · rw [ho404] at po399
          obtain ⟨oby405, hpy405_0, rfl, rfl, q440, q441⟩ := po399
          replace h := (omS ho404).symm.trans h
          have D442 : Sep [[oby405], ownB hpy405_0] (oby273 :: (ownB hpy273_0 ++ (oby144 :: (ownB hpy144_0 ++ L)))) := D400
          have lt443 : ∀ b ∈ (oby405 :: (ownB hpy405_0 ++ (oby273 :: (ownB hpy273_0 ++ (oby144 :: (ownB hpy144_0 ++ L)))))), b < w393.heap.size := lt401
          have hs444 : ∀ i ∈ ([] : List Nat), i ∈ [] ∨ w.heap.size ≤ i := memN
          have hs445 : ∀ i ∈ ([] : List Nat), i ∈ (oby273 :: (ownB hpy273_0 ++ (oby144 :: (ownB hpy144_0 ++ L)))) := memN
          have t446 : Tr (oby273 :: (ownB hpy273_0 ++ (oby144 :: (ownB hpy144_0 ++ L)))) w261 (oby405 :: (ownB hpy405_0 ++ (oby273 :: (ownB hpy273_0 ++ (oby144 :: (ownB hpy144_0 ++ L)))))) w393 := G.tC g402 hs445 (memC (.inr (f403 _ (List.mem_append_left _ (.head _)))) (memA (fun x hx => .inr ((fun _ h => f403 _ (List.mem_append_right _ (List.mem_append_left _ h))) x hx)) (fun i h => .inl h)))
          have cx447 := cx380.gs g402 hs444 lt443
          have q448 : OwnS KTPark 59 (oby405 :: (ownB hpy405_0 ++ (oby273 :: (ownB hpy273_0 ++ (oby144 :: (ownB hpy144_0 ++ L)))))) w393 hpy405_0 y405.l := q441
          refine s1 p394.z (okAs sp394) rfl fun a449 p450 s451 => ?_
          refine rN (thenN ?_)
          refine wp_seq ?_
          refine wp_seq ?_
          refine reg ?_
          have s452 := p450.o (p394.o (p387.o s384 rfl) rfl) rfl
          refine s1 p450.z (okMv s452) rfl fun a453 p454 s455 => ?_
          refine s1 p454.z (okPEq Try.underlying24 s455 cst) rfl fun a456 p457 s458 => ?_
          refine s1 p457.z (okMv s458) rfl fun a459 p460 s461 => ?_
          have s462 := p460.o (p457.o (p454.o s451 rfl) rfl) rfl
          refine s1g p460.z (okMv s462) rfl (yd p460.z rfl rfl s461) fun a463 p464 s465 => ?_
          have s466 := p464.o s461 rfl
          refine s1g p464.z (okPEq Try.underlying25 s465 cst) rfl (yd p464.z rfl rfl s466) fun a467 p468 s469 => ?_
          have s470 := p468.o s466 rfl
          refine s1 p468.z (okPickF s470 s469) rfl fun a471 p472 s473 => ?_
          refine rN (thenN ?_)
          refine wp_cond_false s473 ?_
          refine wp_skip (thenN ?_)
          refine wp_seq ?_
          refine reg ?_
          have m481 := m389.g0 g402
          have m482 := q373.g0 g402
          have q483 := (q228.t0 t379 g270).t0 t446 g402
          have q484 := q381.t0 t446 g402
          refine lS (oBS (K := KTIns) (L := (oby405 :: (ownB hpy405_0 ++ (oby273 :: (ownB hpy273_0 ++ (oby144 :: (ownB hpy144_0 ++ L))))))) (xs := []) (C := []) p472.z (pb0 ) (bs22_0_ ) rfl rfl (fun _ _ _ h => by simp at h) rfl rfl fun a474 v475 w476 p477 sp477 q478 g479 f480 => ?_)
          have f485 := frN f480
          have nb486 := nbA hL cx447.g.sz (fun _ h => nilO h) f485
          have sf487 := sfA (S := []) cx447.g.sz (fun _ h => nilO h) f485
          have n488 := m481.no (fun h => nilO h) f485
          have n489 := m482.no (fun h => nilO h) f485
          have n490 := q440.no (fun h => nilO h) f485
          have n491 := q483.dj (fun _ _ h => nilO h) f485
          have n492 := q484.dj (fun _ _ h => nilO h) f485
          have n493 := q448.dj (fun _ _ h => nilO h) f485
          have cx494 := cx447.ap g479 (fun _ h => nilO h) q478
          have s495 := p477.o (p472.o (p468.o (p464.o (p460.o (p457.o (p454.o (p450.o (p394.o (p387.o (p383.o (p262.o (p256.o (p252.o (p249.o (p245.o (p241.o (p237.o (p233.o (p230.o (p129.o (p122.o s109 rfl) rfl) rfl) rfl) rfl) rfl) rfl) rfl) rfl) rfl) rfl) rfl) rfl) rfl) rfl) rfl) rfl) rfl) rfl) rfl) rfl) rfl
          refine s1 p477.z (okMv s495) rfl fun a496 p497 s498 => ?_
          have s499 := p497.o sp477 rfl
          obtain ⟨z500, hz501, h⟩ := Option.bind_eq_some_iff.1 h
          have q502 := q20.mono (((t226.trans t379).trans t446).trans (tAp g479 (fun _ h => nilO h) f485))
          have m503 := m481.g0 g479
          have m504 := m482.g0 g479
          have m505 := q440.g0 g479
          have q506 := q483.t0 (tAp g479 (fun _ h => nilO h) f485) g479
          have q507 := q484.t0 (tAp g479 (fun _ h => nilO h) f485) g479
          have q508 := q448.t0 (tAp g479 (fun _ h => nilO h) f485) g479
          refine lS (oApp (K := KTIns) (L := (ownB v475 ++ (oby405 :: (ownB hpy405_0 ++ (oby273 :: (ownB hpy273_0 ++ (oby144 :: (ownB hpy144_0 ++ L)))))))) Try.underlying22 ti40 rfl p497.z s499 s498 q478 q502.src hz501 (fun _ h => (List.mem_append_left _ h)) rfl fun a509 v510 w511 p512 sp512 q513 g514 f515 => ?_)
          have nb516 := nbA hL cx494.g.sz nb486 f515
          have sf517 := sfA (S := []) cx494.g.sz sf487 f515
          have n518 := m503.no n488 f515
          have n519 := m504.no n489 f515
          have n520 := m505.no n490 f515
          have n521 := q506.dj n491 f515
          have n522 := q507.dj n492 f515
          have n523 := q508.dj n493 f515
          have cx524 := cx494.ap g514 sf487 q513
          have cx525 := cx524.sub (fun i h => (List.mem_append.1 h).elim (fun h => (List.mem_append_left _ h)) (fun h => (List.mem_append_right _ (List.mem_append_right _ h))))
          have q526 := q513.sub (fun i h => (List.mem_append.1 h).elim (fun h => (List.mem_append_left _ h)) (fun h => (List.mem_append_right _ (List.mem_append_right _ h))))
          refine s1 p512.z (okAs sp512) rfl fun a527 p528 s529 => ?_
          refine rN (thenN ?_)
          refine wp_seq ?_
          refine reg ?_
          have s530 := p528.o (p512.o (p497.o (p477.o (p472.o (p468.o (p464.o (p460.o (p457.o (p454.o (p450.o (p394.o (p387.o (p383.o (p262.o (p256.o (p252.o (p249.o (p245.o (p241.o (p237.o (p233.o (p230.o (p129.o (p122.o (pg112.o s0_2 rfl) rfl) rfl) rfl) rfl) rfl) rfl) rfl) rfl) rfl) rfl) rfl) rfl) rfl) rfl) rfl) rfl) rfl) rfl) rfl) rfl) rfl) rfl) rfl) rfl) rfl
          refine s1 p528.z (okMv s530) rfl fun a531 p532 s533 => ?_
          have s534 := p532.o (p528.o (p512.o (p497.o (p477.o (p472.o (p468.o (p464.o (p460.o (p457.o (p454.o (p450.o (p394.o (p387.o (p383.o (p262.o (p256.o (p252.o (p249.o (p245.o (p241.o (p237.o (p233.o (p230.o (p129.o (p122.o (pg112.o s0_3 rfl) rfl) rfl) rfl) rfl) rfl) rfl) rfl) rfl) rfl) rfl) rfl) rfl) rfl) rfl) rfl) rfl) rfl) rfl) rfl) rfl) rfl) rfl) rfl) rfl) rfl) rfl
          refine s1 p532.z (okMv s534) rfl fun a535 p536 s537 => ?_
          have s538 := p536.o s533 rfl
          have q539 := qh3.mono (((((g11.t0.trans t226).trans t379).trans t446).trans (tAp g479 (fun _ h => nilO h) f485)).trans (Tr.sub (tAp g514 (fun _ h => (List.mem_append_left _ h)) f515) (fun i h => (List.mem_append.1 h).elim (fun h => (List.mem_append_left _ h)) (fun h => (List.mem_append_right _ (List.mem_append_right _ h))))))
          obtain ⟨t540, ht541, h⟩ := Option.bind_eq_some_iff.1 h
          refine lS (oCall p536.z Try.call12 (ag2 s538 s537) (c12 (ownB v510 ++ (oby405 :: (ownB hpy405_0 ++ (oby273 :: (ownB hpy273_0 ++ (oby144 :: (ownB hpy144_0 ++ L))))))) w511 cx525.lt _ _ _ q539 _ ht541) rfl fun v545 a542 w543 hp546 p544 sp544 => ?_)
          obtain ⟨q547, g548⟩ := hp546
          have cx549 := cx525.ca g548
          refine s1 p544.z (okAs sp544) rfl fun a550 p551 s552 => ?_
          refine rN (thenN ?_)
          refine wp_seq ?_
          refine reg ?_
          have m560 := (m503.g g514 n488).g0 g548
          have m561 := (m504.g g514 n489).g0 g548
          have m562 := (m505.g g514 n490).g0 g548
          have q563 := (q506.tr (Tr.sub (tAp g514 (fun _ h => (List.mem_append_left _ h)) f515) (fun i h => (List.mem_append.1 h).elim (fun h => (List.mem_append_left _ h)) (fun h => (List.mem_append_right _ (List.mem_append_right _ h))))) g514 n491).t0 g548.t0 g548
          have q564 := (q507.tr (Tr.sub (tAp g514 (fun _ h => (List.mem_append_left _ h)) f515) (fun i h => (List.mem_append.1 h).elim (fun h => (List.mem_append_left _ h)) (fun h => (List.mem_append_right _ (List.mem_append_right _ h))))) g514 n492).t0 g548.t0 g548
          have q565 := (q508.tr (Tr.sub (tAp g514 (fun _ h => (List.mem_append_left _ h)) f515) (fun i h => (List.mem_append.1 h).elim (fun h => (List.mem_append_left _ h)) (fun h => (List.mem_append_right _ (List.mem_append_right _ h))))) g514 n493).t0 g548.t0 g548
          have q566 := q526.t0 g548.t0 g548
          refine lS (oBS (K := KTFrame) (L := (ownB v510 ++ (oby405 :: (ownB hpy405_0 ++ (oby273 :: (ownB hpy273_0 ++ (oby144 :: (ownB hpy144_0 ++ L)))))))) (xs := []) (C := []) p551.z (pb0 ) (bs30_0_ ) rfl rfl (fun _ _ _ h => by simp at h) rfl rfl fun a553 v554 w555 p556 sp556 q557 g558 f559 => ?_)
          have f567 := frN f559
          have nb568 := nbA hL cx549.g.sz (fun _ h => nilO h) f567
          have sf569 := sfA (S := []) cx549.g.sz (fun _ h => nilO h) f567
          have n570 := m560.no (fun h => nilO h) f567
          have n571 := m561.no (fun h => nilO h) f567
          have n572 := m562.no (fun h => nilO h) f567
          have n573 := q563.dj (fun _ _ h => nilO h) f567
          have n574 := q564.dj (fun _ _ h => nilO h) f567
          have n575 := q565.dj (fun _ _ h => nilO h) f567
          have n576 := q566.dj (fun _ _ h => nilO h) f567
          have cx577 := cx549.ap g558 (fun _ h => nilO h) q557
          have s578 := p556.o s552 rfl
          refine s1 p556.z (okMv s578) rfl fun a579 p580 s581 => ?_
          have s582 := p580.o sp556 rfl
          obtain ⟨z583, hz584, h⟩ := Option.bind_eq_some_iff.1 h
          have q585 := q547.mono (tAp g558 (fun _ h => nilO h) f567)
          have m586 := m560.g0 g558
          have m587 := m561.g0 g558
          have m588 := m562.g0 g558
          have q589 := q563.t0 (tAp g558 (fun _ h => nilO h) f567) g558
          have q590 := q564.t0 (tAp g558 (fun _ h => nilO h) f567) g558
          have q591 := q565.t0 (tAp g558 (fun _ h => nilO h) f567) g558
          have q592 := q566.t0 (tAp g558 (fun _ h => nilO h) f567) g558
          refine lS (oApp (K := KTFrame) (L := (ownB v554 ++ (ownB v510 ++ (oby405 :: (ownB hpy405_0 ++ (oby273 :: (ownB hpy273_0 ++ (oby144 :: (ownB hpy144_0 ++ L))))))))) Try.underlying30 ti66 rfl p580.z s582 s581 q557 q585.src hz584 (fun _ h => (List.mem_append_left _ h)) rfl fun a593 v594 w595 p596 sp596 q597 g598 f599 => ?_)
          have nb600 := nbA hL cx577.g.sz nb568 f599
          have sf601 := sfA (S := []) cx577.g.sz sf569 f599
          have n602 := m586.no n570 f599
          have n603 := m587.no n571 f599
          have n604 := m588.no n572 f599
          have n605 := q589.dj n573 f599
          have n606 := q590.dj n574 f599
          have n607 := q591.dj n575 f599
          have n608 := q592.dj n576 f599
          have cx609 := cx577.ap g598 sf569 q597
          have cx610 := cx609.sub (fun i h => (List.mem_append.1 h).elim (fun h => (List.mem_append_left _ h)) (fun h => (List.mem_append_right _ (List.mem_append_right _ h))))
          have q611 := q597.sub (fun i h => (List.mem_append.1 h).elim (fun h => (List.mem_append_left _ h)) (fun h => (List.mem_append_right _ (List.mem_append_right _ h))))
          refine s1 p596.z (okAs sp596) rfl fun a612 p613 s614 => ?_
          refine rN (thenN ?_)
          refine wp_seq ?_
          refine reg ?_
          have s615 := p613.o (p596.o (p580.o (p556.o (p551.o (p544.o (p536.o (p532.o s529 rfl) rfl) rfl) rfl) rfl) rfl) rfl) rfl
          refine s1 p613.z (okMv s615) rfl fun a616 p617 s618 => ?_
          have s619 := p617.o (p613.o (p596.o (p580.o (p556.o (p551.o (p544.o (p536.o (p532.o (p528.o (p512.o (p497.o (p477.o (p472.o (p468.o (p464.o (p460.o (p457.o (p454.o (p450.o (p394.o (p387.o (p383.o (p262.o (p256.o s254 rfl) rfl) rfl) rfl) rfl) rfl) rfl) rfl) rfl) rfl) rfl) rfl) rfl) rfl) rfl) rfl) rfl) rfl) rfl) rfl) rfl) rfl) rfl) rfl) rfl
          refine s1 p617.z (okMv s619) rfl fun a620 p621 s622 => ?_
          have s623 := p621.o (p617.o (p613.o (p596.o (p580.o (p556.o (p551.o (p544.o (p536.o (p532.o (p528.o (p512.o (p497.o (p477.o (p472.o (p468.o (p464.o (p460.o (p457.o (p454.o (p450.o (p394.o (p387.o s385 rfl) rfl) rfl) rfl) rfl) rfl) rfl) rfl) rfl) rfl) rfl) rfl) rfl) rfl) rfl) rfl) rfl) rfl) rfl) rfl) rfl) rfl) rfl
          refine s1 p621.z (okMv s623) rfl fun a624 p625 s626 => ?_
          have s627 := p625.o (p621.o (p617.o (p613.o (p596.o (p580.o s578 rfl) rfl) rfl) rfl) rfl) rfl
          refine s1 p625.z (okMv s627) rfl fun a628 p629 s630 => ?_
          have s631 := p629.o (p625.o (p621.o s618 rfl) rfl) rfl
          have s632 := p629.o (p625.o s622 rfl) rfl
          have s633 := p629.o s626 rfl
          have q634 := q592.tr (Tr.sub (tAp g598 (fun _ h => (List.mem_append_left _ h)) f599) (fun i h => (List.mem_append.1 h).elim (fun h => (List.mem_append_left _ h)) (fun h => (List.mem_append_right _ (List.mem_append_right _ h))))) g598 n576
          have q635 : RdS KTIns (ownB v594 ++ (oby405 :: (ownB hpy405_0 ++ (oby273 :: (ownB hpy273_0 ++ (oby144 :: (ownB hpy144_0 ++ L))))))) w595 v510 z500 := q634.rd (fun i h => (List.mem_append.1 h).elim (fun h => (List.mem_append_left _ h)) (fun h => (List.mem_append_right _ (List.mem_append_right _ h)))) (fun b hb => (not_app (n608 _ hb) (not_cons (fun e => n520 (e ▸ hb)) (not_app ((djs n523) _ hb) (not_cons (fun e => n519 (e ▸ hb)) (not_app ((djs n522) _ hb) (not_cons (fun e => n518 (e ▸ hb)) (not_app ((djs n521) _ hb) (nb516 _ hb)))))))))
          have cx636 := cx610.sub (fun i h => (List.mem_append.1 h).elim (fun h => (List.mem_append_left _ h)) (fun h => (List.mem_append_right _ (List.mem_append_right _ h))))
          have m637 := (m586.g g598 n570).g0 (G.refl [] w595)
          have q638 := (q589.tr (Tr.sub (tAp g598 (fun _ h => (List.mem_append_left _ h)) f599) (fun i h => (List.mem_append.1 h).elim (fun h => (List.mem_append_left _ h)) (fun h => (List.mem_append_right _ (List.mem_append_right _ h))))) g598 n573).t0 ((Tr.refl (ownB v594 ++ (ownB v510 ++ (oby405 :: (ownB hpy405_0 ++ (oby273 :: (ownB hpy273_0 ++ (oby144 :: (ownB hpy144_0 ++ L)))))))) w595).sub (fun i h => (List.mem_append.1 h).elim (fun h => (List.mem_append_left _ h)) (fun h => (List.mem_append_right _ (List.mem_append_right _ h))))) (G.refl [] w595)
          have q639 := q585.mono ((Tr.sub (tAp g598 (fun _ h => (List.mem_append_left _ h)) f599) (fun i h => (List.mem_append.1 h).elim (fun h => (List.mem_append_left _ h)) (fun h => (List.mem_append_right _ (List.mem_append_right _ h))))).trans ((Tr.refl (ownB v594 ++ (ownB v510 ++ (oby405 :: (ownB hpy405_0 ++ (oby273 :: (ownB hpy273_0 ++ (oby144 :: (ownB hpy144_0 ++ L)))))))) w595).sub (fun i h => (List.mem_append.1 h).elim (fun h => (List.mem_append_left _ h)) (fun h => (List.mem_append_right _ (List.mem_append_right _ h))))))
          have m640 := (m587.g g598 n571).g0 (G.refl [] w595)
          have m641 := (m588.g g598 n572).g0 (G.refl [] w595)
          obtain ⟨t642, ht643, h⟩ := Option.bind_eq_some_iff.1 h
          refine lS (oCall p629.z Try.call10 (ag5 s631 s632 s633 cst s630) (c10_n2 (ownB v594 ++ (oby405 :: (ownB hpy405_0 ++ (oby273 :: (ownB hpy273_0 ++ L))))) w595 z500 v510 y144 oby144 hpy144_0 0 t540 v545 (fun i h => cx636.lt i ((List.mem_cons.1 h).elim (fun e => e ▸ (List.mem_append_right _ (.tail _ (List.mem_append_right _ (.tail _ (List.mem_append_right _ (.head _))))))) (fun h => (List.mem_append.1 h).elim (fun h => (List.mem_append_right _ (.tail _ (List.mem_append_right _ (.tail _ (List.mem_append_right _ (.tail _ (List.mem_append_left _ h)))))))) (fun h => (List.mem_append.1 h).elim (fun h => (List.mem_append_left _ h)) (fun h => (List.mem_cons.1 h).elim (fun e => e ▸ (List.mem_append_right _ (.head _))) (fun h => (List.mem_append.1 h).elim (fun h => (List.mem_append_right _ (.tail _ (List.mem_append_left _ h)))) (fun h => (List.mem_cons.1 h).elim (fun e => e ▸ (List.mem_append_right _ (.tail _ (List.mem_append_right _ (.head _))))) (fun h => (List.mem_append.1 h).elim (fun h => (List.mem_append_right _ (.tail _ (List.mem_append_right _ (.tail _ (List.mem_append_left _ h)))))) (fun h => (List.mem_append_right _ (.tail _ (List.mem_append_right _ (.tail _ (List.mem_append_right _ (.tail _ (List.mem_append_right _ h)))))))))))))))) (sepC (show ∀ x ∈ [oby144], x ∉ (ownB hpy144_0 ++ (ownB v594 ++ (oby405 :: (ownB hpy405_0 ++ (oby273 :: (ownB hpy273_0 ++ L)))))) from (in1 (na (D222.bo (i := 0) (j := 1) rfl rfl rfl) (na n602 (nc (nmem (D442.bl (i := 0) rfl) (.tail _ (List.mem_append_right _ (.head _)))).symm (na (fun hb => D442.dl (i := 1) rfl _ hb (.tail _ (List.mem_append_right _ (.head _)))) (nc (D375.bb (i := 0) (j := 2) rfl rfl rfl).symm (na (D375.ob (i := 1) (j := 2) rfl rfl rfl) (fun h => Nat.lt_irrefl _ (Nat.lt_of_lt_of_le (hL _ h) (Nat.le_trans cx12.g.sz (f141 _ (List.mem_append_left _ (.head _)))))))))))))) (sepC (show ∀ x ∈ ownB hpy144_0, x ∉ (ownB v594 ++ (oby405 :: (ownB hpy405_0 ++ (oby273 :: (ownB hpy273_0 ++ L))))) from (fun x hx => (na (n605 x hx) (nc (nbo (fun hk => D442.bl (i := 0) rfl (.tail _ (List.mem_append_right _ (.tail _ (List.mem_append_left _ hk))))) hx) (na ((djs (fun x hx hk => D442.dl (i := 1) rfl x hx (.tail _ (List.mem_append_right _ (.tail _ (List.mem_append_left _ hk)))))) x hx) (nc (nbo (D375.bo (i := 0) (j := 3) rfl rfl rfl) hx) (na ((djs (D375.dj (i := 1) (j := 3) rfl rfl rfl)) x hx) ((fun x hx hl => D222.dl (i := 1) rfl x hx hl) x hx)))))))) sepN)) (q635.mono ((Tr.refl _ _).sub (fun i h => (List.mem_cons.1 h).elim (fun e => e ▸ (List.mem_append_right _ (.tail _ (List.mem_append_right _ (.tail _ (List.mem_append_right _ (.head _))))))) (fun h => (List.mem_append.1 h).elim (fun h => (List.mem_append_right _ (.tail _ (List.mem_append_right _ (.tail _ (List.mem_append_right _ (.tail _ (List.mem_append_left _ h)))))))) (fun h => (List.mem_append.1 h).elim (fun h => (List.mem_append_left _ h)) (fun h => (List.mem_cons.1 h).elim (fun e => e ▸ (List.mem_append_right _ (.head _))) (fun h => (List.mem_append.1 h).elim (fun h => (List.mem_append_right _ (.tail _ (List.mem_append_left _ h)))) (fun h => (List.mem_cons.1 h).elim (fun e => e ▸ (List.mem_append_right _ (.tail _ (List.mem_append_right _ (.head _))))) (fun h => (List.mem_append.1 h).elim (fun h => (List.mem_append_right _ (.tail _ (List.mem_append_right _ (.tail _ (List.mem_append_left _ h)))))) (fun h => (List.mem_append_right _ (.tail _ (List.mem_append_right _ (.tail _ (List.mem_append_right _ (.tail _ (List.mem_append_right _ h))))))))))))))))) m637 (q638.sub (fun i h => (List.mem_cons.1 h).elim (fun e => e ▸ (List.mem_append_right _ (.tail _ (List.mem_append_right _ (.tail _ (List.mem_append_right _ (.head _))))))) (fun h => (List.mem_append.1 h).elim (fun h => (List.mem_append_right _ (.tail _ (List.mem_append_right _ (.tail _ (List.mem_append_right _ (.tail _ (List.mem_append_left _ h)))))))) (fun h => (List.mem_append.1 h).elim (fun h => (List.mem_append_left _ h)) (fun h => (List.mem_cons.1 h).elim (fun e => e ▸ (List.mem_append_right _ (.head _))) (fun h => (List.mem_append.1 h).elim (fun h => (List.mem_append_right _ (.tail _ (List.mem_append_left _ h)))) (fun h => (List.mem_cons.1 h).elim (fun e => e ▸ (List.mem_append_right _ (.tail _ (List.mem_append_right _ (.head _))))) (fun h => (List.mem_append.1 h).elim (fun h => (List.mem_append_right _ (.tail _ (List.mem_append_right _ (.tail _ (List.mem_append_left _ h)))))) (fun h => (List.mem_append_right _ (.tail _ (List.mem_append_right _ (.tail _ (List.mem_append_right _ (.tail _ (List.mem_append_right _ h)))))))))))))))) (q639.mono ((Tr.refl _ _).sub (fun i h => (List.mem_cons.1 h).elim (fun e => e ▸ (List.mem_append_right _ (.tail _ (List.mem_append_right _ (.tail _ (List.mem_append_right _ (.head _))))))) (fun h => (List.mem_append.1 h).elim (fun h => (List.mem_append_right _ (.tail _ (List.mem_append_right _ (.tail _ (List.mem_append_right _ (.tail _ (List.mem_append_left _ h)))))))) (fun h => (List.mem_append.1 h).elim (fun h => (List.mem_append_left _ h)) (fun h => (List.mem_cons.1 h).elim (fun e => e ▸ (List.mem_append_right _ (.head _))) (fun h => (List.mem_append.1 h).elim (fun h => (List.mem_append_right _ (.tail _ (List.mem_append_left _ h)))) (fun h => (List.mem_cons.1 h).elim (fun e => e ▸ (List.mem_append_right _ (.tail _ (List.mem_append_right _ (.head _))))) (fun h => (List.mem_append.1 h).elim (fun h => (List.mem_append_right _ (.tail _ (List.mem_append_right _ (.tail _ (List.mem_append_left _ h)))))) (fun h => (List.mem_append_right _ (.tail _ (List.mem_append_right _ (.tail _ (List.mem_append_right _ (.tail _ (List.mem_append_right _ h))))))))))))))))) _ ht643) rfl fun v647 a644 w645 hp648 p646 sp646 => ?_)
          obtain ⟨h649, h650, h651, rfl, q652, q653, q654, g657⟩ := hp648
          have cx658 := cx636.ca g657
          have q659 := q652.mono ((Tr.refl _ _).sub (fun i h => (List.mem_append.1 h).elim (fun h => (.tail _ (List.mem_append_right _ (List.mem_append_left _ h)))) (fun h => (List.mem_cons.1 h).elim (fun e => e ▸ (.tail _ (List.mem_append_right _ (List.mem_append_right _ (.head _))))) (fun h => (List.mem_append.1 h).elim (fun h => (.tail _ (List.mem_append_right _ (List.mem_append_right _ (.tail _ (List.mem_append_left _ h)))))) (fun h => (List.mem_cons.1 h).elim (fun e => e ▸ (.tail _ (List.mem_append_right _ (List.mem_append_right _ (.tail _ (List.mem_append_right _ (.head _))))))) (fun h => (List.mem_append.1 h).elim (fun h => (.tail _ (List.mem_append_right _ (List.mem_append_right _ (.tail _ (List.mem_append_right _ (.tail _ (List.mem_append_left _ h)))))))) (fun h => (List.mem_cons.1 h).elim (fun e => e ▸ (.head _)) (fun h => (List.mem_append.1 h).elim (fun h => (.tail _ (List.mem_append_left _ h))) (fun h => (.tail _ (List.mem_append_right _ (List.mem_append_right _ (.tail _ (List.mem_append_right _ (.tail _ (List.mem_append_right _ h))))))))))))))))
          have q660 := q653.mono ((Tr.refl _ _).sub (fun i h => (List.mem_append.1 h).elim (fun h => (.tail _ (List.mem_append_right _ (List.mem_append_left _ h)))) (fun h => (List.mem_cons.1 h).elim (fun e => e ▸ (.tail _ (List.mem_append_right _ (List.mem_append_right _ (.head _))))) (fun h => (List.mem_append.1 h).elim (fun h => (.tail _ (List.mem_append_right _ (List.mem_append_right _ (.tail _ (List.mem_append_left _ h)))))) (fun h => (List.mem_cons.1 h).elim (fun e => e ▸ (.tail _ (List.mem_append_right _ (List.mem_append_right _ (.tail _ (List.mem_append_right _ (.head _))))))) (fun h => (List.mem_append.1 h).elim (fun h => (.tail _ (List.mem_append_right _ (List.mem_append_right _ (.tail _ (List.mem_append_right _ (.tail _ (List.mem_append_left _ h)))))))) (fun h => (List.mem_cons.1 h).elim (fun e => e ▸ (.head _)) (fun h => (List.mem_append.1 h).elim (fun h => (.tail _ (List.mem_append_left _ h))) (fun h => (.tail _ (List.mem_append_right _ (List.mem_append_right _ (.tail _ (List.mem_append_right _ (.tail _ (List.mem_append_right _ h))))))))))))))))
          have q661 := q654.mono ((Tr.refl _ _).sub (fun i h => (List.mem_append.1 h).elim (fun h => (.tail _ (List.mem_append_right _ (List.mem_append_left _ h)))) (fun h => (List.mem_cons.1 h).elim (fun e => e ▸ (.tail _ (List.mem_append_right _ (List.mem_append_right _ (.head _))))) (fun h => (List.mem_append.1 h).elim (fun h => (.tail _ (List.mem_append_right _ (List.mem_append_right _ (.tail _ (List.mem_append_left _ h)))))) (fun h => (List.mem_cons.1 h).elim (fun e => e ▸ (.tail _ (List.mem_append_right _ (List.mem_append_right _ (.tail _ (List.mem_append_right _ (.head _))))))) (fun h => (List.mem_append.1 h).elim (fun h => (.tail _ (List.mem_append_right _ (List.mem_append_right _ (.tail _ (List.mem_append_right _ (.tail _ (List.mem_append_left _ h)))))))) (fun h => (List.mem_cons.1 h).elim (fun e => e ▸ (.head _)) (fun h => (List.mem_append.1 h).elim (fun h => (.tail _ (List.mem_append_left _ h))) (fun h => (.tail _ (List.mem_append_right _ (List.mem_append_right _ (.tail _ (List.mem_append_right _ (.tail _ (List.mem_append_right _ h))))))))))))))))
          refine s1 p646.z (okMv sp646) rfl fun a662 p663 s664 => ?_
          refine s1 p663.z (okExt (vs := [_, _, _, _, _]) s664 rfl) rfl fun a665 p666 s667 => ?_
          have s668 := p666.o s664 rfl
          refine s1 p666.z (okExt (vs := [_, _, _, _, _]) s668 rfl) rfl fun a669 p670 s671 => ?_
          have s672 := p670.o s668 rfl
          refine s1 p670.z (okExt (vs := [_, _, _, _, _]) s672 rfl) rfl fun a673 p674 s675 => ?_
          have s676 := p674.o s672 rfl
          refine s1 p674.z (okExt (vs := [_, _, _, _, _]) s676 rfl) rfl fun a677 p678 s679 => ?_
          have s680 := p678.o s676 rfl
          refine s1 p678.z (okExt (vs := [_, _, _, _, _]) s680 rfl) rfl fun a681 p682 s683 => ?_
          have s684 := p682.o (p678.o (p674.o (p670.o s667 rfl) rfl) rfl) rfl
          refine s1 p682.z (okAs s684) rfl fun a685 p686 s687 => ?_
          have s688 := p686.o (p682.o (p678.o (p674.o s671 rfl) rfl) rfl) rfl
          refine s1 p686.z (okAs s688) rfl fun a689 p690 s691 => ?_
          have s692 := p690.o (p686.o (p682.o (p678.o s675 rfl) rfl) rfl) rfl
          refine s1 p690.z (okAs s692) rfl fun a693 p694 s695 => ?_
          have s696 := p694.o (p690.o (p686.o (p682.o s679 rfl) rfl) rfl) rfl
          refine s1 p694.z (okAs s696) rfl fun a697 p698 s699 => ?_
          have s700 := p698.o (p694.o (p690.o (p686.o s683 rfl) rfl) rfl) rfl
          refine s1 p698.z (okAs s700) rfl fun a701 p702 s703 => ?_
          refine rN (thenN ?_)
          refine wp_seq ?_
          refine wp_seq ?_
          refine reg ?_
          refine s1 p702.z (okAs cst) rfl fun a704 p705 s706 => ?_
          refine rN (thenN ?_)
          refine wp_block ?_
          obtain ⟨o708, ho709, h⟩ := Option.bind_eq_some_iff.1 h
          have s711 := p705.o (p702.o (p698.o (p694.o (p690.o (p686.o (p682.o (p678.o (p674.o (p670.o (p666.o (p663.o (p646.o (p629.o (p625.o (p621.o (p617.o (p613.o (p596.o (p580.o (p556.o (p551.o (p544.o (p536.o (p532.o (p528.o (p512.o (p497.o s495 rfl) rfl) rfl) rfl) rfl) rfl) rfl) rfl) rfl) rfl) rfl) rfl) rfl) rfl) rfl) rfl) rfl) rfl) rfl) rfl) rfl) rfl) rfl) rfl) rfl) rfl) rfl) rfl
          have s712 := p705.o (p702.o (p698.o (p694.o (p690.o (p686.o (p682.o (p678.o (p674.o (p670.o (p666.o (p663.o (p646.o (p629.o (p625.o (p621.o (p617.o (p613.o (p596.o (p580.o (p556.o (p551.o (p544.o (p536.o (p532.o (p528.o (p512.o (p497.o (p477.o (p472.o (p468.o (p464.o (p460.o (p457.o (p454.o (p450.o (p394.o (p387.o (p383.o (p262.o (p256.o (p252.o (p249.o (p245.o (p241.o (p237.o (p233.o (p230.o (p129.o (p122.o s110 rfl) rfl) rfl) rfl) rfl) rfl) rfl) rfl) rfl) rfl) rfl) rfl) rfl) rfl) rfl) rfl) rfl) rfl) rfl) rfl) rfl) rfl) rfl) rfl) rfl) rfl) rfl) rfl) rfl) rfl) rfl) rfl) rfl) rfl) rfl) rfl) rfl) rfl) rfl) rfl) rfl) rfl) rfl) rfl) rfl) rfl) rfl) rfl) rfl) rfl
          have s713 := p705.o (p702.o (p698.o (p694.o (p690.o (p686.o (p682.o (p678.o (p674.o (p670.o (p666.o (p663.o (p646.o (p629.o (p625.o (p621.o (p617.o (p613.o (p596.o (p580.o (p556.o (p551.o (p544.o (p536.o (p532.o (p528.o (p512.o (p497.o (p477.o (p472.o (p468.o (p464.o (p460.o (p457.o (p454.o (p450.o (p394.o (p387.o (p383.o (p262.o (p256.o (p252.o (p249.o (p245.o (p241.o (p237.o (p233.o (p230.o (p129.o (p122.o s111 rfl) rfl) rfl) rfl) rfl) rfl) rfl) rfl) rfl) rfl) rfl) rfl) rfl) rfl) rfl) rfl) rfl) rfl) rfl) rfl) rfl) rfl) rfl) rfl) rfl) rfl) rfl) rfl) rfl) rfl) rfl) rfl) rfl) rfl) rfl) rfl) rfl) rfl) rfl) rfl) rfl) rfl) rfl) rfl) rfl) rfl) rfl) rfl) rfl) rfl
          have s714 := p705.o (p702.o (p698.o (p694.o (p690.o (p686.o (p682.o (p678.o (p674.o (p670.o (p666.o (p663.o (p646.o (p629.o (p625.o (p621.o s619 rfl) rfl) rfl) rfl) rfl) rfl) rfl) rfl) rfl) rfl) rfl) rfl) rfl) rfl) rfl) rfl
          have s715 := p705.o (p702.o (p698.o (p694.o (p690.o (p686.o (p682.o (p678.o (p674.o (p670.o (p666.o (p663.o (p646.o (p629.o (p625.o (p621.o (p617.o (p613.o (p596.o (p580.o (p556.o (p551.o (p544.o (p536.o (p532.o (p528.o (p512.o (p497.o (p477.o (p472.o (p468.o (p464.o (p460.o (p457.o (p454.o s452 rfl) rfl) rfl) rfl) rfl) rfl) rfl) rfl) rfl) rfl) rfl) rfl) rfl) rfl) rfl) rfl) rfl) rfl) rfl) rfl) rfl) rfl) rfl) rfl) rfl) rfl) rfl) rfl) rfl) rfl) rfl) rfl) rfl) rfl) rfl
          have s716 := p705.o (p702.o (p698.o (p694.o (p690.o (p686.o (p682.o (p678.o (p674.o (p670.o (p666.o (p663.o (p646.o (p629.o (p625.o (p621.o (p617.o (p613.o (p596.o (p580.o (p556.o (p551.o (p544.o (p536.o (p532.o (p528.o (p512.o (p497.o (p477.o (p472.o (p468.o (p464.o s462 rfl) rfl) rfl) rfl) rfl) rfl) rfl) rfl) rfl) rfl) rfl) rfl) rfl) rfl) rfl) rfl) rfl) rfl) rfl) rfl) rfl) rfl) rfl) rfl) rfl) rfl) rfl) rfl) rfl) rfl) rfl) rfl
          have s717 := p705.o (p702.o (p698.o (p694.o (p690.o (p686.o (p682.o (p678.o (p674.o (p670.o (p666.o (p663.o (p646.o (p629.o (p625.o (p621.o (p617.o s615 rfl) rfl) rfl) rfl) rfl) rfl) rfl) rfl) rfl) rfl) rfl) rfl) rfl) rfl) rfl) rfl) rfl
          have s718 := p705.o (p702.o (p698.o (p694.o (p690.o (p686.o (p682.o (p678.o (p674.o (p670.o (p666.o (p663.o (p646.o (p629.o s627 rfl) rfl) rfl) rfl) rfl) rfl) rfl) rfl) rfl) rfl) rfl) rfl) rfl) rfl
          have s719 := p705.o (p702.o (p698.o (p694.o (p690.o (p686.o (p682.o (p678.o (p674.o (p670.o (p666.o (p663.o (p646.o (p629.o (p625.o (p621.o (p617.o s614 rfl) rfl) rfl) rfl) rfl) rfl) rfl) rfl) rfl) rfl) rfl) rfl) rfl) rfl) rfl) rfl) rfl
          have s720 := p705.o (p702.o (p698.o (p694.o (p690.o s687 rfl) rfl) rfl) rfl) rfl
          have s721 := p705.o (p702.o (p698.o (p694.o s691 rfl) rfl) rfl) rfl
          have s722 := p705.o (p702.o (p698.o s695 rfl) rfl) rfl
          have s723 := p705.o (p702.o s699 rfl) rfl
          have s724 := p705.o s703 rfl
          have m725 := m637.g0 g657
          have m726 := m640.g0 g657
          have m727 := m641.g0 g657
          have q728 := q502.mono ((((((Tr.sub (tAp g514 (fun _ h => (List.mem_append_left _ h)) f515) (fun i h => (List.mem_append.1 h).elim (fun h => (List.mem_append_left _ h)) (fun h => (List.mem_append_right _ (List.mem_append_right _ h))))).trans g548.t0).trans (tAp g558 (fun _ h => nilO h) f567)).trans (Tr.sub (tAp g598 (fun _ h => (List.mem_append_left _ h)) f599) (fun i h => (List.mem_append.1 h).elim (fun h => (List.mem_append_left _ h)) (fun h => (List.mem_append_right _ (List.mem_append_right _ h)))))).trans ((Tr.refl (ownB v594 ++ (ownB v510 ++ (oby405 :: (ownB hpy405_0 ++ (oby273 :: (ownB hpy273_0 ++ (oby144 :: (ownB hpy144_0 ++ L)))))))) w595).sub (fun i h => (List.mem_append.1 h).elim (fun h => (List.mem_append_left _ h)) (fun h => (List.mem_append_right _ (List.mem_append_right _ h)))))).trans g657.t0)
          have q729 := q635.mono g657.t0
          have q730 := q639.mono g657.t0
          have q731 := (q611.t0 ((Tr.refl (ownB v594 ++ (ownB v510 ++ (oby405 :: (ownB hpy405_0 ++ (oby273 :: (ownB hpy273_0 ++ (oby144 :: (ownB hpy144_0 ++ L)))))))) w595).sub (fun i h => (List.mem_append.1 h).elim (fun h => (List.mem_append_left _ h)) (fun h => (List.mem_append_right _ (List.mem_append_right _ h))))) (G.refl [] w595)).t0 g657.t0 g657
          have q732 := q638.t0 g657.t0 g657
          have q733 := ((q590.tr (Tr.sub (tAp g598 (fun _ h => (List.mem_append_left _ h)) f599) (fun i h => (List.mem_append.1 h).elim (fun h => (List.mem_append_left _ h)) (fun h => (List.mem_append_right _ (List.mem_append_right _ h))))) g598 n574).t0 ((Tr.refl (ownB v594 ++ (ownB v510 ++ (oby405 :: (ownB hpy405_0 ++ (oby273 :: (ownB hpy273_0 ++ (oby144 :: (ownB hpy144_0 ++ L)))))))) w595).sub (fun i h => (List.mem_append.1 h).elim (fun h => (List.mem_append_left _ h)) (fun h => (List.mem_append_right _ (List.mem_append_right _ h))))) (G.refl [] w595)).t0 g657.t0 g657
          have q734 := ((q591.tr (Tr.sub (tAp g598 (fun _ h => (List.mem_append_left _ h)) f599) (fun i h => (List.mem_append.1 h).elim (fun h => (List.mem_append_left _ h)) (fun h => (List.mem_append_right _ (List.mem_append_right _ h))))) g598 n575).t0 ((Tr.refl (ownB v594 ++ (ownB v510 ++ (oby405 :: (ownB hpy405_0 ++ (oby273 :: (ownB hpy273_0 ++ (oby144 :: (ownB hpy144_0 ++ L)))))))) w595).sub (fun i h => (List.mem_append.1 h).elim (fun h => (List.mem_append_left _ h)) (fun h => (List.mem_append_right _ (List.mem_append_right _ h))))) (G.refl [] w595)).t0 g657.t0 g657
          refine loopX (I := (fun k' a' w' => ∃ i707, Z Try.f6.ntmps a' ∧ a'.eval (.tmp 0) = h0 ∧ a'.eval (.tmp 8) = .bool false ∧ a'.eval (.tmp 9) = .bool t4 ∧ a'.eval (.tmp 10) = ptr oby144 0 ∧ a'.eval (.tmp 12) = ptr oby273 0 ∧ a'.eval (.tmp 13) = ptr oby405 0 ∧ a'.eval (.tmp 14) = v510 ∧ a'.eval (.tmp 15) = v545 ∧ a'.eval (.tmp 16) = v594 ∧ a'.eval (.tmp 17) = h649 ∧ a'.eval (.tmp 18) = h650 ∧ a'.eval (.tmp 19) = .int .i64 t642.2.2.1 ∧ a'.eval (.tmp 20) = .int .i64 t642.2.2.2.1 ∧ a'.eval (.tmp 21) = h651 ∧ a'.eval (.tmp 22) = .int .i64 i707 ∧ Bk w' oby144 (Tcell_Arena.C y144 hpy144_0) 72 ∧ Bk w' oby273 (Tcell_Arena.C y273 hpy273_0) 72 ∧ Bk w' oby405 (Tpermit_Table.C y405 hpy405_0) 78 ∧ RdS KTIns (ownB v594 ++ (oby405 :: (ownB hpy405_0 ++ (oby273 :: (ownB hpy273_0 ++ (oby144 :: (ownB hpy144_0 ++ L))))))) w' h0 x0 ∧ RdS KTIns (ownB v594 ++ (oby405 :: (ownB hpy405_0 ++ (oby273 :: (ownB hpy273_0 ++ (oby144 :: (ownB hpy144_0 ++ L))))))) w' v510 z500 ∧ RdS KTFrame (ownB v594 ++ (oby405 :: (ownB hpy405_0 ++ (oby273 :: (ownB hpy273_0 ++ (oby144 :: (ownB hpy144_0 ++ L))))))) w' v545 t540 ∧ OwnS KTFrame 66 (ownB v594 ++ (oby405 :: (ownB hpy405_0 ++ (oby273 :: (ownB hpy273_0 ++ (oby144 :: (ownB hpy144_0 ++ L))))))) w' v594 z583 ∧ RdS KTFrame (ownB v594 ++ (oby405 :: (ownB hpy405_0 ++ (oby273 :: (ownB hpy273_0 ++ (oby144 :: (ownB hpy144_0 ++ L))))))) w' h649 t642.1 ∧ RdS KTNote (ownB v594 ++ (oby405 :: (ownB hpy405_0 ++ (oby273 :: (ownB hpy273_0 ++ (oby144 :: (ownB hpy144_0 ++ L))))))) w' h650 t642.2.1 ∧ ErG 36 0 (ownB v594 ++ (oby405 :: (ownB hpy405_0 ++ (oby273 :: (ownB hpy273_0 ++ (oby144 :: (ownB hpy144_0 ++ L))))))) w' h651 t642.2.2.2.2 ∧ OwnS (KInt .i64) 2 (ownB v594 ++ (oby405 :: (ownB hpy405_0 ++ (oby273 :: (ownB hpy273_0 ++ (oby144 :: (ownB hpy144_0 ++ L))))))) w' hpy144_0 y144.l ∧ OwnS (KInt .i64) 2 (ownB v594 ++ (oby405 :: (ownB hpy405_0 ++ (oby273 :: (ownB hpy273_0 ++ (oby144 :: (ownB hpy144_0 ++ L))))))) w' hpy273_0 y273.l ∧ OwnS KTPark 59 (ownB v594 ++ (oby405 :: (ownB hpy405_0 ++ (oby273 :: (ownB hpy273_0 ++ (oby144 :: (ownB hpy144_0 ++ L))))))) w' hpy405_0 y405.l ∧ Cx [] w (ownB v594 ++ (oby405 :: (ownB hpy405_0 ++ (oby273 :: (ownB hpy273_0 ++ (oby144 :: (ownB hpy144_0 ++ L))))))) w' ∧ tholelaw09_MicroAgain.l0 x0 z500 k' i707 = some o708)) 0 (fun a' w' => ∃ g710, o708 = .go g710 ∧ Z Try.f6.ntmps a' ∧ a'.eval (.tmp 0) = h0 ∧ a'.eval (.tmp 8) = .bool false ∧ a'.eval (.tmp 9) = .bool t4 ∧ a'.eval (.tmp 10) = ptr oby144 0 ∧ a'.eval (.tmp 12) = ptr oby273 0 ∧ a'.eval (.tmp 13) = ptr oby405 0 ∧ a'.eval (.tmp 15) = v545 ∧ a'.eval (.tmp 16) = v594 ∧ a'.eval (.tmp 17) = h649 ∧ a'.eval (.tmp 18) = h650 ∧ a'.eval (.tmp 19) = .int .i64 t642.2.2.1 ∧ a'.eval (.tmp 20) = .int .i64 t642.2.2.2.1 ∧ a'.eval (.tmp 21) = h651 ∧ Bk w' oby144 (Tcell_Arena.C y144 hpy144_0) 72 ∧ Bk w' oby273 (Tcell_Arena.C y273 hpy273_0) 72 ∧ Bk w' oby405 (Tpermit_Table.C y405 hpy405_0) 78 ∧ RdS KTIns (ownB v594 ++ (oby405 :: (ownB hpy405_0 ++ (oby273 :: (ownB hpy273_0 ++ (oby144 :: (ownB hpy144_0 ++ L))))))) w' h0 x0 ∧ RdS KTFrame (ownB v594 ++ (oby405 :: (ownB hpy405_0 ++ (oby273 :: (ownB hpy273_0 ++ (oby144 :: (ownB hpy144_0 ++ L))))))) w' v545 t540 ∧ OwnS KTFrame 66 (ownB v594 ++ (oby405 :: (ownB hpy405_0 ++ (oby273 :: (ownB hpy273_0 ++ (oby144 :: (ownB hpy144_0 ++ L))))))) w' v594 z583 ∧ RdS KTFrame (ownB v594 ++ (oby405 :: (ownB hpy405_0 ++ (oby273 :: (ownB hpy273_0 ++ (oby144 :: (ownB hpy144_0 ++ L))))))) w' h649 t642.1 ∧ RdS KTNote (ownB v594 ++ (oby405 :: (ownB hpy405_0 ++ (oby273 :: (ownB hpy273_0 ++ (oby144 :: (ownB hpy144_0 ++ L))))))) w' h650 t642.2.1 ∧ ErG 36 0 (ownB v594 ++ (oby405 :: (ownB hpy405_0 ++ (oby273 :: (ownB hpy273_0 ++ (oby144 :: (ownB hpy144_0 ++ L))))))) w' h651 t642.2.2.2.2 ∧ OwnS (KInt .i64) 2 (ownB v594 ++ (oby405 :: (ownB hpy405_0 ++ (oby273 :: (ownB hpy273_0 ++ (oby144 :: (ownB hpy144_0 ++ L))))))) w' hpy144_0 y144.l ∧ OwnS (KInt .i64) 2 (ownB v594 ++ (oby405 :: (ownB hpy405_0 ++ (oby273 :: (ownB hpy273_0 ++ (oby144 :: (ownB hpy144_0 ++ L))))))) w' hpy273_0 y273.l ∧ OwnS KTPark 59 (ownB v594 ++ (oby405 :: (ownB hpy405_0 ++ (oby273 :: (ownB hpy273_0 ++ (oby144 :: (ownB hpy144_0 ++ L))))))) w' hpy405_0 y405.l ∧ Cx [] w (ownB v594 ++ (oby405 :: (ownB hpy405_0 ++ (oby273 :: (ownB hpy273_0 ++ (oby144 :: (ownB hpy144_0 ++ L))))))) w') ⟨0, p705.z, s711, s712, s713, s714, s715, s716, s717, s718, s719, s720, s721, s722, s723, s724, s706, m725, m726, m727, q728, q729, q730, q731, q659, q660, q661, q732, q733, q734, cx658, ho709⟩ ?_ ?_
          · have oh768 := h; clear h ho709
            rintro k735 a736 w737 ⟨i707, z738, s739, s740, s741, s742, s743, s744, s745, s746, s747, s748, s749, s750, s751, s752, s753, m754, m755, m756, q757, q758, q759, q760, q761, q762, q763, q764, q765, q766, cx767, h⟩
            obtain _ | k := k735
            case zero => cases h
            rw [tholelaw09_MicroAgain.l0] at h
            refine wp_seq ?_
            refine wp_seq ?_
            refine reg ?_
            refine s1 z738 (okMv s753) rfl fun a769 p770 s771 => ?_
            have s772 := p770.o s739 rfl
            refine s1 p770.z (okMv s772) rfl fun a773 p774 s775 => ?_
            refine s1 p774.z (okLenR Try.underlying22 s775 q757) rfl fun a776 p777 s778 => ?_
            have s779 := p777.o (p774.o s771 rfl) rfl
            refine s1 p777.z (okLt s779 s778) rfl fun a780 p781 s782 => ?_
            refine rN (thenN ?_)
            have s783 := p781.o (p777.o (p774.o s772 rfl) rfl) rfl
            have s784 := p781.o s779 rfl
            have s785 := p781.o (p777.o s775 rfl) rfl
            have s786 := p781.o s778 rfl
            have pg787 : Pg _ [80, 81, 82, 83] _ _ := (((((Pg.refl z738).st p770 rfl).st p774 rfl).st p777 rfl).st p781 rfl)
            refine cnd s782 (fun hb788 => ?_) (fun hb788 => ?_)
            · replace h := (ifP hb788).symm.trans h
              refine wp_skip (thenN ?_)
              refine wp_seq ?_
              refine wp_block ?_
              refine wp_seq ?_
              refine regS mixed (by kernel_rfl) ?_
              have g789 := G.drew w737
              have cx790 := cx767.ca g789
              have s791 := pg787.o s745 rfl
              refine t1 pg787.z (okMv s791) rfl fun a792 p793 s794 => ?_
              have s795 := p793.o (pg787.o s753 rfl) rfl
              refine t1 p793.z (okMv s795) rfl fun a796 p797 s798 => ?_
              have s799 := p797.o s794 rfl
              have q800 := q758.mono g789.t0
              obtain ⟨y801, hy802, h⟩ := Option.bind_eq_some_iff.1 h
              obtain ⟨b803, o804, cs805, r807, e808, nb809, k806⟩ := q800.at_ hy802
              obtain rfl := r807
              refine t1 p797.z (k806 Try.underlying22 Try.sizeOf40 s799 s798 _) rfl fun a810 p811 s812 => ?_
              refine t1 p811.z (okLdA ag40 s812 e808 rfl rfl whole) rfl fun a813 p814 s815 => ?_
              have s816 := p814.o (p811.o (p797.o (p793.o s783 rfl) rfl) rfl) rfl
              refine t1 p814.z (okMv s816) rfl fun a817 p818 s819 => ?_
              have s820 := p818.o (p814.o (p811.o (p797.o s795 rfl) rfl) rfl) rfl
              refine t1 p818.z (okMv s820) rfl fun a821 p822 s823 => ?_
              have s824 := p822.o s819 rfl
              have q825 := q757.mono g789.t0
              obtain ⟨y826, hy827, h⟩ := Option.bind_eq_some_iff.1 h
              obtain ⟨b828, o829, cs830, r832, e833, nb834, k831⟩ := q825.at_ hy827
              obtain rfl := r832
              refine t1 p822.z (k831 Try.underlying22 Try.sizeOf40 s824 s823 _) rfl fun a835 p836 s837 => ?_
              refine t1 p836.z (okLdA ag40 s837 e833 rfl rfl whole) rfl fun a838 p839 s840 => ?_
              have s841 := p839.o (p836.o (p822.o (p818.o s815 rfl) rfl) rfl) rfl
              refine t1 p839.z (okSNe Try.eqGuardType40 s841 s840 (fun w => eq40 9998 w y801 y826)) rfl fun a842 p843 s844 => ?_
              refine tN (thenN ?_)
              have s845 := p843.o (p839.o (p836.o (p822.o (p818.o s816 rfl) rfl) rfl) rfl) rfl
              have s846 := p843.o (p839.o (p836.o (p822.o s820 rfl) rfl) rfl) rfl
              have s847 := p843.o (p839.o (p836.o (p822.o (p818.o (p814.o (p811.o s799 rfl) rfl) rfl) rfl) rfl) rfl) rfl
              have s848 := p843.o (p839.o (p836.o (p822.o (p818.o (p814.o (p811.o s798 rfl) rfl) rfl) rfl) rfl) rfl) rfl
              have s849 := p843.o (p839.o (p836.o (p822.o (p818.o (p814.o s812 rfl) rfl) rfl) rfl) rfl) rfl
              have s850 := p843.o s841 rfl
              have s851 := p843.o (p839.o (p836.o s824 rfl) rfl) rfl
              have s852 := p843.o (p839.o (p836.o s823 rfl) rfl) rfl
              have s853 := p843.o (p839.o s837 rfl) rfl
              have s854 := p843.o s840 rfl
              have pg855 : Pg _ [86, 87, 88, 89, 90, 91, 92, 93, 94] _ _ := ((((((((((Pg.refl pg787.z).st p793 rfl).st p797 rfl).st p811 rfl).st p814 rfl).st p818 rfl).st p822 rfl).st p836 rfl).st p839 rfl).st p843 rfl)
              refine cnd s844 (fun hb856 => ?_) (fun hb856 => ?_)
              · replace h := (ifP hb856).symm.trans h
                refine wp_seq ?_
                refine reg ?_
                refine s1 pg855.z (okAs cst) rfl fun a857 p858 s859 => ?_
                refine rN (thenN ?_)
                obtain rfl := Option.some.inj h
                obtain rfl := Option.some.inj oh768
                exact wp_ret (blkR (thenR (thenR (jqR (blkR (thenR (ret1 p858.z Try.results6 (rvT s859) ⟨_, rfl, rfl, cx790.g⟩)))))))
              replace h := (ifN hb856).symm.trans h
              refine wp_skip (blkN (thenN ?_))
              refine reg ?_
              refine s1 pg855.z (okMv s846) rfl fun a860 p861 s862 => ?_
              refine s1 p861.z (okAdd s862 cst) rfl fun a863 p864 s865 => ?_
              refine s1 p864.z (okAs s865) rfl fun a866 p867 s868 => ?_
              have s869 := p867.o (p864.o (p861.o s845 rfl) rfl) rfl
              have s870 := p867.o (p864.o (p861.o (pg855.o (pg787.o s740 rfl) rfl) rfl) rfl) rfl
              have s871 := p867.o (p864.o (p861.o (pg855.o (pg787.o s741 rfl) rfl) rfl) rfl) rfl
              have s872 := p867.o (p864.o (p861.o (pg855.o (pg787.o s742 rfl) rfl) rfl) rfl) rfl
              have s873 := p867.o (p864.o (p861.o (pg855.o (pg787.o s743 rfl) rfl) rfl) rfl) rfl
              have s874 := p867.o (p864.o (p861.o (pg855.o (pg787.o s744 rfl) rfl) rfl) rfl) rfl
              have s875 := p867.o (p864.o (p861.o (pg855.o s791 rfl) rfl) rfl) rfl
              have s876 := p867.o (p864.o (p861.o (pg855.o (pg787.o s746 rfl) rfl) rfl) rfl) rfl
              have s877 := p867.o (p864.o (p861.o (pg855.o (pg787.o s747 rfl) rfl) rfl) rfl) rfl
              have s878 := p867.o (p864.o (p861.o (pg855.o (pg787.o s748 rfl) rfl) rfl) rfl) rfl
              have s879 := p867.o (p864.o (p861.o (pg855.o (pg787.o s749 rfl) rfl) rfl) rfl) rfl
              have s880 := p867.o (p864.o (p861.o (pg855.o (pg787.o s750 rfl) rfl) rfl) rfl) rfl
              have s881 := p867.o (p864.o (p861.o (pg855.o (pg787.o s751 rfl) rfl) rfl) rfl) rfl
              have s882 := p867.o (p864.o (p861.o (pg855.o (pg787.o s752 rfl) rfl) rfl) rfl) rfl
              have m883 := m754.g0 g789
              have m884 := m755.g0 g789
              have m885 := m756.g0 g789
              have q886 := q759.mono g789.t0
              have q887 := q760.t0 g789.t0 g789
              have q888 := q761.mono g789.t0
              have q889 := q762.mono g789.t0
              have q890 := q763.mono g789.t0
              have q891 := q764.t0 g789.t0 g789
              have q892 := q765.t0 g789.t0 g789
              have q893 := q766.t0 g789.t0 g789
              exact rN (thenN ⟨k, Nat.lt_succ_self k, (w64 (i707 + 1)), p867.z, s869, s870, s871, s872, s873, s874, s875, s876, s877, s878, s879, s880, s881, s882, s868, m883, m884, m885, q825, q800, q886, q887, q888, q889, q890, q891, q892, q893, cx790, h⟩)
            replace h := (ifN hb788).symm.trans h
            obtain rfl := Option.some.inj h
            have s894 := pg787.o s740 rfl
            have s895 := pg787.o s741 rfl
            have s896 := pg787.o s742 rfl
            have s897 := pg787.o s743 rfl
            have s898 := pg787.o s744 rfl
            have s899 := pg787.o s746 rfl
            have s900 := pg787.o s747 rfl
            have s901 := pg787.o s748 rfl
            have s902 := pg787.o s749 rfl
            have s903 := pg787.o s750 rfl
            have s904 := pg787.o s751 rfl
            have s905 := pg787.o s752 rfl
            exact wp_exit (thenE (thenE (jqE ⟨_, rfl, pg787.z, s783, s894, s895, s896, s897, s898, s899, s900, s901, s902, s903, s904, s905, m754, m755, m756, q757, q759, q760, q761, q762, q763, q764, q765, q766, cx767⟩)))
          clear ho709
          rintro a906 w907 ⟨g710, rfl, z908, s909, s910, s911, s912, s913, s914, s915, s916, s917, s918, s919, s920, s921, m922, m923, m924, q925, q926, q927, q928, q929, q930, q931, q932, q933, cx934⟩
          refine blkE (thenN ?_)
          refine wp_seq ?_
          refine wp_seq ?_
          refine reg ?_
          refine s1 z908 (okMv s921) rfl fun a935 p936 s937 => ?_
          refine s1 p936.z (okENeN ef33 s937 q930 _) rfl fun a938 p939 s940 => ?_
          refine s1 p939.z (okMv s940) rfl fun a941 p942 s943 => ?_
          obtain ⟨b944, hb945, h⟩ := Option.bind_eq_some_iff.1 h
          refine cutL 5 (fun a' w' => Pg Try.f6.ntmps [98, 99, 100, 101, 102] a941 a' ∧ a'.eval (.tmp 102) = .bool b944 ∧ G [] w907 w') ?_ ?_
          · rcases bf (!(t642.2.2.2.2).isN) with hb946 | hb946
            · have s947 := bv s943 hb946
              replace hb945 := (ifN hb946).symm.trans hb945
              clear h; have h := hb945; clear hb945
              have s948 := p942.o (p939.o (p936.o s915 rfl) rfl) rfl
              refine s1g p942.z (okMv s948) rfl (yd p942.z rfl rfl s947) fun a949 p950 s951 => ?_
              have s952 := p950.o s947 rfl
              have s953 := p950.o (p942.o (p939.o (p936.o s916 rfl) rfl) rfl) rfl
              refine s1g p950.z (okMv s953) rfl (yd p950.z rfl rfl s952) fun a954 p955 s956 => ?_
              have s957 := p955.o s952 rfl
              have s958 := p955.o s951 rfl
              obtain ⟨t959, ht960, h⟩ := Option.bind_eq_some_iff.1 h
              refine lG rfl (yd p955.z rfl rfl s957) (oCall p955.z Try.call16 (ag2 s958 s956) (c16 k (oby405 :: (ownB hpy405_0 ++ (oby273 :: (ownB hpy273_0 ++ (oby144 :: (ownB hpy144_0 ++ L)))))) w907 (fun i h => cx934.lt i (List.mem_append_right _ h)) _ _ (q926.mono ((Tr.refl _ _).sub (fun i h => (List.mem_append_right _ h)))) _ _ (q927.rd (fun i h => (List.mem_append_right _ h)) (fun b hb => (not_cons (fun e => n604 (e ▸ hb)) (not_app ((djs n607) _ hb) (not_cons (fun e => n603 (e ▸ hb)) (not_app ((djs n606) _ hb) (not_cons (fun e => n602 (e ▸ hb)) (not_app ((djs n605) _ hb) (nb600 _ hb))))))))) _ ht960) rfl fun v964 a961 w962 hp965 p963 sp963 => ?_)
              obtain ⟨rfl, g966⟩ := hp965
              have cx967 := cx934.ca g966
              have s968 := p963.o s957 rfl
              refine s1g p963.z (okNot sp963) rfl (yd p963.z rfl rfl s968) fun a969 p970 s971 => ?_
              have s972 := p970.o s968 rfl
              refine s1 p970.z (okPickF s972 s971) rfl fun a973 p974 s975 => ?_
              obtain rfl := Option.some.inj h
              exact rN ⟨rfl, ((((((Pg.refl p942.z).st p950 rfl).st p955 rfl).st p963 rfl).st p970 rfl).st p974 rfl), s975, g966⟩
            · have s976 := bv s943 hb946
              replace hb945 := (ifP hb946).symm.trans hb945
              clear h; have h := hb945; clear hb945
              refine s1k p942.z rfl (yd p942.z rfl rfl s976) rfl fun a977 p978 s979 => ?_
              have s980 := p978.o s976 rfl
              refine s1k p978.z rfl (yd p978.z rfl rfl s980) rfl fun a981 p982 s983 => ?_
              have s984 := p982.o s980 rfl
              refine s1k p982.z rfl (yd p982.z rfl rfl s984) rfl fun a985 p986 s987 => ?_
              have s988 := p986.o s984 rfl
              refine s1k p986.z rfl (yd p986.z rfl rfl s988) rfl fun a989 p990 s991 => ?_
              have s992 := p990.o s988 rfl
              refine s1 p990.z (okPickT s992 cst) rfl fun a993 p994 s995 => ?_
              obtain rfl := Option.some.inj h
              exact rN ⟨rfl, ((((((Pg.refl p942.z).st p978 rfl).st p982 rfl).st p986 rfl).st p990 rfl).st p994 rfl), s995, (G.refl _ _)⟩
          rintro a996 w999 ⟨pg997, s998, g1000⟩
          have cx1001 := cx934.ca g1000
          refine rN (thenN ?_)
          have pg1002 : Pg _ [95, 96, 97, 98, 99, 100, 101, 102] _ _ := (((((Pg.refl z908).st p936 rfl).st p939 rfl).st p942 rfl).tr pg997 rfl)
          refine cnd s998 (fun hb1003 => ?_) (fun hb1003 => ?_)
          · replace h := (ifP hb1003).symm.trans h
            refine wp_seq ?_
            refine reg ?_
            refine s1 pg1002.z (okAs cst) rfl fun a1004 p1005 s1006 => ?_
            refine rN (thenN ?_)
            obtain rfl := Option.some.inj h
            exact wp_ret (thenR (ret1 p1005.z Try.results6 (rvT s1006) ⟨_, rfl, rfl, cx1001.g⟩))
          replace h := (ifN hb1003).symm.trans h
          refine wp_skip (thenN ?_)
          refine wp_seq ?_
          refine reg ?_
          have s1007 := pg1002.o s909 rfl
          refine s1 pg1002.z (okMv s1007) rfl fun a1008 p1009 s1010 => ?_
          have s1011 := p1009.o (pg1002.o s913 rfl) rfl
          refine s1 p1009.z (okMv s1011) rfl fun a1012 p1013 s1014 => ?_
          have s1015 := p1013.o (p1009.o (pg1002.o s914 rfl) rfl) rfl
          refine s1 p1013.z (okMv s1015) rfl fun a1016 p1017 s1018 => ?_
          have s1019 := p1017.o (p1013.o (p1009.o (pg1002.o s916 rfl) rfl) rfl) rfl
          refine s1 p1017.z (okMv s1019) rfl fun a1020 p1021 s1022 => ?_
          have s1023 := p1021.o (p1017.o (p1013.o s1010 rfl) rfl) rfl
          have s1024 := p1021.o (p1017.o s1014 rfl) rfl
          have s1025 := p1021.o s1018 rfl
          have q1026 := q927.t0 g1000.t0 g1000
          have q1027 : RdS KTFrame (oby405 :: (ownB hpy405_0 ++ (oby273 :: (ownB hpy273_0 ++ (oby144 :: (ownB hpy144_0 ++ L)))))) w999 v594 z583 := q1026.rd (fun i h => (List.mem_append_right _ h)) (fun b hb => (not_cons (fun e => n604 (e ▸ hb)) (not_app ((djs n607) _ hb) (not_cons (fun e => n603 (e ▸ hb)) (not_app ((djs n606) _ hb) (not_cons (fun e => n602 (e ▸ hb)) (not_app ((djs n605) _ hb) (nb600 _ hb))))))))
          have cx1028 := cx1001.sub (fun i h => (List.mem_append_right _ h))
          have q1029 := q925.mono (g1000.t0.trans ((Tr.refl (ownB v594 ++ (oby405 :: (ownB hpy405_0 ++ (oby273 :: (ownB hpy273_0 ++ (oby144 :: (ownB hpy144_0 ++ L))))))) w999).sub (fun i h => (List.mem_append_right _ h))))
          have m1030 := (m923.g0 g1000).g0 (G.refl [] w999)
          have q1031 := (q932.t0 g1000.t0 g1000).t0 ((Tr.refl (ownB v594 ++ (oby405 :: (ownB hpy405_0 ++ (oby273 :: (ownB hpy273_0 ++ (oby144 :: (ownB hpy144_0 ++ L))))))) w999).sub (fun i h => (List.mem_append_right _ h))) (G.refl [] w999)
          have m1032 := (m924.g0 g1000).g0 (G.refl [] w999)
          have q1033 := (q933.t0 g1000.t0 g1000).t0 ((Tr.refl (ownB v594 ++ (oby405 :: (ownB hpy405_0 ++ (oby273 :: (ownB hpy273_0 ++ (oby144 :: (ownB hpy144_0 ++ L))))))) w999).sub (fun i h => (List.mem_append_right _ h))) (G.refl [] w999)
          have m1034 := (m922.g0 g1000).g0 (G.refl [] w999)
          obtain ⟨t1035, ht1036, h⟩ := Option.bind_eq_some_iff.1 h
          refine lS (oCall p1021.z Try.call10 (ag5 s1023 s1024 s1025 cst s1022) (c10 k (oby144 :: (ownB hpy144_0 ++ L)) w999 x0 h0 y273 oby273 hpy273_0 y405 oby405 hpy405_0 0 z583 v594 (fun i h => cx1028.lt i ((List.mem_cons.1 h).elim (fun e => e ▸ (.tail _ (List.mem_append_right _ (.head _)))) (fun h => (List.mem_append.1 h).elim (fun h => (.tail _ (List.mem_append_right _ (.tail _ (List.mem_append_left _ h))))) (fun h => (List.mem_cons.1 h).elim (fun e => e ▸ (.head _)) (fun h => (List.mem_append.1 h).elim (fun h => (.tail _ (List.mem_append_left _ h))) (fun h => (.tail _ (List.mem_append_right _ (.tail _ (List.mem_append_right _ h)))))))))) (sepC (show ∀ x ∈ [oby273], x ∉ (ownB hpy273_0 ++ (oby405 :: (ownB hpy405_0 ++ (oby144 :: (ownB hpy144_0 ++ L))))) from (in1 (na (D375.bo (i := 0) (j := 1) rfl rfl rfl) (nc (nmem (D442.bl (i := 0) rfl) (.head _)).symm (na (fun hb => D442.dl (i := 1) rfl _ hb (.head _)) (nc (D375.bb (i := 0) (j := 2) rfl rfl rfl) (na (D375.bo (i := 0) (j := 3) rfl rfl rfl) (fun h => Nat.lt_irrefl _ (Nat.lt_of_lt_of_le (hL _ h) (Nat.le_trans cx227.g.sz (f271 _ (List.mem_append_left _ (.head _))))))))))))) (sepC (show ∀ x ∈ ownB hpy273_0, x ∉ (oby405 :: (ownB hpy405_0 ++ (oby144 :: (ownB hpy144_0 ++ L)))) from (fun x hx => (nc (nbo (fun hk => D442.bl (i := 0) rfl (.tail _ (List.mem_append_left _ hk))) hx) (na ((djs (fun x hx hk => D442.dl (i := 1) rfl x hx (.tail _ (List.mem_append_left _ hk)))) x hx) (nc (nbo (D375.ob (i := 1) (j := 2) rfl rfl rfl) hx) (na ((D375.dj (i := 1) (j := 3) rfl rfl rfl) x hx) ((fun x hx hl => D375.dl (i := 1) rfl x hx hl) x hx))))))) (sepC (show ∀ x ∈ [oby405], x ∉ (ownB hpy405_0 ++ (oby144 :: (ownB hpy144_0 ++ L))) from (in1 (na (D442.bo (i := 0) (j := 1) rfl rfl rfl) (nc (nmem (D442.bl (i := 0) rfl) (.tail _ (List.mem_append_right _ (.head _)))) (na (fun hk => D442.bl (i := 0) rfl (.tail _ (List.mem_append_right _ (.tail _ (List.mem_append_left _ hk))))) (fun h => Nat.lt_irrefl _ (Nat.lt_of_lt_of_le (hL _ h) (Nat.le_trans cx380.g.sz (f403 _ (List.mem_append_left _ (.head _))))))))))) (sepC (show ∀ x ∈ ownB hpy405_0, x ∉ (oby144 :: (ownB hpy144_0 ++ L)) from (fun x hx => (nc (nbo (fun hb => D442.dl (i := 1) rfl _ hb (.tail _ (List.mem_append_right _ (.head _)))) hx) (na ((fun x hx hk => D442.dl (i := 1) rfl x hx (.tail _ (List.mem_append_right _ (.tail _ (List.mem_append_left _ hk))))) x hx) ((fun x hx hl => D442.dl (i := 1) rfl x hx (.tail _ (List.mem_append_right _ (.tail _ (List.mem_append_right _ hl))))) x hx))))) sepN)))) (q1029.mono ((Tr.refl _ _).sub (fun i h => (List.mem_cons.1 h).elim (fun e => e ▸ (.tail _ (List.mem_append_right _ (.head _)))) (fun h => (List.mem_append.1 h).elim (fun h => (.tail _ (List.mem_append_right _ (.tail _ (List.mem_append_left _ h))))) (fun h => (List.mem_cons.1 h).elim (fun e => e ▸ (.head _)) (fun h => (List.mem_append.1 h).elim (fun h => (.tail _ (List.mem_append_left _ h))) (fun h => (.tail _ (List.mem_append_right _ (.tail _ (List.mem_append_right _ h))))))))))) m1030 (q1031.sub (fun i h => (List.mem_cons.1 h).elim (fun e => e ▸ (.tail _ (List.mem_append_right _ (.head _)))) (fun h => (List.mem_append.1 h).elim (fun h => (.tail _ (List.mem_append_right _ (.tail _ (List.mem_append_left _ h))))) (fun h => (List.mem_cons.1 h).elim (fun e => e ▸ (.head _)) (fun h => (List.mem_append.1 h).elim (fun h => (.tail _ (List.mem_append_left _ h))) (fun h => (.tail _ (List.mem_append_right _ (.tail _ (List.mem_append_right _ h)))))))))) m1032 (q1033.sub (fun i h => (List.mem_cons.1 h).elim (fun e => e ▸ (.tail _ (List.mem_append_right _ (.head _)))) (fun h => (List.mem_append.1 h).elim (fun h => (.tail _ (List.mem_append_right _ (.tail _ (List.mem_append_left _ h))))) (fun h => (List.mem_cons.1 h).elim (fun e => e ▸ (.head _)) (fun h => (List.mem_append.1 h).elim (fun h => (.tail _ (List.mem_append_left _ h))) (fun h => (.tail _ (List.mem_append_right _ (.tail _ (List.mem_append_right _ h)))))))))) (q1027.mono ((Tr.refl _ _).sub (fun i h => (List.mem_cons.1 h).elim (fun e => e ▸ (.tail _ (List.mem_append_right _ (.head _)))) (fun h => (List.mem_append.1 h).elim (fun h => (.tail _ (List.mem_append_right _ (.tail _ (List.mem_append_left _ h))))) (fun h => (List.mem_cons.1 h).elim (fun e => e ▸ (.head _)) (fun h => (List.mem_append.1 h).elim (fun h => (.tail _ (List.mem_append_left _ h))) (fun h => (.tail _ (List.mem_append_right _ (.tail _ (List.mem_append_right _ h))))))))))) _ ht1036) rfl fun v1040 a1037 w1038 hp1041 p1039 sp1039 => ?_)
          obtain ⟨h1042, h1043, h1044, h1045, h1046, rfl, q1047, q1048, q1049, m1050, q1051, m1052, q1053, D1054, f1057, f1058, lt1055, g1056⟩ := hp1041
          have hs1059 : ∀ i ∈ (oby273 :: (ownB hpy273_0 ++ (oby405 :: (ownB hpy405_0 ++ [])))), i ∈ [] ∨ w.heap.size ≤ i := (memC (.inr (Nat.le_trans cx227.g.sz (f271 _ (List.mem_append_left _ (.head _))))) (memA (fun x hx => .inr (Nat.le_trans cx227.g.sz ((fun _ h => f271 _ (List.mem_append_right _ (List.mem_append_left _ h))) x hx))) (memC (.inr (Nat.le_trans cx380.g.sz (f403 _ (List.mem_append_left _ (.head _))))) (memA (fun x hx => .inr (Nat.le_trans cx380.g.sz ((fun _ h => f403 _ (List.mem_append_right _ (List.mem_append_left _ h))) x hx))) memN))))
          have hs1060 : ∀ i ∈ (oby273 :: (ownB hpy273_0 ++ (oby405 :: (ownB hpy405_0 ++ [])))), i ∈ (oby405 :: (ownB hpy405_0 ++ (oby273 :: (ownB hpy273_0 ++ (oby144 :: (ownB hpy144_0 ++ L)))))) := (memC (.tail _ (List.mem_append_right _ (.head _))) (memA (fun _ h => (.tail _ (List.mem_append_right _ (.tail _ (List.mem_append_left _ h))))) (memC (.head _) (memA (fun _ h => (.tail _ (List.mem_append_left _ h))) memN))))
          have t1061 : Tr (oby405 :: (ownB hpy405_0 ++ (oby273 :: (ownB hpy273_0 ++ (oby144 :: (ownB hpy144_0 ++ L)))))) w999 (oby273 :: (ownB h1045 ++ (oby405 :: (ownB h1046 ++ (oby144 :: (ownB hpy144_0 ++ L)))))) w1038 := G.tC g1056 hs1060 (memC (.inl (.tail _ (List.mem_append_right _ (.head _)))) (memA (frL f1057 hs1060) (memC (.inl (.head _)) (memA (frL f1058 hs1060) (fun i h => .inl ((.tail _ (List.mem_append_right _ (.tail _ (List.mem_append_right _ h))))))))))
          have cx1062 := cx1028.gs g1056 hs1059 lt1055
          refine s1 p1039.z (okMv sp1039) rfl fun a1063 p1064 s1065 => ?_
          refine s1 p1064.z (okExt (vs := [_, _, _, _, _]) s1065 rfl) rfl fun a1066 p1067 s1068 => ?_
          have s1069 := p1067.o s1065 rfl
          refine s1 p1067.z (okExt (vs := [_, _, _, _, _]) s1069 rfl) rfl fun a1070 p1071 s1072 => ?_
          have s1073 := p1071.o s1069 rfl
          refine s1 p1071.z (okExt (vs := [_, _, _, _, _]) s1073 rfl) rfl fun a1074 p1075 s1076 => ?_
          have s1077 := p1075.o s1073 rfl
          refine s1 p1075.z (okExt (vs := [_, _, _, _, _]) s1077 rfl) rfl fun a1078 p1079 s1080 => ?_
          have s1081 := p1079.o s1077 rfl
          refine s1 p1079.z (okExt (vs := [_, _, _, _, _]) s1081 rfl) rfl fun a1082 p1083 s1084 => ?_
          have s1085 := p1083.o (p1079.o (p1075.o (p1071.o s1068 rfl) rfl) rfl) rfl
          refine s1 p1083.z (okAs s1085) rfl fun a1086 p1087 s1088 => ?_
          have s1089 := p1087.o (p1083.o (p1079.o (p1075.o s1072 rfl) rfl) rfl) rfl
          refine s1 p1087.z (okAs s1089) rfl fun a1090 p1091 s1092 => ?_
          have s1093 := p1091.o (p1087.o (p1083.o (p1079.o s1076 rfl) rfl) rfl) rfl
          refine s1 p1091.z (okAs s1093) rfl fun a1094 p1095 s1096 => ?_
          have s1097 := p1095.o (p1091.o (p1087.o (p1083.o s1080 rfl) rfl) rfl) rfl
          refine s1 p1095.z (okAs s1097) rfl fun a1098 p1099 s1100 => ?_
          have s1101 := p1099.o (p1095.o (p1091.o (p1087.o s1084 rfl) rfl) rfl) rfl
          refine s1 p1099.z (okAs s1101) rfl fun a1102 p1103 s1104 => ?_
          refine rN (thenN ?_)
          refine wp_seq ?_
          refine reg ?_
          have s1105 := p1103.o (p1099.o (p1095.o (p1091.o (p1087.o (p1083.o (p1079.o (p1075.o (p1071.o (p1067.o (p1064.o (p1039.o (p1021.o (p1017.o (p1013.o (p1009.o (pg1002.o s911 rfl) rfl) rfl) rfl) rfl) rfl) rfl) rfl) rfl) rfl) rfl) rfl) rfl) rfl) rfl) rfl) rfl
          refine s1 p1103.z (okMv s1105) rfl fun a1106 p1107 s1108 => ?_
          refine s1 p1107.z (okMv s1108) rfl fun a1109 p1110 s1111 => ?_
          refine cutP 3 (fun a' => Pg Try.f6.ntmps [116, 117, 118] a1109 a' ∧ a'.eval (.tmp 118) = .bool (t4 && ((t1035.2.2.2.2.1).isN))) ?_ ?_
          · rcases bf t4 with hb1112 | hb1112
            · have s1113 := bv s1111 hb1112
              refine s1k p1110.z rfl (yd p1110.z rfl rfl s1113) rfl fun a1114 p1115 s1116 => ?_
              have s1117 := p1115.o s1113 rfl
              refine s1k p1115.z rfl (yd p1115.z rfl rfl s1117) rfl fun a1118 p1119 s1120 => ?_
              have s1121 := p1119.o s1117 rfl
              refine s1 p1119.z (okPickF s1121 cst) rfl fun a1122 p1123 s1124 => ?_
              exact rN ⟨rfl, rfl, ((((Pg.refl p1110.z).st p1115 rfl).st p1119 rfl).st p1123 rfl), (andF hb1112 s1124)⟩
            · have s1125 := bv s1111 hb1112
              have s1126 := p1110.o (p1107.o s1104 rfl) rfl
              refine s1g p1110.z (okMv s1126) rfl (yd p1110.z rfl rfl s1125) fun a1127 p1128 s1129 => ?_
              have s1130 := p1128.o s1125 rfl
              refine s1g p1128.z (okEEqN ef33 s1129 q1049 _) rfl (yd p1128.z rfl rfl s1130) fun a1131 p1132 s1133 => ?_
              have s1134 := p1132.o s1130 rfl
              refine s1 p1132.z (okPickT s1134 s1133) rfl fun a1135 p1136 s1137 => ?_
              exact rN ⟨rfl, rfl, ((((Pg.refl p1110.z).st p1128 rfl).st p1132 rfl).st p1136 rfl), (andT hb1112 s1137)⟩
          rintro a1138 ⟨pg1139, s1140⟩
          refine s1 pg1139.z (okMv s1140) rfl fun a1141 p1142 s1143 => ?_
          obtain ⟨b1144, hb1145, h⟩ := Option.bind_eq_some_iff.1 h
          refine cutL 4 (fun a' w' => Pg Try.f6.ntmps [120, 121, 122, 123] a1141 a' ∧ a'.eval (.tmp 123) = .bool b1144 ∧ G [] w1038 w') ?_ ?_
          · rcases bf (t4 && ((t1035.2.2.2.2.1).isN)) with hb1146 | hb1146
            · have s1147 := bv s1143 hb1146
              replace hb1145 := (ifN hb1146).symm.trans hb1145
              clear h; have h := hb1145; clear hb1145
              refine s1k p1142.z rfl (yd p1142.z rfl rfl s1147) rfl fun a1148 p1149 s1150 => ?_
              have s1151 := p1149.o s1147 rfl
              refine s1k p1149.z rfl (yd p1149.z rfl rfl s1151) rfl fun a1152 p1153 s1154 => ?_
              have s1155 := p1153.o s1151 rfl
              refine s1k p1153.z rfl (yd p1153.z rfl rfl s1155) rfl fun a1156 p1157 s1158 => ?_
              have s1159 := p1157.o s1155 rfl
              refine s1 p1157.z (okPickF s1159 cst) rfl fun a1160 p1161 s1162 => ?_
              obtain rfl := Option.some.inj h
              exact rN ⟨rfl, (((((Pg.refl p1142.z).st p1149 rfl).st p1153 rfl).st p1157 rfl).st p1161 rfl), s1162, (G.refl _ _)⟩
            · have s1163 := bv s1143 hb1146
              replace hb1145 := (ifP hb1146).symm.trans hb1145
              clear h; have h := hb1145; clear hb1145
              have s1164 := p1142.o (pg1139.o (p1110.o (p1107.o (p1103.o (p1099.o (p1095.o (p1091.o (p1087.o (p1083.o (p1079.o (p1075.o (p1071.o (p1067.o (p1064.o (p1039.o (p1021.o (p1017.o (p1013.o (p1009.o (pg1002.o s917 rfl) rfl) rfl) rfl) rfl) rfl) rfl) rfl) rfl) rfl) rfl) rfl) rfl) rfl) rfl) rfl) rfl) rfl) rfl) rfl) rfl
              refine s1g p1142.z (okMv s1164) rfl (yd p1142.z rfl rfl s1163) fun a1165 p1166 s1167 => ?_
              have s1168 := p1166.o s1163 rfl
              have s1169 := p1166.o (p1142.o (pg1139.o (p1110.o (p1107.o (p1103.o (p1099.o (p1095.o (p1091.o s1088 rfl) rfl) rfl) rfl) rfl) rfl) rfl) rfl) rfl
              refine s1g p1166.z (okMv s1169) rfl (yd p1166.z rfl rfl s1168) fun a1170 p1171 s1172 => ?_
              have s1173 := p1171.o s1168 rfl
              have s1174 := p1171.o s1167 rfl
              have q1175 := q928.mono ((g1000.t0.trans ((Tr.refl (ownB v594 ++ (oby405 :: (ownB hpy405_0 ++ (oby273 :: (ownB hpy273_0 ++ (oby144 :: (ownB hpy144_0 ++ L))))))) w999).sub (fun i h => (List.mem_append_right _ h)))).trans t1061)
              obtain ⟨t1176, ht1177, h⟩ := Option.bind_eq_some_iff.1 h
              refine lG rfl (yd p1171.z rfl rfl s1173) (oCall p1171.z Try.call16 (ag2 s1174 s1172) (c16 k (oby273 :: (ownB h1045 ++ (oby405 :: (ownB h1046 ++ (oby144 :: (ownB hpy144_0 ++ L)))))) w1038 cx1062.lt _ _ q1175 _ _ q1047 _ ht1177) rfl fun v1181 a1178 w1179 hp1182 p1180 sp1180 => ?_)
              obtain ⟨rfl, g1183⟩ := hp1182
              have cx1184 := cx1062.ca g1183
              have s1185 := p1180.o s1173 rfl
              refine s1 p1180.z (okPickT s1185 sp1180) rfl fun a1186 p1187 s1188 => ?_
              obtain rfl := Option.some.inj h
              exact rN ⟨rfl, (((((Pg.refl p1142.z).st p1166 rfl).st p1171 rfl).st p1180 rfl).st p1187 rfl), s1188, g1183⟩
          rintro a1189 w1192 ⟨pg1190, s1191, g1193⟩
          have cx1194 := cx1062.ca g1193
          refine s1 pg1190.z (okMv s1191) rfl fun a1195 p1196 s1197 => ?_
          obtain ⟨b1198, hb1199, h⟩ := Option.bind_eq_some_iff.1 h
          refine cutL 4 (fun a' w' => Pg Try.f6.ntmps [125, 126, 127, 128] a1195 a' ∧ a'.eval (.tmp 128) = .bool b1198 ∧ G [] w1192 w') ?_ ?_
          · rcases bf b1144 with hb1200 | hb1200
            · have s1201 := bv s1197 hb1200
              replace hb1199 := (ifN hb1200).symm.trans hb1199
              clear h; have h := hb1199; clear hb1199
              refine s1k p1196.z rfl (yd p1196.z rfl rfl s1201) rfl fun a1202 p1203 s1204 => ?_
              have s1205 := p1203.o s1201 rfl
              refine s1k p1203.z rfl (yd p1203.z rfl rfl s1205) rfl fun a1206 p1207 s1208 => ?_
              have s1209 := p1207.o s1205 rfl
              refine s1k p1207.z rfl (yd p1207.z rfl rfl s1209) rfl fun a1210 p1211 s1212 => ?_
              have s1213 := p1211.o s1209 rfl
              refine s1 p1211.z (okPickF s1213 cst) rfl fun a1214 p1215 s1216 => ?_
              obtain rfl := Option.some.inj h
              exact rN ⟨rfl, (((((Pg.refl p1196.z).st p1203 rfl).st p1207 rfl).st p1211 rfl).st p1215 rfl), s1216, (G.refl _ _)⟩
            · have s1217 := bv s1197 hb1200
              replace hb1199 := (ifP hb1200).symm.trans hb1199
              clear h; have h := hb1199; clear hb1199
              have s1218 := p1196.o (pg1190.o (p1142.o (pg1139.o (p1110.o (p1107.o (p1103.o (p1099.o (p1095.o (p1091.o (p1087.o (p1083.o (p1079.o (p1075.o (p1071.o (p1067.o (p1064.o (p1039.o (p1021.o (p1017.o (p1013.o (p1009.o (pg1002.o s918 rfl) rfl) rfl) rfl) rfl) rfl) rfl) rfl) rfl) rfl) rfl) rfl) rfl) rfl) rfl) rfl) rfl) rfl) rfl) rfl) rfl) rfl) rfl
              refine s1g p1196.z (okMv s1218) rfl (yd p1196.z rfl rfl s1217) fun a1219 p1220 s1221 => ?_
              have s1222 := p1220.o s1217 rfl
              have s1223 := p1220.o (p1196.o (pg1190.o (p1142.o (pg1139.o (p1110.o (p1107.o (p1103.o (p1099.o (p1095.o s1092 rfl) rfl) rfl) rfl) rfl) rfl) rfl) rfl) rfl) rfl
              refine s1g p1220.z (okMv s1223) rfl (yd p1220.z rfl rfl s1222) fun a1224 p1225 s1226 => ?_
              have s1227 := p1225.o s1222 rfl
              have s1228 := p1225.o s1221 rfl
              have q1229 := q929.mono (((g1000.t0.trans ((Tr.refl (ownB v594 ++ (oby405 :: (ownB hpy405_0 ++ (oby273 :: (ownB hpy273_0 ++ (oby144 :: (ownB hpy144_0 ++ L))))))) w999).sub (fun i h => (List.mem_append_right _ h)))).trans t1061).trans g1193.t0)
              have q1230 := q1048.mono g1193.t0
              obtain ⟨t1231, ht1232, h⟩ := Option.bind_eq_some_iff.1 h
              refine lG rfl (yd p1225.z rfl rfl s1227) (oCall p1225.z Try.call17 (ag2 s1228 s1226) (c17 k (oby273 :: (ownB h1045 ++ (oby405 :: (ownB h1046 ++ (oby144 :: (ownB hpy144_0 ++ L)))))) w1192 cx1194.lt _ _ q1229 _ _ q1230 _ ht1232) rfl fun v1236 a1233 w1234 hp1237 p1235 sp1235 => ?_)
              obtain ⟨rfl, g1238⟩ := hp1237
              have cx1239 := cx1194.ca g1238
              have s1240 := p1235.o s1227 rfl
              refine s1 p1235.z (okPickT s1240 sp1235) rfl fun a1241 p1242 s1243 => ?_
              obtain rfl := Option.some.inj h
              exact rN ⟨rfl, (((((Pg.refl p1196.z).st p1220 rfl).st p1225 rfl).st p1235 rfl).st p1242 rfl), s1243, g1238⟩
          rintro a1244 w1247 ⟨pg1245, s1246, g1248⟩
          have cx1249 := cx1194.ca g1248
          refine s1 pg1245.z (okMv s1246) rfl fun a1250 p1251 s1252 => ?_
          refine cutP 4 (fun a' => Pg Try.f6.ntmps [130, 131, 132, 133] a1250 a' ∧ a'.eval (.tmp 133) = .bool (b1198 && (t642.2.2.1 == t1035.2.2.1))) ?_ ?_
          · rcases bf b1198 with hb1253 | hb1253
            · have s1254 := bv s1252 hb1253
              refine s1k p1251.z rfl (yd p1251.z rfl rfl s1254) rfl fun a1255 p1256 s1257 => ?_
              have s1258 := p1256.o s1254 rfl
              refine s1k p1256.z rfl (yd p1256.z rfl rfl s1258) rfl fun a1259 p1260 s1261 => ?_
              have s1262 := p1260.o s1258 rfl
              refine s1k p1260.z rfl (yd p1260.z rfl rfl s1262) rfl fun a1263 p1264 s1265 => ?_
              have s1266 := p1264.o s1262 rfl
              refine s1 p1264.z (okPickF s1266 cst) rfl fun a1267 p1268 s1269 => ?_
              exact rN ⟨rfl, rfl, (((((Pg.refl p1251.z).st p1256 rfl).st p1260 rfl).st p1264 rfl).st p1268 rfl), (andF hb1253 s1269)⟩
            · have s1270 := bv s1252 hb1253
              have s1271 := p1251.o (pg1245.o (p1196.o (pg1190.o (p1142.o (pg1139.o (p1110.o (p1107.o (p1103.o (p1099.o (p1095.o (p1091.o (p1087.o (p1083.o (p1079.o (p1075.o (p1071.o (p1067.o (p1064.o (p1039.o (p1021.o (p1017.o (p1013.o (p1009.o (pg1002.o s919 rfl) rfl) rfl) rfl) rfl) rfl) rfl) rfl) rfl) rfl) rfl) rfl) rfl) rfl) rfl) rfl) rfl) rfl) rfl) rfl) rfl) rfl) rfl) rfl) rfl
              refine s1g p1251.z (okMv s1271) rfl (yd p1251.z rfl rfl s1270) fun a1272 p1273 s1274 => ?_
              have s1275 := p1273.o s1270 rfl
              have s1276 := p1273.o (p1251.o (pg1245.o (p1196.o (pg1190.o (p1142.o (pg1139.o (p1110.o (p1107.o (p1103.o (p1099.o s1096 rfl) rfl) rfl) rfl) rfl) rfl) rfl) rfl) rfl) rfl) rfl
              refine s1g p1273.z (okMv s1276) rfl (yd p1273.z rfl rfl s1275) fun a1277 p1278 s1279 => ?_
              have s1280 := p1278.o s1275 rfl
              have s1281 := p1278.o s1274 rfl
              refine s1g p1278.z (okEq s1281 s1279) rfl (yd p1278.z rfl rfl s1280) fun a1282 p1283 s1284 => ?_
              have s1285 := p1283.o s1280 rfl
              refine s1 p1283.z (okPickT s1285 s1284) rfl fun a1286 p1287 s1288 => ?_
              exact rN ⟨rfl, rfl, (((((Pg.refl p1251.z).st p1273 rfl).st p1278 rfl).st p1283 rfl).st p1287 rfl), (andT hb1253 s1288)⟩
          rintro a1289 ⟨pg1290, s1291⟩
          refine s1 pg1290.z (okMv s1291) rfl fun a1292 p1293 s1294 => ?_
          refine cutP 4 (fun a' => Pg Try.f6.ntmps [135, 136, 137, 138] a1292 a' ∧ a'.eval (.tmp 138) = .bool ((b1198 && (t642.2.2.1 == t1035.2.2.1)) && (t642.2.2.2.1 == t1035.2.2.2.1))) ?_ ?_
          · rcases bf (b1198 && (t642.2.2.1 == t1035.2.2.1)) with hb1295 | hb1295
            · have s1296 := bv s1294 hb1295
              refine s1k p1293.z rfl (yd p1293.z rfl rfl s1296) rfl fun a1297 p1298 s1299 => ?_
              have s1300 := p1298.o s1296 rfl
              refine s1k p1298.z rfl (yd p1298.z rfl rfl s1300) rfl fun a1301 p1302 s1303 => ?_
              have s1304 := p1302.o s1300 rfl
              refine s1k p1302.z rfl (yd p1302.z rfl rfl s1304) rfl fun a1305 p1306 s1307 => ?_
              have s1308 := p1306.o s1304 rfl
              refine s1 p1306.z (okPickF s1308 cst) rfl fun a1309 p1310 s1311 => ?_
              exact rN ⟨rfl, rfl, (((((Pg.refl p1293.z).st p1298 rfl).st p1302 rfl).st p1306 rfl).st p1310 rfl), (andF hb1295 s1311)⟩
            · have s1312 := bv s1294 hb1295
              have s1313 := p1293.o (pg1290.o (p1251.o (pg1245.o (p1196.o (pg1190.o (p1142.o (pg1139.o (p1110.o (p1107.o (p1103.o (p1099.o (p1095.o (p1091.o (p1087.o (p1083.o (p1079.o (p1075.o (p1071.o (p1067.o (p1064.o (p1039.o (p1021.o (p1017.o (p1013.o (p1009.o (pg1002.o s920 rfl) rfl) rfl) rfl) rfl) rfl) rfl) rfl) rfl) rfl) rfl) rfl) rfl) rfl) rfl) rfl) rfl) rfl) rfl) rfl) rfl) rfl) rfl) rfl) rfl) rfl) rfl
              refine s1g p1293.z (okMv s1313) rfl (yd p1293.z rfl rfl s1312) fun a1314 p1315 s1316 => ?_
              have s1317 := p1315.o s1312 rfl
              have s1318 := p1315.o (p1293.o (pg1290.o (p1251.o (pg1245.o (p1196.o (pg1190.o (p1142.o (pg1139.o (p1110.o (p1107.o (p1103.o s1100 rfl) rfl) rfl) rfl) rfl) rfl) rfl) rfl) rfl) rfl) rfl) rfl
              refine s1g p1315.z (okMv s1318) rfl (yd p1315.z rfl rfl s1317) fun a1319 p1320 s1321 => ?_
              have s1322 := p1320.o s1317 rfl
              have s1323 := p1320.o s1316 rfl
              refine s1g p1320.z (okEq s1323 s1321) rfl (yd p1320.z rfl rfl s1322) fun a1324 p1325 s1326 => ?_
              have s1327 := p1325.o s1322 rfl
              refine s1 p1325.z (okPickT s1327 s1326) rfl fun a1328 p1329 s1330 => ?_
              exact rN ⟨rfl, rfl, (((((Pg.refl p1293.z).st p1315 rfl).st p1320 rfl).st p1325 rfl).st p1329 rfl), (andT hb1295 s1330)⟩
          rintro a1331 ⟨pg1332, s1333⟩
          refine s1 pg1332.z (okMv s1333) rfl fun a1334 p1335 s1336 => ?_
          obtain ⟨b1337, hb1338, h⟩ := Option.bind_eq_some_iff.1 h
          refine cutL 6 (fun a' w' => Pg Try.f6.ntmps [140, 141, 142, 143, 144, 145] a1334 a' ∧ a'.eval (.tmp 145) = .bool b1337 ∧ G [] w1247 w') ?_ ?_
          · rcases bf ((b1198 && (t642.2.2.1 == t1035.2.2.1)) && (t642.2.2.2.1 == t1035.2.2.2.1)) with hb1339 | hb1339
            · have s1340 := bv s1336 hb1339
              replace hb1338 := (ifN hb1339).symm.trans hb1338
              clear h; have h := hb1338; clear hb1338
              refine s1k p1335.z rfl (yd p1335.z rfl rfl s1340) rfl fun a1341 p1342 s1343 => ?_
              have s1344 := p1342.o s1340 rfl
              refine s1k p1342.z rfl (yd p1342.z rfl rfl s1344) rfl fun a1345 p1346 s1347 => ?_
              have s1348 := p1346.o s1344 rfl
              refine s1k p1346.z rfl (yd p1346.z rfl rfl s1348) rfl fun a1349 p1350 s1351 => ?_
              have s1352 := p1350.o s1348 rfl
              refine s1k p1350.z rfl (yd p1350.z rfl rfl s1352) rfl fun a1353 p1354 s1355 => ?_
              have s1356 := p1354.o s1352 rfl
              refine s1k p1354.z rfl (yd p1354.z rfl rfl s1356) rfl fun a1357 p1358 s1359 => ?_
              have s1360 := p1358.o s1356 rfl
              refine s1 p1358.z (okPickF s1360 cst) rfl fun a1361 p1362 s1363 => ?_
              obtain rfl := Option.some.inj h
              exact rN ⟨rfl, (((((((Pg.refl p1335.z).st p1342 rfl).st p1346 rfl).st p1350 rfl).st p1354 rfl).st p1358 rfl).st p1362 rfl), s1363, (G.refl _ _)⟩
            · have s1364 := bv s1336 hb1339
              replace hb1338 := (ifP hb1339).symm.trans hb1338
              clear h; have h := hb1338; clear hb1338
              have s1365 := p1335.o (pg1332.o (p1293.o (pg1290.o (p1251.o (pg1245.o (p1196.o (pg1190.o (p1142.o (pg1139.o (p1110.o (p1107.o (p1103.o (p1099.o (p1095.o (p1091.o (p1087.o (p1083.o (p1079.o (p1075.o (p1071.o (p1067.o (p1064.o (p1039.o (p1021.o (p1017.o (p1013.o (p1009.o (pg1002.o s912 rfl) rfl) rfl) rfl) rfl) rfl) rfl) rfl) rfl) rfl) rfl) rfl) rfl) rfl) rfl) rfl) rfl) rfl) rfl) rfl) rfl) rfl) rfl) rfl) rfl) rfl) rfl) rfl) rfl
              refine s1g p1335.z (okMv s1365) rfl (yd p1335.z rfl rfl s1364) fun a1366 p1367 s1368 => ?_
              have s1369 := p1367.o s1364 rfl
              have m1370 := ((m1034.g g1056 (nc (D375.bb (i := 0) (j := 2) rfl rfl rfl).symm (na (D375.ob (i := 1) (j := 2) rfl rfl rfl) (nc (nmem (D442.bl (i := 0) rfl) (.tail _ (List.mem_append_right _ (.head _)))).symm (na (fun hb => D442.dl (i := 1) rfl _ hb (.tail _ (List.mem_append_right _ (.head _)))) not_nil))))).g0 g1193).g0 g1248
              have q1371 := ((((q931.t0 g1000.t0 g1000).t0 ((Tr.refl (ownB v594 ++ (oby405 :: (ownB hpy405_0 ++ (oby273 :: (ownB hpy273_0 ++ (oby144 :: (ownB hpy144_0 ++ L))))))) w999).sub (fun i h => (List.mem_append_right _ h))) (G.refl [] w999)).tr t1061 g1056 (fun x hx => (nc (nbo (D375.bo (i := 0) (j := 3) rfl rfl rfl) hx) (na ((djs (D375.dj (i := 1) (j := 3) rfl rfl rfl)) x hx) (nc (nbo (fun hk => D442.bl (i := 0) rfl (.tail _ (List.mem_append_right _ (.tail _ (List.mem_append_left _ hk))))) hx) (na ((djs (fun x hx hk => D442.dl (i := 1) rfl x hx (.tail _ (List.mem_append_right _ (.tail _ (List.mem_append_left _ hk)))))) x hx) not_nil)))))).t0 g1193.t0 g1193).t0 g1248.t0 g1248
              have m1372 := (m1050.g0 g1193).g0 g1248
              have m1373 := (m1052.g0 g1193).g0 g1248
              obtain ⟨t1374, ht1375, h⟩ := Option.bind_eq_some_iff.1 h
              refine lG rfl (yd p1367.z rfl rfl s1369) (oCall p1367.z Try.call11 (ag1 s1368) (c11 (oby273 :: (ownB h1045 ++ (oby405 :: (ownB h1046 ++ L)))) w1247 y144 oby144 hpy144_0 (fun i h => cx1249.lt i ((List.mem_cons.1 h).elim (fun e => e ▸ (.tail _ (List.mem_append_right _ (.tail _ (List.mem_append_right _ (.head _)))))) (fun h => (List.mem_append.1 h).elim (fun h => (.tail _ (List.mem_append_right _ (.tail _ (List.mem_append_right _ (.tail _ (List.mem_append_left _ h))))))) (fun h => (List.mem_cons.1 h).elim (fun e => e ▸ (.head _)) (fun h => (List.mem_append.1 h).elim (fun h => (.tail _ (List.mem_append_left _ h))) (fun h => (List.mem_cons.1 h).elim (fun e => e ▸ (.tail _ (List.mem_append_right _ (.head _)))) (fun h => (List.mem_append.1 h).elim (fun h => (.tail _ (List.mem_append_right _ (.tail _ (List.mem_append_left _ h))))) (fun h => (.tail _ (List.mem_append_right _ (.tail _ (List.mem_append_right _ (.tail _ (List.mem_append_right _ h)))))))))))))) (sepC (show ∀ x ∈ [oby144], x ∉ (ownB hpy144_0 ++ (oby273 :: (ownB h1045 ++ (oby405 :: (ownB h1046 ++ L))))) from (in1 (na (D222.bo (i := 0) (j := 1) rfl rfl rfl) (nc (D375.bb (i := 0) (j := 2) rfl rfl rfl).symm (na (fun hb => D1054.dl (i := 1) rfl _ hb (.head _)) (nc (nmem (D442.bl (i := 0) rfl) (.tail _ (List.mem_append_right _ (.head _)))).symm (na (fun hb => D1054.dl (i := 3) rfl _ hb (.head _)) (fun h => Nat.lt_irrefl _ (Nat.lt_of_lt_of_le (hL _ h) (Nat.le_trans cx12.g.sz (f141 _ (List.mem_append_left _ (.head _))))))))))))) (sepC (show ∀ x ∈ ownB hpy144_0, x ∉ (oby273 :: (ownB h1045 ++ (oby405 :: (ownB h1046 ++ L)))) from (fun x hx => (nc (nbo (D375.bo (i := 0) (j := 3) rfl rfl rfl) hx) (na ((djs (fun x hx hk => D1054.dl (i := 1) rfl x hx (.tail _ (List.mem_append_left _ hk)))) x hx) (nc (nbo (fun hk => D442.bl (i := 0) rfl (.tail _ (List.mem_append_right _ (.tail _ (List.mem_append_left _ hk))))) hx) (na ((djs (fun x hx hk => D1054.dl (i := 3) rfl x hx (.tail _ (List.mem_append_left _ hk)))) x hx) ((fun x hx hl => D222.dl (i := 1) rfl x hx hl) x hx))))))) sepN)) m1370 (q1371.sub (fun i h => (List.mem_cons.1 h).elim (fun e => e ▸ (.tail _ (List.mem_append_right _ (.tail _ (List.mem_append_right _ (.head _)))))) (fun h => (List.mem_append.1 h).elim (fun h => (.tail _ (List.mem_append_right _ (.tail _ (List.mem_append_right _ (.tail _ (List.mem_append_left _ h))))))) (fun h => (List.mem_cons.1 h).elim (fun e => e ▸ (.head _)) (fun h => (List.mem_append.1 h).elim (fun h => (.tail _ (List.mem_append_left _ h))) (fun h => (List.mem_cons.1 h).elim (fun e => e ▸ (.tail _ (List.mem_append_right _ (.head _)))) (fun h => (List.mem_append.1 h).elim (fun h => (.tail _ (List.mem_append_right _ (.tail _ (List.mem_append_left _ h))))) (fun h => (.tail _ (List.mem_append_right _ (.tail _ (List.mem_append_right _ (.tail _ (List.mem_append_right _ h)))))))))))))) _ ht1375) rfl fun v1379 a1376 w1377 hp1380 p1378 sp1378 => ?_)
              obtain ⟨rfl, g1383⟩ := hp1380
              have cx1384 := cx1249.ca g1383
              have s1385 := p1378.o s1369 rfl
              have s1386 := p1378.o (p1367.o (p1335.o (pg1332.o (p1293.o (pg1290.o (p1251.o (pg1245.o (p1196.o (pg1190.o (p1142.o (pg1139.o (p1110.o (p1107.o (p1103.o (p1099.o (p1095.o (p1091.o (p1087.o (p1083.o (p1079.o (p1075.o (p1071.o (p1067.o (p1064.o (p1039.o (p1021.o (p1017.o (p1013.o s1011 rfl) rfl) rfl) rfl) rfl) rfl) rfl) rfl) rfl) rfl) rfl) rfl) rfl) rfl) rfl) rfl) rfl) rfl) rfl) rfl) rfl) rfl) rfl) rfl) rfl) rfl) rfl) rfl) rfl
              refine s1g p1378.z (okMv s1386) rfl (yd p1378.z rfl rfl s1385) fun a1387 p1388 s1389 => ?_
              have s1390 := p1388.o s1385 rfl
              have m1391 := m1372.g0 g1383
              have q1392 := ((q1051.t0 g1193.t0 g1193).t0 g1248.t0 g1248).t0 g1383.t0 g1383
              have m1393 := m1370.g0 g1383
              have m1394 := m1373.g0 g1383
              obtain ⟨t1395, ht1396, h⟩ := Option.bind_eq_some_iff.1 h
              refine lG rfl (yd p1388.z rfl rfl s1390) (oCall p1388.z Try.call11 (ag1 s1389) (c11 (oby405 :: (ownB h1046 ++ (oby144 :: (ownB hpy144_0 ++ L)))) w1377 t1035.2.2.2.2.2.1 oby273 h1045 cx1384.lt (sepC (show ∀ x ∈ [oby273], x ∉ (ownB h1045 ++ (oby405 :: (ownB h1046 ++ (oby144 :: (ownB hpy144_0 ++ L))))) from (in1 (na (D1054.bo (i := 0) (j := 1) rfl rfl rfl) (nc (nmem (D442.bl (i := 0) rfl) (.head _)).symm (na (D1054.bo (i := 0) (j := 3) rfl rfl rfl) (nc (D375.bb (i := 0) (j := 2) rfl rfl rfl) (na (D375.bo (i := 0) (j := 3) rfl rfl rfl) (fun h => Nat.lt_irrefl _ (Nat.lt_of_lt_of_le (hL _ h) (Nat.le_trans cx227.g.sz (f271 _ (List.mem_append_left _ (.head _))))))))))))) (sepC (show ∀ x ∈ ownB h1045, x ∉ (oby405 :: (ownB h1046 ++ (oby144 :: (ownB hpy144_0 ++ L)))) from (fun x hx => (nc (nbo (D1054.ob (i := 1) (j := 2) rfl rfl rfl) hx) (na ((D1054.dj (i := 1) (j := 3) rfl rfl rfl) x hx) (nc (nbo (fun hb => D1054.dl (i := 1) rfl _ hb (.head _)) hx) (na ((fun x hx hk => D1054.dl (i := 1) rfl x hx (.tail _ (List.mem_append_left _ hk))) x hx) ((fun x hx hl => D1054.dl (i := 1) rfl x hx (.tail _ (List.mem_append_right _ hl))) x hx))))))) sepN)) m1391 q1392 _ ht1396) rfl fun v1400 a1397 w1398 hp1401 p1399 sp1399 => ?_)
              obtain ⟨rfl, g1404⟩ := hp1401
              have cx1405 := cx1384.ca g1404
              have s1406 := p1399.o s1390 rfl
              have s1407 := p1399.o (p1388.o sp1378 rfl) rfl
              refine s1g p1399.z (okEq s1407 sp1399) rfl (yd p1399.z rfl rfl s1406) fun a1408 p1409 s1410 => ?_
              have s1411 := p1409.o s1406 rfl
              refine s1 p1409.z (okPickT s1411 s1410) rfl fun a1412 p1413 s1414 => ?_
              obtain rfl := Option.some.inj h
              exact rN ⟨rfl, (((((((Pg.refl p1335.z).st p1367 rfl).st p1378 rfl).st p1388 rfl).st p1399 rfl).st p1409 rfl).st p1413 rfl), s1414, (g1383.tr0 g1404)⟩
          rintro a1415 w1418 ⟨pg1416, s1417, g1419⟩
          have cx1420 := cx1249.ca g1419
          refine s1 pg1416.z (okAs s1417) rfl fun a1421 p1422 s1423 => ?_
          refine rN (thenN ?_)
          obtain rfl := Option.some.inj h
          exact wp_ret (ret1 p1422.z Try.results6 (rvT s1423) ⟨_, rfl, rfl, cx1420.g⟩)
    · rw [ho220] at po137
      obtain ⟨oby221, hpy221_0, rfl, rfl, q1424, q1425⟩ := po137
      replace h := (omS ho220).symm.trans h
      have D1426 : Sep [[oby144], ownB hpy144_0, [oby221], ownB hpy221_0] L := D138
      have lt1427 : ∀ b ∈ (oby144 :: (ownB hpy144_0 ++ (oby221 :: (ownB hpy221_0 ++ L)))), b < w128.heap.size := lt139
      have hs1428 : ∀ i ∈ ([] : List Nat), i ∈ [] ∨ w.heap.size ≤ i := memN
      have hs1429 : ∀ i ∈ ([] : List Nat), i ∈ L := memN
      have t1430 : Tr L w7 (oby144 :: (ownB hpy144_0 ++ (oby221 :: (ownB hpy221_0 ++ L)))) w128 := G.tC g140 hs1429 (memC (.inr (f141 _ (List.mem_append_left _ (.head _)))) (memA (fun x hx => .inr ((fun _ h => f141 _ (List.mem_append_right _ (List.mem_append_left _ h))) x hx)) (memC (.inr (f142 _ (List.mem_append_left _ (.head _)))) (memA (fun x hx => .inr ((fun _ h => f142 _ (List.mem_append_right _ (List.mem_append_left _ h))) x hx)) (fun i h => .inl h)))))
      have cx1431 := cx12.gs g140 hs1428 lt1427
      have q1432 : OwnS (KInt .i64) 2 (oby144 :: (ownB hpy144_0 ++ (oby221 :: (ownB hpy221_0 ++ L)))) w128 hpy144_0 y144.l := q219
      have q1433 : OwnS KTPark 59 (oby144 :: (ownB hpy144_0 ++ (oby221 :: (ownB hpy221_0 ++ L)))) w128 hpy221_0 y221.l := q1425
      refine s1 p129.z (okMv sp129) rfl fun a1434 p1435 s1436 => ?_
      refine s1 p1435.z (okExt (vs := [_, _]) s1436 rfl) rfl fun a1437 p1438 s1439 => ?_
      have s1440 := p1438.o s1436 rfl
      refine s1 p1438.z (okExt (vs := [_, _]) s1440 rfl) rfl fun a1441 p1442 s1443 => ?_
      have s1444 := p1442.o s1439 rfl
      refine s1 p1442.z (okAs s1444) rfl fun a1445 p1446 s1447 => ?_
      have s1448 := p1446.o s1443 rfl
      refine s1 p1446.z (okAs s1448) rfl fun a1449 p1450 s1451 => ?_
      refine rN (thenN ?_)
      refine wp_seq ?_
      refine wp_seq ?_
      refine reg ?_
      have s1452 := p1450.o s1447 rfl
      refine s1 p1450.z (okMv s1452) rfl fun a1453 p1454 s1455 => ?_
      refine s1 p1454.z (okPEq Try.underlying24 s1455 cst) rfl fun a1456 p1457 s1458 => ?_
      refine rN (thenN ?_)
      refine wp_cond_false s1458 ?_
      refine wp_skip (thenN ?_)
      refine wp_seq ?_
      refine reg ?_
      have s1459 := p1457.o (p1454.o s1452 rfl) rfl
      refine s1 p1457.z (okMv s1459) rfl fun a1460 p1461 s1462 => ?_
      obtain ⟨t1463, ht1464, h⟩ := Option.bind_eq_some_iff.1 h
      refine lS (oCall p1461.z Try.call14 (ag1 s1462) (c14 (oby221 :: (ownB hpy221_0 ++ L)) w128 y144 oby144 hpy144_0 cx1431.lt (sepC (show ∀ x ∈ [oby144], x ∉ (ownB hpy144_0 ++ (oby221 :: (ownB hpy221_0 ++ L))) from (in1 (na (D1426.bo (i := 0) (j := 1) rfl rfl rfl) (nc (D1426.bb (i := 0) (j := 2) rfl rfl rfl) (na (D1426.bo (i := 0) (j := 3) rfl rfl rfl) (fun h => Nat.lt_irrefl _ (Nat.lt_of_lt_of_le (hL _ h) (Nat.le_trans cx12.g.sz (f141 _ (List.mem_append_left _ (.head _))))))))))) (sepC (show ∀ x ∈ ownB hpy144_0, x ∉ (oby221 :: (ownB hpy221_0 ++ L)) from (fun x hx => (nc (nbo (D1426.ob (i := 1) (j := 2) rfl rfl rfl) hx) (na ((D1426.dj (i := 1) (j := 3) rfl rfl rfl) x hx) ((fun x hx hl => D1426.dl (i := 1) rfl x hx hl) x hx))))) sepN)) q218 q1432 _ ht1464) rfl fun v1468 a1465 w1466 hp1469 p1467 sp1467 => ?_)
      obtain ⟨u1470, I1471, rfl, po1472, D1473, f1476, lt1474, g1475⟩ := hp1469
      obtain ho1477 | ⟨y1478, ho1477⟩ := oNS t1463
      · rw [ho1477] at po1472
        obtain ⟨rfl, rfl⟩ := po1472
        replace h := (omN ho1477).symm.trans h
        have D1479 : Sep [[oby144], ownB hpy144_0] (oby221 :: (ownB hpy221_0 ++ L)) := D1473
        have lt1480 : ∀ b ∈ (oby144 :: (ownB hpy144_0 ++ (oby221 :: (ownB hpy221_0 ++ L)))), b < w1466.heap.size := lt1474
        have hs1481 : ∀ i ∈ ([] : List Nat), i ∈ [] ∨ w.heap.size ≤ i := memN
        have hs1482 : ∀ i ∈ ([] : List Nat), i ∈ (oby144 :: (ownB hpy144_0 ++ (oby221 :: (ownB hpy221_0 ++ L)))) := memN
        have t1483 : Tr (oby144 :: (ownB hpy144_0 ++ (oby221 :: (ownB hpy221_0 ++ L)))) w128 (oby144 :: (ownB hpy144_0 ++ (oby221 :: (ownB hpy221_0 ++ L)))) w1466 := G.tC g1475 hs1482 (memC (.inl (.head _)) (memA (fun _ h => .inl (.tail _ (List.mem_append_left _ h))) (fun i h => .inl ((.tail _ (List.mem_append_right _ h))))))
        have cx1484 := cx1431.gs g1475 hs1481 lt1480
        refine s1 p1467.z (okAs sp1467) rfl fun a1485 p1486 s1487 => ?_
        refine rN (thenN ?_)
        refine wp_seq ?_
        refine reg ?_
        have s1488 := p1486.o (p1467.o (p1461.o (p1457.o (p1454.o s1451 rfl) rfl) rfl) rfl) rfl
        refine s1 p1486.z (okMv s1488) rfl fun a1489 p1490 s1491 => ?_
        have m1492 := q1424.g0 g1475
        have q1493 := q1433.t0 t1483 g1475
        have m1494 := q218.g0 g1475
        obtain ⟨t1495, ht1496, h⟩ := Option.bind_eq_some_iff.1 h
        refine lS (oCall p1490.z Try.call15 (ag1 s1491) (c15 (oby144 :: (ownB hpy144_0 ++ L)) w1466 y221 oby221 hpy221_0 (fun i h => cx1484.lt i ((List.mem_cons.1 h).elim (fun e => e ▸ (.tail _ (List.mem_append_right _ (.head _)))) (fun h => (List.mem_append.1 h).elim (fun h => (.tail _ (List.mem_append_right _ (.tail _ (List.mem_append_left _ h))))) (fun h => (List.mem_cons.1 h).elim (fun e => e ▸ (.head _)) (fun h => (List.mem_append.1 h).elim (fun h => (.tail _ (List.mem_append_left _ h))) (fun h => (.tail _ (List.mem_append_right _ (.tail _ (List.mem_append_right _ h)))))))))) (sepC (show ∀ x ∈ [oby221], x ∉ (ownB hpy221_0 ++ (oby144 :: (ownB hpy144_0 ++ L))) from (in1 (na (D1426.bo (i := 2) (j := 3) rfl rfl rfl) (nc (D1426.bb (i := 0) (j := 2) rfl rfl rfl).symm (na (D1426.ob (i := 1) (j := 2) rfl rfl rfl) (fun h => Nat.lt_irrefl _ (Nat.lt_of_lt_of_le (hL _ h) (Nat.le_trans cx12.g.sz (f142 _ (List.mem_append_left _ (.head _))))))))))) (sepC (show ∀ x ∈ ownB hpy221_0, x ∉ (oby144 :: (ownB hpy144_0 ++ L)) from (fun x hx => (nc (nbo (D1426.bo (i := 0) (j := 3) rfl rfl rfl) hx) (na ((djs (D1426.dj (i := 1) (j := 3) rfl rfl rfl)) x hx) ((fun x hx hl => D1426.dl (i := 3) rfl x hx hl) x hx))))) sepN)) m1492 (q1493.sub (fun i h => (List.mem_cons.1 h).elim (fun e => e ▸ (.tail _ (List.mem_append_right _ (.head _)))) (fun h => (List.mem_append.1 h).elim (fun h => (.tail _ (List.mem_append_right _ (.tail _ (List.mem_append_left _ h))))) (fun h => (List.mem_cons.1 h).elim (fun e => e ▸ (.head _)) (fun h => (List.mem_append.1 h).elim (fun h => (.tail _ (List.mem_append_left _ h))) (fun h => (.tail _ (List.mem_append_right _ (.tail _ (List.mem_append_right _ h)))))))))) _ ht1496) rfl fun v1500 a1497 w1498 hp1501 p1499 sp1499 => ?_)
        obtain ⟨u1502, I1503, rfl, po1504, D1505, f1508, lt1506, g1507⟩ := hp1501
        obtain ho1509 | ⟨y1510, ho1509⟩ := oNS t1495
        · rw [ho1509] at po1504
          obtain ⟨rfl, rfl⟩ := po1504
          replace h := (omN ho1509).symm.trans h
          have D1511 : Sep [[oby221], ownB hpy221_0] (oby144 :: (ownB hpy144_0 ++ L)) := D1505
          have lt1512 : ∀ b ∈ (oby221 :: (ownB hpy221_0 ++ (oby144 :: (ownB hpy144_0 ++ L)))), b < w1498.heap.size := lt1506
          have hs1513 : ∀ i ∈ ([] : List Nat), i ∈ [] ∨ w.heap.size ≤ i := memN
          have hs1514 : ∀ i ∈ ([] : List Nat), i ∈ (oby144 :: (ownB hpy144_0 ++ (oby221 :: (ownB hpy221_0 ++ L)))) := memN
          have t1515 : Tr (oby144 :: (ownB hpy144_0 ++ (oby221 :: (ownB hpy221_0 ++ L)))) w1466 (oby221 :: (ownB hpy221_0 ++ (oby144 :: (ownB hpy144_0 ++ L)))) w1498 := G.tC g1507 hs1514 (memC (.inl (.tail _ (List.mem_append_right _ (.head _)))) (memA (fun _ h => .inl (.tail _ (List.mem_append_right _ (.tail _ (List.mem_append_left _ h))))) (fun i h => .inl ((List.mem_cons.1 h).elim (fun e => e ▸ (.head _)) (fun h => (List.mem_append.1 h).elim (fun h => (.tail _ (List.mem_append_left _ h))) (fun h => (.tail _ (List.mem_append_right _ (.tail _ (List.mem_append_right _ h))))))))))
          have cx1516 := cx1484.gs g1507 hs1513 lt1512
          refine s1 p1499.z (okAs sp1499) rfl fun a1517 p1518 s1519 => ?_
          refine rN (thenN ?_)
          refine wp_seq ?_
          refine wp_seq ?_
          refine reg ?_
          have s1520 := p1518.o (p1499.o (p1490.o s1487 rfl) rfl) rfl
          refine s1 p1518.z (okMv s1520) rfl fun a1521 p1522 s1523 => ?_
          refine s1 p1522.z (okNEq Try.underlying24 s1523 cst) rfl fun a1524 p1525 s1526 => ?_
          refine s1 p1525.z (okMv s1526) rfl fun a1527 p1528 s1529 => ?_
          refine s1k p1528.z rfl (yd p1528.z rfl rfl s1529) rfl fun a1530 p1531 s1532 => ?_
          have s1533 := p1531.o s1529 rfl
          refine s1k p1531.z rfl (yd p1531.z rfl rfl s1533) rfl fun a1534 p1535 s1536 => ?_
          have s1537 := p1535.o s1533 rfl
          refine s1 p1535.z (okPickT s1537 cst) rfl fun a1538 p1539 s1540 => ?_
          refine rN (thenN ?_)
          refine wp_cond_true s1540 ?_
          refine wp_seq ?_
          refine reg ?_
          refine s1 p1539.z (okAs cst) rfl fun a1541 p1542 s1543 => ?_
          refine rN (thenN ?_)
          obtain rfl := Option.some.inj h
          exact wp_ret (thenR (ret1 p1542.z Try.results6 (rvT s1543) ⟨_, rfl, rfl, cx1516.g⟩))
        · rw [ho1509] at po1504
          obtain ⟨oby1510, hpy1510_0, rfl, rfl, q1544, q1545⟩ := po1504
          replace h := (omS ho1509).symm.trans h
          have D1546 : Sep [[oby1510], ownB hpy1510_0, [oby221], ownB hpy221_0] (oby144 :: (ownB hpy144_0 ++ L)) := D1505
          have lt1547 : ∀ b ∈ (oby1510 :: (ownB hpy1510_0 ++ (oby221 :: (ownB hpy221_0 ++ (oby144 :: (ownB hpy144_0 ++ L)))))), b < w1498.heap.size := lt1506
          have hs1548 : ∀ i ∈ ([] : List Nat), i ∈ [] ∨ w.heap.size ≤ i := memN
          have hs1549 : ∀ i ∈ ([] : List Nat), i ∈ (oby144 :: (ownB hpy144_0 ++ (oby221 :: (ownB hpy221_0 ++ L)))) := memN
          have t1550 : Tr (oby144 :: (ownB hpy144_0 ++ (oby221 :: (ownB hpy221_0 ++ L)))) w1466 (oby1510 :: (ownB hpy1510_0 ++ (oby221 :: (ownB hpy221_0 ++ (oby144 :: (ownB hpy144_0 ++ L)))))) w1498 := G.tC g1507 hs1549 (memC (.inr (f1508 _ (List.mem_append_left _ (.head _)))) (memA (fun x hx => .inr ((fun _ h => f1508 _ (List.mem_append_right _ (List.mem_append_left _ h))) x hx)) (memC (.inl (.tail _ (List.mem_append_right _ (.head _)))) (memA (fun _ h => .inl (.tail _ (List.mem_append_right _ (.tail _ (List.mem_append_left _ h))))) (fun i h => .inl ((List.mem_cons.1 h).elim (fun e => e ▸ (.head _)) (fun h => (List.mem_append.1 h).elim (fun h => (.tail _ (List.mem_append_left _ h))) (fun h => (.tail _ (List.mem_append_right _ (.tail _ (List.mem_append_right _ h))))))))))))
          have cx1551 := cx1484.gs g1507 hs1548 lt1547
          have q1552 : OwnS KTPark 59 (oby1510 :: (ownB hpy1510_0 ++ (oby221 :: (ownB hpy221_0 ++ (oby144 :: (ownB hpy144_0 ++ L)))))) w1498 hpy1510_0 y1510.l := q1545
          refine s1 p1499.z (okAs sp1499) rfl fun a1553 p1554 s1555 => ?_
          refine rN (thenN ?_)
          refine wp_seq ?_
          refine wp_seq ?_
          refine reg ?_
          have s1556 := p1554.o (p1499.o (p1490.o s1487 rfl) rfl) rfl
          refine s1 p1554.z (okMv s1556) rfl fun a1557 p1558 s1559 => ?_
          refine s1 p1558.z (okNEq Try.underlying24 s1559 cst) rfl fun a1560 p1561 s1562 => ?_
          refine s1 p1561.z (okMv s1562) rfl fun a1563 p1564 s1565 => ?_
          refine s1k p1564.z rfl (yd p1564.z rfl rfl s1565) rfl fun a1566 p1567 s1568 => ?_
          have s1569 := p1567.o s1565 rfl
          refine s1k p1567.z rfl (yd p1567.z rfl rfl s1569) rfl fun a1570 p1571 s1572 => ?_
          have s1573 := p1571.o s1569 rfl
          refine s1 p1571.z (okPickT s1573 cst) rfl fun a1574 p1575 s1576 => ?_
          refine rN (thenN ?_)
          refine wp_cond_true s1576 ?_
          refine wp_seq ?_
          refine reg ?_
          refine s1 p1575.z (okAs cst) rfl fun a1577 p1578 s1579 => ?_
          refine rN (thenN ?_)
          obtain rfl := Option.some.inj h
          exact wp_ret (thenR (ret1 p1578.z Try.results6 (rvT s1579) ⟨_, rfl, rfl, cx1551.g⟩))
      · rw [ho1477] at po1472
        obtain ⟨oby1478, hpy1478_0, rfl, rfl, q1580, q1581⟩ := po1472
        replace h := (omS ho1477).symm.trans h
        have D1582 : Sep [[oby1478], ownB hpy1478_0, [oby144], ownB hpy144_0] (oby221 :: (ownB hpy221_0 ++ L)) := D1473
        have lt1583 : ∀ b ∈ (oby1478 :: (ownB hpy1478_0 ++ (oby144 :: (ownB hpy144_0 ++ (oby221 :: (ownB hpy221_0 ++ L)))))), b < w1466.heap.size := lt1474
        have hs1584 : ∀ i ∈ ([] : List Nat), i ∈ [] ∨ w.heap.size ≤ i := memN
        have hs1585 : ∀ i ∈ ([] : List Nat), i ∈ (oby144 :: (ownB hpy144_0 ++ (oby221 :: (ownB hpy221_0 ++ L)))) := memN
        have t1586 : Tr (oby144 :: (ownB hpy144_0 ++ (oby221 :: (ownB hpy221_0 ++ L)))) w128 (oby1478 :: (ownB hpy1478_0 ++ (oby144 :: (ownB hpy144_0 ++ (oby221 :: (ownB hpy221_0 ++ L)))))) w1466 := G.tC g1475 hs1585 (memC (.inr (f1476 _ (List.mem_append_left _ (.head _)))) (memA (fun x hx => .inr ((fun _ h => f1476 _ (List.mem_append_right _ (List.mem_append_left _ h))) x hx)) (memC (.inl (.head _)) (memA (fun _ h => .inl (.tail _ (List.mem_append_left _ h))) (fun i h => .inl ((.tail _ (List.mem_append_right _ h))))))))
        have cx1587 := cx1431.gs g1475 hs1584 lt1583
        have q1588 : OwnS (KInt .i64) 2 (oby1478 :: (ownB hpy1478_0 ++ (oby144 :: (ownB hpy144_0 ++ (oby221 :: (ownB hpy221_0 ++ L)))))) w1466 hpy1478_0 y1478.l := q1581
        refine s1 p1467.z (okAs sp1467) rfl fun a1589 p1590 s1591 => ?_
        refine rN (thenN ?_)
        refine wp_seq ?_
        refine reg ?_
        have s1592 := p1590.o (p1467.o (p1461.o (p1457.o (p1454.o s1451 rfl) rfl) rfl) rfl) rfl
        refine s1 p1590.z (okMv s1592) rfl fun a1593 p1594 s1595 => ?_
        have m1596 := q1424.g0 g1475
        have q1597 := q1433.t0 t1586 g1475
        have m1598 := q218.g0 g1475
        obtain ⟨t1599, ht1600, h⟩ := Option.bind_eq_some_iff.1 h
        refine lS (oCall p1594.z Try.call15 (ag1 s1595) (c15 (oby1478 :: (ownB hpy1478_0 ++ (oby144 :: (ownB hpy144_0 ++ L)))) w1466 y221 oby221 hpy221_0 (fun i h => cx1587.lt i ((List.mem_cons.1 h).elim (fun e => e ▸ (.tail _ (List.mem_append_right _ (.tail _ (List.mem_append_right _ (.head _)))))) (fun h => (List.mem_append.1 h).elim (fun h => (.tail _ (List.mem_append_right _ (.tail _ (List.mem_append_right _ (.tail _ (List.mem_append_left _ h))))))) (fun h => (List.mem_cons.1 h).elim (fun e => e ▸ (.head _)) (fun h => (List.mem_append.1 h).elim (fun h => (.tail _ (List.mem_append_left _ h))) (fun h => (List.mem_cons.1 h).elim (fun e => e ▸ (.tail _ (List.mem_append_right _ (.head _)))) (fun h => (List.mem_append.1 h).elim (fun h => (.tail _ (List.mem_append_right _ (.tail _ (List.mem_append_left _ h))))) (fun h => (.tail _ (List.mem_append_right _ (.tail _ (List.mem_append_right _ (.tail _ (List.mem_append_right _ h)))))))))))))) (sepC (show ∀ x ∈ [oby221], x ∉ (ownB hpy221_0 ++ (oby1478 :: (ownB hpy1478_0 ++ (oby144 :: (ownB hpy144_0 ++ L))))) from (in1 (na (D1426.bo (i := 2) (j := 3) rfl rfl rfl) (nc (nmem (D1582.bl (i := 0) rfl) (.head _)).symm (na (fun hb => D1582.dl (i := 1) rfl _ hb (.head _)) (nc (D1426.bb (i := 0) (j := 2) rfl rfl rfl).symm (na (D1426.ob (i := 1) (j := 2) rfl rfl rfl) (fun h => Nat.lt_irrefl _ (Nat.lt_of_lt_of_le (hL _ h) (Nat.le_trans cx12.g.sz (f142 _ (List.mem_append_left _ (.head _))))))))))))) (sepC (show ∀ x ∈ ownB hpy221_0, x ∉ (oby1478 :: (ownB hpy1478_0 ++ (oby144 :: (ownB hpy144_0 ++ L)))) from (fun x hx => (nc (nbo (fun hk => D1582.bl (i := 0) rfl (.tail _ (List.mem_append_left _ hk))) hx) (na ((djs (fun x hx hk => D1582.dl (i := 1) rfl x hx (.tail _ (List.mem_append_left _ hk)))) x hx) (nc (nbo (D1426.bo (i := 0) (j := 3) rfl rfl rfl) hx) (na ((djs (D1426.dj (i := 1) (j := 3) rfl rfl rfl)) x hx) ((fun x hx hl => D1426.dl (i := 3) rfl x hx hl) x hx))))))) sepN)) m1596 (q1597.sub (fun i h => (List.mem_cons.1 h).elim (fun e => e ▸ (.tail _ (List.mem_append_right _ (.tail _ (List.mem_append_right _ (.head _)))))) (fun h => (List.mem_append.1 h).elim (fun h => (.tail _ (List.mem_append_right _ (.tail _ (List.mem_append_right _ (.tail _ (List.mem_append_left _ h))))))) (fun h => (List.mem_cons.1 h).elim (fun e => e ▸ (.head _)) (fun h => (List.mem_append.1 h).elim (fun h => (.tail _ (List.mem_append_left _ h))) (fun h => (List.mem_cons.1 h).elim (fun e => e ▸ (.tail _ (List.mem_append_right _ (.head _)))) (fun h => (List.mem_append.1 h).elim (fun h => (.tail _ (List.mem_append_right _ (.tail _ (List.mem_append_left _ h))))) (fun h => (.tail _ (List.mem_append_right _ (.tail _ (List.mem_append_right _ (.tail _ (List.mem_append_right _ h)))))))))))))) _ ht1600) rfl fun v1604 a1601 w1602 hp1605 p1603 sp1603 => ?_)
        obtain ⟨u1606, I1607, rfl, po1608, D1609, f1612, lt1610, g1611⟩ := hp1605
        obtain ho1613 | ⟨y1614, ho1613⟩ := oNS t1599
        · rw [ho1613] at po1608
          obtain ⟨rfl, rfl⟩ := po1608
          replace h := (omN ho1613).symm.trans h
          have D1615 : Sep [[oby221], ownB hpy221_0] (oby1478 :: (ownB hpy1478_0 ++ (oby144 :: (ownB hpy144_0 ++ L)))) := D1609
          have lt1616 : ∀ b ∈ (oby221 :: (ownB hpy221_0 ++ (oby1478 :: (ownB hpy1478_0 ++ (oby144 :: (ownB hpy144_0 ++ L)))))), b < w1602.heap.size := lt1610
          have hs1617 : ∀ i ∈ ([] : List Nat), i ∈ [] ∨ w.heap.size ≤ i := memN
          have hs1618 : ∀ i ∈ ([] : List Nat), i ∈ (oby1478 :: (ownB hpy1478_0 ++ (oby144 :: (ownB hpy144_0 ++ (oby221 :: (ownB hpy221_0 ++ L)))))) := memN
          have t1619 : Tr (oby1478 :: (ownB hpy1478_0 ++ (oby144 :: (ownB hpy144_0 ++ (oby221 :: (ownB hpy221_0 ++ L)))))) w1466 (oby221 :: (ownB hpy221_0 ++ (oby1478 :: (ownB hpy1478_0 ++ (oby144 :: (ownB hpy144_0 ++ L)))))) w1602 := G.tC g1611 hs1618 (memC (.inl (.tail _ (List.mem_append_right _ (.tail _ (List.mem_append_right _ (.head _)))))) (memA (fun _ h => .inl (.tail _ (List.mem_append_right _ (.tail _ (List.mem_append_right _ (.tail _ (List.mem_append_left _ h))))))) (fun i h => .inl ((List.mem_cons.1 h).elim (fun e => e ▸ (.head _)) (fun h => (List.mem_append.1 h).elim (fun h => (.tail _ (List.mem_append_left _ h))) (fun h => (List.mem_cons.1 h).elim (fun e => e ▸ (.tail _ (List.mem_append_right _ (.head _)))) (fun h => (List.mem_append.1 h).elim (fun h => (.tail _ (List.mem_append_right _ (.tail _ (List.mem_append_left _ h))))) (fun h => (.tail _ (List.mem_append_right _ (.tail _ (List.mem_append_right _ (.tail _ (List.mem_append_right _ h))))))))))))))
          have cx1620 := cx1587.gs g1611 hs1617 lt1616
          refine s1 p1603.z (okAs sp1603) rfl fun a1621 p1622 s1623 => ?_
          refine rN (thenN ?_)
          refine wp_seq ?_
          refine wp_seq ?_
          refine reg ?_
          have s1624 := p1622.o (p1603.o (p1594.o s1591 rfl) rfl) rfl
          refine s1 p1622.z (okMv s1624) rfl fun a1625 p1626 s1627 => ?_
          refine s1 p1626.z (okPEq Try.underlying24 s1627 cst) rfl fun a1628 p1629 s1630 => ?_
          refine s1 p1629.z (okMv s1630) rfl fun a1631 p1632 s1633 => ?_
          have s1634 := p1632.o (p1629.o (p1626.o s1623 rfl) rfl) rfl
          refine s1g p1632.z (okMv s1634) rfl (yd p1632.z rfl rfl s1633) fun a1635 p1636 s1637 => ?_
          have s1638 := p1636.o s1633 rfl
          refine s1g p1636.z (okNEq Try.underlying25 s1637 cst) rfl (yd p1636.z rfl rfl s1638) fun a1639 p1640 s1641 => ?_
          have s1642 := p1640.o s1638 rfl
          refine s1 p1640.z (okPickF s1642 s1641) rfl fun a1643 p1644 s1645 => ?_
          refine rN (thenN ?_)
          refine wp_cond_true s1645 ?_
          refine wp_seq ?_
          refine reg ?_
          refine s1 p1644.z (okAs cst) rfl fun a1646 p1647 s1648 => ?_
          refine rN (thenN ?_)
          obtain rfl := Option.some.inj h
          exact wp_ret (thenR (ret1 p1647.z Try.results6 (rvT s1648) ⟨_, rfl, rfl, cx1620.g⟩))
        · rw [ho1613] at po1608
          obtain ⟨oby1614, hpy1614_0, rfl, rfl, q1649, q1650⟩ := po1608
          replace h := (omS ho1613).symm.trans h
          have D1651 : Sep [[oby1614], ownB hpy1614_0, [oby221], ownB hpy221_0] (oby1478 :: (ownB hpy1478_0 ++ (oby144 :: (ownB hpy144_0 ++ L)))) := D1609
          have lt1652 : ∀ b ∈ (oby1614 :: (ownB hpy1614_0 ++ (oby221 :: (ownB hpy221_0 ++ (oby1478 :: (ownB hpy1478_0 ++ (oby144 :: (ownB hpy144_0 ++ L)))))))), b < w1602.heap.size := lt1610
          have hs1653 : ∀ i ∈ ([] : List Nat), i ∈ [] ∨ w.heap.size ≤ i := memN
          have hs1654 : ∀ i ∈ ([] : List Nat), i ∈ (oby1478 :: (ownB hpy1478_0 ++ (oby144 :: (ownB hpy144_0 ++ (oby221 :: (ownB hpy221_0 ++ L)))))) := memN
          have t1655 : Tr (oby1478 :: (ownB hpy1478_0 ++ (oby144 :: (ownB hpy144_0 ++ (oby221 :: (ownB hpy221_0 ++ L)))))) w1466 (oby1614 :: (ownB hpy1614_0 ++ (oby221 :: (ownB hpy221_0 ++ (oby1478 :: (ownB hpy1478_0 ++ (oby144 :: (ownB hpy144_0 ++ L)))))))) w1602 := G.tC g1611 hs1654 (memC (.inr (f1612 _ (List.mem_append_left _ (.head _)))) (memA (fun x hx => .inr ((fun _ h => f1612 _ (List.mem_append_right _ (List.mem_append_left _ h))) x hx)) (memC (.inl (.tail _ (List.mem_append_right _ (.tail _ (List.mem_append_right _ (.head _)))))) (memA (fun _ h => .inl (.tail _ (List.mem_append_right _ (.tail _ (List.mem_append_right _ (.tail _ (List.mem_append_left _ h))))))) (fun i h => .inl ((List.mem_cons.1 h).elim (fun e => e ▸ (.head _)) (fun h => (List.mem_append.1 h).elim (fun h => (.tail _ (List.mem_append_left _ h))) (fun h => (List.mem_cons.1 h).elim (fun e => e ▸ (.tail _ (List.mem_append_right _ (.head _)))) (fun h => (List.mem_append.1 h).elim (fun h => (.tail _ (List.mem_append_right _ (.tail _ (List.mem_append_left _ h))))) (fun h => (.tail _ (List.mem_append_right _ (.tail _ (List.mem_append_right _ (.tail _ (List.mem_append_right _ h))))))))))))))))
          have cx1656 := cx1587.gs g1611 hs1653 lt1652
          have q1657 : OwnS KTPark 59 (oby1614 :: (ownB hpy1614_0 ++ (oby221 :: (ownB hpy221_0 ++ (oby1478 :: (ownB hpy1478_0 ++ (oby144 :: (ownB hpy144_0 ++ L)))))))) w1602 hpy1614_0 y1614.l := q1650
          refine s1 p1603.z (okAs sp1603) rfl fun a1658 p1659 s1660 => ?_
          refine rN (thenN ?_)
          refine wp_seq ?_
          refine wp_seq ?_
          refine reg ?_
          have s1661 := p1659.o (p1603.o (p1594.o s1591 rfl) rfl) rfl
          refine s1 p1659.z (okMv s1661) rfl fun a1662 p1663 s1664 => ?_
          refine s1 p1663.z (okPEq Try.underlying24 s1664 cst) rfl fun a1665 p1666 s1667 => ?_
          refine s1 p1666.z (okMv s1667) rfl fun a1668 p1669 s1670 => ?_
          have s1671 := p1669.o (p1666.o (p1663.o s1660 rfl) rfl) rfl
          refine s1g p1669.z (okMv s1671) rfl (yd p1669.z rfl rfl s1670) fun a1672 p1673 s1674 => ?_
          have s1675 := p1673.o s1670 rfl
          refine s1g p1673.z (okPEq Try.underlying25 s1674 cst) rfl (yd p1673.z rfl rfl s1675) fun a1676 p1677 s1678 => ?_
          have s1679 := p1677.o s1675 rfl
          refine s1 p1677.z (okPickF s1679 s1678) rfl fun a1680 p1681 s1682 => ?_
          refine rN (thenN ?_)
          refine wp_cond_false s1682 ?_
          refine wp_skip (thenN ?_)
          refine wp_seq ?_
          refine reg ?_
          have m1690 := m1598.g0 g1611
          have m1691 := m1596.g0 g1611
          have m1692 := q1580.g0 g1611
          have q1693 := (q1432.t0 t1586 g1475).t0 t1655 g1611
          have q1694 := q1597.t0 t1655 g1611
          have q1695 := q1588.t0 t1655 g1611
          refine lS (oBS (K := KTIns) (L := (oby1614 :: (ownB hpy1614_0 ++ (oby221 :: (ownB hpy221_0 ++ (oby1478 :: (ownB hpy1478_0 ++ (oby144 :: (ownB hpy144_0 ++ L))))))))) (xs := []) (C := []) p1681.z (pb0 ) (bs22_0_ ) rfl rfl (fun _ _ _ h => by simp at h) rfl rfl fun a1683 v1684 w1685 p1686 sp1686 q1687 g1688 f1689 => ?_)
          have f1696 := frN f1689
          have nb1697 := nbA hL cx1656.g.sz (fun _ h => nilO h) f1696
          have sf1698 := sfA (S := []) cx1656.g.sz (fun _ h => nilO h) f1696
          have n1699 := m1690.no (fun h => nilO h) f1696
          have n1700 := m1691.no (fun h => nilO h) f1696
          have n1701 := m1692.no (fun h => nilO h) f1696
          have n1702 := q1649.no (fun h => nilO h) f1696
          have n1703 := q1693.dj (fun _ _ h => nilO h) f1696
          have n1704 := q1694.dj (fun _ _ h => nilO h) f1696
          have n1705 := q1695.dj (fun _ _ h => nilO h) f1696
          have n1706 := q1657.dj (fun _ _ h => nilO h) f1696
          have cx1707 := cx1656.ap g1688 (fun _ h => nilO h) q1687
          have s1708 := p1686.o (p1681.o (p1677.o (p1673.o (p1669.o (p1666.o (p1663.o (p1659.o (p1603.o (p1594.o (p1590.o (p1467.o (p1461.o (p1457.o (p1454.o (p1450.o (p1446.o (p1442.o (p1438.o (p1435.o (p129.o (p122.o s109 rfl) rfl) rfl) rfl) rfl) rfl) rfl) rfl) rfl) rfl) rfl) rfl) rfl) rfl) rfl) rfl) rfl) rfl) rfl) rfl) rfl) rfl
          refine s1 p1686.z (okMv s1708) rfl fun a1709 p1710 s1711 => ?_
          have s1712 := p1710.o sp1686 rfl
          obtain ⟨z1713, hz1714, h⟩ := Option.bind_eq_some_iff.1 h
          have q1715 := q20.mono (((t1430.trans t1586).trans t1655).trans (tAp g1688 (fun _ h => nilO h) f1696))
          have m1716 := m1690.g0 g1688
          have m1717 := m1691.g0 g1688
          have m1718 := m1692.g0 g1688
          have m1719 := q1649.g0 g1688
          have q1720 := q1693.t0 (tAp g1688 (fun _ h => nilO h) f1696) g1688
          have q1721 := q1694.t0 (tAp g1688 (fun _ h => nilO h) f1696) g1688
          have q1722 := q1695.t0 (tAp g1688 (fun _ h => nilO h) f1696) g1688
          have q1723 := q1657.t0 (tAp g1688 (fun _ h => nilO h) f1696) g1688
          refine lS (oApp (K := KTIns) (L := (ownB v1684 ++ (oby1614 :: (ownB hpy1614_0 ++ (oby221 :: (ownB hpy221_0 ++ (oby1478 :: (ownB hpy1478_0 ++ (oby144 :: (ownB hpy144_0 ++ L)))))))))) Try.underlying22 ti40 rfl p1710.z s1712 s1711 q1687 q1715.src hz1714 (fun _ h => (List.mem_append_left _ h)) rfl fun a1724 v1725 w1726 p1727 sp1727 q1728 g1729 f1730 => ?_)
          have nb1731 := nbA hL cx1707.g.sz nb1697 f1730
          have sf1732 := sfA (S := []) cx1707.g.sz sf1698 f1730
          have n1733 := m1716.no n1699 f1730
          have n1734 := m1717.no n1700 f1730
          have n1735 := m1718.no n1701 f1730
          have n1736 := m1719.no n1702 f1730
          have n1737 := q1720.dj n1703 f1730
          have n1738 := q1721.dj n1704 f1730
          have n1739 := q1722.dj n1705 f1730
          have n1740 := q1723.dj n1706 f1730
          have cx1741 := cx1707.ap g1729 sf1698 q1728
          have cx1742 := cx1741.sub (fun i h => (List.mem_append.1 h).elim (fun h => (List.mem_append_left _ h)) (fun h => (List.mem_append_right _ (List.mem_append_right _ h))))
          have q1743 := q1728.sub (fun i h => (List.mem_append.1 h).elim (fun h => (List.mem_append_left _ h)) (fun h => (List.mem_append_right _ (List.mem_append_right _ h))))
          refine s1 p1727.z (okAs sp1727) rfl fun a1744 p1745 s1746 => ?_
          refine rN (thenN ?_)
          refine wp_seq ?_
          refine reg ?_
          have s1747 := p1745.o (p1727.o (p1710.o (p1686.o (p1681.o (p1677.o (p1673.o (p1669.o (p1666.o (p1663.o (p1659.o (p1603.o (p1594.o (p1590.o (p1467.o (p1461.o (p1457.o (p1454.o (p1450.o (p1446.o (p1442.o (p1438.o (p1435.o (p129.o (p122.o (pg112.o s0_2 rfl) rfl) rfl) rfl) rfl) rfl) rfl) rfl) rfl) rfl) rfl) rfl) rfl) rfl) rfl) rfl) rfl) rfl) rfl) rfl) rfl) rfl) rfl) rfl) rfl) rfl
          refine s1 p1745.z (okMv s1747) rfl fun a1748 p1749 s1750 => ?_
          have s1751 := p1749.o (p1745.o (p1727.o (p1710.o (p1686.o (p1681.o (p1677.o (p1673.o (p1669.o (p1666.o (p1663.o (p1659.o (p1603.o (p1594.o (p1590.o (p1467.o (p1461.o (p1457.o (p1454.o (p1450.o (p1446.o (p1442.o (p1438.o (p1435.o (p129.o (p122.o (pg112.o s0_3 rfl) rfl) rfl) rfl) rfl) rfl) rfl) rfl) rfl) rfl) rfl) rfl) rfl) rfl) rfl) rfl) rfl) rfl) rfl) rfl) rfl) rfl) rfl) rfl) rfl) rfl) rfl
          refine s1 p1749.z (okMv s1751) rfl fun a1752 p1753 s1754 => ?_
          have s1755 := p1753.o s1750 rfl
          have q1756 := qh3.mono (((((g11.t0.trans t1430).trans t1586).trans t1655).trans (tAp g1688 (fun _ h => nilO h) f1696)).trans (Tr.sub (tAp g1729 (fun _ h => (List.mem_append_left _ h)) f1730) (fun i h => (List.mem_append.1 h).elim (fun h => (List.mem_append_left _ h)) (fun h => (List.mem_append_right _ (List.mem_append_right _ h))))))
          obtain ⟨t1757, ht1758, h⟩ := Option.bind_eq_some_iff.1 h
          refine lS (oCall p1753.z Try.call12 (ag2 s1755 s1754) (c12 (ownB v1725 ++ (oby1614 :: (ownB hpy1614_0 ++ (oby221 :: (ownB hpy221_0 ++ (oby1478 :: (ownB hpy1478_0 ++ (oby144 :: (ownB hpy144_0 ++ L))))))))) w1726 cx1742.lt _ _ _ q1756 _ ht1758) rfl fun v1762 a1759 w1760 hp1763 p1761 sp1761 => ?_)
          obtain ⟨q1764, g1765⟩ := hp1763
          have cx1766 := cx1742.ca g1765
          refine s1 p1761.z (okAs sp1761) rfl fun a1767 p1768 s1769 => ?_
          refine rN (thenN ?_)
          refine wp_seq ?_
          refine reg ?_
          have m1777 := (m1716.g g1729 n1699).g0 g1765
          have m1778 := (m1717.g g1729 n1700).g0 g1765
          have m1779 := (m1718.g g1729 n1701).g0 g1765
          have m1780 := (m1719.g g1729 n1702).g0 g1765
          have q1781 := (q1720.tr (Tr.sub (tAp g1729 (fun _ h => (List.mem_append_left _ h)) f1730) (fun i h => (List.mem_append.1 h).elim (fun h => (List.mem_append_left _ h)) (fun h => (List.mem_append_right _ (List.mem_append_right _ h))))) g1729 n1703).t0 g1765.t0 g1765
          have q1782 := (q1721.tr (Tr.sub (tAp g1729 (fun _ h => (List.mem_append_left _ h)) f1730) (fun i h => (List.mem_append.1 h).elim (fun h => (List.mem_append_left _ h)) (fun h => (List.mem_append_right _ (List.mem_append_right _ h))))) g1729 n1704).t0 g1765.t0 g1765
          have q1783 := (q1722.tr (Tr.sub (tAp g1729 (fun _ h => (List.mem_append_left _ h)) f1730) (fun i h => (List.mem_append.1 h).elim (fun h => (List.mem_append_left _ h)) (fun h => (List.mem_append_right _ (List.mem_append_right _ h))))) g1729 n1705).t0 g1765.t0 g1765
          have q1784 := (q1723.tr (Tr.sub (tAp g1729 (fun _ h => (List.mem_append_left _ h)) f1730) (fun i h => (List.mem_append.1 h).elim (fun h => (List.mem_append_left _ h)) (fun h => (List.mem_append_right _ (List.mem_append_right _ h))))) g1729 n1706).t0 g1765.t0 g1765
          have q1785 := q1743.t0 g1765.t0 g1765
          refine lS (oBS (K := KTFrame) (L := (ownB v1725 ++ (oby1614 :: (ownB hpy1614_0 ++ (oby221 :: (ownB hpy221_0 ++ (oby1478 :: (ownB hpy1478_0 ++ (oby144 :: (ownB hpy144_0 ++ L)))))))))) (xs := []) (C := []) p1768.z (pb0 ) (bs30_0_ ) rfl rfl (fun _ _ _ h => by simp at h) rfl rfl fun a1770 v1771 w1772 p1773 sp1773 q1774 g1775 f1776 => ?_)
          have f1786 := frN f1776
          have nb1787 := nbA hL cx1766.g.sz (fun _ h => nilO h) f1786
          have sf1788 := sfA (S := []) cx1766.g.sz (fun _ h => nilO h) f1786
          have n1789 := m1777.no (fun h => nilO h) f1786
          have n1790 := m1778.no (fun h => nilO h) f1786
          have n1791 := m1779.no (fun h => nilO h) f1786
          have n1792 := m1780.no (fun h => nilO h) f1786
          have n1793 := q1781.dj (fun _ _ h => nilO h) f1786
          have n1794 := q1782.dj (fun _ _ h => nilO h) f1786
          have n1795 := q1783.dj (fun _ _ h => nilO h) f1786
          have n1796 := q1784.dj (fun _ _ h => nilO h) f1786
          have n1797 := q1785.dj (fun _ _ h => nilO h) f1786
          have cx1798 := cx1766.ap g1775 (fun _ h => nilO h) q1774
          have s1799 := p1773.o s1769 rfl
          refine s1 p1773.z (okMv s1799) rfl fun a1800 p1801 s1802 => ?_
          have s1803 := p1801.o sp1773 rfl
          obtain ⟨z1804, hz1805, h⟩ := Option.bind_eq_some_iff.1 h
          have q1806 := q1764.mono (tAp g1775 (fun _ h => nilO h) f1786)
          have m1807 := m1777.g0 g1775
          have m1808 := m1778.g0 g1775
          have m1809 := m1779.g0 g1775
          have m1810 := m1780.g0 g1775
          have q1811 := q1781.t0 (tAp g1775 (fun _ h => nilO h) f1786) g1775
          have q1812 := q1782.t0 (tAp g1775 (fun _ h => nilO h) f1786) g1775
          have q1813 := q1783.t0 (tAp g1775 (fun _ h => nilO h) f1786) g1775
          have q1814 := q1784.t0 (tAp g1775 (fun _ h => nilO h) f1786) g1775
          have q1815 := q1785.t0 (tAp g1775 (fun _ h => nilO h) f1786) g1775
          refine lS (oApp (K := KTFrame) (L := (ownB v1771 ++ (ownB v1725 ++ (oby1614 :: (ownB hpy1614_0 ++ (oby221 :: (ownB hpy221_0 ++ (oby1478 :: (ownB hpy1478_0 ++ (oby144 :: (ownB hpy144_0 ++ L))))))))))) Try.underlying30 ti66 rfl p1801.z s1803 s1802 q1774 q1806.src hz1805 (fun _ h => (List.mem_append_left _ h)) rfl fun a1816 v1817 w1818 p1819 sp1819 q1820 g1821 f1822 => ?_)
          have nb1823 := nbA hL cx1798.g.sz nb1787 f1822
          have sf1824 := sfA (S := []) cx1798.g.sz sf1788 f1822
          have n1825 := m1807.no n1789 f1822
          have n1826 := m1808.no n1790 f1822
          have n1827 := m1809.no n1791 f1822
          have n1828 := m1810.no n1792 f1822
          have n1829 := q1811.dj n1793 f1822
          have n1830 := q1812.dj n1794 f1822
          have n1831 := q1813.dj n1795 f1822
          have n1832 := q1814.dj n1796 f1822
          have n1833 := q1815.dj n1797 f1822
          have cx1834 := cx1798.ap g1821 sf1788 q1820
          have cx1835 := cx1834.sub (fun i h => (List.mem_append.1 h).elim (fun h => (List.mem_append_left _ h)) (fun h => (List.mem_append_right _ (List.mem_append_right _ h))))
          have q1836 := q1820.sub (fun i h => (List.mem_append.1 h).elim (fun h => (List.mem_append_left _ h)) (fun h => (List.mem_append_right _ (List.mem_append_right _ h))))
          refine s1 p1819.z (okAs sp1819) rfl fun a1837 p1838 s1839 => ?_
          refine rN (thenN ?_)
          refine wp_seq ?_
          refine reg ?_
          have s1840 := p1838.o (p1819.o (p1801.o (p1773.o (p1768.o (p1761.o (p1753.o (p1749.o s1746 rfl) rfl) rfl) rfl) rfl) rfl) rfl) rfl
          refine s1 p1838.z (okMv s1840) rfl fun a1841 p1842 s1843 => ?_
          have s1844 := p1842.o (p1838.o (p1819.o (p1801.o (p1773.o (p1768.o (p1761.o (p1753.o (p1749.o (p1745.o (p1727.o (p1710.o (p1686.o (p1681.o (p1677.o (p1673.o (p1669.o (p1666.o (p1663.o (p1659.o (p1603.o (p1594.o (p1590.o (p1467.o (p1461.o s1459 rfl) rfl) rfl) rfl) rfl) rfl) rfl) rfl) rfl) rfl) rfl) rfl) rfl) rfl) rfl) rfl) rfl) rfl) rfl) rfl) rfl) rfl) rfl) rfl) rfl
          refine s1 p1842.z (okMv s1844) rfl fun a1845 p1846 s1847 => ?_
          have s1848 := p1846.o (p1842.o (p1838.o (p1819.o (p1801.o (p1773.o (p1768.o (p1761.o (p1753.o (p1749.o (p1745.o (p1727.o (p1710.o (p1686.o (p1681.o (p1677.o (p1673.o (p1669.o (p1666.o (p1663.o (p1659.o (p1603.o (p1594.o s1592 rfl) rfl) rfl) rfl) rfl) rfl) rfl) rfl) rfl) rfl) rfl) rfl) rfl) rfl) rfl) rfl) rfl) rfl) rfl) rfl) rfl) rfl) rfl
          refine s1 p1846.z (okMv s1848) rfl fun a1849 p1850 s1851 => ?_
          have s1852 := p1850.o (p1846.o (p1842.o (p1838.o (p1819.o (p1801.o s1799 rfl) rfl) rfl) rfl) rfl) rfl
          refine s1 p1850.z (okMv s1852) rfl fun a1853 p1854 s1855 => ?_
          have s1856 := p1854.o (p1850.o (p1846.o s1843 rfl) rfl) rfl
          have s1857 := p1854.o (p1850.o s1847 rfl) rfl
          have s1858 := p1854.o s1851 rfl
          have q1859 := q1815.tr (Tr.sub (tAp g1821 (fun _ h => (List.mem_append_left _ h)) f1822) (fun i h => (List.mem_append.1 h).elim (fun h => (List.mem_append_left _ h)) (fun h => (List.mem_append_right _ (List.mem_append_right _ h))))) g1821 n1797
          have q1860 : RdS KTIns (ownB v1817 ++ (oby1614 :: (ownB hpy1614_0 ++ (oby221 :: (ownB hpy221_0 ++ (oby1478 :: (ownB hpy1478_0 ++ (oby144 :: (ownB hpy144_0 ++ L))))))))) w1818 v1725 z1713 := q1859.rd (fun i h => (List.mem_append.1 h).elim (fun h => (List.mem_append_left _ h)) (fun h => (List.mem_append_right _ (List.mem_append_right _ h)))) (fun b hb => (not_app (n1833 _ hb) (not_cons (fun e => n1736 (e ▸ hb)) (not_app ((djs n1740) _ hb) (not_cons (fun e => n1734 (e ▸ hb)) (not_app ((djs n1738) _ hb) (not_cons (fun e => n1735 (e ▸ hb)) (not_app ((djs n1739) _ hb) (not_cons (fun e => n1733 (e ▸ hb)) (not_app ((djs n1737) _ hb) (nb1731 _ hb)))))))))))
          have cx1861 := cx1835.sub (fun i h => (List.mem_append.1 h).elim (fun h => (List.mem_append_left _ h)) (fun h => (List.mem_append_right _ (List.mem_append_right _ h))))
          have m1862 := (m1807.g g1821 n1789).g0 (G.refl [] w1818)
          have q1863 := (q1811.tr (Tr.sub (tAp g1821 (fun _ h => (List.mem_append_left _ h)) f1822) (fun i h => (List.mem_append.1 h).elim (fun h => (List.mem_append_left _ h)) (fun h => (List.mem_append_right _ (List.mem_append_right _ h))))) g1821 n1793).t0 ((Tr.refl (ownB v1817 ++ (ownB v1725 ++ (oby1614 :: (ownB hpy1614_0 ++ (oby221 :: (ownB hpy221_0 ++ (oby1478 :: (ownB hpy1478_0 ++ (oby144 :: (ownB hpy144_0 ++ L)))))))))) w1818).sub (fun i h => (List.mem_append.1 h).elim (fun h => (List.mem_append_left _ h)) (fun h => (List.mem_append_right _ (List.mem_append_right _ h))))) (G.refl [] w1818)
          have m1864 := (m1808.g g1821 n1790).g0 (G.refl [] w1818)
          have q1865 := (q1812.tr (Tr.sub (tAp g1821 (fun _ h => (List.mem_append_left _ h)) f1822) (fun i h => (List.mem_append.1 h).elim (fun h => (List.mem_append_left _ h)) (fun h => (List.mem_append_right _ (List.mem_append_right _ h))))) g1821 n1794).t0 ((Tr.refl (ownB v1817 ++ (ownB v1725 ++ (oby1614 :: (ownB hpy1614_0 ++ (oby221 :: (ownB hpy221_0 ++ (oby1478 :: (ownB hpy1478_0 ++ (oby144 :: (ownB hpy144_0 ++ L)))))))))) w1818).sub (fun i h => (List.mem_append.1 h).elim (fun h => (List.mem_append_left _ h)) (fun h => (List.mem_append_right _ (List.mem_append_right _ h))))) (G.refl [] w1818)
          have q1866 := q1806.mono ((Tr.sub (tAp g1821 (fun _ h => (List.mem_append_left _ h)) f1822) (fun i h => (List.mem_append.1 h).elim (fun h => (List.mem_append_left _ h)) (fun h => (List.mem_append_right _ (List.mem_append_right _ h))))).trans ((Tr.refl (ownB v1817 ++ (ownB v1725 ++ (oby1614 :: (ownB hpy1614_0 ++ (oby221 :: (ownB hpy221_0 ++ (oby1478 :: (ownB hpy1478_0 ++ (oby144 :: (ownB hpy144_0 ++ L)))))))))) w1818).sub (fun i h => (List.mem_append.1 h).elim (fun h => (List.mem_append_left _ h)) (fun h => (List.mem_append_right _ (List.mem_append_right _ h))))))
          have m1867 := (m1809.g g1821 n1791).g0 (G.refl [] w1818)
          have m1868 := (m1810.g g1821 n1792).g0 (G.refl [] w1818)
          obtain ⟨t1869, ht1870, h⟩ := Option.bind_eq_some_iff.1 h
          refine lS (oCall p1854.z Try.call10 (ag5 s1856 s1857 s1858 cst s1855) (c10 k (ownB v1817 ++ (oby1614 :: (ownB hpy1614_0 ++ (oby1478 :: (ownB hpy1478_0 ++ L))))) w1818 z1713 v1725 y144 oby144 hpy144_0 y221 oby221 hpy221_0 0 t1757 v1762 (fun i h => cx1861.lt i ((List.mem_cons.1 h).elim (fun e => e ▸ (List.mem_append_right _ (.tail _ (List.mem_append_right _ (.tail _ (List.mem_append_right _ (.tail _ (List.mem_append_right _ (.head _))))))))) (fun h => (List.mem_append.1 h).elim (fun h => (List.mem_append_right _ (.tail _ (List.mem_append_right _ (.tail _ (List.mem_append_right _ (.tail _ (List.mem_append_right _ (.tail _ (List.mem_append_left _ h)))))))))) (fun h => (List.mem_cons.1 h).elim (fun e => e ▸ (List.mem_append_right _ (.tail _ (List.mem_append_right _ (.head _))))) (fun h => (List.mem_append.1 h).elim (fun h => (List.mem_append_right _ (.tail _ (List.mem_append_right _ (.tail _ (List.mem_append_left _ h)))))) (fun h => (List.mem_append.1 h).elim (fun h => (List.mem_append_left _ h)) (fun h => (List.mem_cons.1 h).elim (fun e => e ▸ (List.mem_append_right _ (.head _))) (fun h => (List.mem_append.1 h).elim (fun h => (List.mem_append_right _ (.tail _ (List.mem_append_left _ h)))) (fun h => (List.mem_cons.1 h).elim (fun e => e ▸ (List.mem_append_right _ (.tail _ (List.mem_append_right _ (.tail _ (List.mem_append_right _ (.head _))))))) (fun h => (List.mem_append.1 h).elim (fun h => (List.mem_append_right _ (.tail _ (List.mem_append_right _ (.tail _ (List.mem_append_right _ (.tail _ (List.mem_append_left _ h)))))))) (fun h => (List.mem_append_right _ (.tail _ (List.mem_append_right _ (.tail _ (List.mem_append_right _ (.tail _ (List.mem_append_right _ (.tail _ (List.mem_append_right _ h)))))))))))))))))))) (sepC (show ∀ x ∈ [oby144], x ∉ (ownB hpy144_0 ++ (oby221 :: (ownB hpy221_0 ++ (ownB v1817 ++ (oby1614 :: (ownB hpy1614_0 ++ (oby1478 :: (ownB hpy1478_0 ++ L)))))))) from (in1 (na (D1426.bo (i := 0) (j := 1) rfl rfl rfl) (nc (D1426.bb (i := 0) (j := 2) rfl rfl rfl) (na (D1426.bo (i := 0) (j := 3) rfl rfl rfl) (na n1825 (nc (nmem (D1651.bl (i := 0) rfl) (.tail _ (List.mem_append_right _ (.head _)))).symm (na (fun hb => D1651.dl (i := 1) rfl _ hb (.tail _ (List.mem_append_right _ (.head _)))) (nc (D1582.bb (i := 0) (j := 2) rfl rfl rfl).symm (na (D1582.ob (i := 1) (j := 2) rfl rfl rfl) (fun h => Nat.lt_irrefl _ (Nat.lt_of_lt_of_le (hL _ h) (Nat.le_trans cx12.g.sz (f141 _ (List.mem_append_left _ (.head _)))))))))))))))) (sepC (show ∀ x ∈ ownB hpy144_0, x ∉ (oby221 :: (ownB hpy221_0 ++ (ownB v1817 ++ (oby1614 :: (ownB hpy1614_0 ++ (oby1478 :: (ownB hpy1478_0 ++ L))))))) from (fun x hx => (nc (nbo (D1426.ob (i := 1) (j := 2) rfl rfl rfl) hx) (na ((D1426.dj (i := 1) (j := 3) rfl rfl rfl) x hx) (na (n1829 x hx) (nc (nbo (fun hk => D1651.bl (i := 0) rfl (.tail _ (List.mem_append_right _ (.tail _ (List.mem_append_left _ hk))))) hx) (na ((djs (fun x hx hk => D1651.dl (i := 1) rfl x hx (.tail _ (List.mem_append_right _ (.tail _ (List.mem_append_left _ hk)))))) x hx) (nc (nbo (D1582.bo (i := 0) (j := 3) rfl rfl rfl) hx) (na ((djs (D1582.dj (i := 1) (j := 3) rfl rfl rfl)) x hx) ((fun x hx hl => D1426.dl (i := 1) rfl x hx hl) x hx)))))))))) (sepC (show ∀ x ∈ [oby221], x ∉ (ownB hpy221_0 ++ (ownB v1817 ++ (oby1614 :: (ownB hpy1614_0 ++ (oby1478 :: (ownB hpy1478_0 ++ L)))))) from (in1 (na (D1426.bo (i := 2) (j := 3) rfl rfl rfl) (na n1826 (nc (D1651.bb (i := 0) (j := 2) rfl rfl rfl).symm (na (D1651.ob (i := 1) (j := 2) rfl rfl rfl) (nc (nmem (D1582.bl (i := 0) rfl) (.head _)).symm (na (fun hb => D1582.dl (i := 1) rfl _ hb (.head _)) (fun h => Nat.lt_irrefl _ (Nat.lt_of_lt_of_le (hL _ h) (Nat.le_trans cx12.g.sz (f142 _ (List.mem_append_left _ (.head _)))))))))))))) (sepC (show ∀ x ∈ ownB hpy221_0, x ∉ (ownB v1817 ++ (oby1614 :: (ownB hpy1614_0 ++ (oby1478 :: (ownB hpy1478_0 ++ L))))) from (fun x hx => (na (n1830 x hx) (nc (nbo (D1651.bo (i := 0) (j := 3) rfl rfl rfl) hx) (na ((djs (D1651.dj (i := 1) (j := 3) rfl rfl rfl)) x hx) (nc (nbo (fun hk => D1582.bl (i := 0) rfl (.tail _ (List.mem_append_left _ hk))) hx) (na ((djs (fun x hx hk => D1582.dl (i := 1) rfl x hx (.tail _ (List.mem_append_left _ hk)))) x hx) ((fun x hx hl => D1426.dl (i := 3) rfl x hx hl) x hx)))))))) sepN)))) (q1860.mono ((Tr.refl _ _).sub (fun i h => (List.mem_cons.1 h).elim (fun e => e ▸ (List.mem_append_right _ (.tail _ (List.mem_append_right _ (.tail _ (List.mem_append_right _ (.tail _ (List.mem_append_right _ (.head _))))))))) (fun h => (List.mem_append.1 h).elim (fun h => (List.mem_append_right _ (.tail _ (List.mem_append_right _ (.tail _ (List.mem_append_right _ (.tail _ (List.mem_append_right _ (.tail _ (List.mem_append_left _ h)))))))))) (fun h => (List.mem_cons.1 h).elim (fun e => e ▸ (List.mem_append_right _ (.tail _ (List.mem_append_right _ (.head _))))) (fun h => (List.mem_append.1 h).elim (fun h => (List.mem_append_right _ (.tail _ (List.mem_append_right _ (.tail _ (List.mem_append_left _ h)))))) (fun h => (List.mem_append.1 h).elim (fun h => (List.mem_append_left _ h)) (fun h => (List.mem_cons.1 h).elim (fun e => e ▸ (List.mem_append_right _ (.head _))) (fun h => (List.mem_append.1 h).elim (fun h => (List.mem_append_right _ (.tail _ (List.mem_append_left _ h)))) (fun h => (List.mem_cons.1 h).elim (fun e => e ▸ (List.mem_append_right _ (.tail _ (List.mem_append_right _ (.tail _ (List.mem_append_right _ (.head _))))))) (fun h => (List.mem_append.1 h).elim (fun h => (List.mem_append_right _ (.tail _ (List.mem_append_right _ (.tail _ (List.mem_append_right _ (.tail _ (List.mem_append_left _ h)))))))) (fun h => (List.mem_append_right _ (.tail _ (List.mem_append_right _ (.tail _ (List.mem_append_right _ (.tail _ (List.mem_append_right _ (.tail _ (List.mem_append_right _ h))))))))))))))))))))) m1862 (q1863.sub (fun i h => (List.mem_cons.1 h).elim (fun e => e ▸ (List.mem_append_right _ (.tail _ (List.mem_append_right _ (.tail _ (List.mem_append_right _ (.tail _ (List.mem_append_right _ (.head _))))))))) (fun h => (List.mem_append.1 h).elim (fun h => (List.mem_append_right _ (.tail _ (List.mem_append_right _ (.tail _ (List.mem_append_right _ (.tail _ (List.mem_append_right _ (.tail _ (List.mem_append_left _ h)))))))))) (fun h => (List.mem_cons.1 h).elim (fun e => e ▸ (List.mem_append_right _ (.tail _ (List.mem_append_right _ (.head _))))) (fun h => (List.mem_append.1 h).elim (fun h => (List.mem_append_right _ (.tail _ (List.mem_append_right _ (.tail _ (List.mem_append_left _ h)))))) (fun h => (List.mem_append.1 h).elim (fun h => (List.mem_append_left _ h)) (fun h => (List.mem_cons.1 h).elim (fun e => e ▸ (List.mem_append_right _ (.head _))) (fun h => (List.mem_append.1 h).elim (fun h => (List.mem_append_right _ (.tail _ (List.mem_append_left _ h)))) (fun h => (List.mem_cons.1 h).elim (fun e => e ▸ (List.mem_append_right _ (.tail _ (List.mem_append_right _ (.tail _ (List.mem_append_right _ (.head _))))))) (fun h => (List.mem_append.1 h).elim (fun h => (List.mem_append_right _ (.tail _ (List.mem_append_right _ (.tail _ (List.mem_append_right _ (.tail _ (List.mem_append_left _ h)))))))) (fun h => (List.mem_append_right _ (.tail _ (List.mem_append_right _ (.tail _ (List.mem_append_right _ (.tail _ (List.mem_append_right _ (.tail _ (List.mem_append_right _ h)))))))))))))))))))) m1864 (q1865.sub (fun i h => (List.mem_cons.1 h).elim (fun e => e ▸ (List.mem_append_right _ (.tail _ (List.mem_append_right _ (.tail _ (List.mem_append_right _ (.tail _ (List.mem_append_right _ (.head _))))))))) (fun h => (List.mem_append.1 h).elim (fun h => (List.mem_append_right _ (.tail _ (List.mem_append_right _ (.tail _ (List.mem_append_right _ (.tail _ (List.mem_append_right _ (.tail _ (List.mem_append_left _ h)))))))))) (fun h => (List.mem_cons.1 h).elim (fun e => e ▸ (List.mem_append_right _ (.tail _ (List.mem_append_right _ (.head _))))) (fun h => (List.mem_append.1 h).elim (fun h => (List.mem_append_right _ (.tail _ (List.mem_append_right _ (.tail _ (List.mem_append_left _ h)))))) (fun h => (List.mem_append.1 h).elim (fun h => (List.mem_append_left _ h)) (fun h => (List.mem_cons.1 h).elim (fun e => e ▸ (List.mem_append_right _ (.head _))) (fun h => (List.mem_append.1 h).elim (fun h => (List.mem_append_right _ (.tail _ (List.mem_append_left _ h)))) (fun h => (List.mem_cons.1 h).elim (fun e => e ▸ (List.mem_append_right _ (.tail _ (List.mem_append_right _ (.tail _ (List.mem_append_right _ (.head _))))))) (fun h => (List.mem_append.1 h).elim (fun h => (List.mem_append_right _ (.tail _ (List.mem_append_right _ (.tail _ (List.mem_append_right _ (.tail _ (List.mem_append_left _ h)))))))) (fun h => (List.mem_append_right _ (.tail _ (List.mem_append_right _ (.tail _ (List.mem_append_right _ (.tail _ (List.mem_append_right _ (.tail _ (List.mem_append_right _ h)))))))))))))))))))) (q1866.mono ((Tr.refl _ _).sub (fun i h => (List.mem_cons.1 h).elim (fun e => e ▸ (List.mem_append_right _ (.tail _ (List.mem_append_right _ (.tail _ (List.mem_append_right _ (.tail _ (List.mem_append_right _ (.head _))))))))) (fun h => (List.mem_append.1 h).elim (fun h => (List.mem_append_right _ (.tail _ (List.mem_append_right _ (.tail _ (List.mem_append_right _ (.tail _ (List.mem_append_right _ (.tail _ (List.mem_append_left _ h)))))))))) (fun h => (List.mem_cons.1 h).elim (fun e => e ▸ (List.mem_append_right _ (.tail _ (List.mem_append_right _ (.head _))))) (fun h => (List.mem_append.1 h).elim (fun h => (List.mem_append_right _ (.tail _ (List.mem_append_right _ (.tail _ (List.mem_append_left _ h)))))) (fun h => (List.mem_append.1 h).elim (fun h => (List.mem_append_left _ h)) (fun h => (List.mem_cons.1 h).elim (fun e => e ▸ (List.mem_append_right _ (.head _))) (fun h => (List.mem_append.1 h).elim (fun h => (List.mem_append_right _ (.tail _ (List.mem_append_left _ h)))) (fun h => (List.mem_cons.1 h).elim (fun e => e ▸ (List.mem_append_right _ (.tail _ (List.mem_append_right _ (.tail _ (List.mem_append_right _ (.head _))))))) (fun h => (List.mem_append.1 h).elim (fun h => (List.mem_append_right _ (.tail _ (List.mem_append_right _ (.tail _ (List.mem_append_right _ (.tail _ (List.mem_append_left _ h)))))))) (fun h => (List.mem_append_right _ (.tail _ (List.mem_append_right _ (.tail _ (List.mem_append_right _ (.tail _ (List.mem_append_right _ (.tail _ (List.mem_append_right _ h))))))))))))))))))))) _ ht1870) rfl fun v1874 a1871 w1872 hp1875 p1873 sp1873 => ?_)
          obtain ⟨h1876, h1877, h1878, h1879, h1880, rfl, q1881, q1882, q1883, m1884, q1885, m1886, q1887, D1888, f1891, f1892, lt1889, g1890⟩ := hp1875
          have hs1893 : ∀ i ∈ (oby144 :: (ownB hpy144_0 ++ (oby221 :: (ownB hpy221_0 ++ [])))), i ∈ [] ∨ w.heap.size ≤ i := (memC (.inr (Nat.le_trans cx12.g.sz (f141 _ (List.mem_append_left _ (.head _))))) (memA (fun x hx => .inr (Nat.le_trans cx12.g.sz ((fun _ h => f141 _ (List.mem_append_right _ (List.mem_append_left _ h))) x hx))) (memC (.inr (Nat.le_trans cx12.g.sz (f142 _ (List.mem_append_left _ (.head _))))) (memA (fun x hx => .inr (Nat.le_trans cx12.g.sz ((fun _ h => f142 _ (List.mem_append_right _ (List.mem_append_left _ h))) x hx))) memN))))
          have hs1894 : ∀ i ∈ (oby144 :: (ownB hpy144_0 ++ (oby221 :: (ownB hpy221_0 ++ [])))), i ∈ (ownB v1817 ++ (oby1614 :: (ownB hpy1614_0 ++ (oby221 :: (ownB hpy221_0 ++ (oby1478 :: (ownB hpy1478_0 ++ (oby144 :: (ownB hpy144_0 ++ L))))))))) := (memC (List.mem_append_right _ (.tail _ (List.mem_append_right _ (.tail _ (List.mem_append_right _ (.tail _ (List.mem_append_right _ (.head _)))))))) (memA (fun _ h => (List.mem_append_right _ (.tail _ (List.mem_append_right _ (.tail _ (List.mem_append_right _ (.tail _ (List.mem_append_right _ (.tail _ (List.mem_append_left _ h)))))))))) (memC (List.mem_append_right _ (.tail _ (List.mem_append_right _ (.head _)))) (memA (fun _ h => (List.mem_append_right _ (.tail _ (List.mem_append_right _ (.tail _ (List.mem_append_left _ h)))))) memN))))
          have t1895 : Tr (ownB v1817 ++ (oby1614 :: (ownB hpy1614_0 ++ (oby221 :: (ownB hpy221_0 ++ (oby1478 :: (ownB hpy1478_0 ++ (oby144 :: (ownB hpy144_0 ++ L))))))))) w1818 (oby144 :: (ownB h1879 ++ (oby221 :: (ownB h1880 ++ (ownB v1817 ++ (oby1614 :: (ownB hpy1614_0 ++ (oby1478 :: (ownB hpy1478_0 ++ L))))))))) w1872 := G.tC g1890 hs1894 (memC (.inl (List.mem_append_right _ (.tail _ (List.mem_append_right _ (.tail _ (List.mem_append_right _ (.tail _ (List.mem_append_right _ (.head _))))))))) (memA (frL f1891 hs1894) (memC (.inl (List.mem_append_right _ (.tail _ (List.mem_append_right _ (.head _))))) (memA (frL f1892 hs1894) (fun i h => .inl ((List.mem_append.1 h).elim (fun h => (List.mem_append_left _ h)) (fun h => (List.mem_cons.1 h).elim (fun e => e ▸ (List.mem_append_right _ (.head _))) (fun h => (List.mem_append.1 h).elim (fun h => (List.mem_append_right _ (.tail _ (List.mem_append_left _ h)))) (fun h => (List.mem_cons.1 h).elim (fun e => e ▸ (List.mem_append_right _ (.tail _ (List.mem_append_right _ (.tail _ (List.mem_append_right _ (.head _))))))) (fun h => (List.mem_append.1 h).elim (fun h => (List.mem_append_right _ (.tail _ (List.mem_append_right _ (.tail _ (List.mem_append_right _ (.tail _ (List.mem_append_left _ h)))))))) (fun h => (List.mem_append_right _ (.tail _ (List.mem_append_right _ (.tail _ (List.mem_append_right _ (.tail _ (List.mem_append_right _ (.tail _ (List.mem_append_right _ h))))))))))))))))))))
          have cx1896 := cx1861.gs g1890 hs1893 lt1889
          refine s1 p1873.z (okMv sp1873) rfl fun a1897 p1898 s1899 => ?_
          refine s1 p1898.z (okExt (vs := [_, _, _, _, _]) s1899 rfl) rfl fun a1900 p1901 s1902 => ?_
          have s1903 := p1901.o s1899 rfl
          refine s1 p1901.z (okExt (vs := [_, _, _, _, _]) s1903 rfl) rfl fun a1904 p1905 s1906 => ?_
          have s1907 := p1905.o s1903 rfl
          refine s1 p1905.z (okExt (vs := [_, _, _, _, _]) s1907 rfl) rfl fun a1908 p1909 s1910 => ?_
          have s1911 := p1909.o s1907 rfl
          refine s1 p1909.z (okExt (vs := [_, _, _, _, _]) s1911 rfl) rfl fun a1912 p1913 s1914 => ?_
          have s1915 := p1913.o s1911 rfl
          refine s1 p1913.z (okExt (vs := [_, _, _, _, _]) s1915 rfl) rfl fun a1916 p1917 s1918 => ?_
          have s1919 := p1917.o (p1913.o (p1909.o (p1905.o s1902 rfl) rfl) rfl) rfl
          refine s1 p1917.z (okAs s1919) rfl fun a1920 p1921 s1922 => ?_
          have s1923 := p1921.o (p1917.o (p1913.o (p1909.o s1906 rfl) rfl) rfl) rfl
          refine s1 p1921.z (okAs s1923) rfl fun a1924 p1925 s1926 => ?_
          have s1927 := p1925.o (p1921.o (p1917.o (p1913.o s1910 rfl) rfl) rfl) rfl
          refine s1 p1925.z (okAs s1927) rfl fun a1928 p1929 s1930 => ?_
          have s1931 := p1929.o (p1925.o (p1921.o (p1917.o s1914 rfl) rfl) rfl) rfl
          refine s1 p1929.z (okAs s1931) rfl fun a1932 p1933 s1934 => ?_
          have s1935 := p1933.o (p1929.o (p1925.o (p1921.o s1918 rfl) rfl) rfl) rfl
          refine s1 p1933.z (okAs s1935) rfl fun a1936 p1937 s1938 => ?_
          refine rN (thenN ?_)
          refine wp_seq ?_
          refine wp_seq ?_
          refine reg ?_
          refine s1 p1937.z (okAs cst) rfl fun a1939 p1940 s1941 => ?_
          refine rN (thenN ?_)
          refine wp_block ?_
          obtain ⟨o1943, ho1944, h⟩ := Option.bind_eq_some_iff.1 h
          have s1946 := p1940.o (p1937.o (p1933.o (p1929.o (p1925.o (p1921.o (p1917.o (p1913.o (p1909.o (p1905.o (p1901.o (p1898.o (p1873.o (p1854.o (p1850.o (p1846.o (p1842.o (p1838.o (p1819.o (p1801.o (p1773.o (p1768.o (p1761.o (p1753.o (p1749.o (p1745.o (p1727.o (p1710.o s1708 rfl) rfl) rfl) rfl) rfl) rfl) rfl) rfl) rfl) rfl) rfl) rfl) rfl) rfl) rfl) rfl) rfl) rfl) rfl) rfl) rfl) rfl) rfl) rfl) rfl) rfl) rfl) rfl
          have s1947 := p1940.o (p1937.o (p1933.o (p1929.o (p1925.o (p1921.o (p1917.o (p1913.o (p1909.o (p1905.o (p1901.o (p1898.o (p1873.o (p1854.o (p1850.o (p1846.o (p1842.o (p1838.o (p1819.o (p1801.o (p1773.o (p1768.o (p1761.o (p1753.o (p1749.o (p1745.o (p1727.o (p1710.o (p1686.o (p1681.o (p1677.o (p1673.o (p1669.o (p1666.o (p1663.o (p1659.o (p1603.o (p1594.o (p1590.o (p1467.o (p1461.o (p1457.o (p1454.o (p1450.o (p1446.o (p1442.o (p1438.o (p1435.o (p129.o (p122.o s110 rfl) rfl) rfl) rfl) rfl) rfl) rfl) rfl) rfl) rfl) rfl) rfl) rfl) rfl) rfl) rfl) rfl) rfl) rfl) rfl) rfl) rfl) rfl) rfl) rfl) rfl) rfl) rfl) rfl) rfl) rfl) rfl) rfl) rfl) rfl) rfl) rfl) rfl) rfl) rfl) rfl) rfl) rfl) rfl) rfl) rfl) rfl) rfl) rfl) rfl
          have s1948 := p1940.o (p1937.o (p1933.o (p1929.o (p1925.o (p1921.o (p1917.o (p1913.o (p1909.o (p1905.o (p1901.o (p1898.o (p1873.o (p1854.o (p1850.o (p1846.o (p1842.o (p1838.o (p1819.o (p1801.o (p1773.o (p1768.o (p1761.o (p1753.o (p1749.o (p1745.o (p1727.o (p1710.o (p1686.o (p1681.o (p1677.o (p1673.o (p1669.o (p1666.o (p1663.o (p1659.o (p1603.o (p1594.o (p1590.o (p1467.o (p1461.o (p1457.o (p1454.o (p1450.o (p1446.o (p1442.o (p1438.o (p1435.o (p129.o (p122.o s111 rfl) rfl) rfl) rfl) rfl) rfl) rfl) rfl) rfl) rfl) rfl) rfl) rfl) rfl) rfl) rfl) rfl) rfl) rfl) rfl) rfl) rfl) rfl) rfl) rfl) rfl) rfl) rfl) rfl) rfl) rfl) rfl) rfl) rfl) rfl) rfl) rfl) rfl) rfl) rfl) rfl) rfl) rfl) rfl) rfl) rfl) rfl) rfl) rfl) rfl
          have s1949 := p1940.o (p1937.o (p1933.o (p1929.o (p1925.o (p1921.o (p1917.o (p1913.o (p1909.o (p1905.o (p1901.o (p1898.o (p1873.o (p1854.o (p1850.o (p1846.o s1844 rfl) rfl) rfl) rfl) rfl) rfl) rfl) rfl) rfl) rfl) rfl) rfl) rfl) rfl) rfl) rfl
          have s1950 := p1940.o (p1937.o (p1933.o (p1929.o (p1925.o (p1921.o (p1917.o (p1913.o (p1909.o (p1905.o (p1901.o (p1898.o (p1873.o (p1854.o (p1850.o (p1846.o (p1842.o (p1838.o (p1819.o (p1801.o (p1773.o (p1768.o (p1761.o (p1753.o (p1749.o (p1745.o (p1727.o (p1710.o (p1686.o (p1681.o (p1677.o (p1673.o (p1669.o (p1666.o (p1663.o s1661 rfl) rfl) rfl) rfl) rfl) rfl) rfl) rfl) rfl) rfl) rfl) rfl) rfl) rfl) rfl) rfl) rfl) rfl) rfl) rfl) rfl) rfl) rfl) rfl) rfl) rfl) rfl) rfl) rfl) rfl) rfl) rfl) rfl) rfl) rfl
          have s1951 := p1940.o (p1937.o (p1933.o (p1929.o (p1925.o (p1921.o (p1917.o (p1913.o (p1909.o (p1905.o (p1901.o (p1898.o (p1873.o (p1854.o (p1850.o (p1846.o (p1842.o (p1838.o (p1819.o (p1801.o (p1773.o (p1768.o (p1761.o (p1753.o (p1749.o (p1745.o (p1727.o (p1710.o (p1686.o (p1681.o (p1677.o (p1673.o s1671 rfl) rfl) rfl) rfl) rfl) rfl) rfl) rfl) rfl) rfl) rfl) rfl) rfl) rfl) rfl) rfl) rfl) rfl) rfl) rfl) rfl) rfl) rfl) rfl) rfl) rfl) rfl) rfl) rfl) rfl) rfl) rfl
          have s1952 := p1940.o (p1937.o (p1933.o (p1929.o (p1925.o (p1921.o (p1917.o (p1913.o (p1909.o (p1905.o (p1901.o (p1898.o (p1873.o (p1854.o (p1850.o (p1846.o (p1842.o s1840 rfl) rfl) rfl) rfl) rfl) rfl) rfl) rfl) rfl) rfl) rfl) rfl) rfl) rfl) rfl) rfl) rfl
          have s1953 := p1940.o (p1937.o (p1933.o (p1929.o (p1925.o (p1921.o (p1917.o (p1913.o (p1909.o (p1905.o (p1901.o (p1898.o (p1873.o (p1854.o s1852 rfl) rfl) rfl) rfl) rfl) rfl) rfl) rfl) rfl) rfl) rfl) rfl) rfl) rfl
          have s1954 := p1940.o (p1937.o (p1933.o (p1929.o (p1925.o (p1921.o (p1917.o (p1913.o (p1909.o (p1905.o (p1901.o (p1898.o (p1873.o (p1854.o (p1850.o (p1846.o (p1842.o s1839 rfl) rfl) rfl) rfl) rfl) rfl) rfl) rfl) rfl) rfl) rfl) rfl) rfl) rfl) rfl) rfl) rfl
          have s1955 := p1940.o (p1937.o (p1933.o (p1929.o (p1925.o s1922 rfl) rfl) rfl) rfl) rfl
          have s1956 := p1940.o (p1937.o (p1933.o (p1929.o s1926 rfl) rfl) rfl) rfl
          have s1957 := p1940.o (p1937.o (p1933.o s1930 rfl) rfl) rfl
          have s1958 := p1940.o (p1937.o s1934 rfl) rfl
          have s1959 := p1940.o s1938 rfl
          have m1960 := m1867.g g1890 (nc (D1582.bb (i := 0) (j := 2) rfl rfl rfl) (na (D1582.bo (i := 0) (j := 3) rfl rfl rfl) (nc (nmem (D1582.bl (i := 0) rfl) (.head _)) (na (fun hk => D1582.bl (i := 0) rfl (.tail _ (List.mem_append_left _ hk))) not_nil))))
          have m1961 := m1868.g g1890 (nc (nmem (D1651.bl (i := 0) rfl) (.tail _ (List.mem_append_right _ (.head _)))) (na (fun hk => D1651.bl (i := 0) rfl (.tail _ (List.mem_append_right _ (.tail _ (List.mem_append_left _ hk))))) (nc (D1651.bb (i := 0) (j := 2) rfl rfl rfl) (na (D1651.bo (i := 0) (j := 3) rfl rfl rfl) not_nil))))
          have q1962 := q1715.mono ((((((Tr.sub (tAp g1729 (fun _ h => (List.mem_append_left _ h)) f1730) (fun i h => (List.mem_append.1 h).elim (fun h => (List.mem_append_left _ h)) (fun h => (List.mem_append_right _ (List.mem_append_right _ h))))).trans g1765.t0).trans (tAp g1775 (fun _ h => nilO h) f1786)).trans (Tr.sub (tAp g1821 (fun _ h => (List.mem_append_left _ h)) f1822) (fun i h => (List.mem_append.1 h).elim (fun h => (List.mem_append_left _ h)) (fun h => (List.mem_append_right _ (List.mem_append_right _ h)))))).trans ((Tr.refl (ownB v1817 ++ (ownB v1725 ++ (oby1614 :: (ownB hpy1614_0 ++ (oby221 :: (ownB hpy221_0 ++ (oby1478 :: (ownB hpy1478_0 ++ (oby144 :: (ownB hpy144_0 ++ L)))))))))) w1818).sub (fun i h => (List.mem_append.1 h).elim (fun h => (List.mem_append_left _ h)) (fun h => (List.mem_append_right _ (List.mem_append_right _ h)))))).trans t1895)
          have q1963 := q1860.mono t1895
          have q1964 := q1866.mono t1895
          have q1965 := (q1836.t0 ((Tr.refl (ownB v1817 ++ (ownB v1725 ++ (oby1614 :: (ownB hpy1614_0 ++ (oby221 :: (ownB hpy221_0 ++ (oby1478 :: (ownB hpy1478_0 ++ (oby144 :: (ownB hpy144_0 ++ L)))))))))) w1818).sub (fun i h => (List.mem_append.1 h).elim (fun h => (List.mem_append_left _ h)) (fun h => (List.mem_append_right _ (List.mem_append_right _ h))))) (G.refl [] w1818)).tr t1895 g1890 (fun x hx => (nc (nbo n1825 hx) (na ((djs n1829) x hx) (nc (nbo n1826 hx) (na ((djs n1830) x hx) not_nil)))))
          have q1966 := ((q1813.tr (Tr.sub (tAp g1821 (fun _ h => (List.mem_append_left _ h)) f1822) (fun i h => (List.mem_append.1 h).elim (fun h => (List.mem_append_left _ h)) (fun h => (List.mem_append_right _ (List.mem_append_right _ h))))) g1821 n1795).t0 ((Tr.refl (ownB v1817 ++ (ownB v1725 ++ (oby1614 :: (ownB hpy1614_0 ++ (oby221 :: (ownB hpy221_0 ++ (oby1478 :: (ownB hpy1478_0 ++ (oby144 :: (ownB hpy144_0 ++ L)))))))))) w1818).sub (fun i h => (List.mem_append.1 h).elim (fun h => (List.mem_append_left _ h)) (fun h => (List.mem_append_right _ (List.mem_append_right _ h))))) (G.refl [] w1818)).tr t1895 g1890 (fun x hx => (nc (nbo (D1582.ob (i := 1) (j := 2) rfl rfl rfl) hx) (na ((D1582.dj (i := 1) (j := 3) rfl rfl rfl) x hx) (nc (nbo (fun hb => D1582.dl (i := 1) rfl _ hb (.head _)) hx) (na ((fun x hx hk => D1582.dl (i := 1) rfl x hx (.tail _ (List.mem_append_left _ hk))) x hx) not_nil)))))
          have q1967 := ((q1814.tr (Tr.sub (tAp g1821 (fun _ h => (List.mem_append_left _ h)) f1822) (fun i h => (List.mem_append.1 h).elim (fun h => (List.mem_append_left _ h)) (fun h => (List.mem_append_right _ (List.mem_append_right _ h))))) g1821 n1796).t0 ((Tr.refl (ownB v1817 ++ (ownB v1725 ++ (oby1614 :: (ownB hpy1614_0 ++ (oby221 :: (ownB hpy221_0 ++ (oby1478 :: (ownB hpy1478_0 ++ (oby144 :: (ownB hpy144_0 ++ L)))))))))) w1818).sub (fun i h => (List.mem_append.1 h).elim (fun h => (List.mem_append_left _ h)) (fun h => (List.mem_append_right _ (List.mem_append_right _ h))))) (G.refl [] w1818)).tr t1895 g1890 (fun x hx => (nc (nbo (fun hb => D1651.dl (i := 1) rfl _ hb (.tail _ (List.mem_append_right _ (.head _)))) hx) (na ((fun x hx hk => D1651.dl (i := 1) rfl x hx (.tail _ (List.mem_append_right _ (.tail _ (List.mem_append_left _ hk))))) x hx) (nc (nbo (D1651.ob (i := 1) (j := 2) rfl rfl rfl) hx) (na ((D1651.dj (i := 1) (j := 3) rfl rfl rfl) x hx) not_nil)))))
          refine loopX (I := (fun k' a' w' => ∃ i1942, Z Try.f6.ntmps a' ∧ a'.eval (.tmp 0) = h0 ∧ a'.eval (.tmp 8) = .bool false ∧ a'.eval (.tmp 9) = .bool t4 ∧ a'.eval (.tmp 10) = ptr oby144 0 ∧ a'.eval (.tmp 12) = ptr oby1478 0 ∧ a'.eval (.tmp 13) = ptr oby1614 0 ∧ a'.eval (.tmp 14) = v1725 ∧ a'.eval (.tmp 15) = v1762 ∧ a'.eval (.tmp 16) = v1817 ∧ a'.eval (.tmp 17) = h1876 ∧ a'.eval (.tmp 18) = h1877 ∧ a'.eval (.tmp 19) = .int .i64 t1869.2.2.1 ∧ a'.eval (.tmp 20) = .int .i64 t1869.2.2.2.1 ∧ a'.eval (.tmp 21) = h1878 ∧ a'.eval (.tmp 22) = .int .i64 i1942 ∧ Bk w' oby144 (Tcell_Arena.C t1869.2.2.2.2.2.1 h1879) 72 ∧ Bk w' oby221 (Tpermit_Table.C t1869.2.2.2.2.2.2 h1880) 78 ∧ Bk w' oby1478 (Tcell_Arena.C y1478 hpy1478_0) 72 ∧ Bk w' oby1614 (Tpermit_Table.C y1614 hpy1614_0) 78 ∧ RdS KTIns (oby144 :: (ownB h1879 ++ (oby221 :: (ownB h1880 ++ (ownB v1817 ++ (oby1614 :: (ownB hpy1614_0 ++ (oby1478 :: (ownB hpy1478_0 ++ L))))))))) w' h0 x0 ∧ RdS KTIns (oby144 :: (ownB h1879 ++ (oby221 :: (ownB h1880 ++ (ownB v1817 ++ (oby1614 :: (ownB hpy1614_0 ++ (oby1478 :: (ownB hpy1478_0 ++ L))))))))) w' v1725 z1713 ∧ RdS KTFrame (oby144 :: (ownB h1879 ++ (oby221 :: (ownB h1880 ++ (ownB v1817 ++ (oby1614 :: (ownB hpy1614_0 ++ (oby1478 :: (ownB hpy1478_0 ++ L))))))))) w' v1762 t1757 ∧ OwnS KTFrame 66 (oby144 :: (ownB h1879 ++ (oby221 :: (ownB h1880 ++ (ownB v1817 ++ (oby1614 :: (ownB hpy1614_0 ++ (oby1478 :: (ownB hpy1478_0 ++ L))))))))) w' v1817 z1804 ∧ RdS KTFrame (oby144 :: (ownB h1879 ++ (oby221 :: (ownB h1880 ++ (ownB v1817 ++ (oby1614 :: (ownB hpy1614_0 ++ (oby1478 :: (ownB hpy1478_0 ++ L))))))))) w' h1876 t1869.1 ∧ RdS KTNote (oby144 :: (ownB h1879 ++ (oby221 :: (ownB h1880 ++ (ownB v1817 ++ (oby1614 :: (ownB hpy1614_0 ++ (oby1478 :: (ownB hpy1478_0 ++ L))))))))) w' h1877 t1869.2.1 ∧ ErG 36 0 (oby144 :: (ownB h1879 ++ (oby221 :: (ownB h1880 ++ (ownB v1817 ++ (oby1614 :: (ownB hpy1614_0 ++ (oby1478 :: (ownB hpy1478_0 ++ L))))))))) w' h1878 t1869.2.2.2.2.1 ∧ OwnS (KInt .i64) 2 (oby144 :: (ownB h1879 ++ (oby221 :: (ownB h1880 ++ (ownB v1817 ++ (oby1614 :: (ownB hpy1614_0 ++ (oby1478 :: (ownB hpy1478_0 ++ L))))))))) w' h1879 t1869.2.2.2.2.2.1.l ∧ OwnS KTPark 59 (oby144 :: (ownB h1879 ++ (oby221 :: (ownB h1880 ++ (ownB v1817 ++ (oby1614 :: (ownB hpy1614_0 ++ (oby1478 :: (ownB hpy1478_0 ++ L))))))))) w' h1880 t1869.2.2.2.2.2.2.l ∧ OwnS (KInt .i64) 2 (oby144 :: (ownB h1879 ++ (oby221 :: (ownB h1880 ++ (ownB v1817 ++ (oby1614 :: (ownB hpy1614_0 ++ (oby1478 :: (ownB hpy1478_0 ++ L))))))))) w' hpy1478_0 y1478.l ∧ OwnS KTPark 59 (oby144 :: (ownB h1879 ++ (oby221 :: (ownB h1880 ++ (ownB v1817 ++ (oby1614 :: (ownB hpy1614_0 ++ (oby1478 :: (ownB hpy1478_0 ++ L))))))))) w' hpy1614_0 y1614.l ∧ Cx [] w (oby144 :: (ownB h1879 ++ (oby221 :: (ownB h1880 ++ (ownB v1817 ++ (oby1614 :: (ownB hpy1614_0 ++ (oby1478 :: (ownB hpy1478_0 ++ L))))))))) w' ∧ tholelaw09_MicroAgain.l1 x0 z1713 k' i1942 = some o1943)) 0 (fun a' w' => ∃ g1945, o1943 = .go g1945 ∧ Z Try.f6.ntmps a' ∧ a'.eval (.tmp 0) = h0 ∧ a'.eval (.tmp 8) = .bool false ∧ a'.eval (.tmp 9) = .bool t4 ∧ a'.eval (.tmp 10) = ptr oby144 0 ∧ a'.eval (.tmp 12) = ptr oby1478 0 ∧ a'.eval (.tmp 13) = ptr oby1614 0 ∧ a'.eval (.tmp 15) = v1762 ∧ a'.eval (.tmp 16) = v1817 ∧ a'.eval (.tmp 17) = h1876 ∧ a'.eval (.tmp 18) = h1877 ∧ a'.eval (.tmp 19) = .int .i64 t1869.2.2.1 ∧ a'.eval (.tmp 20) = .int .i64 t1869.2.2.2.1 ∧ a'.eval (.tmp 21) = h1878 ∧ Bk w' oby144 (Tcell_Arena.C t1869.2.2.2.2.2.1 h1879) 72 ∧ Bk w' oby221 (Tpermit_Table.C t1869.2.2.2.2.2.2 h1880) 78 ∧ Bk w' oby1478 (Tcell_Arena.C y1478 hpy1478_0) 72 ∧ Bk w' oby1614 (Tpermit_Table.C y1614 hpy1614_0) 78 ∧ RdS KTIns (oby144 :: (ownB h1879 ++ (oby221 :: (ownB h1880 ++ (ownB v1817 ++ (oby1614 :: (ownB hpy1614_0 ++ (oby1478 :: (ownB hpy1478_0 ++ L))))))))) w' h0 x0 ∧ RdS KTFrame (oby144 :: (ownB h1879 ++ (oby221 :: (ownB h1880 ++ (ownB v1817 ++ (oby1614 :: (ownB hpy1614_0 ++ (oby1478 :: (ownB hpy1478_0 ++ L))))))))) w' v1762 t1757 ∧ OwnS KTFrame 66 (oby144 :: (ownB h1879 ++ (oby221 :: (ownB h1880 ++ (ownB v1817 ++ (oby1614 :: (ownB hpy1614_0 ++ (oby1478 :: (ownB hpy1478_0 ++ L))))))))) w' v1817 z1804 ∧ RdS KTFrame (oby144 :: (ownB h1879 ++ (oby221 :: (ownB h1880 ++ (ownB v1817 ++ (oby1614 :: (ownB hpy1614_0 ++ (oby1478 :: (ownB hpy1478_0 ++ L))))))))) w' h1876 t1869.1 ∧ RdS KTNote (oby144 :: (ownB h1879 ++ (oby221 :: (ownB h1880 ++ (ownB v1817 ++ (oby1614 :: (ownB hpy1614_0 ++ (oby1478 :: (ownB hpy1478_0 ++ L))))))))) w' h1877 t1869.2.1 ∧ ErG 36 0 (oby144 :: (ownB h1879 ++ (oby221 :: (ownB h1880 ++ (ownB v1817 ++ (oby1614 :: (ownB hpy1614_0 ++ (oby1478 :: (ownB hpy1478_0 ++ L))))))))) w' h1878 t1869.2.2.2.2.1 ∧ OwnS (KInt .i64) 2 (oby144 :: (ownB h1879 ++ (oby221 :: (ownB h1880 ++ (ownB v1817 ++ (oby1614 :: (ownB hpy1614_0 ++ (oby1478 :: (ownB hpy1478_0 ++ L))))))))) w' h1879 t1869.2.2.2.2.2.1.l ∧ OwnS KTPark 59 (oby144 :: (ownB h1879 ++ (oby221 :: (ownB h1880 ++ (ownB v1817 ++ (oby1614 :: (ownB hpy1614_0 ++ (oby1478 :: (ownB hpy1478_0 ++ L))))))))) w' h1880 t1869.2.2.2.2.2.2.l ∧ OwnS (KInt .i64) 2 (oby144 :: (ownB h1879 ++ (oby221 :: (ownB h1880 ++ (ownB v1817 ++ (oby1614 :: (ownB hpy1614_0 ++ (oby1478 :: (ownB hpy1478_0 ++ L))))))))) w' hpy1478_0 y1478.l ∧ OwnS KTPark 59 (oby144 :: (ownB h1879 ++ (oby221 :: (ownB h1880 ++ (ownB v1817 ++ (oby1614 :: (ownB hpy1614_0 ++ (oby1478 :: (ownB hpy1478_0 ++ L))))))))) w' hpy1614_0 y1614.l ∧ Cx [] w (oby144 :: (ownB h1879 ++ (oby221 :: (ownB h1880 ++ (ownB v1817 ++ (oby1614 :: (ownB hpy1614_0 ++ (oby1478 :: (ownB hpy1478_0 ++ L))))))))) w') ⟨0, p1940.z, s1946, s1947, s1948, s1949, s1950, s1951, s1952, s1953, s1954, s1955, s1956, s1957, s1958, s1959, s1941, m1884, m1886, m1960, m1961, q1962, q1963, q1964, q1965, q1881, q1882, q1883, q1885, q1887, q1966, q1967, cx1896, ho1944⟩ ?_ ?_
          · have oh2003 := h; clear h ho1944
            rintro k1968 a1969 w1970 ⟨i1942, z1971, s1972, s1973, s1974, s1975, s1976, s1977, s1978, s1979, s1980, s1981, s1982, s1983, s1984, s1985, s1986, m1987, m1988, m1989, m1990, q1991, q1992, q1993, q1994, q1995, q1996, q1997, q1998, q1999, q2000, q2001, cx2002, h⟩
            obtain _ | k := k1968
            case zero => cases h
            rw [tholelaw09_MicroAgain.l1] at h
            refine wp_seq ?_
            refine wp_seq ?_
            refine reg ?_
            refine s1 z1971 (okMv s1986) rfl fun a2004 p2005 s2006 => ?_
            have s2007 := p2005.o s1972 rfl
            refine s1 p2005.z (okMv s2007) rfl fun a2008 p2009 s2010 => ?_
            refine s1 p2009.z (okLenR Try.underlying22 s2010 q1991) rfl fun a2011 p2012 s2013 => ?_
            have s2014 := p2012.o (p2009.o s2006 rfl) rfl
            refine s1 p2012.z (okLt s2014 s2013) rfl fun a2015 p2016 s2017 => ?_
            refine rN (thenN ?_)
            have s2018 := p2016.o (p2012.o (p2009.o s2007 rfl) rfl) rfl
            have s2019 := p2016.o s2014 rfl
            have s2020 := p2016.o (p2012.o s2010 rfl) rfl
            have s2021 := p2016.o s2013 rfl
            have pg2022 : Pg _ [80, 81, 82, 83] _ _ := (((((Pg.refl z1971).st p2005 rfl).st p2009 rfl).st p2012 rfl).st p2016 rfl)
            refine cnd s2017 (fun hb2023 => ?_) (fun hb2023 => ?_)
            · replace h := (ifP hb2023).symm.trans h
              refine wp_skip (thenN ?_)
              refine wp_seq ?_
              refine wp_block ?_
              refine wp_seq ?_
              refine regS mixed (by kernel_rfl) ?_
              have g2024 := G.drew w1970
              have cx2025 := cx2002.ca g2024
              have s2026 := pg2022.o s1978 rfl
              refine t1 pg2022.z (okMv s2026) rfl fun a2027 p2028 s2029 => ?_
              have s2030 := p2028.o (pg2022.o s1986 rfl) rfl
              refine t1 p2028.z (okMv s2030) rfl fun a2031 p2032 s2033 => ?_
              have s2034 := p2032.o s2029 rfl
              have q2035 := q1992.mono g2024.t0
              obtain ⟨y2036, hy2037, h⟩ := Option.bind_eq_some_iff.1 h
              obtain ⟨b2038, o2039, cs2040, r2042, e2043, nb2044, k2041⟩ := q2035.at_ hy2037
              obtain rfl := r2042
              refine t1 p2032.z (k2041 Try.underlying22 Try.sizeOf40 s2034 s2033 _) rfl fun a2045 p2046 s2047 => ?_
              refine t1 p2046.z (okLdA ag40 s2047 e2043 rfl rfl whole) rfl fun a2048 p2049 s2050 => ?_
              have s2051 := p2049.o (p2046.o (p2032.o (p2028.o s2018 rfl) rfl) rfl) rfl
              refine t1 p2049.z (okMv s2051) rfl fun a2052 p2053 s2054 => ?_
              have s2055 := p2053.o (p2049.o (p2046.o (p2032.o s2030 rfl) rfl) rfl) rfl
              refine t1 p2053.z (okMv s2055) rfl fun a2056 p2057 s2058 => ?_
              have s2059 := p2057.o s2054 rfl
              have q2060 := q1991.mono g2024.t0
              obtain ⟨y2061, hy2062, h⟩ := Option.bind_eq_some_iff.1 h
              obtain ⟨b2063, o2064, cs2065, r2067, e2068, nb2069, k2066⟩ := q2060.at_ hy2062
              obtain rfl := r2067
              refine t1 p2057.z (k2066 Try.underlying22 Try.sizeOf40 s2059 s2058 _) rfl fun a2070 p2071 s2072 => ?_
              refine t1 p2071.z (okLdA ag40 s2072 e2068 rfl rfl whole) rfl fun a2073 p2074 s2075 => ?_
              have s2076 := p2074.o (p2071.o (p2057.o (p2053.o s2050 rfl) rfl) rfl) rfl
              refine t1 p2074.z (okSNe Try.eqGuardType40 s2076 s2075 (fun w => eq40 9998 w y2036 y2061)) rfl fun a2077 p2078 s2079 => ?_
              refine tN (thenN ?_)
              have s2080 := p2078.o (p2074.o (p2071.o (p2057.o (p2053.o s2051 rfl) rfl) rfl) rfl) rfl
              have s2081 := p2078.o (p2074.o (p2071.o (p2057.o s2055 rfl) rfl) rfl) rfl
              have s2082 := p2078.o (p2074.o (p2071.o (p2057.o (p2053.o (p2049.o (p2046.o s2034 rfl) rfl) rfl) rfl) rfl) rfl) rfl
              have s2083 := p2078.o (p2074.o (p2071.o (p2057.o (p2053.o (p2049.o (p2046.o s2033 rfl) rfl) rfl) rfl) rfl) rfl) rfl
              have s2084 := p2078.o (p2074.o (p2071.o (p2057.o (p2053.o (p2049.o s2047 rfl) rfl) rfl) rfl) rfl) rfl
              have s2085 := p2078.o s2076 rfl
              have s2086 := p2078.o (p2074.o (p2071.o s2059 rfl) rfl) rfl
              have s2087 := p2078.o (p2074.o (p2071.o s2058 rfl) rfl) rfl
              have s2088 := p2078.o (p2074.o s2072 rfl) rfl
              have s2089 := p2078.o s2075 rfl
              have pg2090 : Pg _ [86, 87, 88, 89, 90, 91, 92, 93, 94] _ _ := ((((((((((Pg.refl pg2022.z).st p2028 rfl).st p2032 rfl).st p2046 rfl).st p2049 rfl).st p2053 rfl).st p2057 rfl).st p2071 rfl).st p2074 rfl).st p2078 rfl)
              refine cnd s2079 (fun hb2091 => ?_) (fun hb2091 => ?_)
              · replace h := (ifP hb2091).symm.trans h
                refine wp_seq ?_
                refine reg ?_
                refine s1 pg2090.z (okAs cst) rfl fun a2092 p2093 s2094 => ?_
                refine rN (thenN ?_)
                obtain rfl := Option.some.inj h
                obtain rfl := Option.some.inj oh2003
                exact wp_ret (blkR (thenR (thenR (jqR (blkR (thenR (ret1 p2093.z Try.results6 (rvT s2094) ⟨_, rfl, rfl, cx2025.g⟩)))))))
              replace h := (ifN hb2091).symm.trans h
              refine wp_skip (blkN (thenN ?_))
              refine reg ?_
              refine s1 pg2090.z (okMv s2081) rfl fun a2095 p2096 s2097 => ?_
              refine s1 p2096.z (okAdd s2097 cst) rfl fun a2098 p2099 s2100 => ?_
              refine s1 p2099.z (okAs s2100) rfl fun a2101 p2102 s2103 => ?_
              have s2104 := p2102.o (p2099.o (p2096.o s2080 rfl) rfl) rfl
              have s2105 := p2102.o (p2099.o (p2096.o (pg2090.o (pg2022.o s1973 rfl) rfl) rfl) rfl) rfl
              have s2106 := p2102.o (p2099.o (p2096.o (pg2090.o (pg2022.o s1974 rfl) rfl) rfl) rfl) rfl
              have s2107 := p2102.o (p2099.o (p2096.o (pg2090.o (pg2022.o s1975 rfl) rfl) rfl) rfl) rfl
              have s2108 := p2102.o (p2099.o (p2096.o (pg2090.o (pg2022.o s1976 rfl) rfl) rfl) rfl) rfl
              have s2109 := p2102.o (p2099.o (p2096.o (pg2090.o (pg2022.o s1977 rfl) rfl) rfl) rfl) rfl
              have s2110 := p2102.o (p2099.o (p2096.o (pg2090.o s2026 rfl) rfl) rfl) rfl
              have s2111 := p2102.o (p2099.o (p2096.o (pg2090.o (pg2022.o s1979 rfl) rfl) rfl) rfl) rfl
              have s2112 := p2102.o (p2099.o (p2096.o (pg2090.o (pg2022.o s1980 rfl) rfl) rfl) rfl) rfl
              have s2113 := p2102.o (p2099.o (p2096.o (pg2090.o (pg2022.o s1981 rfl) rfl) rfl) rfl) rfl
              have s2114 := p2102.o (p2099.o (p2096.o (pg2090.o (pg2022.o s1982 rfl) rfl) rfl) rfl) rfl
              have s2115 := p2102.o (p2099.o (p2096.o (pg2090.o (pg2022.o s1983 rfl) rfl) rfl) rfl) rfl
              have s2116 := p2102.o (p2099.o (p2096.o (pg2090.o (pg2022.o s1984 rfl) rfl) rfl) rfl) rfl
              have s2117 := p2102.o (p2099.o (p2096.o (pg2090.o (pg2022.o s1985 rfl) rfl) rfl) rfl) rfl
              have m2118 := m1987.g0 g2024
              have m2119 := m1988.g0 g2024
              have m2120 := m1989.g0 g2024
              have m2121 := m1990.g0 g2024
              have q2122 := q1993.mono g2024.t0
              have q2123 := q1994.t0 g2024.t0 g2024
              have q2124 := q1995.mono g2024.t0
              have q2125 := q1996.mono g2024.t0
              have q2126 := q1997.mono g2024.t0
              have q2127 := q1998.t0 g2024.t0 g2024
              have q2128 := q1999.t0 g2024.t0 g2024
              have q2129 := q2000.t0 g2024.t0 g2024
              have q2130 := q2001.t0 g2024.t0 g2024
              exact rN (thenN ⟨k, Nat.lt_succ_self k, (w64 (i1942 + 1)), p2102.z, s2104, s2105, s2106, s2107, s2108, s2109, s2110, s2111, s2112, s2113, s2114, s2115, s2116, s2117, s2103, m2118, m2119, m2120, m2121, q2060, q2035, q2122, q2123, q2124, q2125, q2126, q2127, q2128, q2129, q2130, cx2025, h⟩)
            replace h := (ifN hb2023).symm.trans h
            obtain rfl := Option.some.inj h
            have s2131 := pg2022.o s1973 rfl
            have s2132 := pg2022.o s1974 rfl
            have s2133 := pg2022.o s1975 rfl
            have s2134 := pg2022.o s1976 rfl
            have s2135 := pg2022.o s1977 rfl
            have s2136 := pg2022.o s1979 rfl
            have s2137 := pg2022.o s1980 rfl
            have s2138 := pg2022.o s1981 rfl
            have s2139 := pg2022.o s1982 rfl
            have s2140 := pg2022.o s1983 rfl
            have s2141 := pg2022.o s1984 rfl
            have s2142 := pg2022.o s1985 rfl
            exact wp_exit (thenE (thenE (jqE ⟨_, rfl, pg2022.z, s2018, s2131, s2132, s2133, s2134, s2135, s2136, s2137, s2138, s2139, s2140, s2141, s2142, m1987, m1988, m1989, m1990, q1991, q1993, q1994, q1995, q1996, q1997, q1998, q1999, q2000, q2001, cx2002⟩)))
          clear ho1944
          rintro a2143 w2144 ⟨g1945, rfl, z2145, s2146, s2147, s2148, s2149, s2150, s2151, s2152, s2153, s2154, s2155, s2156, s2157, s2158, m2159, m2160, m2161, m2162, q2163, q2164, q2165, q2166, q2167, q2168, q2169, q2170, q2171, q2172, cx2173⟩
          refine blkE (thenN ?_)
          refine wp_seq ?_
          refine wp_seq ?_
          refine reg ?_
          refine s1 z2145 (okMv s2158) rfl fun a2174 p2175 s2176 => ?_
          refine s1 p2175.z (okENeN ef33 s2176 q2168 _) rfl fun a2177 p2178 s2179 => ?_
          refine s1 p2178.z (okMv s2179) rfl fun a2180 p2181 s2182 => ?_
          obtain ⟨b2183, hb2184, h⟩ := Option.bind_eq_some_iff.1 h
          refine cutL 5 (fun a' w' => Pg Try.f6.ntmps [98, 99, 100, 101, 102] a2180 a' ∧ a'.eval (.tmp 102) = .bool b2183 ∧ G [] w2144 w') ?_ ?_
          · rcases bf (!(t1869.2.2.2.2.1).isN) with hb2185 | hb2185
            · have s2186 := bv s2182 hb2185
              replace hb2184 := (ifN hb2185).symm.trans hb2184
              clear h; have h := hb2184; clear hb2184
              have s2187 := p2181.o (p2178.o (p2175.o s2152 rfl) rfl) rfl
              refine s1g p2181.z (okMv s2187) rfl (yd p2181.z rfl rfl s2186) fun a2188 p2189 s2190 => ?_
              have s2191 := p2189.o s2186 rfl
              have s2192 := p2189.o (p2181.o (p2178.o (p2175.o s2153 rfl) rfl) rfl) rfl
              refine s1g p2189.z (okMv s2192) rfl (yd p2189.z rfl rfl s2191) fun a2193 p2194 s2195 => ?_
              have s2196 := p2194.o s2191 rfl
              have s2197 := p2194.o s2190 rfl
              obtain ⟨t2198, ht2199, h⟩ := Option.bind_eq_some_iff.1 h
              refine lG rfl (yd p2194.z rfl rfl s2196) (oCall p2194.z Try.call16 (ag2 s2197 s2195) (c16 k (oby144 :: (ownB h1879 ++ (oby221 :: (ownB h1880 ++ (oby1614 :: (ownB hpy1614_0 ++ (oby1478 :: (ownB hpy1478_0 ++ L)))))))) w2144 (fun i h => cx2173.lt i ((List.mem_cons.1 h).elim (fun e => e ▸ (.head _)) (fun h => (List.mem_append.1 h).elim (fun h => (.tail _ (List.mem_append_left _ h))) (fun h => (List.mem_cons.1 h).elim (fun e => e ▸ (.tail _ (List.mem_append_right _ (.head _)))) (fun h => (List.mem_append.1 h).elim (fun h => (.tail _ (List.mem_append_right _ (.tail _ (List.mem_append_left _ h))))) (fun h => (.tail _ (List.mem_append_right _ (.tail _ (List.mem_append_right _ (List.mem_append_right _ h))))))))))) _ _ (q2164.mono ((Tr.refl _ _).sub (fun i h => (List.mem_cons.1 h).elim (fun e => e ▸ (.head _)) (fun h => (List.mem_append.1 h).elim (fun h => (.tail _ (List.mem_append_left _ h))) (fun h => (List.mem_cons.1 h).elim (fun e => e ▸ (.tail _ (List.mem_append_right _ (.head _)))) (fun h => (List.mem_append.1 h).elim (fun h => (.tail _ (List.mem_append_right _ (.tail _ (List.mem_append_left _ h))))) (fun h => (.tail _ (List.mem_append_right _ (.tail _ (List.mem_append_right _ (List.mem_append_right _ h)))))))))))) _ _ (q2165.rd (fun i h => (List.mem_cons.1 h).elim (fun e => e ▸ (.head _)) (fun h => (List.mem_append.1 h).elim (fun h => (.tail _ (List.mem_append_left _ h))) (fun h => (List.mem_cons.1 h).elim (fun e => e ▸ (.tail _ (List.mem_append_right _ (.head _)))) (fun h => (List.mem_append.1 h).elim (fun h => (.tail _ (List.mem_append_right _ (.tail _ (List.mem_append_left _ h))))) (fun h => (.tail _ (List.mem_append_right _ (.tail _ (List.mem_append_right _ (List.mem_append_right _ h)))))))))) (fun b hb => (not_cons (fun e => n1825 (e ▸ hb)) (not_app ((djs (fun x hx hk => D1888.dl (i := 1) rfl x hx (List.mem_append_left _ hk))) _ hb) (not_cons (fun e => n1826 (e ▸ hb)) (not_app ((djs (fun x hx hk => D1888.dl (i := 3) rfl x hx (List.mem_append_left _ hk))) _ hb) (not_cons (fun e => n1828 (e ▸ hb)) (not_app ((djs n1832) _ hb) (not_cons (fun e => n1827 (e ▸ hb)) (not_app ((djs n1831) _ hb) (nb1823 _ hb))))))))))) _ ht2199) rfl fun v2203 a2200 w2201 hp2204 p2202 sp2202 => ?_)
              obtain ⟨rfl, g2205⟩ := hp2204
              have cx2206 := cx2173.ca g2205
              have s2207 := p2202.o s2196 rfl
              refine s1g p2202.z (okNot sp2202) rfl (yd p2202.z rfl rfl s2207) fun a2208 p2209 s2210 => ?_
              have s2211 := p2209.o s2207 rfl
              refine s1 p2209.z (okPickF s2211 s2210) rfl fun a2212 p2213 s2214 => ?_
              obtain rfl := Option.some.inj h
              exact rN ⟨rfl, ((((((Pg.refl p2181.z).st p2189 rfl).st p2194 rfl).st p2202 rfl).st p2209 rfl).st p2213 rfl), s2214, g2205⟩
            · have s2215 := bv s2182 hb2185
              replace hb2184 := (ifP hb2185).symm.trans hb2184
              clear h; have h := hb2184; clear hb2184
              refine s1k p2181.z rfl (yd p2181.z rfl rfl s2215) rfl fun a2216 p2217 s2218 => ?_
              have s2219 := p2217.o s2215 rfl
              refine s1k p2217.z rfl (yd p2217.z rfl rfl s2219) rfl fun a2220 p2221 s2222 => ?_
              have s2223 := p2221.o s2219 rfl
              refine s1k p2221.z rfl (yd p2221.z rfl rfl s2223) rfl fun a2224 p2225 s2226 => ?_
              have s2227 := p2225.o s2223 rfl
              refine s1k p2225.z rfl (yd p2225.z rfl rfl s2227) rfl fun a2228 p2229 s2230 => ?_
              have s2231 := p2229.o s2227 rfl
              refine s1 p2229.z (okPickT s2231 cst) rfl fun a2232 p2233 s2234 => ?_
              obtain rfl := Option.some.inj h
              exact rN ⟨rfl, ((((((Pg.refl p2181.z).st p2217 rfl).st p2221 rfl).st p2225 rfl).st p2229 rfl).st p2233 rfl), s2234, (G.refl _ _)⟩
          rintro a2235 w2238 ⟨pg2236, s2237, g2239⟩
          have cx2240 := cx2173.ca g2239
          refine rN (thenN ?_)
          have pg2241 : Pg _ [95, 96, 97, 98, 99, 100, 101, 102] _ _ := (((((Pg.refl z2145).st p2175 rfl).st p2178 rfl).st p2181 rfl).tr pg2236 rfl)
          refine cnd s2237 (fun hb2242 => ?_) (fun hb2242 => ?_)
          · replace h := (ifP hb2242).symm.trans h
            refine wp_seq ?_
            refine reg ?_
            refine s1 pg2241.z (okAs cst) rfl fun a2243 p2244 s2245 => ?_
            refine rN (thenN ?_)
            obtain rfl := Option.some.inj h
            exact wp_ret (thenR (ret1 p2244.z Try.results6 (rvT s2245) ⟨_, rfl, rfl, cx2240.g⟩))
          replace h := (ifN hb2242).symm.trans h
          refine wp_skip (thenN ?_)
          refine wp_seq ?_
          refine reg ?_
          have s2246 := pg2241.o s2146 rfl
          refine s1 pg2241.z (okMv s2246) rfl fun a2247 p2248 s2249 => ?_
          have s2250 := p2248.o (pg2241.o s2150 rfl) rfl
          refine s1 p2248.z (okMv s2250) rfl fun a2251 p2252 s2253 => ?_
          have s2254 := p2252.o (p2248.o (pg2241.o s2151 rfl) rfl) rfl
          refine s1 p2252.z (okMv s2254) rfl fun a2255 p2256 s2257 => ?_
          have s2258 := p2256.o (p2252.o (p2248.o (pg2241.o s2153 rfl) rfl) rfl) rfl
          refine s1 p2256.z (okMv s2258) rfl fun a2259 p2260 s2261 => ?_
          have s2262 := p2260.o (p2256.o (p2252.o s2249 rfl) rfl) rfl
          have s2263 := p2260.o (p2256.o s2253 rfl) rfl
          have s2264 := p2260.o s2257 rfl
          have q2265 := q2165.t0 g2239.t0 g2239
          have q2266 : RdS KTFrame (oby144 :: (ownB h1879 ++ (oby221 :: (ownB h1880 ++ (oby1614 :: (ownB hpy1614_0 ++ (oby1478 :: (ownB hpy1478_0 ++ L)))))))) w2238 v1817 z1804 := q2265.rd (fun i h => (List.mem_cons.1 h).elim (fun e => e ▸ (.head _)) (fun h => (List.mem_append.1 h).elim (fun h => (.tail _ (List.mem_append_left _ h))) (fun h => (List.mem_cons.1 h).elim (fun e => e ▸ (.tail _ (List.mem_append_right _ (.head _)))) (fun h => (List.mem_append.1 h).elim (fun h => (.tail _ (List.mem_append_right _ (.tail _ (List.mem_append_left _ h))))) (fun h => (.tail _ (List.mem_append_right _ (.tail _ (List.mem_append_right _ (List.mem_append_right _ h)))))))))) (fun b hb => (not_cons (fun e => n1825 (e ▸ hb)) (not_app ((djs (fun x hx hk => D1888.dl (i := 1) rfl x hx (List.mem_append_left _ hk))) _ hb) (not_cons (fun e => n1826 (e ▸ hb)) (not_app ((djs (fun x hx hk => D1888.dl (i := 3) rfl x hx (List.mem_append_left _ hk))) _ hb) (not_cons (fun e => n1828 (e ▸ hb)) (not_app ((djs n1832) _ hb) (not_cons (fun e => n1827 (e ▸ hb)) (not_app ((djs n1831) _ hb) (nb1823 _ hb))))))))))
          have cx2267 := cx2240.sub (fun i h => (List.mem_cons.1 h).elim (fun e => e ▸ (.head _)) (fun h => (List.mem_append.1 h).elim (fun h => (.tail _ (List.mem_append_left _ h))) (fun h => (List.mem_cons.1 h).elim (fun e => e ▸ (.tail _ (List.mem_append_right _ (.head _)))) (fun h => (List.mem_append.1 h).elim (fun h => (.tail _ (List.mem_append_right _ (.tail _ (List.mem_append_left _ h))))) (fun h => (.tail _ (List.mem_append_right _ (.tail _ (List.mem_append_right _ (List.mem_append_right _ h))))))))))
          have q2268 := q2163.mono (g2239.t0.trans ((Tr.refl (oby144 :: (ownB h1879 ++ (oby221 :: (ownB h1880 ++ (ownB v1817 ++ (oby1614 :: (ownB hpy1614_0 ++ (oby1478 :: (ownB hpy1478_0 ++ L))))))))) w2238).sub (fun i h => (List.mem_cons.1 h).elim (fun e => e ▸ (.head _)) (fun h => (List.mem_append.1 h).elim (fun h => (.tail _ (List.mem_append_left _ h))) (fun h => (List.mem_cons.1 h).elim (fun e => e ▸ (.tail _ (List.mem_append_right _ (.head _)))) (fun h => (List.mem_append.1 h).elim (fun h => (.tail _ (List.mem_append_right _ (.tail _ (List.mem_append_left _ h))))) (fun h => (.tail _ (List.mem_append_right _ (.tail _ (List.mem_append_right _ (List.mem_append_right _ h))))))))))))
          have m2269 := (m2161.g0 g2239).g0 (G.refl [] w2238)
          have q2270 := (q2171.t0 g2239.t0 g2239).t0 ((Tr.refl (oby144 :: (ownB h1879 ++ (oby221 :: (ownB h1880 ++ (ownB v1817 ++ (oby1614 :: (ownB hpy1614_0 ++ (oby1478 :: (ownB hpy1478_0 ++ L))))))))) w2238).sub (fun i h => (List.mem_cons.1 h).elim (fun e => e ▸ (.head _)) (fun h => (List.mem_append.1 h).elim (fun h => (.tail _ (List.mem_append_left _ h))) (fun h => (List.mem_cons.1 h).elim (fun e => e ▸ (.tail _ (List.mem_append_right _ (.head _)))) (fun h => (List.mem_append.1 h).elim (fun h => (.tail _ (List.mem_append_right _ (.tail _ (List.mem_append_left _ h))))) (fun h => (.tail _ (List.mem_append_right _ (.tail _ (List.mem_append_right _ (List.mem_append_right _ h))))))))))) (G.refl [] w2238)
          have m2271 := (m2162.g0 g2239).g0 (G.refl [] w2238)
          have q2272 := (q2172.t0 g2239.t0 g2239).t0 ((Tr.refl (oby144 :: (ownB h1879 ++ (oby221 :: (ownB h1880 ++ (ownB v1817 ++ (oby1614 :: (ownB hpy1614_0 ++ (oby1478 :: (ownB hpy1478_0 ++ L))))))))) w2238).sub (fun i h => (List.mem_cons.1 h).elim (fun e => e ▸ (.head _)) (fun h => (List.mem_append.1 h).elim (fun h => (.tail _ (List.mem_append_left _ h))) (fun h => (List.mem_cons.1 h).elim (fun e => e ▸ (.tail _ (List.mem_append_right _ (.head _)))) (fun h => (List.mem_append.1 h).elim (fun h => (.tail _ (List.mem_append_right _ (.tail _ (List.mem_append_left _ h))))) (fun h => (.tail _ (List.mem_append_right _ (.tail _ (List.mem_append_right _ (List.mem_append_right _ h))))))))))) (G.refl [] w2238)
          have m2273 := (m2159.g0 g2239).g0 (G.refl [] w2238)
          have m2274 := (m2160.g0 g2239).g0 (G.refl [] w2238)
          obtain ⟨t2275, ht2276, h⟩ := Option.bind_eq_some_iff.1 h
          refine lS (oCall p2260.z Try.call10 (ag5 s2262 s2263 s2264 cst s2261) (c10 k (oby144 :: (ownB h1879 ++ (oby221 :: (ownB h1880 ++ L)))) w2238 x0 h0 y1478 oby1478 hpy1478_0 y1614 oby1614 hpy1614_0 0 z1804 v1817 (fun i h => cx2267.lt i ((List.mem_cons.1 h).elim (fun e => e ▸ (.tail _ (List.mem_append_right _ (.tail _ (List.mem_append_right _ (.tail _ (List.mem_append_right _ (.head _)))))))) (fun h => (List.mem_append.1 h).elim (fun h => (.tail _ (List.mem_append_right _ (.tail _ (List.mem_append_right _ (.tail _ (List.mem_append_right _ (.tail _ (List.mem_append_left _ h))))))))) (fun h => (List.mem_cons.1 h).elim (fun e => e ▸ (.tail _ (List.mem_append_right _ (.tail _ (List.mem_append_right _ (.head _)))))) (fun h => (List.mem_append.1 h).elim (fun h => (.tail _ (List.mem_append_right _ (.tail _ (List.mem_append_right _ (.tail _ (List.mem_append_left _ h))))))) (fun h => (List.mem_cons.1 h).elim (fun e => e ▸ (.head _)) (fun h => (List.mem_append.1 h).elim (fun h => (.tail _ (List.mem_append_left _ h))) (fun h => (List.mem_cons.1 h).elim (fun e => e ▸ (.tail _ (List.mem_append_right _ (.head _)))) (fun h => (List.mem_append.1 h).elim (fun h => (.tail _ (List.mem_append_right _ (.tail _ (List.mem_append_left _ h))))) (fun h => (.tail _ (List.mem_append_right _ (.tail _ (List.mem_append_right _ (.tail _ (List.mem_append_right _ (.tail _ (List.mem_append_right _ h)))))))))))))))))) (sepC (show ∀ x ∈ [oby1478], x ∉ (ownB hpy1478_0 ++ (oby1614 :: (ownB hpy1614_0 ++ (oby144 :: (ownB h1879 ++ (oby221 :: (ownB h1880 ++ L))))))) from (in1 (na (D1582.bo (i := 0) (j := 1) rfl rfl rfl) (nc (nmem (D1651.bl (i := 0) rfl) (.head _)).symm (na (fun hb => D1651.dl (i := 1) rfl _ hb (.head _)) (nc (D1582.bb (i := 0) (j := 2) rfl rfl rfl) (na (fun hb => D1888.dl (i := 1) rfl _ hb (List.mem_append_right _ (.tail _ (List.mem_append_right _ (.head _))))) (nc (nmem (D1582.bl (i := 0) rfl) (.head _)) (na (fun hb => D1888.dl (i := 3) rfl _ hb (List.mem_append_right _ (.tail _ (List.mem_append_right _ (.head _))))) (fun h => Nat.lt_irrefl _ (Nat.lt_of_lt_of_le (hL _ h) (Nat.le_trans cx1431.g.sz (f1476 _ (List.mem_append_left _ (.head _))))))))))))))) (sepC (show ∀ x ∈ ownB hpy1478_0, x ∉ (oby1614 :: (ownB hpy1614_0 ++ (oby144 :: (ownB h1879 ++ (oby221 :: (ownB h1880 ++ L)))))) from (fun x hx => (nc (nbo (fun hk => D1651.bl (i := 0) rfl (.tail _ (List.mem_append_left _ hk))) hx) (na ((djs (fun x hx hk => D1651.dl (i := 1) rfl x hx (.tail _ (List.mem_append_left _ hk)))) x hx) (nc (nbo (D1582.ob (i := 1) (j := 2) rfl rfl rfl) hx) (na ((djs (fun x hx hk => D1888.dl (i := 1) rfl x hx (List.mem_append_right _ (.tail _ (List.mem_append_right _ (.tail _ (List.mem_append_left _ hk))))))) x hx) (nc (nbo (fun hb => D1582.dl (i := 1) rfl _ hb (.head _)) hx) (na ((djs (fun x hx hk => D1888.dl (i := 3) rfl x hx (List.mem_append_right _ (.tail _ (List.mem_append_right _ (.tail _ (List.mem_append_left _ hk))))))) x hx) ((fun x hx hl => D1582.dl (i := 1) rfl x hx (.tail _ (List.mem_append_right _ hl))) x hx))))))))) (sepC (show ∀ x ∈ [oby1614], x ∉ (ownB hpy1614_0 ++ (oby144 :: (ownB h1879 ++ (oby221 :: (ownB h1880 ++ L))))) from (in1 (na (D1651.bo (i := 0) (j := 1) rfl rfl rfl) (nc (nmem (D1651.bl (i := 0) rfl) (.tail _ (List.mem_append_right _ (.head _)))) (na (fun hb => D1888.dl (i := 1) rfl _ hb (List.mem_append_right _ (.head _))) (nc (D1651.bb (i := 0) (j := 2) rfl rfl rfl) (na (fun hb => D1888.dl (i := 3) rfl _ hb (List.mem_append_right _ (.head _))) (fun h => Nat.lt_irrefl _ (Nat.lt_of_lt_of_le (hL _ h) (Nat.le_trans cx1587.g.sz (f1612 _ (List.mem_append_left _ (.head _))))))))))))) (sepC (show ∀ x ∈ ownB hpy1614_0, x ∉ (oby144 :: (ownB h1879 ++ (oby221 :: (ownB h1880 ++ L)))) from (fun x hx => (nc (nbo (fun hb => D1651.dl (i := 1) rfl _ hb (.tail _ (List.mem_append_right _ (.head _)))) hx) (na ((djs (fun x hx hk => D1888.dl (i := 1) rfl x hx (List.mem_append_right _ (.tail _ (List.mem_append_left _ hk))))) x hx) (nc (nbo (D1651.ob (i := 1) (j := 2) rfl rfl rfl) hx) (na ((djs (fun x hx hk => D1888.dl (i := 3) rfl x hx (List.mem_append_right _ (.tail _ (List.mem_append_left _ hk))))) x hx) ((fun x hx hl => D1651.dl (i := 1) rfl x hx (.tail _ (List.mem_append_right _ (.tail _ (List.mem_append_right _ hl))))) x hx))))))) sepN)))) (q2268.mono ((Tr.refl _ _).sub (fun i h => (List.mem_cons.1 h).elim (fun e => e ▸ (.tail _ (List.mem_append_right _ (.tail _ (List.mem_append_right _ (.tail _ (List.mem_append_right _ (.head _)))))))) (fun h => (List.mem_append.1 h).elim (fun h => (.tail _ (List.mem_append_right _ (.tail _ (List.mem_append_right _ (.tail _ (List.mem_append_right _ (.tail _ (List.mem_append_left _ h))))))))) (fun h => (List.mem_cons.1 h).elim (fun e => e ▸ (.tail _ (List.mem_append_right _ (.tail _ (List.mem_append_right _ (.head _)))))) (fun h => (List.mem_append.1 h).elim (fun h => (.tail _ (List.mem_append_right _ (.tail _ (List.mem_append_right _ (.tail _ (List.mem_append_left _ h))))))) (fun h => (List.mem_cons.1 h).elim (fun e => e ▸ (.head _)) (fun h => (List.mem_append.1 h).elim (fun h => (.tail _ (List.mem_append_left _ h))) (fun h => (List.mem_cons.1 h).elim (fun e => e ▸ (.tail _ (List.mem_append_right _ (.head _)))) (fun h => (List.mem_append.1 h).elim (fun h => (.tail _ (List.mem_append_right _ (.tail _ (List.mem_append_left _ h))))) (fun h => (.tail _ (List.mem_append_right _ (.tail _ (List.mem_append_right _ (.tail _ (List.mem_append_right _ (.tail _ (List.mem_append_right _ h))))))))))))))))))) m2269 (q2270.sub (fun i h => (List.mem_cons.1 h).elim (fun e => e ▸ (.tail _ (List.mem_append_right _ (.tail _ (List.mem_append_right _ (.tail _ (List.mem_append_right _ (.head _)))))))) (fun h => (List.mem_append.1 h).elim (fun h => (.tail _ (List.mem_append_right _ (.tail _ (List.mem_append_right _ (.tail _ (List.mem_append_right _ (.tail _ (List.mem_append_left _ h))))))))) (fun h => (List.mem_cons.1 h).elim (fun e => e ▸ (.tail _ (List.mem_append_right _ (.tail _ (List.mem_append_right _ (.head _)))))) (fun h => (List.mem_append.1 h).elim (fun h => (.tail _ (List.mem_append_right _ (.tail _ (List.mem_append_right _ (.tail _ (List.mem_append_left _ h))))))) (fun h => (List.mem_cons.1 h).elim (fun e => e ▸ (.head _)) (fun h => (List.mem_append.1 h).elim (fun h => (.tail _ (List.mem_append_left _ h))) (fun h => (List.mem_cons.1 h).elim (fun e => e ▸ (.tail _ (List.mem_append_right _ (.head _)))) (fun h => (List.mem_append.1 h).elim (fun h => (.tail _ (List.mem_append_right _ (.tail _ (List.mem_append_left _ h))))) (fun h => (.tail _ (List.mem_append_right _ (.tail _ (List.mem_append_right _ (.tail _ (List.mem_append_right _ (.tail _ (List.mem_append_right _ h)))))))))))))))))) m2271 (q2272.sub (fun i h => (List.mem_cons.1 h).elim (fun e => e ▸ (.tail _ (List.mem_append_right _ (.tail _ (List.mem_append_right _ (.tail _ (List.mem_append_right _ (.head _)))))))) (fun h => (List.mem_append.1 h).elim (fun h => (.tail _ (List.mem_append_right _ (.tail _ (List.mem_append_right _ (.tail _ (List.mem_append_right _ (.tail _ (List.mem_append_left _ h))))))))) (fun h => (List.mem_cons.1 h).elim (fun e => e ▸ (.tail _ (List.mem_append_right _ (.tail _ (List.mem_append_right _ (.head _)))))) (fun h => (List.mem_append.1 h).elim (fun h => (.tail _ (List.mem_append_right _ (.tail _ (List.mem_append_right _ (.tail _ (List.mem_append_left _ h))))))) (fun h => (List.mem_cons.1 h).elim (fun e => e ▸ (.head _)) (fun h => (List.mem_append.1 h).elim (fun h => (.tail _ (List.mem_append_left _ h))) (fun h => (List.mem_cons.1 h).elim (fun e => e ▸ (.tail _ (List.mem_append_right _ (.head _)))) (fun h => (List.mem_append.1 h).elim (fun h => (.tail _ (List.mem_append_right _ (.tail _ (List.mem_append_left _ h))))) (fun h => (.tail _ (List.mem_append_right _ (.tail _ (List.mem_append_right _ (.tail _ (List.mem_append_right _ (.tail _ (List.mem_append_right _ h)))))))))))))))))) (q2266.mono ((Tr.refl _ _).sub (fun i h => (List.mem_cons.1 h).elim (fun e => e ▸ (.tail _ (List.mem_append_right _ (.tail _ (List.mem_append_right _ (.tail _ (List.mem_append_right _ (.head _)))))))) (fun h => (List.mem_append.1 h).elim (fun h => (.tail _ (List.mem_append_right _ (.tail _ (List.mem_append_right _ (.tail _ (List.mem_append_right _ (.tail _ (List.mem_append_left _ h))))))))) (fun h => (List.mem_cons.1 h).elim (fun e => e ▸ (.tail _ (List.mem_append_right _ (.tail _ (List.mem_append_right _ (.head _)))))) (fun h => (List.mem_append.1 h).elim (fun h => (.tail _ (List.mem_append_right _ (.tail _ (List.mem_append_right _ (.tail _ (List.mem_append_left _ h))))))) (fun h => (List.mem_cons.1 h).elim (fun e => e ▸ (.head _)) (fun h => (List.mem_append.1 h).elim (fun h => (.tail _ (List.mem_append_left _ h))) (fun h => (List.mem_cons.1 h).elim (fun e => e ▸ (.tail _ (List.mem_append_right _ (.head _)))) (fun h => (List.mem_append.1 h).elim (fun h => (.tail _ (List.mem_append_right _ (.tail _ (List.mem_append_left _ h))))) (fun h => (.tail _ (List.mem_append_right _ (.tail _ (List.mem_append_right _ (.tail _ (List.mem_append_right _ (.tail _ (List.mem_append_right _ h))))))))))))))))))) _ ht2276) rfl fun v2280 a2277 w2278 hp2281 p2279 sp2279 => ?_)
          obtain ⟨h2282, h2283, h2284, h2285, h2286, rfl, q2287, q2288, q2289, m2290, q2291, m2292, q2293, D2294, f2297, f2298, lt2295, g2296⟩ := hp2281
          have hs2299 : ∀ i ∈ (oby1478 :: (ownB hpy1478_0 ++ (oby1614 :: (ownB hpy1614_0 ++ [])))), i ∈ [] ∨ w.heap.size ≤ i := (memC (.inr (Nat.le_trans cx1431.g.sz (f1476 _ (List.mem_append_left _ (.head _))))) (memA (fun x hx => .inr (Nat.le_trans cx1431.g.sz ((fun _ h => f1476 _ (List.mem_append_right _ (List.mem_append_left _ h))) x hx))) (memC (.inr (Nat.le_trans cx1587.g.sz (f1612 _ (List.mem_append_left _ (.head _))))) (memA (fun x hx => .inr (Nat.le_trans cx1587.g.sz ((fun _ h => f1612 _ (List.mem_append_right _ (List.mem_append_left _ h))) x hx))) memN))))
          have hs2300 : ∀ i ∈ (oby1478 :: (ownB hpy1478_0 ++ (oby1614 :: (ownB hpy1614_0 ++ [])))), i ∈ (oby144 :: (ownB h1879 ++ (oby221 :: (ownB h1880 ++ (oby1614 :: (ownB hpy1614_0 ++ (oby1478 :: (ownB hpy1478_0 ++ L)))))))) := (memC (.tail _ (List.mem_append_right _ (.tail _ (List.mem_append_right _ (.tail _ (List.mem_append_right _ (.head _))))))) (memA (fun _ h => (.tail _ (List.mem_append_right _ (.tail _ (List.mem_append_right _ (.tail _ (List.mem_append_right _ (.tail _ (List.mem_append_left _ h))))))))) (memC (.tail _ (List.mem_append_right _ (.tail _ (List.mem_append_right _ (.head _))))) (memA (fun _ h => (.tail _ (List.mem_append_right _ (.tail _ (List.mem_append_right _ (.tail _ (List.mem_append_left _ h))))))) memN))))
          have t2301 : Tr (oby144 :: (ownB h1879 ++ (oby221 :: (ownB h1880 ++ (oby1614 :: (ownB hpy1614_0 ++ (oby1478 :: (ownB hpy1478_0 ++ L)))))))) w2238 (oby1478 :: (ownB h2285 ++ (oby1614 :: (ownB h2286 ++ (oby144 :: (ownB h1879 ++ (oby221 :: (ownB h1880 ++ L)))))))) w2278 := G.tC g2296 hs2300 (memC (.inl (.tail _ (List.mem_append_right _ (.tail _ (List.mem_append_right _ (.tail _ (List.mem_append_right _ (.head _)))))))) (memA (frL f2297 hs2300) (memC (.inl (.tail _ (List.mem_append_right _ (.tail _ (List.mem_append_right _ (.head _)))))) (memA (frL f2298 hs2300) (fun i h => .inl ((List.mem_cons.1 h).elim (fun e => e ▸ (.head _)) (fun h => (List.mem_append.1 h).elim (fun h => (.tail _ (List.mem_append_left _ h))) (fun h => (List.mem_cons.1 h).elim (fun e => e ▸ (.tail _ (List.mem_append_right _ (.head _)))) (fun h => (List.mem_append.1 h).elim (fun h => (.tail _ (List.mem_append_right _ (.tail _ (List.mem_append_left _ h))))) (fun h => (.tail _ (List.mem_append_right _ (.tail _ (List.mem_append_right _ (.tail _ (List.mem_append_right _ (.tail _ (List.mem_append_right _ h))))))))))))))))))
          have cx2302 := cx2267.gs g2296 hs2299 lt2295
          refine s1 p2279.z (okMv sp2279) rfl fun a2303 p2304 s2305 => ?_
          refine s1 p2304.z (okExt (vs := [_, _, _, _, _]) s2305 rfl) rfl fun a2306 p2307 s2308 => ?_
          have s2309 := p2307.o s2305 rfl
          refine s1 p2307.z (okExt (vs := [_, _, _, _, _]) s2309 rfl) rfl fun a2310 p2311 s2312 => ?_
          have s2313 := p2311.o s2309 rfl
          refine s1 p2311.z (okExt (vs := [_, _, _, _, _]) s2313 rfl) rfl fun a2314 p2315 s2316 => ?_
          have s2317 := p2315.o s2313 rfl
          refine s1 p2315.z (okExt (vs := [_, _, _, _, _]) s2317 rfl) rfl fun a2318 p2319 s2320 => ?_
          have s2321 := p2319.o s2317 rfl
          refine s1 p2319.z (okExt (vs := [_, _, _, _, _]) s2321 rfl) rfl fun a2322 p2323 s2324 => ?_
          have s2325 := p2323.o (p2319.o (p2315.o (p2311.o s2308 rfl) rfl) rfl) rfl
          refine s1 p2323.z (okAs s2325) rfl fun a2326 p2327 s2328 => ?_
          have s2329 := p2327.o (p2323.o (p2319.o (p2315.o s2312 rfl) rfl) rfl) rfl
          refine s1 p2327.z (okAs s2329) rfl fun a2330 p2331 s2332 => ?_
          have s2333 := p2331.o (p2327.o (p2323.o (p2319.o s2316 rfl) rfl) rfl) rfl
          refine s1 p2331.z (okAs s2333) rfl fun a2334 p2335 s2336 => ?_
          have s2337 := p2335.o (p2331.o (p2327.o (p2323.o s2320 rfl) rfl) rfl) rfl
          refine s1 p2335.z (okAs s2337) rfl fun a2338 p2339 s2340 => ?_
          have s2341 := p2339.o (p2335.o (p2331.o (p2327.o s2324 rfl) rfl) rfl) rfl
          refine s1 p2339.z (okAs s2341) rfl fun a2342 p2343 s2344 => ?_
          refine rN (thenN ?_)
          refine wp_seq ?_
          refine reg ?_
          have s2345 := p2343.o (p2339.o (p2335.o (p2331.o (p2327.o (p2323.o (p2319.o (p2315.o (p2311.o (p2307.o (p2304.o (p2279.o (p2260.o (p2256.o (p2252.o (p2248.o (pg2241.o s2148 rfl) rfl) rfl) rfl) rfl) rfl) rfl) rfl) rfl) rfl) rfl) rfl) rfl) rfl) rfl) rfl) rfl
          refine s1 p2343.z (okMv s2345) rfl fun a2346 p2347 s2348 => ?_
          refine s1 p2347.z (okMv s2348) rfl fun a2349 p2350 s2351 => ?_
          refine cutP 3 (fun a' => Pg Try.f6.ntmps [116, 117, 118] a2349 a' ∧ a'.eval (.tmp 118) = .bool (t4 && ((t2275.2.2.2.2.1).isN))) ?_ ?_
          · rcases bf t4 with hb2352 | hb2352
            · have s2353 := bv s2351 hb2352
              refine s1k p2350.z rfl (yd p2350.z rfl rfl s2353) rfl fun a2354 p2355 s2356 => ?_
              have s2357 := p2355.o s2353 rfl
              refine s1k p2355.z rfl (yd p2355.z rfl rfl s2357) rfl fun a2358 p2359 s2360 => ?_
              have s2361 := p2359.o s2357 rfl
              refine s1 p2359.z (okPickF s2361 cst) rfl fun a2362 p2363 s2364 => ?_
              exact rN ⟨rfl, rfl, ((((Pg.refl p2350.z).st p2355 rfl).st p2359 rfl).st p2363 rfl), (andF hb2352 s2364)⟩
            · have s2365 := bv s2351 hb2352
              have s2366 := p2350.o (p2347.o s2344 rfl) rfl
              refine s1g p2350.z (okMv s2366) rfl (yd p2350.z rfl rfl s2365) fun a2367 p2368 s2369 => ?_
              have s2370 := p2368.o s2365 rfl
              refine s1g p2368.z (okEEqN ef33 s2369 q2289 _) rfl (yd p2368.z rfl rfl s2370) fun a2371 p2372 s2373 => ?_
              have s2374 := p2372.o s2370 rfl
              refine s1 p2372.z (okPickT s2374 s2373) rfl fun a2375 p2376 s2377 => ?_
              exact rN ⟨rfl, rfl, ((((Pg.refl p2350.z).st p2368 rfl).st p2372 rfl).st p2376 rfl), (andT hb2352 s2377)⟩
          rintro a2378 ⟨pg2379, s2380⟩
          refine s1 pg2379.z (okMv s2380) rfl fun a2381 p2382 s2383 => ?_
          obtain ⟨b2384, hb2385, h⟩ := Option.bind_eq_some_iff.1 h
          refine cutL 4 (fun a' w' => Pg Try.f6.ntmps [120, 121, 122, 123] a2381 a' ∧ a'.eval (.tmp 123) = .bool b2384 ∧ G [] w2278 w') ?_ ?_
          · rcases bf (t4 && ((t2275.2.2.2.2.1).isN)) with hb2386 | hb2386
            · have s2387 := bv s2383 hb2386
              replace hb2385 := (ifN hb2386).symm.trans hb2385
              clear h; have h := hb2385; clear hb2385
              refine s1k p2382.z rfl (yd p2382.z rfl rfl s2387) rfl fun a2388 p2389 s2390 => ?_
              have s2391 := p2389.o s2387 rfl
              refine s1k p2389.z rfl (yd p2389.z rfl rfl s2391) rfl fun a2392 p2393 s2394 => ?_
              have s2395 := p2393.o s2391 rfl
              refine s1k p2393.z rfl (yd p2393.z rfl rfl s2395) rfl fun a2396 p2397 s2398 => ?_
              have s2399 := p2397.o s2395 rfl
              refine s1 p2397.z (okPickF s2399 cst) rfl fun a2400 p2401 s2402 => ?_
              obtain rfl := Option.some.inj h
              exact rN ⟨rfl, (((((Pg.refl p2382.z).st p2389 rfl).st p2393 rfl).st p2397 rfl).st p2401 rfl), s2402, (G.refl _ _)⟩
            · have s2403 := bv s2383 hb2386
              replace hb2385 := (ifP hb2386).symm.trans hb2385
              clear h; have h := hb2385; clear hb2385
              have s2404 := p2382.o (pg2379.o (p2350.o (p2347.o (p2343.o (p2339.o (p2335.o (p2331.o (p2327.o (p2323.o (p2319.o (p2315.o (p2311.o (p2307.o (p2304.o (p2279.o (p2260.o (p2256.o (p2252.o (p2248.o (pg2241.o s2154 rfl) rfl) rfl) rfl) rfl) rfl) rfl) rfl) rfl) rfl) rfl) rfl) rfl) rfl) rfl) rfl) rfl) rfl) rfl) rfl) rfl
              refine s1g p2382.z (okMv s2404) rfl (yd p2382.z rfl rfl s2403) fun a2405 p2406 s2407 => ?_
              have s2408 := p2406.o s2403 rfl
              have s2409 := p2406.o (p2382.o (pg2379.o (p2350.o (p2347.o (p2343.o (p2339.o (p2335.o (p2331.o s2328 rfl) rfl) rfl) rfl) rfl) rfl) rfl) rfl) rfl
              refine s1g p2406.z (okMv s2409) rfl (yd p2406.z rfl rfl s2408) fun a2410 p2411 s2412 => ?_
              have s2413 := p2411.o s2408 rfl
              have s2414 := p2411.o s2407 rfl
              have q2415 := q2166.mono ((g2239.t0.trans ((Tr.refl (oby144 :: (ownB h1879 ++ (oby221 :: (ownB h1880 ++ (ownB v1817 ++ (oby1614 :: (ownB hpy1614_0 ++ (oby1478 :: (ownB hpy1478_0 ++ L))))))))) w2238).sub (fun i h => (List.mem_cons.1 h).elim (fun e => e ▸ (.head _)) (fun h => (List.mem_append.1 h).elim (fun h => (.tail _ (List.mem_append_left _ h))) (fun h => (List.mem_cons.1 h).elim (fun e => e ▸ (.tail _ (List.mem_append_right _ (.head _)))) (fun h => (List.mem_append.1 h).elim (fun h => (.tail _ (List.mem_append_right _ (.tail _ (List.mem_append_left _ h))))) (fun h => (.tail _ (List.mem_append_right _ (.tail _ (List.mem_append_right _ (List.mem_append_right _ h)))))))))))).trans t2301)
              obtain ⟨t2416, ht2417, h⟩ := Option.bind_eq_some_iff.1 h
              refine lG rfl (yd p2411.z rfl rfl s2413) (oCall p2411.z Try.call16 (ag2 s2414 s2412) (c16 k (oby1478 :: (ownB h2285 ++ (oby1614 :: (ownB h2286 ++ (oby144 :: (ownB h1879 ++ (oby221 :: (ownB h1880 ++ L)))))))) w2278 cx2302.lt _ _ q2415 _ _ q2287 _ ht2417) rfl fun v2421 a2418 w2419 hp2422 p2420 sp2420 => ?_)
              obtain ⟨rfl, g2423⟩ := hp2422
              have cx2424 := cx2302.ca g2423
              have s2425 := p2420.o s2413 rfl
              refine s1 p2420.z (okPickT s2425 sp2420) rfl fun a2426 p2427 s2428 => ?_
              obtain rfl := Option.some.inj h
              exact rN ⟨rfl, (((((Pg.refl p2382.z).st p2406 rfl).st p2411 rfl).st p2420 rfl).st p2427 rfl), s2428, g2423⟩
          rintro a2429 w2432 ⟨pg2430, s2431, g2433⟩
          have cx2434 := cx2302.ca g2433
          refine s1 pg2430.z (okMv s2431) rfl fun a2435 p2436 s2437 => ?_
          obtain ⟨b2438, hb2439, h⟩ := Option.bind_eq_some_iff.1 h
          refine cutL 4 (fun a' w' => Pg Try.f6.ntmps [125, 126, 127, 128] a2435 a' ∧ a'.eval (.tmp 128) = .bool b2438 ∧ G [] w2432 w') ?_ ?_
          · rcases bf b2384 with hb2440 | hb2440
            · have s2441 := bv s2437 hb2440
              replace hb2439 := (ifN hb2440).symm.trans hb2439
              clear h; have h := hb2439; clear hb2439
              refine s1k p2436.z rfl (yd p2436.z rfl rfl s2441) rfl fun a2442 p2443 s2444 => ?_
              have s2445 := p2443.o s2441 rfl
              refine s1k p2443.z rfl (yd p2443.z rfl rfl s2445) rfl fun a2446 p2447 s2448 => ?_
              have s2449 := p2447.o s2445 rfl
              refine s1k p2447.z rfl (yd p2447.z rfl rfl s2449) rfl fun a2450 p2451 s2452 => ?_
              have s2453 := p2451.o s2449 rfl
              refine s1 p2451.z (okPickF s2453 cst) rfl fun a2454 p2455 s2456 => ?_
              obtain rfl := Option.some.inj h
              exact rN ⟨rfl, (((((Pg.refl p2436.z).st p2443 rfl).st p2447 rfl).st p2451 rfl).st p2455 rfl), s2456, (G.refl _ _)⟩
            · have s2457 := bv s2437 hb2440
              replace hb2439 := (ifP hb2440).symm.trans hb2439
              clear h; have h := hb2439; clear hb2439
              have s2458 := p2436.o (pg2430.o (p2382.o (pg2379.o (p2350.o (p2347.o (p2343.o (p2339.o (p2335.o (p2331.o (p2327.o (p2323.o (p2319.o (p2315.o (p2311.o (p2307.o (p2304.o (p2279.o (p2260.o (p2256.o (p2252.o (p2248.o (pg2241.o s2155 rfl) rfl) rfl) rfl) rfl) rfl) rfl) rfl) rfl) rfl) rfl) rfl) rfl) rfl) rfl) rfl) rfl) rfl) rfl) rfl) rfl) rfl) rfl
              refine s1g p2436.z (okMv s2458) rfl (yd p2436.z rfl rfl s2457) fun a2459 p2460 s2461 => ?_
              have s2462 := p2460.o s2457 rfl
              have s2463 := p2460.o (p2436.o (pg2430.o (p2382.o (pg2379.o (p2350.o (p2347.o (p2343.o (p2339.o (p2335.o s2332 rfl) rfl) rfl) rfl) rfl) rfl) rfl) rfl) rfl) rfl
              refine s1g p2460.z (okMv s2463) rfl (yd p2460.z rfl rfl s2462) fun a2464 p2465 s2466 => ?_
              have s2467 := p2465.o s2462 rfl
              have s2468 := p2465.o s2461 rfl
              have q2469 := q2167.mono (((g2239.t0.trans ((Tr.refl (oby144 :: (ownB h1879 ++ (oby221 :: (ownB h1880 ++ (ownB v1817 ++ (oby1614 :: (ownB hpy1614_0 ++ (oby1478 :: (ownB hpy1478_0 ++ L))))))))) w2238).sub (fun i h => (List.mem_cons.1 h).elim (fun e => e ▸ (.head _)) (fun h => (List.mem_append.1 h).elim (fun h => (.tail _ (List.mem_append_left _ h))) (fun h => (List.mem_cons.1 h).elim (fun e => e ▸ (.tail _ (List.mem_append_right _ (.head _)))) (fun h => (List.mem_append.1 h).elim (fun h => (.tail _ (List.mem_append_right _ (.tail _ (List.mem_append_left _ h))))) (fun h => (.tail _ (List.mem_append_right _ (.tail _ (List.mem_append_right _ (List.mem_append_right _ h)))))))))))).trans t2301).trans g2433.t0)
              have q2470 := q2288.mono g2433.t0
              obtain ⟨t2471, ht2472, h⟩ := Option.bind_eq_some_iff.1 h
              refine lG rfl (yd p2465.z rfl rfl s2467) (oCall p2465.z Try.call17 (ag2 s2468 s2466) (c17 k (oby1478 :: (ownB h2285 ++ (oby1614 :: (ownB h2286 ++ (oby144 :: (ownB h1879 ++ (oby221 :: (ownB h1880 ++ L)))))))) w2432 cx2434.lt _ _ q2469 _ _ q2470 _ ht2472) rfl fun v2476 a2473 w2474 hp2477 p2475 sp2475 => ?_)
              obtain ⟨rfl, g2478⟩ := hp2477
              have cx2479 := cx2434.ca g2478
              have s2480 := p2475.o s2467 rfl
              refine s1 p2475.z (okPickT s2480 sp2475) rfl fun a2481 p2482 s2483 => ?_
              obtain rfl := Option.some.inj h
              exact rN ⟨rfl, (((((Pg.refl p2436.z).st p2460 rfl).st p2465 rfl).st p2475 rfl).st p2482 rfl), s2483, g2478⟩
          rintro a2484 w2487 ⟨pg2485, s2486, g2488⟩
          have cx2489 := cx2434.ca g2488
          refine s1 pg2485.z (okMv s2486) rfl fun a2490 p2491 s2492 => ?_
          refine cutP 4 (fun a' => Pg Try.f6.ntmps [130, 131, 132, 133] a2490 a' ∧ a'.eval (.tmp 133) = .bool (b2438 && (t1869.2.2.1 == t2275.2.2.1))) ?_ ?_
          · rcases bf b2438 with hb2493 | hb2493
            · have s2494 := bv s2492 hb2493
              refine s1k p2491.z rfl (yd p2491.z rfl rfl s2494) rfl fun a2495 p2496 s2497 => ?_
              have s2498 := p2496.o s2494 rfl
              refine s1k p2496.z rfl (yd p2496.z rfl rfl s2498) rfl fun a2499 p2500 s2501 => ?_
              have s2502 := p2500.o s2498 rfl
              refine s1k p2500.z rfl (yd p2500.z rfl rfl s2502) rfl fun a2503 p2504 s2505 => ?_
              have s2506 := p2504.o s2502 rfl
              refine s1 p2504.z (okPickF s2506 cst) rfl fun a2507 p2508 s2509 => ?_
              exact rN ⟨rfl, rfl, (((((Pg.refl p2491.z).st p2496 rfl).st p2500 rfl).st p2504 rfl).st p2508 rfl), (andF hb2493 s2509)⟩
            · have s2510 := bv s2492 hb2493
              have s2511 := p2491.o (pg2485.o (p2436.o (pg2430.o (p2382.o (pg2379.o (p2350.o (p2347.o (p2343.o (p2339.o (p2335.o (p2331.o (p2327.o (p2323.o (p2319.o (p2315.o (p2311.o (p2307.o (p2304.o (p2279.o (p2260.o (p2256.o (p2252.o (p2248.o (pg2241.o s2156 rfl) rfl) rfl) rfl) rfl) rfl) rfl) rfl) rfl) rfl) rfl) rfl) rfl) rfl) rfl) rfl) rfl) rfl) rfl) rfl) rfl) rfl) rfl) rfl) rfl
              refine s1g p2491.z (okMv s2511) rfl (yd p2491.z rfl rfl s2510) fun a2512 p2513 s2514 => ?_
              have s2515 := p2513.o s2510 rfl
              have s2516 := p2513.o (p2491.o (pg2485.o (p2436.o (pg2430.o (p2382.o (pg2379.o (p2350.o (p2347.o (p2343.o (p2339.o s2336 rfl) rfl) rfl) rfl) rfl) rfl) rfl) rfl) rfl) rfl) rfl
              refine s1g p2513.z (okMv s2516) rfl (yd p2513.z rfl rfl s2515) fun a2517 p2518 s2519 => ?_
              have s2520 := p2518.o s2515 rfl
              have s2521 := p2518.o s2514 rfl
              refine s1g p2518.z (okEq s2521 s2519) rfl (yd p2518.z rfl rfl s2520) fun a2522 p2523 s2524 => ?_
              have s2525 := p2523.o s2520 rfl
              refine s1 p2523.z (okPickT s2525 s2524) rfl fun a2526 p2527 s2528 => ?_
              exact rN ⟨rfl, rfl, (((((Pg.refl p2491.z).st p2513 rfl).st p2518 rfl).st p2523 rfl).st p2527 rfl), (andT hb2493 s2528)⟩
          rintro a2529 ⟨pg2530, s2531⟩
          refine s1 pg2530.z (okMv s2531) rfl fun a2532 p2533 s2534 => ?_
          refine cutP 4 (fun a' => Pg Try.f6.ntmps [135, 136, 137, 138] a2532 a' ∧ a'.eval (.tmp 138) = .bool ((b2438 && (t1869.2.2.1 == t2275.2.2.1)) && (t1869.2.2.2.1 == t2275.2.2.2.1))) ?_ ?_
          · rcases bf (b2438 && (t1869.2.2.1 == t2275.2.2.1)) with hb2535 | hb2535
            · have s2536 := bv s2534 hb2535
              refine s1k p2533.z rfl (yd p2533.z rfl rfl s2536) rfl fun a2537 p2538 s2539 => ?_
              have s2540 := p2538.o s2536 rfl
              refine s1k p2538.z rfl (yd p2538.z rfl rfl s2540) rfl fun a2541 p2542 s2543 => ?_
              have s2544 := p2542.o s2540 rfl
              refine s1k p2542.z rfl (yd p2542.z rfl rfl s2544) rfl fun a2545 p2546 s2547 => ?_
              have s2548 := p2546.o s2544 rfl
              refine s1 p2546.z (okPickF s2548 cst) rfl fun a2549 p2550 s2551 => ?_
              exact rN ⟨rfl, rfl, (((((Pg.refl p2533.z).st p2538 rfl).st p2542 rfl).st p2546 rfl).st p2550 rfl), (andF hb2535 s2551)⟩
            · have s2552 := bv s2534 hb2535
              have s2553 := p2533.o (pg2530.o (p2491.o (pg2485.o (p2436.o (pg2430.o (p2382.o (pg2379.o (p2350.o (p2347.o (p2343.o (p2339.o (p2335.o (p2331.o (p2327.o (p2323.o (p2319.o (p2315.o (p2311.o (p2307.o (p2304.o (p2279.o (p2260.o (p2256.o (p2252.o (p2248.o (pg2241.o s2157 rfl) rfl) rfl) rfl) rfl) rfl) rfl) rfl) rfl) rfl) rfl) rfl) rfl) rfl) rfl) rfl) rfl) rfl) rfl) rfl) rfl) rfl) rfl) rfl) rfl) rfl) rfl
              refine s1g p2533.z (okMv s2553) rfl (yd p2533.z rfl rfl s2552) fun a2554 p2555 s2556 => ?_
              have s2557 := p2555.o s2552 rfl
              have s2558 := p2555.o (p2533.o (pg2530.o (p2491.o (pg2485.o (p2436.o (pg2430.o (p2382.o (pg2379.o (p2350.o (p2347.o (p2343.o s2340 rfl) rfl) rfl) rfl) rfl) rfl) rfl) rfl) rfl) rfl) rfl) rfl
              refine s1g p2555.z (okMv s2558) rfl (yd p2555.z rfl rfl s2557) fun a2559 p2560 s2561 => ?_
              have s2562 := p2560.o s2557 rfl
              have s2563 := p2560.o s2556 rfl
              refine s1g p2560.z (okEq s2563 s2561) rfl (yd p2560.z rfl rfl s2562) fun a2564 p2565 s2566 => ?_
              have s2567 := p2565.o s2562 rfl
              refine s1 p2565.z (okPickT s2567 s2566) rfl fun a2568 p2569 s2570 => ?_
              exact rN ⟨rfl, rfl, (((((Pg.refl p2533.z).st p2555 rfl).st p2560 rfl).st p2565 rfl).st p2569 rfl), (andT hb2535 s2570)⟩
          rintro a2571 ⟨pg2572, s2573⟩
          refine s1 pg2572.z (okMv s2573) rfl fun a2574 p2575 s2576 => ?_
          obtain ⟨b2577, hb2578, h⟩ := Option.bind_eq_some_iff.1 h
          refine cutL 6 (fun a' w' => Pg Try.f6.ntmps [140, 141, 142, 143, 144, 145] a2574 a' ∧ a'.eval (.tmp 145) = .bool b2577 ∧ G [] w2487 w') ?_ ?_
          · rcases bf ((b2438 && (t1869.2.2.1 == t2275.2.2.1)) && (t1869.2.2.2.1 == t2275.2.2.2.1)) with hb2579 | hb2579
            · have s2580 := bv s2576 hb2579
              replace hb2578 := (ifN hb2579).symm.trans hb2578
              clear h; have h := hb2578; clear hb2578
              refine s1k p2575.z rfl (yd p2575.z rfl rfl s2580) rfl fun a2581 p2582 s2583 => ?_
              have s2584 := p2582.o s2580 rfl
              refine s1k p2582.z rfl (yd p2582.z rfl rfl s2584) rfl fun a2585 p2586 s2587 => ?_
              have s2588 := p2586.o s2584 rfl
              refine s1k p2586.z rfl (yd p2586.z rfl rfl s2588) rfl fun a2589 p2590 s2591 => ?_
              have s2592 := p2590.o s2588 rfl
              refine s1k p2590.z rfl (yd p2590.z rfl rfl s2592) rfl fun a2593 p2594 s2595 => ?_
              have s2596 := p2594.o s2592 rfl
              refine s1k p2594.z rfl (yd p2594.z rfl rfl s2596) rfl fun a2597 p2598 s2599 => ?_
              have s2600 := p2598.o s2596 rfl
              refine s1 p2598.z (okPickF s2600 cst) rfl fun a2601 p2602 s2603 => ?_
              obtain rfl := Option.some.inj h
              exact rN ⟨rfl, (((((((Pg.refl p2575.z).st p2582 rfl).st p2586 rfl).st p2590 rfl).st p2594 rfl).st p2598 rfl).st p2602 rfl), s2603, (G.refl _ _)⟩
            · have s2604 := bv s2576 hb2579
              replace hb2578 := (ifP hb2579).symm.trans hb2578
              clear h; have h := hb2578; clear hb2578
              have s2605 := p2575.o (pg2572.o (p2533.o (pg2530.o (p2491.o (pg2485.o (p2436.o (pg2430.o (p2382.o (pg2379.o (p2350.o (p2347.o (p2343.o (p2339.o (p2335.o (p2331.o (p2327.o (p2323.o (p2319.o (p2315.o (p2311.o (p2307.o (p2304.o (p2279.o (p2260.o (p2256.o (p2252.o (p2248.o (pg2241.o s2149 rfl) rfl) rfl) rfl) rfl) rfl) rfl) rfl) rfl) rfl) rfl) rfl) rfl) rfl) rfl) rfl) rfl) rfl) rfl) rfl) rfl) rfl) rfl) rfl) rfl) rfl) rfl) rfl) rfl
              refine s1g p2575.z (okMv s2605) rfl (yd p2575.z rfl rfl s2604) fun a2606 p2607 s2608 => ?_
              have s2609 := p2607.o s2604 rfl
              have m2610 := ((m2273.g g2296 (nc (D1582.bb (i := 0) (j := 2) rfl rfl rfl).symm (na (D1582.ob (i := 1) (j := 2) rfl rfl rfl) (nc (nmem (D1651.bl (i := 0) rfl) (.tail _ (List.mem_append_right _ (.head _)))).symm (na (fun hb => D1651.dl (i := 1) rfl _ hb (.tail _ (List.mem_append_right _ (.head _)))) not_nil))))).g0 g2433).g0 g2488
              have q2611 := ((((q2169.t0 g2239.t0 g2239).t0 ((Tr.refl (oby144 :: (ownB h1879 ++ (oby221 :: (ownB h1880 ++ (ownB v1817 ++ (oby1614 :: (ownB hpy1614_0 ++ (oby1478 :: (ownB hpy1478_0 ++ L))))))))) w2238).sub (fun i h => (List.mem_cons.1 h).elim (fun e => e ▸ (.head _)) (fun h => (List.mem_append.1 h).elim (fun h => (.tail _ (List.mem_append_left _ h))) (fun h => (List.mem_cons.1 h).elim (fun e => e ▸ (.tail _ (List.mem_append_right _ (.head _)))) (fun h => (List.mem_append.1 h).elim (fun h => (.tail _ (List.mem_append_right _ (.tail _ (List.mem_append_left _ h))))) (fun h => (.tail _ (List.mem_append_right _ (.tail _ (List.mem_append_right _ (List.mem_append_right _ h))))))))))) (G.refl [] w2238)).tr t2301 g2296 (fun x hx => (nc (nbo (fun hb => D1888.dl (i := 1) rfl _ hb (List.mem_append_right _ (.tail _ (List.mem_append_right _ (.head _))))) hx) (na ((fun x hx hk => D1888.dl (i := 1) rfl x hx (List.mem_append_right _ (.tail _ (List.mem_append_right _ (.tail _ (List.mem_append_left _ hk)))))) x hx) (nc (nbo (fun hb => D1888.dl (i := 1) rfl _ hb (List.mem_append_right _ (.head _))) hx) (na ((fun x hx hk => D1888.dl (i := 1) rfl x hx (List.mem_append_right _ (.tail _ (List.mem_append_left _ hk)))) x hx) not_nil)))))).t0 g2433.t0 g2433).t0 g2488.t0 g2488
              have m2612 := ((m2274.g g2296 (nc (nmem (D1582.bl (i := 0) rfl) (.head _)).symm (na (fun hb => D1582.dl (i := 1) rfl _ hb (.head _)) (nc (D1651.bb (i := 0) (j := 2) rfl rfl rfl).symm (na (D1651.ob (i := 1) (j := 2) rfl rfl rfl) not_nil))))).g0 g2433).g0 g2488
              have m2613 := (m2290.g0 g2433).g0 g2488
              have m2614 := (m2292.g0 g2433).g0 g2488
              obtain ⟨t2615, ht2616, h⟩ := Option.bind_eq_some_iff.1 h
              refine lG rfl (yd p2607.z rfl rfl s2609) (oCall p2607.z Try.call11 (ag1 s2608) (c11 (oby1478 :: (ownB h2285 ++ (oby1614 :: (ownB h2286 ++ (oby221 :: (ownB h1880 ++ L)))))) w2487 t1869.2.2.2.2.2.1 oby144 h1879 (fun i h => cx2489.lt i ((List.mem_cons.1 h).elim (fun e => e ▸ (.tail _ (List.mem_append_right _ (.tail _ (List.mem_append_right _ (.head _)))))) (fun h => (List.mem_append.1 h).elim (fun h => (.tail _ (List.mem_append_right _ (.tail _ (List.mem_append_right _ (.tail _ (List.mem_append_left _ h))))))) (fun h => (List.mem_cons.1 h).elim (fun e => e ▸ (.head _)) (fun h => (List.mem_append.1 h).elim (fun h => (.tail _ (List.mem_append_left _ h))) (fun h => (List.mem_cons.1 h).elim (fun e => e ▸ (.tail _ (List.mem_append_right _ (.head _)))) (fun h => (List.mem_append.1 h).elim (fun h => (.tail _ (List.mem_append_right _ (.tail _ (List.mem_append_left _ h))))) (fun h => (.tail _ (List.mem_append_right _ (.tail _ (List.mem_append_right _ (.tail _ (List.mem_append_right _ h)))))))))))))) (sepC (show ∀ x ∈ [oby144], x ∉ (ownB h1879 ++ (oby1478 :: (ownB h2285 ++ (oby1614 :: (ownB h2286 ++ (oby221 :: (ownB h1880 ++ L))))))) from (in1 (na (D1888.bo (i := 0) (j := 1) rfl rfl rfl) (nc (D1582.bb (i := 0) (j := 2) rfl rfl rfl).symm (na (fun hb => D2294.dl (i := 1) rfl _ hb (.head _)) (nc (nmem (D1651.bl (i := 0) rfl) (.tail _ (List.mem_append_right _ (.head _)))).symm (na (fun hb => D2294.dl (i := 3) rfl _ hb (.head _)) (nc (D1426.bb (i := 0) (j := 2) rfl rfl rfl) (na (D1888.bo (i := 0) (j := 3) rfl rfl rfl) (fun h => Nat.lt_irrefl _ (Nat.lt_of_lt_of_le (hL _ h) (Nat.le_trans cx12.g.sz (f141 _ (List.mem_append_left _ (.head _))))))))))))))) (sepC (show ∀ x ∈ ownB h1879, x ∉ (oby1478 :: (ownB h2285 ++ (oby1614 :: (ownB h2286 ++ (oby221 :: (ownB h1880 ++ L)))))) from (fun x hx => (nc (nbo (fun hb => D1888.dl (i := 1) rfl _ hb (List.mem_append_right _ (.tail _ (List.mem_append_right _ (.head _))))) hx) (na ((djs (fun x hx hk => D2294.dl (i := 1) rfl x hx (.tail _ (List.mem_append_left _ hk)))) x hx) (nc (nbo (fun hb => D1888.dl (i := 1) rfl _ hb (List.mem_append_right _ (.head _))) hx) (na ((djs (fun x hx hk => D2294.dl (i := 3) rfl x hx (.tail _ (List.mem_append_left _ hk)))) x hx) (nc (nbo (D1888.ob (i := 1) (j := 2) rfl rfl rfl) hx) (na ((D1888.dj (i := 1) (j := 3) rfl rfl rfl) x hx) ((fun x hx hl => D1888.dl (i := 1) rfl x hx (List.mem_append_right _ (.tail _ (List.mem_append_right _ (.tail _ (List.mem_append_right _ hl)))))) x hx))))))))) sepN)) m2610 (q2611.sub (fun i h => (List.mem_cons.1 h).elim (fun e => e ▸ (.tail _ (List.mem_append_right _ (.tail _ (List.mem_append_right _ (.head _)))))) (fun h => (List.mem_append.1 h).elim (fun h => (.tail _ (List.mem_append_right _ (.tail _ (List.mem_append_right _ (.tail _ (List.mem_append_left _ h))))))) (fun h => (List.mem_cons.1 h).elim (fun e => e ▸ (.head _)) (fun h => (List.mem_append.1 h).elim (fun h => (.tail _ (List.mem_append_left _ h))) (fun h => (List.mem_cons.1 h).elim (fun e => e ▸ (.tail _ (List.mem_append_right _ (.head _)))) (fun h => (List.mem_append.1 h).elim (fun h => (.tail _ (List.mem_append_right _ (.tail _ (List.mem_append_left _ h))))) (fun h => (.tail _ (List.mem_append_right _ (.tail _ (List.mem_append_right _ (.tail _ (List.mem_append_right _ h)))))))))))))) _ ht2616) rfl fun v2620 a2617 w2618 hp2621 p2619 sp2619 => ?_)
              obtain ⟨rfl, g2624⟩ := hp2621
              have cx2625 := cx2489.ca g2624
              have s2626 := p2619.o s2609 rfl
              have s2627 := p2619.o (p2607.o (p2575.o (pg2572.o (p2533.o (pg2530.o (p2491.o (pg2485.o (p2436.o (pg2430.o (p2382.o (pg2379.o (p2350.o (p2347.o (p2343.o (p2339.o (p2335.o (p2331.o (p2327.o (p2323.o (p2319.o (p2315.o (p2311.o (p2307.o (p2304.o (p2279.o (p2260.o (p2256.o (p2252.o s2250 rfl) rfl) rfl) rfl) rfl) rfl) rfl) rfl) rfl) rfl) rfl) rfl) rfl) rfl) rfl) rfl) rfl) rfl) rfl) rfl) rfl) rfl) rfl) rfl) rfl) rfl) rfl) rfl) rfl
              refine s1g p2619.z (okMv s2627) rfl (yd p2619.z rfl rfl s2626) fun a2628 p2629 s2630 => ?_
              have s2631 := p2629.o s2626 rfl
              have m2632 := m2613.g0 g2624
              have q2633 := ((q2291.t0 g2433.t0 g2433).t0 g2488.t0 g2488).t0 g2624.t0 g2624
              have m2634 := m2610.g0 g2624
              have m2635 := m2612.g0 g2624
              have m2636 := m2614.g0 g2624
              obtain ⟨t2637, ht2638, h⟩ := Option.bind_eq_some_iff.1 h
              refine lG rfl (yd p2629.z rfl rfl s2631) (oCall p2629.z Try.call11 (ag1 s2630) (c11 (oby1614 :: (ownB h2286 ++ (oby144 :: (ownB h1879 ++ (oby221 :: (ownB h1880 ++ L)))))) w2618 t2275.2.2.2.2.2.1 oby1478 h2285 cx2625.lt (sepC (show ∀ x ∈ [oby1478], x ∉ (ownB h2285 ++ (oby1614 :: (ownB h2286 ++ (oby144 :: (ownB h1879 ++ (oby221 :: (ownB h1880 ++ L))))))) from (in1 (na (D2294.bo (i := 0) (j := 1) rfl rfl rfl) (nc (nmem (D1651.bl (i := 0) rfl) (.head _)).symm (na (D2294.bo (i := 0) (j := 3) rfl rfl rfl) (nc (D1582.bb (i := 0) (j := 2) rfl rfl rfl) (na (fun hb => D1888.dl (i := 1) rfl _ hb (List.mem_append_right _ (.tail _ (List.mem_append_right _ (.head _))))) (nc (nmem (D1582.bl (i := 0) rfl) (.head _)) (na (fun hb => D1888.dl (i := 3) rfl _ hb (List.mem_append_right _ (.tail _ (List.mem_append_right _ (.head _))))) (fun h => Nat.lt_irrefl _ (Nat.lt_of_lt_of_le (hL _ h) (Nat.le_trans cx1431.g.sz (f1476 _ (List.mem_append_left _ (.head _))))))))))))))) (sepC (show ∀ x ∈ ownB h2285, x ∉ (oby1614 :: (ownB h2286 ++ (oby144 :: (ownB h1879 ++ (oby221 :: (ownB h1880 ++ L)))))) from (fun x hx => (nc (nbo (D2294.ob (i := 1) (j := 2) rfl rfl rfl) hx) (na ((D2294.dj (i := 1) (j := 3) rfl rfl rfl) x hx) (nc (nbo (fun hb => D2294.dl (i := 1) rfl _ hb (.head _)) hx) (na ((fun x hx hk => D2294.dl (i := 1) rfl x hx (.tail _ (List.mem_append_left _ hk))) x hx) (nc (nbo (fun hb => D2294.dl (i := 1) rfl _ hb (.tail _ (List.mem_append_right _ (.head _)))) hx) (na ((fun x hx hk => D2294.dl (i := 1) rfl x hx (.tail _ (List.mem_append_right _ (.tail _ (List.mem_append_left _ hk))))) x hx) ((fun x hx hl => D2294.dl (i := 1) rfl x hx (.tail _ (List.mem_append_right _ (.tail _ (List.mem_append_right _ hl))))) x hx))))))))) sepN)) m2632 q2633 _ ht2638) rfl fun v2642 a2639 w2640 hp2643 p2641 sp2641 => ?_)
              obtain ⟨rfl, g2646⟩ := hp2643
              have cx2647 := cx2625.ca g2646
              have s2648 := p2641.o s2631 rfl
              have s2649 := p2641.o (p2629.o sp2619 rfl) rfl
              refine s1g p2641.z (okEq s2649 sp2641) rfl (yd p2641.z rfl rfl s2648) fun a2650 p2651 s2652 => ?_
              have s2653 := p2651.o s2648 rfl
              refine s1 p2651.z (okPickT s2653 s2652) rfl fun a2654 p2655 s2656 => ?_
              obtain rfl := Option.some.inj h
              exact rN ⟨rfl, (((((((Pg.refl p2575.z).st p2607 rfl).st p2619 rfl).st p2629 rfl).st p2641 rfl).st p2651 rfl).st p2655 rfl), s2656, (g2624.tr0 g2646)⟩
          rintro a2657 w2660 ⟨pg2658, s2659, g2661⟩
          have cx2662 := cx2489.ca g2661
          refine s1 pg2658.z (okAs s2659) rfl fun a2663 p2664 s2665 => ?_
          refine rN (thenN ?_)
          obtain rfl := Option.some.inj h
          exact wp_ret (ret1 p2664.z Try.results6 (rvT s2665) ⟨_, rfl, rfl, cx2662.g⟩)
end Go.Proofs.Ytjdalhedpgiimaa
